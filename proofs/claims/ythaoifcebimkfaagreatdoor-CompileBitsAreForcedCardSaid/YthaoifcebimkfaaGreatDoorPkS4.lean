/- Proofs. -/
import Derived.Test.YthaoifcebimkfaaGreatDoorPkS3
import Derived.Shelf.Spec.SlicesGrow
import Derived.WideKeyElems2
import Derived.LaidHandle
import Derived.Test.YthaoifcebimkfaaGreatDoorCards
import Derived.Test.YthaoifcebimkfaaGreatDoorTie
import Derived.LaidMore
import Derived.Deep.DeepWitnessRowRef
set_option linter.unusedSectionVars false
set_option linter.unusedSimpArgs false
set_option linter.unusedVariables false
namespace Go.Proofs.YthaoifcebimkfaaGreatDoor
open Go Go.AL

theorem zEu (v:Int):zx Tryz.prog .and 3 (.p (i64 v)) (.p (i64 3))=some (.p (i64 (v % 4))):=zaN Tryz.prog 3 v 2 (by omega)
structure MI (H' H:Hp) (q:Qry) (kd c k:Int) (L:List (List Cnd)):Prop where
 q:H'.f H.n=some (.cells [.p (i64 q.kind),.p (i64 q.col),.p (i64 q.k),.p (.sl false 1 (pl yH q.fl))])
 r:H'.f (H.n+1)=some (.cells [.p (i64 0),.p (i64 0),.p (i64 0),.p (.sl true 1 [])])
 m:H'.f (H.n+2)=some (.cells [.p (i64 kd),.p (i64 c),.p (i64 k),.sl (H.n+3) L.length 1 (pl yH L)])
 t:H'.f (H.n+3)=some (.tail L.length)
 n:H.n+4≤H'.n
 low : ∀ b,b < H.n → H'.f b=H.f b
 z:H'.z=H.z
section walks
variable {G:Globs}
set_option maxHeartbeats 8000000 in
set_option maxRecDepth 20000 in
theorem zi7 (c:Cnd) (H:Hp) (R:AV → Hp → Prop) (h : ∀ x,vC x=true → R (.p (cnd x)) H):ACall Tryz.prog G 108 [.p (cnd c)] H R:=by
 refine ACall.of_run (raw:=[]) Tryz.func108 rfl Tryz.ntmps108 (by simp) fun hbel => ?_
 have ht:=zio (c.col % 4).toNat
 obtain⟨m,hm⟩ : ∃ m:Nat,yC (c.col % 4).toNat=m:=⟨(yC (c.col % 4).toNat).toNat,by omega⟩
 refine .qt rfl ?_;simp (disch:=first|exact za|fail) only [go_sem,seval];refine .qt rfl ?_;simp (disch:=first|exact za|fail) only [go_sem,seval,zEu];refine .qt rfl ?_;simp (disch:=first|exact za|fail) only [go_sem,seval];refine CallK.of (fun R h=>zen (c.col % 4) (by omega) _ R h) ?_;simp (disch:=first|exact za|fail) only [go_sem,seval,hm];refine .q ?_;refine .open [] follows (by kernel_rfl) ?_;simp (disch:=first|exact za|fail) only [go_sem,seval]
 have hp:(0:Int) < (m:Int)+1:=by omega
 have a1:0≤c.lo % 65536 % ((m:Int)+1):=Int.emod_nonneg _ (by omega);have a2:c.lo % 65536 % ((m:Int)+1) < (m:Int)+1:=Int.emod_lt_of_pos _ hp;have b1:0≤c.hi % 65536 % ((m:Int)+1):=Int.emod_nonneg _ (by omega);have b2:c.hi % 65536 % ((m:Int)+1) < (m:Int)+1:=Int.emod_lt_of_pos _ hp
 generalize c.lo % 65536 % ((m:Int)+1)=u at *
 generalize c.hi % 65536 % ((m:Int)+1)=v at *
 refine .qt rfl ?_;simp (disch:=first|exact za|fail) only [go_sem,seval];refine .qt rfl ?_;simp (disch:=first|exact za|fail) only [go_sem,seval];refine .qt rfl ?_;simp (disch:=first|exact za|fail) only [go_sem,seval];refine .qr rfl Tryz.func108 (by rw [Tryz.results108]) ?_;simp (disch:=first|exact za|fail) only [go_sem,seval];refine h ⟨c.col % 4,min u v,max u v⟩ ?_;simp only [vC,decide_eq_true_eq];rw [hm];omega
theorem zi8 (c:Cnd) (H:Hp):ACall Tryz.prog G 108 [.p (cnd c)] H (fun r H'=>(∃ x,vC x=true∧r = .p (cnd x))∧H'=H):=zi7 c H _ fun x hx=>⟨⟨x,hx,rfl⟩,rfl⟩
set_option maxHeartbeats 16000000 in
set_option maxRecDepth 20000 in
theorem zod (q:Qry) (hl:q.fl.length≤9223372036854775807) (H:Hp) (R:AV → Hp → Prop) (h : ∀ p,vQ p=true → R (.p (qry p)) H):ACall Tryz.prog G 50 [.p (qry q)] H R:=by
 refine ACall.of_run (raw:=[]) Tryz.func50 rfl Tryz.ntmps50 (by simp) fun hbel => ?_
 obtain⟨kd,hkd⟩ : ∃ kd:Int,kd=1+q.kind % 256 % 7:=⟨_,rfl⟩
 have hk7:1≤kd∧kd≤7:=by omega
 have hki:okI kd:=by unfold okI;omega
 have hak:zh (zu [AV.p (i64 kd),AV.p (i64 0),AV.p (i64 0),AV.p (PV.sl true 1 [])])=some [AV.p (i64 kd),AV.p (i64 0),AV.p (i64 0),AV.p (PV.sl true 1 [])]:=rfl
 have hm:yt kd=0 ∨ yt kd=6 ∨ yt kd=65536:=by unfold yt;split;omega;split<;>omega
 refine .qt rfl ?_;simp (disch:=first|exact za|fail) only [go_sem,seval];refine .qt rfl ?_;simp (disch:=first|exact za|fail) only [go_sem,seval,←hkd,hak]
 have hq0 : ∀ x,(((H.new (.cells [.p (i64 q.kind),.p (i64 q.col),.p (i64 q.k),.p (.sl false 1 (pl yH q.fl))])).new (.cells [.p (i64 0),.p (i64 0),.p (i64 0),.p (.sl true 1 [])])).new x).f H.n=some (.cells [.p (i64 q.kind),.p (i64 q.col),.p (i64 q.k),.p (.sl false 1 (pl yH q.fl))]):=fun x=>by simp (disch:=first|exact za|fail) only [go_sem,seval]
 refine .q ?_;refine .cut2 (fun env2 H2 => ∃ c:Int,env2 1 = .ptr H.n 0∧env2 2 = .ptr (H.n+1) 0∧env2 3 = .ptr (H.n+2) 0∧(0≤c∧c < 4∧(zbZ kd=false → c=0))∧H2=((H.new (.cells [.p (i64 q.kind),.p (i64 q.col),.p (i64 q.k),.p (.sl false 1 (pl yH q.fl))])).new (.cells [.p (i64 0),.p (i64 0),.p (i64 0),.p (.sl true 1 [])])).new (.cells [.p (i64 kd),.p (i64 c),.p (i64 0),.p (.sl true 1 [])])) (fun ih => ?_) ?_
 · refine .qt rfl ?_;simp (disch:=first|exact za|fail) only [go_sem,seval];refine CallK.of (fun R h=>zdp kd hki _ R h) ?_;simp (disch:=first|exact za|fail) only [go_sem,seval]
   cases hC:zbZ kd with
   | true =>
    refine .q ?_;refine .ifT (by simp (disch:=first|exact za|fail) only [go_sem,seval,hC]) ?_;refine .qt rfl ?_;simp (disch:=first|exact za|fail) only [go_sem,seval,zEu];refine ih _ _ ⟨q.col % 4,?_,?_,?_,⟨by omega,by omega,fun e=>by rw [hC] at e;cases e⟩,?_⟩<;>simp (disch:=first|exact za|fail) only [go_sem,seval]
   | false =>
    refine .q ?_;refine .ifF (by simp (disch:=first|exact za|fail) only [go_sem,seval,hC]) ?_;refine .skip ?_;refine ih _ _ ⟨0,?_,?_,?_,⟨by omega,by omega,fun _=>rfl⟩,?_⟩<;>simp (disch:=first|exact za|fail) only [go_sem,seval]
 rintro env H2 ⟨c,e1,e2,e3,⟨c1,c2,c3⟩,rfl⟩
 refine .q ?_;refine .cut2 (fun env2 H2 => ∃ k:Int,env2 1 = .ptr H.n 0∧env2 2 = .ptr (H.n+1) 0∧env2 3 = .ptr (H.n+2) 0∧(min (yt kd) 1≤k∧k≤yt kd)∧H2=((H.new (.cells [.p (i64 q.kind),.p (i64 q.col),.p (i64 q.k),.p (.sl false 1 (pl yH q.fl))])).new (.cells [.p (i64 0),.p (i64 0),.p (i64 0),.p (.sl true 1 [])])).new (.cells [.p (i64 kd),.p (i64 c),.p (i64 k),.p (.sl true 1 [])])) (fun ih => ?_) ?_
 · refine .qt rfl ?_;simp (disch:=first|exact za|fail) only [go_sem,seval,e3];refine CallK.of (fun R h=>yU kd hki _ R h) ?_;simp (disch:=first|exact za|fail) only [go_sem,seval]
   rcases hm with hm0 | hm0
   · refine .q ?_;refine .ifF (by simp (disch:=first|exact za|fail) only [go_sem,seval,hm0]) ?_;refine .skip ?_;refine ih _ _ ⟨0,?_,?_,?_,by omega,?_⟩<;>simp (disch:=first|exact za|fail) only [go_sem,seval,e1,e2,e3]
   · have hp:0 < yt kd:=by omega
     have a1:0≤q.k % 65536 % yt kd:=Int.emod_nonneg _ (by omega);have a2:q.k % 65536 % yt kd < yt kd:=Int.emod_lt_of_pos _ hp;refine .qT rfl ?_;refine .q ?_;refine .open [9] follows (by kernel_rfl) ?_;simp (disch:=first|exact za|fail) only [go_sem,seval,e1,e3];refine CallD.still (fun R h=>yU kd hki _ R h) ?_;simp (disch:=first|exact za|fail) only [go_sem,seval,e1,e3];refine ih _ _ ⟨1+q.k % 65536 % yt kd,?_,?_,?_,by omega,?_⟩<;>simp (disch:=first|exact za|fail) only [go_sem,seval,e1,e2,e3]
 rintro env H2 ⟨k,e1,e2,e3,hk,rfl⟩
 refine .qt rfl ?_;simp (disch:=first|exact za|fail) only [go_sem,seval]
 generalize hFk:(if kd=7 then 2 else 1)=F
 have hF:kd=7∧F=2 ∨ kd≠7∧F=1:=by rw [←hFk];split;exact .inl ⟨by assumption,rfl⟩;exact .inr ⟨by assumption,rfl⟩
 refine .q ?_;refine .cut2 (fun env2 H2=>env2 1 = .ptr H.n 0∧env2 2 = .ptr (H.n+1) 0∧env2 3 = .ptr (H.n+2) 0∧env2 4 = .p (i64 (F:Nat))∧H2=((H.new (.cells [.p (i64 q.kind),.p (i64 q.col),.p (i64 q.k),.p (.sl false 1 (pl yH q.fl))])).new (.cells [.p (i64 0),.p (i64 0),.p (i64 0),.p (.sl true 1 [])])).new (.cells [.p (i64 kd),.p (i64 c),.p (i64 k),.p (.sl true 1 [])])) (fun ih => ?_) ?_
 · rcases hF with ⟨f1,rfl⟩ | ⟨f1,rfl⟩
   · refine .qt rfl ?_;simp (disch:=first|exact za|fail) only [go_sem,seval,e3];refine .qT rfl ?_;refine .qt rfl ?_;simp (disch:=first|exact za|fail) only [go_sem,seval];refine ih _ _ ⟨?_,?_,?_,?_,rfl⟩<;>simp (disch:=first|exact za|fail) only [go_sem,seval,e1,e2,e3]
   · refine .qt rfl ?_;simp (disch:=first|exact za|fail) only [go_sem,seval,e3];refine .qF rfl ?_;refine .skip ?_;refine ih _ _ ⟨?_,?_,?_,?_,rfl⟩<;>simp (disch:=first|exact za|fail) only [go_sem,seval,e1,e2,e3]
 rintro env H2 ⟨e1,e2,e3,e4,rfl⟩
 refine .q ?_;refine .ownC (H.n+2) 3 (by simp (disch:=first|exact za|fail) only [go_sem,seval];rfl) (by rfl) ?_;simp (disch:=first|exact za|fail) only [go_sem,seval,List.set_cons_zero,List.set_cons_succ];refine .qt rfl ?_;simp (disch:=first|exact za|fail) only [go_sem,seval]
 obtain⟨K,hK⟩ : ∃ K,K=(((H.new (.cells [.p (i64 q.kind),.p (i64 q.col),.p (i64 q.k),.p (.sl false 1 (pl yH q.fl))])).new (.cells [.p (i64 0),.p (i64 0),.p (i64 0),.p (.sl true 1 [])])).new (.cells [.p (i64 kd),.p (i64 c),.p (i64 k),.sl (H.n+3) 0 1 []])).new (.tail 0):=⟨_,rfl⟩
 have hM0:MI K H q kd c k []:=by
  rw [hK]
  refine⟨?_,?_,?_,?_,?_,fun b hb => ?_,rfl⟩
  · simp (disch:=first|exact za|fail) only [go_sem,seval]
  · simp (disch:=first|exact za|fail) only [go_sem,seval]
  · simp (disch:=first|exact za|fail) only [go_sem,seval,zfT]
  · simp (disch:=first|exact za|fail) only [go_sem,seval]
  · simp only [n_new'];omega
  · simp (disch:=first|exact za|fail) only [go_sem,seval]
 rw [←hK]
 clear hK
 have hF2:F≤2:=by omega
 refine .q ?_;refine .count (fun i env H'=>env 1 = .ptr H.n 0∧env 2 = .ptr (H.n+1) 0∧env 3 = .ptr (H.n+2) 0∧env 4 = .p (i64 (F:Nat))∧env 5 = .p (i64 i) ∧ ∃ L,L.length=i∧L.all vF=true∧MI H' H q kd c k L) 0 F (by omega) ?_ ?_ ?_
 · refine⟨?_,?_,?_,?_,?_,[],rfl,rfl,hM0⟩<;>simp (disch:=first|exact za|fail) only [go_sem,seval,e1,e2,e3,e4]
 · rintro env H' ⟨e1,e2,e3,e4,e5,L,hLl,hLv,hM⟩
   refine .qt rfl ?_;simp (disch:=first|exact za|fail) only [go_sem,seval,e4,e5];refine .qF rfl ?_;have hn:=hM.n;have hak2:zh (zu [AV.p (i64 kd),AV.p (i64 c),AV.p (i64 k),.sl (H.n+3) F 1 (pl yH L)])=some [AV.p (i64 kd),AV.p (i64 c),AV.p (i64 k),.p (.sl false 1 (pl yH L))]:=rfl;have hm2:=hM.m;rw [hLl] at hm2
   have hvp:vQ ⟨kd,c,k,L⟩=true:=by
    simp only [vQ,Bool.and_eq_true,decide_eq_true_eq,Bool.or_eq_true]
    refine⟨hk7,⟨c1,c2⟩,?_,hk,?_,hLv⟩
    · cases hC:zbZ kd with
      | true=>exact .inl rfl
      | false=>exact .inr (c3 hC)
    · rw [hLl]
      rcases hF with ⟨f1,f2⟩ | ⟨f1,f2⟩
      · rw [if_pos f1];exact f2
      · rw [if_neg f1];exact f2
   have hfin:=h ⟨kd,c,k,L⟩ hvp
   have htr:H'.trunc H.n=H:=by
    refine Hp.ext (fun b => ?_) rfl hM.z;rw [Hp.f_trunc]
    split
    · exact hM.low b (by assumption)
    · exact (H.wf b (by omega)).symm
   have hbel:Bel H.n H':=fun b x hb hx=>hbel b x hb (by rw [←hM.low b hb];exact hx)
   refine .qt rfl ?_;simp (disch:=first|exact za|fail) only [go_sem,seval,e2,e3,hm2,hM.r,hak2];refine .qr rfl Tryz.func50 (by rw [Tryz.results50]) (hx:=by simp (disch:=first|exact za|fail) only [go_sem,seval,e2];rfl) ?_;simp (disch:=first|exact za|fail) only [go_sem,seval,e2];rw [htr];exact hfin
 · rintro i env H' hi0 hi ⟨e1,e2,e3,e4,e5,L,hLl,hLv,hM⟩ ihO
   have hn:=hM.n
   obtain⟨mm,hmm⟩ : ∃ mm,mm=if i < q.fl.length then min 3 (nth q.fl i).length else 0:=⟨_,rfl⟩
   have hm1:mm≤3:=by rw [hmm];split<;>omega
   refine .qt rfl ?_;simp (disch:=first|exact za|fail) only [go_sem,seval,e4,e5];refine .qT rfl ?_;refine .qt rfl ?_;simp (disch:=first|exact za|fail) only [go_sem,seval];refine .q ?_;refine .own 6 (by simp (disch:=first|exact za|fail) only [go_sem,seval];rfl) ?_;refine .qt rfl ?_;simp (disch:=first|exact za|fail) only [go_sem,seval];refine .q ?_;refine .count (fun j env W=>env 1 = .ptr H.n 0∧env 2 = .ptr (H.n+1) 0∧env 3 = .ptr (H.n+2) 0∧env 4 = .p (i64 (F:Nat))∧env 5 = .p (i64 i)∧env 7 = .p (i64 j) ∧ ∃ M:List Cnd,M.length=j∧M.all vC=true∧env 6 = .sl H'.n j 3 (pl cnd M)∧W=H'.new (.tail j)) 0 mm (by omega) ?_ ?_ ?_
   · refine⟨?_,?_,?_,?_,?_,?_,[],rfl,rfl,?_,rfl⟩<;>simp (disch:=first|exact za|fail) only [go_sem,seval,e1,e2,e3,e4,e5,zfT]
   · rintro env W ⟨e1,e2,e3,e4,e5,e7,M,hMl,hMv,e6,rfl⟩
     have hq1:(H'.new (.tail mm)).f H.n=some (.cells [.p (i64 q.kind),.p (i64 q.col),.p (i64 q.k),.p (.sl false 1 (pl yH q.fl))]):=by rw [zb (by omega)];exact hM.q
     have hmx:(H'.new (.tail mm)).f (H.n+2)=some (.cells [.p (i64 kd),.p (i64 c),.p (i64 k),.sl (H.n+3) L.length 1 (pl yH L)]):=by rw [zb (by omega)];exact hM.m
     have htx:(H'.new (.tail mm)).f (H.n+3)=some (.tail L.length):=by rw [zb (by omega)];exact hM.t
     have hap:pl yH L++[.sl false 3 (pl cnd M)]=pl yH (L++[M]):=by rw [←yn];rfl
     have hvF:vF M=true:=by simp only [vF,Bool.and_eq_true,decide_eq_true_eq];exact⟨by omega,hMv⟩
     have hM2:MI (((H'.new (.tail mm)).set (H.n+3) (.tail (L.length+1))).set (H.n+2) (.cells [.p (i64 kd),.p (i64 c),.p (i64 k),.sl (H.n+3) (L.length+1) 1 (pl yH (L++[M]))])) H q kd c k (L++[M]):=by
      refine⟨?_,?_,?_,?_,?_,fun b hb => ?_,hM.z⟩
      · rw [f_set_ne' (by omega),f_set_ne' (by omega)];exact hq1
      · rw [f_set_ne' (by omega),f_set_ne' (by omega),zb (by omega)];exact hM.r
      · rw [zy rfl (by rw [n_set',n_new'];omega)];simp
      · rw [f_set_ne' (by omega),zy rfl (by rw [n_new'];omega)];simp
      · rw [n_set',n_set',n_new'];omega
      · rw [f_set_ne' (by omega),f_set_ne' (by omega),zb (by omega)];exact hM.low b hb
     rw [hLl] at hM2
     generalize H'.new (.tail mm)=W at *
     rcases Classical.em (i < q.fl.length) with a1 | a1
     · rw [if_pos a1] at hmm
       rcases Classical.em (mm < (nth q.fl i).length) with a2 | a2
       · have a3:mm=3:=by omega
         refine .qt rfl ?_;simp (disch:=first|exact za|fail) only [go_sem,seval,e5,e7,e1,hq1,zH];refine .qF rfl ?_;refine .qt rfl ?_;simp (disch:=first|exact za|fail) only [go_sem,seval,e3,e6,hmx,htx,hap,hLl];refine .qt rfl ?_;simp (disch:=first|exact za|fail) only [go_sem,seval,e5];refine ihO _ _ ⟨?_,?_,?_,?_,?_,L++[M],by simp [hLl],by rw [List.all_append,hLv];simp [hvF],hM2⟩<;>simp (disch:=first|exact za|fail) only [go_sem,seval,e1,e2,e3,e4]
       · refine .qt rfl ?_;simp (disch:=first|exact za|fail) only [go_sem,seval,e5,e7,e1,hq1,zH];refine .qF rfl ?_;refine .qt rfl ?_;simp (disch:=first|exact za|fail) only [go_sem,seval,e3,e6,hmx,htx,hap,hLl];refine .qt rfl ?_;simp (disch:=first|exact za|fail) only [go_sem,seval,e5];refine ihO _ _ ⟨?_,?_,?_,?_,?_,L++[M],by simp [hLl],by rw [List.all_append,hLv];simp [hvF],hM2⟩<;>simp (disch:=first|exact za|fail) only [go_sem,seval,e1,e2,e3,e4]
     · refine .qt rfl ?_;simp (disch:=first|exact za|fail) only [go_sem,seval,e5,e7,e1,hq1,zH];refine .qF rfl ?_;refine .qt rfl ?_;simp (disch:=first|exact za|fail) only [go_sem,seval,e3,e6,hmx,htx,hap,hLl];refine .qt rfl ?_;simp (disch:=first|exact za|fail) only [go_sem,seval,e5];refine ihO _ _ ⟨?_,?_,?_,?_,?_,L++[M],by simp [hLl],by rw [List.all_append,hLv];simp [hvF],hM2⟩<;>simp (disch:=first|exact za|fail) only [go_sem,seval,e1,e2,e3,e4]
   · rintro j env W hj0 hj ⟨e1,e2,e3,e4,e5,e7,M,hMl,hMv,e6,rfl⟩ ihI
     have a1:i < q.fl.length:=by
      refine Decidable.byContradiction fun e => ?_
      rw [if_neg e] at hmm;omega
     rw [if_pos a1] at hmm
     have a2:j < (nth q.fl i).length:=by omega
     have a3:j < 3:=by omega
     have hq1:(H'.new (.tail j)).f H.n=some (.cells [.p (i64 q.kind),.p (i64 q.col),.p (i64 q.k),.p (.sl false 1 (pl yH q.fl))]):=by rw [zb (by omega)];exact hM.q
     refine .qt rfl ?_;simp (disch:=first|exact za|fail) only [go_sem,seval,e5,e7,e1,hq1,zH];refine .qT rfl ?_;refine .qt rfl ?_;simp (disch:=first|exact za|fail) only [go_sem,seval,e5,e6,e7,e1,hq1,zH];refine CallK.ex (zi8 _ _) ?_
     rintro _ _ ⟨⟨x,hx,rfl⟩,rfl⟩
     have hap:pl cnd M++[cnd x]=pl cnd (M++[x]):=by rw [←yn];rfl
     simp (disch:=first|exact za|fail) only [go_sem,seval,hap,hMl];refine .qt rfl ?_;simp (disch:=first|exact za|fail) only [go_sem,seval,e7];refine ihI _ _ ⟨?_,?_,?_,?_,?_,?_,M++[x],by simp [hMl],by rw [List.all_append,hMv];simp [hx],?_,?_⟩<;>simp (disch:=first|exact za|fail) only [go_sem,seval,e1,e2,e3,e4,e5]
end walks
end Go.Proofs.YthaoifcebimkfaaGreatDoor

namespace Go.Proofs.YthaoifcebimkfaaGreatDoor
open Go Go.AL

section walks
variable {G:Globs}
theorem zoe (q:Qry) (hl:q.fl.length≤9223372036854775807) (H:Hp):ACall Tryz.prog G 50 [.p (qry q)] H (fun r H'=>(∃ p,vQ p=true∧r = .p (qry p))∧H'=H):=zod q hl H _ fun p hp=>⟨⟨p,hp,rfl⟩,rfl⟩
set_option maxHeartbeats 16000000 in
set_option maxRecDepth 20000 in
theorem zof (q:Qry) (hl:q.fl.length≤9223372036854775807) (H:Hp) (R:AV → Hp → Prop) (h : ∀ p,vQ p=true → ya p=0 → R (.p (qry p)) H):ACall Tryz.prog G 13 [.p (qry q)] H R:=by
 refine ACall.of_run (raw:=[]) Tryz.func13 rfl Tryz.ntmps13 (by simp) fun hbel => ?_
 refine .qt rfl ?_;simp (disch:=first|exact za|fail) only [go_sem,seval];refine .qt rfl ?_;simp (disch:=first|exact za|fail) only [go_sem,seval];refine CallK.ex (zoe q hl _) ?_
 rintro _ _ ⟨⟨p,hp,rfl⟩,rfl⟩
 obtain⟨hk7,hcol,hcK,hK,hlf,hall⟩:(1≤p.kind∧p.kind≤7)∧(0≤p.col∧p.col < 4)∧(zbZ p.kind || decide (p.col=0))=true∧(min (yt p.kind) 1≤p.k∧p.k≤yt p.kind)∧(p.fl.length=if p.kind=7 then 2 else 1)∧p.fl.all vF=true:=by
  have hq:=hp;simp only [vQ,Bool.and_eq_true,decide_eq_true_eq] at hq;exact⟨hq.1,hq.2.1,hq.2.2.1,hq.2.2.2.1,hq.2.2.2.2.1,hq.2.2.2.2.2⟩
 simp (disch:=first|exact za|fail) only [go_sem,seval]
 obtain⟨X,hX⟩ : ∃ X,X=(H.new (.cells [.p (i64 q.kind),.p (i64 q.col),.p (i64 q.k),.p (.sl false 1 (pl yH q.fl))])).new (.cells [.p (i64 0),.p (i64 0),.p (i64 0),.p (.sl true 1 [])]):=⟨_,rfl⟩
 have hXn:X.n=H.n+2:=by rw [hX,n_new',n_new']
 refine .q ?_;refine .cut2 (fun env2 H2 => ∃ c:Int,env2 2 = .ptr (H.n+1) 0∧env2 3 = .ptr (H.n+2) 0∧(0≤c∧c < 4∧(zbZ p.kind || decide (c=0))=true∧(4≤p.kind∧p.kind≤6 → ¬ (c=1 ∨ c=3)))∧H2=X.new (.cells [.p (i64 p.kind),.p (i64 c),.p (i64 p.k),.p (.sl false 1 (pl yH p.fl))])) (fun ih => ?_) ?_
 · rw [←hX]
   rcases Classical.em (4≤p.kind∧p.kind≤6) with k1 | k1
   · have hC:zbZ p.kind=true:=by simp [zbZ];omega
     have h3:p.kind=4 ∨ p.kind=5 ∨ p.kind=6:=by omega
     rcases h3 with e | e | e
     · refine .qt rfl ?_;simp (disch:=first|exact za|fail) only [go_sem,seval,e];refine .qT rfl ?_;refine .qt rfl ?_;simp (disch:=first|exact za|fail) only [go_sem,seval];refine ih _ _ ⟨2*(p.col % 2),?_,?_,⟨by omega,by omega,by rw [hC];rfl,fun _=>by omega⟩,?_⟩<;>simp (disch:=first|exact za|fail) only [go_sem,seval,e]
     · refine .qt rfl ?_;simp (disch:=first|exact za|fail) only [go_sem,seval,e];refine .qT rfl ?_;refine .qt rfl ?_;simp (disch:=first|exact za|fail) only [go_sem,seval];refine ih _ _ ⟨2*(p.col % 2),?_,?_,⟨by omega,by omega,by rw [hC];rfl,fun _=>by omega⟩,?_⟩<;>simp (disch:=first|exact za|fail) only [go_sem,seval,e]
     · refine .qt rfl ?_;simp (disch:=first|exact za|fail) only [go_sem,seval,e];refine .qT rfl ?_;refine .qt rfl ?_;simp (disch:=first|exact za|fail) only [go_sem,seval];refine ih _ _ ⟨2*(p.col % 2),?_,?_,⟨by omega,by omega,by rw [hC];rfl,fun _=>by omega⟩,?_⟩<;>simp (disch:=first|exact za|fail) only [go_sem,seval,e]
   · have n4 : ¬ p.kind=4:=by omega
     have n5 : ¬ p.kind=5:=by omega
     have n6 : ¬ p.kind=6:=by omega
     refine .qt rfl ?_;simp (disch:=first|exact za|fail) only [go_sem,seval];refine .qF rfl ?_;refine .skip ?_;refine ih _ _ ⟨p.col,?_,?_,⟨by omega,by omega,hcK,fun e=>absurd e k1⟩,?_⟩<;>simp (disch:=first|exact za|fail) only [go_sem,seval]
 rintro env H2 ⟨c,e2,e3,⟨c1,c2,c3,c4⟩,rfl⟩
 have hX1:X.f (H.n+1)=some (.cells [.p (i64 0),.p (i64 0),.p (i64 0),.p (.sl true 1 [])]):=by rw [hX];simp (disch:=first|exact za|fail) only [go_sem,seval]
 have hXl : ∀ b,b < H.n → X.f b=H.f b:=fun b hb=>by rw [hX];simp (disch:=first|exact za|fail) only [go_sem,seval]
 have hXz:X.z=H.z:=by rw [hX];rfl
 have htr:X.trunc H.n=H:=by rw [hX];simp (disch:=first|exact za|fail) only [go_sem,seval]
 have hXb:Bel H.n X:=by
  rw [hX]
  repeat (first | with_reducible refine zaM ?_ za | with_reducible refine za8 ?_ za | with_reducible exact hbel)
 clear hX
 refine .q ?_;refine .cut2 (fun env2 H2 => ∃ k:Int,env2 2 = .ptr (H.n+1) 0∧env2 3 = .ptr (H.n+2) 0∧(min (yt p.kind) 1≤k∧k≤yt p.kind)∧H2=X.new (.cells [.p (i64 p.kind),.p (i64 c),.p (i64 k),.p (.sl false 1 (pl yH p.fl))])) (fun ih => ?_) ?_
 · have hXe : ∀ x,(X.new x).f (H.n+2)=some x:=fun x=>zk hXn.symm
   rcases Classical.em (p.kind=6) with e | e
   · have hm6:yt p.kind=65536:=by rw [e];rfl
     refine .qt rfl ?_;simp (disch:=first|exact za|fail) only [go_sem,seval,e3,hXe,e];refine .qT rfl ?_;refine .qt rfl ?_;simp (disch:=first|exact za|fail) only [go_sem,seval,e3,hXe];rw [hm6] at ih hK;refine ih _ _ ⟨1+p.k % 12,?_,?_,by omega,?_⟩
     · simp (disch:=first|exact za|fail) only [go_sem,seval,e2]
     · simp (disch:=first|exact za|fail) only [go_sem,seval,e3]
     · rw [e]
   · refine .qt rfl ?_;simp (disch:=first|exact za|fail) only [go_sem,seval,e3,hXe];refine .qF rfl ?_;refine .skip ?_;refine ih _ _ ⟨p.k,?_,?_,hK,rfl⟩<;>simp (disch:=first|exact za|fail) only [go_sem,seval,e2,e3]
 rintro env H2 ⟨k,e2,e3,hk,rfl⟩
 have hXe : ∀ x,(X.new x).f (H.n+2)=some x:=fun x=>zk hXn.symm
 have hvp:vQ ⟨p.kind,c,k,p.fl⟩=true:=by
  simp only [vQ,Bool.and_eq_true,decide_eq_true_eq]
  exact⟨hk7,⟨c1,c2⟩,c3,hk,hlf,hall⟩
 have hep:ya ⟨p.kind,c,k,p.fl⟩=0:=by
  unfold ya;rw [hvp,if_pos rfl]
  exact if_neg fun e=>c4 ⟨e.1,e.2.1⟩ e.2.2
 have hfin:=h _ hvp hep;refine .qt rfl ?_;simp (disch:=first|exact za|fail) only [go_sem,seval,e3,hXe];refine CallK.ex (zoc 64 (by decide) ⟨p.kind,c,k,p.fl⟩ (by unfold okI;simp only;omega) _) ?_
 rintro _ _ ⟨⟨x,rfl⟩,rfl⟩
 rw [hep];simp (disch:=first|exact za|fail) only [go_sem,seval];refine .qt rfl ?_;simp (disch:=first|exact za|fail) only [go_sem,seval];refine .qF rfl ?_;refine .skip ?_;have hak:zh (zu [AV.p (i64 p.kind),AV.p (i64 c),AV.p (i64 k),AV.p (PV.sl false 1 (pl yH p.fl))])=some [AV.p (i64 p.kind),AV.p (i64 c),AV.p (i64 k),AV.p (PV.sl false 1 (pl yH p.fl))]:=rfl;refine .qt rfl ?_;simp (disch:=first|exact za|fail) only [go_sem,seval,e2,e3,hXe,hX1,hak];have hbel:=hXb;refine .qr rfl Tryz.func13 (by rw [Tryz.results13]) (hx:=by simp (disch:=first|exact za|fail) only [go_sem,seval,e2];rfl) ?_;simp (disch:=first|exact za|fail) only [go_sem,seval,e2];rw [htr];exact hfin
end walks
end Go.Proofs.YthaoifcebimkfaaGreatDoor

namespace Go.Proofs.YthaoifcebimkfaaGreatDoor
open Go Go.AL

structure Rdg where
 who:Int
 whn:Int
 knd:Int
 val:Int
 deriving DecidableEq
instance:Inhabited Rdg:=⟨⟨0,0,0,0⟩⟩
structure Strm where
 l:List Rdg
 gone:List Bool
 deriving DecidableEq
def vR (r:Rdg):Prop:=(0≤r.who∧r.who < 16)∧(0≤r.whn∧r.whn < 256)∧(0≤r.knd∧r.knd < 16)∧(0≤r.val∧r.val < 256)
instance {r:Rdg}:Decidable (vR r):=by unfold vR;infer_instance
def fR (r:Rdg):Nat → Int
 | 0=>r.who
 | 1=>r.whn
 | 2=>r.knd
 | _=>r.val
def rdL (r:Rdg):List PV:=[i64 r.who,i64 r.whn,i64 r.knd,i64 r.val]
def rdg (r:Rdg):PV := .agg (rdL r)
def stm (s:Strm):PV := .agg [.sl false 4 (pl rdg s.l),.sl false 1 (pl bo s.gone)]
section rd
variable {r:Rdg} {l:List Rdg}
theorem zFO:zh (.p (rdg r))=some [.p (i64 r.who),.p (i64 r.whn),.p (i64 r.knd),.p (i64 r.val)]:=rfl
theorem zwW:(rdg r).cells=[i64 r.who,i64 r.whn,i64 r.knd,i64 r.val]:=rfl
theorem zwX:(rdg r).isAgg=true:=rfl
theorem zrG:(AV.p (rdg r)).isAggV=true:=rfl
theorem zBJ:(rdg r).weak=rdg r:=rfl
theorem zwY:(rdg r).weak1=rdg r:=rfl
theorem zwZ:(rdg r).aggOf 0 4=rdg r:=rfl
theorem zD2:(⟨r.who,r.whn,r.knd,r.val⟩:Rdg)=r:=rfl
theorem zrH:[rdg r]=pl rdg [r]:=rfl
theorem zrI:((pl rdg [r]).all fun y=>y.cells.length == 4)=true:=rfl
theorem zgv:(pl rdg l).map PV.weak=pl rdg l:=zsf fun _=>rfl
theorem zw0 {b:Bool}:[bo b]=pl bo [b]:=rfl
theorem zw1 {b:Bool}:((pl bo [b]).all fun y=>y.cells.length == 1)=true:=rfl
theorem zFP {s:Strm}:zh (.p (stm s))=some [.p (.sl false 4 (pl rdg s.l)),.p (.sl false 1 (pl bo s.gone))]:=rfl
theorem zFQ {α n β m:Nat} {l:List Rdg} {g:List Bool}:zu [.sl α n 4 (pl rdg l),.sl β m 1 (pl bo g)] = .p (stm ⟨l,g⟩):=rfl
theorem zD3 {α n:Nat} {l:List Rdg} {g:List Bool}:zu [.sl α n 4 (pl rdg l),.p (.sl false 1 (pl bo g))] = .p (stm ⟨l,g⟩):=rfl
theorem zFR {a b c d:Int}:cfP ⟨a,b,c,d⟩=rdg ⟨a,b,c,d⟩:=rfl
theorem zrJ {x y:PV}:zu [.p x,.p y] = .p (.agg [x,y]):=rfl
theorem zFS {x y:PV}:zh (.p (.agg [x,y]))=some [.p x,.p y]:=rfl
end rd
attribute [go_sem] zFR zrJ zFS zFO zwW zwX zrG zBJ zwY zwZ zD2 zgv zFP zFQ
def z0S:Strm:=⟨[],[]⟩
def zi9 (s:Strm) (i:Int):Strm × Int :=
 if i < 0 ∨ (s.l.length:Int)≤i then (z0S,4) else if nth s.gone i.toNat then (z0S,120) else (⟨s.l,s.gone.set i.toNat true⟩,0)
def rd3 (a b c:BitVec 8):Rdg:=⟨((a % 16#8).toNat:Nat),(b.toNat:Nat),((a / 16#8).toNat:Nat),(c.toNat:Nat)⟩
theorem zEv {a b c:BitVec 8}:vR (rd3 a b c):=by
 have h1:=(a % 16#8).isLt;have h2:=b.isLt;have h3:=c.isLt;have h4:=a.isLt
 have e1:(a % 16#8).toNat=a.toNat % 16:=by rw [BitVec.toNat_umod];rfl
 have e2:(a / 16#8).toNat=a.toNat / 16:=by rw [BitVec.toNat_udiv];rfl
 unfold vR rd3;dsimp only;rw [e1,e2];omega
def vB (r:Rdg):Bool:=decide ((0:Int)≤r.who) && (decide (r.who < 16) && (decide ((0:Int)≤r.knd) && (decide (r.knd < 16) && (decide ((0:Int)≤r.whn) && (decide (r.whn < 256) && (decide ((0:Int)≤r.val) && (decide (r.val < 256))))))))
theorem zFT {r:Rdg}:vB r=true ↔ vR r:=by
 simp only [vB,vR,Bool.and_eq_true,decide_eq_true_eq];omega
section walks
variable {G:Globs}
set_option maxHeartbeats 2000000 in
theorem zlt (r:Rdg) (H:Hp) (R:AV → Hp → Prop) (h:R (.p (bo (vB r))) H):ACall Tryz.prog G 109 [.p (rdg r)] H R:=by
 unfold vB at h
 refine ACall.of_run (raw:=[]) Tryz.func109 rfl Tryz.ntmps109 (by simp) fun hbel => ?_
 refine .qt rfl ?_;simp (disch:=first|exact za|fail) only [go_sem,seval];refine .qt rfl ?_;simp (disch:=first|exact za|fail) only [go_sem,seval]
 (first | refine zI (fun h0 => ?_) (fun h0 => ?_) | refine zD (fun h0 => ?_) (fun h0 => ?_))<;>(try simp only [Bool.not_eq_true',Bool.not_eq_false'] at h0)<;>simp (disch:=first|exact za|fail) only [go_sem,seval,h0]
 rotate_left
 · rw [h0] at h;refine .qr rfl Tryz.func109 (by rw [Tryz.results109]) ?_;simp (disch:=first|exact za|fail) only [go_sem,seval];exact h
 rw [h0,Bool.true_and] at h
 (first | refine zI (fun h1 => ?_) (fun h1 => ?_) | refine zD (fun h1 => ?_) (fun h1 => ?_))<;>(try simp only [Bool.not_eq_true',Bool.not_eq_false'] at h1)<;>simp (disch:=first|exact za|fail) only [go_sem,seval,h1]
 rotate_left
 · rw [h1] at h;refine .qr rfl Tryz.func109 (by rw [Tryz.results109]) ?_;simp (disch:=first|exact za|fail) only [go_sem,seval];exact h
 rw [h1,Bool.true_and] at h
 (first | refine zI (fun h2 => ?_) (fun h2 => ?_) | refine zD (fun h2 => ?_) (fun h2 => ?_))<;>(try simp only [Bool.not_eq_true',Bool.not_eq_false'] at h2)<;>simp (disch:=first|exact za|fail) only [go_sem,seval,h2]
 rotate_left
 · rw [h2] at h;refine .qr rfl Tryz.func109 (by rw [Tryz.results109]) ?_;simp (disch:=first|exact za|fail) only [go_sem,seval];exact h
 rw [h2,Bool.true_and] at h
 (first | refine zI (fun h3 => ?_) (fun h3 => ?_) | refine zD (fun h3 => ?_) (fun h3 => ?_))<;>(try simp only [Bool.not_eq_true',Bool.not_eq_false'] at h3)<;>simp (disch:=first|exact za|fail) only [go_sem,seval,h3]
 rotate_left
 · rw [h3] at h;refine .qr rfl Tryz.func109 (by rw [Tryz.results109]) ?_;simp (disch:=first|exact za|fail) only [go_sem,seval];exact h
 rw [h3,Bool.true_and] at h
 (first | refine zI (fun h4 => ?_) (fun h4 => ?_) | refine zD (fun h4 => ?_) (fun h4 => ?_))<;>(try simp only [Bool.not_eq_true',Bool.not_eq_false'] at h4)<;>simp (disch:=first|exact za|fail) only [go_sem,seval,h4]
 rotate_left
 · rw [h4] at h;refine .qr rfl Tryz.func109 (by rw [Tryz.results109]) ?_;simp (disch:=first|exact za|fail) only [go_sem,seval];exact h
 rw [h4,Bool.true_and] at h
 (first | refine zI (fun h5 => ?_) (fun h5 => ?_) | refine zD (fun h5 => ?_) (fun h5 => ?_))<;>(try simp only [Bool.not_eq_true',Bool.not_eq_false'] at h5)<;>simp (disch:=first|exact za|fail) only [go_sem,seval,h5]
 rotate_left
 · rw [h5] at h;refine .qr rfl Tryz.func109 (by rw [Tryz.results109]) ?_;simp (disch:=first|exact za|fail) only [go_sem,seval];exact h
 rw [h5,Bool.true_and] at h
 (first | refine zI (fun h6 => ?_) (fun h6 => ?_) | refine zD (fun h6 => ?_) (fun h6 => ?_))<;>(try simp only [Bool.not_eq_true',Bool.not_eq_false'] at h6)<;>simp (disch:=first|exact za|fail) only [go_sem,seval,h6]
 rotate_left
 · rw [h6] at h;refine .qr rfl Tryz.func109 (by rw [Tryz.results109]) ?_;simp (disch:=first|exact za|fail) only [go_sem,seval];exact h
 rw [h6,Bool.true_and] at h;refine .qr rfl Tryz.func109 (by rw [Tryz.results109]) ?_;simp (disch:=first|exact za|fail) only [go_sem,seval];exact h
theorem zeX (r:Rdg) (k:Nat) (hk:k < 4) (H:Hp) (R:AV → Hp → Prop) (h:R (.p (i64 (fR r k))) H):ACall Tryz.prog G 69 [.p (rdg r),.p (i64 k)] H R:=by
 have:k=0 ∨ k=1 ∨ k=2 ∨ k=3:=by omega
 refine ACall.of_run (raw:=[]) Tryz.func69 rfl Tryz.ntmps69 (by simp) fun hbel => ?_
 refine .qt rfl ?_;simp (disch:=first|exact za|fail) only [go_sem,seval];refine .qt rfl ?_;simp (disch:=first|exact za|fail) only [go_sem,seval]
 rcases this with rfl | rfl | rfl | rfl
 · refine .qT rfl ?_;refine .qt rfl ?_;simp (disch:=first|exact za|fail) only [go_sem,seval];refine .qr rfl Tryz.func69 (by rw [Tryz.results69]) ?_;simp (disch:=first|exact za|fail) only [go_sem,seval];exact h
 · refine .qF rfl ?_;refine .skip ?_;refine .qt rfl ?_;simp (disch:=first|exact za|fail) only [go_sem,seval];refine .qT rfl ?_;refine .qt rfl ?_;simp (disch:=first|exact za|fail) only [go_sem,seval];refine .qr rfl Tryz.func69 (by rw [Tryz.results69]) ?_;simp (disch:=first|exact za|fail) only [go_sem,seval];exact h
 · refine .qF rfl ?_;refine .skip ?_;refine .qt rfl ?_;simp (disch:=first|exact za|fail) only [go_sem,seval];refine .qF rfl ?_;refine .skip ?_;refine .qt rfl ?_;simp (disch:=first|exact za|fail) only [go_sem,seval];refine .qT rfl ?_;refine .qt rfl ?_;simp (disch:=first|exact za|fail) only [go_sem,seval];refine .qr rfl Tryz.func69 (by rw [Tryz.results69]) ?_;simp (disch:=first|exact za|fail) only [go_sem,seval];exact h
 · refine .qF rfl ?_;refine .skip ?_;refine .qt rfl ?_;simp (disch:=first|exact za|fail) only [go_sem,seval];refine .qF rfl ?_;refine .skip ?_;refine .qt rfl ?_;simp (disch:=first|exact za|fail) only [go_sem,seval];refine .qF rfl ?_;refine .skip ?_;refine .qt rfl ?_;simp (disch:=first|exact za|fail) only [go_sem,seval];refine .qr rfl Tryz.func69 (by rw [Tryz.results69]) ?_;simp (disch:=first|exact za|fail) only [go_sem,seval];exact h
set_option maxHeartbeats 1000000 in
set_option maxRecDepth 20000 in
theorem zrK (s:Strm) (r:Rdg) (hs:s.l.length < 65536) (hg:s.gone.length < 65536) (hr:vR r) (H:Hp) (R:AV → Hp → Prop) (h:R (.tup [.p (stm ⟨s.l++[r],s.gone++[false]⟩),.p (i64 0)]) H):ACall Tryz.prog G 52 [.p (stm s),.p (rdg r)] H R:=by
 have hv:vB r=true:=zFT.2 hr;have d1:decide ((65536:Int)≤(s.l.length:Int))=false:=decide_eq_false (by omega)
 refine ACall.of_run (raw:=[]) Tryz.func52 rfl Tryz.ntmps52 (by simp) fun hbel => ?_
 refine .qt rfl ?_;simp (disch:=first|exact za|fail) only [go_sem,seval];refine .qt rfl ?_;simp (disch:=first|exact za|fail) only [go_sem,seval];refine CallK.of (fun R h=>zlt r _ R h) ?_;simp (disch:=first|exact za|fail) only [go_sem,seval,hv];refine .qF rfl ?_;refine .skip ?_;refine .qt rfl ?_;simp (disch:=first|exact za|fail) only [go_sem,seval];refine .q ?_;refine .ifF (by simp (disch:=first|exact za|fail) only [go_sem,seval,d1]) ?_;refine .skip ?_;refine .qt rfl ?_;simp (disch:=first|exact za|fail) only [go_sem,seval];refine .qt rfl ?_;simp (disch:=first|exact za|fail) only [go_sem,seval];refine .qt rfl ?_;simp (disch:=first|exact za|fail) only [go_sem,seval,zrH,zrI,zgv,zw0,zw1];refine .qr rfl Tryz.func52 (by rw [Tryz.results52]) (hx:=by simp (disch:=first|exact za|fail) only [go_sem,seval,zrJ];rfl) ?_;simp (disch:=first|exact za|fail) only [go_sem,seval,zrJ];exact h
set_option maxHeartbeats 1000000 in
set_option maxRecDepth 20000 in
theorem zez (s:Strm) (i:Int) (hs:s.l.length≤65536) (hg:s.gone.length=s.l.length) (H:Hp) (R:AV → Hp → Prop) (h:R (.tup [.p (stm (zi9 s i).1),.p (i64 (zi9 s i).2)]) H):ACall Tryz.prog G 51 [.p (stm s),.p (i64 i)] H R:=by
 unfold zi9 at h
 refine ACall.of_run (raw:=[]) Tryz.func51 rfl Tryz.ntmps51 (by simp) fun hbel => ?_
 refine .qt rfl ?_;simp (disch:=first|exact za|fail) only [go_sem,seval];by_cases c1:i < 0
 · have d1:decide (i < 0)=true:=decide_eq_true c1;rw [if_pos (.inl c1)] at h;refine .qt rfl ?_;simp (disch:=first|exact za|fail) only [go_sem,seval,d1];refine .qT rfl ?_;refine .qt rfl ?_;simp (disch:=first|exact za|fail) only [go_sem,seval];refine .qr rfl Tryz.func51 (by rw [Tryz.results51]) ?_;simp (disch:=first|exact za|fail) only [go_sem,seval];exact h
 · have d1:decide (i < 0)=false:=decide_eq_false c1;by_cases c2:(s.l.length:Int)≤i
   · have d2:decide ((s.l.length:Int)≤i)=true:=decide_eq_true c2;rw [if_pos (.inr c2)] at h;refine .qt rfl ?_;simp (disch:=first|exact za|fail) only [go_sem,seval,d1,d2];refine .qT rfl ?_;refine .qt rfl ?_;simp (disch:=first|exact za|fail) only [go_sem,seval];refine .qr rfl Tryz.func51 (by rw [Tryz.results51]) ?_;simp (disch:=first|exact za|fail) only [go_sem,seval];exact h
   · have d2:decide ((s.l.length:Int)≤i)=false:=decide_eq_false c2;rw [if_neg (by omega)] at h
     obtain⟨k,rfl⟩ : ∃ k:Nat,i=k:=⟨i.toNat,by omega⟩
     rw [Int.toNat_natCast] at h
     have hk:k < s.gone.length:=by omega
     refine .qt rfl ?_;simp (disch:=first|exact za|fail) only [go_sem,seval,d1,d2];refine .qF rfl ?_;refine .skip ?_;refine .qt rfl ?_;simp (disch:=first|exact za|fail) only [go_sem,seval]
     cases hn:nth s.gone k with
     | true =>
      rw [hn,if_pos rfl] at h;refine .q ?_;refine .ifT (by simp (disch:=first|exact za|fail) only [go_sem,seval,hn]) ?_;refine .qt rfl ?_;simp (disch:=first|exact za|fail) only [go_sem,seval];refine .qr rfl Tryz.func51 (by rw [Tryz.results51]) ?_;simp (disch:=first|exact za|fail) only [go_sem,seval];exact h
     | false =>
      rw [hn,if_neg (by decide)] at h;refine .q ?_;refine .ifF (by simp (disch:=first|exact za|fail) only [go_sem,seval,hn]) ?_;refine .skip ?_;refine .q ?_;refine .region ?_;refine .buildVec (sz:=1) (cs:=[]) (by simp (disch:=first|exact za|fail) only [go_sem,seval,yh,yI]<;>rfl) (by rfl) ?_;refine .run ?_;simp (disch:=first|exact za|fail) only [go_sem,seval,zkK];refine .qt rfl ?_;simp (disch:=first|exact za|fail) only [go_sem,seval];refine .q ?_;refine .frzV 6 (by simp (disch:=first|exact za|fail) only [go_sem,seval];rfl) (by simp (disch:=first|exact za|fail) only [go_sem,seval]<;>rfl) (xs:=pl bo (s.gone.set k true)) (by rw [zkK,zfd]) (by rw [zad,List.length_set]) zDi ?_;(try simp (disch:=first|exact za|fail) only [go_sem,seval]);refine .qt rfl ?_;simp (disch:=first|exact za|fail) only [go_sem,seval,zD3];refine .qr rfl Tryz.func51 (by rw [Tryz.results51]) ?_;simp (disch:=first|exact za|fail) only [go_sem,seval];exact h
set_option maxHeartbeats 1000000 in
theorem zlu (a b c:BitVec 8) (H:Hp) (R:AV → Hp → Prop) (h:R (.tup [.p (rdg (rd3 a b c)),.p (i64 0)]) H):ACall Tryz.prog G 110 [.p (.sl false 1 (pl b8 [a,b,c]))] H R:=by
 have n0:nth [a,b,c] 0=a:=rfl;have n1:nth [a,b,c] 1=b:=rfl;have n2:nth [a,b,c] 2=c:=rfl;have hl:[a,b,c].length=3:=rfl;have rr:zx Tryz.prog .rem 5 (.p (b8 a)) (.p (b8 16#8))=some (.p (b8 (a % 16#8))):=zbS _ _ _ _ (by decide);have rq:zx Tryz.prog .quo 5 (.p (b8 a)) (.p (b8 16#8))=some (.p (b8 (a / 16#8))):=zhu _ _ _ _ (by decide)
 refine ACall.of_run (raw:=[]) Tryz.func110 rfl Tryz.ntmps110 (by simp) fun hbel => ?_
 refine .qt rfl ?_;simp (disch:=first|exact za|fail) only [go_sem,seval];refine .qt rfl ?_;simp (disch:=first|exact za|fail) only [go_sem,seval,hl];refine .qF rfl ?_;refine .skip ?_;refine .q ?_;refine .open [19,20] follows (by kernel_rfl) ?_;simp (disch:=first|exact za|fail) only [go_sem,seval,n0,n1,n2,rr,rq];refine .qr rfl Tryz.func110 (by rw [Tryz.results110]) ?_;simp (disch:=first|exact za|fail) only [go_sem,seval];exact h
theorem zja (a b c:BitVec 8) (H:Hp) (R:AV → Hp → Prop) (h:R (.p (rdg (rd3 a b c))) H):ACall Tryz.prog G 53 [.p (.agg [b8 a,b8 b,b8 c])] H R:=by
 have h3:zh (.p (.agg [b8 a,b8 b,b8 c]))=some [.p (b8 a),.p (b8 b),.p (b8 c)]:=rfl
 refine ACall.of_run (raw:=[]) Tryz.func53 rfl Tryz.ntmps53 (by simp) fun hbel => ?_
 refine .qt rfl ?_;simp (disch:=first|exact za|fail) only [go_sem,seval,h3];refine .qt rfl ?_;simp (disch:=first|exact za|fail) only [go_sem,seval];refine CallK.of (fun R h=>zlu a b c _ R h) ?_;simp (disch:=first|exact za|fail) only [go_sem,seval];refine .qt rfl ?_;simp (disch:=first|exact za|fail) only [go_sem,seval];refine .qr rfl Tryz.func53 (by rw [Tryz.results53]) ?_;simp (disch:=first|exact za|fail) only [go_sem,seval];exact h
end walks
end Go.Proofs.YthaoifcebimkfaaGreatDoor

namespace Go.Proofs.YthaoifcebimkfaaGreatDoor
open Go Go.AL

structure SOp where
 a:BitVec 8
 b:BitVec 8
 c:BitVec 8
 back:Bool
instance:Inhabited SOp:=⟨⟨0,0,0,false⟩⟩
def sop (o:SOp):PV := .agg [b8 o.a,b8 o.b,b8 o.c,bo o.back]
structure okS (m:Nat) (s:Strm):Prop where
 len:s.l.length≤m
 gl:s.gone.length=s.l.length
 v : ∀ r∈s.l,vR r
theorem okS.nil (m:Nat):okS m ⟨[],[]⟩:=⟨Nat.zero_le _,rfl,fun _ h=>by cases h⟩
theorem okS.take {m:Nat} {s:Strm} (h:okS m s) {r:Rdg} (hr:vR r) (hl:s.l.length < m):okS m ⟨s.l++[r],s.gone++[false]⟩ :=
 ⟨by simp;omega,by simp [h.gl],fun x hx=>by
  rcases List.mem_append.1 hx with e | e
  · exact h.v x e
  · rw [List.mem_singleton.1 e];exact hr⟩
theorem okS.ret {m:Nat} {s:Strm} (h:okS m s) {i:Int} (h0:(zi9 s i).2=0):okS m (zi9 s i).1:=by
 unfold zi9 at h0 ⊢
 split
 · rename_i e;rw [if_pos e] at h0;cases h0
 · rename_i e;rw [if_neg e] at h0
   split
   · rename_i e2;rw [if_pos e2] at h0;cases h0
   · exact⟨h.len,by simp [h.gl],h.v⟩
structure TI (H' H:Hp) (s:Strm):Prop where
 r:H'.f H.n=some (.cells [.p (.sl true 4 []),.p (.sl true 1 [])])
 s:H'.f (H.n+1)=some (.cells [.p (.sl false 4 (pl rdg s.l)),.p (.sl false 1 (pl bo s.gone))])
 n:H.n+2≤H'.n
 low : ∀ b,b < H.n → H'.f b=H.f b
 z:H'.z=H.z
section walks
variable {G:Globs}
theorem yY {o:SOp}:(sop o).cells=[b8 o.a,b8 o.b,b8 o.c,bo o.back]:=rfl
theorem zjZ {o:SOp}:(sop o).aggOf 0 3 = .agg [b8 o.a,b8 o.b,b8 o.c]:=rfl
set_option maxHeartbeats 16000000 in
set_option maxRecDepth 20000 in
theorem zrM (l:List SOp) (m:Nat) (hm:m≤1000) (hl:l.length≤9223372036854775807) (H:Hp) (R:AV → Hp → Prop) (h : ∀ s,okS m s → R (.p (stm s)) H):ACall Tryz.prog G 14 [.p (.sl false 4 (pl sop l)),.p (i64 m)] H R:=by
 refine ACall.of_run (raw:=[]) Tryz.func14 rfl Tryz.ntmps14 (by simp) fun hbel => ?_
 refine .qt rfl ?_;simp (disch:=first|exact za|fail) only [go_sem,seval];refine .qt rfl ?_;simp (disch:=first|exact za|fail) only [go_sem,seval];refine .qt rfl ?_;simp (disch:=first|exact za|fail) only [go_sem,seval];refine .q ?_;refine .weakC (H.n+1) (by simp (disch:=first|exact za|fail) only [go_sem,seval];rfl) ?_;(try simp (disch:=first|exact za|fail) only [go_sem,seval,List.map_replicate,List.map_cons,List.map_nil,AV.weak,PV.weak])
 obtain⟨K,hK⟩ : ∃ K,K=(H.new (.cells [.p (.sl true 4 []),.p (.sl true 1 [])])).new (.cells [.p (.sl false 4 []),.p (.sl false 1 [])]):=⟨_,rfl⟩
 have hT0:TI K H ⟨[],[]⟩:=by
  rw [hK]
  refine⟨?_,?_,?_,fun b hb => ?_,rfl⟩
  · simp (disch:=first|exact za|fail) only [go_sem,seval]
  · simp (disch:=first|exact za|fail) only [go_sem,seval];rfl
  · simp only [n_new'];omega
  · simp (disch:=first|exact za|fail) only [go_sem,seval]
 rw [←hK]
 clear hK
 refine .q ?_;refine .count (fun i env H'=>env 0 = .p (.sl false 4 (pl sop l))∧env 1 = .p (i64 m)∧env 4 = .ptr H.n 0∧env 5 = .ptr (H.n+1) 0∧env 6 = .p (i64 i) ∧ ∃ s,okS m s∧TI H' H s) 0 l.length (by omega) ?_ ?_ ?_
 · refine⟨?_,?_,?_,?_,?_,⟨[],[]⟩,okS.nil m,hT0⟩<;>simp (disch:=first|exact za|fail) only [go_sem,seval]
 · rintro env K ⟨e0,e1,e4,e5,e6,s,hs,hT⟩
   have hn:=hT.n;have hfin:=h s hs
   have htr:K.trunc H.n=H:=by
    refine Hp.ext (fun b => ?_) rfl hT.z;rw [Hp.f_trunc]
    split
    · exact hT.low b (by assumption)
    · exact (H.wf b (by omega)).symm
   have hbel:Bel H.n K:=fun b x hb hx=>hbel b x hb (by rw [←hT.low b hb];exact hx)
   refine .qt rfl ?_;simp (disch:=first|exact za|fail) only [go_sem,seval,e0,e6];refine .qF rfl ?_;refine .qt rfl ?_;simp (disch:=first|exact za|fail) only [go_sem,seval,e4,e5,hT.s,hT.r];refine .qr rfl Tryz.func14 (by rw [Tryz.results14]) (hx:=by simp (disch:=first|exact za|fail) only [go_sem,seval,e4];rfl) ?_;simp (disch:=first|exact za|fail) only [go_sem,seval,e4];rw [htr];exact hfin
 · rintro i env K hi0 hi ⟨e0,e1,e4,e5,e6,s,hs,hT⟩ ihO
   have hn:=hT.n
   obtain⟨s1,s2,s3⟩:=hs
   have hs':okS m s:=⟨s1,s2,s3⟩
   obtain⟨x,hx⟩ : ∃ x,x=nth l i:=⟨_,rfl⟩
   refine .qt rfl ?_;simp (disch:=first|exact za|fail) only [go_sem,seval,e0,e6];refine .qT rfl ?_
   cases hb:x.back with
   | true =>
    rcases Classical.em (0 < s.l.length) with hl0 | hl0
    · refine .qt rfl ?_;simp (disch:=first|exact za|fail) only [go_sem,seval,e0,e5,e6,hT.s,yY,←hx,hb];refine .qT rfl ?_;have hJ0:K.f (H.n+1)=some (.cells [.p (.sl false 4 (pl rdg s.l)),.p (.sl false 1 (pl bo s.gone))]):=hT.s;refine .q ?_;refine .cut (fun env2 H2 => ∃ b,env2 0 = .p (.sl false 4 (pl sop l))∧env2 1 = .p (i64 m)∧env2 4 = .ptr H.n 0∧env2 5 = .ptr (H.n+1) 0∧env2 6 = .p (i64 i)∧env2 7 = .ptr b 0∧env2 8 = .p (i64 (zi9 s ((x.a.toNat:Int) % (s.l.length:Int))).2)∧H2.f b=some (.cells [.p (.sl false 4 (pl rdg (zi9 s ((x.a.toNat:Int) % (s.l.length:Int))).1.l)),.p (.sl false 1 (pl bo (zi9 s ((x.a.toNat:Int) % (s.l.length:Int))).1.gone))])∧TI H2 H s) (fun ih => ?_) ?_
      · refine .q ?_;refine .openJ2 (E := ?E1) (fun H'=>H'.f (H.n+1)=some (.cells [.p (.sl false 4 (pl rdg s.l)),.p (.sl false 1 (pl bo s.gone))])) [0,1,2,3,4,5,6,7,8,9,10,11] [13,14,15] 12 16 [13,14,15,16,17,18] [12,13,14,15,17,18] [true,false,false,false,true,false,false] [true,true,false,false,false,false,false] follows (by kernel_rfl) (by first | exact rfl | assumption | simp (disch:=first|exact za|fail) only [go_sem,seval]) (fun H2 hJ => ?hP1) ?_ ?_;(case hP1=>((try dsimp only at hJ);simp (disch:=first|exact za|fail) only [go_sem,seval,e0,e5,e6,yY,←hx,hJ];(try exact rfl)));all_goals simp (disch:=first|exact za|fail) only [go_sem,seval,e0,e5,e6,yY,←hx]
        · refine CallJ.still (fun R h=>zez s ((x.a.toNat:Int) % (s.l.length:Int)) (by omega) s2 _ R h) ⟨.inr hJ0,?_⟩;simp (disch:=first|exact za|fail) only [go_sem,seval,hJ0];refine ih _ _ ⟨K.n,?_,?_,?_,?_,?_,?_,?_,zk rfl,⟨?_,?_,?_,fun b hb => ?_,hT.z⟩⟩
          · simp (disch:=first|exact za|fail) only [go_sem,seval,e0]
          · simp (disch:=first|exact za|fail) only [go_sem,seval,e1]
          · simp (disch:=first|exact za|fail) only [go_sem,seval,e4]
          · simp (disch:=first|exact za|fail) only [go_sem,seval,e5]
          · simp (disch:=first|exact za|fail) only [go_sem,seval,e6]
          · simp (disch:=first|exact za|fail) only [go_sem,seval]
          · simp (disch:=first|exact za|fail) only [go_sem,seval]
          · rw [zb (by omega)];exact hT.r
          · rw [zb (by omega)];exact hT.s
          · rw [n_new'];omega
          · rw [zb (by omega)];exact hT.low b hb
        · refine⟨hJ0,CallJ.still (fun R h=>zez s ((x.a.toNat:Int) % (s.l.length:Int)) (by omega) s2 _ R h) ⟨.inr ((zb (by omega)).trans hJ0),?_⟩⟩
          simp (disch:=first|exact za|fail) only [go_sem,seval];refine ih _ _ ⟨K.n,?_,?_,?_,?_,?_,?_,?_,zk rfl,⟨?_,?_,?_,fun b hb => ?_,hT.z⟩⟩
          · simp (disch:=first|exact za|fail) only [go_sem,seval,e0]
          · simp (disch:=first|exact za|fail) only [go_sem,seval,e1]
          · simp (disch:=first|exact za|fail) only [go_sem,seval,e4]
          · simp (disch:=first|exact za|fail) only [go_sem,seval,e5]
          · simp (disch:=first|exact za|fail) only [go_sem,seval,e6]
          · simp (disch:=first|exact za|fail) only [go_sem,seval]
          · simp (disch:=first|exact za|fail) only [go_sem,seval]
          · rw [zb (by omega)];exact hT.r
          · rw [zb (by omega)];exact hT.s
          · rw [n_new'];omega
          · rw [zb (by omega)];exact hT.low b hb
      rintro env W ⟨b,e0,e1,e4,e5,e6,e7,e8,hbv,hT⟩
      rcases Classical.em ((zi9 s ((x.a.toNat:Int) % (s.l.length:Int))).2=0) with hz | hz
      · have hs2:=hs'.ret hz;refine .qt rfl ?_;simp (disch:=first|exact za|fail) only [go_sem,seval,e8];refine .qT rfl ?_;have hnW:=hT.n;refine .qt rfl ?_;simp (disch:=first|exact za|fail) only [go_sem,seval,e5,e7,hbv,hT.s];refine .qt rfl ?_;simp (disch:=first|exact za|fail) only [go_sem,seval,e6];refine ihO _ _ ⟨?_,?_,?_,?_,?_,_,hs2,⟨?_,zy rfl (by omega),by rw [n_set'];exact hnW,fun b hb=>by rw [f_set_ne' (by omega)];exact hT.low b hb,hT.z⟩⟩
        · simp (disch:=first|exact za|fail) only [go_sem,seval,e0]
        · simp (disch:=first|exact za|fail) only [go_sem,seval,e1]
        · simp (disch:=first|exact za|fail) only [go_sem,seval,e4]
        · simp (disch:=first|exact za|fail) only [go_sem,seval,e5]
        · simp (disch:=first|exact za|fail) only [go_sem,seval]
        · rw [f_set_ne' (by omega)];exact hT.r
      · refine .qt rfl ?_;simp (disch:=first|exact za|fail) only [go_sem,seval,e8];refine .qF rfl ?_;refine .skip ?_;refine .qt rfl ?_;simp (disch:=first|exact za|fail) only [go_sem,seval,e6];refine ihO _ _ ⟨?_,?_,?_,?_,?_,s,hs',hT⟩<;>simp (disch:=first|exact za|fail) only [go_sem,seval,e0,e1,e4,e5]
    · refine .qt rfl ?_;simp (disch:=first|exact za|fail) only [go_sem,seval,e0,e5,e6,hT.s,yY,←hx,hb];refine .qF rfl ?_;refine .qt rfl ?_;simp (disch:=first|exact za|fail) only [go_sem,seval,e0,e5,e6,hT.s,yY,←hx,hb];refine .qF rfl ?_;refine .skip ?_;refine .qt rfl ?_;simp (disch:=first|exact za|fail) only [go_sem,seval,e6];refine ihO _ _ ⟨?_,?_,?_,?_,?_,s,hs',hT⟩<;>simp (disch:=first|exact za|fail) only [go_sem,seval,e0,e1,e4,e5]
   | false =>
    refine .qt rfl ?_;simp (disch:=first|exact za|fail) only [go_sem,seval,e0,e5,e6,hT.s,yY,←hx,hb];refine .qF rfl ?_
    rcases Classical.em (s.l.length < m) with hl0 | hl0
    · refine .qt rfl ?_;simp (disch:=first|exact za|fail) only [go_sem,seval,e0,e1,e5,e6,hT.s,yY,←hx,hb];refine .qT rfl ?_;have hJ0:K.f (H.n+1)=some (.cells [.p (.sl false 4 (pl rdg s.l)),.p (.sl false 1 (pl bo s.gone))]):=hT.s;refine .q ?_;refine .openJ (E := ?E2) (fun H'=>H'.f (H.n+1)=some (.cells [.p (.sl false 4 (pl rdg s.l)),.p (.sl false 1 (pl bo s.gone))])) [0,1,2,3,4,5] [8,9,10] [6,7,8,9,10,11] [true,true,false,false,false,false] follows (by kernel_rfl) (by first | exact rfl | assumption | simp (disch:=first|exact za|fail) only [go_sem,seval]) (fun H2 hJ => ?hP2) ?_;(case hP2=>((try dsimp only at hJ);simp (disch:=first|exact za|fail) only [go_sem,seval,e0,e5,e6,yY,zjZ,←hx,hJ];(try exact rfl)));simp (disch:=first|exact za|fail) only [go_sem,seval,e0,e5,e6,yY,zjZ,←hx];refine CallJ.still (fun R h=>zja x.a x.b x.c _ R h) ⟨.inr hJ0,?_⟩;simp (disch:=first|exact za|fail) only [go_sem,seval];refine CallJ.still (fun R h=>zrK s (rd3 x.a x.b x.c) (by omega) (by omega) zEv _ R h) ⟨.inr hJ0,?_⟩;simp (disch:=first|exact za|fail) only [go_sem,seval,hJ0,e5];refine .qt rfl ?_;simp (disch:=first|exact za|fail) only [go_sem,seval,e6];refine ihO _ _ ⟨?_,?_,?_,?_,?_,_,hs'.take (r:=rd3 x.a x.b x.c) zEv hl0,⟨?_,zy rfl (by omega),by rw [n_set'];exact hn,fun b hb=>by rw [f_set_ne' (by omega)];exact hT.low b hb,hT.z⟩⟩
      · simp (disch:=first|exact za|fail) only [go_sem,seval,e0]
      · simp (disch:=first|exact za|fail) only [go_sem,seval,e1]
      · simp (disch:=first|exact za|fail) only [go_sem,seval,e4]
      · simp (disch:=first|exact za|fail) only [go_sem,seval,e5]
      · simp (disch:=first|exact za|fail) only [go_sem,seval]
      · rw [f_set_ne' (by omega)];exact hT.r
    · refine .qt rfl ?_;simp (disch:=first|exact za|fail) only [go_sem,seval,e0,e1,e5,e6,hT.s,yY,←hx,hb];refine .qF rfl ?_;refine .skip ?_;refine .qt rfl ?_;simp (disch:=first|exact za|fail) only [go_sem,seval,e6];refine ihO _ _ ⟨?_,?_,?_,?_,?_,s,hs',hT⟩<;>simp (disch:=first|exact za|fail) only [go_sem,seval,e0,e1,e4,e5]
end walks
end Go.Proofs.YthaoifcebimkfaaGreatDoor

namespace Go.Proofs.YthaoifcebimkfaaGreatDoor
open Go Go.AL

def elC (s:Strm) (c i:Nat):U:=if i < s.l.length then (if c < 4 then BitVec.ofInt 64 (fR (nth s.l i) c) else if nth s.gone i then 0#64 else 1#64) else 0#64
def zbn (s:Strm) (n c:Nat):List U:=(List.range n).map (elC s c)
def zK (s:Strm) (n:Nat):List (List U):=(List.range 5).map (zbn s n)
def zaX (s:Strm) (n c b:Nat):List U:=(List.range n).map fun i=>(elC s c i >>> b) &&& 1#64
def zw2 (s:Strm) (k:Int):Int:=if k < 0 ∨ 16 < k then 1 else if 2 ^ k.toNat < s.l.length then 2 else 0
def zfG (s:Strm) (n c i:Nat):List U:=(List.range n).map fun j=>if j < i then elC s c j else 0#64
theorem zBK {s:Strm} {n c i:Nat}:(zfG s n c i).length=n:=by simp [zfG]
theorem zw3 {s:Strm} {n c:Nat}:zfG s n c 0=List.replicate n 0#64:=by
 apply List.ext_getElem<;>simp [zfG]
theorem zBL {s:Strm} {n c:Nat} (h:s.l.length≤n):zfG s n c s.l.length=zbn s n c:=by
 unfold zfG zbn
 refine List.map_congr_left fun j _ => ?_
 split
 · rfl
 · rename_i e;unfold elC;rw [if_neg e]
theorem zw4 {s:Strm} {n c i:Nat} (h:i < n):(zfG s n c i).set i (elC s c i)=zfG s n c (i+1):=by
 apply List.ext_getElem
 · simp [zfG]
 · intro j h1 h2;simp only [zfG,List.getElem_set,List.getElem_map,List.getElem_range];by_cases e:i=j
   · subst e;simp
   · rw [if_neg e];by_cases e2:j < i
     · rw [if_pos e2,if_pos (by omega)]
     · rw [if_neg e2,if_neg (by omega)]
theorem zw5 {s:Strm} {n c i:Nat} (h:elC s c i=0#64):zfG s n c i=zfG s n c (i+1):=by
 unfold zfG
 refine List.map_congr_left fun j _ => ?_
 by_cases e:i=j
 · subst e;simp [h]
 · by_cases e2:j < i
   · rw [if_pos e2,if_pos (by omega)]
   · rw [if_neg e2,if_neg (by omega)]
structure LowE (H H':Hp):Prop where
 n:H.n≤H'.n
 f : ∀ b,b < H.n → H'.f b=H.f b
 z:H'.z=H.z
theorem LowE.refl {H:Hp}:LowE H H:=⟨Nat.le_refl _,fun _ _=>rfl,rfl⟩
theorem LowE.trans {H H1 H2:Hp} (h:LowE H H1) (h':LowE H1 H2):LowE H H2:=⟨Nat.le_trans h.n h'.n,fun b hb=>(h'.f b (Nat.lt_of_lt_of_le hb h.n)).trans (h.f b hb),h'.z.trans h.z⟩
theorem LowE.new {H:Hp} (x:AB):LowE H (H.new x):=⟨by rw [n_new'];omega,fun b hb=>zb (by omega),rfl⟩
theorem LowE.set {H H':Hp} {b:Nat} (h:LowE H H') (x:AB) (hb:H.n≤b):LowE H (H'.set b x):=⟨by rw [n_set'];exact h.n,fun c hc=>by rw [f_set_ne' (by omega)];exact h.f c hc,h.z⟩
theorem LowE.back {H H':Hp} (h:LowE H H'):H'.trunc H.n=H:=by
 refine Hp.ext (fun b => ?_) rfl h.z;rw [Hp.f_trunc]
 split
 · exact h.f b (by assumption)
 · exact (H.wf b (by omega)).symm
theorem LowE.bel {H H':Hp} (h:LowE H H') (hb:Bel H.n H):Bel H.n H':=fun b x hb' hx=>hb b x hb' (by rw [←h.f b hb'];exact hx)
def zFU (cs:List (List U)) (H:Hp) (r:AV) (H':Hp):Prop := ∃ α,r = .tup [.vr α cs.length 1,.p (i64 0)]∧H'.f α=some (.vec (cl (ym 1 zg) cs))∧H.n≤α∧LowE H H'
section walks
variable {G:Globs}
theorem zlv {k n:Nat} (hk:k≤5) (hn:n=2 ^ k):zx Tryz.prog .shl 3 (.p (i64 1)) (.p (i64 k))=some (.p (i64 n)):=by
 subst hn
 have:k=0 ∨ k=1 ∨ k=2 ∨ k=3 ∨ k=4 ∨ k=5:=by omega
 rcases this with rfl | rfl | rfl | rfl | rfl | rfl<;>rfl
set_option maxHeartbeats 16000000 in
set_option maxRecDepth 20000 in
theorem zeA (s:Strm) (m:Nat) (hs:okS m s) (k n:Nat) (hk:k≤5) (hn:n=2 ^ k) (hl:s.l.length≤n) (H:Hp):ACall Tryz.prog G 57 [.p (stm s),.p (i64 k)] H (zFU (zK s n) H):=by
 refine ACall.of_run (raw:=[]) Tryz.func57 rfl Tryz.ntmps57 (by simp) fun hbel => ?_
 have hsh:=zlv hk hn
 have hn32:n≤32:=by
  have:2 ^ k≤2 ^ 5:=Nat.pow_le_pow_right (by decide) hk
  omega
 refine .qt rfl ?_;simp (disch:=first|exact za|fail) only [go_sem,seval];refine .qt rfl ?_;simp (disch:=first|exact za|fail) only [go_sem,seval];refine .qF rfl ?_;refine .skip ?_;refine .q ?_;refine .open [] follows (by kernel_rfl) ?_;simp (disch:=first|exact za|fail) only [go_sem,seval,hsh];refine .qF rfl ?_;refine .skip ?_;refine .qt rfl ?_;simp (disch:=first|exact za|fail) only [go_sem,seval];refine .q ?_;refine .vec 6 (by simp (disch:=first|exact za|fail) only [go_sem,seval];rfl) ?_;(try simp (disch:=first|exact za|fail) only [go_sem,seval]);refine .qt rfl ?_;simp (disch:=first|exact za|fail) only [go_sem,seval]
 obtain⟨K0,hK0⟩ : ∃ K0,K0=(H.new (.cells [.p (.sl false 4 (pl rdg s.l)),.p (.sl false 1 (pl bo s.gone))])):=⟨_,rfl⟩
 have hK0n:K0.n=H.n+1:=by rw [hK0,n_new']
 have hK0s:K0.f H.n=some (.cells [.p (.sl false 4 (pl rdg s.l)),.p (.sl false 1 (pl bo s.gone))]):=by rw [hK0];exact zk rfl
 have hK0L:LowE H K0:=by rw [hK0];exact .new _
 rw [←hK0]
 clear hK0
 refine .q ?_;refine .count (fun c env H'=>env 1 = .p (i64 k)∧env 2 = .ptr H.n 0∧env 6 = .vr (H.n+1) c 1∧env 7 = .p (i64 c)∧H'.f H.n=some (.cells [.p (.sl false 4 (pl rdg s.l)),.p (.sl false 1 (pl bo s.gone))])∧H'.f (H.n+1)=some (.vec (cl (ym 1 zg) ((zK s n).take c)))∧H.n+2≤H'.n∧LowE H H') 0 5 (by omega) ?_ ?_ ?_
 · refine⟨?_,?_,?_,?_,?_,?_,?_,hK0L.trans (.new _)⟩
   · simp (disch:=first|exact za|fail) only [go_sem,seval]
   · simp (disch:=first|exact za|fail) only [go_sem,seval]
   · simp (disch:=first|exact za|fail) only [go_sem,seval,hK0n]
   · simp (disch:=first|exact za|fail) only [go_sem,seval]
   · rw [zb (by omega)];exact hK0s
   · rw [zk (by rw [hK0n]),List.take_zero];rfl
   · rw [n_new'];omega
 · rintro env K ⟨e1,e2,e6,e7,hq,ht,hn2,hlo⟩
   have h5:(zK s n).take 5=zK s n:=List.take_of_length_le (by simp [zK]);rw [h5] at ht;refine .qt rfl ?_;simp (disch:=first|exact za|fail) only [go_sem,seval,e7];refine .qF rfl ?_;refine .qt rfl ?_;simp (disch:=first|exact za|fail) only [go_sem,seval,e6];refine .q ?_;refine .retKeep Tryz.func57 (by rw [Tryz.results57]) (by simp (disch:=first|exact za|fail) only [go_sem,seval];rfl) ?_;(try simp (disch:=first|exact za|fail) only [go_sem,seval])
   exact⟨H.n+1,by simp [zK],ht,by omega,hlo⟩
 · rintro c env K hc0 hc ⟨e1,e2,e6,e7,hq,ht,hn2,hlo⟩ ihO
   refine .qt rfl ?_;simp (disch:=first|exact za|fail) only [go_sem,seval,e7];refine .qT rfl ?_;refine .qt rfl ?_;simp (disch:=first|exact za|fail) only [go_sem,seval,e1,hsh];refine .qt rfl ?_;simp (disch:=first|exact za|fail) only [go_sem,seval]
   have hq2 : ∀ x,(K.new x).f H.n=some (.cells [.p (.sl false 4 (pl rdg s.l)),.p (.sl false 1 (pl bo s.gone))]):=fun x=>by rw [zb (by omega)];exact hq
   rw [←zw3 (s:=s) (c:=c)];refine .q ?_;refine .loopH [1,2,6,7] (fun i=>[(8,.ref K.n 0 n 1),(9,.p (i64 i))]) (fun i=>K.new (.cells (cl zg (zfG s n c i)))) (fun i=>True) (0) (s.l.length) (by omega) ?_ (by first | rfl | (simp (disch:=first|exact za|fail) only [go_sem,seval,e1,e2,e6,e7]<;>rfl)) ?_ ?_ ?_
   · simp (disch:=first|exact za|fail) only [go_sem,seval,e1,e2,e6,e7]<;>(repeat' (first | rfl | refine And.intro ?_ ?_))
   · exact trivial
   intro env A hQ;simp (disch:=first|exact za|fail) only [go_sem,seval,e1,e2,e6,e7] at A
   rotate_left 1
   intro i env hi0 hi A hQ ihA;simp (disch:=first|exact za|fail) only [go_sem,seval,e1,e2,e6,e7] at A
   rotate_left 1
   · rw [zBL hl];refine .qt rfl ?_;simp (disch:=first|exact za|fail) only [go_sem,seval,A,hq2];refine .qF rfl ?_
     have hcl:(zbn s n c).length=n:=by simp [zbn]
     have htk:((zbn s n c).drop 0).take n=zbn s n c:=by rw [List.drop_zero];exact List.take_of_length_le (by omega)
     refine .q ?_;refine .frzS 8 (by simp (disch:=first|exact za|fail) only [go_sem,seval,A,hcl,htk];rfl) (by simp (disch:=first|exact za|fail) only [go_sem,seval,A,hcl,htk]<;>rfl) (fun _=>rfl) (by first | exact za | fail) ?_;(try simp (disch:=first|exact za|fail) only [go_sem,seval,A,hcl,htk])
     have hap:cl (ym 1 zg) ((zK s n).take c)++[.p (.sl false 1 (pl zg (zbn s n c)))]=cl (ym 1 zg) ((zK s n).take (c+1)):=by
      have hlt:c < (zK s n).length:=by simp [zK];omega
      rw [List.take_succ_eq_append_getElem hlt,←zej]
      congr 1
      simp [zK,cl,ym]
     have hc5:(zK s n).length=5:=by simp [zK]
     obtain⟨W,hW⟩ : ∃ W,W=K.new .dead:=⟨_,rfl⟩
     rw [←hW]
     have hWn:W.n=K.n+1:=by rw [hW,n_new']
     have htl:W.f (H.n+1)=some (.vec (cl (ym 1 zg) ((zK s n).take c))):=by rw [hW,zb (by omega)];exact ht
     have hWq:W.f H.n=some (.cells [.p (.sl false 4 (pl rdg s.l)),.p (.sl false 1 (pl bo s.gone))]):=by rw [hW,zb (by omega)];exact hq
     have hWl:LowE H W:=by rw [hW];exact hlo.trans (.new _)
     have hcl5:(cl (ym 1 zg) ((zK s n).take c)).length=c:=by rw [zcn,List.length_take,hc5];omega
     clear hW
     refine .qt rfl ?_;simp (disch:=first|exact za|fail) only [go_sem,seval,A,htl,hap,hcl5];refine .qt rfl ?_;simp (disch:=first|exact za|fail) only [go_sem,seval,A];refine ihO _ _ ⟨?_,?_,?_,?_,?_,zy rfl (by omega),by rw [n_set'];omega,hWl.set _ (by omega)⟩
     · simp (disch:=first|exact za|fail) only [go_sem,seval,A,e1]
     · simp (disch:=first|exact za|fail) only [go_sem,seval,A,e2]
     · simp (disch:=first|exact za|fail) only [go_sem,seval,A]
     · simp (disch:=first|exact za|fail) only [go_sem,seval,A]
     · rw [f_set_ne' (by omega)];exact hWq
   · have hfl:=zBK (s:=s) (n:=n) (c:=c) (i:=i)
     have hin:i < n:=by omega
     have hset:=zw4 (s:=s) (c:=c) hin;refine .qt rfl ?_;simp (disch:=first|exact za|fail) only [go_sem,seval,A,hq2];refine .qT rfl ?_
     rcases Classical.em (c < 4) with c4 | c4
     · have hel:elC s c i=BitVec.ofInt 64 (fR (nth s.l i) c):=by unfold elC;rw [if_pos hi,if_pos c4]
       rw [hel] at hset;refine .qt rfl ?_;simp (disch:=first|exact za|fail) only [go_sem,seval,A];refine .qT rfl ?_;refine .qt rfl ?_;simp (disch:=first|exact za|fail) only [go_sem,seval,A,hq2];refine CallK.of (fun R h=>zeX (nth s.l i) c c4 _ R h) ?_;simp (disch:=first|exact za|fail) only [go_sem,seval,A,hfl];rw [hset];refine .qt rfl ?_;simp (disch:=first|exact za|fail) only [go_sem,seval,A]
       first | (refine ihA _ _ ?_ trivial ?_) | (refine .z rfl ?_;refine ihA _ _ ?_ trivial ?_) | (refine .z rfl ?_;refine .z rfl ?_;refine ihA _ _ ?_ trivial ?_) | (refine .z rfl ?_;refine .z rfl ?_;refine .z rfl ?_;refine ihA _ _ ?_ trivial ?_)
       · simp (disch:=first|exact za|fail) only [go_sem,seval,A,e1,e2,e6,e7]<;>(repeat' (first | rfl | refine And.intro ?_ ?_))
       · first | rfl | (simp (disch:=first|exact za|fail) only [go_sem,seval,A,e1,e2,e6,e7]<;>(try rfl))
     · have c5:c=4:=by omega
       have hgl:i < s.gone.length:=by have:=hs.gl;omega
       refine .qt rfl ?_;simp (disch:=first|exact za|fail) only [go_sem,seval,A];refine .qF rfl ?_;refine .qt rfl ?_;simp (disch:=first|exact za|fail) only [go_sem,seval,A,hq2]
       cases hg:nth s.gone i with
       | true =>
        have hel:elC s c i=0#64:=by unfold elC;rw [if_pos hi,if_neg c4,hg];rfl
        refine .q ?_;refine .ifF (by simp (disch:=first|exact za|fail) only [go_sem,seval,hg]) ?_;refine .skip ?_;refine .qt rfl ?_;simp (disch:=first|exact za|fail) only [go_sem,seval,A];rw [zw5 hel]
        first | (refine ihA _ _ ?_ trivial ?_) | (refine .z rfl ?_;refine ihA _ _ ?_ trivial ?_) | (refine .z rfl ?_;refine .z rfl ?_;refine ihA _ _ ?_ trivial ?_) | (refine .z rfl ?_;refine .z rfl ?_;refine .z rfl ?_;refine ihA _ _ ?_ trivial ?_)
        · simp (disch:=first|exact za|fail) only [go_sem,seval,A,e1,e2,e6,e7]<;>(repeat' (first | rfl | refine And.intro ?_ ?_))
        · first | rfl | (simp (disch:=first|exact za|fail) only [go_sem,seval,A,e1,e2,e6,e7]<;>(try rfl))
       | false =>
        have hel:elC s c i=1#64:=by unfold elC;rw [if_pos hi,if_neg c4,hg];rfl
        rw [hel] at hset;refine .q ?_;refine .ifT (by simp (disch:=first|exact za|fail) only [go_sem,seval,hg]) ?_;refine .qt rfl ?_;simp (disch:=first|exact za|fail) only [go_sem,seval,A,hfl];rw [hset];refine .qt rfl ?_;simp (disch:=first|exact za|fail) only [go_sem,seval,A]
        first | (refine ihA _ _ ?_ trivial ?_) | (refine .z rfl ?_;refine ihA _ _ ?_ trivial ?_) | (refine .z rfl ?_;refine .z rfl ?_;refine ihA _ _ ?_ trivial ?_) | (refine .z rfl ?_;refine .z rfl ?_;refine .z rfl ?_;refine ihA _ _ ?_ trivial ?_)
        · simp (disch:=first|exact za|fail) only [go_sem,seval,A,e1,e2,e6,e7]<;>(repeat' (first | rfl | refine And.intro ?_ ?_))
        · first | rfl | (simp (disch:=first|exact za|fail) only [go_sem,seval,A,e1,e2,e6,e7]<;>(try rfl))
end walks
end Go.Proofs.YthaoifcebimkfaaGreatDoor

namespace Go.Proofs.YthaoifcebimkfaaGreatDoor
open Go Go.AL

def yx (s:Strm) (n:Nat):Nat → List (List U)
 | 0=>[]
 | c+1=>yx s n c++(List.range (zN c)).map (zaX s n c)
def wdT:Nat → Nat
 | 0=>0
 | c+1=>wdT c+zN c
theorem yZ {s:Strm} {n:Nat} : ∀ c,(yx s n c).length=wdT c
 | 0=>rfl
 | c+1=>by simp [yx,wdT,yZ c]
theorem zBM (c:Nat):wdT c≤8*c:=by
 induction c with
 | zero=>exact Nat.le_refl _
 | succ c ih=>have:=zag c;unfold wdT;omega
theorem zj0 {s:Strm} {n c:Nat} (h:c < 5):nth (zK s n) c=zbn s n c:=by simp [zK,nth,h]
theorem zd3 {s:Strm} {n c i:Nat} (h:i < n):nth (zbn s n c) i=elC s c i:=by simp [zbn,nth,h]
theorem zw6 {s:Strm} {i c b:Nat}:zaX s (i+1) c b=zaX s i c b++[(elC s c i >>> b) &&& 1#64]:=by simp [zaX,List.range_succ]
section walks
variable {G:Globs}
set_option maxHeartbeats 16000000 in
set_option maxRecDepth 20000 in
theorem zrN (s:Strm) (m:Nat) (hs:okS m s) (k n:Nat) (hk:k≤5) (hn:n=2 ^ k) (hl:s.l.length≤n) (H:Hp):ACall Tryz.prog G 58 [.p (stm s),.p (i64 k)] H (zFU (yx s n 4) H):=by
 refine ACall.of_run (raw:=[]) Tryz.func58 rfl Tryz.ntmps58 (by simp) fun hbel => ?_
 have hn32:n≤32:=by
  have:2 ^ k≤2 ^ 5:=Nat.pow_le_pow_right (by decide) hk
  omega
 have hn0:0 < n:=by rw [hn];exact Nat.pos_of_ne_zero (by simp)
 refine .qt rfl ?_;simp (disch:=first|exact za|fail) only [go_sem,seval];refine .qt rfl ?_;simp (disch:=first|exact za|fail) only [go_sem,seval];refine CallK.ex (zeA s m hs k n hk hn hl _) ?_
 rintro _ X ⟨α,rfl,hα,hαn,hX⟩
 have hXL:LowE H X:=(LowE.new _).trans hX
 have hc5:(zK s n).length=5:=by simp [zK]
 simp (disch:=first|exact za|fail) only [go_sem,seval,hc5];refine .qt rfl ?_;simp (disch:=first|exact za|fail) only [go_sem,seval];refine .qF rfl ?_;refine .skip ?_;refine .qt rfl ?_;simp (disch:=first|exact za|fail) only [go_sem,seval];refine .q ?_;refine .vec 8 (by simp (disch:=first|exact za|fail) only [go_sem,seval];rfl) ?_;(try simp (disch:=first|exact za|fail) only [go_sem,seval]);refine .qt rfl ?_;simp (disch:=first|exact za|fail) only [go_sem,seval]
 obtain⟨β,hβ⟩ : ∃ β,β=X.n:=⟨_,rfl⟩
 have hXn:=hXL.n
 have hab:α < β:=by rw [hβ];exact Hp.lt hα
 rw [←hβ];refine .q ?_;refine .count (fun c env W=>env 6 = .vr α 5 1∧env 8 = .vr β (wdT c) 1∧env 9 = .p (i64 c)∧W.f α=some (.vec (cl (ym 1 zg) (zK s n)))∧W.f β=some (.vec (cl (ym 1 zg) (yx s n c)))∧LowE H W) 0 4 (by omega) ?_ ?_ ?_
 · refine⟨?_,?_,?_,?_,zk hβ,hXL.trans (.new _)⟩
   · simp (disch:=first|exact za|fail) only [go_sem,seval]
   · simp (disch:=first|exact za|fail) only [go_sem,seval];rfl
   · simp (disch:=first|exact za|fail) only [go_sem,seval]
   · rw [zb (by omega)];exact hα
 · rintro env W ⟨e6,e8,e9,h1,h2,hW⟩
   have hl4:(yx s n 4).length=wdT 4:=yZ 4;refine .qt rfl ?_;simp (disch:=first|exact za|fail) only [go_sem,seval,e9];refine .qF rfl ?_;refine .qt rfl ?_;simp (disch:=first|exact za|fail) only [go_sem,seval,e8];refine .q ?_;refine .retKeep Tryz.func58 (by rw [Tryz.results58]) (by simp (disch:=first|exact za|fail) only [go_sem,seval];rfl) ?_;(try simp (disch:=first|exact za|fail) only [go_sem,seval])
   exact⟨β,by rw [hl4],h2,by omega,hW⟩
 · rintro c env W hc0 hc ⟨e6,e8,e9,h1,h2,hW⟩ ihO
   have hw8:=zag c;have hwt:=zBM c;refine .qt rfl ?_;simp (disch:=first|exact za|fail) only [go_sem,seval,e9];refine .qT rfl ?_;refine .qt rfl ?_;simp (disch:=first|exact za|fail) only [go_sem,seval];refine .q ?_;refine .count (fun b env W=>env 6 = .vr α 5 1∧env 8 = .vr β (wdT c+b) 1∧env 9 = .p (i64 c)∧env 10 = .p (i64 b)∧W.f α=some (.vec (cl (ym 1 zg) (zK s n)))∧W.f β=some (.vec (cl (ym 1 zg) (yx s n c++(List.range b).map (zaX s n c))))∧LowE H W) 0 (zN c) (by omega) ?_ ?_ ?_
   · refine⟨?_,?_,?_,?_,h1,?_,hW⟩
     · simp (disch:=first|exact za|fail) only [go_sem,seval,e6]
     · simp (disch:=first|exact za|fail) only [go_sem,seval,e8]
     · simp (disch:=first|exact za|fail) only [go_sem,seval,e9]
     · simp (disch:=first|exact za|fail) only [go_sem,seval]
     · simpa using h2
   · rintro env W ⟨e6,e8,e9,e10,h1,h2,hW⟩
     refine .qt rfl ?_;simp (disch:=first|exact za|fail) only [go_sem,seval,e9,e10];refine CallK.of (fun R h=>zaE c hc _ R h) ?_;simp (disch:=first|exact za|fail) only [go_sem,seval];refine .qF rfl ?_;refine .qt rfl ?_;simp (disch:=first|exact za|fail) only [go_sem,seval,e9];refine ihO _ _ ⟨?_,?_,?_,h1,h2,hW⟩
     · simp (disch:=first|exact za|fail) only [go_sem,seval,e6]
     · simp (disch:=first|exact za|fail) only [go_sem,seval,e8];rfl
     · simp (disch:=first|exact za|fail) only [go_sem,seval]
   · rintro b env W hb0 hb ⟨e6,e8,e9,e10,h1,h2,hW⟩ ihM
     have hWn:=hW.n;have hbn:=Hp.lt h2;refine .qt rfl ?_;simp (disch:=first|exact za|fail) only [go_sem,seval,e9,e10];refine CallK.of (fun R h=>zaE c hc _ R h) ?_;simp (disch:=first|exact za|fail) only [go_sem,seval,e9,e10];refine .qT rfl ?_;refine .qt rfl ?_;simp (disch:=first|exact za|fail) only [go_sem,seval];refine .q ?_;refine .own 11 (by simp (disch:=first|exact za|fail) only [go_sem,seval];rfl) ?_;refine .qt rfl ?_;simp (disch:=first|exact za|fail) only [go_sem,seval];refine .q ?_;have hcv:nth (zK s n) c=zbn s n c:=zj0 (by omega)
     have hcl:(zbn s n c).length=n:=by simp [zbn]
     refine .count (fun i env V=>env 6 = .vr α 5 1∧env 8 = .vr β (wdT c+b) 1∧env 9 = .p (i64 c)∧env 10 = .p (i64 b)∧env 11 = .sl W.n i 1 (pl zg (zaX s i c b))∧env 12 = .p (i64 i)∧V=W.new (.tail i)) 0 n (by omega) ?_ ?_ ?_
     · refine⟨?_,?_,?_,?_,?_,?_,rfl⟩
       · simp (disch:=first|exact za|fail) only [go_sem,seval,e6]
       · simp (disch:=first|exact za|fail) only [go_sem,seval,e8]
       · simp (disch:=first|exact za|fail) only [go_sem,seval,e9]
       · simp (disch:=first|exact za|fail) only [go_sem,seval,e10]
       · simp (disch:=first|exact za|fail) only [go_sem,seval,zfT];rfl
       · simp (disch:=first|exact za|fail) only [go_sem,seval]
     · rintro env _ ⟨e6,e8,e9,e10,e11,e12,rfl⟩
       have h1':(W.new (.tail n)).f α=some (.vec (cl (ym 1 zg) (zK s n))):=by rw [zb (by omega)];exact h1
       have h2':(W.new (.tail n)).f β=some (.vec (cl (ym 1 zg) (yx s n c++(List.range b).map (zaX s n c)))):=by rw [zb (by omega)];exact h2
       have hWL:LowE H (W.new (.tail n)):=hW.trans (.new _)
       generalize W.new (.tail n)=V at *
       have hcl5:(cl (ym 1 zg) (zK s n)).length=5:=by rw [zcn,hc5]
       refine .qt rfl ?_;simp (disch:=first|exact za|fail) only [go_sem,seval,e6,e9,e12,h1',hcl5,hc5,hcv,hcl,zai];refine .qF rfl ?_
       have hlen:(cl (ym 1 zg) (yx s n c++(List.range b).map (zaX s n c))).length=wdT c+b:=by rw [zcn,List.length_append,yZ,List.length_map,List.length_range]
       have hap:cl (ym 1 zg) (yx s n c++(List.range b).map (zaX s n c))++[.p (.sl false 1 (pl zg (zaX s n c b)))]=cl (ym 1 zg) (yx s n c++(List.range (b+1)).map (zaX s n c)):=by
        rw [List.range_succ,List.map_append,←List.append_assoc,←zej (l:=yx s n c++(List.range b).map (zaX s n c))];rfl
       refine .qt rfl ?_;simp (disch:=first|exact za|fail) only [go_sem,seval,e8,e11,h2',hlen,hap];refine .qt rfl ?_;simp (disch:=first|exact za|fail) only [go_sem,seval,e10];refine ihM _ _ ⟨?_,?_,?_,?_,?_,by rw [zy rfl (Hp.lt h2'),List.range_succ],hWL.set _ (by omega)⟩
       · simp (disch:=first|exact za|fail) only [go_sem,seval,e6]
       · simp (disch:=first|exact za|fail) only [go_sem,seval];rfl
       · simp (disch:=first|exact za|fail) only [go_sem,seval,e9]
       · simp (disch:=first|exact za|fail) only [go_sem,seval]
       · rw [f_set_ne' (by omega)];exact h1'
     · rintro i env _ hi0 hi ⟨e6,e8,e9,e10,e11,e12,rfl⟩ ihI
       have h1':(W.new (.tail i)).f α=some (.vec (cl (ym 1 zg) (zK s n))):=by rw [zb (by omega)];exact h1
       have hcl5:(cl (ym 1 zg) (zK s n)).length=5:=by rw [zcn,hc5]
       have hel:nth (zbn s n c) i=elC s c i:=zd3 hi
       have hbl:(zaX s i c b).length=i:=by simp [zaX]
       refine .qt rfl ?_;simp (disch:=first|exact za|fail) only [go_sem,seval,e6,e9,e12,h1',hcl5,hc5,hcv,hcl,zai];refine .qT rfl ?_
       have hap:pl zg (zaX s i c b)++[zg ((elC s c i >>> b) &&& 1#64)]=pl zg (zaX s (i+1) c b):=by rw [zw6,←yn];rfl
       refine .qt rfl ?_;simp (disch:=first|exact za|fail) only [go_sem,seval,e6,e9,e10,e11,e12,h1',hcl5,hc5,hcv,hcl,zai,hel,hap,hbl];refine .qt rfl ?_;simp (disch:=first|exact za|fail) only [go_sem,seval,e12];refine ihI _ _ ⟨?_,?_,?_,?_,?_,?_,rfl⟩
       · simp (disch:=first|exact za|fail) only [go_sem,seval,e6]
       · simp (disch:=first|exact za|fail) only [go_sem,seval,e8]
       · simp (disch:=first|exact za|fail) only [go_sem,seval,e9]
       · simp (disch:=first|exact za|fail) only [go_sem,seval,e10]
       · simp (disch:=first|exact za|fail) only [go_sem,seval]
       · simp (disch:=first|exact za|fail) only [go_sem,seval]
end walks
end Go.Proofs.YthaoifcebimkfaaGreatDoor

namespace Go.Proofs.YthaoifcebimkfaaGreatDoor
open Go Go.AL

def zaG (s:Strm) (n:Nat):List (List U):=zK s n++yx s n 4
section walks
variable {G:Globs}
theorem zd4 {cs:List (List U)} : ∀ x∈pl (ym 1 zg) cs,x.cells.length=1:=fun x hx=>by
 simp only [pl,List.mem_map] at hx
 obtain⟨y,_,rfl⟩:=hx
 rfl
set_option maxHeartbeats 8000000 in
theorem zaU (s:Strm) (m:Nat) (hs:okS m s) (k n:Nat) (hk:k≤5) (hn:n=2 ^ k) (hl:s.l.length≤n) (H:Hp):ACall Tryz.prog G 16 [.p (stm s),.p (i64 k)] H (zFU (zaG s n) H):=by
 refine ACall.of_run (raw:=[]) Tryz.func16 rfl Tryz.ntmps16 (by simp) fun hbel => ?_
 refine .qt rfl ?_;simp (disch:=first|exact za|fail) only [go_sem,seval];refine .qt rfl ?_;simp (disch:=first|exact za|fail) only [go_sem,seval];refine CallK.ex (zeA s m hs k n hk hn hl _) ?_
 rintro _ X ⟨α,rfl,hα,hαn,hX⟩
 have hXL:LowE H X:=(LowE.new _).trans hX
 have hc5:(zK s n).length=5:=by simp [zK]
 rw [n_new'] at hαn;have hXs:=(hX.f H.n (by rw [n_new'];omega)).trans (zk rfl);have hXn:=hX.n;rw [n_new'] at hXn;simp (disch:=first|exact za|fail) only [go_sem,seval,hc5];refine .qt rfl ?_;simp (disch:=first|exact za|fail) only [go_sem,seval];refine .qF rfl ?_;refine .skip ?_;refine .qt rfl ?_;simp (disch:=first|exact za|fail) only [go_sem,seval,hXs];refine CallK.ex (zrN s m hs k n hk hn hl _) ?_
 rintro _ Y ⟨β,rfl,hβ,hβn,hY⟩
 have hYα:=(hY.f α (Hp.lt hα)).trans hα
 have hl4:(yx s n 4).length=24:=by rw [yZ];rfl
 have hYL:=hXL.trans hY;have haX:=Hp.lt hα;simp (disch:=first|exact za|fail) only [go_sem,seval,hl4];refine .q ?_;refine .frzV 8 (by simp (disch:=first|exact za|fail) only [go_sem,seval,hβ];rfl) (by simp (disch:=first|exact za|fail) only [go_sem,seval,hβ]<;>rfl) (xs:=pl (ym 1 zg) (yx s n 4)) (cs:=cl (ym 1 zg) (yx s n 4)) (by rw [zcv,zfd]) (by rw [zad,hl4]) zd4 ?_;(try simp (disch:=first|exact za|fail) only [go_sem,seval,hβ])
 have hYα2:(Y.set β .dead).f α=some (.vec (cl (ym 1 zg) (zK s n))):=by rw [f_set_ne' (by omega)];exact hYα
 have hYL2:LowE H (Y.set β .dead):=hYL.set _ (by omega)
 have hcl5:(cl (ym 1 zg) (zK s n)).length=5:=by rw [zcn,hc5]
 generalize Y.set β .dead=Z at *
 have hap:cl (ym 1 zg) (zK s n)++cl (ym 1 zg) (yx s n 4)=cl (ym 1 zg) (zaG s n):=zej;refine .qt rfl ?_;simp (disch:=first|exact za|fail) only [go_sem,seval,hYα2,hcl5,hap,hl4];refine .q ?_;refine .retKeep Tryz.func16 (by rw [Tryz.results16]) (by simp (disch:=first|exact za|fail) only [go_sem,seval];rfl) ?_;(try simp (disch:=first|exact za|fail) only [go_sem,seval])
 have h29:(zaG s n).length=29:=by unfold zaG;rw [List.length_append,hc5,hl4]
 exact⟨α,by rw [h29],zy rfl (Hp.lt hYα2),by omega,hYL2.set _ (by omega)⟩
end walks
end Go.Proofs.YthaoifcebimkfaaGreatDoor

namespace Go.Proofs.YthaoifcebimkfaaGreatDoor
open Go Go.AL

def fldL:List AV:=[.clo 147 [] [],.p (i64 4),.clo 148 [] [],.p (i64 8),.clo 149 [] [],.p (i64 4),.clo 150 [] [],.p (i64 8)]
def fld:AV := .agg fldL
def gnk (k:Nat):FuncId:=nth [147,148,149,150] k
theorem zFV:zav Tryz.prog 177 fld (.p (i64 0))=some (.agg [.clo 147 [] [],.p (i64 4)]):=by kernel_rfl
theorem zHs:enters Tryz.prog 147=true:=by kernel_rfl
theorem zFW:zav Tryz.prog 177 fld (.p (i64 1))=some (.agg [.clo 148 [] [],.p (i64 8)]):=by kernel_rfl
theorem zHt:enters Tryz.prog 148=true:=by kernel_rfl
theorem zFX:zav Tryz.prog 177 fld (.p (i64 2))=some (.agg [.clo 149 [] [],.p (i64 4)]):=by kernel_rfl
theorem zHu:enters Tryz.prog 149=true:=by kernel_rfl
theorem zFY:zav Tryz.prog 177 fld (.p (i64 3))=some (.agg [.clo 150 [] [],.p (i64 8)]):=by kernel_rfl
theorem zHv:enters Tryz.prog 150=true:=by kernel_rfl
theorem zj1 {k:Nat} (h:k < 4):zav Tryz.prog 177 fld (.p (i64 k))=some (.agg [.clo (gnk k) [] [],.p (i64 (zN k:Nat))]):=by
 have:k=0 ∨ k=1 ∨ k=2 ∨ k=3:=by omega
 rcases this with rfl | rfl | rfl | rfl
 · exact zFV
 · exact zFW
 · exact zFX
 · exact zFY
theorem zis {k:Nat} (h:k < 4):enters Tryz.prog (gnk k)=true:=by
 have:k=0 ∨ k=1 ∨ k=2 ∨ k=3:=by omega
 rcases this with rfl | rfl | rfl | rfl
 · exact zHs
 · exact zHt
 · exact zHu
 · exact zHv
section zcf
variable {a0 a1 a2 a3 a4 a5 a6 a7 x0 x1:AV} {f:FuncId} {x:PV}
theorem zFZ:zh (zu [.clo f [] [],.p x])=some [.clo f [] [],.p x]:=rfl
theorem zF0:setAt [a0,a1,a2,a3,a4,a5,a6,a7] 0 [x0,x1]=[x0,x1,a2,a3,a4,a5,a6,a7]:=rfl
theorem zF1:setAt [a0,a1,a2,a3,a4,a5,a6,a7] 2 [x0,x1]=[a0,a1,x0,x1,a4,a5,a6,a7]:=rfl
theorem zF2:setAt [a0,a1,a2,a3,a4,a5,a6,a7] 4 [x0,x1]=[a0,a1,a2,a3,x0,x1,a6,a7]:=rfl
theorem zF3:setAt [a0,a1,a2,a3,a4,a5,a6,a7] 6 [x0,x1]=[a0,a1,a2,a3,a4,a5,x0,x1]:=rfl
theorem zF4:zu [.clo 147 [] [],.p (i64 4),.clo 148 [] [],.p (i64 8),.clo 149 [] [],.p (i64 4),.clo 150 [] [],.p (i64 8)]=fld:=rfl
theorem zF5:zh fld=some fldL:=rfl
theorem zit:fldL.length=8:=rfl
theorem zsZ:zu (List.take 8 fldL)=fld:=rfl
theorem zog:zu fldL=fld:=rfl
end zcf
def zgQ (s:Strm) (n:Nat) (g:Nat → U):List U:=(List.range n).map fun i=>if i < s.l.length then g i else 0#64
def zjc (s:Strm) (n:Nat) (g:Nat → U) (i:Nat):List U:=(List.range n).map fun j=>if j < i then g j else 0#64
theorem zoh {s:Strm} {n:Nat} {g:Nat → U} {i:Nat}:(zjc s n g i).length=n:=by simp [zjc]
theorem zw8 {s:Strm} {n:Nat} {g:Nat → U}:zjc s n g 0=List.replicate n 0#64:=by
 apply List.ext_getElem<;>simp [zjc]
theorem zBN {s:Strm} {n:Nat} {g:Nat → U}:zjc s n g s.l.length=zgQ s n g:=rfl
theorem zw9 {s:Strm} {n:Nat} {g:Nat → U} {i:Nat} (h:i < n):(zjc s n g i).set i (g i)=zjc s n g (i+1):=by
 apply List.ext_getElem
 · simp [zjc]
 · intro j h1 h2;simp only [zjc,List.getElem_set,List.getElem_map,List.getElem_range];by_cases e:i=j
   · subst e;simp
   · rw [if_neg e];by_cases e2:j < i
     · rw [if_pos e2,if_pos (by omega)]
     · rw [if_neg e2,if_neg (by omega)]
section walks
variable {G:Globs}
theorem zgw (H:Hp) (R:AV → Hp → Prop) (h:R fld (H.new (.cells fldL))):ACall Tryz.prog G 112 [] H R:=by
 refine ACall.of_run (raw:=[]) Tryz.func112 rfl Tryz.ntmps112 (by simp) fun hbel => ?_
 refine .qt rfl ?_;simp (disch:=first|exact za|fail) only [go_sem,seval];refine .qt rfl ?_;simp (disch:=first|exact za|fail) only [go_sem,seval,zFZ,zF0,zF1,zF2,zF3,zF4,zF5,zit];refine .q ?_;refine .retKeep Tryz.func112 (by rw [Tryz.results112]) (by simp (disch:=first|exact za|fail) only [go_sem,seval,zit,zsZ,zog];rfl) ?_;(try simp (disch:=first|exact za|fail) only [go_sem,seval,zit,zsZ,zog]);exact h
theorem zxa (r:Rdg) (H:Hp) (R:AV → Hp → Prop) (h:R (.p (i64 (fR r 0))) H):ACall Tryz.prog G 147 [.p (rdg r)] H R:=by
 refine ACall.of_run (raw:=[]) Tryz.func147 rfl Tryz.ntmps147 (by simp) fun hbel => ?_
 refine .qt rfl ?_;simp (disch:=first|exact za|fail) only [go_sem,seval];refine .qt rfl ?_;simp (disch:=first|exact za|fail) only [go_sem,seval];refine .qr rfl Tryz.func147 (by rw [Tryz.results147]) ?_;simp (disch:=first|exact za|fail) only [go_sem,seval];exact h
theorem zxb (r:Rdg) (H:Hp) (R:AV → Hp → Prop) (h:R (.p (i64 (fR r 1))) H):ACall Tryz.prog G 148 [.p (rdg r)] H R:=by
 refine ACall.of_run (raw:=[]) Tryz.func148 rfl Tryz.ntmps148 (by simp) fun hbel => ?_
 refine .qt rfl ?_;simp (disch:=first|exact za|fail) only [go_sem,seval];refine .qt rfl ?_;simp (disch:=first|exact za|fail) only [go_sem,seval];refine .qr rfl Tryz.func148 (by rw [Tryz.results148]) ?_;simp (disch:=first|exact za|fail) only [go_sem,seval];exact h
theorem zxc (r:Rdg) (H:Hp) (R:AV → Hp → Prop) (h:R (.p (i64 (fR r 2))) H):ACall Tryz.prog G 149 [.p (rdg r)] H R:=by
 refine ACall.of_run (raw:=[]) Tryz.func149 rfl Tryz.ntmps149 (by simp) fun hbel => ?_
 refine .qt rfl ?_;simp (disch:=first|exact za|fail) only [go_sem,seval];refine .qt rfl ?_;simp (disch:=first|exact za|fail) only [go_sem,seval];refine .qr rfl Tryz.func149 (by rw [Tryz.results149]) ?_;simp (disch:=first|exact za|fail) only [go_sem,seval];exact h
theorem zxd (r:Rdg) (H:Hp) (R:AV → Hp → Prop) (h:R (.p (i64 (fR r 3))) H):ACall Tryz.prog G 150 [.p (rdg r)] H R:=by
 refine ACall.of_run (raw:=[]) Tryz.func150 rfl Tryz.ntmps150 (by simp) fun hbel => ?_
 refine .qt rfl ?_;simp (disch:=first|exact za|fail) only [go_sem,seval];refine .qt rfl ?_;simp (disch:=first|exact za|fail) only [go_sem,seval];refine .qr rfl Tryz.func150 (by rw [Tryz.results150]) ?_;simp (disch:=first|exact za|fail) only [go_sem,seval];exact h
theorem zoi (r:Rdg) (k:Nat) (hk:k < 4) (H:Hp) (R:AV → Hp → Prop) (h:R (.p (i64 (fR r k))) H):ACall Tryz.prog G (gnk k) [.p (rdg r)] H R:=by
 have:k=0 ∨ k=1 ∨ k=2 ∨ k=3:=by omega
 rcases this with rfl | rfl | rfl | rfl
 · exact zxa r H R h
 · exact zxb r H R h
 · exact zxc r H R h
 · exact zxd r H R h
set_option maxHeartbeats 8000000 in
theorem ziu (s:Strm) (m:Nat) (hs:okS m s) (k:Int) (hk:k≤5 ∨ 16 < k) (H:Hp) (R:AV → Hp → Prop) (h:R (.p (i64 (zw2 s k))) H):ACall Tryz.prog G 111 [.p (stm s),.p (i64 k)] H R:=by
 refine ACall.of_run (raw:=[]) Tryz.func111 rfl Tryz.ntmps111 (by simp) fun hbel => ?_
 unfold zw2 at h;refine .qt rfl ?_;simp (disch:=first|exact za|fail) only [go_sem,seval]
 rcases Classical.em (k < 0) with k1 | k1
 · rw [if_pos (.inl k1)] at h;refine .qt rfl ?_;simp (disch:=first|exact za|fail) only [go_sem,seval];refine .qT rfl ?_;refine .qt rfl ?_;simp (disch:=first|exact za|fail) only [go_sem,seval];refine .qr rfl Tryz.func111 (by rw [Tryz.results111]) ?_;simp (disch:=first|exact za|fail) only [go_sem,seval];exact h
 rcases Classical.em (16 < k) with k2 | k2
 · rw [if_pos (.inr k2)] at h;refine .qt rfl ?_;simp (disch:=first|exact za|fail) only [go_sem,seval];refine .qT rfl ?_;refine .qt rfl ?_;simp (disch:=first|exact za|fail) only [go_sem,seval];refine .qr rfl Tryz.func111 (by rw [Tryz.results111]) ?_;simp (disch:=first|exact za|fail) only [go_sem,seval];exact h
 rw [if_neg (by omega)] at h
 obtain⟨kn,rfl⟩ : ∃ kn:Nat,k=kn:=⟨k.toNat,by omega⟩
 obtain⟨n,hn⟩ : ∃ n,n=2 ^ kn:=⟨_,rfl⟩
 have hsh:=zlv (by omega:kn≤5) hn;rw [Int.toNat_natCast,←hn] at h;have hl:=hs.len
 rcases Classical.em (n < s.l.length) with h2 | h2
 · rw [if_pos h2] at h;refine .qt rfl ?_;simp (disch:=first|exact za|fail) only [go_sem,seval];refine .qF rfl ?_;refine .q ?_;refine .open [] follows (by kernel_rfl) ?_;simp (disch:=first|exact za|fail) only [go_sem,seval,hsh];refine .qT rfl ?_;refine .qt rfl ?_;simp (disch:=first|exact za|fail) only [go_sem,seval];refine .qr rfl Tryz.func111 (by rw [Tryz.results111]) ?_;simp (disch:=first|exact za|fail) only [go_sem,seval];exact h
 · rw [if_neg h2] at h;refine .qt rfl ?_;simp (disch:=first|exact za|fail) only [go_sem,seval];refine .qF rfl ?_;refine .q ?_;refine .open [] follows (by kernel_rfl) ?_;simp (disch:=first|exact za|fail) only [go_sem,seval,hsh];refine .qF rfl ?_;refine .qt rfl ?_;simp (disch:=first|exact za|fail) only [go_sem,seval];refine .qr rfl Tryz.func111 (by rw [Tryz.results111]) ?_;simp (disch:=first|exact za|fail) only [go_sem,seval];exact h
set_option maxHeartbeats 8000000 in
set_option maxRecDepth 20000 in
theorem zd5 (s:Strm) (m:Nat) (hs:okS m s) (k n:Nat) (hk:k≤5) (hn:n=2 ^ k) (hl:s.l.length≤n) (F:FuncId) (fvs:List AV) (hfw:fvs.map AV.weak=fvs) (hen:enters Tryz.prog F=true) (g:Nat → U) (H:Hp)
 (hf : ∀ i,i < s.l.length → ∀ (W:Hp),LowE H W → ∀ (R:AV → Hp → Prop),R (.p (zg (g i))) W → ACall Tryz.prog G F (.p (i64 i) :: fvs) W R)
 (R:AV → Hp → Prop) (h:R (.p (.sl false 1 (pl zg (zgQ s n g)))) H):ACall Tryz.prog G 113 [.p (stm s),.p (i64 k),.clo F [] fvs] H R:=by
 refine ACall.of_run (raw:=[]) Tryz.func113 rfl Tryz.ntmps113 (by simp) fun hbel => ?_
 have hsh:=zlv hk hn
 have hn32:n≤32:=by
  have:2 ^ k≤2 ^ 5:=Nat.pow_le_pow_right (by decide) hk
  omega
 have hcl:=zoh (s:=s) (n:=n) (g:=g) (i:=s.l.length);refine .qt rfl ?_;simp (disch:=first|exact za|fail) only [go_sem,seval];refine .qt rfl ?_;simp (disch:=first|exact za|fail) only [go_sem,seval,hsh];refine .qt rfl ?_;simp (disch:=first|exact za|fail) only [go_sem,seval];rw [←zw8 (s:=s) (g:=g)];refine .q ?_;refine .loopH [2,7,14] (fun i=>[(15,.p (i64 i))]) (fun i=>(H.new (.cells [.p (.sl false 4 (pl rdg s.l)),.p (.sl false 1 (pl bo s.gone))])).new (.cells (cl zg (zjc s n g i)))) (fun i=>True) (0) (s.l.length) (by omega) ?_ (by first | rfl | (simp (disch:=first|exact za|fail) only [go_sem,seval]<;>rfl)) ?_ ?_ ?_
 · simp (disch:=first|exact za|fail) only [go_sem,seval]<;>(repeat' (first | rfl | refine And.intro ?_ ?_))
 · exact trivial
 intro env E hQ;simp (disch:=first|exact za|fail) only [go_sem,seval] at E
 rotate_left 1
 intro i env hi0 hi E hQ ihE;simp (disch:=first|exact za|fail) only [go_sem,seval] at E
 rotate_left 1
 · rw [zBN]
   have hcl2:(zgQ s n g).length=n:=by simp [zgQ]
   refine .qt rfl ?_;simp (disch:=first|exact za|fail) only [go_sem,seval,E];refine .qF rfl ?_
   have htk:((zgQ s n g).drop 0).take n=zgQ s n g:=by rw [List.drop_zero];exact List.take_of_length_le (by omega)
   refine .q ?_;refine .frzS 7 (by simp (disch:=first|exact za|fail) only [go_sem,seval,E,hcl2,htk];rfl) (by simp (disch:=first|exact za|fail) only [go_sem,seval,E,hcl2,htk]<;>rfl) (fun _=>rfl) (by first | exact za | fail) ?_;(try simp (disch:=first|exact za|fail) only [go_sem,seval,E,hcl2,htk]);refine .qt rfl ?_;simp (disch:=first|exact za|fail) only [go_sem,seval,E];refine .qr rfl Tryz.func113 (by rw [Tryz.results113]) (hx:=by simp (disch:=first|exact za|fail) only [go_sem,seval,E];rfl) ?_;simp (disch:=first|exact za|fail) only [go_sem,seval,E];exact h
 · have hfl:=zoh (s:=s) (n:=n) (g:=g) (i:=i)
   have hin:i < n:=by omega
   have hset:=zw9 (s:=s) (g:=g) hin;refine .qt rfl ?_;simp (disch:=first|exact za|fail) only [go_sem,seval,E];refine .qT rfl ?_;refine .qt rfl ?_;simp (disch:=first|exact za|fail) only [go_sem,seval,E];refine .qt rfl ?_;simp (disch:=first|exact za|fail) only [go_sem,seval,E,hen,hfw];refine CallK.of (fun R h=>hf i hi _ ((LowE.new _).trans (.new _)) R h) ?_;simp (disch:=first|exact za|fail) only [go_sem,seval,E,hfl,hfw];rw [hset];refine .qt rfl ?_;simp (disch:=first|exact za|fail) only [go_sem,seval,E]
   first | (refine ihE _ _ ?_ trivial ?_) | (refine .z rfl ?_;refine ihE _ _ ?_ trivial ?_) | (refine .z rfl ?_;refine .z rfl ?_;refine ihE _ _ ?_ trivial ?_) | (refine .z rfl ?_;refine .z rfl ?_;refine .z rfl ?_;refine ihE _ _ ?_ trivial ?_)
   · simp (disch:=first|exact za|fail) only [go_sem,seval,E]<;>(repeat' (first | rfl | refine And.intro ?_ ?_))
   · first | rfl | (simp (disch:=first|exact za|fail) only [go_sem,seval,E]<;>(try rfl))
end walks
end Go.Proofs.YthaoifcebimkfaaGreatDoor

namespace Go.Proofs.YthaoifcebimkfaaGreatDoor
open Go Go.AL

section walks
variable {G:Globs}
set_option maxHeartbeats 8000000 in
theorem zrO (s:Strm) (c:Nat) (hc:c < 4) (i:Nat) (hi:i < s.l.length) (cb sb:Nat) (H:Hp) (hcb:H.f cb=some (.cells [.clo (gnk c) [] [],.p (i64 (zN c:Nat))])) (hsb:H.f sb=some (.cells [.p (.sl false 4 (pl rdg s.l)),.p (.sl false 1 (pl bo s.gone))]))
 (R:AV → Hp → Prop) (h:R (.p (zg (BitVec.ofInt 64 (fR (nth s.l i) c)))) H):ACall Tryz.prog G 114 [.p (i64 i),.ptr cb 0,.ptr sb 0] H R:=by
 refine ACall.of_run (raw:=[]) Tryz.func114 rfl Tryz.ntmps114 (by simp) fun hbel => ?_
 have hen:=zis hc;refine .qt rfl ?_;simp (disch:=first|exact za|fail) only [go_sem,seval];refine .q ?_;refine .open [] follows (by kernel_rfl) ?_;simp (disch:=first|exact za|fail) only [go_sem,seval,hcb,hsb,hen];refine CallD.still (fun R h=>zoi (nth s.l i) c hc _ R h) ?_;simp (disch:=first|exact za|fail) only [go_sem,seval];refine .qr rfl Tryz.func114 (by rw [Tryz.results114]) ?_;simp (disch:=first|exact za|fail) only [go_sem,seval];exact h
set_option maxHeartbeats 8000000 in
theorem zrP (s:Strm) (i:Nat) (hi:i < s.gone.length) (sb:Nat) (H:Hp) (hsb:H.f sb=some (.cells [.p (.sl false 4 (pl rdg s.l)),.p (.sl false 1 (pl bo s.gone))]))
 (R:AV → Hp → Prop) (h:R (.p (zg (if nth s.gone i then 0#64 else 1#64))) H):ACall Tryz.prog G 115 [.p (i64 i),.ptr sb 0] H R:=by
 refine ACall.of_run (raw:=[]) Tryz.func115 rfl Tryz.ntmps115 (by simp) fun hbel => ?_
 refine .qt rfl ?_;simp (disch:=first|exact za|fail) only [go_sem,seval]
 cases hg:nth s.gone i with
 | true =>
  rw [hg] at h;refine .qt rfl ?_;simp (disch:=first|exact za|fail) only [go_sem,seval,hsb];refine .q ?_;refine .ifT (by simp (disch:=first|exact za|fail) only [go_sem,seval,hg]) ?_;refine .qt rfl ?_;simp (disch:=first|exact za|fail) only [go_sem,seval];refine .qr rfl Tryz.func115 (by rw [Tryz.results115]) ?_;simp (disch:=first|exact za|fail) only [go_sem,seval];exact h
 | false =>
  rw [hg] at h;refine .qt rfl ?_;simp (disch:=first|exact za|fail) only [go_sem,seval,hsb];refine .q ?_;refine .ifF (by simp (disch:=first|exact za|fail) only [go_sem,seval,hg]) ?_;refine .skip ?_;refine .qt rfl ?_;simp (disch:=first|exact za|fail) only [go_sem,seval];refine .qr rfl Tryz.func115 (by rw [Tryz.results115]) ?_;simp (disch:=first|exact za|fail) only [go_sem,seval];exact h
set_option maxHeartbeats 8000000 in
theorem zxe (s:Strm) (c:Nat) (hc:c < 4) (b i:Nat) (hb:b < 8) (hi:i < s.l.length) (cb sb kb:Nat) (H:Hp) (hcb:H.f cb=some (.cells [.clo (gnk c) [] [],.p (i64 (zN c:Nat))])) (hsb:H.f sb=some (.cells [.p (.sl false 4 (pl rdg s.l)),.p (.sl false 1 (pl bo s.gone))])) (hkb:H.f kb=some (.cells [.p (i64 b)]))
 (R:AV → Hp → Prop) (h:R (.p (zg ((BitVec.ofInt 64 (fR (nth s.l i) c) >>> b) &&& 1#64))) H):ACall Tryz.prog G 116 [.p (i64 i),.ptr cb 0,.ptr sb 0,.ptr kb 0] H R:=by
 refine ACall.of_run (raw:=[]) Tryz.func116 rfl Tryz.ntmps116 (by simp) fun hbel => ?_
 have hen:=zis hc;refine .qt rfl ?_;simp (disch:=first|exact za|fail) only [go_sem,seval];refine .q ?_;refine .open [] follows (by kernel_rfl) ?_;simp (disch:=first|exact za|fail) only [go_sem,seval,hcb,hsb,hkb,hen];refine CallD.still (fun R h=>zoi (nth s.l i) c hc _ R h) ?_;simp (disch:=first|exact za|fail) only [go_sem,seval,hkb];refine .qr rfl Tryz.func116 (by rw [Tryz.results116]) ?_;simp (disch:=first|exact za|fail) only [go_sem,seval];exact h
theorem zF6 {s:Strm} {n c:Nat} (hc:c < 4):zgQ s n (fun i=>BitVec.ofInt 64 (fR (nth s.l i) c))=zbn s n c:=by
 unfold zgQ zbn
 refine List.map_congr_left fun i _ => ?_
 unfold elC;rw [if_pos hc]
theorem zF7 {s:Strm} {n:Nat}:zgQ s n (fun i=>if nth s.gone i then 0#64 else 1#64)=zbn s n 4:=by
 unfold zgQ zbn
 refine List.map_congr_left fun i _ => ?_
 unfold elC;rw [if_neg (by decide : ¬ 4 < 4)]
theorem zF8 {s:Strm} {n c b:Nat} (hc:c < 4):zgQ s n (fun i=>(BitVec.ofInt 64 (fR (nth s.l i) c) >>> b) &&& 1#64)=zaX s n c b:=by
 unfold zgQ zaX
 refine List.map_congr_left fun i _ => ?_
 unfold elC;rw [if_pos hc]
 split
 · rfl
 · simp
set_option maxHeartbeats 8000000 in
set_option maxRecDepth 20000 in
theorem zjd (s:Strm) (m:Nat) (hs:okS m s) (k n:Nat) (hk:k≤5) (hn:n=2 ^ k) (hl:s.l.length≤n) (H:Hp) (R:AV → Hp → Prop) (h:R (.tup [.p (.sl false 1 (pl (ym 1 zg) (zK s n))),.p (i64 0)]) H):ACall Tryz.prog G 54 [.p (stm s),.p (i64 k)] H R:=by
 refine ACall.of_run (raw:=[]) Tryz.func54 rfl Tryz.ntmps54 (by simp) fun hbel => ?_
 have he:zw2 s k=0:=by
  unfold zw2;rw [if_neg (by omega),Int.toNat_natCast,←hn,if_neg (by omega)]
 have hc5:(zK s n).length=5:=by simp [zK]
 refine .qt rfl ?_;simp (disch:=first|exact za|fail) only [go_sem,seval];refine .qt rfl ?_;simp (disch:=first|exact za|fail) only [go_sem,seval];refine CallK.of (fun R h=>ziu s m hs k (by omega) _ R h) ?_;simp (disch:=first|exact za|fail) only [go_sem,seval,he];refine .qt rfl ?_;simp (disch:=first|exact za|fail) only [go_sem,seval];refine .qF rfl ?_;refine .skip ?_;refine .qt rfl ?_;simp (disch:=first|exact za|fail) only [go_sem,seval];refine .q ?_;refine .own 7 (by simp (disch:=first|exact za|fail) only [go_sem,seval];rfl) ?_;refine .qt rfl ?_;simp (disch:=first|exact za|fail) only [go_sem,seval];refine CallK.of (fun R h=>zgw _ R h) ?_;simp (disch:=first|exact za|fail) only [go_sem,seval];refine .q ?_;refine .count (fun c env W=>env 1 = .p (i64 k)∧env 2 = .ptr H.n 0∧env 7 = .sl (H.n+1) c 1 (pl (ym 1 zg) ((zK s n).take c))∧env 16=fld∧env 17 = .p (i64 c)∧W.f H.n=some (.cells [.p (.sl false 4 (pl rdg s.l)),.p (.sl false 1 (pl bo s.gone))])∧W.f (H.n+1)=some (.tail c)∧H.n+3≤W.n∧LowE H W) 0 4 (by omega) ?_ ?_ ?_
 · refine⟨?_,?_,?_,?_,?_,?_,?_,?_,((LowE.new _).trans (.new _)).trans (.new _)⟩
   · simp (disch:=first|exact za|fail) only [go_sem,seval]
   · simp (disch:=first|exact za|fail) only [go_sem,seval]
   · simp (disch:=first|exact za|fail) only [go_sem,seval,zfT,List.take_zero]
   · simp (disch:=first|exact za|fail) only [go_sem,seval]
   · simp (disch:=first|exact za|fail) only [go_sem,seval]
   · simp (disch:=first|exact za|fail) only [go_sem,seval]
   · simp (disch:=first|exact za|fail) only [go_sem,seval]
   · simp only [n_new'];omega
 · rintro env W ⟨e1,e2,e7,e16,e17,h1,h2,hWn,hW⟩
   have hw:([.ptr H.n 0]:List AV).map AV.weak=[.ptr H.n 0]:=rfl
   have hen:enters Tryz.prog 115=true:=by kernel_rfl
   have hap:pl (ym 1 zg) ((zK s n).take 4)++[.sl false 1 (pl zg (zbn s n 4))]=pl (ym 1 zg) (zK s n):=by
    have h5:zK s n=(zK s n).take 4++[zbn s n 4]:=rfl
    conv=>rhs;rw [h5,←yn]
    rfl
   have hbel:Bel H.n W:=hW.bel hbel;refine .qt rfl ?_;simp (disch:=first|exact za|fail) only [go_sem,seval,e17];refine .qF rfl ?_;refine .qt rfl ?_;simp (disch:=first|exact za|fail) only [go_sem,seval,e1,e2,e7,h1];refine CallK.of (fun R h=>zd5 s m hs k n hk hn hl 115 [.ptr H.n 0] hw hen (fun i=>if nth s.gone i then 0#64 else 1#64) _ (fun i hi V hV R h=>zrP s i (by rw [hs.gl];exact hi) H.n V ((hV.f H.n (by omega)).trans h1) R h) R h) ?_;simp (disch:=first|exact za|fail) only [go_sem,seval,h2,zF7,hap,hc5];refine .qr rfl Tryz.func54 (by rw [Tryz.results54]) ?_;simp (disch:=first|exact za|fail) only [go_sem,seval];rw [hW.back];exact h
 · rintro c env W hc0 hc ⟨e1,e2,e7,e16,e17,h1,h2,hWn,hW⟩ ihO
   have hfi:=zj1 hc;have hw:([.ptr W.n 0,.ptr H.n 0]:List AV).map AV.weak=[.ptr W.n 0,.ptr H.n 0]:=rfl
   have hen:enters Tryz.prog 114=true:=by kernel_rfl
   have hap:pl (ym 1 zg) ((zK s n).take c)++[.sl false 1 (pl zg (zbn s n c))]=pl (ym 1 zg) ((zK s n).take (c+1)):=by
    have hlt:c < (zK s n).length:=by omega
    rw [List.take_succ_eq_append_getElem hlt,←yn]
    congr 1
    simp [zK,pl,ym]
   refine .qt rfl ?_;simp (disch:=first|exact za|fail) only [go_sem,seval,e17];refine .qT rfl ?_;refine .qt rfl ?_;simp (disch:=first|exact za|fail) only [go_sem,seval,e16,e17,hfi]
   have h1':(W.new (.cells [.clo (gnk c) [] [],.p (i64 (zN c:Nat))])).f H.n=some (.cells [.p (.sl false 4 (pl rdg s.l)),.p (.sl false 1 (pl bo s.gone))]):=by rw [zb (by omega)];exact h1
   have h2':(W.new (.cells [.clo (gnk c) [] [],.p (i64 (zN c:Nat))])).f (H.n+1)=some (.tail c):=by rw [zb (by omega)];exact h2
   have h3':(W.new (.cells [.clo (gnk c) [] [],.p (i64 (zN c:Nat))])).f W.n=some (.cells [.clo (gnk c) [] [],.p (i64 (zN c:Nat))]):=zk rfl;have hWL:LowE H (W.new (.cells [.clo (gnk c) [] [],.p (i64 (zN c:Nat))])):=hW.trans (.new _);have hVn:(W.new (.cells [.clo (gnk c) [] [],.p (i64 (zN c:Nat))])).n=W.n+1:=n_new'
   generalize W.new (.cells [.clo (gnk c) [] [],.p (i64 (zN c:Nat))])=V at *
   refine .qt rfl ?_;simp (disch:=first|exact za|fail) only [go_sem,seval,e1,e2,e7,h1'];refine CallK.of (fun R h=>zd5 s m hs k n hk hn hl 114 [.ptr W.n 0,.ptr H.n 0] hw hen (fun i=>BitVec.ofInt 64 (fR (nth s.l i) c)) _ (fun i hi U hU R h=>zrO s c hc i hi W.n H.n U ((hU.f W.n (by omega)).trans h3') ((hU.f H.n (by omega)).trans h1') R h) R h) ?_;simp (disch:=first|exact za|fail) only [go_sem,seval,h2',zF6 hc,hap,hc5];refine .qt rfl ?_;simp (disch:=first|exact za|fail) only [go_sem,seval,e17];refine ihO _ _ ⟨?_,?_,?_,?_,?_,?_,zy rfl (by omega),by rw [n_set'];omega,hWL.set _ (by omega)⟩
   · simp (disch:=first|exact za|fail) only [go_sem,seval,e1]
   · simp (disch:=first|exact za|fail) only [go_sem,seval,e2]
   · simp (disch:=first|exact za|fail) only [go_sem,seval]
   · simp (disch:=first|exact za|fail) only [go_sem,seval,e16]
   · simp (disch:=first|exact za|fail) only [go_sem,seval]
   · rw [f_set_ne' (by omega)];exact h1'
end walks
end Go.Proofs.YthaoifcebimkfaaGreatDoor

namespace Go.Proofs.YthaoifcebimkfaaGreatDoor
open Go Go.AL Go.Proofs Go.Shelf

def renC:Ren:=⟨fun n=>if n=4 then 117 else n,fun n=>if n=25 then 27 else if n=22 then 43 else if n=20 then 20 else if n=9 then 9 else if n=4 then 4 else if n=3 then 3 else if n=0 then 0 else n,fun n=>n⟩

theorem zrQ:Lays8.n4 Tryz.prog renC where
  mixed:=follows
  f4 := ⟨"slices.Grow[[][]uint64,[]uint64]", by decide, by kernel_rfl⟩
  t0:=Tryz.underlying0
  a0:=fun w=>by kernel_rfl
  z0:=fun w=>by kernel_rfl
  v0:=fun w=>by kernel_rfl
  t3:=Tryz.underlying3
  a3:=fun w=>by kernel_rfl
  z3:=fun w=>by kernel_rfl
  v3:=fun w=>by kernel_rfl
  t4:=Tryz.underlying4
  a4:=fun w=>by kernel_rfl
  z4:=fun w=>by kernel_rfl
  v4:=fun w=>by kernel_rfl
  t9:=Tryz.underlying9
  a9:=fun w=>by kernel_rfl
  z9:=fun w=>by kernel_rfl
  v9:=fun w=>by kernel_rfl
  t20:=Tryz.underlying20
  a20:=fun w=>by kernel_rfl
  z20:=fun w=>by kernel_rfl
  v20:=fun w=>by kernel_rfl
  t22:=Tryz.underlying43
  a22:=fun w=>by kernel_rfl
  z22:=fun w=>by kernel_rfl
  v22:=fun w=>by kernel_rfl

theorem zG1:Tryz.prog.info? 27=some Tryz.t27:=by kernel_rfl

theorem zrR {G:Globs} (n:Nat) (hn0:0 < n) (hn:n≤1000000) (H:Hp) (R:AV → Hp → Prop) (h:R (.sl H.n 0 1 []) (H.new (.tail 0))) :
 ACall Tryz.prog G 117 [.p (.s (.slice none 0 0)),.p (i64 n)] H R:=by
 intro σ w vs hr hvs;have hs:vs.size=2:=hvs.1;have r0:=hvs.2 0 _ vs[0] rfl (by simp);have r1:=hvs.2 1 _ vs[1] rfl (by simp)
 have e1:vs[1] = .int .i64 n:=by
  generalize vs[1]=v at r1
  cases r1 with | p r=>cases r;rfl
 obtain⟨base,e0⟩ : ∃ base,vs[0] = .slice base 0 0:=by
  generalize vs[0]=v at r0
  cases r0 with | p r =>
  cases r;exact⟨none,rfl⟩
 have hv:vs = #[.slice base 0 0,.int .i64 n]:=by
  apply Array.ext
  · simp [hs]
  · intro i h1 h2
    have:i=0 ∨ i=1:=by simp at h2;omega
    rcases this with rfl | rfl
    · simpa using e0
    · simpa using e1
 have hc:=Any8.slices_Grow_grow zrQ Tryz.t27 (.slice none 0 0) zG1 rfl (by decide) base 0 0 n [] w (Nat.le_refl _) (by omega) (by show (0+n)*24≤_;omega) (by omega) rfl (fun _=>rfl) (by simp);rw [hv];refine Calls.mono hc ?_
 rintro e w' ⟨rfl,rfl⟩
 generalize hC:(([]:List Value).toArray++Builtin.zeroCells (Value.slice none 0 0).cells (0+n - 0)++Builtin.zeroCells (Value.slice none 0 0).cells (grownCap w (0+n) 0 (renC.t 25) - (0+n)))=C
 have hCs:grownCap w (0+n) 0 (renC.t 25)≤C.size:=by
  rw [←hC];simp [Builtin.zeroCells,Value.cells];omega
 have hmax:grownCap w (0+n) 0 (renC.t 25)≤maxLen:=grownCap_le_maxLen w _ _ _ (by unfold maxLen;omega)
 generalize grownCap w (0+n) 0 (renC.t 25)=cap at hCs hmax
 obtain⟨h1,h2⟩:=zaa hr (w':=w.drew.alloc (.cells C (renC.t 25))) (by show w.drew.heap.size≤_;simp) (fun g hg=>heap_alloc_old w.drew _ hg) rfl rfl
  (some (w.heap.size,0,C.size)) (fun g o s hh=>by cases hh;exact⟨Nat.le_refl _,_,_,heap_alloc_new w.drew _,rfl⟩)
 refine⟨_,_,_,_,h,rfl,h1,.sl ?_ ⟨by simp [Hp.n_new],fun k0 d hk0 => ?_⟩,h2⟩
 · exact .sl false _ [] _ 0 _ (fun _=>undef) (by simp) ⟨by simp,hmax⟩ (by simp) (by simp) (by simp [flat])
 · simp [Hp.f_new] at hk0
   exact⟨by omega,fun _ => .inr ⟨w.heap.size,0,0,cap,C.size,by simp,by simp [Gh.withT],by omega⟩⟩

def pcc (l:List (List U)):PV := .sl false 1 (pl (ym 1 zg) l)
theorem zj2 (l:List (List U)):(pcc l).cells=[pcc l]:=rfl
theorem zs0 (l:List (List U)):AV.p (pcc l) = .p (.sl false 1 (pl (ym 1 zg) l)):=rfl
def zd6 (ps:List (List (List U))):Nat → Nat
 | 0=>0
 | i+1=>zd6 ps i+(nth ps i).length
def zrS (ps:List (List (List U))):Nat → List (List U)
 | 0=>[]
 | i+1=>zrS ps i++nth ps i
theorem zBO (ps:List (List (List U))) (i:Nat):(zrS ps i).length=zd6 ps i:=by
 induction i with
 | zero=>rfl
 | succ i ih=>simp [zrS,zd6,ih]
theorem zj3 (ps:List (List (List U))) {i j:Nat} (h:i≤j):zd6 ps i≤zd6 ps j:=by
  induction j with
  | zero => have : i = 0 := by omega
            subst this;exact Nat.le_refl _
  | succ j ih =>
    by_cases e:i=j+1
    · rw [e];exact Nat.le_refl _
    · have:=ih (by omega);simp only [zd6];omega

set_option maxHeartbeats 8000000 in
theorem zlw {G:Globs} (ps:List (List (List U))) (hn:ps.length≤1000) (h0:0 < zd6 ps ps.length) (h1:zd6 ps ps.length≤1000000) (H:Hp) (R:AV → Hp → Prop) (h:R (.p (.sl false 1 (pl (ym 1 zg) (zrS ps ps.length)))) H) :
 ACall Tryz.prog G 56 [.p (.sl false 1 (pl pcc ps))] H R:=by
 refine ACall.of_run (raw:=[117]) Tryz.func56 rfl Tryz.ntmps56 (by simp) fun hbel => ?_
 refine .qt rfl ?_;simp (disch:=first|exact za|fail) only [go_sem,seval];refine .qt rfl ?_;simp (disch:=first|exact za|fail) only [go_sem,seval];refine .qt rfl ?_;simp (disch:=first|exact za|fail) only [go_sem,seval];refine .q ?_;refine .count (fun i env H'=>env 0 = .p (.sl false 1 (pl pcc ps))∧env 3 = .p (i64 (zd6 ps i))∧env 9 = .p (.sl false 1 (pl pcc ps))∧env 10 = .p (i64 ps.length)∧env 11 = .p (i64 i)∧H'=H) 0 ps.length (by omega) ?_ ?_ ?_
 · simp (disch:=first|exact za|fail) only [go_sem,seval];rfl
 · intro env H' ⟨e0,e3,e9,e10,e11,eH⟩;subst eH;refine .qt rfl ?_;simp (disch:=first|exact za|fail) only [go_sem,seval,e10,e11];refine .qF rfl ?_;refine .qt rfl ?_;simp (disch:=first|exact za|fail) only [go_sem,seval,e3];refine CallK.of (fun R h=>zrR _ h0 (by omega) _ R h) ?_;simp (disch:=first|exact za|fail) only [go_sem,seval];refine .qt rfl ?_;simp (disch:=first|exact za|fail) only [go_sem,seval,e0];refine .q ?_;refine .count (fun i env H2=>env 6 = .sl H'.n i 1 (pl (ym 1 zg) (zrS ps i))∧env 25 = .p (.sl false 1 (pl pcc ps))∧env 26 = .p (i64 ps.length)∧env 27 = .p (i64 i)∧H2=H'.new (.tail i)) 0 ps.length (by omega) ?_ ?_ ?_
   · simp (disch:=first|exact za|fail) only [go_sem,seval];rfl
   · intro env H2 ⟨e6,e25,e26,e27,eH⟩;subst eH;refine .qt rfl ?_;simp (disch:=first|exact za|fail) only [go_sem,seval,e26,e27];refine .qF rfl ?_;refine .qt rfl ?_;simp (disch:=first|exact za|fail) only [go_sem,seval,e6];refine .qr rfl Tryz.func56 (by rw [Tryz.results56]) ?_;simp (disch:=first|exact za|fail) only [go_sem,seval];exact h
   · intro i env H2 _ hi ⟨e6,e25,e26,e27,eH⟩ ih;subst eH;have hm:=zj3 ps (show i+1≤ps.length by omega);have hs:zd6 ps (i+1)=zd6 ps i+(nth ps i).length:=rfl;have hcl:(zrS ps i).length=zd6 ps i:=zBO ps i;refine .qt rfl ?_;simp (disch:=first|exact za|fail) only [go_sem,seval,e26,e27];refine .qT rfl ?_;refine .qt rfl ?_;simp (disch:=first|exact za|fail) only [go_sem,seval,e25,e27,zj2,zs0];refine .qt rfl ?_;simp (disch:=first|exact za|fail) only [go_sem,seval,e6];refine .qt rfl ?_;simp (disch:=first|exact za|fail) only [go_sem,seval,e27];refine ih _ _ ?_;simp (disch:=first|exact za|fail) only [go_sem,seval,e6,e25,e26,e27];rfl
 · intro i env H' _ hi ⟨e0,e3,e9,e10,e11,eH⟩ ih;subst eH;have hm:=zj3 ps (show i+1≤ps.length by omega);have hs:zd6 ps (i+1)=zd6 ps i+(nth ps i).length:=rfl;refine .qt rfl ?_;simp (disch:=first|exact za|fail) only [go_sem,seval,e10,e11];refine .qT rfl ?_;refine .qt rfl ?_;simp (disch:=first|exact za|fail) only [go_sem,seval,e9,e11,zj2,zs0];refine .qt rfl ?_;simp (disch:=first|exact za|fail) only [go_sem,seval,e3];refine .qt rfl ?_;simp (disch:=first|exact za|fail) only [go_sem,seval];refine .qF rfl ?_;refine .qt rfl ?_;simp (disch:=first|exact za|fail) only [go_sem,seval,e11];refine ih _ _ ?_;simp (disch:=first|exact za|fail) only [go_sem,seval,e0,e3,e9,e10,e11];rw [hs];rfl

end Go.Proofs.YthaoifcebimkfaaGreatDoor

namespace Go.Proofs.YthaoifcebimkfaaGreatDoor
open Go Go.AL

section walks
variable {G:Globs}
def zgx (s:Strm) (n c b:Nat):List (List U):=yx s n c++(List.range b).map (zaX s n c)
theorem zrT {s:Strm} {n c:Nat}:zgx s n c 0=yx s n c:=by simp [zgx]
theorem zxf {s:Strm} {n c b:Nat}:(zgx s n c b).length=wdT c+b:=by simp [zgx,yZ]
theorem zrU {s:Strm} {n c b:Nat}:pl (ym 1 zg) (zgx s n c b)++[.sl false 1 (pl zg (zaX s n c b))]=pl (ym 1 zg) (zgx s n c (b+1)):=by
 unfold zgx;rw [List.range_succ,List.map_append,←List.append_assoc,←yn (l:=yx s n c++(List.range b).map (zaX s n c))];rfl
set_option maxHeartbeats 8000000 in
set_option maxRecDepth 20000 in
theorem zrV (s:Strm) (m:Nat) (hs:okS m s) (k n:Nat) (hk:k≤5) (hn:n=2 ^ k) (hl:s.l.length≤n) (H:Hp) (R:AV → Hp → Prop) (h:R (.tup [.p (.sl false 1 (pl (ym 1 zg) (yx s n 4))),.p (i64 0)]) H):ACall Tryz.prog G 55 [.p (stm s),.p (i64 k)] H R:=by
 refine ACall.of_run (raw:=[]) Tryz.func55 rfl Tryz.ntmps55 (by simp) fun hbel => ?_
 have he:zw2 s k=0:=by
  unfold zw2;rw [if_neg (by omega),Int.toNat_natCast,←hn,if_neg (by omega)]
 refine .qt rfl ?_;simp (disch:=first|exact za|fail) only [go_sem,seval];refine .qt rfl ?_;simp (disch:=first|exact za|fail) only [go_sem,seval];refine CallK.of (fun R h=>ziu s m hs k (by omega) _ R h) ?_;simp (disch:=first|exact za|fail) only [go_sem,seval,he];refine .qt rfl ?_;simp (disch:=first|exact za|fail) only [go_sem,seval];refine .qF rfl ?_;refine .skip ?_;refine .qt rfl ?_;simp (disch:=first|exact za|fail) only [go_sem,seval];refine .q ?_;refine .own 7 (by simp (disch:=first|exact za|fail) only [go_sem,seval];rfl) ?_;refine .qt rfl ?_;simp (disch:=first|exact za|fail) only [go_sem,seval];refine CallK.of (fun R h=>zgw _ R h) ?_;simp (disch:=first|exact za|fail) only [go_sem,seval];refine .q ?_;refine .count (fun c env W=>env 1 = .p (i64 k)∧env 2 = .ptr H.n 0∧env 7 = .sl (H.n+1) (wdT c) 1 (pl (ym 1 zg) (yx s n c))∧env 17=fld∧env 18 = .p (i64 c)∧W.f H.n=some (.cells [.p (.sl false 4 (pl rdg s.l)),.p (.sl false 1 (pl bo s.gone))])∧W.f (H.n+1)=some (.tail (wdT c))∧H.n+3≤W.n∧LowE H W) 0 4 (by omega) ?_ ?_ ?_
 · refine⟨?_,?_,?_,?_,?_,?_,?_,?_,((LowE.new _).trans (.new _)).trans (.new _)⟩
   · simp (disch:=first|exact za|fail) only [go_sem,seval]
   · simp (disch:=first|exact za|fail) only [go_sem,seval]
   · simp (disch:=first|exact za|fail) only [go_sem,seval];rfl
   · simp (disch:=first|exact za|fail) only [go_sem,seval]
   · simp (disch:=first|exact za|fail) only [go_sem,seval]
   · simp (disch:=first|exact za|fail) only [go_sem,seval]
   · simp (disch:=first|exact za|fail) only [go_sem,seval];rfl
   · simp only [n_new'];omega
 · rintro env W ⟨e1,e2,e7,e17,e18,h1,h2,hWn,hW⟩
   have hbel:Bel H.n W:=hW.bel hbel;refine .qt rfl ?_;simp (disch:=first|exact za|fail) only [go_sem,seval,e18];refine .qF rfl ?_;refine .qt rfl ?_;simp (disch:=first|exact za|fail) only [go_sem,seval,e7];refine .qr rfl Tryz.func55 (by rw [Tryz.results55]) ?_;simp (disch:=first|exact za|fail) only [go_sem,seval];rw [hW.back];exact h
 · rintro c env W hc0 hc ⟨e1,e2,e7,e17,e18,h1,h2,hWn,hW⟩ ihO
   have hfi:=zj1 hc;have hwb:=zag c;have hwt:=zBM c;refine .qt rfl ?_;simp (disch:=first|exact za|fail) only [go_sem,seval,e18];refine .qT rfl ?_;refine .qt rfl ?_;simp (disch:=first|exact za|fail) only [go_sem,seval,e17,e18,hfi]
   have h1':(W.new (.cells [.clo (gnk c) [] [],.p (i64 (zN c:Nat))])).f H.n=some (.cells [.p (.sl false 4 (pl rdg s.l)),.p (.sl false 1 (pl bo s.gone))]):=by rw [zb (by omega)];exact h1
   have h2':(W.new (.cells [.clo (gnk c) [] [],.p (i64 (zN c:Nat))])).f (H.n+1)=some (.tail (wdT c)):=by rw [zb (by omega)];exact h2
   have h3':(W.new (.cells [.clo (gnk c) [] [],.p (i64 (zN c:Nat))])).f W.n=some (.cells [.clo (gnk c) [] [],.p (i64 (zN c:Nat))]):=zk rfl;have hWL:LowE H (W.new (.cells [.clo (gnk c) [] [],.p (i64 (zN c:Nat))])):=hW.trans (.new _);have hVn:(W.new (.cells [.clo (gnk c) [] [],.p (i64 (zN c:Nat))])).n=W.n+1:=n_new'
   generalize W.new (.cells [.clo (gnk c) [] [],.p (i64 (zN c:Nat))])=V at *
   refine .qt rfl ?_;simp (disch:=first|exact za|fail) only [go_sem,seval,h3'];refine .q ?_;refine .count (fun b env U=>env 1 = .p (i64 k)∧env 2 = .ptr H.n 0∧env 7 = .sl (H.n+1) (wdT c+b) 1 (pl (ym 1 zg) (zgx s n c b))∧env 9 = .ptr W.n 0∧env 17=fld∧env 18 = .p (i64 c)∧env 22 = .p (i64 (zN c:Nat))∧env 23 = .p (i64 b)∧U.f H.n=some (.cells [.p (.sl false 4 (pl rdg s.l)),.p (.sl false 1 (pl bo s.gone))])∧U.f (H.n+1)=some (.tail (wdT c+b))∧U.f W.n=some (.cells [.clo (gnk c) [] [],.p (i64 (zN c:Nat))])∧W.n+1≤U.n∧LowE H U) 0 (zN c) (by omega) ?_ ?_ ?_
   · refine⟨?_,?_,?_,?_,?_,?_,?_,?_,h1',h2',h3',by omega,hWL⟩
     · simp (disch:=first|exact za|fail) only [go_sem,seval,e1]
     · simp (disch:=first|exact za|fail) only [go_sem,seval,e2]
     · simp (disch:=first|exact za|fail) only [go_sem,seval,e7,zrT]
     · simp (disch:=first|exact za|fail) only [go_sem,seval]
     · simp (disch:=first|exact za|fail) only [go_sem,seval,e17]
     · simp (disch:=first|exact za|fail) only [go_sem,seval,e18]
     · simp (disch:=first|exact za|fail) only [go_sem,seval]
     · simp (disch:=first|exact za|fail) only [go_sem,seval]
   · rintro env U ⟨e1,e2,e7,e9,e17,e18,e22,e23,g1,g2,g3,gn,gL⟩
     refine .qt rfl ?_;simp (disch:=first|exact za|fail) only [go_sem,seval,e22,e23];refine .qF rfl ?_;refine .qt rfl ?_;simp (disch:=first|exact za|fail) only [go_sem,seval,e18];refine ihO _ _ ⟨?_,?_,?_,?_,?_,g1,g2,by omega,gL⟩
     · simp (disch:=first|exact za|fail) only [go_sem,seval,e1]
     · simp (disch:=first|exact za|fail) only [go_sem,seval,e2]
     · simp (disch:=first|exact za|fail) only [go_sem,seval,e7];rfl
     · simp (disch:=first|exact za|fail) only [go_sem,seval,e17]
     · simp (disch:=first|exact za|fail) only [go_sem,seval]
   · rintro b env U hb0 hb ⟨e1,e2,e7,e9,e17,e18,e22,e23,g1,g2,g3,gn,gL⟩ ihI
     have hw:([.ptr W.n 0,.ptr H.n 0,.ptr U.n 0]:List AV).map AV.weak=[.ptr W.n 0,.ptr H.n 0,.ptr U.n 0]:=rfl
     have hen:enters Tryz.prog 116=true:=by kernel_rfl
     have hap:=zrU (s:=s) (n:=n) (c:=c) (b:=b);have hbl:=zxf (s:=s) (n:=n) (c:=c) (b:=b);refine .qt rfl ?_;simp (disch:=first|exact za|fail) only [go_sem,seval,e22,e23];refine .qT rfl ?_;refine .qt rfl ?_;simp (disch:=first|exact za|fail) only [go_sem,seval,e23]
     have g1':(U.new (.cells [.p (i64 b)])).f H.n=some (.cells [.p (.sl false 4 (pl rdg s.l)),.p (.sl false 1 (pl bo s.gone))]):=by rw [zb (by omega)];exact g1
     have g2':(U.new (.cells [.p (i64 b)])).f (H.n+1)=some (.tail (wdT c+b)):=by rw [zb (by omega)];exact g2
     have g3':(U.new (.cells [.p (i64 b)])).f W.n=some (.cells [.clo (gnk c) [] [],.p (i64 (zN c:Nat))]):=by rw [zb (by omega)];exact g3
     have g4':(U.new (.cells [.p (i64 b)])).f U.n=some (.cells [.p (i64 b)]):=zk rfl;have gL':LowE H (U.new (.cells [.p (i64 b)])):=gL.trans (.new _);have gn':(U.new (.cells [.p (i64 b)])).n=U.n+1:=n_new'
     generalize U.new (.cells [.p (i64 b)])=T at *
     refine .qt rfl ?_;simp (disch:=first|exact za|fail) only [go_sem,seval,e1,e2,e7,e9,g1'];refine CallK.of (fun R h=>zd5 s m hs k n hk hn hl 116 [.ptr W.n 0,.ptr H.n 0,.ptr U.n 0] hw hen (fun i=>(BitVec.ofInt 64 (fR (nth s.l i) c) >>> b) &&& 1#64) _ (fun i hi Q hQ R h=>zxe s c hc b i (by omega) hi W.n H.n U.n Q ((hQ.f W.n (by omega)).trans g3') ((hQ.f H.n (by omega)).trans g1') ((hQ.f U.n (by omega)).trans g4') R h) R h) ?_;simp (disch:=first|exact za|fail) only [go_sem,seval,g2',zF8 hc,hap,hbl];refine .qt rfl ?_;simp (disch:=first|exact za|fail) only [go_sem,seval,e23];refine ihI _ _ ⟨?_,?_,?_,?_,?_,?_,?_,?_,?_,zy rfl (by omega),?_,by rw [n_set'];omega,gL'.set _ (by omega)⟩
     · simp (disch:=first|exact za|fail) only [go_sem,seval,e1]
     · simp (disch:=first|exact za|fail) only [go_sem,seval,e2]
     · simp (disch:=first|exact za|fail) only [go_sem,seval];rfl
     · simp (disch:=first|exact za|fail) only [go_sem,seval,e9]
     · simp (disch:=first|exact za|fail) only [go_sem,seval,e17]
     · simp (disch:=first|exact za|fail) only [go_sem,seval,e18]
     · simp (disch:=first|exact za|fail) only [go_sem,seval,e22]
     · simp (disch:=first|exact za|fail) only [go_sem,seval]
     · rw [f_set_ne' (by omega)];exact g1'
     · rw [f_set_ne' (by omega)];exact g3'
set_option maxHeartbeats 8000000 in
set_option maxRecDepth 20000 in
theorem zje (s:Strm) (m:Nat) (hs:okS m s) (k n:Nat) (hk:k≤5) (hn:n=2 ^ k) (hl:s.l.length≤n) (H:Hp) (R:AV → Hp → Prop) (h:R (.tup [.p (.sl false 1 (pl (ym 1 zg) (zaG s n))),.p (i64 0)]) H):ACall Tryz.prog G 15 [.p (stm s),.p (i64 k)] H R:=by
 refine ACall.of_run (raw:=[]) Tryz.func15 rfl Tryz.ntmps15 (by simp) fun hbel => ?_
 refine .qt rfl ?_;simp (disch:=first|exact za|fail) only [go_sem,seval];refine .qt rfl ?_;simp (disch:=first|exact za|fail) only [go_sem,seval];refine CallK.of (fun R h=>zjd s m hs k n hk hn hl _ R h) ?_;simp (disch:=first|exact za|fail) only [go_sem,seval];refine .qt rfl ?_;simp (disch:=first|exact za|fail) only [go_sem,seval];refine .qF rfl ?_;refine .skip ?_;refine .qt rfl ?_;simp (disch:=first|exact za|fail) only [go_sem,seval];refine CallK.of (fun R h=>zrV s m hs k n hk hn hl _ R h) ?_;simp (disch:=first|exact za|fail) only [go_sem,seval];refine .qt rfl ?_;simp (disch:=first|exact za|fail) only [go_sem,seval];refine .qF rfl ?_;refine .skip ?_
 have hc5:(zK s n).length=5:=by simp [zK]
 have hl4:(yx s n 4).length=24:=by rw [yZ];rfl
 have hb:AV.p (.sl true 1 [.sl false 1 (pl (ym 1 zg) (zK s n)),.sl false 1 (pl (ym 1 zg) (yx s n 4))]) = .p (.sl true 1 (pl pcc [zK s n,yx s n 4])):=rfl
 have htot:zd6 [zK s n,yx s n 4] 2=29:=by
  show 0+(zK s n).length+(yx s n 4).length=29
  rw [hc5,hl4]
 have hcat:zrS [zK s n,yx s n 4] 2=zaG s n:=rfl;refine .qt rfl ?_;simp (disch:=first|exact za|fail) only [go_sem,seval,hb];refine CallK.of (fun R h=>zlw [zK s n,yx s n 4] (by show 2≤1000;omega) (by show 0 < zd6 _ 2;omega) (by show zd6 _ 2≤_;omega) _ R h) ?_;simp (disch:=first|exact za|fail) only [go_sem,seval];rw [hcat];refine .qr rfl Tryz.func15 (by rw [Tryz.results15]) ?_;simp (disch:=first|exact za|fail) only [go_sem,seval];exact h
set_option maxHeartbeats 8000000 in
set_option maxRecDepth 20000 in
theorem zoj (H:Hp) (R:AV → Hp → Prop) (h:R (.p (i64 29)) H):ACall Tryz.prog G 33 [] H R:=by
 refine ACall.of_run (raw:=[]) Tryz.func33 rfl Tryz.ntmps33 (by simp) fun hbel => ?_
 refine .qt rfl ?_;simp (disch:=first|exact za|fail) only [go_sem,seval];refine .qt rfl ?_;simp (disch:=first|exact za|fail) only [go_sem,seval];refine .qr rfl Tryz.func33 (by rw [Tryz.results33]) ?_;simp (disch:=first|exact za|fail) only [go_sem,seval];exact h
end walks
end Go.Proofs.YthaoifcebimkfaaGreatDoor

namespace Go.Proofs.YthaoifcebimkfaaGreatDoor
open Go Go.AL

def zrW (x:U):Bool:=decide (4611686018427387904#64 < x)
def toI (x:U):Int:=(x.toNat:Int)
def zxg (q:Qry) (v:List U):List Int × Int :=
 if (v.length:Int)=(zih q.kind).s then if v.any zrW then ([],141) else (v.map toI,0) else ([],1)
theorem zBP {x:U} (h:zrW x=false):IntKind.i64.wrap (x.toNat:Int)=toI x:=by
 have : ¬ 4611686018427387904#64 < x:=by simpa [zrW] using h
 rw [BitVec.lt_def] at this;have e:(4611686018427387904#64).toNat=4611686018427387904:=rfl;exact zfa (by omega) (by omega)
def zjf (v:List U) (i:Nat):List Int:=(v.take i).map toI++List.replicate (v.length - i) 0
theorem zBQ {v:List U} {i:Nat} (h:i≤v.length):(zjf v i).length=v.length:=by simp [zjf];omega
theorem zxh {v:List U}:zjf v 0=List.replicate v.length 0:=by simp [zjf]
theorem zBR {v:List U}:zjf v v.length=v.map toI:=by simp [zjf]
theorem zxi {v:List U} {i:Nat} (h:i < v.length):(zjf v i).set i (toI (nth v i))=zjf v (i+1):=by
 have hl:((v.take i).map toI).length=i:=by rw [List.length_map,List.length_take];omega
 unfold zjf;rw [List.set_append_right _ _ (by omega),hl,Nat.sub_self,show v.length - i=(v.length - (i+1))+1 by omega,List.replicate_succ,List.set_cons_zero,List.take_succ_eq_append_getElem h,List.map_append,List.append_assoc,zc h];rfl
section walks
variable {G:Globs} {r1:Nat} {m1:List (Int × Int)}
set_option maxHeartbeats 8000000 in
set_option maxRecDepth 20000 in
theorem zeY (g:GW G r1 m1) (q:Qry) (hv:vQ q=true) (he:ya q=0) (v:List U) (hl:v.length≤1000) (H:Hp) (R:AV → Hp → Prop) (h:R (.tup [.p (.sl false 1 (pl i64 (zxg q v).1)),.p (i64 (zxg q v).2)]) H):ACall Tryz.prog G 17 [.p (qry q),.p (.sl false 1 (pl zg v))] H R:=by
 refine ACall.of_run (raw:=[]) Tryz.func17 rfl Tryz.ntmps17 (by simp) fun hbel => ?_
 have hk7:1≤q.kind∧q.kind≤7:=by
  have hq:=hv;simp only [vQ,Bool.and_eq_true,decide_eq_true_eq] at hq;exact hq.1
 unfold zxg at h;refine .qt rfl ?_;simp (disch:=first|exact za|fail) only [go_sem,seval];refine .qt rfl ?_;simp (disch:=first|exact za|fail) only [go_sem,seval];refine CallK.ex (zik g q (by unfold okI;omega) _) ?_
 rintro _ _ ⟨⟨x,rfl⟩,rfl⟩
 rw [he];simp (disch:=first|exact za|fail) only [go_sem,seval]
 rcases Classical.em ((v.length:Int)=(zih q.kind).s) with e | e
 · rw [if_pos e] at h;refine .qt rfl ?_;simp (disch:=first|exact za|fail) only [go_sem,seval];refine CallK.of (fun R h=>zij q hk7 _ R h) ?_;simp (disch:=first|exact za|fail) only [go_sem,seval,e];refine .qF rfl ?_;refine .skip ?_;refine .qt rfl ?_;simp (disch:=first|exact za|fail) only [go_sem,seval];rw [←zxh];refine .qt rfl ?_;simp (disch:=first|exact za|fail) only [go_sem,seval];refine .q ?_;refine .loopH [8,28,29] (fun i=>[(30,.p (i64 i))]) (fun i=>((H.new (.cells [.p (i64 q.kind),.p (i64 q.col),.p (i64 q.k),.p (.sl false 1 (pl yH q.fl))])).new (.cells [.p x])).new (.cells (cl i64 (zjf v i)))) (fun i => ∀ j,j < i → zrW (nth v j)=false) (0) (v.length) (by omega) ?_ (by first | rfl | (simp (disch:=first|exact za|fail) only [go_sem,seval]<;>rfl)) ?_ ?_ ?_
   · simp (disch:=first|exact za|fail) only [go_sem,seval]<;>(repeat' (first | rfl | refine And.intro ?_ ?_))
   rotate_left 1
   intro env A hQ;simp (disch:=first|exact za|fail) only [go_sem,seval] at A
   rotate_left 1
   intro i env hi0 hi A hQ ihA;simp (disch:=first|exact za|fail) only [go_sem,seval] at A
   rotate_left 1
   · exact fun j hj=>absurd hj (by omega)
   · have ha:v.any zrW=false:=by
      rw [List.any_eq_false];intro y hy
      obtain⟨j,hj,rfl⟩:=List.getElem_of_mem hy
      have:=hQ j hj
      rw [zc hj] at this;rw [this];decide
     rw [ha] at h;rw [zBR];have hml:(v.map toI).length=v.length:=List.length_map ..
     have htk:((v.map toI).drop 0).take v.length=v.map toI:=by rw [List.drop_zero];exact List.take_of_length_le (by omega)
     refine .qt rfl ?_;simp (disch:=first|exact za|fail) only [go_sem,seval,A];refine .qF rfl ?_;refine .q ?_;refine .frzS 8 (by simp (disch:=first|exact za|fail) only [go_sem,seval,A,hml,htk];rfl) (by simp (disch:=first|exact za|fail) only [go_sem,seval,A,hml,htk]<;>rfl) (fun _=>rfl) (by first | exact za | fail) ?_;(try simp (disch:=first|exact za|fail) only [go_sem,seval,A,hml,htk]);refine .qt rfl ?_;simp (disch:=first|exact za|fail) only [go_sem,seval,A];refine .qr rfl Tryz.func17 (by rw [Tryz.results17]) (hx:=by simp (disch:=first|exact za|fail) only [go_sem,seval,A];rfl) ?_;simp (disch:=first|exact za|fail) only [go_sem,seval,A];exact h
   · have hlt:=zBQ (v:=v) (i:=i) (by omega);have hset:=zxi hi;refine .qt rfl ?_;simp (disch:=first|exact za|fail) only [go_sem,seval,A];refine .qT rfl ?_;refine .qt rfl ?_;simp (disch:=first|exact za|fail) only [go_sem,seval,A];refine .qt rfl ?_;simp (disch:=first|exact za|fail) only [go_sem,seval,A]
     cases hb:zrW (nth v i) with
     | true =>
      have ha:v.any zrW=true:=List.any_eq_true.2 ⟨_,List.getElem_mem hi,by rw [←zc hi];exact hb⟩;rw [ha] at h;have hb':decide (4611686018427387904#64 < nth v i)=true:=hb;refine .q ?_;refine .ifT (by simp (disch:=first|exact za|fail) only [go_sem,seval,hb']) ?_;refine .qt rfl ?_;simp (disch:=first|exact za|fail) only [go_sem,seval,A];refine .qr rfl Tryz.func17 (by rw [Tryz.results17]) (hx:=by simp (disch:=first|exact za|fail) only [go_sem,seval,A];rfl) ?_;simp (disch:=first|exact za|fail) only [go_sem,seval,A];exact h
     | false =>
      have hb':decide (4611686018427387904#64 < nth v i)=false:=hb;have hcv:=zBP hb;refine .q ?_;refine .ifF (by simp (disch:=first|exact za|fail) only [go_sem,seval,hb']) ?_;refine .skip ?_;refine .qt rfl ?_;simp (disch:=first|exact za|fail) only [go_sem,seval,A,hcv,hlt];rw [hset];refine .qt rfl ?_;simp (disch:=first|exact za|fail) only [go_sem,seval,A]
      first | (refine ihA _ _ ?_ (fun j hj=>by by_cases e:j=i;(subst e;exact hb);exact hQ j (by omega)) ?_) | (refine .z rfl ?_;refine ihA _ _ ?_ (fun j hj=>by by_cases e:j=i;(subst e;exact hb);exact hQ j (by omega)) ?_) | (refine .z rfl ?_;refine .z rfl ?_;refine ihA _ _ ?_ (fun j hj=>by by_cases e:j=i;(subst e;exact hb);exact hQ j (by omega)) ?_) | (refine .z rfl ?_;refine .z rfl ?_;refine .z rfl ?_;refine ihA _ _ ?_ (fun j hj=>by by_cases e:j=i;(subst e;exact hb);exact hQ j (by omega)) ?_)
      · simp (disch:=first|exact za|fail) only [go_sem,seval,A]<;>(repeat' (first | rfl | refine And.intro ?_ ?_))
      · first | rfl | (simp (disch:=first|exact za|fail) only [go_sem,seval,A]<;>(try rfl))
 · rw [if_neg e] at h;refine .qt rfl ?_;simp (disch:=first|exact za|fail) only [go_sem,seval];refine CallK.of (fun R h=>zij q hk7 _ R h) ?_;simp (disch:=first|exact za|fail) only [go_sem,seval,e];refine .qT rfl ?_;refine .qt rfl ?_;simp (disch:=first|exact za|fail) only [go_sem,seval];refine .qr rfl Tryz.func17 (by rw [Tryz.results17]) ?_;simp (disch:=first|exact za|fail) only [go_sem,seval];exact h
end walks
end Go.Proofs.YthaoifcebimkfaaGreatDoor

namespace Go.Proofs.YthaoifcebimkfaaGreatDoor
open Go Go.AL

def qC:Qry:=⟨1,0,0,[[]]⟩
def qT:Qry:=⟨2,3,0,[[]]⟩
def qH:Qry:=⟨1,0,0,[[⟨2,8,15⟩]]⟩
def qB:Qry:=⟨9,0,0,[[]]⟩
def qE:Qry:=⟨4,1,0,[[]]⟩
def zD5:Gate:=⟨4,4,1#64,18446744069414584320#64,0#64,0#64⟩
theorem cqC:yM qC=(⟨29,[[⟨4,4,0#64,1#64,0#64,0#64⟩,zD5]],1⟩,0):=by decide +kernel
theorem cqT:yM qT=(⟨29,[[⟨4,3,1#64,0#64,0#64,0#64⟩,zD5]],1⟩,0):=by decide +kernel
theorem cqB:yM qB=(⟨0,[],0⟩,1):=by decide +kernel
theorem cqE:yM qE=(⟨0,[],0⟩,140):=by decide +kernel
def cH:Circ:=(yM qH).1
theorem cqH:yM qH=(cH,0):=Prod.ext rfl (by decide +kernel)
theorem zHw:cH.sums=1:=by decide +kernel
theorem zHx:cH.layers.length=4:=by decide +kernel
theorem zHy:(nth cH.layers 3).length=7:=by decide +kernel
theorem zG2:nth (nth cH.layers 0) 0=⟨4,20,1#64,0#64,0#64,0#64⟩:=by decide +kernel
theorem zG3:nth (nth cH.layers 3) 0=⟨0,0,0#64,1#64,0#64,0#64⟩:=by decide +kernel
theorem zG4:0 < (nth cH.layers 0).length:=by decide +kernel
theorem zHz:((((nth cH.layers 0).length:Nat):Int) == 0)=false:=by decide +kernel
theorem sm7:zxg qC [7#64]=([7],0):=by decide +kernel
theorem smB:zxg qC [4611686018427387905#64]=([],141):=by decide +kernel
theorem smN:zxg qC []=([],1):=by decide +kernel
def sSt:Strm:=⟨[⟨3,0,0,0⟩],[false]⟩
def cS:List (List U):=zaG sSt 1
theorem zHA:cS.length=29:=by decide +kernel
theorem zHB:nth cS 0=[3#64]:=by decide +kernel
theorem zHC:nth cS 4=[1#64]:=by decide +kernel
theorem zHD:nth cS 5=[1#64]:=by decide +kernel
theorem zHE:nth cS 6=[1#64]:=by decide +kernel
theorem zHF:nth cS 7=[0#64]:=by decide +kernel
theorem zHG:okS 1 sSt:=⟨by decide,rfl,fun r hr=>by
 rw [show sSt.l=[⟨3,0,0,0⟩] from rfl,List.mem_singleton] at hr
 subst hr;decide⟩
end Go.Proofs.YthaoifcebimkfaaGreatDoor

namespace Go.Proofs.YthaoifcebimkfaaGreatDoor
open Go Go.AL

section walks
variable {G:Globs} {r1:Nat} {m1:List (Int × Int)}
theorem mkq {a b c:Int}:(zu [.p (i64 a),.p (i64 b),.p (i64 c),.p (.sl true 1 [.sl false 3 []])]).weak = .p (qry ⟨a,b,c,[ [] ]⟩):=rfl
theorem zok {a b c:Int} {x:Cnd}:(zu [.p (i64 a),.p (i64 b),.p (i64 c),.p (.sl true 1 [.sl false 3 [cnd x]])]).weak = .p (qry ⟨a,b,c,[ [x] ]⟩):=rfl
theorem ACall.nil1 {P:Program} {G:Globs} {f:FuncId} {x:AV} {l:List AV} {H:Hp} {S:AV → Hp → Prop} (sz:Nat) (h:ACall P G f (x :: .p (.sl false sz []) :: l) H S):ACall P G f (x :: (AV.p (.s (.slice none 0 0))).weak :: l) H S:=by
 intro σ w vs hr ha;refine h σ w vs hr ⟨by simpa using ha.1,fun i y v hy hv => ?_⟩
 rcases i with _ | _ | i
 · exact ha.2 0 y v (by simpa using hy) hv
 · simp only [List.getElem?_cons_succ,List.getElem?_cons_zero,Option.some.injEq] at hy;subst hy
   have:=ha.2 1 _ v rfl hv
   cases this with | p h=>cases h;exact .p (.nil false sz)
 · exact ha.2 (i+2) y v (by simpa using hy) hv
theorem zrX (g:GW G r1 m1) (H:Hp):ACall Tryz.prog G 17 [.p (qry qC),(AV.p (.s (.slice none 0 0))).weak] H (fun r H'=>r = .tup [.p (.sl false 1 []),.p (i64 1)]∧H'=H) :=
 ACall.nil1 1 (zeY g qC (by decide) (by decide) [] (by decide) H _ (by rw [smN];exact⟨rfl,rfl⟩))
theorem zHH:(zu [.p (.sl true 4 [rdg ⟨3,0,0,0⟩]),.p (.sl true 1 [bo false])]).weak = .p (stm sSt):=rfl
theorem zF9 {x y:Gate}:(zu [.p (i64 29),.p (.sl true 1 [.sl false 6 [zY x,zY y] ]),.p (i64 1)]).weak = .p (za2 ⟨29,[ [x,y] ],1⟩):=rfl
theorem zs1 {x y:Gate} (hx:okG x) (hy:okG y) : ∀ z∈(⟨29,[ [x,y] ],1⟩:Circ).layers,z.length≤1000000 ∧ ∀ g∈z,okG g:=by
 intro z hz;rw [List.mem_singleton] at hz;subst hz
 refine⟨by simp,fun g hg => ?_⟩
 rcases List.mem_cons.1 hg with rfl | hg
 · exact hx
 · rw [List.mem_singleton] at hg;subst hg;exact hy
theorem zbL {l r:Int} {c a b d:U} (hl:0≤l∧l≤100) (hr:0≤r∧r≤100):okG ⟨l,r,c,a,b,d⟩:=by unfold okG;simp only;omega
theorem zj4 {x:Gate} (h:okG x):zx Tryz.prog .eql 72 (.p (zY x)) (.p (zY x))=some (.p (bo true)):=by
 have:=(zsD h h).1
 rwa [decide_eq_true rfl] at this
theorem zol (H:Hp) (R:AV → Hp → Prop) (h:R (.p (zg 18446744069414584320#64)) H):ACall Tryz.prog G 32 [.p (zg 1#64)] H R:=by
 refine ACall.of_run (raw:=[]) Tryz.func32 rfl Tryz.ntmps32 (by simp) fun hbel => ?_
 refine .qt rfl ?_;simp (disch:=first|exact za|fail) only [go_sem,seval];refine .qt rfl ?_;simp (disch:=first|exact za|fail) only [go_sem,seval];refine .qF rfl ?_;refine .skip ?_;refine .qt rfl ?_;simp (disch:=first|exact za|fail) only [go_sem,seval];refine .qr rfl Tryz.func32 (by rw [Tryz.results32]) ?_;simp (disch:=first|exact za|fail) only [go_sem,seval];exact h
set_option maxHeartbeats 64000000 in
set_option maxRecDepth 20000 in
theorem zd7 (g:GW G r1 m1) (H:Hp) (R:AV → Hp → Prop) (h:R (.p (bo true)) H):ACall Tryz.prog G 8 [] H R:=by
 refine ACall.of_run (raw:=[]) Tryz.func8 rfl Tryz.ntmps8 (by simp) fun hbel => ?_
 refine .qt rfl ?_;simp (disch:=first|exact za|fail) only [go_sem,seval];refine .qt rfl ?_;simp (disch:=first|exact za|fail) only [go_sem,seval];refine .qt rfl ?_;simp (disch:=first|exact za|fail) only [go_sem,seval];refine CallK.of (fun R h=>zol _ R h) ?_;simp (disch:=first|exact za|fail) only [go_sem,seval];refine .qt rfl ?_;simp (disch:=first|exact za|fail) only [go_sem,seval];refine .qt rfl ?_;simp (disch:=first|exact za|fail) only [go_sem,seval,mkq,zok];refine CallK.ex (zaT g qC (by decide) _) ?_
 rintro _ _ ⟨rfl,rfl⟩
 rw [cqC];simp (disch:=first|exact za|fail) only [go_sem,seval];refine .qt rfl ?_;simp (disch:=first|exact za|fail) only [go_sem,seval,mkq,zok];refine CallK.ex (zaT g qT (by decide) _) ?_
 rintro _ _ ⟨rfl,rfl⟩
 rw [cqT];simp (disch:=first|exact za|fail) only [go_sem,seval];refine .qt rfl ?_;simp (disch:=first|exact za|fail) only [go_sem,seval,mkq,zok];refine CallK.ex (zaT g qH (by decide) _) ?_
 rintro _ _ ⟨rfl,rfl⟩
 rw [cqH];simp (disch:=first|exact za|fail) only [go_sem,seval];refine .qt rfl ?_;simp (disch:=first|exact za|fail) only [go_sem,seval,mkq,zok];refine CallK.ex (zaT g qB (by decide) _) ?_
 rintro _ _ ⟨rfl,rfl⟩
 rw [cqB];simp (disch:=first|exact za|fail) only [go_sem,seval];refine .qt rfl ?_;simp (disch:=first|exact za|fail) only [go_sem,seval,mkq,zok];refine CallK.ex (zaT g qE (by decide) _) ?_
 rintro _ _ ⟨rfl,rfl⟩
 rw [cqE];simp (disch:=first|exact za|fail) only [go_sem,seval]
 have hw1 : ∀ x:U,AV.p (PV.sl false 1 [zg x]) = .p (.sl false 1 (pl zg [x])):=fun _=>rfl
 have hw0:AV.p (PV.sl false 1 []) = .p (.sl false 1 (pl zg [])):=rfl;refine .qt rfl ?_;simp (disch:=first|exact za|fail) only [go_sem,seval,mkq,zok];refine CallK.of (fun R h=>zeY g qC (by decide) (by decide) [7#64] (by decide) _ R h) ?_;simp (disch:=first|exact za|fail) only [go_sem,seval,sm7];refine .qt rfl ?_;simp (disch:=first|exact za|fail) only [go_sem,seval,mkq,zok];refine CallK.of (fun R h=>zeY g qC (by decide) (by decide) [4611686018427387905#64] (by decide) _ R h) ?_;simp (disch:=first|exact za|fail) only [go_sem,seval,smB];refine .qt rfl ?_;simp (disch:=first|exact za|fail) only [go_sem,seval,mkq,zok];refine CallK.ex (zrX g _) ?_
 rintro _ _ ⟨rfl,rfl⟩
 simp (disch:=first|exact za|fail) only [go_sem,seval];refine .qt rfl ?_;simp (disch:=first|exact za|fail) only [go_sem,seval,zHH];refine CallK.of (fun R h=>zje sSt 1 zHG 0 1 (by decide) rfl (by decide) _ R h) ?_;simp (disch:=first|exact za|fail) only [go_sem,seval];have hcS:zaG sSt 1=cS:=rfl;rw [hcS];have f0:=zG4;have f1:=zHx;have f2:=zHy;have f3:=zHA;have f4:=zHz;refine .qt rfl ?_;simp (disch:=first|exact za|fail) only [go_sem,seval,zah,f1,f2,f3,f4];refine .qF rfl ?_;refine .skip ?_;have f5:=zG2;have f6:=zG3;have f7:=zHw;have c0:=zHB;have c4:=zHC;have c5:=zHD;have c6:=zHE;have c7:=zHF;have g1:=zj4 (x:=⟨4,20,1#64,0#64,0#64,0#64⟩) (zbL (by omega) (by omega));have g2:=zj4 (x:=⟨0,0,0#64,1#64,0#64,0#64⟩) (zbL (by omega) (by omega));refine .qt rfl ?_;simp (disch:=first|exact za|fail) only [go_sem,seval,List.append_eq,zah,zF9];refine CallK.of (fun R h=>zir ⟨29,[ [⟨4,4,0#64,1#64,0#64,0#64⟩,zD5] ],1⟩ (by decide) (zs1 (zbL (by omega) (by omega)) (zbL (by omega) (by omega))) _ R h) ?_;simp (disch:=first|exact za|fail) only [go_sem,seval,List.append_eq,zah,zF9];refine CallK.of (fun R h=>zir ⟨29,[ [⟨4,3,1#64,0#64,0#64,0#64⟩,zD5] ],1⟩ (by decide) (zs1 (zbL (by omega) (by omega)) (zbL (by omega) (by omega))) _ R h) ?_;simp (disch:=first|exact za|fail) only [go_sem,seval,List.append_eq,zah,zai,zF9,f1,f2,f3,f4,f5,f6,f7,c0,c4,c5,c6,c7,g1,g2];have h7:AV.p (PV.sl false 1 [i64 7]) = .p (.sl false 1 (pl i64 [7])):=rfl;refine CallK.of (fun R h=>zrE [7] (by decide) _ R h) ?_;simp (disch:=first|exact za|fail) only [go_sem,seval,List.append_eq,zah,zai,f1,f2,f3,f4,f5,f6,f7,c0,c4,c5,c6,c7,g1,g2]
 have b3:(nth [3#64] 0 == 3#64)=true:=by decide
 have b1:(nth [1#64] 0 == 1#64)=true:=by decide
 have b0:(nth [0#64] 0 == 0#64)=true:=by decide
 refine CallK.of (fun R h=>zoj _ R h) ?_;simp (disch:=first|exact za|fail) only [go_sem,seval,List.append_eq,zah,zai,f1,f2,f3,f4,f5,f6,f7,c0,c4,c5,c6,c7,g1,g2,b0,b1,b3];refine .qr rfl Tryz.func8 (by rw [Tryz.results8]) ?_;simp (disch:=first|exact za|fail) only [go_sem,seval];exact h
end walks
end Go.Proofs.YthaoifcebimkfaaGreatDoor

namespace Go.Proofs.YthaoifcebimkfaaGreatDoor
open Go Go.AL

theorem ziv {s:List Nd} (hw:Wf s) (hC:SmC s) {o:List Nat} (ho : ∀ x∈o,x < 29+s.length) : ∀ i,i≤o.length → LOk s [] (depth s o) (y6 s (depth s o) o ⟨[],List.replicate (depth s o) []⟩ i).2
 | 0,_=>LOk.none s _
 | i+1,hi=>by
  have hm:nth o i∈o:=by rw [zc (by omega)];exact List.getElem_mem _
  exact (zdb hw hC.fv zbv _ _ _ (ziv hw hC ho i (by omega)) (Nat.le_refl _) (ho _ hm) (zb9 hm)).1
theorem zom {a b:Int} (h:a≤b) {g:Gate} (hg:opG a g):opG b g:=⟨hg.1,by have:=hg.2.1;omega,hg.2.2.1,by have:=hg.2.2.2;omega⟩
theorem zs2 {s:List Nd} {d:Nat} {st:LS} (h:Cov s d st) (k:Nat):zbD st.ls k≤29+s.length:=by
 unfold zbD
 split
 · omega
 · exact h.le _
theorem zon {s:List Nd} (hw:Wf s) (hC:SmC s) {o:List Nat} (ho : ∀ x∈o,x < 29+s.length) (hd:0 < depth s o) :
 ∀ i,i≤o.length → ∀ g∈(y6 s (depth s o) o ⟨[],List.replicate (depth s o) []⟩ i).1,opG (29+s.length:Nat) g
 | 0,_,g,hg=>by simp [y6] at hg
 | i+1,hi,g,hg=>by
  have hm:nth o i∈o:=by rw [zc (by omega)];exact List.getElem_mem _
  have h0:=ziv hw hC ho i (by omega)
  obtain⟨w1,w2,w3,w4,w5⟩:=zdb hw hC.fv zbv _ _ _ h0 (Nat.le_refl _) (ho _ hm) (zb9 hm)
  have hcov:=(zcG hw (depth s o) (nth o i) _ (zcI hw ho i (by omega)) (Nat.le_refl _) (ho _ hm)).1;simp only [y6,List.mem_append,List.mem_singleton] at hg
  rcases hg with hg | rfl
  · exact zon hw hC ho hd i (by omega) g hg
  · rw [zbD,if_neg (by omega)] at w3;refine zom ?_ (w1.op (depth s o - 1) _ w3);exact Int.ofNat_le.2 (zs2 hcov _)
theorem zBS {s:List Nd} (hw:Wf s) (hC:SmC s) {o:List Nat} (ho : ∀ x∈o,x < 29+s.length) (hd:0 < depth s o) : ∀ x∈zbY s o,∀ g∈x,opG (29+s.length:Nat) g:=by
 intro x hx g hg;unfold zbY at hx;dsimp only at hx
 rcases List.mem_or_eq_of_mem_set hx with e | e
 · obtain⟨k,hk,rfl⟩:=List.getElem_of_mem e
   obtain⟨j,hj,rfl⟩:=List.getElem_of_mem hg
   have hc:=zcI (d:=depth s o) hw ho o.length (Nat.le_refl _);have hop:=(ziv hw hC ho o.length (Nat.le_refl _)).op k j (by rw [zc hk];exact hj);rw [zc hk,zc hj] at hop;exact zom (Int.ofNat_le.2 (zs2 hc _)) hop
 · rw [e] at hg;exact zon hw hC ho hd o.length (Nat.le_refl _) g hg
theorem zj5 {q:Qry} (hW:Wf (yi q).2.2) (hv:vQ q=true):0 < depth (yi q).2.2 ((yi q).1++(yi q).2.1):=by
 have p1:=(zg3 hv).1;have hm:(chk (zF q []).2 4).1∈(yi q).1++(yi q).2.1:=List.mem_append_right _ (zf5 (q:=q) (s:=(zF q []).2) 4)
 have h29:29≤(chk (zF q []).2 4).1:=by unfold chk;rw [zaQ];omega
 have h0:0 < lev (yi q).2.2 (chk (zF q []).2 4).1:=by
  refine Nat.pos_of_ne_zero fun h0 => ?_
  have:=zfw hW (p1 _ hm) h0
  omega
 have:=zb9 (s:=(yi q).2.2) hm
 omega
theorem ziw {q:Qry} (he:ya q=0):vQ q=true:=by
 unfold ya at he;split at he
 · assumption
 · cases he
theorem zBT {q:Qry} (hW:ya q=0 → Wf (yi q).2.2):(yM q).1.layers.length≤1000000 ∧ ∀ x∈(yM q).1.layers,x.length≤1000000 ∧ ∀ g∈x,okG g:=by
 unfold yM;by_cases he:ya q=0
 · rw [if_pos he];have hv:=ziw he;have hw:=hW he
   obtain⟨p1,p2,p3,p4,p5⟩:=zg3 hv
   by_cases hb:zh0 (zao q)=true
   · rw [if_pos hb];exact⟨Nat.zero_le _,fun x hx=>by cases hx⟩
   · rw [if_neg hb];have hd:=zj5 hw hv
     have hdl:depth (yi q).2.2 ((yi q).1++(yi q).2.1)≤1000:=zd0 fun x hx=>by have:=p1 x hx;have:=zeT hw x this;omega
     refine⟨?_,fun x hx=>⟨?_,fun g hg => ?_⟩⟩
     · show (zao q).length≤_
       unfold zao;rw [zjX hw p1];omega
     · have:=zn9 hw p1 (m:=1000) (by omega) (by omega) x hx
       omega
     · obtain⟨a1,a2,a3,a4⟩:=zBS hw (zBE q) p1 hd x hx g hg
       unfold okG;omega
 · rw [if_neg he];exact⟨Nat.zero_le _,fun x hx=>by cases hx⟩
end Go.Proofs.YthaoifcebimkfaaGreatDoor

namespace Go.Proofs.YthaoifcebimkfaaGreatDoor
open Go Go.AL

section walks
variable {G:Globs} {r1:Nat} {m1:List (Int × Int)}
theorem zeZ (g:GW G r1 m1) (q:Qry) (hk:okI q.kind) (H:Hp):ACall Tryz.prog G 10 [.p (qry q)] H (fun r H'=>(r = .tup [.p (za2 (yM q).1),.p (i64 (yM q).2)]∧((yM q).1.layers.length≤1000000 ∧ ∀ x∈(yM q).1.layers,x.length≤1000000 ∧ ∀ g∈x,okG g))∧H'=H) :=
 (zex g q hk H).mono fun r H' h=>⟨⟨h.1.1,zBT h.1.2⟩,h.2⟩
theorem zd8 (q:Qry) (hl:q.fl.length≤9223372036854775807) (H:Hp):ACall Tryz.prog G 13 [.p (qry q)] H (fun r H'=>(∃ p,vQ p=true∧ya p=0∧r = .p (qry p))∧H'=H):=zof q hl H _ fun p h1 h2=>⟨⟨p,h1,h2,rfl⟩,rfl⟩
theorem ze0 (l:List SOp) (m:Nat) (hm:m≤1000) (hl:l.length≤9223372036854775807) (H:Hp):ACall Tryz.prog G 14 [.p (.sl false 4 (pl sop l)),.p (i64 m)] H (fun r H'=>(∃ s,okS m s∧r = .p (stm s))∧H'=H):=zrM l m hm hl H _ fun s hs=>⟨⟨s,hs,rfl⟩,rfl⟩
end walks
end Go.Proofs.YthaoifcebimkfaaGreatDoor

namespace Go.Proofs.YthaoifcebimkfaaGreatDoor
open Go Go.AL Go.WideElems

section maps
variable {H:Type} {enc:TypeId × Value → H} {P:Program} {W:World} {sp:Nat → Bool} {held:Bool} {t k e:TypeId} {α:Type}
theorem insert_perm {x:Lit × DataW H} : ∀ l,(DataW.insert x l).Perm (x :: l)
 | [] => .refl _
 | y :: r=>by
  unfold DataW.insert
  split
  · exact .refl _
  · exact ((insert_perm r).cons y).trans (.swap x y r)
theorem sorted_perm : ∀ l:List (Lit × DataW H),(l.foldr DataW.insert []).Perm l
 | [] => .refl _
 | x :: l=>(insert_perm _).trans ((sorted_perm l).cons x)
theorem zoo {κ α:Type} [DecidableEq κ] {T:κ → Option α} {k:κ} : ∀ {m:List (κ × α)},(∀ p∈m,T p.1=some p.2) → (∀ v,T k=some v → ∃ p∈m,p.1=k) → zM k m=T k
 | [],_,h2=>by
  cases e:T k with
  | none=>rfl
  | some v=>obtain⟨p,hp,_⟩:=h2 v e;cases hp
 | (a,x) :: m,h1,h2=>by
  unfold zM
  split
  · rename_i h;subst h;exact (h1 _ (List.mem_cons_self ..)).symm
  · rename_i h
    exact zoo (fun p hp=>h1 p (List.mem_cons_of_mem _ hp)) fun v hv=>by
     obtain⟨p,hp,hk⟩:=h2 v hv
     rcases List.mem_cons.1 hp with rfl | hp
     · exact absurd hk h
     · exact⟨p,hp,hk⟩
theorem zgy {α β:Type} {Q:α → β → Prop} : ∀ {l:List α},(∀ x∈l,∃ y,Q x y) → ∃ m:List β,m.length=l.length ∧ ∀ (j:Nat) x y,l[j]? = some x → m[j]? = some y → Q x y
 | [],_=>⟨[],rfl,fun j x y h=>by simp at h⟩
 | a :: l,h=>by
  obtain⟨y,hy⟩:=h a (List.mem_cons_self ..)
  obtain⟨m,hm,hq⟩:=zgy (l:=l) fun x hx=>h x (List.mem_cons_of_mem _ hx)
  refine⟨y :: m,by simp [hm],fun j => ?_⟩
  cases j with
  | zero=>intro x z h1 h2;simp at h1 h2;subst h1 h2;exact hy
  | succ j=>intro x z h1 h2;simp at h1 h2;exact hq j x z h1 h2
theorem zD6 (hk:P.underlying k=some (.int .i64)) {v:Value} {kl:Lit} (h:keyOf P k v=some kl) : ∃ z,v=iev z∧kl = .int .i64 z∧okI z:=by
 unfold keyOf at h;rw [hk] at h;unfold mapKey at h;rw [hk] at h
 cases v with
 | int q n =>
  simp only at h;split at h
  · rename_i hc
    obtain⟨rfl,hw⟩:=hc
    cases h;simp only [Lit.wf,Bool.and_eq_true,decide_eq_true_eq] at hw
    exact⟨n,rfl,rfl,hw⟩
  · cases h
 | _=>cases h
theorem zD7 (ht:P.underlying t=some (.map k e)) (hk:P.underlying k=some (.int .i64)) {fuel:Nat} {cs:List Value} {L:List (Lit × DataW H)} {p:List MemPlace} (h:DataW.trod enc P W 0 sp held fuel t cs=some (.map L,p)) (T:Int → Option α) (f:α → AV)
 (hbel : ∀ v n,BelowN n (f v))
 (hL : ∀ (n:Nat) kk d,(kk,d)∈L → ∀ v q,elemAt enc P W 0 sp held n e v=some (d,q) → ∃ z x,kk = .int .i64 z∧T z=some x∧RelV σ0 H0 W (f x) v)
 (hT : ∀ z x,T z=some x → ∃ d,(Lit.int .i64 z,d)∈L) :
 ∃ b m,cs=[.map (some b)]∧GMap σ0 H0 W b (tm iev f m)∧(∀ q∈m,okI q.1) ∧ ∀ z,zM z m=T z:=by
 rcases open_map ht h with ⟨_,hx⟩ | ⟨b,es,clock,n,_,hcs,hb,_,F,hx⟩
 · cases hx
 · obtain⟨s1,s2,s3⟩:=F.stamped
   have hLe:L=(es.toList.map (rg P k (elemAt enc P W 0 sp held n e))).foldr DataW.insert []:=by
    have:=congrArg Prod.fst hx
    simpa using this
   have hperm:=sorted_perm (es.toList.map (rg P k (elemAt enc P W 0 sp held n e)));rw [←hLe] at hperm
   obtain⟨m,hm,hq⟩:=zgy (Q:=fun (x:MapEntry) (q:Int × α)=>x.key=iev q.1∧okI q.1∧T q.1=some q.2∧RelV σ0 H0 W (f q.2) x.val∧(rg P k (elemAt enc P W 0 sp held n e) x).1 = .int .i64 q.1) (l:=es.toList) fun x hx=>by
    obtain⟨y,hy⟩:=F.reads x hx
    have hr:=rg_of hy
    obtain⟨w,hw,hy2⟩:=rd_val hy
    have hmem:(y.1,y.2)∈L:=hperm.mem_iff.2 (List.mem_map.2 ⟨x,hx,hr⟩)
    obtain⟨z,hz1,hz2,hz3⟩:=zD6 hk (rd_key hy)
    obtain⟨z',a,h1,h2,h3⟩:=hL n y.1 y.2 hmem x.val w.2 (by rw [hw,hy2])
    rw [hz2] at h1;cases h1
    exact⟨(z,a),hz1,hz3,h2,h3,by rw [hr];exact hz2⟩
   have hget : ∀ {q:Int × α},q∈m → ∃ x∈es.toList,x.key=iev q.1∧okI q.1∧T q.1=some q.2:=fun {q} hqm=>by
    obtain⟨j,hj⟩:=List.getElem?_of_mem hqm
    have hlt:j < es.toList.length:=by have:=(List.getElem?_eq_some_iff.1 hj).1;omega
    obtain⟨h1,h2,h3,_⟩:=hq j _ q (List.getElem?_eq_getElem hlt) hj
    exact⟨_,List.getElem_mem hlt,h1,h2,h3⟩
   have hkeys:(tm iev f m).map (·.1)=es.toList.map (·.key):=by
    apply List.ext_getElem?;intro j;simp only [tm,List.map_map,List.getElem?_map]
    cases hj:m[j]? with
    | none =>
     have:es.toList[j]? = none:=by
      rw [List.getElem?_eq_none_iff] at hj ⊢;omega
     rw [this];rfl
    | some q =>
     have hlt:j < es.toList.length:=by have:=(List.getElem?_eq_some_iff.1 hj).1;omega
     rw [List.getElem?_eq_getElem hlt]
     obtain⟨h1,_⟩:=hq j _ q (List.getElem?_eq_getElem hlt) hj
     simpa using h1.symm
   refine⟨b,m,hcs,⟨⟨es,clock,hb,by simp [tm,hm],?_,?_⟩,zEh b,?_⟩,?_,?_⟩
   · rw [hkeys];exact s3
   · intro j x q hx hq';simp only [tm,List.getElem?_map,Option.map_eq_some_iff] at hq'
     obtain⟨q0,hq0,rfl⟩:=hq'
     obtain⟨h1,_,_,h4,_⟩:=hq j x q0 (by simpa using hx) hq0
     exact⟨h1,h4⟩
   · intro q hq' n;simp only [tm,List.mem_map] at hq'
     obtain⟨q0,_,rfl⟩:=hq'
     exact hbel _ _
   · intro q hqm
     obtain⟨_,_,_,h,_⟩:=hget hqm
     exact h
   · intro z
     refine zoo (fun q hqm => ?_) fun v hv => ?_
     · obtain⟨_,_,_,_,h⟩:=hget hqm
       exact h
     · obtain⟨d,hd⟩:=hT z v hv
       obtain⟨x,hx,hr⟩:=List.mem_map.1 (hperm.mem_iff.1 hd)
       obtain⟨j,hj⟩:=List.getElem?_of_mem hx
       have hlt:j < m.length:=by have:=(List.getElem?_eq_some_iff.1 hj).1;omega
       obtain⟨_,_,_,_,h5⟩:=hq j x _ hj (List.getElem?_eq_getElem hlt)
       refine⟨m[j],List.getElem_mem hlt,?_⟩
       rw [hr] at h5;cases h5;rfl
theorem trod_int {q:IntKind} (ht:P.underlying t=some (.int q)) {fuel:Nat} {c:Value} {z:Int} {kd:IntKind} {p:List MemPlace} (h:DataW.trod enc P W 0 sp held fuel t [c]=some (.lit (.int kd z),p)):c = .int q z:=by
 cases fuel with
 | zero=>simp [DataW.trod] at h
 | succ n =>
  rw [DataW.trod_step] at h;unfold DataW.trodStep at h;rw [ht] at h
  cases c<;>simp at h
  obtain⟨⟨rfl,_⟩,⟨_,rfl⟩,_⟩:=h
  rfl
end maps
theorem zBU {P:Program} {W:World} {sp:Nat → Bool} {held:Bool} {H:Type} {enc:TypeId × Value → H} {e:TypeId} (he:P.underlying e=some (.int .i64)) {n:Nat} {v:Value} {z:Int} {kd:IntKind} {q:List MemPlace} (h:elemAt enc P W 0 sp held n e v=some (.lit (.int kd z),q)):v = .int .i64 z:=by
 unfold elemAt at h;split at h
 · rename_i hf
   cases v with
   | agg cs=>simp [Value.formed,he] at hf
   | tuple cs=>simp [Value.formed] at hf
   | _=>exact trod_int he h
 · cases h
theorem zrY {W:World} {fuel:Nat} {cs:List Value} {p:List MemPlace} {sp:Nat → Bool} {held:Bool} {enc:TypeId × Value → Unit} (h:DataW.trod enc Tryz.prog W 0 sp held fuel 190 cs=some (Rows.laid_attestor_typecheck_widths,p)) :
 ∃ b m,cs=[.map (some b)]∧GMap σ0 H0 W b (tm iev ivv m)∧(∀ q∈m,okI q.1) ∧ ∀ z,zM z m=zwa z:=by
 refine zD7 Tryz.underlying190 Tryz.underlying3 h zwa ivv (fun v n => .p _) ?_ ?_
 · intro n kk d hm v q he;simp only [List.mem_cons,List.not_mem_nil,or_false,Prod.mk.injEq] at hm
   (rcases hm with ⟨rfl,rfl⟩ | ⟨rfl,rfl⟩ | ⟨rfl,rfl⟩ | ⟨rfl,rfl⟩ | ⟨rfl,rfl⟩)<;>(obtain rfl:=zBU Tryz.underlying3 he;exact⟨_,_,rfl,rfl,.p (.s _ rfl)⟩)
 · intro z x hz
   have hk:z=0 ∨ z=1 ∨ z=2 ∨ z=3 ∨ z=4:=by
    unfold zwa at hz
    repeat' split at hz
    all_goals first | omega | cases hz
   (rcases hk with rfl | rfl | rfl | rfl | rfl)<;>exact⟨_,by simp [Rows.laid_attestor_typecheck_widths];rfl⟩
end Go.Proofs.YthaoifcebimkfaaGreatDoor

namespace Go.Proofs.YthaoifcebimkfaaGreatDoor
open Go Go.AL Go.ChangeShapes Go.WideShapes Go.ChangeAt Go.RowKit

theorem own:ownKnob Tryz.prog.godebug=none:=by kernel_rfl
theorem laidOut:laidOutB Tryz.prog=true:=by kernel_rfl
def zG5:String:=Rows.compileMatchesReferenceRow.named[0]!
theorem gWid:Tryz.prog.globalNamed zG5=some 0:=by kernel_rfl
theorem gWidT:(Tryz.prog.globals[0]?).map (·.type)=some 190:=by kernel_rfl
theorem zBV {W:World} {n:String} {g b:Nat} {cs:Array Value} (hg:Tryz.prog.globalNamed n=some g) (hv:W.var? Tryz.prog n=some cs) (hc:cs.toList=[.map (some b)]):RelV σ0 H0 W (.ip 1 [.s (.map (some b))] 0 0) (.pointer (some ⟨g,0,none⟩)):=by
 have hcell:W.cell? ⟨g,0,none⟩=some (.map (some b)):=by
  unfold World.var? at hv;rw [hg] at hv;simp only [Option.bind_some] at hv;unfold World.cell?;split at hv
  · rename_i c t f hh;simp only [hh];obtain rfl:=Option.some.inj hv
    obtain⟨l⟩:=c
    obtain rfl:l=[.map (some b)]:=hc;rfl
  · cases hv
 have:=RelV.ip (σ:=σ0) (H:=H0) (w:=W) (sz:=1) (xs:=[.s (.map (some b))]) (i:=0) (sub:=0) (g:=g) (off:=0) (cap:=1)
  (.sl false _ _ _ 0 1 (fun k => .map (some b)) (by simp) ⟨by simp,by unfold maxLen;omega⟩ (fun x hx=>by simp only [List.mem_singleton] at hx;subst hx;rfl)
   (fun k hk=>by
    simp only [List.length_singleton,Nat.one_mul] at hk
    obtain rfl:k=0:=by omega
    exact⟨zsh _ _,hcell,rfl⟩)
   (fun k y hy=>by
    have:flat [PV.s (.map (some b))]=[.s (.map (some b))]:=by simp [flat,PV.cells]
    rw [this] at hy
    cases k with
    | zero=>simp at hy;subst hy;exact .s _ rfl
    | succ k=>simp at hy)) (by simp) (by omega)
 simpa using this
def GG (r1:Nat) (m1:List (Int × Int)):Globs :=
 ⟨fun g=>if g=0 then some (1,[.s (.map (some r1))]) else none,fun r=>if r=r1 then some (tm iev ivv m1) else none⟩
theorem zf7 {W:World} (h:laidMetH Tryz.prog Rows.compileMatchesReferenceRow.laid W) : ∃ r1 m1,GW (GG r1 m1) r1 m1∧Rel (GG r1 m1) σ0 H0 W:=by
 have hd:laidMet Tryz.prog [(zG5,Rows.laid_attestor_typecheck_widths)] W:=h
 obtain⟨_,⟨g2,t2,c2,f2,p2,_,hg2,ht2,hv2,hr2,_⟩,_⟩:=hd
 obtain rfl:=Option.some.inj (gWid.symm.trans hg2);obtain rfl:=Option.some.inj (gWidT.symm.trans ht2)
 obtain⟨b2,m2,hb2,gm2,k2,a2⟩:=zrY hr2
 refine⟨b2,m2,⟨rfl,if_pos rfl,k2,a2⟩,zHf (fun g sz xs hg => ?_) fun r m hm => ?_⟩
 · simp only [GG] at hg;split at hg
   · rename_i e;subst e;cases hg;exact zBV gWid hv2 hb2
   · cases hg
 · simp only [GG] at hm;split at hm
   · rename_i e;subst e;cases hm;exact gm2
   · cases hm
noncomputable def laidWorld (os:Os):World:=World.doorLaid Tryz.prog 2000 os
set_option maxRecDepth 100000 in
theorem laid_met (os:Os) (args:Array Value):laidMet Tryz.prog Rows.compileMatchesReferenceRow.laid ((laidWorld os).forCall (fun _ _=>0) ⟨#[],args,[]⟩).memory :=
 laidMet_of_run' 8 (by kernel_rfl) (by kernel_rfl)

set_option maxRecDepth 100000
section read
variable {k:Nat} {y:List PV}
theorem zD8 (h:Reads Tryz.prog (k+1) 4 y) : ∃ b:Bool,y=[bo b]:=by
 simp only [Reads,Tryz.underlying4] at h;exact h
theorem zGa (h:Reads Tryz.prog (k+2) 75 y) : ∃ c:Cnd,zbw true y=cnd c∧True:=by
 obtain⟨y1,z1,rfl,-,r1,y2,z2,rfl,-,r2,y3,z3,rfl,-,r3,rfl⟩:=Reads.struct Tryz.underlying75 h
 obtain⟨a,-,-,rfl⟩:=Reads.i64 Tryz.underlying3 r1
 obtain⟨b,-,-,rfl⟩:=Reads.i64 Tryz.underlying3 r2
 obtain⟨c,-,-,rfl⟩:=Reads.i64 Tryz.underlying3 r3
 exact⟨⟨a,b,c⟩,rfl,trivial⟩
theorem zD9 (h:Reads Tryz.prog (k+4) 22 y) : ∃ l:List (List Cnd),l.length≤9223372036854775807∧y=[.sl false 1 (pl yH l)]:=by
 obtain⟨l,hl,rfl,-⟩:=Reads.sl yH (fun _=>True) Tryz.underlying22 zsv zy1 h fun y hy=>by
  obtain⟨l,-,rfl,-⟩:=Reads.sl cnd (fun _=>True) Tryz.underlying73 zsw zy2 hy fun y hy=>zGa hy
  exact⟨l,rfl,trivial⟩
 exact⟨l,hl,rfl⟩
theorem zGb (h:Reads Tryz.prog (k+3) 108 y) : ∃ x:SOp,zbw true y=sop x∧True:=by
 obtain⟨y1,z1,rfl,-,r1,y2,z2,rfl,-,r2,rfl⟩:=Reads.struct Tryz.underlying108 h
 obtain⟨l,h1,rfl⟩:=Reads.arr b8 Tryz.underlying106 r1 fun y hy=>Reads.u8 Tryz.underlying5 hy
 obtain⟨b,rfl⟩:=zD8 r2
 match l,h1 with
 | [a,c,d],_=>exact⟨⟨a,c,d,b⟩,rfl,trivial⟩
end read
section rel
variable {W:World} {v:Value} {H:Type} {enc:TypeId × Value → H} {d:DataW H} {ps:List MemPlace} {base:Nat}
theorem zlx (hval:Value.okWide Tryz.prog W .any base 24 v) (h:DataW.Trod enc Tryz.prog W 0 (fun _=>true) true 24 v d ps) : ∃ q:Qry,(okI q.kind∧q.fl.length≤9223372036854775807)∧RelV σ0 H0 W (.p (qry q)) v:=by
 obtain⟨xs,hx,e⟩:=zhI 8 (by kernel_rfl) hval h
 obtain⟨y1,z1,rfl,-,r1,y2,z2,rfl,-,r2,y3,z3,rfl,-,r3,y4,z4,rfl,-,r4,rfl⟩:=Reads.struct (k:=7) Tryz.underlying24 hx
 obtain⟨a,a1,a2,rfl⟩:=Reads.i64 Tryz.underlying3 r1
 obtain⟨b,-,-,rfl⟩:=Reads.i64 Tryz.underlying3 r2
 obtain⟨c,-,-,rfl⟩:=Reads.i64 Tryz.underlying3 r3
 obtain⟨l,hl,rfl⟩:=zD9 r4
 rw [zyX] at e
 exact⟨⟨a,b,c,l⟩,⟨⟨a1,a2⟩,hl⟩,e⟩
theorem zix (hval:Value.okWide Tryz.prog W .any base 25 v) (h:DataW.Trod enc Tryz.prog W 0 (fun _=>true) true 25 v d ps) : ∃ l:List SOp,l.length≤9223372036854775807∧RelV σ0 H0 W (.p (.sl false 4 (pl sop l))) v:=by
 obtain⟨xs,hx,e⟩:=zhI 8 (by kernel_rfl) hval h
 obtain⟨l,h1,rfl,-⟩:=Reads.sl (k:=7) sop (fun _=>True) Tryz.underlying25 zm6 zsA hx fun y hy=>zGb hy
 rw [zyY] at e
 exact⟨l,h1,e⟩
end rel
end Go.Proofs.YthaoifcebimkfaaGreatDoor

namespace Go.Proofs.YthaoifcebimkfaaGreatDoor
open Go Go.AL

def Usd (ls:List (List Gate)) (X:Nat → Nat → Prop):Prop :=
 ∀ m g,g < (nth ls m).length → X m g ∨ ∃ i,i < (nth ls (m+1)).length∧((nth (nth ls (m+1)) i).l=(g:Int) ∨ (nth (nth ls (m+1)) i).r=(g:Int))
theorem Usd.mono {ls:List (List Gate)} {X Y:Nat → Nat → Prop} (h:Usd ls X) (hxy : ∀ m g,X m g → Y m g):Usd ls Y:=fun m g hg=>(h m g hg).imp (hxy m g) id
theorem Usd.put {ls:List (List Gate)} {X:Nat → Nat → Prop} {k il ir:Nat} {g:Gate} (hk:k < ls.length) (hl:g.l=(il:Int)) (hr:g.r=(ir:Int))
 (h:Usd ls fun m j=>X m j ∨ (m+1=k∧(j=il ∨ j=ir))):Usd (ls.set k (nth ls k++[g])) fun m j=>X m j ∨ (m+1=k+1∧j=(nth ls k).length):=by
 intro m j hj;by_cases e:m=k
 · subst e;rw [zda hk] at hj;by_cases e2:j=(nth ls m).length
   · exact .inl (.inr ⟨rfl,e2⟩)
   · have hj2:j < (nth ls m).length:=by simp at hj;omega
     rcases h m j hj2 with (h1 | ⟨h1,_⟩) | ⟨i,h1,h2⟩
     · exact .inl (.inl h1)
     · omega
     · exact .inr ⟨i,by rw [put_ne (by omega)];exact h1,by rw [put_ne (by omega)];exact h2⟩
 · rw [put_ne e] at hj
   rcases h m j hj with (h1 | ⟨h1,h2⟩) | ⟨i,h1,h2⟩
   · exact .inl (.inl h1)
   · subst h1;refine .inr ⟨(nth ls (m+1)).length,?_,?_⟩
     · rw [zda hk];simp
     · rw [zda hk,zm (Nat.le_refl _),Nat.sub_self,zw,hl,hr]
       rcases h2 with rfl | rfl
       · exact .inl rfl
       · exact .inr rfl
   · by_cases e2:m+1=k
     · subst e2;exact .inr ⟨i,by rw [zda hk];simp;omega,by rw [zda hk,zv h1];exact h2⟩
     · exact .inr ⟨i,by rw [put_ne e2];exact h1,by rw [put_ne e2];exact h2⟩
theorem zxj {s:List Nd} : ∀ k n st X,k≤st.ls.length → Usd st.ls X →
 (need s k n st).2.ls.length=st.ls.length∧Usd (need s k n st).2.ls fun m g=>X m g ∨ (m+1=k∧g=(need s k n st).1):=by
 intro k
 induction k with
 | zero=>exact fun n st X _ h=>⟨rfl,h.mono fun _ _ => .inl⟩
 | succ k ih =>
  intro n st X hk h;rw [zbK]
  cases ha:zM (n,k+1) st.at' with
  | some i=>exact⟨rfl,h.mono fun _ _ => .inl⟩
  | none =>
   simp only
   split
   · obtain⟨a1,a2⟩:=ih n st X (by omega) h
     refine⟨by simp [zay,a1],?_⟩
     exact Usd.put (il:=(need s k n st).1) (ir:=(need s k n st).1) (by omega) rfl rfl (a2.mono fun m g hx=>hx.imp id fun ⟨x,y⟩=>⟨x,.inl y⟩)
   · obtain⟨a1,a2⟩:=ih (nth s (n - 29)).l st X (by omega) h
     obtain⟨b1,b2⟩:=ih (nth s (n - 29)).r _ _ (by omega) a2
     refine⟨by simp [zay,a1,b1],?_⟩
     refine Usd.put (il:=(need s k (nth s (n - 29)).l st).1) (ir:=(need s k (nth s (n - 29)).r (need s k (nth s (n - 29)).l st).2).1) (by omega) rfl rfl (b2.mono fun m g hx => ?_)
     rcases hx with (hx | ⟨x,y⟩) | ⟨x,y⟩
     · exact .inl hx
     · exact .inr ⟨x,.inl y⟩
     · exact .inr ⟨x,.inr y⟩

theorem LOk.noneI (s:List Nd) (inp:List U) (d:Nat):LOk s inp d ⟨[],List.replicate d []⟩ :=
 ⟨by simp,fun k j hj=>by rw [zbl] at hj;simp at hj,fun k j hj=>by rw [zbl] at hj;simp at hj,fun n k i h=>by cases h⟩
section lays
variable {s:List Nd} {inp:List U} {o:List Nat}
abbrev st0 (s:List Nd) (o:List Nat) (i:Nat):List Gate × LS:=y6 s (depth s o) o ⟨[],List.replicate (depth s o) []⟩ i
abbrev resN (s:List Nd) (o:List Nat) (i:Nat):Nat:=(need s (depth s o) (nth o i) (st0 s o i).2).1
structure Lst (s:List Nd) (inp:List U) (o:List Nat) (i:Nat):Prop where
 ok:LOk s inp (depth s o) (st0 s o i).2
 at' : ∀ j,j < i → resN s o j < (nth (st0 s o i).2.ls (depth s o - 1)).length∧nth (st0 s o i).1 j=nth (nth (st0 s o i).2.ls (depth s o - 1)) (resN s o j) ∧
  nth (rw' (st0 s o i).2.ls inp (depth s o)) (resN s o j)=ndv s inp (nth o j)
 us:Usd (st0 s o i).2.ls fun m g=>m+1=depth s o ∧ ∃ j,j < i∧g=resN s o j
theorem zBW (hw:Wf s) (hC:SmC s) (hi:Fv inp) (ho : ∀ x∈o,x < 29+s.length) (hd:0 < depth s o) : ∀ i,i≤o.length → Lst s inp o i
 | 0,_=>⟨LOk.noneI s inp _,fun j hj=>absurd hj (Nat.not_lt_zero _),fun m g hg=>by
  simp only [st0,y6] at hg
  rw [zbl] at hg;simp at hg⟩
 | i+1,hil=>by
  have ih:=zBW hw hC hi ho hd i (by omega)
  have hm:nth o i∈o:=by rw [zc (by omega)];exact List.getElem_mem _
  obtain⟨w1,w2,w3,w4,w5⟩:=zdb hw hC.fv hi (depth s o) (nth o i) _ ih.ok (Nat.le_refl _) (ho _ hm) (zb9 hm)
  obtain⟨u1,u2⟩:=zxj (s:=s) (depth s o) (nth o i) (st0 s o i).2 _ (by rw [ih.ok.len];exact Nat.le_refl _) ih.us
  have hwid:zbD (need s (depth s o) (nth o i) (st0 s o i).2).2.ls (depth s o)=(nth (need s (depth s o) (nth o i) (st0 s o i).2).2.ls (depth s o - 1)).length:=by unfold zbD;rw [if_neg (by omega)]
  have e1:(st0 s o (i+1)).2=(need s (depth s o) (nth o i) (st0 s o i).2).2:=rfl;have e2:(st0 s o (i+1)).1=(st0 s o i).1++[nth (nth (need s (depth s o) (nth o i) (st0 s o i).2).2.ls (depth s o - 1)) (resN s o i)]:=rfl;have hl1:(st0 s o i).1.length=i:=zcH s _ o _ i
  refine⟨by rw [e1];exact w1,fun j hj => ?_,?_⟩
  · rw [e1,e2];by_cases e:j=i
    · subst e;rw [zm (by omega),hl1,Nat.sub_self,zw]
      exact⟨by rw [←hwid];exact w3,rfl,w4⟩
    · have hji:j < i:=by omega
      obtain⟨a1,a2,a3⟩:=ih.at' j hji
      rw [zv (by omega),w2.at a1]
      refine⟨Nat.lt_of_lt_of_le a1 (w2.len _),a2,?_⟩
      rw [w2.row ih.ok.op _ _ (by unfold zbD;rw [if_neg (by omega)];exact a1)];exact a3
  · rw [e1]
    refine u2.mono fun m g hx => ?_
    rcases hx with ⟨h1,j,hj,rfl⟩ | ⟨h1,rfl⟩
    · exact⟨h1,j,by omega,rfl⟩
    · exact⟨h1,i,by omega,rfl⟩
theorem rw'_congr {a b:List (List Gate)} {inp:List U} : ∀ k,(∀ j,j < k → nth a j=nth b j) → rw' a inp k=rw' b inp k
 | 0,_=>rfl
 | k+1,h=>by rw [rw'_succ,rw'_succ,h k (by omega),rw'_congr k fun j hj=>h j (by omega)]
theorem zxk:zbY s o=(st0 s o o.length).2.ls.set (depth s o - 1) (st0 s o o.length).1:=rfl
structure Lay (s:List Nd) (inp:List U) (o:List Nat) (L:List (List Gate)):Prop where
 len:L.length=depth s o
 last:(nth L (depth s o - 1)).length=o.length
 ne : ∀ k,k < depth s o → 0 < (nth L k).length
 op : ∀ k,k < depth s o → ∀ j,j < (nth L k).length → opG (zbD L k:Int) (nth (nth L k) j)∧fvG (nth (nth L k) j)
 us : ∀ k,k+1 < depth s o → ∀ g,g < (nth L k).length → ∃ i,i < (nth L (k+1)).length∧((nth (nth L (k+1)) i).l=(g:Int) ∨ (nth (nth L (k+1)) i).r=(g:Int))
 val : ∀ i,i < o.length → nth (rw' L inp (depth s o)) i=ndv s inp (nth o i)
theorem zGc (hw:Wf s) (hC:SmC s) (hi:Fv inp) (ho : ∀ x∈o,x < 29+s.length) (hd:0 < depth s o) (hon:0 < o.length):Lay s inp o (zbY s o):=by
 have h:=zBW (inp:=inp) hw hC hi ho hd o.length (Nat.le_refl _);have hl1:(st0 s o o.length).1.length=o.length:=zcH s _ o _ _;rw [zxk]
 obtain⟨hok,hat,hus⟩:=h
 generalize st0 s o o.length=p at hok hat hus hl1
 have hlen:=hok.len;have hD:nth (p.2.ls.set (depth s o - 1) p.1) (depth s o - 1)=p.1:=zbU rfl (by omega)
 have hne : ∀ k,k≠depth s o - 1 → nth (p.2.ls.set (depth s o - 1) p.1) k=nth p.2.ls k:=fun k hk=>put_ne hk _
 have hop : ∀ k,k < depth s o → ∀ j,j < (nth (p.2.ls.set (depth s o - 1) p.1) k).length → opG (zbD (p.2.ls.set (depth s o - 1) p.1) k:Int) (nth (nth (p.2.ls.set (depth s o - 1) p.1) k) j)∧fvG (nth (nth (p.2.ls.set (depth s o - 1) p.1) k) j):=fun k hk j hj=>by
  have ew:zbD (p.2.ls.set (depth s o - 1) p.1) k=zbD p.2.ls k:=by
   unfold zbD
   split
   · rfl
   · rw [hne _ (by omega)]
  rw [ew];by_cases e:k=depth s o - 1
  · subst e;rw [hD] at hj ⊢
    obtain⟨a1,a2,_⟩:=hat j (by omega)
    rw [a2]
    exact⟨hok.op _ _ a1,hok.fv _ _ a1⟩
  · rw [hne k e] at hj ⊢
    exact⟨hok.op _ _ hj,hok.fv _ _ hj⟩
 have hlast:(nth (p.2.ls.set (depth s o - 1) p.1) (depth s o - 1)).length=o.length:=by rw [hD,hl1]
 refine⟨by rw [List.length_set,hlen],hlast,fun k hk => ?_,hop,fun k hk g hg => ?_,fun i hi' => ?_⟩
 · -- nonempty,from the last layer down
   have : ∀ m k,k+m=depth s o - 1 → 0 < (nth (p.2.ls.set (depth s o - 1) p.1) k).length:=by
    intro m
    induction m with
    | zero=>intro k hk;rw [show k=depth s o - 1 by omega,hlast];exact hon
    | succ m ih =>
     intro k hk;have h1:=ih (k+1) (by omega)
     obtain⟨⟨b1,b2,_⟩,_⟩:=hop (k+1) (by omega) 0 h1
     have e:zbD (p.2.ls.set (depth s o - 1) p.1) (k+1)=(nth (p.2.ls.set (depth s o - 1) p.1) k).length:=by unfold zbD;rw [if_neg (by omega),Nat.add_sub_cancel]
     rw [e] at b2;omega
   exact this (depth s o - 1 - k) k (by omega)
 · rw [hne k (by omega)] at hg
   rcases hus k g hg with ⟨h1,_⟩ | ⟨i,h1,h2⟩
   · omega
   · by_cases e:k+1=depth s o - 1
     · rw [e] at h1 h2 ⊢
       rcases hus (depth s o - 1) i h1 with ⟨_,j,hj,rfl⟩ | ⟨i',h3,_⟩
       · rw [hD]
         obtain⟨_,a2,_⟩:=hat j hj
         exact⟨j,by omega,by rw [a2];exact h2⟩
       · rw [show nth p.2.ls (depth s o - 1+1)=[] by simp [nth,show ¬ depth s o - 1+1 < p.2.ls.length by omega];rfl] at h3;simp at h3
     · rw [hne _ e]
       exact⟨i,h1,h2⟩
 · obtain⟨a1,a2,a3⟩:=hat i hi'
   obtain⟨m,hm⟩ : ∃ m,depth s o=m+1:=⟨depth s o - 1,by omega⟩
   rw [hm] at a1 a2 a3 hD hne ⊢;simp only [Nat.add_sub_cancel] at a1 a2 hD hne ⊢;rw [rw'_succ,zfx a1] at a3;rw [rw'_succ,hD,zfx (by omega),a2,←a3,rw'_congr m fun j hj=>hne j (by omega)]
end lays
end Go.Proofs.YthaoifcebimkfaaGreatDoor

namespace Go.Proofs.YthaoifcebimkfaaGreatDoor
open Go Go.AL

def fn (n:Nat):FP:=Fin.ofNat _ n
theorem zGd:fn 1=1:=rfl
theorem zrZ (a b:Nat):fn (a+b)=fn a+fn b:=by
 apply Fin.ext;rw [Fin.val_add]
 show (a+b) % _=(a % _+b % _) % _
 rw [←Nat.add_mod]
theorem zBX (a b:Nat):fn (a*b)=fn a*fn b:=by
 apply Fin.ext;rw [Fin.val_mul]
 show (a*b) % _=(a % _*(b % _)) % _
 rw [←Nat.mul_mod]
theorem zGe {a b:Nat} (ha:a < 18446744069414584321) (hb:b < 18446744069414584321) (h:fn a=fn b):a=b:=by
 have h3:(fn a).val=(fn b).val:=by rw [h]
 have e1:(fn a).val=a % 18446744069414584321:=rfl;have e2:(fn b).val=b % 18446744069414584321:=rfl;rw [e1,e2,Nat.mod_eq_of_lt ha,Nat.mod_eq_of_lt hb] at h3;exact h3
def b01 (b:Bool):FP:=if b then 1 else 0
def b2n (b:Bool):Nat:=if b then 1 else 0
theorem ziy (b:Bool):fn (b2n b)=b01 b:=by cases b<;>rfl
theorem zly (a b:Bool):b01 a*b01 b=b01 (a && b):=by cases a<;>cases b<;>rfl
theorem fi0:fe (fi 0)=0:=rfl
theorem fi1:fe (fi 1)=1:=rfl
theorem zEa:fe (fi (-1)) = -1:=by decide +kernel

structure Gd (s:List Nd):Prop where
 wf:Wf s
 sm:SmC s
theorem Gd.nil:Gd []:=⟨Wf.nil,SmC.nil⟩
structure Ev (inp:List U) (s:List Nd) (x:Nat) (v:FP) (m:Nat):Prop where
 lt:x < 29+s.length
 val:fe (ndv s inp x)=v
 lv:lev s x≤m
section ev
variable {inp:List U} {s t:List Nd}
theorem Ev.ext {x:Nat} {v:FP} {m:Nat} (h:Ev inp s x v m) (hx:Exn s t):Ev inp t x v m:=⟨by have:=hx.len;have:=h.lt;omega,by rw [zfv hx h.lt];exact h.val,by rw [hx.lev h.lt];exact h.lv⟩
theorem Ev.more {x:Nat} {v:FP} {m m':Nat} (h:Ev inp s x v m) (hm:m≤m'):Ev inp s x v m':=⟨h.lt,h.val,by have:=h.lv;omega⟩
theorem Ev.to {x:Nat} {v v':FP} {m:Nat} (h:Ev inp s x v m) (hv:v=v'):Ev inp s x v' m:=hv ▸ h
theorem Ev.arg {x:Nat} (hx:x < 29):Ev inp s x (fe (nth inp x)) 0:=⟨by omega,by rw [zqW hx],by rw [zh7 x hx];exact Nat.le_refl _⟩
theorem zxm (s:List Nd) (l r:Nat) (k:Cf):yF s k l r < (addN s l r k).2.length ∧ ∃ v,nth (addN s l r k).2 (yF s k l r)=⟨k,l,r,v⟩:=by
 have hle:=zgY s k l r;rw [zaf]
 split
 · rename_i hp
   refine⟨hp,?_⟩
   have hp':s.findIdx (fun x=>decide (x.k=k∧x.l=l∧x.r=r)) < s.length:=hp;have this:=List.findIdx_getElem (xs:=s) (p:=fun x=>decide (x.k=k∧x.l=l∧x.r=r)) (w:=hp');simp only [decide_eq_true_eq] at this;have e:nth s (yF s k l r)=s[s.findIdx (fun x=>decide (x.k=k∧x.l=l∧x.r=r))]'hp':=zc hp';rw [e]
   obtain⟨h1,h2,h3⟩:=this
   generalize s[s.findIdx (fun x=>decide (x.k=k∧x.l=l∧x.r=r))]'hp'=x at h1 h2 h3
   cases x
   simp only at h1 h2 h3;subst h1;subst h2;subst h3
   exact⟨_,rfl⟩
 · rename_i hp
   have:yF s k l r=s.length:=by omega
   rw [this]
   refine⟨by simp,?_⟩
   rw [zm (Nat.le_refl _),Nat.sub_self,zw]
   exact⟨_,rfl⟩
theorem zEb {s:List Nd} (hw:Wf s) {l r:Nat} (hl:l < 29+s.length) (hr:r < 29+s.length) (k:Cf):lev (addN s l r k).2 (addN s l r k).1=1+max (lev s l) (lev s r):=by
 obtain⟨h1,v,h2⟩:=zxm s l r k
 have hx:Exn s (addN s l r k).2:=(yk l r k).ext s;have h3:=(hw.add hl hr k).lv _ h1;rw [h2] at h3;rw [hx.lev hl,hx.lev hr] at h3;rw [zaQ];unfold lev;rw [if_neg (by omega),Nat.add_sub_cancel_left,h2];exact h3

structure Bl (inp:List U) (s:List Nd) (p:BS) (v:FP) (m:Nat):Prop where
 gd:Gd p.2
 ex:Exn s p.2
 ev:Ev inp p.2 p.1 v m
theorem Bl.to {p:BS} {v v':FP} {m m':Nat} (h:Bl inp s p v m) (hv:v=v':=by rfl) (hm:m≤m':=by omega):Bl inp s p v' m':=⟨h.gd,h.ex,(h.ev.more hm).to hv⟩
theorem Bl.pre {p:BS} {v:FP} {m:Nat} (h:Bl inp t p v m) (hx:Exn s t):Bl inp s p v m:=⟨h.gd,hx.trans h.ex,h.ev⟩
theorem zd9 (hi:Fv inp) (hg:Gd s) {l r:Nat} {a b:FP} {m m':Nat} (hl:Ev inp s l a m) (hr:Ev inp s r b m') {k:Cf} (hk:okC k) :
 Bl inp s (addN s l r k) (fe (fi k.c)*(a*b)+fe (fi k.a)*a+fe (fi k.b)*b+fe (fi k.d)) (1+max m m'):=by
 have hx:Exn s (addN s l r k).2:=(yk l r k).ext s
 refine⟨⟨hg.wf.add hl.lt hr.lt k,(zbG s l r hk).sm hg.sm⟩,hx,yP s l r k,?_,?_⟩
 · rw [zDn hg.wf hl.lt hr.lt];have h1:=zcE hg.wf hg.sm.fv hi l hl.lt;have h2:=zcE hg.wf hg.sm.fv hi r hr.lt;unfold gvU;rw [zAS (g:=⟨0,0,fi k.c,fi k.a,fi k.b,fi k.d⟩) ⟨zbk hk.1.1 hk.1.2,zbk hk.2.1.1 hk.2.1.2,zbk hk.2.2.1.1 hk.2.2.1.2,zbk hk.2.2.2.1 hk.2.2.2.2⟩ h1 h2,hl.val,hr.val]
 · rw [zEb hg.wf hl.lt hr.lt]
   have:=hl.lv
   have:=hr.lv
   omega
theorem zj6 (hi:Fv inp) (hg:Gd s) {l r:Nat} {a b:FP} {m m':Nat} (hl:Ev inp s l a m) (hr:Ev inp s r b m'):Bl inp s (prN s l r) (a*b) (1+max m m') :=
 (zd9 hi hg hl hr (k:=⟨1,0,0,0⟩) zap).to (by simp only [fi0,fi1];grind) (Nat.le_refl _)

theorem zcc {c k:Nat} (hc:c < 4) (hk:k < zN c):zf c+k < 29:=by
 have h:c=0 ∨ c=1 ∨ c=2 ∨ c=3:=by omega
 rcases h with rfl | rfl | rfl | rfl<;>simp [zf,zN,nth] at hk ⊢ <;> omega
def zfH (most:Bool) (n x i:Nat):Bool:=if most then decide (x % 2 ^ i≤n % 2 ^ i) else decide (n % 2 ^ i≤x % 2 ^ i)
def zjg (inp:List U) (most:Bool) (n x i:Nat) (p:Option Nat × List Nd):Prop :=
 match p.1 with
 | none=>if most then n % 2 ^ i=2 ^ i - 1 else n % 2 ^ i=0
 | some g=>Ev inp p.2 g (b01 (zfH most n x i)) i
theorem zbo (n i:Nat):(bt n i=true∧n % 2 ^ (i+1)=n % 2 ^ i+2 ^ i) ∨ (bt n i=false∧n % 2 ^ (i+1)=n % 2 ^ i):=by
 rw [Nat.mod_pow_succ];unfold bt
 rcases Nat.mod_two_eq_zero_or_one (n / 2 ^ i) with h | h
 · exact .inr ⟨by simp [h],by rw [h];omega⟩
 · exact .inl ⟨by simp [h],by rw [h];omega⟩
theorem zs3 (hi:Fv inp) (hg:Gd s) {c:Nat} (hc:c < 4) (most:Bool) (n x:Nat) (hb : ∀ k,k < zN c → fe (nth inp (zf c+k))=b01 (bt x k)) :
 ∀ i,i≤zN c → Gd (yO most n c s i).2∧Exn s (yO most n c s i).2∧zjg inp most n x i (yO most n c s i)
 | 0,_=>⟨hg,.refl s,by show (if most then n % 2 ^ 0=2 ^ 0 - 1 else n % 2 ^ 0=0);rw [Nat.pow_zero,Nat.mod_one];cases most<;>rfl⟩
 | i+1,hil=>by
  obtain⟨h1,h2,h3⟩:=zs3 hi hg hc most n x hb i (by omega)
  have hin:=Ev.arg (inp:=inp) (s:=(yO most n c s i).2) (zcc hc (show i < zN c by omega));rw [hb i (by omega)] at hin
  show Gd (zbh most n (zf c+i) i (yO most n c s i)).2∧Exn s (zbh most n (zf c+i) i (yO most n c s i)).2∧zjg inp most n x (i+1) (zbh most n (zf c+i) i (yO most n c s i))
  generalize yO most n c s i=p at h1 h2 h3 hin
  obtain⟨o,t⟩:=p
  simp only at h1 h2 hin;have hX:=Nat.mod_lt x (Nat.two_pow_pos i);have hN:=Nat.mod_lt n (Nat.two_pow_pos i);have hP:=Nat.pow_succ 2 i
  cases o with
  | none =>
   simp only [zjg] at h3
   cases most with
   | true =>
    simp only [if_true] at h3
    rcases zbo n i with ⟨b1,b2⟩ | ⟨b1,b2⟩
    · simp only [zbh,b1,if_true]
      refine⟨h1,h2,?_⟩
      simp only [zjg,if_true];omega
    · have hA:=zd9 hi h1 hin hin (k:=⟨0,-1,0,1⟩) zap;simp only [zbh,b1,if_true,if_false,Bool.false_eq_true]
      refine⟨hA.gd,h2.trans hA.ex,?_⟩
      simp only [zjg];refine (hA.ev.more (by omega)).to ?_
      rcases zbo x i with ⟨c1,c2⟩ | ⟨c1,c2⟩
      · have:zfH true n x (i+1)=false:=by simp only [zfH,if_true,decide_eq_false_iff_not];omega
        rw [this,c1];simp only [fi0,fi1,zEa];decide +kernel
      · have:zfH true n x (i+1)=true:=by simp only [zfH,if_true,decide_eq_true_eq];omega
        rw [this,c1];simp only [fi0,fi1,zEa];decide +kernel
   | false =>
    simp only [if_false,Bool.false_eq_true] at h3
    rcases zbo n i with ⟨b1,b2⟩ | ⟨b1,b2⟩
    · simp only [zbh,b1,if_true,if_false,Bool.false_eq_true]
      refine⟨h1,h2,?_⟩
      simp only [zjg];refine (hin.more (by omega)).to ?_
      rcases zbo x i with ⟨c1,c2⟩ | ⟨c1,c2⟩
      · have:zfH false n x (i+1)=true:=by simp only [zfH,if_false,Bool.false_eq_true,decide_eq_true_eq];omega
        rw [this,c1]
      · have:zfH false n x (i+1)=false:=by simp only [zfH,if_false,Bool.false_eq_true,decide_eq_false_iff_not];omega
        rw [this,c1]
    · simp only [zbh,b1,if_false,Bool.false_eq_true]
      refine⟨h1,h2,?_⟩
      simp only [zjg,if_false,Bool.false_eq_true];omega
  | some g =>
   simp only [zjg] at h3;have hk:okC (zkW most (bt n i)):=zsW _ _;have hA:=zd9 hi h1 hin h3 hk;simp only [zbh]
   refine⟨hA.gd,h2.trans hA.ex,?_⟩
   simp only [zjg];refine (hA.ev.more (by omega)).to ?_
   have key:zfH most n x (i+1)=if bt n i=bt x i then zfH most n x i else (bt x i != most):=by
    rcases zbo n i with ⟨b1,b2⟩ | ⟨b1,b2⟩<;>rcases zbo x i with ⟨c1,c2⟩ | ⟨c1,c2⟩<;>rw [b1,c1]<;>cases most <;>
     simp only [zfH,b2,c2,if_true,if_false,Bool.false_eq_true,reduceCtorEq,Bool.true_eq_false,bne_self_eq_false,decide_eq_false_iff_not,decide_eq_true_eq,decide_eq_decide]<;>first | omega | (simp;omega)
   rw [key]
   cases most<;>cases bt n i<;>cases bt x i<;>cases zfH _ n x i<;>decide +kernel
theorem zBY (hi:Fv inp) (hg:Gd s) {c:Nat} (hc:c < 4) (most:Bool) (n x:Nat) (hn:n < 2 ^ zN c) (hx:x < 2 ^ zN c) (hm:if most then n≠2 ^ zN c - 1 else n≠0)
 (hb : ∀ k,k < zN c → fe (nth inp (zf c+k))=b01 (bt x k)):Bl inp s (zc3 most n c s) (b01 (if most then decide (x≤n) else decide (n≤x))) 8:=by
 obtain⟨h1,h2,h3⟩:=zs3 hi hg hc most n x hb (zN c) (Nat.le_refl _)
 unfold zc3
 generalize yO most n c s (zN c)=p at h1 h2 h3
 obtain⟨o,t⟩:=p
 unfold zjg zfH at h3;rw [Nat.mod_eq_of_lt hn,Nat.mod_eq_of_lt hx] at h3
 cases o with
 | none=>simp only at h3;cases most<;>simp only [if_true,if_false,Bool.false_eq_true] at h3 hm<;>exact absurd h3 hm
 | some g=>exact⟨h1,h2,h3.more (zag c)⟩
end ev

structure Rw (inp:List U) (x:Nat → Nat) (live:Bool) (u:Nat → Bool):Prop where
 fv:Fv inp
 lv:fe (nth inp 4)=b01 live
 col : ∀ c,c < 4 → fe (nth inp c)=fn (x c)∧x c < 2 ^ zN c
 bit : ∀ c,c < 4 → u c=true → ∀ k,k < zN c → fe (nth inp (zf c+k))=b01 (bt (x c) k)
theorem Rw.zero:Rw [] (fun _=>0) false fun _=>true :=
 ⟨zbv,rfl,fun c _=>⟨rfl,Nat.two_pow_pos _⟩,fun c _ _ k _=>by simp [bt];rfl⟩
def mtc (x:Nat → Nat) (c:Cnd):Bool:=decide (c.lo≤(x c.col.toNat:Int)) && decide ((x c.col.toNat:Int)≤c.hi)
def mtF (x:Nat → Nat) (l:List Cnd):Bool:=l.all (mtc x)
theorem zop (c:Nat):yC c=((2 ^ zN c - 1:Nat):Int):=by unfold yC zN;split<;>rfl
section rows
variable {inp:List U} {x:Nat → Nat} {live:Bool} {u:Nat → Bool} {s:List Nd}
theorem zGf (h:Rw inp x live u) {c:Cnd} (hc:vC c=true) (hu:z5 c.col.toNat c=true → u c.col.toNat=true) {m:Nat} {p:BS} {b:Bool} {s0:List Nd} (hp:Bl inp s0 p (b01 b) m) (hm:8≤m) :
 Bl inp s0 (mt1 c p) (b01 (b && decide (c.lo≤(x c.col.toNat:Int)))) (m+1):=by
 obtain⟨v1,v2,v3,v4,v5⟩:=zjU hc
 have v6:c.hi≤yC c.col.toNat:=by unfold vC at hc;simp only [decide_eq_true_eq] at hc;exact hc.2.2.2.2
 have hcl:c.col.toNat < 4:=by omega
 have htop:=zop c.col.toNat;unfold mt1
 split
 · rename_i h0
   have hr:z5 c.col.toNat c=true:=by unfold z5;simp only [decide_eq_true_eq];exact⟨by omega,.inl h0⟩
   have hpow:=Nat.two_pow_pos (zN c.col.toNat);have hC:=zBY h.fv hp.gd hcl false c.lo.toNat (x c.col.toNat) (by omega) (h.col _ hcl).2 (by simp only [if_false,Bool.false_eq_true];omega) (h.bit _ hcl (hu hr));have hP:=zj6 h.fv hC.gd (hp.ev.ext hC.ex) hC.ev;refine (hP.pre (hp.ex.trans hC.ex)).to ?_ (by omega);rw [zly]
   congr 2
   simp only [if_false,Bool.false_eq_true,decide_eq_decide];omega
 · refine hp.to ?_ (by omega);rw [show decide (c.lo≤(x c.col.toNat:Int))=true by simp only [decide_eq_true_eq];omega,Bool.and_true]
theorem zGg (h:Rw inp x live u) {c:Cnd} (hc:vC c=true) (hu:z5 c.col.toNat c=true → u c.col.toNat=true) {m:Nat} {p:BS} {b:Bool} {s0:List Nd} (hp:Bl inp s0 p (b01 b) m) (hm:8≤m) :
 Bl inp s0 (mt2 c p) (b01 (b && decide ((x c.col.toNat:Int)≤c.hi))) (m+1):=by
 obtain⟨v1,v2,v3,v4,v5⟩:=zjU hc
 have v6:c.hi≤yC c.col.toNat:=by unfold vC at hc;simp only [decide_eq_true_eq] at hc;exact hc.2.2.2.2
 have hcl:c.col.toNat < 4:=by omega
 have htop:=zop c.col.toNat;have hx:=(h.col _ hcl).2;unfold mt2
 split
 · rename_i h0
   have hr:z5 c.col.toNat c=true:=by unfold z5;simp only [decide_eq_true_eq];exact⟨by omega,.inr h0⟩
   have hpow:=Nat.two_pow_pos (zN c.col.toNat);have hC:=zBY h.fv hp.gd hcl true c.hi.toNat (x c.col.toNat) (by omega) hx (by simp only [if_true];omega) (h.bit _ hcl (hu hr));have hP:=zj6 h.fv hC.gd (hp.ev.ext hC.ex) hC.ev;refine (hP.pre (hp.ex.trans hC.ex)).to ?_ (by omega);rw [zly]
   congr 2
   simp only [if_true,decide_eq_decide];omega
 · refine hp.to ?_ (by omega);rw [show decide ((x c.col.toNat:Int)≤c.hi)=true by simp only [decide_eq_true_eq];omega,Bool.and_true]
theorem zs4 (h:Rw inp x live u) (hg:Gd s) {l:List Cnd} (hl:vF l=true) (hu : ∀ c∈l,z5 c.col.toNat c=true → u c.col.toNat=true) :
 ∀ i,i≤l.length → Bl inp s (zcy l s i) (b01 (live && mtF x (l.take i))) (8+2*i)
 | 0,_=>by
  refine⟨hg,.refl s,((Ev.arg (x:=4) (by omega)).to ?_).more (by omega)⟩
  rw [h.lv];simp [mtF]
 | i+1,hi=>by
  have ih:=zs4 h hg hl hu i (by omega)
  have hm:nth l i∈l:=by rw [zc hi];exact List.getElem_mem _
  have h1:=zGf h (zjV hl (show i < l.length by omega)) (hu _ hm) ih (by omega);have h2:=zGg h (zjV hl (show i < l.length by omega)) (hu _ hm) h1 (by omega);refine h2.to ?_ (by omega)
  congr 1
  have e:l.take (i+1)=l.take i++[nth l i]:=by rw [List.take_add_one,List.getElem?_eq_getElem hi,zc hi];rfl
  rw [e,mtF,mtF,List.all_append];simp only [List.all_cons,List.all_nil,Bool.and_true,mtc];simp only [Bool.and_assoc]
theorem zs5 (h:Rw inp x live u) (hg:Gd s) {l:List Cnd} (hl:vF l=true) (hu : ∀ c∈l,z5 c.col.toNat c=true → u c.col.toNat=true) :
 Bl inp s (yD l s) (b01 (live && mtF x l)) 14:=by
 have h1:=zs4 h hg hl hu l.length (Nat.le_refl _)
 have:=zlj hl
 rw [List.take_length] at h1;exact h1.to rfl (by omega)

theorem zGh (h:Rw inp x live u) (hg:Gd s) {c:Nat} (hc:c=0 ∨ c=2) (hu:u c=true) {v:Nat} (hv:v < 16):Bl inp s (zdL c v s) (b01 (decide (x c=v))) 2:=by
 have hc4:c < 4:=by omega
 have hw:zN c=4:=by unfold zN;rw [if_pos hc]
 have hx:x c < 16:=by have:=(h.col c hc4).2;rw [hw] at this;exact this
 have hbit:=h.bit c hc4 hu
 have hin : ∀ (t:List Nd) k,k < 4 → Ev inp t (zf c+k) (b01 (bt (x c) k)) 0:=fun t k hk=>(Ev.arg (zcc hc4 (by omega))).to (hbit k (by omega))
 have okb : ∀ w,okC (zaP w):=zin;have hA:=zd9 h.fv hg (hin s 0 (by omega)) (hin s 1 (by omega)) (okb (v % 4));have hB:=zd9 h.fv hA.gd (hin _ 2 (by omega)) (hin _ 3 (by omega)) (okb (v / 4));have hP:=zj6 h.fv hB.gd (hA.ev.ext hB.ex) hB.ev;refine (hP.pre (hA.ex.trans hB.ex)).to ?_ (by omega)
 generalize x c=y at hx
 clear hP hB hA hin hbit
 revert v y
 decide +kernel
structure Evs (inp:List U) (t:List Nd) (o:List Nat) (n:Nat) (f:Nat → FP) (m:Nat):Prop where
 len:o.length=n
 ev : ∀ j,j < n → Ev inp t (nth o j) (f j) m
theorem Evs.ext {t t':List Nd} {o:List Nat} {n:Nat} {f:Nat → FP} {m:Nat} (h:Evs inp t o n f m) (hx:Exn t t'):Evs inp t' o n f m:=⟨h.len,fun j hj=>(h.ev j hj).ext hx⟩
theorem Evs.to {t:List Nd} {o:List Nat} {n:Nat} {f g:Nat → FP} {m m':Nat} (h:Evs inp t o n f m) (hf : ∀ j,j < n → f j=g j) (hm:m≤m'):Evs inp t o n g m':=⟨h.len,fun j hj=>((h.ev j hj).to (hf j hj)).more hm⟩
theorem Evs.app {t:List Nd} {o o':List Nat} {n n':Nat} {f f':Nat → FP} {m:Nat} (h:Evs inp t o n f m) (h':Evs inp t o' n' f' m):Evs inp t (o++o') (n+n') (fun j=>if j < n then f j else f' (j - n)) m :=
 ⟨by rw [List.length_append,h.len,h'.len],fun j hj=>by
  by_cases e:j < n
  · rw [zv (by rw [h.len];exact e),if_pos e];exact h.ev j e
  · rw [zm (by rw [h.len];omega),if_neg e,h.len];exact h'.ev _ (by omega)⟩
theorem Evs.one {t:List Nd} {y m:Nat} {v:FP} (h:Ev inp t y v m):Evs inp t [y] 1 (fun _=>v) m:=⟨rfl,fun j hj=>by
 obtain rfl:j=0:=by omega
 exact h⟩
theorem zs6 (h:Rw inp x live u) (hg:Gd s) {c:Nat} (hc:c=0 ∨ c=2) (hu:u c=true) {m:Nat} {b:Bool} (hm:Ev inp s m (b01 b) 14) :
 ∀ i,i≤16 → Gd (zaj m c s i).2∧Exn s (zaj m c s i).2∧Evs inp (zaj m c s i).2 (zaj m c s i).1 i (fun j=>b01 (b && decide (x c=j))) 15
 | 0,_=>⟨hg,.refl s,rfl,fun j hj=>absurd hj (Nat.not_lt_zero _)⟩
 | i+1,hi=>by
  obtain⟨h1,h2,h3⟩:=zs6 h hg hc hu hm i (by omega)
  have hI:=zGh h h1 hc hu (show i < 16 by omega);have hP:=zj6 h.fv hI.gd ((hm.ext h2).ext hI.ex) hI.ev
  refine⟨hP.gd,(h2.trans hI.ex).trans hP.ex,?_⟩
  have h4:=((h3.ext hI.ex).ext hP.ex).app (Evs.one (hP.ev.more (show 1+max 14 2≤15 by omega)));refine h4.to (fun j hj => ?_) (Nat.le_refl _);by_cases e:j < i
  · rw [if_pos e]
  · obtain rfl:j=i:=by omega
    rw [if_neg e,zly]
theorem zlz (h:Rw inp x live u) (hg:Gd s) {l:List Cnd} (hl:vF l=true) (hul : ∀ c∈l,z5 c.col.toNat c=true → u c.col.toNat=true) {c:Nat} (hc:c=0 ∨ c=2) (hu:u c=true) :
 Gd (zar l c s).2∧Exn s (zar l c s).2∧Evs inp (zar l c s).2 (zar l c s).1 16 (fun j=>b01 (live && mtF x l && decide (x c=j))) 15:=by
 have hm:=zs5 h hg hl hul
 obtain⟨h1,h2,h3⟩:=zs6 h hm.gd hc hu hm.ev 16 (Nat.le_refl _)
 exact⟨h1,hm.ex.trans h2,h3⟩
theorem zs7 (h:Rw inp x live u) (hg:Gd s) {c:Nat} (hc:c < 4) : ∀ i,Bl inp s (zcz c s i) (fn (x c ^ (i+1))) i
 | 0=>⟨hg,.refl s,(Ev.arg (x:=c) (by omega)).to (by rw [(h.col c hc).1,Nat.zero_add,Nat.pow_one])⟩
 | i+1=>by
  have ih:=zs7 h hg hc i;have hP:=zj6 h.fv ih.gd ih.ev (((Ev.arg (s:=(zcz c s i).2) (show c < 29 by omega))).to (h.col c hc).1);refine (hP.pre ih.ex).to ?_ (by omega);rw [Nat.pow_succ (n:=x c) (m:=i+1),zBX]

def zdh (q:Qry):Nat:=if q.kind=1 ∨ q.kind=2 ∨ q.kind=3 then 1 else if q.kind=7 then 32 else 16
def smR (q:Qry) (x:Nat → Nat) (live:Bool) (j:Nat):Nat :=
 if q.kind=1 then b2n (live && mtF x (nth q.fl 0))
 else if q.kind=2 ∨ q.kind=3 then b2n (live && mtF x (nth q.fl 0))*x q.col.toNat ^ ((q.k - 1).toNat+1)
 else if q.kind=7 then if j < 16 then b2n (live && mtF x (nth q.fl 0) && decide (x 0=j)) else b2n (live && mtF x (nth q.fl 1) && decide (x 0=j - 16))
 else b2n (live && mtF x (nth q.fl 0) && decide (x q.col.toNat=j))
structure QF (q:Qry):Prop where
 kind:1≤q.kind∧q.kind≤7
 col:0≤q.col∧q.col < 4
 k:q.k≤65536∧(q.kind=2 ∨ q.kind=3 → q.k≤6)
 fl:q.fl.length=if q.kind=7 then 2 else 1
 grp:q.kind≠1 → q.kind≠2 → q.kind≠3 → q.kind≠7 → q.col.toNat=0 ∨ q.col.toNat=2
theorem zgz {q:Qry} (he:ya q=0):QF q:=by
 have hq:=ziw he;have hq':=hq;simp only [vQ,Bool.and_eq_true,decide_eq_true_eq,List.all_eq_true] at hq'
 obtain⟨a1,a2,a3,a4,a5,a6⟩:=hq'
 refine⟨a1,a2,⟨?_,fun h => ?_⟩,a5,fun h1 h2 h3 h7 => ?_⟩
 · have:=a4.2
   unfold yt at this;split at this
   · omega
   · split at this<;>omega
 · have:=a4.2
   unfold yt at this
   rcases h with h | h<;>rw [h] at this
   · simp at this;omega
   · simpa using this
 · unfold ya at he;rw [if_pos hq] at he;split at he
   · cases he
   · omega
theorem zor {q:Qry} {l:List Cnd} (hl:l∈q.fl) {c:Cnd} (hc:c∈l) (hr:z5 c.col.toNat c=true):zO q c.col.toNat=true:=by
 unfold zO;rw [Bool.or_eq_true];exact .inl (List.any_eq_true.2 ⟨l,hl,List.any_eq_true.2 ⟨c,hc,hr⟩⟩)
theorem zfI {q:Qry} (he:ya q=0) (h:Rw inp x live (zO q)) :
 Gd (zF q []).2∧Evs inp (zF q []).2 (zF q []).1 (zdh q) (fun j=>fn (smR q x live j)) 15:=by
 have hq:=ziw he;have hF:=zgz he
 have hf0:0 < q.fl.length:=by rw [hF.fl];split<;>decide
 have hm0:nth q.fl 0∈q.fl:=by rw [zc hf0];exact List.getElem_mem _
 have v0:=zaS hq hf0
 have u0 : ∀ c∈nth q.fl 0,z5 c.col.toNat c=true → zO q c.col.toNat=true:=fun c hc hr=>zor hm0 hc hr
 have hm:=zs5 h Gd.nil v0 u0;unfold zF zdh smR;by_cases k1:q.kind=1
 · simp only [k1,if_true,true_or]
   exact⟨hm.gd,(Evs.one (hm.ev.more (by omega))).to (fun j _=>(ziy _).symm) (Nat.le_refl _)⟩
 simp only [k1,if_false,false_or];by_cases k2:q.kind=2 ∨ q.kind=3
 · simp only [k2,if_true]
   have hc4:q.col.toNat < 4:=by have:=hF.col;omega
   have hp:=zs7 h hm.gd hc4 (q.k - 1).toNat;have hP:=zj6 h.fv hp.gd (hm.ev.ext hp.ex) hp.ev
   refine⟨hP.gd,(Evs.one (hP.ev.more ?_)).to (fun j _ => ?_) (Nat.le_refl _)⟩
   · have:=hF.k.2 k2;omega
   · rw [zBX,ziy]
 simp only [k2,if_false];by_cases k7:q.kind=7
 · simp only [k7,if_true]
   have hf1:1 < q.fl.length:=by rw [hF.fl,if_pos k7];decide
   have hm1:nth q.fl 1∈q.fl:=by rw [zc hf1];exact List.getElem_mem _
   have uc:zO q 0=true:=by unfold zO;simp [k7]
   obtain⟨a1,a2,a3⟩:=zlz h Gd.nil v0 u0 (.inl rfl) uc
   obtain⟨b1,b2,b3⟩:=zlz h a1 (zaS hq hf1) (fun c hc hr=>zor hm1 hc hr) (.inl rfl) uc
   refine⟨b1,((a3.ext b2).app b3).to (fun j hj => ?_) (Nat.le_refl _)⟩
   split
   · exact (ziy _).symm
   · exact (ziy _).symm
 · simp only [k7,if_false]
   have k3:q.kind≠2∧q.kind≠3:=⟨fun e=>k2 (.inl e),fun e=>k2 (.inr e)⟩
   have hk:=hF.kind
   have uc:zO q q.col.toNat=true:=by
    unfold zO;rw [Bool.or_eq_true,Bool.or_eq_true]
    have:=hF.col
    exact .inr (.inl (by simp only [decide_eq_true_eq];omega))
   obtain⟨a1,a2,a3⟩:=zlz h Gd.nil v0 u0 (hF.grp k1 k3.1 k3.2 k7) uc
   exact⟨a1,a3.to (fun j _=>(ziy _).symm) (Nat.le_refl _)⟩
end rows
end Go.Proofs.YthaoifcebimkfaaGreatDoor

namespace Go.Proofs.YthaoifcebimkfaaGreatDoor
open Go Go.AL

theorem Rw.none (u:Nat → Bool):Rw [] (fun _=>0) false u :=
 ⟨zbv,rfl,fun c _=>⟨rfl,Nat.two_pow_pos _⟩,fun c _ _ k _=>by simp [bt];rfl⟩
structure Zq (inp:List U) (t:List Nd) (o:List Nat) (Q:Prop):Prop where
 rng : ∀ y∈o,y < 29+t.length∧lev t y≤15
 iff:(∀ y∈o,fe (ndv t inp y)=0) ↔ Q
section zq
variable {inp:List U} {t t':List Nd} {o:List Nat} {Q:Prop}
theorem Zq.ext (h:Zq inp t o Q) (hx:Exn t t'):Zq inp t' o Q :=
 ⟨fun y hy=>⟨by have:=(h.rng y hy).1;have:=hx.len;omega,by rw [hx.lev (h.rng y hy).1];exact (h.rng y hy).2⟩,by
  rw [←h.iff]
  exact⟨fun g y hy=>by rw [←zfv hx (h.rng y hy).1];exact g y hy,fun g y hy=>by rw [zfv hx (h.rng y hy).1];exact g y hy⟩⟩
theorem Zq.snoc (h:Zq inp t o Q) {y m:Nat} {v:FP} (hy:Ev inp t y v m) (hm:m≤15):Zq inp t (o++[y]) (Q∧v=0) :=
 ⟨fun z hz=>by
  rcases List.mem_append.1 hz with e | e
  · exact h.rng z e
  · rw [List.mem_singleton] at e;subst e;exact⟨hy.lt,Nat.le_trans hy.lv hm⟩,by
  rw [←h.iff]
  refine⟨fun g=>⟨fun z hz=>g z (List.mem_append_left _ hz),by rw [←hy.val];exact g y (by simp)⟩,fun ⟨g1,g2⟩ z hz => ?_⟩
  rcases List.mem_append.1 hz with e | e
  · exact g1 z e
  · rw [List.mem_singleton] at e;subst e;rw [hy.val];exact g2⟩
theorem Zq.to {Q':Prop} (h:Zq inp t o Q) (hq:Q ↔ Q'):Zq inp t o Q':=⟨h.rng,h.iff.trans hq⟩

def bI (inp:List U) (c k:Nat):FP:=fe (nth inp (zf c+k))
def sBi (inp:List U) (c:Nat):Nat → FP
 | 0=>0
 | k+1=>sBi inp c k+fn (2 ^ k)*bI inp c k
theorem zGi : ∀ k,k < 8 → fe (fi (2 ^ k))=fn (2 ^ k):=by decide +kernel
theorem zEd {k:Nat} (hk:k < 8):okC ⟨0,1,2 ^ k,0⟩:=by
 have e:(2:Int) ^ k=((2 ^ k:Nat):Int):=by simp
 have h1:2 ^ k≤2 ^ 7:=Nat.pow_le_pow_right (by decide) (by omega);have h3:=Nat.two_pow_pos k;have h4:2 ^ 7=128:=rfl;exact zap (by omega) (by omega) (by omega) (by omega)
theorem zBZ (hi:Fv inp) {s:List Nd} (hg:Gd s) {y:Nat} (hy:y < 29):Bl inp s (chk s y) (fe (nth inp y)*fe (nth inp y) - fe (nth inp y)) 1 :=
 (zd9 hi hg (Ev.arg hy) (Ev.arg hy) (k:=⟨1,-1,0,0⟩) zap).to (by simp only [fi0,fi1,zEa];grind) (by omega)
theorem zEy (hi:Fv inp) {c:Nat} (hc:c < 4) {p:LBS} (hg:Gd p.2) (hz:Zq inp p.2 p.1 Q) : ∀ k,k≤zN c →
 Gd (zT c p k).s∧Exn p.2 (zT c p k).s∧Zq inp (zT c p k).s (zT c p k).o (Q ∧ ∀ j,j < k → bI inp c j*bI inp c j - bI inp c j=0)∧Ev inp (zT c p k).s (zT c p k).sum (sBi inp c (max 1 k)) k
 | 0,_=>by
  refine⟨hg,.refl _,hz.to ⟨fun h=>⟨h,fun j hj=>absurd hj (Nat.not_lt_zero _)⟩,fun h=>h.1⟩,(Ev.arg (x:=zf c) ?_).to ?_⟩
  · have h0:0 < zN c:=by unfold zN;split<;>decide
    exact zcc hc h0
  · simp only [show max 1 0=1 from rfl,sBi,bI,Nat.pow_zero,zGd,Nat.add_zero]
    grind
 | k+1,hk=>by
  obtain⟨h1,h2,h3,h4⟩:=zEy hi hc hg hz k (by omega)
  have h8:=zag c;have hin:zf c+k < 29:=zcc hc (by omega);have hA:=zBZ hi h1 hin
  have hZ:=((h3.ext hA.ex).snoc hA.ev (by omega)).to (Q':=Q ∧ ∀ j,j < k+1 → bI inp c j*bI inp c j - bI inp c j=0) ⟨fun ⟨⟨a,b⟩,d⟩=>⟨a,fun j hj=>by
   by_cases e:j < k
   · exact b j e
   · obtain rfl:j=k:=by omega
     exact d⟩,fun ⟨a,b⟩=>⟨⟨a,fun j hj=>b j (by omega)⟩,b k (by omega)⟩⟩
  show Gd (zS c k (zT c p k)).s∧Exn p.2 (zS c k (zT c p k)).s∧Zq inp (zS c k (zT c p k)).s (zS c k (zT c p k)).o _∧Ev inp (zS c k (zT c p k)).s (zS c k (zT c p k)).sum _ _
  unfold zS;dsimp only;by_cases e:k=0
  · subst e;rw [if_pos rfl]
    exact⟨hA.gd,h2.trans hA.ex,hZ,(h4.ext hA.ex).more (by omega)⟩
  · rw [if_neg e];have hB:=zd9 hi hA.gd (h4.ext hA.ex) (Ev.arg (inp:=inp) (s:=(chk (zT c p k).s (zf c+k)).2) hin) (zEd (show k < 8 by omega))
    refine⟨hB.gd,(h2.trans hA.ex).trans hB.ex,hZ.ext hB.ex,(hB.ev.more (by omega)).to ?_⟩
    have e1:max 1 (k+1)=k+1:=by omega
    have e2:max 1 k=k:=by omega
    rw [e1,e2,sBi];dsimp only;rw [zGi k (by omega),fi0,fi1];unfold bI
    grind
def ZC (inp:List U) (c:Nat):Prop:=(∀ j,j < zN c → bI inp c j*bI inp c j - bI inp c j=0)∧sBi inp c (zN c)=fe (nth inp c)
def ZQ (q:Qry) (inp:List U):Prop:=fe (nth inp 4)*fe (nth inp 4) - fe (nth inp 4)=0 ∧ ∀ c,c < 4 → zO q c=true → ZC inp c
theorem zEe (hi:Fv inp) {c:Nat} (hc:c < 4) {p:LBS} (hg:Gd p.2) (hz:Zq inp p.2 p.1 Q):Gd (zfn c p).2∧Exn p.2 (zfn c p).2∧Zq inp (zfn c p).2 (zfn c p).1 (Q∧ZC inp c):=by
 obtain⟨h1,h2,h3,h4⟩:=zEy hi hc hg hz (zN c) (Nat.le_refl _)
 have h8:=zag c
 have h0:0 < zN c:=by unfold zN;split<;>decide
 have hB:=zd9 hi h1 h4 (Ev.arg (inp:=inp) (s:=(zT c p (zN c)).s) (show c < 29 by omega)) (k:=⟨0,1,-1,0⟩) zap;unfold zfn
 refine⟨hB.gd,h2.trans hB.ex,((h3.ext hB.ex).snoc hB.ev (by omega)).to ?_⟩
 rw [show max 1 (zN c)=zN c by omega,fi0,fi1,zEa];unfold ZC;rw [and_assoc];refine and_congr Iff.rfl (and_congr Iff.rfl ?_);constructor<;>intro h<;>grind
theorem zs8 (hi:Fv inp) {q:Qry} {s:List Nd} (hg:Gd s) : ∀ c,c≤4 → Gd (zak q s c).2∧Exn s (zak q s c).2 ∧
 Zq inp (zak q s c).2 (zak q s c).1 (fe (nth inp 4)*fe (nth inp 4) - fe (nth inp 4)=0 ∧ ∀ c',c' < c → zO q c'=true → ZC inp c')
 | 0,_=>by
  have hA:=zBZ hi hg (show 4 < 29 by omega)
  refine⟨hA.gd,hA.ex,⟨fun y hy => ?_,?_⟩⟩
  · rw [zak,List.mem_singleton] at hy;subst hy;exact⟨hA.ev.lt,Nat.le_trans hA.ev.lv (by omega)⟩
  · rw [←hA.ev.val]
    refine⟨fun h=>⟨h _ (by simp [zak]),fun c' hc=>absurd hc (Nat.not_lt_zero _)⟩,fun h y hy => ?_⟩
    rw [zak,List.mem_singleton] at hy;subst hy;exact h.1
 | c+1,hc=>by
  obtain⟨h1,h2,h3⟩:=zs8 hi (q:=q) hg c (by omega)
  unfold zak
  split
  · rename_i hu
    obtain⟨a1,a2,a3⟩:=zEe hi (show c < 4 by omega) h1 h3
    refine⟨a1,h2.trans a2,a3.to ⟨fun ⟨⟨a,b⟩,d⟩=>⟨a,fun j hj hju => ?_⟩,fun ⟨a,b⟩=>⟨⟨a,fun j hj=>b j (by omega)⟩,b c (by omega) hu⟩⟩⟩
    by_cases e:j < c
    · exact b j e hju
    · obtain rfl:j=c:=by omega
      exact d
  · rename_i hu
    refine⟨h1,h2,h3.to ⟨fun ⟨a,b⟩=>⟨a,fun j hj hju => ?_⟩,fun ⟨a,b⟩=>⟨a,fun j hj=>b j (by omega)⟩⟩⟩
    by_cases e:j < c
    · exact b j e hju
    · obtain rfl:j=c:=by omega
      exact absurd hju hu
theorem zG6 {q:Qry} {x:Nat → Nat} {live:Bool} (h:Rw inp x live (zO q)):ZQ q inp:=by
 refine⟨by rw [h.lv];cases live<;>decide +kernel,fun c hc hu=>⟨fun j hj => ?_,?_⟩⟩
 · unfold bI;rw [h.bit c hc hu j hj]
   cases bt (x c) j<;>decide +kernel
 · have : ∀ k,k≤zN c → sBi inp c k=fn (x c % 2 ^ k):=by
    intro k
    induction k with
    | zero=>intro _;rw [Nat.pow_zero,Nat.mod_one];rfl
    | succ k ih =>
     intro hk;rw [sBi,ih (by omega)];unfold bI;rw [h.bit c hc hu k (by omega)]
     rcases zbo (x c) k with ⟨b1,b2⟩ | ⟨b1,b2⟩
     · rw [b1,b2,zrZ];simp only [b01,if_true];grind
     · rw [b1,b2];simp only [b01,Bool.false_eq_true,if_false];grind
   rw [this _ (Nat.le_refl _),Nat.mod_eq_of_lt (h.col c hc).2,(h.col c hc).1]
theorem zos {a b:FP} (h:a*b=0):a=0 ∨ b=0:=by
 have h1:(a*b).val=0:=by rw [h];rfl
 rw [Fin.val_mul] at h1
 rcases mul_zero' h1 with h2 | h2
 · rw [Nat.mod_eq_of_lt a.isLt] at h2;exact .inl (Fin.ext h2)
 · rw [Nat.mod_eq_of_lt b.isLt] at h2;exact .inr (Fin.ext h2)
theorem zGj {c x:Nat} (h:ZC inp c) (hx:x < 2 ^ zN c) (hc:fe (nth inp c)=fn x) : ∀ k,k < zN c → bI inp c k=b01 (bt x k):=by
 obtain⟨h1,h2⟩:=h
 have h8:=zag c
 have hb : ∀ j,∃ b:Bool,j < zN c → bI inp c j=b01 b:=fun j=>by
  by_cases hj:j < zN c
  · have h3:bI inp c j*(bI inp c j - 1)=0:=by have:=h1 j hj;grind
    rcases zos h3 with e | e
    · exact⟨false,fun _=>e⟩
    · exact⟨true,fun _=>by show bI inp c j=1;grind⟩
  · exact⟨false,fun h=>absurd h hj⟩
 obtain⟨β,hβ⟩:=Classical.axiomOfChoice hb
 have hv : ∀ k,k≤zN c → ∃ v,v < 2 ^ k∧sBi inp c k=fn v ∧ ∀ y,v=y % 2 ^ k → ∀ j,j < k → β j=bt y j:=by
  intro k
  induction k with
  | zero=>exact fun _=>⟨0,by simp,rfl,fun _ _ j hj=>absurd hj (Nat.not_lt_zero _)⟩
  | succ k ih =>
   intro hk
   obtain⟨v,v1,v2,v3⟩:=ih (by omega)
   have hP:=Nat.pow_succ 2 k
   refine⟨v+(if β k then 2 ^ k else 0),by split<;>omega,?_,fun y hy j hj => ?_⟩
   · rw [sBi,v2,hβ k (by omega)]
     cases β k
     · simp only [b01,Bool.false_eq_true,if_false,Nat.add_zero];grind
     · simp only [b01,if_true,zrZ];grind
   · have hy1:=Nat.mod_lt y (Nat.two_pow_pos k)
     have key:β k=bt y k∧v=y % 2 ^ k:=by
      rcases zbo y k with ⟨b1,b2⟩ | ⟨b1,b2⟩<;>rw [b1]<;>cases hbk:β k<;>rw [hbk] at hy<;>simp only [if_true,if_false,Bool.false_eq_true,true_and,reduceCtorEq,false_and] at hy ⊢ <;> omega
     by_cases e:j < k
     · exact v3 y key.2 j e
     · obtain rfl:j=k:=by omega
       exact key.1
 obtain⟨v,v1,v2,v3⟩:=hv (zN c) (Nat.le_refl _)
 have hlt:2 ^ zN c≤2 ^ 8:=Nat.pow_le_pow_right (by decide) h8;have hvx:v=x:=zGe (by omega) (by omega) (by rw [←v2,h2,hc]);intro k hk;rw [hβ k hk,v3 x (by rw [hvx,Nat.mod_eq_of_lt hx]) k hk]
end zq
end Go.Proofs.YthaoifcebimkfaaGreatDoor

namespace Go.Proofs.YthaoifcebimkfaaGreatDoor
open Go Go.AL

abbrev compC (q:Qry):Circ:=⟨29,zao q,(yi q).1.length⟩
theorem zea (q:Qry) (he:ya q=0):(zh0 (zao q)=true∧yM q=(⟨0,[],0⟩,2)) ∨ (zh0 (zao q)=false∧yM q=(compC q,0)):=by
 unfold yM;rw [if_pos he];cases h:zh0 (zao q)
 · exact .inr ⟨rfl,rfl⟩
 · exact .inl ⟨rfl,rfl⟩
abbrev outO (q:Qry):List Nat:=(yi q).1++(yi q).2.1
abbrev outS (q:Qry):List Nd:=(yi q).2.2
section out
variable {q:Qry}
theorem zfJ (he:ya q=0) (inp:List U) (hi:Fv inp):Gd (outS q)∧Exn (zF q []).2 (outS q)∧Zq inp (outS q) (yi q).2.1 (ZQ q inp):=by
 have h0:=(zfI he (Rw.none (zO q))).1;exact zs8 hi (q:=q) h0 4 (Nat.le_refl _)
theorem zg5 (he:ya q=0):(yi q).1.length=zdh q:=(zfI he (Rw.none (zO q))).2.len
theorem zs9 (he:ya q=0) : ∀ y∈outO q,y < 29+(outS q).length∧lev (outS q) y≤15:=fun y hy=>by
 obtain⟨h1,h2,h3⟩:=zfJ he [] zbv
 rcases List.mem_append.1 hy with e | e
 · obtain⟨j,hj,rfl⟩:=List.getElem_of_mem e
   have hE:=(zfI he (Rw.none (zO q))).2
   have:=(hE.ev j (by rw [←hE.len];exact hj)).ext h2
   rw [show nth (zF q []).1 j=(yi q).1[j] from zc hj] at this
   exact⟨this.lt,this.lv⟩
 · exact h3.rng y e
theorem zlA (he:ya q=0):0 < depth (outS q) (outO q):=zj5 (zfJ he [] zbv).1.wf (ziw he)
theorem zGk (he:ya q=0):0 < (outO q).length:=by
 have:=(zg3 (ziw he)).2.2.2.2
 rw [List.length_append];omega
theorem zlB (he:ya q=0) {inp:List U} (hi:Fv inp):Lay (outS q) inp (outO q) (zao q):=by
 have hG:=(zfJ he inp hi).1;exact zGc hG.wf hG.sm hi (fun x hx=>(zs9 he x hx).1) (zlA he) (zGk he)
theorem zta {ls:List (List Gate)} {n:Int} {inp:List U} : ∀ k,zb4 ⟨29,ls,n⟩ inp k=rw' ls inp k
 | 0=>rfl
 | k+1=>by show zvW (nth ls k) (zb4 ⟨29,ls,n⟩ inp k)=zvW (nth ls k) (rw' ls inp k);rw [zta k]
theorem zlC (he:ya q=0) (hb:zh0 (zao q)=false):Vd (compC q):=by
 have hL:=zlB he zbv;have hlen:(zao q).length=depth (outS q) (outO q):=hL.len;have hd:=zlA he
 have hd15:depth (outS q) (outO q)≤15:=zd0 fun x hx=>(zs9 he x hx).2
 have hrow : ∀ k,k < (zao q).length → (nth (zao q) k).length≤64:=fun k hk=>by
  unfold zh0 at hb;rw [List.any_eq_false] at hb
  have:=hb (nth (zao q) k) (by rw [zc hk];exact List.getElem_mem _)
  simp only [decide_eq_true_eq] at this;omega
 have hwid : ∀ k,wid (compC q) k=(zbD (zao q) k:Int):=fun k=>by
  unfold wid zbD
  split<;>rfl
 have hsm:((yi q).1.length:Int)≤((nth (zao q) ((zao q).length - 1)).length:Int):=by
  have e:(nth (zao q) (depth (outS q) (outO q) - 1)).length=(outO q).length:=hL.last;rw [hlen,e,List.length_append];omega
 have hlst:=hrow ((zao q).length - 1) (by omega)
 refine⟨⟨⟨by show (1:Int)≤29;omega,by show (29:Int)≤1000;omega⟩,⟨by show (0:Int)≤((yi q).1.length:Int);omega,by show ((yi q).1.length:Int)≤1000;omega⟩,⟨by show 1≤(zao q).length;omega,by show (zao q).length≤1000;omega⟩,
  fun k hk=>⟨hL.ne k (by rw [←hlen];exact hk),by have:=hrow k hk;show (nth (zao q) k).length≤1000;omega⟩,fun k hk i hi => ?_⟩,by show (29:Int)≤64;omega,by show (zao q).length≤64;omega,hrow,hsm,fun k hk i hi => ?_⟩
 · rw [hwid];exact (hL.op k (by rw [←hlen];exact hk) i hi).1
 · rw [hwid]
   obtain⟨⟨a1,a2,a3,a4⟩,b1,b2,b3,b4⟩:=hL.op k (by rw [←hlen];exact hk) i hi
   unfold vG;simp only [Bool.and_eq_true,decide_eq_true_eq]
   exact⟨⟨⟨⟨⟨⟨⟨a1,a2⟩,a3⟩,a4⟩,b1⟩,b2⟩,b3⟩,b4⟩
theorem zr0 (he:ya q=0) {inp:List U} (hi:Fv inp) {i:Nat} (h:i < (outO q).length):nth (zb4 (compC q) inp (zao q).length) i=ndv (outS q) inp (nth (outO q) i):=by
 have hL:=zlB he hi;rw [zta,hL.len];exact hL.val i h
theorem ztb (he:ya q=0) {inp:List U}:(zb4 (compC q) inp (zao q).length).length=(outO q).length:=by
 have hL:=zlB he zbv;have hlen:(zao q).length=depth (outS q) (outO q):=hL.len;have hd:=zlA he
 obtain⟨m,hm⟩ : ∃ m,(zao q).length=m+1:=⟨(zao q).length - 1,by omega⟩
 rw [hm,zdS]
 have:=hL.last
 rw [←hlen,hm] at this;exact this
theorem zot {a:U} (h:valid a=true):fe a=0 ↔ a=0#64:=⟨fun e=>zqV h yR (by rw [e];rfl),fun e=>by rw [e];rfl⟩
theorem zB0 (he:ya q=0) {inp:List U} (hi:Fv inp):nzB (zb4 (compC q) inp (zao q).length) (yi q).1.length=false ↔ ZQ q inp:=by
 obtain⟨h1,h2,h3⟩:=zfJ he inp hi
 rw [←h3.iff];constructor
 · intro h y hy
   obtain⟨j,hj,rfl⟩:=List.getElem_of_mem hy
   have h5:=znD h ((yi q).1.length+j) (by omega) (by rw [ztb he,List.length_append];omega);rw [zr0 he hi (by rw [List.length_append];omega),zm (by omega),Nat.add_sub_cancel_left,zc hj] at h5;rw [h5];rfl
 · intro h
   refine zjL fun i i1 i2 => ?_
   rw [ztb he,List.length_append] at i2;rw [zr0 he hi (by rw [List.length_append];omega),zm i1]
   have hj:i - (yi q).1.length < (yi q).2.1.length:=by omega
   have hm:nth (yi q).2.1 (i - (yi q).1.length)∈(yi q).2.1:=by rw [zc hj];exact List.getElem_mem _
   exact (zot (zcE h1.wf h1.sm.fv hi _ (h3.rng _ hm).1)).1 (h _ hm)
theorem zGl (he:ya q=0) {inp:List U} {x:Nat → Nat} {live:Bool} (h:Rw inp x live (zO q)) {j:Nat} (hj:j < zdh q) :
 valid (nth (zb4 (compC q) inp (zao q).length) j)=true∧fe (nth (zb4 (compC q) inp (zao q).length) j)=fn (smR q x live j):=by
 obtain⟨h1,h2,h3⟩:=zfJ he inp h.fv
 have hE:=(zfI he h).2;have hc:(yi q).1.length=zdh q:=zg5 he;have hev:=(hE.ev j hj).ext h2;have e:nth (outO q) j=nth (zF q []).1 j:=zv (by rw [hc];exact hj);rw [zr0 he h.fv (by rw [List.length_append];omega),e]
 exact⟨zcE h1.wf h1.sm.fv h.fv _ hev.lt,hev.val⟩
def smT (q:Qry) (x:Nat → Nat → Nat) (live:Nat → Bool) (j:Nat):Nat → Nat
 | 0=>0
 | r+1=>smT q x live j r+smR q (x r) (live r) j
theorem zou (he:ya q=0) {cols:List (List U)} {x:Nat → Nat → Nat} {live:Nat → Bool} : ∀ N,(∀ r,r < N → Rw (yS cols r) (x r) (live r) (zO q)) → ∀ j,j < zdh q →
 valid (nth (yc (compC q) cols N) j)=true∧fe (nth (yc (compC q) cols N) j)=fn (smT q x live j N)
 | 0,_,j,hj=>by
  have hc:(yi q).1.length=zdh q:=zg5 he;have e:nth (yc (compC q) cols 0) j=0#64:=ziR (by show j < ((yi q).1.length:Int).toNat;omega);rw [e];exact⟨yR,rfl⟩
 | r+1,h,j,hj=>by
  obtain⟨h1,h2⟩:=zou he r (fun r' hr=>h r' (by omega)) j hj
  obtain⟨h3,h4⟩:=zGl he (h r (by omega)) hj
  have hc:(yi q).1.length=zdh q:=zg5 he
  have e:nth (yc (compC q) cols (r+1)) j=zbC (nth (yc (compC q) cols r) j) (nth (zb4 (compC q) (yS cols r) (zao q).length) j) :=
   yb (f:=fun i=>zbC (nth (yc (compC q) cols r) i) (nth (y9 (compC q) cols r) i)) (by show j < ((yi q).1.length:Int).toNat;omega)
  rw [e,zk2 h1 h3,h2,h4,smT,zrZ]
  exact⟨zaz h1 h3,rfl⟩
end out
end Go.Proofs.YthaoifcebimkfaaGreatDoor
