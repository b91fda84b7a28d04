/- Proofs. -/
import Derived.Test.YthaoifcebimkfaaGreatDoorPkS3
import Derived.Shelf.Spec.SlicesGrow
set_option linter.unusedSectionVars false
set_option linter.unusedSimpArgs false
set_option linter.unusedVariables false
namespace Go.Proofs.YthaoifcebimkfaaGreatDoor
open Go Go.AL

section walks
variable {G:Globs}
set_option maxHeartbeats 8000000 in
set_option maxRecDepth 20000 in
theorem zqn (n:Nat) (l:List Cnd) (hl:l.length≤3) (c:Int) (hc:0≤c∧c < 4) (H:Hp) (R:AV → Hp → Prop) (h : ∀ xs:List Int,xs.length=16 → R (.sl H.n 0 1 (pl i64 xs)) (H.new (.tail 0))):ACall Tryz.prog G 100 [.p (yt l),  .p (i64 c),.p (i64 n)] H R:=by
 refine ACall.of_run (raw:=[]) Tryz.func100 rfl Tryz.ntmps100 (by simp) fun hbel => ?_
 refine .qt rfl ?_;simp (disch:=first|exact zb|fail) only [go_sem,seval];refine .qt rfl ?_;simp (disch:=first|exact zb|fail) only [go_sem,seval];refine .q ?_;refine .own 7 (by simp (disch:=first|exact zb|fail) only [go_sem,seval];rfl) ?_;refine .qt rfl ?_;simp (disch:=first|exact zb|fail) only [go_sem,seval];refine .q ?_;refine .count (fun i env H'=>env 0 = .p (yt l)∧env 1 = .p (i64 c)∧env 2 = .p (i64 n)∧env 8 = .p (i64 i)∧H'=H.new (.tail i) ∧ ∃ xs:List Int,xs.length=i∧env 7 = .sl H.n i 1 (pl i64 xs)) 0 16 (by omega) ?_ ?_ ?_
 · refine⟨?_,?_,?_,?_,rfl,[],rfl,?_⟩<;>simp (disch:=first|exact zb|fail) only [go_sem,seval,za8]
 · rintro env H' ⟨e0,e1,e2,e8,rfl,xs,hx,e7⟩
   refine .qt rfl ?_;simp (disch:=first|exact zb|fail) only [go_sem,seval,e8];refine .qF rfl ?_;refine .qt rfl ?_;simp (disch:=first|exact zb|fail) only [go_sem,seval,e7];refine .q ?_;refine .retOwn Tryz.func100 (by rw [Tryz.results100]) (by simp (disch:=first|exact zb|fail) only [go_sem,seval,e7];rfl) (by simp (disch:=first|exact zb|fail) only [go_sem,seval,e7]) (by first | exact Nat.le_refl _ | (dsimp only;omega)) (by (try dsimp only);repeat (first | with_reducible refine zaC ?_ zb | with_reducible refine zhc ?_ zb | with_reducible refine zaU ?_ zb | with_reducible refine zoG ?_ | with_reducible exact hbel | with_reducible exact hbel _)) ?_;simp (disch:=first|exact zb|fail) only [go_sem,seval,e7];exact h xs hx
 · rintro i env H' hi0 hi ⟨e0,e1,e2,e8,rfl,xs,hx,e7⟩ ihO
   refine .qt rfl ?_;simp (disch:=first|exact zb|fail) only [go_sem,seval,e8];refine .qT rfl ?_;refine .qt rfl ?_;simp (disch:=first|exact zb|fail) only [go_sem,seval];refine .q ?_;refine .cut2 (fun env2 H2 => ∃ v:Int,env2 0 = .p (yt l)∧env2 1 = .p (i64 c)∧env2 2 = .p (i64 n)∧env2 8 = .p (i64 i)∧env2 7 = .sl H.n i 1 (pl i64 xs)∧env2 9 = .p (i64 v)∧H2=H.new (.tail i)) (fun ih => ?_) ?_
   · cases hs:znb l with
     | false =>
      refine .qt rfl ?_;simp (disch:=first|exact zb|fail) only [go_sem,seval,e0];refine CallK.of (fun R h=>zd8 l hl _ R h) ?_;simp (disch:=first|exact zb|fail) only [go_sem,seval,hs];refine .qF rfl ?_;refine .skip ?_;refine ih _ _ ⟨0,?_,?_,?_,?_,?_,?_,rfl⟩<;>simp (disch:=first|exact zb|fail) only [go_sem,seval,e0,e1,e2,e7,e8]
     | true =>
      refine .qt rfl ?_;simp (disch:=first|exact zb|fail) only [go_sem,seval,e0];refine CallK.of (fun R h=>zd8 l hl _ R h) ?_;simp (disch:=first|exact zb|fail) only [go_sem,seval,hs,e0,e1,e8];refine CallK.of (fun R h=>zeg l hl c hc i _ R h) ?_;simp (disch:=first|exact zb|fail) only [go_sem,seval,e0,e1,e8]
      cases hp:zku l c i with
      | false =>
       refine .q ?_;refine .ifF (by simp (disch:=first|exact zb|fail) only [go_sem,seval,hp]) ?_;refine .skip ?_;refine ih _ _ ⟨0,?_,?_,?_,?_,?_,?_,rfl⟩<;>simp (disch:=first|exact zb|fail) only [go_sem,seval,e0,e1,e2,e7,e8]
      | true =>
       refine .q ?_;refine .ifT (by simp (disch:=first|exact zb|fail) only [go_sem,seval,hp]) ?_;refine .qt rfl ?_;simp (disch:=first|exact zb|fail) only [go_sem,seval,e2];refine ih _ _ ⟨n,?_,?_,?_,?_,?_,?_,rfl⟩<;>simp (disch:=first|exact zb|fail) only [go_sem,seval,e0,e1,e2,e7,e8]
   rintro env H2 ⟨v,e0,e1,e2,e8,e7,e9,rfl⟩
   have hxs:pl i64 xs++[i64 v]=pl i64 (xs++[v]):=by rw [←ye];rfl
   refine .qt rfl ?_;simp (disch:=first|exact zb|fail) only [go_sem,seval,e7,e9,hxs,hx];refine .qt rfl ?_;simp (disch:=first|exact zb|fail) only [go_sem,seval,e8];refine ihO _ _ ⟨?_,?_,?_,?_,?_,xs++[v],by simp [hx],?_⟩<;>simp (disch:=first|exact zb|fail) only [go_sem,seval,e0,e1,e2]
theorem zcd (n:Nat) (l:List Cnd) (hl:l.length≤3) (c:Int) (hc:0≤c∧c < 4) (H:Hp):ACall Tryz.prog G 100 [.p (yt l),  .p (i64 c),.p (i64 n)] H (fun r H'=>(∃ xs:List Int,xs.length=16∧r = .sl H.n 0 1 (pl i64 xs))∧H'=H.new (.tail 0)) :=
 zqn n l hl c hc H _ fun xs hx=>⟨⟨xs,hx,rfl⟩,rfl⟩
set_option maxHeartbeats 16000000 in
set_option maxRecDepth 20000 in
theorem znc (n:Nat) (hn64:n≤64) (q:Qry) (hk:okI q.kind) (H:Hp) (R:AV → Hp → Prop) (h : ∀ x,R (.tup [.p (.agg [x]),.p (i64 (y7 q))]) H):ACall Tryz.prog G 44 [.p (qry q),.p (i64 n)] H R:=by
 refine ACall.of_run (raw:=[]) Tryz.func44 rfl Tryz.ntmps44 (by simp) fun hbel => ?_
 refine .qt rfl ?_;simp (disch:=first|exact zb|fail) only [go_sem,seval]
 cases hv:vQ q with
 | false =>
  have he:y7 q=1:=by rw [y7,hv];rfl
  rw [he] at h;refine .qt rfl ?_;simp (disch:=first|exact zb|fail) only [go_sem,seval];refine CallK.of (fun R h=>zcr q hk _ R h) ?_;simp (disch:=first|exact zb|fail) only [go_sem,seval,hv];refine .qT rfl ?_;refine .qt rfl ?_;simp (disch:=first|exact zb|fail) only [go_sem,seval];refine .qr rfl Tryz.func44 (by rw [Tryz.results44]) ?_;simp (disch:=first|exact zb|fail) only [go_sem,seval];exact h _
 | true =>
  obtain⟨hk7,hcol,hK,hlf,hall⟩:(1≤q.kind∧q.kind≤7)∧(0≤q.col∧q.col < 4)∧(min (yw q.kind) 1≤q.k∧q.k≤yw q.kind)∧(q.fl.length=if q.kind=7 then 2 else 1)∧q.fl.all vF=true:=by
   have hq:=hv;simp only [vQ,Bool.and_eq_true,decide_eq_true_eq] at hq;exact⟨hq.1,hq.2.1,hq.2.2.2.1,hq.2.2.2.2.1,hq.2.2.2.2.2⟩
  have hl0:0 < q.fl.length:=by rw [hlf];split<;>decide
  have hl3:(nth q.fl 0).length≤3:=by
   have:=zb7 hv hl0
   simp only [vF,Bool.and_eq_true,decide_eq_true_eq] at this;exact this.1
  refine .qt rfl ?_;simp (disch:=first|exact zb|fail) only [go_sem,seval];refine CallK.of (fun R h=>zcr q hk _ R h) ?_;simp (disch:=first|exact zb|fail) only [go_sem,seval,hv];refine .qF rfl ?_;refine .skip ?_
  rcases Classical.em (4≤q.kind∧q.kind≤6∧(q.col=1 ∨ q.col=3)) with hE | hE
  · have he:y7 q=140:=by rw [y7,hv,if_pos rfl,if_pos hE]
    rw [he] at h
    obtain⟨x1,x2,x3⟩:=hE
    refine .qt rfl ?_;simp (disch:=first|exact zb|fail) only [go_sem,seval];refine CallK.of (fun R h=>zhL q.col hcol _ R h) ?_;simp (disch:=first|exact zb|fail) only [go_sem,seval];refine .qT rfl ?_;refine .qt rfl ?_;simp (disch:=first|exact zb|fail) only [go_sem,seval];refine .qr rfl Tryz.func44 (by rw [Tryz.results44]) ?_;simp (disch:=first|exact zb|fail) only [go_sem,seval];exact h _
  have he:y7 q=0:=by rw [y7,hv,if_pos rfl,if_neg hE]
  rw [he] at h
  have hq0:((H.new (.cells [.p (i64 q.kind),.p (i64 q.col),.p (i64 q.k),.p (.sl false 1 (pl yt q.fl))])).new (.cells [.p (.sl true 1 [])])).f H.n=some (.cells [.p (i64 q.kind),.p (i64 q.col),.p (i64 q.k),.p (.sl false 1 (pl yt q.fl))]):=by simp (disch:=first|exact zb|fail) only [go_sem,seval]
  have hb3:Bel H.n ((H.new (.cells [.p (i64 q.kind),.p (i64 q.col),.p (i64 q.k),.p (.sl false 1 (pl yt q.fl))])).new (.cells [.p (.sl true 1 [])])):=by
   repeat (first | with_reducible refine zaC ?_ zb | with_reducible refine zaU ?_ zb | with_reducible exact hbel)
  have hn3:((H.new (.cells [.p (i64 q.kind),.p (i64 q.col),.p (i64 q.k),.p (.sl false 1 (pl yt q.fl))])).new (.cells [.p (.sl true 1 [])])).f (H.n+1)=some (.cells [.p (.sl true 1 [])]):=by simp (disch:=first|exact zb|fail) only [go_sem,seval]
  have ht3:((H.new (.cells [.p (i64 q.kind),.p (i64 q.col),.p (i64 q.k),.p (.sl false 1 (pl yt q.fl))])).new (.cells [.p (.sl true 1 [])])).trunc H.n=H:=by simp (disch:=first|exact zb|fail) only [go_sem,seval]
  refine .q ?_;refine .cut2 (fun env2 H2=>env2 1 = .p (i64 n)∧env2 2 = .ptr H.n 0∧env2 4 = .ptr (H.n+1) 0∧H2=((H.new (.cells [.p (i64 q.kind),.p (i64 q.col),.p (i64 q.k),.p (.sl false 1 (pl yt q.fl))])).new (.cells [.p (.sl true 1 [])]))) (fun ih => ?_) ?_
  · rcases Classical.em (4≤q.kind) with k1 | k1
    · rcases Classical.em (q.kind≤6) with k2 | k2
      · have hc : ¬ (q.col=1 ∨ q.col=3):=fun e=>hE ⟨k1,k2,e⟩
        refine .qt rfl ?_;simp (disch:=first|exact zb|fail) only [go_sem,seval];refine CallK.of (fun R h=>zhL q.col hcol _ R h) ?_;simp (disch:=first|exact zb|fail) only [go_sem,seval];refine .qF rfl ?_;refine .skip ?_;refine ih _ _ ⟨?_,?_,?_,rfl⟩<;>simp (disch:=first|exact zb|fail) only [go_sem,seval]
      · refine .qt rfl ?_;simp (disch:=first|exact zb|fail) only [go_sem,seval];refine .qF rfl ?_;refine .skip ?_;refine ih _ _ ⟨?_,?_,?_,rfl⟩<;>simp (disch:=first|exact zb|fail) only [go_sem,seval]
    · refine .qt rfl ?_;simp (disch:=first|exact zb|fail) only [go_sem,seval];refine .qF rfl ?_;refine .skip ?_;refine ih _ _ ⟨?_,?_,?_,rfl⟩<;>simp (disch:=first|exact zb|fail) only [go_sem,seval]
  rintro env H2 ⟨e1,e2,e4,hH2⟩
  rw [←hH2] at hq0 hb3 hn3 ht3;have hbel:=hb3;have hl2:=Hp.lt hn3;rw [←ht3] at h
  clear hH2
  refine .qt rfl ?_;simp (disch:=first|exact zb|fail) only [go_sem,seval,e2,hq0];refine .qt rfl ?_;simp (disch:=first|exact zb|fail) only [go_sem,seval,e2,hq0]
  rcases Classical.em (q.kind=4) with k4 | k4
  · refine .qt rfl ?_;simp (disch:=first|exact zb|fail) only [go_sem,seval,k4];refine .qT rfl ?_;refine .qt rfl ?_;simp (disch:=first|exact zb|fail) only [go_sem,seval,e1,e2,hq0]
    refine (zcd n (nth q.fl 0) hl3 q.col hcol _).mono fun r H' hr => ?_
    obtain⟨⟨xs,hxs,rfl⟩,rfl⟩:=hr
    refine AOps.weak 50 (x := .sl H2.n 0 1 (pl i64 xs)) (y := .p (.sl false 1 (pl i64 xs))) (by simp (disch:=first|exact zb|fail) only [go_sem,seval]) (by simp (disch:=first|exact zb|fail) only [go_sem,seval,AV.weak]) (AOps.run ?_);simp (disch:=first|exact zb|fail) only [go_sem,seval,e4,hn3];refine .qr rfl Tryz.func44 (by rw [Tryz.results44]) (hx:=by simp (disch:=first|exact zb|fail) only [go_sem,seval,e4];rfl) ?_;simp (disch:=first|exact zb|fail) only [go_sem,seval,e4];exact h _
  refine .qt rfl ?_;simp (disch:=first|exact zb|fail) only [go_sem,seval];refine .qF rfl ?_
  rcases Classical.em (q.kind=5) with k5 | k5
  · refine .qt rfl ?_;simp (disch:=first|exact zb|fail) only [go_sem,seval,k5];refine .qT rfl ?_;refine .qt rfl ?_;simp (disch:=first|exact zb|fail) only [go_sem,seval,e1,e2,hq0]
    refine (zcd n (nth q.fl 0) hl3 q.col hcol _).mono fun r H' hr => ?_
    obtain⟨⟨xs,hxs,rfl⟩,rfl⟩:=hr
    refine AOps.weak 58 (x := .sl H2.n 0 1 (pl i64 xs)) (y := .p (.sl false 1 (pl i64 xs))) (by simp (disch:=first|exact zb|fail) only [go_sem,seval]) (by simp (disch:=first|exact zb|fail) only [go_sem,seval,AV.weak]) (AOps.run ?_);simp (disch:=first|exact zb|fail) only [go_sem,seval,e4,hn3];refine .qr rfl Tryz.func44 (by rw [Tryz.results44]) (hx:=by simp (disch:=first|exact zb|fail) only [go_sem,seval,e4];rfl) ?_;simp (disch:=first|exact zb|fail) only [go_sem,seval,e4];exact h _
  refine .qt rfl ?_;simp (disch:=first|exact zb|fail) only [go_sem,seval];refine .qF rfl ?_
  rcases Classical.em (q.kind=6) with k6 | k6
  · refine .qt rfl ?_;simp (disch:=first|exact zb|fail) only [go_sem,seval,k6];refine .qT rfl ?_;refine .qt rfl ?_;simp (disch:=first|exact zb|fail) only [go_sem,seval,e1,e2,hq0]
    refine (zcd n (nth q.fl 0) hl3 q.col hcol _).mono fun r H' hr => ?_
    obtain⟨⟨xs,hxs,rfl⟩,rfl⟩:=hr
    refine AOps.weak 66 (x := .sl H2.n 0 1 (pl i64 xs)) (y := .p (.sl false 1 (pl i64 xs))) (by simp (disch:=first|exact zb|fail) only [go_sem,seval]) (by simp (disch:=first|exact zb|fail) only [go_sem,seval,AV.weak]) (AOps.run ?_);simp (disch:=first|exact zb|fail) only [go_sem,seval,e4,hn3];refine .qr rfl Tryz.func44 (by rw [Tryz.results44]) (hx:=by simp (disch:=first|exact zb|fail) only [go_sem,seval,e4];rfl) ?_;simp (disch:=first|exact zb|fail) only [go_sem,seval,e4];exact h _
  refine .qt rfl ?_;simp (disch:=first|exact zb|fail) only [go_sem,seval];refine .qF rfl ?_
  rcases Classical.em (q.kind=7) with k7 | k7
  · have hl2:q.fl.length=2:=by rw [hlf,if_pos k7]
    have hl32:(nth q.fl 1).length≤3:=by
     have:=zb7 hv (show 1 < q.fl.length by omega)
     simp only [vF,Bool.and_eq_true,decide_eq_true_eq] at this;exact this.1
    refine .qt rfl ?_;simp (disch:=first|exact zb|fail) only [go_sem,seval,k7];refine .qT rfl ?_;refine .qt rfl ?_;simp (disch:=first|exact zb|fail) only [go_sem,seval,e1,e2,hq0];refine CallK.ex (zcd n (nth q.fl 0) hl3 0 (by omega) _) ?_
    rintro _ _ ⟨⟨xs,hxs,rfl⟩,rfl⟩
    simp (disch:=first|exact zb|fail) only [go_sem,seval];refine .qt rfl ?_;simp (disch:=first|exact zb|fail) only [go_sem,seval,e1,e2,hq0,hl2]
    refine (zcd n (nth q.fl 1) hl32 0 (by omega) _).mono fun r H' hr => ?_
    obtain⟨⟨ys,hys,rfl⟩,rfl⟩:=hr
    refine AOps.one rfl (x := .sl H2.n 1 1 (pl i64 (xs++ys))) (H':=((H2.new (.tail 0)).new (.tail 0)).set H2.n (.tail 1)) (by simp (disch:=first|exact zb|fail) only [go_sem,seval,hxs,hys]) rfl ?_;refine AOps.weak 80 (x := .sl H2.n 1 1 (pl i64 (xs++ys))) (y := .p (.sl false 1 (pl i64 (xs++ys)))) (by simp (disch:=first|exact zb|fail) only [go_sem,seval]) (by simp (disch:=first|exact zb|fail) only [go_sem,seval,AV.weak]) (AOps.run ?_);simp (disch:=first|exact zb|fail) only [go_sem,seval,e4,hn3];refine .qr rfl Tryz.func44 (by rw [Tryz.results44]) (hx:=by simp (disch:=first|exact zb|fail) only [go_sem,seval,e4];rfl) ?_;simp (disch:=first|exact zb|fail) only [go_sem,seval,e4];exact h _
  refine .qt rfl ?_;simp (disch:=first|exact zb|fail) only [go_sem,seval];refine .qF rfl ?_
  cases hs:znb (nth q.fl 0) with
  | false =>
   refine .qt rfl ?_;simp (disch:=first|exact zb|fail) only [go_sem,seval];refine CallK.of (fun R h=>zd8 (nth q.fl 0) hl3 _ R h) ?_;simp (disch:=first|exact zb|fail) only [go_sem,seval,hs];refine .qT rfl ?_;refine .qt rfl ?_;simp (disch:=first|exact zb|fail) only [go_sem,seval,e4,hn3];refine .qr rfl Tryz.func44 (by rw [Tryz.results44]) (hx:=by simp (disch:=first|exact zb|fail) only [go_sem,seval,e4];rfl) ?_;simp (disch:=first|exact zb|fail) only [go_sem,seval,e4];exact h _
  | true =>
   obtain⟨m,hm⟩ : ∃ m:Nat,zfE (nth q.fl 0) q.col=m:=by
    have hc:q.col=0 ∨ q.col=1 ∨ q.col=2 ∨ q.col=3:=by omega
    have hh:=hs;unfold znb at hh;rw [List.all_eq_true] at hh
    have:=hh q.col (by rcases hc with e | e | e | e<;>rw [e]<;>simp [four])
    rw [decide_eq_true_eq] at this
    exact⟨_,(Int.toNat_of_nonneg this).symm⟩
   have hm2:m≤255:=by
    have h1:=(zz9 (nth q.fl 0) q.col ((yQ q.col.toNat).toNat+1)).2;have h2:=zhK q.col.toNat;unfold zfE at hm;rw [hm] at h1;omega
   refine .qt rfl ?_;simp (disch:=first|exact zb|fail) only [go_sem,seval];refine CallK.of (fun R h=>zd8 (nth q.fl 0) hl3 _ R h) ?_;simp (disch:=first|exact zb|fail) only [go_sem,seval,hs];refine .qF rfl ?_;refine .skip ?_
   have hc:q.kind=1 ∨ q.kind=2 ∨ q.kind=3:=by omega
   rcases hc with k1 | k1 | k1
   · refine .qt rfl ?_;simp (disch:=first|exact zb|fail) only [go_sem,seval];refine .qt rfl ?_;simp (disch:=first|exact zb|fail) only [go_sem,seval,e2,hq0,k1];refine .qF rfl ?_;refine .skip ?_;refine .qt rfl ?_;simp (disch:=first|exact zb|fail) only [go_sem,seval,e2,hq0,k1];refine .qF rfl ?_;refine .skip ?_;refine .qt rfl ?_;simp (disch:=first|exact zb|fail) only [go_sem,seval,e1,e2,hq0];refine CallK.of (fun R h=>zbO (nth q.fl 0) hl3 q.col hcol _ R h) ?_;simp (disch:=first|exact zb|fail) only [go_sem,seval,hm];refine CallK.of (fun R h=>zdM n m 0 hn64 hm2 (by omega) _ R h) ?_;simp (disch:=first|exact zb|fail) only [go_sem,seval,hm];refine .qt rfl ?_;simp (disch:=first|exact zb|fail) only [go_sem,seval];refine .qF rfl ?_;refine .skip ?_;refine .qt rfl ?_;simp (disch:=first|exact zb|fail) only [go_sem,seval,e4,hn3];refine .qr rfl Tryz.func44 (by rw [Tryz.results44]) (hx:=by simp (disch:=first|exact zb|fail) only [go_sem,seval,e4];rfl) ?_;simp (disch:=first|exact zb|fail) only [go_sem,seval,e4];exact h _
   · refine .qt rfl ?_;simp (disch:=first|exact zb|fail) only [go_sem,seval];refine .qt rfl ?_;simp (disch:=first|exact zb|fail) only [go_sem,seval,e2,hq0,k1];refine .qT rfl ?_;refine .qt rfl ?_;simp (disch:=first|exact zb|fail) only [go_sem,seval];refine .qt rfl ?_;simp (disch:=first|exact zb|fail) only [go_sem,seval,e2,hq0,k1];refine .qF rfl ?_;refine .skip ?_;refine .qt rfl ?_;simp (disch:=first|exact zb|fail) only [go_sem,seval,e1,e2,hq0];refine CallK.of (fun R h=>zbO (nth q.fl 0) hl3 q.col hcol _ R h) ?_;simp (disch:=first|exact zb|fail) only [go_sem,seval,hm];refine CallK.of (fun R h=>zdM n m 1 hn64 hm2 (by omega) _ R h) ?_;simp (disch:=first|exact zb|fail) only [go_sem,seval,hm];refine .qt rfl ?_;simp (disch:=first|exact zb|fail) only [go_sem,seval];refine .qF rfl ?_;refine .skip ?_;refine .qt rfl ?_;simp (disch:=first|exact zb|fail) only [go_sem,seval,e4,hn3];refine .qr rfl Tryz.func44 (by rw [Tryz.results44]) (hx:=by simp (disch:=first|exact zb|fail) only [go_sem,seval,e4];rfl) ?_;simp (disch:=first|exact zb|fail) only [go_sem,seval,e4];exact h _
   · have hk3:yw q.kind=6:=by rw [k1];rfl
     obtain⟨kk,hkk⟩ : ∃ kk:Nat,q.k=kk:=⟨q.k.toNat,by omega⟩
     refine .qt rfl ?_;simp (disch:=first|exact zb|fail) only [go_sem,seval];refine .qt rfl ?_;simp (disch:=first|exact zb|fail) only [go_sem,seval,e2,hq0,k1];refine .qF rfl ?_;refine .skip ?_;refine .qt rfl ?_;simp (disch:=first|exact zb|fail) only [go_sem,seval,e2,hq0,k1];refine .qT rfl ?_;refine .qt rfl ?_;simp (disch:=first|exact zb|fail) only [go_sem,seval,e2,hq0];refine .qt rfl ?_;simp (disch:=first|exact zb|fail) only [go_sem,seval,e1,e2,hq0];refine CallK.of (fun R h=>zbO (nth q.fl 0) hl3 q.col hcol _ R h) ?_;simp (disch:=first|exact zb|fail) only [go_sem,seval,hm,hkk];refine CallK.of (fun R h=>zdM n m kk hn64 hm2 (by omega) _ R h) ?_;simp (disch:=first|exact zb|fail) only [go_sem,seval,hm];refine .qt rfl ?_;simp (disch:=first|exact zb|fail) only [go_sem,seval];refine .qF rfl ?_;refine .skip ?_;refine .qt rfl ?_;simp (disch:=first|exact zb|fail) only [go_sem,seval,e4,hn3];refine .qr rfl Tryz.func44 (by rw [Tryz.results44]) (hx:=by simp (disch:=first|exact zb|fail) only [go_sem,seval,e4];rfl) ?_;simp (disch:=first|exact zb|fail) only [go_sem,seval,e4];exact h _
theorem zdN (n:Nat) (hn:n≤64) (q:Qry) (hk:okI q.kind) (H:Hp):ACall Tryz.prog G 44 [.p (qry q),.p (i64 n)] H (fun r H'=>(∃ x,r = .tup [.p (.agg [x]),.p (i64 (y7 q))])∧H'=H):=znc n hn q hk H _ fun x=>⟨⟨x,rfl⟩,rfl⟩
theorem zfV (q:Qry) (hk:1≤q.kind∧q.kind≤7) (H:Hp) (R:AV → Hp → Prop) (h:R (.p (i64 (zfB q.kind).s)) H):ACall Tryz.prog G 31 [.p (qry q)] H R:=by
 refine ACall.of_run (raw:=[]) Tryz.func31 rfl Tryz.ntmps31 (by simp) fun hbel => ?_
 refine .qt rfl ?_;simp (disch:=first|exact zb|fail) only [go_sem,seval]
 have hc:q.kind=1 ∨ q.kind=2 ∨ q.kind=3 ∨ q.kind=4 ∨ q.kind=5 ∨ q.kind=6 ∨ q.kind=7:=by omega
 refine .qt rfl ?_;simp (disch:=first|exact zb|fail) only [go_sem,seval];refine .qF rfl ?_;refine .skip ?_
 rcases hc with e | e | e | e | e | e | e<;>rw [e] at h
 · refine .qt rfl ?_;simp (disch:=first|exact zb|fail) only [go_sem,seval,e];refine .qr rfl Tryz.func31 (by rw [Tryz.results31]) ?_;simp (disch:=first|exact zb|fail) only [go_sem,seval];exact h
 · refine .qt rfl ?_;simp (disch:=first|exact zb|fail) only [go_sem,seval,e];refine .qr rfl Tryz.func31 (by rw [Tryz.results31]) ?_;simp (disch:=first|exact zb|fail) only [go_sem,seval];exact h
 · refine .qt rfl ?_;simp (disch:=first|exact zb|fail) only [go_sem,seval,e];refine .qr rfl Tryz.func31 (by rw [Tryz.results31]) ?_;simp (disch:=first|exact zb|fail) only [go_sem,seval];exact h
 · refine .qt rfl ?_;simp (disch:=first|exact zb|fail) only [go_sem,seval,e];refine .qr rfl Tryz.func31 (by rw [Tryz.results31]) ?_;simp (disch:=first|exact zb|fail) only [go_sem,seval];exact h
 · refine .qt rfl ?_;simp (disch:=first|exact zb|fail) only [go_sem,seval,e];refine .qr rfl Tryz.func31 (by rw [Tryz.results31]) ?_;simp (disch:=first|exact zb|fail) only [go_sem,seval];exact h
 · refine .qt rfl ?_;simp (disch:=first|exact zb|fail) only [go_sem,seval,e];refine .qr rfl Tryz.func31 (by rw [Tryz.results31]) ?_;simp (disch:=first|exact zb|fail) only [go_sem,seval];exact h
 · refine .qt rfl ?_;simp (disch:=first|exact zb|fail) only [go_sem,seval,e];refine .qr rfl Tryz.func31 (by rw [Tryz.results31]) ?_;simp (disch:=first|exact zb|fail) only [go_sem,seval];exact h
end walks
end Go.Proofs.YthaoifcebimkfaaGreatDoor

namespace Go.Proofs.YthaoifcebimkfaaGreatDoor
open Go Go.AL

structure RI (H' Y:Hp) (s:List Nd) (n0 d i:Nat):Prop where
 em:H'.f (n0+6)=some (.cells [.p (.sl false 7 (pl rnd (rN s))),.vr (n0+7) i 1,.vr (n0+8) 0 1])
 ats:H'.f (n0+7)=some (.vec (ym (fun j => .vr (n0+9+2*j) (d+1) 1) i))
 rows : ∀ j,j < i → H'.f (n0+9+2*j)=some (.vec (cl i64 (List.replicate (d+1) (-1))))
 lay:H'.f (n0+8)=some (.vec [])
 n:H'.n=n0+9+2*i
 low : ∀ b,b < n0+6 → H'.f b=Y.f b
structure RL (H' K:Hp) (s:List Nd) (n0 k:Nat):Prop where
 em:H'.f (n0+6)=some (.cells [.p (.sl false 7 (pl rnd (rN s))),.vr (n0+7) (29+s.length) 1,.vr (n0+8) k 1])
 lay:H'.f (n0+8)=some (.vec (cl (PV.sl true 6) (List.replicate k [])))
 n:H'.n=K.n+k
 low : ∀ b,b < K.n → b≠n0+6 → b≠n0+8 → H'.f b=K.f b
section walks
variable {G:Globs}
set_option maxHeartbeats 16000000 in
set_option maxRecDepth 20000 in
theorem zeh (q:Qry) (hk:okI q.kind) (H:Hp):ACall Tryz.prog G 11 [.p (qry q)] H (fun r H'=>r = .tup [.p (zcv (zK q).1),.p (i64 (zK q).2)]∧H'=H):=by
 refine ACall.backZ ?_
 refine ACall.of_run (raw:=[]) Tryz.func11 rfl Tryz.ntmps11 (by simp) fun hbel => ?_
 refine .qt rfl ?_;simp (disch:=first|exact zb|fail) only [go_sem,seval]
 cases hv:vQ q with
 | false =>
  have he:y7 q=1:=by rw [y7,hv];rfl
  have hc:zK q=(⟨0,[],0⟩,1):=by rw [zK,he];rfl
  rw [hc];refine .qt rfl ?_;simp (disch:=first|exact zb|fail) only [go_sem,seval];refine CallK.of (fun R h=>zcr q hk _ R h) ?_;simp (disch:=first|exact zb|fail) only [go_sem,seval,hv];refine .qT rfl ?_;refine .qt rfl ?_;simp (disch:=first|exact zb|fail) only [go_sem,seval];refine .qr rfl Tryz.func11 (by rw [Tryz.results11]) ?_;simp (disch:=first|exact zb|fail) only [go_sem,seval]
 | true =>
  refine .qt rfl ?_;simp (disch:=first|exact zb|fail) only [go_sem,seval];refine CallK.of (fun R h=>zcr q hk _ R h) ?_;simp (disch:=first|exact zb|fail) only [go_sem,seval,hv];refine .qF rfl ?_;refine .skip ?_;refine .qt rfl ?_;simp (disch:=first|exact zb|fail) only [go_sem,seval];refine CallK.ex (zdN 1 (by decide) q hk _) ?_
  rintro _ _ ⟨⟨x,rfl⟩,rfl⟩
  simp (disch:=first|exact zb|fail) only [go_sem,seval]
  rcases Classical.em (y7 q=0) with he | he
  · rw [he];refine .qt rfl ?_;simp (disch:=first|exact zb|fail) only [go_sem,seval];refine .qF rfl ?_;refine .skip ?_
    obtain⟨X,hX⟩ : ∃ X,X=((H.new (.cells [.p (i64 q.kind),.p (i64 q.col),.p (i64 q.k),.p (.sl false 1 (pl yt q.fl))])).new (.cells [.p (i64 0),.p (.sl true 1 []),.p (i64 0)])).new (.cells [.p x]):=⟨_,rfl⟩
    have hXn:X.n=H.n+3:=by rw [hX,n_new',n_new',n_new']
    have hX0:X.f H.n=some (.cells [.p (i64 q.kind),.p (i64 q.col),.p (i64 q.k),.p (.sl false 1 (pl yt q.fl))]):=by rw [hX];simp (disch:=first|exact zb|fail) only [go_sem,seval]
    have hXl : ∀ b,b < H.n → X.f b=H.f b:=fun b hb=>by rw [hX];simp (disch:=first|exact zb|fail) only [go_sem,seval]
    have hX1:X.f (H.n+1)=some (.cells [.p (i64 0),.p (.sl true 1 []),.p (i64 0)]):=by rw [hX];simp (disch:=first|exact zb|fail) only [go_sem,seval]
    have hXb:Bel H.n X:=by
     rw [hX]
     repeat (first | with_reducible refine zaC ?_ zb | with_reducible refine zaU ?_ zb | with_reducible exact hbel)
    rw [←hX]
    clear hX
    refine .qt rfl ?_;simp (disch:=first|exact zb|fail) only [go_sem,seval];refine CallK.ex (zna _) ?_
    rintro _ H1 ⟨rfl,hB,hn1,hf1⟩
    rw [hXn] at hB hf1 hn1 ⊢;have q1:=(hf1 H.n (by omega)).trans hX0;simp (disch:=first|exact zb|fail) only [go_sem,seval];refine .qt rfl ?_;simp (disch:=first|exact zb|fail) only [go_sem,seval,q1];refine CallK.ex (zqj q hv hB (by decide)) ?_
    rintro _ H2 ⟨hB2,n2,rfl⟩
    have q2:=(n2.f H.n (by omega) (by omega)).trans q1
    obtain⟨o1,o2⟩:=zhG hv
    have o3:=o1.hi;have o4:=o1.mem;simp only [List.length_nil,Nat.zero_add] at o3;simp (disch:=first|exact zb|fail) only [go_sem,seval]
    obtain⟨p1,p2,p3,p4,p5⟩:=zgv hv
    change ∀ x∈(zw q []).1++(yc q (zw q []).2).1,x < 29+(yc q (zw q []).2).2.length at p1
    change (yc q (zw q []).2).2.length≤305 at p2
    change (zw q []).1.length≤32 at p3
    change ((zw q []).1++(yc q (zw q []).2).1).length≤69 at p4
    rw [List.length_append] at p4;refine .qt rfl ?_;simp (disch:=first|exact zb|fail) only [go_sem,seval];have q2':(H2.new (.tail 0)).f H.n=some (.cells [.p (i64 q.kind),.p (i64 q.col),.p (i64 q.k),.p (.sl false 1 (pl yt q.fl))]):=(zc (by have:=hB2.lt;omega)).trans q2;refine .qt rfl ?_;simp (disch:=first|exact zb|fail) only [go_sem,seval,q2'];refine CallK.ex (zm9 q hv (hB2.new _) (by omega)) ?_
    rintro _ H3 ⟨hB3,n3,rfl⟩
    have q3:=(n3.f H.n (by omega) (by omega)).trans q2';have hl2:=hB2.lt;have t3:=(n3.f H2.n (by omega) (by omega)).trans (zm rfl)
    obtain⟨m2,hm2⟩ : ∃ m,m=H2.n:=⟨_,rfl⟩
    have hn2:m2=H.n+5:=by rw [hm2,n2.n,hn1]
    rw [←hm2] at t3
    have hn3:H3.n=H.n+6:=by rw [n3.n,n_new',n2.n,hn1]
    have hold : ∀ b,b < H.n+3 → H3.f b=X.f b:=fun b hb=>(n3.f b (by omega) (by omega)).trans ((zc (by omega)).trans ((n2.f b (by omega) (by omega)).trans (hf1 b (by omega))))
    have hC:=zqe q
    have hcQ:zK q=if zig (zbr (yc q (zw q []).2).2 ((zw q []).1++(yc q (zw q []).2).1)) then (⟨0,[],0⟩,2) else (⟨29,zbr (yc q (zw q []).2).2 ((zw q []).1++(yc q (zw q []).2).1),(zw q []).1.length⟩,0):=by
     unfold zK;rw [if_pos he];rfl
    rw [hcQ]
    change SmC (yc q (zw q []).2).2 at hC
    have p6 : ∃ y∈(zw q []).1++(yc q (zw q []).2).1,0 < lev (yc q (zw q []).2).2 y:=by
     have hm:=zcO (q:=q) (s:=(zw q []).2) 4
     refine⟨_,List.mem_append_right _ hm,?_⟩
     have h29:29≤(chk (zw q []).2 4).1:=by unfold chk;rw [zay];omega
     refine Nat.pos_of_ne_zero fun h0 => ?_
     have:=zdE hB3.wf (p1 _ (List.mem_append_right _ hm)) h0
     omega
    clear hcQ o4
    generalize (zw q []).1=a at *
    generalize yc q (zw q []).2=z at *
    obtain⟨b,S⟩:=z
    simp only at hB3 p1 p2 p3 p4 p6 hC ⊢;rw [←hm2];have hab:pl nI a++pl nI b=pl nI (a++b):=ye ..;simp (disch:=first|exact zb|fail) only [go_sem,seval,t3,hab]
    obtain⟨Y,hY⟩ : ∃ Y,Y=H3.set m2 (.tail 1):=⟨_,rfl⟩
    have hYB:RB Y S (H.n+3) (H.n+4):=by rw [hY];exact hB3.set _ (by omega) (by omega)
    have hYn:Y.n=H.n+6:=by rw [hY,n_set',hn3]
    have hYf : ∀ b,b < H.n+3 → Y.f b=X.f b:=fun b hb=>by rw [hY,f_set_ne' (by omega)];exact hold b hb
    rw [←hY]
    have hlab:(a++b).length≤69:=by rw [List.length_append];exact p4
    have hal:a.length≤32:=p3
    have hl0:0 < (a++b).length:=by
     obtain⟨y,hy,_⟩:=p6
     exact List.length_pos_of_mem hy
    clear hab
    generalize a++b=o at *
    have hdp:0 < depth S o:=by
     obtain⟨y,hy,hy0⟩:=p6
     have:=zbu (s:=S) hy
     omega
    have hlw:=zfD hYB.wf p1;have hll:=zhH hYB.wf p1 (m:=1000) (by omega) (by omega)
    have hon : ∀ i,i < o.length → nth o i < 29+S.length:=fun i hi=>by rw [zg hi];exact p1 _ (List.getElem_mem hi)
    have hle : ∀ i,i < o.length → lev S (nth o i)≤1000:=fun i hi=>by have:=zbB hYB.wf _ (hon i hi);have:=hon i hi;omega
    have hdl : ∀ i,depth S (o.take i)≤1000:=fun i=>zdL fun x hx=>by have:=p1 x (List.mem_of_mem_take hx);have:=zbB hYB.wf x this;omega
    have hy3:=hYB.bld;have hrl:=zkr S;refine .qt rfl ?_;simp (disch:=first|exact zb|fail) only [go_sem,seval];refine .qt rfl ?_;simp (disch:=first|exact zb|fail) only [go_sem,seval];refine .q ?_;refine .loopE [2,6,7,8] (fun i=>[(9,.p (i64 (depth S (o.take i):Nat))),(10,.p (i64 i))]) (fun i=>[]) (fun i=>True) (0) (o.length) (by omega) ?_ (by first | rfl | (simp (disch:=first|exact zb|fail) only [go_sem,seval]<;>rfl)) ?_ ?_ ?_
    · simp (disch:=first|exact zb|fail) only [go_sem,seval]<;>(repeat' (first | rfl | refine And.intro ?_ ?_))
    · exact trivial
    intro env E hQ;simp (disch:=first|exact zb|fail) only [go_sem,seval] at E
    rotate_left 1
    intro i env hi0 hi E hQ ihE;simp (disch:=first|exact zb|fail) only [go_sem,seval] at E
    rotate_left 1
    · have hdm:=hdl o.length;rw [List.take_length] at hdm
      generalize hd:depth S o=d at *
      refine .qt rfl ?_;simp (disch:=first|exact zb|fail) only [go_sem,seval,E];refine .qF rfl ?_;have hak:zj (zx [AV.sl (H.n+4) (29+S.length) 7 (pl rnd (rN S)),AV.p (PV.sl true 1 []),AV.p (PV.sl true 1 [])])=some [AV.p (.sl false 7 (pl rnd (rN S))),AV.p (PV.sl true 1 []),AV.p (PV.sl true 1 [])]:=rfl;refine .qt rfl ?_;simp (disch:=first|exact zb|fail) only [go_sem,seval,E,hy3,hak];rw [hYn];refine .q ?_;refine .vecC (H.n+6) 1 (by simp (disch:=first|exact zb|fail) only [go_sem,seval];rfl) (by rfl) ?_;simp (disch:=first|exact zb|fail) only [go_sem,seval,List.set_cons_zero,List.set_cons_succ];refine .q ?_;refine .vecC (H.n+6) 2 (by simp (disch:=first|exact zb|fail) only [go_sem,seval];rfl) (by rfl) ?_;simp (disch:=first|exact zb|fail) only [go_sem,seval,List.set_cons_zero,List.set_cons_succ];refine .qt rfl ?_;simp (disch:=first|exact zb|fail) only [go_sem,seval,E]
      obtain⟨K0,hK0⟩ : ∃ K0,K0=((Y.new (.cells [.p (.sl false 7 (pl rnd (rN S))),.vr (Y.n+1) 0 1,.vr (Y.n+2) 0 1])).new (.vec [])).new (.vec []):=⟨_,rfl⟩
      have hI0:RI K0 Y S H.n d 0:=by
       refine⟨?_,?_,fun j hj=>absurd hj (by omega),?_,?_,fun b hb => ?_⟩
       · rw [hK0,←hYn,zc (by simp only [n_new'];omega),zc (by rw [n_new'];omega),zm rfl,hYn]
       · rw [hK0,zc (by simp only [n_new'];omega),zm (by rw [n_new',hYn])];rfl
       · rw [hK0,zm (by simp only [n_new',hYn])]
       · rw [hK0];simp only [n_new',hYn]
       · rw [hK0,zc (by simp only [n_new'];omega),zc (by rw [n_new'];omega),zc (by omega)]
      rw [←hK0]
      clear hK0
      refine .q ?_;refine .count (fun i env H'=>env 2 = .ptr (H.n+1) 0∧env 6 = .ptr (H.n+3) 0∧env 7 = .p (.sl false 1 (pl nI a))∧env 8 = .sl m2 1 1 (pl nI o)∧env 9 = .p (i64 d)∧env 11 = .ptr (H.n+6) 0∧env 12 = .p (i64 i)∧RI H' Y S H.n d i) 0 (29+S.length) (by omega) ?_ ?_ ?_
      · refine⟨?_,?_,?_,?_,?_,?_,?_,hI0⟩<;>simp (disch:=first|exact zb|fail) only [go_sem,seval,E]
      · rintro env K ⟨e2,e6,e7,e8,e9,e11,e12,hI⟩
        have hb3:=(hI.low (H.n+3) (by omega)).trans hy3;refine .qt rfl ?_;simp (disch:=first|exact zb|fail) only [go_sem,seval,e6,e12,hb3,hrl];refine .qF rfl ?_;refine .qt rfl ?_;simp (disch:=first|exact zb|fail) only [go_sem,seval];refine .q ?_;have hIn:=hI.n;refine .count (fun k env H'=>env 2 = .ptr (H.n+1) 0∧env 7 = .p (.sl false 1 (pl nI a))∧env 8 = .sl m2 1 1 (pl nI o)∧env 9 = .p (i64 d)∧env 11 = .ptr (H.n+6) 0∧env 15 = .p (i64 k)∧RL H' K S H.n k) 0 d (by omega) ?_ ?_ ?_
        · refine⟨?_,?_,?_,?_,?_,?_,⟨hI.em,hI.lay,rfl,fun _ _ _ _=>rfl⟩⟩
          · simp (disch:=first|exact zb|fail) only [go_sem,seval,e2]
          · simp (disch:=first|exact zb|fail) only [go_sem,seval,e7]
          · simp (disch:=first|exact zb|fail) only [go_sem,seval,e8]
          · simp (disch:=first|exact zb|fail) only [go_sem,seval,e9]
          · simp (disch:=first|exact zb|fail) only [go_sem,seval,e11]
          · simp (disch:=first|exact zb|fail) only [go_sem,seval]
        · rintro env J ⟨e2,e7,e8,e9,e11,e15,hJ⟩
          refine .qt rfl ?_;simp (disch:=first|exact zb|fail) only [go_sem,seval,e9,e15];refine .qF rfl ?_;have hJn:=hJ.n
          have hjl:J.f (H.n+8)=some (.vec (List.replicate d (.p (.sl true 6 [])))):=by rw [hJ.lay,cl_replicate]
          have hJlo : ∀ b,b < H.n+6 → J.f b=Y.f b:=fun b hb=>(hJ.low b (by omega) (by omega) (by omega)).trans (hI.low b hb)
          refine ARun.ownVs (H.n+8) d (sz:=6) hjl ?_
          obtain⟨V,hV⟩ : ∃ V,V=app (J.set (H.n+8) (.vec (ym (fun j => .sl (J.n+j) 0 6 []) d))) (List.replicate d (.tail 0)):=⟨_,rfl⟩
          rw [←hV]
          have hVn:V.n=J.n+d:=by rw [hV,app_n',n_set',List.length_replicate]
          have hVf : ∀ b,b < J.n → b≠H.n+8 → V.f b=J.f b:=fun b h1 h2=>by rw [hV,zcn (by rw [n_set'];omega),f_set_ne' h2]
          have hEV:EH V S d (H.n+6) (H.n+7) (H.n+8) (H.n+9) J.n (.p (.sl false 7 (pl rnd (rN S)))) ⟨[],List.replicate d []⟩:=by
           refine⟨?_,?_,fun i hi => ?_,?_,fun k hk => ?_,by omega⟩
           · rw [hVf _ (by omega) (by omega)];exact hJ.em
           · rw [hVf _ (by omega) (by omega),hJ.low _ (by omega) (by omega) (by omega)];exact hI.ats
           · rw [hVf _ (by omega) (by omega),hJ.low _ (by omega) (by omega) (by omega),hI.rows i hi]
             congr 2
             unfold atR;rw [cl_replicate];apply List.ext_getElem?;intro j;by_cases hj:j < d+1
             · rw [List.getElem?_replicate,if_pos hj,zam hj];rfl
             · rw [List.getElem?_eq_none (by rw [List.length_replicate];omega),List.getElem?_eq_none (by rw [zan];omega)]
           · rw [hV,zcn (by rw [n_set'];omega),zo rfl (by omega)];unfold zar
             congr 2
             refine yO fun k hk => ?_
             rw [zcc];rfl
           · rw [zcc,hV,show J.n+k=(J.set (H.n+8) (.vec (ym (fun j => .sl (J.n+j) 0 6 []) d))).n+k by rw [n_set'],zdu];simp [hk]
          have hVlo : ∀ b,b < H.n+6 → V.f b=Y.f b:=fun b hb=>(hVf b (by omega) (by omega)).trans (hJlo b hb)
          have hLk:=LOk.none S d;have hCv:=Cov.none S d
          clear hVf hV
          refine .qt rfl ?_;simp (disch:=first|exact zb|fail) only [go_sem,seval];refine .q ?_;refine .own 16 (by simp (disch:=first|exact zb|fail) only [go_sem,seval];rfl) ?_;refine .qt rfl ?_;simp (disch:=first|exact zb|fail) only [go_sem,seval];refine .q ?_
          have hlm:=fun i=>zd5 S d o ⟨[],List.replicate d []⟩ i
          refine .count (fun i env H'=>env 2 = .ptr (H.n+1) 0∧env 7 = .p (.sl false 1 (pl nI a))∧env 8 = .sl m2 1 1 (pl nI o)∧env 9 = .p (i64 d)∧env 11 = .ptr (H.n+6) 0∧env 16 = .sl V.n i 6 (pl zG (yn S d o ⟨[],List.replicate d []⟩ i).1)∧env 17 = .p (i64 i) ∧
           EH H' S d (H.n+6) (H.n+7) (H.n+8) (H.n+9) J.n (.p (.sl false 7 (pl rnd (rN S)))) (yn S d o ⟨[],List.replicate d []⟩ i).2∧H'.f V.n=some (.tail i)∧H'.n=V.n+1∧(∀ b,b < H.n+6 → H'.f b=Y.f b) ∧
           LOk S [] d (yn S d o ⟨[],List.replicate d []⟩ i).2∧Cov S d (yn S d o ⟨[],List.replicate d []⟩ i).2) 0 o.length (by omega) ?_ ?_ ?_
          · refine⟨?_,?_,?_,?_,?_,?_,?_,hEV.new _,zm rfl,by rw [n_new'],fun b hb=>by rw [zc (by omega)];exact hVlo b hb,hLk,hCv⟩
            · simp (disch:=first|exact zb|fail) only [go_sem,seval,e2]
            · simp (disch:=first|exact zb|fail) only [go_sem,seval,e7]
            · simp (disch:=first|exact zb|fail) only [go_sem,seval,e8]
            · simp (disch:=first|exact zb|fail) only [go_sem,seval,e9]
            · simp (disch:=first|exact zb|fail) only [go_sem,seval,e11]
            · simp (disch:=first|exact zb|fail) only [go_sem,seval,za8];rfl
            · simp (disch:=first|exact zb|fail) only [go_sem,seval]
          · rintro env W ⟨e2,e7,e8,e9,e11,e16,e17,hL2,hrow,hn2,hlo2,hO2,hV2⟩
            refine .qt rfl ?_;simp (disch:=first|exact zb|fail) only [go_sem,seval,e8,e17];refine .qF rfl ?_;have hlq:=hlm o.length;have hll2:=hO2.len
            have hlay:zbr S o=(yn S d o ⟨[],List.replicate d []⟩ o.length).2.ls.set (d - 1) (yn S d o ⟨[],List.replicate d []⟩ o.length).1:=by unfold zbr;rw [hd]
            rw [hlay] at hlw hll ⊢
            clear hlay hlm
            generalize yn S d o ⟨[],List.replicate d []⟩ o.length=q2 at *
            have hwl:(zar J.n q2.2.ls d).length=d:=zan
            have hsub:(d:Int) - 1=((d - 1:Nat):Int):=by omega
            have lL:=hL2.lt;refine .qt rfl ?_;simp (disch:=first|exact zb|fail) only [go_sem,seval,e9,e11,e16,hL2.em,hL2.lay,hwl,hsub];refine ARun.weakV (H.n+8) (cs:=(zar J.n q2.2.ls d).set (d - 1) (.sl V.n o.length 6 (pl zG q2.1))) (by rw [zo rfl (by omega)];rfl) ?_;rw [set_set',List.map_set,zjb hll2]
            have hwk:(cl (yu 6 zG) q2.2.ls).set (d - 1) (AV.weak (.sl V.n o.length 6 (pl zG q2.1)))=cl (yu 6 zG) (q2.2.ls.set (d - 1) q2.1):=by
             rw [←zeA];rfl
            rw [hwk];have hem2:=hL2.em
            generalize q2.2.ls.set (d - 1) q2.1=ls4 at *
            clear hwk
            refine .frzCell (H.n+6) 2 (H.n+8) (x := .vr (H.n+8) d 1) (y := .p (.sl false 1 (pl (yu 6 zG) ls4))) (by rw [f_set_ne' (by omega)];exact hem2) rfl (by omega) (fun σ w val hr hs=>zwY hr (xs:=pl (yu 6 zG) ls4) (cs:=cl (yu 6 zG) ls4) (by rw [zo rfl (by omega)];rfl) (by rw [ze2,zsO]) (by rw [zct,hlw]) (fun x hx=>by simp only [pl,List.mem_map] at hx;obtain⟨y,_,rfl⟩:=hx;rfl) hs) ?_
            obtain⟨Z,hZ⟩ : ∃ Z,Z=((W.set (H.n+8) (.vec (cl (yu 6 zG) ls4))).set (H.n+8) .dead).set (H.n+6) (.cells [.p (.sl false 7 (pl rnd (rN S))),.vr (H.n+7) (29+S.length) 1,.p (.sl false 1 (pl (yu 6 zG) ls4))]):=⟨_,rfl⟩
            have hZe:Z.f (H.n+6)=some (.cells [.p (.sl false 7 (pl rnd (rN S))),.vr (H.n+7) (29+S.length) 1,.p (.sl false 1 (pl (yu 6 zG) ls4))]):=by rw [hZ,zo rfl (by rw [n_set',n_set'];omega)]
            have hZlo : ∀ b,b < H.n+3 → Z.f b=X.f b:=fun b hb=>by
             rw [hZ,f_set_ne' (by omega),f_set_ne' (by omega),f_set_ne' (by omega),hlo2 b (by omega),hYf b hb]
            have hZn:H.n+9≤Z.n:=by rw [hZ,n_set',n_set',n_set',hn2];omega
            show ARun _ _ _ (((W.set (H.n+8) (.vec (cl (yu 6 zG) ls4))).set (H.n+8) .dead).set (H.n+6) (.cells [.p (.sl false 7 (pl rnd (rN S))),.vr (H.n+7) (29+S.length) 1,.p (.sl false 1 (pl (yu 6 zG) ls4))])) _
            rw [←hZ]
            clear hZ
            have qX:=(hZlo (H.n+1) (by omega)).trans hX1
            have hbel:Bel H.n Z:=fun b x hb hx=>hXb b x hb (by rw [←hZlo b (by omega)];exact hx)
            have hend:(Z.trunc H.n).f=H.f:=funext fun b=>by
             rw [Hp.f_trunc]
             split
             · exact (hZlo b (by omega)).trans (hXl b (by omega))
             · exact (H.wf b (by omega)).symm
            refine .qt rfl ?_;simp (disch:=first|exact zb|fail) only [go_sem,seval];refine .q ?_;refine .loopE [2,7,9,11] (fun i=>[(19,.p (i64 i))]) (fun i=>[]) (fun i => ∀ j,j < i → decide (64 < (nth ls4 j).length)=false) (0) (d) (by omega) ?_ (by first | rfl | (simp (disch:=first|exact zb|fail) only [go_sem,seval,e2,e7,e9,e11]<;>rfl)) ?_ ?_ ?_
            · simp (disch:=first|exact zb|fail) only [go_sem,seval,e2,e7,e9,e11]<;>(repeat' (first | rfl | refine And.intro ?_ ?_))
            rotate_left 1
            intro env A hQ;simp (disch:=first|exact zb|fail) only [go_sem,seval,e2,e7,e9,e11] at A
            rotate_left 1
            intro i env hi0 hi A hQ ihA;simp (disch:=first|exact zb|fail) only [go_sem,seval,e2,e7,e9,e11] at A
            rotate_left 1
            · exact fun j hj=>absurd hj (by omega)
            · have hbg:zig ls4=false:=by
               unfold zig;rw [List.any_eq_false];intro x hx
               obtain⟨j,hj,rfl⟩:=List.getElem_of_mem hx
               have:=hQ j (by omega)
               rw [zg hj] at this;rw [this];decide
              rw [hbg];refine .qt rfl ?_;simp (disch:=first|exact zb|fail) only [go_sem,seval,A];refine .qF rfl ?_;have hln:(pl nI a).length=a.length:=zct;refine .q ?_;refine .open [8] follows (by kernel_rfl) ?_;simp (disch:=first|exact zb|fail) only [go_sem,seval,A,e2,e7,e11,hZe,qX];refine CallD.still (fun R h=>zbN _ R h) ?_;simp (disch:=first|exact zb|fail) only [go_sem,seval,A,e2,e7,e11,hZe,qX];refine .qr rfl Tryz.func11 (by rw [Tryz.results11]) (hx:=by simp (disch:=first|exact zb|fail) only [go_sem,seval,A,e2];rfl) ?_;simp (disch:=first|exact zb|fail) only [go_sem,seval,A,e2]
              exact⟨hend,rfl⟩
            · have hbx:64 < (nth ls4 i).length → zig ls4=true:=fun e=>List.any_eq_true.2 ⟨_,List.getElem_mem (by omega:i < ls4.length),by rw [←zg (by omega)];exact decide_eq_true e⟩
              refine .qt rfl ?_;simp (disch:=first|exact zb|fail) only [go_sem,seval,A];refine .qT rfl ?_;refine .qt rfl ?_;simp (disch:=first|exact zb|fail) only [go_sem,seval,A,hZe,hlw]
              rcases Classical.em (64 < (nth ls4 i).length) with hb | hb
              · rw [hbx hb];refine .qT rfl ?_;refine .qt rfl ?_;simp (disch:=first|exact zb|fail) only [go_sem,seval,A,qX];refine .qr rfl Tryz.func11 (by rw [Tryz.results11]) (hx:=by simp (disch:=first|exact zb|fail) only [go_sem,seval,A,e2];rfl) ?_;simp (disch:=first|exact zb|fail) only [go_sem,seval,A,e2]
                exact⟨hend,rfl⟩
              · refine .qF rfl ?_;refine .skip ?_;refine .qt rfl ?_;simp (disch:=first|exact zb|fail) only [go_sem,seval,A]
                first | (refine ihA _ _ ?_ (fun j hj=>by by_cases e:j=i;(subst e;exact decide_eq_false hb);exact hQ j (by omega)) ?_) | (refine .z rfl ?_;refine ihA _ _ ?_ (fun j hj=>by by_cases e:j=i;(subst e;exact decide_eq_false hb);exact hQ j (by omega)) ?_) | (refine .z rfl ?_;refine .z rfl ?_;refine ihA _ _ ?_ (fun j hj=>by by_cases e:j=i;(subst e;exact decide_eq_false hb);exact hQ j (by omega)) ?_) | (refine .z rfl ?_;refine .z rfl ?_;refine .z rfl ?_;refine ihA _ _ ?_ (fun j hj=>by by_cases e:j=i;(subst e;exact decide_eq_false hb);exact hQ j (by omega)) ?_)
                · simp (disch:=first|exact zb|fail) only [go_sem,seval,A,e2,e7,e9,e11]<;>(repeat' (first | rfl | refine And.intro ?_ ?_))
                · first | rfl | (simp (disch:=first|exact zb|fail) only [go_sem,seval,A,e2,e7,e9,e11]<;>(try rfl))
          · rintro i env W hi0 hi ⟨e2,e7,e8,e9,e11,e16,e17,hL2,hrow,hn2,hlo2,hO2,hV2⟩ ih
            have hlq:=hlm i;have hnx:yn S d o ⟨[],List.replicate d []⟩ (i+1)=((yn S d o ⟨[],List.replicate d []⟩ i).1++[nth (nth (need S d (nth o i) (yn S d o ⟨[],List.replicate d []⟩ i).2).2.ls (d - 1)) (need S d (nth o i) (yn S d o ⟨[],List.replicate d []⟩ i).2).1],(need S d (nth o i) (yn S d o ⟨[],List.replicate d []⟩ i).2).2):=rfl
            generalize yn S d o ⟨[],List.replicate d []⟩ i=q2 at *
            have hlv:lev S (nth o i)≤d:=by rw [←hd];exact zbu (by rw [zg hi];exact List.getElem_mem hi)
            obtain⟨v1,v2⟩:=zaA hYB.wf d (nth o i) q2.2 hV2 (Nat.le_refl _) (hon i hi)
            obtain⟨w1,w2,w3,w4,w5⟩:=zbg hYB.wf hC.fv zcx d (nth o i) q2.2 hO2 (Nat.le_refl _) (hon i hi) hlv
            refine .qt rfl ?_;simp (disch:=first|exact zb|fail) only [go_sem,seval,e8,e17];refine .qT rfl ?_;refine .qt rfl ?_;simp (disch:=first|exact zb|fail) only [go_sem,seval,e8,e9,e11,e17,zm6,zz7];refine CallK.ex (zql hYB.wf hC (by omega) hdm hdp d (nth o i) q2.2 W hL2 hO2 hV2 (Nat.le_refl _) (hon i hi) hlv) ?_
            rintro _ W2 ⟨rfl,hL3,hN3,hn3⟩
            have hrow3:=(hN3.f V.n (by omega) (by omega) (fun i hi=>by omega) (by omega)).trans hrow
            have hlo3 : ∀ b,b < H.n+6 → W2.f b=Y.f b:=fun b hb=>(hN3.f b (by omega) (by omega) (fun i hi=>by omega) (by omega)).trans (hlo2 b hb)
            generalize need S d (nth o i) q2.2=z at *
            rw [zft,if_neg (by omega)] at w3;have htk:(zar J.n z.2.ls d)[d - 1]? = some (.sl (J.n+(d - 1)) (nth z.2.ls (d - 1)).length 6 (pl zG (nth z.2.ls (d - 1)))):=zam (by omega);have hwl:(zar J.n z.2.ls d).length=d:=zan;have hzl:=v1.le (d - 1)
            have hsub:(d:Int) - 1=((d - 1:Nat):Int):=by omega
            have happ:pl zG q2.1++[zG (nth (nth z.2.ls (d - 1)) z.1)]=pl zG (q2.1++[nth (nth z.2.ls (d - 1)) z.1]):=by rw [←ye];rfl
            simp (disch:=first|exact zb|fail) only [go_sem,seval];refine .qt rfl ?_;simp (disch:=first|exact zb|fail) only [go_sem,seval,e9,e11,e16,hL3.em,hL3.lay,htk,hwl,hsub,hrow3,happ,hlq];refine .qt rfl ?_;simp (disch:=first|exact zb|fail) only [go_sem,seval,e17];refine ih _ _ ⟨?_,?_,?_,?_,?_,?_,?_,?_⟩
            · simp (disch:=first|exact zb|fail) only [go_sem,seval,e2]
            · simp (disch:=first|exact zb|fail) only [go_sem,seval,e7]
            · simp (disch:=first|exact zb|fail) only [go_sem,seval,e8]
            · simp (disch:=first|exact zb|fail) only [go_sem,seval,e9]
            · simp (disch:=first|exact zb|fail) only [go_sem,seval,e11]
            · rw [hnx];simp (disch:=first|exact zb|fail) only [go_sem,seval]
            · simp (disch:=first|exact zb|fail) only [go_sem,seval]
            · rw [hnx]
              exact⟨hL3.set _ (by omega) (by omega),zo rfl (by omega),by rw [n_set',hn3,hn2],fun b hb=>by rw [f_set_ne' (by omega)];exact hlo3 b hb,w1,v1⟩
        · rintro k env J hk0 hkd ⟨e2,e7,e8,e9,e11,e15,hJ⟩ ih
          have hJn:=hJ.n;have le:=Hp.lt hJ.em;have ll:=Hp.lt hJ.lay
          have hrep:cl (PV.sl true 6) (List.replicate k [])++[.p (.sl true 6 [])]=cl (PV.sl true 6) (List.replicate (k+1) []):=by rw [List.replicate_succ'];simp [cl]
          have hrl2:(cl (PV.sl true 6) (List.replicate k [])).length=k:=by rw [zcu,List.length_replicate]
          have hbo:Tryz.prog.bytesOf 70=24:=by kernel_rfl
          refine .qt rfl ?_;simp (disch:=first|exact zb|fail) only [go_sem,seval,e9,e15];refine .qT rfl ?_;refine .q ?_;refine .cutOps 6 ?_;simp (disch:=first|exact zb|fail) only [go_sem,seval,e11,hJ.em,List.take_succ_cons,List.take_zero,List.drop_succ_cons,List.drop_zero];refine AOps.buildRow (cs:=[.p (.sl true 6 [])]) (n:=1) (sz:=1) (by simp (disch:=first|exact zb|fail) only [go_sem,seval,yx,zaa]<;>rfl) (by rfl) ?_;have kz:(J.new (.cells [.p (.sl true 6 [])])).f J.n=some (.cells [.p (.sl true 6 [])]):=zm rfl
          have kA:((J.new (.cells [.p (.sl true 6 [])])).f (H.n+8)).bind AB.vec? = some (cl (PV.sl true 6) (List.replicate k [])):=by rw [zc (by omega),hJ.lay];rfl
          refine AOps.appRow (b:=H.n+8) (len:=k) (sz:=1) (n:=1) (b2:=J.n) (cs:=cl (PV.sl true 6) (List.replicate k [])) (zs:=[.p (.sl true 6 [])]) (by simp (disch:=first|exact zb|fail) only [go_sem,seval]) (by simp (disch:=first|exact zb|fail) only [go_sem,seval]) Tryz.underlying30 Tryz.underlying30 kz kA ⟨rfl,by decide,by rw [hrl2];omega,rfl,by decide,by show 0 < Tryz.prog.bytesOf 70;rw [hbo];decide,by show _*Tryz.prog.bytesOf 70≤_;rw [hbo];omega⟩ rfl rfl ?_;rw [hrep];refine AOps.run ?_
          obtain⟨Z,hZ⟩ : ∃ Z,Z=(J.new (.cells [.p (.sl true 6 [])])).set (H.n+8) (.vec (cl (PV.sl true 6) (List.replicate (k+1) []))):=⟨_,rfl⟩
          have zn:Z.n=J.n+1:=by rw [hZ,n_set',n_new']
          have je:Z.f (H.n+6)=some (.cells [.p (.sl false 7 (pl rnd (rN S))),.vr (H.n+7) (29+S.length) 1,.vr (H.n+8) k 1]):=by rw [hZ,f_set_ne' (by omega),zc (by omega)];exact hJ.em
          have jl:Z.f (H.n+8)=some (.vec (cl (PV.sl true 6) (List.replicate (k+1) []))):=by rw [hZ];exact zo rfl (by rw [n_new'];omega)
          have jo : ∀ b,b < K.n → b≠H.n+6 → b≠H.n+8 → Z.f b=K.f b:=fun b h1 h2 h3=>by rw [hZ,f_set_ne' h3,zc (by omega)];exact hJ.low b h1 h2 h3
          rw [←hZ]
          clear hZ
          simp (disch:=first|exact zb|fail) only [go_sem,seval,e11,je];refine .qt rfl ?_;simp (disch:=first|exact zb|fail) only [go_sem,seval,e15];refine ih _ _ ⟨?_,?_,?_,?_,?_,?_,⟨?_,?_,?_,fun b h1 h2 h3 => ?_⟩⟩
          · simp (disch:=first|exact zb|fail) only [go_sem,seval,e2]
          · simp (disch:=first|exact zb|fail) only [go_sem,seval,e7]
          · simp (disch:=first|exact zb|fail) only [go_sem,seval,e8]
          · simp (disch:=first|exact zb|fail) only [go_sem,seval,e9]
          · simp (disch:=first|exact zb|fail) only [go_sem,seval,e11]
          · simp (disch:=first|exact zb|fail) only [go_sem,seval]
          · rw [zo rfl (by omega)]
          · rw [f_set_ne' (by omega)];exact jl
          · rw [n_set',zn,hJn];omega
          · rw [f_set_ne' h2];exact jo b h1 h2 h3
      · rintro i env K hi0 hi ⟨e2,e6,e7,e8,e9,e11,e12,hI⟩ ihO
        have hb3:=(hI.low (H.n+3) (by omega)).trans hy3;refine .qt rfl ?_;simp (disch:=first|exact zb|fail) only [go_sem,seval,e6,e12,hb3,hrl];refine .qT rfl ?_;refine .qt rfl ?_;simp (disch:=first|exact zb|fail) only [go_sem,seval];refine .q ?_;refine .vec 13 (by simp (disch:=first|exact zb|fail) only [go_sem,seval];rfl) ?_;(try simp (disch:=first|exact zb|fail) only [go_sem,seval]);refine .qt rfl ?_;simp (disch:=first|exact zb|fail) only [go_sem,seval];refine .q ?_;refine .loopH [2,6,7,8,9,11,12] (fun k=>[(13,.vr K.n k 1),(14,.p (i64 k))]) (fun k=>K.new (.vec (cl i64 (List.replicate k (-1))))) (fun k=>True) (0) (d+1) (by omega) ?_ (by first | rfl | (simp (disch:=first|exact zb|fail) only [go_sem,seval,e2,e6,e7,e8,e9,e11,e12]<;>rfl)) ?_ ?_ ?_
        · simp (disch:=first|exact zb|fail) only [go_sem,seval,e2,e6,e7,e8,e9,e11,e12]<;>(repeat' (first | rfl | refine And.intro ?_ ?_))
        · exact trivial
        intro env A hQ;simp (disch:=first|exact zb|fail) only [go_sem,seval,e2,e6,e7,e8,e9,e11,e12] at A
        rotate_left 1
        intro k env hk0 hk A hQ ihA;simp (disch:=first|exact zb|fail) only [go_sem,seval,e2,e6,e7,e8,e9,e11,e12] at A
        rotate_left 1
        · refine .qt rfl ?_;simp (disch:=first|exact zb|fail) only [go_sem,seval,A];refine .qF rfl ?_
          have ke:(K.new (.vec (cl i64 (List.replicate (d+1) (-1))))).f (H.n+6)=some (.cells [.p (.sl false 7 (pl rnd (rN S))),.vr (H.n+7) i 1,.vr (H.n+8) 0 1]):=by rw [zc (by rw [hI.n];omega)];exact hI.em
          have ka:(K.new (.vec (cl i64 (List.replicate (d+1) (-1))))).f (H.n+7)=some (.vec (ym (fun j => .vr (H.n+9+2*j) (d+1) 1) i)):=by rw [zc (by rw [hI.n];omega)];exact hI.ats
          have hpv:pvs? [AV.vr K.n (d+1) 1]=none:=rfl;have hcc:zaa [AV.vr K.n (d+1) 1]=some [AV.vr K.n (d+1) 1]:=rfl;have hoa:Option.any (fun a:List AV=>a.length == 1) (some [AV.vr K.n (d+1) 1])=true:=rfl;refine .q ?_;refine .cutOps 7 ?_;simp (disch:=first|exact zb|fail) only [go_sem,seval,A,e11,ke,hpv,hcc,hoa,List.take_succ_cons,List.take_zero,List.drop_succ_cons,List.drop_zero]
          have hbo:Tryz.prog.bytesOf 94=24:=by kernel_rfl
          have kz:((K.new (.vec (cl i64 (List.replicate (d+1) (-1))))).new (.cells [.vr K.n (d+1) 1])).f (K.n+1)=some (.cells [.vr K.n (d+1) 1]):=by simp (disch:=first|exact zb|fail) only [go_sem,seval]
          have kA:(((K.new (.vec (cl i64 (List.replicate (d+1) (-1))))).new (.cells [.vr K.n (d+1) 1])).f (H.n+7)).bind AB.vec? = some (ym (fun j => .vr (H.n+9+2*j) (d+1) 1) i):=by
           rw [zc (by rw [n_new',hI.n];omega),ka];rfl
          refine AOps.appRow (b:=H.n+7) (len:=i) (sz:=1) (n:=1) (b2:=K.n+1) (cs:=ym (fun j => .vr (H.n+9+2*j) (d+1) 1) i) (zs:=[.vr K.n (d+1) 1]) (by simp (disch:=first|exact zb|fail) only [go_sem,seval]) (by simp (disch:=first|exact zb|fail) only [go_sem,seval]) Tryz.underlying102 Tryz.underlying102 kz kA ⟨rfl,by decide,by rw [zan];omega,rfl,by decide,by show 0 < Tryz.prog.bytesOf 94;rw [hbo];decide,by show _*Tryz.prog.bytesOf 94≤_;rw [hbo];omega⟩ rfl rfl ?_;refine AOps.run ?_
          obtain⟨Z,hZ⟩ : ∃ Z,Z=((K.new (.vec (cl i64 (List.replicate (d+1) (-1))))).new (.cells [.vr K.n (d+1) 1])).set (H.n+7) (.vec (ym (fun j=>AV.vr (H.n+9+2*j) (d+1) 1) i++[AV.vr K.n (d+1) 1])):=⟨_,rfl⟩
          have zn:Z.n=K.n+2:=by rw [hZ];simp only [n_set',n_new']
          have zl : ∀ b,b < K.n → b≠H.n+7 → Z.f b=K.f b:=fun b h1 h2=>by rw [hZ,f_set_ne' h2,zc (by rw [n_new'];omega),zc (by omega)]
          have zk:Z.f K.n=some (.vec (cl i64 (List.replicate (d+1) (-1)))):=by rw [hZ,f_set_ne' (by rw [hI.n];omega),zc (by rw [n_new'];omega),zm rfl]
          have za:Z.f (H.n+7)=some (.vec (ym (fun j=>AV.vr (H.n+9+2*j) (d+1) 1) i++[AV.vr K.n (d+1) 1])):=by rw [hZ,zo rfl (by simp only [n_new'];rw [hI.n];omega)]
          rw [←hZ];have ze:=(zl (H.n+6) (by rw [hI.n];omega) (by omega)).trans hI.em;have zy:=(zl (H.n+8) (by rw [hI.n];omega) (by omega)).trans hI.lay;have hIn:=hI.n
          have hI2:RI (Z.set (H.n+6) (.cells [.p (.sl false 7 (pl rnd (rN S))),.vr (H.n+7) (i+1) 1,.vr (H.n+8) 0 1])) Y S H.n d (i+1):=by
           refine⟨?_,?_,fun j hj => ?_,?_,?_,fun b hb => ?_⟩
           · rw [zo rfl (by omega)]
           · rw [f_set_ne' (by omega),za,hIn]
             congr 2
             unfold ym;rw [List.range_succ,List.map_append];rfl
           · rw [f_set_ne' (by omega)];by_cases e:j=i
             · subst e;rw [←hIn];exact zk
             · rw [zl _ (by omega) (by omega)];exact hI.rows j (by omega)
           · rw [f_set_ne' (by omega)];exact zy
           · rw [n_set',zn,hIn];omega
           · rw [f_set_ne' (by omega),zl _ (by omega) (by omega)];exact hI.low b hb
          clear hZ
          simp (disch:=first|exact zb|fail) only [go_sem,seval,A,ze];refine .qt rfl ?_;simp (disch:=first|exact zb|fail) only [go_sem,seval,A];refine ihO _ _ ⟨?_,?_,?_,?_,?_,?_,?_,hI2⟩<;>simp (disch:=first|exact zb|fail) only [go_sem,seval,A,e2,e6,e7,e8,e9,e11]
        · have hrep:cl i64 (List.replicate k (-1))++[.p (i64 (-1))]=cl i64 (List.replicate (k+1) (-1)):=by rw [List.replicate_succ'];simp [cl]
          have hrl2:(cl i64 (List.replicate k (-1))).length=k:=by rw [zcu,List.length_replicate]
          refine .qt rfl ?_;simp (disch:=first|exact zb|fail) only [go_sem,seval,A];refine .qT rfl ?_;refine .qt rfl ?_;simp (disch:=first|exact zb|fail) only [go_sem,seval,A,hrl2,hrep];refine .qt rfl ?_;simp (disch:=first|exact zb|fail) only [go_sem,seval,A]
          first | (refine ihA _ _ ?_ trivial ?_) | (refine .z rfl ?_;refine ihA _ _ ?_ trivial ?_) | (refine .z rfl ?_;refine .z rfl ?_;refine ihA _ _ ?_ trivial ?_) | (refine .z rfl ?_;refine .z rfl ?_;refine .z rfl ?_;refine ihA _ _ ?_ trivial ?_)
          · simp (disch:=first|exact zb|fail) only [go_sem,seval,A,e2,e6,e7,e8,e9,e11,e12]<;>(repeat' (first | rfl | refine And.intro ?_ ?_))
          · first | rfl | (simp (disch:=first|exact zb|fail) only [go_sem,seval,A,e2,e6,e7,e8,e9,e11,e12]<;>(try rfl))
    · have hx:=hon i hi;have hlv:=zry hx
      have hn1:depth S (o.take (i+1))=max (depth S (o.take i)) (lev S (nth o i)):=by rw [take_snoc hi,zeK]
      have h1:=hdl i;have h2:=hle i hi
      have hmx:max (depth S (o.take i):Int) (lev S (nth o i):Int)=((max (depth S (o.take i)) (lev S (nth o i)):Nat):Int):=by omega
      refine .qt rfl ?_;simp (disch:=first|exact zb|fail) only [go_sem,seval,E];refine .qT rfl ?_;refine .q ?_;refine .open [] follows (by kernel_rfl) ?_;simp (disch:=first|exact zb|fail) only [go_sem,seval,E,hy3,hrl,hlv,hmx,zm6,zz7];refine .qt rfl ?_;simp (disch:=first|exact zb|fail) only [go_sem,seval,E]
      first | (refine ihE _ _ ?_ trivial ?_) | (refine .z rfl ?_;refine ihE _ _ ?_ trivial ?_) | (refine .z rfl ?_;refine .z rfl ?_;refine ihE _ _ ?_ trivial ?_) | (refine .z rfl ?_;refine .z rfl ?_;refine .z rfl ?_;refine ihE _ _ ?_ trivial ?_)
      · simp (disch:=first|exact zb|fail) only [go_sem,seval,E,hn1]<;>(repeat' (first | rfl | refine And.intro ?_ ?_))
      · first | rfl | (simp (disch:=first|exact zb|fail) only [go_sem,seval,E,hn1]<;>(try rfl))
  · have hc:zK q=(⟨0,[],0⟩,y7 q):=by rw [zK,if_neg he]
    rw [hc];refine .qt rfl ?_;simp (disch:=first|exact zb|fail) only [go_sem,seval];refine .q ?_;refine .ifT (by simp (disch:=first|exact zb|fail) only [go_sem,seval,he]) ?_;refine .qt rfl ?_;simp (disch:=first|exact zb|fail) only [go_sem,seval];refine .qr rfl Tryz.func11 (by rw [Tryz.results11]) ?_;simp (disch:=first|exact zb|fail) only [go_sem,seval]
end walks
end Go.Proofs.YthaoifcebimkfaaGreatDoor

namespace Go.Proofs.YthaoifcebimkfaaGreatDoor
open Go Go.AL

section walks
variable {G:Globs}
set_option maxHeartbeats 8000000 in
set_option maxRecDepth 20000 in
theorem zc5 (a:Circ) (hl:a.layers.length≤1000000) (hx : ∀ x∈a.layers,x.length≤1000000 ∧ ∀ g∈x,okG g) (H:Hp) (R:AV → Hp → Prop) (h:R (.p (bo true)) H):ACall Tryz.prog G 12 [.p (zcv a),.p (zcv a)] H R:=by
 refine ACall.of_run (raw:=[]) Tryz.func12 rfl Tryz.ntmps12 (by simp) fun hbel => ?_
 refine .qt rfl ?_;simp (disch:=first|exact zb|fail) only [go_sem,seval];refine .qt rfl ?_;simp (disch:=first|exact zb|fail) only [go_sem,seval];refine .qF rfl ?_;refine .skip ?_;refine .qt rfl ?_;simp (disch:=first|exact zb|fail) only [go_sem,seval]
 refine .q ?_;first | refine .loopF0 [2,3] (fun i=>[(5,.p (i64 i))]) (fun i=>True) (0) (a.layers.length) (by omega) ?_ ?_ ?_ ?_ | refine .loopF [2,3] (fun i=>[(5,.p (i64 i))]) (fun _=>[]) (fun i=>True) (0) (a.layers.length) (by omega) ?_ (by rfl) ?_ ?_ ?_
 · simp (disch:=first|exact zb|fail) only [go_sem,seval]<;>(repeat' (first | rfl | refine And.intro ?_ ?_))
 · exact trivial
 intro env T A hQ;simp (disch:=first|exact zb|fail) only [go_sem,seval] at A
 rotate_left 1
 intro i env T hi0 hi A hQ ihA;simp (disch:=first|exact zb|fail) only [go_sem,seval] at A
 rotate_left 1
 · refine .qt rfl ?_;simp (disch:=first|exact zb|fail) only [go_sem,seval,A];refine .qF rfl ?_;refine .qt rfl ?_;simp (disch:=first|exact zb|fail) only [go_sem,seval,A];refine .qr rfl Tryz.func12 (by rw [Tryz.results12]) (hx:=by simp (disch:=first|exact zb|fail) only [go_sem,seval,A];rfl) ?_;simp (disch:=first|exact zb|fail) only [go_sem,seval,A];exact h
 · obtain⟨h1,h2⟩:=hx (nth a.layers i) (by rw [zg hi];exact List.getElem_mem hi)
   refine .qt rfl ?_;simp (disch:=first|exact zb|fail) only [go_sem,seval,A];refine .qT rfl ?_;refine .q ?_;refine .open [] follows (by kernel_rfl) ?_;simp (disch:=first|exact zb|fail) only [go_sem,seval,A,zaq];refine .qF rfl ?_;refine .skip ?_;refine .qt rfl ?_;simp (disch:=first|exact zb|fail) only [go_sem,seval,A]
   refine .q ?_;first | refine .loopF0 [2,3,5] (fun k=>[(6,.p (i64 k))]) (fun k=>True) (0) ((nth a.layers i).length) (by omega) ?_ ?_ ?_ ?_ | refine .loopF [2,3,5] (fun k=>[(6,.p (i64 k))]) (fun _=>[]) (fun k=>True) (0) ((nth a.layers i).length) (by omega) ?_ (by rfl) ?_ ?_ ?_
   · simp (disch:=first|exact zb|fail) only [go_sem,seval,A]<;>(repeat' (first | rfl | refine And.intro ?_ ?_))
   · exact trivial
   intro env T B hQ;simp (disch:=first|exact zb|fail) only [go_sem,seval,A] at B
   rotate_left 1
   intro k env T hk0 hk B hQ ihB;simp (disch:=first|exact zb|fail) only [go_sem,seval,A] at B
   rotate_left 1
   · refine .qt rfl ?_;simp (disch:=first|exact zb|fail) only [go_sem,seval,B,A,zaq];refine .qF rfl ?_;refine .qt rfl ?_;simp (disch:=first|exact zb|fail) only [go_sem,seval,B,A]
     first | (refine ihA _ _ ?_ trivial ?_) | (refine .z rfl ?_;refine ihA _ _ ?_ trivial ?_) | (refine .z rfl ?_;refine .z rfl ?_;refine ihA _ _ ?_ trivial ?_) | (refine .z rfl ?_;refine .z rfl ?_;refine .z rfl ?_;refine ihA _ _ ?_ trivial ?_)
     · simp (disch:=first|exact zb|fail) only [go_sem,seval,B,A]<;>(repeat' (first | rfl | refine And.intro ?_ ?_))
     · first | exact .mk _ rfl | exact .mk [] rfl | (apply Later.mk;simp (disch:=first|exact zb|fail) only [go_sem,seval,zv,B,A];exact rfl) | (apply Later.mk;simp (disch:=first|exact zb|fail) only [go_sem,seval,zv,yq,List.append_assoc,B,A]<;>(try rfl))
   · have hg:=h2 (nth (nth a.layers i) k) (by rw [zg hk];exact List.getElem_mem hk);have heq:=(zj1 hg hg).2;rw [decide_eq_true rfl] at heq;refine .qt rfl ?_;simp (disch:=first|exact zb|fail) only [go_sem,seval,B,A,zaq];refine .qT rfl ?_;refine .q ?_;refine .open [] follows (by kernel_rfl) ?_;simp (disch:=first|exact zb|fail) only [go_sem,seval,B,A,zaq,heq];refine .qF rfl ?_;refine .skip ?_;refine .qt rfl ?_;simp (disch:=first|exact zb|fail) only [go_sem,seval,B,A]
     first | (refine ihB _ _ ?_ trivial ?_) | (refine .z rfl ?_;refine ihB _ _ ?_ trivial ?_) | (refine .z rfl ?_;refine .z rfl ?_;refine ihB _ _ ?_ trivial ?_) | (refine .z rfl ?_;refine .z rfl ?_;refine .z rfl ?_;refine ihB _ _ ?_ trivial ?_)
     · simp (disch:=first|exact zb|fail) only [go_sem,seval,B,A]<;>(repeat' (first | rfl | refine And.intro ?_ ?_))
     · first | exact .mk _ rfl | exact .mk [] rfl | (apply Later.mk;simp (disch:=first|exact zb|fail) only [go_sem,seval,zv,B,A];exact rfl) | (apply Later.mk;simp (disch:=first|exact zb|fail) only [go_sem,seval,zv,yq,List.append_assoc,B,A]<;>(try rfl))
set_option maxHeartbeats 8000000 in
theorem zhM (l:List Int) (hl:l.length≤1000000) (H:Hp) (R:AV → Hp → Prop) (h:R (.p (bo true)) H):ACall Tryz.prog G 20 [.p (.sl false 1 (pl i64 l)),.p (.sl false 1 (pl i64 l))] H R:=by
 refine ACall.of_run (raw:=[]) Tryz.func20 rfl Tryz.ntmps20 (by simp) fun hbel => ?_
 refine .qt rfl ?_;simp (disch:=first|exact zb|fail) only [go_sem,seval];refine .qt rfl ?_;simp (disch:=first|exact zb|fail) only [go_sem,seval];refine .qF rfl ?_;refine .skip ?_;refine .qt rfl ?_;simp (disch:=first|exact zb|fail) only [go_sem,seval]
 refine .q ?_;first | refine .loopF0 [0,1] (fun i=>[(5,.p (i64 i))]) (fun i=>True) (0) (l.length) (by omega) ?_ ?_ ?_ ?_ | refine .loopF [0,1] (fun i=>[(5,.p (i64 i))]) (fun _=>[]) (fun i=>True) (0) (l.length) (by omega) ?_ (by rfl) ?_ ?_ ?_
 · simp (disch:=first|exact zb|fail) only [go_sem,seval]<;>(repeat' (first | rfl | refine And.intro ?_ ?_))
 · exact trivial
 intro env T A hQ;simp (disch:=first|exact zb|fail) only [go_sem,seval] at A
 rotate_left 1
 intro i env T hi0 hi A hQ ihA;simp (disch:=first|exact zb|fail) only [go_sem,seval] at A
 rotate_left 1
 · refine .qt rfl ?_;simp (disch:=first|exact zb|fail) only [go_sem,seval,A];refine .qF rfl ?_;refine .qt rfl ?_;simp (disch:=first|exact zb|fail) only [go_sem,seval,A];refine .qr rfl Tryz.func20 (by rw [Tryz.results20]) (hx:=by simp (disch:=first|exact zb|fail) only [go_sem,seval,A];rfl) ?_;simp (disch:=first|exact zb|fail) only [go_sem,seval,A];exact h
 · refine .qt rfl ?_;simp (disch:=first|exact zb|fail) only [go_sem,seval,A];refine .qT rfl ?_;refine .q ?_;refine .open [] follows (by kernel_rfl) ?_;simp (disch:=first|exact zb|fail) only [go_sem,seval,A];refine .qF rfl ?_;refine .skip ?_;refine .qt rfl ?_;simp (disch:=first|exact zb|fail) only [go_sem,seval,A]
   first | (refine ihA _ _ ?_ trivial ?_) | (refine .z rfl ?_;refine ihA _ _ ?_ trivial ?_) | (refine .z rfl ?_;refine .z rfl ?_;refine ihA _ _ ?_ trivial ?_) | (refine .z rfl ?_;refine .z rfl ?_;refine .z rfl ?_;refine ihA _ _ ?_ trivial ?_)
   · simp (disch:=first|exact zb|fail) only [go_sem,seval,A]<;>(repeat' (first | rfl | refine And.intro ?_ ?_))
   · first | exact .mk _ rfl | exact .mk [] rfl | (apply Later.mk;simp (disch:=first|exact zb|fail) only [go_sem,seval,zv,A];exact rfl) | (apply Later.mk;simp (disch:=first|exact zb|fail) only [go_sem,seval,zv,yq,List.append_assoc,A]<;>(try rfl))
set_option maxHeartbeats 8000000 in
set_option maxRecDepth 20000 in
theorem zqo (a b:List (List U)) (hl:a.length≤1000000) (hx : ∀ x∈a,x.length≤1000000) (H:Hp) (R:AV → Hp → Prop) (h:R (.p (bo (decide (a=b)))) H):ACall Tryz.prog G 19 [.p (.sl false 1 (pl (yu 1 zh) a)),.p (.sl false 1 (pl (yu 1 zh) b))] H R:=by
 refine ACall.of_run (raw:=[]) Tryz.func19 rfl Tryz.ntmps19 (by simp) fun hbel => ?_
 have hno:a≠b → R (.p (bo false)) H:=fun e=>by rwa [decide_eq_false e] at h
 refine .qt rfl ?_;simp (disch:=first|exact zb|fail) only [go_sem,seval]
 rcases Classical.em (a.length=b.length) with e0 | e0
 · refine .qt rfl ?_;simp (disch:=first|exact zb|fail) only [go_sem,seval];refine .qF rfl ?_;refine .skip ?_;refine .qt rfl ?_;simp (disch:=first|exact zb|fail) only [go_sem,seval]
   refine .q ?_;first | refine .loopF0 [0,1] (fun i=>[(5,.p (i64 i))]) (fun i => ∀ j,j < i → nth a j=nth b j) (0) (a.length) (by omega) ?_ ?_ ?_ ?_ | refine .loopF [0,1] (fun i=>[(5,.p (i64 i))]) (fun _=>[]) (fun i => ∀ j,j < i → nth a j=nth b j) (0) (a.length) (by omega) ?_ (by rfl) ?_ ?_ ?_
   · simp (disch:=first|exact zb|fail) only [go_sem,seval]<;>(repeat' (first | rfl | refine And.intro ?_ ?_))
   rotate_left 1
   intro env T A hQ;simp (disch:=first|exact zb|fail) only [go_sem,seval] at A
   rotate_left 1
   intro i env T hi0 hi A hQ ihA;simp (disch:=first|exact zb|fail) only [go_sem,seval] at A
   rotate_left 1
   · exact fun j hj=>absurd hj (by omega)
   · have heq:a=b:=by
      apply List.ext_getElem e0;intro j h1 h2
      have:=hQ j h1
      rwa [zg h1,zg h2] at this
     rw [decide_eq_true heq] at h;refine .qt rfl ?_;simp (disch:=first|exact zb|fail) only [go_sem,seval,A];refine .qF rfl ?_;refine .qt rfl ?_;simp (disch:=first|exact zb|fail) only [go_sem,seval,A];refine .qr rfl Tryz.func19 (by rw [Tryz.results19]) (hx:=by simp (disch:=first|exact zb|fail) only [go_sem,seval,A];rfl) ?_;simp (disch:=first|exact zb|fail) only [go_sem,seval,A];exact h
   · have hi2:i < b.length:=by omega
     have h1:=hx (nth a i) (by rw [zg hi];exact List.getElem_mem hi)
     have hne:nth a i≠nth b i → R (.p (bo false)) H:=fun e=>hno fun e2=>e (by rw [e2])
     generalize ha:nth a i=x at *
     generalize hb:nth b i=y at *
     refine .qt rfl ?_;simp (disch:=first|exact zb|fail) only [go_sem,seval,A];refine .qT rfl ?_;have hQ0:=hQ
     have hstep:x=y → ∀ j,j < i+1 → nth a j=nth b j:=fun e j hj=>by
      by_cases e2:j=i
      · subst e2;rw [ha,hb];exact e
      · exact hQ0 j (by omega)
     rcases Classical.em (x.length=y.length) with e1 | e1
     · refine .q ?_;refine .open [] follows (by kernel_rfl) ?_;simp (disch:=first|exact zb|fail) only [go_sem,seval,A,zas,ha,hb];refine .qF rfl ?_;refine .skip ?_;refine .qt rfl ?_;simp (disch:=first|exact zb|fail) only [go_sem,seval,A]
       refine .q ?_;first | refine .loopF0 [0,1,5] (fun k=>[(6,.p (i64 k))]) (fun k => ∀ j,j < k → nth x j=nth y j) (0) (x.length) (by omega) ?_ ?_ ?_ ?_ | refine .loopF [0,1,5] (fun k=>[(6,.p (i64 k))]) (fun _=>[]) (fun k => ∀ j,j < k → nth x j=nth y j) (0) (x.length) (by omega) ?_ (by rfl) ?_ ?_ ?_
       · simp (disch:=first|exact zb|fail) only [go_sem,seval,A]<;>(repeat' (first | rfl | refine And.intro ?_ ?_))
       rotate_left 1
       intro env T B hQ;simp (disch:=first|exact zb|fail) only [go_sem,seval,A] at B
       rotate_left 1
       intro k env T hk0 hk B hQ ihB;simp (disch:=first|exact zb|fail) only [go_sem,seval,A] at B
       rotate_left 1
       · exact fun j hj=>absurd hj (by omega)
       · have heq:x=y:=by
          apply List.ext_getElem e1;intro j h1 h2
          have:=hQ j h1
          rwa [zg h1,zg h2] at this
         refine .qt rfl ?_;simp (disch:=first|exact zb|fail) only [go_sem,seval,B,A,zas,ha,hb];refine .qF rfl ?_;refine .qt rfl ?_;simp (disch:=first|exact zb|fail) only [go_sem,seval,B,A]
         first | (refine ihA _ _ ?_ (hstep heq) ?_) | (refine .z rfl ?_;refine ihA _ _ ?_ (hstep heq) ?_) | (refine .z rfl ?_;refine .z rfl ?_;refine ihA _ _ ?_ (hstep heq) ?_) | (refine .z rfl ?_;refine .z rfl ?_;refine .z rfl ?_;refine ihA _ _ ?_ (hstep heq) ?_)
         · simp (disch:=first|exact zb|fail) only [go_sem,seval,B,A]<;>(repeat' (first | rfl | refine And.intro ?_ ?_))
         · first | exact .mk _ rfl | exact .mk [] rfl | (apply Later.mk;simp (disch:=first|exact zb|fail) only [go_sem,seval,zv,B,A];exact rfl) | (apply Later.mk;simp (disch:=first|exact zb|fail) only [go_sem,seval,zv,yq,List.append_assoc,B,A]<;>(try rfl))
       · have hk2:k < y.length:=by omega
         refine .qt rfl ?_;simp (disch:=first|exact zb|fail) only [go_sem,seval,B,A,zas,ha,hb];refine .qT rfl ?_
         rcases Classical.em (nth x k=nth y k) with e2 | e2
         · have hd:(nth x k != nth y k)=false:=by rw [e2];exact bne_self_eq_false _
           refine .q ?_;refine .open [] follows (by kernel_rfl) ?_;simp (disch:=first|exact zb|fail) only [go_sem,seval,B,A,zas,ha,hb,hd];refine .qF rfl ?_;refine .skip ?_;refine .qt rfl ?_;simp (disch:=first|exact zb|fail) only [go_sem,seval,B,A]
           first | (refine ihB _ _ ?_ (fun j hj=>by by_cases e3:j=k;(subst e3;exact e2);exact hQ j (by omega)) ?_) | (refine .z rfl ?_;refine ihB _ _ ?_ (fun j hj=>by by_cases e3:j=k;(subst e3;exact e2);exact hQ j (by omega)) ?_) | (refine .z rfl ?_;refine .z rfl ?_;refine ihB _ _ ?_ (fun j hj=>by by_cases e3:j=k;(subst e3;exact e2);exact hQ j (by omega)) ?_) | (refine .z rfl ?_;refine .z rfl ?_;refine .z rfl ?_;refine ihB _ _ ?_ (fun j hj=>by by_cases e3:j=k;(subst e3;exact e2);exact hQ j (by omega)) ?_)
           · simp (disch:=first|exact zb|fail) only [go_sem,seval,B,A]<;>(repeat' (first | rfl | refine And.intro ?_ ?_))
           · first | exact .mk _ rfl | exact .mk [] rfl | (apply Later.mk;simp (disch:=first|exact zb|fail) only [go_sem,seval,zv,B,A];exact rfl) | (apply Later.mk;simp (disch:=first|exact zb|fail) only [go_sem,seval,zv,yq,List.append_assoc,B,A]<;>(try rfl))
         · have hd:(nth x k != nth y k)=true:=bne_iff_ne.2 e2;refine .q ?_;refine .open [] follows (by kernel_rfl) ?_;simp (disch:=first|exact zb|fail) only [go_sem,seval,B,A,zas,ha,hb,hd];refine .qT rfl ?_;refine .qt rfl ?_;simp (disch:=first|exact zb|fail) only [go_sem,seval,B,A];refine .qr rfl Tryz.func19 (by rw [Tryz.results19]) (hx:=by simp (disch:=first|exact zb|fail) only [go_sem,seval,B,A];rfl) ?_;simp (disch:=first|exact zb|fail) only [go_sem,seval,B,A]
           exact hne fun e3=>e2 (by rw [e3])
     · refine .q ?_;refine .open [] follows (by kernel_rfl) ?_;simp (disch:=first|exact zb|fail) only [go_sem,seval,A,zas,ha,hb];refine .qT rfl ?_;refine .qt rfl ?_;simp (disch:=first|exact zb|fail) only [go_sem,seval,A];refine .qr rfl Tryz.func19 (by rw [Tryz.results19]) (hx:=by simp (disch:=first|exact zb|fail) only [go_sem,seval,A];rfl) ?_;simp (disch:=first|exact zb|fail) only [go_sem,seval,A]
       exact hne fun e3=>e1 (by rw [e3])
 · have hn:=hno fun e=>e0 (by rw [e])
   refine .qt rfl ?_;simp (disch:=first|exact zb|fail) only [go_sem,seval];refine .qT rfl ?_;refine .qt rfl ?_;simp (disch:=first|exact zb|fail) only [go_sem,seval];refine .qr rfl Tryz.func19 (by rw [Tryz.results19]) ?_;simp (disch:=first|exact zb|fail) only [go_sem,seval];exact hn
def zkv (q:Qry):Bool:=decide (4 < q.fl.length) || decide (100000 < q.k) || q.fl.any fun l=>decide (6 < l.length)
set_option maxHeartbeats 8000000 in
theorem zhN (q:Qry) (H:Hp) (R:AV → Hp → Prop) (h:R (.p (bo (zkv q))) H):ACall Tryz.prog G 9 [.p (qry q)] H R:=by
 refine ACall.of_run (raw:=[]) Tryz.func9 rfl Tryz.ntmps9 (by simp) fun hbel => ?_
 refine .qt rfl ?_;simp (disch:=first|exact zb|fail) only [go_sem,seval]
 rcases Classical.em (4 < q.fl.length) with a1 | a1
 · have hb:zkv q=true:=by simp [zkv,a1]
   rw [hb] at h;refine .qt rfl ?_;simp (disch:=first|exact zb|fail) only [go_sem,seval];refine .qT rfl ?_;refine .qt rfl ?_;simp (disch:=first|exact zb|fail) only [go_sem,seval];refine .qr rfl Tryz.func9 (by rw [Tryz.results9]) ?_;simp (disch:=first|exact zb|fail) only [go_sem,seval];exact h
 rcases Classical.em (100000 < q.k) with a2 | a2
 · have hb:zkv q=true:=by simp [zkv,a2]
   rw [hb] at h;refine .qt rfl ?_;simp (disch:=first|exact zb|fail) only [go_sem,seval];refine .qT rfl ?_;refine .qt rfl ?_;simp (disch:=first|exact zb|fail) only [go_sem,seval];refine .qr rfl Tryz.func9 (by rw [Tryz.results9]) ?_;simp (disch:=first|exact zb|fail) only [go_sem,seval];exact h
 have hb:zkv q=q.fl.any fun l=>decide (6 < l.length):=by simp [zkv,a1,a2]
 rw [hb] at h;refine .qt rfl ?_;simp (disch:=first|exact zb|fail) only [go_sem,seval];refine .qF rfl ?_;refine .skip ?_;refine .qt rfl ?_;simp (disch:=first|exact zb|fail) only [go_sem,seval]
 refine .q ?_;first | refine .loopF0 [1] (fun i=>[(3,.p (i64 i))]) (fun i => ∀ j,j < i → decide (6 < (nth q.fl j).length)=false) (0) (q.fl.length) (by omega) ?_ ?_ ?_ ?_ | refine .loopF [1] (fun i=>[(3,.p (i64 i))]) (fun _=>[]) (fun i => ∀ j,j < i → decide (6 < (nth q.fl j).length)=false) (0) (q.fl.length) (by omega) ?_ (by rfl) ?_ ?_ ?_
 · simp (disch:=first|exact zb|fail) only [go_sem,seval]<;>(repeat' (first | rfl | refine And.intro ?_ ?_))
 rotate_left 1
 intro env T A hQ;simp (disch:=first|exact zb|fail) only [go_sem,seval] at A
 rotate_left 1
 intro i env T hi0 hi A hQ ihA;simp (disch:=first|exact zb|fail) only [go_sem,seval] at A
 rotate_left 1
 · exact fun j hj=>absurd hj (by omega)
 · have ha:(q.fl.any fun l=>decide (6 < l.length))=false:=by
    rw [List.any_eq_false];intro x hx
    obtain⟨j,hj,rfl⟩:=List.getElem_of_mem hx
    have:=hQ j hj
    rw [zg hj] at this;rw [this];decide
   rw [ha] at h;refine .qt rfl ?_;simp (disch:=first|exact zb|fail) only [go_sem,seval,A];refine .qF rfl ?_;refine .qt rfl ?_;simp (disch:=first|exact zb|fail) only [go_sem,seval,A];refine .qr rfl Tryz.func9 (by rw [Tryz.results9]) (hx:=by simp (disch:=first|exact zb|fail) only [go_sem,seval,A];rfl) ?_;simp (disch:=first|exact zb|fail) only [go_sem,seval,A];exact h
 · refine .qt rfl ?_;simp (disch:=first|exact zb|fail) only [go_sem,seval,A];refine .qT rfl ?_;refine .qt rfl ?_;simp (disch:=first|exact zb|fail) only [go_sem,seval,A,zQ]
   rcases Classical.em (6 < (nth q.fl i).length) with a3 | a3
   · have ha:(q.fl.any fun l=>decide (6 < l.length))=true:=List.any_eq_true.2 ⟨_,List.getElem_mem hi,by rw [←zg hi];exact decide_eq_true a3⟩;rw [ha] at h;refine .qT rfl ?_;refine .qt rfl ?_;simp (disch:=first|exact zb|fail) only [go_sem,seval,A];refine .qr rfl Tryz.func9 (by rw [Tryz.results9]) (hx:=by simp (disch:=first|exact zb|fail) only [go_sem,seval,A];rfl) ?_;simp (disch:=first|exact zb|fail) only [go_sem,seval,A];exact h
   · refine .qF rfl ?_;refine .skip ?_;refine .qt rfl ?_;simp (disch:=first|exact zb|fail) only [go_sem,seval,A]
     first | (refine ihA _ _ ?_ (fun j hj=>by by_cases e:j=i;(subst e;exact decide_eq_false a3);exact hQ j (by omega)) ?_) | (refine .z rfl ?_;refine ihA _ _ ?_ (fun j hj=>by by_cases e:j=i;(subst e;exact decide_eq_false a3);exact hQ j (by omega)) ?_) | (refine .z rfl ?_;refine .z rfl ?_;refine ihA _ _ ?_ (fun j hj=>by by_cases e:j=i;(subst e;exact decide_eq_false a3);exact hQ j (by omega)) ?_) | (refine .z rfl ?_;refine .z rfl ?_;refine .z rfl ?_;refine ihA _ _ ?_ (fun j hj=>by by_cases e:j=i;(subst e;exact decide_eq_false a3);exact hQ j (by omega)) ?_)
     · simp (disch:=first|exact zb|fail) only [go_sem,seval,A]<;>(repeat' (first | rfl | refine And.intro ?_ ?_))
     · first | exact .mk _ rfl | exact .mk [] rfl | (apply Later.mk;simp (disch:=first|exact zb|fail) only [go_sem,seval,zv,A];exact rfl) | (apply Later.mk;simp (disch:=first|exact zb|fail) only [go_sem,seval,zv,yq,List.append_assoc,A]<;>(try rfl))
end walks
end Go.Proofs.YthaoifcebimkfaaGreatDoor

namespace Go.Proofs.YthaoifcebimkfaaGreatDoor
open Go Go.AL

theorem zCT (v:Int):zI Tryz.prog .and 3 (.p (i64 v)) (.p (i64 3))=some (.p (i64 (v % 4))):=zat Tryz.prog 3 v 2 (by omega)
structure MI (H' H:Hp) (q:Qry) (kd c k:Int) (L:List (List Cnd)):Prop where
 q:H'.f H.n=some (.cells [.p (i64 q.kind),.p (i64 q.col),.p (i64 q.k),.p (.sl false 1 (pl yt q.fl))])
 r:H'.f (H.n+1)=some (.cells [.p (i64 0),.p (i64 0),.p (i64 0),.p (.sl true 1 [])])
 m:H'.f (H.n+2)=some (.cells [.p (i64 kd),.p (i64 c),.p (i64 k),.sl (H.n+3) L.length 1 (pl yt L)])
 t:H'.f (H.n+3)=some (.tail L.length)
 n:H.n+4≤H'.n
 low : ∀ b,b < H.n → H'.f b=H.f b
 z:H'.z=H.z
section walks
variable {G:Globs}
set_option maxHeartbeats 8000000 in
set_option maxRecDepth 20000 in
theorem zio (c:Cnd) (H:Hp) (R:AV → Hp → Prop) (h : ∀ x,vC x=true → R (.p (cnd x)) H):ACall Tryz.prog G 108 [.p (cnd c)] H R:=by
 refine ACall.of_run (raw:=[]) Tryz.func108 rfl Tryz.ntmps108 (by simp) fun hbel => ?_
 have ht:=zhK (c.col % 4).toNat
 obtain⟨m,hm⟩ : ∃ m:Nat,yQ (c.col % 4).toNat=m:=⟨(yQ (c.col % 4).toNat).toNat,by omega⟩
 refine .qt rfl ?_;simp (disch:=first|exact zb|fail) only [go_sem,seval];refine .qt rfl ?_;simp (disch:=first|exact zb|fail) only [go_sem,seval,zCT];refine .qt rfl ?_;simp (disch:=first|exact zb|fail) only [go_sem,seval];refine CallK.of (fun R h=>zd7 (c.col % 4) (by omega) _ R h) ?_;simp (disch:=first|exact zb|fail) only [go_sem,seval,hm];refine .q ?_;refine .open [] follows (by kernel_rfl) ?_;simp (disch:=first|exact zb|fail) only [go_sem,seval]
 have hp:(0:Int) < (m:Int)+1:=by omega
 have a1:0≤c.lo % 65536 % ((m:Int)+1):=Int.emod_nonneg _ (by omega);have a2:c.lo % 65536 % ((m:Int)+1) < (m:Int)+1:=Int.emod_lt_of_pos _ hp;have b1:0≤c.hi % 65536 % ((m:Int)+1):=Int.emod_nonneg _ (by omega);have b2:c.hi % 65536 % ((m:Int)+1) < (m:Int)+1:=Int.emod_lt_of_pos _ hp
 generalize c.lo % 65536 % ((m:Int)+1)=u at *
 generalize c.hi % 65536 % ((m:Int)+1)=v at *
 refine .qt rfl ?_;simp (disch:=first|exact zb|fail) only [go_sem,seval];refine .qt rfl ?_;simp (disch:=first|exact zb|fail) only [go_sem,seval];refine .qt rfl ?_;simp (disch:=first|exact zb|fail) only [go_sem,seval];refine .qr rfl Tryz.func108 (by rw [Tryz.results108]) ?_;simp (disch:=first|exact zb|fail) only [go_sem,seval];refine h ⟨c.col % 4,min u v,max u v⟩ ?_;simp only [vC,decide_eq_true_eq];rw [hm];omega
theorem ziq (c:Cnd) (H:Hp):ACall Tryz.prog G 108 [.p (cnd c)] H (fun r H'=>(∃ x,vC x=true∧r = .p (cnd x))∧H'=H):=zio c H _ fun x hx=>⟨⟨x,hx,rfl⟩,rfl⟩
set_option maxHeartbeats 16000000 in
set_option maxRecDepth 20000 in
theorem znd (q:Qry) (hl:q.fl.length≤4) (H:Hp) (R:AV → Hp → Prop) (h : ∀ p,vQ p=true → R (.p (qry p)) H):ACall Tryz.prog G 50 [.p (qry q)] H R:=by
 refine ACall.of_run (raw:=[]) Tryz.func50 rfl Tryz.ntmps50 (by simp) fun hbel => ?_
 obtain⟨kd,hkd⟩ : ∃ kd:Int,kd=1+q.kind % 256 % 7:=⟨_,rfl⟩
 have hk7:1≤kd∧kd≤7:=by omega
 have hki:okI kd:=by unfold okI;omega
 have hak:zj (zx [AV.p (i64 kd),AV.p (i64 0),AV.p (i64 0),AV.p (PV.sl true 1 [])])=some [AV.p (i64 kd),AV.p (i64 0),AV.p (i64 0),AV.p (PV.sl true 1 [])]:=rfl
 have hm:yw kd=0 ∨ yw kd=6 ∨ yw kd=65536:=by unfold yw;split;omega;split<;>omega
 refine .qt rfl ?_;simp (disch:=first|exact zb|fail) only [go_sem,seval];refine .qt rfl ?_;simp (disch:=first|exact zb|fail) only [go_sem,seval,←hkd,hak]
 have hq0 : ∀ x,(((H.new (.cells [.p (i64 q.kind),.p (i64 q.col),.p (i64 q.k),.p (.sl false 1 (pl yt q.fl))])).new (.cells [.p (i64 0),.p (i64 0),.p (i64 0),.p (.sl true 1 [])])).new x).f H.n=some (.cells [.p (i64 q.kind),.p (i64 q.col),.p (i64 q.k),.p (.sl false 1 (pl yt q.fl))]):=fun x=>by simp (disch:=first|exact zb|fail) only [go_sem,seval]
 refine .q ?_;refine .cut2 (fun env2 H2 => ∃ c:Int,env2 1 = .ptr H.n 0∧env2 2 = .ptr (H.n+1) 0∧env2 3 = .ptr (H.n+2) 0∧(0≤c∧c < 4∧(zb3 kd=false → c=0))∧H2=((H.new (.cells [.p (i64 q.kind),.p (i64 q.col),.p (i64 q.k),.p (.sl false 1 (pl yt q.fl))])).new (.cells [.p (i64 0),.p (i64 0),.p (i64 0),.p (.sl true 1 [])])).new (.cells [.p (i64 kd),.p (i64 c),.p (i64 0),.p (.sl true 1 [])])) (fun ih => ?_) ?_
 · refine .qt rfl ?_;simp (disch:=first|exact zb|fail) only [go_sem,seval];refine CallK.of (fun R h=>zda kd hki _ R h) ?_;simp (disch:=first|exact zb|fail) only [go_sem,seval]
   cases hC:zb3 kd with
   | true =>
    refine .q ?_;refine .ifT (by simp (disch:=first|exact zb|fail) only [go_sem,seval,hC]) ?_;refine .qt rfl ?_;simp (disch:=first|exact zb|fail) only [go_sem,seval,zCT];refine ih _ _ ⟨q.col % 4,?_,?_,?_,⟨by omega,by omega,fun e=>by rw [hC] at e;cases e⟩,?_⟩<;>simp (disch:=first|exact zb|fail) only [go_sem,seval]
   | false =>
    refine .q ?_;refine .ifF (by simp (disch:=first|exact zb|fail) only [go_sem,seval,hC]) ?_;refine .skip ?_;refine ih _ _ ⟨0,?_,?_,?_,⟨by omega,by omega,fun _=>rfl⟩,?_⟩<;>simp (disch:=first|exact zb|fail) only [go_sem,seval]
 rintro env H2 ⟨c,e1,e2,e3,⟨c1,c2,c3⟩,rfl⟩
 refine .q ?_;refine .cut2 (fun env2 H2 => ∃ k:Int,env2 1 = .ptr H.n 0∧env2 2 = .ptr (H.n+1) 0∧env2 3 = .ptr (H.n+2) 0∧(min (yw kd) 1≤k∧k≤yw kd)∧H2=((H.new (.cells [.p (i64 q.kind),.p (i64 q.col),.p (i64 q.k),.p (.sl false 1 (pl yt q.fl))])).new (.cells [.p (i64 0),.p (i64 0),.p (i64 0),.p (.sl true 1 [])])).new (.cells [.p (i64 kd),.p (i64 c),.p (i64 k),.p (.sl true 1 [])])) (fun ih => ?_) ?_
 · refine .qt rfl ?_;simp (disch:=first|exact zb|fail) only [go_sem,seval,e3];refine CallK.of (fun R h=>y9 kd hki _ R h) ?_;simp (disch:=first|exact zb|fail) only [go_sem,seval]
   rcases hm with hm0 | hm0
   · refine .q ?_;refine .ifF (by simp (disch:=first|exact zb|fail) only [go_sem,seval,hm0]) ?_;refine .skip ?_;refine ih _ _ ⟨0,?_,?_,?_,by omega,?_⟩<;>simp (disch:=first|exact zb|fail) only [go_sem,seval,e1,e2,e3]
   · have hp:0 < yw kd:=by omega
     have a1:0≤q.k % 65536 % yw kd:=Int.emod_nonneg _ (by omega);have a2:q.k % 65536 % yw kd < yw kd:=Int.emod_lt_of_pos _ hp;refine .qT rfl ?_;refine .q ?_;refine .open [9] follows (by kernel_rfl) ?_;simp (disch:=first|exact zb|fail) only [go_sem,seval,e1,e3];refine CallD.still (fun R h=>y9 kd hki _ R h) ?_;simp (disch:=first|exact zb|fail) only [go_sem,seval,e1,e3];refine ih _ _ ⟨1+q.k % 65536 % yw kd,?_,?_,?_,by omega,?_⟩<;>simp (disch:=first|exact zb|fail) only [go_sem,seval,e1,e2,e3]
 rintro env H2 ⟨k,e1,e2,e3,hk,rfl⟩
 refine .qt rfl ?_;simp (disch:=first|exact zb|fail) only [go_sem,seval]
 generalize hFk:(if kd=7 then 2 else 1)=F
 have hF:kd=7∧F=2 ∨ kd≠7∧F=1:=by rw [←hFk];split;exact .inl ⟨by assumption,rfl⟩;exact .inr ⟨by assumption,rfl⟩
 refine .q ?_;refine .cut2 (fun env2 H2=>env2 1 = .ptr H.n 0∧env2 2 = .ptr (H.n+1) 0∧env2 3 = .ptr (H.n+2) 0∧env2 4 = .p (i64 (F:Nat))∧H2=((H.new (.cells [.p (i64 q.kind),.p (i64 q.col),.p (i64 q.k),.p (.sl false 1 (pl yt q.fl))])).new (.cells [.p (i64 0),.p (i64 0),.p (i64 0),.p (.sl true 1 [])])).new (.cells [.p (i64 kd),.p (i64 c),.p (i64 k),.p (.sl true 1 [])])) (fun ih => ?_) ?_
 · rcases hF with ⟨f1,rfl⟩ | ⟨f1,rfl⟩
   · refine .qt rfl ?_;simp (disch:=first|exact zb|fail) only [go_sem,seval,e3];refine .qT rfl ?_;refine .qt rfl ?_;simp (disch:=first|exact zb|fail) only [go_sem,seval];refine ih _ _ ⟨?_,?_,?_,?_,rfl⟩<;>simp (disch:=first|exact zb|fail) only [go_sem,seval,e1,e2,e3]
   · refine .qt rfl ?_;simp (disch:=first|exact zb|fail) only [go_sem,seval,e3];refine .qF rfl ?_;refine .skip ?_;refine ih _ _ ⟨?_,?_,?_,?_,rfl⟩<;>simp (disch:=first|exact zb|fail) only [go_sem,seval,e1,e2,e3]
 rintro env H2 ⟨e1,e2,e3,e4,rfl⟩
 refine .q ?_;refine .ownC (H.n+2) 3 (by simp (disch:=first|exact zb|fail) only [go_sem,seval];rfl) (by rfl) ?_;simp (disch:=first|exact zb|fail) only [go_sem,seval,List.set_cons_zero,List.set_cons_succ];refine .qt rfl ?_;simp (disch:=first|exact zb|fail) only [go_sem,seval]
 obtain⟨K,hK⟩ : ∃ K,K=(((H.new (.cells [.p (i64 q.kind),.p (i64 q.col),.p (i64 q.k),.p (.sl false 1 (pl yt q.fl))])).new (.cells [.p (i64 0),.p (i64 0),.p (i64 0),.p (.sl true 1 [])])).new (.cells [.p (i64 kd),.p (i64 c),.p (i64 k),.sl (H.n+3) 0 1 []])).new (.tail 0):=⟨_,rfl⟩
 have hM0:MI K H q kd c k []:=by
  rw [hK]
  refine⟨?_,?_,?_,?_,?_,fun b hb => ?_,rfl⟩
  · simp (disch:=first|exact zb|fail) only [go_sem,seval]
  · simp (disch:=first|exact zb|fail) only [go_sem,seval]
  · simp (disch:=first|exact zb|fail) only [go_sem,seval,za8]
  · simp (disch:=first|exact zb|fail) only [go_sem,seval]
  · simp only [n_new'];omega
  · simp (disch:=first|exact zb|fail) only [go_sem,seval]
 rw [←hK]
 clear hK
 have hF2:F≤2:=by omega
 refine .q ?_;refine .count (fun i env H'=>env 1 = .ptr H.n 0∧env 2 = .ptr (H.n+1) 0∧env 3 = .ptr (H.n+2) 0∧env 4 = .p (i64 (F:Nat))∧env 5 = .p (i64 i) ∧ ∃ L,L.length=i∧L.all vF=true∧MI H' H q kd c k L) 0 F (by omega) ?_ ?_ ?_
 · refine⟨?_,?_,?_,?_,?_,[],rfl,rfl,hM0⟩<;>simp (disch:=first|exact zb|fail) only [go_sem,seval,e1,e2,e3,e4]
 · rintro env H' ⟨e1,e2,e3,e4,e5,L,hLl,hLv,hM⟩
   refine .qt rfl ?_;simp (disch:=first|exact zb|fail) only [go_sem,seval,e4,e5];refine .qF rfl ?_;have hn:=hM.n;have hak2:zj (zx [AV.p (i64 kd),AV.p (i64 c),AV.p (i64 k),.sl (H.n+3) F 1 (pl yt L)])=some [AV.p (i64 kd),AV.p (i64 c),AV.p (i64 k),.p (.sl false 1 (pl yt L))]:=rfl;have hm2:=hM.m;rw [hLl] at hm2
   have hvp:vQ ⟨kd,c,k,L⟩=true:=by
    simp only [vQ,Bool.and_eq_true,decide_eq_true_eq,Bool.or_eq_true]
    refine⟨hk7,⟨c1,c2⟩,?_,hk,?_,hLv⟩
    · cases hC:zb3 kd with
      | true=>exact .inl rfl
      | false=>exact .inr (c3 hC)
    · rw [hLl]
      rcases hF with ⟨f1,f2⟩ | ⟨f1,f2⟩
      · rw [if_pos f1];exact f2
      · rw [if_neg f1];exact f2
   have hfin:=h ⟨kd,c,k,L⟩ hvp
   have htr:H'.trunc H.n=H:=by
    refine Hp.ext (fun b => ?_) rfl hM.z;rw [Hp.f_trunc]
    split
    · exact hM.low b (by assumption)
    · exact (H.wf b (by omega)).symm
   have hbel:Bel H.n H':=fun b x hb hx=>hbel b x hb (by rw [←hM.low b hb];exact hx)
   refine .qt rfl ?_;simp (disch:=first|exact zb|fail) only [go_sem,seval,e2,e3,hm2,hM.r,hak2];refine .qr rfl Tryz.func50 (by rw [Tryz.results50]) (hx:=by simp (disch:=first|exact zb|fail) only [go_sem,seval,e2];rfl) ?_;simp (disch:=first|exact zb|fail) only [go_sem,seval,e2];rw [htr];exact hfin
 · rintro i env H' hi0 hi ⟨e1,e2,e3,e4,e5,L,hLl,hLv,hM⟩ ihO
   have hn:=hM.n
   obtain⟨mm,hmm⟩ : ∃ mm,mm=if i < q.fl.length then min 3 (nth q.fl i).length else 0:=⟨_,rfl⟩
   have hm1:mm≤3:=by rw [hmm];split<;>omega
   refine .qt rfl ?_;simp (disch:=first|exact zb|fail) only [go_sem,seval,e4,e5];refine .qT rfl ?_;refine .qt rfl ?_;simp (disch:=first|exact zb|fail) only [go_sem,seval];refine .q ?_;refine .own 6 (by simp (disch:=first|exact zb|fail) only [go_sem,seval];rfl) ?_;refine .qt rfl ?_;simp (disch:=first|exact zb|fail) only [go_sem,seval];refine .q ?_;refine .count (fun j env W=>env 1 = .ptr H.n 0∧env 2 = .ptr (H.n+1) 0∧env 3 = .ptr (H.n+2) 0∧env 4 = .p (i64 (F:Nat))∧env 5 = .p (i64 i)∧env 7 = .p (i64 j) ∧ ∃ M:List Cnd,M.length=j∧M.all vC=true∧env 6 = .sl H'.n j 3 (pl cnd M)∧W=H'.new (.tail j)) 0 mm (by omega) ?_ ?_ ?_
   · refine⟨?_,?_,?_,?_,?_,?_,[],rfl,rfl,?_,rfl⟩<;>simp (disch:=first|exact zb|fail) only [go_sem,seval,e1,e2,e3,e4,e5,za8]
   · rintro env W ⟨e1,e2,e3,e4,e5,e7,M,hMl,hMv,e6,rfl⟩
     have hq1:(H'.new (.tail mm)).f H.n=some (.cells [.p (i64 q.kind),.p (i64 q.col),.p (i64 q.k),.p (.sl false 1 (pl yt q.fl))]):=by rw [zc (by omega)];exact hM.q
     have hmx:(H'.new (.tail mm)).f (H.n+2)=some (.cells [.p (i64 kd),.p (i64 c),.p (i64 k),.sl (H.n+3) L.length 1 (pl yt L)]):=by rw [zc (by omega)];exact hM.m
     have htx:(H'.new (.tail mm)).f (H.n+3)=some (.tail L.length):=by rw [zc (by omega)];exact hM.t
     have hap:pl yt L++[.sl false 3 (pl cnd M)]=pl yt (L++[M]):=by rw [←ye];rfl
     have hvF:vF M=true:=by simp only [vF,Bool.and_eq_true,decide_eq_true_eq];exact⟨by omega,hMv⟩
     have hM2:MI (((H'.new (.tail mm)).set (H.n+3) (.tail (L.length+1))).set (H.n+2) (.cells [.p (i64 kd),.p (i64 c),.p (i64 k),.sl (H.n+3) (L.length+1) 1 (pl yt (L++[M]))])) H q kd c k (L++[M]):=by
      refine⟨?_,?_,?_,?_,?_,fun b hb => ?_,hM.z⟩
      · rw [f_set_ne' (by omega),f_set_ne' (by omega)];exact hq1
      · rw [f_set_ne' (by omega),f_set_ne' (by omega),zc (by omega)];exact hM.r
      · rw [zo rfl (by rw [n_set',n_new'];omega)];simp
      · rw [f_set_ne' (by omega),zo rfl (by rw [n_new'];omega)];simp
      · rw [n_set',n_set',n_new'];omega
      · rw [f_set_ne' (by omega),f_set_ne' (by omega),zc (by omega)];exact hM.low b hb
     rw [hLl] at hM2
     generalize H'.new (.tail mm)=W at *
     rcases Classical.em (i < q.fl.length) with a1 | a1
     · rw [if_pos a1] at hmm
       rcases Classical.em (mm < (nth q.fl i).length) with a2 | a2
       · have a3:mm=3:=by omega
         refine .qt rfl ?_;simp (disch:=first|exact zb|fail) only [go_sem,seval,e5,e7,e1,hq1,zQ];refine .qF rfl ?_;refine .qt rfl ?_;simp (disch:=first|exact zb|fail) only [go_sem,seval,e3,e6,hmx,htx,hap,hLl];refine .qt rfl ?_;simp (disch:=first|exact zb|fail) only [go_sem,seval,e5];refine ihO _ _ ⟨?_,?_,?_,?_,?_,L++[M],by simp [hLl],by rw [List.all_append,hLv];simp [hvF],hM2⟩<;>simp (disch:=first|exact zb|fail) only [go_sem,seval,e1,e2,e3,e4]
       · refine .qt rfl ?_;simp (disch:=first|exact zb|fail) only [go_sem,seval,e5,e7,e1,hq1,zQ];refine .qF rfl ?_;refine .qt rfl ?_;simp (disch:=first|exact zb|fail) only [go_sem,seval,e3,e6,hmx,htx,hap,hLl];refine .qt rfl ?_;simp (disch:=first|exact zb|fail) only [go_sem,seval,e5];refine ihO _ _ ⟨?_,?_,?_,?_,?_,L++[M],by simp [hLl],by rw [List.all_append,hLv];simp [hvF],hM2⟩<;>simp (disch:=first|exact zb|fail) only [go_sem,seval,e1,e2,e3,e4]
     · refine .qt rfl ?_;simp (disch:=first|exact zb|fail) only [go_sem,seval,e5,e7,e1,hq1,zQ];refine .qF rfl ?_;refine .qt rfl ?_;simp (disch:=first|exact zb|fail) only [go_sem,seval,e3,e6,hmx,htx,hap,hLl];refine .qt rfl ?_;simp (disch:=first|exact zb|fail) only [go_sem,seval,e5];refine ihO _ _ ⟨?_,?_,?_,?_,?_,L++[M],by simp [hLl],by rw [List.all_append,hLv];simp [hvF],hM2⟩<;>simp (disch:=first|exact zb|fail) only [go_sem,seval,e1,e2,e3,e4]
   · rintro j env W hj0 hj ⟨e1,e2,e3,e4,e5,e7,M,hMl,hMv,e6,rfl⟩ ihI
     have a1:i < q.fl.length:=by
      refine Decidable.byContradiction fun e => ?_
      rw [if_neg e] at hmm;omega
     rw [if_pos a1] at hmm
     have a2:j < (nth q.fl i).length:=by omega
     have a3:j < 3:=by omega
     have hq1:(H'.new (.tail j)).f H.n=some (.cells [.p (i64 q.kind),.p (i64 q.col),.p (i64 q.k),.p (.sl false 1 (pl yt q.fl))]):=by rw [zc (by omega)];exact hM.q
     refine .qt rfl ?_;simp (disch:=first|exact zb|fail) only [go_sem,seval,e5,e7,e1,hq1,zQ];refine .qT rfl ?_;refine .qt rfl ?_;simp (disch:=first|exact zb|fail) only [go_sem,seval,e5,e6,e7,e1,hq1,zQ];refine CallK.ex (ziq _ _) ?_
     rintro _ _ ⟨⟨x,hx,rfl⟩,rfl⟩
     have hap:pl cnd M++[cnd x]=pl cnd (M++[x]):=by rw [←ye];rfl
     simp (disch:=first|exact zb|fail) only [go_sem,seval,hap,hMl];refine .qt rfl ?_;simp (disch:=first|exact zb|fail) only [go_sem,seval,e7];refine ihI _ _ ⟨?_,?_,?_,?_,?_,?_,M++[x],by simp [hMl],by rw [List.all_append,hMv];simp [hx],?_,?_⟩<;>simp (disch:=first|exact zb|fail) only [go_sem,seval,e1,e2,e3,e4,e5]
end walks
end Go.Proofs.YthaoifcebimkfaaGreatDoor

namespace Go.Proofs.YthaoifcebimkfaaGreatDoor
open Go Go.AL

section walks
variable {G:Globs}
theorem zne (q:Qry) (hl:q.fl.length≤4) (H:Hp):ACall Tryz.prog G 50 [.p (qry q)] H (fun r H'=>(∃ p,vQ p=true∧r = .p (qry p))∧H'=H):=znd q hl H _ fun p hp=>⟨⟨p,hp,rfl⟩,rfl⟩
set_option maxHeartbeats 16000000 in
set_option maxRecDepth 20000 in
theorem znf (q:Qry) (hl:q.fl.length≤4) (H:Hp) (R:AV → Hp → Prop) (h : ∀ p,vQ p=true → y7 p=0 → R (.p (qry p)) H):ACall Tryz.prog G 13 [.p (qry q)] H R:=by
 refine ACall.of_run (raw:=[]) Tryz.func13 rfl Tryz.ntmps13 (by simp) fun hbel => ?_
 refine .qt rfl ?_;simp (disch:=first|exact zb|fail) only [go_sem,seval];refine .qt rfl ?_;simp (disch:=first|exact zb|fail) only [go_sem,seval];refine CallK.ex (zne q hl _) ?_
 rintro _ _ ⟨⟨p,hp,rfl⟩,rfl⟩
 obtain⟨hk7,hcol,hcK,hK,hlf,hall⟩:(1≤p.kind∧p.kind≤7)∧(0≤p.col∧p.col < 4)∧(zb3 p.kind || decide (p.col=0))=true∧(min (yw p.kind) 1≤p.k∧p.k≤yw p.kind)∧(p.fl.length=if p.kind=7 then 2 else 1)∧p.fl.all vF=true:=by
  have hq:=hp;simp only [vQ,Bool.and_eq_true,decide_eq_true_eq] at hq;exact⟨hq.1,hq.2.1,hq.2.2.1,hq.2.2.2.1,hq.2.2.2.2.1,hq.2.2.2.2.2⟩
 simp (disch:=first|exact zb|fail) only [go_sem,seval]
 obtain⟨X,hX⟩ : ∃ X,X=(H.new (.cells [.p (i64 q.kind),.p (i64 q.col),.p (i64 q.k),.p (.sl false 1 (pl yt q.fl))])).new (.cells [.p (i64 0),.p (i64 0),.p (i64 0),.p (.sl true 1 [])]):=⟨_,rfl⟩
 have hXn:X.n=H.n+2:=by rw [hX,n_new',n_new']
 refine .q ?_;refine .cut2 (fun env2 H2 => ∃ c:Int,env2 2 = .ptr (H.n+1) 0∧env2 3 = .ptr (H.n+2) 0∧(0≤c∧c < 4∧(zb3 p.kind || decide (c=0))=true∧(4≤p.kind∧p.kind≤6 → ¬ (c=1 ∨ c=3)))∧H2=X.new (.cells [.p (i64 p.kind),.p (i64 c),.p (i64 p.k),.p (.sl false 1 (pl yt p.fl))])) (fun ih => ?_) ?_
 · rw [←hX]
   rcases Classical.em (4≤p.kind∧p.kind≤6) with k1 | k1
   · have hC:zb3 p.kind=true:=by simp [zb3];omega
     have h3:p.kind=4 ∨ p.kind=5 ∨ p.kind=6:=by omega
     rcases h3 with e | e | e
     · refine .qt rfl ?_;simp (disch:=first|exact zb|fail) only [go_sem,seval,e];refine .qT rfl ?_;refine .qt rfl ?_;simp (disch:=first|exact zb|fail) only [go_sem,seval];refine ih _ _ ⟨2*(p.col % 2),?_,?_,⟨by omega,by omega,by rw [hC];rfl,fun _=>by omega⟩,?_⟩<;>simp (disch:=first|exact zb|fail) only [go_sem,seval,e]
     · refine .qt rfl ?_;simp (disch:=first|exact zb|fail) only [go_sem,seval,e];refine .qT rfl ?_;refine .qt rfl ?_;simp (disch:=first|exact zb|fail) only [go_sem,seval];refine ih _ _ ⟨2*(p.col % 2),?_,?_,⟨by omega,by omega,by rw [hC];rfl,fun _=>by omega⟩,?_⟩<;>simp (disch:=first|exact zb|fail) only [go_sem,seval,e]
     · refine .qt rfl ?_;simp (disch:=first|exact zb|fail) only [go_sem,seval,e];refine .qT rfl ?_;refine .qt rfl ?_;simp (disch:=first|exact zb|fail) only [go_sem,seval];refine ih _ _ ⟨2*(p.col % 2),?_,?_,⟨by omega,by omega,by rw [hC];rfl,fun _=>by omega⟩,?_⟩<;>simp (disch:=first|exact zb|fail) only [go_sem,seval,e]
   · have n4 : ¬ p.kind=4:=by omega
     have n5 : ¬ p.kind=5:=by omega
     have n6 : ¬ p.kind=6:=by omega
     refine .qt rfl ?_;simp (disch:=first|exact zb|fail) only [go_sem,seval];refine .qF rfl ?_;refine .skip ?_;refine ih _ _ ⟨p.col,?_,?_,⟨by omega,by omega,hcK,fun e=>absurd e k1⟩,?_⟩<;>simp (disch:=first|exact zb|fail) only [go_sem,seval]
 rintro env H2 ⟨c,e2,e3,⟨c1,c2,c3,c4⟩,rfl⟩
 have hX1:X.f (H.n+1)=some (.cells [.p (i64 0),.p (i64 0),.p (i64 0),.p (.sl true 1 [])]):=by rw [hX];simp (disch:=first|exact zb|fail) only [go_sem,seval]
 have hXl : ∀ b,b < H.n → X.f b=H.f b:=fun b hb=>by rw [hX];simp (disch:=first|exact zb|fail) only [go_sem,seval]
 have hXz:X.z=H.z:=by rw [hX];rfl
 have htr:X.trunc H.n=H:=by rw [hX];simp (disch:=first|exact zb|fail) only [go_sem,seval]
 have hXb:Bel H.n X:=by
  rw [hX]
  repeat (first | with_reducible refine zaC ?_ zb | with_reducible refine zaU ?_ zb | with_reducible exact hbel)
 clear hX
 refine .q ?_;refine .cut2 (fun env2 H2 => ∃ k:Int,env2 2 = .ptr (H.n+1) 0∧env2 3 = .ptr (H.n+2) 0∧(min (yw p.kind) 1≤k∧k≤yw p.kind)∧H2=X.new (.cells [.p (i64 p.kind),.p (i64 c),.p (i64 k),.p (.sl false 1 (pl yt p.fl))])) (fun ih => ?_) ?_
 · have hXe : ∀ x,(X.new x).f (H.n+2)=some x:=fun x=>zm hXn.symm
   rcases Classical.em (p.kind=6) with e | e
   · have hm6:yw p.kind=65536:=by rw [e];rfl
     refine .qt rfl ?_;simp (disch:=first|exact zb|fail) only [go_sem,seval,e3,hXe,e];refine .qT rfl ?_;refine .qt rfl ?_;simp (disch:=first|exact zb|fail) only [go_sem,seval,e3,hXe];rw [hm6] at ih hK;refine ih _ _ ⟨1+p.k % 12,?_,?_,by omega,?_⟩
     · simp (disch:=first|exact zb|fail) only [go_sem,seval,e2]
     · simp (disch:=first|exact zb|fail) only [go_sem,seval,e3]
     · rw [e]
   · refine .qt rfl ?_;simp (disch:=first|exact zb|fail) only [go_sem,seval,e3,hXe];refine .qF rfl ?_;refine .skip ?_;refine ih _ _ ⟨p.k,?_,?_,hK,rfl⟩<;>simp (disch:=first|exact zb|fail) only [go_sem,seval,e2,e3]
 rintro env H2 ⟨k,e2,e3,hk,rfl⟩
 have hXe : ∀ x,(X.new x).f (H.n+2)=some x:=fun x=>zm hXn.symm
 have hvp:vQ ⟨p.kind,c,k,p.fl⟩=true:=by
  simp only [vQ,Bool.and_eq_true,decide_eq_true_eq]
  exact⟨hk7,⟨c1,c2⟩,c3,hk,hlf,hall⟩
 have hep:y7 ⟨p.kind,c,k,p.fl⟩=0:=by
  unfold y7;rw [hvp,if_pos rfl]
  exact if_neg fun e=>c4 ⟨e.1,e.2.1⟩ e.2.2
 have hfin:=h _ hvp hep;refine .qt rfl ?_;simp (disch:=first|exact zb|fail) only [go_sem,seval,e3,hXe];refine CallK.ex (zdN 64 (by decide) ⟨p.kind,c,k,p.fl⟩ (by unfold okI;simp only;omega) _) ?_
 rintro _ _ ⟨⟨x,rfl⟩,rfl⟩
 rw [hep];simp (disch:=first|exact zb|fail) only [go_sem,seval];refine .qt rfl ?_;simp (disch:=first|exact zb|fail) only [go_sem,seval];refine .qF rfl ?_;refine .skip ?_;have hak:zj (zx [AV.p (i64 p.kind),AV.p (i64 c),AV.p (i64 k),AV.p (PV.sl false 1 (pl yt p.fl))])=some [AV.p (i64 p.kind),AV.p (i64 c),AV.p (i64 k),AV.p (PV.sl false 1 (pl yt p.fl))]:=rfl;refine .qt rfl ?_;simp (disch:=first|exact zb|fail) only [go_sem,seval,e2,e3,hXe,hX1,hak];have hbel:=hXb;refine .qr rfl Tryz.func13 (by rw [Tryz.results13]) (hx:=by simp (disch:=first|exact zb|fail) only [go_sem,seval,e2];rfl) ?_;simp (disch:=first|exact zb|fail) only [go_sem,seval,e2];rw [htr];exact hfin
end walks
end Go.Proofs.YthaoifcebimkfaaGreatDoor

namespace Go.Proofs.YthaoifcebimkfaaGreatDoor
open Go Go.AL

structure Rdg where
 who:Int
 whn:Int
 knd:Int
 val:Int
 deriving DecidableEq
instance:Inhabited Rdg:=⟨⟨0,0,0,0⟩⟩
structure Strm where
 l:List Rdg
 gone:List Bool
 deriving DecidableEq
def vR (r:Rdg):Prop:=(0≤r.who∧r.who < 16)∧(0≤r.whn∧r.whn < 256)∧(0≤r.knd∧r.knd < 16)∧(0≤r.val∧r.val < 256)
instance {r:Rdg}:Decidable (vR r):=by unfold vR;infer_instance
def fR (r:Rdg):Nat → Int
 | 0=>r.who
 | 1=>r.whn
 | 2=>r.knd
 | _=>r.val
def rdL (r:Rdg):List PV:=[i64 r.who,i64 r.whn,i64 r.knd,i64 r.val]
def rdg (r:Rdg):PV := .agg (rdL r)
def stm (s:Strm):PV := .agg [.sl false 4 (pl rdg s.l),.sl false 1 (pl bo s.gone)]
section rd
variable {r:Rdg} {l:List Rdg}
theorem zEa:zj (.p (rdg r))=some [.p (i64 r.who),.p (i64 r.whn),.p (i64 r.knd),.p (i64 r.val)]:=rfl
theorem zvr:(rdg r).cells=[i64 r.who,i64 r.whn,i64 r.knd,i64 r.val]:=rfl
theorem zvs:(rdg r).isAgg=true:=rfl
theorem zqp:(AV.p (rdg r)).isAggV=true:=rfl
theorem zAa:(rdg r).weak=rdg r:=rfl
theorem zvt:(rdg r).weak1=rdg r:=rfl
theorem zvu:(rdg r).aggOf 0 4=rdg r:=rfl
theorem zCy:(⟨r.who,r.whn,r.knd,r.val⟩:Rdg)=r:=rfl
theorem zqq:[rdg r]=pl rdg [r]:=rfl
theorem zqr:((pl rdg [r]).all fun y=>y.cells.length == 4)=true:=rfl
theorem zfW:(pl rdg l).map PV.weak=pl rdg l:=zqS fun _=>rfl
theorem zvv {b:Bool}:[bo b]=pl bo [b]:=rfl
theorem zvw {b:Bool}:((pl bo [b]).all fun y=>y.cells.length == 1)=true:=rfl
theorem zEb {s:Strm}:zj (.p (stm s))=some [.p (.sl false 4 (pl rdg s.l)),.p (.sl false 1 (pl bo s.gone))]:=rfl
theorem zEc {α n β m:Nat} {l:List Rdg} {g:List Bool}:zx [.sl α n 4 (pl rdg l),.sl β m 1 (pl bo g)] = .p (stm ⟨l,g⟩):=rfl
theorem zCz {α n:Nat} {l:List Rdg} {g:List Bool}:zx [.sl α n 4 (pl rdg l),.p (.sl false 1 (pl bo g))] = .p (stm ⟨l,g⟩):=rfl
theorem zEd {a b c d:Int}:cfP ⟨a,b,c,d⟩=rdg ⟨a,b,c,d⟩:=rfl
theorem zqs {x y:PV}:zx [.p x,.p y] = .p (.agg [x,y]):=rfl
theorem zEe {x y:PV}:zj (.p (.agg [x,y]))=some [.p x,.p y]:=rfl
end rd
attribute [go_sem] zEd zqs zEe zEa zvr zvs zqp zAa zvt zvu zCy zfW zEb zEc
def z0S:Strm:=⟨[],[]⟩
def zir (s:Strm) (i:Int):Strm × Int :=
 if i < 0 ∨ (s.l.length:Int)≤i then (z0S,4) else if nth s.gone i.toNat then (z0S,120) else (⟨s.l,s.gone.set i.toNat true⟩,0)
def rd3 (a b c:BitVec 8):Rdg:=⟨((a % 16#8).toNat:Nat),(b.toNat:Nat),((a / 16#8).toNat:Nat),(c.toNat:Nat)⟩
theorem zCU {a b c:BitVec 8}:vR (rd3 a b c):=by
 have h1:=(a % 16#8).isLt;have h2:=b.isLt;have h3:=c.isLt;have h4:=a.isLt
 have e1:(a % 16#8).toNat=a.toNat % 16:=by rw [BitVec.toNat_umod];rfl
 have e2:(a / 16#8).toNat=a.toNat / 16:=by rw [BitVec.toNat_udiv];rfl
 unfold vR rd3;dsimp only;rw [e1,e2];omega
def vB (r:Rdg):Bool:=decide ((0:Int)≤r.who) && (decide (r.who < 16) && (decide ((0:Int)≤r.knd) && (decide (r.knd < 16) && (decide ((0:Int)≤r.whn) && (decide (r.whn < 256) && (decide ((0:Int)≤r.val) && (decide (r.val < 256))))))))
theorem zEf {r:Rdg}:vB r=true ↔ vR r:=by
 simp only [vB,vR,Bool.and_eq_true,decide_eq_true_eq];omega
section walks
variable {G:Globs}
set_option maxHeartbeats 2000000 in
theorem zkw (r:Rdg) (H:Hp) (R:AV → Hp → Prop) (h:R (.p (bo (vB r))) H):ACall Tryz.prog G 109 [.p (rdg r)] H R:=by
 unfold vB at h
 refine ACall.of_run (raw:=[]) Tryz.func109 rfl Tryz.ntmps109 (by simp) fun hbel => ?_
 refine .qt rfl ?_;simp (disch:=first|exact zb|fail) only [go_sem,seval];refine .qt rfl ?_;simp (disch:=first|exact zb|fail) only [go_sem,seval]
 (first | refine yN (fun h0 => ?_) (fun h0 => ?_) | refine yE (fun h0 => ?_) (fun h0 => ?_))<;>(try simp only [Bool.not_eq_true',Bool.not_eq_false'] at h0)<;>simp (disch:=first|exact zb|fail) only [go_sem,seval,h0]
 rotate_left
 · rw [h0] at h;refine .qr rfl Tryz.func109 (by rw [Tryz.results109]) ?_;simp (disch:=first|exact zb|fail) only [go_sem,seval];exact h
 rw [h0,Bool.true_and] at h
 (first | refine yN (fun h1 => ?_) (fun h1 => ?_) | refine yE (fun h1 => ?_) (fun h1 => ?_))<;>(try simp only [Bool.not_eq_true',Bool.not_eq_false'] at h1)<;>simp (disch:=first|exact zb|fail) only [go_sem,seval,h1]
 rotate_left
 · rw [h1] at h;refine .qr rfl Tryz.func109 (by rw [Tryz.results109]) ?_;simp (disch:=first|exact zb|fail) only [go_sem,seval];exact h
 rw [h1,Bool.true_and] at h
 (first | refine yN (fun h2 => ?_) (fun h2 => ?_) | refine yE (fun h2 => ?_) (fun h2 => ?_))<;>(try simp only [Bool.not_eq_true',Bool.not_eq_false'] at h2)<;>simp (disch:=first|exact zb|fail) only [go_sem,seval,h2]
 rotate_left
 · rw [h2] at h;refine .qr rfl Tryz.func109 (by rw [Tryz.results109]) ?_;simp (disch:=first|exact zb|fail) only [go_sem,seval];exact h
 rw [h2,Bool.true_and] at h
 (first | refine yN (fun h3 => ?_) (fun h3 => ?_) | refine yE (fun h3 => ?_) (fun h3 => ?_))<;>(try simp only [Bool.not_eq_true',Bool.not_eq_false'] at h3)<;>simp (disch:=first|exact zb|fail) only [go_sem,seval,h3]
 rotate_left
 · rw [h3] at h;refine .qr rfl Tryz.func109 (by rw [Tryz.results109]) ?_;simp (disch:=first|exact zb|fail) only [go_sem,seval];exact h
 rw [h3,Bool.true_and] at h
 (first | refine yN (fun h4 => ?_) (fun h4 => ?_) | refine yE (fun h4 => ?_) (fun h4 => ?_))<;>(try simp only [Bool.not_eq_true',Bool.not_eq_false'] at h4)<;>simp (disch:=first|exact zb|fail) only [go_sem,seval,h4]
 rotate_left
 · rw [h4] at h;refine .qr rfl Tryz.func109 (by rw [Tryz.results109]) ?_;simp (disch:=first|exact zb|fail) only [go_sem,seval];exact h
 rw [h4,Bool.true_and] at h
 (first | refine yN (fun h5 => ?_) (fun h5 => ?_) | refine yE (fun h5 => ?_) (fun h5 => ?_))<;>(try simp only [Bool.not_eq_true',Bool.not_eq_false'] at h5)<;>simp (disch:=first|exact zb|fail) only [go_sem,seval,h5]
 rotate_left
 · rw [h5] at h;refine .qr rfl Tryz.func109 (by rw [Tryz.results109]) ?_;simp (disch:=first|exact zb|fail) only [go_sem,seval];exact h
 rw [h5,Bool.true_and] at h
 (first | refine yN (fun h6 => ?_) (fun h6 => ?_) | refine yE (fun h6 => ?_) (fun h6 => ?_))<;>(try simp only [Bool.not_eq_true',Bool.not_eq_false'] at h6)<;>simp (disch:=first|exact zb|fail) only [go_sem,seval,h6]
 rotate_left
 · rw [h6] at h;refine .qr rfl Tryz.func109 (by rw [Tryz.results109]) ?_;simp (disch:=first|exact zb|fail) only [go_sem,seval];exact h
 rw [h6,Bool.true_and] at h;refine .qr rfl Tryz.func109 (by rw [Tryz.results109]) ?_;simp (disch:=first|exact zb|fail) only [go_sem,seval];exact h
theorem zqt (r:Rdg) (k:Nat) (hk:k < 4) (H:Hp) (R:AV → Hp → Prop) (h:R (.p (i64 (fR r k))) H):ACall Tryz.prog G 69 [.p (rdg r),.p (i64 k)] H R:=by
 have:k=0 ∨ k=1 ∨ k=2 ∨ k=3:=by omega
 refine ACall.of_run (raw:=[]) Tryz.func69 rfl Tryz.ntmps69 (by simp) fun hbel => ?_
 refine .qt rfl ?_;simp (disch:=first|exact zb|fail) only [go_sem,seval];refine .qt rfl ?_;simp (disch:=first|exact zb|fail) only [go_sem,seval]
 rcases this with rfl | rfl | rfl | rfl
 · refine .qT rfl ?_;refine .qt rfl ?_;simp (disch:=first|exact zb|fail) only [go_sem,seval];refine .qr rfl Tryz.func69 (by rw [Tryz.results69]) ?_;simp (disch:=first|exact zb|fail) only [go_sem,seval];exact h
 · refine .qF rfl ?_;refine .skip ?_;refine .qt rfl ?_;simp (disch:=first|exact zb|fail) only [go_sem,seval];refine .qT rfl ?_;refine .qt rfl ?_;simp (disch:=first|exact zb|fail) only [go_sem,seval];refine .qr rfl Tryz.func69 (by rw [Tryz.results69]) ?_;simp (disch:=first|exact zb|fail) only [go_sem,seval];exact h
 · refine .qF rfl ?_;refine .skip ?_;refine .qt rfl ?_;simp (disch:=first|exact zb|fail) only [go_sem,seval];refine .qF rfl ?_;refine .skip ?_;refine .qt rfl ?_;simp (disch:=first|exact zb|fail) only [go_sem,seval];refine .qT rfl ?_;refine .qt rfl ?_;simp (disch:=first|exact zb|fail) only [go_sem,seval];refine .qr rfl Tryz.func69 (by rw [Tryz.results69]) ?_;simp (disch:=first|exact zb|fail) only [go_sem,seval];exact h
 · refine .qF rfl ?_;refine .skip ?_;refine .qt rfl ?_;simp (disch:=first|exact zb|fail) only [go_sem,seval];refine .qF rfl ?_;refine .skip ?_;refine .qt rfl ?_;simp (disch:=first|exact zb|fail) only [go_sem,seval];refine .qF rfl ?_;refine .skip ?_;refine .qt rfl ?_;simp (disch:=first|exact zb|fail) only [go_sem,seval];refine .qr rfl Tryz.func69 (by rw [Tryz.results69]) ?_;simp (disch:=first|exact zb|fail) only [go_sem,seval];exact h
set_option maxHeartbeats 1000000 in
set_option maxRecDepth 20000 in
theorem zqu (s:Strm) (r:Rdg) (hs:s.l.length < 65536) (hg:s.gone.length < 65536) (hr:vR r) (H:Hp) (R:AV → Hp → Prop) (h:R (.tup [.p (stm ⟨s.l++[r],s.gone++[false]⟩),.p (i64 0)]) H):ACall Tryz.prog G 52 [.p (stm s),.p (rdg r)] H R:=by
 have hv:vB r=true:=zEf.2 hr;have d1:decide ((65536:Int)≤(s.l.length:Int))=false:=decide_eq_false (by omega)
 refine ACall.of_run (raw:=[]) Tryz.func52 rfl Tryz.ntmps52 (by simp) fun hbel => ?_
 refine .qt rfl ?_;simp (disch:=first|exact zb|fail) only [go_sem,seval];refine .qt rfl ?_;simp (disch:=first|exact zb|fail) only [go_sem,seval];refine CallK.of (fun R h=>zkw r _ R h) ?_;simp (disch:=first|exact zb|fail) only [go_sem,seval,hv];refine .qF rfl ?_;refine .skip ?_;refine .qt rfl ?_;simp (disch:=first|exact zb|fail) only [go_sem,seval];refine .q ?_;refine .ifF (by simp (disch:=first|exact zb|fail) only [go_sem,seval,d1]) ?_;refine .skip ?_;refine .qt rfl ?_;simp (disch:=first|exact zb|fail) only [go_sem,seval];refine .qt rfl ?_;simp (disch:=first|exact zb|fail) only [go_sem,seval];refine .qt rfl ?_;simp (disch:=first|exact zb|fail) only [go_sem,seval,zqq,zqr,zfW,zvv,zvw];refine .qr rfl Tryz.func52 (by rw [Tryz.results52]) (hx:=by simp (disch:=first|exact zb|fail) only [go_sem,seval,zqs];rfl) ?_;simp (disch:=first|exact zb|fail) only [go_sem,seval,zqs];exact h
set_option maxHeartbeats 1000000 in
set_option maxRecDepth 20000 in
theorem zei (s:Strm) (i:Int) (hs:s.l.length≤65536) (hg:s.gone.length=s.l.length) (H:Hp) (R:AV → Hp → Prop) (h:R (.tup [.p (stm (zir s i).1),.p (i64 (zir s i).2)]) H):ACall Tryz.prog G 51 [.p (stm s),.p (i64 i)] H R:=by
 unfold zir at h
 refine ACall.of_run (raw:=[]) Tryz.func51 rfl Tryz.ntmps51 (by simp) fun hbel => ?_
 refine .qt rfl ?_;simp (disch:=first|exact zb|fail) only [go_sem,seval];by_cases c1:i < 0
 · have d1:decide (i < 0)=true:=decide_eq_true c1;rw [if_pos (.inl c1)] at h;refine .qt rfl ?_;simp (disch:=first|exact zb|fail) only [go_sem,seval,d1];refine .qT rfl ?_;refine .qt rfl ?_;simp (disch:=first|exact zb|fail) only [go_sem,seval];refine .qr rfl Tryz.func51 (by rw [Tryz.results51]) ?_;simp (disch:=first|exact zb|fail) only [go_sem,seval];exact h
 · have d1:decide (i < 0)=false:=decide_eq_false c1;by_cases c2:(s.l.length:Int)≤i
   · have d2:decide ((s.l.length:Int)≤i)=true:=decide_eq_true c2;rw [if_pos (.inr c2)] at h;refine .qt rfl ?_;simp (disch:=first|exact zb|fail) only [go_sem,seval,d1,d2];refine .qT rfl ?_;refine .qt rfl ?_;simp (disch:=first|exact zb|fail) only [go_sem,seval];refine .qr rfl Tryz.func51 (by rw [Tryz.results51]) ?_;simp (disch:=first|exact zb|fail) only [go_sem,seval];exact h
   · have d2:decide ((s.l.length:Int)≤i)=false:=decide_eq_false c2;rw [if_neg (by omega)] at h
     obtain⟨k,rfl⟩ : ∃ k:Nat,i=k:=⟨i.toNat,by omega⟩
     rw [Int.toNat_natCast] at h
     have hk:k < s.gone.length:=by omega
     refine .qt rfl ?_;simp (disch:=first|exact zb|fail) only [go_sem,seval,d1,d2];refine .qF rfl ?_;refine .skip ?_;refine .qt rfl ?_;simp (disch:=first|exact zb|fail) only [go_sem,seval]
     cases hn:nth s.gone k with
     | true =>
      rw [hn,if_pos rfl] at h;refine .q ?_;refine .ifT (by simp (disch:=first|exact zb|fail) only [go_sem,seval,hn]) ?_;refine .qt rfl ?_;simp (disch:=first|exact zb|fail) only [go_sem,seval];refine .qr rfl Tryz.func51 (by rw [Tryz.results51]) ?_;simp (disch:=first|exact zb|fail) only [go_sem,seval];exact h
     | false =>
      rw [hn,if_neg (by decide)] at h;refine .q ?_;refine .ifF (by simp (disch:=first|exact zb|fail) only [go_sem,seval,hn]) ?_;refine .skip ?_;refine .q ?_;refine .region ?_;refine .buildVec (sz:=1) (cs:=[]) (by simp (disch:=first|exact zb|fail) only [go_sem,seval,yx,zaa]<;>rfl) (by rfl) ?_;refine .run ?_;simp (disch:=first|exact zb|fail) only [go_sem,seval,zjP];refine .qt rfl ?_;simp (disch:=first|exact zb|fail) only [go_sem,seval];refine .q ?_;refine .frzV 6 (by simp (disch:=first|exact zb|fail) only [go_sem,seval];rfl) (by simp (disch:=first|exact zb|fail) only [go_sem,seval]<;>rfl) (xs:=pl bo (s.gone.set k true)) (by rw [zjP,zsO]) (by rw [zct,List.length_set]) zBO ?_;(try simp (disch:=first|exact zb|fail) only [go_sem,seval]);refine .qt rfl ?_;simp (disch:=first|exact zb|fail) only [go_sem,seval,zCz];refine .qr rfl Tryz.func51 (by rw [Tryz.results51]) ?_;simp (disch:=first|exact zb|fail) only [go_sem,seval];exact h
set_option maxHeartbeats 1000000 in
theorem zkx (a b c:BitVec 8) (H:Hp) (R:AV → Hp → Prop) (h:R (.tup [.p (rdg (rd3 a b c)),.p (i64 0)]) H):ACall Tryz.prog G 110 [.p (.sl false 1 (pl b8 [a,b,c]))] H R:=by
 have n0:nth [a,b,c] 0=a:=rfl;have n1:nth [a,b,c] 1=b:=rfl;have n2:nth [a,b,c] 2=c:=rfl;have hl:[a,b,c].length=3:=rfl;have rr:zI Tryz.prog .rem 5 (.p (b8 a)) (.p (b8 16#8))=some (.p (b8 (a % 16#8))):=zgV _ _ _ _ (by decide);have rq:zI Tryz.prog .quo 5 (.p (b8 a)) (.p (b8 16#8))=some (.p (b8 (a / 16#8))):=zgU _ _ _ _ (by decide)
 refine ACall.of_run (raw:=[]) Tryz.func110 rfl Tryz.ntmps110 (by simp) fun hbel => ?_
 refine .qt rfl ?_;simp (disch:=first|exact zb|fail) only [go_sem,seval];refine .qt rfl ?_;simp (disch:=first|exact zb|fail) only [go_sem,seval,hl];refine .qF rfl ?_;refine .skip ?_;refine .q ?_;refine .open [19,20] follows (by kernel_rfl) ?_;simp (disch:=first|exact zb|fail) only [go_sem,seval,n0,n1,n2,rr,rq];refine .qr rfl Tryz.func110 (by rw [Tryz.results110]) ?_;simp (disch:=first|exact zb|fail) only [go_sem,seval];exact h
theorem zis (a b c:BitVec 8) (H:Hp) (R:AV → Hp → Prop) (h:R (.p (rdg (rd3 a b c))) H):ACall Tryz.prog G 53 [.p (.agg [b8 a,b8 b,b8 c])] H R:=by
 have h3:zj (.p (.agg [b8 a,b8 b,b8 c]))=some [.p (b8 a),.p (b8 b),.p (b8 c)]:=rfl
 refine ACall.of_run (raw:=[]) Tryz.func53 rfl Tryz.ntmps53 (by simp) fun hbel => ?_
 refine .qt rfl ?_;simp (disch:=first|exact zb|fail) only [go_sem,seval,h3];refine .qt rfl ?_;simp (disch:=first|exact zb|fail) only [go_sem,seval];refine CallK.of (fun R h=>zkx a b c _ R h) ?_;simp (disch:=first|exact zb|fail) only [go_sem,seval];refine .qt rfl ?_;simp (disch:=first|exact zb|fail) only [go_sem,seval];refine .qr rfl Tryz.func53 (by rw [Tryz.results53]) ?_;simp (disch:=first|exact zb|fail) only [go_sem,seval];exact h
end walks
end Go.Proofs.YthaoifcebimkfaaGreatDoor

namespace Go.Proofs.YthaoifcebimkfaaGreatDoor
open Go Go.AL

structure SOp where
 a:BitVec 8
 b:BitVec 8
 c:BitVec 8
 back:Bool
instance:Inhabited SOp:=⟨⟨0,0,0,false⟩⟩
def sop (o:SOp):PV := .agg [b8 o.a,b8 o.b,b8 o.c,bo o.back]
structure okS (m:Nat) (s:Strm):Prop where
 len:s.l.length≤m
 gl:s.gone.length=s.l.length
 v : ∀ r∈s.l,vR r
theorem okS.nil (m:Nat):okS m ⟨[],[]⟩:=⟨Nat.zero_le _,rfl,fun _ h=>by cases h⟩
theorem okS.take {m:Nat} {s:Strm} (h:okS m s) {r:Rdg} (hr:vR r) (hl:s.l.length < m):okS m ⟨s.l++[r],s.gone++[false]⟩ :=
 ⟨by simp;omega,by simp [h.gl],fun x hx=>by
  rcases List.mem_append.1 hx with e | e
  · exact h.v x e
  · rw [List.mem_singleton.1 e];exact hr⟩
theorem okS.ret {m:Nat} {s:Strm} (h:okS m s) {i:Int} (h0:(zir s i).2=0):okS m (zir s i).1:=by
 unfold zir at h0 ⊢
 split
 · rename_i e;rw [if_pos e] at h0;cases h0
 · rename_i e;rw [if_neg e] at h0
   split
   · rename_i e2;rw [if_pos e2] at h0;cases h0
   · exact⟨h.len,by simp [h.gl],h.v⟩
structure TI (H' H:Hp) (s:Strm):Prop where
 r:H'.f H.n=some (.cells [.p (.sl true 4 []),.p (.sl true 1 [])])
 s:H'.f (H.n+1)=some (.cells [.p (.sl false 4 (pl rdg s.l)),.p (.sl false 1 (pl bo s.gone))])
 n:H.n+2≤H'.n
 low : ∀ b,b < H.n → H'.f b=H.f b
 z:H'.z=H.z
section walks
variable {G:Globs}
theorem zag {o:SOp}:(sop o).cells=[b8 o.a,b8 o.b,b8 o.c,bo o.back]:=rfl
theorem zjf {o:SOp}:(sop o).aggOf 0 3 = .agg [b8 o.a,b8 o.b,b8 o.c]:=rfl
set_option maxHeartbeats 16000000 in
set_option maxRecDepth 20000 in
theorem zqv (l:List SOp) (m:Nat) (hm:m≤1000) (hl:l.length≤9223372036854775807) (H:Hp) (R:AV → Hp → Prop) (h : ∀ s,okS m s → R (.p (stm s)) H):ACall Tryz.prog G 14 [.p (.sl false 4 (pl sop l)),.p (i64 m)] H R:=by
 refine ACall.of_run (raw:=[]) Tryz.func14 rfl Tryz.ntmps14 (by simp) fun hbel => ?_
 refine .qt rfl ?_;simp (disch:=first|exact zb|fail) only [go_sem,seval];refine .qt rfl ?_;simp (disch:=first|exact zb|fail) only [go_sem,seval];refine .qt rfl ?_;simp (disch:=first|exact zb|fail) only [go_sem,seval];refine .q ?_;refine .weakC (H.n+1) (by simp (disch:=first|exact zb|fail) only [go_sem,seval];rfl) ?_;(try simp (disch:=first|exact zb|fail) only [go_sem,seval,List.map_replicate,List.map_cons,List.map_nil,AV.weak,PV.weak])
 obtain⟨K,hK⟩ : ∃ K,K=(H.new (.cells [.p (.sl true 4 []),.p (.sl true 1 [])])).new (.cells [.p (.sl false 4 []),.p (.sl false 1 [])]):=⟨_,rfl⟩
 have hT0:TI K H ⟨[],[]⟩:=by
  rw [hK]
  refine⟨?_,?_,?_,fun b hb => ?_,rfl⟩
  · simp (disch:=first|exact zb|fail) only [go_sem,seval]
  · simp (disch:=first|exact zb|fail) only [go_sem,seval];rfl
  · simp only [n_new'];omega
  · simp (disch:=first|exact zb|fail) only [go_sem,seval]
 rw [←hK]
 clear hK
 refine .q ?_;refine .count (fun i env H'=>env 0 = .p (.sl false 4 (pl sop l))∧env 1 = .p (i64 m)∧env 4 = .ptr H.n 0∧env 5 = .ptr (H.n+1) 0∧env 6 = .p (i64 i) ∧ ∃ s,okS m s∧TI H' H s) 0 l.length (by omega) ?_ ?_ ?_
 · refine⟨?_,?_,?_,?_,?_,⟨[],[]⟩,okS.nil m,hT0⟩<;>simp (disch:=first|exact zb|fail) only [go_sem,seval]
 · rintro env K ⟨e0,e1,e4,e5,e6,s,hs,hT⟩
   have hn:=hT.n;have hfin:=h s hs
   have htr:K.trunc H.n=H:=by
    refine Hp.ext (fun b => ?_) rfl hT.z;rw [Hp.f_trunc]
    split
    · exact hT.low b (by assumption)
    · exact (H.wf b (by omega)).symm
   have hbel:Bel H.n K:=fun b x hb hx=>hbel b x hb (by rw [←hT.low b hb];exact hx)
   refine .qt rfl ?_;simp (disch:=first|exact zb|fail) only [go_sem,seval,e0,e6];refine .qF rfl ?_;refine .qt rfl ?_;simp (disch:=first|exact zb|fail) only [go_sem,seval,e4,e5,hT.s,hT.r];refine .qr rfl Tryz.func14 (by rw [Tryz.results14]) (hx:=by simp (disch:=first|exact zb|fail) only [go_sem,seval,e4];rfl) ?_;simp (disch:=first|exact zb|fail) only [go_sem,seval,e4];rw [htr];exact hfin
 · rintro i env K hi0 hi ⟨e0,e1,e4,e5,e6,s,hs,hT⟩ ihO
   have hn:=hT.n
   obtain⟨s1,s2,s3⟩:=hs
   have hs':okS m s:=⟨s1,s2,s3⟩
   obtain⟨x,hx⟩ : ∃ x,x=nth l i:=⟨_,rfl⟩
   refine .qt rfl ?_;simp (disch:=first|exact zb|fail) only [go_sem,seval,e0,e6];refine .qT rfl ?_
   cases hb:x.back with
   | true =>
    rcases Classical.em (0 < s.l.length) with hl0 | hl0
    · refine .qt rfl ?_;simp (disch:=first|exact zb|fail) only [go_sem,seval,e0,e5,e6,hT.s,zag,←hx,hb];refine .qT rfl ?_;have hJ0:K.f (H.n+1)=some (.cells [.p (.sl false 4 (pl rdg s.l)),.p (.sl false 1 (pl bo s.gone))]):=hT.s;refine .q ?_;refine .cut (fun env2 H2 => ∃ b,env2 0 = .p (.sl false 4 (pl sop l))∧env2 1 = .p (i64 m)∧env2 4 = .ptr H.n 0∧env2 5 = .ptr (H.n+1) 0∧env2 6 = .p (i64 i)∧env2 7 = .ptr b 0∧env2 8 = .p (i64 (zir s ((x.a.toNat:Int) % (s.l.length:Int))).2)∧H2.f b=some (.cells [.p (.sl false 4 (pl rdg (zir s ((x.a.toNat:Int) % (s.l.length:Int))).1.l)),.p (.sl false 1 (pl bo (zir s ((x.a.toNat:Int) % (s.l.length:Int))).1.gone))])∧TI H2 H s) (fun ih => ?_) ?_
      · refine .q ?_;refine .openJ2 (E := ?E1) (fun H'=>H'.f (H.n+1)=some (.cells [.p (.sl false 4 (pl rdg s.l)),.p (.sl false 1 (pl bo s.gone))])) [0,1,2,3,4,5,6,7,8,9,10,11] [13,14,15] 12 16 [13,14,15,16,17,18] [12,13,14,15,17,18] [true,false,false,false,true,false,false] [true,true,false,false,false,false,false] follows (by kernel_rfl) (by first | exact rfl | assumption | simp (disch:=first|exact zb|fail) only [go_sem,seval]) (fun H2 hJ => ?hP1) ?_ ?_;(case hP1=>((try dsimp only at hJ);simp (disch:=first|exact zb|fail) only [go_sem,seval,e0,e5,e6,zag,←hx,hJ];(try exact rfl)));all_goals simp (disch:=first|exact zb|fail) only [go_sem,seval,e0,e5,e6,zag,←hx]
        · refine CallJ.still (fun R h=>zei s ((x.a.toNat:Int) % (s.l.length:Int)) (by omega) s2 _ R h) ⟨.inr hJ0,?_⟩;simp (disch:=first|exact zb|fail) only [go_sem,seval,hJ0];refine ih _ _ ⟨K.n,?_,?_,?_,?_,?_,?_,?_,zm rfl,⟨?_,?_,?_,fun b hb => ?_,hT.z⟩⟩
          · simp (disch:=first|exact zb|fail) only [go_sem,seval,e0]
          · simp (disch:=first|exact zb|fail) only [go_sem,seval,e1]
          · simp (disch:=first|exact zb|fail) only [go_sem,seval,e4]
          · simp (disch:=first|exact zb|fail) only [go_sem,seval,e5]
          · simp (disch:=first|exact zb|fail) only [go_sem,seval,e6]
          · simp (disch:=first|exact zb|fail) only [go_sem,seval]
          · simp (disch:=first|exact zb|fail) only [go_sem,seval]
          · rw [zc (by omega)];exact hT.r
          · rw [zc (by omega)];exact hT.s
          · rw [n_new'];omega
          · rw [zc (by omega)];exact hT.low b hb
        · refine⟨hJ0,CallJ.still (fun R h=>zei s ((x.a.toNat:Int) % (s.l.length:Int)) (by omega) s2 _ R h) ⟨.inr ((zc (by omega)).trans hJ0),?_⟩⟩
          simp (disch:=first|exact zb|fail) only [go_sem,seval];refine ih _ _ ⟨K.n,?_,?_,?_,?_,?_,?_,?_,zm rfl,⟨?_,?_,?_,fun b hb => ?_,hT.z⟩⟩
          · simp (disch:=first|exact zb|fail) only [go_sem,seval,e0]
          · simp (disch:=first|exact zb|fail) only [go_sem,seval,e1]
          · simp (disch:=first|exact zb|fail) only [go_sem,seval,e4]
          · simp (disch:=first|exact zb|fail) only [go_sem,seval,e5]
          · simp (disch:=first|exact zb|fail) only [go_sem,seval,e6]
          · simp (disch:=first|exact zb|fail) only [go_sem,seval]
          · simp (disch:=first|exact zb|fail) only [go_sem,seval]
          · rw [zc (by omega)];exact hT.r
          · rw [zc (by omega)];exact hT.s
          · rw [n_new'];omega
          · rw [zc (by omega)];exact hT.low b hb
      rintro env W ⟨b,e0,e1,e4,e5,e6,e7,e8,hbv,hT⟩
      rcases Classical.em ((zir s ((x.a.toNat:Int) % (s.l.length:Int))).2=0) with hz | hz
      · have hs2:=hs'.ret hz;refine .qt rfl ?_;simp (disch:=first|exact zb|fail) only [go_sem,seval,e8];refine .qT rfl ?_;have hnW:=hT.n;refine .qt rfl ?_;simp (disch:=first|exact zb|fail) only [go_sem,seval,e5,e7,hbv,hT.s];refine .qt rfl ?_;simp (disch:=first|exact zb|fail) only [go_sem,seval,e6];refine ihO _ _ ⟨?_,?_,?_,?_,?_,_,hs2,⟨?_,zo rfl (by omega),by rw [n_set'];exact hnW,fun b hb=>by rw [f_set_ne' (by omega)];exact hT.low b hb,hT.z⟩⟩
        · simp (disch:=first|exact zb|fail) only [go_sem,seval,e0]
        · simp (disch:=first|exact zb|fail) only [go_sem,seval,e1]
        · simp (disch:=first|exact zb|fail) only [go_sem,seval,e4]
        · simp (disch:=first|exact zb|fail) only [go_sem,seval,e5]
        · simp (disch:=first|exact zb|fail) only [go_sem,seval]
        · rw [f_set_ne' (by omega)];exact hT.r
      · refine .qt rfl ?_;simp (disch:=first|exact zb|fail) only [go_sem,seval,e8];refine .qF rfl ?_;refine .skip ?_;refine .qt rfl ?_;simp (disch:=first|exact zb|fail) only [go_sem,seval,e6];refine ihO _ _ ⟨?_,?_,?_,?_,?_,s,hs',hT⟩<;>simp (disch:=first|exact zb|fail) only [go_sem,seval,e0,e1,e4,e5]
    · refine .qt rfl ?_;simp (disch:=first|exact zb|fail) only [go_sem,seval,e0,e5,e6,hT.s,zag,←hx,hb];refine .qF rfl ?_;refine .qt rfl ?_;simp (disch:=first|exact zb|fail) only [go_sem,seval,e0,e5,e6,hT.s,zag,←hx,hb];refine .qF rfl ?_;refine .skip ?_;refine .qt rfl ?_;simp (disch:=first|exact zb|fail) only [go_sem,seval,e6];refine ihO _ _ ⟨?_,?_,?_,?_,?_,s,hs',hT⟩<;>simp (disch:=first|exact zb|fail) only [go_sem,seval,e0,e1,e4,e5]
   | false =>
    refine .qt rfl ?_;simp (disch:=first|exact zb|fail) only [go_sem,seval,e0,e5,e6,hT.s,zag,←hx,hb];refine .qF rfl ?_
    rcases Classical.em (s.l.length < m) with hl0 | hl0
    · refine .qt rfl ?_;simp (disch:=first|exact zb|fail) only [go_sem,seval,e0,e1,e5,e6,hT.s,zag,←hx,hb];refine .qT rfl ?_;have hJ0:K.f (H.n+1)=some (.cells [.p (.sl false 4 (pl rdg s.l)),.p (.sl false 1 (pl bo s.gone))]):=hT.s;refine .q ?_;refine .openJ (E := ?E2) (fun H'=>H'.f (H.n+1)=some (.cells [.p (.sl false 4 (pl rdg s.l)),.p (.sl false 1 (pl bo s.gone))])) [0,1,2,3,4,5] [8,9,10] [6,7,8,9,10,11] [true,true,false,false,false,false] follows (by kernel_rfl) (by first | exact rfl | assumption | simp (disch:=first|exact zb|fail) only [go_sem,seval]) (fun H2 hJ => ?hP2) ?_;(case hP2=>((try dsimp only at hJ);simp (disch:=first|exact zb|fail) only [go_sem,seval,e0,e5,e6,zag,zjf,←hx,hJ];(try exact rfl)));simp (disch:=first|exact zb|fail) only [go_sem,seval,e0,e5,e6,zag,zjf,←hx];refine CallJ.still (fun R h=>zis x.a x.b x.c _ R h) ⟨.inr hJ0,?_⟩;simp (disch:=first|exact zb|fail) only [go_sem,seval];refine CallJ.still (fun R h=>zqu s (rd3 x.a x.b x.c) (by omega) (by omega) zCU _ R h) ⟨.inr hJ0,?_⟩;simp (disch:=first|exact zb|fail) only [go_sem,seval,hJ0,e5];refine .qt rfl ?_;simp (disch:=first|exact zb|fail) only [go_sem,seval,e6];refine ihO _ _ ⟨?_,?_,?_,?_,?_,_,hs'.take (r:=rd3 x.a x.b x.c) zCU hl0,⟨?_,zo rfl (by omega),by rw [n_set'];exact hn,fun b hb=>by rw [f_set_ne' (by omega)];exact hT.low b hb,hT.z⟩⟩
      · simp (disch:=first|exact zb|fail) only [go_sem,seval,e0]
      · simp (disch:=first|exact zb|fail) only [go_sem,seval,e1]
      · simp (disch:=first|exact zb|fail) only [go_sem,seval,e4]
      · simp (disch:=first|exact zb|fail) only [go_sem,seval,e5]
      · simp (disch:=first|exact zb|fail) only [go_sem,seval]
      · rw [f_set_ne' (by omega)];exact hT.r
    · refine .qt rfl ?_;simp (disch:=first|exact zb|fail) only [go_sem,seval,e0,e1,e5,e6,hT.s,zag,←hx,hb];refine .qF rfl ?_;refine .skip ?_;refine .qt rfl ?_;simp (disch:=first|exact zb|fail) only [go_sem,seval,e6];refine ihO _ _ ⟨?_,?_,?_,?_,?_,s,hs',hT⟩<;>simp (disch:=first|exact zb|fail) only [go_sem,seval,e0,e1,e4,e5]
end walks
end Go.Proofs.YthaoifcebimkfaaGreatDoor

namespace Go.Proofs.YthaoifcebimkfaaGreatDoor
open Go Go.AL

def elC (s:Strm) (c i:Nat):U:=if i < s.l.length then (if c < 4 then BitVec.ofInt 64 (fR (nth s.l i) c) else if nth s.gone i then 0#64 else 1#64) else 0#64
def zce (s:Strm) (n c:Nat):List U:=(List.range n).map (elC s c)
def zN (s:Strm) (n:Nat):List (List U):=(List.range 5).map (zce s n)
def zci (s:Strm) (n c b:Nat):List U:=(List.range n).map fun i=>(elC s c i >>> b) &&& 1#64
def zcf (s:Strm) (k:Int):Int:=if k < 0 ∨ 16 < k then 1 else if 2 ^ k.toNat < s.l.length then 2 else 0
def zfi (s:Strm) (n c i:Nat):List U:=(List.range n).map fun j=>if j < i then elC s c j else 0#64
theorem zAb {s:Strm} {n c i:Nat}:(zfi s n c i).length=n:=by simp [zfi]
theorem zvx {s:Strm} {n c:Nat}:zfi s n c 0=List.replicate n 0#64:=by
 apply List.ext_getElem<;>simp [zfi]
theorem zAc {s:Strm} {n c:Nat} (h:s.l.length≤n):zfi s n c s.l.length=zce s n c:=by
 unfold zfi zce
 refine List.map_congr_left fun j _ => ?_
 split
 · rfl
 · rename_i e;unfold elC;rw [if_neg e]
theorem zvy {s:Strm} {n c i:Nat} (h:i < n):(zfi s n c i).set i (elC s c i)=zfi s n c (i+1):=by
 apply List.ext_getElem
 · simp [zfi]
 · intro j h1 h2;simp only [zfi,List.getElem_set,List.getElem_map,List.getElem_range];by_cases e:i=j
   · subst e;simp
   · rw [if_neg e];by_cases e2:j < i
     · rw [if_pos e2,if_pos (by omega)]
     · rw [if_neg e2,if_neg (by omega)]
theorem zvz {s:Strm} {n c i:Nat} (h:elC s c i=0#64):zfi s n c i=zfi s n c (i+1):=by
 unfold zfi
 refine List.map_congr_left fun j _ => ?_
 by_cases e:i=j
 · subst e;simp [h]
 · by_cases e2:j < i
   · rw [if_pos e2,if_pos (by omega)]
   · rw [if_neg e2,if_neg (by omega)]
structure LowE (H H':Hp):Prop where
 n:H.n≤H'.n
 f : ∀ b,b < H.n → H'.f b=H.f b
 z:H'.z=H.z
theorem LowE.refl {H:Hp}:LowE H H:=⟨Nat.le_refl _,fun _ _=>rfl,rfl⟩
theorem LowE.trans {H H1 H2:Hp} (h:LowE H H1) (h':LowE H1 H2):LowE H H2:=⟨Nat.le_trans h.n h'.n,fun b hb=>(h'.f b (Nat.lt_of_lt_of_le hb h.n)).trans (h.f b hb),h'.z.trans h.z⟩
theorem LowE.new {H:Hp} (x:AB):LowE H (H.new x):=⟨by rw [n_new'];omega,fun b hb=>zc (by omega),rfl⟩
theorem LowE.set {H H':Hp} {b:Nat} (h:LowE H H') (x:AB) (hb:H.n≤b):LowE H (H'.set b x):=⟨by rw [n_set'];exact h.n,fun c hc=>by rw [f_set_ne' (by omega)];exact h.f c hc,h.z⟩
theorem LowE.back {H H':Hp} (h:LowE H H'):H'.trunc H.n=H:=by
 refine Hp.ext (fun b => ?_) rfl h.z;rw [Hp.f_trunc]
 split
 · exact h.f b (by assumption)
 · exact (H.wf b (by omega)).symm
theorem LowE.bel {H H':Hp} (h:LowE H H') (hb:Bel H.n H):Bel H.n H':=fun b x hb' hx=>hb b x hb' (by rw [←h.f b hb'];exact hx)
def zEg (cs:List (List U)) (H:Hp) (r:AV) (H':Hp):Prop := ∃ α,r = .tup [.vr α cs.length 1,.p (i64 0)]∧H'.f α=some (.vec (cl (yu 1 zh) cs))∧H.n≤α∧LowE H H'
section walks
variable {G:Globs}
theorem zgw {k n:Nat} (hk:k≤5) (hn:n=2 ^ k):zI Tryz.prog .shl 3 (.p (i64 1)) (.p (i64 k))=some (.p (i64 n)):=by
 subst hn
 have:k=0 ∨ k=1 ∨ k=2 ∨ k=3 ∨ k=4 ∨ k=5:=by omega
 rcases this with rfl | rfl | rfl | rfl | rfl | rfl<;>rfl
set_option maxHeartbeats 16000000 in
set_option maxRecDepth 20000 in
theorem zej (s:Strm) (m:Nat) (hs:okS m s) (k n:Nat) (hk:k≤5) (hn:n=2 ^ k) (hl:s.l.length≤n) (H:Hp):ACall Tryz.prog G 57 [.p (stm s),.p (i64 k)] H (zEg (zN s n) H):=by
 refine ACall.of_run (raw:=[]) Tryz.func57 rfl Tryz.ntmps57 (by simp) fun hbel => ?_
 have hsh:=zgw hk hn
 have hn32:n≤32:=by
  have:2 ^ k≤2 ^ 5:=Nat.pow_le_pow_right (by decide) hk
  omega
 refine .qt rfl ?_;simp (disch:=first|exact zb|fail) only [go_sem,seval];refine .qt rfl ?_;simp (disch:=first|exact zb|fail) only [go_sem,seval];refine .qF rfl ?_;refine .skip ?_;refine .q ?_;refine .open [] follows (by kernel_rfl) ?_;simp (disch:=first|exact zb|fail) only [go_sem,seval,hsh];refine .qF rfl ?_;refine .skip ?_;refine .qt rfl ?_;simp (disch:=first|exact zb|fail) only [go_sem,seval];refine .q ?_;refine .vec 6 (by simp (disch:=first|exact zb|fail) only [go_sem,seval];rfl) ?_;(try simp (disch:=first|exact zb|fail) only [go_sem,seval]);refine .qt rfl ?_;simp (disch:=first|exact zb|fail) only [go_sem,seval]
 obtain⟨K0,hK0⟩ : ∃ K0,K0=(H.new (.cells [.p (.sl false 4 (pl rdg s.l)),.p (.sl false 1 (pl bo s.gone))])):=⟨_,rfl⟩
 have hK0n:K0.n=H.n+1:=by rw [hK0,n_new']
 have hK0s:K0.f H.n=some (.cells [.p (.sl false 4 (pl rdg s.l)),.p (.sl false 1 (pl bo s.gone))]):=by rw [hK0];exact zm rfl
 have hK0L:LowE H K0:=by rw [hK0];exact .new _
 rw [←hK0]
 clear hK0
 refine .q ?_;refine .count (fun c env H'=>env 1 = .p (i64 k)∧env 2 = .ptr H.n 0∧env 6 = .vr (H.n+1) c 1∧env 7 = .p (i64 c)∧H'.f H.n=some (.cells [.p (.sl false 4 (pl rdg s.l)),.p (.sl false 1 (pl bo s.gone))])∧H'.f (H.n+1)=some (.vec (cl (yu 1 zh) ((zN s n).take c)))∧H.n+2≤H'.n∧LowE H H') 0 5 (by omega) ?_ ?_ ?_
 · refine⟨?_,?_,?_,?_,?_,?_,?_,hK0L.trans (.new _)⟩
   · simp (disch:=first|exact zb|fail) only [go_sem,seval]
   · simp (disch:=first|exact zb|fail) only [go_sem,seval]
   · simp (disch:=first|exact zb|fail) only [go_sem,seval,hK0n]
   · simp (disch:=first|exact zb|fail) only [go_sem,seval]
   · rw [zc (by omega)];exact hK0s
   · rw [zm (by rw [hK0n]),List.take_zero];rfl
   · rw [n_new'];omega
 · rintro env K ⟨e1,e2,e6,e7,hq,ht,hn2,hlo⟩
   have h5:(zN s n).take 5=zN s n:=List.take_of_length_le (by simp [zN]);rw [h5] at ht;refine .qt rfl ?_;simp (disch:=first|exact zb|fail) only [go_sem,seval,e7];refine .qF rfl ?_;refine .qt rfl ?_;simp (disch:=first|exact zb|fail) only [go_sem,seval,e6];refine .q ?_;refine .retKeep Tryz.func57 (by rw [Tryz.results57]) (by simp (disch:=first|exact zb|fail) only [go_sem,seval];rfl) ?_;(try simp (disch:=first|exact zb|fail) only [go_sem,seval])
   exact⟨H.n+1,by simp [zN],ht,by omega,hlo⟩
 · rintro c env K hc0 hc ⟨e1,e2,e6,e7,hq,ht,hn2,hlo⟩ ihO
   refine .qt rfl ?_;simp (disch:=first|exact zb|fail) only [go_sem,seval,e7];refine .qT rfl ?_;refine .qt rfl ?_;simp (disch:=first|exact zb|fail) only [go_sem,seval,e1,hsh];refine .qt rfl ?_;simp (disch:=first|exact zb|fail) only [go_sem,seval]
   have hq2 : ∀ x,(K.new x).f H.n=some (.cells [.p (.sl false 4 (pl rdg s.l)),.p (.sl false 1 (pl bo s.gone))]):=fun x=>by rw [zc (by omega)];exact hq
   rw [←zvx (s:=s) (c:=c)];refine .q ?_;refine .loopH [1,2,6,7] (fun i=>[(8,.ref K.n 0 n 1),(9,.p (i64 i))]) (fun i=>K.new (.cells (cl zh (zfi s n c i)))) (fun i=>True) (0) (s.l.length) (by omega) ?_ (by first | rfl | (simp (disch:=first|exact zb|fail) only [go_sem,seval,e1,e2,e6,e7]<;>rfl)) ?_ ?_ ?_
   · simp (disch:=first|exact zb|fail) only [go_sem,seval,e1,e2,e6,e7]<;>(repeat' (first | rfl | refine And.intro ?_ ?_))
   · exact trivial
   intro env A hQ;simp (disch:=first|exact zb|fail) only [go_sem,seval,e1,e2,e6,e7] at A
   rotate_left 1
   intro i env hi0 hi A hQ ihA;simp (disch:=first|exact zb|fail) only [go_sem,seval,e1,e2,e6,e7] at A
   rotate_left 1
   · rw [zAc hl];refine .qt rfl ?_;simp (disch:=first|exact zb|fail) only [go_sem,seval,A,hq2];refine .qF rfl ?_
     have hcl:(zce s n c).length=n:=by simp [zce]
     have htk:((zce s n c).drop 0).take n=zce s n c:=by rw [List.drop_zero];exact List.take_of_length_le (by omega)
     refine .q ?_;refine .frzS 8 (by simp (disch:=first|exact zb|fail) only [go_sem,seval,A,hcl,htk];rfl) (by simp (disch:=first|exact zb|fail) only [go_sem,seval,A,hcl,htk]<;>rfl) (fun _=>rfl) (by first | exact zb | fail) ?_;(try simp (disch:=first|exact zb|fail) only [go_sem,seval,A,hcl,htk])
     have hap:cl (yu 1 zh) ((zN s n).take c)++[.p (.sl false 1 (pl zh (zce s n c)))]=cl (yu 1 zh) ((zN s n).take (c+1)):=by
      have hlt:c < (zN s n).length:=by simp [zN];omega
      rw [List.take_succ_eq_append_getElem hlt,←zdZ]
      congr 1
      simp [zN,cl,yu]
     have hc5:(zN s n).length=5:=by simp [zN]
     obtain⟨W,hW⟩ : ∃ W,W=K.new .dead:=⟨_,rfl⟩
     rw [←hW]
     have hWn:W.n=K.n+1:=by rw [hW,n_new']
     have htl:W.f (H.n+1)=some (.vec (cl (yu 1 zh) ((zN s n).take c))):=by rw [hW,zc (by omega)];exact ht
     have hWq:W.f H.n=some (.cells [.p (.sl false 4 (pl rdg s.l)),.p (.sl false 1 (pl bo s.gone))]):=by rw [hW,zc (by omega)];exact hq
     have hWl:LowE H W:=by rw [hW];exact hlo.trans (.new _)
     have hcl5:(cl (yu 1 zh) ((zN s n).take c)).length=c:=by rw [zcu,List.length_take,hc5];omega
     clear hW
     refine .qt rfl ?_;simp (disch:=first|exact zb|fail) only [go_sem,seval,A,htl,hap,hcl5];refine .qt rfl ?_;simp (disch:=first|exact zb|fail) only [go_sem,seval,A];refine ihO _ _ ⟨?_,?_,?_,?_,?_,zo rfl (by omega),by rw [n_set'];omega,hWl.set _ (by omega)⟩
     · simp (disch:=first|exact zb|fail) only [go_sem,seval,A,e1]
     · simp (disch:=first|exact zb|fail) only [go_sem,seval,A,e2]
     · simp (disch:=first|exact zb|fail) only [go_sem,seval,A]
     · simp (disch:=first|exact zb|fail) only [go_sem,seval,A]
     · rw [f_set_ne' (by omega)];exact hWq
   · have hfl:=zAb (s:=s) (n:=n) (c:=c) (i:=i)
     have hin:i < n:=by omega
     have hset:=zvy (s:=s) (c:=c) hin;refine .qt rfl ?_;simp (disch:=first|exact zb|fail) only [go_sem,seval,A,hq2];refine .qT rfl ?_
     rcases Classical.em (c < 4) with c4 | c4
     · have hel:elC s c i=BitVec.ofInt 64 (fR (nth s.l i) c):=by unfold elC;rw [if_pos hi,if_pos c4]
       rw [hel] at hset;refine .qt rfl ?_;simp (disch:=first|exact zb|fail) only [go_sem,seval,A];refine .qT rfl ?_;refine .qt rfl ?_;simp (disch:=first|exact zb|fail) only [go_sem,seval,A,hq2];refine CallK.of (fun R h=>zqt (nth s.l i) c c4 _ R h) ?_;simp (disch:=first|exact zb|fail) only [go_sem,seval,A,hfl];rw [hset];refine .qt rfl ?_;simp (disch:=first|exact zb|fail) only [go_sem,seval,A]
       first | (refine ihA _ _ ?_ trivial ?_) | (refine .z rfl ?_;refine ihA _ _ ?_ trivial ?_) | (refine .z rfl ?_;refine .z rfl ?_;refine ihA _ _ ?_ trivial ?_) | (refine .z rfl ?_;refine .z rfl ?_;refine .z rfl ?_;refine ihA _ _ ?_ trivial ?_)
       · simp (disch:=first|exact zb|fail) only [go_sem,seval,A,e1,e2,e6,e7]<;>(repeat' (first | rfl | refine And.intro ?_ ?_))
       · first | rfl | (simp (disch:=first|exact zb|fail) only [go_sem,seval,A,e1,e2,e6,e7]<;>(try rfl))
     · have c5:c=4:=by omega
       have hgl:i < s.gone.length:=by have:=hs.gl;omega
       refine .qt rfl ?_;simp (disch:=first|exact zb|fail) only [go_sem,seval,A];refine .qF rfl ?_;refine .qt rfl ?_;simp (disch:=first|exact zb|fail) only [go_sem,seval,A,hq2]
       cases hg:nth s.gone i with
       | true =>
        have hel:elC s c i=0#64:=by unfold elC;rw [if_pos hi,if_neg c4,hg];rfl
        refine .q ?_;refine .ifF (by simp (disch:=first|exact zb|fail) only [go_sem,seval,hg]) ?_;refine .skip ?_;refine .qt rfl ?_;simp (disch:=first|exact zb|fail) only [go_sem,seval,A];rw [zvz hel]
        first | (refine ihA _ _ ?_ trivial ?_) | (refine .z rfl ?_;refine ihA _ _ ?_ trivial ?_) | (refine .z rfl ?_;refine .z rfl ?_;refine ihA _ _ ?_ trivial ?_) | (refine .z rfl ?_;refine .z rfl ?_;refine .z rfl ?_;refine ihA _ _ ?_ trivial ?_)
        · simp (disch:=first|exact zb|fail) only [go_sem,seval,A,e1,e2,e6,e7]<;>(repeat' (first | rfl | refine And.intro ?_ ?_))
        · first | rfl | (simp (disch:=first|exact zb|fail) only [go_sem,seval,A,e1,e2,e6,e7]<;>(try rfl))
       | false =>
        have hel:elC s c i=1#64:=by unfold elC;rw [if_pos hi,if_neg c4,hg];rfl
        rw [hel] at hset;refine .q ?_;refine .ifT (by simp (disch:=first|exact zb|fail) only [go_sem,seval,hg]) ?_;refine .qt rfl ?_;simp (disch:=first|exact zb|fail) only [go_sem,seval,A,hfl];rw [hset];refine .qt rfl ?_;simp (disch:=first|exact zb|fail) only [go_sem,seval,A]
        first | (refine ihA _ _ ?_ trivial ?_) | (refine .z rfl ?_;refine ihA _ _ ?_ trivial ?_) | (refine .z rfl ?_;refine .z rfl ?_;refine ihA _ _ ?_ trivial ?_) | (refine .z rfl ?_;refine .z rfl ?_;refine .z rfl ?_;refine ihA _ _ ?_ trivial ?_)
        · simp (disch:=first|exact zb|fail) only [go_sem,seval,A,e1,e2,e6,e7]<;>(repeat' (first | rfl | refine And.intro ?_ ?_))
        · first | rfl | (simp (disch:=first|exact zb|fail) only [go_sem,seval,A,e1,e2,e6,e7]<;>(try rfl))
end walks
end Go.Proofs.YthaoifcebimkfaaGreatDoor

namespace Go.Proofs.YthaoifcebimkfaaGreatDoor
open Go Go.AL

def yH (s:Strm) (n:Nat):Nat → List (List U)
 | 0=>[]
 | c+1=>yH s n c++(List.range (yf c)).map (zci s n c)
def wdT:Nat → Nat
 | 0=>0
 | c+1=>wdT c+yf c
theorem zaK {s:Strm} {n:Nat} : ∀ c,(yH s n c).length=wdT c
 | 0=>rfl
 | c+1=>by simp [yH,wdT,zaK c]
theorem zAd (c:Nat):wdT c≤8*c:=by
 induction c with
 | zero=>exact Nat.le_refl _
 | succ c ih=>have:=zaY c;unfold wdT;omega
theorem zvA {s:Strm} {n c:Nat} (h:c < 5):nth (zN s n) c=zce s n c:=by simp [zN,nth,h]
theorem zAe {s:Strm} {n c i:Nat} (h:i < n):nth (zce s n c) i=elC s c i:=by simp [zce,nth,h]
theorem zvB {s:Strm} {i c b:Nat}:zci s (i+1) c b=zci s i c b++[(elC s c i >>> b) &&& 1#64]:=by simp [zci,List.range_succ]
section walks
variable {G:Globs}
set_option maxHeartbeats 8000000 in
theorem zkz (s:Strm) (m:Nat) (hs:okS m s) (k:Int) (hk:k≤5 ∨ 16 < k) (he:zcf s k≠0) (H:Hp) (R:AV → Hp → Prop) (h:R (.tup [.p (.sl false 1 []),.p (i64 (zcf s k))]) H):ACall Tryz.prog G 57 [.p (stm s),.p (i64 k)] H R:=by
 refine ACall.of_run (raw:=[]) Tryz.func57 rfl Tryz.ntmps57 (by simp) fun hbel => ?_
 unfold zcf at h he;refine .qt rfl ?_;simp (disch:=first|exact zb|fail) only [go_sem,seval]
 rcases Classical.em (k < 0) with k1 | k1
 · rw [if_pos (.inl k1)] at h;refine .qt rfl ?_;simp (disch:=first|exact zb|fail) only [go_sem,seval];refine .qT rfl ?_;refine .qt rfl ?_;simp (disch:=first|exact zb|fail) only [go_sem,seval];refine .qr rfl Tryz.func57 (by rw [Tryz.results57]) ?_;simp (disch:=first|exact zb|fail) only [go_sem,seval];exact h
 rcases Classical.em (16 < k) with k2 | k2
 · rw [if_pos (.inr k2)] at h;refine .qt rfl ?_;simp (disch:=first|exact zb|fail) only [go_sem,seval];refine .qT rfl ?_;refine .qt rfl ?_;simp (disch:=first|exact zb|fail) only [go_sem,seval];refine .qr rfl Tryz.func57 (by rw [Tryz.results57]) ?_;simp (disch:=first|exact zb|fail) only [go_sem,seval];exact h
 rw [if_neg (by omega)] at h he
 obtain⟨kn,rfl⟩ : ∃ kn:Nat,k=kn:=⟨k.toNat,by omega⟩
 obtain⟨n,hn⟩ : ∃ n,n=2 ^ kn:=⟨_,rfl⟩
 have hsh:=zgw (by omega:kn≤5) hn;rw [Int.toNat_natCast,←hn] at h he
 have h2:n < s.l.length:=by
  refine Decidable.byContradiction fun e => ?_
  rw [if_neg e] at he;exact he rfl
 rw [if_pos h2] at h;refine .qt rfl ?_;simp (disch:=first|exact zb|fail) only [go_sem,seval];refine .qF rfl ?_;refine .skip ?_;refine .q ?_;refine .open [] follows (by kernel_rfl) ?_;simp (disch:=first|exact zb|fail) only [go_sem,seval,hsh];refine .qT rfl ?_;refine .qt rfl ?_;simp (disch:=first|exact zb|fail) only [go_sem,seval];refine .qr rfl Tryz.func57 (by rw [Tryz.results57]) ?_;simp (disch:=first|exact zb|fail) only [go_sem,seval];exact h
set_option maxHeartbeats 16000000 in
set_option maxRecDepth 20000 in
theorem zqw (s:Strm) (m:Nat) (hs:okS m s) (k n:Nat) (hk:k≤5) (hn:n=2 ^ k) (hl:s.l.length≤n) (H:Hp):ACall Tryz.prog G 58 [.p (stm s),.p (i64 k)] H (zEg (yH s n 4) H):=by
 refine ACall.of_run (raw:=[]) Tryz.func58 rfl Tryz.ntmps58 (by simp) fun hbel => ?_
 have hn32:n≤32:=by
  have:2 ^ k≤2 ^ 5:=Nat.pow_le_pow_right (by decide) hk
  omega
 have hn0:0 < n:=by rw [hn];exact Nat.pos_of_ne_zero (by simp)
 refine .qt rfl ?_;simp (disch:=first|exact zb|fail) only [go_sem,seval];refine .qt rfl ?_;simp (disch:=first|exact zb|fail) only [go_sem,seval];refine CallK.ex (zej s m hs k n hk hn hl _) ?_
 rintro _ X ⟨α,rfl,hα,hαn,hX⟩
 have hXL:LowE H X:=(LowE.new _).trans hX
 have hc5:(zN s n).length=5:=by simp [zN]
 simp (disch:=first|exact zb|fail) only [go_sem,seval,hc5];refine .qt rfl ?_;simp (disch:=first|exact zb|fail) only [go_sem,seval];refine .qF rfl ?_;refine .skip ?_;refine .qt rfl ?_;simp (disch:=first|exact zb|fail) only [go_sem,seval];refine .q ?_;refine .vec 8 (by simp (disch:=first|exact zb|fail) only [go_sem,seval];rfl) ?_;(try simp (disch:=first|exact zb|fail) only [go_sem,seval]);refine .qt rfl ?_;simp (disch:=first|exact zb|fail) only [go_sem,seval]
 obtain⟨β,hβ⟩ : ∃ β,β=X.n:=⟨_,rfl⟩
 have hXn:=hXL.n
 have hab:α < β:=by rw [hβ];exact Hp.lt hα
 rw [←hβ];refine .q ?_;refine .count (fun c env W=>env 6 = .vr α 5 1∧env 8 = .vr β (wdT c) 1∧env 9 = .p (i64 c)∧W.f α=some (.vec (cl (yu 1 zh) (zN s n)))∧W.f β=some (.vec (cl (yu 1 zh) (yH s n c)))∧LowE H W) 0 4 (by omega) ?_ ?_ ?_
 · refine⟨?_,?_,?_,?_,zm hβ,hXL.trans (.new _)⟩
   · simp (disch:=first|exact zb|fail) only [go_sem,seval]
   · simp (disch:=first|exact zb|fail) only [go_sem,seval];rfl
   · simp (disch:=first|exact zb|fail) only [go_sem,seval]
   · rw [zc (by omega)];exact hα
 · rintro env W ⟨e6,e8,e9,h1,h2,hW⟩
   have hl4:(yH s n 4).length=wdT 4:=zaK 4;refine .qt rfl ?_;simp (disch:=first|exact zb|fail) only [go_sem,seval,e9];refine .qF rfl ?_;refine .qt rfl ?_;simp (disch:=first|exact zb|fail) only [go_sem,seval,e8];refine .q ?_;refine .retKeep Tryz.func58 (by rw [Tryz.results58]) (by simp (disch:=first|exact zb|fail) only [go_sem,seval];rfl) ?_;(try simp (disch:=first|exact zb|fail) only [go_sem,seval])
   exact⟨β,by rw [hl4],h2,by omega,hW⟩
 · rintro c env W hc0 hc ⟨e6,e8,e9,h1,h2,hW⟩ ihO
   have hw8:=zaY c;have hwt:=zAd c;refine .qt rfl ?_;simp (disch:=first|exact zb|fail) only [go_sem,seval,e9];refine .qT rfl ?_;refine .qt rfl ?_;simp (disch:=first|exact zb|fail) only [go_sem,seval];refine .q ?_;refine .count (fun b env W=>env 6 = .vr α 5 1∧env 8 = .vr β (wdT c+b) 1∧env 9 = .p (i64 c)∧env 10 = .p (i64 b)∧W.f α=some (.vec (cl (yu 1 zh) (zN s n)))∧W.f β=some (.vec (cl (yu 1 zh) (yH s n c++(List.range b).map (zci s n c))))∧LowE H W) 0 (yf c) (by omega) ?_ ?_ ?_
   · refine⟨?_,?_,?_,?_,h1,?_,hW⟩
     · simp (disch:=first|exact zb|fail) only [go_sem,seval,e6]
     · simp (disch:=first|exact zb|fail) only [go_sem,seval,e8]
     · simp (disch:=first|exact zb|fail) only [go_sem,seval,e9]
     · simp (disch:=first|exact zb|fail) only [go_sem,seval]
     · simpa using h2
   · rintro env W ⟨e6,e8,e9,e10,h1,h2,hW⟩
     refine .qt rfl ?_;simp (disch:=first|exact zb|fail) only [go_sem,seval,e9,e10];refine CallK.of (fun R h=>yM c hc _ R h) ?_;simp (disch:=first|exact zb|fail) only [go_sem,seval];refine .qF rfl ?_;refine .qt rfl ?_;simp (disch:=first|exact zb|fail) only [go_sem,seval,e9];refine ihO _ _ ⟨?_,?_,?_,h1,h2,hW⟩
     · simp (disch:=first|exact zb|fail) only [go_sem,seval,e6]
     · simp (disch:=first|exact zb|fail) only [go_sem,seval,e8];rfl
     · simp (disch:=first|exact zb|fail) only [go_sem,seval]
   · rintro b env W hb0 hb ⟨e6,e8,e9,e10,h1,h2,hW⟩ ihM
     have hWn:=hW.n;have hbn:=Hp.lt h2;refine .qt rfl ?_;simp (disch:=first|exact zb|fail) only [go_sem,seval,e9,e10];refine CallK.of (fun R h=>yM c hc _ R h) ?_;simp (disch:=first|exact zb|fail) only [go_sem,seval,e9,e10];refine .qT rfl ?_;refine .qt rfl ?_;simp (disch:=first|exact zb|fail) only [go_sem,seval];refine .q ?_;refine .own 11 (by simp (disch:=first|exact zb|fail) only [go_sem,seval];rfl) ?_;refine .qt rfl ?_;simp (disch:=first|exact zb|fail) only [go_sem,seval];refine .q ?_;have hcv:nth (zN s n) c=zce s n c:=zvA (by omega)
     have hcl:(zce s n c).length=n:=by simp [zce]
     refine .count (fun i env V=>env 6 = .vr α 5 1∧env 8 = .vr β (wdT c+b) 1∧env 9 = .p (i64 c)∧env 10 = .p (i64 b)∧env 11 = .sl W.n i 1 (pl zh (zci s i c b))∧env 12 = .p (i64 i)∧V=W.new (.tail i)) 0 n (by omega) ?_ ?_ ?_
     · refine⟨?_,?_,?_,?_,?_,?_,rfl⟩
       · simp (disch:=first|exact zb|fail) only [go_sem,seval,e6]
       · simp (disch:=first|exact zb|fail) only [go_sem,seval,e8]
       · simp (disch:=first|exact zb|fail) only [go_sem,seval,e9]
       · simp (disch:=first|exact zb|fail) only [go_sem,seval,e10]
       · simp (disch:=first|exact zb|fail) only [go_sem,seval,za8];rfl
       · simp (disch:=first|exact zb|fail) only [go_sem,seval]
     · rintro env _ ⟨e6,e8,e9,e10,e11,e12,rfl⟩
       have h1':(W.new (.tail n)).f α=some (.vec (cl (yu 1 zh) (zN s n))):=by rw [zc (by omega)];exact h1
       have h2':(W.new (.tail n)).f β=some (.vec (cl (yu 1 zh) (yH s n c++(List.range b).map (zci s n c)))):=by rw [zc (by omega)];exact h2
       have hWL:LowE H (W.new (.tail n)):=hW.trans (.new _)
       generalize W.new (.tail n)=V at *
       have hcl5:(cl (yu 1 zh) (zN s n)).length=5:=by rw [zcu,hc5]
       refine .qt rfl ?_;simp (disch:=first|exact zb|fail) only [go_sem,seval,e6,e9,e12,h1',hcl5,hc5,hcv,hcl,zas];refine .qF rfl ?_
       have hlen:(cl (yu 1 zh) (yH s n c++(List.range b).map (zci s n c))).length=wdT c+b:=by rw [zcu,List.length_append,zaK,List.length_map,List.length_range]
       have hap:cl (yu 1 zh) (yH s n c++(List.range b).map (zci s n c))++[.p (.sl false 1 (pl zh (zci s n c b)))]=cl (yu 1 zh) (yH s n c++(List.range (b+1)).map (zci s n c)):=by
        rw [List.range_succ,List.map_append,←List.append_assoc,←zdZ (l:=yH s n c++(List.range b).map (zci s n c))];rfl
       refine .qt rfl ?_;simp (disch:=first|exact zb|fail) only [go_sem,seval,e8,e11,h2',hlen,hap];refine .qt rfl ?_;simp (disch:=first|exact zb|fail) only [go_sem,seval,e10];refine ihM _ _ ⟨?_,?_,?_,?_,?_,by rw [zo rfl (Hp.lt h2'),List.range_succ],hWL.set _ (by omega)⟩
       · simp (disch:=first|exact zb|fail) only [go_sem,seval,e6]
       · simp (disch:=first|exact zb|fail) only [go_sem,seval];rfl
       · simp (disch:=first|exact zb|fail) only [go_sem,seval,e9]
       · simp (disch:=first|exact zb|fail) only [go_sem,seval]
       · rw [f_set_ne' (by omega)];exact h1'
     · rintro i env _ hi0 hi ⟨e6,e8,e9,e10,e11,e12,rfl⟩ ihI
       have h1':(W.new (.tail i)).f α=some (.vec (cl (yu 1 zh) (zN s n))):=by rw [zc (by omega)];exact h1
       have hcl5:(cl (yu 1 zh) (zN s n)).length=5:=by rw [zcu,hc5]
       have hel:nth (zce s n c) i=elC s c i:=zAe hi
       have hbl:(zci s i c b).length=i:=by simp [zci]
       refine .qt rfl ?_;simp (disch:=first|exact zb|fail) only [go_sem,seval,e6,e9,e12,h1',hcl5,hc5,hcv,hcl,zas];refine .qT rfl ?_
       have hap:pl zh (zci s i c b)++[zh ((elC s c i >>> b) &&& 1#64)]=pl zh (zci s (i+1) c b):=by rw [zvB,←ye];rfl
       refine .qt rfl ?_;simp (disch:=first|exact zb|fail) only [go_sem,seval,e6,e9,e10,e11,e12,h1',hcl5,hc5,hcv,hcl,zas,hel,hap,hbl];refine .qt rfl ?_;simp (disch:=first|exact zb|fail) only [go_sem,seval,e12];refine ihI _ _ ⟨?_,?_,?_,?_,?_,?_,rfl⟩
       · simp (disch:=first|exact zb|fail) only [go_sem,seval,e6]
       · simp (disch:=first|exact zb|fail) only [go_sem,seval,e8]
       · simp (disch:=first|exact zb|fail) only [go_sem,seval,e9]
       · simp (disch:=first|exact zb|fail) only [go_sem,seval,e10]
       · simp (disch:=first|exact zb|fail) only [go_sem,seval]
       · simp (disch:=first|exact zb|fail) only [go_sem,seval]
end walks
end Go.Proofs.YthaoifcebimkfaaGreatDoor

namespace Go.Proofs.YthaoifcebimkfaaGreatDoor
open Go Go.AL

def zdO (s:Strm) (n:Nat):List (List U):=zN s n++yH s n 4
section walks
variable {G:Globs}
theorem zng {cs:List (List U)} : ∀ x∈pl (yu 1 zh) cs,x.cells.length=1:=fun x hx=>by
 simp only [pl,List.mem_map] at hx
 obtain⟨y,_,rfl⟩:=hx
 rfl
set_option maxHeartbeats 8000000 in
theorem zit (s:Strm) (m:Nat) (hs:okS m s) (k:Int) (hk:k≤5 ∨ 16 < k) (he:zcf s k≠0) (H:Hp) (R:AV → Hp → Prop) (h:R (.tup [.p (.sl false 1 []),.p (i64 (zcf s k))]) H):ACall Tryz.prog G 16 [.p (stm s),.p (i64 k)] H R:=by
 refine ACall.of_run (raw:=[]) Tryz.func16 rfl Tryz.ntmps16 (by simp) fun hbel => ?_
 refine .qt rfl ?_;simp (disch:=first|exact zb|fail) only [go_sem,seval];refine .qt rfl ?_;simp (disch:=first|exact zb|fail) only [go_sem,seval];refine CallK.of (fun R h=>zkz s m hs k hk he _ R h) ?_;simp (disch:=first|exact zb|fail) only [go_sem,seval];refine .qt rfl ?_;simp (disch:=first|exact zb|fail) only [go_sem,seval];refine .qT rfl ?_;refine .qt rfl ?_;simp (disch:=first|exact zb|fail) only [go_sem,seval];refine .qr rfl Tryz.func16 (by rw [Tryz.results16]) ?_;simp (disch:=first|exact zb|fail) only [go_sem,seval];exact h
set_option maxHeartbeats 8000000 in
theorem zhO (s:Strm) (m:Nat) (hs:okS m s) (k n:Nat) (hk:k≤5) (hn:n=2 ^ k) (hl:s.l.length≤n) (H:Hp):ACall Tryz.prog G 16 [.p (stm s),.p (i64 k)] H (zEg (zdO s n) H):=by
 refine ACall.of_run (raw:=[]) Tryz.func16 rfl Tryz.ntmps16 (by simp) fun hbel => ?_
 refine .qt rfl ?_;simp (disch:=first|exact zb|fail) only [go_sem,seval];refine .qt rfl ?_;simp (disch:=first|exact zb|fail) only [go_sem,seval];refine CallK.ex (zej s m hs k n hk hn hl _) ?_
 rintro _ X ⟨α,rfl,hα,hαn,hX⟩
 have hXL:LowE H X:=(LowE.new _).trans hX
 have hc5:(zN s n).length=5:=by simp [zN]
 rw [n_new'] at hαn;have hXs:=(hX.f H.n (by rw [n_new'];omega)).trans (zm rfl);have hXn:=hX.n;rw [n_new'] at hXn;simp (disch:=first|exact zb|fail) only [go_sem,seval,hc5];refine .qt rfl ?_;simp (disch:=first|exact zb|fail) only [go_sem,seval];refine .qF rfl ?_;refine .skip ?_;refine .qt rfl ?_;simp (disch:=first|exact zb|fail) only [go_sem,seval,hXs];refine CallK.ex (zqw s m hs k n hk hn hl _) ?_
 rintro _ Y ⟨β,rfl,hβ,hβn,hY⟩
 have hYα:=(hY.f α (Hp.lt hα)).trans hα
 have hl4:(yH s n 4).length=24:=by rw [zaK];rfl
 have hYL:=hXL.trans hY;have haX:=Hp.lt hα;simp (disch:=first|exact zb|fail) only [go_sem,seval,hl4];refine .q ?_;refine .frzV 8 (by simp (disch:=first|exact zb|fail) only [go_sem,seval,hβ];rfl) (by simp (disch:=first|exact zb|fail) only [go_sem,seval,hβ]<;>rfl) (xs:=pl (yu 1 zh) (yH s n 4)) (cs:=cl (yu 1 zh) (yH s n 4)) (by rw [ze2,zsO]) (by rw [zct,hl4]) zng ?_;(try simp (disch:=first|exact zb|fail) only [go_sem,seval,hβ])
 have hYα2:(Y.set β .dead).f α=some (.vec (cl (yu 1 zh) (zN s n))):=by rw [f_set_ne' (by omega)];exact hYα
 have hYL2:LowE H (Y.set β .dead):=hYL.set _ (by omega)
 have hcl5:(cl (yu 1 zh) (zN s n)).length=5:=by rw [zcu,hc5]
 generalize Y.set β .dead=Z at *
 have hap:cl (yu 1 zh) (zN s n)++cl (yu 1 zh) (yH s n 4)=cl (yu 1 zh) (zdO s n):=zdZ;refine .qt rfl ?_;simp (disch:=first|exact zb|fail) only [go_sem,seval,hYα2,hcl5,hap,hl4];refine .q ?_;refine .retKeep Tryz.func16 (by rw [Tryz.results16]) (by simp (disch:=first|exact zb|fail) only [go_sem,seval];rfl) ?_;(try simp (disch:=first|exact zb|fail) only [go_sem,seval])
 have h29:(zdO s n).length=29:=by unfold zdO;rw [List.length_append,hc5,hl4]
 exact⟨α,by rw [h29],zo rfl (Hp.lt hYα2),by omega,hYL2.set _ (by omega)⟩
end walks
end Go.Proofs.YthaoifcebimkfaaGreatDoor

namespace Go.Proofs.YthaoifcebimkfaaGreatDoor
open Go Go.AL

def fldL:List AV:=[.clo 147 [] [],.p (i64 4),.clo 148 [] [],.p (i64 8),.clo 149 [] [],.p (i64 4),.clo 150 [] [],.p (i64 8)]
def fld:AV := .agg fldL
def gnk (k:Nat):FuncId:=nth [147,148,149,150] k
theorem zEh:zaE Tryz.prog 177 fld (.p (i64 0))=some (.agg [.clo 147 [] [],.p (i64 4)]):=by kernel_rfl
theorem zFt:enters Tryz.prog 147=true:=by kernel_rfl
theorem zEi:zaE Tryz.prog 177 fld (.p (i64 1))=some (.agg [.clo 148 [] [],.p (i64 8)]):=by kernel_rfl
theorem zFu:enters Tryz.prog 148=true:=by kernel_rfl
theorem zEj:zaE Tryz.prog 177 fld (.p (i64 2))=some (.agg [.clo 149 [] [],.p (i64 4)]):=by kernel_rfl
theorem zFv:enters Tryz.prog 149=true:=by kernel_rfl
theorem zEk:zaE Tryz.prog 177 fld (.p (i64 3))=some (.agg [.clo 150 [] [],.p (i64 8)]):=by kernel_rfl
theorem zFw:enters Tryz.prog 150=true:=by kernel_rfl
theorem zjg {k:Nat} (h:k < 4):zaE Tryz.prog 177 fld (.p (i64 k))=some (.agg [.clo (gnk k) [] [],.p (i64 (yf k:Nat))]):=by
 have:k=0 ∨ k=1 ∨ k=2 ∨ k=3:=by omega
 rcases this with rfl | rfl | rfl | rfl
 · exact zEh
 · exact zEi
 · exact zEj
 · exact zEk
theorem zhP {k:Nat} (h:k < 4):enters Tryz.prog (gnk k)=true:=by
 have:k=0 ∨ k=1 ∨ k=2 ∨ k=3:=by omega
 rcases this with rfl | rfl | rfl | rfl
 · exact zFt
 · exact zFu
 · exact zFv
 · exact zFw
section zcH
variable {a0 a1 a2 a3 a4 a5 a6 a7 x0 x1:AV} {f:FuncId} {x:PV}
theorem zEl:zj (zx [.clo f [] [],.p x])=some [.clo f [] [],.p x]:=rfl
theorem zEm:setAt [a0,a1,a2,a3,a4,a5,a6,a7] 0 [x0,x1]=[x0,x1,a2,a3,a4,a5,a6,a7]:=rfl
theorem zEn:setAt [a0,a1,a2,a3,a4,a5,a6,a7] 2 [x0,x1]=[a0,a1,x0,x1,a4,a5,a6,a7]:=rfl
theorem zEo:setAt [a0,a1,a2,a3,a4,a5,a6,a7] 4 [x0,x1]=[a0,a1,a2,a3,x0,x1,a6,a7]:=rfl
theorem zEp:setAt [a0,a1,a2,a3,a4,a5,a6,a7] 6 [x0,x1]=[a0,a1,a2,a3,a4,a5,x0,x1]:=rfl
theorem zEq:zx [.clo 147 [] [],.p (i64 4),.clo 148 [] [],.p (i64 8),.clo 149 [] [],.p (i64 4),.clo 150 [] [],.p (i64 8)]=fld:=rfl
theorem zEr:zj fld=some fldL:=rfl
theorem zhQ:fldL.length=8:=rfl
theorem zrB:zx (List.take 8 fldL)=fld:=rfl
theorem znh:zx fldL=fld:=rfl
end zcH
def zgg (s:Strm) (n:Nat) (g:Nat → U):List U:=(List.range n).map fun i=>if i < s.l.length then g i else 0#64
def ziv (s:Strm) (n:Nat) (g:Nat → U) (i:Nat):List U:=(List.range n).map fun j=>if j < i then g j else 0#64
theorem zni {s:Strm} {n:Nat} {g:Nat → U} {i:Nat}:(ziv s n g i).length=n:=by simp [ziv]
theorem zvD {s:Strm} {n:Nat} {g:Nat → U}:ziv s n g 0=List.replicate n 0#64:=by
 apply List.ext_getElem<;>simp [ziv]
theorem zAf {s:Strm} {n:Nat} {g:Nat → U}:ziv s n g s.l.length=zgg s n g:=rfl
theorem zvE {s:Strm} {n:Nat} {g:Nat → U} {i:Nat} (h:i < n):(ziv s n g i).set i (g i)=ziv s n g (i+1):=by
 apply List.ext_getElem
 · simp [ziv]
 · intro j h1 h2;simp only [ziv,List.getElem_set,List.getElem_map,List.getElem_range];by_cases e:i=j
   · subst e;simp
   · rw [if_neg e];by_cases e2:j < i
     · rw [if_pos e2,if_pos (by omega)]
     · rw [if_neg e2,if_neg (by omega)]
section walks
variable {G:Globs}
theorem zfX (H:Hp) (R:AV → Hp → Prop) (h:R fld (H.new (.cells fldL))):ACall Tryz.prog G 112 [] H R:=by
 refine ACall.of_run (raw:=[]) Tryz.func112 rfl Tryz.ntmps112 (by simp) fun hbel => ?_
 refine .qt rfl ?_;simp (disch:=first|exact zb|fail) only [go_sem,seval];refine .qt rfl ?_;simp (disch:=first|exact zb|fail) only [go_sem,seval,zEl,zEm,zEn,zEo,zEp,zEq,zEr,zhQ];refine .q ?_;refine .retKeep Tryz.func112 (by rw [Tryz.results112]) (by simp (disch:=first|exact zb|fail) only [go_sem,seval,zhQ,zrB,znh];rfl) ?_;(try simp (disch:=first|exact zb|fail) only [go_sem,seval,zhQ,zrB,znh]);exact h
theorem zvF (r:Rdg) (H:Hp) (R:AV → Hp → Prop) (h:R (.p (i64 (fR r 0))) H):ACall Tryz.prog G 147 [.p (rdg r)] H R:=by
 refine ACall.of_run (raw:=[]) Tryz.func147 rfl Tryz.ntmps147 (by simp) fun hbel => ?_
 refine .qt rfl ?_;simp (disch:=first|exact zb|fail) only [go_sem,seval];refine .qt rfl ?_;simp (disch:=first|exact zb|fail) only [go_sem,seval];refine .qr rfl Tryz.func147 (by rw [Tryz.results147]) ?_;simp (disch:=first|exact zb|fail) only [go_sem,seval];exact h
theorem zvG (r:Rdg) (H:Hp) (R:AV → Hp → Prop) (h:R (.p (i64 (fR r 1))) H):ACall Tryz.prog G 148 [.p (rdg r)] H R:=by
 refine ACall.of_run (raw:=[]) Tryz.func148 rfl Tryz.ntmps148 (by simp) fun hbel => ?_
 refine .qt rfl ?_;simp (disch:=first|exact zb|fail) only [go_sem,seval];refine .qt rfl ?_;simp (disch:=first|exact zb|fail) only [go_sem,seval];refine .qr rfl Tryz.func148 (by rw [Tryz.results148]) ?_;simp (disch:=first|exact zb|fail) only [go_sem,seval];exact h
theorem zvH (r:Rdg) (H:Hp) (R:AV → Hp → Prop) (h:R (.p (i64 (fR r 2))) H):ACall Tryz.prog G 149 [.p (rdg r)] H R:=by
 refine ACall.of_run (raw:=[]) Tryz.func149 rfl Tryz.ntmps149 (by simp) fun hbel => ?_
 refine .qt rfl ?_;simp (disch:=first|exact zb|fail) only [go_sem,seval];refine .qt rfl ?_;simp (disch:=first|exact zb|fail) only [go_sem,seval];refine .qr rfl Tryz.func149 (by rw [Tryz.results149]) ?_;simp (disch:=first|exact zb|fail) only [go_sem,seval];exact h
theorem zvI (r:Rdg) (H:Hp) (R:AV → Hp → Prop) (h:R (.p (i64 (fR r 3))) H):ACall Tryz.prog G 150 [.p (rdg r)] H R:=by
 refine ACall.of_run (raw:=[]) Tryz.func150 rfl Tryz.ntmps150 (by simp) fun hbel => ?_
 refine .qt rfl ?_;simp (disch:=first|exact zb|fail) only [go_sem,seval];refine .qt rfl ?_;simp (disch:=first|exact zb|fail) only [go_sem,seval];refine .qr rfl Tryz.func150 (by rw [Tryz.results150]) ?_;simp (disch:=first|exact zb|fail) only [go_sem,seval];exact h
theorem znj (r:Rdg) (k:Nat) (hk:k < 4) (H:Hp) (R:AV → Hp → Prop) (h:R (.p (i64 (fR r k))) H):ACall Tryz.prog G (gnk k) [.p (rdg r)] H R:=by
 have:k=0 ∨ k=1 ∨ k=2 ∨ k=3:=by omega
 rcases this with rfl | rfl | rfl | rfl
 · exact zvF r H R h
 · exact zvG r H R h
 · exact zvH r H R h
 · exact zvI r H R h
set_option maxHeartbeats 8000000 in
theorem zeL (s:Strm) (m:Nat) (hs:okS m s) (k:Int) (hk:k≤5 ∨ 16 < k) (H:Hp) (R:AV → Hp → Prop) (h:R (.p (i64 (zcf s k))) H):ACall Tryz.prog G 111 [.p (stm s),.p (i64 k)] H R:=by
 refine ACall.of_run (raw:=[]) Tryz.func111 rfl Tryz.ntmps111 (by simp) fun hbel => ?_
 unfold zcf at h;refine .qt rfl ?_;simp (disch:=first|exact zb|fail) only [go_sem,seval]
 rcases Classical.em (k < 0) with k1 | k1
 · rw [if_pos (.inl k1)] at h;refine .qt rfl ?_;simp (disch:=first|exact zb|fail) only [go_sem,seval];refine .qT rfl ?_;refine .qt rfl ?_;simp (disch:=first|exact zb|fail) only [go_sem,seval];refine .qr rfl Tryz.func111 (by rw [Tryz.results111]) ?_;simp (disch:=first|exact zb|fail) only [go_sem,seval];exact h
 rcases Classical.em (16 < k) with k2 | k2
 · rw [if_pos (.inr k2)] at h;refine .qt rfl ?_;simp (disch:=first|exact zb|fail) only [go_sem,seval];refine .qT rfl ?_;refine .qt rfl ?_;simp (disch:=first|exact zb|fail) only [go_sem,seval];refine .qr rfl Tryz.func111 (by rw [Tryz.results111]) ?_;simp (disch:=first|exact zb|fail) only [go_sem,seval];exact h
 rw [if_neg (by omega)] at h
 obtain⟨kn,rfl⟩ : ∃ kn:Nat,k=kn:=⟨k.toNat,by omega⟩
 obtain⟨n,hn⟩ : ∃ n,n=2 ^ kn:=⟨_,rfl⟩
 have hsh:=zgw (by omega:kn≤5) hn;rw [Int.toNat_natCast,←hn] at h;have hl:=hs.len
 rcases Classical.em (n < s.l.length) with h2 | h2
 · rw [if_pos h2] at h;refine .qt rfl ?_;simp (disch:=first|exact zb|fail) only [go_sem,seval];refine .qF rfl ?_;refine .q ?_;refine .open [] follows (by kernel_rfl) ?_;simp (disch:=first|exact zb|fail) only [go_sem,seval,hsh];refine .qT rfl ?_;refine .qt rfl ?_;simp (disch:=first|exact zb|fail) only [go_sem,seval];refine .qr rfl Tryz.func111 (by rw [Tryz.results111]) ?_;simp (disch:=first|exact zb|fail) only [go_sem,seval];exact h
 · rw [if_neg h2] at h;refine .qt rfl ?_;simp (disch:=first|exact zb|fail) only [go_sem,seval];refine .qF rfl ?_;refine .q ?_;refine .open [] follows (by kernel_rfl) ?_;simp (disch:=first|exact zb|fail) only [go_sem,seval,hsh];refine .qF rfl ?_;refine .qt rfl ?_;simp (disch:=first|exact zb|fail) only [go_sem,seval];refine .qr rfl Tryz.func111 (by rw [Tryz.results111]) ?_;simp (disch:=first|exact zb|fail) only [go_sem,seval];exact h
set_option maxHeartbeats 8000000 in
set_option maxRecDepth 20000 in
theorem zdP (s:Strm) (m:Nat) (hs:okS m s) (k n:Nat) (hk:k≤5) (hn:n=2 ^ k) (hl:s.l.length≤n) (F:FuncId) (fvs:List AV) (hfw:fvs.map AV.weak=fvs) (hen:enters Tryz.prog F=true) (g:Nat → U) (H:Hp)
 (hf : ∀ i,i < s.l.length → ∀ (W:Hp),LowE H W → ∀ (R:AV → Hp → Prop),R (.p (zh (g i))) W → ACall Tryz.prog G F (.p (i64 i) :: fvs) W R)
 (R:AV → Hp → Prop) (h:R (.p (.sl false 1 (pl zh (zgg s n g)))) H):ACall Tryz.prog G 113 [.p (stm s),.p (i64 k),.clo F [] fvs] H R:=by
 refine ACall.of_run (raw:=[]) Tryz.func113 rfl Tryz.ntmps113 (by simp) fun hbel => ?_
 have hsh:=zgw hk hn
 have hn32:n≤32:=by
  have:2 ^ k≤2 ^ 5:=Nat.pow_le_pow_right (by decide) hk
  omega
 have hcl:=zni (s:=s) (n:=n) (g:=g) (i:=s.l.length);refine .qt rfl ?_;simp (disch:=first|exact zb|fail) only [go_sem,seval];refine .qt rfl ?_;simp (disch:=first|exact zb|fail) only [go_sem,seval,hsh];refine .qt rfl ?_;simp (disch:=first|exact zb|fail) only [go_sem,seval];rw [←zvD (s:=s) (g:=g)];refine .q ?_;refine .loopH [2,7,14] (fun i=>[(15,.p (i64 i))]) (fun i=>(H.new (.cells [.p (.sl false 4 (pl rdg s.l)),.p (.sl false 1 (pl bo s.gone))])).new (.cells (cl zh (ziv s n g i)))) (fun i=>True) (0) (s.l.length) (by omega) ?_ (by first | rfl | (simp (disch:=first|exact zb|fail) only [go_sem,seval]<;>rfl)) ?_ ?_ ?_
 · simp (disch:=first|exact zb|fail) only [go_sem,seval]<;>(repeat' (first | rfl | refine And.intro ?_ ?_))
 · exact trivial
 intro env E hQ;simp (disch:=first|exact zb|fail) only [go_sem,seval] at E
 rotate_left 1
 intro i env hi0 hi E hQ ihE;simp (disch:=first|exact zb|fail) only [go_sem,seval] at E
 rotate_left 1
 · rw [zAf]
   have hcl2:(zgg s n g).length=n:=by simp [zgg]
   refine .qt rfl ?_;simp (disch:=first|exact zb|fail) only [go_sem,seval,E];refine .qF rfl ?_
   have htk:((zgg s n g).drop 0).take n=zgg s n g:=by rw [List.drop_zero];exact List.take_of_length_le (by omega)
   refine .q ?_;refine .frzS 7 (by simp (disch:=first|exact zb|fail) only [go_sem,seval,E,hcl2,htk];rfl) (by simp (disch:=first|exact zb|fail) only [go_sem,seval,E,hcl2,htk]<;>rfl) (fun _=>rfl) (by first | exact zb | fail) ?_;(try simp (disch:=first|exact zb|fail) only [go_sem,seval,E,hcl2,htk]);refine .qt rfl ?_;simp (disch:=first|exact zb|fail) only [go_sem,seval,E];refine .qr rfl Tryz.func113 (by rw [Tryz.results113]) (hx:=by simp (disch:=first|exact zb|fail) only [go_sem,seval,E];rfl) ?_;simp (disch:=first|exact zb|fail) only [go_sem,seval,E];exact h
 · have hfl:=zni (s:=s) (n:=n) (g:=g) (i:=i)
   have hin:i < n:=by omega
   have hset:=zvE (s:=s) (g:=g) hin;refine .qt rfl ?_;simp (disch:=first|exact zb|fail) only [go_sem,seval,E];refine .qT rfl ?_;refine .qt rfl ?_;simp (disch:=first|exact zb|fail) only [go_sem,seval,E];refine .qt rfl ?_;simp (disch:=first|exact zb|fail) only [go_sem,seval,E,hen,hfw];refine CallK.of (fun R h=>hf i hi _ ((LowE.new _).trans (.new _)) R h) ?_;simp (disch:=first|exact zb|fail) only [go_sem,seval,E,hfl,hfw];rw [hset];refine .qt rfl ?_;simp (disch:=first|exact zb|fail) only [go_sem,seval,E]
   first | (refine ihE _ _ ?_ trivial ?_) | (refine .z rfl ?_;refine ihE _ _ ?_ trivial ?_) | (refine .z rfl ?_;refine .z rfl ?_;refine ihE _ _ ?_ trivial ?_) | (refine .z rfl ?_;refine .z rfl ?_;refine .z rfl ?_;refine ihE _ _ ?_ trivial ?_)
   · simp (disch:=first|exact zb|fail) only [go_sem,seval,E]<;>(repeat' (first | rfl | refine And.intro ?_ ?_))
   · first | rfl | (simp (disch:=first|exact zb|fail) only [go_sem,seval,E]<;>(try rfl))
end walks
end Go.Proofs.YthaoifcebimkfaaGreatDoor

namespace Go.Proofs.YthaoifcebimkfaaGreatDoor
open Go Go.AL

section walks
variable {G:Globs}
set_option maxHeartbeats 8000000 in
theorem zqx (s:Strm) (c:Nat) (hc:c < 4) (i:Nat) (hi:i < s.l.length) (cb sb:Nat) (H:Hp) (hcb:H.f cb=some (.cells [.clo (gnk c) [] [],.p (i64 (yf c:Nat))])) (hsb:H.f sb=some (.cells [.p (.sl false 4 (pl rdg s.l)),.p (.sl false 1 (pl bo s.gone))]))
 (R:AV → Hp → Prop) (h:R (.p (zh (BitVec.ofInt 64 (fR (nth s.l i) c)))) H):ACall Tryz.prog G 114 [.p (i64 i),.ptr cb 0,.ptr sb 0] H R:=by
 refine ACall.of_run (raw:=[]) Tryz.func114 rfl Tryz.ntmps114 (by simp) fun hbel => ?_
 have hen:=zhP hc;refine .qt rfl ?_;simp (disch:=first|exact zb|fail) only [go_sem,seval];refine .q ?_;refine .open [] follows (by kernel_rfl) ?_;simp (disch:=first|exact zb|fail) only [go_sem,seval,hcb,hsb,hen];refine CallD.still (fun R h=>znj (nth s.l i) c hc _ R h) ?_;simp (disch:=first|exact zb|fail) only [go_sem,seval];refine .qr rfl Tryz.func114 (by rw [Tryz.results114]) ?_;simp (disch:=first|exact zb|fail) only [go_sem,seval];exact h
set_option maxHeartbeats 8000000 in
theorem zqy (s:Strm) (i:Nat) (hi:i < s.gone.length) (sb:Nat) (H:Hp) (hsb:H.f sb=some (.cells [.p (.sl false 4 (pl rdg s.l)),.p (.sl false 1 (pl bo s.gone))]))
 (R:AV → Hp → Prop) (h:R (.p (zh (if nth s.gone i then 0#64 else 1#64))) H):ACall Tryz.prog G 115 [.p (i64 i),.ptr sb 0] H R:=by
 refine ACall.of_run (raw:=[]) Tryz.func115 rfl Tryz.ntmps115 (by simp) fun hbel => ?_
 refine .qt rfl ?_;simp (disch:=first|exact zb|fail) only [go_sem,seval]
 cases hg:nth s.gone i with
 | true =>
  rw [hg] at h;refine .qt rfl ?_;simp (disch:=first|exact zb|fail) only [go_sem,seval,hsb];refine .q ?_;refine .ifT (by simp (disch:=first|exact zb|fail) only [go_sem,seval,hg]) ?_;refine .qt rfl ?_;simp (disch:=first|exact zb|fail) only [go_sem,seval];refine .qr rfl Tryz.func115 (by rw [Tryz.results115]) ?_;simp (disch:=first|exact zb|fail) only [go_sem,seval];exact h
 | false =>
  rw [hg] at h;refine .qt rfl ?_;simp (disch:=first|exact zb|fail) only [go_sem,seval,hsb];refine .q ?_;refine .ifF (by simp (disch:=first|exact zb|fail) only [go_sem,seval,hg]) ?_;refine .skip ?_;refine .qt rfl ?_;simp (disch:=first|exact zb|fail) only [go_sem,seval];refine .qr rfl Tryz.func115 (by rw [Tryz.results115]) ?_;simp (disch:=first|exact zb|fail) only [go_sem,seval];exact h
set_option maxHeartbeats 8000000 in
theorem zvJ (s:Strm) (c:Nat) (hc:c < 4) (b i:Nat) (hb:b < 8) (hi:i < s.l.length) (cb sb kb:Nat) (H:Hp) (hcb:H.f cb=some (.cells [.clo (gnk c) [] [],.p (i64 (yf c:Nat))])) (hsb:H.f sb=some (.cells [.p (.sl false 4 (pl rdg s.l)),.p (.sl false 1 (pl bo s.gone))])) (hkb:H.f kb=some (.cells [.p (i64 b)]))
 (R:AV → Hp → Prop) (h:R (.p (zh ((BitVec.ofInt 64 (fR (nth s.l i) c) >>> b) &&& 1#64))) H):ACall Tryz.prog G 116 [.p (i64 i),.ptr cb 0,.ptr sb 0,.ptr kb 0] H R:=by
 refine ACall.of_run (raw:=[]) Tryz.func116 rfl Tryz.ntmps116 (by simp) fun hbel => ?_
 have hen:=zhP hc;refine .qt rfl ?_;simp (disch:=first|exact zb|fail) only [go_sem,seval];refine .q ?_;refine .open [] follows (by kernel_rfl) ?_;simp (disch:=first|exact zb|fail) only [go_sem,seval,hcb,hsb,hkb,hen];refine CallD.still (fun R h=>znj (nth s.l i) c hc _ R h) ?_;simp (disch:=first|exact zb|fail) only [go_sem,seval,hkb];refine .qr rfl Tryz.func116 (by rw [Tryz.results116]) ?_;simp (disch:=first|exact zb|fail) only [go_sem,seval];exact h
theorem zEs {s:Strm} {n c:Nat} (hc:c < 4):zgg s n (fun i=>BitVec.ofInt 64 (fR (nth s.l i) c))=zce s n c:=by
 unfold zgg zce
 refine List.map_congr_left fun i _ => ?_
 unfold elC;rw [if_pos hc]
theorem zEt {s:Strm} {n:Nat}:zgg s n (fun i=>if nth s.gone i then 0#64 else 1#64)=zce s n 4:=by
 unfold zgg zce
 refine List.map_congr_left fun i _ => ?_
 unfold elC;rw [if_neg (by decide : ¬ 4 < 4)]
theorem zEu {s:Strm} {n c b:Nat} (hc:c < 4):zgg s n (fun i=>(BitVec.ofInt 64 (fR (nth s.l i) c) >>> b) &&& 1#64)=zci s n c b:=by
 unfold zgg zci
 refine List.map_congr_left fun i _ => ?_
 unfold elC;rw [if_pos hc]
 split
 · rfl
 · simp
set_option maxHeartbeats 8000000 in
set_option maxRecDepth 20000 in
theorem zkA (s:Strm) (m:Nat) (hs:okS m s) (k:Int) (hk:k≤5 ∨ 16 < k) (he:zcf s k≠0) (H:Hp) (R:AV → Hp → Prop) (h:R (.tup [.p (.sl false 1 []),.p (i64 (zcf s k))]) H):ACall Tryz.prog G 54 [.p (stm s),.p (i64 k)] H R:=by
 refine ACall.of_run (raw:=[]) Tryz.func54 rfl Tryz.ntmps54 (by simp) fun hbel => ?_
 refine .qt rfl ?_;simp (disch:=first|exact zb|fail) only [go_sem,seval];refine .qt rfl ?_;simp (disch:=first|exact zb|fail) only [go_sem,seval];refine CallK.of (fun R h=>zeL s m hs k hk _ R h) ?_;simp (disch:=first|exact zb|fail) only [go_sem,seval];refine .qt rfl ?_;simp (disch:=first|exact zb|fail) only [go_sem,seval];refine .qT rfl ?_;refine .qt rfl ?_;simp (disch:=first|exact zb|fail) only [go_sem,seval];refine .qr rfl Tryz.func54 (by rw [Tryz.results54]) ?_;simp (disch:=first|exact zb|fail) only [go_sem,seval];exact h
set_option maxHeartbeats 8000000 in
set_option maxRecDepth 20000 in
theorem ziw (s:Strm) (m:Nat) (hs:okS m s) (k n:Nat) (hk:k≤5) (hn:n=2 ^ k) (hl:s.l.length≤n) (H:Hp) (R:AV → Hp → Prop) (h:R (.tup [.p (.sl false 1 (pl (yu 1 zh) (zN s n))),.p (i64 0)]) H):ACall Tryz.prog G 54 [.p (stm s),.p (i64 k)] H R:=by
 refine ACall.of_run (raw:=[]) Tryz.func54 rfl Tryz.ntmps54 (by simp) fun hbel => ?_
 have he:zcf s k=0:=by
  unfold zcf;rw [if_neg (by omega),Int.toNat_natCast,←hn,if_neg (by omega)]
 have hc5:(zN s n).length=5:=by simp [zN]
 refine .qt rfl ?_;simp (disch:=first|exact zb|fail) only [go_sem,seval];refine .qt rfl ?_;simp (disch:=first|exact zb|fail) only [go_sem,seval];refine CallK.of (fun R h=>zeL s m hs k (by omega) _ R h) ?_;simp (disch:=first|exact zb|fail) only [go_sem,seval,he];refine .qt rfl ?_;simp (disch:=first|exact zb|fail) only [go_sem,seval];refine .qF rfl ?_;refine .skip ?_;refine .qt rfl ?_;simp (disch:=first|exact zb|fail) only [go_sem,seval];refine .q ?_;refine .own 7 (by simp (disch:=first|exact zb|fail) only [go_sem,seval];rfl) ?_;refine .qt rfl ?_;simp (disch:=first|exact zb|fail) only [go_sem,seval];refine CallK.of (fun R h=>zfX _ R h) ?_;simp (disch:=first|exact zb|fail) only [go_sem,seval];refine .q ?_;refine .count (fun c env W=>env 1 = .p (i64 k)∧env 2 = .ptr H.n 0∧env 7 = .sl (H.n+1) c 1 (pl (yu 1 zh) ((zN s n).take c))∧env 16=fld∧env 17 = .p (i64 c)∧W.f H.n=some (.cells [.p (.sl false 4 (pl rdg s.l)),.p (.sl false 1 (pl bo s.gone))])∧W.f (H.n+1)=some (.tail c)∧H.n+3≤W.n∧LowE H W) 0 4 (by omega) ?_ ?_ ?_
 · refine⟨?_,?_,?_,?_,?_,?_,?_,?_,((LowE.new _).trans (.new _)).trans (.new _)⟩
   · simp (disch:=first|exact zb|fail) only [go_sem,seval]
   · simp (disch:=first|exact zb|fail) only [go_sem,seval]
   · simp (disch:=first|exact zb|fail) only [go_sem,seval,za8,List.take_zero]
   · simp (disch:=first|exact zb|fail) only [go_sem,seval]
   · simp (disch:=first|exact zb|fail) only [go_sem,seval]
   · simp (disch:=first|exact zb|fail) only [go_sem,seval]
   · simp (disch:=first|exact zb|fail) only [go_sem,seval]
   · simp only [n_new'];omega
 · rintro env W ⟨e1,e2,e7,e16,e17,h1,h2,hWn,hW⟩
   have hw:([.ptr H.n 0]:List AV).map AV.weak=[.ptr H.n 0]:=rfl
   have hen:enters Tryz.prog 115=true:=by kernel_rfl
   have hap:pl (yu 1 zh) ((zN s n).take 4)++[.sl false 1 (pl zh (zce s n 4))]=pl (yu 1 zh) (zN s n):=by
    have h5:zN s n=(zN s n).take 4++[zce s n 4]:=rfl
    conv=>rhs;rw [h5,←ye]
    rfl
   have hbel:Bel H.n W:=hW.bel hbel;refine .qt rfl ?_;simp (disch:=first|exact zb|fail) only [go_sem,seval,e17];refine .qF rfl ?_;refine .qt rfl ?_;simp (disch:=first|exact zb|fail) only [go_sem,seval,e1,e2,e7,h1];refine CallK.of (fun R h=>zdP s m hs k n hk hn hl 115 [.ptr H.n 0] hw hen (fun i=>if nth s.gone i then 0#64 else 1#64) _ (fun i hi V hV R h=>zqy s i (by rw [hs.gl];exact hi) H.n V ((hV.f H.n (by omega)).trans h1) R h) R h) ?_;simp (disch:=first|exact zb|fail) only [go_sem,seval,h2,zEt,hap,hc5];refine .qr rfl Tryz.func54 (by rw [Tryz.results54]) ?_;simp (disch:=first|exact zb|fail) only [go_sem,seval];rw [hW.back];exact h
 · rintro c env W hc0 hc ⟨e1,e2,e7,e16,e17,h1,h2,hWn,hW⟩ ihO
   have hfi:=zjg hc;have hw:([.ptr W.n 0,.ptr H.n 0]:List AV).map AV.weak=[.ptr W.n 0,.ptr H.n 0]:=rfl
   have hen:enters Tryz.prog 114=true:=by kernel_rfl
   have hap:pl (yu 1 zh) ((zN s n).take c)++[.sl false 1 (pl zh (zce s n c))]=pl (yu 1 zh) ((zN s n).take (c+1)):=by
    have hlt:c < (zN s n).length:=by omega
    rw [List.take_succ_eq_append_getElem hlt,←ye]
    congr 1
    simp [zN,pl,yu]
   refine .qt rfl ?_;simp (disch:=first|exact zb|fail) only [go_sem,seval,e17];refine .qT rfl ?_;refine .qt rfl ?_;simp (disch:=first|exact zb|fail) only [go_sem,seval,e16,e17,hfi]
   have h1':(W.new (.cells [.clo (gnk c) [] [],.p (i64 (yf c:Nat))])).f H.n=some (.cells [.p (.sl false 4 (pl rdg s.l)),.p (.sl false 1 (pl bo s.gone))]):=by rw [zc (by omega)];exact h1
   have h2':(W.new (.cells [.clo (gnk c) [] [],.p (i64 (yf c:Nat))])).f (H.n+1)=some (.tail c):=by rw [zc (by omega)];exact h2
   have h3':(W.new (.cells [.clo (gnk c) [] [],.p (i64 (yf c:Nat))])).f W.n=some (.cells [.clo (gnk c) [] [],.p (i64 (yf c:Nat))]):=zm rfl;have hWL:LowE H (W.new (.cells [.clo (gnk c) [] [],.p (i64 (yf c:Nat))])):=hW.trans (.new _);have hVn:(W.new (.cells [.clo (gnk c) [] [],.p (i64 (yf c:Nat))])).n=W.n+1:=n_new'
   generalize W.new (.cells [.clo (gnk c) [] [],.p (i64 (yf c:Nat))])=V at *
   refine .qt rfl ?_;simp (disch:=first|exact zb|fail) only [go_sem,seval,e1,e2,e7,h1'];refine CallK.of (fun R h=>zdP s m hs k n hk hn hl 114 [.ptr W.n 0,.ptr H.n 0] hw hen (fun i=>BitVec.ofInt 64 (fR (nth s.l i) c)) _ (fun i hi U hU R h=>zqx s c hc i hi W.n H.n U ((hU.f W.n (by omega)).trans h3') ((hU.f H.n (by omega)).trans h1') R h) R h) ?_;simp (disch:=first|exact zb|fail) only [go_sem,seval,h2',zEs hc,hap,hc5];refine .qt rfl ?_;simp (disch:=first|exact zb|fail) only [go_sem,seval,e17];refine ihO _ _ ⟨?_,?_,?_,?_,?_,?_,zo rfl (by omega),by rw [n_set'];omega,hWL.set _ (by omega)⟩
   · simp (disch:=first|exact zb|fail) only [go_sem,seval,e1]
   · simp (disch:=first|exact zb|fail) only [go_sem,seval,e2]
   · simp (disch:=first|exact zb|fail) only [go_sem,seval]
   · simp (disch:=first|exact zb|fail) only [go_sem,seval,e16]
   · simp (disch:=first|exact zb|fail) only [go_sem,seval]
   · rw [f_set_ne' (by omega)];exact h1'
end walks
end Go.Proofs.YthaoifcebimkfaaGreatDoor

namespace Go.Proofs.YthaoifcebimkfaaGreatDoor
open Go Go.AL Go.Proofs Go.Shelf

def renC:Ren:=⟨fun n=>if n=4 then 117 else n,fun n=>if n=25 then 27 else if n=22 then 43 else if n=20 then 20 else if n=9 then 9 else if n=4 then 4 else if n=3 then 3 else if n=0 then 0 else n,fun n=>n⟩

theorem zqz:Lays8.n4 Tryz.prog renC where
  mixed:=follows
  f4 := ⟨"slices.Grow[[][]uint64,[]uint64]", by decide, by kernel_rfl⟩
  t0:=Tryz.underlying0
  a0:=fun w=>by kernel_rfl
  z0:=fun w=>by kernel_rfl
  v0:=fun w=>by kernel_rfl
  t3:=Tryz.underlying3
  a3:=fun w=>by kernel_rfl
  z3:=fun w=>by kernel_rfl
  v3:=fun w=>by kernel_rfl
  t4:=Tryz.underlying4
  a4:=fun w=>by kernel_rfl
  z4:=fun w=>by kernel_rfl
  v4:=fun w=>by kernel_rfl
  t9:=Tryz.underlying9
  a9:=fun w=>by kernel_rfl
  z9:=fun w=>by kernel_rfl
  v9:=fun w=>by kernel_rfl
  t20:=Tryz.underlying20
  a20:=fun w=>by kernel_rfl
  z20:=fun w=>by kernel_rfl
  v20:=fun w=>by kernel_rfl
  t22:=Tryz.underlying43
  a22:=fun w=>by kernel_rfl
  z22:=fun w=>by kernel_rfl
  v22:=fun w=>by kernel_rfl

theorem zE6:Tryz.prog.info? 27=some Tryz.t27:=by kernel_rfl

theorem zqA {G:Globs} (n:Nat) (hn0:0 < n) (hn:n≤1000000) (H:Hp) (R:AV → Hp → Prop) (h:R (.sl H.n 0 1 []) (H.new (.tail 0))) :
 ACall Tryz.prog G 117 [.p (.s (.slice none 0 0)),.p (i64 n)] H R:=by
 intro σ w vs hr hvs;have hs:vs.size=2:=hvs.1;have r0:=hvs.2 0 _ vs[0] rfl (by simp);have r1:=hvs.2 1 _ vs[1] rfl (by simp)
 have e1:vs[1] = .int .i64 n:=by
  generalize vs[1]=v at r1
  cases r1 with | p r=>cases r;rfl
 obtain⟨base,e0⟩ : ∃ base,vs[0] = .slice base 0 0:=by
  generalize vs[0]=v at r0
  cases r0 with | p r =>
  cases r;exact⟨none,rfl⟩
 have hv:vs = #[.slice base 0 0,.int .i64 n]:=by
  apply Array.ext
  · simp [hs]
  · intro i h1 h2
    have:i=0 ∨ i=1:=by simp at h2;omega
    rcases this with rfl | rfl
    · simpa using e0
    · simpa using e1
 have hc:=Any8.slices_Grow_grow zqz Tryz.t27 (.slice none 0 0) zE6 rfl (by decide) base 0 0 n [] w (Nat.le_refl _) (by omega) (by show (0+n)*24≤_;omega) (by omega) rfl (fun _=>rfl) (by simp);rw [hv];refine Calls.mono hc ?_
 rintro e w' ⟨rfl,rfl⟩
 generalize hC:(([]:List Value).toArray++Builtin.zeroCells (Value.slice none 0 0).cells (0+n - 0)++Builtin.zeroCells (Value.slice none 0 0).cells (grownCap w (0+n) 0 (renC.t 25) - (0+n)))=C
 have hCs:grownCap w (0+n) 0 (renC.t 25)≤C.size:=by
  rw [←hC];simp [Builtin.zeroCells,Value.cells];omega
 have hmax:grownCap w (0+n) 0 (renC.t 25)≤maxLen:=grownCap_le_maxLen w _ _ _ (by unfold maxLen;omega)
 generalize grownCap w (0+n) 0 (renC.t 25)=cap at hCs hmax
 obtain⟨h1,h2⟩:=yU hr (w':=w.drew.alloc (.cells C (renC.t 25))) (by show w.drew.heap.size≤_;simp) (fun g hg=>heap_alloc_old w.drew _ hg) rfl rfl
  (some (w.heap.size,0,C.size)) (fun g o s hh=>by cases hh;exact⟨Nat.le_refl _,_,_,heap_alloc_new w.drew _,rfl⟩)
 refine⟨_,_,_,_,h,rfl,h1,.sl ?_ ⟨by simp [Hp.n_new],fun k0 d hk0 => ?_⟩,h2⟩
 · exact .sl false _ [] _ 0 _ (fun _=>undef) (by simp) ⟨by simp,hmax⟩ (by simp) (by simp) (by simp [flat])
 · simp [Hp.f_new] at hk0
   exact⟨by omega,fun _ => .inr ⟨w.heap.size,0,0,cap,C.size,by simp,by simp [Gh.withT],by omega⟩⟩

def pcc (l:List (List U)):PV := .sl false 1 (pl (yu 1 zh) l)
theorem zjh (l:List (List U)):(pcc l).cells=[pcc l]:=rfl
theorem zrC (l:List (List U)):AV.p (pcc l) = .p (.sl false 1 (pl (yu 1 zh) l)):=rfl
def zdQ (ps:List (List (List U))):Nat → Nat
 | 0=>0
 | i+1=>zdQ ps i+(nth ps i).length
def zqB (ps:List (List (List U))):Nat → List (List U)
 | 0=>[]
 | i+1=>zqB ps i++nth ps i
theorem zAg (ps:List (List (List U))) (i:Nat):(zqB ps i).length=zdQ ps i:=by
 induction i with
 | zero=>rfl
 | succ i ih=>simp [zqB,zdQ,ih]
theorem zji (ps:List (List (List U))) {i j:Nat} (h:i≤j):zdQ ps i≤zdQ ps j:=by
  induction j with
  | zero => have : i = 0 := by omega
            subst this;exact Nat.le_refl _
  | succ j ih =>
    by_cases e:i=j+1
    · rw [e];exact Nat.le_refl _
    · have:=ih (by omega);simp only [zdQ];omega

set_option maxHeartbeats 8000000 in
theorem zkB {G:Globs} (ps:List (List (List U))) (hn:ps.length≤1000) (h0:0 < zdQ ps ps.length) (h1:zdQ ps ps.length≤1000000) (H:Hp) (R:AV → Hp → Prop) (h:R (.p (.sl false 1 (pl (yu 1 zh) (zqB ps ps.length)))) H) :
 ACall Tryz.prog G 56 [.p (.sl false 1 (pl pcc ps))] H R:=by
 refine ACall.of_run (raw:=[117]) Tryz.func56 rfl Tryz.ntmps56 (by simp) fun hbel => ?_
 refine .qt rfl ?_;simp (disch:=first|exact zb|fail) only [go_sem,seval];refine .qt rfl ?_;simp (disch:=first|exact zb|fail) only [go_sem,seval];refine .qt rfl ?_;simp (disch:=first|exact zb|fail) only [go_sem,seval];refine .q ?_;refine .count (fun i env H'=>env 0 = .p (.sl false 1 (pl pcc ps))∧env 3 = .p (i64 (zdQ ps i))∧env 9 = .p (.sl false 1 (pl pcc ps))∧env 10 = .p (i64 ps.length)∧env 11 = .p (i64 i)∧H'=H) 0 ps.length (by omega) ?_ ?_ ?_
 · simp (disch:=first|exact zb|fail) only [go_sem,seval];rfl
 · intro env H' ⟨e0,e3,e9,e10,e11,eH⟩;subst eH;refine .qt rfl ?_;simp (disch:=first|exact zb|fail) only [go_sem,seval,e10,e11];refine .qF rfl ?_;refine .qt rfl ?_;simp (disch:=first|exact zb|fail) only [go_sem,seval,e3];refine CallK.of (fun R h=>zqA _ h0 (by omega) _ R h) ?_;simp (disch:=first|exact zb|fail) only [go_sem,seval];refine .qt rfl ?_;simp (disch:=first|exact zb|fail) only [go_sem,seval,e0];refine .q ?_;refine .count (fun i env H2=>env 6 = .sl H'.n i 1 (pl (yu 1 zh) (zqB ps i))∧env 25 = .p (.sl false 1 (pl pcc ps))∧env 26 = .p (i64 ps.length)∧env 27 = .p (i64 i)∧H2=H'.new (.tail i)) 0 ps.length (by omega) ?_ ?_ ?_
   · simp (disch:=first|exact zb|fail) only [go_sem,seval];rfl
   · intro env H2 ⟨e6,e25,e26,e27,eH⟩;subst eH;refine .qt rfl ?_;simp (disch:=first|exact zb|fail) only [go_sem,seval,e26,e27];refine .qF rfl ?_;refine .qt rfl ?_;simp (disch:=first|exact zb|fail) only [go_sem,seval,e6];refine .qr rfl Tryz.func56 (by rw [Tryz.results56]) ?_;simp (disch:=first|exact zb|fail) only [go_sem,seval];exact h
   · intro i env H2 _ hi ⟨e6,e25,e26,e27,eH⟩ ih;subst eH;have hm:=zji ps (show i+1≤ps.length by omega);have hs:zdQ ps (i+1)=zdQ ps i+(nth ps i).length:=rfl;have hcl:(zqB ps i).length=zdQ ps i:=zAg ps i;refine .qt rfl ?_;simp (disch:=first|exact zb|fail) only [go_sem,seval,e26,e27];refine .qT rfl ?_;refine .qt rfl ?_;simp (disch:=first|exact zb|fail) only [go_sem,seval,e25,e27,zjh,zrC];refine .qt rfl ?_;simp (disch:=first|exact zb|fail) only [go_sem,seval,e6];refine .qt rfl ?_;simp (disch:=first|exact zb|fail) only [go_sem,seval,e27];refine ih _ _ ?_;simp (disch:=first|exact zb|fail) only [go_sem,seval,e6,e25,e26,e27];rfl
 · intro i env H' _ hi ⟨e0,e3,e9,e10,e11,eH⟩ ih;subst eH;have hm:=zji ps (show i+1≤ps.length by omega);have hs:zdQ ps (i+1)=zdQ ps i+(nth ps i).length:=rfl;refine .qt rfl ?_;simp (disch:=first|exact zb|fail) only [go_sem,seval,e10,e11];refine .qT rfl ?_;refine .qt rfl ?_;simp (disch:=first|exact zb|fail) only [go_sem,seval,e9,e11,zjh,zrC];refine .qt rfl ?_;simp (disch:=first|exact zb|fail) only [go_sem,seval,e3];refine .qt rfl ?_;simp (disch:=first|exact zb|fail) only [go_sem,seval];refine .qF rfl ?_;refine .qt rfl ?_;simp (disch:=first|exact zb|fail) only [go_sem,seval,e11];refine ih _ _ ?_;simp (disch:=first|exact zb|fail) only [go_sem,seval,e0,e3,e9,e10,e11];rw [hs];rfl

end Go.Proofs.YthaoifcebimkfaaGreatDoor

namespace Go.Proofs.YthaoifcebimkfaaGreatDoor
open Go Go.AL

section walks
variable {G:Globs}
def zfY (s:Strm) (n c b:Nat):List (List U):=yH s n c++(List.range b).map (zci s n c)
theorem zqC {s:Strm} {n c:Nat}:zfY s n c 0=yH s n c:=by simp [zfY]
theorem zvK {s:Strm} {n c b:Nat}:(zfY s n c b).length=wdT c+b:=by simp [zfY,zaK]
theorem zqD {s:Strm} {n c b:Nat}:pl (yu 1 zh) (zfY s n c b)++[.sl false 1 (pl zh (zci s n c b))]=pl (yu 1 zh) (zfY s n c (b+1)):=by
 unfold zfY;rw [List.range_succ,List.map_append,←List.append_assoc,←ye (l:=yH s n c++(List.range b).map (zci s n c))];rfl
set_option maxHeartbeats 8000000 in
set_option maxRecDepth 20000 in
theorem zqE (s:Strm) (m:Nat) (hs:okS m s) (k n:Nat) (hk:k≤5) (hn:n=2 ^ k) (hl:s.l.length≤n) (H:Hp) (R:AV → Hp → Prop) (h:R (.tup [.p (.sl false 1 (pl (yu 1 zh) (yH s n 4))),.p (i64 0)]) H):ACall Tryz.prog G 55 [.p (stm s),.p (i64 k)] H R:=by
 refine ACall.of_run (raw:=[]) Tryz.func55 rfl Tryz.ntmps55 (by simp) fun hbel => ?_
 have he:zcf s k=0:=by
  unfold zcf;rw [if_neg (by omega),Int.toNat_natCast,←hn,if_neg (by omega)]
 refine .qt rfl ?_;simp (disch:=first|exact zb|fail) only [go_sem,seval];refine .qt rfl ?_;simp (disch:=first|exact zb|fail) only [go_sem,seval];refine CallK.of (fun R h=>zeL s m hs k (by omega) _ R h) ?_;simp (disch:=first|exact zb|fail) only [go_sem,seval,he];refine .qt rfl ?_;simp (disch:=first|exact zb|fail) only [go_sem,seval];refine .qF rfl ?_;refine .skip ?_;refine .qt rfl ?_;simp (disch:=first|exact zb|fail) only [go_sem,seval];refine .q ?_;refine .own 7 (by simp (disch:=first|exact zb|fail) only [go_sem,seval];rfl) ?_;refine .qt rfl ?_;simp (disch:=first|exact zb|fail) only [go_sem,seval];refine CallK.of (fun R h=>zfX _ R h) ?_;simp (disch:=first|exact zb|fail) only [go_sem,seval];refine .q ?_;refine .count (fun c env W=>env 1 = .p (i64 k)∧env 2 = .ptr H.n 0∧env 7 = .sl (H.n+1) (wdT c) 1 (pl (yu 1 zh) (yH s n c))∧env 17=fld∧env 18 = .p (i64 c)∧W.f H.n=some (.cells [.p (.sl false 4 (pl rdg s.l)),.p (.sl false 1 (pl bo s.gone))])∧W.f (H.n+1)=some (.tail (wdT c))∧H.n+3≤W.n∧LowE H W) 0 4 (by omega) ?_ ?_ ?_
 · refine⟨?_,?_,?_,?_,?_,?_,?_,?_,((LowE.new _).trans (.new _)).trans (.new _)⟩
   · simp (disch:=first|exact zb|fail) only [go_sem,seval]
   · simp (disch:=first|exact zb|fail) only [go_sem,seval]
   · simp (disch:=first|exact zb|fail) only [go_sem,seval];rfl
   · simp (disch:=first|exact zb|fail) only [go_sem,seval]
   · simp (disch:=first|exact zb|fail) only [go_sem,seval]
   · simp (disch:=first|exact zb|fail) only [go_sem,seval]
   · simp (disch:=first|exact zb|fail) only [go_sem,seval];rfl
   · simp only [n_new'];omega
 · rintro env W ⟨e1,e2,e7,e17,e18,h1,h2,hWn,hW⟩
   have hbel:Bel H.n W:=hW.bel hbel;refine .qt rfl ?_;simp (disch:=first|exact zb|fail) only [go_sem,seval,e18];refine .qF rfl ?_;refine .qt rfl ?_;simp (disch:=first|exact zb|fail) only [go_sem,seval,e7];refine .qr rfl Tryz.func55 (by rw [Tryz.results55]) ?_;simp (disch:=first|exact zb|fail) only [go_sem,seval];rw [hW.back];exact h
 · rintro c env W hc0 hc ⟨e1,e2,e7,e17,e18,h1,h2,hWn,hW⟩ ihO
   have hfi:=zjg hc;have hwb:=zaY c;have hwt:=zAd c;refine .qt rfl ?_;simp (disch:=first|exact zb|fail) only [go_sem,seval,e18];refine .qT rfl ?_;refine .qt rfl ?_;simp (disch:=first|exact zb|fail) only [go_sem,seval,e17,e18,hfi]
   have h1':(W.new (.cells [.clo (gnk c) [] [],.p (i64 (yf c:Nat))])).f H.n=some (.cells [.p (.sl false 4 (pl rdg s.l)),.p (.sl false 1 (pl bo s.gone))]):=by rw [zc (by omega)];exact h1
   have h2':(W.new (.cells [.clo (gnk c) [] [],.p (i64 (yf c:Nat))])).f (H.n+1)=some (.tail (wdT c)):=by rw [zc (by omega)];exact h2
   have h3':(W.new (.cells [.clo (gnk c) [] [],.p (i64 (yf c:Nat))])).f W.n=some (.cells [.clo (gnk c) [] [],.p (i64 (yf c:Nat))]):=zm rfl;have hWL:LowE H (W.new (.cells [.clo (gnk c) [] [],.p (i64 (yf c:Nat))])):=hW.trans (.new _);have hVn:(W.new (.cells [.clo (gnk c) [] [],.p (i64 (yf c:Nat))])).n=W.n+1:=n_new'
   generalize W.new (.cells [.clo (gnk c) [] [],.p (i64 (yf c:Nat))])=V at *
   refine .qt rfl ?_;simp (disch:=first|exact zb|fail) only [go_sem,seval,h3'];refine .q ?_;refine .count (fun b env U=>env 1 = .p (i64 k)∧env 2 = .ptr H.n 0∧env 7 = .sl (H.n+1) (wdT c+b) 1 (pl (yu 1 zh) (zfY s n c b))∧env 9 = .ptr W.n 0∧env 17=fld∧env 18 = .p (i64 c)∧env 22 = .p (i64 (yf c:Nat))∧env 23 = .p (i64 b)∧U.f H.n=some (.cells [.p (.sl false 4 (pl rdg s.l)),.p (.sl false 1 (pl bo s.gone))])∧U.f (H.n+1)=some (.tail (wdT c+b))∧U.f W.n=some (.cells [.clo (gnk c) [] [],.p (i64 (yf c:Nat))])∧W.n+1≤U.n∧LowE H U) 0 (yf c) (by omega) ?_ ?_ ?_
   · refine⟨?_,?_,?_,?_,?_,?_,?_,?_,h1',h2',h3',by omega,hWL⟩
     · simp (disch:=first|exact zb|fail) only [go_sem,seval,e1]
     · simp (disch:=first|exact zb|fail) only [go_sem,seval,e2]
     · simp (disch:=first|exact zb|fail) only [go_sem,seval,e7,zqC]
     · simp (disch:=first|exact zb|fail) only [go_sem,seval]
     · simp (disch:=first|exact zb|fail) only [go_sem,seval,e17]
     · simp (disch:=first|exact zb|fail) only [go_sem,seval,e18]
     · simp (disch:=first|exact zb|fail) only [go_sem,seval]
     · simp (disch:=first|exact zb|fail) only [go_sem,seval]
   · rintro env U ⟨e1,e2,e7,e9,e17,e18,e22,e23,g1,g2,g3,gn,gL⟩
     refine .qt rfl ?_;simp (disch:=first|exact zb|fail) only [go_sem,seval,e22,e23];refine .qF rfl ?_;refine .qt rfl ?_;simp (disch:=first|exact zb|fail) only [go_sem,seval,e18];refine ihO _ _ ⟨?_,?_,?_,?_,?_,g1,g2,by omega,gL⟩
     · simp (disch:=first|exact zb|fail) only [go_sem,seval,e1]
     · simp (disch:=first|exact zb|fail) only [go_sem,seval,e2]
     · simp (disch:=first|exact zb|fail) only [go_sem,seval,e7];rfl
     · simp (disch:=first|exact zb|fail) only [go_sem,seval,e17]
     · simp (disch:=first|exact zb|fail) only [go_sem,seval]
   · rintro b env U hb0 hb ⟨e1,e2,e7,e9,e17,e18,e22,e23,g1,g2,g3,gn,gL⟩ ihI
     have hw:([.ptr W.n 0,.ptr H.n 0,.ptr U.n 0]:List AV).map AV.weak=[.ptr W.n 0,.ptr H.n 0,.ptr U.n 0]:=rfl
     have hen:enters Tryz.prog 116=true:=by kernel_rfl
     have hap:=zqD (s:=s) (n:=n) (c:=c) (b:=b);have hbl:=zvK (s:=s) (n:=n) (c:=c) (b:=b);refine .qt rfl ?_;simp (disch:=first|exact zb|fail) only [go_sem,seval,e22,e23];refine .qT rfl ?_;refine .qt rfl ?_;simp (disch:=first|exact zb|fail) only [go_sem,seval,e23]
     have g1':(U.new (.cells [.p (i64 b)])).f H.n=some (.cells [.p (.sl false 4 (pl rdg s.l)),.p (.sl false 1 (pl bo s.gone))]):=by rw [zc (by omega)];exact g1
     have g2':(U.new (.cells [.p (i64 b)])).f (H.n+1)=some (.tail (wdT c+b)):=by rw [zc (by omega)];exact g2
     have g3':(U.new (.cells [.p (i64 b)])).f W.n=some (.cells [.clo (gnk c) [] [],.p (i64 (yf c:Nat))]):=by rw [zc (by omega)];exact g3
     have g4':(U.new (.cells [.p (i64 b)])).f U.n=some (.cells [.p (i64 b)]):=zm rfl;have gL':LowE H (U.new (.cells [.p (i64 b)])):=gL.trans (.new _);have gn':(U.new (.cells [.p (i64 b)])).n=U.n+1:=n_new'
     generalize U.new (.cells [.p (i64 b)])=T at *
     refine .qt rfl ?_;simp (disch:=first|exact zb|fail) only [go_sem,seval,e1,e2,e7,e9,g1'];refine CallK.of (fun R h=>zdP s m hs k n hk hn hl 116 [.ptr W.n 0,.ptr H.n 0,.ptr U.n 0] hw hen (fun i=>(BitVec.ofInt 64 (fR (nth s.l i) c) >>> b) &&& 1#64) _ (fun i hi Q hQ R h=>zvJ s c hc b i (by omega) hi W.n H.n U.n Q ((hQ.f W.n (by omega)).trans g3') ((hQ.f H.n (by omega)).trans g1') ((hQ.f U.n (by omega)).trans g4') R h) R h) ?_;simp (disch:=first|exact zb|fail) only [go_sem,seval,g2',zEu hc,hap,hbl];refine .qt rfl ?_;simp (disch:=first|exact zb|fail) only [go_sem,seval,e23];refine ihI _ _ ⟨?_,?_,?_,?_,?_,?_,?_,?_,?_,zo rfl (by omega),?_,by rw [n_set'];omega,gL'.set _ (by omega)⟩
     · simp (disch:=first|exact zb|fail) only [go_sem,seval,e1]
     · simp (disch:=first|exact zb|fail) only [go_sem,seval,e2]
     · simp (disch:=first|exact zb|fail) only [go_sem,seval];rfl
     · simp (disch:=first|exact zb|fail) only [go_sem,seval,e9]
     · simp (disch:=first|exact zb|fail) only [go_sem,seval,e17]
     · simp (disch:=first|exact zb|fail) only [go_sem,seval,e18]
     · simp (disch:=first|exact zb|fail) only [go_sem,seval,e22]
     · simp (disch:=first|exact zb|fail) only [go_sem,seval]
     · rw [f_set_ne' (by omega)];exact g1'
     · rw [f_set_ne' (by omega)];exact g3'
set_option maxHeartbeats 8000000 in
set_option maxRecDepth 20000 in
theorem zkC (s:Strm) (m:Nat) (hs:okS m s) (k:Int) (hk:k≤5 ∨ 16 < k) (he:zcf s k≠0) (H:Hp) (R:AV → Hp → Prop) (h:R (.tup [.p (.sl false 1 []),.p (i64 (zcf s k))]) H):ACall Tryz.prog G 15 [.p (stm s),.p (i64 k)] H R:=by
 refine ACall.of_run (raw:=[]) Tryz.func15 rfl Tryz.ntmps15 (by simp) fun hbel => ?_
 refine .qt rfl ?_;simp (disch:=first|exact zb|fail) only [go_sem,seval];refine .qt rfl ?_;simp (disch:=first|exact zb|fail) only [go_sem,seval];refine CallK.of (fun R h=>zkA s m hs k hk he _ R h) ?_;simp (disch:=first|exact zb|fail) only [go_sem,seval];refine .qt rfl ?_;simp (disch:=first|exact zb|fail) only [go_sem,seval];refine .qT rfl ?_;refine .qt rfl ?_;simp (disch:=first|exact zb|fail) only [go_sem,seval];refine .qr rfl Tryz.func15 (by rw [Tryz.results15]) ?_;simp (disch:=first|exact zb|fail) only [go_sem,seval];exact h
set_option maxHeartbeats 8000000 in
set_option maxRecDepth 20000 in
theorem zek (s:Strm) (m:Nat) (hs:okS m s) (k n:Nat) (hk:k≤5) (hn:n=2 ^ k) (hl:s.l.length≤n) (H:Hp) (R:AV → Hp → Prop) (h:R (.tup [.p (.sl false 1 (pl (yu 1 zh) (zdO s n))),.p (i64 0)]) H):ACall Tryz.prog G 15 [.p (stm s),.p (i64 k)] H R:=by
 refine ACall.of_run (raw:=[]) Tryz.func15 rfl Tryz.ntmps15 (by simp) fun hbel => ?_
 refine .qt rfl ?_;simp (disch:=first|exact zb|fail) only [go_sem,seval];refine .qt rfl ?_;simp (disch:=first|exact zb|fail) only [go_sem,seval];refine CallK.of (fun R h=>ziw s m hs k n hk hn hl _ R h) ?_;simp (disch:=first|exact zb|fail) only [go_sem,seval];refine .qt rfl ?_;simp (disch:=first|exact zb|fail) only [go_sem,seval];refine .qF rfl ?_;refine .skip ?_;refine .qt rfl ?_;simp (disch:=first|exact zb|fail) only [go_sem,seval];refine CallK.of (fun R h=>zqE s m hs k n hk hn hl _ R h) ?_;simp (disch:=first|exact zb|fail) only [go_sem,seval];refine .qt rfl ?_;simp (disch:=first|exact zb|fail) only [go_sem,seval];refine .qF rfl ?_;refine .skip ?_
 have hc5:(zN s n).length=5:=by simp [zN]
 have hl4:(yH s n 4).length=24:=by rw [zaK];rfl
 have hb:AV.p (.sl true 1 [.sl false 1 (pl (yu 1 zh) (zN s n)),.sl false 1 (pl (yu 1 zh) (yH s n 4))]) = .p (.sl true 1 (pl pcc [zN s n,yH s n 4])):=rfl
 have htot:zdQ [zN s n,yH s n 4] 2=29:=by
  show 0+(zN s n).length+(yH s n 4).length=29
  rw [hc5,hl4]
 have hcat:zqB [zN s n,yH s n 4] 2=zdO s n:=rfl;refine .qt rfl ?_;simp (disch:=first|exact zb|fail) only [go_sem,seval,hb];refine CallK.of (fun R h=>zkB [zN s n,yH s n 4] (by show 2≤1000;omega) (by show 0 < zdQ _ 2;omega) (by show zdQ _ 2≤_;omega) _ R h) ?_;simp (disch:=first|exact zb|fail) only [go_sem,seval];rw [hcat];refine .qr rfl Tryz.func15 (by rw [Tryz.results15]) ?_;simp (disch:=first|exact zb|fail) only [go_sem,seval];exact h
set_option maxHeartbeats 8000000 in
set_option maxRecDepth 20000 in
theorem znk (H:Hp) (R:AV → Hp → Prop) (h:R (.p (i64 29)) H):ACall Tryz.prog G 33 [] H R:=by
 refine ACall.of_run (raw:=[]) Tryz.func33 rfl Tryz.ntmps33 (by simp) fun hbel => ?_
 refine .qt rfl ?_;simp (disch:=first|exact zb|fail) only [go_sem,seval];refine .qt rfl ?_;simp (disch:=first|exact zb|fail) only [go_sem,seval];refine .qr rfl Tryz.func33 (by rw [Tryz.results33]) ?_;simp (disch:=first|exact zb|fail) only [go_sem,seval];exact h
end walks
end Go.Proofs.YthaoifcebimkfaaGreatDoor
