/- Proofs. -/
import Derived.Test.YthaoifcebimkfaaGreatDoorPkS2
set_option linter.unusedSectionVars false
set_option linter.unusedSimpArgs false
set_option linter.unusedVariables false
namespace Go.Proofs.YthaoifcebimkfaaGreatDoor
open Go Go.AL

theorem zDR {b:Nat} {x:Kd}:kdP b x = .agg [.p (i64 x.s),.p (bo x.n),kdB b x.b]:=rfl
theorem zii {b:Nat} {x:Kd}:zh (kdP b x)=some [.p (i64 x.s),.p (bo x.n),kdB b x.b]:=by
 unfold kdP;rcases x with ⟨s,n,_ | _ | _ | _ | _⟩<;>rfl
section enc1
variable {a:PV}
theorem zFG:zu [.p a] = .p (.agg [a]):=rfl
theorem zDS:zh (.p (.agg [a]))=some [.p a]:=rfl
theorem cellsB:(PV.agg [a]).cells=[a]:=rfl
theorem zFH:(PV.agg [a]).isAgg=true:=rfl
theorem zDT:(AV.p (.agg [a])).isAggV=true:=rfl
theorem zFI:(PV.agg [a]).aggOf 0 1 = .agg [a]:=rfl
end enc1
attribute [go_sem] zFG zDS cellsB zFH zDT zFI
section walks
variable {G:Globs} {r1:Nat} {m1:List (Int × Int)}
set_option maxHeartbeats 8000000 in
theorem zij (q:Qry) (hk:1≤q.kind∧q.kind≤7) (H:Hp) (R:AV → Hp → Prop) (h:R (.p (i64 (zih q.kind).s)) H):ACall Tryz.prog G 59 [.p (qry q)] H R:=by
 refine ACall.of_run (raw:=[]) Tryz.func59 rfl Tryz.ntmps59 (by simp) fun hbel => ?_
 refine .qt rfl ?_;simp (disch:=first|exact za|fail) only [go_sem,seval];refine .q ?_;refine .openJ (E := ?E1) (fun H'=>H'.f H.n=some (.cells [.p (i64 q.kind),.p (i64 q.col),.p (i64 q.k),.p (.sl false 1 (pl yH q.fl))])) [1,2] [] [0,3,4,5] [true,false,false,false] follows (by kernel_rfl) (by first | exact rfl | assumption | simp (disch:=first|exact za|fail) only [go_sem,seval]) (fun H2 hJ => ?hP1) ?_;(case hP1=>((try dsimp only at hJ);simp (disch:=first|exact za|fail) only [go_sem,seval,hJ];(try exact rfl)));simp (disch:=first|exact za|fail) only [go_sem,seval];refine CallJ.moves (zeW _) ?_
 rintro _ _ ⟨rfl,rfl⟩
 refine⟨.inr (by simp (disch:=first|exact za|fail) only [go_sem,seval]),?_⟩
 have hl:=zsS (b:=H.n+1+1) hk;simp (disch:=first|exact za|fail) only [go_sem,seval,hl,zDR];refine .qr rfl Tryz.func59 (by rw [Tryz.results59]) ?_;simp (disch:=first|exact za|fail) only [go_sem,seval];exact h
theorem zi4 (g:GW G r1 m1) (q:Qry) (hq:vQ q=true) (H:Hp):ACall Tryz.prog G 130 [.p (qry q),.p (i64 1)] H (fun r H'=>(∃ xs,r = .tup [.p (.sl false 1 xs),.p (bo true)])∧H'=H):=zi3 g q hq H _ fun xs=>⟨⟨xs,rfl⟩,rfl⟩
theorem zrs (g:GW G r1 m1) (q:Qry) (hq:vQ q=true) (H:Hp):ACall Tryz.prog G 131 [.p (qry q),.p (i64 1)] H (fun r H'=>(∃ xs,r = .tup [.p (.sl false 1 xs),.p (bo true)])∧H'=H):=zrr g q hq H _ fun xs=>⟨⟨xs,rfl⟩,rfl⟩
theorem zlo (g:GW G r1 m1) (q:Qry) (hq:vQ q=true) (e:FuncId) (k:Nat) (hk:k≤6) (eb:Nat) (H:Hp) (hen:enters Tryz.prog e=true) (heb:H.f eb=some (.cells [.clo e [] []])) (he : ∀ (H:Hp) (R:AV → Hp → Prop),R (.p (i64 k)) H → ACall Tryz.prog G e [.p (qry q)] H R) :
 ACall Tryz.prog G 153 [.p (qry q),.p (i64 1),.ptr eb 0] H (fun r H'=>(∃ xs,r = .tup [.p (.sl false 1 xs),.p (bo true)])∧H'=H):=zln g q hq e k hk eb H hen heb he _ fun xs=>⟨⟨xs,rfl⟩,rfl⟩
set_option maxHeartbeats 8000000 in
set_option maxRecDepth 20000 in
theorem zrt (g:GW G r1 m1) (q:Qry) (hk:okI q.kind) (n:Int) (hn:n=1) (H:Hp) (R:AV → Hp → Prop) (h : ∀ x,R (.tup [.p (.agg [x]),.p (i64 (ya q))]) H):ACall Tryz.prog G 35 [.p (qry q),.p (i64 n)] H R:=by
 subst hn
 refine ACall.of_run (raw:=[]) Tryz.func35 rfl Tryz.ntmps35 (by simp) fun hbel => ?_
 refine .qt rfl ?_;simp (disch:=first|exact za|fail) only [go_sem,seval]
 cases hv:vQ q with
 | false =>
  have he:ya q=1:=by rw [ya,hv];rfl
  rw [he] at h;refine .qt rfl ?_;simp (disch:=first|exact za|fail) only [go_sem,seval];refine CallK.of (fun R h=>zde q hk _ R h) ?_;simp (disch:=first|exact za|fail) only [go_sem,seval,hv];refine .qT rfl ?_;refine .qt rfl ?_;simp (disch:=first|exact za|fail) only [go_sem,seval];refine .qr rfl Tryz.func35 (by rw [Tryz.results35]) ?_;simp (disch:=first|exact za|fail) only [go_sem,seval];exact h _
 | true =>
  obtain⟨hk7,hcol⟩:(1≤q.kind∧q.kind≤7)∧(0≤q.col∧q.col < 4):=by
   have hq:=hv;simp only [vQ,Bool.and_eq_true,decide_eq_true_eq] at hq;exact⟨hq.1,hq.2.1⟩
  refine .qt rfl ?_;simp (disch:=first|exact za|fail) only [go_sem,seval];refine CallK.of (fun R h=>zde q hk _ R h) ?_;simp (disch:=first|exact za|fail) only [go_sem,seval,hv];refine .qF rfl ?_;refine .skip ?_;have hqn:(H.new (.cells [.p (i64 q.kind),.p (i64 q.col),.p (i64 q.k),.p (.sl false 1 (pl yH q.fl))])).f H.n=some (.cells [.p (i64 q.kind),.p (i64 q.col),.p (i64 q.k),.p (.sl false 1 (pl yH q.fl))]):=zk rfl;refine .q ?_;refine .cut (fun env2 H2 => ∃ b c,env2 1 = .p (i64 1)∧env2 2 = .ptr H.n 0∧env2 4 = .ptr (H.n+1) 0∧env2 6 = .ptr b 0∧H2.f b=some (.cells [.p (i64 (zih q.kind).s),.p (bo (zih q.kind).n),kdB c (zih q.kind).b])∧H2.f c=some (.cells [.clo 127 [] [] ])∧H2.f (c+1)=some (.cells [.clo 128 [] [] ])∧H2.f (c+2)=some (.cells [.clo 129 [] [] ])∧H2.f H.n=some (.cells [.p (i64 q.kind),.p (i64 q.col),.p (i64 q.k),.p (.sl false 1 (pl yH q.fl))])∧H2.f (H.n+1)=some (.cells [.p (.sl true 1 [])])∧Bel H.n H2∧H2.trunc H.n=H) (fun ih => ?_) ?_
  · have hl:=fun b=>zsS (b:=b) hk7
    refine .q ?_;refine .openJ2 (E := ?E2) (fun H'=>H'.f H.n=some (.cells [.p (i64 q.kind),.p (i64 q.col),.p (i64 q.k),.p (.sl false 1 (pl yH q.fl))])) [1,2] [3] 0 4 [3,4,5] [0,3,5] [true,false,true,false] [true,true,false,false] follows (by kernel_rfl) (by first | exact rfl | assumption | simp (disch:=first|exact za|fail) only [go_sem,seval]) (fun H2 hJ => ?hP2) ?_ ?_;(case hP2=>((try dsimp only at hJ);simp (disch:=first|exact za|fail) only [go_sem,seval,hJ];(try exact rfl)));all_goals simp (disch:=first|exact za|fail) only [go_sem,seval]
    · refine CallJ.moves (zeW _) ?_
      rintro _ _ ⟨rfl,rfl⟩
      refine⟨.inr (by simp (disch:=first|exact za|fail) only [go_sem,seval]),?_⟩
      simp (disch:=first|exact za|fail) only [go_sem,seval,hl,zii];refine ih _ _ ⟨H.n+6,H.n+3,?_,?_,?_,?_,?_,?_,?_,?_,?_,?_,?_,?_⟩
      · simp (disch:=first|exact za|fail) only [go_sem,seval]
      · simp (disch:=first|exact za|fail) only [go_sem,seval]
      · simp (disch:=first|exact za|fail) only [go_sem,seval]
      · simp (disch:=first|exact za|fail) only [go_sem,seval]
      · simp (disch:=first|exact za|fail) only [go_sem,seval]
      · simp (disch:=first|exact za|fail) only [go_sem,seval]
      · simp (disch:=first|exact za|fail) only [go_sem,seval]
      · simp (disch:=first|exact za|fail) only [go_sem,seval]
      · simp (disch:=first|exact za|fail) only [go_sem,seval]
      · simp (disch:=first|exact za|fail) only [go_sem,seval]
      · repeat (first | with_reducible refine zaM ?_ za | with_reducible refine za8 ?_ za | with_reducible exact hbel)
      · simp (disch:=first|exact za|fail) only [go_sem,seval]
    · refine CallJ.moves (zeW _) ?_
      rintro _ _ ⟨rfl,rfl⟩
      refine⟨.inr (by simp (disch:=first|exact za|fail) only [go_sem,seval]),?_⟩
      simp (disch:=first|exact za|fail) only [go_sem,seval,hl,zii];refine ih _ _ ⟨H.n+2,H.n+4,?_,?_,?_,?_,?_,?_,?_,?_,?_,?_,?_,?_⟩
      · simp (disch:=first|exact za|fail) only [go_sem,seval]
      · simp (disch:=first|exact za|fail) only [go_sem,seval]
      · simp (disch:=first|exact za|fail) only [go_sem,seval]
      · simp (disch:=first|exact za|fail) only [go_sem,seval]
      · simp (disch:=first|exact za|fail) only [go_sem,seval]
      · simp (disch:=first|exact za|fail) only [go_sem,seval]
      · simp (disch:=first|exact za|fail) only [go_sem,seval]
      · simp (disch:=first|exact za|fail) only [go_sem,seval]
      · simp (disch:=first|exact za|fail) only [go_sem,seval]
      · simp (disch:=first|exact za|fail) only [go_sem,seval]
      · repeat (first | with_reducible refine zaM ?_ za | with_reducible refine za8 ?_ za | with_reducible exact hbel)
      · simp (disch:=first|exact za|fail) only [go_sem,seval]
  rintro env H2 ⟨b,c,e1,e2,e4,e6,hb,hc0,hc1,hc2,hq2,hr2,hbel2,htr⟩
  rw [←htr] at h;have hbel:=hbel2;have hlt2:=Hp.lt hr2;have hlt3:=Hp.lt hq2;have hlt4:=Hp.lt hb;have hlt5:=Hp.lt hc2
  have hK:(min (yt q.kind) 1≤q.k∧q.k≤yt q.kind):=by
   have hq:=hv;simp only [vQ,Bool.and_eq_true,decide_eq_true_eq] at hq;exact hq.2.2.2.1
  rcases Classical.em (4≤q.kind∧q.kind≤6) with h4 | h4
  · have hkd:zih q.kind=⟨16,true,3⟩:=by
     have:q.kind=4 ∨ q.kind=5 ∨ q.kind=6:=by omega
     rcases this with e | e | e<;>rw [e]<;>rfl
    rw [hkd] at hb
    rcases Classical.em (q.col=1 ∨ q.col=3) with h5 | h5
    · have he:ya q=140:=by rw [ya,hv,if_pos rfl,if_pos ⟨h4.1,h4.2,h5⟩]
      have hbi:zsJ q.col=8:=by rcases h5 with e | e<;>rw [e]<;>rfl
      rw [he] at h;refine .qt rfl ?_;simp (disch:=first|exact za|fail) only [go_sem,seval,e1,e2,e4,e6,hb,hq2];refine CallK.of (fun R h=>za5 g q.col ⟨by omega,by omega⟩ _ R h) ?_;simp (disch:=first|exact za|fail) only [go_sem,seval,hbi];refine .qT rfl ?_;refine .qt rfl ?_;simp (disch:=first|exact za|fail) only [go_sem,seval,e4,hr2];refine .qr rfl Tryz.func35 (by rw [Tryz.results35]) (hx:=by simp (disch:=first|exact za|fail) only [go_sem,seval,e4];rfl) ?_;simp (disch:=first|exact za|fail) only [go_sem,seval,e4];exact h _
    · have he:ya q=0:=by rw [ya,hv,if_pos rfl,if_neg (fun x=>h5 x.2.2)]
      have hbi:zsJ q.col=4:=by
       have:q.col=0 ∨ q.col=2:=by omega
       rcases this with e | e<;>rw [e]<;>rfl
      rw [he] at h;refine .qt rfl ?_;simp (disch:=first|exact za|fail) only [go_sem,seval,e1,e2,e4,e6,hb,hq2];refine CallK.of (fun R h=>za5 g q.col ⟨by omega,by omega⟩ _ R h) ?_;simp (disch:=first|exact za|fail) only [go_sem,seval,hbi];refine .qF rfl ?_;refine .skip ?_;refine .qt rfl ?_;simp (disch:=first|exact za|fail) only [go_sem,seval,e1,e2,e4,e6,hb,hq2,kdB,zlm];refine CallK.ex (zi4 g q hv _) ?_
      rintro _ _ ⟨⟨xs,rfl⟩,rfl⟩
      simp (disch:=first|exact za|fail) only [go_sem,seval];refine .qt rfl ?_;simp (disch:=first|exact za|fail) only [go_sem,seval];refine .qF rfl ?_;refine .skip ?_;refine .qt rfl ?_;simp (disch:=first|exact za|fail) only [go_sem,seval,e4,hr2];refine .qr rfl Tryz.func35 (by rw [Tryz.results35]) (hx:=by simp (disch:=first|exact za|fail) only [go_sem,seval,e4];rfl) ?_;simp (disch:=first|exact za|fail) only [go_sem,seval,e4];exact h _
  · have he:ya q=0:=by rw [ya,hv,if_pos rfl,if_neg (fun x=>h4 ⟨x.1,x.2.1⟩)]
    rw [he] at h
    rcases Classical.em (q.kind=7) with h7 | h7
    · have hkd:zih q.kind=⟨32,false,4⟩:=by rw [h7];rfl
      rw [hkd] at hb;refine .qt rfl ?_;simp (disch:=first|exact za|fail) only [go_sem,seval,e1,e2,e4,e6,hb,hq2];refine .qF rfl ?_;refine .skip ?_;refine .qt rfl ?_;simp (disch:=first|exact za|fail) only [go_sem,seval,e1,e2,e4,e6,hb,hq2,kdB,zlm];refine CallK.ex (zrs g q hv _) ?_
      rintro _ _ ⟨⟨xs,rfl⟩,rfl⟩
      simp (disch:=first|exact za|fail) only [go_sem,seval];refine .qt rfl ?_;simp (disch:=first|exact za|fail) only [go_sem,seval];refine .qF rfl ?_;refine .skip ?_;refine .qt rfl ?_;simp (disch:=first|exact za|fail) only [go_sem,seval,e4,hr2];refine .qr rfl Tryz.func35 (by rw [Tryz.results35]) (hx:=by simp (disch:=first|exact za|fail) only [go_sem,seval,e4];rfl) ?_;simp (disch:=first|exact za|fail) only [go_sem,seval,e4];exact h _
    · obtain⟨i,e,k,k6,hkd,heb,hen,hex⟩ : ∃ i e k,k≤6∧zih q.kind=⟨1,false,i⟩∧(kdB c i = .clo 153 [] [.ptr (c+i) 0]∧H2.f (c+i)=some (.cells [.clo e [] [] ]))∧enters Tryz.prog e=true ∧ ∀ (H:Hp) (R:AV → Hp → Prop),R (.p (i64 (k:Nat))) H → ACall Tryz.prog G e [.p (qry q)] H R:=by
       have:q.kind=1 ∨ q.kind=2 ∨ q.kind=3:=by omega
       rcases this with e | e | e
       · exact⟨0,127,0,by omega,by rw [e];rfl,⟨rfl,hc0⟩,by decide,zwD q⟩
       · exact⟨1,128,1,by omega,by rw [e];rfl,⟨rfl,hc1⟩,by decide,zwE q⟩
       · rw [e] at hK
         have h0:min (yt 3) 1=1:=by decide
         have h1:yt 3=6:=rfl;rw [h0,h1] at hK
         obtain⟨k,hk⟩:=Int.eq_ofNat_of_zero_le (show 0≤q.k by omega)
         refine⟨2,129,k,by omega,by rw [e];rfl,⟨rfl,hc2⟩,by decide,?_⟩
         have:=zwF (G:=G) q
         rw [hk] at this;exact this
      rw [hkd] at hb;have hb1:=heb.1;rw [hb1] at hb;have hcn:=Hp.lt heb.2;refine .qt rfl ?_;simp (disch:=first|exact za|fail) only [go_sem,seval,e1,e2,e4,e6,hb,hq2];refine .qF rfl ?_;refine .skip ?_;refine .qt rfl ?_;simp (disch:=first|exact za|fail) only [go_sem,seval,e1,e2,e4,e6,hb,hq2,zlm];refine CallK.ex (zlo g q hv e k k6 (c+i) _ hen heb.2 hex) ?_
      rintro _ _ ⟨⟨xs,rfl⟩,rfl⟩
      simp (disch:=first|exact za|fail) only [go_sem,seval];refine .qt rfl ?_;simp (disch:=first|exact za|fail) only [go_sem,seval];refine .qF rfl ?_;refine .skip ?_;refine .qt rfl ?_;simp (disch:=first|exact za|fail) only [go_sem,seval,e4,hr2];refine .qr rfl Tryz.func35 (by rw [Tryz.results35]) (hx:=by simp (disch:=first|exact za|fail) only [go_sem,seval,e4];rfl) ?_;simp (disch:=first|exact za|fail) only [go_sem,seval,e4];exact h _
theorem zik (g:GW G r1 m1) (q:Qry) (hk:okI q.kind) (H:Hp):ACall Tryz.prog G 35 [.p (qry q),.p (i64 1)] H (fun r H'=>(∃ x,r = .tup [.p (.agg [x]),.p (i64 (ya q))])∧H'=H):=zrt g q hk 1 rfl H _ fun x=>⟨⟨x,rfl⟩,rfl⟩
end walks
end Go.Proofs.YthaoifcebimkfaaGreatDoor

namespace Go.Proofs.YthaoifcebimkfaaGreatDoor
open Go Go.AL

abbrev pN:Nat:=18446744069414584321
theorem zBx (n:Nat) : ∀ (m:Nat) (f:Nat → Nat),(∀ i,i < m → f i < n) → (∀ i j,i < m → j < m → f i=f j → i=j) → m≤n:=by
 induction n with
 | zero =>
  intro m f h1 _
  cases m with
  | zero=>omega
  | succ m=>have:=h1 0 (by omega);omega
 | succ n ih =>
  intro m f h1 h2;by_cases hx : ∃ i,i < m∧f i=n
  · obtain⟨i0,hi0,he⟩:=hx
    cases m with
    | zero=>omega
    | succ m =>
     have:=ih m (fun i=>if i=i0 then f m else f i) (fun i hi=>by
      by_cases e:i=i0
      · simp only [e,if_true];have h3:=h1 m (by omega)
        have:f m≠n:=fun h=>by
         have:=h2 m i0 (by omega) hi0 (h.trans he.symm)
         omega
        omega
      · simp only [if_neg e];have h3:=h1 i (by omega)
        have:f i≠n:=fun h=>e (h2 i i0 (by omega) hi0 (h.trans he.symm))
        omega) (fun i j hi hj h=>by
      by_cases e:i=i0
      · by_cases e':j=i0
        · omega
        · simp only [e,if_true,if_neg e'] at h
          have:=h2 m j (by omega) (by omega) h
          omega
      · by_cases e':j=i0
        · simp only [e',if_true,if_neg e] at h
          have:=h2 i m (by omega) (by omega) h
          omega
        · simp only [if_neg e,if_neg e'] at h
          exact h2 i j (by omega) (by omega) h)
     omega
  · have:=ih m f (fun i hi=>by
     have h3:=h1 i hi
     have:f i≠n:=fun h=>hx ⟨i,hi,h⟩
     omega) h2
    omega

theorem zgt {u x:Nat} (hu:1 < u) (h:x % u=1) (k:Nat):x ^ k % u=1:=by
 rw [Nat.pow_mod,h,Nat.one_pow,Nat.mod_eq_of_lt hu]
theorem zDU {u c:Nat} (hu:1 < u) (h:c ^ 2 % u=1) (m:Nat):c ^ (2*m+1) % u=c % u:=by
 rw [Nat.pow_succ,Nat.pow_mul,Nat.mul_mod,zgt hu h,Nat.one_mul,Nat.mod_mod]
theorem zDV : ∀ e,0 < e → ∃ t m,e=2 ^ t*(2*m+1):=by
 intro e
 induction e using Nat.strongRecOn with
 | _ e ih =>
  intro h;by_cases h2:e % 2=1
  · exact⟨0,e / 2,by omega⟩
  · obtain⟨t,m,hm⟩:=ih (e / 2) (by omega) (by omega)
    exact⟨t+1,m,by rw [Nat.pow_succ,Nat.mul_comm (2 ^ t) 2,Nat.mul_assoc,←hm];omega⟩

theorem zsT {u b K:Nat} (hu:2 < u) (hb:b ^ 2 ^ K % u=u - 1) {i j:Nat} (hij:i < j) (hj:j < 2 ^ (K+1)):b ^ i % u≠b ^ j % u:=by
 intro he
 have hsq:(b ^ 2 ^ K) ^ 2 % u=1:=by
  rw [Nat.pow_mod,hb]
  obtain⟨v,rfl⟩ : ∃ v,u=v+1:=⟨u - 1,by omega⟩
  have:(v+1 - 1) ^ 2=1+(v+1)*(v - 1):=by
   obtain⟨x,rfl⟩ : ∃ x,v=x+1:=⟨v - 1,by omega⟩
   simp only [Nat.add_sub_cancel]
   grind
  rw [this,Nat.add_mul_mod_self_left,Nat.mod_eq_of_lt (by omega)]
 have hcop:Nat.Coprime (b ^ i) u:=by
  have h1:Nat.gcd b u ∣ (b ^ 2 ^ K) ^ 2:=Nat.dvd_trans (Nat.gcd_dvd_left b u) (by
   obtain⟨e,he⟩ : ∃ e,2 ^ K*2=e+1:=⟨2 ^ K*2 - 1,by have:=Nat.two_pow_pos K;omega⟩
   rw [←Nat.pow_mul,he,Nat.pow_succ];exact Nat.dvd_mul_left b _)
  have h2:(b ^ 2 ^ K) ^ 2=u*((b ^ 2 ^ K) ^ 2 / u)+1:=by
   have:=Nat.div_add_mod ((b ^ 2 ^ K) ^ 2) u
   rw [hsq] at this;exact this.symm
  have h3:Nat.gcd b u ∣ 1:=by
   rw [h2] at h1;exact (Nat.dvd_add_right (Nat.dvd_trans (Nat.gcd_dvd_right b u) (Nat.dvd_mul_right u _))).1 h1
  exact Nat.Coprime.pow_left i (Nat.dvd_one.1 h3)
 have hb0:0 < b:=by
  rcases Nat.eq_zero_or_pos b with h | h
  · subst h;rw [Nat.zero_pow (Nat.two_pow_pos K),Nat.zero_mod] at hb;omega
  · exact h
 have h1:b ^ (j - i) % u=1:=by
  have e1:b ^ j=b ^ i*b ^ (j - i):=by rw [←Nat.pow_add];congr 1;omega
  have hd:u ∣ b ^ j - b ^ i:=Nat.dvd_of_mod_eq_zero (Nat.sub_mod_eq_zero_of_mod_eq he.symm);rw [e1,show b ^ i*b ^ (j - i) - b ^ i=b ^ i*(b ^ (j - i) - 1) by rw [Nat.mul_sub,Nat.mul_one]] at hd;have hd2:u ∣ b ^ (j - i) - 1:=Nat.Coprime.dvd_of_dvd_mul_left (Nat.Coprime.symm hcop) hd
  obtain⟨q,hq⟩:=hd2
  have hp:0 < b ^ (j - i):=Nat.pow_pos hb0;rw [show b ^ (j - i)=1+u*q by omega,Nat.add_mul_mod_self_left,Nat.mod_eq_of_lt (by omega)]
 obtain⟨t,m,hm⟩:=zDV (j - i) (by omega)
 have ht:t≤K:=by
  rcases Nat.lt_or_ge K t with h | h
  · have h5:2 ^ (K+1)≤2 ^ t:=Nat.pow_le_pow_right (by decide) h;have h6:2 ^ t*1≤2 ^ t*(2*m+1):=Nat.mul_le_mul_left _ (by omega);omega
  · exact h
 have h2:(b ^ 2 ^ K) ^ (2*m+1) % u=1:=by
  have e2:(b ^ 2 ^ K) ^ (2*m+1)=(b ^ (j - i)) ^ 2 ^ (K - t):=by
   rw [←Nat.pow_mul,←Nat.pow_mul,hm]
   congr 1
   have:(2:Nat) ^ K=2 ^ t*2 ^ (K - t):=by rw [←Nat.pow_add];congr 1;omega
   rw [this]
   grind
  rw [e2,zgt (by omega) h1]
 rw [zDU (by omega) hsq,hb] at h2;omega

theorem zru {u b K:Nat} (hu:2 < u) (hb:b ^ 2 ^ K % u=u - 1):2 ^ (K+1) < u:=by
 have h0 : ∀ i,i < 2 ^ (K+1) → b ^ i % u≠0:=fun i hi h=>by
  have h1:b ^ (2 ^ (K+1)) % u=0:=by
   rw [show 2 ^ (K+1)=i+(2 ^ (K+1) - i) by omega,Nat.pow_add,Nat.mul_mod,h,Nat.zero_mul,Nat.zero_mod]
  rw [Nat.pow_succ,Nat.pow_mul,Nat.pow_mod,hb] at h1
  obtain⟨v,rfl⟩ : ∃ v,u=v+3:=⟨u - 3,by omega⟩
  have:(v+3 - 1) ^ 2=1+(v+3)*(v+1):=by
   simp only [show v+3 - 1=v+2 by omega]
   grind
  rw [this,Nat.add_mul_mod_self_left,Nat.mod_eq_of_lt (by omega)] at h1;omega
 have:=zBx (u - 1) (2 ^ (K+1)) (fun i=>b ^ i % u - 1) (fun i hi=>by have:=h0 i hi;have:=Nat.mod_lt (b ^ i) (show 0 < u by omega);omega) (fun i j hi hj h=>by
  have h1:=h0 i hi;have h2:=h0 j hj
  have h3:b ^ i % u=b ^ j % u:=by omega
  rcases Nat.lt_trichotomy i j with h4 | h4 | h4
  · exact absurd h3 (zsT hu hb h4 hj)
  · exact h4
  · exact absurd h3.symm (zsT hu hb h4 hi))
 omega

def sqs (u b:Nat):Nat → Nat
 | 0=>b % u
 | k+1=>sqs u b k*sqs u b k % u
theorem zBy (u b:Nat) : ∀ k,sqs u b k=b ^ 2 ^ k % u
 | 0=>by simp [sqs]
 | k+1=>by rw [sqs,zBy u b k,Nat.pow_succ,Nat.pow_mul,←Nat.mul_mod,Nat.pow_two]

theorem zFK:sqs pN 1753635133440165772 31=pN - 1:=by decide +kernel
theorem zn4 {K b u v:Nat} (hK:sqs pN b K=pN - 1) (h:pN=u*v) (hu:1 < u):2 ^ (K+1) < u:=by
 have h2:2 < u:=by
  rcases Nat.lt_or_ge 2 u with h' | h'
  · exact h'
  · have:u=2:=by omega
    subst this
    have:pN % 2=1:=by decide
    rw [h,Nat.mul_mod_right] at this;omega
 rw [zBy] at hK
 have h4:b ^ 2 ^ K % u=u - 1:=by
  have h5:=Nat.mod_mod_of_dvd (b ^ 2 ^ K) (show u ∣ pN from ⟨v,h⟩);rw [hK,h] at h5;rw [←h5]
  have hv:0 < v:=by
   rcases Nat.eq_zero_or_pos v with h' | h'
   · subst h';simp at h
   · exact h'
  rw [show u*v - 1=(u - 1)+u*(v - 1) by
   obtain⟨w,rfl⟩ : ∃ w,v=w+1:=⟨v - 1,by omega⟩
   simp only [Nat.add_sub_cancel,Nat.mul_add,Nat.mul_one]
   omega,Nat.add_mul_mod_self_left,Nat.mod_eq_of_lt (by omega)]
 exact zru h2 h4
theorem zil {u v:Nat} (h:pN=u*v) (hu:1 < u):4294967296 < u:=zn4 zFK h hu
theorem zwG {u v:Nat} (h:pN=u*v) (hu:1 < u):v=1:=by
 rcases Nat.lt_or_ge 1 v with hv | hv
 · have h1:=zil h hu;have h2:=zil (h.trans (Nat.mul_comm u v)) hv;have h3:4294967297*4294967297≤u*v:=Nat.mul_le_mul h1 h2;rw [←h] at h3;exact absurd h3 (by decide)
 · have:v≠0:=fun e=>by subst e;simp at h
   omega
theorem mul_zero' {a b:Nat} (h:a*b % pN=0):a % pN=0 ∨ b % pN=0:=by
 obtain⟨v,hv⟩:=Nat.gcd_dvd_right a pN
 by_cases h1:Nat.gcd a pN=1
 · right
   exact Nat.mod_eq_zero_of_dvd (Nat.Coprime.dvd_of_dvd_mul_left (Nat.Coprime.symm h1) (Nat.dvd_of_mod_eq_zero h))
 · left
   have h0:0 < Nat.gcd a pN:=Nat.gcd_pos_of_pos_right a (by decide)
   have:=zwG hv (by omega)
   rw [this,Nat.mul_one] at hv;have hd:=Nat.gcd_dvd_left a pN;rw [←hv] at hd;exact Nat.mod_eq_zero_of_dvd hd
end Go.Proofs.YthaoifcebimkfaaGreatDoor

namespace Go.Proofs.YthaoifcebimkfaaGreatDoor
open Go Go.AL

structure Cov (s:List Nd) (d:Nat) (st:LS):Prop where
 cov : ∀ k j,j < (nth st.ls k).length → ∃ n,n < 29+s.length∧zM (n,k+1) st.at'=some j
 ks : ∀ p∈st.at',p.1.1 < 29+s.length
 len:st.ls.length=d
theorem zn5 {κ α:Type} [DecidableEq κ] {k:κ} {x:α} : ∀ {m:List (κ × α)} {p:κ × α},p∈zbX k x m → p=(k,x) ∨ p∈m
 | [],p,h=>by simp only [zbX,List.mem_singleton] at h;exact .inl h
 | (a,y) :: m,p,h=>by
  simp only [zbX] at h;split at h
  · rename_i e
    rcases List.mem_cons.1 h with rfl | h
    · rw [e];exact .inl rfl
    · exact .inr (List.mem_cons_of_mem _ h)
  · rcases List.mem_cons.1 h with rfl | h
    · exact .inr (List.mem_cons_self ..)
    · rcases zn5 h with h | h
      · exact .inl h
      · exact .inr (List.mem_cons_of_mem _ h)
theorem Cov.put {s:List Nd} {d:Nat} {st:LS} (h:Cov s d st) {n k:Nat} (hk:k < d) (hn:n < 29+s.length) (ha:zM (n,k+1) st.at'=none) (g:Gate):Cov s d (zay n k g st).2 where
 cov k' j hj:=by
  have hkl:k < st.ls.length:=by rw [h.len];exact hk
  show ∃ n',n' < 29+s.length∧zM (n',k'+1) (zbX (n,k+1) (nth st.ls k).length st.at')=some j
  have hj':j < (nth (st.ls.set k (nth st.ls k++[g])) k').length:=hj;by_cases e:k'=k
  · subst e;rw [zda hkl] at hj';by_cases e2:j < (nth st.ls k').length
    · obtain⟨n',h1,h2⟩:=h.cov k' j e2
      refine⟨n',h1,?_⟩
      rw [zae,if_neg (fun e3=>by rw [←e3] at h2;rw [h2] at ha;cases ha)];exact h2
    · refine⟨n,hn,?_⟩
      rw [zae,if_pos rfl];simp at hj'
      congr 1;omega
  · rw [put_ne e] at hj'
    obtain⟨n',h1,h2⟩:=h.cov k' j hj'
    refine⟨n',h1,?_⟩
    rw [zae,if_neg (fun e3=>by simp only [Prod.mk.injEq] at e3;omega)];exact h2
 ks p hp:=by
  rcases zn5 hp with rfl | hp
  · exact hn
  · exact h.ks p hp
 len:=by simp [zay,h.len]
theorem Cov.le {s:List Nd} {d:Nat} {st:LS} (h:Cov s d st) (k:Nat):(nth st.ls k).length≤29+s.length:=by
 have hf : ∀ j,∃ n,j < (nth st.ls k).length → n < 29+s.length∧zM (n,k+1) st.at'=some j:=fun j=>by
  by_cases hj:j < (nth st.ls k).length
  · obtain⟨n,h1,h2⟩:=h.cov k j hj
    exact⟨n,fun _=>⟨h1,h2⟩⟩
  · exact⟨0,fun h=>absurd h hj⟩
 refine zBx _ _ (fun j=>Classical.choose (hf j)) (fun j hj=>(Classical.choose_spec (hf j) hj).1) fun i j hi hj e => ?_
 have h1:=(Classical.choose_spec (hf i) hi).2;have h2:=(Classical.choose_spec (hf j) hj).2;have e:Classical.choose (hf i)=Classical.choose (hf j):=e;rw [e,h2] at h1;exact (Option.some.inj h1).symm
theorem zcG {s:List Nd} (hw:Wf s) {d:Nat} : ∀ k n st,Cov s d st → k≤d → n < 29+s.length → Cov s d (need s k n st).2 ∧ ∀ n' m,k≤m → zM (n',m+1) (need s k n st).2.at'=zM (n',m+1) st.at':=by
 intro k
 induction k with
 | zero=>exact fun n st h _ _=>⟨h,fun _ _ _=>rfl⟩
 | succ k ih =>
  intro n st h hk hn;rw [zbK]
  cases ha:zM (n,k+1) st.at' with
  | some i=>exact⟨h,fun _ _ _=>rfl⟩
  | none =>
   have hput : ∀ (g:Gate) (st':LS) (n' m:Nat),k+1≤m → zM (n',m+1) (zay n k g st').2.at'=zM (n',m+1) st'.at':=fun g st' n' m hm=>by
    show zM _ (zbX _ _ _)=_
    rw [zae,if_neg (fun e=>by simp only [Prod.mk.injEq] at e;omega)]
   simp only
   split
   · obtain⟨a1,a2⟩:=ih n st h (by omega) hn
     refine⟨a1.put (by omega) hn (by rw [a2 n k (Nat.le_refl _)];exact ha) _,fun n' m hm => ?_⟩
     rw [hput _ _ _ _ hm,a2 n' m (by omega)]
   · rename_i hge
     have h29 : ¬ n < 29:=fun h'=>by rw [zh7 n h'] at hge;omega
     obtain⟨j,rfl⟩ : ∃ j,n=29+j:=⟨n - 29,by omega⟩
     have hj:j < s.length:=by omega
     obtain⟨o1,o2⟩:=hw.op j hj
     rw [Nat.add_sub_cancel_left]
     obtain⟨a1,a2⟩:=ih (nth s j).l st h (by omega) (by omega)
     obtain⟨b1,b2⟩:=ih (nth s j).r _ a1 (by omega) (by omega)
     refine⟨b1.put (by omega) hn (by rw [b2 _ k (Nat.le_refl _),a2 _ k (Nat.le_refl _)];exact ha) _,fun n' m hm => ?_⟩
     rw [hput _ _ _ _ hm,b2 n' m (by omega),a2 n' m (by omega)]
def okC (k:Cf):Prop:=(-1000≤k.c∧k.c≤1000)∧(-1000≤k.a∧k.a≤1000)∧(-1000≤k.b∧k.b≤1000)∧(-1000≤k.d∧k.d≤1000)
def SmC (s:List Nd):Prop := ∀ j,j < s.length → okC (nth s j).k
theorem zbk {n:Int} (h1 : -1000≤n) (h2:n≤1000):valid (fi n)=true:=by
 have hp:(18446744069414584321#64:BitVec 64).toNat=18446744069414584321:=rfl;unfold valid fi;rw [decide_eq_true_iff,BitVec.lt_def,hp]
 split
 · have hpp:(pp:BitVec 64).toNat=18446744069414584321:=rfl;rw [BitVec.toNat_sub,BitVec.toNat_ofNat,hpp];omega
 · rw [BitVec.toNat_ofNat];omega
theorem SmC.fv {s:List Nd} (h:SmC s):Cfv s:=fun j hj=>by
 obtain⟨a,b,c,d⟩:=h j hj
 exact⟨zbk a.1 a.2,zbk b.1 b.2,zbk c.1 c.2,zbk d.1 d.2⟩
theorem zbv:Fv []:=fun _=>yR
end Go.Proofs.YthaoifcebimkfaaGreatDoor

namespace Go.Proofs.YthaoifcebimkfaaGreatDoor
open Go Go.AL

abbrev Pl:=Nat × Nat
def plK (ad:Nat → Nat) (p:Pl):List Value:=[ptv (ad p.1),.int .i64 p.2]
abbrev plV (ad:Nat → Nat) (p:Pl):Value := .agg (plK ad p).toArray
def zBz (n:Nat):AV := .p (i64 n)
def plP (g:Nat) (n:Int):PV := .agg [ptp g,i64 n]
section enc
variable {g:Nat} {n:Int}
theorem zrw:zh (.p (plP g n))=some [.p (ptp g),.p (i64 n)]:=rfl
theorem zwH:(plP g n).cells=[ptp g,i64 n]:=rfl
theorem zwI:(plP g n).isAgg=true:=rfl
theorem zrx:(AV.p (plP g n)).isAggV=true:=rfl
theorem zBA:(plP g n).weak=plP g n:=rfl
theorem zwJ:(plP g n).weak1=plP g n:=rfl
theorem zwK:(plP g n).aggOf 0 2=plP g n:=rfl
theorem zwL:zu [.p (ptp g),.p (i64 n)] = .p (plP g n):=rfl
end enc
attribute [go_sem] zrw zwH zwI zrx zBA zwJ zwK zwL
def zco (al:Nat) (ls:List (List Gate)) (d:Nat):List AV:=zaq (fun k => .sl (al+k) (nth ls k).length 6 (pl zY (nth ls k))) d
structure LH (H:Hp) (s:List Nd) (ad:Nat → Nat) (d c6 c7 c8 mp rb al:Nat) (st:LS):Prop where
 m6:H.f c6=some (.cells [.ref rb 0 d 1])
 m7:H.f c7=some (.cells [.mp mp])
 m8:H.f c8=some (.cells [.clo 88 [] [.ptr c7 0,.ptr c8 0,.ptr c6 0]])
 map:H.f mp=some (.mapB (tm (plV ad) zBz st.at'))
 row:H.f rb=some (.cells (zco al st.ls d))
 tl : ∀ k,k < d → H.f (al+k)=some (.tail (nth st.ls k).length)
 nd : ∀ n,n < 29+s.length → H.z (ad n)=some (8,[.agg (ndC ad s n)])
 ord:rb < mp∧mp < c6∧c6 < c7∧c7 < c8∧c8 < al
structure LN (H H':Hp) (d mp rb al:Nat):Prop where
 n:H.n≤H'.n
 f : ∀ b,b < H.n → b≠mp → b≠rb → ¬ (al≤b∧b < al+d) → H'.f b=H.f b
 z:H'.z=H.z
theorem LN.refl {H:Hp} {d mp rb al:Nat}:LN H H d mp rb al:=⟨Nat.le_refl _,fun _ _ _ _ _=>rfl,rfl⟩
theorem LN.trans {H H1 H2:Hp} {d mp rb al:Nat} (h:LN H H1 d mp rb al) (h':LN H1 H2 d mp rb al):LN H H2 d mp rb al :=
 ⟨Nat.le_trans h.n h'.n,fun b b1 b2 b3 b4=>(h'.f b (Nat.lt_of_lt_of_le b1 h.n) b2 b3 b4).trans (h.f b b1 b2 b3 b4),h'.z.trans h.z⟩
theorem LN.new {H:Hp} {d mp rb al:Nat} (x:AB):LN H (H.new x) d mp rb al:=⟨by rw [n_new'];omega,fun b hb _ _ _=>zb (by omega),rfl⟩
theorem LN.set {H H':Hp} {d mp rb al b:Nat} (h:LN H H' d mp rb al) (x:AB) (hb:b=mp ∨ b=rb ∨ (al≤b∧b < al+d) ∨ H.n≤b):LN H (H'.set b x) d mp rb al :=
 ⟨by rw [n_set'];exact h.n,fun c c1 c2 c3 c4=>by
  rw [f_set_ne' (by rintro rfl;rcases hb with hb | hb | hb | hb;exact c2 hb;exact c3 hb;exact c4 hb;omega)]
  exact h.f c c1 c2 c3 c4,h.z⟩
theorem LN.trunc {H H':Hp} {d mp rb al:Nat} (h:LN H H' d mp rb al):LN H (H'.trunc H.n) d mp rb al∧(H'.trunc H.n).n=H.n :=
 ⟨⟨Nat.le_refl _,fun b b1 b2 b3 b4=>by rw [Hp.f_trunc,if_pos b1];exact h.f b b1 b2 b3 b4,h.z⟩,rfl⟩
section LH
variable {H:Hp} {s:List Nd} {ad:Nat → Nat} {d c6 c7 c8 mp rb al:Nat} {st:LS}
theorem LH.lt (h:LH H s ad d c6 c7 c8 mp rb al st):rb < H.n∧mp < H.n∧c6 < H.n∧c7 < H.n∧c8 < H.n:=by
 have:=Hp.lt h.m8;have:=h.ord;omega
theorem LH.new (h:LH H s ad d c6 c7 c8 mp rb al st) (x:AB):LH (H.new x) s ad d c6 c7 c8 mp rb al st:=by
 have hl:=h.lt
 exact⟨by rw [zb (by omega)];exact h.m6,by rw [zb (by omega)];exact h.m7,by rw [zb (by omega)];exact h.m8,by rw [zb (by omega)];exact h.map,by rw [zb (by omega)];exact h.row,
  fun k hk=>by have:=Hp.lt (h.tl k hk);rw [zb (by omega)];exact h.tl k hk,h.nd,h.ord⟩
theorem LH.set (h:LH H s ad d c6 c7 c8 mp rb al st) {b:Nat} (x:AB) (hb:c8 < b) (hb2 : ¬ (al≤b∧b < al+d)):LH (H.set b x) s ad d c6 c7 c8 mp rb al st:=by
 have ho:=h.ord
 exact⟨by rw [f_set_ne' (by omega)];exact h.m6,by rw [f_set_ne' (by omega)];exact h.m7,by rw [f_set_ne' (by omega)];exact h.m8,by rw [f_set_ne' (by omega)];exact h.map,by rw [f_set_ne' (by omega)];exact h.row,
  fun k hk=>by rw [f_set_ne' (by omega)];exact h.tl k hk,h.nd,h.ord⟩
theorem LH.trunc (h:LH H s ad d c6 c7 c8 mp rb al st) {n:Nat} (h1:c8 < n) (h2:al+d≤n):LH (H.trunc n) s ad d c6 c7 c8 mp rb al st:=by
 have ho:=h.ord
 exact⟨by rw [Hp.f_trunc,if_pos (by omega)];exact h.m6,by rw [Hp.f_trunc,if_pos (by omega)];exact h.m7,by rw [Hp.f_trunc,if_pos (by omega)];exact h.m8,by rw [Hp.f_trunc,if_pos (by omega)];exact h.map,by rw [Hp.f_trunc,if_pos (by omega)];exact h.row,
  fun k hk=>by rw [Hp.f_trunc,if_pos (by omega)];exact h.tl k hk,h.nd,h.ord⟩
theorem LH.alN (h:LH H s ad d c6 c7 c8 mp rb al st) (hd:0 < d):al+d≤H.n:=by have:=Hp.lt (h.tl (d - 1) (by omega));omega
theorem LH.bel {H':Hp} {n:Nat} (h:LH H' s ad d c6 c7 c8 mp rb al st) (hb:Bel n H) (hn:al+d≤n) (hf : ∀ b,b < n → b≠mp → b≠rb → ¬ (al≤b∧b < al+d) → H'.f b=H.f b):Bel n H':=fun b x hbn hx y hy=>by
 by_cases e1:b=mp
 · subst e1;rw [h.map] at hx;cases hx;simp only [AB.mapB,AB.vals,tm,List.map_map,List.mem_map] at hy
   obtain⟨p,_,rfl⟩:=hy
   exact .p _
 · by_cases e2:b=rb
   · subst e2;rw [h.row] at hx;cases hx;simp only [AB.vals,zco,zaq,List.mem_map,List.mem_range] at hy
     obtain⟨k,hk,rfl⟩:=hy
     exact .sl _ _ _ _ (by omega)
   · by_cases e3:al≤b∧b < al+d
     · have:=h.tl (b - al) (by omega)
       rw [show al+(b - al)=b by omega,hx] at this
       cases this
       cases hy
     · rw [hf b hbn e1 e2 e3] at hx;exact hb b x hbn hx y hy
theorem LH.look (h:LH H s ad d c6 c7 c8 mp rb al st) (hc:Cov s d st) (inj : ∀ i j,i < 29+s.length → j < 29+s.length → ad i=ad j → i=j) {n k:Nat} (hn:n < 29+s.length) (ok:Bool) :
 zaJ Tryz.prog H 151 (.mp mp) (.p (plP (ad n) k)) ok=some (match zM (n,k) st.at' with | some i=>if ok then .tup [.p (i64 i),.p (bo true)] else .p (i64 i) | none=>if ok then .tup [.p (i64 0),.p (bo false)] else .p (i64 0)):=by
 have hk : ∀ n k,n < 29+s.length → RowZ H [true,false] (plK ad (n,k)):=fun n k hn=>⟨⟨_,rfl,by rw [h.nd n hn];simp⟩,⟨_,rfl⟩,trivial⟩
 have:=placeM.look (H:=H) (b:=mp) (ek:=plK ad) (f:=zBz) (m:=st.at') (k:=(n,k)) (by rw [h.map];exact map?_mapB _) (hk n k hn) (fun p hp=>hk _ _ (hc.ks p hp)) (fun a ⟨x,hx⟩ e=>by
  have h1:=hc.ks _ hx;simp only [plK,List.cons.injEq,Value.int.injEq,Value.pointer.injEq,Option.some.injEq,Addr.mk.injEq,true_and,and_true] at e
  obtain⟨e1,e2⟩:=e
  exact Prod.ext (inj _ _ h1 hn e1) (by simp only;omega)) (ix := .p (plP (ad n) k)) rfl ok
 rw [this]
 cases zM (n,k) st.at'<;>cases ok<;>rfl
theorem LH.put (h:LH H s ad d c6 c7 c8 mp rb al st) (hc:Cov s d st) (inj : ∀ i j,i < 29+s.length → j < 29+s.length → ad i=ad j → i=j) {n k:Nat} (hn:n < 29+s.length) (i:Nat) :
 zdD Tryz.prog H 151 (.mp mp) (.p (plP (ad n) k)) (.p (i64 i))=some (H.set mp (.mapB (tm (plV ad) zBz (zbX (n,k) i st.at')))):=by
 have hk : ∀ n k,n < 29+s.length → RowZ H [true,false] (plK ad (n,k)):=fun n k hn=>⟨⟨_,rfl,by rw [h.nd n hn];simp⟩,⟨_,rfl⟩,trivial⟩
 exact placeM.put (b:=mp) (ek:=plK ad) (f:=zBz) (m:=st.at') (k:=(n,k)) (y:=i) (by rw [h.map];exact map?_mapB _) (hk n k hn) (fun p hp=>hk _ _ (hc.ks p hp)) (fun a ⟨x,hx⟩ e=>by
  have h1:=hc.ks _ hx;simp only [plK,List.cons.injEq,Value.int.injEq,Value.pointer.injEq,Option.some.injEq,Addr.mk.injEq,true_and,and_true] at e
  obtain⟨e1,e2⟩:=e
  exact Prod.ext (inj _ _ h1 hn e1) (by simp only;omega)) (ix := .p (plP (ad n) k)) rfl
end LH
end Go.Proofs.YthaoifcebimkfaaGreatDoor

namespace Go.Proofs.YthaoifcebimkfaaGreatDoor
open Go Go.AL

theorem zG0 {ad:Nat → Nat} {s:List Nd} {n:Nat} (h:n < 29):(ndC ad s n)[0]? = some (i64 n):=by unfold ndC;rw [if_pos h];rfl
section walks
variable {G:Globs}
set_option maxHeartbeats 16000000 in
set_option maxRecDepth 20000 in
theorem zwM {s:List Nd} {ad:Nat → Nat} {d c6 c7 c8 mp rb al:Nat} (hw:Wf s) (hC:SmC s) (inj : ∀ i j,i < 29+s.length → j < 29+s.length → ad i=ad j → i=j) (hlen:s.length≤1000) (hd:d≤1000) (hd0:0 < d) :
 ∀ k n st H,LH H s ad d c6 c7 c8 mp rb al st → LOk s [] d st → Cov s d st → k≤d → n < 29+s.length → lev s n≤k →
  ACall Tryz.prog G 88 [.p (ptp (ad n)),.p (i64 k),.ptr c7 0,.ptr c8 0,.ptr c6 0] H (fun r H'=>r = .p (i64 ((need s k n st).1:Nat))∧LH H' s ad d c6 c7 c8 mp rb al (need s k n st).2∧LN H H' d mp rb al∧H'.n=H.n):=by
 intro k
 induction k with
 | zero =>
  intro n st H hL hO hV hk hn hl;have h29:=zfw hw hn (by omega);have hz:=hL.nd n hn;have h0:=zG0 (ad:=ad) (s:=s) h29
  refine ACall.of_run (raw:=[]) Tryz.func88 rfl Tryz.ntmps88 (by simp) fun hbel => ?_
  refine .qt rfl ?_;simp (disch:=first|exact za|fail) only [go_sem,seval];refine .qt rfl ?_;simp (disch:=first|exact za|fail) only [go_sem,seval];refine .qT rfl ?_;refine .qt rfl ?_;simp (disch:=first|exact za|fail) only [go_sem,seval,hz,h0];refine .q ?_;refine .retKeep Tryz.func88 (by rw [Tryz.results88]) (by simp (disch:=first|exact za|fail) only [go_sem,seval];rfl) ?_;(try simp (disch:=first|exact za|fail) only [go_sem,seval])
  exact⟨rfl,hL,.refl⟩
 | succ k ihk =>
  intro n st H hL hO hV hk hn hl
  obtain⟨kk,hkk⟩ : ∃ kk,kk=k+1:=⟨_,rfl⟩
  rw [←hkk] at hk hl ⊢
  have hk0:0 < kk:=by omega
  have hsub:(kk:Int) - 1=(k:Nat):=by omega
  obtain⟨l1,l2,l3,l4,l5⟩:=hL.lt
  have hal:=hL.alN hd0
  refine ACall.of_run (raw:=[]) Tryz.func88 rfl Tryz.ntmps88 (by simp) fun hbel => ?_
  refine .qt rfl ?_;simp (disch:=first|exact za|fail) only [go_sem,seval];refine .qt rfl ?_;simp (disch:=first|exact za|fail) only [go_sem,seval];refine .qF rfl ?_;refine .skip ?_;refine .qt rfl ?_;simp (disch:=first|exact za|fail) only [go_sem,seval];have hL1:=hL.new (.cells [.p (ptp (ad n)),.p (i64 kk)]);have hlk:=hL1.look hV inj (k:=kk) hn true
  cases ha:zM (n,kk) st.at' with
  | some i =>
   rw [ha] at hlk
   have hne:need s kk n st=(i,st):=by rw [hkk,zbK,←hkk,ha]
   rw [hne];refine .qt rfl ?_;simp (disch:=first|exact za|fail) only [go_sem,seval,hL.m7,hlk];refine .qt rfl ?_;simp (disch:=first|exact za|fail) only [go_sem,seval];refine .qT rfl ?_;refine .qt rfl ?_;simp (disch:=first|exact za|fail) only [go_sem,seval];refine .qr rfl Tryz.func88 (by rw [Tryz.results88]) ?_;simp (disch:=first|exact za|fail) only [go_sem,seval]
   exact⟨hL,.refl⟩
  | none =>
   rw [ha] at hlk;have hz:=hL.nd n hn;have h7:=zk9 (ad:=ad) (s:=s) (n:=n);have hlv:=zeT hw n hn;refine .qt rfl ?_;simp (disch:=first|exact za|fail) only [go_sem,seval,hL.m7,hlk];refine .qt rfl ?_;simp (disch:=first|exact za|fail) only [go_sem,seval];refine .qF rfl ?_;refine .skip ?_;refine .qt rfl ?_;simp (disch:=first|exact za|fail) only [go_sem,seval];refine .qt rfl ?_;simp (disch:=first|exact za|fail) only [go_sem,seval,hz,h7];have hL2:=hL1.new (.cells [.p (i64 0),.p (i64 0),.p (zg 0#64),.p (zg 0#64),.p (zg 0#64),.p (zg 0#64)])
   obtain⟨X,hX⟩ : ∃ X,X=(H.new (.cells [.p (ptp (ad n)),.p (i64 kk)])).new (.cells [.p (i64 0),.p (i64 0),.p (zg 0#64),.p (zg 0#64),.p (zg 0#64),.p (zg 0#64)]):=⟨_,rfl⟩
   have x0:X.f H.n=some (.cells [.p (ptp (ad n)),.p (i64 kk)]):=by rw [hX,zb (by rw [n_new'];omega),zk rfl]
   have x1:X.f (H.n+1)=some (.cells [.p (i64 0),.p (i64 0),.p (zg 0#64),.p (zg 0#64),.p (zg 0#64),.p (zg 0#64)]):=by rw [hX,zk (by rw [n_new'])]
   have xn:X.n=H.n+2:=by rw [hX,n_new',n_new']
   have xL:LN H X d mp rb al:=by rw [hX];exact (LN.new _).trans (.new _)
   rw [←hX] at hL2 ⊢
   obtain⟨o1,o2,o3,o4,o5⟩:=hL.ord
   have hfr : ∀ {X1:Hp} {b},LN X X1 d mp rb al → X1.n=X.n → H.n≤b → b < H.n+2 → X1.f b=X.f b:=fun h1 h2 h3 h4=>h1.f _ (by omega) (by omega) (by omega) (by omega)
   refine .q ?_;refine .ifJ (fun env2 H2 => ∃ g st1,env2 1 = .p (i64 kk)∧env2 2 = .ptr c7 0∧env2 4 = .ptr c6 0∧env2 8 = .ptr H.n 0∧env2 11 = .ptr (H.n+1) 0∧H2.f H.n=some (.cells [.p (ptp (ad n)),.p (i64 kk)])∧H2.f (H.n+1)=some (.cells [.p (i64 g.l),.p (i64 g.r),.p (zg g.c),.p (zg g.a),.p (zg g.b),.p (zg g.d)])∧H2.n=H.n+2∧LN H H2 d mp rb al∧LH H2 s ad d c6 c7 c8 mp rb al st1∧Cov s d st1∧zM (n,kk) st1.at'=none∧need s kk n st=zay n k g st1) (by simp (disch:=first|exact za|fail) only [go_sem,seval];rfl) (fun hc ih => ?_) (fun hc ih => ?_) ?_
   · have hlt:lev s n < kk:=by
      rw [decide_eq_true_iff] at hc;omega
     refine .qt rfl ?_;simp (disch:=first|exact za|fail) only [go_sem,seval,hL2.m8,hsub];refine CallK.ex (ihk n st X hL2 hO hV (by omega) hn (by omega)) ?_
     rintro _ X1 ⟨rfl,hL3,hN3,hn3⟩
     have y0:=(hfr hN3 hn3 (b:=H.n) (by omega) (by omega)).trans x0;have y1:=(hfr hN3 hn3 (b:=H.n+1) (by omega) (by omega)).trans x1
     obtain⟨v1,v2⟩:=zcG hw k n st hV (by omega) hn
     have hbd:=zdb hw hC.fv zbv k n st hO (by omega) hn (by omega)
     have hneed:need s kk n st=zay n k ⟨(need s k n st).1,(need s k n st).1,0,1,0,0⟩ (need s k n st).2:=by rw [hkk,zbK,←hkk,ha];simp only;rw [if_pos hlt]
     generalize need s k n st=z at *
     simp (disch:=first|exact za|fail) only [go_sem,seval];refine .qt rfl ?_;simp (disch:=first|exact za|fail) only [go_sem,seval,y1];refine ih _ _ ⟨⟨z.1,z.1,0,1,0,0⟩,z.2,?_,?_,?_,?_,?_,?_,?_,?_,(xL.trans hN3).set _ (by omega),hL3.set _ (by omega) (by omega),v1,?_,hneed⟩
     · simp (disch:=first|exact za|fail) only [go_sem,seval]
     · simp (disch:=first|exact za|fail) only [go_sem,seval]
     · simp (disch:=first|exact za|fail) only [go_sem,seval]
     · simp (disch:=first|exact za|fail) only [go_sem,seval]
     · simp (disch:=first|exact za|fail) only [go_sem,seval]
     · rw [f_set_ne' (by omega)];exact y0
     · rw [zy rfl (by omega)];rfl
     · rw [n_set',hn3,xn]
     · have:=v2 n k (Nat.le_refl _)
       rw [hkk] at ha ⊢;rw [this];exact ha
   · have hge : ¬ lev s n < kk:=by
      rw [decide_eq_false_iff_not] at hc;omega
     have h29 : ¬ n < 29:=fun h'=>by rw [zh7 n h'] at hge;omega
     obtain⟨j,rfl⟩ : ∃ j,n=29+j:=⟨n - 29,by omega⟩
     have hj:j < s.length:=by omega
     obtain⟨p1,p2⟩:=hw.op j hj
     have hlvj:=hw.lv j hj
     have hle:(nth s j).lv≤kk:=by
      have e:lev s (29+j)=(nth s j).lv:=by unfold lev;rw [if_neg h29,Nat.add_sub_cancel_left]
      rw [←e];exact hl
     have hnd:ndC ad s (29+j)=[i64 0,i64 (nth s j).k.c,i64 (nth s j).k.a,i64 (nth s j).k.b,i64 (nth s j).k.d,ptp (ad (nth s j).l),ptp (ad (nth s j).r),i64 ((nth s j).lv:Nat)]:=by unfold ndC;rw [if_neg h29,Nat.add_sub_cancel_left]
     have hzz : ∀ {Y:Hp} {st':LS},LH Y s ad d c6 c7 c8 mp rb al st' → Y.z (ad (29+j))=some (8,[.agg [i64 0,i64 (nth s j).k.c,i64 (nth s j).k.a,i64 (nth s j).k.b,i64 (nth s j).k.d,ptp (ad (nth s j).l),ptp (ad (nth s j).r),i64 ((nth s j).lv:Nat)] ]):=fun h=>by rw [h.nd _ hn,hnd]
     have hz2:=hzz hL2
     have hneed:need s kk (29+j) st=zay (29+j) k ⟨(need s k (nth s j).l st).1,(need s k (nth s j).r (need s k (nth s j).l st).2).1,fi (nth s j).k.c,fi (nth s j).k.a,fi (nth s j).k.b,fi (nth s j).k.d⟩ (need s k (nth s j).r (need s k (nth s j).l st).2).2:=by
      rw [hkk,zbK,←hkk,ha];simp only;rw [if_neg hge,Nat.add_sub_cancel_left]
     obtain⟨v1,v2⟩:=zcG hw k (nth s j).l st hV (by omega) (by omega)
     obtain⟨q1,q2,q3,q4,q5⟩:=zdb hw hC.fv zbv k (nth s j).l st hO (by omega) (by omega) (by omega)
     refine .q ?_;refine .open [7] follows (by kernel_rfl) ?_;simp (disch:=first|exact za|fail) only [go_sem,seval,hL2.m8,hsub,hz2];refine CallD.moves (ihk (nth s j).l st X hL2 hO hV (by omega) (by omega) (by omega)) ?_
     rintro _ X1 ⟨rfl,hL3,hN3,hn3⟩
     have y0:=(hfr hN3 hn3 (b:=H.n) (by omega) (by omega)).trans x0;have y1:=(hfr hN3 hn3 (b:=H.n+1) (by omega) (by omega)).trans x1;have v2':=v2 (29+j) k (Nat.le_refl _)
     generalize need s k (nth s j).l st=z at *
     obtain⟨w1,w2⟩:=zcG hw k (nth s j).r z.2 v1 (by omega) (by omega)
     obtain⟨r1,r2,r3,r4,r5⟩:=zdb hw hC.fv zbv k (nth s j).r z.2 q1 (by omega) (by omega) (by omega)
     have hz3:=hzz hL3;simp (disch:=first|exact za|fail) only [go_sem,seval];refine .q ?_;refine .open [7] follows (by kernel_rfl) ?_;simp (disch:=first|exact za|fail) only [go_sem,seval,hL3.m8,hsub,hz3];refine CallD.moves (ihk (nth s j).r z.2 X1 hL3 q1 v1 (by omega) (by omega) (by omega)) ?_
     rintro _ X2 ⟨rfl,hL4,hN4,hn4⟩
     have hN5:=hN3.trans hN4;have u0:=(hfr hN5 (hn4.trans hn3) (b:=H.n) (by omega) (by omega)).trans x0;have u1:=(hfr hN5 (hn4.trans hn3) (b:=H.n+1) (by omega) (by omega)).trans x1;have w2':=w2 (29+j) k (Nat.le_refl _)
     generalize need s k (nth s j).r z.2=zz at *
     have hz4:=hzz hL4
     obtain⟨⟨t1,t2⟩,⟨t3,t4⟩,⟨t5,t6⟩,⟨t7,t8⟩⟩:=hC j hj
     simp (disch:=first|exact za|fail) only [go_sem,seval];refine .q ?_;refine .open [27] follows (by kernel_rfl) ?_;simp (disch:=first|exact za|fail) only [go_sem,seval,hz4,u1];refine CallD.still (fun R h=>zbF _ (by omega) (by omega) _ R h) ?_;simp (disch:=first|exact za|fail) only [go_sem,seval,hz4,u1];refine CallD.still (fun R h=>zbF _ (by omega) (by omega) _ R h) ?_;simp (disch:=first|exact za|fail) only [go_sem,seval,hz4,u1];refine CallD.still (fun R h=>zbF _ (by omega) (by omega) _ R h) ?_;simp (disch:=first|exact za|fail) only [go_sem,seval,hz4,u1];refine CallD.still (fun R h=>zbF _ (by omega) (by omega) _ R h) ?_;simp (disch:=first|exact za|fail) only [go_sem,seval,hz4,u1];refine ih _ _ ⟨⟨z.1,zz.1,fi (nth s j).k.c,fi (nth s j).k.a,fi (nth s j).k.b,fi (nth s j).k.d⟩,zz.2,?_,?_,?_,?_,?_,?_,?_,?_,(xL.trans hN5).set _ (by omega),hL4.set _ (by omega) (by omega),w1,?_,hneed⟩
     · simp (disch:=first|exact za|fail) only [go_sem,seval]
     · simp (disch:=first|exact za|fail) only [go_sem,seval]
     · simp (disch:=first|exact za|fail) only [go_sem,seval]
     · simp (disch:=first|exact za|fail) only [go_sem,seval]
     · simp (disch:=first|exact za|fail) only [go_sem,seval]
     · rw [f_set_ne' (by omega)];exact u0
     · rw [zy rfl (by omega)]
     · rw [n_set',hn4,hn3,xn]
     · rw [hkk] at ha ⊢;rw [w2',v2'];exact ha
   rintro env H2 ⟨g,st1,e1,e2,e4,e8,e11,y0,y1,hn2,hN2,hLL,hV2,ha2,hneed⟩
   obtain⟨L,hLd⟩ : ∃ L,L=(nth st1.ls k).length:=⟨_,rfl⟩
   have hLle:L≤1029:=by rw [hLd];have:=hV2.le k;omega
   have htk:(zco al st1.ls d)[k]? = some (.sl (al+k) L 6 (pl zY (nth st1.ls k))):=by rw [hLd];exact zfl (by omega)
   have hput:=hLL.put hV2 inj (k:=kk) hn L;have htl:=hLL.tl k (by omega);rw [←hLd] at htl;have hLd':=hLd.symm;have hl2:=hLL.lt;have hal2:=hLL.alN hd0;refine .q ?_;refine .open [8] follows (by kernel_rfl) ?_;simp (disch:=first|exact za|fail) only [go_sem,seval,e1,e2,e4,e8,hLL.m7,hLL.m6,hLL.row,htk,hput,hsub,y0,hLd']
   obtain⟨Y,hY⟩ : ∃ Y,Y=H2.set mp (.mapB (tm (plV ad) zBz (zbX (n,kk) L st1.at'))):=⟨_,rfl⟩
   rw [←hY]
   have z6:Y.f c6=some (.cells [.ref rb 0 d 1]):=by rw [hY,f_set_ne' (by omega)];exact hLL.m6
   have z7:Y.f c7=some (.cells [.mp mp]):=by rw [hY,f_set_ne' (by omega)];exact hLL.m7
   have zr:Y.f rb=some (.cells (zco al st1.ls d)):=by rw [hY,f_set_ne' (by omega)];exact hLL.row
   have zt:Y.f (al+k)=some (.tail L):=by rw [hY,f_set_ne' (by omega)];exact htl
   have z1:Y.f (H.n+1)=some (.cells [.p (i64 g.l),.p (i64 g.r),.p (zg g.c),.p (zg g.a),.p (zg g.b),.p (zg g.d)]):=by rw [hY,f_set_ne' (by omega)];exact y1
   have z0:Y.f H.n=some (.cells [.p (ptp (ad n)),.p (i64 kk)]):=by rw [hY,f_set_ne' (by omega)];exact y0
   have zn:Y.n=H.n+2:=by rw [hY,n_set',hn2]
   have hrl:(zco al st1.ls d).length=d:=zhO
   have hJ0:Y.f c6=some (.cells [.ref rb 0 d 1])∧Y.f rb=some (.cells (zco al st1.ls d))∧Y.f (H.n+1)=some (.cells [.p (i64 g.l),.p (i64 g.r),.p (zg g.c),.p (zg g.a),.p (zg g.b),.p (zg g.d)]):=⟨z6,zr,z1⟩
   refine .q ?_;refine .openJ (E := ?E1) (fun H'=>H'.f c6=some (.cells [.ref rb 0 d 1])∧H'.f rb=some (.cells (zco al st1.ls d))∧H'.f (H.n+1)=some (.cells [.p (i64 g.l),.p (i64 g.r),.p (zg g.c),.p (zg g.a),.p (zg g.b),.p (zg g.d)])) [0,1,2,3,4,5,6,7,8,9] [] [10,11,12] [true,false,false] follows (by kernel_rfl) (by first | exact rfl | assumption | simp (disch:=first|exact za|fail) only [go_sem,seval]) (fun H2 hJ => ?hP1) ?_;(case hP1=>((try dsimp only at hJ);simp (disch:=first|exact za|fail) only [go_sem,seval,e1,e4,e11,z6,zr,htk,zt,z1,hsub,hrl,hLd',hJ];(try exact rfl)));simp (disch:=first|exact za|fail) only [go_sem,seval,e1,e4,e11,z6,zr,htk,zt,z1,hsub,hrl,hLd']
   have hkl:k < st1.ls.length:=by rw [hV2.len];omega
   have hls:(zay n k g st1).2.ls=st1.ls.set k (nth st1.ls k++[g]):=rfl
   have hat:(zay n k g st1).2.at'=zbX (n,kk) L st1.at':=by rw [hkk,hLd];rfl
   have hZ:LH ((Y.set (al+k) (.tail (L+1))).set rb (.cells ((zco al st1.ls d).set k (.sl (al+k) (L+1) 6 (pl zY (nth st1.ls k++[g])))))) s ad d c6 c7 c8 mp rb al (zay n k g st1).2:=by
    refine⟨?_,?_,?_,?_,?_,fun j hj => ?_,?_,hLL.ord⟩
    · rw [f_set_ne' (by omega),f_set_ne' (by omega)];exact z6
    · rw [f_set_ne' (by omega),f_set_ne' (by omega)];exact z7
    · rw [f_set_ne' (by omega),f_set_ne' (by omega),hY,f_set_ne' (by omega)];exact hLL.m8
    · rw [f_set_ne' (by omega),f_set_ne' (by omega),hY,zy rfl (by omega),hat]
    · rw [zy rfl (by rw [n_set'];omega)];unfold zco;rw [zmR]
      congr 2
      refine zcZ fun j hj => ?_
      by_cases e:j=k
      · subst e;rw [if_pos rfl,hls,zda hkl,List.length_append,←hLd];rfl
      · rw [if_neg e,hls,put_ne e]
    · rw [f_set_ne' (by omega)];by_cases e:j=k
      · subst e;rw [zy rfl (by omega),hls,zda hkl,List.length_append,←hLd];rfl
      · rw [f_set_ne' (by omega),hls,put_ne e,hY,f_set_ne' (by omega)];exact hLL.tl j hj
    · have hzz:((Y.set (al+k) (.tail (L+1))).set rb (.cells ((zco al st1.ls d).set k (.sl (al+k) (L+1) 6 (pl zY (nth st1.ls k++[g])))))).z=H2.z:=by rw [hY];rfl
      rw [hzz];exact hLL.nd
   have hNZ:LN H ((Y.set (al+k) (.tail (L+1))).set rb (.cells ((zco al st1.ls d).set k (.sl (al+k) (L+1) 6 (pl zY (nth st1.ls k++[g])))))) d mp rb al:=by
    rw [hY];exact ((hN2.set _ (by omega)).set _ (by omega)).set _ (by omega)
   have hZ0:((Y.set (al+k) (.tail (L+1))).set rb (.cells ((zco al st1.ls d).set k (.sl (al+k) (L+1) 6 (pl zY (nth st1.ls k++[g])))))).f H.n=some (.cells [.p (ptp (ad n)),.p (i64 kk)]):=by
    rw [f_set_ne' (by omega),f_set_ne' (by omega)];exact z0
   have hVZ:Cov s d (zay n k g st1).2:=hV2.put (by omega) hn (by rw [←hkk];exact ha2) g;have hlk2:=hZ.look hVZ inj (k:=kk) hn false;rw [hat,zae,if_pos rfl] at hlk2;have h7:=hZ.m7
   generalize (Y.set (al+k) (.tail (L+1))).set rb (.cells ((zco al st1.ls d).set k (.sl (al+k) (L+1) 6 (pl zY (nth st1.ls k++[g])))))=Z at *
   have hbel:Bel H.n Z:=hZ.bel hbel hal hNZ.f;refine .qt rfl ?_;simp (disch:=first|exact za|fail) only [go_sem,seval,e2,e8,h7,hZ0,hlk2];refine .qr rfl Tryz.func88 (by rw [Tryz.results88]) ?_;simp (disch:=first|exact za|fail) only [go_sem,seval];rw [hneed]
   refine⟨?_,hZ.trunc (by omega) hal,hNZ.trunc⟩
   show _=AV.p (i64 ((nth st1.ls k).length:Nat))
   rw [hLd']
end walks
end Go.Proofs.YthaoifcebimkfaaGreatDoor

namespace Go.Proofs.YthaoifcebimkfaaGreatDoor
open Go Go.AL

theorem zim (s:List Nd) (x:Nat) : ∀ l,depth s (l++[x])=max (depth s l) (lev s x)
 | []=>by simp [depth]
 | y :: l=>by simp only [List.cons_append,depth,zim s x l];omega
theorem take_snoc {l:List Nat} {i:Nat} (h:i < l.length):l.take (i+1)=l.take i++[nth l i]:=by
 rw [zc h,List.take_append_getElem]
theorem zb9 {s:List Nd} : ∀ {l:List Nat} {x:Nat},x∈l → lev s x≤depth s l
 | y :: l,x,h=>by
  simp only [depth]
  rcases List.mem_cons.1 h with rfl | h
  · omega
  · have:=zb9 (s:=s) h;omega
theorem zd0 {s:List Nd} {m:Nat} : ∀ {l:List Nat},(∀ x∈l,lev s x≤m) → depth s l≤m
 | [],_=>Nat.zero_le _
 | y :: l,h=>by
  simp only [depth]
  have:=h y (by simp)
  have:=zd0 (l:=l) fun x hx=>h x (by simp [hx])
  omega
def wcs {α:Type} (f:α → PV) (L:List α):List AV:=(flat (pl f L)).map .p
section wide
variable {α:Type} {f:α → PV} {sz:Nat}
theorem zca (x:α) (L:List α):wcs f (x :: L)=(f x).cells.map .p++wcs f L:=by
 simp [wcs,flat,pl]
theorem zg1 (h : ∀ x,(f x).cells.length=sz) : ∀ L:List α,(wcs f L).length=L.length*sz
 | []=>by simp [wcs,flat,pl]
 | x :: L=>by rw [zca,List.length_append,zg1 h L,List.length_map,h,List.length_cons,Nat.succ_mul];omega
theorem zsU (h : ∀ x,(f x).cells.length=sz) (g:α) : ∀ (L:List α) (i:Nat),i < L.length → setAt (wcs f L) (i*sz) ((f g).cells.map .p)=wcs f (L.set i g)
 | x :: L,0,_=>by
  have hl:=zg1 h L;rw [za9 _ _ _ (by rw [zca,List.length_append,List.length_map,List.length_map,h,h];omega),Nat.zero_mul,List.take_zero,List.nil_append,List.length_map,h,List.set_cons_zero,zca,zca,Nat.zero_add];rw [List.drop_append_of_le_length (by rw [List.length_map,h];omega),List.drop_of_length_le (by rw [List.length_map,h];omega),List.nil_append]
 | x :: L,i+1,hi=>by
  have hl:=zg1 h L
  have hi':i < L.length:=by simpa using hi
  have hm:i*sz+sz≤L.length*sz:=by rw [←Nat.succ_mul];exact Nat.mul_le_mul_right _ hi'
  have ih:=zsU h g L i hi';rw [za9 _ _ _ (by rw [List.length_map,h,hl];omega),List.length_map,h] at ih;rw [za9 _ _ _ (by rw [zca,List.length_append,List.length_map,List.length_map,h,h,Nat.succ_mul];omega),List.set_cons_succ,zca,zca,←ih,List.length_map,h,Nat.succ_mul];rw [List.take_append,List.take_of_length_le (by rw [List.length_map,h];omega),List.drop_append,List.drop_of_length_le (l:=List.map AV.p (f x).cells) (by rw [List.length_map,h];omega),List.length_map,h,List.nil_append,Nat.add_sub_cancel];rw [show i*sz+sz+sz - sz=i*sz+sz by omega];simp only [List.append_assoc]
end wide
def g0:Gate:=⟨0,0,0#64,0#64,0#64,0#64⟩
theorem zBB (n:Nat):List.map AV.p (zbQ n [i64 0,i64 0,zg 0#64,zg 0#64,zg 0#64,zg 0#64])=wcs zY (List.replicate n g0):=by
 unfold wcs zbQ flat pl
 congr 1
 rw [List.map_replicate,List.flatMap_replicate];rfl
theorem zsV (x:Gate):(zY x).cells.length=6:=rfl
def zi5 (m:Nat) (L:List Gate):List Gate:=L++List.replicate (m - L.length) g0
theorem zBC {m:Nat} {L:List Gate} (g:Gate) (h:L.length < m):(zi5 m L).set L.length g=zi5 m (L++[g]):=by
 unfold zi5;rw [show m - L.length=(m - (L++[g]).length)+1 by simp;omega,List.replicate_succ,List.set_append_right _ _ (by simp)]
 simp
theorem zn6 {m:Nat} {L:List Gate} (h:L.length≤m):(zi5 m L).length=m:=by simp [zi5];omega
theorem zcH (s:List Nd) (d:Nat) (o:List Nat) (st:LS) : ∀ i,(y6 s d o st i).1.length=i
 | 0=>rfl
 | i+1=>by simp only [y6,List.length_append,List.length_singleton,zcH s d o st i]
theorem zwN {al d:Nat} {ls:List (List Gate)} (h:ls.length=d):(zco al ls d).map AV.weak=cl (ym 6 zY) ls:=by
 apply List.ext_getElem?;intro i;by_cases hi:i < d
 · rw [List.getElem?_map,zco,zfl hi,zym (by omega)];rfl
 · rw [List.getElem?_eq_none (by rw [List.length_map,zco,zhO];omega),List.getElem?_eq_none (by rw [zcn];omega)]
theorem LN.backE {H Z:Hp} {d mp rb al:Nat} (h:LN H Z d mp rb al) (h1:H.n≤mp) (h2:H.n≤rb) (h3:H.n≤al):Z.trunc H.n=H:=by
 refine Hp.ext (fun b => ?_) rfl h.z;rw [Hp.f_trunc]
 split
 · exact h.f b (by assumption) (by omega) (by omega) (by omega)
 · exact (H.wf b (by omega)).symm
theorem zbl {d k:Nat}:nth (List.replicate d ([]:List Gate)) k=[]:=by
 unfold nth;rw [List.getElem?_replicate]
 split<;>rfl
theorem LOk.none (s:List Nd) (d:Nat):LOk s [] d ⟨[],List.replicate d []⟩ :=
 ⟨by simp,fun k j hj=>by rw [zbl] at hj;simp at hj,fun k j hj=>by rw [zbl] at hj;simp at hj,fun n k i h=>by cases h⟩
theorem Cov.none (s:List Nd) (d:Nat):Cov s d ⟨[],List.replicate d []⟩ :=
 ⟨fun k j hj=>by rw [zbl] at hj;simp at hj,fun p hp=>(by cases hp),by simp⟩
section walks
variable {G:Globs}
set_option maxHeartbeats 16000000 in
set_option maxRecDepth 20000 in
theorem zn7 {s:List Nd} {ad:Nat → Nat} (hw:Wf s) (hC:SmC s) (inj : ∀ i j,i < 29+s.length → j < 29+s.length → ad i=ad j → i=j) (hlen:s.length≤900) (o:List Nat) (ho : ∀ x∈o,x < 29+s.length) (hol:o.length≤1000) (hd0:0 < depth s o) (H:Hp)
 (hnd : ∀ n,n < 29+s.length → H.z (ad n)=some (8,[.agg (ndC ad s n)])) :
 ACall Tryz.prog G 38 [.p (.sl false 1 (pl (fun i=>ptp (ad i)) o))] H (fun r H'=>r = .p (.sl false 1 (pl (ym 6 zY) (zbY s o)))∧H'=H):=by
 refine ACall.of_run (raw:=[]) Tryz.func38 rfl Tryz.ntmps38 (by simp) fun hbel => ?_
 have hon : ∀ i,i < o.length → nth o i < 29+s.length:=fun i hi=>by rw [zc hi];exact ho _ (List.getElem_mem hi)
 have hle : ∀ i,i < o.length → lev s (nth o i)≤1000:=fun i hi=>by have:=zeT hw _ (hon i hi);have:=hon i hi;omega
 have hdl : ∀ i,depth s (o.take i)≤1000:=fun i=>zd0 fun x hx=>by have:=ho x (List.mem_of_mem_take hx);have:=zeT hw x this;omega
 refine .qt rfl ?_;simp (disch:=first|exact za|fail) only [go_sem,seval];refine .qt rfl ?_;simp (disch:=first|exact za|fail) only [go_sem,seval];refine .qt rfl ?_;simp (disch:=first|exact za|fail) only [go_sem,seval];refine .q ?_;refine .loopE [0,13,14] (fun i=>[(3,.p (i64 (depth s (o.take i):Nat))),(15,.p (i64 i))]) (fun i=>[]) (fun i=>True) (0) (o.length) (by omega) ?_ (by first | rfl | (simp (disch:=first|exact za|fail) only [go_sem,seval]<;>rfl)) ?_ ?_ ?_
 · simp (disch:=first|exact za|fail) only [go_sem,seval]<;>(repeat' (first | rfl | refine And.intro ?_ ?_))
 · exact trivial
 intro env E hQ;simp (disch:=first|exact za|fail) only [go_sem,seval] at E
 rotate_left 1
 intro i env hi0 hi E hQ ihE;simp (disch:=first|exact za|fail) only [go_sem,seval] at E
 rotate_left 1
 · have hdm:=hdl o.length;rw [List.take_length] at hdm
   generalize hd:depth s o=d at *
   refine .qt rfl ?_;simp (disch:=first|exact za|fail) only [go_sem,seval,E];refine .qF rfl ?_;refine .qt rfl ?_;simp (disch:=first|exact za|fail) only [go_sem,seval,E];refine .qt rfl ?_;simp (disch:=first|exact za|fail) only [go_sem,seval,E];refine .qt rfl ?_;simp (disch:=first|exact za|fail) only [go_sem,seval,E];have hcl:cl (PV.sl true 6) (List.replicate d ([]:List PV))=List.replicate d (.p (.sl true 6 [])):=cl_replicate;rw [hcl];refine ARun.ownCs H.n d (sz:=6) (by simp (disch:=first|exact za|fail) only [go_sem,seval]) ?_
   obtain⟨Y0,hY0⟩ : ∃ Y0,Y0=(((((H.new (AB.cells (List.replicate d (.p (.sl true 6 []))))).new (AB.mapB [])).new (AB.cells [AV.ref H.n 0 d 1])).new (AB.cells [AV.mp (H.n+1)])).new (.cells [.clo 88 [] [.ptr (H.n+3) 0,.ptr (H.n+4) 0,.ptr (H.n+2) 0] ])):=⟨_,rfl⟩
   have hY0n:Y0.n=H.n+5:=by rw [hY0];simp (disch:=first|exact za|fail) only [go_sem,seval]
   rw [←hY0,hY0n]
   obtain⟨Y,hY⟩ : ∃ Y,Y=app (Y0.set H.n (.cells (zaq (fun j => .sl (H.n+5+j) 0 6 []) d))) (List.replicate d (.tail 0)):=⟨_,rfl⟩
   rw [←hY]
   have hYn:Y.n=H.n+5+d:=by rw [hY,app_n',n_set',hY0n,List.length_replicate]
   have hYf : ∀ b,b < H.n+5 → b≠H.n → Y.f b=Y0.f b:=fun b h1 h2=>by rw [hY,zfh (by rw [n_set'];omega),f_set_ne' h2]
   have hLY:LH Y s ad d (H.n+2) (H.n+3) (H.n+4) (H.n+1) H.n (H.n+5) ⟨[],List.replicate d []⟩:=by
    refine⟨?_,?_,?_,?_,?_,fun k hk => ?_,?_,by omega⟩
    · rw [hYf _ (by omega) (by omega),hY0];simp (disch:=first|exact za|fail) only [go_sem,seval]
    · rw [hYf _ (by omega) (by omega),hY0];simp (disch:=first|exact za|fail) only [go_sem,seval]
    · rw [hYf _ (by omega) (by omega),hY0];simp (disch:=first|exact za|fail) only [go_sem,seval]
    · rw [hYf _ (by omega) (by omega),hY0];simp (disch:=first|exact za|fail) only [go_sem,seval];rfl
    · rw [hY,zfh (by rw [n_set'];omega),zy rfl (by omega)];unfold zco
      congr 2
      refine zcZ fun k hk => ?_
      rw [zbl];rfl
    · rw [zbl,hY,show H.n+5+k=(Y0.set H.n (.cells (zaq (fun j => .sl (H.n+5+j) 0 6 []) d))).n+k by rw [n_set',hY0n],zyz];simp [hk]
    · have:Y.z=H.z:=by rw [hY,zqm,hY0];rfl
      rw [this];exact hnd
   have hNY:LN H Y d (H.n+1) H.n (H.n+5):=⟨by omega,fun b h1 _ h3 _=>by
    rw [hYf _ (by omega) h3,hY0];simp (disch:=first|exact za|fail) only [go_sem,seval],by rw [hY,zqm,hY0];rfl⟩
   have hLk:=LOk.none s d;have hCv:=Cov.none s d
   clear hYf hY hY0n hY0
   have hsub:(d:Int) - 1=((d - 1:Nat):Int):=by omega
   refine .qt rfl ?_;simp (disch:=first|exact za|fail) only [go_sem,seval,E];rw [zBB];refine .qt rfl ?_;simp (disch:=first|exact za|fail) only [go_sem,seval,E];refine .q ?_
   have hlm:=fun i=>zcH s d o ⟨[],List.replicate d []⟩ i
   refine .count (fun i env H'=>env 3 = .p (i64 d)∧env 6 = .ptr (H.n+2) 0∧env 8 = .ptr (H.n+4) 0∧env 9 = .ref Y.n 0 o.length 6∧env 33 = .p (.sl false 1 (pl (fun i=>ptp (ad i)) o))∧env 34 = .p (i64 o.length)∧env 35 = .p (i64 i) ∧
    LH H' s ad d (H.n+2) (H.n+3) (H.n+4) (H.n+1) H.n (H.n+5) (y6 s d o ⟨[],List.replicate d []⟩ i).2∧H'.f Y.n=some (.cells (wcs zY (zi5 o.length (y6 s d o ⟨[],List.replicate d []⟩ i).1)))∧H'.n=Y.n+1∧LN H H' d (H.n+1) H.n (H.n+5) ∧
    LOk s [] d (y6 s d o ⟨[],List.replicate d []⟩ i).2∧Cov s d (y6 s d o ⟨[],List.replicate d []⟩ i).2) 0 o.length (by omega) ?_ ?_ ?_
   · refine⟨?_,?_,?_,?_,?_,?_,?_,hLY.new _,?_,by rw [n_new'],hNY.trans (.new _),hLk,hCv⟩
     · simp (disch:=first|exact za|fail) only [go_sem,seval,E]
     · simp (disch:=first|exact za|fail) only [go_sem,seval,E]
     · simp (disch:=first|exact za|fail) only [go_sem,seval,E]
     · simp (disch:=first|exact za|fail) only [go_sem,seval,E]
     · simp (disch:=first|exact za|fail) only [go_sem,seval,E]
     · simp (disch:=first|exact za|fail) only [go_sem,seval,E]
     · simp (disch:=first|exact za|fail) only [go_sem,seval,E]
     · rw [zk rfl];rfl
   · rintro env H2 ⟨e3,e6,e8,e9,e33,e34,e35,hL2,hrow,hn2,hN2,hO2,hV2⟩
     have hlq:=hlm o.length;have hll:=hO2.len
     have hlay:zbY s o=(y6 s d o ⟨[],List.replicate d []⟩ o.length).2.ls.set (d - 1) (y6 s d o ⟨[],List.replicate d []⟩ o.length).1:=by unfold zbY;rw [hd]
     rw [hlay]
     generalize y6 s d o ⟨[],List.replicate d []⟩ o.length=q at *
     have hlf:zi5 o.length q.1=q.1:=by unfold zi5;rw [hlq,Nat.sub_self];simp
     rw [hlf] at hrow
     have hbelY:Bel H.n ((H2.set Y.n .dead).set H.n .dead):=by
      refine Bel.set_hi (Nat.le_refl _) |>.2 (Bel.set_hi (by omega) |>.2 ?_)
      exact fun b x hb hx=>hbel b x hb (by rw [←hN2.f b hb (by omega) (by omega) (by omega)];exact hx)
     refine .frzR 9 (xs:=pl zY q.1) e9 hrow rfl (by rw [zad];exact hlq) zAJ ?_;have hL3:=hL2.set (b:=Y.n) .dead (by omega) (by omega);have hN3:LN H (H2.set Y.n .dead) d (H.n+1) H.n (H.n+5):=hN2.set _ (by omega)
     have hn3:(H2.set Y.n .dead).n=Y.n+1:=by rw [n_set',hn2]
     generalize H2.set Y.n .dead=H3 at *
     have hrl:(zco (H.n+5) q.2.ls d).length=d:=zhO;refine .qt rfl ?_;simp (disch:=first|exact za|fail) only [go_sem,seval,e34,e35];refine .qF rfl ?_;refine .qt rfl ?_;simp (disch:=first|exact za|fail) only [go_sem,seval,e3,e6,hL3.m6,hL3.row,hsub,hrl];refine .qt rfl ?_;simp (disch:=first|exact za|fail) only [go_sem,seval,e6,hL3.m6];have ho3:=hL3.lt;refine .weakC H.n (zy rfl (by omega)) ?_;rw [set_set',List.map_set,zwN hll]
     have hwk:(cl (ym 6 zY) q.2.ls).set (d - 1) (AV.weak (.p (.sl false 6 (pl zY q.1))))=cl (ym 6 zY) (q.2.ls.set (d - 1) q.1):=by
      rw [←zhM];rfl
     rw [hwk];have hN4:LN H (H3.set H.n (.cells (cl (ym 6 zY) (q.2.ls.set (d - 1) q.1)))) d (H.n+1) H.n (H.n+5):=hN3.set _ (by omega);have hr4:(H3.set H.n (.cells (cl (ym 6 zY) (q.2.ls.set (d - 1) q.1)))).f H.n=some (.cells (cl (ym 6 zY) (q.2.ls.set (d - 1) q.1))):=zy rfl (by omega)
     have hll4:(q.2.ls.set (d - 1) q.1).length=d:=by rw [List.length_set,hll]
     generalize H3.set H.n (.cells (cl (ym 6 zY) (q.2.ls.set (d - 1) q.1)))=H4 at *
     generalize q.2.ls.set (d - 1) q.1=ls4 at *
     refine .q ?_;refine .frzS 2 (by simp (disch:=first|exact za|fail) only [go_sem,seval,hr4,hll4];rfl) (by simp (disch:=first|exact za|fail) only [go_sem,seval,hr4,hll4]<;>rfl) (fun _=>rfl) (by first | exact za | fail) ?_;(try simp (disch:=first|exact za|fail) only [go_sem,seval,hr4,hll4])
     have hbel:Bel H.n H4:=fun b x hb hx=>hbel b x hb (by rw [←hN4.f b hb (by omega) (by omega) (by omega)];exact hx)
     refine .qr rfl Tryz.func38 (by rw [Tryz.results38]) ?_;simp (disch:=first|exact za|fail) only [go_sem,seval];exact hN4.backE (by omega) (by omega) (by omega)
   · rintro i env H2 hi0 hi ⟨e3,e6,e8,e9,e33,e34,e35,hL2,hrow,hn2,hN2,hO2,hV2⟩ ih
     have hlq:=hlm i;have hnx:y6 s d o ⟨[],List.replicate d []⟩ (i+1)=((y6 s d o ⟨[],List.replicate d []⟩ i).1++[nth (nth (need s d (nth o i) (y6 s d o ⟨[],List.replicate d []⟩ i).2).2.ls (d - 1)) (need s d (nth o i) (y6 s d o ⟨[],List.replicate d []⟩ i).2).1],(need s d (nth o i) (y6 s d o ⟨[],List.replicate d []⟩ i).2).2):=rfl
     generalize y6 s d o ⟨[],List.replicate d []⟩ i=q at *
     have hlv:lev s (nth o i)≤d:=by rw [←hd];exact zb9 (by rw [zc hi];exact List.getElem_mem hi)
     obtain⟨v1,v2⟩:=zcG hw d (nth o i) q.2 hV2 (Nat.le_refl _) (hon i hi)
     obtain⟨w1,w2,w3,w4,w5⟩:=zdb hw hC.fv zbv d (nth o i) q.2 hO2 (Nat.le_refl _) (hon i hi) hlv
     refine .qt rfl ?_;simp (disch:=first|exact za|fail) only [go_sem,seval,e34,e35];refine .qT rfl ?_;refine .qt rfl ?_;simp (disch:=first|exact za|fail) only [go_sem,seval,e33,e35];refine .qt rfl ?_;simp (disch:=first|exact za|fail) only [go_sem,seval,e3,e8,hL2.m8];refine CallK.ex (zwM hw hC inj (by omega) hdm hd0 d (nth o i) q.2 H2 hL2 hO2 hV2 (Nat.le_refl _) (hon i hi) hlv) ?_
     rintro _ H3 ⟨rfl,hL3,hN3,hn3⟩
     have hrow3:=(hN3.f Y.n (by omega) (by omega) (by omega) (by omega)).trans hrow
     generalize need s d (nth o i) q.2=z at *
     rw [zbD,if_neg (by omega)] at w3;have htk:(zco (H.n+5) z.2.ls d)[d - 1]? = some (.sl (H.n+5+(d - 1)) (nth z.2.ls (d - 1)).length 6 (pl zY (nth z.2.ls (d - 1)))):=zfl (by omega);have hzl:=v1.le (d - 1);have hwl:=zg1 zsV (zi5 o.length q.1);rw [zn6 (by omega)] at hwl;simp (disch:=first|exact za|fail) only [go_sem,seval];refine .qt rfl ?_;simp (disch:=first|exact za|fail) only [go_sem,seval,e3,e6,e9,e35,hL3.m6,hL3.row,htk,hsub,hrow3,hwl];have hset:=zsU zsV (nth (nth z.2.ls (d - 1)) z.1) (zi5 o.length q.1) i (by rw [zn6 (by omega)];exact hi);have hcg:(zY (nth (nth z.2.ls (d - 1)) z.1)).cells.map AV.p=[.p (i64 (nth (nth z.2.ls (d - 1)) z.1).l),.p (i64 (nth (nth z.2.ls (d - 1)) z.1).r),.p (zg (nth (nth z.2.ls (d - 1)) z.1).c),.p (zg (nth (nth z.2.ls (d - 1)) z.1).a),.p (zg (nth (nth z.2.ls (d - 1)) z.1).b),.p (zg (nth (nth z.2.ls (d - 1)) z.1).d)]:=rfl;rw [hcg] at hset;rw [hset];have hlf:=zBC (m:=o.length) (L:=q.1) (nth (nth z.2.ls (d - 1)) z.1) (by omega);rw [hlq] at hlf;rw [hlf];refine .qt rfl ?_;simp (disch:=first|exact za|fail) only [go_sem,seval,e35];refine ih _ _ ⟨?_,?_,?_,?_,?_,?_,?_,?_⟩
     · simp (disch:=first|exact za|fail) only [go_sem,seval,e3]
     · simp (disch:=first|exact za|fail) only [go_sem,seval,e6]
     · simp (disch:=first|exact za|fail) only [go_sem,seval,e8]
     · simp (disch:=first|exact za|fail) only [go_sem,seval,e9]
     · simp (disch:=first|exact za|fail) only [go_sem,seval,e33]
     · simp (disch:=first|exact za|fail) only [go_sem,seval,e34]
     · simp (disch:=first|exact za|fail) only [go_sem,seval]
     · rw [hnx]
       exact⟨hL3.set _ (by omega) (by omega),zy rfl (by omega),by rw [n_set',hn3,hn2],(hN2.trans hN3).set _ (by omega),w1,v1⟩
 · have hx:=hon i hi;have hz:=hnd _ hx;have h7:=zk9 (ad:=ad) (s:=s) (n:=nth o i)
   have hn1:depth s (o.take (i+1))=max (depth s (o.take i)) (lev s (nth o i)):=by rw [take_snoc hi,zim]
   have h1:=hdl i;have h2:=hle i hi
   have hmx:max (depth s (o.take i):Int) (lev s (nth o i):Int)=((max (depth s (o.take i)) (lev s (nth o i)):Nat):Int):=by omega
   refine .qt rfl ?_;simp (disch:=first|exact za|fail) only [go_sem,seval,E];refine .qT rfl ?_;refine .qt rfl ?_;simp (disch:=first|exact za|fail) only [go_sem,seval,E];refine .qt rfl ?_;simp (disch:=first|exact za|fail) only [go_sem,seval,E,hz,h7,hmx];refine .qt rfl ?_;simp (disch:=first|exact za|fail) only [go_sem,seval,E]
   first | (refine ihE _ _ ?_ trivial ?_) | (refine .z rfl ?_;refine ihE _ _ ?_ trivial ?_) | (refine .z rfl ?_;refine .z rfl ?_;refine ihE _ _ ?_ trivial ?_) | (refine .z rfl ?_;refine .z rfl ?_;refine .z rfl ?_;refine ihE _ _ ?_ trivial ?_)
   · simp (disch:=first|exact za|fail) only [go_sem,seval,E,hn1]<;>(repeat' (first | rfl | refine And.intro ?_ ?_))
   · first | rfl | (simp (disch:=first|exact za|fail) only [go_sem,seval,E,hn1]<;>(try rfl))
end walks
end Go.Proofs.YthaoifcebimkfaaGreatDoor

namespace Go.AL
open Go
theorem ACall.backZ {P:Program} {G:Globs} {f:FuncId} {args:List AV} {H:Hp} {S:AV → Prop} (h:ACall P G f args H (fun r H'=>S r∧H'.f=H.f∧H'.n=H.n)):ACall P G f args H (fun r H'=>S r∧H'=H):=by
 intro σ w vs hr ha;refine (h σ w vs hr ha).mono ?_
 rintro e w' ⟨r,⟨f',n',wf',z'⟩,σ',v,⟨hS,hf,hn⟩,he,hrel,hv,hev⟩
 simp only at hf hn;subst hf;subst hn
 have hb:Ev H.n σ' ⟨H.f,H.n,wf',z'⟩ w' σ' H w' :=
  ⟨fun _ _ _ a b=>⟨a,b⟩,fun _ _=>rfl,Nat.le_refl _,fun _ _ k c hk=>⟨k,c,hk,Nat.le_refl _,fun _=>rfl⟩,Nat.le_refl _,fun _ _ h=>⟨rfl,⟨h.1,h.2,h.3⟩⟩,rfl,rfl⟩
 have hev2:Ev H.n σ H w σ' H w':=hev.trans (n1:=H.n) hb (Nat.le_refl _)
 refine⟨r,H,σ',v,⟨hS,rfl⟩,he,?_,hv.mono hb,hev2⟩
 refine⟨fun b cs h => ?_,hrel.tail,fun b k cs h => ?_,hrel.cc,hrel.ct,hrel.tt,hrel.glob_mono hb,fun b vs S h => ?_,hrel.oo,hrel.gm_mono hb,fun g' sz' xs' h=>(hr.z g' sz' xs' h).mono hev2⟩
 · obtain⟨c,e,q1,q2,q3⟩:=hrel.cells b cs h
   exact⟨c,e,q1,q2,fun i y hy=>let ⟨v,p,q⟩:=q3 i y hy;⟨v,p,q.mono hb⟩⟩
 · obtain⟨q0,q1,q2⟩:=hrel.vec b k cs h
   exact⟨q0,q1,fun g o s hg=>let ⟨p0,p1,p2⟩:=q2 g o s hg;⟨p0,p1,fun i x hx=>let ⟨v,a,b'⟩:=p2 i x hx;⟨v,a,b'.mono hb⟩⟩⟩
 · obtain⟨o,us,q1,q2,q3,q4⟩:=hrel.objs b vs S h
   exact⟨o,us,q1,q2,q3.mono hb,q4⟩
end Go.AL
namespace Go.Proofs.YthaoifcebimkfaaGreatDoor
open Go Go.AL
def Ap (s t:List Nd):Prop := ∃ u,t=s++u ∧ ∀ x∈u,okC x.k
theorem Ap.refl (s:List Nd):Ap s s:=⟨[],by simp,by simp⟩
theorem Ap.trans {s t u:List Nd} (h:Ap s t) (h':Ap t u):Ap s u:=by
 obtain⟨a,rfl,ha⟩:=h
 obtain⟨b,rfl,hb⟩:=h'
 exact⟨a++b,by simp,fun x hx=>(List.mem_append.1 hx).elim (ha x) (hb x)⟩
theorem Ap.sm {s t:List Nd} (h:Ap s t) (hs:SmC s):SmC t:=fun j hj=>by
 obtain⟨u,rfl,hu⟩:=h
 by_cases e:j < s.length
 · rw [zv e];exact hs j e
 · rw [zm (by omega),zc (by simp at hj;omega)];exact hu _ (List.getElem_mem _)
theorem zbG (s:List Nd) (l r:Nat) {k:Cf} (hk:okC k):Ap s (addN s l r k).2:=by
 rw [zaf]
 split
 · exact .refl s
 · exact⟨[_],rfl,by simpa using hk⟩
theorem zap {c a b d:Int} (h : -1000≤c∧c≤1000:=by omega) (h' : -1000≤a∧a≤1000:=by omega) (h'' : -1000≤b∧b≤1000:=by omega) (h3 : -1000≤d∧d≤1000:=by omega):okC ⟨c,a,b,d⟩:=⟨h,h',h'',h3⟩
theorem zf4 (s:List Nd) (l r:Nat):Ap s (prN s l r).2:=zbG s l r zap
theorem zsW (m o:Bool):okC (zkW m o):=by cases m<;>cases o<;>exact zap
theorem zDW (most:Bool) (n x i:Nat) (p:Option Nat × List Nd):Ap p.2 (zbh most n x i p).2:=by
 unfold zbh
 split
 · split
   · split
     · exact .refl _
     · exact zbG _ _ _ zap
   · split<;>exact .refl _
 · exact zbG _ _ _ (zsW _ _)
theorem zlp (most:Bool) (n c:Nat) (s:List Nd) : ∀ i,Ap s (yO most n c s i).2
 | 0 => .refl s
 | i+1=>(zlp most n c s i).trans (zDW ..)
theorem zFM (c:Cnd) (p:BS):Ap p.2 (mt1 c p).2:=by
 unfold mt1
 split
 · exact (zlp ..).trans (zf4 ..)
 · exact .refl _
theorem zFN (c:Cnd) (p:BS):Ap p.2 (mt2 c p).2:=by
 unfold mt2
 split
 · exact (zlp ..).trans (zf4 ..)
 · exact .refl _
theorem zg2 (l:List Cnd) (s:List Nd) : ∀ i,Ap s (zcy l s i).2
 | 0 => .refl s
 | i+1=>((zg2 l s i).trans (zFM ..)).trans (zFN ..)
theorem zin (u:Nat):okC (zaP u):=by
 match u with
 | 0=>exact zap
 | 1=>exact zap
 | 2=>exact zap
 | 3=>exact zap
 | u+4=>exact zap
theorem zDX (c v:Nat) (s:List Nd):Ap s (zdL c v s).2 :=
 ((zbG _ _ _ (zin _)).trans (zbG _ _ _ (zin _))).trans (zf4 ..)
theorem zsX (m c:Nat) (s:List Nd) : ∀ i,Ap s (zaj m c s i).2
 | 0 => .refl s
 | i+1=>((zsX m c s i).trans (zDX ..)).trans (zf4 ..)
theorem zlq (l:List Cnd) (c:Nat) (s:List Nd):Ap s (zar l c s).2:=(zg2 l s l.length).trans (zsX (yD l s).1 c (yD l s).2 16)
theorem zsY (c:Nat) (s:List Nd) : ∀ i,Ap s (zcz c s i).2
 | 0 => .refl s
 | i+1=>(zsY c s i).trans (zf4 ..)
theorem zBD (q:Qry) (s:List Nd):Ap s (zF q s).2:=by
 unfold zF
 split
 · exact zg2 (nth q.fl 0) s (nth q.fl 0).length
 · split
   · exact ((zg2 (nth q.fl 0) s (nth q.fl 0).length).trans (zsY q.col.toNat (yD (nth q.fl 0) s).2 (q.k - 1).toNat)).trans (zf4 _ _ _)
   · split
     · dsimp only;exact Ap.trans (t:=(zar (nth q.fl 0) 0 s).2) (zlq (nth q.fl 0) 0 s) (zlq (nth q.fl 1) 0 (zar (nth q.fl 0) 0 s).2)
     · exact zlq (nth q.fl 0) q.col.toNat s
theorem zry (s:List Nd) (x:Nat):Ap s (chk s x).2:=zbG _ _ _ zap
theorem zEt {c:Nat} (p:LBS) : ∀ k,k≤8 → Ap p.2 (zT c p k).s
 | 0,_ => .refl _
 | k+1,hk=>by
  have ih:=zEt (c:=c) p k (by omega);unfold zT zS
  split
  · exact ih.trans (zry (zT c p k).s (zf c+k))
  · have h2:(2:Int) ^ k≤128∧0 < (2:Int) ^ k:=by
     have e:(2:Int) ^ k=((2 ^ k:Nat):Int):=by simp
     have h1:2 ^ k≤2 ^ 7:=Nat.pow_le_pow_right (by decide) (by omega);have h3:=Nat.two_pow_pos k;have h4:2 ^ 7=128:=rfl;omega
    exact (ih.trans (zry (zT c p k).s (zf c+k))).trans (zbG (chk (zT c p k).s (zf c+k)).2 (zT c p k).sum (zf c+k) (k:=⟨0,1,2 ^ k,0⟩) (zap (by omega) (by omega) (by omega) (by omega)))
theorem zDY (c:Nat) (p:LBS):Ap p.2 (zfn c p).2:=(zEt p (zN c) (zag c)).trans (zbG (zT c p (zN c)).s (zT c p (zN c)).sum c (k:=⟨0,1,-1,0⟩) zap)
theorem zlr (q:Qry) (s:List Nd) : ∀ c,Ap s (zak q s c).2
 | 0=>zry s 4
 | c+1=>by
  unfold zak
  split
  · exact (zlr q s c).trans (zDY c (zak q s c))
  · exact zlr q s c
theorem SmC.nil:SmC []:=fun j h=>absurd h (Nat.not_lt_zero _)
theorem zBE (q:Qry):SmC (yi q).2.2:=((zBD q []).trans (zlr q _ 4)).sm SmC.nil
theorem zDZ {l:List Cnd} {s:List Nd}:(yD l s).1 < 29+(yD l s).2.length:=zfz (l:=l) (s:=s) l.length
theorem zn8 {q:Qry} (hq:vQ q=true):ZOk [] (zF q []).1 236 (zF q []).2∧(zF q []).1.length≤32:=by
 obtain⟨hfl,hlf⟩:q.fl.length=(if q.kind=7 then 2 else 1) ∧ ∀ x∈q.fl,vF x=true:=by
  simp only [vQ,Bool.and_eq_true,decide_eq_true_eq,List.all_eq_true] at hq;exact⟨hq.2.2.2.2.1,hq.2.2.2.2.2⟩
 have hK:q.k≤yt q.kind:=by
  simp only [vQ,Bool.and_eq_true,decide_eq_true_eq] at hq;exact hq.2.2.2.1.2
 have h3 : ∀ i,i < q.fl.length → (nth q.fl i).length≤3:=fun i hi=>zlj (zaS hq hi)
 have h0:=h3 0 (by rw [hfl];split<;>decide)
 have g1 : ∀ (l:List Cnd) (s:List Nd),l.length≤3 → (yD l s).2.length≤s.length+54∧s.length≤(yD l s).2.length:=fun l s h=>⟨by have:=(zb0 l).len s;omega,((zb0 l).ext s).len⟩
 have g2 : ∀ (l:List Cnd) (c:Nat) (s:List Nd),l.length≤3 → ZOk s (zar l c s).1 118 (zar l c s).2∧(zar l c s).1.length=16:=fun l c s h =>
  ⟨⟨((zfp l c).ext s).len,by have:=(zfp l c).len s;omega,fun x hx=>zfA 16 x hx⟩,zb6 16⟩
 unfold zF
 split
 · have:=g1 (nth q.fl 0) [] h0
   refine⟨⟨Nat.zero_le _,by simp only [List.length_nil] at *;omega,fun x hx => ?_⟩,by simp⟩
   simp only [List.mem_singleton] at hx;subst hx;exact zDZ
 · split
   · rename_i h1 h2
     have hk:q.k≤6:=by
      rcases h2 with e | e<;>rw [e] at hK
      · have:yt 2=0:=rfl
        omega
      · exact hK
     have a:=g1 (nth q.fl 0) [] h0;have b:=(zh4 q.col.toNat (q.k - 1).toNat).len (yD (nth q.fl 0) []).2;have c:=zq9 (zcz q.col.toNat (yD (nth q.fl 0) []).2 (q.k - 1).toNat).2 (yD (nth q.fl 0) []).1 (zcz q.col.toNat (yD (nth q.fl 0) []).2 (q.k - 1).toNat).1;have d:=(zc4 (yD (nth q.fl 0) []).1 (zcz q.col.toNat (yD (nth q.fl 0) []).2 (q.k - 1).toNat).1).len (zcz q.col.toNat (yD (nth q.fl 0) []).2 (q.k - 1).toNat).2
     refine⟨⟨Nat.zero_le _,by simp only [List.length_nil] at *;omega,fun x hx => ?_⟩,by simp⟩
     simp only [List.mem_singleton] at hx;subst hx;exact c
   · split
     · rename_i h7;have h1:=h3 1 (by rw [hfl,if_pos h7];decide)
       obtain⟨a1,a2⟩:=g2 (nth q.fl 0) 0 [] h0
       obtain⟨b1,b2⟩:=g2 (nth q.fl 1) 0 (zar (nth q.fl 0) 0 []).2 h1
       dsimp only
       refine⟨⟨Nat.zero_le _,?_,fun x hx => ?_⟩,?_⟩
       · have:=a1.hi;have:=b1.hi;simp only [List.length_nil] at *;omega
       · rcases List.mem_append.1 hx with e | e
         · have:=a1.mem x e;have:=b1.lo;omega
         · exact b1.mem x e
       · rw [List.length_append,a2,b2];exact Nat.le_refl _
     · obtain⟨a1,a2⟩:=g2 (nth q.fl 0) q.col.toNat [] h0
       exact⟨a1.more (by omega),by rw [a2];omega⟩
theorem zg3 {q:Qry} (hq:vQ q=true):(∀ x∈(yi q).1++(yi q).2.1,x < 29+(yi q).2.2.length)∧(yi q).2.2.length≤305∧(yi q).1.length≤32∧((yi q).1++(yi q).2.1).length≤69∧0 < (yi q).2.1.length:=by
 obtain⟨a,b⟩:=zn8 hq
 have c:=zle (q:=q) (s:=(zF q []).2) 4 (Nat.le_refl _);have d:=zia (q:=q) (s:=(zF q []).2) 4 (Nat.le_refl _)
 have e : ∀ c,0 < (zak q (zF q []).2 c).1.length:=fun c=>by
  induction c with
  | zero=>exact Nat.zero_lt_one
  | succ c ih =>
   unfold zak
   split
   · unfold zfn;simp
   · exact ih
 have hn:(yi q).2.2=(zak q (zF q []).2 4).2:=rfl;have h1:(yi q).1=(zF q []).1:=rfl;have h2:(yi q).2.1=(zak q (zF q []).2 4).1:=rfl;rw [hn,h1,h2]
 refine⟨fun x hx => ?_,?_,b,?_,e 4⟩
 · rcases List.mem_append.1 hx with h | h
   · have:=a.mem x h;have:=c.lo;omega
   · exact c.mem x h
 · have:=a.hi;have:=c.hi;simp only [List.length_nil] at *;omega
 · rw [List.length_append];omega
end Go.Proofs.YthaoifcebimkfaaGreatDoor

namespace Go.Proofs.YthaoifcebimkfaaGreatDoor
open Go Go.AL

theorem zcI {s:List Nd} (hw:Wf s) {d:Nat} {o:List Nat} (ho : ∀ x∈o,x < 29+s.length) : ∀ i,i≤o.length → Cov s d (y6 s d o ⟨[],List.replicate d []⟩ i).2
 | 0,_=>Cov.none s d
 | i+1,hi=>(zcG hw d _ _ (zcI hw ho i (by omega)) (Nat.le_refl _) (ho _ (by rw [zc hi];exact List.getElem_mem _))).1
theorem zjX {s:List Nd} (hw:Wf s) {o:List Nat} (ho : ∀ x∈o,x < 29+s.length):(zbY s o).length=depth s o:=by
 unfold zbY;dsimp only;rw [List.length_set];exact (zcI (d:=depth s o) hw ho o.length (Nat.le_refl _)).len
theorem zn9 {s:List Nd} (hw:Wf s) {o:List Nat} (ho : ∀ x∈o,x < 29+s.length) {m:Nat} (h:o.length≤m) (h':29+s.length≤m) : ∀ x∈zbY s o,x.length≤m:=by
 intro x hx;unfold zbY at hx;dsimp only at hx
 rcases List.mem_or_eq_of_mem_set hx with e | e
 · obtain⟨k,hk,rfl⟩:=List.getElem_of_mem e
   have:=(zcI (d:=depth s o) hw ho o.length (Nat.le_refl _)).le k
   rw [zc hk] at this;omega
 · rw [e,zcH];exact h
theorem zBF {c:Nat} {p:LBS} {x:Nat} (h:x∈p.1) : ∀ k,x∈(zT c p k).o
 | 0=>h
 | k+1=>by
  have ih:=zBF (c:=c) h k;unfold zT zS
  split<;>simp [ih]
theorem zf5 {q:Qry} {s:List Nd} : ∀ c,(chk s 4).1∈(zak q s c).1
 | 0=>by simp [zak]
 | c+1=>by
  have ih:=zf5 (q:=q) (s:=s) c;unfold zak
  split
  · unfold zfn;simp [zBF ih]
  · exact ih
section walks
variable {G:Globs} {r1:Nat} {m1:List (Int × Int)}
set_option maxHeartbeats 16000000 in
set_option maxRecDepth 20000 in
theorem zex (g:GW G r1 m1) (q:Qry) (hk:okI q.kind) (H:Hp):ACall Tryz.prog G 10 [.p (qry q)] H (fun r H'=>(r = .tup [.p (za2 (yM q).1),.p (i64 (yM q).2)]∧(ya q=0 → Wf (yi q).2.2))∧H'=H):=by
 refine ACall.backZ ?_
 refine ACall.of_run (raw:=[]) Tryz.func10 rfl Tryz.ntmps10 (by simp) fun hbel => ?_
 refine .qt rfl ?_;simp (disch:=first|exact za|fail) only [go_sem,seval]
 cases hv:vQ q with
 | false =>
  have he:ya q=1:=by rw [ya,hv];rfl
  have hc:yM q=(⟨0,[],0⟩,1):=by rw [yM,he];rfl
  rw [hc];refine .qt rfl ?_;simp (disch:=first|exact za|fail) only [go_sem,seval];refine CallK.of (fun R h=>zde q hk _ R h) ?_;simp (disch:=first|exact za|fail) only [go_sem,seval,hv];refine .qT rfl ?_;refine .qt rfl ?_;simp (disch:=first|exact za|fail) only [go_sem,seval];refine .qr rfl Tryz.func10 (by rw [Tryz.results10]) ?_;simp (disch:=first|exact za|fail) only [go_sem,seval]
  exact fun e=>by rw [he] at e;cases e
 | true =>
  refine .qt rfl ?_;simp (disch:=first|exact za|fail) only [go_sem,seval];refine CallK.of (fun R h=>zde q hk _ R h) ?_;simp (disch:=first|exact za|fail) only [go_sem,seval,hv];refine .qF rfl ?_;refine .skip ?_;refine .qt rfl ?_;simp (disch:=first|exact za|fail) only [go_sem,seval];refine CallK.ex (zik g q hk _) ?_
  rintro _ _ ⟨⟨x,rfl⟩,rfl⟩
  simp (disch:=first|exact za|fail) only [go_sem,seval]
  rcases Classical.em (ya q=0) with he | he
  · rw [he];refine .qt rfl ?_;simp (disch:=first|exact za|fail) only [go_sem,seval];refine .qF rfl ?_;refine .skip ?_
    obtain⟨X,hX⟩ : ∃ X,X=((H.new (.cells [.p (i64 q.kind),.p (i64 q.col),.p (i64 q.k),.p (.sl false 1 (pl yH q.fl))])).new (.cells [.p (i64 0),.p (.sl true 1 []),.p (i64 0)])).new (.cells [.p x]):=⟨_,rfl⟩
    have hXn:X.n=H.n+3:=by rw [hX,n_new',n_new',n_new']
    have hX0:X.f H.n=some (.cells [.p (i64 q.kind),.p (i64 q.col),.p (i64 q.k),.p (.sl false 1 (pl yH q.fl))]):=by rw [hX];simp (disch:=first|exact za|fail) only [go_sem,seval]
    have hXl : ∀ b,b < H.n → X.f b=H.f b:=fun b hb=>by rw [hX];simp (disch:=first|exact za|fail) only [go_sem,seval]
    have hX1:X.f (H.n+1)=some (.cells [.p (i64 0),.p (.sl true 1 []),.p (i64 0)]):=by rw [hX];simp (disch:=first|exact za|fail) only [go_sem,seval]
    have hXb:Bel H.n X:=by
     rw [hX]
     repeat (first | with_reducible refine zaM ?_ za | with_reducible refine za8 ?_ za | with_reducible exact hbel)
    rw [←hX]
    clear hX
    refine .qt rfl ?_;simp (disch:=first|exact za|fail) only [go_sem,seval];refine CallK.ex (zwr _) ?_
    rintro _ H1 ⟨ad,hB,rfl,hn1,hf1⟩
    rw [hXn] at hB hf1 hn1 ⊢;have q1:=(hf1 H.n (by omega)).trans hX0;simp (disch:=first|exact za|fail) only [go_sem,seval];refine .qt rfl ?_;simp (disch:=first|exact za|fail) only [go_sem,seval,q1];refine CallK.ex (zwo g q hv hB (by decide)) ?_
    rintro _ H2 ⟨ad2,hB2,n2,rfl⟩
    have q2:=(n2.f H.n (by omega)).trans q1
    obtain⟨o1,o2⟩:=zn8 hv
    have o3:=o1.hi;have o4:=o1.mem;simp only [List.length_nil,Nat.zero_add] at o3;simp (disch:=first|exact za|fail) only [go_sem,seval];refine .qt rfl ?_;simp (disch:=first|exact za|fail) only [go_sem,seval,q2];refine CallK.ex (zri g q hv hB2 (by omega)) ?_
    rintro _ H3 ⟨ad3,hB3,n3,rfl⟩
    have q3:=(n3.f H.n (by omega)).trans q2;rw [znU (ad:=ad2) (ad':=ad3) fun x hx=>n3.ad x (o4 x hx)];have hb3:AV.p (.sl true 1 [.sl false 1 (pl (fun i=>ptp (ad3 i)) (zF q []).1),.sl false 1 (pl (fun i=>ptp (ad3 i)) (zan q (zF q []).2).1)]) = .p (.sl true 1 (pl (pn ad3) [(zF q []).1,(zan q (zF q []).2).1])):=rfl
    have hold : ∀ b,b < H.n+3 → H3.f b=X.f b:=fun b hb=>(n3.f b (by omega)).trans ((n2.f b (by omega)).trans (hf1 b hb))
    have hn3:H.n+3≤H3.n:=by have:=n3.n;have:=n2.n;omega
    obtain⟨p1,p2,p3,p4,p5⟩:=zg3 hv
    have hC:=zBE q;have hWf:Wf (yi q).2.2:=hB3.wf
    have hcQ:yM q=if zh0 (zbY (zan q (zF q []).2).2 ((zF q []).1++(zan q (zF q []).2).1)) then (⟨0,[],0⟩,2) else (⟨29,zbY (zan q (zF q []).2).2 ((zF q []).1++(zan q (zF q []).2).1),(zF q []).1.length⟩,0):=by
     unfold yM;rw [if_pos he];rfl
    rw [hcQ]
    change ∀ x∈(zF q []).1++(zan q (zF q []).2).1,x < 29+(zan q (zF q []).2).2.length at p1
    change (zan q (zF q []).2).2.length≤305 at p2
    change (zF q []).1.length≤32 at p3
    change ((zF q []).1++(zan q (zF q []).2).1).length≤69 at p4
    change SmC (zan q (zF q []).2).2 at hC
    have p6 : ∃ y∈(zF q []).1++(zan q (zF q []).2).1,0 < lev (zan q (zF q []).2).2 y:=by
     have hm:=zf5 (q:=q) (s:=(zF q []).2) 4
     refine⟨_,List.mem_append_right _ hm,?_⟩
     have h29:29≤(chk (zF q []).2 4).1:=by unfold chk;rw [zaQ];omega
     refine Nat.pos_of_ne_zero fun h0 => ?_
     have:=zfw hB3.wf (p1 _ (List.mem_append_right _ hm)) h0
     omega
    clear hcQ o4
    simp (disch:=first|exact za|fail) only [go_sem,seval,hb3]
    generalize (zF q []).1=a at *
    generalize zan q (zF q []).2=z at *
    obtain⟨b,S⟩:=z
    simp only at hB3 p1 p2 p3 p4 p6 hC ⊢;have hcat:znP [a,b] 2=a++b:=rfl
    have htot:zdr [a,b] 2=(a++b).length:=by rw [←hcat,znQ]
    have hlab:0 < (a++b).length:=by
     obtain⟨y,hy,_⟩:=p6
     exact List.length_pos_of_mem hy
    have hdp:0 < depth S (a++b):=by
     obtain⟨y,hy,hy0⟩:=p6
     have:=zb9 (s:=S) hy
     omega
    have hlw:=zjX hB3.wf p1;have hll:=zn9 hB3.wf p1 (m:=1000) (by omega) (by omega)
    have hdl:depth S (a++b)≤1000:=zd0 fun x hx=>by have:=p1 x hx;have:=zeT hB3.wf x this;omega
    refine CallK.of (fun R h=>zfB ad3 [a,b] (by show 2≤1000;omega) (by show 0 < zdr [a,b] 2;omega) (by show zdr [a,b] 2≤_;omega) _ R h) ?_;simp (disch:=first|exact za|fail) only [go_sem,seval];rw [hcat];refine CallK.ex (zn7 hB3.wf hC hB3.inj (by omega) (a++b) p1 (by omega) hdp H3 hB3.nd) ?_
    rintro _ H4 ⟨rfl,hH4⟩
    rw [hH4]
    clear hH4
    generalize zbY S (a++b)=ls at *
    have qX:=(hold (H.n+1) (by omega)).trans hX1
    have hbel:Bel H.n H3:=fun b x hb hx=>hXb b x hb (by rw [←hold b (by omega)];exact hx)
    have hend:(H3.trunc H.n).f=H.f:=funext fun b=>by
     rw [Hp.f_trunc]
     split
     · exact (hold b (by omega)).trans (hXl b (by omega))
     · exact (H.wf b (by omega)).symm
    simp (disch:=first|exact za|fail) only [go_sem,seval];refine .qt rfl ?_;simp (disch:=first|exact za|fail) only [go_sem,seval];refine CallK.of (fun R h=>zrm ls (by omega) (fun x hx=>by have:=hll x hx;omega) _ R h) ?_;simp (disch:=first|exact za|fail) only [go_sem,seval]
    cases hbg:zh0 ls with
    | true =>
     refine .q ?_;refine .ifT (by simp (disch:=first|exact za|fail) only [go_sem,seval,hbg]) ?_;refine .qt rfl ?_;simp (disch:=first|exact za|fail) only [go_sem,seval,qX];refine .qr rfl Tryz.func10 (by rw [Tryz.results10]) ?_;simp (disch:=first|exact za|fail) only [go_sem,seval]
     exact⟨hWf,hend,rfl⟩
    | false =>
     refine .q ?_;refine .ifF (by simp (disch:=first|exact za|fail) only [go_sem,seval,hbg]) ?_;refine .skip ?_;refine .qt rfl ?_;simp (disch:=first|exact za|fail) only [go_sem,seval,qX];refine .qr rfl Tryz.func10 (by rw [Tryz.results10]) ?_;simp (disch:=first|exact za|fail) only [go_sem,seval]
     exact⟨hWf,hend,rfl⟩
  · have hc:yM q=(⟨0,[],0⟩,ya q):=by rw [yM,if_neg he]
    rw [hc];refine .qt rfl ?_;simp (disch:=first|exact za|fail) only [go_sem,seval];refine .q ?_;refine .ifT (by simp (disch:=first|exact za|fail) only [go_sem,seval,he]) ?_;refine .qt rfl ?_;simp (disch:=first|exact za|fail) only [go_sem,seval];refine .qr rfl Tryz.func10 (by rw [Tryz.results10]) ?_;simp (disch:=first|exact za|fail) only [go_sem,seval]
    exact fun e=>absurd e he
theorem zaT (g:GW G r1 m1) (q:Qry) (hk:okI q.kind) (H:Hp):ACall Tryz.prog G 10 [.p (qry q)] H (fun r H'=>r = .tup [.p (za2 (yM q).1),.p (i64 (yM q).2)]∧H'=H) :=
 (zex g q hk H).mono fun r H' h=>⟨h.1.1,h.2⟩
end walks
end Go.Proofs.YthaoifcebimkfaaGreatDoor

namespace Go.Proofs.YthaoifcebimkfaaGreatDoor
open Go Go.AL

theorem zD0 {n:Int} (h0:n < 0) (h1 : -1152921504606846976≤n):(18446744069414584321#64:U) - (BitVec.ofInt 64 (-(n+1))+1#64)=fi n:=by
 obtain⟨m,hm⟩:=Int.eq_ofNat_of_zero_le (show 0 ≤ -(n+1) by omega)
 rw [hm,BitVec.ofInt_natCast,fi,if_pos h0]
 have:(-n).toNat=m+1:=by omega
 rw [this]
 congr 1
 apply BitVec.eq_of_toNat_eq;rw [BitVec.toNat_add,BitVec.toNat_ofNat,BitVec.toNat_ofNat,BitVec.toNat_ofNat];omega
section walks
variable {G:Globs}
theorem zi6 (n:Int) (h1 : -1152921504606846976≤n) (h2:n≤1152921504606846976) (H:Hp) (R:AV → Hp → Prop) (h:R (.p (zg (fi n))) H):ACall Tryz.prog G 65 [.p (i64 n)] H R:=by
 refine ACall.of_run (raw:=[]) Tryz.func65 rfl Tryz.ntmps65 (by simp) fun hbel => ?_
 refine .qt rfl ?_;simp (disch:=first|exact za|fail) only [go_sem,seval];refine .qt rfl ?_;simp (disch:=first|exact za|fail) only [go_sem,seval]
 rcases Int.lt_or_le n 0 with h0 | h0
 · have e0:(0:Int) - (n+1) = -(n+1):=by omega
   rw [←zD0 h0 h1] at h;refine .qF rfl ?_;refine .skip ?_;refine .qt rfl ?_;simp (disch:=first|exact za|fail) only [go_sem,seval,e0];refine .qr rfl Tryz.func65 (by rw [Tryz.results65]) ?_;simp (disch:=first|exact za|fail) only [go_sem,seval];exact h
 · rw [←zBb h0] at h;refine .qT rfl ?_;refine .qt rfl ?_;simp (disch:=first|exact za|fail) only [go_sem,seval];refine .qr rfl Tryz.func65 (by rw [Tryz.results65]) ?_;simp (disch:=first|exact za|fail) only [go_sem,seval];exact h
theorem zaE (c:Nat) (hc:c < 4) (H:Hp) (R:AV → Hp → Prop) (h:R (.p (i64 (zN c:Nat))) H):ACall Tryz.prog G 29 [.p (i64 c)] H R:=by
 refine ACall.of_run (raw:=[]) Tryz.func29 rfl Tryz.ntmps29 (by simp) fun hbel => ?_
 match c,hc with
 | 0,_ =>
  refine .qt rfl ?_;simp (disch:=first|exact za|fail) only [go_sem,seval];refine .qt rfl ?_;simp (disch:=first|exact za|fail) only [go_sem,seval];refine .qT rfl ?_;refine .qt rfl ?_;simp (disch:=first|exact za|fail) only [go_sem,seval];refine .qr rfl Tryz.func29 (by rw [Tryz.results29]) ?_;simp (disch:=first|exact za|fail) only [go_sem,seval];exact h
 | 1,_ =>
  refine .qt rfl ?_;simp (disch:=first|exact za|fail) only [go_sem,seval];refine .qt rfl ?_;simp (disch:=first|exact za|fail) only [go_sem,seval];refine .qF rfl ?_;refine .skip ?_;refine .qt rfl ?_;simp (disch:=first|exact za|fail) only [go_sem,seval];refine .qr rfl Tryz.func29 (by rw [Tryz.results29]) ?_;simp (disch:=first|exact za|fail) only [go_sem,seval];exact h
 | 2,_ =>
  refine .qt rfl ?_;simp (disch:=first|exact za|fail) only [go_sem,seval];refine .qt rfl ?_;simp (disch:=first|exact za|fail) only [go_sem,seval];refine .qT rfl ?_;refine .qt rfl ?_;simp (disch:=first|exact za|fail) only [go_sem,seval];refine .qr rfl Tryz.func29 (by rw [Tryz.results29]) ?_;simp (disch:=first|exact za|fail) only [go_sem,seval];exact h
 | 3,_ =>
  refine .qt rfl ?_;simp (disch:=first|exact za|fail) only [go_sem,seval];refine .qt rfl ?_;simp (disch:=first|exact za|fail) only [go_sem,seval];refine .qF rfl ?_;refine .skip ?_;refine .qt rfl ?_;simp (disch:=first|exact za|fail) only [go_sem,seval];refine .qr rfl Tryz.func29 (by rw [Tryz.results29]) ?_;simp (disch:=first|exact za|fail) only [go_sem,seval];exact h
 | c+4,h=>omega
theorem zd1 (c:Nat) (hc:c < 4) (H:Hp) (R:AV → Hp → Prop) (h:R (.p (i64 (zf c:Nat))) H):ACall Tryz.prog G 28 [.p (i64 c)] H R:=by
 refine ACall.of_run (raw:=[]) Tryz.func28 rfl Tryz.ntmps28 (by simp) fun hbel => ?_
 match c,hc with
 | 0,_ =>
  refine .qt rfl ?_;simp (disch:=first|exact za|fail) only [go_sem,seval];refine .qt rfl ?_;simp (disch:=first|exact za|fail) only [go_sem,seval];refine .qr rfl Tryz.func28 (by rw [Tryz.results28]) ?_;simp (disch:=first|exact za|fail) only [go_sem,seval];exact h
 | 1,_ =>
  refine .qt rfl ?_;simp (disch:=first|exact za|fail) only [go_sem,seval];refine .qt rfl ?_;simp (disch:=first|exact za|fail) only [go_sem,seval];refine .qr rfl Tryz.func28 (by rw [Tryz.results28]) ?_;simp (disch:=first|exact za|fail) only [go_sem,seval];exact h
 | 2,_ =>
  refine .qt rfl ?_;simp (disch:=first|exact za|fail) only [go_sem,seval];refine .qt rfl ?_;simp (disch:=first|exact za|fail) only [go_sem,seval];refine .qr rfl Tryz.func28 (by rw [Tryz.results28]) ?_;simp (disch:=first|exact za|fail) only [go_sem,seval];exact h
 | 3,_ =>
  refine .qt rfl ?_;simp (disch:=first|exact za|fail) only [go_sem,seval];refine .qt rfl ?_;simp (disch:=first|exact za|fail) only [go_sem,seval];refine .qr rfl Tryz.func28 (by rw [Tryz.results28]) ?_;simp (disch:=first|exact za|fail) only [go_sem,seval];exact h
 | c+4,h=>omega
theorem zwO (c:Nat) (hc:c < 4) (H:Hp) (R:AV → Hp → Prop) (h:R (.p (i64 (yC c))) H):ACall Tryz.prog G 70 [.p (i64 c)] H R:=by
 have hsh:=zsR hc;have htb:=zfD c
 have hsub:yC c+1 - 1=yC c:=by omega
 refine ACall.of_run (raw:=[]) Tryz.func70 rfl Tryz.ntmps70 (by simp) fun hbel => ?_
 refine .qt rfl ?_;simp (disch:=first|exact za|fail) only [go_sem,seval];refine .qt rfl ?_;simp (disch:=first|exact za|fail) only [go_sem,seval];refine CallK.of (fun R h=>zaE c hc _ R h) ?_;simp (disch:=first|exact za|fail) only [go_sem,seval,hsh,hsub];refine .qr rfl Tryz.func70 (by rw [Tryz.results70]) ?_;simp (disch:=first|exact za|fail) only [go_sem,seval];exact h
end walks
end Go.Proofs.YthaoifcebimkfaaGreatDoor

namespace Go.Proofs.YthaoifcebimkfaaGreatDoor
open Go Go.AL

structure RNd where
 g:Gate
 lv:Int
instance:Inhabited RNd:=⟨⟨⟨0,0,0#64,0#64,0#64,0#64⟩,0⟩⟩
def rnd (x:RNd):PV := .agg [i64 x.g.l,i64 x.g.r,zg x.g.c,zg x.g.a,zg x.g.b,zg x.g.d,i64 x.lv]
def gOf (l r:Nat) (k:Cf):Gate:=⟨l,r,fi k.c,fi k.a,fi k.b,fi k.d⟩
def rOf (x:Nd):RNd:=⟨gOf x.l x.r x.k,x.lv⟩
def rN (s:List Nd):List RNd:=List.replicate 29 default++s.map rOf
section enc
variable {x:RNd} {i s n:Int} {a b c d:U} {l:List RNd}
theorem zrz:zh (.p (rnd x))=some [.p (i64 x.g.l),.p (i64 x.g.r),.p (zg x.g.c),.p (zg x.g.a),.p (zg x.g.b),.p (zg x.g.d),.p (i64 x.lv)]:=rfl
theorem zwP:(rnd x).cells=[i64 x.g.l,i64 x.g.r,zg x.g.c,zg x.g.a,zg x.g.b,zg x.g.d,i64 x.lv]:=rfl
theorem zwQ:(rnd x).isAgg=true:=rfl
theorem zrA:(AV.p (rnd x)).isAggV=true:=rfl
theorem zBG:(rnd x).weak=rnd x:=rfl
theorem zwR:(rnd x).weak1=rnd x:=rfl
theorem zwS:(rnd x).aggOf 0 7=rnd x:=rfl
theorem zrB:(rnd x).aggOf 0 6=zY x.g:=rfl
theorem zwT:zu [.p (i64 i),.p (i64 s),.p (zg a),.p (zg b),.p (zg c),.p (zg d),.p (i64 n)] = .p (rnd ⟨⟨i,s,a,b,c,d⟩,n⟩):=rfl
theorem zBH:PV.agg [i64 i,i64 s,zg a,zg b,zg c,zg d,i64 n]=rnd ⟨⟨i,s,a,b,c,d⟩,n⟩:=rfl
theorem zD1:(⟨⟨x.g.l,x.g.r,x.g.c,x.g.a,x.g.b,x.g.d⟩,x.lv⟩:RNd)=x:=rfl
end enc
attribute [go_sem] zrz zwP zwQ zrA zBG zwR zwS zrB zwT zBH zD1
structure RB (H:Hp) (s:List Nd) (bb al:Nat):Prop where
 bld:H.f bb=some (.cells [.sl al (29+s.length) 7 (pl rnd (rN s))])
 tl:H.f al=some (.tail (29+s.length))
 wf:Wf s
 sm:SmC s
structure RF (bb al:Nat) (H H':Hp):Prop where
 n:H'.n=H.n
 f : ∀ b,b≠bb → b≠al → H'.f b=H.f b
theorem RF.refl {bb al:Nat} {H:Hp}:RF bb al H H:=⟨rfl,fun _ _ _=>rfl⟩
theorem RF.trans {bb al:Nat} {H H1 H2:Hp} (h:RF bb al H H1) (h':RF bb al H1 H2):RF bb al H H2:=⟨h'.n.trans h.n,fun b h1 h2=>(h'.f b h1 h2).trans (h.f b h1 h2)⟩
theorem RB.ne {H:Hp} {s:List Nd} {bb al:Nat} (h:RB H s bb al):bb≠al:=by rintro rfl;have:=h.bld;rw [h.tl] at this;cases this
theorem RB.lt {H:Hp} {s:List Nd} {bb al:Nat} (h:RB H s bb al):bb < H.n∧al < H.n:=⟨Hp.lt h.bld,Hp.lt h.tl⟩
theorem RB.new {H:Hp} {s:List Nd} {bb al:Nat} (h:RB H s bb al) (x:AB):RB (H.new x) s bb al:=by
 obtain⟨h1,h2⟩:=h.lt
 exact⟨by rw [zb (by omega)];exact h.bld,by rw [zb (by omega)];exact h.tl,h.wf,h.sm⟩
theorem RB.set {H:Hp} {s:List Nd} {bb al b:Nat} (h:RB H s bb al) (x:AB) (h1:b≠bb) (h2:b≠al):RB (H.set b x) s bb al :=
 ⟨by rw [f_set_ne' h1.symm];exact h.bld,by rw [f_set_ne' h2.symm];exact h.tl,h.wf,h.sm⟩
theorem RB.trunc {H:Hp} {s:List Nd} {bb al n:Nat} (h:RB H s bb al) (h1:bb < n) (h2:al < n):RB (H.trunc n) s bb al :=
 ⟨by rw [Hp.f_trunc,if_pos h1];exact h.bld,by rw [Hp.f_trunc,if_pos h2];exact h.tl,h.wf,h.sm⟩
structure RW (bb al:Nat) (H H':Hp):Prop where
 n:H.n≤H'.n
 f : ∀ b,b < H.n → b≠bb → b≠al → H'.f b=H.f b
theorem RF.w {bb al:Nat} {H H':Hp} (h:RF bb al H H'):RW bb al H H':=⟨by rw [h.n];exact Nat.le_refl _,fun b _ h1 h2=>h.f b h1 h2⟩
theorem RW.refl {bb al:Nat} {H:Hp}:RW bb al H H:=⟨Nat.le_refl _,fun _ _ _ _=>rfl⟩
theorem RW.trans {bb al:Nat} {H H1 H2:Hp} (h:RW bb al H H1) (h':RW bb al H1 H2):RW bb al H H2:=⟨Nat.le_trans h.n h'.n,fun b h0 h1 h2=>(h'.f b (Nat.lt_of_lt_of_le h0 h.n) h1 h2).trans (h.f b h0 h1 h2)⟩
theorem RW.new {bb al:Nat} {H:Hp} (x:AB):RW bb al H (H.new x):=⟨by rw [n_new'];omega,fun b h0 _ _=>zb (by omega)⟩
theorem RW.set {bb al b:Nat} {H H':Hp} (h:RW bb al H H') (x:AB) (hb:b=bb ∨ b=al ∨ H.n≤b):RW bb al H (H'.set b x) :=
 ⟨by rw [n_set'];exact h.n,fun c h0 h1 h2=>by rw [f_set_ne' (by rintro rfl;rcases hb with hb | hb | hb;exact h1 hb;exact h2 hb;omega)];exact h.f c h0 h1 h2⟩
theorem RW.back {bb al:Nat} {H H':Hp} (h:RW bb al H H') (h1:bb < H.n) (h2:al < H.n):RF bb al H (H'.trunc H.n) :=
 ⟨rfl,fun b e1 e2=>by
  by_cases hb:b < H.n
  · rw [Hp.f_trunc,if_pos hb];exact h.f b hb e1 e2
  · rw [Hp.f_trunc,if_neg hb];exact (H.wf b (by omega)).symm⟩
theorem RB.bel {H H':Hp} {s:List Nd} {bb al n:Nat} (hB:RB H' s bb al) (hal:al < n) (hb:Bel n H) (hf : ∀ b,b < n → b≠bb → b≠al → H'.f b=H.f b):Bel n H':=fun b x hbn hx y hy=>by
 by_cases e:b=bb
 · subst e;rw [hB.bld] at hx;cases hx;simp only [AB.vals,List.mem_singleton] at hy;subst hy;exact .sl _ _ _ _ hal
 · by_cases e2:b=al
   · subst e2;rw [hB.tl] at hx;cases hx;cases hy
   · rw [hf b hbn e e2] at hx;exact hb b x hbn hx y hy
end Go.Proofs.YthaoifcebimkfaaGreatDoor

namespace Go.Proofs.YthaoifcebimkfaaGreatDoor
open Go Go.AL

section zcf
variable {a0 a1 a2 a3 a4 a5 a6 x0 x1 x2 x3 x4 x5:AV}
theorem zwU:setAt [a0,a1,a2,a3,a4,a5,a6] 0 [x0,x1,x2,x3,x4,x5]=[x0,x1,x2,x3,x4,x5,a6]:=rfl
end zcf
attribute [go_sem] zwU
section walks
variable {G:Globs}
end walks
end Go.Proofs.YthaoifcebimkfaaGreatDoor

namespace Go.Proofs.YthaoifcebimkfaaGreatDoor
open Go Go.AL

section walks
variable {G:Globs}
end walks
end Go.Proofs.YthaoifcebimkfaaGreatDoor

namespace Go.Proofs.YthaoifcebimkfaaGreatDoor
open Go Go.AL

section walks
variable {G:Globs}
end walks
end Go.Proofs.YthaoifcebimkfaaGreatDoor

namespace Go.Proofs.YthaoifcebimkfaaGreatDoor
open Go Go.AL

section walks
variable {G:Globs}
end walks
end Go.Proofs.YthaoifcebimkfaaGreatDoor

namespace Go.Proofs.YthaoifcebimkfaaGreatDoor
open Go Go.AL

section walks
variable {G:Globs}
set_option maxHeartbeats 16000000 in
set_option maxRecDepth 20000 in
theorem zdg (q:Qry) (hq:vQ q=true) (c:Nat) (hc:c < 4) (H:Hp) (R:AV → Hp → Prop) (h:R (.p (bo (zO q c))) H):ACall Tryz.prog G 27 [.p (qry q),.p (i64 c)] H R:=by
 refine ACall.of_run (raw:=[]) Tryz.func27 rfl Tryz.ntmps27 (by simp) fun hbel => ?_
 obtain⟨hf2,hf3⟩:=zEr hq
 refine .qt rfl ?_;simp (disch:=first|exact za|fail) only [go_sem,seval];refine .qt rfl ?_;simp (disch:=first|exact za|fail) only [go_sem,seval]
 refine .q ?_;first | refine .loopF0 [1,2] (fun i=>[(5,.p (i64 i))]) (fun i => ∀ j,j < i → zgN c (nth q.fl j)=false) (0) (q.fl.length) (by omega) ?_ ?_ ?_ ?_ | refine .loopF [1,2] (fun i=>[(5,.p (i64 i))]) (fun _=>[]) (fun i => ∀ j,j < i → zgN c (nth q.fl j)=false) (0) (q.fl.length) (by omega) ?_ (by rfl) ?_ ?_ ?_
 · simp (disch:=first|exact za|fail) only [go_sem,seval]<;>(repeat' (first | rfl | refine And.intro ?_ ?_))
 rotate_left 1
 intro env T A hQ;simp (disch:=first|exact za|fail) only [go_sem,seval] at A
 rotate_left 1
 intro i env T hi0 hi A hQ ihA;simp (disch:=first|exact za|fail) only [go_sem,seval] at A
 rotate_left 1
 · exact fun j hj=>absurd hj (by omega)
 · have hany:(q.fl.any fun l=>l.any (z5 c))=false:=by
    rw [List.any_eq_false];intro x hx
    obtain⟨j,hj,rfl⟩:=List.getElem_of_mem hx
    have:=hQ j hj
    rw [zc hj] at this;rw [show ((q.fl[j]).any (z5 c))=zgN c q.fl[j] from rfl,this]
    decide
   refine .qt rfl ?_;simp (disch:=first|exact za|fail) only [go_sem,seval,A];refine .qF rfl ?_
   rcases Classical.em (q.kind=4) with hk4 | hk4
   · rcases Classical.em (q.col=(c:Int)) with h5 | h5
     · have hr:zO q c=true:=by unfold zO;rw [hany];simp [hk4,h5]
       rw [hr] at h;refine .qt rfl ?_;simp (disch:=first|exact za|fail) only [go_sem,seval,A,hk4];refine .qt rfl ?_;simp (disch:=first|exact za|fail) only [go_sem,seval,A,hk4,h5];refine .qr rfl Tryz.func27 (by rw [Tryz.results27]) (hx:=by simp (disch:=first|exact za|fail) only [go_sem,seval,A];rfl) ?_;simp (disch:=first|exact za|fail) only [go_sem,seval,A];exact h
     · have hr:zO q c=false:=by unfold zO;rw [hany];simp [hk4,h5]
       rw [hr] at h;refine .qt rfl ?_;simp (disch:=first|exact za|fail) only [go_sem,seval,A,hk4];refine .qt rfl ?_;simp (disch:=first|exact za|fail) only [go_sem,seval,A,hk4,h5];refine .qr rfl Tryz.func27 (by rw [Tryz.results27]) (hx:=by simp (disch:=first|exact za|fail) only [go_sem,seval,A];rfl) ?_;simp (disch:=first|exact za|fail) only [go_sem,seval,A];exact h
   rcases Classical.em (q.kind=5) with hk5 | hk5
   · rcases Classical.em (q.col=(c:Int)) with h5 | h5
     · have hr:zO q c=true:=by unfold zO;rw [hany];simp [hk5,h5]
       rw [hr] at h;refine .qt rfl ?_;simp (disch:=first|exact za|fail) only [go_sem,seval,A,hk4,hk5];refine .qt rfl ?_;simp (disch:=first|exact za|fail) only [go_sem,seval,A,hk4,hk5,h5];refine .qr rfl Tryz.func27 (by rw [Tryz.results27]) (hx:=by simp (disch:=first|exact za|fail) only [go_sem,seval,A];rfl) ?_;simp (disch:=first|exact za|fail) only [go_sem,seval,A];exact h
     · have hr:zO q c=false:=by unfold zO;rw [hany];simp [hk5,h5]
       rw [hr] at h;refine .qt rfl ?_;simp (disch:=first|exact za|fail) only [go_sem,seval,A,hk4,hk5];refine .qt rfl ?_;simp (disch:=first|exact za|fail) only [go_sem,seval,A,hk4,hk5,h5];refine .qr rfl Tryz.func27 (by rw [Tryz.results27]) (hx:=by simp (disch:=first|exact za|fail) only [go_sem,seval,A];rfl) ?_;simp (disch:=first|exact za|fail) only [go_sem,seval,A];exact h
   rcases Classical.em (q.kind=6) with hk6 | hk6
   · rcases Classical.em (q.col=(c:Int)) with h5 | h5
     · have hr:zO q c=true:=by unfold zO;rw [hany];simp [hk6,h5]
       rw [hr] at h;refine .qt rfl ?_;simp (disch:=first|exact za|fail) only [go_sem,seval,A,hk4,hk5,hk6];refine .qt rfl ?_;simp (disch:=first|exact za|fail) only [go_sem,seval,A,hk4,hk5,hk6,h5];refine .qr rfl Tryz.func27 (by rw [Tryz.results27]) (hx:=by simp (disch:=first|exact za|fail) only [go_sem,seval,A];rfl) ?_;simp (disch:=first|exact za|fail) only [go_sem,seval,A];exact h
     · have hr:zO q c=false:=by unfold zO;rw [hany];simp [hk6,h5]
       rw [hr] at h;refine .qt rfl ?_;simp (disch:=first|exact za|fail) only [go_sem,seval,A,hk4,hk5,hk6];refine .qt rfl ?_;simp (disch:=first|exact za|fail) only [go_sem,seval,A,hk4,hk5,hk6,h5];refine .qr rfl Tryz.func27 (by rw [Tryz.results27]) (hx:=by simp (disch:=first|exact za|fail) only [go_sem,seval,A];rfl) ?_;simp (disch:=first|exact za|fail) only [go_sem,seval,A];exact h
   rcases Classical.em (q.kind=7) with hk7 | hk7
   · rcases Classical.em (c=0) with h5 | h5
     · have hr:zO q c=true:=by unfold zO;rw [hany];simp [hk7,h5]
       rw [hr] at h;subst h5;refine .qt rfl ?_;simp (disch:=first|exact za|fail) only [go_sem,seval,A,hk7];refine .qt rfl ?_;simp (disch:=first|exact za|fail) only [go_sem,seval,A,hk7];refine .qr rfl Tryz.func27 (by rw [Tryz.results27]) (hx:=by simp (disch:=first|exact za|fail) only [go_sem,seval,A];rfl) ?_;simp (disch:=first|exact za|fail) only [go_sem,seval,A];exact h
     · have hr:zO q c=false:=by unfold zO;rw [hany];simp [hk7,h5]
       rw [hr] at h
       have h6 : ¬ ((c:Int)=0):=by omega
       refine .qt rfl ?_;simp (disch:=first|exact za|fail) only [go_sem,seval,A,hk7];refine .qt rfl ?_;simp (disch:=first|exact za|fail) only [go_sem,seval,A,hk7,h6];refine .qr rfl Tryz.func27 (by rw [Tryz.results27]) (hx:=by simp (disch:=first|exact za|fail) only [go_sem,seval,A];rfl) ?_;simp (disch:=first|exact za|fail) only [go_sem,seval,A];exact h
   · have hr:zO q c=false:=by unfold zO;rw [hany];simp [hk4,hk5,hk6,hk7]
     rw [hr] at h;refine .qt rfl ?_;simp (disch:=first|exact za|fail) only [go_sem,seval,A,hk4,hk5,hk6];refine .qt rfl ?_;simp (disch:=first|exact za|fail) only [go_sem,seval,A,hk7];refine .qr rfl Tryz.func27 (by rw [Tryz.results27]) (hx:=by simp (disch:=first|exact za|fail) only [go_sem,seval,A];rfl) ?_;simp (disch:=first|exact za|fail) only [go_sem,seval,A];exact h
 · have hl3:(nth q.fl i).length≤3:=hf3 _ (by rw [zc hi];exact List.getElem_mem _);have hQ0:=hQ;refine .qt rfl ?_;simp (disch:=first|exact za|fail) only [go_sem,seval,A];refine .qT rfl ?_;refine .qt rfl ?_;simp (disch:=first|exact za|fail) only [go_sem,seval,A]
   refine .q ?_;first | refine .loopF0 [1,2,5] (fun k=>[(6,.p (i64 k))]) (fun k => ∀ j,j < k → z5 c (nth (nth q.fl i) j)=false) (0) ((nth q.fl i).length) (by omega) ?_ ?_ ?_ ?_ | refine .loopF [1,2,5] (fun k=>[(6,.p (i64 k))]) (fun _=>[]) (fun k => ∀ j,j < k → z5 c (nth (nth q.fl i) j)=false) (0) ((nth q.fl i).length) (by omega) ?_ (by rfl) ?_ ?_ ?_
   · simp (disch:=first|exact za|fail) only [go_sem,seval,A]<;>(repeat' (first | rfl | refine And.intro ?_ ?_))
   rotate_left 1
   intro env T B hQ;simp (disch:=first|exact za|fail) only [go_sem,seval,A] at B
   rotate_left 1
   intro k env T hk0 hk B hQ ihB;simp (disch:=first|exact za|fail) only [go_sem,seval,A] at B
   rotate_left 1
   · exact fun j hj=>absurd hj (by omega)
   · have hno:zgN c (nth q.fl i)=false:=by
      unfold zgN;rw [List.any_eq_false];intro x hx
      obtain⟨j,hj,rfl⟩:=List.getElem_of_mem hx
      have:=hQ j hj
      rw [zc hj] at this;rw [this];decide
     refine .qt rfl ?_;simp (disch:=first|exact za|fail) only [go_sem,seval,B,A,zH];refine .qF rfl ?_;refine .qt rfl ?_;simp (disch:=first|exact za|fail) only [go_sem,seval,B,A]
     first | (refine ihA _ _ ?_ (zJ hQ0 hno) ?_) | (refine .z rfl ?_;refine ihA _ _ ?_ (zJ hQ0 hno) ?_) | (refine .z rfl ?_;refine .z rfl ?_;refine ihA _ _ ?_ (zJ hQ0 hno) ?_) | (refine .z rfl ?_;refine .z rfl ?_;refine .z rfl ?_;refine ihA _ _ ?_ (zJ hQ0 hno) ?_)
     · simp (disch:=first|exact za|fail) only [go_sem,seval,B,A]<;>(repeat' (first | rfl | refine And.intro ?_ ?_))
     · first | exact .mk _ rfl | exact .mk [] rfl | (apply Later.mk;simp (disch:=first|exact za|fail) only [go_sem,seval,zl,B,A];exact rfl) | (apply Later.mk;simp (disch:=first|exact za|fail) only [go_sem,seval,zl,yv,List.append_assoc,B,A]<;>(try rfl))
   · obtain⟨x,hx⟩ : ∃ x,x=nth (nth q.fl i) k:=⟨_,rfl⟩
     have htrue:z5 c x=true → R (.p (bo true)) H:=fun hr=>by
      have:zO q c=true:=by
       have ha:(q.fl.any fun l=>l.any (z5 c))=true:=List.any_eq_true.2 ⟨_,List.getElem_mem hi,List.any_eq_true.2 ⟨_,List.getElem_mem (by rw [←zc hi];exact hk),by
        have e:(q.fl[i])[k]'(by rw [←zc hi];exact hk)=x:=by
         rw [hx,←zc (l:=q.fl[i]) (by rw [←zc hi];exact hk),←zc hi]
        rw [e];exact hr⟩⟩
       unfold zO;rw [ha];rfl
      rwa [this] at h
     refine .qt rfl ?_;simp (disch:=first|exact za|fail) only [go_sem,seval,B,A,zH];refine .qT rfl ?_;refine .qt rfl ?_;simp (disch:=first|exact za|fail) only [go_sem,seval,B,A,zH];rw [←hx]
     have hsucc:z5 c x=false → ∀ j,j < k+1 → z5 c (nth (nth q.fl i) j)=false:=fun hr j hj=>by
      by_cases e:j=k
      · subst e;rw [←hx];exact hr
      · exact hQ j (by omega)
     rcases Classical.em (x.col=(c:Int)) with h1 | h1
     · rcases Classical.em (0 < x.lo) with h2 | h2
       · have hr:z5 c x=true:=by simp [z5,h1,h2]
         refine .q ?_;refine .open [] follows (by kernel_rfl) ?_;simp (disch:=first|exact za|fail) only [go_sem,seval,B,A,h1];refine .qT rfl ?_;refine .qt rfl ?_;simp (disch:=first|exact za|fail) only [go_sem,seval,B,A];refine .qr rfl Tryz.func27 (by rw [Tryz.results27]) (hx:=by simp (disch:=first|exact za|fail) only [go_sem,seval,B,A];rfl) ?_;simp (disch:=first|exact za|fail) only [go_sem,seval,B,A];exact htrue hr
       · refine .q ?_;refine .open [] follows (by kernel_rfl) ?_;simp (disch:=first|exact za|fail) only [go_sem,seval,B,A,h1];refine CallD.still (fun R h=>zwO c hc _ R h) ?_;simp (disch:=first|exact za|fail) only [go_sem,seval,B,A]
         rcases Classical.em (x.hi < yC c) with h3 | h3
         · have hr:z5 c x=true:=by simp [z5,h1,h3]
           refine .q ?_;refine .ifT (by simp (disch:=first|exact za|fail) only [go_sem,seval,h3]) ?_;refine .qt rfl ?_;simp (disch:=first|exact za|fail) only [go_sem,seval,B,A];refine .qr rfl Tryz.func27 (by rw [Tryz.results27]) (hx:=by simp (disch:=first|exact za|fail) only [go_sem,seval,B,A];rfl) ?_;simp (disch:=first|exact za|fail) only [go_sem,seval,B,A];exact htrue hr
         · have hr:z5 c x=false:=by simp [z5,h2,h3]
           refine .q ?_;refine .ifF (by simp (disch:=first|exact za|fail) only [go_sem,seval,h3]) ?_;refine .skip ?_;refine .qt rfl ?_;simp (disch:=first|exact za|fail) only [go_sem,seval,B,A]
           first | (refine ihB _ _ ?_ (hsucc hr) ?_) | (refine .z rfl ?_;refine ihB _ _ ?_ (hsucc hr) ?_) | (refine .z rfl ?_;refine .z rfl ?_;refine ihB _ _ ?_ (hsucc hr) ?_) | (refine .z rfl ?_;refine .z rfl ?_;refine .z rfl ?_;refine ihB _ _ ?_ (hsucc hr) ?_)
           · simp (disch:=first|exact za|fail) only [go_sem,seval,B,A]<;>(repeat' (first | rfl | refine And.intro ?_ ?_))
           · first | exact .mk _ rfl | exact .mk [] rfl | (apply Later.mk;simp (disch:=first|exact za|fail) only [go_sem,seval,zl,B,A];exact rfl) | (apply Later.mk;simp (disch:=first|exact za|fail) only [go_sem,seval,zl,yv,List.append_assoc,B,A]<;>(try rfl))
     · have hr:z5 c x=false:=by simp [z5,h1]
       refine .q ?_;refine .open [] follows (by kernel_rfl) ?_;simp (disch:=first|exact za|fail) only [go_sem,seval,B,A,h1];refine .qF rfl ?_;refine .skip ?_;refine .qt rfl ?_;simp (disch:=first|exact za|fail) only [go_sem,seval,B,A]
       first | (refine ihB _ _ ?_ (hsucc hr) ?_) | (refine .z rfl ?_;refine ihB _ _ ?_ (hsucc hr) ?_) | (refine .z rfl ?_;refine .z rfl ?_;refine ihB _ _ ?_ (hsucc hr) ?_) | (refine .z rfl ?_;refine .z rfl ?_;refine .z rfl ?_;refine ihB _ _ ?_ (hsucc hr) ?_)
       · simp (disch:=first|exact za|fail) only [go_sem,seval,B,A]<;>(repeat' (first | rfl | refine And.intro ?_ ?_))
       · first | exact .mk _ rfl | exact .mk [] rfl | (apply Later.mk;simp (disch:=first|exact za|fail) only [go_sem,seval,zl,B,A];exact rfl) | (apply Later.mk;simp (disch:=first|exact za|fail) only [go_sem,seval,zl,yv,List.append_assoc,B,A]<;>(try rfl))
end walks
end Go.Proofs.YthaoifcebimkfaaGreatDoor

namespace Go.Proofs.YthaoifcebimkfaaGreatDoor
open Go Go.AL

section walks
variable {G:Globs}
end walks
end Go.Proofs.YthaoifcebimkfaaGreatDoor

namespace Go.Proofs.YthaoifcebimkfaaGreatDoor
open Go Go.AL

section walks
variable {G:Globs}
end walks
end Go.Proofs.YthaoifcebimkfaaGreatDoor

namespace Go.AL
open Go
section own
variable {C:Cx} {todo:List Item} {env:Env} {H:Hp} {R:AV → Hp → Prop}
end own
end Go.AL
namespace Go.Proofs.YthaoifcebimkfaaGreatDoor
open Go Go.AL
def atI (st:LS) (i k:Nat):Int:=match zM (i,k) st.at' with | some j=>j | none => -1
def atR (st:LS) (d i:Nat):List AV:=zaq (fun k => .p (i64 (atI st i k))) (d+1)
structure EH (H:Hp) (s:List Nd) (d eb A L r0 t0:Nat) (X:AV) (st:LS):Prop where
 em:H.f eb=some (.cells [X,.vr A (29+s.length) 1,.vr L d 1])
 ats:H.f A=some (.vec (zaq (fun i => .vr (r0+2*i) (d+1) 1) (29+s.length)))
 rows : ∀ i,i < 29+s.length → H.f (r0+2*i)=some (.vec (atR st d i))
 lay:H.f L=some (.vec (zco t0 st.ls d))
 tl : ∀ k,k < d → H.f (t0+k)=some (.tail (nth st.ls k).length)
 ord:eb < A∧A < L∧L < r0∧r0+2*(29+s.length)≤t0
structure EN (H H':Hp) (m d L r0 t0:Nat):Prop where
 n:H.n≤H'.n
 f : ∀ b,b < H.n → b≠L → (∀ i,i < m → b≠r0+2*i) → ¬ (t0≤b∧b < t0+d) → H'.f b=H.f b
theorem EN.refl {H:Hp} {m d L r0 t0:Nat}:EN H H m d L r0 t0:=⟨Nat.le_refl _,fun _ _ _ _ _=>rfl⟩
theorem EN.trans {H H1 H2:Hp} {m d L r0 t0:Nat} (h:EN H H1 m d L r0 t0) (h':EN H1 H2 m d L r0 t0):EN H H2 m d L r0 t0 :=
 ⟨Nat.le_trans h.n h'.n,fun b b1 b2 b3 b4=>(h'.f b (Nat.lt_of_lt_of_le b1 h.n) b2 b3 b4).trans (h.f b b1 b2 b3 b4)⟩
theorem EN.new {H:Hp} {m d L r0 t0:Nat} (x:AB):EN H (H.new x) m d L r0 t0:=⟨by rw [n_new'];omega,fun b hb _ _ _=>zb (by omega)⟩
theorem EN.set {H H':Hp} {m d L r0 t0 b:Nat} (h:EN H H' m d L r0 t0) (x:AB) (hb:b=L ∨ (∃ i,i < m∧b=r0+2*i) ∨ (t0≤b∧b < t0+d) ∨ H.n≤b):EN H (H'.set b x) m d L r0 t0 :=
 ⟨by rw [n_set'];exact h.n,fun c c1 c2 c3 c4=>by
  rw [f_set_ne' (by rintro rfl;rcases hb with hb | hb | hb | hb;exact c2 hb;exact (hb.elim fun i hi=>c3 i hi.1 hi.2);exact c4 hb;omega)]
  exact h.f c c1 c2 c3 c4⟩
theorem EN.trunc {H H':Hp} {m d L r0 t0:Nat} (h:EN H H' m d L r0 t0):EN H (H'.trunc H.n) m d L r0 t0 :=
 ⟨Nat.le_refl _,fun b b1 b2 b3 b4=>by rw [Hp.f_trunc,if_pos b1];exact h.f b b1 b2 b3 b4⟩
section EH
variable {H:Hp} {s:List Nd} {d eb A L r0 t0:Nat} {X:AV} {st:LS}
theorem EH.lt (h:EH H s d eb A L r0 t0 X st):eb < H.n∧A < H.n∧L < H.n∧r0+2*(28+s.length) < H.n:=by
 have h1:=Hp.lt h.em;have h2:=Hp.lt h.ats;have h3:=Hp.lt h.lay;have h4:=Hp.lt (h.rows (28+s.length) (by omega));omega
theorem EH.alN (h:EH H s d eb A L r0 t0 X st) (hd:0 < d):t0+d≤H.n:=by have:=Hp.lt (h.tl (d - 1) (by omega));omega
theorem EH.new (h:EH H s d eb A L r0 t0 X st) (x:AB):EH (H.new x) s d eb A L r0 t0 X st:=by
 have hl:=h.lt
 exact⟨by rw [zb (by omega)];exact h.em,by rw [zb (by omega)];exact h.ats,fun i hi=>by have:=Hp.lt (h.rows i hi);rw [zb (by omega)];exact h.rows i hi,by rw [zb (by omega)];exact h.lay,
  fun k hk=>by have:=Hp.lt (h.tl k hk);rw [zb (by omega)];exact h.tl k hk,h.ord⟩
theorem EH.set (h:EH H s d eb A L r0 t0 X st) {b:Nat} (x:AB) (hb:t0≤b) (hb2 : ¬ (t0≤b∧b < t0+d)):EH (H.set b x) s d eb A L r0 t0 X st:=by
 have ho:=h.ord
 exact⟨by rw [f_set_ne' (by omega)];exact h.em,by rw [f_set_ne' (by omega)];exact h.ats,fun i hi=>by rw [f_set_ne' (by omega)];exact h.rows i hi,by rw [f_set_ne' (by omega)];exact h.lay,
  fun k hk=>by rw [f_set_ne' (by omega)];exact h.tl k hk,h.ord⟩
theorem EH.trunc (h:EH H s d eb A L r0 t0 X st) {n:Nat} (h2:t0+d≤n):EH (H.trunc n) s d eb A L r0 t0 X st:=by
 have ho:=h.ord
 exact⟨by rw [Hp.f_trunc,if_pos (by omega)];exact h.em,by rw [Hp.f_trunc,if_pos (by omega)];exact h.ats,fun i hi=>by rw [Hp.f_trunc,if_pos (by omega)];exact h.rows i hi,by rw [Hp.f_trunc,if_pos (by omega)];exact h.lay,
  fun k hk=>by rw [Hp.f_trunc,if_pos (by omega)];exact h.tl k hk,h.ord⟩
theorem EH.bel {H':Hp} {n:Nat} (h:EH H' s d eb A L r0 t0 X st) (hb:Bel n H) (hn:t0+d≤n) (hf : ∀ b,b < n → b≠L → (∀ i,i < 29+s.length → b≠r0+2*i) → ¬ (t0≤b∧b < t0+d) → H'.f b=H.f b):Bel n H':=fun b x hbn hx y hy=>by
 by_cases e1:b=L
 · subst e1;rw [h.lay] at hx;cases hx;simp only [AB.vals,zco,zaq,Option.getD_some,List.mem_map,List.mem_range] at hy
   obtain⟨k,hk,rfl⟩:=hy
   exact .sl _ _ _ _ (by omega)
 · by_cases e2 : ∃ i,i < 29+s.length∧b=r0+2*i
   · obtain⟨i,hi,rfl⟩:=e2
     rw [h.rows i hi] at hx;cases hx;simp only [AB.vals,atR,zaq,Option.getD_some,List.mem_map,List.mem_range] at hy
     obtain⟨k,hk,rfl⟩:=hy
     exact .p _
   · by_cases e3:t0≤b∧b < t0+d
     · have:=h.tl (b - t0) (by omega)
       rw [show t0+(b - t0)=b by omega,hx] at this
       cases this
       cases hy
     · rw [hf b hbn e1 (fun i hi e=>e2 ⟨i,hi,e⟩) e3] at hx;exact hb b x hbn hx y hy
end EH
end Go.Proofs.YthaoifcebimkfaaGreatDoor

namespace Go.Proofs.YthaoifcebimkfaaGreatDoor
open Go Go.AL

section walks
variable {G:Globs}
end walks
end Go.Proofs.YthaoifcebimkfaaGreatDoor

namespace Go.Proofs.YthaoifcebimkfaaGreatDoor
open Go Go.AL

theorem zbm {α:Type} [Inhabited α] {P:α → Bool} {l:List α} {i:Nat} (h : ∀ j,j < i → P (nth l j)=true) (h1:P (nth l i)=true) : ∀ j,j < i+1 → P (nth l j)=true:=fun j hj=>by
 by_cases e:j=i
 · rw [e];exact h1
 · exact h j (by omega)
section walks
variable {G:Globs}
theorem zdp (k:Int) (hk:okI k) (H:Hp) (R:AV → Hp → Prop) (h:R (.p (bo (zbZ k))) H):ACall Tryz.prog G 96 [.p (i64 k)] H R:=by
 refine ACall.of_run (raw:=[]) Tryz.func96 rfl Tryz.ntmps96 (by simp) fun hbel => ?_
 refine .qt rfl ?_;simp (disch:=first|exact za|fail) only [go_sem,seval]
 rcases Classical.em (2≤k) with a | a
 · have hv:zbZ k=decide (k≤6):=by simp [zbZ,a]
   rw [hv] at h;refine .qt rfl ?_;simp (disch:=first|exact za|fail) only [go_sem,seval];refine .qr rfl Tryz.func96 (by rw [Tryz.results96]) ?_;simp (disch:=first|exact za|fail) only [go_sem,seval];exact h
 · have hv:zbZ k=false:=by simp [zbZ,a]
   rw [hv] at h;refine .qt rfl ?_;simp (disch:=first|exact za|fail) only [go_sem,seval];refine .qr rfl Tryz.func96 (by rw [Tryz.results96]) ?_;simp (disch:=first|exact za|fail) only [go_sem,seval];exact h
theorem yU (k:Int) (hk:okI k) (H:Hp) (R:AV → Hp → Prop) (h:R (.p (i64 (yt k))) H):ACall Tryz.prog G 97 [.p (i64 k)] H R:=by
 refine ACall.of_run (raw:=[]) Tryz.func97 rfl Tryz.ntmps97 (by simp) fun hbel => ?_
 refine .qt rfl ?_;simp (disch:=first|exact za|fail) only [go_sem,seval];unfold yt at h
 rcases Classical.em (k=3) with a | a
 · rw [if_pos a] at h;refine .qt rfl ?_;simp (disch:=first|exact za|fail) only [go_sem,seval];refine .qT rfl ?_;refine .qt rfl ?_;simp (disch:=first|exact za|fail) only [go_sem,seval];refine .qr rfl Tryz.func97 (by rw [Tryz.results97]) ?_;simp (disch:=first|exact za|fail) only [go_sem,seval];exact h
 rw [if_neg a] at h
 rcases Classical.em (k=6) with b | b
 · rw [if_pos b] at h;refine .qt rfl ?_;simp (disch:=first|exact za|fail) only [go_sem,seval];refine .qF rfl ?_;refine .skip ?_;refine .qt rfl ?_;simp (disch:=first|exact za|fail) only [go_sem,seval];refine .qT rfl ?_;refine .qt rfl ?_;simp (disch:=first|exact za|fail) only [go_sem,seval];refine .qr rfl Tryz.func97 (by rw [Tryz.results97]) ?_;simp (disch:=first|exact za|fail) only [go_sem,seval];exact h
 · rw [if_neg b] at h;refine .qt rfl ?_;simp (disch:=first|exact za|fail) only [go_sem,seval];refine .qF rfl ?_;refine .skip ?_;refine .qt rfl ?_;simp (disch:=first|exact za|fail) only [go_sem,seval];refine .qF rfl ?_;refine .skip ?_;refine .qt rfl ?_;simp (disch:=first|exact za|fail) only [go_sem,seval];refine .qr rfl Tryz.func97 (by rw [Tryz.results97]) ?_;simp (disch:=first|exact za|fail) only [go_sem,seval];exact h
theorem zen (c:Int) (hc:0≤c∧c < 4) (H:Hp) (R:AV → Hp → Prop) (h:R (.p (i64 (yC c.toNat))) H):ACall Tryz.prog G 141 [.p (i64 c)] H R:=by
 have:c=0 ∨ c=1 ∨ c=2 ∨ c=3:=by omega
 refine ACall.of_run (raw:=[]) Tryz.func141 rfl Tryz.ntmps141 (by simp) fun hbel => ?_
 refine .qt rfl ?_;simp (disch:=first|exact za|fail) only [go_sem,seval]
 rcases this with rfl | rfl | rfl | rfl
 · refine .qt rfl ?_;simp (disch:=first|exact za|fail) only [go_sem,seval];refine .qT rfl ?_;refine .qt rfl ?_;simp (disch:=first|exact za|fail) only [go_sem,seval];refine .qr rfl Tryz.func141 (by rw [Tryz.results141]) ?_;simp (disch:=first|exact za|fail) only [go_sem,seval];exact h
 · refine .qt rfl ?_;simp (disch:=first|exact za|fail) only [go_sem,seval];refine .qF rfl ?_;refine .skip ?_;refine .qt rfl ?_;simp (disch:=first|exact za|fail) only [go_sem,seval];refine .qr rfl Tryz.func141 (by rw [Tryz.results141]) ?_;simp (disch:=first|exact za|fail) only [go_sem,seval];exact h
 · refine .qt rfl ?_;simp (disch:=first|exact za|fail) only [go_sem,seval];refine .qT rfl ?_;refine .qt rfl ?_;simp (disch:=first|exact za|fail) only [go_sem,seval];refine .qr rfl Tryz.func141 (by rw [Tryz.results141]) ?_;simp (disch:=first|exact za|fail) only [go_sem,seval];exact h
 · refine .qt rfl ?_;simp (disch:=first|exact za|fail) only [go_sem,seval];refine .qF rfl ?_;refine .skip ?_;refine .qt rfl ?_;simp (disch:=first|exact za|fail) only [go_sem,seval];refine .qr rfl Tryz.func141 (by rw [Tryz.results141]) ?_;simp (disch:=first|exact za|fail) only [go_sem,seval];exact h
set_option maxHeartbeats 8000000 in
set_option maxRecDepth 20000 in
theorem zfF (l:List Cnd) (H:Hp) (R:AV → Hp → Prop) (h:R (.p (bo (vF l))) H):ACall Tryz.prog G 98 [.p (yH l)] H R:=by
 refine ACall.of_run (raw:=[]) Tryz.func98 rfl Tryz.ntmps98 (by simp) fun hbel => ?_
 refine .qt rfl ?_;simp (disch:=first|exact za|fail) only [go_sem,seval];refine .qt rfl ?_;simp (disch:=first|exact za|fail) only [go_sem,seval,zH]
 rcases Classical.em (l.length≤3) with hl | hl
 · refine .qF rfl ?_;refine .skip ?_;refine .qt rfl ?_;simp (disch:=first|exact za|fail) only [go_sem,seval]
   refine .q ?_;first | refine .loopF0 [0] (fun i=>[(3,.p (i64 i))]) (fun i => ∀ j,j < i → vC (nth l j)=true) (0) (l.length) (by omega) ?_ ?_ ?_ ?_ | refine .loopF [0] (fun i=>[(3,.p (i64 i))]) (fun _=>[]) (fun i => ∀ j,j < i → vC (nth l j)=true) (0) (l.length) (by omega) ?_ (by rfl) ?_ ?_ ?_
   · simp (disch:=first|exact za|fail) only [go_sem,seval]<;>(repeat' (first | rfl | refine And.intro ?_ ?_))
   rotate_left 1
   intro env T A hQ;simp (disch:=first|exact za|fail) only [go_sem,seval] at A
   rotate_left 1
   intro i env T hi0 hi A hQ ihA;simp (disch:=first|exact za|fail) only [go_sem,seval] at A
   rotate_left 1
   · exact fun j hj=>absurd hj (by omega)
   · have hv:vF l=true:=by
      simp only [vF,Bool.and_eq_true,decide_eq_true_eq,List.all_eq_true]
      refine⟨hl,fun x hx => ?_⟩
      obtain⟨j,hj,rfl⟩:=List.getElem_of_mem hx
      have:=hQ j hj
      rwa [zc hj] at this
     rw [hv] at h;refine .qt rfl ?_;simp (disch:=first|exact za|fail) only [go_sem,seval,A];refine .qF rfl ?_;refine .qt rfl ?_;simp (disch:=first|exact za|fail) only [go_sem,seval,A];refine .qr rfl Tryz.func98 (by rw [Tryz.results98]) (hx:=by simp (disch:=first|exact za|fail) only [go_sem,seval,A];rfl) ?_;simp (disch:=first|exact za|fail) only [go_sem,seval,A];exact h
   · have hno:vC (nth l i)=false → vF l=false:=fun e=>by
      simp only [vF,Bool.and_eq_false_iff]
      right
      rw [List.all_eq_false]
      exact⟨_,List.getElem_mem hi,by rw [←zc hi,e];decide⟩
     refine .qt rfl ?_;simp (disch:=first|exact za|fail) only [go_sem,seval,A];refine .qT rfl ?_
     generalize hc:nth l i=c at *
     rcases Classical.em (c.col < 0) with a | a
     · rw [hno (by simp [vC];omega)] at h;refine .q ?_;refine .open [] follows (by kernel_rfl) ?_;simp (disch:=first|exact za|fail) only [go_sem,seval,A,hc,zH];refine .qT rfl ?_;refine .qt rfl ?_;simp (disch:=first|exact za|fail) only [go_sem,seval,A];refine .qr rfl Tryz.func98 (by rw [Tryz.results98]) (hx:=by simp (disch:=first|exact za|fail) only [go_sem,seval,A];rfl) ?_;simp (disch:=first|exact za|fail) only [go_sem,seval,A];exact h
     rcases Classical.em (c.col > 3) with a2 | a2
     · rw [hno (by simp [vC];omega)] at h;refine .q ?_;refine .open [] follows (by kernel_rfl) ?_;simp (disch:=first|exact za|fail) only [go_sem,seval,A,hc,zH];refine .qT rfl ?_;refine .qt rfl ?_;simp (disch:=first|exact za|fail) only [go_sem,seval,A];refine .qr rfl Tryz.func98 (by rw [Tryz.results98]) (hx:=by simp (disch:=first|exact za|fail) only [go_sem,seval,A];rfl) ?_;simp (disch:=first|exact za|fail) only [go_sem,seval,A];exact h
     rcases Classical.em (c.lo < 0) with a3 | a3
     · rw [hno (by simp [vC];omega)] at h;refine .q ?_;refine .open [] follows (by kernel_rfl) ?_;simp (disch:=first|exact za|fail) only [go_sem,seval,A,hc,zH];refine .qT rfl ?_;refine .qt rfl ?_;simp (disch:=first|exact za|fail) only [go_sem,seval,A];refine .qr rfl Tryz.func98 (by rw [Tryz.results98]) (hx:=by simp (disch:=first|exact za|fail) only [go_sem,seval,A];rfl) ?_;simp (disch:=first|exact za|fail) only [go_sem,seval,A];exact h
     rcases Classical.em (c.hi < c.lo) with a4 | a4
     · rw [hno (by simp [vC];omega)] at h;refine .q ?_;refine .open [] follows (by kernel_rfl) ?_;simp (disch:=first|exact za|fail) only [go_sem,seval,A,hc,zH];refine .qT rfl ?_;refine .qt rfl ?_;simp (disch:=first|exact za|fail) only [go_sem,seval,A];refine .qr rfl Tryz.func98 (by rw [Tryz.results98]) (hx:=by simp (disch:=first|exact za|fail) only [go_sem,seval,A];rfl) ?_;simp (disch:=first|exact za|fail) only [go_sem,seval,A];exact h
     refine .q ?_;refine .open [] follows (by kernel_rfl) ?_;simp (disch:=first|exact za|fail) only [go_sem,seval,A,hc,zH];refine CallD.still (fun R h=>zen c.col (by omega) _ R h) ?_;simp (disch:=first|exact za|fail) only [go_sem,seval,A,hc,zH]
     rcases Classical.em (c.hi > yC c.col.toNat) with a5 | a5
     · rw [hno (by simp [vC];omega)] at h;refine .qT rfl ?_;refine .qt rfl ?_;simp (disch:=first|exact za|fail) only [go_sem,seval,A];refine .qr rfl Tryz.func98 (by rw [Tryz.results98]) (hx:=by simp (disch:=first|exact za|fail) only [go_sem,seval,A];rfl) ?_;simp (disch:=first|exact za|fail) only [go_sem,seval,A];exact h
     · have hw:vC (nth l i)=true:=by rw [hc];simp [vC];omega
       refine .qF rfl ?_;refine .skip ?_;refine .qt rfl ?_;simp (disch:=first|exact za|fail) only [go_sem,seval,A]
       first | (refine ihA _ _ ?_ (zbm hQ hw) ?_) | (refine .z rfl ?_;refine ihA _ _ ?_ (zbm hQ hw) ?_) | (refine .z rfl ?_;refine .z rfl ?_;refine ihA _ _ ?_ (zbm hQ hw) ?_) | (refine .z rfl ?_;refine .z rfl ?_;refine .z rfl ?_;refine ihA _ _ ?_ (zbm hQ hw) ?_)
       · simp (disch:=first|exact za|fail) only [go_sem,seval,A]<;>(repeat' (first | rfl | refine And.intro ?_ ?_))
       · first | exact .mk _ rfl | exact .mk [] rfl | (apply Later.mk;simp (disch:=first|exact za|fail) only [go_sem,seval,zl,A];exact rfl) | (apply Later.mk;simp (disch:=first|exact za|fail) only [go_sem,seval,zl,yv,List.append_assoc,A]<;>(try rfl))
 · have hv:vF l=false:=by simp [vF,hl]
   rw [hv] at h;refine .qT rfl ?_;refine .qt rfl ?_;simp (disch:=first|exact za|fail) only [go_sem,seval];refine .qr rfl Tryz.func98 (by rw [Tryz.results98]) ?_;simp (disch:=first|exact za|fail) only [go_sem,seval];exact h
set_option maxHeartbeats 16000000 in
set_option maxRecDepth 20000 in
theorem zgu (q:Qry) (hk:okI q.kind) (H:Hp) (R:AV → Hp → Prop) (h:R (.p (bo (vQ q))) H):ACall Tryz.prog G 43 [.p (qry q)] H R:=by
 refine ACall.of_run (raw:=[]) Tryz.func43 rfl Tryz.ntmps43 (by simp) fun hbel => ?_
 refine .qt rfl ?_;simp (disch:=first|exact za|fail) only [go_sem,seval]
 have hm:yt q.kind=0 ∨ 0 < yt q.kind:=by unfold yt;split;omega;split<;>omega
 rcases Classical.em (q.kind < 1) with a1 | a1
 · have hv:vQ q=false:=by simp [vQ];omega
   rw [hv] at h;refine .qt rfl ?_;simp (disch:=first|exact za|fail) only [go_sem,seval];refine .qT rfl ?_;refine .qt rfl ?_;simp (disch:=first|exact za|fail) only [go_sem,seval];refine .qr rfl Tryz.func43 (by rw [Tryz.results43]) ?_;simp (disch:=first|exact za|fail) only [go_sem,seval];exact h
 rcases Classical.em (q.kind > 7) with a2 | a2
 · have hv:vQ q=false:=by simp [vQ];omega
   rw [hv] at h;refine .qt rfl ?_;simp (disch:=first|exact za|fail) only [go_sem,seval];refine .qT rfl ?_;refine .qt rfl ?_;simp (disch:=first|exact za|fail) only [go_sem,seval];refine .qr rfl Tryz.func43 (by rw [Tryz.results43]) ?_;simp (disch:=first|exact za|fail) only [go_sem,seval];exact h
 rcases Classical.em (q.col < 0) with a3 | a3
 · have hv:vQ q=false:=by simp [vQ];omega
   rw [hv] at h;refine .qt rfl ?_;simp (disch:=first|exact za|fail) only [go_sem,seval];refine .qT rfl ?_;refine .qt rfl ?_;simp (disch:=first|exact za|fail) only [go_sem,seval];refine .qr rfl Tryz.func43 (by rw [Tryz.results43]) ?_;simp (disch:=first|exact za|fail) only [go_sem,seval];exact h
 rcases Classical.em (q.col > 3) with a4 | a4
 · have hv:vQ q=false:=by simp [vQ];omega
   rw [hv] at h;refine .qt rfl ?_;simp (disch:=first|exact za|fail) only [go_sem,seval];refine .qT rfl ?_;refine .qt rfl ?_;simp (disch:=first|exact za|fail) only [go_sem,seval];refine .qr rfl Tryz.func43 (by rw [Tryz.results43]) ?_;simp (disch:=first|exact za|fail) only [go_sem,seval];exact h
 have b1:(1≤q.kind∧q.kind≤7):=by omega
 have b2:(0≤q.col∧q.col < 4):=by omega
 refine .q ?_;refine .cut (fun env2 H2=>env2 1 = .ptr H.n 0∧H2=H.new (.cells [.p (i64 q.kind),.p (i64 q.col),.p (i64 q.k),.p (.sl false 1 (pl yH q.fl))])∧env2 33 = .p (bo (!(zbZ q.kind || decide (q.col=0))))) (fun ih => ?_) ?_
 · rcases Classical.em (q.col=0) with c1 | c1
   · have d1:(zbZ q.kind || decide (q.col=0))=true:=by simp [c1]
     rw [d1] at ih;refine .qt rfl ?_;simp (disch:=first|exact za|fail) only [go_sem,seval];refine ih _ _ ⟨?_,rfl,?_⟩<;>simp (disch:=first|exact za|fail) only [go_sem,seval]
   · have d1:(zbZ q.kind || decide (q.col=0))=zbZ q.kind:=by simp [c1]
     rw [d1] at ih;refine .qt rfl ?_;simp (disch:=first|exact za|fail) only [go_sem,seval];refine CallK.of (fun R h=>zdp q.kind hk _ R h) ?_;simp (disch:=first|exact za|fail) only [go_sem,seval];refine ih _ _ ⟨?_,rfl,?_⟩<;>simp (disch:=first|exact za|fail) only [go_sem,seval]
 rintro env H2 ⟨e1,rfl,e33⟩
 have hq0:(H.new (.cells [.p (i64 q.kind),.p (i64 q.col),.p (i64 q.k),.p (.sl false 1 (pl yH q.fl))])).f H.n=some (.cells [.p (i64 q.kind),.p (i64 q.col),.p (i64 q.k),.p (.sl false 1 (pl yH q.fl))]):=zk rfl
 cases hcc:(zbZ q.kind || decide (q.col=0)) with
 | false =>
  rw [hcc] at e33
  have hv:vQ q=false:=by unfold vQ;rw [hcc];simp
  rw [hv] at h;refine .q ?_;refine .ifT (by simp (disch:=first|exact za|fail) only [go_sem,seval,e33]) ?_;refine .qt rfl ?_;simp (disch:=first|exact za|fail) only [go_sem,seval];refine .qr rfl Tryz.func43 (by rw [Tryz.results43]) ?_;simp (disch:=first|exact za|fail) only [go_sem,seval];exact h
 | true =>
 rw [hcc] at e33
 have hv0:vQ q=(decide (min (yt q.kind) 1≤q.k∧q.k≤yt q.kind) && (decide (q.fl.length=if q.kind=7 then 2 else 1) && q.fl.all vF)):=by
  unfold vQ;rw [hcc];simp [b1,b2]
 refine .q ?_;refine .ifF (by simp (disch:=first|exact za|fail) only [go_sem,seval,e33]) ?_;refine .skip ?_
 rcases Classical.em (q.k < 0) with k1 | k1
 · have hv:vQ q=false:=by rw [hv0];simp;omega
   rw [hv] at h;refine .q ?_;refine .open [] follows (by kernel_rfl) ?_;simp (disch:=first|exact za|fail) only [go_sem,seval,e1,hq0];refine .qT rfl ?_;refine .qt rfl ?_;simp (disch:=first|exact za|fail) only [go_sem,seval];refine .qr rfl Tryz.func43 (by rw [Tryz.results43]) ?_;simp (disch:=first|exact za|fail) only [go_sem,seval];exact h
 rcases Classical.em (q.k > yt q.kind) with k2 | k2
 · have hv:vQ q=false:=by rw [hv0];simp;omega
   rw [hv] at h;refine .q ?_;refine .open [] follows (by kernel_rfl) ?_;simp (disch:=first|exact za|fail) only [go_sem,seval,e1,hq0];refine CallD.still (fun R h=>yU q.kind hk _ R h) ?_;simp (disch:=first|exact za|fail) only [go_sem,seval,e1,hq0];refine .qT rfl ?_;refine .qt rfl ?_;simp (disch:=first|exact za|fail) only [go_sem,seval];refine .qr rfl Tryz.func43 (by rw [Tryz.results43]) ?_;simp (disch:=first|exact za|fail) only [go_sem,seval];exact h
 rcases Classical.em (0 < yt q.kind∧q.k=0) with k3 | k3
 · have hv:vQ q=false:=by rw [hv0];simp;omega
   rw [hv] at h
   obtain⟨k3,k4⟩:=k3
   refine .q ?_;refine .open [] follows (by kernel_rfl) ?_;simp (disch:=first|exact za|fail) only [go_sem,seval,e1,hq0];refine CallD.still (fun R h=>yU q.kind hk _ R h) ?_;simp (disch:=first|exact za|fail) only [go_sem,seval,e1,hq0];refine CallD.still (fun R h=>yU q.kind hk _ R h) ?_;simp (disch:=first|exact za|fail) only [go_sem,seval,e1,hq0];refine .qT rfl ?_;refine .qt rfl ?_;simp (disch:=first|exact za|fail) only [go_sem,seval];refine .qr rfl Tryz.func43 (by rw [Tryz.results43]) ?_;simp (disch:=first|exact za|fail) only [go_sem,seval];exact h
 have hv1:vQ q=(decide (q.fl.length=if q.kind=7 then 2 else 1) && q.fl.all vF):=by
  have:decide (min (yt q.kind) 1≤q.k∧q.k≤yt q.kind)=true:=by simp;omega
  rw [hv0,this,Bool.true_and]
 refine .q ?_;refine .cut2 (fun env2 H2=>env2 1 = .ptr H.n 0∧H2=H.new (.cells [.p (i64 q.kind),.p (i64 q.col),.p (i64 q.k),.p (.sl false 1 (pl yH q.fl))])) (fun ih => ?_) ?_
 · rcases hm with hm | hm
   · refine .q ?_;refine .open [] follows (by kernel_rfl) ?_;simp (disch:=first|exact za|fail) only [go_sem,seval,e1,hq0];refine CallD.still (fun R h=>yU q.kind hk _ R h) ?_;simp (disch:=first|exact za|fail) only [go_sem,seval,e1,hq0];refine CallD.still (fun R h=>yU q.kind hk _ R h) ?_;simp (disch:=first|exact za|fail) only [go_sem,seval,e1,hq0];refine .qF rfl ?_;refine .skip ?_;refine ih _ _ ⟨?_,rfl⟩;simp (disch:=first|exact za|fail) only [go_sem,seval,e1]
   · have k4:q.k≠0:=by omega
     refine .q ?_;refine .open [] follows (by kernel_rfl) ?_;simp (disch:=first|exact za|fail) only [go_sem,seval,e1,hq0];refine CallD.still (fun R h=>yU q.kind hk _ R h) ?_;simp (disch:=first|exact za|fail) only [go_sem,seval,e1,hq0];refine CallD.still (fun R h=>yU q.kind hk _ R h) ?_;simp (disch:=first|exact za|fail) only [go_sem,seval,e1,hq0];refine .qF rfl ?_;refine .skip ?_;refine ih _ _ ⟨?_,rfl⟩;simp (disch:=first|exact za|fail) only [go_sem,seval,e1]
 rintro env H2 ⟨e1,rfl⟩
 generalize hFk:(if q.kind=7 then (2:Int) else 1)=F
 have hF:q.kind=7∧F=2 ∨ q.kind≠7∧F=1:=by rw [←hFk];split<;>simp_all
 refine .qt rfl ?_;simp (disch:=first|exact za|fail) only [go_sem,seval];refine .q ?_;refine .cut2 (fun env2 H2=>env2 1 = .ptr H.n 0∧env2 3 = .p (i64 F)∧H2=H.new (.cells [.p (i64 q.kind),.p (i64 q.col),.p (i64 q.k),.p (.sl false 1 (pl yH q.fl))])) (fun ih => ?_) ?_
 · rcases hF with ⟨f1,rfl⟩ | ⟨f1,rfl⟩
   · refine .qt rfl ?_;simp (disch:=first|exact za|fail) only [go_sem,seval,e1,hq0];refine .qT rfl ?_;refine .qt rfl ?_;simp (disch:=first|exact za|fail) only [go_sem,seval];refine ih _ _ ⟨?_,?_,rfl⟩<;>simp (disch:=first|exact za|fail) only [go_sem,seval,e1]
   · refine .qt rfl ?_;simp (disch:=first|exact za|fail) only [go_sem,seval,e1,hq0];refine .qF rfl ?_;refine .skip ?_;refine ih _ _ ⟨?_,?_,rfl⟩<;>simp (disch:=first|exact za|fail) only [go_sem,seval,e1]
 rintro env H2 ⟨e1,e3,rfl⟩
 rcases Classical.em (((q.fl.length:Nat):Int)=F) with k5 | k5
 · have hk2:q.fl.length=if q.kind=7 then 2 else 1:=by rcases hF with ⟨f1,f2⟩ | ⟨f1,f2⟩<;>simp only [f1,if_true,if_false]<;>omega
   have hv2:vQ q=q.fl.all vF:=by rw [hv1,hk2];simp
   rw [hv2] at h
   have hL2:q.fl.length≤2:=by omega
   rw [←k5] at e3;refine .qt rfl ?_;simp (disch:=first|exact za|fail) only [go_sem,seval,e1,e3,hq0];refine .qF rfl ?_;refine .skip ?_;refine .qt rfl ?_;simp (disch:=first|exact za|fail) only [go_sem,seval]
   refine .q ?_;first | refine .loopF0 [1,3] (fun i=>[(4,.p (i64 i))]) (fun i => ∀ j,j < i → vF (nth q.fl j)=true) (0) (q.fl.length) (by omega) ?_ ?_ ?_ ?_ | refine .loopF [1,3] (fun i=>[(4,.p (i64 i))]) (fun _=>[]) (fun i => ∀ j,j < i → vF (nth q.fl j)=true) (0) (q.fl.length) (by omega) ?_ (by rfl) ?_ ?_ ?_
   · simp (disch:=first|exact za|fail) only [go_sem,seval,e1,e3]<;>(repeat' (first | rfl | refine And.intro ?_ ?_))
   rotate_left 1
   intro env T A hQ;simp (disch:=first|exact za|fail) only [go_sem,seval,e1,e3] at A
   rotate_left 1
   intro i env T hi0 hi A hQ ihA;simp (disch:=first|exact za|fail) only [go_sem,seval,e1,e3] at A
   rotate_left 1
   · exact fun j hj=>absurd hj (by omega)
   · have ha:q.fl.all vF=true:=by
      rw [List.all_eq_true];intro x hx
      obtain⟨j,hj,rfl⟩:=List.getElem_of_mem hx
      have:=hQ j hj
      rwa [zc hj] at this
     rw [ha] at h;refine .qt rfl ?_;simp (disch:=first|exact za|fail) only [go_sem,seval,A];refine .qF rfl ?_;refine .qt rfl ?_;simp (disch:=first|exact za|fail) only [go_sem,seval,A];refine .qr rfl Tryz.func43 (by rw [Tryz.results43]) (hx:=by simp (disch:=first|exact za|fail) only [go_sem,seval,A];rfl) ?_;simp (disch:=first|exact za|fail) only [go_sem,seval,A];exact h
   · have hno:vF (nth q.fl i)=false → q.fl.all vF=false:=fun e=>by
      rw [List.all_eq_false]
      exact⟨_,List.getElem_mem hi,by rw [←zc hi,e];decide⟩
     refine .qt rfl ?_;simp (disch:=first|exact za|fail) only [go_sem,seval,A];refine .qT rfl ?_;refine .qt rfl ?_;simp (disch:=first|exact za|fail) only [go_sem,seval,A,hq0];refine CallK.of (fun R h=>zfF (nth q.fl i) _ R h) ?_;simp (disch:=first|exact za|fail) only [go_sem,seval]
     cases ha:vF (nth q.fl i) with
     | false =>
      rw [hno ha] at h;refine .q ?_;refine .ifT (by simp (disch:=first|exact za|fail) only [go_sem,seval,ha]) ?_;refine .qt rfl ?_;simp (disch:=first|exact za|fail) only [go_sem,seval,A];refine .qr rfl Tryz.func43 (by rw [Tryz.results43]) (hx:=by simp (disch:=first|exact za|fail) only [go_sem,seval,A];rfl) ?_;simp (disch:=first|exact za|fail) only [go_sem,seval,A];exact h
     | true =>
      refine .q ?_;refine .ifF (by simp (disch:=first|exact za|fail) only [go_sem,seval,ha]) ?_;refine .skip ?_;refine .qt rfl ?_;simp (disch:=first|exact za|fail) only [go_sem,seval,A]
      first | (refine ihA _ _ ?_ (zbm hQ ha) ?_) | (refine .z rfl ?_;refine ihA _ _ ?_ (zbm hQ ha) ?_) | (refine .z rfl ?_;refine .z rfl ?_;refine ihA _ _ ?_ (zbm hQ ha) ?_) | (refine .z rfl ?_;refine .z rfl ?_;refine .z rfl ?_;refine ihA _ _ ?_ (zbm hQ ha) ?_)
      · simp (disch:=first|exact za|fail) only [go_sem,seval,A,e1,e3]<;>(repeat' (first | rfl | refine And.intro ?_ ?_))
      · first | exact .mk _ rfl | exact .mk [] rfl | (apply Later.mk;simp (disch:=first|exact za|fail) only [go_sem,seval,zl,A,e1,e3];exact rfl) | (apply Later.mk;simp (disch:=first|exact za|fail) only [go_sem,seval,zl,yv,List.append_assoc,A,e1,e3]<;>(try rfl))
 · have hv:vQ q=false:=by
    rw [hv1,Bool.and_eq_false_iff]
    left
    rcases hF with ⟨f1,f2⟩ | ⟨f1,f2⟩<;>simp only [f1,if_true,if_false,decide_eq_false_iff_not]<;>omega
   rw [hv] at h;refine .qt rfl ?_;simp (disch:=first|exact za|fail) only [go_sem,seval,e1,e3,hq0];refine .qT rfl ?_;refine .qt rfl ?_;simp (disch:=first|exact za|fail) only [go_sem,seval];refine .qr rfl Tryz.func43 (by rw [Tryz.results43]) ?_;simp (disch:=first|exact za|fail) only [go_sem,seval];exact h
end walks
end Go.Proofs.YthaoifcebimkfaaGreatDoor

namespace Go.Proofs.YthaoifcebimkfaaGreatDoor
open Go Go.AL

def zgO (c v:Int) (x:Cnd):Bool:=decide (x.col=c) && (decide (v < x.lo) || decide (x.hi < v))
def zls (l:List Cnd) (c v:Int):Bool := !(l.any (zgO c v)) && (decide (0≤v) && decide (v≤yC c.toNat))
def lrg (l:List Cnd) (c:Int):Nat → Int
 | 0 => -1
 | n+1=>if zls l c n then n else lrg l c n
def zf6 (l:List Cnd) (c:Int):Int:=lrg l c ((yC c.toNat).toNat+1)
def zoa (l:List Cnd):Bool:=four.all fun c=>decide (0≤zf6 l c)
theorem zBI (l:List Cnd) (c:Int) : ∀ n,-1≤lrg l c n∧lrg l c n < n
 | 0=>by unfold lrg;omega
 | n+1=>by
  have:=zBI l c n
  unfold lrg;split<;>omega
theorem zio (c:Nat):yC c=15 ∨ yC c=255:=by unfold yC;split<;>simp
def pw (n m i:Nat):Nat:=n*m ^ i
section walks
variable {G:Globs}
set_option maxHeartbeats 8000000 in
set_option maxRecDepth 20000 in
theorem zey (l:List Cnd) (hl:l.length≤3) (c:Int) (hc:0≤c∧c < 4) (v:Int) (H:Hp) (R:AV → Hp → Prop) (h:R (.p (bo (zls l c v))) H):ACall Tryz.prog G 142 [.p (yH l),.p (i64 c),.p (i64 v)] H R:=by
 refine ACall.of_run (raw:=[]) Tryz.func142 rfl Tryz.ntmps142 (by simp) fun hbel => ?_
 refine .qt rfl ?_;simp (disch:=first|exact za|fail) only [go_sem,seval];refine .qt rfl ?_;simp (disch:=first|exact za|fail) only [go_sem,seval]
 refine .q ?_;first | refine .loopF0 [0,1,2] (fun i=>[(7,.p (i64 i))]) (fun i => ∀ j,j < i → zgO c v (nth l j)=false) (0) (l.length) (by omega) ?_ ?_ ?_ ?_ | refine .loopF [0,1,2] (fun i=>[(7,.p (i64 i))]) (fun _=>[]) (fun i => ∀ j,j < i → zgO c v (nth l j)=false) (0) (l.length) (by omega) ?_ (by rfl) ?_ ?_ ?_
 · simp (disch:=first|exact za|fail) only [go_sem,seval]<;>(repeat' (first | rfl | refine And.intro ?_ ?_))
 rotate_left 1
 intro env T A hQ;simp (disch:=first|exact za|fail) only [go_sem,seval] at A
 rotate_left 1
 intro i env T hi0 hi A hQ ihA;simp (disch:=first|exact za|fail) only [go_sem,seval] at A
 rotate_left 1
 · exact fun j hj=>absurd hj (by omega)
 · have hv:zls l c v=(decide (0≤v) && decide (v≤yC c.toNat)):=by
    have:l.any (zgO c v)=false:=by
     rw [List.any_eq_false];intro x hx
     obtain⟨j,hj,rfl⟩:=List.getElem_of_mem hx
     have:=hQ j hj
     rw [zc hj] at this;rw [this];decide
    unfold zls;rw [this];rfl
   rw [hv] at h;refine .qt rfl ?_;simp (disch:=first|exact za|fail) only [go_sem,seval,A,zH];refine .qF rfl ?_
   rcases Classical.em (0≤v) with a | a
   · have e:decide (0≤v)=true:=by simp [a]
     rw [e,Bool.true_and] at h;refine .qt rfl ?_;simp (disch:=first|exact za|fail) only [go_sem,seval,A];refine CallK.of (fun R h=>zen c hc _ R h) ?_;simp (disch:=first|exact za|fail) only [go_sem,seval,A];refine .qr rfl Tryz.func142 (by rw [Tryz.results142]) (hx:=by simp (disch:=first|exact za|fail) only [go_sem,seval,A];rfl) ?_;simp (disch:=first|exact za|fail) only [go_sem,seval,A];exact h
   · have e:decide (0≤v)=false:=by simp [a]
     rw [e,Bool.false_and] at h;refine .qt rfl ?_;simp (disch:=first|exact za|fail) only [go_sem,seval,A];refine .qr rfl Tryz.func142 (by rw [Tryz.results142]) (hx:=by simp (disch:=first|exact za|fail) only [go_sem,seval,A];rfl) ?_;simp (disch:=first|exact za|fail) only [go_sem,seval,A];exact h
 · have hno:zgO c v (nth l i)=true → zls l c v=false:=fun e=>by
    have:l.any (zgO c v)=true:=List.any_eq_true.2 ⟨_,List.getElem_mem hi,by rw [←zc hi];exact e⟩
    unfold zls;rw [this];rfl
   refine .qt rfl ?_;simp (disch:=first|exact za|fail) only [go_sem,seval,A,zH];refine .qT rfl ?_
   generalize hx:nth l i=x at *
   rcases Classical.em (x.col=c) with b1 | b1
   · rcases Classical.em (v < x.lo) with b2 | b2
     · rw [hno (by simp [zgO,b1,b2])] at h;refine .qt rfl ?_;simp (disch:=first|exact za|fail) only [go_sem,seval,A,zH,hx];refine .qT rfl ?_;refine .qt rfl ?_;simp (disch:=first|exact za|fail) only [go_sem,seval,A];refine .qr rfl Tryz.func142 (by rw [Tryz.results142]) (hx:=by simp (disch:=first|exact za|fail) only [go_sem,seval,A];rfl) ?_;simp (disch:=first|exact za|fail) only [go_sem,seval,A];exact h
     rcases Classical.em (x.hi < v) with b3 | b3
     · rw [hno (by simp [zgO,b1,b3])] at h;refine .qt rfl ?_;simp (disch:=first|exact za|fail) only [go_sem,seval,A,zH,hx];refine .qT rfl ?_;refine .qt rfl ?_;simp (disch:=first|exact za|fail) only [go_sem,seval,A];refine .qr rfl Tryz.func142 (by rw [Tryz.results142]) (hx:=by simp (disch:=first|exact za|fail) only [go_sem,seval,A];rfl) ?_;simp (disch:=first|exact za|fail) only [go_sem,seval,A];exact h
     · have hw:zgO c v (nth l i)=false:=by rw [hx];simp [zgO,b2,b3]
       refine .qt rfl ?_;simp (disch:=first|exact za|fail) only [go_sem,seval,A,zH,hx];refine .qF rfl ?_;refine .skip ?_;refine .qt rfl ?_;simp (disch:=first|exact za|fail) only [go_sem,seval,A]
       first | (refine ihA _ _ ?_ (zJ hQ hw) ?_) | (refine .z rfl ?_;refine ihA _ _ ?_ (zJ hQ hw) ?_) | (refine .z rfl ?_;refine .z rfl ?_;refine ihA _ _ ?_ (zJ hQ hw) ?_) | (refine .z rfl ?_;refine .z rfl ?_;refine .z rfl ?_;refine ihA _ _ ?_ (zJ hQ hw) ?_)
       · simp (disch:=first|exact za|fail) only [go_sem,seval,A]<;>(repeat' (first | rfl | refine And.intro ?_ ?_))
       · first | exact .mk _ rfl | exact .mk [] rfl | (apply Later.mk;simp (disch:=first|exact za|fail) only [go_sem,seval,zl,A];exact rfl) | (apply Later.mk;simp (disch:=first|exact za|fail) only [go_sem,seval,zl,yv,List.append_assoc,A]<;>(try rfl))
   · have hw:zgO c v (nth l i)=false:=by rw [hx];simp [zgO,b1]
     refine .qt rfl ?_;simp (disch:=first|exact za|fail) only [go_sem,seval,A,zH,hx];refine .qF rfl ?_;refine .skip ?_;refine .qt rfl ?_;simp (disch:=first|exact za|fail) only [go_sem,seval,A]
     first | (refine ihA _ _ ?_ (zJ hQ hw) ?_) | (refine .z rfl ?_;refine ihA _ _ ?_ (zJ hQ hw) ?_) | (refine .z rfl ?_;refine .z rfl ?_;refine ihA _ _ ?_ (zJ hQ hw) ?_) | (refine .z rfl ?_;refine .z rfl ?_;refine .z rfl ?_;refine ihA _ _ ?_ (zJ hQ hw) ?_)
     · simp (disch:=first|exact za|fail) only [go_sem,seval,A]<;>(repeat' (first | rfl | refine And.intro ?_ ?_))
     · first | exact .mk _ rfl | exact .mk [] rfl | (apply Later.mk;simp (disch:=first|exact za|fail) only [go_sem,seval,zl,A];exact rfl) | (apply Later.mk;simp (disch:=first|exact za|fail) only [go_sem,seval,zl,yv,List.append_assoc,A]<;>(try rfl))
set_option maxHeartbeats 8000000 in
theorem zbH (l:List Cnd) (hl:l.length≤3) (c:Int) (hc:0≤c∧c < 4) (H:Hp) (R:AV → Hp → Prop) (h:R (.p (i64 (zf6 l c))) H):ACall Tryz.prog G 103 [.p (yH l),.p (i64 c)] H R:=by
 refine ACall.of_run (raw:=[]) Tryz.func103 rfl Tryz.ntmps103 (by simp) fun hbel => ?_
 have ht:=zio c.toNat
 obtain⟨n,hn⟩ : ∃ n:Nat,yC c.toNat=n:=⟨(yC c.toNat).toNat,by omega⟩
 have hL:zf6 l c=lrg l c (n+1):=by unfold zf6;rw [hn];rfl
 rw [hL] at h;refine .qt rfl ?_;simp (disch:=first|exact za|fail) only [go_sem,seval];refine .qt rfl ?_;simp (disch:=first|exact za|fail) only [go_sem,seval];refine CallK.of (fun R h=>zen c hc _ R h) ?_;simp (disch:=first|exact za|fail) only [go_sem,seval,hn]
 refine .q ?_;first | refine .loopF0 [0,1] (fun i=>[(5,.p (i64 ((n:Int) - i)))]) (fun i=>lrg l c (n+1)=lrg l c (n+1 - i)) (0) (n+1) (by omega) ?_ ?_ ?_ ?_ | refine .loopF [0,1] (fun i=>[(5,.p (i64 ((n:Int) - i)))]) (fun _=>[]) (fun i=>lrg l c (n+1)=lrg l c (n+1 - i)) (0) (n+1) (by omega) ?_ (by rfl) ?_ ?_ ?_
 · simp (disch:=first|exact za|fail) only [go_sem,seval]<;>(repeat' (first | rfl | refine And.intro ?_ ?_))
 rotate_left 1
 intro env T A hQ;simp (disch:=first|exact za|fail) only [go_sem,seval] at A
 rotate_left 1
 intro i env T hi0 hi A hQ ihA;simp (disch:=first|exact za|fail) only [go_sem,seval] at A
 rotate_left 1
 · rfl
 · rw [hQ,Nat.sub_self] at h
   have e:((n:Int) - ((n:Int)+1)) = -1:=by omega
   rw [e] at A;refine .qt rfl ?_;simp (disch:=first|exact za|fail) only [go_sem,seval,A];refine .qF rfl ?_;refine .qt rfl ?_;simp (disch:=first|exact za|fail) only [go_sem,seval,A];refine .qr rfl Tryz.func103 (by rw [Tryz.results103]) (hx:=by simp (disch:=first|exact za|fail) only [go_sem,seval,A];rfl) ?_;simp (disch:=first|exact za|fail) only [go_sem,seval,A];exact h
 · obtain⟨v,hv⟩ : ∃ v:Nat,v=n - i:=⟨_,rfl⟩
   have e:((n:Int) - (i:Int))=(v:Int):=by omega
   have e2:((n:Int) - ((i+1:Nat):Int))=(v:Int) - 1:=by omega
   have e3:n+1 - i=v+1:=by omega
   have e4:n+1 - (i+1)=v:=by omega
   rw [e3] at hQ;rw [hQ] at h;rw [e] at A;rw [e2,e4] at ihA;refine .qt rfl ?_;simp (disch:=first|exact za|fail) only [go_sem,seval,A];refine .qT rfl ?_;refine .qt rfl ?_;simp (disch:=first|exact za|fail) only [go_sem,seval,A];refine CallK.of (fun R h=>zey l hl c hc v _ R h) ?_;simp (disch:=first|exact za|fail) only [go_sem,seval,A]
   have hr:lrg l c (v+1)=if zls l c v then (v:Int) else lrg l c v:=rfl
   rw [hr] at h hQ
   cases hp:zls l c v with
   | true =>
    rw [hp,if_pos rfl] at h;refine .q ?_;refine .ifT (by simp (disch:=first|exact za|fail) only [go_sem,seval,hp]) ?_;refine .qt rfl ?_;simp (disch:=first|exact za|fail) only [go_sem,seval,A];refine .qr rfl Tryz.func103 (by rw [Tryz.results103]) (hx:=by simp (disch:=first|exact za|fail) only [go_sem,seval,A];rfl) ?_;simp (disch:=first|exact za|fail) only [go_sem,seval,A];exact h
   | false =>
    rw [hp,if_neg (by decide)] at h hQ;refine .q ?_;refine .ifF (by simp (disch:=first|exact za|fail) only [go_sem,seval,hp]) ?_;refine .skip ?_;refine .qt rfl ?_;simp (disch:=first|exact za|fail) only [go_sem,seval,A]
    first | (refine ihA _ _ ?_ hQ ?_) | (refine .z rfl ?_;refine ihA _ _ ?_ hQ ?_) | (refine .z rfl ?_;refine .z rfl ?_;refine ihA _ _ ?_ hQ ?_) | (refine .z rfl ?_;refine .z rfl ?_;refine .z rfl ?_;refine ihA _ _ ?_ hQ ?_)
    · simp (disch:=first|exact za|fail) only [go_sem,seval,A]<;>(repeat' (first | rfl | refine And.intro ?_ ?_))
    · first | exact .mk _ rfl | exact .mk [] rfl | (apply Later.mk;simp (disch:=first|exact za|fail) only [go_sem,seval,zl,A];exact rfl) | (apply Later.mk;simp (disch:=first|exact za|fail) only [go_sem,seval,zl,yv,List.append_assoc,A]<;>(try rfl))
set_option maxHeartbeats 8000000 in
theorem zeo (l:List Cnd) (hl:l.length≤3) (H:Hp) (R:AV → Hp → Prop) (h:R (.p (bo (zoa l))) H):ACall Tryz.prog G 101 [.p (yH l)] H R:=by
 refine ACall.of_run (raw:=[]) Tryz.func101 rfl Tryz.ntmps101 (by simp) fun hbel => ?_
 refine .qt rfl ?_;simp (disch:=first|exact za|fail) only [go_sem,seval];refine .qt rfl ?_;simp (disch:=first|exact za|fail) only [go_sem,seval]
 refine .q ?_;first | refine .loopF0 [0] (fun i=>[(3,.p (i64 i))]) (fun i => ∀ j:Nat,j < i → 0≤zf6 l j) (0) (4) (by omega) ?_ ?_ ?_ ?_ | refine .loopF [0] (fun i=>[(3,.p (i64 i))]) (fun _=>[]) (fun i => ∀ j:Nat,j < i → 0≤zf6 l j) (0) (4) (by omega) ?_ (by rfl) ?_ ?_ ?_
 · simp (disch:=first|exact za|fail) only [go_sem,seval]<;>(repeat' (first | rfl | refine And.intro ?_ ?_))
 rotate_left 1
 intro env T A hQ;simp (disch:=first|exact za|fail) only [go_sem,seval] at A
 rotate_left 1
 intro i env T hi0 hi A hQ ihA;simp (disch:=first|exact za|fail) only [go_sem,seval] at A
 rotate_left 1
 · exact fun j hj=>absurd hj (by omega)
 · have hv:zoa l=true:=by
    have h0:=hQ 0 (by omega);have h1:=hQ 1 (by omega);have h2:=hQ 2 (by omega);have h3:=hQ 3 (by omega);have e0:0≤zf6 l 0:=h0;have e1:0≤zf6 l 1:=h1;have e2:0≤zf6 l 2:=h2;have e3:0≤zf6 l 3:=h3;simp [zoa,four,e0,e1,e2,e3]
   rw [hv] at h;refine .qt rfl ?_;simp (disch:=first|exact za|fail) only [go_sem,seval,A];refine .qF rfl ?_;refine .qt rfl ?_;simp (disch:=first|exact za|fail) only [go_sem,seval,A];refine .qr rfl Tryz.func101 (by rw [Tryz.results101]) (hx:=by simp (disch:=first|exact za|fail) only [go_sem,seval,A];rfl) ?_;simp (disch:=first|exact za|fail) only [go_sem,seval,A];exact h
 · refine .qt rfl ?_;simp (disch:=first|exact za|fail) only [go_sem,seval,A];refine .qT rfl ?_;refine .qt rfl ?_;simp (disch:=first|exact za|fail) only [go_sem,seval,A];refine CallK.of (fun R h=>zbH l hl (i:Int) (by omega) _ R h) ?_;simp (disch:=first|exact za|fail) only [go_sem,seval,A]
   rcases Classical.em (zf6 l i < 0) with a | a
   · have hv:zoa l=false:=by
      unfold zoa;rw [List.all_eq_false]
      refine⟨(i:Int),?_,by simp;omega⟩
      have:i=0 ∨ i=1 ∨ i=2 ∨ i=3:=by omega
      rcases this with rfl | rfl | rfl | rfl<;>simp [four]
     rw [hv] at h;refine .qT rfl ?_;refine .qt rfl ?_;simp (disch:=first|exact za|fail) only [go_sem,seval,A];refine .qr rfl Tryz.func101 (by rw [Tryz.results101]) (hx:=by simp (disch:=first|exact za|fail) only [go_sem,seval,A];rfl) ?_;simp (disch:=first|exact za|fail) only [go_sem,seval,A];exact h
   · refine .qF rfl ?_;refine .skip ?_;refine .qt rfl ?_;simp (disch:=first|exact za|fail) only [go_sem,seval,A]
     first | (refine ihA _ _ ?_ (fun j hj=>by by_cases e:j=i;(subst e;omega);exact hQ j (by omega)) ?_) | (refine .z rfl ?_;refine ihA _ _ ?_ (fun j hj=>by by_cases e:j=i;(subst e;omega);exact hQ j (by omega)) ?_) | (refine .z rfl ?_;refine .z rfl ?_;refine ihA _ _ ?_ (fun j hj=>by by_cases e:j=i;(subst e;omega);exact hQ j (by omega)) ?_) | (refine .z rfl ?_;refine .z rfl ?_;refine .z rfl ?_;refine ihA _ _ ?_ (fun j hj=>by by_cases e:j=i;(subst e;omega);exact hQ j (by omega)) ?_)
     · simp (disch:=first|exact za|fail) only [go_sem,seval,A]<;>(repeat' (first | rfl | refine And.intro ?_ ?_))
     · first | exact .mk _ rfl | exact .mk [] rfl | (apply Later.mk;simp (disch:=first|exact za|fail) only [go_sem,seval,zl,A];exact rfl) | (apply Later.mk;simp (disch:=first|exact za|fail) only [go_sem,seval,zl,yv,List.append_assoc,A]<;>(try rfl))
theorem ziq (c:Int) (hc:0≤c∧c < 4) (H:Hp) (R:AV → Hp → Prop) (h:R (.p (i64 (if c=1 ∨ c=3 then 8 else 4))) H):ACall Tryz.prog G 99 [.p (i64 c)] H R:=by
 have:c=0 ∨ c=1 ∨ c=2 ∨ c=3:=by omega
 refine ACall.of_run (raw:=[]) Tryz.func99 rfl Tryz.ntmps99 (by simp) fun hbel => ?_
 refine .qt rfl ?_;simp (disch:=first|exact za|fail) only [go_sem,seval];refine .qt rfl ?_;simp (disch:=first|exact za|fail) only [go_sem,seval]
 rcases this with rfl | rfl | rfl | rfl
 · refine .qt rfl ?_;simp (disch:=first|exact za|fail) only [go_sem,seval];refine .qT rfl ?_;refine .qt rfl ?_;simp (disch:=first|exact za|fail) only [go_sem,seval];refine .qr rfl Tryz.func99 (by rw [Tryz.results99]) ?_;simp (disch:=first|exact za|fail) only [go_sem,seval];exact h
 · refine .qt rfl ?_;simp (disch:=first|exact za|fail) only [go_sem,seval];refine .qF rfl ?_;refine .qt rfl ?_;simp (disch:=first|exact za|fail) only [go_sem,seval];refine .qT rfl ?_;refine .qt rfl ?_;simp (disch:=first|exact za|fail) only [go_sem,seval];refine .qr rfl Tryz.func99 (by rw [Tryz.results99]) ?_;simp (disch:=first|exact za|fail) only [go_sem,seval];exact h
 · refine .qt rfl ?_;simp (disch:=first|exact za|fail) only [go_sem,seval];refine .qF rfl ?_;refine .qt rfl ?_;simp (disch:=first|exact za|fail) only [go_sem,seval];refine .qF rfl ?_;refine .qt rfl ?_;simp (disch:=first|exact za|fail) only [go_sem,seval];refine .qT rfl ?_;refine .qt rfl ?_;simp (disch:=first|exact za|fail) only [go_sem,seval];refine .qr rfl Tryz.func99 (by rw [Tryz.results99]) ?_;simp (disch:=first|exact za|fail) only [go_sem,seval];exact h
 · refine .qt rfl ?_;simp (disch:=first|exact za|fail) only [go_sem,seval];refine .qF rfl ?_;refine .qt rfl ?_;simp (disch:=first|exact za|fail) only [go_sem,seval];refine .qF rfl ?_;refine .qt rfl ?_;simp (disch:=first|exact za|fail) only [go_sem,seval];refine .qF rfl ?_;refine .qt rfl ?_;simp (disch:=first|exact za|fail) only [go_sem,seval];refine .qT rfl ?_;refine .qt rfl ?_;simp (disch:=first|exact za|fail) only [go_sem,seval];refine .qr rfl Tryz.func99 (by rw [Tryz.results99]) ?_;simp (disch:=first|exact za|fail) only [go_sem,seval];exact h
set_option maxHeartbeats 8000000 in
theorem zrC (x y z:Nat) (hz:x*y=z) (hx:z < 17596287801000001) (hx1:x < 17596287801000001) (hy:y < 256) (hxy:x=0 ∨ y≤4611686018427387903 / x) (H:Hp) (R:AV → Hp → Prop) (h:R (.tup [.p (i64 z),.p (bo true)]) H):ACall Tryz.prog G 143 [.p (i64 x),.p (i64 y)] H R:=by
 refine ACall.of_run (raw:=[]) Tryz.func143 rfl Tryz.ntmps143 (by simp) fun hbel => ?_
 have hzi:(x:Int)*(y:Int)=(z:Int):=by rw [←hz];exact (Int.natCast_mul ..).symm
 refine .qt rfl ?_;simp (disch:=first|exact za|fail) only [go_sem,seval]
 rcases Classical.em (x=0) with a | a
 · refine .qt rfl ?_;simp (disch:=first|exact za|fail) only [go_sem,seval];refine .qF rfl ?_;refine .skip ?_;refine .qt rfl ?_;simp (disch:=first|exact za|fail) only [go_sem,seval,hzi];refine .qr rfl Tryz.func143 (by rw [Tryz.results143]) ?_;simp (disch:=first|exact za|fail) only [go_sem,seval];exact h
 · have hq:(4611686018427387903:Int) / (x:Int)=((4611686018427387903 / x:Nat):Int):=(Int.natCast_ediv 4611686018427387903 x).symm;have hy2:y≤4611686018427387903 / x:=hxy.resolve_left a;refine .qt rfl ?_;simp (disch:=first|exact za|fail) only [go_sem,seval,hq]
   generalize 4611686018427387903 / x=k at *
   refine .qF rfl ?_;refine .skip ?_;refine .qt rfl ?_;simp (disch:=first|exact za|fail) only [go_sem,seval,hzi];refine .qr rfl Tryz.func143 (by rw [Tryz.results143]) ?_;simp (disch:=first|exact za|fail) only [go_sem,seval];exact h
set_option maxHeartbeats 8000000 in
theorem zd2 (n m k:Nat) (hn:n≤64) (hm:m≤255) (hk:k≤6) (H:Hp) (R:AV → Hp → Prop) (h:R (.tup [.p (i64 (pw n m k:Nat)),.p (bo true)]) H):ACall Tryz.prog G 102 [.p (i64 n),.p (i64 m),.p (i64 k)] H R:=by
 refine ACall.of_run (raw:=[]) Tryz.func102 rfl Tryz.ntmps102 (by simp) fun hbel => ?_
 have h00:pw n m 0=n:=by simp [pw]
 refine .qt rfl ?_;simp (disch:=first|exact za|fail) only [go_sem,seval];refine .qt rfl ?_;simp (disch:=first|exact za|fail) only [go_sem,seval];refine .qt rfl ?_;simp (disch:=first|exact za|fail) only [go_sem,seval]
 refine .q ?_;first | refine .loopF0 [1,2] (fun i=>[(8,.p (i64 (pw n m i:Nat))),(9,.p (bo true)),(10,.p (i64 i))]) (fun i=>True) (0) (k) (by omega) ?_ ?_ ?_ ?_ | refine .loopF [1,2] (fun i=>[(8,.p (i64 (pw n m i:Nat))),(9,.p (bo true)),(10,.p (i64 i))]) (fun _=>[]) (fun i=>True) (0) (k) (by omega) ?_ (by rfl) ?_ ?_ ?_
 · simp (disch:=first|exact za|fail) only [go_sem,seval,h00]<;>(repeat' (first | rfl | refine And.intro ?_ ?_))
 · exact trivial
 intro env T E hQ;simp (disch:=first|exact za|fail) only [go_sem,seval,h00] at E
 rotate_left 1
 intro i env T hi0 hi E hQ ihE;simp (disch:=first|exact za|fail) only [go_sem,seval,h00] at E
 rotate_left 1
 · refine .qt rfl ?_;simp (disch:=first|exact za|fail) only [go_sem,seval,E];refine .qF rfl ?_;refine .qt rfl ?_;simp (disch:=first|exact za|fail) only [go_sem,seval,E];refine .qr rfl Tryz.func102 (by rw [Tryz.results102]) (hx:=by simp (disch:=first|exact za|fail) only [go_sem,seval,E];rfl) ?_;simp (disch:=first|exact za|fail) only [go_sem,seval,E];exact h
 · have h1:=zem hm (show i≤6 by omega);have h2:=zem hm (show i+1≤6 by omega);have h1':pw n m i≤64*274941996890625:=Nat.mul_le_mul hn h1;have h2':pw n m (i+1)≤64*274941996890625:=Nat.mul_le_mul hn h2
   have h3:pw n m i*m=pw n m (i+1):=by unfold pw;rw [Nat.pow_succ,Nat.mul_assoc]
   have h4:pw n m i=0 ∨ m≤4611686018427387903 / (pw n m i):=by
    rcases Nat.eq_zero_or_pos (pw n m i) with e | e
    · exact .inl e
    · right
      rw [Nat.le_div_iff_mul_le e,Nat.mul_comm,h3];omega
   clear h1 h2
   refine .qt rfl ?_;simp (disch:=first|exact za|fail) only [go_sem,seval,E];refine .qT rfl ?_
   generalize pw n m (i+1)=z at *
   generalize pw n m i=x at *
   refine .qt rfl ?_;simp (disch:=first|exact za|fail) only [go_sem,seval,E];refine CallK.of (fun R h=>zrC x m z h3 (by omega) (by omega) (by omega) h4 _ R h) ?_;simp (disch:=first|exact za|fail) only [go_sem,seval,E];refine .qt rfl ?_;simp (disch:=first|exact za|fail) only [go_sem,seval,E];refine .qt rfl ?_;simp (disch:=first|exact za|fail) only [go_sem,seval,E];refine .qt rfl ?_;simp (disch:=first|exact za|fail) only [go_sem,seval,E]
   first | (refine ihE _ _ ?_ trivial ?_) | (refine .z rfl ?_;refine ihE _ _ ?_ trivial ?_) | (refine .z rfl ?_;refine .z rfl ?_;refine ihE _ _ ?_ trivial ?_) | (refine .z rfl ?_;refine .z rfl ?_;refine .z rfl ?_;refine ihE _ _ ?_ trivial ?_)
   · simp (disch:=first|exact za|fail) only [go_sem,seval,E]<;>(repeat' (first | rfl | refine And.intro ?_ ?_))
   · first | exact .mk _ rfl | exact .mk [] rfl | (apply Later.mk;simp (disch:=first|exact za|fail) only [go_sem,seval,zl,E];exact rfl) | (apply Later.mk;simp (disch:=first|exact za|fail) only [go_sem,seval,zl,yv,List.append_assoc,E]<;>(try rfl))
end walks
end Go.Proofs.YthaoifcebimkfaaGreatDoor

namespace Go.Proofs.YthaoifcebimkfaaGreatDoor
open Go Go.AL

section walks
variable {G:Globs}
set_option maxHeartbeats 8000000 in
set_option maxRecDepth 20000 in
theorem zrD (n:Nat) (l:List Cnd) (hl:l.length≤3) (c:Int) (hc:0≤c∧c < 4) (H:Hp) (R:AV → Hp → Prop) (h : ∀ xs:List Int,xs.length=16 → R (.sl H.n 0 1 (pl i64 xs)) (H.new (.tail 0))):ACall Tryz.prog G 100 [.p (yH l),  .p (i64 c),.p (i64 n)] H R:=by
 refine ACall.of_run (raw:=[]) Tryz.func100 rfl Tryz.ntmps100 (by simp) fun hbel => ?_
 refine .qt rfl ?_;simp (disch:=first|exact za|fail) only [go_sem,seval];refine .qt rfl ?_;simp (disch:=first|exact za|fail) only [go_sem,seval];refine .q ?_;refine .own 7 (by simp (disch:=first|exact za|fail) only [go_sem,seval];rfl) ?_;refine .qt rfl ?_;simp (disch:=first|exact za|fail) only [go_sem,seval];refine .q ?_;refine .count (fun i env H'=>env 0 = .p (yH l)∧env 1 = .p (i64 c)∧env 2 = .p (i64 n)∧env 8 = .p (i64 i)∧H'=H.new (.tail i) ∧ ∃ xs:List Int,xs.length=i∧env 7 = .sl H.n i 1 (pl i64 xs)) 0 16 (by omega) ?_ ?_ ?_
 · refine⟨?_,?_,?_,?_,rfl,[],rfl,?_⟩<;>simp (disch:=first|exact za|fail) only [go_sem,seval,zfT]
 · rintro env H' ⟨e0,e1,e2,e8,rfl,xs,hx,e7⟩
   refine .qt rfl ?_;simp (disch:=first|exact za|fail) only [go_sem,seval,e8];refine .qF rfl ?_;refine .qt rfl ?_;simp (disch:=first|exact za|fail) only [go_sem,seval,e7];refine .q ?_;refine .retOwn Tryz.func100 (by rw [Tryz.results100]) (by simp (disch:=first|exact za|fail) only [go_sem,seval,e7];rfl) (by simp (disch:=first|exact za|fail) only [go_sem,seval,e7]) (by first | exact Nat.le_refl _ | (dsimp only;omega)) (by (try dsimp only);repeat (first | with_reducible refine zaM ?_ za | with_reducible refine zfk ?_ za | with_reducible refine za8 ?_ za | with_reducible refine zpZ ?_ | with_reducible exact hbel | with_reducible exact hbel _)) ?_;simp (disch:=first|exact za|fail) only [go_sem,seval,e7];exact h xs hx
 · rintro i env H' hi0 hi ⟨e0,e1,e2,e8,rfl,xs,hx,e7⟩ ihO
   refine .qt rfl ?_;simp (disch:=first|exact za|fail) only [go_sem,seval,e8];refine .qT rfl ?_;refine .qt rfl ?_;simp (disch:=first|exact za|fail) only [go_sem,seval];refine .q ?_;refine .cut2 (fun env2 H2 => ∃ v:Int,env2 0 = .p (yH l)∧env2 1 = .p (i64 c)∧env2 2 = .p (i64 n)∧env2 8 = .p (i64 i)∧env2 7 = .sl H.n i 1 (pl i64 xs)∧env2 9 = .p (i64 v)∧H2=H.new (.tail i)) (fun ih => ?_) ?_
   · cases hs:zoa l with
     | false =>
      refine .qt rfl ?_;simp (disch:=first|exact za|fail) only [go_sem,seval,e0];refine CallK.of (fun R h=>zeo l hl _ R h) ?_;simp (disch:=first|exact za|fail) only [go_sem,seval,hs];refine .qF rfl ?_;refine .skip ?_;refine ih _ _ ⟨0,?_,?_,?_,?_,?_,?_,rfl⟩<;>simp (disch:=first|exact za|fail) only [go_sem,seval,e0,e1,e2,e7,e8]
     | true =>
      refine .qt rfl ?_;simp (disch:=first|exact za|fail) only [go_sem,seval,e0];refine CallK.of (fun R h=>zeo l hl _ R h) ?_;simp (disch:=first|exact za|fail) only [go_sem,seval,hs,e0,e1,e8];refine CallK.of (fun R h=>zey l hl c hc i _ R h) ?_;simp (disch:=first|exact za|fail) only [go_sem,seval,e0,e1,e8]
      cases hp:zls l c i with
      | false =>
       refine .q ?_;refine .ifF (by simp (disch:=first|exact za|fail) only [go_sem,seval,hp]) ?_;refine .skip ?_;refine ih _ _ ⟨0,?_,?_,?_,?_,?_,?_,rfl⟩<;>simp (disch:=first|exact za|fail) only [go_sem,seval,e0,e1,e2,e7,e8]
      | true =>
       refine .q ?_;refine .ifT (by simp (disch:=first|exact za|fail) only [go_sem,seval,hp]) ?_;refine .qt rfl ?_;simp (disch:=first|exact za|fail) only [go_sem,seval,e2];refine ih _ _ ⟨n,?_,?_,?_,?_,?_,?_,rfl⟩<;>simp (disch:=first|exact za|fail) only [go_sem,seval,e0,e1,e2,e7,e8]
   rintro env H2 ⟨v,e0,e1,e2,e8,e7,e9,rfl⟩
   have hxs:pl i64 xs++[i64 v]=pl i64 (xs++[v]):=by rw [←yn];rfl
   refine .qt rfl ?_;simp (disch:=first|exact za|fail) only [go_sem,seval,e7,e9,hxs,hx];refine .qt rfl ?_;simp (disch:=first|exact za|fail) only [go_sem,seval,e8];refine ihO _ _ ⟨?_,?_,?_,?_,?_,xs++[v],by simp [hx],?_⟩<;>simp (disch:=first|exact za|fail) only [go_sem,seval,e0,e1,e2]
theorem zcb (n:Nat) (l:List Cnd) (hl:l.length≤3) (c:Int) (hc:0≤c∧c < 4) (H:Hp):ACall Tryz.prog G 100 [.p (yH l),  .p (i64 c),.p (i64 n)] H (fun r H'=>(∃ xs:List Int,xs.length=16∧r = .sl H.n 0 1 (pl i64 xs))∧H'=H.new (.tail 0)) :=
 zrD n l hl c hc H _ fun xs hx=>⟨⟨xs,hx,rfl⟩,rfl⟩
set_option maxHeartbeats 16000000 in
set_option maxRecDepth 20000 in
theorem zob (n:Nat) (hn64:n≤64) (q:Qry) (hk:okI q.kind) (H:Hp) (R:AV → Hp → Prop) (h : ∀ x,R (.tup [.p (.agg [x]),.p (i64 (ya q))]) H):ACall Tryz.prog G 44 [.p (qry q),.p (i64 n)] H R:=by
 refine ACall.of_run (raw:=[]) Tryz.func44 rfl Tryz.ntmps44 (by simp) fun hbel => ?_
 refine .qt rfl ?_;simp (disch:=first|exact za|fail) only [go_sem,seval]
 cases hv:vQ q with
 | false =>
  have he:ya q=1:=by rw [ya,hv];rfl
  rw [he] at h;refine .qt rfl ?_;simp (disch:=first|exact za|fail) only [go_sem,seval];refine CallK.of (fun R h=>zgu q hk _ R h) ?_;simp (disch:=first|exact za|fail) only [go_sem,seval,hv];refine .qT rfl ?_;refine .qt rfl ?_;simp (disch:=first|exact za|fail) only [go_sem,seval];refine .qr rfl Tryz.func44 (by rw [Tryz.results44]) ?_;simp (disch:=first|exact za|fail) only [go_sem,seval];exact h _
 | true =>
  obtain⟨hk7,hcol,hK,hlf,hall⟩:(1≤q.kind∧q.kind≤7)∧(0≤q.col∧q.col < 4)∧(min (yt q.kind) 1≤q.k∧q.k≤yt q.kind)∧(q.fl.length=if q.kind=7 then 2 else 1)∧q.fl.all vF=true:=by
   have hq:=hv;simp only [vQ,Bool.and_eq_true,decide_eq_true_eq] at hq;exact⟨hq.1,hq.2.1,hq.2.2.2.1,hq.2.2.2.2.1,hq.2.2.2.2.2⟩
  have hl0:0 < q.fl.length:=by rw [hlf];split<;>decide
  have hl3:(nth q.fl 0).length≤3:=by
   have:=zaS hv hl0
   simp only [vF,Bool.and_eq_true,decide_eq_true_eq] at this;exact this.1
  refine .qt rfl ?_;simp (disch:=first|exact za|fail) only [go_sem,seval];refine CallK.of (fun R h=>zgu q hk _ R h) ?_;simp (disch:=first|exact za|fail) only [go_sem,seval,hv];refine .qF rfl ?_;refine .skip ?_
  rcases Classical.em (4≤q.kind∧q.kind≤6∧(q.col=1 ∨ q.col=3)) with hE | hE
  · have he:ya q=140:=by rw [ya,hv,if_pos rfl,if_pos hE]
    rw [he] at h
    obtain⟨x1,x2,x3⟩:=hE
    refine .qt rfl ?_;simp (disch:=first|exact za|fail) only [go_sem,seval];refine CallK.of (fun R h=>ziq q.col hcol _ R h) ?_;simp (disch:=first|exact za|fail) only [go_sem,seval];refine .qT rfl ?_;refine .qt rfl ?_;simp (disch:=first|exact za|fail) only [go_sem,seval];refine .qr rfl Tryz.func44 (by rw [Tryz.results44]) ?_;simp (disch:=first|exact za|fail) only [go_sem,seval];exact h _
  have he:ya q=0:=by rw [ya,hv,if_pos rfl,if_neg hE]
  rw [he] at h
  have hq0:((H.new (.cells [.p (i64 q.kind),.p (i64 q.col),.p (i64 q.k),.p (.sl false 1 (pl yH q.fl))])).new (.cells [.p (.sl true 1 [])])).f H.n=some (.cells [.p (i64 q.kind),.p (i64 q.col),.p (i64 q.k),.p (.sl false 1 (pl yH q.fl))]):=by simp (disch:=first|exact za|fail) only [go_sem,seval]
  have hb3:Bel H.n ((H.new (.cells [.p (i64 q.kind),.p (i64 q.col),.p (i64 q.k),.p (.sl false 1 (pl yH q.fl))])).new (.cells [.p (.sl true 1 [])])):=by
   repeat (first | with_reducible refine zaM ?_ za | with_reducible refine za8 ?_ za | with_reducible exact hbel)
  have hn3:((H.new (.cells [.p (i64 q.kind),.p (i64 q.col),.p (i64 q.k),.p (.sl false 1 (pl yH q.fl))])).new (.cells [.p (.sl true 1 [])])).f (H.n+1)=some (.cells [.p (.sl true 1 [])]):=by simp (disch:=first|exact za|fail) only [go_sem,seval]
  have ht3:((H.new (.cells [.p (i64 q.kind),.p (i64 q.col),.p (i64 q.k),.p (.sl false 1 (pl yH q.fl))])).new (.cells [.p (.sl true 1 [])])).trunc H.n=H:=by simp (disch:=first|exact za|fail) only [go_sem,seval]
  refine .q ?_;refine .cut2 (fun env2 H2=>env2 1 = .p (i64 n)∧env2 2 = .ptr H.n 0∧env2 4 = .ptr (H.n+1) 0∧H2=((H.new (.cells [.p (i64 q.kind),.p (i64 q.col),.p (i64 q.k),.p (.sl false 1 (pl yH q.fl))])).new (.cells [.p (.sl true 1 [])]))) (fun ih => ?_) ?_
  · rcases Classical.em (4≤q.kind) with k1 | k1
    · rcases Classical.em (q.kind≤6) with k2 | k2
      · have hc : ¬ (q.col=1 ∨ q.col=3):=fun e=>hE ⟨k1,k2,e⟩
        refine .qt rfl ?_;simp (disch:=first|exact za|fail) only [go_sem,seval];refine CallK.of (fun R h=>ziq q.col hcol _ R h) ?_;simp (disch:=first|exact za|fail) only [go_sem,seval];refine .qF rfl ?_;refine .skip ?_;refine ih _ _ ⟨?_,?_,?_,rfl⟩<;>simp (disch:=first|exact za|fail) only [go_sem,seval]
      · refine .qt rfl ?_;simp (disch:=first|exact za|fail) only [go_sem,seval];refine .qF rfl ?_;refine .skip ?_;refine ih _ _ ⟨?_,?_,?_,rfl⟩<;>simp (disch:=first|exact za|fail) only [go_sem,seval]
    · refine .qt rfl ?_;simp (disch:=first|exact za|fail) only [go_sem,seval];refine .qF rfl ?_;refine .skip ?_;refine ih _ _ ⟨?_,?_,?_,rfl⟩<;>simp (disch:=first|exact za|fail) only [go_sem,seval]
  rintro env H2 ⟨e1,e2,e4,hH2⟩
  rw [←hH2] at hq0 hb3 hn3 ht3;have hbel:=hb3;have hl2:=Hp.lt hn3;rw [←ht3] at h
  clear hH2
  refine .qt rfl ?_;simp (disch:=first|exact za|fail) only [go_sem,seval,e2,hq0];refine .qt rfl ?_;simp (disch:=first|exact za|fail) only [go_sem,seval,e2,hq0]
  rcases Classical.em (q.kind=4) with k4 | k4
  · refine .qt rfl ?_;simp (disch:=first|exact za|fail) only [go_sem,seval,k4];refine .qT rfl ?_;refine .qt rfl ?_;simp (disch:=first|exact za|fail) only [go_sem,seval,e1,e2,hq0]
    refine (zcb n (nth q.fl 0) hl3 q.col hcol _).mono fun r H' hr => ?_
    obtain⟨⟨xs,hxs,rfl⟩,rfl⟩:=hr
    refine AOps.weak 50 (x := .sl H2.n 0 1 (pl i64 xs)) (y := .p (.sl false 1 (pl i64 xs))) (by simp (disch:=first|exact za|fail) only [go_sem,seval]) (by simp (disch:=first|exact za|fail) only [go_sem,seval,AV.weak]) (AOps.run ?_);simp (disch:=first|exact za|fail) only [go_sem,seval,e4,hn3];refine .qr rfl Tryz.func44 (by rw [Tryz.results44]) (hx:=by simp (disch:=first|exact za|fail) only [go_sem,seval,e4];rfl) ?_;simp (disch:=first|exact za|fail) only [go_sem,seval,e4];exact h _
  refine .qt rfl ?_;simp (disch:=first|exact za|fail) only [go_sem,seval];refine .qF rfl ?_
  rcases Classical.em (q.kind=5) with k5 | k5
  · refine .qt rfl ?_;simp (disch:=first|exact za|fail) only [go_sem,seval,k5];refine .qT rfl ?_;refine .qt rfl ?_;simp (disch:=first|exact za|fail) only [go_sem,seval,e1,e2,hq0]
    refine (zcb n (nth q.fl 0) hl3 q.col hcol _).mono fun r H' hr => ?_
    obtain⟨⟨xs,hxs,rfl⟩,rfl⟩:=hr
    refine AOps.weak 58 (x := .sl H2.n 0 1 (pl i64 xs)) (y := .p (.sl false 1 (pl i64 xs))) (by simp (disch:=first|exact za|fail) only [go_sem,seval]) (by simp (disch:=first|exact za|fail) only [go_sem,seval,AV.weak]) (AOps.run ?_);simp (disch:=first|exact za|fail) only [go_sem,seval,e4,hn3];refine .qr rfl Tryz.func44 (by rw [Tryz.results44]) (hx:=by simp (disch:=first|exact za|fail) only [go_sem,seval,e4];rfl) ?_;simp (disch:=first|exact za|fail) only [go_sem,seval,e4];exact h _
  refine .qt rfl ?_;simp (disch:=first|exact za|fail) only [go_sem,seval];refine .qF rfl ?_
  rcases Classical.em (q.kind=6) with k6 | k6
  · refine .qt rfl ?_;simp (disch:=first|exact za|fail) only [go_sem,seval,k6];refine .qT rfl ?_;refine .qt rfl ?_;simp (disch:=first|exact za|fail) only [go_sem,seval,e1,e2,hq0]
    refine (zcb n (nth q.fl 0) hl3 q.col hcol _).mono fun r H' hr => ?_
    obtain⟨⟨xs,hxs,rfl⟩,rfl⟩:=hr
    refine AOps.weak 66 (x := .sl H2.n 0 1 (pl i64 xs)) (y := .p (.sl false 1 (pl i64 xs))) (by simp (disch:=first|exact za|fail) only [go_sem,seval]) (by simp (disch:=first|exact za|fail) only [go_sem,seval,AV.weak]) (AOps.run ?_);simp (disch:=first|exact za|fail) only [go_sem,seval,e4,hn3];refine .qr rfl Tryz.func44 (by rw [Tryz.results44]) (hx:=by simp (disch:=first|exact za|fail) only [go_sem,seval,e4];rfl) ?_;simp (disch:=first|exact za|fail) only [go_sem,seval,e4];exact h _
  refine .qt rfl ?_;simp (disch:=first|exact za|fail) only [go_sem,seval];refine .qF rfl ?_
  rcases Classical.em (q.kind=7) with k7 | k7
  · have hl2:q.fl.length=2:=by rw [hlf,if_pos k7]
    have hl32:(nth q.fl 1).length≤3:=by
     have:=zaS hv (show 1 < q.fl.length by omega)
     simp only [vF,Bool.and_eq_true,decide_eq_true_eq] at this;exact this.1
    refine .qt rfl ?_;simp (disch:=first|exact za|fail) only [go_sem,seval,k7];refine .qT rfl ?_;refine .qt rfl ?_;simp (disch:=first|exact za|fail) only [go_sem,seval,e1,e2,hq0];refine CallK.ex (zcb n (nth q.fl 0) hl3 0 (by omega) _) ?_
    rintro _ _ ⟨⟨xs,hxs,rfl⟩,rfl⟩
    simp (disch:=first|exact za|fail) only [go_sem,seval];refine .qt rfl ?_;simp (disch:=first|exact za|fail) only [go_sem,seval,e1,e2,hq0,hl2]
    refine (zcb n (nth q.fl 1) hl32 0 (by omega) _).mono fun r H' hr => ?_
    obtain⟨⟨ys,hys,rfl⟩,rfl⟩:=hr
    refine AOps.one rfl (x := .sl H2.n 1 1 (pl i64 (xs++ys))) (H':=((H2.new (.tail 0)).new (.tail 0)).set H2.n (.tail 1)) (by simp (disch:=first|exact za|fail) only [go_sem,seval,hxs,hys]) rfl ?_;refine AOps.weak 80 (x := .sl H2.n 1 1 (pl i64 (xs++ys))) (y := .p (.sl false 1 (pl i64 (xs++ys)))) (by simp (disch:=first|exact za|fail) only [go_sem,seval]) (by simp (disch:=first|exact za|fail) only [go_sem,seval,AV.weak]) (AOps.run ?_);simp (disch:=first|exact za|fail) only [go_sem,seval,e4,hn3];refine .qr rfl Tryz.func44 (by rw [Tryz.results44]) (hx:=by simp (disch:=first|exact za|fail) only [go_sem,seval,e4];rfl) ?_;simp (disch:=first|exact za|fail) only [go_sem,seval,e4];exact h _
  refine .qt rfl ?_;simp (disch:=first|exact za|fail) only [go_sem,seval];refine .qF rfl ?_
  cases hs:zoa (nth q.fl 0) with
  | false =>
   refine .qt rfl ?_;simp (disch:=first|exact za|fail) only [go_sem,seval];refine CallK.of (fun R h=>zeo (nth q.fl 0) hl3 _ R h) ?_;simp (disch:=first|exact za|fail) only [go_sem,seval,hs];refine .qT rfl ?_;refine .qt rfl ?_;simp (disch:=first|exact za|fail) only [go_sem,seval,e4,hn3];refine .qr rfl Tryz.func44 (by rw [Tryz.results44]) (hx:=by simp (disch:=first|exact za|fail) only [go_sem,seval,e4];rfl) ?_;simp (disch:=first|exact za|fail) only [go_sem,seval,e4];exact h _
  | true =>
   obtain⟨m,hm⟩ : ∃ m:Nat,zf6 (nth q.fl 0) q.col=m:=by
    have hc:q.col=0 ∨ q.col=1 ∨ q.col=2 ∨ q.col=3:=by omega
    have hh:=hs;unfold zoa at hh;rw [List.all_eq_true] at hh
    have:=hh q.col (by rcases hc with e | e | e | e<;>rw [e]<;>simp [four])
    rw [decide_eq_true_eq] at this
    exact⟨_,(Int.toNat_of_nonneg this).symm⟩
   have hm2:m≤255:=by
    have h1:=(zBI (nth q.fl 0) q.col ((yC q.col.toNat).toNat+1)).2;have h2:=zio q.col.toNat;unfold zf6 at hm;rw [hm] at h1;omega
   refine .qt rfl ?_;simp (disch:=first|exact za|fail) only [go_sem,seval];refine CallK.of (fun R h=>zeo (nth q.fl 0) hl3 _ R h) ?_;simp (disch:=first|exact za|fail) only [go_sem,seval,hs];refine .qF rfl ?_;refine .skip ?_
   have hc:q.kind=1 ∨ q.kind=2 ∨ q.kind=3:=by omega
   rcases hc with k1 | k1 | k1
   · refine .qt rfl ?_;simp (disch:=first|exact za|fail) only [go_sem,seval];refine .qt rfl ?_;simp (disch:=first|exact za|fail) only [go_sem,seval,e2,hq0,k1];refine .qF rfl ?_;refine .skip ?_;refine .qt rfl ?_;simp (disch:=first|exact za|fail) only [go_sem,seval,e2,hq0,k1];refine .qF rfl ?_;refine .skip ?_;refine .qt rfl ?_;simp (disch:=first|exact za|fail) only [go_sem,seval,e1,e2,hq0];refine CallK.of (fun R h=>zbH (nth q.fl 0) hl3 q.col hcol _ R h) ?_;simp (disch:=first|exact za|fail) only [go_sem,seval,hm];refine CallK.of (fun R h=>zd2 n m 0 hn64 hm2 (by omega) _ R h) ?_;simp (disch:=first|exact za|fail) only [go_sem,seval,hm];refine .qt rfl ?_;simp (disch:=first|exact za|fail) only [go_sem,seval];refine .qF rfl ?_;refine .skip ?_;refine .qt rfl ?_;simp (disch:=first|exact za|fail) only [go_sem,seval,e4,hn3];refine .qr rfl Tryz.func44 (by rw [Tryz.results44]) (hx:=by simp (disch:=first|exact za|fail) only [go_sem,seval,e4];rfl) ?_;simp (disch:=first|exact za|fail) only [go_sem,seval,e4];exact h _
   · refine .qt rfl ?_;simp (disch:=first|exact za|fail) only [go_sem,seval];refine .qt rfl ?_;simp (disch:=first|exact za|fail) only [go_sem,seval,e2,hq0,k1];refine .qT rfl ?_;refine .qt rfl ?_;simp (disch:=first|exact za|fail) only [go_sem,seval];refine .qt rfl ?_;simp (disch:=first|exact za|fail) only [go_sem,seval,e2,hq0,k1];refine .qF rfl ?_;refine .skip ?_;refine .qt rfl ?_;simp (disch:=first|exact za|fail) only [go_sem,seval,e1,e2,hq0];refine CallK.of (fun R h=>zbH (nth q.fl 0) hl3 q.col hcol _ R h) ?_;simp (disch:=first|exact za|fail) only [go_sem,seval,hm];refine CallK.of (fun R h=>zd2 n m 1 hn64 hm2 (by omega) _ R h) ?_;simp (disch:=first|exact za|fail) only [go_sem,seval,hm];refine .qt rfl ?_;simp (disch:=first|exact za|fail) only [go_sem,seval];refine .qF rfl ?_;refine .skip ?_;refine .qt rfl ?_;simp (disch:=first|exact za|fail) only [go_sem,seval,e4,hn3];refine .qr rfl Tryz.func44 (by rw [Tryz.results44]) (hx:=by simp (disch:=first|exact za|fail) only [go_sem,seval,e4];rfl) ?_;simp (disch:=first|exact za|fail) only [go_sem,seval,e4];exact h _
   · have hk3:yt q.kind=6:=by rw [k1];rfl
     obtain⟨kk,hkk⟩ : ∃ kk:Nat,q.k=kk:=⟨q.k.toNat,by omega⟩
     refine .qt rfl ?_;simp (disch:=first|exact za|fail) only [go_sem,seval];refine .qt rfl ?_;simp (disch:=first|exact za|fail) only [go_sem,seval,e2,hq0,k1];refine .qF rfl ?_;refine .skip ?_;refine .qt rfl ?_;simp (disch:=first|exact za|fail) only [go_sem,seval,e2,hq0,k1];refine .qT rfl ?_;refine .qt rfl ?_;simp (disch:=first|exact za|fail) only [go_sem,seval,e2,hq0];refine .qt rfl ?_;simp (disch:=first|exact za|fail) only [go_sem,seval,e1,e2,hq0];refine CallK.of (fun R h=>zbH (nth q.fl 0) hl3 q.col hcol _ R h) ?_;simp (disch:=first|exact za|fail) only [go_sem,seval,hm,hkk];refine CallK.of (fun R h=>zd2 n m kk hn64 hm2 (by omega) _ R h) ?_;simp (disch:=first|exact za|fail) only [go_sem,seval,hm];refine .qt rfl ?_;simp (disch:=first|exact za|fail) only [go_sem,seval];refine .qF rfl ?_;refine .skip ?_;refine .qt rfl ?_;simp (disch:=first|exact za|fail) only [go_sem,seval,e4,hn3];refine .qr rfl Tryz.func44 (by rw [Tryz.results44]) (hx:=by simp (disch:=first|exact za|fail) only [go_sem,seval,e4];rfl) ?_;simp (disch:=first|exact za|fail) only [go_sem,seval,e4];exact h _
theorem zoc (n:Nat) (hn:n≤64) (q:Qry) (hk:okI q.kind) (H:Hp):ACall Tryz.prog G 44 [.p (qry q),.p (i64 n)] H (fun r H'=>(∃ x,r = .tup [.p (.agg [x]),.p (i64 (ya q))])∧H'=H):=zob n hn q hk H _ fun x=>⟨⟨x,rfl⟩,rfl⟩
end walks
end Go.Proofs.YthaoifcebimkfaaGreatDoor

namespace Go.Proofs.YthaoifcebimkfaaGreatDoor
open Go Go.AL

section walks
variable {G:Globs}
end walks
end Go.Proofs.YthaoifcebimkfaaGreatDoor

namespace Go.Proofs.YthaoifcebimkfaaGreatDoor
open Go Go.AL

section walks
variable {G:Globs}
set_option maxHeartbeats 8000000 in
set_option maxRecDepth 20000 in
theorem zir (a:Circ) (hl:a.layers.length≤1000000) (hx : ∀ x∈a.layers,x.length≤1000000 ∧ ∀ g∈x,okG g) (H:Hp) (R:AV → Hp → Prop) (h:R (.p (bo true)) H):ACall Tryz.prog G 12 [.p (za2 a),.p (za2 a)] H R:=by
 refine ACall.of_run (raw:=[]) Tryz.func12 rfl Tryz.ntmps12 (by simp) fun hbel => ?_
 refine .qt rfl ?_;simp (disch:=first|exact za|fail) only [go_sem,seval];refine .qt rfl ?_;simp (disch:=first|exact za|fail) only [go_sem,seval];refine .qF rfl ?_;refine .skip ?_;refine .qt rfl ?_;simp (disch:=first|exact za|fail) only [go_sem,seval]
 refine .q ?_;first | refine .loopF0 [2,3] (fun i=>[(5,.p (i64 i))]) (fun i=>True) (0) (a.layers.length) (by omega) ?_ ?_ ?_ ?_ | refine .loopF [2,3] (fun i=>[(5,.p (i64 i))]) (fun _=>[]) (fun i=>True) (0) (a.layers.length) (by omega) ?_ (by rfl) ?_ ?_ ?_
 · simp (disch:=first|exact za|fail) only [go_sem,seval]<;>(repeat' (first | rfl | refine And.intro ?_ ?_))
 · exact trivial
 intro env T A hQ;simp (disch:=first|exact za|fail) only [go_sem,seval] at A
 rotate_left 1
 intro i env T hi0 hi A hQ ihA;simp (disch:=first|exact za|fail) only [go_sem,seval] at A
 rotate_left 1
 · refine .qt rfl ?_;simp (disch:=first|exact za|fail) only [go_sem,seval,A];refine .qF rfl ?_;refine .qt rfl ?_;simp (disch:=first|exact za|fail) only [go_sem,seval,A];refine .qr rfl Tryz.func12 (by rw [Tryz.results12]) (hx:=by simp (disch:=first|exact za|fail) only [go_sem,seval,A];rfl) ?_;simp (disch:=first|exact za|fail) only [go_sem,seval,A];exact h
 · obtain⟨h1,h2⟩:=hx (nth a.layers i) (by rw [zc hi];exact List.getElem_mem hi)
   refine .qt rfl ?_;simp (disch:=first|exact za|fail) only [go_sem,seval,A];refine .qT rfl ?_;refine .q ?_;refine .open [] follows (by kernel_rfl) ?_;simp (disch:=first|exact za|fail) only [go_sem,seval,A,zah];refine .qF rfl ?_;refine .skip ?_;refine .qt rfl ?_;simp (disch:=first|exact za|fail) only [go_sem,seval,A]
   refine .q ?_;first | refine .loopF0 [2,3,5] (fun k=>[(6,.p (i64 k))]) (fun k=>True) (0) ((nth a.layers i).length) (by omega) ?_ ?_ ?_ ?_ | refine .loopF [2,3,5] (fun k=>[(6,.p (i64 k))]) (fun _=>[]) (fun k=>True) (0) ((nth a.layers i).length) (by omega) ?_ (by rfl) ?_ ?_ ?_
   · simp (disch:=first|exact za|fail) only [go_sem,seval,A]<;>(repeat' (first | rfl | refine And.intro ?_ ?_))
   · exact trivial
   intro env T B hQ;simp (disch:=first|exact za|fail) only [go_sem,seval,A] at B
   rotate_left 1
   intro k env T hk0 hk B hQ ihB;simp (disch:=first|exact za|fail) only [go_sem,seval,A] at B
   rotate_left 1
   · refine .qt rfl ?_;simp (disch:=first|exact za|fail) only [go_sem,seval,B,A,zah];refine .qF rfl ?_;refine .qt rfl ?_;simp (disch:=first|exact za|fail) only [go_sem,seval,B,A]
     first | (refine ihA _ _ ?_ trivial ?_) | (refine .z rfl ?_;refine ihA _ _ ?_ trivial ?_) | (refine .z rfl ?_;refine .z rfl ?_;refine ihA _ _ ?_ trivial ?_) | (refine .z rfl ?_;refine .z rfl ?_;refine .z rfl ?_;refine ihA _ _ ?_ trivial ?_)
     · simp (disch:=first|exact za|fail) only [go_sem,seval,B,A]<;>(repeat' (first | rfl | refine And.intro ?_ ?_))
     · first | exact .mk _ rfl | exact .mk [] rfl | (apply Later.mk;simp (disch:=first|exact za|fail) only [go_sem,seval,zl,B,A];exact rfl) | (apply Later.mk;simp (disch:=first|exact za|fail) only [go_sem,seval,zl,yv,List.append_assoc,B,A]<;>(try rfl))
   · have hg:=h2 (nth (nth a.layers i) k) (by rw [zc hk];exact List.getElem_mem hk);have heq:=(zsD hg hg).2;rw [decide_eq_true rfl] at heq;refine .qt rfl ?_;simp (disch:=first|exact za|fail) only [go_sem,seval,B,A,zah];refine .qT rfl ?_;refine .q ?_;refine .open [] follows (by kernel_rfl) ?_;simp (disch:=first|exact za|fail) only [go_sem,seval,B,A,zah,heq];refine .qF rfl ?_;refine .skip ?_;refine .qt rfl ?_;simp (disch:=first|exact za|fail) only [go_sem,seval,B,A]
     first | (refine ihB _ _ ?_ trivial ?_) | (refine .z rfl ?_;refine ihB _ _ ?_ trivial ?_) | (refine .z rfl ?_;refine .z rfl ?_;refine ihB _ _ ?_ trivial ?_) | (refine .z rfl ?_;refine .z rfl ?_;refine .z rfl ?_;refine ihB _ _ ?_ trivial ?_)
     · simp (disch:=first|exact za|fail) only [go_sem,seval,B,A]<;>(repeat' (first | rfl | refine And.intro ?_ ?_))
     · first | exact .mk _ rfl | exact .mk [] rfl | (apply Later.mk;simp (disch:=first|exact za|fail) only [go_sem,seval,zl,B,A];exact rfl) | (apply Later.mk;simp (disch:=first|exact za|fail) only [go_sem,seval,zl,yv,List.append_assoc,B,A]<;>(try rfl))
set_option maxHeartbeats 8000000 in
theorem zrE (l:List Int) (hl:l.length≤1000000) (H:Hp) (R:AV → Hp → Prop) (h:R (.p (bo true)) H):ACall Tryz.prog G 20 [.p (.sl false 1 (pl i64 l)),.p (.sl false 1 (pl i64 l))] H R:=by
 refine ACall.of_run (raw:=[]) Tryz.func20 rfl Tryz.ntmps20 (by simp) fun hbel => ?_
 refine .qt rfl ?_;simp (disch:=first|exact za|fail) only [go_sem,seval];refine .qt rfl ?_;simp (disch:=first|exact za|fail) only [go_sem,seval];refine .qF rfl ?_;refine .skip ?_;refine .qt rfl ?_;simp (disch:=first|exact za|fail) only [go_sem,seval]
 refine .q ?_;first | refine .loopF0 [0,1] (fun i=>[(5,.p (i64 i))]) (fun i=>True) (0) (l.length) (by omega) ?_ ?_ ?_ ?_ | refine .loopF [0,1] (fun i=>[(5,.p (i64 i))]) (fun _=>[]) (fun i=>True) (0) (l.length) (by omega) ?_ (by rfl) ?_ ?_ ?_
 · simp (disch:=first|exact za|fail) only [go_sem,seval]<;>(repeat' (first | rfl | refine And.intro ?_ ?_))
 · exact trivial
 intro env T A hQ;simp (disch:=first|exact za|fail) only [go_sem,seval] at A
 rotate_left 1
 intro i env T hi0 hi A hQ ihA;simp (disch:=first|exact za|fail) only [go_sem,seval] at A
 rotate_left 1
 · refine .qt rfl ?_;simp (disch:=first|exact za|fail) only [go_sem,seval,A];refine .qF rfl ?_;refine .qt rfl ?_;simp (disch:=first|exact za|fail) only [go_sem,seval,A];refine .qr rfl Tryz.func20 (by rw [Tryz.results20]) (hx:=by simp (disch:=first|exact za|fail) only [go_sem,seval,A];rfl) ?_;simp (disch:=first|exact za|fail) only [go_sem,seval,A];exact h
 · refine .qt rfl ?_;simp (disch:=first|exact za|fail) only [go_sem,seval,A];refine .qT rfl ?_;refine .q ?_;refine .open [] follows (by kernel_rfl) ?_;simp (disch:=first|exact za|fail) only [go_sem,seval,A];refine .qF rfl ?_;refine .skip ?_;refine .qt rfl ?_;simp (disch:=first|exact za|fail) only [go_sem,seval,A]
   first | (refine ihA _ _ ?_ trivial ?_) | (refine .z rfl ?_;refine ihA _ _ ?_ trivial ?_) | (refine .z rfl ?_;refine .z rfl ?_;refine ihA _ _ ?_ trivial ?_) | (refine .z rfl ?_;refine .z rfl ?_;refine .z rfl ?_;refine ihA _ _ ?_ trivial ?_)
   · simp (disch:=first|exact za|fail) only [go_sem,seval,A]<;>(repeat' (first | rfl | refine And.intro ?_ ?_))
   · first | exact .mk _ rfl | exact .mk [] rfl | (apply Later.mk;simp (disch:=first|exact za|fail) only [go_sem,seval,zl,A];exact rfl) | (apply Later.mk;simp (disch:=first|exact za|fail) only [go_sem,seval,zl,yv,List.append_assoc,A]<;>(try rfl))
set_option maxHeartbeats 8000000 in
set_option maxRecDepth 20000 in
theorem zrF (a b:List (List U)) (hl:a.length≤1000000) (hx : ∀ x∈a,x.length≤1000000) (H:Hp) (R:AV → Hp → Prop) (h:R (.p (bo (decide (a=b)))) H):ACall Tryz.prog G 19 [.p (.sl false 1 (pl (ym 1 zg) a)),.p (.sl false 1 (pl (ym 1 zg) b))] H R:=by
 refine ACall.of_run (raw:=[]) Tryz.func19 rfl Tryz.ntmps19 (by simp) fun hbel => ?_
 have hno:a≠b → R (.p (bo false)) H:=fun e=>by rwa [decide_eq_false e] at h
 refine .qt rfl ?_;simp (disch:=first|exact za|fail) only [go_sem,seval]
 rcases Classical.em (a.length=b.length) with e0 | e0
 · refine .qt rfl ?_;simp (disch:=first|exact za|fail) only [go_sem,seval];refine .qF rfl ?_;refine .skip ?_;refine .qt rfl ?_;simp (disch:=first|exact za|fail) only [go_sem,seval]
   refine .q ?_;first | refine .loopF0 [0,1] (fun i=>[(5,.p (i64 i))]) (fun i => ∀ j,j < i → nth a j=nth b j) (0) (a.length) (by omega) ?_ ?_ ?_ ?_ | refine .loopF [0,1] (fun i=>[(5,.p (i64 i))]) (fun _=>[]) (fun i => ∀ j,j < i → nth a j=nth b j) (0) (a.length) (by omega) ?_ (by rfl) ?_ ?_ ?_
   · simp (disch:=first|exact za|fail) only [go_sem,seval]<;>(repeat' (first | rfl | refine And.intro ?_ ?_))
   rotate_left 1
   intro env T A hQ;simp (disch:=first|exact za|fail) only [go_sem,seval] at A
   rotate_left 1
   intro i env T hi0 hi A hQ ihA;simp (disch:=first|exact za|fail) only [go_sem,seval] at A
   rotate_left 1
   · exact fun j hj=>absurd hj (by omega)
   · have heq:a=b:=by
      apply List.ext_getElem e0;intro j h1 h2
      have:=hQ j h1
      rwa [zc h1,zc h2] at this
     rw [decide_eq_true heq] at h;refine .qt rfl ?_;simp (disch:=first|exact za|fail) only [go_sem,seval,A];refine .qF rfl ?_;refine .qt rfl ?_;simp (disch:=first|exact za|fail) only [go_sem,seval,A];refine .qr rfl Tryz.func19 (by rw [Tryz.results19]) (hx:=by simp (disch:=first|exact za|fail) only [go_sem,seval,A];rfl) ?_;simp (disch:=first|exact za|fail) only [go_sem,seval,A];exact h
   · have hi2:i < b.length:=by omega
     have h1:=hx (nth a i) (by rw [zc hi];exact List.getElem_mem hi)
     have hne:nth a i≠nth b i → R (.p (bo false)) H:=fun e=>hno fun e2=>e (by rw [e2])
     generalize ha:nth a i=x at *
     generalize hb:nth b i=y at *
     refine .qt rfl ?_;simp (disch:=first|exact za|fail) only [go_sem,seval,A];refine .qT rfl ?_;have hQ0:=hQ
     have hstep:x=y → ∀ j,j < i+1 → nth a j=nth b j:=fun e j hj=>by
      by_cases e2:j=i
      · subst e2;rw [ha,hb];exact e
      · exact hQ0 j (by omega)
     rcases Classical.em (x.length=y.length) with e1 | e1
     · refine .q ?_;refine .open [] follows (by kernel_rfl) ?_;simp (disch:=first|exact za|fail) only [go_sem,seval,A,zai,ha,hb];refine .qF rfl ?_;refine .skip ?_;refine .qt rfl ?_;simp (disch:=first|exact za|fail) only [go_sem,seval,A]
       refine .q ?_;first | refine .loopF0 [0,1,5] (fun k=>[(6,.p (i64 k))]) (fun k => ∀ j,j < k → nth x j=nth y j) (0) (x.length) (by omega) ?_ ?_ ?_ ?_ | refine .loopF [0,1,5] (fun k=>[(6,.p (i64 k))]) (fun _=>[]) (fun k => ∀ j,j < k → nth x j=nth y j) (0) (x.length) (by omega) ?_ (by rfl) ?_ ?_ ?_
       · simp (disch:=first|exact za|fail) only [go_sem,seval,A]<;>(repeat' (first | rfl | refine And.intro ?_ ?_))
       rotate_left 1
       intro env T B hQ;simp (disch:=first|exact za|fail) only [go_sem,seval,A] at B
       rotate_left 1
       intro k env T hk0 hk B hQ ihB;simp (disch:=first|exact za|fail) only [go_sem,seval,A] at B
       rotate_left 1
       · exact fun j hj=>absurd hj (by omega)
       · have heq:x=y:=by
          apply List.ext_getElem e1;intro j h1 h2
          have:=hQ j h1
          rwa [zc h1,zc h2] at this
         refine .qt rfl ?_;simp (disch:=first|exact za|fail) only [go_sem,seval,B,A,zai,ha,hb];refine .qF rfl ?_;refine .qt rfl ?_;simp (disch:=first|exact za|fail) only [go_sem,seval,B,A]
         first | (refine ihA _ _ ?_ (hstep heq) ?_) | (refine .z rfl ?_;refine ihA _ _ ?_ (hstep heq) ?_) | (refine .z rfl ?_;refine .z rfl ?_;refine ihA _ _ ?_ (hstep heq) ?_) | (refine .z rfl ?_;refine .z rfl ?_;refine .z rfl ?_;refine ihA _ _ ?_ (hstep heq) ?_)
         · simp (disch:=first|exact za|fail) only [go_sem,seval,B,A]<;>(repeat' (first | rfl | refine And.intro ?_ ?_))
         · first | exact .mk _ rfl | exact .mk [] rfl | (apply Later.mk;simp (disch:=first|exact za|fail) only [go_sem,seval,zl,B,A];exact rfl) | (apply Later.mk;simp (disch:=first|exact za|fail) only [go_sem,seval,zl,yv,List.append_assoc,B,A]<;>(try rfl))
       · have hk2:k < y.length:=by omega
         refine .qt rfl ?_;simp (disch:=first|exact za|fail) only [go_sem,seval,B,A,zai,ha,hb];refine .qT rfl ?_
         rcases Classical.em (nth x k=nth y k) with e2 | e2
         · have hd:(nth x k != nth y k)=false:=by rw [e2];exact bne_self_eq_false _
           refine .q ?_;refine .open [] follows (by kernel_rfl) ?_;simp (disch:=first|exact za|fail) only [go_sem,seval,B,A,zai,ha,hb,hd];refine .qF rfl ?_;refine .skip ?_;refine .qt rfl ?_;simp (disch:=first|exact za|fail) only [go_sem,seval,B,A]
           first | (refine ihB _ _ ?_ (fun j hj=>by by_cases e3:j=k;(subst e3;exact e2);exact hQ j (by omega)) ?_) | (refine .z rfl ?_;refine ihB _ _ ?_ (fun j hj=>by by_cases e3:j=k;(subst e3;exact e2);exact hQ j (by omega)) ?_) | (refine .z rfl ?_;refine .z rfl ?_;refine ihB _ _ ?_ (fun j hj=>by by_cases e3:j=k;(subst e3;exact e2);exact hQ j (by omega)) ?_) | (refine .z rfl ?_;refine .z rfl ?_;refine .z rfl ?_;refine ihB _ _ ?_ (fun j hj=>by by_cases e3:j=k;(subst e3;exact e2);exact hQ j (by omega)) ?_)
           · simp (disch:=first|exact za|fail) only [go_sem,seval,B,A]<;>(repeat' (first | rfl | refine And.intro ?_ ?_))
           · first | exact .mk _ rfl | exact .mk [] rfl | (apply Later.mk;simp (disch:=first|exact za|fail) only [go_sem,seval,zl,B,A];exact rfl) | (apply Later.mk;simp (disch:=first|exact za|fail) only [go_sem,seval,zl,yv,List.append_assoc,B,A]<;>(try rfl))
         · have hd:(nth x k != nth y k)=true:=bne_iff_ne.2 e2;refine .q ?_;refine .open [] follows (by kernel_rfl) ?_;simp (disch:=first|exact za|fail) only [go_sem,seval,B,A,zai,ha,hb,hd];refine .qT rfl ?_;refine .qt rfl ?_;simp (disch:=first|exact za|fail) only [go_sem,seval,B,A];refine .qr rfl Tryz.func19 (by rw [Tryz.results19]) (hx:=by simp (disch:=first|exact za|fail) only [go_sem,seval,B,A];rfl) ?_;simp (disch:=first|exact za|fail) only [go_sem,seval,B,A]
           exact hne fun e3=>e2 (by rw [e3])
     · refine .q ?_;refine .open [] follows (by kernel_rfl) ?_;simp (disch:=first|exact za|fail) only [go_sem,seval,A,zai,ha,hb];refine .qT rfl ?_;refine .qt rfl ?_;simp (disch:=first|exact za|fail) only [go_sem,seval,A];refine .qr rfl Tryz.func19 (by rw [Tryz.results19]) (hx:=by simp (disch:=first|exact za|fail) only [go_sem,seval,A];rfl) ?_;simp (disch:=first|exact za|fail) only [go_sem,seval,A]
       exact hne fun e3=>e1 (by rw [e3])
 · have hn:=hno fun e=>e0 (by rw [e])
   refine .qt rfl ?_;simp (disch:=first|exact za|fail) only [go_sem,seval];refine .qT rfl ?_;refine .qt rfl ?_;simp (disch:=first|exact za|fail) only [go_sem,seval];refine .qr rfl Tryz.func19 (by rw [Tryz.results19]) ?_;simp (disch:=first|exact za|fail) only [go_sem,seval];exact hn
end walks
end Go.Proofs.YthaoifcebimkfaaGreatDoor
