/-
  Hash trees: the parts of a subtree.
-/
import Derived.Test.YthonhnpiglafkaaDoorPkS1
set_option linter.unusedSimpArgs false
set_option linter.unusedVariables false
namespace Go.Proofs.YthonhnpiglafkaaDoor
open Go Go.AL

def rng (idx:List Int) (lo hi:Nat):List Int:=idx.filter fun i=>decide ((lo:Int)≤i∧i < (hi:Int))
theorem asc_pw {l:List Int}:Asc l ↔ l.Pairwise (· < ·):=by
  rw [List.pairwise_iff_getElem]
  constructor
  · intro h i j hi hj hij
    have:=h i j hij hj
    unfold nth at this
    rwa [List.getElem?_eq_getElem hi,List.getElem?_eq_getElem hj] at this
  · intro h i j hij hj
    have:=h i j (by omega) hj hij
    unfold nth
    rwa [List.getElem?_eq_getElem (by omega),List.getElem?_eq_getElem hj]
theorem Inc.asc {n:Int} {idx:List Int} (h:Inc n idx):Asc idx:=by
  intro i j hij hj
  induction j with
  | zero=>omega
  | succ j ih =>
    have h1:=(h (j+1) hj).1
    rw [prevI_succ] at h1
    by_cases e:i=j
    · subst e;exact h1
    · have:=ih (by omega) (by omega);omega
theorem Asc.rng {idx:List Int} (h:Asc idx) (lo hi:Nat):Asc (rng idx lo hi):=asc_pw.2 ((asc_pw.1 h).filter _)
theorem rng_le {idx:List Int} {lo hi:Nat}:(rng idx lo hi).length≤idx.length:=List.length_filter_le _ _
theorem rng_all {n:Nat} {idx:List Int} (h:Inc n idx):rng idx 0 n=idx:=by
  unfold rng
  rw [List.filter_eq_self]
  intro a ha
  obtain ⟨i,hi,rfl⟩:=List.mem_iff_getElem.1 ha
  have h1:=Inc.nonneg h i hi
  have h2:=(h i hi).2
  unfold nth at h1 h2
  rw [List.getElem?_eq_getElem hi] at h1 h2
  simp only [decide_eq_true_eq]
  exact ⟨by simpa using h1,h2⟩
theorem Low.take {l:List Int} {x:Int} {c:Nat} (h:Low l x c):l.take c=l.filter fun i=>decide (i < x):=by
  obtain ⟨h1,h2,h3⟩:=h
  conv=>rhs;rw [←List.take_append_drop c l]
  rw [List.filter_append]
  have e1:(l.take c).filter (fun i=>decide (i < x))=l.take c:=List.filter_eq_self.2 fun a ha=>by
    obtain ⟨i,hi,rfl⟩:=List.mem_iff_getElem.1 ha
    rw [List.length_take] at hi
    have:=h2 i (by omega)
    unfold nth at this
    rw [List.getElem?_eq_getElem (by omega)] at this
    simpa using this
  have e2:(l.drop c).filter (fun i=>decide (i < x))=[]:=List.filter_eq_nil_iff.2 fun a ha=>by
    obtain ⟨i,hi,rfl⟩:=List.mem_iff_getElem.1 ha
    rw [List.length_drop] at hi
    have:=h3 (c+i) (by omega) (by omega)
    unfold nth at this
    rw [List.getElem?_eq_getElem (by omega)] at this
    simpa using this
  rw [e1,e2,List.append_nil]
theorem Low.drop {l:List Int} {x:Int} {c:Nat} (h:Low l x c):l.drop c=l.filter fun i=>decide (x≤i):=by
  obtain ⟨h1,h2,h3⟩:=h
  conv=>rhs;rw [←List.take_append_drop c l]
  rw [List.filter_append]
  have e1:(l.take c).filter (fun i=>decide (x≤i))=[]:=List.filter_eq_nil_iff.2 fun a ha=>by
    obtain ⟨i,hi,rfl⟩:=List.mem_iff_getElem.1 ha
    rw [List.length_take] at hi
    have:=h2 i (by omega)
    unfold nth at this
    rw [List.getElem?_eq_getElem (by omega)] at this
    simpa using this
  have e2:(l.drop c).filter (fun i=>decide (x≤i))=l.drop c:=List.filter_eq_self.2 fun a ha=>by
    obtain ⟨i,hi,rfl⟩:=List.mem_iff_getElem.1 ha
    rw [List.length_drop] at hi
    have:=h3 (c+i) (by omega) (by omega)
    unfold nth at this
    rw [List.getElem?_eq_getElem (by omega)] at this
    simpa using this
  rw [e1,e2,List.nil_append]

def subV (lo hi:Nat) (l:List Int):PV := .agg [i64 lo,i64 hi,.sl false 1 (pl i64 l)]
def opt2 (o p:Option AV):Option AV:=match o,p with
  | some x,some y=>some (.tup [x,y])
  | _,_=>none
theorem opt2_some {x y:AV}:opt2 (some x) (some y)=some (.tup [x,y]):=rfl
theorem ares_cc {P:Program} {a t:Nat} {ty ty':TypeId} {env:Env} {H:Hp}:ares P [.cell a ty,.cell t ty'] env H=opt2 (aLoad P H ty (env a)) (aLoad P H ty' (env t)):=by
  simp only [ares,aresAll,aresOne]
  cases aLoad P H ty (env a)<;>cases aLoad P H ty' (env t)<;>rfl
attribute [go_sem] opt2_some ares_cc

theorem opA_val {C:Cx} {ops:Array Oper} {i:Nat} {o:Oper} {K:Env → Hp → Prop} {env:Env} {H:Hp} (x:AV) (ho:ops[i]? = some o) (hg:o.guard=none) (hs:stepOp C.P C.G o.op o.type env H = .val x H) (hd:dstOK C.nt o.dst=true)
    (hK:K (env.put o.dst x) H):opA C ops false i K env H:=by
  unfold opA
  rw [ho]
  simp only [hg,wantedA,aOp1,hs,sOp]
  exact ⟨hd,hK⟩
theorem opA_unit {C:Cx} {ops:Array Oper} {i:Nat} {o:Oper} {K:Env → Hp → Prop} {env:Env} {H H':Hp} (ho:ops[i]? = some o) (hg:o.guard=none) (hs:stepOp C.P C.G o.op o.type env H = .unit H') (hd:o.dst=none)
    (hK:K env H'):opA C ops false i K env H:=by
  unfold opA
  rw [ho]
  simp only [hg,wantedA,aOp1,hs,sOp]
  exact ⟨hd,by rw [hd];exact hK⟩
section structs
variable {a b c d:PV}
theorem acells1:acells (.p (.agg [a]))=some [.p a]:=rfl
theorem acells2:acells (.p (.agg [a,b]))=some [.p a,.p b]:=rfl
theorem acells3:acells (.p (.agg [a,b,c]))=some [.p a,.p b,.p c]:=rfl
theorem acells4:acells (.p (.agg [a,b,c,d]))=some [.p a,.p b,.p c,.p d]:=rfl
theorem mkAgg1:mkAgg [.p a] = .p (.agg [a]):=rfl
theorem mkAgg2:mkAgg [.p a,.p b] = .p (.agg [a,b]):=rfl
theorem mkAgg3:mkAgg [.p a,.p b,.p c] = .p (.agg [a,b,c]):=rfl
theorem mkAgg4:mkAgg [.p a,.p b,.p c,.p d] = .p (.agg [a,b,c,d]):=rfl
theorem aggOf1:(PV.agg [a]).aggOf 0 1 = .agg [a]:=rfl
theorem aggOf2:(PV.agg [a,b]).aggOf 0 2 = .agg [a,b]:=rfl
theorem aggOf3:(PV.agg [a,b,c]).aggOf 0 3 = .agg [a,b,c]:=rfl
theorem aggOf4:(PV.agg [a,b,c,d]).aggOf 0 4 = .agg [a,b,c,d]:=rfl
theorem pcells1:(PV.agg [a]).cells=[a]:=rfl
theorem pcells2:(PV.agg [a,b]).cells=[a,b]:=rfl
theorem pcells3:(PV.agg [a,b,c]).cells=[a,b,c]:=rfl
theorem pcells4:(PV.agg [a,b,c,d]).cells=[a,b,c,d]:=rfl
theorem isAggL {xs:List PV}:(PV.agg xs).isAgg=true:=rfl
theorem isAggVL {xs:List PV}:(AV.p (PV.agg xs)).isAggV=true:=rfl
theorem weakL1:(PV.agg [a]).weak = .agg [a.weak1]:=rfl
theorem weakL2:(PV.agg [a,b]).weak = .agg [a.weak1,b.weak1]:=rfl
theorem weakL3:(PV.agg [a,b,c]).weak = .agg [a.weak1,b.weak1,c.weak1]:=rfl
theorem weakL4:(PV.agg [a,b,c,d]).weak = .agg [a.weak1,b.weak1,c.weak1,d.weak1]:=rfl
end structs
attribute [go_sem] acells1 acells2 acells3 acells4 mkAgg1 mkAgg2 mkAgg3 mkAgg4 aggOf1 aggOf2 aggOf3 aggOf4 pcells1 pcells2 pcells3 pcells4 isAggL isAggVL weakL1 weakL2 weakL3 weakL4

section walks
variable {G:Globs}
set_option maxHeartbeats 8000000 in
set_option maxRecDepth 20000 in
theorem parts_spec (lo hi:Nat) (h2:lo+2≤hi) (hm:hi≤65536) (l:List Int) (hl:l.length≤100000) (ha:Asc l) (H:Hp) (R:AV → Hp → Prop)
    (h : ∀ c,Low l ((lo+spl (hi - lo):Nat):Int) c → R (.tup [.p (subV lo (lo+spl (hi - lo)) (l.take c)),.p (subV (lo+spl (hi - lo)) hi (l.drop c))]) H) :
    ACall Tryd.prog G 51 [.p (subV lo hi l)] H R:=by
  unfold subV at h ⊢
  obtain ⟨s1,s2,s3⟩:=spl_lt (n:=hi - lo) (by omega)
  have hc:(hi:Int) - (lo:Int)=((hi - lo:Nat):Int):=by omega
  refine ACall.of_run (raw:=[]) Tryd.func51 rfl Tryd.ntmps51 (by simp) fun hbel => ?_
  (repeat refine .z rfl ?_);refine .text ?_;simp (disch:=first|exact dsc|fail) only [go_sem,seval]
  (repeat refine .z rfl ?_);refine .open [] follows (by kernel_rfl) ?_;simp (disch:=first|exact dsc|fail) only [go_sem,seval,hc]
  refine CallD.still (fun R h=>split_spec (hi - lo) (by omega) (by omega) _ R h) ?_;simp (disch:=first|exact dsc|fail) only [go_sem,seval,hc]
  have hk:(lo:Int)+((spl (hi - lo):Nat):Int)=((lo+spl (hi - lo):Nat):Int):=by omega
  rw [hk]
  generalize lo+spl (hi - lo)=k at hk h ⊢
  (repeat refine .z rfl ?_);refine .text ?_;simp (disch:=first|exact dsc|fail) only [go_sem,seval]
  refine CallK.ex (S:=fun r H'=>H'=_ ∧ ∃ c f,Low l (k:Int) c∧r = .tup [.p (i64 (c:Nat)),.p (bo f)]) (Search_spec l hl ha (k:Int) _ _ fun c f hc=>⟨rfl,c,f,hc,rfl⟩) ?_
  rintro r H' ⟨rfl,c,f,hlow,rfl⟩
  have hcl:=hlow.1
  simp (disch:=first|exact dsc|fail) only [go_sem,seval]
  (repeat refine .z rfl ?_)
  refine .openInv (fun L env H'=>env 1 = .ptr H.n 0∧env 2 = .ptr (H.n+1) 0∧env 3 = .ptr (H.n+1+1) 0∧env 4 = .p (i64 k)∧env 5 = .p (i64 c)∧(L 0=true → env 23 = .ptr H.n 0)∧(L 1=true → env 24 = .p (i64 lo))∧(L 2=true → env 25 = .p (i64 k))∧(L 3=true → env 26 = .ptr H.n 2)∧(L 4=true → env 27 = .p (.sl false 1 (pl i64 l)))∧(L 5=true → env 28 = .p (i64 c))∧(L 6=true → env 29 = .p (.sl false 1 (pl i64 (l.take c))))∧(L 7=true → env 30 = .p (.agg [i64 lo,i64 k,.sl false 1 (pl i64 (l.take c))]))∧(L 8=true → env 31 = .p (i64 k))∧(L 9=true → env 32 = .ptr H.n 1)∧(L 10=true → env 33 = .p (i64 hi))∧(L 11=true → env 34 = .ptr H.n 2)∧(L 12=true → env 35 = .p (.sl false 1 (pl i64 l)))∧(L 13=true → env 36 = .p (i64 c))∧(L 14=true → env 37 = .p (.sl false 1 (pl i64 (l.drop c))))∧(L 15=true → env 38 = .p (.agg [i64 k,i64 hi,.sl false 1 (pl i64 (l.drop c))]))∧(L 17=true → ∀ j,j < 17 → L j=true) ∧
    H'=((H.new (.cells [.p (i64 lo),.p (i64 hi),.p (.sl false 1 (pl i64 l))])).new (.cells (if L 16 then [.p (i64 lo),.p (i64 k),.p (.sl false 1 (pl i64 (l.take c)))] else [.p (i64 0),.p (i64 0),.p (.sl true 1 [])]))).new (.cells (if L 17 then [.p (i64 k),.p (i64 hi),.p (.sl false 1 (pl i64 (l.drop c)))] else [.p (i64 0),.p (i64 0),.p (.sl true 1 [])]))) follows (by kernel_rfl) ?_ ?_ ?_
  · simp (disch:=first|exact dsc|fail) only [go_sem,seval]
  · intro i o L env' H' ho hL hall hI
    obtain ⟨f1,f2,f3,f4,f5,g0,g1,g2,g3,g4,g5,g6,g7,g8,g9,g10,g11,g12,g13,g14,g15,gL,rfl⟩:=hI
    rcases i with _ | _ | _ | _ | _ | _ | _ | _ | _ | _ | _ | _ | _ | _ | _ | _ | _ | _ | i
    · have hL17:L 17=false:=by
        cases e:L 17 with | false=>rfl | true=>rw [gL e 0 (by omega)] at hL;cases hL
      cases ho
      refine opA_val (.ptr H.n 0) rfl rfl (by simp (disch:=first|exact dsc|fail) only [go_sem,seval,f1,f2,f3,f4,f5]) rfl ?_
      exact ⟨(by (try simp (disch:=first|exact dsc|fail) only [go_sem,seval]);exact f1),(by (try simp (disch:=first|exact dsc|fail) only [go_sem,seval]);exact f2),(by (try simp (disch:=first|exact dsc|fail) only [go_sem,seval]);exact f3),(by (try simp (disch:=first|exact dsc|fail) only [go_sem,seval]);exact f4),(by (try simp (disch:=first|exact dsc|fail) only [go_sem,seval]);exact f5),(fun _=>by simp (disch:=first|exact dsc|fail) only [go_sem,seval]),(fun q=>by (try simp (disch:=first|exact dsc|fail) only [go_sem,seval]);exact g1 (by simpa [more] using q)),(fun q=>by (try simp (disch:=first|exact dsc|fail) only [go_sem,seval]);exact g2 (by simpa [more] using q)),(fun q=>by (try simp (disch:=first|exact dsc|fail) only [go_sem,seval]);exact g3 (by simpa [more] using q)),(fun q=>by (try simp (disch:=first|exact dsc|fail) only [go_sem,seval]);exact g4 (by simpa [more] using q)),(fun q=>by (try simp (disch:=first|exact dsc|fail) only [go_sem,seval]);exact g5 (by simpa [more] using q)),(fun q=>by (try simp (disch:=first|exact dsc|fail) only [go_sem,seval]);exact g6 (by simpa [more] using q)),(fun q=>by (try simp (disch:=first|exact dsc|fail) only [go_sem,seval]);exact g7 (by simpa [more] using q)),(fun q=>by (try simp (disch:=first|exact dsc|fail) only [go_sem,seval]);exact g8 (by simpa [more] using q)),(fun q=>by (try simp (disch:=first|exact dsc|fail) only [go_sem,seval]);exact g9 (by simpa [more] using q)),(fun q=>by (try simp (disch:=first|exact dsc|fail) only [go_sem,seval]);exact g10 (by simpa [more] using q)),(fun q=>by (try simp (disch:=first|exact dsc|fail) only [go_sem,seval]);exact g11 (by simpa [more] using q)),(fun q=>by (try simp (disch:=first|exact dsc|fail) only [go_sem,seval]);exact g12 (by simpa [more] using q)),(fun q=>by (try simp (disch:=first|exact dsc|fail) only [go_sem,seval]);exact g13 (by simpa [more] using q)),(fun q=>by (try simp (disch:=first|exact dsc|fail) only [go_sem,seval]);exact g14 (by simpa [more] using q)),(fun q=>by (try simp (disch:=first|exact dsc|fail) only [go_sem,seval]);exact g15 (by simpa [more] using q)),(fun q=>by (have e:more L 0 17=L 17:=by simp [more]);rw [e,hL17] at q;cases q),(by (have e:more L 0 16=L 16:=by simp [more]);(have e2:more L 0 17=L 17:=by simp [more]);rw [e,e2])⟩
    · have hL17:L 17=false:=by
        cases e:L 17 with | false=>rfl | true=>rw [gL e 1 (by omega)] at hL;cases hL
      cases ho
      have d0:=g0 (hall ⟨0,.data⟩ (by simp) rfl)
      refine opA_val (.p (i64 lo)) rfl rfl (by simp (disch:=first|exact dsc|fail) only [go_sem,seval,f1,f2,f3,f4,f5,d0]) rfl ?_
      exact ⟨(by (try simp (disch:=first|exact dsc|fail) only [go_sem,seval]);exact f1),(by (try simp (disch:=first|exact dsc|fail) only [go_sem,seval]);exact f2),(by (try simp (disch:=first|exact dsc|fail) only [go_sem,seval]);exact f3),(by (try simp (disch:=first|exact dsc|fail) only [go_sem,seval]);exact f4),(by (try simp (disch:=first|exact dsc|fail) only [go_sem,seval]);exact f5),(fun q=>by (try simp (disch:=first|exact dsc|fail) only [go_sem,seval]);exact g0 (by simpa [more] using q)),(fun _=>by simp (disch:=first|exact dsc|fail) only [go_sem,seval]),(fun q=>by (try simp (disch:=first|exact dsc|fail) only [go_sem,seval]);exact g2 (by simpa [more] using q)),(fun q=>by (try simp (disch:=first|exact dsc|fail) only [go_sem,seval]);exact g3 (by simpa [more] using q)),(fun q=>by (try simp (disch:=first|exact dsc|fail) only [go_sem,seval]);exact g4 (by simpa [more] using q)),(fun q=>by (try simp (disch:=first|exact dsc|fail) only [go_sem,seval]);exact g5 (by simpa [more] using q)),(fun q=>by (try simp (disch:=first|exact dsc|fail) only [go_sem,seval]);exact g6 (by simpa [more] using q)),(fun q=>by (try simp (disch:=first|exact dsc|fail) only [go_sem,seval]);exact g7 (by simpa [more] using q)),(fun q=>by (try simp (disch:=first|exact dsc|fail) only [go_sem,seval]);exact g8 (by simpa [more] using q)),(fun q=>by (try simp (disch:=first|exact dsc|fail) only [go_sem,seval]);exact g9 (by simpa [more] using q)),(fun q=>by (try simp (disch:=first|exact dsc|fail) only [go_sem,seval]);exact g10 (by simpa [more] using q)),(fun q=>by (try simp (disch:=first|exact dsc|fail) only [go_sem,seval]);exact g11 (by simpa [more] using q)),(fun q=>by (try simp (disch:=first|exact dsc|fail) only [go_sem,seval]);exact g12 (by simpa [more] using q)),(fun q=>by (try simp (disch:=first|exact dsc|fail) only [go_sem,seval]);exact g13 (by simpa [more] using q)),(fun q=>by (try simp (disch:=first|exact dsc|fail) only [go_sem,seval]);exact g14 (by simpa [more] using q)),(fun q=>by (try simp (disch:=first|exact dsc|fail) only [go_sem,seval]);exact g15 (by simpa [more] using q)),(fun q=>by (have e:more L 1 17=L 17:=by simp [more]);rw [e,hL17] at q;cases q),(by (have e:more L 1 16=L 16:=by simp [more]);(have e2:more L 1 17=L 17:=by simp [more]);rw [e,e2])⟩
    · have hL17:L 17=false:=by
        cases e:L 17 with | false=>rfl | true=>rw [gL e 2 (by omega)] at hL;cases hL
      cases ho
      refine opA_val (.p (i64 k)) rfl rfl (by simp (disch:=first|exact dsc|fail) only [go_sem,seval,f1,f2,f3,f4,f5]) rfl ?_
      exact ⟨(by (try simp (disch:=first|exact dsc|fail) only [go_sem,seval]);exact f1),(by (try simp (disch:=first|exact dsc|fail) only [go_sem,seval]);exact f2),(by (try simp (disch:=first|exact dsc|fail) only [go_sem,seval]);exact f3),(by (try simp (disch:=first|exact dsc|fail) only [go_sem,seval]);exact f4),(by (try simp (disch:=first|exact dsc|fail) only [go_sem,seval]);exact f5),(fun q=>by (try simp (disch:=first|exact dsc|fail) only [go_sem,seval]);exact g0 (by simpa [more] using q)),(fun q=>by (try simp (disch:=first|exact dsc|fail) only [go_sem,seval]);exact g1 (by simpa [more] using q)),(fun _=>by simp (disch:=first|exact dsc|fail) only [go_sem,seval]),(fun q=>by (try simp (disch:=first|exact dsc|fail) only [go_sem,seval]);exact g3 (by simpa [more] using q)),(fun q=>by (try simp (disch:=first|exact dsc|fail) only [go_sem,seval]);exact g4 (by simpa [more] using q)),(fun q=>by (try simp (disch:=first|exact dsc|fail) only [go_sem,seval]);exact g5 (by simpa [more] using q)),(fun q=>by (try simp (disch:=first|exact dsc|fail) only [go_sem,seval]);exact g6 (by simpa [more] using q)),(fun q=>by (try simp (disch:=first|exact dsc|fail) only [go_sem,seval]);exact g7 (by simpa [more] using q)),(fun q=>by (try simp (disch:=first|exact dsc|fail) only [go_sem,seval]);exact g8 (by simpa [more] using q)),(fun q=>by (try simp (disch:=first|exact dsc|fail) only [go_sem,seval]);exact g9 (by simpa [more] using q)),(fun q=>by (try simp (disch:=first|exact dsc|fail) only [go_sem,seval]);exact g10 (by simpa [more] using q)),(fun q=>by (try simp (disch:=first|exact dsc|fail) only [go_sem,seval]);exact g11 (by simpa [more] using q)),(fun q=>by (try simp (disch:=first|exact dsc|fail) only [go_sem,seval]);exact g12 (by simpa [more] using q)),(fun q=>by (try simp (disch:=first|exact dsc|fail) only [go_sem,seval]);exact g13 (by simpa [more] using q)),(fun q=>by (try simp (disch:=first|exact dsc|fail) only [go_sem,seval]);exact g14 (by simpa [more] using q)),(fun q=>by (try simp (disch:=first|exact dsc|fail) only [go_sem,seval]);exact g15 (by simpa [more] using q)),(fun q=>by (have e:more L 2 17=L 17:=by simp [more]);rw [e,hL17] at q;cases q),(by (have e:more L 2 16=L 16:=by simp [more]);(have e2:more L 2 17=L 17:=by simp [more]);rw [e,e2])⟩
    · have hL17:L 17=false:=by
        cases e:L 17 with | false=>rfl | true=>rw [gL e 3 (by omega)] at hL;cases hL
      cases ho
      refine opA_val (.ptr H.n 2) rfl rfl (by simp (disch:=first|exact dsc|fail) only [go_sem,seval,f1,f2,f3,f4,f5]) rfl ?_
      exact ⟨(by (try simp (disch:=first|exact dsc|fail) only [go_sem,seval]);exact f1),(by (try simp (disch:=first|exact dsc|fail) only [go_sem,seval]);exact f2),(by (try simp (disch:=first|exact dsc|fail) only [go_sem,seval]);exact f3),(by (try simp (disch:=first|exact dsc|fail) only [go_sem,seval]);exact f4),(by (try simp (disch:=first|exact dsc|fail) only [go_sem,seval]);exact f5),(fun q=>by (try simp (disch:=first|exact dsc|fail) only [go_sem,seval]);exact g0 (by simpa [more] using q)),(fun q=>by (try simp (disch:=first|exact dsc|fail) only [go_sem,seval]);exact g1 (by simpa [more] using q)),(fun q=>by (try simp (disch:=first|exact dsc|fail) only [go_sem,seval]);exact g2 (by simpa [more] using q)),(fun _=>by simp (disch:=first|exact dsc|fail) only [go_sem,seval]),(fun q=>by (try simp (disch:=first|exact dsc|fail) only [go_sem,seval]);exact g4 (by simpa [more] using q)),(fun q=>by (try simp (disch:=first|exact dsc|fail) only [go_sem,seval]);exact g5 (by simpa [more] using q)),(fun q=>by (try simp (disch:=first|exact dsc|fail) only [go_sem,seval]);exact g6 (by simpa [more] using q)),(fun q=>by (try simp (disch:=first|exact dsc|fail) only [go_sem,seval]);exact g7 (by simpa [more] using q)),(fun q=>by (try simp (disch:=first|exact dsc|fail) only [go_sem,seval]);exact g8 (by simpa [more] using q)),(fun q=>by (try simp (disch:=first|exact dsc|fail) only [go_sem,seval]);exact g9 (by simpa [more] using q)),(fun q=>by (try simp (disch:=first|exact dsc|fail) only [go_sem,seval]);exact g10 (by simpa [more] using q)),(fun q=>by (try simp (disch:=first|exact dsc|fail) only [go_sem,seval]);exact g11 (by simpa [more] using q)),(fun q=>by (try simp (disch:=first|exact dsc|fail) only [go_sem,seval]);exact g12 (by simpa [more] using q)),(fun q=>by (try simp (disch:=first|exact dsc|fail) only [go_sem,seval]);exact g13 (by simpa [more] using q)),(fun q=>by (try simp (disch:=first|exact dsc|fail) only [go_sem,seval]);exact g14 (by simpa [more] using q)),(fun q=>by (try simp (disch:=first|exact dsc|fail) only [go_sem,seval]);exact g15 (by simpa [more] using q)),(fun q=>by (have e:more L 3 17=L 17:=by simp [more]);rw [e,hL17] at q;cases q),(by (have e:more L 3 16=L 16:=by simp [more]);(have e2:more L 3 17=L 17:=by simp [more]);rw [e,e2])⟩
    · have hL17:L 17=false:=by
        cases e:L 17 with | false=>rfl | true=>rw [gL e 4 (by omega)] at hL;cases hL
      cases ho
      have d3:=g3 (hall ⟨3,.data⟩ (by simp) rfl)
      refine opA_val (.p (.sl false 1 (pl i64 l))) rfl rfl (by simp (disch:=first|exact dsc|fail) only [go_sem,seval,f1,f2,f3,f4,f5,d3]) rfl ?_
      exact ⟨(by (try simp (disch:=first|exact dsc|fail) only [go_sem,seval]);exact f1),(by (try simp (disch:=first|exact dsc|fail) only [go_sem,seval]);exact f2),(by (try simp (disch:=first|exact dsc|fail) only [go_sem,seval]);exact f3),(by (try simp (disch:=first|exact dsc|fail) only [go_sem,seval]);exact f4),(by (try simp (disch:=first|exact dsc|fail) only [go_sem,seval]);exact f5),(fun q=>by (try simp (disch:=first|exact dsc|fail) only [go_sem,seval]);exact g0 (by simpa [more] using q)),(fun q=>by (try simp (disch:=first|exact dsc|fail) only [go_sem,seval]);exact g1 (by simpa [more] using q)),(fun q=>by (try simp (disch:=first|exact dsc|fail) only [go_sem,seval]);exact g2 (by simpa [more] using q)),(fun q=>by (try simp (disch:=first|exact dsc|fail) only [go_sem,seval]);exact g3 (by simpa [more] using q)),(fun _=>by simp (disch:=first|exact dsc|fail) only [go_sem,seval]),(fun q=>by (try simp (disch:=first|exact dsc|fail) only [go_sem,seval]);exact g5 (by simpa [more] using q)),(fun q=>by (try simp (disch:=first|exact dsc|fail) only [go_sem,seval]);exact g6 (by simpa [more] using q)),(fun q=>by (try simp (disch:=first|exact dsc|fail) only [go_sem,seval]);exact g7 (by simpa [more] using q)),(fun q=>by (try simp (disch:=first|exact dsc|fail) only [go_sem,seval]);exact g8 (by simpa [more] using q)),(fun q=>by (try simp (disch:=first|exact dsc|fail) only [go_sem,seval]);exact g9 (by simpa [more] using q)),(fun q=>by (try simp (disch:=first|exact dsc|fail) only [go_sem,seval]);exact g10 (by simpa [more] using q)),(fun q=>by (try simp (disch:=first|exact dsc|fail) only [go_sem,seval]);exact g11 (by simpa [more] using q)),(fun q=>by (try simp (disch:=first|exact dsc|fail) only [go_sem,seval]);exact g12 (by simpa [more] using q)),(fun q=>by (try simp (disch:=first|exact dsc|fail) only [go_sem,seval]);exact g13 (by simpa [more] using q)),(fun q=>by (try simp (disch:=first|exact dsc|fail) only [go_sem,seval]);exact g14 (by simpa [more] using q)),(fun q=>by (try simp (disch:=first|exact dsc|fail) only [go_sem,seval]);exact g15 (by simpa [more] using q)),(fun q=>by (have e:more L 4 17=L 17:=by simp [more]);rw [e,hL17] at q;cases q),(by (have e:more L 4 16=L 16:=by simp [more]);(have e2:more L 4 17=L 17:=by simp [more]);rw [e,e2])⟩
    · have hL17:L 17=false:=by
        cases e:L 17 with | false=>rfl | true=>rw [gL e 5 (by omega)] at hL;cases hL
      cases ho
      refine opA_val (.p (i64 c)) rfl rfl (by simp (disch:=first|exact dsc|fail) only [go_sem,seval,f1,f2,f3,f4,f5]) rfl ?_
      exact ⟨(by (try simp (disch:=first|exact dsc|fail) only [go_sem,seval]);exact f1),(by (try simp (disch:=first|exact dsc|fail) only [go_sem,seval]);exact f2),(by (try simp (disch:=first|exact dsc|fail) only [go_sem,seval]);exact f3),(by (try simp (disch:=first|exact dsc|fail) only [go_sem,seval]);exact f4),(by (try simp (disch:=first|exact dsc|fail) only [go_sem,seval]);exact f5),(fun q=>by (try simp (disch:=first|exact dsc|fail) only [go_sem,seval]);exact g0 (by simpa [more] using q)),(fun q=>by (try simp (disch:=first|exact dsc|fail) only [go_sem,seval]);exact g1 (by simpa [more] using q)),(fun q=>by (try simp (disch:=first|exact dsc|fail) only [go_sem,seval]);exact g2 (by simpa [more] using q)),(fun q=>by (try simp (disch:=first|exact dsc|fail) only [go_sem,seval]);exact g3 (by simpa [more] using q)),(fun q=>by (try simp (disch:=first|exact dsc|fail) only [go_sem,seval]);exact g4 (by simpa [more] using q)),(fun _=>by simp (disch:=first|exact dsc|fail) only [go_sem,seval]),(fun q=>by (try simp (disch:=first|exact dsc|fail) only [go_sem,seval]);exact g6 (by simpa [more] using q)),(fun q=>by (try simp (disch:=first|exact dsc|fail) only [go_sem,seval]);exact g7 (by simpa [more] using q)),(fun q=>by (try simp (disch:=first|exact dsc|fail) only [go_sem,seval]);exact g8 (by simpa [more] using q)),(fun q=>by (try simp (disch:=first|exact dsc|fail) only [go_sem,seval]);exact g9 (by simpa [more] using q)),(fun q=>by (try simp (disch:=first|exact dsc|fail) only [go_sem,seval]);exact g10 (by simpa [more] using q)),(fun q=>by (try simp (disch:=first|exact dsc|fail) only [go_sem,seval]);exact g11 (by simpa [more] using q)),(fun q=>by (try simp (disch:=first|exact dsc|fail) only [go_sem,seval]);exact g12 (by simpa [more] using q)),(fun q=>by (try simp (disch:=first|exact dsc|fail) only [go_sem,seval]);exact g13 (by simpa [more] using q)),(fun q=>by (try simp (disch:=first|exact dsc|fail) only [go_sem,seval]);exact g14 (by simpa [more] using q)),(fun q=>by (try simp (disch:=first|exact dsc|fail) only [go_sem,seval]);exact g15 (by simpa [more] using q)),(fun q=>by (have e:more L 5 17=L 17:=by simp [more]);rw [e,hL17] at q;cases q),(by (have e:more L 5 16=L 16:=by simp [more]);(have e2:more L 5 17=L 17:=by simp [more]);rw [e,e2])⟩
    · have hL17:L 17=false:=by
        cases e:L 17 with | false=>rfl | true=>rw [gL e 6 (by omega)] at hL;cases hL
      cases ho
      have d4:=g4 (hall ⟨4,.data⟩ (by simp) rfl)
      have d5:=g5 (hall ⟨5,.data⟩ (by simp) rfl)
      refine opA_val (.p (.sl false 1 (pl i64 (l.take c)))) rfl rfl (by simp (disch:=first|exact dsc|fail) only [go_sem,seval,f1,f2,f3,f4,f5,d4,d5]) rfl ?_
      exact ⟨(by (try simp (disch:=first|exact dsc|fail) only [go_sem,seval]);exact f1),(by (try simp (disch:=first|exact dsc|fail) only [go_sem,seval]);exact f2),(by (try simp (disch:=first|exact dsc|fail) only [go_sem,seval]);exact f3),(by (try simp (disch:=first|exact dsc|fail) only [go_sem,seval]);exact f4),(by (try simp (disch:=first|exact dsc|fail) only [go_sem,seval]);exact f5),(fun q=>by (try simp (disch:=first|exact dsc|fail) only [go_sem,seval]);exact g0 (by simpa [more] using q)),(fun q=>by (try simp (disch:=first|exact dsc|fail) only [go_sem,seval]);exact g1 (by simpa [more] using q)),(fun q=>by (try simp (disch:=first|exact dsc|fail) only [go_sem,seval]);exact g2 (by simpa [more] using q)),(fun q=>by (try simp (disch:=first|exact dsc|fail) only [go_sem,seval]);exact g3 (by simpa [more] using q)),(fun q=>by (try simp (disch:=first|exact dsc|fail) only [go_sem,seval]);exact g4 (by simpa [more] using q)),(fun q=>by (try simp (disch:=first|exact dsc|fail) only [go_sem,seval]);exact g5 (by simpa [more] using q)),(fun _=>by simp (disch:=first|exact dsc|fail) only [go_sem,seval]),(fun q=>by (try simp (disch:=first|exact dsc|fail) only [go_sem,seval]);exact g7 (by simpa [more] using q)),(fun q=>by (try simp (disch:=first|exact dsc|fail) only [go_sem,seval]);exact g8 (by simpa [more] using q)),(fun q=>by (try simp (disch:=first|exact dsc|fail) only [go_sem,seval]);exact g9 (by simpa [more] using q)),(fun q=>by (try simp (disch:=first|exact dsc|fail) only [go_sem,seval]);exact g10 (by simpa [more] using q)),(fun q=>by (try simp (disch:=first|exact dsc|fail) only [go_sem,seval]);exact g11 (by simpa [more] using q)),(fun q=>by (try simp (disch:=first|exact dsc|fail) only [go_sem,seval]);exact g12 (by simpa [more] using q)),(fun q=>by (try simp (disch:=first|exact dsc|fail) only [go_sem,seval]);exact g13 (by simpa [more] using q)),(fun q=>by (try simp (disch:=first|exact dsc|fail) only [go_sem,seval]);exact g14 (by simpa [more] using q)),(fun q=>by (try simp (disch:=first|exact dsc|fail) only [go_sem,seval]);exact g15 (by simpa [more] using q)),(fun q=>by (have e:more L 6 17=L 17:=by simp [more]);rw [e,hL17] at q;cases q),(by (have e:more L 6 16=L 16:=by simp [more]);(have e2:more L 6 17=L 17:=by simp [more]);rw [e,e2])⟩
    · have hL17:L 17=false:=by
        cases e:L 17 with | false=>rfl | true=>rw [gL e 7 (by omega)] at hL;cases hL
      cases ho
      have d1:=g1 (hall ⟨1,.data⟩ (by simp) rfl)
      have d2:=g2 (hall ⟨2,.data⟩ (by simp) rfl)
      have d6:=g6 (hall ⟨6,.data⟩ (by simp) rfl)
      refine opA_val (.p (.agg [i64 lo,i64 k,.sl false 1 (pl i64 (l.take c))])) rfl rfl (by simp (disch:=first|exact dsc|fail) only [go_sem,seval,f1,f2,f3,f4,f5,d1,d2,d6]) rfl ?_
      exact ⟨(by (try simp (disch:=first|exact dsc|fail) only [go_sem,seval]);exact f1),(by (try simp (disch:=first|exact dsc|fail) only [go_sem,seval]);exact f2),(by (try simp (disch:=first|exact dsc|fail) only [go_sem,seval]);exact f3),(by (try simp (disch:=first|exact dsc|fail) only [go_sem,seval]);exact f4),(by (try simp (disch:=first|exact dsc|fail) only [go_sem,seval]);exact f5),(fun q=>by (try simp (disch:=first|exact dsc|fail) only [go_sem,seval]);exact g0 (by simpa [more] using q)),(fun q=>by (try simp (disch:=first|exact dsc|fail) only [go_sem,seval]);exact g1 (by simpa [more] using q)),(fun q=>by (try simp (disch:=first|exact dsc|fail) only [go_sem,seval]);exact g2 (by simpa [more] using q)),(fun q=>by (try simp (disch:=first|exact dsc|fail) only [go_sem,seval]);exact g3 (by simpa [more] using q)),(fun q=>by (try simp (disch:=first|exact dsc|fail) only [go_sem,seval]);exact g4 (by simpa [more] using q)),(fun q=>by (try simp (disch:=first|exact dsc|fail) only [go_sem,seval]);exact g5 (by simpa [more] using q)),(fun q=>by (try simp (disch:=first|exact dsc|fail) only [go_sem,seval]);exact g6 (by simpa [more] using q)),(fun _=>by simp (disch:=first|exact dsc|fail) only [go_sem,seval]),(fun q=>by (try simp (disch:=first|exact dsc|fail) only [go_sem,seval]);exact g8 (by simpa [more] using q)),(fun q=>by (try simp (disch:=first|exact dsc|fail) only [go_sem,seval]);exact g9 (by simpa [more] using q)),(fun q=>by (try simp (disch:=first|exact dsc|fail) only [go_sem,seval]);exact g10 (by simpa [more] using q)),(fun q=>by (try simp (disch:=first|exact dsc|fail) only [go_sem,seval]);exact g11 (by simpa [more] using q)),(fun q=>by (try simp (disch:=first|exact dsc|fail) only [go_sem,seval]);exact g12 (by simpa [more] using q)),(fun q=>by (try simp (disch:=first|exact dsc|fail) only [go_sem,seval]);exact g13 (by simpa [more] using q)),(fun q=>by (try simp (disch:=first|exact dsc|fail) only [go_sem,seval]);exact g14 (by simpa [more] using q)),(fun q=>by (try simp (disch:=first|exact dsc|fail) only [go_sem,seval]);exact g15 (by simpa [more] using q)),(fun q=>by (have e:more L 7 17=L 17:=by simp [more]);rw [e,hL17] at q;cases q),(by (have e:more L 7 16=L 16:=by simp [more]);(have e2:more L 7 17=L 17:=by simp [more]);rw [e,e2])⟩
    · have hL17:L 17=false:=by
        cases e:L 17 with | false=>rfl | true=>rw [gL e 8 (by omega)] at hL;cases hL
      cases ho
      refine opA_val (.p (i64 k)) rfl rfl (by simp (disch:=first|exact dsc|fail) only [go_sem,seval,f1,f2,f3,f4,f5]) rfl ?_
      exact ⟨(by (try simp (disch:=first|exact dsc|fail) only [go_sem,seval]);exact f1),(by (try simp (disch:=first|exact dsc|fail) only [go_sem,seval]);exact f2),(by (try simp (disch:=first|exact dsc|fail) only [go_sem,seval]);exact f3),(by (try simp (disch:=first|exact dsc|fail) only [go_sem,seval]);exact f4),(by (try simp (disch:=first|exact dsc|fail) only [go_sem,seval]);exact f5),(fun q=>by (try simp (disch:=first|exact dsc|fail) only [go_sem,seval]);exact g0 (by simpa [more] using q)),(fun q=>by (try simp (disch:=first|exact dsc|fail) only [go_sem,seval]);exact g1 (by simpa [more] using q)),(fun q=>by (try simp (disch:=first|exact dsc|fail) only [go_sem,seval]);exact g2 (by simpa [more] using q)),(fun q=>by (try simp (disch:=first|exact dsc|fail) only [go_sem,seval]);exact g3 (by simpa [more] using q)),(fun q=>by (try simp (disch:=first|exact dsc|fail) only [go_sem,seval]);exact g4 (by simpa [more] using q)),(fun q=>by (try simp (disch:=first|exact dsc|fail) only [go_sem,seval]);exact g5 (by simpa [more] using q)),(fun q=>by (try simp (disch:=first|exact dsc|fail) only [go_sem,seval]);exact g6 (by simpa [more] using q)),(fun q=>by (try simp (disch:=first|exact dsc|fail) only [go_sem,seval]);exact g7 (by simpa [more] using q)),(fun _=>by simp (disch:=first|exact dsc|fail) only [go_sem,seval]),(fun q=>by (try simp (disch:=first|exact dsc|fail) only [go_sem,seval]);exact g9 (by simpa [more] using q)),(fun q=>by (try simp (disch:=first|exact dsc|fail) only [go_sem,seval]);exact g10 (by simpa [more] using q)),(fun q=>by (try simp (disch:=first|exact dsc|fail) only [go_sem,seval]);exact g11 (by simpa [more] using q)),(fun q=>by (try simp (disch:=first|exact dsc|fail) only [go_sem,seval]);exact g12 (by simpa [more] using q)),(fun q=>by (try simp (disch:=first|exact dsc|fail) only [go_sem,seval]);exact g13 (by simpa [more] using q)),(fun q=>by (try simp (disch:=first|exact dsc|fail) only [go_sem,seval]);exact g14 (by simpa [more] using q)),(fun q=>by (try simp (disch:=first|exact dsc|fail) only [go_sem,seval]);exact g15 (by simpa [more] using q)),(fun q=>by (have e:more L 8 17=L 17:=by simp [more]);rw [e,hL17] at q;cases q),(by (have e:more L 8 16=L 16:=by simp [more]);(have e2:more L 8 17=L 17:=by simp [more]);rw [e,e2])⟩
    · have hL17:L 17=false:=by
        cases e:L 17 with | false=>rfl | true=>rw [gL e 9 (by omega)] at hL;cases hL
      cases ho
      refine opA_val (.ptr H.n 1) rfl rfl (by simp (disch:=first|exact dsc|fail) only [go_sem,seval,f1,f2,f3,f4,f5]) rfl ?_
      exact ⟨(by (try simp (disch:=first|exact dsc|fail) only [go_sem,seval]);exact f1),(by (try simp (disch:=first|exact dsc|fail) only [go_sem,seval]);exact f2),(by (try simp (disch:=first|exact dsc|fail) only [go_sem,seval]);exact f3),(by (try simp (disch:=first|exact dsc|fail) only [go_sem,seval]);exact f4),(by (try simp (disch:=first|exact dsc|fail) only [go_sem,seval]);exact f5),(fun q=>by (try simp (disch:=first|exact dsc|fail) only [go_sem,seval]);exact g0 (by simpa [more] using q)),(fun q=>by (try simp (disch:=first|exact dsc|fail) only [go_sem,seval]);exact g1 (by simpa [more] using q)),(fun q=>by (try simp (disch:=first|exact dsc|fail) only [go_sem,seval]);exact g2 (by simpa [more] using q)),(fun q=>by (try simp (disch:=first|exact dsc|fail) only [go_sem,seval]);exact g3 (by simpa [more] using q)),(fun q=>by (try simp (disch:=first|exact dsc|fail) only [go_sem,seval]);exact g4 (by simpa [more] using q)),(fun q=>by (try simp (disch:=first|exact dsc|fail) only [go_sem,seval]);exact g5 (by simpa [more] using q)),(fun q=>by (try simp (disch:=first|exact dsc|fail) only [go_sem,seval]);exact g6 (by simpa [more] using q)),(fun q=>by (try simp (disch:=first|exact dsc|fail) only [go_sem,seval]);exact g7 (by simpa [more] using q)),(fun q=>by (try simp (disch:=first|exact dsc|fail) only [go_sem,seval]);exact g8 (by simpa [more] using q)),(fun _=>by simp (disch:=first|exact dsc|fail) only [go_sem,seval]),(fun q=>by (try simp (disch:=first|exact dsc|fail) only [go_sem,seval]);exact g10 (by simpa [more] using q)),(fun q=>by (try simp (disch:=first|exact dsc|fail) only [go_sem,seval]);exact g11 (by simpa [more] using q)),(fun q=>by (try simp (disch:=first|exact dsc|fail) only [go_sem,seval]);exact g12 (by simpa [more] using q)),(fun q=>by (try simp (disch:=first|exact dsc|fail) only [go_sem,seval]);exact g13 (by simpa [more] using q)),(fun q=>by (try simp (disch:=first|exact dsc|fail) only [go_sem,seval]);exact g14 (by simpa [more] using q)),(fun q=>by (try simp (disch:=first|exact dsc|fail) only [go_sem,seval]);exact g15 (by simpa [more] using q)),(fun q=>by (have e:more L 9 17=L 17:=by simp [more]);rw [e,hL17] at q;cases q),(by (have e:more L 9 16=L 16:=by simp [more]);(have e2:more L 9 17=L 17:=by simp [more]);rw [e,e2])⟩
    · have hL17:L 17=false:=by
        cases e:L 17 with | false=>rfl | true=>rw [gL e 10 (by omega)] at hL;cases hL
      cases ho
      have d9:=g9 (hall ⟨9,.data⟩ (by simp) rfl)
      refine opA_val (.p (i64 hi)) rfl rfl (by simp (disch:=first|exact dsc|fail) only [go_sem,seval,f1,f2,f3,f4,f5,d9]) rfl ?_
      exact ⟨(by (try simp (disch:=first|exact dsc|fail) only [go_sem,seval]);exact f1),(by (try simp (disch:=first|exact dsc|fail) only [go_sem,seval]);exact f2),(by (try simp (disch:=first|exact dsc|fail) only [go_sem,seval]);exact f3),(by (try simp (disch:=first|exact dsc|fail) only [go_sem,seval]);exact f4),(by (try simp (disch:=first|exact dsc|fail) only [go_sem,seval]);exact f5),(fun q=>by (try simp (disch:=first|exact dsc|fail) only [go_sem,seval]);exact g0 (by simpa [more] using q)),(fun q=>by (try simp (disch:=first|exact dsc|fail) only [go_sem,seval]);exact g1 (by simpa [more] using q)),(fun q=>by (try simp (disch:=first|exact dsc|fail) only [go_sem,seval]);exact g2 (by simpa [more] using q)),(fun q=>by (try simp (disch:=first|exact dsc|fail) only [go_sem,seval]);exact g3 (by simpa [more] using q)),(fun q=>by (try simp (disch:=first|exact dsc|fail) only [go_sem,seval]);exact g4 (by simpa [more] using q)),(fun q=>by (try simp (disch:=first|exact dsc|fail) only [go_sem,seval]);exact g5 (by simpa [more] using q)),(fun q=>by (try simp (disch:=first|exact dsc|fail) only [go_sem,seval]);exact g6 (by simpa [more] using q)),(fun q=>by (try simp (disch:=first|exact dsc|fail) only [go_sem,seval]);exact g7 (by simpa [more] using q)),(fun q=>by (try simp (disch:=first|exact dsc|fail) only [go_sem,seval]);exact g8 (by simpa [more] using q)),(fun q=>by (try simp (disch:=first|exact dsc|fail) only [go_sem,seval]);exact g9 (by simpa [more] using q)),(fun _=>by simp (disch:=first|exact dsc|fail) only [go_sem,seval]),(fun q=>by (try simp (disch:=first|exact dsc|fail) only [go_sem,seval]);exact g11 (by simpa [more] using q)),(fun q=>by (try simp (disch:=first|exact dsc|fail) only [go_sem,seval]);exact g12 (by simpa [more] using q)),(fun q=>by (try simp (disch:=first|exact dsc|fail) only [go_sem,seval]);exact g13 (by simpa [more] using q)),(fun q=>by (try simp (disch:=first|exact dsc|fail) only [go_sem,seval]);exact g14 (by simpa [more] using q)),(fun q=>by (try simp (disch:=first|exact dsc|fail) only [go_sem,seval]);exact g15 (by simpa [more] using q)),(fun q=>by (have e:more L 10 17=L 17:=by simp [more]);rw [e,hL17] at q;cases q),(by (have e:more L 10 16=L 16:=by simp [more]);(have e2:more L 10 17=L 17:=by simp [more]);rw [e,e2])⟩
    · have hL17:L 17=false:=by
        cases e:L 17 with | false=>rfl | true=>rw [gL e 11 (by omega)] at hL;cases hL
      cases ho
      refine opA_val (.ptr H.n 2) rfl rfl (by simp (disch:=first|exact dsc|fail) only [go_sem,seval,f1,f2,f3,f4,f5]) rfl ?_
      exact ⟨(by (try simp (disch:=first|exact dsc|fail) only [go_sem,seval]);exact f1),(by (try simp (disch:=first|exact dsc|fail) only [go_sem,seval]);exact f2),(by (try simp (disch:=first|exact dsc|fail) only [go_sem,seval]);exact f3),(by (try simp (disch:=first|exact dsc|fail) only [go_sem,seval]);exact f4),(by (try simp (disch:=first|exact dsc|fail) only [go_sem,seval]);exact f5),(fun q=>by (try simp (disch:=first|exact dsc|fail) only [go_sem,seval]);exact g0 (by simpa [more] using q)),(fun q=>by (try simp (disch:=first|exact dsc|fail) only [go_sem,seval]);exact g1 (by simpa [more] using q)),(fun q=>by (try simp (disch:=first|exact dsc|fail) only [go_sem,seval]);exact g2 (by simpa [more] using q)),(fun q=>by (try simp (disch:=first|exact dsc|fail) only [go_sem,seval]);exact g3 (by simpa [more] using q)),(fun q=>by (try simp (disch:=first|exact dsc|fail) only [go_sem,seval]);exact g4 (by simpa [more] using q)),(fun q=>by (try simp (disch:=first|exact dsc|fail) only [go_sem,seval]);exact g5 (by simpa [more] using q)),(fun q=>by (try simp (disch:=first|exact dsc|fail) only [go_sem,seval]);exact g6 (by simpa [more] using q)),(fun q=>by (try simp (disch:=first|exact dsc|fail) only [go_sem,seval]);exact g7 (by simpa [more] using q)),(fun q=>by (try simp (disch:=first|exact dsc|fail) only [go_sem,seval]);exact g8 (by simpa [more] using q)),(fun q=>by (try simp (disch:=first|exact dsc|fail) only [go_sem,seval]);exact g9 (by simpa [more] using q)),(fun q=>by (try simp (disch:=first|exact dsc|fail) only [go_sem,seval]);exact g10 (by simpa [more] using q)),(fun _=>by simp (disch:=first|exact dsc|fail) only [go_sem,seval]),(fun q=>by (try simp (disch:=first|exact dsc|fail) only [go_sem,seval]);exact g12 (by simpa [more] using q)),(fun q=>by (try simp (disch:=first|exact dsc|fail) only [go_sem,seval]);exact g13 (by simpa [more] using q)),(fun q=>by (try simp (disch:=first|exact dsc|fail) only [go_sem,seval]);exact g14 (by simpa [more] using q)),(fun q=>by (try simp (disch:=first|exact dsc|fail) only [go_sem,seval]);exact g15 (by simpa [more] using q)),(fun q=>by (have e:more L 11 17=L 17:=by simp [more]);rw [e,hL17] at q;cases q),(by (have e:more L 11 16=L 16:=by simp [more]);(have e2:more L 11 17=L 17:=by simp [more]);rw [e,e2])⟩
    · have hL17:L 17=false:=by
        cases e:L 17 with | false=>rfl | true=>rw [gL e 12 (by omega)] at hL;cases hL
      cases ho
      have d11:=g11 (hall ⟨11,.data⟩ (by simp) rfl)
      refine opA_val (.p (.sl false 1 (pl i64 l))) rfl rfl (by simp (disch:=first|exact dsc|fail) only [go_sem,seval,f1,f2,f3,f4,f5,d11]) rfl ?_
      exact ⟨(by (try simp (disch:=first|exact dsc|fail) only [go_sem,seval]);exact f1),(by (try simp (disch:=first|exact dsc|fail) only [go_sem,seval]);exact f2),(by (try simp (disch:=first|exact dsc|fail) only [go_sem,seval]);exact f3),(by (try simp (disch:=first|exact dsc|fail) only [go_sem,seval]);exact f4),(by (try simp (disch:=first|exact dsc|fail) only [go_sem,seval]);exact f5),(fun q=>by (try simp (disch:=first|exact dsc|fail) only [go_sem,seval]);exact g0 (by simpa [more] using q)),(fun q=>by (try simp (disch:=first|exact dsc|fail) only [go_sem,seval]);exact g1 (by simpa [more] using q)),(fun q=>by (try simp (disch:=first|exact dsc|fail) only [go_sem,seval]);exact g2 (by simpa [more] using q)),(fun q=>by (try simp (disch:=first|exact dsc|fail) only [go_sem,seval]);exact g3 (by simpa [more] using q)),(fun q=>by (try simp (disch:=first|exact dsc|fail) only [go_sem,seval]);exact g4 (by simpa [more] using q)),(fun q=>by (try simp (disch:=first|exact dsc|fail) only [go_sem,seval]);exact g5 (by simpa [more] using q)),(fun q=>by (try simp (disch:=first|exact dsc|fail) only [go_sem,seval]);exact g6 (by simpa [more] using q)),(fun q=>by (try simp (disch:=first|exact dsc|fail) only [go_sem,seval]);exact g7 (by simpa [more] using q)),(fun q=>by (try simp (disch:=first|exact dsc|fail) only [go_sem,seval]);exact g8 (by simpa [more] using q)),(fun q=>by (try simp (disch:=first|exact dsc|fail) only [go_sem,seval]);exact g9 (by simpa [more] using q)),(fun q=>by (try simp (disch:=first|exact dsc|fail) only [go_sem,seval]);exact g10 (by simpa [more] using q)),(fun q=>by (try simp (disch:=first|exact dsc|fail) only [go_sem,seval]);exact g11 (by simpa [more] using q)),(fun _=>by simp (disch:=first|exact dsc|fail) only [go_sem,seval]),(fun q=>by (try simp (disch:=first|exact dsc|fail) only [go_sem,seval]);exact g13 (by simpa [more] using q)),(fun q=>by (try simp (disch:=first|exact dsc|fail) only [go_sem,seval]);exact g14 (by simpa [more] using q)),(fun q=>by (try simp (disch:=first|exact dsc|fail) only [go_sem,seval]);exact g15 (by simpa [more] using q)),(fun q=>by (have e:more L 12 17=L 17:=by simp [more]);rw [e,hL17] at q;cases q),(by (have e:more L 12 16=L 16:=by simp [more]);(have e2:more L 12 17=L 17:=by simp [more]);rw [e,e2])⟩
    · have hL17:L 17=false:=by
        cases e:L 17 with | false=>rfl | true=>rw [gL e 13 (by omega)] at hL;cases hL
      cases ho
      refine opA_val (.p (i64 c)) rfl rfl (by simp (disch:=first|exact dsc|fail) only [go_sem,seval,f1,f2,f3,f4,f5]) rfl ?_
      exact ⟨(by (try simp (disch:=first|exact dsc|fail) only [go_sem,seval]);exact f1),(by (try simp (disch:=first|exact dsc|fail) only [go_sem,seval]);exact f2),(by (try simp (disch:=first|exact dsc|fail) only [go_sem,seval]);exact f3),(by (try simp (disch:=first|exact dsc|fail) only [go_sem,seval]);exact f4),(by (try simp (disch:=first|exact dsc|fail) only [go_sem,seval]);exact f5),(fun q=>by (try simp (disch:=first|exact dsc|fail) only [go_sem,seval]);exact g0 (by simpa [more] using q)),(fun q=>by (try simp (disch:=first|exact dsc|fail) only [go_sem,seval]);exact g1 (by simpa [more] using q)),(fun q=>by (try simp (disch:=first|exact dsc|fail) only [go_sem,seval]);exact g2 (by simpa [more] using q)),(fun q=>by (try simp (disch:=first|exact dsc|fail) only [go_sem,seval]);exact g3 (by simpa [more] using q)),(fun q=>by (try simp (disch:=first|exact dsc|fail) only [go_sem,seval]);exact g4 (by simpa [more] using q)),(fun q=>by (try simp (disch:=first|exact dsc|fail) only [go_sem,seval]);exact g5 (by simpa [more] using q)),(fun q=>by (try simp (disch:=first|exact dsc|fail) only [go_sem,seval]);exact g6 (by simpa [more] using q)),(fun q=>by (try simp (disch:=first|exact dsc|fail) only [go_sem,seval]);exact g7 (by simpa [more] using q)),(fun q=>by (try simp (disch:=first|exact dsc|fail) only [go_sem,seval]);exact g8 (by simpa [more] using q)),(fun q=>by (try simp (disch:=first|exact dsc|fail) only [go_sem,seval]);exact g9 (by simpa [more] using q)),(fun q=>by (try simp (disch:=first|exact dsc|fail) only [go_sem,seval]);exact g10 (by simpa [more] using q)),(fun q=>by (try simp (disch:=first|exact dsc|fail) only [go_sem,seval]);exact g11 (by simpa [more] using q)),(fun q=>by (try simp (disch:=first|exact dsc|fail) only [go_sem,seval]);exact g12 (by simpa [more] using q)),(fun _=>by simp (disch:=first|exact dsc|fail) only [go_sem,seval]),(fun q=>by (try simp (disch:=first|exact dsc|fail) only [go_sem,seval]);exact g14 (by simpa [more] using q)),(fun q=>by (try simp (disch:=first|exact dsc|fail) only [go_sem,seval]);exact g15 (by simpa [more] using q)),(fun q=>by (have e:more L 13 17=L 17:=by simp [more]);rw [e,hL17] at q;cases q),(by (have e:more L 13 16=L 16:=by simp [more]);(have e2:more L 13 17=L 17:=by simp [more]);rw [e,e2])⟩
    · have hL17:L 17=false:=by
        cases e:L 17 with | false=>rfl | true=>rw [gL e 14 (by omega)] at hL;cases hL
      cases ho
      have d12:=g12 (hall ⟨12,.data⟩ (by simp) rfl)
      have d13:=g13 (hall ⟨13,.data⟩ (by simp) rfl)
      refine opA_val (.p (.sl false 1 (pl i64 (l.drop c)))) rfl rfl (by simp (disch:=first|exact dsc|fail) only [go_sem,seval,f1,f2,f3,f4,f5,d12,d13]) rfl ?_
      exact ⟨(by (try simp (disch:=first|exact dsc|fail) only [go_sem,seval]);exact f1),(by (try simp (disch:=first|exact dsc|fail) only [go_sem,seval]);exact f2),(by (try simp (disch:=first|exact dsc|fail) only [go_sem,seval]);exact f3),(by (try simp (disch:=first|exact dsc|fail) only [go_sem,seval]);exact f4),(by (try simp (disch:=first|exact dsc|fail) only [go_sem,seval]);exact f5),(fun q=>by (try simp (disch:=first|exact dsc|fail) only [go_sem,seval]);exact g0 (by simpa [more] using q)),(fun q=>by (try simp (disch:=first|exact dsc|fail) only [go_sem,seval]);exact g1 (by simpa [more] using q)),(fun q=>by (try simp (disch:=first|exact dsc|fail) only [go_sem,seval]);exact g2 (by simpa [more] using q)),(fun q=>by (try simp (disch:=first|exact dsc|fail) only [go_sem,seval]);exact g3 (by simpa [more] using q)),(fun q=>by (try simp (disch:=first|exact dsc|fail) only [go_sem,seval]);exact g4 (by simpa [more] using q)),(fun q=>by (try simp (disch:=first|exact dsc|fail) only [go_sem,seval]);exact g5 (by simpa [more] using q)),(fun q=>by (try simp (disch:=first|exact dsc|fail) only [go_sem,seval]);exact g6 (by simpa [more] using q)),(fun q=>by (try simp (disch:=first|exact dsc|fail) only [go_sem,seval]);exact g7 (by simpa [more] using q)),(fun q=>by (try simp (disch:=first|exact dsc|fail) only [go_sem,seval]);exact g8 (by simpa [more] using q)),(fun q=>by (try simp (disch:=first|exact dsc|fail) only [go_sem,seval]);exact g9 (by simpa [more] using q)),(fun q=>by (try simp (disch:=first|exact dsc|fail) only [go_sem,seval]);exact g10 (by simpa [more] using q)),(fun q=>by (try simp (disch:=first|exact dsc|fail) only [go_sem,seval]);exact g11 (by simpa [more] using q)),(fun q=>by (try simp (disch:=first|exact dsc|fail) only [go_sem,seval]);exact g12 (by simpa [more] using q)),(fun q=>by (try simp (disch:=first|exact dsc|fail) only [go_sem,seval]);exact g13 (by simpa [more] using q)),(fun _=>by simp (disch:=first|exact dsc|fail) only [go_sem,seval]),(fun q=>by (try simp (disch:=first|exact dsc|fail) only [go_sem,seval]);exact g15 (by simpa [more] using q)),(fun q=>by (have e:more L 14 17=L 17:=by simp [more]);rw [e,hL17] at q;cases q),(by (have e:more L 14 16=L 16:=by simp [more]);(have e2:more L 14 17=L 17:=by simp [more]);rw [e,e2])⟩
    · have hL17:L 17=false:=by
        cases e:L 17 with | false=>rfl | true=>rw [gL e 15 (by omega)] at hL;cases hL
      cases ho
      have d8:=g8 (hall ⟨8,.data⟩ (by simp) rfl)
      have d10:=g10 (hall ⟨10,.data⟩ (by simp) rfl)
      have d14:=g14 (hall ⟨14,.data⟩ (by simp) rfl)
      refine opA_val (.p (.agg [i64 k,i64 hi,.sl false 1 (pl i64 (l.drop c))])) rfl rfl (by simp (disch:=first|exact dsc|fail) only [go_sem,seval,f1,f2,f3,f4,f5,d8,d10,d14]) rfl ?_
      exact ⟨(by (try simp (disch:=first|exact dsc|fail) only [go_sem,seval]);exact f1),(by (try simp (disch:=first|exact dsc|fail) only [go_sem,seval]);exact f2),(by (try simp (disch:=first|exact dsc|fail) only [go_sem,seval]);exact f3),(by (try simp (disch:=first|exact dsc|fail) only [go_sem,seval]);exact f4),(by (try simp (disch:=first|exact dsc|fail) only [go_sem,seval]);exact f5),(fun q=>by (try simp (disch:=first|exact dsc|fail) only [go_sem,seval]);exact g0 (by simpa [more] using q)),(fun q=>by (try simp (disch:=first|exact dsc|fail) only [go_sem,seval]);exact g1 (by simpa [more] using q)),(fun q=>by (try simp (disch:=first|exact dsc|fail) only [go_sem,seval]);exact g2 (by simpa [more] using q)),(fun q=>by (try simp (disch:=first|exact dsc|fail) only [go_sem,seval]);exact g3 (by simpa [more] using q)),(fun q=>by (try simp (disch:=first|exact dsc|fail) only [go_sem,seval]);exact g4 (by simpa [more] using q)),(fun q=>by (try simp (disch:=first|exact dsc|fail) only [go_sem,seval]);exact g5 (by simpa [more] using q)),(fun q=>by (try simp (disch:=first|exact dsc|fail) only [go_sem,seval]);exact g6 (by simpa [more] using q)),(fun q=>by (try simp (disch:=first|exact dsc|fail) only [go_sem,seval]);exact g7 (by simpa [more] using q)),(fun q=>by (try simp (disch:=first|exact dsc|fail) only [go_sem,seval]);exact g8 (by simpa [more] using q)),(fun q=>by (try simp (disch:=first|exact dsc|fail) only [go_sem,seval]);exact g9 (by simpa [more] using q)),(fun q=>by (try simp (disch:=first|exact dsc|fail) only [go_sem,seval]);exact g10 (by simpa [more] using q)),(fun q=>by (try simp (disch:=first|exact dsc|fail) only [go_sem,seval]);exact g11 (by simpa [more] using q)),(fun q=>by (try simp (disch:=first|exact dsc|fail) only [go_sem,seval]);exact g12 (by simpa [more] using q)),(fun q=>by (try simp (disch:=first|exact dsc|fail) only [go_sem,seval]);exact g13 (by simpa [more] using q)),(fun q=>by (try simp (disch:=first|exact dsc|fail) only [go_sem,seval]);exact g14 (by simpa [more] using q)),(fun _=>by simp (disch:=first|exact dsc|fail) only [go_sem,seval]),(fun q=>by (have e:more L 15 17=L 17:=by simp [more]);rw [e,hL17] at q;cases q),(by (have e:more L 15 16=L 16:=by simp [more]);(have e2:more L 15 17=L 17:=by simp [more]);rw [e,e2])⟩
    · have hL17:L 17=false:=by
        cases e:L 17 with | false=>rfl | true=>rw [gL e 16 (by omega)] at hL;cases hL
      cases ho
      have d7:=g7 (hall ⟨7,.data⟩ (by simp) rfl)
      have hL16:L 16=false:=hL
      refine opA_unit rfl rfl (by simp (disch:=first|exact dsc|fail) only [go_sem,seval,f1,f2,f3,f4,f5,d7,hL17,hL16,reduceIte,Bool.false_eq_true,if_false,if_true];rfl) rfl ?_
      exact ⟨(by (try simp (disch:=first|exact dsc|fail) only [go_sem,seval]);exact f1),(by (try simp (disch:=first|exact dsc|fail) only [go_sem,seval]);exact f2),(by (try simp (disch:=first|exact dsc|fail) only [go_sem,seval]);exact f3),(by (try simp (disch:=first|exact dsc|fail) only [go_sem,seval]);exact f4),(by (try simp (disch:=first|exact dsc|fail) only [go_sem,seval]);exact f5),(fun q=>by (try simp (disch:=first|exact dsc|fail) only [go_sem,seval]);exact g0 (by simpa [more] using q)),(fun q=>by (try simp (disch:=first|exact dsc|fail) only [go_sem,seval]);exact g1 (by simpa [more] using q)),(fun q=>by (try simp (disch:=first|exact dsc|fail) only [go_sem,seval]);exact g2 (by simpa [more] using q)),(fun q=>by (try simp (disch:=first|exact dsc|fail) only [go_sem,seval]);exact g3 (by simpa [more] using q)),(fun q=>by (try simp (disch:=first|exact dsc|fail) only [go_sem,seval]);exact g4 (by simpa [more] using q)),(fun q=>by (try simp (disch:=first|exact dsc|fail) only [go_sem,seval]);exact g5 (by simpa [more] using q)),(fun q=>by (try simp (disch:=first|exact dsc|fail) only [go_sem,seval]);exact g6 (by simpa [more] using q)),(fun q=>by (try simp (disch:=first|exact dsc|fail) only [go_sem,seval]);exact g7 (by simpa [more] using q)),(fun q=>by (try simp (disch:=first|exact dsc|fail) only [go_sem,seval]);exact g8 (by simpa [more] using q)),(fun q=>by (try simp (disch:=first|exact dsc|fail) only [go_sem,seval]);exact g9 (by simpa [more] using q)),(fun q=>by (try simp (disch:=first|exact dsc|fail) only [go_sem,seval]);exact g10 (by simpa [more] using q)),(fun q=>by (try simp (disch:=first|exact dsc|fail) only [go_sem,seval]);exact g11 (by simpa [more] using q)),(fun q=>by (try simp (disch:=first|exact dsc|fail) only [go_sem,seval]);exact g12 (by simpa [more] using q)),(fun q=>by (try simp (disch:=first|exact dsc|fail) only [go_sem,seval]);exact g13 (by simpa [more] using q)),(fun q=>by (try simp (disch:=first|exact dsc|fail) only [go_sem,seval]);exact g14 (by simpa [more] using q)),(fun q=>by (try simp (disch:=first|exact dsc|fail) only [go_sem,seval]);exact g15 (by simpa [more] using q)),(fun q=>by (have e:more L 16 17=L 17:=by simp [more]);rw [e,hL17] at q;cases q),(by (have e:more L 16 16=true:=by simp [more]);(have e2:more L 16 17=false:=by simp [more,hL17]);rw [e,e2];rfl)⟩
    · have hL17:L 17=false:=by
        exact hL
      cases ho
      have d15:=g15 (hall ⟨15,.data⟩ (by simp) rfl)
      have h16:L 16=true:=hall ⟨16,.chain⟩ (by simp) rfl
      have m0:L 0=true:=hall ⟨0,.phase⟩ (by simp) rfl
      have m1:L 1=true:=hall ⟨1,.phase⟩ (by simp) rfl
      have m2:L 2=true:=hall ⟨2,.phase⟩ (by simp) rfl
      have m3:L 3=true:=hall ⟨3,.phase⟩ (by simp) rfl
      have m4:L 4=true:=hall ⟨4,.phase⟩ (by simp) rfl
      have m5:L 5=true:=hall ⟨5,.phase⟩ (by simp) rfl
      have m6:L 6=true:=hall ⟨6,.phase⟩ (by simp) rfl
      have m7:L 7=true:=hall ⟨7,.phase⟩ (by simp) rfl
      have m8:L 8=true:=hall ⟨8,.phase⟩ (by simp) rfl
      have m9:L 9=true:=hall ⟨9,.phase⟩ (by simp) rfl
      have m10:L 10=true:=hall ⟨10,.phase⟩ (by simp) rfl
      have m11:L 11=true:=hall ⟨11,.phase⟩ (by simp) rfl
      have m12:L 12=true:=hall ⟨12,.phase⟩ (by simp) rfl
      have m13:L 13=true:=hall ⟨13,.phase⟩ (by simp) rfl
      have m14:L 14=true:=hall ⟨14,.phase⟩ (by simp) rfl
      have m15:L 15=true:=hall ⟨15,.phase⟩ (by simp) rfl
      have m16:L 16=true:=hall ⟨16,.phase⟩ (by simp) rfl
      refine opA_unit rfl rfl (by simp (disch:=first|exact dsc|fail) only [go_sem,seval,f1,f2,f3,f4,f5,d15,hL17,h16,reduceIte,Bool.false_eq_true,if_false,if_true];rfl) rfl ?_
      exact ⟨(by (try simp (disch:=first|exact dsc|fail) only [go_sem,seval]);exact f1),(by (try simp (disch:=first|exact dsc|fail) only [go_sem,seval]);exact f2),(by (try simp (disch:=first|exact dsc|fail) only [go_sem,seval]);exact f3),(by (try simp (disch:=first|exact dsc|fail) only [go_sem,seval]);exact f4),(by (try simp (disch:=first|exact dsc|fail) only [go_sem,seval]);exact f5),(fun q=>by (try simp (disch:=first|exact dsc|fail) only [go_sem,seval]);exact g0 (by simpa [more] using q)),(fun q=>by (try simp (disch:=first|exact dsc|fail) only [go_sem,seval]);exact g1 (by simpa [more] using q)),(fun q=>by (try simp (disch:=first|exact dsc|fail) only [go_sem,seval]);exact g2 (by simpa [more] using q)),(fun q=>by (try simp (disch:=first|exact dsc|fail) only [go_sem,seval]);exact g3 (by simpa [more] using q)),(fun q=>by (try simp (disch:=first|exact dsc|fail) only [go_sem,seval]);exact g4 (by simpa [more] using q)),(fun q=>by (try simp (disch:=first|exact dsc|fail) only [go_sem,seval]);exact g5 (by simpa [more] using q)),(fun q=>by (try simp (disch:=first|exact dsc|fail) only [go_sem,seval]);exact g6 (by simpa [more] using q)),(fun q=>by (try simp (disch:=first|exact dsc|fail) only [go_sem,seval]);exact g7 (by simpa [more] using q)),(fun q=>by (try simp (disch:=first|exact dsc|fail) only [go_sem,seval]);exact g8 (by simpa [more] using q)),(fun q=>by (try simp (disch:=first|exact dsc|fail) only [go_sem,seval]);exact g9 (by simpa [more] using q)),(fun q=>by (try simp (disch:=first|exact dsc|fail) only [go_sem,seval]);exact g10 (by simpa [more] using q)),(fun q=>by (try simp (disch:=first|exact dsc|fail) only [go_sem,seval]);exact g11 (by simpa [more] using q)),(fun q=>by (try simp (disch:=first|exact dsc|fail) only [go_sem,seval]);exact g12 (by simpa [more] using q)),(fun q=>by (try simp (disch:=first|exact dsc|fail) only [go_sem,seval]);exact g13 (by simpa [more] using q)),(fun q=>by (try simp (disch:=first|exact dsc|fail) only [go_sem,seval]);exact g14 (by simpa [more] using q)),(fun q=>by (try simp (disch:=first|exact dsc|fail) only [go_sem,seval]);exact g15 (by simpa [more] using q)),(fun _ j hj=>by (have e:more L 17 j=L j:=by simp [more];omega);rw [e];rcases j with _ | _ | _ | _ | _ | _ | _ | _ | _ | _ | _ | _ | _ | _ | _ | _ | _ | j<;>first | assumption | omega),(by (have e:more L 17 16=true:=by simp [more,h16]);(have e2:more L 17 17=true:=by simp [more]);rw [e,e2];rfl)⟩
    · simp at ho
  · intro L env' H' hall hI
    obtain ⟨f1,f2,f3,f4,f5,_,_,_,_,_,_,_,_,_,_,_,_,_,_,_,_,_,rfl⟩:=hI
    rw [hall 16 (by decide),hall 17 (by decide)]
    (repeat refine .z rfl ?_);refine .rt Tryd.func51 (by rw [Tryd.results51]) (hx:=by simp (disch:=first|exact dsc|fail) only [go_sem,seval,f2,f3];rfl) (hR := ?_);simp (disch:=first|exact dsc|fail) only [go_sem,seval,f2,f3]
    exact h c hlow
end walks
end Go.Proofs.YthonhnpiglafkaaDoor

/-
  Hash trees: the walk over the closed subtrees.
-/
namespace Go.Proofs.YthonhnpiglafkaaDoor
open Go Go.AL

def closL:Nat → List Int → Nat → Nat → List (Nat × Nat)
  | 0,_,_,_=>[]
  | f+1,l,lo,hi=>if l=[] then [(lo,hi)] else if hi - lo=1 then [] else
    closL f (l.filter fun i=>decide (i < ((lo+spl (hi - lo):Nat):Int))) lo (lo+spl (hi - lo))++closL f (l.filter fun i=>decide (((lo+spl (hi - lo):Nat):Int)≤i)) (lo+spl (hi - lo)) hi

theorem asc_filter {l:List Int} {p:Int → Bool} (h:Asc l):Asc (l.filter p):=asc_pw.2 ((asc_pw.1 h).filter _)
section walks
variable {G:Globs}
set_option maxHeartbeats 8000000 in
theorem walk_spec (y:Nat) : ∀ (f:Nat) (X:Nat → Hp) (m:Nat) (_ : ∀ i,(X i).n=m) (_ : ∀ i,Bel m (X i)) (_:y < m) (lo hi:Nat) (l:List Int) (_:hi - lo≤f) (_:lo < hi) (_:hi≤65536) (_:Asc l) (_:l.length≤100000)
    (_ : ∀ i,i < (closL f l lo hi).length → ∀ (S:List AB) (K:AV → Hp → Prop),K (.p (bo true)) (app (X (i+1)) S) → AYield Tryd.prog G y [.p (subV (nth (closL f l lo hi) i).1 (nth (closL f l lo hi) i).2 [])] (app (X i) S) K)
    (R:AV → Hp → Prop) (_:R (.p (bo true)) (X (closL f l lo hi).length)),ACall Tryd.prog G 62 [.p (subV lo hi l),.yld y] (X 0) R:=by
  intro f
  induction f with
  | zero=>intro X m hX hB hy0 lo hi l h1 h2;omega
  | succ f ih =>
    intro X m hX hB hy0 lo hi l h1 h2 h3 ha hl hy R h
    have hX0:=hX 0
    unfold subV
    refine ACall.of_run (raw:=[]) Tryd.func62 rfl Tryd.ntmps62 (by simp) fun hbel => ?_
    clear hbel
    rw [hX0]
    have hbel : ∀ i,Bel m (X i):=hB
    have hX1:=hX 1
    (repeat refine .z rfl ?_);refine .text ?_;simp (disch:=first|exact dsc|fail) only [go_sem,seval]
    by_cases e:l=[]
    · subst e
      have hc:closL (f+1) [] lo hi=[(lo,hi)]:=by rw [closL,if_pos rfl]
      rw [hc] at hy h
      have hyi:=hy 0 (by simp) [.cells [.p (i64 lo),.p (i64 hi),.p (.sl false 1 (pl i64 []))]]
      simp only [app_nil,app_cons] at hyi
      (repeat refine .z rfl ?_);refine .text ?_;simp (disch:=first|exact dsc|fail) only [go_sem,seval]
      (repeat refine .z rfl ?_);refine .ifT (by simp (disch:=first|exact dsc|fail) only [go_sem,seval]) ?_
      (repeat refine .z rfl ?_);refine .text ?_;simp (disch:=first|exact dsc|fail) only [go_sem,seval]
      refine YieldK.of (fun K hK=>hyi K hK) ?_;simp (disch:=first|exact dsc|fail) only [go_sem,seval]
      (repeat refine .z rfl ?_);refine .rt Tryd.func62 (by rw [Tryd.results62]) (hR := ?_);simp (disch:=first|exact dsc|fail) only [go_sem,seval]
      (try simp only [hX,trunc_new,trunc_self'])
      exact h
    · have hlen:decide ((l.length:Int)=0)=false:=by
        have:l.length≠0:=fun x=>e (List.eq_nil_of_length_eq_zero x)
        simp only [decide_eq_false_iff_not];omega
      have hlen2:((l.length:Int) == 0)=false:=by
        have:l.length≠0:=fun x=>e (List.eq_nil_of_length_eq_zero x)
        rw [beq_eq_false_iff_ne];omega
      (repeat refine .z rfl ?_);refine .text ?_;simp (disch:=first|exact dsc|fail) only [go_sem,seval,hlen,hlen2]
      (repeat refine .z rfl ?_);refine .ifF (by simp (disch:=first|exact dsc|fail) only [go_sem,seval,hlen,hlen2]) ?_
      by_cases e1:hi - lo=1
      · have hd:decide ((hi:Int) - (lo:Int)=1)=true:=by simp only [decide_eq_true_eq];omega
        have hc:closL (f+1) l lo hi=[]:=by rw [closL,if_neg e,if_pos e1]
        rw [hc] at h
        (repeat refine .z rfl ?_);refine .text ?_;simp (disch:=first|exact dsc|fail) only [go_sem,seval,hd]
        (repeat refine .z rfl ?_);refine .ifT (by simp (disch:=first|exact dsc|fail) only [go_sem,seval,hd]) ?_
        (repeat refine .z rfl ?_);refine .text ?_;simp (disch:=first|exact dsc|fail) only [go_sem,seval]
        (repeat refine .z rfl ?_);refine .rt Tryd.func62 (by rw [Tryd.results62]) (hR := ?_);simp (disch:=first|exact dsc|fail) only [go_sem,seval]
        exact h
      · have hd:decide ((hi:Int) - (lo:Int)=1)=false:=by simp only [decide_eq_false_iff_not];omega
        (repeat refine .z rfl ?_);refine .text ?_;simp (disch:=first|exact dsc|fail) only [go_sem,seval,hd]
        (repeat refine .z rfl ?_);refine .ifF (by simp (disch:=first|exact dsc|fail) only [go_sem,seval,hd]) ?_
        (repeat refine .z rfl ?_)
        have hc:closL (f+1) l lo hi=closL f (l.filter fun i=>decide (i < ((lo+spl (hi - lo):Nat):Int))) lo (lo+spl (hi - lo))++closL f (l.filter fun i=>decide (((lo+spl (hi - lo):Nat):Int)≤i)) (lo+spl (hi - lo)) hi:=by rw [closL,if_neg e,if_neg e1]
        rw [hc] at hy h
        obtain ⟨s1,s2,s3⟩:=spl_lt (n:=hi - lo) (by omega)
        have hps:=fun (H:Hp) (R:AV → Hp → Prop) h=>parts_spec (G:=G) lo hi (by omega) h3 l hl ha H R h
        have hk1:lo < lo+spl (hi - lo):=by omega
        have hk2:lo+spl (hi - lo) < hi:=by omega
        have hf1:lo+spl (hi - lo) - lo≤f:=by omega
        have hf2:hi - (lo+spl (hi - lo))≤f:=by omega
        generalize lo+spl (hi - lo)=k at hy h hps hk1 hk2 hf1 hf2
        clear hc
        have hl1:(l.filter fun i=>decide (i < (k:Int))).length≤100000:=Nat.le_trans (List.length_filter_le _ _) hl
        have hl2:(l.filter fun i=>decide ((k:Int)≤i)).length≤100000:=Nat.le_trans (List.length_filter_le _ _) hl
        have ha1:=asc_filter (p:=fun i=>decide (i < (k:Int))) ha
        have ha2:=asc_filter (p:=fun i=>decide ((k:Int)≤i)) ha
        have htk : ∀ c,Low l (k:Int) c → l.take c=l.filter fun i=>decide (i < (k:Int)):=fun c h=>h.take
        have hdr : ∀ c,Low l (k:Int) c → l.drop c=l.filter fun i=>decide ((k:Int)≤i):=fun c h=>h.drop
        generalize (l.filter fun i=>decide (i < (k:Int)))=l1 at hy h hl1 ha1 htk
        generalize (l.filter fun i=>decide ((k:Int)≤i))=l2 at hy h hl2 ha2 hdr
        unfold subV at hps
        (repeat refine .z rfl ?_);refine .text ?_;simp (disch:=first|exact dsc|fail) only [go_sem,seval]
        refine CallK.of (r := .tup [.p (.agg [i64 lo,i64 k,.sl false 1 (pl i64 l1)]),.p (.agg [i64 k,i64 hi,.sl false 1 (pl i64 l2)])]) (fun R h=>hps _ R fun c hc=>by rw [htk c hc,hdr c hc];exact h) ?_
        simp (disch:=first|exact dsc|fail) only [go_sem,seval]
        generalize hA:closL f l1 lo k=A at hy h
        generalize hBB:closL f l2 k hi=B at hy h
        have hXn : ∀ i,((((X i).new (.cells [.p (i64 lo),.p (i64 hi),.p (.sl false 1 (pl i64 l))])).new (.cells [.p (i64 lo),.p (i64 k),.p (.sl false 1 (pl i64 l1))])).new (.cells [.p (i64 k),.p (i64 hi),.p (.sl false 1 (pl i64 l2))])).n=m+1+1+1:=fun i=>by simp (disch:=first|exact dsc|fail) only [go_sem,seval,hX]
        have hXb : ∀ i,Bel (m+1+1+1) ((((X i).new (.cells [.p (i64 lo),.p (i64 hi),.p (.sl false 1 (pl i64 l))])).new (.cells [.p (i64 lo),.p (i64 k),.p (.sl false 1 (pl i64 l1))])).new (.cells [.p (i64 k),.p (i64 hi),.p (.sl false 1 (pl i64 l2))])):=fun i=>by
          have hXi:=hX i
          have hb:=bel_mono (n:=m+1+1+1) (hB i) (by omega) (by omega)
          refine bel_newx (bel_newx (bel_newx hb ?_) ?_) ?_<;>(intro z hz;simp [AB.vals] at hz;rcases hz with rfl | rfl | rfl<;>exact .p _)
        have hc1:=ih (fun i=>(((X i).new (.cells [.p (i64 lo),.p (i64 hi),.p (.sl false 1 (pl i64 l))])).new (.cells [.p (i64 lo),.p (i64 k),.p (.sl false 1 (pl i64 l1))])).new (.cells [.p (i64 k),.p (i64 hi),.p (.sl false 1 (pl i64 l2))])) _ hXn hXb (by omega) lo k l1 hf1 hk1 (by omega) ha1 hl1 (fun i hi S K hK=>by
          rw [hA] at hi ⊢
          have:=hy i (by rw [List.length_append];omega) (.cells [.p (i64 lo),.p (i64 _),.p (.sl false 1 (pl i64 l))] :: .cells [.p (i64 lo),.p (i64 k),.p (.sl false 1 (pl i64 l1))] :: .cells [.p (i64 k),.p (i64 _),.p (.sl false 1 (pl i64 l2))] :: S) K hK
          have e:nth (A++B) i=nth A i:=by unfold nth;rw [List.getElem?_append_left hi]
          rw [e] at this
          exact this)
        have hc2:=ih (fun i=>(((X (A.length+i)).new (.cells [.p (i64 lo),.p (i64 hi),.p (.sl false 1 (pl i64 l))])).new (.cells [.p (i64 lo),.p (i64 k),.p (.sl false 1 (pl i64 l1))])).new (.cells [.p (i64 k),.p (i64 hi),.p (.sl false 1 (pl i64 l2))])) _ (fun i=>hXn _) (fun i=>hXb _) (by omega) k hi l2 hf2 hk2 (by omega) ha2 hl2 (fun i hi S K hK=>by
          rw [hBB] at hi ⊢
          have:=hy (A.length+i) (by rw [List.length_append];omega) (.cells [.p (i64 lo),.p (i64 _),.p (.sl false 1 (pl i64 l))] :: .cells [.p (i64 lo),.p (i64 k),.p (.sl false 1 (pl i64 l1))] :: .cells [.p (i64 k),.p (i64 _),.p (.sl false 1 (pl i64 l2))] :: S) K hK
          have e:nth (A++B) (A.length+i)=nth B i:=by unfold nth;rw [List.getElem?_append_right (by omega)];congr 2;omega
          rw [e] at this
          exact this)
        rw [hA] at hc1
        rw [hBB] at hc2
        unfold subV at hc1 hc2
        (repeat refine .z rfl ?_);refine .text ?_;simp (disch:=first|exact dsc|fail) only [go_sem,seval,hX]
        have hXA:=hX A.length
        have hXA0:=hX (A.length+0)
        refine CallK.of hc1 ?_
        simp (disch:=first|exact dsc|fail) only [go_sem,seval,hX]
        refine CallK.of hc2 ?_
        simp (disch:=first|exact dsc|fail) only [go_sem,seval,hX]
        have hXe:=hX (A.length+B.length)
        (repeat refine .z rfl ?_);refine .rt Tryd.func62 (by rw [Tryd.results62]) (hR := ?_);simp (disch:=first|exact dsc|fail) only [go_sem,seval]
        rw [List.length_append] at h
        exact h
end walks
end Go.Proofs.YthonhnpiglafkaaDoor

/-
  Hash trees: Open.
-/
namespace Go.Proofs.YthonhnpiglafkaaDoor
open Go Go.AL

theorem closL_rng : ∀ (f:Nat) (l:List Int) (lo hi:Nat),lo < hi → ∀ i,i < (closL f l lo hi).length → lo≤(nth (closL f l lo hi) i).1∧(nth (closL f l lo hi) i).1 < (nth (closL f l lo hi) i).2∧(nth (closL f l lo hi) i).2≤hi
  | 0,_,_,_,_,i,hi=>by simp [closL] at hi
  | f+1,l,lo,hi,h,i,hlt=>by
    rw [closL] at hlt ⊢
    split at hlt
    · rename_i e
      rw [if_pos e]
      have:i=0:=by simp at hlt;exact hlt
      subst this
      simp [nth];exact h
    · rename_i e
      rw [if_neg e]
      split at hlt
      · simp at hlt
      · rename_i e1
        rw [if_neg e1]
        by_cases h2:2≤hi - lo
        · obtain ⟨s1,s2,s3⟩:=spl_lt h2
          rw [List.length_append] at hlt
          by_cases hl:i < (closL f (l.filter fun i=>decide (i < ((lo+spl (hi - lo):Nat):Int))) lo (lo+spl (hi - lo))).length
          · have:=closL_rng f _ lo (lo+spl (hi - lo)) (by omega) i hl
            have e2 : ∀ A B:List (Nat × Nat),i < A.length → nth (A++B) i=nth A i:=fun A B h=>by unfold nth;rw [List.getElem?_append_left h]
            rw [e2 _ _ hl]
            omega
          · have:=closL_rng f (l.filter fun i=>decide (((lo+spl (hi - lo):Nat):Int)≤i)) (lo+spl (hi - lo)) hi (by omega) (i - (closL f (l.filter fun i=>decide (i < ((lo+spl (hi - lo):Nat):Int))) lo (lo+spl (hi - lo))).length) (by omega)
            have e2 : ∀ A B:List (Nat × Nat),A.length≤i → nth (A++B) i=nth B (i - A.length):=fun A B h=>by unfold nth;rw [List.getElem?_append_right h]
            rw [e2 _ _ (by omega)]
            omega
        · omega

theorem closL_len : ∀ (f:Nat) (l:List Int) (lo hi:Nat),lo < hi → (closL f l lo hi).length≤hi - lo
  | 0,_,_,_,_=>by simp [closL]
  | f+1,l,lo,hi,h=>by
    rw [closL]
    split
    · simp;omega
    · split
      · simp
      · rename_i e1
        obtain ⟨s1,s2,s3⟩:=spl_lt (n:=hi - lo) (by omega)
        have h1:=closL_len f (l.filter fun i=>decide (i < ((lo+spl (hi - lo):Nat):Int))) lo (lo+spl (hi - lo)) (by omega)
        have h2:=closL_len f (l.filter fun i=>decide (((lo+spl (hi - lo):Nat):Int)≤i)) (lo+spl (hi - lo)) hi (by omega)
        rw [List.length_append]
        omega

def nodeD (ls:List By) (r:Nat × Nat):By:=rootD ((ls.take r.2).drop r.1)
def nodesF (ls:List By) (cs:List (Nat × Nat)) (i:Nat):List By:=(cs.take i).map (nodeD ls)
theorem nodesF_succ {ls:List By} {cs:List (Nat × Nat)} {i:Nat} (h:i < cs.length):nodesF ls cs i++[nodeD ls (nth cs i)]=nodesF ls cs (i+1):=by
  unfold nodesF nth
  rw [List.take_add_one,List.getElem?_eq_getElem h,List.map_append]
  rfl
theorem nodesF_len {ls:List By} {cs:List (Nat × Nat)} {i:Nat} (h:i≤cs.length):(nodesF ls cs i).length=i:=by simp [nodesF];omega
def closI (n:Nat) (idx:List Int):List (Nat × Nat):=closL n idx 0 n
def openN (ls:List By) (idx:List Int):List By:=if chkE ls.length idx=0 then (closI ls.length idx).map (nodeD ls) else []

section walks
variable {G:Globs}
theorem closed_spec (x:PV) (lo hi:Nat) (l:List Int) (hx:x=subV lo hi l) (H:Hp) (R:AV → Hp → Prop) (h:R (.clo 61 [] [.ptr H.n 0]) (H.new (.cells [.p (i64 lo),.p (i64 hi),.p (.sl false 1 (pl i64 l))]))):ACall Tryd.prog G 38 [.p x] H R:=by
  subst hx
  unfold subV
  refine ACall.of_run (raw:=[]) Tryd.func38 rfl Tryd.ntmps38 (by simp) fun hbel => ?_
  (repeat refine .z rfl ?_);refine .text ?_;simp (disch:=first|exact dsc|fail) only [go_sem,seval]
  (repeat refine .z rfl ?_);refine .text ?_;simp (disch:=first|exact dsc|fail) only [go_sem,seval]
  (repeat refine .z rfl ?_);refine .retKeep Tryd.func38 (by rw [Tryd.results38]) (by simp (disch:=first|exact dsc|fail) only [go_sem,seval];rfl) ?_;(try simp (disch:=first|exact dsc|fail) only [go_sem,seval])
  exact h

set_option maxHeartbeats 8000000 in
theorem closed1_spec (y p:Nat) (X:Nat → Hp) (m:Nat) (hX : ∀ i,(X i).n=m) (hB : ∀ i,Bel m (X i)) (hy0:y < m) (hp:p < m) (n:Nat) (l:List Int) (h1:1≤n) (h2:n≤65536) (ha:Asc l) (hl:l.length≤100000) (hbox : ∀ i,(X i).f p=some (.cells [.p (i64 0),.p (i64 n),.p (.sl false 1 (pl i64 l))]))
    (hy : ∀ i,i < (closI n l).length → ∀ (S:List AB) (K:AV → Hp → Prop),K (.p (bo true)) (app (X (i+1)) S) → AYield Tryd.prog G y [.p (subV (nth (closI n l) i).1 (nth (closI n l) i).2 [])] (app (X i) S) K)
    (R:AV → Hp → Prop) (h:R (.tup []) (X (closI n l).length)):ACall Tryd.prog G 61 [.yld y,.ptr p 0] (X 0) R:=by
  have hX0:=hX 0
  have hbox0:=hbox 0
  have hw:=walk_spec (G:=G) y n X m hX hB hy0 0 n l (by omega) (by omega) h2 ha hl hy
  unfold subV at hw
  have hXe:=hX (closI n l).length
  refine ACall.of_run (raw:=[]) Tryd.func61 rfl Tryd.ntmps61 (by simp) fun hbel => ?_
  rw [hX0]
  have hbel : ∀ i,Bel m (X i):=hB
  (repeat refine .z rfl ?_);refine .text ?_;simp (disch:=first|exact dsc|fail) only [go_sem,seval,hbox0]
  refine CallK.of (fun R h=>hw R h) ?_;simp (disch:=first|exact dsc|fail) only [go_sem,seval]
  (repeat refine .z rfl ?_);refine .fin Tryd.func61 (by rw [Tryd.results61]) (by simp (disch:=first|exact dsc|fail) only [go_sem,seval];rfl) (by simp (disch:=first|exact dsc|fail) only [go_sem,seval];rfl) (by (try dsimp only);repeat (first | with_reducible refine bel_new ?_ dsc | with_reducible refine bel_appl ?_ dsc | with_reducible refine bel_set ?_ dsc | with_reducible refine bel_cl ?_ | with_reducible exact hbel | with_reducible exact hbel _)) ?_;simp (disch:=first|exact dsc|fail) only [go_sem,seval]
  rw [trunc_eq (hX (closL n l 0 n).length).symm]
  exact h
section bel
variable {n:Nat} {H:Hp}
theorem bel_p1 {x:PV} (h:Bel n H):Bel n (H.new (.cells [.p x])):=bel_newx h fun z hz=>by
  simp [AB.vals] at hz;subst hz;exact .p _
theorem bel_p3 {x y z:PV} (h:Bel n H):Bel n (H.new (.cells [.p x,.p y,.p z])):=bel_newx h fun z hz=>by
  simp [AB.vals] at hz;rcases hz with rfl | rfl | rfl<;>exact .p _
theorem bel_sl1 {a v sz:Nat} {xs:List PV} (h:Bel n H) (ha:a < n):Bel n (H.new (.cells [.sl a v sz xs])):=bel_newx h fun z hz=>by
  simp [AB.vals] at hz;subst hz;exact .sl _ _ _ _ ha
end bel
theorem mkAgg_own {a v:Nat} {L:List By}:mkAgg [.sl a v 32 (pl db L)] = .p (.agg [.sl false 32 (pl db L)]):=rfl
attribute [go_sem] mkAgg_own
set_option maxHeartbeats 8000000 in
theorem Open_spec (hG:GS G) (ls:List By) (idx:List Int) (hl:ls.length≤100000) (hli:idx.length≤100000) (hb:Short ls) (H:Hp) (R:AV → Hp → Prop)
    (h:R (.tup [.p (.agg [.sl false 32 (pl db (openN ls idx))]),.p (i64 (chkE ls.length idx:Nat))]) H):ACall Tryd.prog G 13 [.p (.sl false 1 (pl bs ls)),.p (.sl false 1 (pl i64 idx))] H R:=by
  obtain ⟨hG0,hG1⟩:=hG
  refine ACall.of_run (raw:=[]) Tryd.func13 rfl Tryd.ntmps13 (by simp) fun hbel => ?_
  (repeat refine .z rfl ?_);refine .text ?_;simp (disch:=first|exact dsc|fail) only [go_sem,seval]
  (repeat refine .z rfl ?_);refine .text ?_;simp (disch:=first|exact dsc|fail) only [go_sem,seval]
  refine CallK.of (fun R h=>check_spec (ls.length:Int) (by omega) (by omega) idx (by omega) _ R h) ?_;simp (disch:=first|exact dsc|fail) only [go_sem,seval]
  by_cases h0:chkE ls.length idx=0
  · have hinc:Inc ls.length idx:=by
      by_cases e:Inc ls.length idx
      · exact e
      · rw [chkE,if_neg e] at h0;cases h0
    have hsz:sizeE ls.length=0:=by rw [chkE,if_pos hinc] at h0;exact h0
    have hn:1≤ls.length∧ls.length≤65536:=by
      unfold sizeE at hsz
      split at hsz
      · cases hsz
      · split at hsz
        · cases hsz
        · omega
    have hcl:=closL_rng ls.length idx 0 ls.length (by omega)
    rw [openN,if_pos h0] at h
    (repeat refine .z rfl ?_);refine .text ?_;simp (disch:=first|exact dsc|fail) only [go_sem,seval,h0]
    (repeat refine .z rfl ?_);refine .ifF (by simp (disch:=first|exact dsc|fail) only [go_sem,seval,h0]) ?_
    (repeat refine .z rfl ?_);refine .text ?_;simp (disch:=first|exact dsc|fail) only [go_sem,seval]
    (repeat refine .z rfl ?_);refine .text ?_;simp (disch:=first|exact dsc|fail) only [go_sem,seval]
    refine CallK.of (fun R h=>hashes_spec hG0 hG1 ls hn.2 hb _ R h) ?_;simp (disch:=first|exact dsc|fail) only [go_sem,seval]
    (repeat refine .z rfl ?_);refine .ownC (H.n+1) 0 (by simp (disch:=first|exact dsc|fail) only [go_sem,seval];rfl) (by rfl) ?_;simp (disch:=first|exact dsc|fail) only [go_sem,seval,List.set_cons_zero,List.set_cons_succ]
    (repeat refine .z rfl ?_);refine .text ?_;simp (disch:=first|exact dsc|fail) only [go_sem,seval]
    refine CallK.of (fun R h=>closed_spec _ 0 ls.length idx rfl _ R h) ?_;simp (disch:=first|exact dsc|fail) only [go_sem,seval]
    (repeat refine .z rfl ?_);refine .rangeFunc (ps:=[25]) rfl (by simp (disch:=first|exact dsc|fail) only [go_sem,seval];rfl) (by simp (disch:=first|exact dsc|fail) only [go_sem,seval]) (by simp) fun L vs hL hvs hround => ?_;simp (disch:=first|exact dsc|fail) only [go_sem,seval]
    refine closed1_spec (H.n+5) (H.n+4) (fun i=>(((((H.new (.cells [.p (.sl true 32 [])])).new (.cells [.sl (H.n+3) i 32 (pl db (nodesF ls (closI ls.length idx) i))])).new (.cells [.p (.sl false 32 (pl db (ls.map leaf)))])).new (.tail i)).new (.cells [.p (i64 0),.p (i64 ls.length),.p (.sl false 1 (pl i64 idx))])).new (.obj vs (L .ready none))) (H.n+6) (fun i=>by simp (disch:=first|exact dsc|fail) only [go_sem,seval]) (fun i => ?_) (by omega) (by omega) ls.length idx hn.1 hn.2 hinc.asc hli (fun i=>by simp (disch:=first|exact dsc|fail) only [go_sem,seval]) (fun i hi S K hK => ?_) _ ?_
    · (try dsimp only);(repeat (first | with_reducible exact hbel | with_reducible exact bel_start hbel dsc | with_reducible refine bel_newc ?_ | with_reducible refine bel_newp ?_ | with_reducible refine bel_newt ?_ | with_reducible refine bel_newo hvs ?_ dsc | with_reducible refine bel_cl ?_ | with_reducible refine bel_setp ?_ | with_reducible refine bel_sett ?_ | with_reducible refine bel_setd ?_ | with_reducible refine bel_newd ?_))
      (repeat (first | exact bel_start hbel (by omega) | refine bel_p3 ?_ | refine bel_p1 ?_ | refine bel_sl1 ?_ (by omega) | refine bel_newt ?_))
    · have hi':i < (closL ls.length idx 0 ls.length).length:=hi
      obtain ⟨c1,c2,c3⟩:=hcl i hi'
      have hs:=nodesF_succ (ls:=ls) hi
      have hcn:=closL_len ls.length idx 0 ls.length (by omega)
      have hnl:(nodesF ls (closL ls.length idx 0 ls.length) i).length=i:=nodesF_len (Nat.le_of_lt hi')
      unfold subV
      unfold closI at hs ⊢
      have hnd:nodeD ls (nth (closL ls.length idx 0 ls.length) i)=foldD (((ls.map leaf).take (nth (closL ls.length idx 0 ls.length) i).2).drop (nth (closL ls.length idx 0 ls.length) i).1):=by
        unfold nodeD rootD
        rw [List.map_drop,List.map_take]
      rw [hnd] at hs
      generalize nth (closL ls.length idx 0 ls.length) i=r at c1 c2 c3 hs hnd ⊢
      obtain ⟨a,b⟩:=r
      dsimp only at c1 c2 c3 hs ⊢
      have hll:(((ls.map leaf).take b).drop a).length=b - a:=by rw [List.length_drop,List.length_take,List.length_map];omega
      have hmm : ∀ d∈((ls.map leaf).take b).drop a,d.length=32:=fun d h=>map_leaf_mem d (List.mem_of_mem_take (List.mem_of_mem_drop h))
      have hs2:pl db (nodesF ls (closL ls.length idx 0 ls.length) i)++[db (foldD (((ls.map leaf).take b).drop a))]=pl db (nodesF ls (closL ls.length idx 0 ls.length) (i+1)):=by rw [←hs,←pl_append];rfl
      have hfl:=foldD_len' (ds:=((ls.map leaf).take b).drop a) (by omega) hmm
      refine hround _ _ _ rfl (by simp (disch:=first|exact dsc|fail) only [go_sem,seval]) fun hbel2 => ?_
      dsimp only
      simp (disch:=first|exact dsc|fail) only [go_sem,seval]
      (repeat refine .z rfl ?_);refine .text ?_;simp (disch:=first|exact dsc|fail) only [go_sem,seval]
      (repeat refine .z rfl ?_);refine .beginRound rfl hL (by simp (disch:=first|exact dsc|fail) only [go_sem,seval];rfl) ?_;simp (disch:=first|exact dsc|fail) only [go_sem,seval]
      (repeat refine .z rfl ?_);refine .open [10,12] follows (by kernel_rfl) ?_;simp (disch:=first|exact dsc|fail) only [go_sem,seval]
      refine CallD.still (fun R h=>fold_spec hG0 hG1 _ _ (Nat.le_refl _) (by omega) (by omega) hmm _ R h) ?_;simp (disch:=first|exact dsc|fail) only [go_sem,seval,hfl,db_def,cells_db,weak_db,hs2,hnl]
      simp (disch:=first|exact dsc|fail) only [go_sem,seval] at hbel2
      (repeat refine .z rfl ?_);refine .roundEnd rfl hL (by simp (disch:=first|exact dsc|fail) only [go_sem,seval];rfl) ?_ ?_
      · refine bel_p3 (bel_app hbel2 (by simp (disch:=first|exact dsc|fail) only [go_sem,seval]) (by simp (disch:=first|exact dsc|fail) only [go_sem,seval];omega) ?_)
        (try dsimp only);(repeat (first | with_reducible exact hbel | with_reducible exact bel_start hbel dsc | with_reducible refine bel_newc ?_ | with_reducible refine bel_newp ?_ | with_reducible refine bel_newt ?_ | with_reducible refine bel_newo hvs ?_ dsc | with_reducible refine bel_cl ?_ | with_reducible refine bel_setp ?_ | with_reducible refine bel_sett ?_ | with_reducible refine bel_setd ?_ | with_reducible refine bel_newd ?_))
        (repeat (first | exact bel_start hbel (by omega) | refine bel_p3 ?_ | refine bel_p1 ?_ | refine bel_sl1 ?_ (by omega) | refine bel_newt ?_))
      · simp (disch:=first|exact dsc|fail) only [go_sem,seval]
        exact hK
    · unfold LoopEnd;refine ⟨?_,.inl ⟨(by simp (disch:=first|exact dsc|fail) only [go_sem,seval]<;>rfl),?_⟩⟩;(try dsimp only);(repeat (first | with_reducible exact hbel | with_reducible exact bel_start hbel dsc | with_reducible refine bel_newc ?_ | with_reducible refine bel_newp ?_ | with_reducible refine bel_newt ?_ | with_reducible refine bel_newo hvs ?_ dsc | with_reducible refine bel_cl ?_ | with_reducible refine bel_setp ?_ | with_reducible refine bel_sett ?_ | with_reducible refine bel_setd ?_ | with_reducible refine bel_newd ?_));simp (disch:=first|exact dsc|fail) only [go_sem,seval]
      · (repeat (first | exact bel_start hbel (by omega) | refine bel_p3 ?_ | refine bel_p1 ?_ | refine bel_sl1 ?_ (by omega) | refine bel_newt ?_))
      have hall:nodesF ls (closI ls.length idx) (closI ls.length idx).length=(closI ls.length idx).map (nodeD ls):=by unfold nodesF;rw [List.take_length]
      rw [hall]
      (repeat refine .z rfl ?_);refine .text ?_;simp (disch:=first|exact dsc|fail) only [go_sem,seval]
      (repeat refine .z rfl ?_);refine .rt Tryd.func13 (by rw [Tryd.results13]) (hR := ?_);simp (disch:=first|exact dsc|fail) only [go_sem,seval]
      rw [h0] at h
      exact h
  · have hne:decide (((chkE ls.length idx:Nat):Int)=0)=false:=by simp only [decide_eq_false_iff_not];omega
    rw [openN,if_neg h0] at h
    (repeat refine .z rfl ?_);refine .text ?_;simp (disch:=first|exact dsc|fail) only [go_sem,seval,hne]
    (repeat refine .z rfl ?_);refine .ifT (by simp (disch:=first|exact dsc|fail) only [go_sem,seval,hne]) ?_
    (repeat refine .z rfl ?_);refine .text ?_;simp (disch:=first|exact dsc|fail) only [go_sem,seval]
    (repeat refine .z rfl ?_);refine .rt Tryd.func13 (by rw [Tryd.results13]) (hR := ?_);simp (disch:=first|exact dsc|fail) only [go_sem,seval]
    exact h
end walks
end Go.Proofs.YthonhnpiglafkaaDoor

/-
  Hash trees: the reference's closed subtrees and Open.
-/
namespace Go.Proofs.YthonhnpiglafkaaDoor
open Go Go.AL

def closR:Nat → List Int → Nat → Nat → List (Nat × Nat)
  | 0,_,_,_=>[]
  | f+1,l,lo,hi=>if rng l lo hi=[] then [(lo,hi)] else if hi - lo=1 then [] else
    closR f l lo (lo+spl (hi - lo))++closR f l (lo+spl (hi - lo)) hi
theorem rng_filter_lt {l:List Int} {lo hi k:Nat} (h2:k≤hi):(rng l lo hi).filter (fun i=>decide (i < (k:Int)))=rng l lo k:=by
  rw [rng,List.filter_filter,rng]
  refine List.filter_congr fun i _ => ?_
  rw [←Bool.decide_and,decide_eq_decide]
  omega
theorem rng_filter_ge {l:List Int} {lo hi k:Nat} (h2:lo≤k):(rng l lo hi).filter (fun i=>decide ((k:Int)≤i))=rng l k hi:=by
  rw [rng,List.filter_filter,rng]
  refine List.filter_congr fun i _ => ?_
  rw [←Bool.decide_and,decide_eq_decide]
  omega
theorem closR_eq : ∀ (f:Nat) (l:List Int) (lo hi:Nat),lo < hi → closR f l lo hi=closL f (rng l lo hi) lo hi
  | 0,_,_,_,_=>rfl
  | f+1,l,lo,hi,h=>by
    rw [closR,closL]
    split
    · rfl
    · split
      · rfl
      · obtain ⟨s1,s2,s3⟩:=spl_lt (n:=hi - lo) (by omega)
        rw [rng_filter_lt (by omega),rng_filter_ge (by omega),closR_eq f l lo _ (by omega),closR_eq f l _ hi (by omega)]
theorem closR_all {n:Nat} {idx:List Int} (h:Inc n idx) (hn:1≤n):closR n idx 0 n=closI n idx:=by
  rw [closR_eq n idx 0 n (by omega),rng_all h];rfl
theorem rng_step {idx:List Int} {i lo hi:Nat} (h:i < idx.length):rng (idx.take (i+1)) lo hi=rng (idx.take i) lo hi++(if (lo:Int)≤nth idx i∧nth idx i < (hi:Int) then [nth idx i] else []):=by
  have e:nth idx i=idx[i]:=by unfold nth;rw [List.getElem?_eq_getElem h];rfl
  rw [rng,List.take_add_one,List.getElem?_eq_getElem h,List.filter_append,←rng,e]
  congr 1
  simp only [Option.toList_some,List.filter_cons,List.filter_nil,decide_eq_true_eq]
def mx (r:Nat × Nat):PV := .agg [i64 r.1,i64 r.2]

section walks
variable {G:Globs}
set_option maxHeartbeats 8000000 in
theorem within_spec (idx:List Int) (lo hi:Nat) (hl:idx.length≤100000) (H:Hp) (R:AV → Hp → Prop) (h:R (.p (i64 ((rng idx lo hi).length:Nat))) H) :
    ACall Tryd.prog G 63 [.p (.sl false 1 (pl i64 idx)),.p (i64 lo),.p (i64 hi)] H R:=by
  refine ACall.of_run (raw:=[]) Tryd.func63 rfl Tryd.ntmps63 (by simp) fun hbel => ?_
  (repeat refine .z rfl ?_);refine .text ?_;simp (disch:=first|exact dsc|fail) only [go_sem,seval]
  (repeat refine .z rfl ?_);refine .text ?_;simp (disch:=first|exact dsc|fail) only [go_sem,seval]
  (repeat refine .z rfl ?_);refine .text ?_;simp (disch:=first|exact dsc|fail) only [go_sem,seval]
  (repeat refine .z rfl ?_);refine .loopE [0,1,2] (fun j=>[(7,.p (i64 ((rng (idx.take j) lo hi).length:Nat))),(8,.p (i64 j))]) (fun j=>[]) (fun j=>True) (0) (idx.length) (by omega) ?_ (by first | rfl | (simp (disch:=first|exact dsc|fail) only [go_sem,seval]<;>rfl)) ?_ ?_ ?_
  · simp (disch:=first|exact dsc|fail) only [go_sem,seval]<;>(repeat' (first | rfl | refine And.intro ?_ ?_))
  · exact trivial
  intro env E hQ;simp (disch:=first|exact dsc|fail) only [go_sem,seval] at E
  rotate_left 1
  intro j env hj0 hj E hQ ihE;simp (disch:=first|exact dsc|fail) only [go_sem,seval] at E
  rotate_left 1
  · (repeat refine .z rfl ?_);refine .text ?_;simp (disch:=first|exact dsc|fail) only [go_sem,seval,E]
    (repeat refine .z rfl ?_);refine .ifF (by simp (disch:=first|exact dsc|fail) only [go_sem,seval]) ?_
    (repeat refine .z rfl ?_);refine .text ?_;simp (disch:=first|exact dsc|fail) only [go_sem,seval,E,List.take_length]
    (repeat refine .z rfl ?_);refine .rt Tryd.func63 (by rw [Tryd.results63]) (hR := ?_);simp (disch:=first|exact dsc|fail) only [go_sem,seval]
    exact h
  · have hst:=rng_step (lo:=lo) (hi:=hi) hj
    have hle:=rng_le (idx:=idx.take j) (lo:=lo) (hi:=hi)
    rw [List.length_take] at hle
    (repeat refine .z rfl ?_);refine .text ?_;simp (disch:=first|exact dsc|fail) only [go_sem,seval,E]
    (repeat refine .z rfl ?_);refine .ifT (by simp (disch:=first|exact dsc|fail) only [go_sem,seval]) ?_
    by_cases c1:(lo:Int)≤nth idx j
    · have d1:=decide_eq_true c1
      by_cases c2:nth idx j < (hi:Int)
      · have d2:=decide_eq_true c2
        have hlen:((rng (idx.take (j+1)) lo hi).length:Int)=((rng (idx.take j) lo hi).length:Int)+1:=by
          rw [hst,if_pos ⟨c1,c2⟩,List.length_append,List.length_singleton];omega
        (repeat refine .z rfl ?_);refine .text ?_;simp (disch:=first|exact dsc|fail) only [go_sem,seval,E,d1,d2]
        (repeat refine .z rfl ?_);refine .ifT (by simp (disch:=first|exact dsc|fail) only [go_sem,seval,d1,d2]) ?_
        (repeat refine .z rfl ?_);refine .text ?_;simp (disch:=first|exact dsc|fail) only [go_sem,seval,E]
        (repeat refine .z rfl ?_);refine .text ?_;simp (disch:=first|exact dsc|fail) only [go_sem,seval,E]
        first | (refine ihE _ _ ?_ trivial ?_) | (refine .z rfl ?_;refine ihE _ _ ?_ trivial ?_) | (refine .z rfl ?_;refine .z rfl ?_;refine ihE _ _ ?_ trivial ?_) | (refine .z rfl ?_;refine .z rfl ?_;refine .z rfl ?_;refine ihE _ _ ?_ trivial ?_)
        · simp (disch:=first|exact dsc|fail) only [go_sem,seval,E,hlen]<;>(repeat' (first | rfl | refine And.intro ?_ ?_))
        · first | rfl | (simp (disch:=first|exact dsc|fail) only [go_sem,seval,E,hlen]<;>(try rfl))
      · have d2:=decide_eq_false c2
        have hlen:(rng (idx.take (j+1)) lo hi).length=(rng (idx.take j) lo hi).length:=by
          rw [hst,if_neg (fun x=>c2 x.2),List.append_nil]
        (repeat refine .z rfl ?_);refine .text ?_;simp (disch:=first|exact dsc|fail) only [go_sem,seval,E,d1,d2]
        (repeat refine .z rfl ?_);refine .ifF (by simp (disch:=first|exact dsc|fail) only [go_sem,seval,d1,d2]) ?_
        (repeat refine .z rfl ?_);refine .text ?_;simp (disch:=first|exact dsc|fail) only [go_sem,seval,E]
        first | (refine ihE _ _ ?_ trivial ?_) | (refine .z rfl ?_;refine ihE _ _ ?_ trivial ?_) | (refine .z rfl ?_;refine .z rfl ?_;refine ihE _ _ ?_ trivial ?_) | (refine .z rfl ?_;refine .z rfl ?_;refine .z rfl ?_;refine ihE _ _ ?_ trivial ?_)
        · simp (disch:=first|exact dsc|fail) only [go_sem,seval,E,hlen]<;>(repeat' (first | rfl | refine And.intro ?_ ?_))
        · first | rfl | (simp (disch:=first|exact dsc|fail) only [go_sem,seval,E,hlen]<;>(try rfl))
    · have d1:=decide_eq_false c1
      have hlen:(rng (idx.take (j+1)) lo hi).length=(rng (idx.take j) lo hi).length:=by
        rw [hst,if_neg (fun x=>c1 x.1),List.append_nil]
      (repeat refine .z rfl ?_);refine .text ?_;simp (disch:=first|exact dsc|fail) only [go_sem,seval,E,d1]
      (repeat refine .z rfl ?_);refine .ifF (by simp (disch:=first|exact dsc|fail) only [go_sem,seval,d1]) ?_
      (repeat refine .z rfl ?_);refine .text ?_;simp (disch:=first|exact dsc|fail) only [go_sem,seval,E]
      first | (refine ihE _ _ ?_ trivial ?_) | (refine .z rfl ?_;refine ihE _ _ ?_ trivial ?_) | (refine .z rfl ?_;refine .z rfl ?_;refine ihE _ _ ?_ trivial ?_) | (refine .z rfl ?_;refine .z rfl ?_;refine .z rfl ?_;refine ihE _ _ ?_ trivial ?_)
      · simp (disch:=first|exact dsc|fail) only [go_sem,seval,E,hlen]<;>(repeat' (first | rfl | refine And.intro ?_ ?_))
      · first | rfl | (simp (disch:=first|exact dsc|fail) only [go_sem,seval,E,hlen]<;>(try rfl))

set_option maxHeartbeats 8000000 in
theorem closedR_spec (idx:List Int) (hl:idx.length≤100000) : ∀ (f lo hi:Nat) (_:hi - lo≤f) (_:lo < hi) (_:hi≤65536) (H:Hp) (R:AV → Hp → Prop) (_:R (.sl H.n 0 2 (pl mx (closR f idx lo hi))) (H.new (.tail 0))),
    ACall Tryd.prog G 40 [.p (.sl false 1 (pl i64 idx)),.p (i64 lo),.p (i64 hi)] H R:=by
  intro f
  induction f with
  | zero=>intro lo hi h1 h2;omega
  | succ f ih =>
    intro lo hi h1 h2 h3 H R h
    rw [closR] at h
    refine ACall.of_run (raw:=[]) Tryd.func40 rfl Tryd.ntmps40 (by simp) fun hbel => ?_
    (repeat refine .z rfl ?_);refine .text ?_;simp (disch:=first|exact dsc|fail) only [go_sem,seval]
    (repeat refine .z rfl ?_);refine .text ?_;simp (disch:=first|exact dsc|fail) only [go_sem,seval]
    refine CallK.of (fun R h=>within_spec idx lo hi hl _ R h) ?_;simp (disch:=first|exact dsc|fail) only [go_sem,seval]
    by_cases e:rng idx lo hi=[]
    · have d:(((rng idx lo hi).length:Int) == 0)=true:=by rw [e];rfl
      rw [if_pos e] at h
      (repeat refine .z rfl ?_);refine .ifT (by simp (disch:=first|exact dsc|fail) only [go_sem,seval,d]) ?_
      (repeat refine .z rfl ?_);refine .text ?_;simp (disch:=first|exact dsc|fail) only [go_sem,seval]
      (repeat refine .z rfl ?_);refine .own 6 (by simp (disch:=first|exact dsc|fail) only [go_sem,seval];rfl) ?_
      (repeat refine .z rfl ?_);refine .retOwn Tryd.func40 (by rw [Tryd.results40]) (by simp (disch:=first|exact dsc|fail) only [go_sem,seval];rfl) (by simp (disch:=first|exact dsc|fail) only [go_sem,seval]) (by first | exact Nat.le_refl _ | (dsimp only;omega)) (by (try dsimp only);repeat (first | with_reducible refine bel_new ?_ dsc | with_reducible refine bel_appl ?_ dsc | with_reducible refine bel_set ?_ dsc | with_reducible refine bel_cl ?_ | with_reducible exact hbel | with_reducible exact hbel _)) ?_;simp (disch:=first|exact dsc|fail) only [go_sem,seval]
      exact h
    · have hne:(rng idx lo hi).length≠0:=fun x=>e (List.eq_nil_of_length_eq_zero x)
      have d:(((rng idx lo hi).length:Int) == 0)=false:=by rw [beq_eq_false_iff_ne];omega
      rw [if_neg e] at h
      (repeat refine .z rfl ?_);refine .ifF (by simp (disch:=first|exact dsc|fail) only [go_sem,seval,d]) ?_
      by_cases e1:hi - lo=1
      · have hd:decide ((hi:Int) - (lo:Int)=1)=true:=by simp only [decide_eq_true_eq];omega
        rw [if_pos e1] at h
        (repeat refine .z rfl ?_);refine .text ?_;simp (disch:=first|exact dsc|fail) only [go_sem,seval,hd]
        (repeat refine .z rfl ?_);refine .ifT (by simp (disch:=first|exact dsc|fail) only [go_sem,seval,hd]) ?_
        (repeat refine .z rfl ?_);refine .text ?_;simp (disch:=first|exact dsc|fail) only [go_sem,seval]
        (repeat refine .z rfl ?_);refine .own 6 (by simp (disch:=first|exact dsc|fail) only [go_sem,seval];rfl) ?_
        (repeat refine .z rfl ?_);refine .retOwn Tryd.func40 (by rw [Tryd.results40]) (by simp (disch:=first|exact dsc|fail) only [go_sem,seval];rfl) (by simp (disch:=first|exact dsc|fail) only [go_sem,seval]) (by first | exact Nat.le_refl _ | (dsimp only;omega)) (by (try dsimp only);repeat (first | with_reducible refine bel_new ?_ dsc | with_reducible refine bel_appl ?_ dsc | with_reducible refine bel_set ?_ dsc | with_reducible refine bel_cl ?_ | with_reducible exact hbel | with_reducible exact hbel _)) ?_;simp (disch:=first|exact dsc|fail) only [go_sem,seval]
        exact h
      · have hd:decide ((hi:Int) - (lo:Int)=1)=false:=by simp only [decide_eq_false_iff_not];omega
        rw [if_neg e1] at h
        have hc:(hi:Int) - (lo:Int)=((hi - lo:Nat):Int):=by omega
        obtain ⟨s1,s2,s3⟩:=spl_lt (n:=hi - lo) (by omega)
        have hk:(lo:Int)+((spl (hi - lo):Nat):Int)=((lo+spl (hi - lo):Nat):Int):=by omega
        have hls:=splitR_spec (G:=G) (hi - lo) (by omega) (by omega)
        (repeat refine .z rfl ?_);refine .text ?_;simp (disch:=first|exact dsc|fail) only [go_sem,seval,hd]
        (repeat refine .z rfl ?_);refine .ifF (by simp (disch:=first|exact dsc|fail) only [go_sem,seval,hd]) ?_
        (repeat refine .z rfl ?_);refine .text ?_;simp (disch:=first|exact dsc|fail) only [go_sem,seval,hc]
        refine CallK.of (fun R h=>hls _ R h) ?_;simp (disch:=first|exact dsc|fail) only [go_sem,seval,hc]
        rw [hk]
        have hk1:lo < lo+spl (hi - lo):=by omega
        have hk2:lo+spl (hi - lo) < hi:=by omega
        have hf1:lo+spl (hi - lo) - lo≤f:=by omega
        have hf2:hi - (lo+spl (hi - lo))≤f:=by omega
        generalize lo+spl (hi - lo)=k at h hk1 hk2 hf1 hf2
        have hl1:=closL_len f (rng idx lo k) lo k hk1
        have hl2:=closL_len f (rng idx k hi) k hi hk2
        rw [←closR_eq f idx lo k hk1] at hl1
        rw [←closR_eq f idx k hi hk2] at hl2
        have i1:=ih lo k hf1 hk1 (by omega)
        have i2:=ih k hi hf2 hk2 h3
        generalize closR f idx lo k=A at h hl1 i1
        generalize closR f idx k hi=B at h hl2 i2
        (repeat refine .z rfl ?_);refine .text ?_;simp (disch:=first|exact dsc|fail) only [go_sem,seval]
        refine CallK.of (fun R h=>i1 _ R h) ?_;simp (disch:=first|exact dsc|fail) only [go_sem,seval]
        (repeat refine .z rfl ?_);refine .text ?_;simp (disch:=first|exact dsc|fail) only [go_sem,seval]
        refine CallK.of (fun R h=>i2 _ R h) ?_;simp (disch:=first|exact dsc|fail) only [go_sem,seval]
        (repeat refine .z rfl ?_);refine .retOwn Tryd.func40 (by rw [Tryd.results40]) (by simp (disch:=first|exact dsc|fail) only [go_sem,seval];rfl) (by simp (disch:=first|exact dsc|fail) only [go_sem,seval]) (by first | exact Nat.le_refl _ | (dsimp only;omega)) (by (try dsimp only);repeat (first | with_reducible refine bel_new ?_ dsc | with_reducible refine bel_appl ?_ dsc | with_reducible refine bel_set ?_ dsc | with_reducible refine bel_cl ?_ | with_reducible exact hbel | with_reducible exact hbel _)) ?_;simp (disch:=first|exact dsc|fail) only [go_sem,seval]
        exact h
end walks
end Go.Proofs.YthonhnpiglafkaaDoor

/-
  Hash trees: the reference's Open.
-/
namespace Go.Proofs.YthonhnpiglafkaaDoor
open Go Go.AL

theorem cells_mx (r:Nat × Nat):(mx r).cells=[i64 r.1,i64 r.2]:=rfl
section walks
variable {G:Globs}
set_option maxHeartbeats 8000000 in
theorem increasing_spec (n:Int) (idx:List Int) (hl:idx.length≤100000) (H:Hp) (R:AV → Hp → Prop) (h:R (.p (bo (decide (Inc n idx)))) H) :
    ACall Tryd.prog G 39 [.p (.sl false 1 (pl i64 idx)),.p (i64 n)] H R:=by
  refine ACall.of_run (raw:=[]) Tryd.func39 rfl Tryd.ntmps39 (by simp) fun hbel => ?_
  (repeat refine .z rfl ?_);refine .text ?_;simp (disch:=first|exact dsc|fail) only [go_sem,seval]
  (repeat refine .z rfl ?_);refine .text ?_;simp (disch:=first|exact dsc|fail) only [go_sem,seval]
  (repeat refine .z rfl ?_);refine .loopE [0,1] (fun i=>[(5,.p (i64 i))]) (fun i=>[]) (fun i => ∀ j,j < i → prevI idx j < nth idx j∧nth idx j < n) (0) (idx.length) (by omega) ?_ (by first | rfl | (simp (disch:=first|exact dsc|fail) only [go_sem,seval]<;>rfl)) ?_ ?_ ?_
  · simp (disch:=first|exact dsc|fail) only [go_sem,seval]<;>(repeat' (first | rfl | refine And.intro ?_ ?_))
  rotate_left 1
  intro env E hQ;simp (disch:=first|exact dsc|fail) only [go_sem,seval] at E
  rotate_left 1
  intro i env hi0 hi E hQ ihE;simp (disch:=first|exact dsc|fail) only [go_sem,seval] at E
  rotate_left 1
  · intro j hj;omega
  · have hinc:Inc n idx:=hQ
    rw [decide_eq_true hinc] at h
    (repeat refine .z rfl ?_);refine .text ?_;simp (disch:=first|exact dsc|fail) only [go_sem,seval,E]
    (repeat refine .z rfl ?_);refine .ifF (by simp (disch:=first|exact dsc|fail) only [go_sem,seval]) ?_
    (repeat refine .z rfl ?_);refine .text ?_;simp (disch:=first|exact dsc|fail) only [go_sem,seval,E]
    (repeat refine .z rfl ?_);refine .rt Tryd.func39 (by rw [Tryd.results39]) (hR := ?_);simp (disch:=first|exact dsc|fail) only [go_sem,seval]
    exact h
  · (repeat refine .z rfl ?_);refine .text ?_;simp (disch:=first|exact dsc|fail) only [go_sem,seval,E]
    (repeat refine .z rfl ?_);refine .ifT (by simp (disch:=first|exact dsc|fail) only [go_sem,seval]) ?_
    by_cases c1:nth idx i < 0
    · have d1:=decide_eq_true c1
      have hno : ¬Inc n idx:=fun x=>by have:=Inc.nonneg x i hi;omega
      rw [decide_eq_false hno] at h
      (repeat refine .z rfl ?_);refine .open [] follows (by kernel_rfl) ?_;simp (disch:=first|exact dsc|fail) only [go_sem,seval,E,d1]
      (repeat refine .z rfl ?_);refine .ifT (by simp (disch:=first|exact dsc|fail) only [go_sem,seval,d1]) ?_
      (repeat refine .z rfl ?_);refine .text ?_;simp (disch:=first|exact dsc|fail) only [go_sem,seval]
      (repeat refine .z rfl ?_);refine .rt Tryd.func39 (by rw [Tryd.results39]) (hR := ?_);simp (disch:=first|exact dsc|fail) only [go_sem,seval]
      exact h
    · have d1:=decide_eq_false c1
      by_cases c2:n≤nth idx i
      · have d2:=decide_eq_true c2
        have hno : ¬Inc n idx:=fun x=>by have:=(x i hi).2;omega
        rw [decide_eq_false hno] at h
        (repeat refine .z rfl ?_);refine .open [] follows (by kernel_rfl) ?_;simp (disch:=first|exact dsc|fail) only [go_sem,seval,E,d1,d2]
        (repeat refine .z rfl ?_);refine .ifT (by simp (disch:=first|exact dsc|fail) only [go_sem,seval,d1,d2]) ?_
        (repeat refine .z rfl ?_);refine .text ?_;simp (disch:=first|exact dsc|fail) only [go_sem,seval]
        (repeat refine .z rfl ?_);refine .rt Tryd.func39 (by rw [Tryd.results39]) (hR := ?_);simp (disch:=first|exact dsc|fail) only [go_sem,seval]
        exact h
      · have d2:=decide_eq_false c2
        by_cases c3:i=0
        · subst c3
          have d3:decide ((0:Int) < 0)=false:=rfl
          (repeat refine .z rfl ?_);refine .open [] follows (by kernel_rfl) ?_;simp (disch:=first|exact dsc|fail) only [go_sem,seval,E,d1,d2,d3]
          (repeat refine .z rfl ?_);refine .ifF (by simp (disch:=first|exact dsc|fail) only [go_sem,seval,d1,d2,d3]) ?_
          (repeat refine .z rfl ?_);refine .text ?_;simp (disch:=first|exact dsc|fail) only [go_sem,seval,E]
          first | (refine ihE _ _ ?_ (fun j hj=>by (have:j=0:=by omega);subst this;rw [prevI_zero];omega) ?_) | (refine .z rfl ?_;refine ihE _ _ ?_ (fun j hj=>by (have:j=0:=by omega);subst this;rw [prevI_zero];omega) ?_) | (refine .z rfl ?_;refine .z rfl ?_;refine ihE _ _ ?_ (fun j hj=>by (have:j=0:=by omega);subst this;rw [prevI_zero];omega) ?_) | (refine .z rfl ?_;refine .z rfl ?_;refine .z rfl ?_;refine ihE _ _ ?_ (fun j hj=>by (have:j=0:=by omega);subst this;rw [prevI_zero];omega) ?_)
          · simp (disch:=first|exact dsc|fail) only [go_sem,seval,E]<;>(repeat' (first | rfl | refine And.intro ?_ ?_))
          · first | rfl | (simp (disch:=first|exact dsc|fail) only [go_sem,seval,E]<;>(try rfl))
        · have d3:decide ((0:Int) < (i:Int))=true:=by simp only [decide_eq_true_eq];omega
          have ht:((i:Int) - 1).toNat=i - 1:=by omega
          have hp:prevI idx i=nth idx (i - 1):=if_neg c3
          by_cases c4:nth idx i≤nth idx (i - 1)
          · have d4:=decide_eq_true c4
            have hno : ¬Inc n idx:=fun x=>by have:=(x i hi).1;omega
            rw [decide_eq_false hno] at h
            (repeat refine .z rfl ?_);refine .open [] follows (by kernel_rfl) ?_;simp (disch:=first|exact dsc|fail) only [go_sem,seval,E,d1,d2,d3,ht,d4]
            (repeat refine .z rfl ?_);refine .ifT (by simp (disch:=first|exact dsc|fail) only [go_sem,seval,d1,d2,d3,d4]) ?_
            (repeat refine .z rfl ?_);refine .text ?_;simp (disch:=first|exact dsc|fail) only [go_sem,seval]
            (repeat refine .z rfl ?_);refine .rt Tryd.func39 (by rw [Tryd.results39]) (hR := ?_);simp (disch:=first|exact dsc|fail) only [go_sem,seval]
            exact h
          · have d4:=decide_eq_false c4
            (repeat refine .z rfl ?_);refine .open [] follows (by kernel_rfl) ?_;simp (disch:=first|exact dsc|fail) only [go_sem,seval,E,d1,d2,d3,ht,d4]
            (repeat refine .z rfl ?_);refine .ifF (by simp (disch:=first|exact dsc|fail) only [go_sem,seval,d1,d2,d3,d4]) ?_
            (repeat refine .z rfl ?_);refine .text ?_;simp (disch:=first|exact dsc|fail) only [go_sem,seval,E]
            first | (refine ihE _ _ ?_ (fun j hj=>if e:j=i then by subst e;exact ⟨by omega,by omega⟩ else hQ j (by omega)) ?_) | (refine .z rfl ?_;refine ihE _ _ ?_ (fun j hj=>if e:j=i then by subst e;exact ⟨by omega,by omega⟩ else hQ j (by omega)) ?_) | (refine .z rfl ?_;refine .z rfl ?_;refine ihE _ _ ?_ (fun j hj=>if e:j=i then by subst e;exact ⟨by omega,by omega⟩ else hQ j (by omega)) ?_) | (refine .z rfl ?_;refine .z rfl ?_;refine .z rfl ?_;refine ihE _ _ ?_ (fun j hj=>if e:j=i then by subst e;exact ⟨by omega,by omega⟩ else hQ j (by omega)) ?_)
            · simp (disch:=first|exact dsc|fail) only [go_sem,seval,E]<;>(repeat' (first | rfl | refine And.intro ?_ ?_))
            · first | rfl | (simp (disch:=first|exact dsc|fail) only [go_sem,seval,E]<;>(try rfl))

end walks
end Go.Proofs.YthonhnpiglafkaaDoor

/-
  Hash trees: the steps from the root to a leaf.
-/
namespace Go.Proofs.YthonhnpiglafkaaDoor
open Go Go.AL

def stepL:Nat → Nat → Nat → Nat → List (Bool × Nat × Nat)
  | 0,_,_,_=>[]
  | f+1,i,lo,hi=>if hi - lo≤1 then [] else
    if i < lo+spl (hi - lo) then (true,lo+spl (hi - lo),hi) :: stepL f i lo (lo+spl (hi - lo)) else (false,lo,lo+spl (hi - lo)) :: stepL f i (lo+spl (hi - lo)) hi

section walks
variable {G:Globs}
theorem steps_spec (n i:Int) (H:Hp) (R:AV → Hp → Prop) (h:R (.clo 64 [] [.ptr H.n 0,.ptr (H.n+1) 0]) ((H.new (.cells [.p (i64 n)])).new (.cells [.p (i64 i)]))):ACall Tryd.prog G 41 [.p (i64 n),.p (i64 i)] H R:=by
  refine ACall.of_run (raw:=[]) Tryd.func41 rfl Tryd.ntmps41 (by simp) fun hbel => ?_
  (repeat refine .z rfl ?_);refine .text ?_;simp (disch:=first|exact dsc|fail) only [go_sem,seval]
  (repeat refine .z rfl ?_);refine .text ?_;simp (disch:=first|exact dsc|fail) only [go_sem,seval]
  (repeat refine .z rfl ?_);refine .retKeep Tryd.func41 (by rw [Tryd.results41]) (by simp (disch:=first|exact dsc|fail) only [go_sem,seval];rfl) ?_;(try simp (disch:=first|exact dsc|fail) only [go_sem,seval])
  exact h

set_option maxHeartbeats 8000000 in
theorem steps1_spec (y p q:Nat) (X:Nat → Hp) (m:Nat) (hX : ∀ i,(X i).n=m) (hB : ∀ i,Bel m (X i)) (hy0:y < m) (n i:Nat) (h1:1≤n) (h2:n≤65536) (hi:i < n)
    (hp : ∀ i,(X i).f p=some (.cells [.p (i64 n)])) (hq : ∀ j,(X j).f q=some (.cells [.p (i64 i)]))
    (hy : ∀ j,j < (stepL n i 0 n).length → ∀ (S:List AB) (K:AV → Hp → Prop),K (.p (bo true)) (app (X (j+1)) S) → AYield Tryd.prog G y [.p (bo (nth (stepL n i 0 n) j).1),.p (subV (nth (stepL n i 0 n) j).2.1 (nth (stepL n i 0 n) j).2.2 [])] (app (X j) S) K)
    (R:AV → Hp → Prop) (h:R (.tup []) (X (stepL n i 0 n).length)):ACall Tryd.prog G 64 [.yld y,.ptr p 0,.ptr q 0] (X 0) R:=by
  have hX0:=hX 0
  have hp0:=hp 0
  refine ACall.of_run (raw:=[]) Tryd.func64 rfl Tryd.ntmps64 (by simp) fun hbel => ?_
  rw [hX0]
  have hbel : ∀ i,Bel m (X i):=hB
  (repeat refine .z rfl ?_);refine .open [] follows (by kernel_rfl) ?_;simp (disch:=first|exact dsc|fail) only [go_sem,seval,hp0]
  repeat refine .z rfl ?_
  refine .iter (S:=Nat × Nat × List (Bool × Nat × Nat)) (fun s env' H'=>env' 0 = .yld y∧env' 2 = .ptr q 0∧env' 4 = .p (i64 s.1)∧env' 5 = .p (i64 s.2.1)∧s.1≤i∧i < s.2.1∧s.2.1≤n∧0≤s.1 ∧
    ∃ T f,s.2.1 - s.1≤f∧stepL n i 0 n=s.2.2++stepL f i s.1 s.2.1∧H'=app (X s.2.2.length) T) (fun s=>s.2.1 - s.1) (0,n,[]) ?_ ?_
  · exact ⟨by simp (disch:=first|exact dsc|fail) only [go_sem,seval],by simp (disch:=first|exact dsc|fail) only [go_sem,seval],by simp (disch:=first|exact dsc|fail) only [go_sem,seval],by simp (disch:=first|exact dsc|fail) only [go_sem,seval],by dsimp only;omega,by dsimp only;omega,by dsimp only;omega,by dsimp only;omega,[],n,by dsimp only;omega,rfl,rfl⟩
  · intro ⟨lo,hh,D⟩ env H' ⟨e0,e2,e4,e5,g1,g2,g3,g4,T,f,hf,hD,eH⟩ ih
    subst eH
    dsimp only at e4 e5 g1 g2 g3 g4 hf hD
    obtain ⟨f,rfl⟩ : ∃ f',f=f'+1:=⟨f - 1,by omega⟩
    by_cases hgt:hh - lo≤1
    · have d0:decide ((1:Int) < (hh:Int) - (lo:Int))=false:=by simp only [decide_eq_false_iff_not];omega
      rw [stepL,if_pos hgt,List.append_nil] at hD
      (repeat refine .z rfl ?_);refine .text ?_;simp (disch:=first|exact dsc|fail) only [go_sem,seval,e4,e5,d0]
      (repeat refine .z rfl ?_);refine .ifF (by simp (disch:=first|exact dsc|fail) only [go_sem,seval,d0]) ?_
      rw [hD] at h
      have hXD:=hX D.length
      (repeat refine .z rfl ?_);refine .fin Tryd.func64 (by rw [Tryd.results64]) (by simp (disch:=first|exact dsc|fail) only [go_sem,seval];rfl) (by simp (disch:=first|exact dsc|fail) only [go_sem,seval];rfl) (by (try dsimp only);repeat (first | with_reducible refine bel_new ?_ dsc | with_reducible refine bel_appl ?_ dsc | with_reducible refine bel_set ?_ dsc | with_reducible refine bel_cl ?_ | with_reducible exact hbel | with_reducible exact hbel _)) ?_;simp (disch:=first|exact dsc|fail) only [go_sem,seval]
      exact h
    · have d0:decide ((1:Int) < (hh:Int) - (lo:Int))=true:=by simp only [decide_eq_true_eq];omega
      have hc:(hh:Int) - (lo:Int)=((hh - lo:Nat):Int):=by omega
      obtain ⟨s1,s2,s3⟩:=spl_lt (n:=hh - lo) (by omega)
      have hk:(lo:Int)+((spl (hh - lo):Nat):Int)=((lo+spl (hh - lo):Nat):Int):=by omega
      have hls:=split_spec (G:=G) (hh - lo) (by omega) (by omega)
      (repeat refine .z rfl ?_);refine .text ?_;simp (disch:=first|exact dsc|fail) only [go_sem,seval,e4,e5,d0]
      (repeat refine .z rfl ?_);refine .ifT (by simp (disch:=first|exact dsc|fail) only [go_sem,seval,d0]) ?_
      (repeat refine .z rfl ?_);refine .text ?_;simp (disch:=first|exact dsc|fail) only [go_sem,seval,e4,e5,hc]
      refine CallK.of (fun R h=>hls _ R h) ?_;simp (disch:=first|exact dsc|fail) only [go_sem,seval,e4,e5,hc]
      rw [hk]
      generalize hmid:lo+spl (hh - lo)=mid
      by_cases c:i < mid
      · have d:=decide_eq_true (show (i:Int) < (mid:Int) by omega)
        have hst:stepL (f+1) i lo hh=(true,mid,hh) :: stepL f i lo mid:=by rw [stepL,if_neg hgt,hmid,if_pos c]
        rw [hst] at hD
        have hlt:D.length < (stepL n i 0 n).length:=by rw [hD,List.length_append,List.length_cons];omega
        have hnth:nth (stepL n i 0 n) D.length=(true,mid,hh):=by rw [hD];unfold nth;rw [List.getElem?_append_right (Nat.le_refl _),Nat.sub_self];rfl
        have hyk:=hy D.length hlt (T++[.cells [.p (i64 mid),.p (i64 hh),.p (.sl true 1 [])]])
        rw [hnth] at hyk
        unfold subV at hyk
        have hXk:=hX D.length
        have hqk:(app (X D.length) T).f q=some (.cells [.p (i64 i)]):=app_f' (hq D.length)
        (repeat refine .z rfl ?_);refine .text ?_;simp (disch:=first|exact dsc|fail) only [go_sem,seval,e2,e4,e5,hqk,hXk,d]
        (repeat refine .z rfl ?_);refine .text ?_;simp (disch:=first|exact dsc|fail) only [go_sem,seval,d]
        (repeat refine .z rfl ?_);refine .ifT (by simp (disch:=first|exact dsc|fail) only [go_sem,seval,d]) ?_
        (repeat refine .z rfl ?_);refine .text ?_;simp (disch:=first|exact dsc|fail) only [go_sem,seval,e4,e5,hXk]
        
        (repeat refine .z rfl ?_);refine .text ?_;simp (disch:=first|exact dsc|fail) only [go_sem,seval,e0,hXk]
        rw [app_push]
        refine YieldK.of (fun K hK=>hyk K hK) ?_;simp (disch:=first|exact dsc|fail) only [go_sem,seval]
        (repeat refine .z rfl ?_);refine .ifF (by simp (disch:=first|exact dsc|fail) only [go_sem,seval]) ?_
        first | (refine ih (lo,mid,D++[(true,mid,hh)]) _ _ ?_ (by dsimp only;omega)) | (refine .z rfl ?_;refine ih (lo,mid,D++[(true,mid,hh)]) _ _ ?_ (by dsimp only;omega)) | (refine .z rfl ?_;refine .z rfl ?_;refine ih (lo,mid,D++[(true,mid,hh)]) _ _ ?_ (by dsimp only;omega)) | (refine .z rfl ?_;refine .z rfl ?_;refine .z rfl ?_;refine ih (lo,mid,D++[(true,mid,hh)]) _ _ ?_ (by dsimp only;omega))
        refine ⟨by simp (disch:=first|exact dsc|fail) only [go_sem,seval,e0],by simp (disch:=first|exact dsc|fail) only [go_sem,seval,e2],by simp (disch:=first|exact dsc|fail) only [go_sem,seval,e4,e5],by simp (disch:=first|exact dsc|fail) only [go_sem,seval,e4,e5],by dsimp only;omega,by dsimp only;omega,by dsimp only;omega,by dsimp only;omega,T++[.cells [.p (i64 mid),.p (i64 hh),.p (.sl true 1 [])]],f,by dsimp only;omega,by rw [hD];simp,by rw [List.length_append];rfl⟩
      · have d:=decide_eq_false (show ¬(i:Int) < (mid:Int) by omega)
        have hst:stepL (f+1) i lo hh=(false,lo,mid) :: stepL f i mid hh:=by rw [stepL,if_neg hgt,hmid,if_neg c]
        rw [hst] at hD
        have hlt:D.length < (stepL n i 0 n).length:=by rw [hD,List.length_append,List.length_cons];omega
        have hnth:nth (stepL n i 0 n) D.length=(false,lo,mid):=by rw [hD];unfold nth;rw [List.getElem?_append_right (Nat.le_refl _),Nat.sub_self];rfl
        have hyk:=hy D.length hlt (T++[.cells [.p (i64 lo),.p (i64 mid),.p (.sl true 1 [])]])
        rw [hnth] at hyk
        unfold subV at hyk
        have hXk:=hX D.length
        have hqk:(app (X D.length) T).f q=some (.cells [.p (i64 i)]):=app_f' (hq D.length)
        (repeat refine .z rfl ?_);refine .text ?_;simp (disch:=first|exact dsc|fail) only [go_sem,seval,e2,e4,e5,hqk,hXk,d]
        (repeat refine .z rfl ?_);refine .text ?_;simp (disch:=first|exact dsc|fail) only [go_sem,seval,d]
        (repeat refine .z rfl ?_);refine .ifF (by simp (disch:=first|exact dsc|fail) only [go_sem,seval,d]) ?_
        (repeat refine .z rfl ?_);refine .text ?_;simp (disch:=first|exact dsc|fail) only [go_sem,seval,e4,e5,hXk]
        (repeat refine .z rfl ?_);refine .text ?_;simp (disch:=first|exact dsc|fail) only [go_sem,seval,e4,e5,hXk]
        (repeat refine .z rfl ?_);refine .text ?_;simp (disch:=first|exact dsc|fail) only [go_sem,seval,e0,hXk]
        rw [app_push]
        refine YieldK.of (fun K hK=>hyk K hK) ?_;simp (disch:=first|exact dsc|fail) only [go_sem,seval]
        (repeat refine .z rfl ?_);refine .ifF (by simp (disch:=first|exact dsc|fail) only [go_sem,seval]) ?_
        first | (refine ih (mid,hh,D++[(false,lo,mid)]) _ _ ?_ (by dsimp only;omega)) | (refine .z rfl ?_;refine ih (mid,hh,D++[(false,lo,mid)]) _ _ ?_ (by dsimp only;omega)) | (refine .z rfl ?_;refine .z rfl ?_;refine ih (mid,hh,D++[(false,lo,mid)]) _ _ ?_ (by dsimp only;omega)) | (refine .z rfl ?_;refine .z rfl ?_;refine .z rfl ?_;refine ih (mid,hh,D++[(false,lo,mid)]) _ _ ?_ (by dsimp only;omega))
        refine ⟨by simp (disch:=first|exact dsc|fail) only [go_sem,seval,e0],by simp (disch:=first|exact dsc|fail) only [go_sem,seval,e2],by simp (disch:=first|exact dsc|fail) only [go_sem,seval,e4,e5],by simp (disch:=first|exact dsc|fail) only [go_sem,seval,e4,e5],by dsimp only;omega,by dsimp only;omega,by dsimp only;omega,by dsimp only;omega,T++[.cells [.p (i64 lo),.p (i64 mid),.p (.sl true 1 [])]],f,by dsimp only;omega,by rw [hD];simp,by rw [List.length_append];rfl⟩
end walks
end Go.Proofs.YthonhnpiglafkaaDoor

/-
  Hash trees: turning a row of digests round.
-/
namespace Go.Proofs.YthonhnpiglafkaaDoor
open Go Go.AL

theorem flat_get {L:List By} {i:Nat} (h : ∀ d∈L,d.length=32) (hi:i < L.length):(L.flatten.drop (i*32)).take 32=nth L i:=by
  have hn:nth L i=L[i]:=by unfold nth;rw [List.getElem?_eq_getElem hi];rfl
  have hnl:(nth L i).length=32:=by rw [hn];exact h _ (List.getElem_mem _)
  have h1:L=L.take i++nth L i :: L.drop (i+1):=by rw [hn,←List.drop_eq_getElem_cons hi,List.take_append_drop]
  have ht:(L.take i).flatten.length=i*32:=by
    rw [flat_len32 fun d hd=>h d (List.mem_of_mem_take hd),List.length_take];omega
  have h3:L.flatten=(L.take i).flatten++(nth L i++(L.drop (i+1)).flatten):=by
    conv=>lhs;rw [h1]
    rw [List.flatten_append,List.flatten_cons]
  rw [h3,List.drop_append,List.drop_of_length_le (by omega),List.nil_append,ht,Nat.sub_self,List.drop_zero,List.take_append_of_le_length (by omega),List.take_of_length_le (by omega)]
def revT (L:List By) (i:Nat):List By:=tabL (fun j=>if j < i ∨ L.length - i≤j then nth L (L.length - 1 - j) else nth L j) L.length
theorem revT_len {L:List By} {i:Nat}:(revT L i).length=L.length:=tabL_len
theorem nth_tabL {f:Nat → By} {n i:Nat} (h:i < n):nth (tabL f n) i=f i:=by unfold nth;rw [tabL_get h];rfl
theorem revT_zero {L:List By}:revT L 0=L:=by
  refine nth_ext revT_len fun j hj => ?_
  rw [revT_len] at hj
  rw [revT,nth_tabL hj,if_neg (by omega)]
theorem revT_all {L:List By}:revT L (L.length / 2)=L.reverse:=by
  refine nth_ext (by rw [revT_len,List.length_reverse]) fun j hj => ?_
  rw [revT_len] at hj
  have hr:nth L.reverse j=nth L (L.length - 1 - j):=by
    unfold nth;rw [List.getElem?_reverse hj]
  rw [revT,nth_tabL hj,hr]
  split
  · rfl
  · congr 1;omega
theorem revT_mem {L:List By} {i:Nat} (h : ∀ d∈L,d.length=32) : ∀ d∈revT L i,d.length=32:=by
  intro d hd
  unfold revT tabL at hd
  obtain ⟨j,hj,rfl⟩:=List.mem_map.1 hd
  have hj':=List.mem_range.1 hj
  split
  · exact h _ (nth_mem (by omega))
  · exact h _ (nth_mem (by omega))
theorem revT_lo {L:List By} {i:Nat} (h:i < L.length / 2):nth (revT L i) i=nth L i:=by rw [revT,nth_tabL (by omega),if_neg (by omega)]
theorem revT_hi {L:List By} {i:Nat} (h:i < L.length / 2):nth (revT L i) (L.length - 1 - i)=nth L (L.length - 1 - i):=by rw [revT,nth_tabL (by omega),if_neg (by omega)]
theorem revT_succ {L:List By} {i:Nat} (h:i < L.length / 2):((revT L i).set i (nth L (L.length - 1 - i))).set (L.length - 1 - i) (nth L i)=revT L (i+1):=by
  unfold revT
  rw [tabL_set,tabL_set]
  refine tabL_congr fun j hj => ?_
  by_cases e1:j=L.length - 1 - i
  · subst e1
    rw [if_pos rfl,if_pos (by omega)]
    congr 1;omega
  · rw [if_neg e1]
    by_cases e2:j=i
    · subst e2
      rw [if_pos rfl,if_pos (by omega)]
    · rw [if_neg e2]
      by_cases e3:j < i ∨ L.length - i≤j
      · rw [if_pos e3,if_pos (by omega)]
      · rw [if_neg e3,if_neg (by omega)]
theorem bel_vecb {n b:Nat} {H:Hp} {l:By} (h:Bel n H):Bel n (H.set b (.vec (cl b8 l))):=bel_setx h fun y hy=>by
  simp only [AB.vals,Option.getD_some,cl,List.mem_map] at hy
  obtain ⟨x,_,rfl⟩:=hy
  exact .p _

section walks
variable {G:Globs}
set_option maxHeartbeats 8000000 in
theorem Reverse_spec (L:List By) (hl:L.length≤100000) (hL : ∀ d∈L,d.length=32) (b:Nat) (H:Hp) (hb:H.f b=some (.vec (cl b8 L.flatten))) (R:AV → Hp → Prop) (h:R (.tup []) (H.set b (.vec (cl b8 L.reverse.flatten)))) :
    ACall Tryd.prog G 42 [.vr b L.length 32] H R:=by
  have hlt:=Hp.lt hb
  have hset:H.set b (.vec (cl b8 L.flatten))=H:=Hp.ext (fun c=>by
    by_cases hc:c=b
    · subst hc;rw [f_set_eq rfl hlt];exact hb.symm
    · rw [f_set_ne' hc]) rfl
  refine ACall.of_run (raw:=[]) Tryd.func42 rfl Tryd.ntmps42 (by simp) fun hbel => ?_
  (repeat refine .z rfl ?_);refine .text ?_;simp (disch:=first|exact dsc|fail) only [go_sem,seval]
  (repeat refine .z rfl ?_);refine .loopH [0] (fun i=>[(2,.p (i64 i)),(3,.p (i64 ((L.length:Int) - 1 - i)))]) (fun i=>H.set b (.vec (cl b8 (revT L i).flatten))) (fun i=>True) (0) (L.length / 2) (by omega) ?_ (by first | rfl | (simp (disch:=first|exact dsc|fail) only [go_sem,seval,revT_zero,hset,Int.sub_zero]<;>rfl)) ?_ ?_ ?_
  · simp (disch:=first|exact dsc|fail) only [go_sem,seval,revT_zero,hset,Int.sub_zero]<;>(repeat' (first | rfl | refine And.intro ?_ ?_))
  · exact trivial
  intro env E hQ;simp (disch:=first|exact dsc|fail) only [go_sem,seval,revT_zero,hset,Int.sub_zero] at E
  rotate_left 1
  intro i env hi0 hi E hQ ihE;simp (disch:=first|exact dsc|fail) only [go_sem,seval,revT_zero,hset,Int.sub_zero] at E
  rotate_left 1
  · have d:decide (((L.length / 2:Nat):Int) < (L.length:Int) - 1 - ((L.length / 2:Nat):Int))=false:=by simp only [decide_eq_false_iff_not];omega
    (repeat refine .z rfl ?_);refine .text ?_;simp (disch:=first|exact dsc|fail) only [go_sem,seval,E,d]
    (repeat refine .z rfl ?_);refine .ifF (by simp (disch:=first|exact dsc|fail) only [go_sem,seval,d]) ?_
    rw [revT_all]
    have hbel:Bel H.n (H.set b (.vec (cl b8 L.reverse.flatten))):=bel_vecb hbel
    (repeat refine .z rfl ?_);refine .fin Tryd.func42 (by rw [Tryd.results42]) (by simp (disch:=first|exact dsc|fail) only [go_sem,seval];rfl) (by simp (disch:=first|exact dsc|fail) only [go_sem,seval];rfl) (by (try dsimp only);repeat (first | with_reducible refine bel_new ?_ dsc | with_reducible refine bel_appl ?_ dsc | with_reducible refine bel_set ?_ dsc | with_reducible refine bel_cl ?_ | with_reducible exact hbel | with_reducible exact hbel _)) ?_;simp (disch:=first|exact dsc|fail) only [go_sem,seval]
    exact h
  · have d:decide ((i:Int) < (L.length:Int) - 1 - (i:Int))=true:=by simp only [decide_eq_true_eq];omega
    have ht:((L.length:Int) - 1 - (i:Int)).toNat=L.length - 1 - i:=by omega
    have hm:=revT_mem (L:=L) (i:=i) hL
    have hrl:=revT_len (L:=L) (i:=i)
    have hfl:=flat_len32 hm
    have g1:=flat_get hm (i:=i) (by omega)
    have g2:=flat_get hm (i:=L.length - 1 - i) (by omega)
    rw [revT_lo hi] at g1
    rw [revT_hi hi] at g2
    have n1:(nth L i).length=32:=hL _ (nth_mem (by omega))
    have n2:(nth L (L.length - 1 - i)).length=32:=hL _ (nth_mem (by omega))
    have s1:=flat_set hm (i:=i) (d:=nth L (L.length - 1 - i)) (by omega) n2
    have hm2 : ∀ d∈(revT L i).set i (nth L (L.length - 1 - i)),d.length=32:=fun d hd=>by
      rcases List.mem_or_eq_of_mem_set hd with h | h
      · exact hm d h
      · rw [h];exact n2
    have s2:=flat_set hm2 (i:=L.length - 1 - i) (d:=nth L i) (by rw [List.length_set];omega) n1
    have hfl2:=flat_len32 hm2
    rw [revT_succ hi] at s2
    rw [List.length_set] at hfl2
    (repeat refine .z rfl ?_);refine .text ?_;simp (disch:=first|exact dsc|fail) only [go_sem,seval,E,d]
    (repeat refine .z rfl ?_);refine .ifT (by simp (disch:=first|exact dsc|fail) only [go_sem,seval,d]) ?_
    have g1c:List.take 32 (List.drop (i*32) (cl b8 (revT L i).flatten))=cl b8 (nth L i):=by rw [cl_drop,cl_take,g1]
    have g2c:List.take 32 (List.drop ((L.length - 1 - i)*32) (cl b8 (revT L i).flatten))=cl b8 (nth L (L.length - 1 - i)):=by rw [cl_drop,cl_take,g2]
    have hp:(L.length:Int) - 1 - ((i:Int)+1)=(L.length:Int) - 1 - (i:Int) - 1:=by omega
    (repeat refine .z rfl ?_);refine .openT [13,15] follows (by kernel_rfl) ?_;simp (disch:=first|exact dsc|fail) only [go_sem,seval,E,ht,g1c,g2c,s1,s2,hfl,hfl2,hrl,n1,n2]
    (repeat refine .z rfl ?_);refine .text ?_;simp (disch:=first|exact dsc|fail) only [go_sem,seval,E]
    first | (refine ihE _ _ ?_ trivial ?_) | (refine .z rfl ?_;refine ihE _ _ ?_ trivial ?_) | (refine .z rfl ?_;refine .z rfl ?_;refine ihE _ _ ?_ trivial ?_) | (refine .z rfl ?_;refine .z rfl ?_;refine .z rfl ?_;refine ihE _ _ ?_ trivial ?_)
    · simp (disch:=first|exact dsc|fail) only [go_sem,seval,E,hp]<;>(repeat' (first | rfl | refine And.intro ?_ ?_))
    · first | rfl | (simp (disch:=first|exact dsc|fail) only [go_sem,seval,E,hp]<;>(try rfl))
end walks
end Go.Proofs.YthonhnpiglafkaaDoor

/-
  Hash trees: Witness.
-/
namespace Go.Proofs.YthonhnpiglafkaaDoor
open Go Go.AL

theorem nth_memG {α:Type} [Inhabited α] {L:List α} {i:Nat} (h:i < L.length):nth L i∈L:=by
  have:nth L i=L[i]:=by unfold nth;rw [List.getElem?_eq_getElem h];rfl
  rw [this];exact List.getElem_mem _
theorem stepL_rng : ∀ (f i lo hi:Nat),lo < hi → ∀ s∈stepL f i lo hi,lo≤s.2.1∧s.2.1 < s.2.2∧s.2.2≤hi
  | 0,_,_,_,_,s,hs=>by simp [stepL] at hs
  | f+1,i,lo,hi,h,s,hs=>by
    rw [stepL] at hs
    split at hs
    · simp at hs
    · obtain ⟨s1,s2,s3⟩:=spl_lt (n:=hi - lo) (by omega)
      split at hs
      · rcases List.mem_cons.1 hs with rfl | hs
        · dsimp only;omega
        · have:=stepL_rng f i lo _ (by omega) s hs;omega
      · rcases List.mem_cons.1 hs with rfl | hs
        · dsimp only;omega
        · have:=stepL_rng f i _ hi (by omega) s hs;omega
theorem stepL_len : ∀ (f i lo hi:Nat),lo < hi → (stepL f i lo hi).length≤hi - lo
  | 0,_,_,_,_=>by simp [stepL]
  | f+1,i,lo,hi,h=>by
    rw [stepL]
    split
    · simp
    · obtain ⟨s1,s2,s3⟩:=spl_lt (n:=hi - lo) (by omega)
      split
      · have:=stepL_len f i lo (lo+spl (hi - lo)) (by omega);rw [List.length_cons];omega
      · have:=stepL_len f i (lo+spl (hi - lo)) hi (by omega);rw [List.length_cons];omega
def stepC (n i:Nat):List (Nat × Nat):=(stepL n i 0 n).map (·.2)
def pathD (ls:List By) (i:Nat):List By:=((stepC ls.length i).map (nodeD ls)).reverse
def witN (ls:List By) (i:Int):List By:=if chkE ls.length [i]=0 then pathD ls i.toNat else []

theorem acells_vr {n l s:Nat}:acells (.vr n l s)=some [.vr n l s]:=rfl
attribute [go_sem] acells_vr
section bel
variable {n:Nat} {H:Hp}
theorem bel_vr1 {b k sz:Nat} (h:Bel n H) (hb:b < n):Bel n (H.new (.cells [.vr b k sz])):=bel_newx h fun z hz=>by
  simp [AB.vals] at hz;subst hz;exact .vr _ _ _ hb
theorem bel_vecn {l:By} (h:Bel n H):Bel n (H.new (.vec (cl b8 l))):=bel_newx h fun y hy=>by
  simp only [AB.vals,Option.getD_some,cl,List.mem_map] at hy
  obtain ⟨x,_,rfl⟩:=hy
  exact .p _
end bel
theorem nth_stepC {n i j:Nat} (h:j < (stepL n i 0 n).length):nth (stepC n i) j=(nth (stepL n i 0 n) j).2:=by
  unfold stepC nth
  rw [List.getElem?_map,List.getElem?_eq_getElem h]
  rfl
theorem stepC_len {n i:Nat}:(stepC n i).length=(stepL n i 0 n).length:=List.length_map _
theorem nodesF_mem {ls:List By} {cs:List (Nat × Nat)} {i:Nat} (h : ∀ r∈cs,r.1 < r.2∧r.2≤ls.length) : ∀ d∈nodesF ls cs i,d.length=32:=by
  intro d hd
  unfold nodesF at hd
  obtain ⟨r,hr,rfl⟩:=List.mem_map.1 hd
  obtain ⟨h1,h2⟩:=h r (List.mem_of_mem_take hr)
  exact rootD_len (by rw [List.length_drop,List.length_take];omega)
section walks
variable {G:Globs}
set_option maxHeartbeats 8000000 in
theorem Witness_spec (hG:GS G) (ls:List By) (i:Int) (hl:ls.length≤100000) (hb:Short ls) (H:Hp) (R:AV → Hp → Prop)
    (h:R (.tup [.p (.sl false 32 (pl db (witN ls i))),.p (i64 (chkE ls.length [i]:Nat))]) H):ACall Tryd.prog G 16 [.p (.sl false 1 (pl bs ls)),.p (i64 i)] H R:=by
  obtain ⟨hG0,hG1⟩:=hG
  refine ACall.of_run (raw:=[]) Tryd.func16 rfl Tryd.ntmps16 (by simp) fun hbel => ?_
  (repeat refine .z rfl ?_);refine .text ?_;simp (disch:=first|exact dsc|fail) only [go_sem,seval]
  (repeat refine .z rfl ?_);refine .text ?_;simp (disch:=first|exact dsc|fail) only [go_sem,seval]
  refine CallK.of (fun R h=>check_spec (ls.length:Int) (by omega) (by omega) [i] (by simp) _ R h) ?_;simp (disch:=first|exact dsc|fail) only [go_sem,seval]
  by_cases h0:chkE ls.length [i]=0
  · have hinc:Inc ls.length [i]:=by
      by_cases e:Inc ls.length [i]
      · exact e
      · rw [chkE,if_neg e] at h0;cases h0
    have hsz:sizeE ls.length=0:=by rw [chkE,if_pos hinc] at h0;exact h0
    have hn:1≤ls.length∧ls.length≤65536:=by
      unfold sizeE at hsz
      split at hsz
      · cases hsz
      · split at hsz
        · cases hsz
        · omega
    have hi0:0≤i:=Inc.nonneg hinc 0 (by simp)
    have hi1:i < ls.length:=(hinc 0 (by simp)).2
    obtain ⟨k,rfl⟩ : ∃ k:Nat,i=k:=⟨i.toNat,by omega⟩
    rw [witN,if_pos h0,Int.toNat_natCast] at h
    (repeat refine .z rfl ?_);refine .text ?_;simp (disch:=first|exact dsc|fail) only [go_sem,seval,h0]
    (repeat refine .z rfl ?_);refine .ifF (by simp (disch:=first|exact dsc|fail) only [go_sem,seval,h0]) ?_
    (repeat refine .z rfl ?_);refine .text ?_;simp (disch:=first|exact dsc|fail) only [go_sem,seval]
    refine CallK.of (fun R h=>hashes_spec hG0 hG1 ls hn.2 hb _ R h) ?_;simp (disch:=first|exact dsc|fail) only [go_sem,seval]
    (repeat refine .z rfl ?_);refine .vecC (H.n+1) 0 (by simp (disch:=first|exact dsc|fail) only [go_sem,seval];rfl) (by rfl) ?_;simp (disch:=first|exact dsc|fail) only [go_sem,seval,List.set_cons_zero]
    (repeat refine .z rfl ?_);refine .text ?_;simp (disch:=first|exact dsc|fail) only [go_sem,seval]
    refine CallK.of (fun R h=>steps_spec (ls.length:Int) (k:Int) _ R h) ?_;simp (disch:=first|exact dsc|fail) only [go_sem,seval]
    (repeat refine .z rfl ?_);refine .rangeFunc (ps:=[26,27]) rfl (by simp (disch:=first|exact dsc|fail) only [go_sem,seval];rfl) (by simp (disch:=first|exact dsc|fail) only [go_sem,seval]) (by simp) fun L vs hL hvs hround => ?_;simp (disch:=first|exact dsc|fail) only [go_sem,seval]
    have hcs : ∀ r∈stepC ls.length k,r.1 < r.2∧r.2≤ls.length:=fun r hr=>by
      obtain ⟨x,hx,rfl⟩:=List.mem_map.1 hr
      have:=stepL_rng ls.length k 0 ls.length (by omega) x hx
      exact ⟨this.2.1,this.2.2⟩
    refine steps1_spec (H.n+5) (H.n+3) (H.n+4) (fun j=>(((((H.new (.cells [.p (.sl false 32 (pl db (ls.map leaf)))])).new (.cells [.vr (H.n+2) j 32])).new (.vec (cl b8 (nodesF ls (stepC ls.length k) j).flatten))).new (.cells [.p (i64 ls.length)])).new (.cells [.p (i64 k)])).new (.obj vs (L .ready none))) (H.n+6) (fun j=>by simp (disch:=first|exact dsc|fail) only [go_sem,seval]) (fun j => ?_) (by omega) ls.length k hn.1 hn.2 (by omega) (fun j=>by simp (disch:=first|exact dsc|fail) only [go_sem,seval]) (fun j=>by simp (disch:=first|exact dsc|fail) only [go_sem,seval]) (fun j hj S K hK => ?_) _ ?_
    · (try dsimp only);(repeat (first | with_reducible exact hbel | with_reducible exact bel_start hbel dsc | with_reducible refine bel_newc ?_ | with_reducible refine bel_newp ?_ | with_reducible refine bel_newt ?_ | with_reducible refine bel_newo hvs ?_ dsc | with_reducible refine bel_cl ?_ | with_reducible refine bel_setp ?_ | with_reducible refine bel_sett ?_ | with_reducible refine bel_setd ?_ | with_reducible refine bel_newd ?_))
      (repeat (first | exact bel_start hbel (by omega) | refine bel_p3 ?_ | refine bel_p1 ?_ | refine bel_vr1 ?_ (by omega) | refine bel_vecn ?_ | refine bel_newt ?_))
    · have hmem:=stepL_rng ls.length k 0 ls.length (by omega) (nth (stepL ls.length k 0 ls.length) j) (nth_memG hj)
      have hs:=nodesF_succ (ls:=ls) (cs:=stepC ls.length k) (i:=j) (by rw [stepC_len];exact hj)
      rw [nth_stepC hj] at hs
      have hcn:=stepL_len ls.length k 0 ls.length (by omega)
      have hnl:(nodesF ls (stepC ls.length k) j).length=j:=nodesF_len (by rw [stepC_len];omega)
      have hfl0:=flat_len32 (nodesF_mem (ls:=ls) (cs:=stepC ls.length k) (i:=j) hcs)
      unfold subV
      generalize nth (stepL ls.length k 0 ls.length) j=r at hmem hs ⊢
      obtain ⟨g,a,b⟩:=r
      dsimp only at hmem hs ⊢
      obtain ⟨c1,c2,c3⟩:=hmem
      have hnd:nodeD ls (a,b)=foldD (((ls.map leaf).take b).drop a):=by
        unfold nodeD rootD
        rw [List.map_drop,List.map_take]
      rw [hnd] at hs
      have hll:(((ls.map leaf).take b).drop a).length=b - a:=by rw [List.length_drop,List.length_take,List.length_map];omega
      have hmm : ∀ d∈((ls.map leaf).take b).drop a,d.length=32:=fun d h=>map_leaf_mem d (List.mem_of_mem_take (List.mem_of_mem_drop h))
      have hs2:cl b8 (nodesF ls (stepC ls.length k) j).flatten++cl b8 (foldD (((ls.map leaf).take b).drop a))=cl b8 (nodesF ls (stepC ls.length k) (j+1)).flatten:=by rw [←hs,cl_append,List.flatten_append];simp
      have hfl:=foldD_len' (ds:=((ls.map leaf).take b).drop a) (by omega) hmm
      refine hround _ _ _ rfl (by simp (disch:=first|exact dsc|fail) only [go_sem,seval]) fun hbel2 => ?_
      dsimp only
      simp (disch:=first|exact dsc|fail) only [go_sem,seval]
      (repeat refine .z rfl ?_);refine .text ?_;simp (disch:=first|exact dsc|fail) only [go_sem,seval]
      (repeat refine .z rfl ?_);refine .beginRound rfl hL (by simp (disch:=first|exact dsc|fail) only [go_sem,seval];rfl) ?_;simp (disch:=first|exact dsc|fail) only [go_sem,seval]
      (repeat refine .z rfl ?_);refine .open [9,10] follows (by kernel_rfl) ?_;simp (disch:=first|exact dsc|fail) only [go_sem,seval]
      refine CallD.still (fun R h=>fold_spec hG0 hG1 _ _ (Nat.le_refl _) (by omega) (by omega) hmm _ R h) ?_;simp (disch:=first|exact dsc|fail) only [go_sem,seval,hfl,db_def,cells_db,weak_db,hs2,hnl,hfl0]
      simp (disch:=first|exact dsc|fail) only [go_sem,seval] at hbel2
      (repeat refine .z rfl ?_);refine .roundEnd rfl hL (by simp (disch:=first|exact dsc|fail) only [go_sem,seval];rfl) ?_ ?_
      · refine bel_p3 (bel_app hbel2 (by simp (disch:=first|exact dsc|fail) only [go_sem,seval]) (by simp (disch:=first|exact dsc|fail) only [go_sem,seval];omega) ?_)
        (try dsimp only);(repeat (first | with_reducible exact hbel | with_reducible exact bel_start hbel dsc | with_reducible refine bel_newc ?_ | with_reducible refine bel_newp ?_ | with_reducible refine bel_newt ?_ | with_reducible refine bel_newo hvs ?_ dsc | with_reducible refine bel_cl ?_ | with_reducible refine bel_setp ?_ | with_reducible refine bel_sett ?_ | with_reducible refine bel_setd ?_ | with_reducible refine bel_newd ?_))
        (repeat (first | exact bel_start hbel (by omega) | refine bel_p3 ?_ | refine bel_p1 ?_ | refine bel_vr1 ?_ (by omega) | refine bel_vecn ?_ | refine bel_newt ?_))
      · simp (disch:=first|exact dsc|fail) only [go_sem,seval]
        exact hK
    · unfold LoopEnd;refine ⟨?_,.inl ⟨(by simp (disch:=first|exact dsc|fail) only [go_sem,seval]<;>rfl),?_⟩⟩;(try dsimp only);(repeat (first | with_reducible exact hbel | with_reducible exact bel_start hbel dsc | with_reducible refine bel_newc ?_ | with_reducible refine bel_newp ?_ | with_reducible refine bel_newt ?_ | with_reducible refine bel_newo hvs ?_ dsc | with_reducible refine bel_cl ?_ | with_reducible refine bel_setp ?_ | with_reducible refine bel_sett ?_ | with_reducible refine bel_setd ?_ | with_reducible refine bel_newd ?_));simp (disch:=first|exact dsc|fail) only [go_sem,seval]
      · (repeat (first | exact bel_start hbel (by omega) | refine bel_p3 ?_ | refine bel_p1 ?_ | refine bel_vr1 ?_ (by omega) | refine bel_vecn ?_ | refine bel_newt ?_))
      have hall:nodesF ls (stepC ls.length k) (stepL ls.length k 0 ls.length).length=(stepC ls.length k).map (nodeD ls):=by unfold nodesF;rw [←stepC_len,List.take_length]
      have hNm : ∀ d∈(stepC ls.length k).map (nodeD ls),d.length=32:=by
        have:=nodesF_mem (ls:=ls) (cs:=stepC ls.length k) (i:=(stepL ls.length k 0 ls.length).length) hcs
        rw [hall] at this
        exact this
      have hcn:=stepL_len ls.length k 0 ls.length (by omega)
      have hlenN:((stepC ls.length k).map (nodeD ls)).length=(stepL ls.length k 0 ls.length).length:=by rw [List.length_map,stepC_len]
      rw [hall]
      unfold pathD at h
      generalize (stepC ls.length k).map (nodeD ls)=N at h hNm hlenN
      rw [←hlenN]
      rw [←hlenN] at hcn
      have hfN:(N.reverse).flatten.length=N.length*32:=by rw [flat_len32 (fun d hd=>hNm d (List.mem_reverse.1 hd)),List.length_reverse]
      (repeat refine .z rfl ?_);refine .text ?_;simp (disch:=first|exact dsc|fail) only [go_sem,seval]
      refine CallK.of (fun R h=>Reverse_spec N (by omega) hNm (H.n+2) _ (by simp (disch:=first|exact dsc|fail) only [go_sem,seval]<;>rfl) R h) ?_;simp (disch:=first|exact dsc|fail) only [go_sem,seval]
      (repeat refine .z rfl ?_);refine .text ?_;simp (disch:=first|exact dsc|fail) only [go_sem,seval]
      (repeat refine .z rfl ?_);refine .frzV 4 (xs:=pl db N.reverse) (by simp (disch:=first|exact dsc|fail) only [go_sem,seval];rfl) (by simp (disch:=first|exact dsc|fail) only [go_sem,seval];rfl) (by rw [flat_db,pl_p]) (by rw [pl_len,List.length_reverse]) (fun x hx => ?_) ?_
      · simp only [pl,List.mem_map] at hx
        obtain ⟨y,hy,rfl⟩:=hx
        rw [cells_db,pl_len];exact hNm y (List.mem_reverse.1 hy)
      (repeat refine .z rfl ?_);refine .rt Tryd.func16 (by rw [Tryd.results16]) (hR := ?_);simp (disch:=first|exact dsc|fail) only [go_sem,seval]
      rw [h0] at h
      exact h
  · have hne:decide (((chkE ls.length [i]:Nat):Int)=0)=false:=by simp only [decide_eq_false_iff_not];omega
    rw [witN,if_neg h0] at h
    (repeat refine .z rfl ?_);refine .text ?_;simp (disch:=first|exact dsc|fail) only [go_sem,seval,hne]
    (repeat refine .z rfl ?_);refine .ifT (by simp (disch:=first|exact dsc|fail) only [go_sem,seval,hne]) ?_
    (repeat refine .z rfl ?_);refine .text ?_;simp (disch:=first|exact dsc|fail) only [go_sem,seval]
    (repeat refine .z rfl ?_);refine .rt Tryd.func16 (by rw [Tryd.results16]) (hR := ?_);simp (disch:=first|exact dsc|fail) only [go_sem,seval]
    exact h
end walks
end Go.Proofs.YthonhnpiglafkaaDoor

/-
  Hash trees: the reference's Witness.
-/
namespace Go.Proofs.YthonhnpiglafkaaDoor
open Go Go.AL



section walks
variable {G:Globs}
end walks
end Go.Proofs.YthonhnpiglafkaaDoor

/-
  Hash trees: bagging peaks.
-/
namespace Go.Proofs.YthonhnpiglafkaaDoor
open Go Go.AL

def bagD:List By → By
  | []=>zeroD
  | [x]=>x
  | x :: y :: l=>pair x (bagD (y :: l))
theorem bagD_step {P:List By} {k:Nat} (h:k+1 < P.length):bagD (P.drop k)=pair (nth P k) (bagD (P.drop (k+1))):=by
  have h1:P.drop k=nth P k :: P.drop (k+1):=by
    have:nth P k=P[k]:=by unfold nth;rw [List.getElem?_eq_getElem (by omega)];rfl
    rw [this,←List.drop_eq_getElem_cons]
  have h2:P.drop (k+1)=nth P (k+1) :: P.drop (k+2):=by
    have:nth P (k+1)=P[k+1]:=by unfold nth;rw [List.getElem?_eq_getElem h];rfl
    rw [this,←List.drop_eq_getElem_cons]
  rw [h1,h2,bagD]
theorem bagD_last {P:List By} (h:1≤P.length):bagD (P.drop (P.length - 1))=nth P (P.length - 1):=by
  have h1:P.drop (P.length - 1)=[nth P (P.length - 1)]:=by
    have:nth P (P.length - 1)=P[P.length - 1]:=by unfold nth;rw [List.getElem?_eq_getElem (by omega)];rfl
    rw [this,List.drop_eq_getElem_cons (by omega),List.drop_of_length_le (by omega)]
  rw [h1,bagD]
theorem bagD_len {P:List By} (hP : ∀ d∈P,d.length=32):(bagD P).length=32:=by
  cases P with
  | nil=>rfl
  | cons x l =>
    cases l with
    | nil=>exact hP x (by simp)
    | cons y l=>exact pair_len _ _

section walks
variable {G:Globs}
set_option maxHeartbeats 8000000 in
theorem BagR_spec (P:List By) (hl:P.length≤100000) (hP : ∀ d∈P,d.length=32) (H:Hp) (R:AV → Hp → Prop) (h:R (.p (.agg (pl b8 (bagD P)))) H):ACall Tryd.prog G 21 [.p (.sl false 32 (pl db P))] H R:=by
  refine ACall.of_run (raw:=[]) Tryd.func21 rfl Tryd.ntmps21 (by simp) fun hbel => ?_
  (repeat refine .z rfl ?_);refine .text ?_;simp (disch:=first|exact dsc|fail) only [go_sem,seval]
  by_cases e:P=[]
  · subst e
    (repeat refine .z rfl ?_);refine .text ?_;simp (disch:=first|exact dsc|fail) only [go_sem,seval]
    (repeat refine .z rfl ?_);refine .ifT (by simp (disch:=first|exact dsc|fail) only [go_sem,seval]) ?_
    (repeat refine .z rfl ?_);refine .text ?_;simp (disch:=first|exact dsc|fail) only [go_sem,seval]
    (repeat refine .z rfl ?_);refine .rt Tryd.func21 (by rw [Tryd.results21]) (hR := ?_);simp (disch:=first|exact dsc|fail) only [go_sem,seval]
    exact h
  · have hne:P.length≠0:=fun x=>e (List.eq_nil_of_length_eq_zero x)
    have d:((P.length:Int) == 0)=false:=by rw [beq_eq_false_iff_ne];omega
    have ht:((P.length:Int) - 1).toNat=P.length - 1:=by omega
    have hn:(nth P (P.length - 1)).length=32:=hP _ (nth_mem (by omega))
    have hlast:=bagD_last (P:=P) (by omega)
    (repeat refine .z rfl ?_);refine .text ?_;simp (disch:=first|exact dsc|fail) only [go_sem,seval,d]
    (repeat refine .z rfl ?_);refine .ifF (by simp (disch:=first|exact dsc|fail) only [go_sem,seval,d]) ?_
    (repeat refine .z rfl ?_);refine .text ?_;simp (disch:=first|exact dsc|fail) only [go_sem,seval,ht,cells_db,aggOf_db hn]
    (repeat refine .z rfl ?_);refine .text ?_;simp (disch:=first|exact dsc|fail) only [go_sem,seval]
    (repeat refine .z rfl ?_);refine .loopH [0,2,3] (fun j=>[(4,.p (i64 ((P.length:Int) - 2 - j)))]) (fun j=>(H.new (.cells (cl b8 zeroD))).new (.cells (cl b8 (bagD (P.drop (P.length - 1 - j)))))) (fun j=>True) (0) (P.length - 1) (by omega) ?_ (by first | rfl | (simp (disch:=first|exact dsc|fail) only [go_sem,seval,Int.sub_zero,Nat.sub_zero,hlast]<;>rfl)) ?_ ?_ ?_
    · simp (disch:=first|exact dsc|fail) only [go_sem,seval,Int.sub_zero,Nat.sub_zero,hlast]<;>(repeat' (first | rfl | refine And.intro ?_ ?_))
    · exact trivial
    intro env E hQ;simp (disch:=first|exact dsc|fail) only [go_sem,seval,Int.sub_zero,Nat.sub_zero,hlast] at E
    rotate_left 1
    intro j env hj0 hj E hQ ihE;simp (disch:=first|exact dsc|fail) only [go_sem,seval,Int.sub_zero,Nat.sub_zero,hlast] at E
    rotate_left 1
    · have d2:decide ((0:Int)≤(P.length:Int) - 2 - ((P.length - 1:Nat):Int))=false:=by simp only [decide_eq_false_iff_not];omega
      have hb0:=bagD_len hP
      rw [Nat.sub_self,List.drop_zero]
      have hz:zeroD.length=32:=rfl
      have hzd:List.drop 32 zeroD=[]:=rfl
      (repeat refine .z rfl ?_);refine .text ?_;simp (disch:=first|exact dsc|fail) only [go_sem,seval,E,d2]
      (repeat refine .z rfl ?_);refine .ifF (by simp (disch:=first|exact dsc|fail) only [go_sem,seval,d2]) ?_
      (repeat refine .z rfl ?_);refine .text ?_;simp (disch:=first|exact dsc|fail) only [go_sem,seval,E,hz,hb0,hzd,List.append_nil]
      (repeat refine .z rfl ?_);refine .rt Tryd.func21 (by rw [Tryd.results21]) (hx:=by simp (disch:=first|exact dsc|fail) only [go_sem,seval,E];rfl) (hR := ?_);simp (disch:=first|exact dsc|fail) only [go_sem,seval,E]
      exact h
    · have d2:decide ((0:Int)≤(P.length:Int) - 2 - (j:Int))=true:=by simp only [decide_eq_true_eq];omega
      have ht2:((P.length:Int) - 2 - (j:Int)).toNat=P.length - 2 - j:=by omega
      have hn2:(nth P (P.length - 2 - j)).length=32:=hP _ (nth_mem (by omega))
      have hb0:=bagD_len (P:=P.drop (P.length - 1 - j)) fun d hd=>hP d (List.mem_of_mem_drop hd)
      have hst:bagD (P.drop (P.length - 1 - (j+1)))=pair (nth P (P.length - 2 - j)) (bagD (P.drop (P.length - 1 - j))):=by
        rw [show P.length - 1 - (j+1)=P.length - 2 - j by omega,bagD_step (by omega),show P.length - 2 - j+1=P.length - 1 - j by omega]
      have hp:(P.length:Int) - 2 - ((j:Int)+1)=(P.length:Int) - 2 - (j:Int) - 1:=by omega
      (repeat refine .z rfl ?_);refine .text ?_;simp (disch:=first|exact dsc|fail) only [go_sem,seval,E,d2]
      (repeat refine .z rfl ?_);refine .ifT (by simp (disch:=first|exact dsc|fail) only [go_sem,seval,d2]) ?_
      (repeat refine .z rfl ?_);refine .open [6] follows (by kernel_rfl) ?_;simp (disch:=first|exact dsc|fail) only [go_sem,seval,E,ht2,cells_db,aggOf_db hn2]
      refine CallD.still (fun R h=>PairR_spec _ _ hn2 hb0 _ R h) ?_;simp (disch:=first|exact dsc|fail) only [go_sem,seval,E]
      (repeat refine .z rfl ?_);refine .text ?_;simp (disch:=first|exact dsc|fail) only [go_sem,seval,E]
      first | (refine ihE _ _ ?_ trivial ?_) | (refine .z rfl ?_;refine ihE _ _ ?_ trivial ?_) | (refine .z rfl ?_;refine .z rfl ?_;refine ihE _ _ ?_ trivial ?_) | (refine .z rfl ?_;refine .z rfl ?_;refine .z rfl ?_;refine ihE _ _ ?_ trivial ?_)
      · simp (disch:=first|exact dsc|fail) only [go_sem,seval,E,hp]<;>(repeat' (first | rfl | refine And.intro ?_ ?_))
      · exact (by rw [hst])
end walks
end Go.Proofs.YthonhnpiglafkaaDoor

/-
  Hash trees: the program's Bag.
-/
namespace Go.Proofs.YthonhnpiglafkaaDoor
open Go Go.AL

theorem bel_clb {n:Nat} {H:Hp} {l:By} (h:Bel n H):Bel n (H.new (.cells (cl b8 l))):=bel_newx h fun y hy=>by
  simp only [AB.vals,cl,List.mem_map] at hy
  obtain ⟨x,_,rfl⟩:=hy
  exact .p _
section walks
variable {G:Globs}
theorem Backward_spec (L:List By) (H:Hp) (R:AV → Hp → Prop) (h:R (.clo 69 [] [.ptr H.n 0]) (H.new (.cells [.p (.sl false 32 (pl db L))]))):ACall Tryd.prog G 47 [.p (.sl false 32 (pl db L))] H R:=by
  refine ACall.of_run (raw:=[]) Tryd.func47 rfl Tryd.ntmps47 (by simp) fun hbel => ?_
  (repeat refine .z rfl ?_);refine .text ?_;simp (disch:=first|exact dsc|fail) only [go_sem,seval]
  (repeat refine .z rfl ?_);refine .text ?_;simp (disch:=first|exact dsc|fail) only [go_sem,seval]
  (repeat refine .z rfl ?_);refine .retKeep Tryd.func47 (by rw [Tryd.results47]) (by simp (disch:=first|exact dsc|fail) only [go_sem,seval];rfl) ?_;(try simp (disch:=first|exact dsc|fail) only [go_sem,seval])
  exact h

set_option maxHeartbeats 8000000 in
theorem Backward1_spec (L:List By) (hl:L.length≤100000) (hL : ∀ d∈L,d.length=32) (y p m:Nat) (X:Nat → Hp) (hX : ∀ i,(X i).n=m) (hB : ∀ i,Bel m (X i)) (hy0:y < m) (hp : ∀ i,(X i).f p=some (.cells [.p (.sl false 32 (pl db L))]))
    (hy : ∀ j,j < L.length → ∀ (S:List AB) (K:AV → Hp → Prop),K (.p (bo true)) (app (X (j+1)) S) → AYield Tryd.prog G y [.p (i64 ((L.length:Int) - 1 - j)),.p (.agg (pl b8 (nth L (L.length - 1 - j))))] (app (X j) S) K)
    (R:AV → Hp → Prop) (h:R (.tup []) (X L.length)):ACall Tryd.prog G 69 [.yld y,.ptr p 0] (X 0) R:=by
  have hX0:=hX 0
  have hp0:=hp 0
  refine ACall.of_run (raw:=[]) Tryd.func69 rfl Tryd.ntmps69 (by simp) fun hbel => ?_
  rw [hX0]
  have hbel : ∀ i,Bel m (X i):=hB
  (repeat refine .z rfl ?_);refine .text ?_;simp (disch:=first|exact dsc|fail) only [go_sem,seval,hp0]
  (repeat refine .z rfl ?_);refine .loopH [0,1] (fun j=>[(3,.p (i64 ((L.length:Int) - 1 - j)))]) (fun j=>X j) (fun j=>True) (0) (L.length) (by omega) ?_ (by first | rfl | (simp (disch:=first|exact dsc|fail) only [go_sem,seval,Int.sub_zero]<;>rfl)) ?_ ?_ ?_
  · simp (disch:=first|exact dsc|fail) only [go_sem,seval,Int.sub_zero]<;>(repeat' (first | rfl | refine And.intro ?_ ?_))
  · exact trivial
  intro env E hQ;simp (disch:=first|exact dsc|fail) only [go_sem,seval,Int.sub_zero] at E
  rotate_left 1
  intro j env hj0 hj E hQ ihE;simp (disch:=first|exact dsc|fail) only [go_sem,seval,Int.sub_zero] at E
  rotate_left 1
  · have d:decide ((0:Int)≤(L.length:Int) - 1 - (L.length:Int))=false:=by simp only [decide_eq_false_iff_not];omega
    have hXe:=hX L.length
    (repeat refine .z rfl ?_);refine .text ?_;simp (disch:=first|exact dsc|fail) only [go_sem,seval,E,d]
    (repeat refine .z rfl ?_);refine .ifF (by simp (disch:=first|exact dsc|fail) only [go_sem,seval,d]) ?_
    (repeat refine .z rfl ?_);refine .fin Tryd.func69 (by rw [Tryd.results69]) (by simp (disch:=first|exact dsc|fail) only [go_sem,seval];rfl) (by simp (disch:=first|exact dsc|fail) only [go_sem,seval];rfl) (by (try dsimp only);repeat (first | with_reducible refine bel_new ?_ dsc | with_reducible refine bel_appl ?_ dsc | with_reducible refine bel_set ?_ dsc | with_reducible refine bel_cl ?_ | with_reducible exact hbel | with_reducible exact hbel _)) ?_;simp (disch:=first|exact dsc|fail) only [go_sem,seval]
    (try rw [trunc_eq hXe.symm])
    exact h
  · have d:decide ((0:Int)≤(L.length:Int) - 1 - (j:Int))=true:=by simp only [decide_eq_true_eq];omega
    have ht:((L.length:Int) - 1 - (j:Int)).toNat=L.length - 1 - j:=by omega
    have hn:(nth L (L.length - 1 - j)).length=32:=hL _ (nth_mem (by omega))
    have hyj:=hy j hj []
    simp only [app_nil] at hyj
    have hpj:=hp j
    have hq:(L.length:Int) - 1 - ((j:Int)+1)=(L.length:Int) - 1 - (j:Int) - 1:=by omega
    (repeat refine .z rfl ?_);refine .text ?_;simp (disch:=first|exact dsc|fail) only [go_sem,seval,E,d]
    (repeat refine .z rfl ?_);refine .ifT (by simp (disch:=first|exact dsc|fail) only [go_sem,seval,d]) ?_
    (repeat refine .z rfl ?_);refine .text ?_;simp (disch:=first|exact dsc|fail) only [go_sem,seval,E,hpj,ht,cells_db,aggOf_db hn]
    refine YieldK.of (fun K hK=>hyj K hK) ?_;simp (disch:=first|exact dsc|fail) only [go_sem,seval]
    (repeat refine .z rfl ?_);refine .ifF (by simp (disch:=first|exact dsc|fail) only [go_sem,seval]) ?_
    (repeat refine .z rfl ?_);refine .text ?_;simp (disch:=first|exact dsc|fail) only [go_sem,seval,E]
    first | (refine ihE _ _ ?_ trivial ?_) | (refine .z rfl ?_;refine ihE _ _ ?_ trivial ?_) | (refine .z rfl ?_;refine .z rfl ?_;refine ihE _ _ ?_ trivial ?_) | (refine .z rfl ?_;refine .z rfl ?_;refine .z rfl ?_;refine ihE _ _ ?_ trivial ?_)
    · simp (disch:=first|exact dsc|fail) only [go_sem,seval,E,hq]<;>(repeat' (first | rfl | refine And.intro ?_ ?_))
    · first | rfl | (simp (disch:=first|exact dsc|fail) only [go_sem,seval,E,hq]<;>(try rfl))

set_option maxHeartbeats 8000000 in
theorem Bag_spec (hG:GS G) (P:List By) (hl:P.length≤100000) (hP : ∀ d∈P,d.length=32) (H:Hp) (R:AV → Hp → Prop) (h:R (.p (.agg (pl b8 (bagD P)))) H):ACall Tryd.prog G 20 [.p (.sl false 32 (pl db P))] H R:=by
  obtain ⟨hG0,hG1⟩:=hG
  refine ACall.of_run (raw:=[]) Tryd.func20 rfl Tryd.ntmps20 (by simp) fun hbel => ?_
  (repeat refine .z rfl ?_);refine .text ?_;simp (disch:=first|exact dsc|fail) only [go_sem,seval]
  by_cases e:P=[]
  · subst e
    (repeat refine .z rfl ?_);refine .text ?_;simp (disch:=first|exact dsc|fail) only [go_sem,seval]
    (repeat refine .z rfl ?_);refine .ifT (by simp (disch:=first|exact dsc|fail) only [go_sem,seval]) ?_
    (repeat refine .z rfl ?_);refine .text ?_;simp (disch:=first|exact dsc|fail) only [go_sem,seval]
    (repeat refine .z rfl ?_);refine .rt Tryd.func20 (by rw [Tryd.results20]) (hR := ?_);simp (disch:=first|exact dsc|fail) only [go_sem,seval]
    exact h
  · have hne:P.length≠0:=fun x=>e (List.eq_nil_of_length_eq_zero x)
    have d:((P.length:Int) == 0)=false:=by rw [beq_eq_false_iff_ne];omega
    have ht:((P.length:Int) - 1).toNat=P.length - 1:=by omega
    have hn:(nth P (P.length - 1)).length=32:=hP _ (nth_mem (by omega))
    have hlast:=bagD_last (P:=P) (by omega)
    have hQl:(P.take (P.length - 1)).length=P.length - 1:=by rw [List.length_take];omega
    have hQm : ∀ d∈P.take (P.length - 1),d.length=32:=fun d hd=>hP d (List.mem_of_mem_take hd)
    have hz:zeroD.length=32:=rfl
    have hzd:List.drop 32 zeroD=[]:=rfl
    (repeat refine .z rfl ?_);refine .text ?_;simp (disch:=first|exact dsc|fail) only [go_sem,seval,d]
    (repeat refine .z rfl ?_);refine .ifF (by simp (disch:=first|exact dsc|fail) only [go_sem,seval,d]) ?_
    (repeat refine .z rfl ?_);refine .text ?_;simp (disch:=first|exact dsc|fail) only [go_sem,seval,ht,cells_db,aggOf_db hn]
    rw [←hlast]
    (repeat refine .z rfl ?_);refine .text ?_;simp (disch:=first|exact dsc|fail) only [go_sem,seval,ht]
    refine CallK.of (fun R h=>Backward_spec (P.take (P.length - 1)) _ R h) ?_;simp (disch:=first|exact dsc|fail) only [go_sem,seval]
    (repeat refine .z rfl ?_);refine .rangeFunc (ps:=[22,23]) rfl (by simp (disch:=first|exact dsc|fail) only [go_sem,seval];rfl) (by simp (disch:=first|exact dsc|fail) only [go_sem,seval]) (by simp) fun L vs hL hvs hround => ?_;simp (disch:=first|exact dsc|fail) only [go_sem,seval]
    refine Backward1_spec (P.take (P.length - 1)) (by omega) hQm (H.n+3) (H.n+2) (H.n+4) (fun j=>(((H.new (.cells (cl b8 zeroD))).new (.cells (cl b8 (bagD (P.drop (P.length - 1 - j)))))).new (.cells [.p (.sl false 32 (pl db (P.take (P.length - 1))))])).new (.obj vs (L .ready none))) (fun j=>by simp (disch:=first|exact dsc|fail) only [go_sem,seval]) (fun j => ?_) (by omega) (fun j=>by simp (disch:=first|exact dsc|fail) only [go_sem,seval]) (fun j hj S K hK => ?_) _ ?_
    · (try dsimp only);(repeat (first | with_reducible exact hbel | with_reducible exact bel_start hbel dsc | with_reducible refine bel_newc ?_ | with_reducible refine bel_newp ?_ | with_reducible refine bel_newt ?_ | with_reducible refine bel_newo hvs ?_ dsc | with_reducible refine bel_cl ?_ | with_reducible refine bel_setp ?_ | with_reducible refine bel_sett ?_ | with_reducible refine bel_setd ?_ | with_reducible refine bel_newd ?_))
      (repeat (first | exact bel_start hbel (by omega) | refine bel_p3 ?_ | refine bel_p1 ?_ | refine bel_clb ?_ | refine bel_newt ?_))
    · rw [hQl] at hj ⊢
      have hn2:(nth P (P.length - 2 - j)).length=32:=hP _ (nth_mem (by omega))
      have hb0:=bagD_len (P:=P.drop (P.length - 1 - j)) fun d hd=>hP d (List.mem_of_mem_drop hd)
      have hst:bagD (P.drop (P.length - 1 - (j+1)))=pair (nth P (P.length - 2 - j)) (bagD (P.drop (P.length - 1 - j))):=by
        rw [show P.length - 1 - (j+1)=P.length - 2 - j by omega,bagD_step (by omega),show P.length - 2 - j+1=P.length - 1 - j by omega]
      have hnt:nth (P.take (P.length - 1)) (P.length - 1 - 1 - j)=nth P (P.length - 2 - j):=by
        unfold nth;rw [List.getElem?_take_of_lt (by omega),show P.length - 1 - 1 - j=P.length - 2 - j by omega]
      rw [hnt]
      rw [hst] at hK
      generalize nth P (P.length - 2 - j)=x at hn2 hK ⊢
      generalize bagD (P.drop (P.length - 1 - j))=b at hb0 hK ⊢
      refine hround _ _ _ rfl (by simp (disch:=first|exact dsc|fail) only [go_sem,seval]) fun hbel2 => ?_
      dsimp only
      simp (disch:=first|exact dsc|fail) only [go_sem,seval]
      (repeat refine .z rfl ?_);refine .text ?_;simp (disch:=first|exact dsc|fail) only [go_sem,seval]
      (repeat refine .z rfl ?_);refine .beginRound rfl hL (by simp (disch:=first|exact dsc|fail) only [go_sem,seval];rfl) ?_;simp (disch:=first|exact dsc|fail) only [go_sem,seval]
      (repeat refine .z rfl ?_);refine .text ?_;simp (disch:=first|exact dsc|fail) only [go_sem,seval]
      refine CallK.of (fun R h=>Pair_spec hG0 hG1 x b hn2 hb0 _ R h) ?_;simp (disch:=first|exact dsc|fail) only [go_sem,seval]
      simp (disch:=first|exact dsc|fail) only [go_sem,seval] at hbel2
      (repeat refine .z rfl ?_);refine .roundEnd rfl hL (by simp (disch:=first|exact dsc|fail) only [go_sem,seval];rfl) ?_ ?_
      · refine bel_clb (bel_app hbel2 (by simp (disch:=first|exact dsc|fail) only [go_sem,seval]) (by simp (disch:=first|exact dsc|fail) only [go_sem,seval];omega) ?_)
        (try dsimp only);(repeat (first | with_reducible exact hbel | with_reducible exact bel_start hbel dsc | with_reducible refine bel_newc ?_ | with_reducible refine bel_newp ?_ | with_reducible refine bel_newt ?_ | with_reducible refine bel_newo hvs ?_ dsc | with_reducible refine bel_cl ?_ | with_reducible refine bel_setp ?_ | with_reducible refine bel_sett ?_ | with_reducible refine bel_setd ?_ | with_reducible refine bel_newd ?_))
        (repeat (first | exact bel_start hbel (by omega) | refine bel_p3 ?_ | refine bel_p1 ?_ | refine bel_clb ?_ | refine bel_newt ?_))
      · simp (disch:=first|exact dsc|fail) only [go_sem,seval]
        exact hK
    · unfold LoopEnd;refine ⟨?_,.inl ⟨(by simp (disch:=first|exact dsc|fail) only [go_sem,seval]<;>rfl),?_⟩⟩;(try dsimp only);(repeat (first | with_reducible exact hbel | with_reducible exact bel_start hbel dsc | with_reducible refine bel_newc ?_ | with_reducible refine bel_newp ?_ | with_reducible refine bel_newt ?_ | with_reducible refine bel_newo hvs ?_ dsc | with_reducible refine bel_cl ?_ | with_reducible refine bel_setp ?_ | with_reducible refine bel_sett ?_ | with_reducible refine bel_setd ?_ | with_reducible refine bel_newd ?_));simp (disch:=first|exact dsc|fail) only [go_sem,seval]
      have hmn:P.length - 1 - min (P.length - 1) P.length=0:=by omega
      rw [Nat.sub_self,List.drop_zero]
      have hb0:=bagD_len hP
      (repeat refine .z rfl ?_);refine .text ?_;simp (disch:=first|exact dsc|fail) only [go_sem,seval,hz,hb0,hzd,List.append_nil]
      (repeat refine .z rfl ?_);refine .rt Tryd.func20 (by rw [Tryd.results20]) (hR := ?_);simp (disch:=first|exact dsc|fail) only [go_sem,seval]
      exact h
end walks
end Go.Proofs.YthonhnpiglafkaaDoor

/-
  Hash trees: the reference's Witness at any index.
-/
namespace Go.Proofs.YthonhnpiglafkaaDoor
open Go Go.AL


section walks
variable {G:Globs}
end walks
end Go.Proofs.YthonhnpiglafkaaDoor

/-
  Hash trees: the number of ones.
-/
namespace Go.Proofs.YthonhnpiglafkaaDoor
open Go Go.AL

def pc (n:Nat):Nat:=if h:n=0 then 0 else n % 2+pc (n / 2)
termination_by n
decreasing_by omega
theorem pc_zero:pc 0=0:=by rw [pc];rfl
theorem pc_pos {n:Nat} (h:n≠0):pc n=n % 2+pc (n / 2):=by rw [pc,dif_neg h]

section walks
variable {G:Globs}
set_option maxHeartbeats 8000000 in
theorem ones_spec (n:Nat) (hn:n≤100000) (H:Hp) (R:AV → Hp → Prop) (h:R (.p (i64 (pc n:Nat))) H):ACall Tryd.prog G 55 [.p (i64 n)] H R:=by
  refine ACall.of_run (raw:=[]) Tryd.func55 rfl Tryd.ntmps55 (by simp) fun hbel => ?_
  (repeat refine .z rfl ?_);refine .text ?_;simp (disch:=first|exact dsc|fail) only [go_sem,seval]
  (repeat refine .z rfl ?_);refine .text ?_;simp (disch:=first|exact dsc|fail) only [go_sem,seval]
  (repeat refine .z rfl ?_);refine .loopT (S:=Nat × Nat) [] (fun s=>[(0,.p (i64 (s.1:Nat))),(3,.p (i64 (s.2:Nat)))]) (fun s=>[]) (fun s=>s.1+s.2≤n∧s.2+pc s.1=pc n) (fun s=>s.1) ((n,0)) ?_ (by first | rfl | (simp (disch:=first|exact dsc|fail) only [go_sem,seval]<;>rfl)) ?_ ?_
  · simp (disch:=first|exact dsc|fail) only [go_sem,seval]<;>(repeat' (first | rfl | refine And.intro ?_ ?_))
  rotate_left 1
  intro s env E hQ ihE;simp (disch:=first|exact dsc|fail) only [go_sem,seval] at E
  rotate_left 1
  · exact ⟨by dsimp only;omega,by dsimp only;omega⟩
  · obtain ⟨a,b⟩:=s
    obtain ⟨h1,h2⟩:=hQ
    dsimp only at h1 h2 E
    by_cases ha:a=0
    · subst ha
      rw [pc_zero] at h2
      have hb:b=pc n:=by omega
      subst hb
      have d:decide ((0:Int) < ((0:Nat):Int))=false:=rfl
      (repeat refine .z rfl ?_);refine .text ?_;simp (disch:=first|exact dsc|fail) only [go_sem,seval,E,d]
      (repeat refine .z rfl ?_);refine .ifF (by simp (disch:=first|exact dsc|fail) only [go_sem,seval,d]) ?_
      (repeat refine .z rfl ?_);refine .text ?_;simp (disch:=first|exact dsc|fail) only [go_sem,seval,E]
      (repeat refine .z rfl ?_);refine .rt Tryd.func55 (by rw [Tryd.results55]) (hR := ?_);simp (disch:=first|exact dsc|fail) only [go_sem,seval]
      exact h
    · have d:decide ((0:Int) < (a:Int))=true:=by simp only [decide_eq_true_eq];omega
      have hp:=pc_pos ha
      have e1:((b+a % 2:Nat):Int)=(b:Int)+(a:Int) % 2:=by omega
      have e2:((a / 2:Nat):Int)=(a:Int) / 2:=by omega
      (repeat refine .z rfl ?_);refine .text ?_;simp (disch:=first|exact dsc|fail) only [go_sem,seval,E,d]
      (repeat refine .z rfl ?_);refine .ifT (by simp (disch:=first|exact dsc|fail) only [go_sem,seval,d]) ?_
      (repeat refine .z rfl ?_);refine .text ?_;simp (disch:=first|exact dsc|fail) only [go_sem,seval,E]
      (repeat refine .z rfl ?_);refine .text ?_;simp (disch:=first|exact dsc|fail) only [go_sem,seval,E]
      first | (refine ihE ((a / 2,b+a % 2)) _ _ ?_ ?_ ⟨by dsimp only;omega,by dsimp only;omega⟩ ?_) | (refine .z rfl ?_;refine ihE ((a / 2,b+a % 2)) _ _ ?_ ?_ ⟨by dsimp only;omega,by dsimp only;omega⟩ ?_) | (refine .z rfl ?_;refine .z rfl ?_;refine ihE ((a / 2,b+a % 2)) _ _ ?_ ?_ ⟨by dsimp only;omega,by dsimp only;omega⟩ ?_) | (refine .z rfl ?_;refine .z rfl ?_;refine .z rfl ?_;refine ihE ((a / 2,b+a % 2)) _ _ ?_ ?_ ⟨by dsimp only;omega,by dsimp only;omega⟩ ?_)
      rotate_left 1
      · simp (disch:=first|exact dsc|fail) only [go_sem,seval,E,e1,e2]<;>(repeat' (first | rfl | refine And.intro ?_ ?_))
      · first | rfl | (simp (disch:=first|exact dsc|fail) only [go_sem,seval,E,e1,e2]<;>(try rfl))
      dsimp only;omega
end walks
end Go.Proofs.YthonhnpiglafkaaDoor

/-
  Hash trees: how often a digest stands in a row.
-/
namespace Go.Proofs.YthonhnpiglafkaaDoor
open Go Go.AL


section walks
variable {G:Globs}
end walks
end Go.Proofs.YthonhnpiglafkaaDoor

/-
  Hash trees: the laws' texts.
-/
namespace Go.Proofs.YthonhnpiglafkaaDoor
open Go Go.AL

def textL (n:Nat):List By:=(List.range n).map fun j=>[BitVec.ofInt 8 (97+((j:Nat):Int) % 26)]
theorem textL_succ {n:Nat}:textL (n+1)=textL n++[[BitVec.ofInt 8 (97+(n:Int) % 26)]]:=by simp [textL,List.range_succ]
theorem textL_len {n:Nat}:(textL n).length=n:=by simp [textL]

section walks
variable {G:Globs}
set_option maxHeartbeats 8000000 in
theorem texts_spec (n:Nat) (hn:n≤1000) (H:Hp) (R:AV → Hp → Prop) (h:R (.p (.sl false 1 (pl bs (textL n)))) H):ACall Tryd.prog G 30 [.p (i64 n)] H R:=by
  refine ACall.of_run (raw:=[]) Tryd.func30 rfl Tryd.ntmps30 (by simp) fun hbel => ?_
  have hz:textL 0=[]:=rfl
  (repeat refine .z rfl ?_);refine .text ?_;simp (disch:=first|exact dsc|fail) only [go_sem,seval]
  (repeat refine .z rfl ?_);refine .text ?_;simp (disch:=first|exact dsc|fail) only [go_sem,seval]
  (repeat refine .z rfl ?_);refine .own 3 (by simp (disch:=first|exact dsc|fail) only [go_sem,seval];rfl) ?_
  (repeat refine .z rfl ?_);refine .text ?_;simp (disch:=first|exact dsc|fail) only [go_sem,seval]
  (repeat refine .z rfl ?_);refine .loopE [0] (fun i=>[(3,.sl H.n i 1 (pl bs (textL i))),(4,.p (i64 i))]) (fun i=>[(H.n,.tail i)]) (fun i=>True) (0) (n) (by omega) ?_ (by first | rfl | (simp (disch:=first|exact dsc|fail) only [go_sem,seval,hz]<;>rfl)) ?_ ?_ ?_
  · simp (disch:=first|exact dsc|fail) only [go_sem,seval,hz]<;>(repeat' (first | rfl | refine And.intro ?_ ?_))
  · exact trivial
  intro env E hQ;simp (disch:=first|exact dsc|fail) only [go_sem,seval,hz] at E
  rotate_left 1
  intro i env hi0 hi E hQ ihE;simp (disch:=first|exact dsc|fail) only [go_sem,seval,hz] at E
  rotate_left 1
  · (repeat refine .z rfl ?_);refine .text ?_;simp (disch:=first|exact dsc|fail) only [go_sem,seval,E]
    (repeat refine .z rfl ?_);refine .ifF (by simp (disch:=first|exact dsc|fail) only [go_sem,seval]) ?_
    (repeat refine .z rfl ?_);refine .text ?_;simp (disch:=first|exact dsc|fail) only [go_sem,seval,E]
    (repeat refine .z rfl ?_);refine .rt Tryd.func30 (by rw [Tryd.results30]) (hR := ?_);simp (disch:=first|exact dsc|fail) only [go_sem,seval]
    exact h
  · have hl:=textL_len (n:=i)
    have hs:pl bs (textL i)++[.sl false 1 [b8 (BitVec.ofInt 8 (97+(i:Int) % 26))]]=pl bs (textL (i+1)):=by rw [textL_succ,←pl_append];rfl
    (repeat refine .z rfl ?_);refine .text ?_;simp (disch:=first|exact dsc|fail) only [go_sem,seval,E]
    (repeat refine .z rfl ?_);refine .ifT (by simp (disch:=first|exact dsc|fail) only [go_sem,seval]) ?_
    (repeat refine .z rfl ?_);refine .text ?_;simp (disch:=first|exact dsc|fail) only [go_sem,seval,E,hl,hs]
    (repeat refine .z rfl ?_);refine .text ?_;simp (disch:=first|exact dsc|fail) only [go_sem,seval,E]
    first | (refine ihE _ _ ?_ trivial ?_) | (refine .z rfl ?_;refine ihE _ _ ?_ trivial ?_) | (refine .z rfl ?_;refine .z rfl ?_;refine ihE _ _ ?_ trivial ?_) | (refine .z rfl ?_;refine .z rfl ?_;refine .z rfl ?_;refine ihE _ _ ?_ trivial ?_)
    · simp (disch:=first|exact dsc|fail) only [go_sem,seval,E,hs]<;>(repeat' (first | rfl | refine And.intro ?_ ?_))
    · first | rfl | (simp (disch:=first|exact dsc|fail) only [go_sem,seval,E,hs]<;>(try rfl))
end walks
end Go.Proofs.YthonhnpiglafkaaDoor

/-
  Hash trees: the opened leaves.
-/
namespace Go.Proofs.YthonhnpiglafkaaDoor
open Go Go.AL


section walks
variable {G:Globs}
theorem mkAgg_lv {a v:Nat} {idx:List Int} {L:List By}:mkAgg [.p (.sl false 1 (pl i64 idx)),.sl a v 1 (pl bs L)] = .p (.agg [.sl false 1 (pl i64 idx),.sl false 1 (pl bs L)]):=rfl
attribute [go_sem] mkAgg_lv
end walks
end Go.Proofs.YthonhnpiglafkaaDoor

/-
  Hash trees: the indices of a mask.
-/
namespace Go.Proofs.YthonhnpiglafkaaDoor
open Go Go.AL


section walks
variable {G:Globs}
end walks
end Go.Proofs.YthonhnpiglafkaaDoor

/-
  Hash trees: the leaves that the laws make.
-/
namespace Go.Proofs.YthonhnpiglafkaaDoor
open Go Go.AL


section walks
variable {G:Globs}
end walks
end Go.Proofs.YthonhnpiglafkaaDoor

/-
  Hash trees: the laws' leaves and indices.
-/
namespace Go.Proofs.YthonhnpiglafkaaDoor
open Go Go.AL

section walks
variable {G:Globs}
end walks
end Go.Proofs.YthonhnpiglafkaaDoor

/-
  Hash trees: the number of trailing zeros,and pushing a leaf.
-/
namespace Go.Proofs.YthonhnpiglafkaaDoor
open Go Go.AL

def dbt:List (BitVec 8):=Lib.deBruijn64tab.map (BitVec.ofNat 8)
theorem dbt_len:dbt.length=64:=by kernel_rfl
def GT (G:Globs):Prop:=G 2=some (64,[.agg (pl b8 dbt)])
def ones:Nat → Nat → Nat
  | 0,_=>0
  | f+1,n=>if n % 2=1 then ones f (n / 2)+1 else 0
theorem ctz_ones : ∀ n,n < 128 → Lib.ctz 64 (18446744073709551615 - n)=ones 64 n:=by decide +kernel
theorem glob_cell {G:Globs} {σ:Gh} {H:Hp} {w:World} (hr:Rel G σ H w) {g sz:Nat} {l:List (BitVec 8)} (hG:G g=some (sz,[.agg (pl b8 l)])) (j:Nat) (hj:j < l.length) :
    w.cell? ⟨g,j,none⟩=some (.int .u8 ((l[j]).toNat:Int)):=by
  have h:=hr.glob g sz _ hG
  have hfl:(flat [PV.agg (pl b8 l)])[j]? = some (b8 l[j]):=by
    have:flat [PV.agg (pl b8 l)]=pl b8 l:=by simp [flat,PV.cells]
    rw [this,pl,List.getElem?_map,List.getElem?_eq_getElem hj];rfl
  generalize hv:Value.pointer (some ⟨g,0,none⟩)=v at h
  cases h with
  | ip h hi hs =>
    rename_i off cap
    injection hv with hv
    injection hv with hv
    injection hv with e1 e2 e3
    have e2':off=0:=by omega
    subst e1 e2'
    cases h with
    | sl _ _ _ _ _ _ f hfl0 hcap hsz hrd hc =>
      have hc':=hc j _ hfl
      have hlen:j < [PV.agg (pl b8 l)].length*sz:=by
        have:=hsz (.agg (pl b8 l)) (by simp)
        simp [PV.cells,pl_len] at this
        simp;omega
      obtain ⟨_,h2,_⟩:=hrd j hlen
      rw [Nat.zero_add] at h2
      rw [h2]
      generalize f j=y at hc'
      cases hc'
      rfl

def pushI (P:List By) (b:By):Nat → By
  | 0=>leaf b
  | i+1=>pair (nth P (P.length - 1 - i)) (pushI P b i)
def pushD (P:List By) (n:Nat) (b:By):List By:=P.take (P.length - ones 64 n)++[pushI P b (ones 64 n)]
theorem pushI_len {P:List By} {b:By} : ∀ i,(pushI P b i).length=32
  | 0=>leaf_len b
  | i+1=>pair_len _ _

section walks
variable {G:Globs}
theorem TrailingZeros64_spec (hT:GT G) (x:BitVec 64) (hx:x≠0#64) (H:Hp) (R:AV → Hp → Prop) (h:R (.p (i64 (Lib.ctz 64 x.toNat:Nat))) H):ACall Tryd.prog G 68 [.p (w64 x)] H R:=by
  intro σ w vs hr hvs
  have hs:vs.size=1:=hvs.1
  have r0:=hvs.2 0 _ vs[0] rfl (by simp)
  have e0:vs[0] = .int .u64 x.toNat:=by
    generalize vs[0]=v at r0
    cases r0 with | p r=>cases r;rfl
  have hv:vs = #[.int .u64 x.toNat]:=by
    apply Array.ext
    · simp [hs]
    · intro i h1 h2
      have:i=0:=by simp at h2;omega
      subst this
      simpa using e0
  rw [hv]
  have hlt:=x.isLt
  have hx0:x.toNat≠0:=fun e=>hx (BitVec.eq_of_toNat_eq (by rw [e];rfl))
  refine Calls.mono (tz64 x.toNat (by omega) hx0 w fun j hj => ?_) ?_
  · rw [glob_cell hr hT j (by rw [dbt_len];exact hj)]
    have hjl:j < Lib.deBruijn64tab.length:=by
      have:Lib.deBruijn64tab.length=64:=by kernel_rfl
      omega
    have hall : ∀ j,j < 64 → ((dbt[j]?).getD 0#8).toNat=Lib.deBruijn64tab.getD j 0:=by decide +kernel
    have:=hall j hj
    rw [List.getElem?_eq_getElem (by rw [dbt_len];exact hj),Option.getD_some] at this
    rw [this]
  rintro e w' ⟨rfl,rfl⟩
  exact ⟨_,_,σ,_,h,rfl,hr,.p (.s _ rfl),.refl (Nat.le_refl _)⟩
theorem TrailingZeros_spec (hT:GT G) (x:BitVec 64) (hx:x≠0#64) (H:Hp) (R:AV → Hp → Prop) (h:R (.p (i64 (Lib.ctz 64 x.toNat:Nat))) H):ACall Tryd.prog G 45 [.p (w64 x)] H R:=by
  refine ACall.of_run (raw:=[]) Tryd.func45 rfl Tryd.ntmps45 (by simp) fun hbel => ?_
  (repeat refine .z rfl ?_);refine .text ?_;simp (disch:=first|exact dsc|fail) only [go_sem,seval]
  (repeat refine .z rfl ?_);refine .cond (t:=false) (by rfl) ?_;simp only [Bool.false_eq_true,if_false]
  (repeat refine .z rfl ?_);refine .text ?_;simp (disch:=first|exact dsc|fail) only [go_sem,seval]
  refine CallK.of (fun R h=>TrailingZeros64_spec hT x hx _ R h) ?_;simp (disch:=first|exact dsc|fail) only [go_sem,seval]
  (repeat refine .z rfl ?_);refine .rt Tryd.func45 (by rw [Tryd.results45]) (hR := ?_);simp (disch:=first|exact dsc|fail) only [go_sem,seval]
  exact h

set_option maxHeartbeats 8000000 in
theorem Push_spec (hG:GS G) (hT:GT G) (P:List By) (hl:P.length≤100000) (hP : ∀ d∈P,d.length=32) (n:Nat) (hn:n < 128) (ho:ones 64 n≤P.length) (b:By) (hb:b.length≤140737488352000) (H:Hp) (R:AV → Hp → Prop)
    (h:R (.p (.sl false 32 (pl db (pushD P n b)))) H):ACall Tryd.prog G 18 [.p (.sl false 32 (pl db P)),.p (i64 n),.p (.sl false 1 (pl b8 b))] H R:=by
  obtain ⟨hG0,hG1⟩:=hG
  have htz:Lib.ctz 64 (~~~(BitVec.ofNat 64 n)).toNat=ones 64 n:=by
    rw [BitVec.toNat_not,BitVec.toNat_ofNat,Nat.mod_eq_of_lt (by omega)]
    exact ctz_ones n hn
  have hx : ~~~(BitVec.ofNat 64 n)≠0#64:=by
    intro e
    have:=congrArg BitVec.toNat e
    rw [BitVec.toNat_not,BitVec.toNat_ofNat] at this
    simp at this
    omega
  have hcv:BitVec.ofInt 64 (n:Int)=BitVec.ofNat 64 n:=by simp
  refine ACall.of_run (raw:=[]) Tryd.func18 rfl Tryd.ntmps18 (by simp) fun hbel => ?_
  (repeat refine .z rfl ?_);refine .text ?_;simp (disch:=first|exact dsc|fail) only [go_sem,seval]
  (repeat refine .z rfl ?_);refine .text ?_;simp (disch:=first|exact dsc|fail) only [go_sem,seval]
  refine CallK.of (fun R h=>Leaf_spec hG0 hG1 b hb _ R h) ?_;simp (disch:=first|exact dsc|fail) only [go_sem,seval]
  (repeat refine .z rfl ?_);refine .text ?_;simp (disch:=first|exact dsc|fail) only [go_sem,seval,hcv]
  refine CallK.of (fun R h=>TrailingZeros_spec hT _ hx _ R h) ?_;simp (disch:=first|exact dsc|fail) only [go_sem,seval]
  rw [htz]
  have hp0:pushI P b 0=leaf b:=rfl
  (repeat refine .z rfl ?_);refine .loopE [0,7,16] (fun i=>[(8,.p (i64 ((P.length:Int) - i))),(17,.p (i64 i))]) (fun i=>[(H.n,.cells (cl b8 (pushI P b i)))]) (fun i=>True) (0) (ones 64 n) (by omega) ?_ (by first | rfl | (simp (disch:=first|exact dsc|fail) only [go_sem,seval,hp0,Int.sub_zero]<;>rfl)) ?_ ?_ ?_
  · simp (disch:=first|exact dsc|fail) only [go_sem,seval,hp0,Int.sub_zero]<;>(repeat' (first | rfl | refine And.intro ?_ ?_))
  · exact trivial
  intro env E hQ;simp (disch:=first|exact dsc|fail) only [go_sem,seval,hp0,Int.sub_zero] at E
  rotate_left 1
  intro i env hi0 hi E hQ ihE;simp (disch:=first|exact dsc|fail) only [go_sem,seval,hp0,Int.sub_zero] at E
  rotate_left 1
  · have d:decide (((ones 64 n:Nat):Int) < ((ones 64 n:Nat):Int))=false:=by simp
    have hpl:=pushI_len (P:=P) (b:=b) (ones 64 n)
    have ht:((P.length:Int) - ((ones 64 n:Nat):Int)).toNat=P.length - ones 64 n:=by omega
    (repeat refine .z rfl ?_);refine .text ?_;simp (disch:=first|exact dsc|fail) only [go_sem,seval,E,d]
    (repeat refine .z rfl ?_);refine .ifF (by simp (disch:=first|exact dsc|fail) only [go_sem,seval,d]) ?_
    unfold pushD at h
    generalize pushI P b (ones 64 n)=q at hpl h ⊢
    (repeat refine .z rfl ?_);refine .open [6] follows (by kernel_rfl) ?_;simp (disch:=first|exact dsc|fail) only [go_sem,seval,E,ht,hpl,cells_db,aggOf_db hpl]
    have hcat:pl db (P.take (P.length - ones 64 n))++[.agg (pl b8 q)]=pl db (P.take (P.length - ones 64 n)++[q]):=by rw [←pl_append];rfl
    rw [hcat]
    (repeat refine .z rfl ?_);refine .rt Tryd.func18 (by rw [Tryd.results18]) (hR := ?_);simp (disch:=first|exact dsc|fail) only [go_sem,seval]
    exact h
  · have d:decide ((i:Int) < ((ones 64 n:Nat):Int))=true:=by simp only [decide_eq_true_eq];omega
    have hpl:=pushI_len (P:=P) (b:=b) i
    have ht:((P.length:Int) - (i:Int) - 1).toNat=P.length - 1 - i:=by omega
    have hn2:(nth P (P.length - 1 - i)).length=32:=hP _ (nth_mem (by omega))
    have hs:pushI P b (i+1)=pair (nth P (P.length - 1 - i)) (pushI P b i):=rfl
    have hq:(P.length:Int) - ((i:Int)+1)=(P.length:Int) - (i:Int) - 1:=by omega
    (repeat refine .z rfl ?_);refine .text ?_;simp (disch:=first|exact dsc|fail) only [go_sem,seval,E,d]
    (repeat refine .z rfl ?_);refine .ifT (by simp (disch:=first|exact dsc|fail) only [go_sem,seval,d]) ?_
    (repeat refine .z rfl ?_);refine .text ?_;simp (disch:=first|exact dsc|fail) only [go_sem,seval,E]
    generalize hw:nth P (P.length - 1 - i)=x at hn2 hs
    generalize hw2:pushI P b i=y at hpl hs
    (repeat refine .z rfl ?_);refine .open [6] follows (by kernel_rfl) ?_;simp (disch:=first|exact dsc|fail) only [go_sem,seval,E,ht,hw,hw2,cells_db,aggOf_db hn2]
    refine CallD.still (fun R h=>Pair_spec hG0 hG1 x y hn2 hpl _ R h) ?_;simp (disch:=first|exact dsc|fail) only [go_sem,seval,E,hs,hw2]
    (repeat refine .z rfl ?_);refine .text ?_;simp (disch:=first|exact dsc|fail) only [go_sem,seval,E]
    first | (refine ihE _ _ ?_ trivial ?_) | (refine .z rfl ?_;refine ihE _ _ ?_ trivial ?_) | (refine .z rfl ?_;refine .z rfl ?_;refine ihE _ _ ?_ trivial ?_) | (refine .z rfl ?_;refine .z rfl ?_;refine .z rfl ?_;refine ihE _ _ ?_ trivial ?_)
    · simp (disch:=first|exact dsc|fail) only [go_sem,seval,E,hq,hs]<;>(repeat' (first | rfl | refine And.intro ?_ ?_))
    · first | rfl | (simp (disch:=first|exact dsc|fail) only [go_sem,seval,E,hq,hs]<;>(try rfl))
end walks
end Go.Proofs.YthonhnpiglafkaaDoor

/-
  Hash trees: nil as an argument,turning a row of bools round,counting ones.
-/
namespace Go.Proofs.YthonhnpiglafkaaDoor
open Go Go.AL

theorem wk_nil {σ:Gh} {H:Hp} {w:World} {v:Value} {fl:Bool} {sz:Nat} (h:RelV σ H w (.p (.s (.slice none 0 0))) v):RelV σ H w (.p (.sl fl sz [])) v:=by
  cases h with
  | p h=>cases h;exact .p (.nil _ _)
theorem nil_arg {P:Program} {G:Globs} {f:FuncId} {xs ys:List AV} {fl:Bool} {sz:Nat} {H:Hp} {R:AV → Hp → Prop} (h:ACall P G f (xs ++ .p (.sl fl sz []) :: ys) H R):ACall P G f (xs ++ .p (.s (.slice none 0 0)) :: ys) H R :=
  fun σ w vs hr hvs=>h σ w vs hr ⟨by rw [hvs.1];simp,fun i x v h1 h2=>by
    by_cases hi:i=xs.length
    · subst hi
      have e:(xs++AV.p (.sl fl sz []) :: ys)[xs.length]? = some (.p (.sl fl sz [])):=by simp
      rw [e] at h1;cases h1
      exact wk_nil (hvs.2 xs.length _ v (by simp) h2)
    · refine hvs.2 i x v ?_ h2
      rw [←h1]
      by_cases hlt:i < xs.length
      · rw [List.getElem?_append_left hlt,List.getElem?_append_left hlt]
      · rw [List.getElem?_append_right (by omega),List.getElem?_append_right (by omega)]
        obtain ⟨k,hk⟩ : ∃ k,i - xs.length=k+1:=⟨i - xs.length - 1,by omega⟩
        rw [hk,List.getElem?_cons_succ,List.getElem?_cons_succ]⟩

def revB (L:List Bool) (i:Nat):List Bool:=(List.range L.length).map fun j=>if j < i ∨ L.length - i≤j then nth L (L.length - 1 - j) else nth L j
theorem revB_len {L:List Bool} {i:Nat}:(revB L i).length=L.length:=by simp [revB]
theorem nth_revB {L:List Bool} {i j:Nat} (h:j < L.length):nth (revB L i) j=if j < i ∨ L.length - i≤j then nth L (L.length - 1 - j) else nth L j:=by
  unfold revB nth;rw [List.getElem?_map,List.getElem?_range h];rfl
theorem revB_zero {L:List Bool}:revB L 0=L:=by
  refine nth_ext revB_len fun j hj => ?_
  rw [revB_len] at hj
  rw [nth_revB hj,if_neg (by omega)]
theorem revB_all {L:List Bool}:revB L (L.length / 2)=L.reverse:=by
  refine nth_ext (by rw [revB_len,List.length_reverse]) fun j hj => ?_
  rw [revB_len] at hj
  have hr:nth L.reverse j=nth L (L.length - 1 - j):=by
    unfold nth;rw [List.getElem?_reverse hj]
  rw [nth_revB hj,hr]
  split
  · rfl
  · congr 1;omega
theorem revB_succ {L:List Bool} {i:Nat} (h:i < L.length / 2):((revB L i).set i (nth L (L.length - 1 - i))).set (L.length - 1 - i) (nth L i)=revB L (i+1):=by
  refine nth_ext (by rw [List.length_set,List.length_set,revB_len,revB_len]) fun j hj => ?_
  rw [List.length_set,List.length_set,revB_len] at hj
  rw [nth_revB hj]
  by_cases e1:L.length - 1 - i=j
  · rw [nth_set_eq e1 (by rw [List.length_set,revB_len];omega),if_pos (by omega)]
    congr 1;omega
  · rw [nth_set_ne e1]
    by_cases e2:i=j
    · subst e2
      rw [nth_set_eq rfl (by rw [revB_len];omega),if_pos (by omega)]
    · rw [nth_set_ne e2,nth_revB hj]
      by_cases e3:j < i ∨ L.length - i≤j
      · rw [if_pos e3,if_pos (by omega)]
      · rw [if_neg e3,if_neg (by omega)]
theorem bel_vecbo {n b:Nat} {H:Hp} {l:List Bool} (h:Bel n H):Bel n (H.set b (.vec (cl bo l))):=bel_setx h fun y hy=>by
  simp only [AB.vals,Option.getD_some,cl,List.mem_map] at hy
  obtain ⟨x,_,rfl⟩:=hy
  exact .p _
theorem bel_vecnbo {n:Nat} {H:Hp} {l:List Bool} (h:Bel n H):Bel n (H.new (.vec (cl bo l))):=bel_newx h fun y hy=>by
  simp only [AB.vals,Option.getD_some,cl,List.mem_map] at hy
  obtain ⟨x,_,rfl⟩:=hy
  exact .p _

def ocA (x:BitVec 64):BitVec 64:=((x >>> 1) &&& 6148914691236517205#64)+(x &&& 6148914691236517205#64)
def ocB (x:BitVec 64):BitVec 64:=((x >>> 2) &&& 3689348814741910323#64)+(x &&& 3689348814741910323#64)
def ocC (x:BitVec 64):BitVec 64:=((x >>> 4)+x) &&& 1085102592571150095#64
def ocD (x:BitVec 64):BitVec 64:=x+x >>> 8
def ocE (x:BitVec 64):BitVec 64:=x+x >>> 16
def ocF (x:BitVec 64):BitVec 64:=x+x >>> 32
def oc (x:BitVec 64):BitVec 64:=ocF (ocE (ocD (ocC (ocB (ocA x))))) &&& 127#64

section walks
variable {G:Globs}
theorem bin_and_i64 (P:Program) (t:TypeId) (x y:Int):aBin P .and t (.p (i64 x)) (.p (i64 y))=some (.p (i64 (IntKind.i64.wrap ((BitVec.ofInt 64 x &&& BitVec.ofInt 64 y).toNat:Nat)))):=by
  simp only [aBin,i64,vBin,isShift,vInt,Bool.false_eq_true,if_false,if_true,Option.map_some]
  rfl
theorem oc_out (x:BitVec 64):IntKind.i64.wrap ((BitVec.ofInt 64 (IntKind.i64.wrap (x.toNat:Nat)) &&& 127#64).toNat:Nat)=((x &&& 127#64).toNat:Nat):=by
  have e:BitVec.ofInt 64 (IntKind.i64.wrap (x.toNat:Nat))=x:=by
    apply BitVec.eq_of_toNat_eq
    rw [BitVec.toNat_ofInt]
    have:=x.isLt
    rw [IntKind.wrap_i64]
    simp only [Nat.reducePow,Int.cast_ofNat_Int]
    omega
  rw [e]
  have h2:(x &&& 127#64).toNat≤127:=by
    rw [BitVec.toNat_and];exact Nat.and_le_right
  rw [IntKind.wrap_i64]
  omega
theorem oc_lt (x:BitVec 64):(oc x).toNat≤127:=by
  unfold oc;rw [BitVec.toNat_and];exact Nat.and_le_right
set_option maxHeartbeats 8000000 in
theorem OnesCount64_spec (x:BitVec 64) (H:Hp) (R:AV → Hp → Prop) (h:R (.p (i64 ((oc x).toNat:Nat))) H):ACall Tryd.prog G 74 [.p (w64 x)] H R:=by
  have ea:ocA x=((x >>> 1) &&& 6148914691236517205#64)+(x &&& 6148914691236517205#64):=rfl
  unfold oc at h
  generalize hya:ocA x=a at ea h
  have eb:ocB a=((a >>> 2) &&& 3689348814741910323#64)+(a &&& 3689348814741910323#64):=rfl
  generalize hyb:ocB a=b at eb h
  have ec:ocC b=((b >>> 4)+b) &&& 1085102592571150095#64:=rfl
  generalize hyc:ocC b=c at ec h
  have ed:ocD c=c+c >>> 8:=rfl
  generalize hyd:ocD c=d at ed h
  have ee:ocE d=d+d >>> 16:=rfl
  generalize hye:ocE d=e at ee h
  have ef:ocF e=e+e >>> 32:=rfl
  generalize hyf:ocF e=f at ef h
  clear hya hyb hyc hyd hye hyf
  have ea:=ea.symm
  have eb:=eb.symm
  have ec:=ec.symm
  have ed:=ed.symm
  have ee:=ee.symm
  have ef:=ef.symm
  refine ACall.of_run (raw:=[]) Tryd.func74 rfl Tryd.ntmps74 (by simp) fun hbel => ?_
  (repeat refine .z rfl ?_);refine .text ?_;simp (disch:=first|exact dsc|fail) only [go_sem,seval]
  (repeat refine .z rfl ?_);refine .text ?_;simp (disch:=first|exact dsc|fail) only [go_sem,seval,ea]
  (repeat refine .z rfl ?_);refine .text ?_;simp (disch:=first|exact dsc|fail) only [go_sem,seval,eb]
  (repeat refine .z rfl ?_);refine .text ?_;simp (disch:=first|exact dsc|fail) only [go_sem,seval,ec]
  (repeat refine .z rfl ?_);refine .text ?_;simp (disch:=first|exact dsc|fail) only [go_sem,seval,ed]
  (repeat refine .z rfl ?_);refine .text ?_;simp (disch:=first|exact dsc|fail) only [go_sem,seval,ee]
  (repeat refine .z rfl ?_);refine .text ?_;simp (disch:=first|exact dsc|fail) only [go_sem,seval,ef]
  have ho:=oc_out f
  (repeat refine .z rfl ?_);refine .text ?_;simp (disch:=first|exact dsc|fail) only [go_sem,seval,bin_and_i64,ho]
  (repeat refine .z rfl ?_);refine .rt Tryd.func74 (by rw [Tryd.results74]) (hR := ?_);simp (disch:=first|exact dsc|fail) only [go_sem,seval]
  exact h
theorem OnesCount_spec (x:BitVec 64) (H:Hp) (R:AV → Hp → Prop) (h:R (.p (i64 ((oc x).toNat:Nat))) H):ACall Tryd.prog G 53 [.p (w64 x)] H R:=by
  refine ACall.of_run (raw:=[]) Tryd.func53 rfl Tryd.ntmps53 (by simp) fun hbel => ?_
  (repeat refine .z rfl ?_);refine .text ?_;simp (disch:=first|exact dsc|fail) only [go_sem,seval]
  (repeat refine .z rfl ?_);refine .cond (t:=false) (by rfl) ?_;simp only [Bool.false_eq_true,if_false]
  (repeat refine .z rfl ?_);refine .text ?_;simp (disch:=first|exact dsc|fail) only [go_sem,seval]
  refine CallK.of (fun R h=>OnesCount64_spec x _ R h) ?_;simp (disch:=first|exact dsc|fail) only [go_sem,seval]
  (repeat refine .z rfl ?_);refine .rt Tryd.func53 (by rw [Tryd.results53]) (hR := ?_);simp (disch:=first|exact dsc|fail) only [go_sem,seval]
  exact h

set_option maxHeartbeats 8000000 in
theorem ReverseB_spec (L:List Bool) (hl:L.length≤100000) (b:Nat) (H:Hp) (hb:H.f b=some (.vec (cl bo L))) (R:AV → Hp → Prop) (h:R (.tup []) (H.set b (.vec (cl bo L.reverse)))) :
    ACall Tryd.prog G 54 [.vr b L.length 1] H R:=by
  have hlt:=Hp.lt hb
  have hset:H.set b (.vec (cl bo L))=H:=Hp.ext (fun c=>by
    by_cases hc:c=b
    · subst hc;rw [f_set_eq rfl hlt];exact hb.symm
    · rw [f_set_ne' hc]) rfl
  refine ACall.of_run (raw:=[]) Tryd.func54 rfl Tryd.ntmps54 (by simp) fun hbel => ?_
  (repeat refine .z rfl ?_);refine .text ?_;simp (disch:=first|exact dsc|fail) only [go_sem,seval]
  (repeat refine .z rfl ?_);refine .loopH [0] (fun i=>[(2,.p (i64 i)),(3,.p (i64 ((L.length:Int) - 1 - i)))]) (fun i=>H.set b (.vec (cl bo (revB L i)))) (fun i=>True) (0) (L.length / 2) (by omega) ?_ (by first | rfl | (simp (disch:=first|exact dsc|fail) only [go_sem,seval,revB_zero,hset,Int.sub_zero]<;>rfl)) ?_ ?_ ?_
  · simp (disch:=first|exact dsc|fail) only [go_sem,seval,revB_zero,hset,Int.sub_zero]<;>(repeat' (first | rfl | refine And.intro ?_ ?_))
  · exact trivial
  intro env E hQ;simp (disch:=first|exact dsc|fail) only [go_sem,seval,revB_zero,hset,Int.sub_zero] at E
  rotate_left 1
  intro i env hi0 hi E hQ ihE;simp (disch:=first|exact dsc|fail) only [go_sem,seval,revB_zero,hset,Int.sub_zero] at E
  rotate_left 1
  · have d:decide (((L.length / 2:Nat):Int) < (L.length:Int) - 1 - ((L.length / 2:Nat):Int))=false:=by simp only [decide_eq_false_iff_not];omega
    (repeat refine .z rfl ?_);refine .text ?_;simp (disch:=first|exact dsc|fail) only [go_sem,seval,E,d]
    (repeat refine .z rfl ?_);refine .ifF (by simp (disch:=first|exact dsc|fail) only [go_sem,seval,d]) ?_
    rw [revB_all]
    have hbel:Bel H.n (H.set b (.vec (cl bo L.reverse))):=bel_vecbo hbel
    (repeat refine .z rfl ?_);refine .fin Tryd.func54 (by rw [Tryd.results54]) (by simp (disch:=first|exact dsc|fail) only [go_sem,seval];rfl) (by simp (disch:=first|exact dsc|fail) only [go_sem,seval];rfl) (by (try dsimp only);repeat (first | with_reducible refine bel_new ?_ dsc | with_reducible refine bel_appl ?_ dsc | with_reducible refine bel_set ?_ dsc | with_reducible refine bel_cl ?_ | with_reducible exact hbel | with_reducible exact hbel _)) ?_;simp (disch:=first|exact dsc|fail) only [go_sem,seval]
    exact h
  · have d:decide ((i:Int) < (L.length:Int) - 1 - (i:Int))=true:=by simp only [decide_eq_true_eq];omega
    have ht:((L.length:Int) - 1 - (i:Int)).toNat=L.length - 1 - i:=by omega
    have hrl:=revB_len (L:=L) (i:=i)
    have g1:nth (revB L i) i=nth L i:=by rw [nth_revB (by omega),if_neg (by omega)]
    have g2:nth (revB L i) (L.length - 1 - i)=nth L (L.length - 1 - i):=by rw [nth_revB (by omega),if_neg (by omega)]
    have s2:=revB_succ hi
    (repeat refine .z rfl ?_);refine .text ?_;simp (disch:=first|exact dsc|fail) only [go_sem,seval,E,d]
    (repeat refine .z rfl ?_);refine .ifT (by simp (disch:=first|exact dsc|fail) only [go_sem,seval,d]) ?_
    have hp:(L.length:Int) - 1 - ((i:Int)+1)=(L.length:Int) - 1 - (i:Int) - 1:=by omega
    (repeat refine .z rfl ?_);refine .openT [13,15] follows (by kernel_rfl) ?_;simp (disch:=first|exact dsc|fail) only [go_sem,seval,E,ht,g1,g2,s2,hrl]
    (repeat refine .z rfl ?_);refine .text ?_;simp (disch:=first|exact dsc|fail) only [go_sem,seval,E]
    first | (refine ihE _ _ ?_ trivial ?_) | (refine .z rfl ?_;refine ihE _ _ ?_ trivial ?_) | (refine .z rfl ?_;refine .z rfl ?_;refine ihE _ _ ?_ trivial ?_) | (refine .z rfl ?_;refine .z rfl ?_;refine .z rfl ?_;refine ihE _ _ ?_ trivial ?_)
    · simp (disch:=first|exact dsc|fail) only [go_sem,seval,E,hp]<;>(repeat' (first | rfl | refine And.intro ?_ ?_))
    · first | rfl | (simp (disch:=first|exact dsc|fail) only [go_sem,seval,E,hp]<;>(try rfl))
end walks
end Go.Proofs.YthonhnpiglafkaaDoor

/-
  Hash trees: whether a leaf belongs to a tree.
-/
namespace Go.Proofs.YthonhnpiglafkaaDoor
open Go Go.AL

def climbI (path:List By) (s:List Bool) (b:By):Nat → By
  | 0=>leaf b
  | k+1=>if nth s k then pair (climbI path s b k) (nth path k) else pair (nth path k) (climbI path s b k)
theorem climbI_len {path:List By} {s:List Bool} {b:By} : ∀ k,(climbI path s b k).length=32
  | 0=>leaf_len b
  | k+1=>by rw [climbI];split<;>exact pair_len _ _
def sideL (n i:Nat):List Bool:=(stepL n i 0 n).map (·.1)
def contN (P:List By) (n i:Nat) (b:By) (path:List By):Bool :=
  if (oc (BitVec.ofNat 64 n)).toNat=P.length then if (sideL n i).length=path.length then decide (climbI path (sideL n i).reverse b path.length=bagD P) else false else false
theorem nth_sideL {n i j:Nat} (h:j < (stepL n i 0 n).length):nth (sideL n i) j=(nth (stepL n i 0 n) j).1:=by
  unfold sideL nth
  rw [List.getElem?_map,List.getElem?_eq_getElem h]
  rfl
theorem sideL_succ {n i j:Nat} (h:j < (stepL n i 0 n).length):cl bo ((sideL n i).take j)++[.p (bo (nth (stepL n i 0 n) j).1)]=cl bo ((sideL n i).take (j+1)):=by
  rw [cl_one]
  congr 1
  have hl:j < (sideL n i).length:=by unfold sideL;rw [List.length_map];exact h
  rw [List.take_add_one,List.getElem?_eq_getElem hl,←nth_sideL h]
  unfold nth
  rw [List.getElem?_eq_getElem hl]
  rfl

theorem bel_p4 {n:Nat} {H:Hp} {x y z u:PV} (h:Bel n H):Bel n (H.new (.cells [.p x,.p y,.p z,.p u])):=bel_newx h fun z hz=>by
  simp [AB.vals] at hz;rcases hz with rfl | rfl | rfl | rfl<;>exact .p _
section walks
variable {G:Globs}
set_option maxHeartbeats 8000000 in
theorem Contains_spec (hG:GS G) (P:List By) (hl:P.length≤100000) (hP : ∀ d∈P,d.length=32) (n i:Nat) (hn1:1≤n) (hn2:n≤65536) (hi:i < n) (b:By) (hb:b.length≤140737488352000) (path:List By) (hpl:path.length≤100000) (hpm : ∀ d∈path,d.length=32)
    (H:Hp) (R:AV → Hp → Prop) (h:R (.p (bo (contN P n i b path))) H) :
    ACall Tryd.prog G 24 [.p (.sl false 32 (pl db P)),.p (.agg [i64 n,i64 i,bs b,.sl false 32 (pl db path)])] H R:=by
  have hG':=hG
  obtain ⟨hG0,hG1⟩:=hG
  have hocl:=oc_lt (BitVec.ofNat 64 n)
  have hcv:BitVec.ofInt 64 (n:Int)=BitVec.ofNat 64 n:=by simp
  have hcb:bs b = .sl false 1 (pl b8 b):=rfl
  rw [hcb]
  refine ACall.of_run (raw:=[]) Tryd.func24 rfl Tryd.ntmps24 (by simp) fun hbel => ?_
  (repeat refine .z rfl ?_);refine .text ?_;simp (disch:=first|exact dsc|fail) only [go_sem,seval]
  (repeat refine .z rfl ?_);refine .text ?_;simp (disch:=first|exact dsc|fail) only [go_sem,seval,hcv]
  refine CallK.of (fun R h=>OnesCount_spec _ _ R h) ?_;simp (disch:=first|exact dsc|fail) only [go_sem,seval]
  unfold contN at h
  generalize (oc (BitVec.ofNat 64 n)).toNat=k at hocl h ⊢
  by_cases e:k=P.length
  · have d:(((k:Nat):Int) != (P.length:Int))=false:=by rw [e];simp
    rw [if_pos e] at h
    simp (disch:=first|exact dsc|fail) only [go_sem,seval,d]
    (repeat refine .z rfl ?_);refine .ifF (by simp (disch:=first|exact dsc|fail) only [go_sem,seval,d]) ?_
    (repeat refine .z rfl ?_);refine .text ?_;simp (disch:=first|exact dsc|fail) only [go_sem,seval]
    (repeat refine .z rfl ?_);refine .vecC (H.n+1) 0 (by simp (disch:=first|exact dsc|fail) only [go_sem,seval];rfl) (by rfl) ?_;simp (disch:=first|exact dsc|fail) only [go_sem,seval,List.set_cons_zero]
    (repeat refine .z rfl ?_);refine .text ?_;simp (disch:=first|exact dsc|fail) only [go_sem,seval]
    refine CallK.of (fun R h=>steps_spec (n:Int) (i:Int) _ R h) ?_;simp (disch:=first|exact dsc|fail) only [go_sem,seval]
    (repeat refine .z rfl ?_);refine .rangeFunc (ps:=[44,45]) rfl (by simp (disch:=first|exact dsc|fail) only [go_sem,seval];rfl) (by simp (disch:=first|exact dsc|fail) only [go_sem,seval]) (by simp) fun L vs hL hvs hround => ?_;simp (disch:=first|exact dsc|fail) only [go_sem,seval]
    have hcn:=stepL_len n i 0 n (by omega)
    have hsl:(sideL n i).length=(stepL n i 0 n).length:=by unfold sideL;rw [List.length_map]
    refine steps1_spec (H.n+5) (H.n+3) (H.n+4) (fun j=>((((((H.new (.cells [.p (i64 n),.p (i64 i),.p (.sl false 1 (pl b8 b)),.p (.sl false 32 (pl db path))])).new (.cells [.vr (H.n+2) j 1])).new (.vec (cl bo ((sideL n i).take j)))).new (.cells [.p (i64 n)])).new (.cells [.p (i64 i)])).new (.obj vs (L .ready none)))) (H.n+6) (fun j=>by simp (disch:=first|exact dsc|fail) only [go_sem,seval]) (fun j => ?_) (by omega) n i hn1 hn2 hi (fun j=>by simp (disch:=first|exact dsc|fail) only [go_sem,seval]) (fun j=>by simp (disch:=first|exact dsc|fail) only [go_sem,seval]) (fun j hj S K hK => ?_) _ ?_
    · (try dsimp only);(repeat (first | with_reducible exact hbel | with_reducible exact bel_start hbel dsc | with_reducible refine bel_newc ?_ | with_reducible refine bel_newp ?_ | with_reducible refine bel_newt ?_ | with_reducible refine bel_newo hvs ?_ dsc | with_reducible refine bel_cl ?_ | with_reducible refine bel_setp ?_ | with_reducible refine bel_sett ?_ | with_reducible refine bel_setd ?_ | with_reducible refine bel_newd ?_))
      (repeat (first | exact bel_start hbel (by omega) | refine bel_p4 ?_ | refine bel_p1 ?_ | refine bel_vr1 ?_ (by omega) | refine bel_vecnbo ?_ | refine bel_newt ?_))
    · have hs:=sideL_succ hj
      have hjl:((sideL n i).take j).length=j:=by rw [List.length_take];omega
      unfold subV
      generalize nth (stepL n i 0 n) j=r at hs ⊢
      obtain ⟨g,lo,hh⟩:=r
      dsimp only at hs ⊢
      refine hround _ _ _ rfl (by simp (disch:=first|exact dsc|fail) only [go_sem,seval]) fun hbel2 => ?_
      dsimp only
      simp (disch:=first|exact dsc|fail) only [go_sem,seval]
      (repeat refine .z rfl ?_);refine .text ?_;simp (disch:=first|exact dsc|fail) only [go_sem,seval]
      (repeat refine .z rfl ?_);refine .beginRound rfl hL (by simp (disch:=first|exact dsc|fail) only [go_sem,seval];rfl) ?_;simp (disch:=first|exact dsc|fail) only [go_sem,seval]
      (repeat refine .z rfl ?_);refine .text ?_;simp (disch:=first|exact dsc|fail) only [go_sem,seval,hs,hjl]
      simp (disch:=first|exact dsc|fail) only [go_sem,seval] at hbel2
      (repeat refine .z rfl ?_);refine .roundEnd rfl hL (by simp (disch:=first|exact dsc|fail) only [go_sem,seval];rfl) ?_ ?_
      · refine bel_app hbel2 (by simp (disch:=first|exact dsc|fail) only [go_sem,seval]) (by simp (disch:=first|exact dsc|fail) only [go_sem,seval];omega) ?_
        (try dsimp only);(repeat (first | with_reducible exact hbel | with_reducible exact bel_start hbel dsc | with_reducible refine bel_newc ?_ | with_reducible refine bel_newp ?_ | with_reducible refine bel_newt ?_ | with_reducible refine bel_newo hvs ?_ dsc | with_reducible refine bel_cl ?_ | with_reducible refine bel_setp ?_ | with_reducible refine bel_sett ?_ | with_reducible refine bel_setd ?_ | with_reducible refine bel_newd ?_))
        (repeat (first | exact bel_start hbel (by omega) | refine bel_p4 ?_ | refine bel_p1 ?_ | refine bel_vr1 ?_ (by omega) | refine bel_vecnbo ?_ | refine bel_newt ?_))
      · simp (disch:=first|exact dsc|fail) only [go_sem,seval]
        exact hK
    · unfold LoopEnd;refine ⟨?_,.inl ⟨(by simp (disch:=first|exact dsc|fail) only [go_sem,seval]<;>rfl),?_⟩⟩;(try dsimp only);(repeat (first | with_reducible exact hbel | with_reducible exact bel_start hbel dsc | with_reducible refine bel_newc ?_ | with_reducible refine bel_newp ?_ | with_reducible refine bel_newt ?_ | with_reducible refine bel_newo hvs ?_ dsc | with_reducible refine bel_cl ?_ | with_reducible refine bel_setp ?_ | with_reducible refine bel_sett ?_ | with_reducible refine bel_setd ?_ | with_reducible refine bel_newd ?_));simp (disch:=first|exact dsc|fail) only [go_sem,seval]
      · (repeat (first | exact bel_start hbel (by omega) | refine bel_p4 ?_ | refine bel_p1 ?_ | refine bel_vr1 ?_ (by omega) | refine bel_vecnbo ?_ | refine bel_newt ?_))
      rw [←hsl,List.take_length]
      rw [←hsl] at hcn
      generalize sideL n i=sd at h hcn ⊢
      by_cases e2:sd.length=path.length
      · have d2:(((sd.length:Nat):Int) != (path.length:Int))=false:=by rw [e2];simp
        rw [if_pos e2] at h
        (repeat refine .z rfl ?_);refine .text ?_;simp (disch:=first|exact dsc|fail) only [go_sem,seval,d2]
        (repeat refine .z rfl ?_);refine .ifF (by simp (disch:=first|exact dsc|fail) only [go_sem,seval,d2]) ?_
        (repeat refine .z rfl ?_);refine .text ?_;simp (disch:=first|exact dsc|fail) only [go_sem,seval]
        refine CallK.of (fun R h=>ReverseB_spec sd (by omega) (H.n+2) _ (by simp (disch:=first|exact dsc|fail) only [go_sem,seval]<;>rfl) R h) ?_;simp (disch:=first|exact dsc|fail) only [go_sem,seval]
        (repeat refine .z rfl ?_);refine .text ?_;simp (disch:=first|exact dsc|fail) only [go_sem,seval]
        refine CallK.of (fun R h=>Leaf_spec hG0 hG1 b hb _ R h) ?_;simp (disch:=first|exact dsc|fail) only [go_sem,seval]
        (repeat refine .z rfl ?_);refine .text ?_;simp (disch:=first|exact dsc|fail) only [go_sem,seval]
        have hc0:climbI path sd.reverse b 0=leaf b:=rfl
        have hrl:sd.reverse.length=sd.length:=List.length_reverse
        generalize sd.reverse=sr at hrl hc0 h ⊢
        rw [←hrl] at e2
        (repeat refine .z rfl ?_);refine .loopE [0,3,7,61,62] (fun j=>[(63,.p (i64 j))]) (fun j=>[(H.n+5,.cells (cl b8 (climbI path sr b j)))]) (fun j=>True) (0) (sr.length) (by omega) ?_ (by first | rfl | (simp (disch:=first|exact dsc|fail) only [go_sem,seval,hc0,hrl]<;>rfl)) ?_ ?_ ?_
        · simp (disch:=first|exact dsc|fail) only [go_sem,seval,hc0,hrl]<;>(repeat' (first | rfl | refine And.intro ?_ ?_))
        · exact trivial
        intro env E hQ;simp (disch:=first|exact dsc|fail) only [go_sem,seval,hc0,hrl] at E
        rotate_left 1
        intro j env hj0 hj E hQ ihE;simp (disch:=first|exact dsc|fail) only [go_sem,seval,hc0,hrl] at E
        rotate_left 1
        · have d3:decide (((sr.length:Nat):Int) < ((sr.length:Nat):Int))=false:=by simp
          have hcl:=climbI_len (path:=path) (s:=sr) (b:=b) sd.length
          rw [←e2,hrl] at h
          (repeat refine .z rfl ?_);refine .text ?_;simp (disch:=first|exact dsc|fail) only [go_sem,seval,E,d3,hrl]
          (repeat refine .z rfl ?_);refine .ifF (by simp (disch:=first|exact dsc|fail) only [go_sem,seval,d3]) ?_
          have hbl:=bagD_len hP
          generalize climbI path sr b sd.length=q at h hcl ⊢
          generalize hbq:bagD P=bq at h hbl
          (repeat refine .z rfl ?_);refine .open [] follows (by kernel_rfl) ?_;simp (disch:=first|exact dsc|fail) only [go_sem,seval,E,cells_db,aggOf_db hcl]
          refine CallD.still (fun R h=>Bag_spec hG' P hl hP _ R h) ?_;simp (disch:=first|exact dsc|fail) only [go_sem,seval,E,hcl,hbl,hbq]
          (repeat refine .z rfl ?_);refine .rt Tryd.func24 (by rw [Tryd.results24]) (hR := ?_);simp (disch:=first|exact dsc|fail) only [go_sem,seval]
          exact h
        · have d3:decide ((j:Int) < ((sr.length:Nat):Int))=true:=by simp only [decide_eq_true_eq];omega
          have hcl:=climbI_len (path:=path) (s:=sr) (b:=b) j
          have hn2:(nth path j).length=32:=hpm _ (nth_mem (by omega))
          have hstep:climbI path sr b (j+1)=if nth sr j then pair (climbI path sr b j) (nth path j) else pair (nth path j) (climbI path sr b j):=rfl
          (repeat refine .z rfl ?_);refine .text ?_;simp (disch:=first|exact dsc|fail) only [go_sem,seval,E,d3,hrl]
          (repeat refine .z rfl ?_);refine .ifT (by simp (disch:=first|exact dsc|fail) only [go_sem,seval,d3]) ?_
          generalize hcq:climbI path sr b j=q at hcl hstep ⊢
          generalize hpq:nth path j=x at hn2 hstep
          cases hb9:nth sr j
          · rw [hb9,if_neg (by simp)] at hstep
            (repeat refine .z rfl ?_);refine .text ?_;simp (disch:=first|exact dsc|fail) only [go_sem,seval,E,hrl,hb9]
            (repeat refine .z rfl ?_);refine .text ?_;simp (disch:=first|exact dsc|fail) only [go_sem,seval,E,hb9]
            (repeat refine .z rfl ?_);refine .ifF (by simp (disch:=first|exact dsc|fail) only [go_sem,seval,hb9]) ?_
            (repeat refine .z rfl ?_);refine .open [7] follows (by kernel_rfl) ?_;simp (disch:=first|exact dsc|fail) only [go_sem,seval,E,hpq,hcq,cells_db,aggOf_db hn2,aggOf_db hcl]
            refine CallD.still (fun R h=>Pair_spec hG0 hG1 x q hn2 hcl _ R h) ?_;simp (disch:=first|exact dsc|fail) only [go_sem,seval,E,hcl,hcq]
            (repeat refine .z rfl ?_);refine .text ?_;simp (disch:=first|exact dsc|fail) only [go_sem,seval,E]
            first | (refine ihE _ _ ?_ trivial ?_) | (refine .z rfl ?_;refine ihE _ _ ?_ trivial ?_) | (refine .z rfl ?_;refine .z rfl ?_;refine ihE _ _ ?_ trivial ?_) | (refine .z rfl ?_;refine .z rfl ?_;refine .z rfl ?_;refine ihE _ _ ?_ trivial ?_)
            · simp (disch:=first|exact dsc|fail) only [go_sem,seval,E,hstep]<;>(repeat' (first | rfl | refine And.intro ?_ ?_))
            · first | rfl | (simp (disch:=first|exact dsc|fail) only [go_sem,seval,E,hstep]<;>(try rfl))
          · rw [hb9,if_pos rfl] at hstep
            (repeat refine .z rfl ?_);refine .text ?_;simp (disch:=first|exact dsc|fail) only [go_sem,seval,E,hrl,hb9]
            (repeat refine .z rfl ?_);refine .text ?_;simp (disch:=first|exact dsc|fail) only [go_sem,seval,E,hb9]
            (repeat refine .z rfl ?_);refine .ifT (by simp (disch:=first|exact dsc|fail) only [go_sem,seval,hb9]) ?_
            (repeat refine .z rfl ?_);refine .open [7] follows (by kernel_rfl) ?_;simp (disch:=first|exact dsc|fail) only [go_sem,seval,E,hpq,hcq,cells_db,aggOf_db hn2,aggOf_db hcl]
            refine CallD.still (fun R h=>Pair_spec hG0 hG1 q x hcl hn2 _ R h) ?_;simp (disch:=first|exact dsc|fail) only [go_sem,seval,E,hcl,hcq]
            (repeat refine .z rfl ?_);refine .text ?_;simp (disch:=first|exact dsc|fail) only [go_sem,seval,E]
            first | (refine ihE _ _ ?_ trivial ?_) | (refine .z rfl ?_;refine ihE _ _ ?_ trivial ?_) | (refine .z rfl ?_;refine .z rfl ?_;refine ihE _ _ ?_ trivial ?_) | (refine .z rfl ?_;refine .z rfl ?_;refine .z rfl ?_;refine ihE _ _ ?_ trivial ?_)
            · simp (disch:=first|exact dsc|fail) only [go_sem,seval,E,hstep]<;>(repeat' (first | rfl | refine And.intro ?_ ?_))
            · first | rfl | (simp (disch:=first|exact dsc|fail) only [go_sem,seval,E,hstep]<;>(try rfl))
      · have d2:(((sd.length:Nat):Int) != (path.length:Int))=true:=by simp;omega
        rw [if_neg e2] at h
        (repeat refine .z rfl ?_);refine .text ?_;simp (disch:=first|exact dsc|fail) only [go_sem,seval,d2]
        (repeat refine .z rfl ?_);refine .ifT (by simp (disch:=first|exact dsc|fail) only [go_sem,seval,d2]) ?_
        (repeat refine .z rfl ?_);refine .text ?_;simp (disch:=first|exact dsc|fail) only [go_sem,seval]
        (repeat refine .z rfl ?_);refine .rt Tryd.func24 (by rw [Tryd.results24]) (hR := ?_);simp (disch:=first|exact dsc|fail) only [go_sem,seval]
        exact h
  · have d:(((k:Nat):Int) != (P.length:Int))=true:=by simp;omega
    rw [if_neg e] at h
    simp (disch:=first|exact dsc|fail) only [go_sem,seval,d]
    (repeat refine .z rfl ?_);refine .ifT (by simp (disch:=first|exact dsc|fail) only [go_sem,seval,d]) ?_
    (repeat refine .z rfl ?_);refine .text ?_;simp (disch:=first|exact dsc|fail) only [go_sem,seval]
    (repeat refine .z rfl ?_);refine .rt Tryd.func24 (by rw [Tryd.results24]) (hR := ?_);simp (disch:=first|exact dsc|fail) only [go_sem,seval]
    exact h
end walks
end Go.Proofs.YthonhnpiglafkaaDoor

/-
  Hash trees: the sources of leaves and nodes.
-/
namespace Go.Proofs.YthonhnpiglafkaaDoor
open Go Go.AL

theorem opA_call {C:Cx} {ops:Array Oper} {i:Nat} {o:Oper} {K:Env → Hp → Prop} {env:Env} {H:Hp} {f:FuncId} {xs xs':List AV} {r:AV} {H':Hp} (ho:ops[i]? = some o) (hg:o.guard=none) (hs:stepOp C.P C.G o.op o.type env H = .call f xs) (hd:dstOK C.nt o.dst=true)
    (hargs:callArgs C.raw f xs=xs') (hc : ∀ R:AV → Hp → Prop,R r H' → ACall C.P C.G f xs' H R) (hK:K (env.put o.dst r) H'):opA C ops false i K env H:=by
  unfold opA
  rw [ho]
  simp only [hg,wantedA,aOp1,hs,sOp,hargs]
  exact ⟨hd,hc _ hK⟩

theorem more_ne {L:Nat → Bool} {i k:Nat} (h:k≠i):more L i k=L k:=by simp [more,h]
theorem more_eq {L:Nat → Bool} {i:Nat}:more L i i=true:=by simp [more]
theorem more_t {L:Nat → Bool} {i k:Nat} (h:L k=true):more L i k=true:=by simp [more,h]
def hdD (d:List By):By:=if d=[] then zeroD else nth d 0
def hdB (l:List By):By:=if l=[] then [] else nth l 0
theorem hdD_len {d:List By} (h : ∀ x∈d,x.length=32):(hdD d).length=32:=by
  unfold hdD
  by_cases e:d=[]
  · rw [if_pos e];rfl
  · rw [if_neg e]
    have:d.length≠0:=fun x=>e (List.eq_nil_of_length_eq_zero x)
    exact h _ (nth_mem (by omega))
theorem hdB_len {l:List By} (h:Short l):(hdB l).length≤140737488352000:=by
  unfold hdB
  by_cases e:l=[]
  · rw [if_pos e];simp
  · rw [if_neg e]
    have:l.length≠0:=fun x=>e (List.eq_nil_of_length_eq_zero x)
    exact h 0 (by omega)

section walks
variable {G:Globs}
theorem sourceD_spec (N:List By) (H:Hp) (R:AV → Hp → Prop) (h:R (.clo 71 [] [.ptr H.n 0]) (H.new (.cells [.p (.sl false 32 (pl db N))]))):ACall Tryd.prog G 49 [.p (.sl false 32 (pl db N))] H R:=by
  refine ACall.of_run (raw:=[]) Tryd.func49 rfl Tryd.ntmps49 (by simp) fun hbel => ?_
  (repeat refine .z rfl ?_);refine .text ?_;simp (disch:=first|exact dsc|fail) only [go_sem,seval]
  (repeat refine .z rfl ?_);refine .text ?_;simp (disch:=first|exact dsc|fail) only [go_sem,seval]
  (repeat refine .z rfl ?_);refine .retKeep Tryd.func49 (by rw [Tryd.results49]) (by simp (disch:=first|exact dsc|fail) only [go_sem,seval];rfl) ?_;(try simp (disch:=first|exact dsc|fail) only [go_sem,seval])
  exact h
theorem sourceB_spec (N:List By) (H:Hp) (R:AV → Hp → Prop) (h:R (.clo 70 [] [.ptr H.n 0]) (H.new (.cells [.p (.sl false 1 (pl bs N))]))):ACall Tryd.prog G 48 [.p (.sl false 1 (pl bs N))] H R:=by
  refine ACall.of_run (raw:=[]) Tryd.func48 rfl Tryd.ntmps48 (by simp) fun hbel => ?_
  (repeat refine .z rfl ?_);refine .text ?_;simp (disch:=first|exact dsc|fail) only [go_sem,seval]
  (repeat refine .z rfl ?_);refine .text ?_;simp (disch:=first|exact dsc|fail) only [go_sem,seval]
  (repeat refine .z rfl ?_);refine .retKeep Tryd.func48 (by rw [Tryd.results48]) (by simp (disch:=first|exact dsc|fail) only [go_sem,seval];rfl) ?_;(try simp (disch:=first|exact dsc|fail) only [go_sem,seval])
  exact h

set_option maxRecDepth 20000 in
set_option maxHeartbeats 8000000 in
theorem nextD_spec (N:List By) (hl:N.length≤100000) (hN : ∀ d∈N,d.length=32) (b:Nat) (H:Hp) (hb:H.f b=some (.cells [.p (.sl false 32 (pl db N))])) (R:AV → Hp → Prop)
    (h:R (.tup [.p (.agg (pl b8 (hdD N))),.p (bo (!N.isEmpty))]) (H.set b (.cells [.p (.sl false 32 (pl db (N.drop 1)))]))) :
    ACall Tryd.prog G 71 [.ptr b 0] H R:=by
  have hlt:=Hp.lt hb
  refine ACall.of_run (raw:=[]) Tryd.func71 rfl Tryd.ntmps71 (by simp) fun hbel => ?_
  (repeat refine .z rfl ?_);refine .text ?_;simp (disch:=first|exact dsc|fail) only [go_sem,seval]
  (repeat refine .z rfl ?_);refine .text ?_;simp (disch:=first|exact dsc|fail) only [go_sem,seval,hb]
  by_cases e:N=[]
  · subst e
    have hset:H.set b (.cells [.p (.sl false 32 (pl db []))])=H:=Hp.ext (fun c=>by
      by_cases hc:c=b
      · subst hc;rw [f_set_eq rfl hlt];exact hb.symm
      · rw [f_set_ne' hc]) rfl
    have hz:hdD []=zeroD:=rfl
    have hz2:zeroD.length=32:=rfl
    rw [show List.drop 1 ([]:List By)=[] from rfl,hset,hz] at h
    (repeat refine .z rfl ?_);refine .ifF (by simp (disch:=first|exact dsc|fail) only [go_sem,seval]) ?_
    (repeat refine .z rfl ?_);refine .text ?_;simp (disch:=first|exact dsc|fail) only [go_sem,seval,hz2]
    (repeat refine .z rfl ?_);refine .rt Tryd.func71 (by rw [Tryd.results71]) (hR := ?_);simp (disch:=first|exact dsc|fail) only [go_sem,seval]
    exact h
  · have hne:N.length≠0:=fun x=>e (List.eq_nil_of_length_eq_zero x)
    have d:decide ((0:Int) < (N.length:Int))=true:=by simp only [decide_eq_true_eq];omega
    have hz2:zeroD.length=32:=rfl
    have hem:(!N.isEmpty)=true:=by cases N with | nil=>exact absurd rfl e | cons a b=>rfl
    have hh:hdD N=nth N 0:=if_neg e
    have hn2:(nth N 0).length=32:=hN _ (nth_mem (by omega))
    rw [hem,hh] at h
    (repeat refine .z rfl ?_);refine .ifT (by simp (disch:=first|exact dsc|fail) only [go_sem,seval,d]) ?_
    generalize hw:nth N 0=x at hn2 h
    have hset:H.set b (.cells [.p (.sl false 32 (pl db N))])=H:=Hp.ext (fun c=>by
      by_cases hc:c=b
      · subst hc;rw [f_set_eq rfl hlt];exact hb.symm
      · rw [f_set_ne' hc]) rfl
    (repeat refine .z rfl ?_)
    refine .openInv (fun L env' H'=>env' 0 = .ptr b 0∧env' 1 = .ptr H.n 0∧(L 0=true → env' 6 = .p (.sl false 32 (pl db N)))∧(L 1=true → env' 7 = .ip 32 (pl db N) 0 0)∧(L 2=true → env' 8 = .p (.agg (pl b8 x)))∧(L 3=true → env' 9 = .p (.sl false 32 (pl db N)))∧(L 4=true → env' 10 = .p (.sl false 32 (pl db (N.drop 1))))∧(L 6=true → env' 2 = .p (bo true))∧(L 1=true → L 0=true)∧(L 2=true → L 1=true)∧(L 4=true → L 3=true)∧(L 5=true → L 0=true∧L 1=true∧L 2=true)∧(L 6=true → L 0=true∧L 1=true∧L 2=true∧L 5=true)∧(L 7=true → L 0=true∧L 1=true∧L 2=true∧L 3=true∧L 4=true∧L 5=true∧L 6=true)∧H'=((H.set b (if L 7 then .cells [.p (.sl false 32 (pl db (N.drop 1)))] else .cells [.p (.sl false 32 (pl db N))])).new (if L 5 then .cells (cl b8 x) else .cells (cl b8 zeroD)))) follows (by kernel_rfl) ?_ ?_ ?_
    · exact ⟨(by simp (disch:=first|exact dsc|fail) only [go_sem,seval,hw,cells_db,aggOf_db hn2,hn2,hz2,hset,hb]),(by simp (disch:=first|exact dsc|fail) only [go_sem,seval,hw,cells_db,aggOf_db hn2,hn2,hz2,hset,hb]),(fun h=>by cases h),(fun h=>by cases h),(fun h=>by cases h),(fun h=>by cases h),(fun h=>by cases h),(fun h=>by cases h),(fun h=>by cases h),(fun h=>by cases h),(fun h=>by cases h),(fun h=>by cases h),(fun h=>by cases h),(fun h=>by cases h),(by first | rfl | (simp only [Bool.false_eq_true,if_false];first | rfl | (simp (disch:=first|exact dsc|fail) only [go_sem,seval,hw,cells_db,aggOf_db hn2,hn2,hz2,hset,hb]<;>rfl)))⟩
    · intro i o L env' H' ho hL hall hI
      obtain ⟨f0,f1,g0,g1,g2,g3,g4,g6,m1,m2,m4,m5,m6,m7,rfl⟩:=hI
      rcases i with _ | _ | _ | _ | _ | _ | _ | _ | i
      · cases ho
        have n1:L 1=false:=Bool.eq_false_iff.2 fun e=>by (have:=m1 e;simp [hL] at this)
        have n5:L 5=false:=Bool.eq_false_iff.2 fun e=>by (have:=m5 e;simp [hL] at this)
        have n6:L 6=false:=Bool.eq_false_iff.2 fun e=>by (have:=m6 e;simp [hL] at this)
        have n7:L 7=false:=Bool.eq_false_iff.2 fun e=>by (have:=m7 e;simp [hL] at this)
        refine opA_val (.p (.sl false 32 (pl db N))) rfl rfl (by simp (disch:=first|exact dsc|fail) only [go_sem,seval,reduceIte,Bool.false_eq_true,if_false,if_true,f0,f1,n1,n5,n6,n7,hL,hw,cells_db,aggOf_db hn2,hn2,hz2,hset,hb]<;>rfl) rfl ?_
        exact ⟨(by (try simp (disch:=first|exact dsc|fail) only [go_sem,seval]);exact f0),(by (try simp (disch:=first|exact dsc|fail) only [go_sem,seval]);exact f1),(fun _=>by simp (disch:=first|exact dsc|fail) only [go_sem,seval]),(fun q=>by (rw [more_ne (by decide)] at q);(try simp (disch:=first|exact dsc|fail) only [go_sem,seval]);exact g1 q),(fun q=>by (rw [more_ne (by decide)] at q);(try simp (disch:=first|exact dsc|fail) only [go_sem,seval]);exact g2 q),(fun q=>by (rw [more_ne (by decide)] at q);(try simp (disch:=first|exact dsc|fail) only [go_sem,seval]);exact g3 q),(fun q=>by (rw [more_ne (by decide)] at q);(try simp (disch:=first|exact dsc|fail) only [go_sem,seval]);exact g4 q),(fun q=>by (rw [more_ne (by decide)] at q);(try simp (disch:=first|exact dsc|fail) only [go_sem,seval]);exact g6 q),(fun q=>by (rw [more_ne (by decide)] at q);exact more_t (m1 q)),(fun q=>by (rw [more_ne (by decide)] at q);exact more_t (m2 q)),(fun q=>by (rw [more_ne (by decide)] at q);exact more_t (m4 q)),(fun q=>by (rw [more_ne (by decide)] at q);obtain ⟨q0,q1,q2⟩:=m5 q;exact ⟨more_t q0,more_t q1,more_t q2⟩),(fun q=>by (rw [more_ne (by decide)] at q);obtain ⟨q0,q1,q2,q5⟩:=m6 q;exact ⟨more_t q0,more_t q1,more_t q2,more_t q5⟩),(fun q=>by (rw [more_ne (by decide)] at q);obtain ⟨q0,q1,q2,q3,q4,q5,q6⟩:=m7 q;exact ⟨more_t q0,more_t q1,more_t q2,more_t q3,more_t q4,more_t q5,more_t q6⟩),(by (have e5:more L 0 5=L 5:=more_ne (by decide));(have e7:more L 0 7=L 7:=more_ne (by decide));(try simp only [e5,e7,n5,n7]);first | done | rfl | (simp only [e5,e7,n5,n7,if_true,if_false,Bool.false_eq_true];first | done | rfl | (simp (disch:=first|exact dsc|fail) only [go_sem,seval,e5,e7,n5,n7,hw,cells_db,aggOf_db hn2,hn2,hz2,hset,hb]<;>rfl)))⟩
      · cases ho
        have h0:L 0=true:=hall ⟨0,.data⟩ (by simp) rfl
        have d0:=g0 h0
        have n2:L 2=false:=Bool.eq_false_iff.2 fun e=>by (have:=m2 e;simp [hL] at this)
        have n5:L 5=false:=Bool.eq_false_iff.2 fun e=>by (have:=m5 e;simp [hL] at this)
        have n6:L 6=false:=Bool.eq_false_iff.2 fun e=>by (have:=m6 e;simp [hL] at this)
        have n7:L 7=false:=Bool.eq_false_iff.2 fun e=>by (have:=m7 e;simp [hL] at this)
        refine opA_val (.ip 32 (pl db N) 0 0) rfl rfl (by simp (disch:=first|exact dsc|fail) only [go_sem,seval,reduceIte,Bool.false_eq_true,if_false,if_true,f0,f1,d0,h0,n2,n5,n6,n7,hL,hw,cells_db,aggOf_db hn2,hn2,hz2,hset,hb]<;>rfl) rfl ?_
        exact ⟨(by (try simp (disch:=first|exact dsc|fail) only [go_sem,seval]);exact f0),(by (try simp (disch:=first|exact dsc|fail) only [go_sem,seval]);exact f1),(fun q=>by (rw [more_ne (by decide)] at q);(try simp (disch:=first|exact dsc|fail) only [go_sem,seval]);exact g0 q),(fun _=>by simp (disch:=first|exact dsc|fail) only [go_sem,seval]),(fun q=>by (rw [more_ne (by decide)] at q);(try simp (disch:=first|exact dsc|fail) only [go_sem,seval]);exact g2 q),(fun q=>by (rw [more_ne (by decide)] at q);(try simp (disch:=first|exact dsc|fail) only [go_sem,seval]);exact g3 q),(fun q=>by (rw [more_ne (by decide)] at q);(try simp (disch:=first|exact dsc|fail) only [go_sem,seval]);exact g4 q),(fun q=>by (rw [more_ne (by decide)] at q);(try simp (disch:=first|exact dsc|fail) only [go_sem,seval]);exact g6 q),(fun _=>more_t h0),(fun q=>by (rw [more_ne (by decide)] at q);exact more_t (m2 q)),(fun q=>by (rw [more_ne (by decide)] at q);exact more_t (m4 q)),(fun q=>by (rw [more_ne (by decide)] at q);obtain ⟨q0,q1,q2⟩:=m5 q;exact ⟨more_t q0,more_t q1,more_t q2⟩),(fun q=>by (rw [more_ne (by decide)] at q);obtain ⟨q0,q1,q2,q5⟩:=m6 q;exact ⟨more_t q0,more_t q1,more_t q2,more_t q5⟩),(fun q=>by (rw [more_ne (by decide)] at q);obtain ⟨q0,q1,q2,q3,q4,q5,q6⟩:=m7 q;exact ⟨more_t q0,more_t q1,more_t q2,more_t q3,more_t q4,more_t q5,more_t q6⟩),(by (have e5:more L 1 5=L 5:=more_ne (by decide));(have e7:more L 1 7=L 7:=more_ne (by decide));(try simp only [e5,e7,n5,n7]);first | done | rfl | (simp only [e5,e7,n5,n7,if_true,if_false,Bool.false_eq_true];first | done | rfl | (simp (disch:=first|exact dsc|fail) only [go_sem,seval,e5,e7,n5,n7,hw,cells_db,aggOf_db hn2,hn2,hz2,hset,hb]<;>rfl)))⟩
      · cases ho
        have h1:L 1=true:=hall ⟨1,.data⟩ (by simp) rfl
        have d1:=g1 h1
        have n5:L 5=false:=Bool.eq_false_iff.2 fun e=>by (have:=m5 e;simp [hL] at this)
        have n6:L 6=false:=Bool.eq_false_iff.2 fun e=>by (have:=m6 e;simp [hL] at this)
        have n7:L 7=false:=Bool.eq_false_iff.2 fun e=>by (have:=m7 e;simp [hL] at this)
        refine opA_val (.p (.agg (pl b8 x))) rfl rfl (by simp (disch:=first|exact dsc|fail) only [go_sem,seval,reduceIte,Bool.false_eq_true,if_false,if_true,f0,f1,d1,h1,n5,n6,n7,hL,hw,cells_db,aggOf_db hn2,hn2,hz2,hset,hb]<;>rfl) rfl ?_
        exact ⟨(by (try simp (disch:=first|exact dsc|fail) only [go_sem,seval]);exact f0),(by (try simp (disch:=first|exact dsc|fail) only [go_sem,seval]);exact f1),(fun q=>by (rw [more_ne (by decide)] at q);(try simp (disch:=first|exact dsc|fail) only [go_sem,seval]);exact g0 q),(fun q=>by (rw [more_ne (by decide)] at q);(try simp (disch:=first|exact dsc|fail) only [go_sem,seval]);exact g1 q),(fun _=>by simp (disch:=first|exact dsc|fail) only [go_sem,seval]),(fun q=>by (rw [more_ne (by decide)] at q);(try simp (disch:=first|exact dsc|fail) only [go_sem,seval]);exact g3 q),(fun q=>by (rw [more_ne (by decide)] at q);(try simp (disch:=first|exact dsc|fail) only [go_sem,seval]);exact g4 q),(fun q=>by (rw [more_ne (by decide)] at q);(try simp (disch:=first|exact dsc|fail) only [go_sem,seval]);exact g6 q),(fun q=>by (rw [more_ne (by decide)] at q);exact more_t (m1 q)),(fun _=>more_t h1),(fun q=>by (rw [more_ne (by decide)] at q);exact more_t (m4 q)),(fun q=>by (rw [more_ne (by decide)] at q);obtain ⟨q0,q1,q2⟩:=m5 q;exact ⟨more_t q0,more_t q1,more_t q2⟩),(fun q=>by (rw [more_ne (by decide)] at q);obtain ⟨q0,q1,q2,q5⟩:=m6 q;exact ⟨more_t q0,more_t q1,more_t q2,more_t q5⟩),(fun q=>by (rw [more_ne (by decide)] at q);obtain ⟨q0,q1,q2,q3,q4,q5,q6⟩:=m7 q;exact ⟨more_t q0,more_t q1,more_t q2,more_t q3,more_t q4,more_t q5,more_t q6⟩),(by (have e5:more L 2 5=L 5:=more_ne (by decide));(have e7:more L 2 7=L 7:=more_ne (by decide));(try simp only [e5,e7,n5,n7]);first | done | rfl | (simp only [e5,e7,n5,n7,if_true,if_false,Bool.false_eq_true];first | done | rfl | (simp (disch:=first|exact dsc|fail) only [go_sem,seval,e5,e7,n5,n7,hw,cells_db,aggOf_db hn2,hn2,hz2,hset,hb]<;>rfl)))⟩
      · cases ho
        have n4:L 4=false:=Bool.eq_false_iff.2 fun e=>by (have:=m4 e;simp [hL] at this)
        have n7:L 7=false:=Bool.eq_false_iff.2 fun e=>by (have:=m7 e;simp [hL] at this)
        refine opA_val (.p (.sl false 32 (pl db N))) rfl rfl (by simp (disch:=first|exact dsc|fail) only [go_sem,seval,reduceIte,Bool.false_eq_true,if_false,if_true,f0,f1,n4,n7,hL,hw,cells_db,aggOf_db hn2,hn2,hz2,hset,hb]<;>rfl) rfl ?_
        exact ⟨(by (try simp (disch:=first|exact dsc|fail) only [go_sem,seval]);exact f0),(by (try simp (disch:=first|exact dsc|fail) only [go_sem,seval]);exact f1),(fun q=>by (rw [more_ne (by decide)] at q);(try simp (disch:=first|exact dsc|fail) only [go_sem,seval]);exact g0 q),(fun q=>by (rw [more_ne (by decide)] at q);(try simp (disch:=first|exact dsc|fail) only [go_sem,seval]);exact g1 q),(fun q=>by (rw [more_ne (by decide)] at q);(try simp (disch:=first|exact dsc|fail) only [go_sem,seval]);exact g2 q),(fun _=>by simp (disch:=first|exact dsc|fail) only [go_sem,seval]),(fun q=>by (rw [more_ne (by decide)] at q);(try simp (disch:=first|exact dsc|fail) only [go_sem,seval]);exact g4 q),(fun q=>by (rw [more_ne (by decide)] at q);(try simp (disch:=first|exact dsc|fail) only [go_sem,seval]);exact g6 q),(fun q=>by (rw [more_ne (by decide)] at q);exact more_t (m1 q)),(fun q=>by (rw [more_ne (by decide)] at q);exact more_t (m2 q)),(fun q=>by (rw [more_ne (by decide)] at q);exact more_t (m4 q)),(fun q=>by (rw [more_ne (by decide)] at q);obtain ⟨q0,q1,q2⟩:=m5 q;exact ⟨more_t q0,more_t q1,more_t q2⟩),(fun q=>by (rw [more_ne (by decide)] at q);obtain ⟨q0,q1,q2,q5⟩:=m6 q;exact ⟨more_t q0,more_t q1,more_t q2,more_t q5⟩),(fun q=>by (rw [more_ne (by decide)] at q);obtain ⟨q0,q1,q2,q3,q4,q5,q6⟩:=m7 q;exact ⟨more_t q0,more_t q1,more_t q2,more_t q3,more_t q4,more_t q5,more_t q6⟩),(by (have e5:more L 3 5=L 5:=more_ne (by decide));(have e7:more L 3 7=L 7:=more_ne (by decide));(try simp only [e5,e7,n7]);first | done | rfl | (simp only [e5,e7,n7,if_true,if_false,Bool.false_eq_true];first | done | rfl | (simp (disch:=first|exact dsc|fail) only [go_sem,seval,e5,e7,n7,hw,cells_db,aggOf_db hn2,hn2,hz2,hset,hb]<;>rfl)))⟩
      · cases ho
        have h3:L 3=true:=hall ⟨3,.data⟩ (by simp) rfl
        have d3:=g3 h3
        have n7:L 7=false:=Bool.eq_false_iff.2 fun e=>by (have:=m7 e;simp [hL] at this)
        refine opA_val (.p (.sl false 32 (pl db (N.drop 1)))) rfl rfl (by simp (disch:=first|exact dsc|fail) only [go_sem,seval,reduceIte,Bool.false_eq_true,if_false,if_true,f0,f1,d3,h3,n7,hL,hw,cells_db,aggOf_db hn2,hn2,hz2,hset,hb]<;>rfl) rfl ?_
        exact ⟨(by (try simp (disch:=first|exact dsc|fail) only [go_sem,seval]);exact f0),(by (try simp (disch:=first|exact dsc|fail) only [go_sem,seval]);exact f1),(fun q=>by (rw [more_ne (by decide)] at q);(try simp (disch:=first|exact dsc|fail) only [go_sem,seval]);exact g0 q),(fun q=>by (rw [more_ne (by decide)] at q);(try simp (disch:=first|exact dsc|fail) only [go_sem,seval]);exact g1 q),(fun q=>by (rw [more_ne (by decide)] at q);(try simp (disch:=first|exact dsc|fail) only [go_sem,seval]);exact g2 q),(fun q=>by (rw [more_ne (by decide)] at q);(try simp (disch:=first|exact dsc|fail) only [go_sem,seval]);exact g3 q),(fun _=>by simp (disch:=first|exact dsc|fail) only [go_sem,seval]),(fun q=>by (rw [more_ne (by decide)] at q);(try simp (disch:=first|exact dsc|fail) only [go_sem,seval]);exact g6 q),(fun q=>by (rw [more_ne (by decide)] at q);exact more_t (m1 q)),(fun q=>by (rw [more_ne (by decide)] at q);exact more_t (m2 q)),(fun _=>more_t h3),(fun q=>by (rw [more_ne (by decide)] at q);obtain ⟨q0,q1,q2⟩:=m5 q;exact ⟨more_t q0,more_t q1,more_t q2⟩),(fun q=>by (rw [more_ne (by decide)] at q);obtain ⟨q0,q1,q2,q5⟩:=m6 q;exact ⟨more_t q0,more_t q1,more_t q2,more_t q5⟩),(fun q=>by (rw [more_ne (by decide)] at q);obtain ⟨q0,q1,q2,q3,q4,q5,q6⟩:=m7 q;exact ⟨more_t q0,more_t q1,more_t q2,more_t q3,more_t q4,more_t q5,more_t q6⟩),(by (have e5:more L 4 5=L 5:=more_ne (by decide));(have e7:more L 4 7=L 7:=more_ne (by decide));(try simp only [e5,e7,n7]);first | done | rfl | (simp only [e5,e7,n7,if_true,if_false,Bool.false_eq_true];first | done | rfl | (simp (disch:=first|exact dsc|fail) only [go_sem,seval,e5,e7,n7,hw,cells_db,aggOf_db hn2,hn2,hz2,hset,hb]<;>rfl)))⟩
      · cases ho
        have h2:L 2=true:=hall ⟨2,.data⟩ (by simp) rfl
        have d2:=g2 h2
        have h0:L 0=true:=hall ⟨0,.phase⟩ (by simp) rfl
        have d0:=g0 h0
        have h1:L 1=true:=hall ⟨1,.phase⟩ (by simp) rfl
        have d1:=g1 h1
        have n6:L 6=false:=Bool.eq_false_iff.2 fun e=>by (have:=m6 e;simp [hL] at this)
        have n7:L 7=false:=Bool.eq_false_iff.2 fun e=>by (have:=m7 e;simp [hL] at this)
        refine opA_unit rfl rfl (by simp (disch:=first|exact dsc|fail) only [go_sem,seval,reduceIte,Bool.false_eq_true,if_false,if_true,f0,f1,d0,d1,d2,h0,h1,h2,n6,n7,hL,hw,cells_db,aggOf_db hn2,hn2,hz2,hset,hb]<;>rfl) rfl ?_
        exact ⟨(by (try simp (disch:=first|exact dsc|fail) only [go_sem,seval]);exact f0),(by (try simp (disch:=first|exact dsc|fail) only [go_sem,seval]);exact f1),(fun q=>by (rw [more_ne (by decide)] at q);(try simp (disch:=first|exact dsc|fail) only [go_sem,seval]);exact g0 q),(fun q=>by (rw [more_ne (by decide)] at q);(try simp (disch:=first|exact dsc|fail) only [go_sem,seval]);exact g1 q),(fun q=>by (rw [more_ne (by decide)] at q);(try simp (disch:=first|exact dsc|fail) only [go_sem,seval]);exact g2 q),(fun q=>by (rw [more_ne (by decide)] at q);(try simp (disch:=first|exact dsc|fail) only [go_sem,seval]);exact g3 q),(fun q=>by (rw [more_ne (by decide)] at q);(try simp (disch:=first|exact dsc|fail) only [go_sem,seval]);exact g4 q),(fun q=>by (rw [more_ne (by decide)] at q);(try simp (disch:=first|exact dsc|fail) only [go_sem,seval]);exact g6 q),(fun q=>by (rw [more_ne (by decide)] at q);exact more_t (m1 q)),(fun q=>by (rw [more_ne (by decide)] at q);exact more_t (m2 q)),(fun q=>by (rw [more_ne (by decide)] at q);exact more_t (m4 q)),(fun _=>⟨more_t h0,more_t h1,more_t h2⟩),(fun q=>by (rw [more_ne (by decide)] at q);obtain ⟨q0,q1,q2,q5⟩:=m6 q;exact ⟨more_t q0,more_t q1,more_t q2,more_t q5⟩),(fun q=>by (rw [more_ne (by decide)] at q);obtain ⟨q0,q1,q2,q3,q4,q5,q6⟩:=m7 q;exact ⟨more_t q0,more_t q1,more_t q2,more_t q3,more_t q4,more_t q5,more_t q6⟩),(by (have e5:more L 5 5=true:=more_eq);(have e7:more L 5 7=L 7:=more_ne (by decide));(try simp only [e5,e7,n7,hL]);first | done | rfl | (simp only [e5,e7,n7,hL,if_true,if_false,Bool.false_eq_true];first | done | rfl | (simp (disch:=first|exact dsc|fail) only [go_sem,seval,e5,e7,n7,hL,hw,cells_db,aggOf_db hn2,hn2,hz2,hset,hb]<;>rfl)))⟩
      · cases ho
        have h5:L 5=true:=hall ⟨5,.chain⟩ (by simp) rfl
        have h0:L 0=true:=hall ⟨0,.phase⟩ (by simp) rfl
        have d0:=g0 h0
        have h1:L 1=true:=hall ⟨1,.phase⟩ (by simp) rfl
        have d1:=g1 h1
        have h2:L 2=true:=hall ⟨2,.phase⟩ (by simp) rfl
        have d2:=g2 h2
        have n7:L 7=false:=Bool.eq_false_iff.2 fun e=>by (have:=m7 e;simp [hL] at this)
        refine opA_val (.p (bo true)) rfl rfl (by simp (disch:=first|exact dsc|fail) only [go_sem,seval,reduceIte,Bool.false_eq_true,if_false,if_true,f0,f1,d0,d1,d2,h0,h1,h2,h5,n7,hL,hw,cells_db,aggOf_db hn2,hn2,hz2,hset,hb]<;>rfl) rfl ?_
        exact ⟨(by (try simp (disch:=first|exact dsc|fail) only [go_sem,seval]);exact f0),(by (try simp (disch:=first|exact dsc|fail) only [go_sem,seval]);exact f1),(fun q=>by (rw [more_ne (by decide)] at q);(try simp (disch:=first|exact dsc|fail) only [go_sem,seval]);exact g0 q),(fun q=>by (rw [more_ne (by decide)] at q);(try simp (disch:=first|exact dsc|fail) only [go_sem,seval]);exact g1 q),(fun q=>by (rw [more_ne (by decide)] at q);(try simp (disch:=first|exact dsc|fail) only [go_sem,seval]);exact g2 q),(fun q=>by (rw [more_ne (by decide)] at q);(try simp (disch:=first|exact dsc|fail) only [go_sem,seval]);exact g3 q),(fun q=>by (rw [more_ne (by decide)] at q);(try simp (disch:=first|exact dsc|fail) only [go_sem,seval]);exact g4 q),(fun _=>by simp (disch:=first|exact dsc|fail) only [go_sem,seval]),(fun q=>by (rw [more_ne (by decide)] at q);exact more_t (m1 q)),(fun q=>by (rw [more_ne (by decide)] at q);exact more_t (m2 q)),(fun q=>by (rw [more_ne (by decide)] at q);exact more_t (m4 q)),(fun q=>by (rw [more_ne (by decide)] at q);obtain ⟨q0,q1,q2⟩:=m5 q;exact ⟨more_t q0,more_t q1,more_t q2⟩),(fun _=>⟨more_t h0,more_t h1,more_t h2,more_t h5⟩),(fun q=>by (rw [more_ne (by decide)] at q);obtain ⟨q0,q1,q2,q3,q4,q5,q6⟩:=m7 q;exact ⟨more_t q0,more_t q1,more_t q2,more_t q3,more_t q4,more_t q5,more_t q6⟩),(by (have e5:more L 6 5=L 5:=more_ne (by decide));(have e7:more L 6 7=L 7:=more_ne (by decide));(try simp only [e5,e7,h5,n7]);first | done | rfl | (simp only [e5,e7,h5,n7,if_true,if_false,Bool.false_eq_true];first | done | rfl | (simp (disch:=first|exact dsc|fail) only [go_sem,seval,e5,e7,h5,n7,hw,cells_db,aggOf_db hn2,hn2,hz2,hset,hb]<;>rfl)))⟩
      · cases ho
        have h4:L 4=true:=hall ⟨4,.data⟩ (by simp) rfl
        have d4:=g4 h4
        have h6:L 6=true:=hall ⟨6,.chain⟩ (by simp) rfl
        have d6:=g6 h6
        have h0:L 0=true:=hall ⟨0,.phase⟩ (by simp) rfl
        have d0:=g0 h0
        have h1:L 1=true:=hall ⟨1,.phase⟩ (by simp) rfl
        have d1:=g1 h1
        have h2:L 2=true:=hall ⟨2,.phase⟩ (by simp) rfl
        have d2:=g2 h2
        have h3:L 3=true:=hall ⟨3,.phase⟩ (by simp) rfl
        have d3:=g3 h3
        have h5:L 5=true:=hall ⟨5,.phase⟩ (by simp) rfl
        refine opA_unit rfl rfl (by simp (disch:=first|exact dsc|fail) only [go_sem,seval,reduceIte,Bool.false_eq_true,if_false,if_true,f0,f1,d0,d1,d2,d3,d4,d6,h0,h1,h2,h3,h4,h5,h6,hL,hw,cells_db,aggOf_db hn2,hn2,hz2,hset,hb]<;>rfl) rfl ?_
        exact ⟨(by (try simp (disch:=first|exact dsc|fail) only [go_sem,seval]);exact f0),(by (try simp (disch:=first|exact dsc|fail) only [go_sem,seval]);exact f1),(fun q=>by (rw [more_ne (by decide)] at q);(try simp (disch:=first|exact dsc|fail) only [go_sem,seval]);exact g0 q),(fun q=>by (rw [more_ne (by decide)] at q);(try simp (disch:=first|exact dsc|fail) only [go_sem,seval]);exact g1 q),(fun q=>by (rw [more_ne (by decide)] at q);(try simp (disch:=first|exact dsc|fail) only [go_sem,seval]);exact g2 q),(fun q=>by (rw [more_ne (by decide)] at q);(try simp (disch:=first|exact dsc|fail) only [go_sem,seval]);exact g3 q),(fun q=>by (rw [more_ne (by decide)] at q);(try simp (disch:=first|exact dsc|fail) only [go_sem,seval]);exact g4 q),(fun q=>by (rw [more_ne (by decide)] at q);(try simp (disch:=first|exact dsc|fail) only [go_sem,seval]);exact g6 q),(fun q=>by (rw [more_ne (by decide)] at q);exact more_t (m1 q)),(fun q=>by (rw [more_ne (by decide)] at q);exact more_t (m2 q)),(fun q=>by (rw [more_ne (by decide)] at q);exact more_t (m4 q)),(fun q=>by (rw [more_ne (by decide)] at q);obtain ⟨q0,q1,q2⟩:=m5 q;exact ⟨more_t q0,more_t q1,more_t q2⟩),(fun q=>by (rw [more_ne (by decide)] at q);obtain ⟨q0,q1,q2,q5⟩:=m6 q;exact ⟨more_t q0,more_t q1,more_t q2,more_t q5⟩),(fun _=>⟨more_t h0,more_t h1,more_t h2,more_t h3,more_t h4,more_t h5,more_t h6⟩),(by (have e5:more L 7 5=L 5:=more_ne (by decide));(have e7:more L 7 7=true:=more_eq);(try simp only [e5,e7,h5,hL]);first | done | rfl | (simp only [e5,e7,h5,hL,if_true,if_false,Bool.false_eq_true];first | done | rfl | (simp (disch:=first|exact dsc|fail) only [go_sem,seval,e5,e7,h5,hL,hw,cells_db,aggOf_db hn2,hn2,hz2,hset,hb]<;>rfl)))⟩
      · simp at ho
    · intro L env' H' hall hI
      obtain ⟨f0,f1,g0,g1,g2,g3,g4,g6,_,_,_,_,_,_,rfl⟩:=hI
      have l5:=hall 5 (by decide)
      have l7:=hall 7 (by decide)
      replace g0:=g0 (hall 0 (by decide))
      replace g1:=g1 (hall 1 (by decide))
      replace g2:=g2 (hall 2 (by decide))
      replace g3:=g3 (hall 3 (by decide))
      replace g4:=g4 (hall 4 (by decide))
      replace g6:=g6 (hall 6 (by decide))
      simp only [l5,l7,if_true]
      clear hall
      (repeat refine .z rfl ?_);refine .text ?_;simp (disch:=first|exact dsc|fail) only [go_sem,seval,f1,g6]
      have hbel:Bel H.n (H.set b (.cells [.p (.sl false 32 (pl db (N.drop 1)))])):=bel_setx hbel fun z hz=>by
        simp [AB.vals] at hz;subst hz;exact .p _
      (repeat refine .z rfl ?_);refine .rt Tryd.func71 (by rw [Tryd.results71]) (hx:=by simp (disch:=first|exact dsc|fail) only [go_sem,seval,f1];rfl) (hR := ?_);simp (disch:=first|exact dsc|fail) only [go_sem,seval,f1]
      exact h

set_option maxRecDepth 20000 in
set_option maxHeartbeats 8000000 in
theorem nextB_spec (N:List By) (hl:N.length≤100000) (b:Nat) (H:Hp) (hb:H.f b=some (.cells [.p (.sl false 1 (pl bs N))])) (R:AV → Hp → Prop)
    (h:R (.tup [.p (bs (hdB N)),.p (bo (!N.isEmpty))]) (H.set b (.cells [.p (.sl false 1 (pl bs (N.drop 1)))]))) :
    ACall Tryd.prog G 70 [.ptr b 0] H R:=by
  have hlt:=Hp.lt hb
  refine ACall.of_run (raw:=[]) Tryd.func70 rfl Tryd.ntmps70 (by simp) fun hbel => ?_
  (repeat refine .z rfl ?_);refine .text ?_;simp (disch:=first|exact dsc|fail) only [go_sem,seval]
  (repeat refine .z rfl ?_);refine .text ?_;simp (disch:=first|exact dsc|fail) only [go_sem,seval,hb]
  by_cases e:N=[]
  · subst e
    have hset:H.set b (.cells [.p (.sl false 1 (pl bs []))])=H:=Hp.ext (fun c=>by
      by_cases hc:c=b
      · subst hc;rw [f_set_eq rfl hlt];exact hb.symm
      · rw [f_set_ne' hc]) rfl
    have hz:hdB []=[]:=rfl
    rw [show List.drop 1 ([]:List By)=[] from rfl,hset,hz] at h
    (repeat refine .z rfl ?_);refine .ifF (by simp (disch:=first|exact dsc|fail) only [go_sem,seval]) ?_
    (repeat refine .z rfl ?_);refine .text ?_;simp (disch:=first|exact dsc|fail) only [go_sem,seval]
    (repeat refine .z rfl ?_);refine .rt Tryd.func70 (by rw [Tryd.results70]) (hR := ?_);simp (disch:=first|exact dsc|fail) only [go_sem,seval]
    exact h
  · have hne:N.length≠0:=fun x=>e (List.eq_nil_of_length_eq_zero x)
    have d:decide ((0:Int) < (N.length:Int))=true:=by simp only [decide_eq_true_eq];omega
    have hem:(!N.isEmpty)=true:=by cases N with | nil=>exact absurd rfl e | cons a b=>rfl
    have hh:hdB N=nth N 0:=if_neg e
    have hcb : ∀ x,(bs x).cells=[bs x]:=fun _=>rfl
    have hwb : ∀ x,(bs x).weak=bs x:=fun _=>rfl
    rw [hem,hh] at h
    (repeat refine .z rfl ?_);refine .ifT (by simp (disch:=first|exact dsc|fail) only [go_sem,seval,d]) ?_
    generalize hw:nth N 0=x at h
    (repeat refine .z rfl ?_);refine .open [7] follows (by kernel_rfl) ?_;simp (disch:=first|exact dsc|fail) only [go_sem,seval,hb,hw,hcb,List.getElem?_cons_zero]
    (repeat refine .z rfl ?_);refine .text ?_;simp (disch:=first|exact dsc|fail) only [go_sem,seval]
    have hbel:Bel H.n (H.set b (.cells [.p (.sl false 1 (pl bs (N.drop 1)))])):=bel_setx hbel fun z hz=>by
      simp [AB.vals] at hz;subst hz;exact .p _
    (repeat refine .z rfl ?_);refine .rt Tryd.func70 (by rw [Tryd.results70]) (hx:=by simp (disch:=first|exact dsc|fail) only [go_sem,seval,hwb];rfl) (hR := ?_);simp (disch:=first|exact dsc|fail) only [go_sem,seval,hwb]
    exact h
end walks
end Go.Proofs.YthonhnpiglafkaaDoor

/-
  Hash trees: the digest that results from leaves and nodes.
-/
namespace Go.Proofs.YthonhnpiglafkaaDoor
open Go Go.AL

def rebF:Nat → List Int → Nat → Nat → List By → List By → Bool → By × List By × List By × Bool
  | 0,_,_,_,l,d,c=>(zeroD,l,d,c)
  | f+1,idx,lo,hi,l,d,c=>if idx=[] then (hdD d,l,d.drop 1,c && !d.isEmpty) else if hi - lo=1 then (leaf (hdB l),l.drop 1,d,c) else
    ((pair (rebF f (idx.filter fun i=>decide (i < ((lo+spl (hi - lo):Nat):Int))) lo (lo+spl (hi - lo)) l d c).1
      (rebF f (idx.filter fun i=>decide (((lo+spl (hi - lo):Nat):Int)≤i)) (lo+spl (hi - lo)) hi (rebF f (idx.filter fun i=>decide (i < ((lo+spl (hi - lo):Nat):Int))) lo (lo+spl (hi - lo)) l d c).2.1 (rebF f (idx.filter fun i=>decide (i < ((lo+spl (hi - lo):Nat):Int))) lo (lo+spl (hi - lo)) l d c).2.2.1 (rebF f (idx.filter fun i=>decide (i < ((lo+spl (hi - lo):Nat):Int))) lo (lo+spl (hi - lo)) l d c).2.2.2).1),
      (rebF f (idx.filter fun i=>decide (((lo+spl (hi - lo):Nat):Int)≤i)) (lo+spl (hi - lo)) hi (rebF f (idx.filter fun i=>decide (i < ((lo+spl (hi - lo):Nat):Int))) lo (lo+spl (hi - lo)) l d c).2.1 (rebF f (idx.filter fun i=>decide (i < ((lo+spl (hi - lo):Nat):Int))) lo (lo+spl (hi - lo)) l d c).2.2.1 (rebF f (idx.filter fun i=>decide (i < ((lo+spl (hi - lo):Nat):Int))) lo (lo+spl (hi - lo)) l d c).2.2.2).2)

theorem rebF_split {f:Nat} {idx:List Int} {lo hi:Nat} {l d:List By} {c:Bool} (e:idx≠[]) (e1:hi - lo≠1) {k:Nat} (hk:lo+spl (hi - lo)=k) {x1 x2:By} {l1 d1 l2 d2:List By} {c1 c2:Bool}
    (h1:rebF f (idx.filter fun i=>decide (i < (k:Int))) lo k l d c=(x1,l1,d1,c1)) (h2:rebF f (idx.filter fun i=>decide ((k:Int)≤i)) k hi l1 d1 c1=(x2,l2,d2,c2)) :
    rebF (f+1) idx lo hi l d c=(pair x1 x2,l2,d2,c2):=by
  rw [rebF,if_neg e,if_neg e1,hk,h1]
  dsimp only
  rw [h2]

theorem rebF_ok : ∀ (f:Nat) (idx:List Int) (lo hi:Nat) (l d:List By) (c:Bool),(∀ x∈d,x.length=32) → Short l →
    (rebF f idx lo hi l d c).1.length=32∧(∃ k,(rebF f idx lo hi l d c).2.1=l.drop k) ∧ ∃ k,(rebF f idx lo hi l d c).2.2.1=d.drop k
  | 0,_,_,_,l,d,_,hd,hl=>⟨rfl,⟨0,rfl⟩,⟨0,rfl⟩⟩
  | f+1,idx,lo,hi,l,d,c,hd,hl=>by
    by_cases e:idx=[]
    · rw [rebF,if_pos e];dsimp only;exact ⟨hdD_len hd,⟨0,List.drop_zero.symm⟩,⟨1,rfl⟩⟩
    · by_cases e1:hi - lo=1
      · rw [rebF,if_neg e,if_pos e1];dsimp only;exact ⟨leaf_len _,⟨1,rfl⟩,⟨0,List.drop_zero.symm⟩⟩
      · generalize hr1:rebF f (idx.filter fun i=>decide (i < ((lo+spl (hi - lo):Nat):Int))) lo (lo+spl (hi - lo)) l d c=r1
        obtain ⟨x1,l1,d1,c1⟩:=r1
        generalize hr2:rebF f (idx.filter fun i=>decide (((lo+spl (hi - lo):Nat):Int)≤i)) (lo+spl (hi - lo)) hi l1 d1 c1=r2
        obtain ⟨x2,l2,d2,c2⟩:=r2
        obtain ⟨_,⟨a,ha⟩,⟨b,hb⟩⟩:=rebF_ok f _ lo (lo+spl (hi - lo)) l d c hd hl
        rw [hr1] at ha hb
        dsimp only at ha hb
        obtain ⟨_,⟨a2,ha2⟩,⟨b2,hb2⟩⟩:=rebF_ok f (idx.filter fun i=>decide (((lo+spl (hi - lo):Nat):Int)≤i)) (lo+spl (hi - lo)) hi l1 d1 c1 (fun x hx=>hd x (by rw [hb] at hx;exact List.mem_of_mem_drop hx)) (by rw [ha];exact hl.drop a)
        rw [hr2] at ha2 hb2
        dsimp only at ha2 hb2
        rw [rebF_split e e1 rfl hr1 hr2]
        dsimp only
        exact ⟨pair_len _ _,⟨a+a2,by rw [ha2,ha,List.drop_drop]⟩,⟨b+b2,by rw [hb2,hb,List.drop_drop]⟩⟩

structure Fam (S:List By → List By → Bool → Hp) (m q cc p r bl bn:Nat):Prop where
  n : ∀ l d c,(S l d c).n=m
  bel : ∀ l d c,Bel m (S l d c)
  fq : ∀ l d c,(S l d c).f q=some (.cells [.clo 71 [] [.ptr bn 0]])
  fcc : ∀ l d c,(S l d c).f cc=some (.cells [.p (bo c)])
  fp : ∀ l d c,(S l d c).f p=some (.cells [.clo 70 [] [.ptr bl 0]])
  fr : ∀ l d c,(S l d c).f r=some (.cells [.clo 50 [] [.ptr q 0,.ptr cc 0,.ptr p 0,.ptr r 0]])
  fl : ∀ l d c,(S l d c).f bl=some (.cells [.p (.sl false 1 (pl bs l))])
  fn : ∀ l d c,(S l d c).f bn=some (.cells [.p (.sl false 32 (pl db d))])
  sl : ∀ l d c l',(S l d c).set bl (.cells [.p (.sl false 1 (pl bs l'))])=S l' d c
  sn : ∀ l d c d',(S l d c).set bn (.cells [.p (.sl false 32 (pl db d'))])=S l d' c
  sc : ∀ l d c c',(S l d c).set cc (.cells [.p (bo c')])=S l d c'
theorem Fam.new {S:List By → List By → Bool → Hp} {m q cc p r bl bn:Nat} (h:Fam S m q cc p r bl bn) {X:AB} (hx : ∀ y∈X.vals,BelowN m y):Fam (fun l d c=>(S l d c).new X) (m+1) q cc p r bl bn where
  n l d c:=by rw [Hp.n_new,h.n]
  bel l d c:=by
    have hn:=h.n l d c
    refine bel_newx (bel_mono (h.bel l d c) (by omega) (by omega)) fun y hy=>(hx y hy).mono (by omega)
  fq l d c:=by have:=Hp.lt (h.fq l d c);rw [Hp.f_new,if_neg (by omega)];exact h.fq l d c
  fcc l d c:=by have:=Hp.lt (h.fcc l d c);rw [Hp.f_new,if_neg (by omega)];exact h.fcc l d c
  fp l d c:=by have:=Hp.lt (h.fp l d c);rw [Hp.f_new,if_neg (by omega)];exact h.fp l d c
  fr l d c:=by have:=Hp.lt (h.fr l d c);rw [Hp.f_new,if_neg (by omega)];exact h.fr l d c
  fl l d c:=by have:=Hp.lt (h.fl l d c);rw [Hp.f_new,if_neg (by omega)];exact h.fl l d c
  fn l d c:=by have:=Hp.lt (h.fn l d c);rw [Hp.f_new,if_neg (by omega)];exact h.fn l d c
  sl l d c l':=by have:=Hp.lt (h.fl l d c);rw [set_new_ne (by omega),h.sl]
  sn l d c d':=by have:=Hp.lt (h.fn l d c);rw [set_new_ne (by omega),h.sn]
  sc l d c c':=by have:=Hp.lt (h.fcc l d c);rw [set_new_ne (by omega),h.sc]
end Go.Proofs.YthonhnpiglafkaaDoor
