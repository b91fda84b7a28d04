/-
  Hash trees: the walk of the closure that rebuilds a digest.
-/
import Derived.Test.YthonhnpiglafkaaDoorPkS2
import Derived.Test.YthonhnpiglafkaaDoorCards
import Derived.Test.YthonhnpiglafkaaDoorTie
set_option linter.unusedSimpArgs false
set_option linter.unusedVariables false
namespace Go.Proofs.YthonhnpiglafkaaDoor
open Go Go.AL

theorem zeroL:cl b8 [0#8,0#8,0#8,0#8,0#8,0#8,0#8,0#8,0#8,0#8,0#8,0#8,0#8,0#8,0#8,0#8,0#8,0#8,0#8,0#8,0#8,0#8,0#8,0#8,0#8,0#8,0#8,0#8,0#8,0#8,0#8,0#8]=cl b8 zeroD:=rfl
section walks
variable {G:Globs}
set_option maxRecDepth 20000 in
set_option maxHeartbeats 16000000 in
theorem rebuild_spec (hG:GS G) (q cc p r bl bn:Nat) : ∀ (f:Nat) (S:List By → List By → Bool → Hp) (m:Nat) (_:Fam S m q cc p r bl bn) (lo hi:Nat) (idx:List Int) (l d:List By) (c:Bool) (_:hi - lo≤f) (_:lo < hi) (_:hi≤65536) (_:Asc idx) (_:idx.length≤100000)
    (_ : ∀ x∈d,x.length=32) (_:d.length≤100000) (_:Short l) (_:l.length≤100000) (R:AV → Hp → Prop)
    (_:R (.p (.agg (pl b8 (rebF f idx lo hi l d c).1))) (S (rebF f idx lo hi l d c).2.1 (rebF f idx lo hi l d c).2.2.1 (rebF f idx lo hi l d c).2.2.2)),
    ACall Tryd.prog G 50 [.p (subV lo hi idx),.ptr q 0,.ptr cc 0,.ptr p 0,.ptr r 0] (S l d c) R:=by
  have hG':=hG
  obtain ⟨hG0,hG1⟩:=hG
  intro f
  induction f with
  | zero=>intro S m hF lo hi idx l d c h1 h2;omega
  | succ f ih =>
    intro S m hF lo hi idx l d c h1 h2 h3 ha hil hd hdl hl hll R h
    have hn:=hF.n
    have fq:=hF.fq;have fcc:=hF.fcc;have fp:=hF.fp;have fr:=hF.fr;have fl:=hF.fl;have fn:=hF.fn
    have sl:=hF.sl;have sn:=hF.sn;have sc:=hF.sc
    have lq:q < m:=by rw [←hn l d c];exact Hp.lt (fq l d c)
    have lc:cc < m:=by rw [←hn l d c];exact Hp.lt (fcc l d c)
    have lp:p < m:=by rw [←hn l d c];exact Hp.lt (fp l d c)
    have lr:r < m:=by rw [←hn l d c];exact Hp.lt (fr l d c)
    have ll:bl < m:=by rw [←hn l d c];exact Hp.lt (fl l d c)
    have ln:bn < m:=by rw [←hn l d c];exact Hp.lt (fn l d c)
    have hn0:=hn l d c
    unfold subV
    refine ACall.of_run (raw:=[]) Tryd.func50 rfl Tryd.ntmps50 (by simp) fun hbel => ?_
    clear hbel
    rw [hn]
    have hbel : ∀ l d c,Bel m (S l d c):=hF.bel
    (repeat refine .z rfl ?_);refine .text ?_;simp (disch:=first|exact dsc|fail) only [go_sem,seval,hn]
    rw [zeroL]
    (repeat refine .z rfl ?_);refine .text ?_;simp (disch:=first|exact dsc|fail) only [go_sem,seval,hn]
    have hzz:zeroD.length=32:=rfl
    have hzd:zeroD.drop 32=[]:=rfl
    have han:=List.append_nil (α:=BitVec 8)
    by_cases e:idx=[]
    · subst e
      have hz2:zeroD.length=32:=rfl
      have hh:=hdD_len hd
      rw [rebF,if_pos rfl] at h
      dsimp only at h
      have hn1:=hn l (d.drop 1) c
      have hn2:=hn l (d.drop 1) (c && !d.isEmpty)
      (repeat refine .z rfl ?_);refine .ifT (by simp (disch:=first|exact dsc|fail) only [go_sem,seval]) ?_
      (repeat refine .z rfl ?_);refine .text ?_;simp (disch:=first|exact dsc|fail) only [go_sem,seval,hn,fq]
      refine CallK.of (fun R h=>nextD_spec d hdl hd bn _ (by simp (disch:=first|exact dsc|fail) only [go_sem,seval,hn,fn]) R h) ?_;simp (disch:=first|exact dsc|fail) only [go_sem,seval,hn,sn]
      cases c
      · rw [Bool.false_and] at h
        (repeat refine .z rfl ?_);refine .text ?_;simp (disch:=first|exact dsc|fail) only [go_sem,seval,hn,sn,fcc,hh,sc]
        (repeat refine .z rfl ?_);refine .text ?_;simp (disch:=first|exact dsc|fail) only [go_sem,seval,hn,hh,hzz,hzd,han]
        have hbel:=hF.bel l (d.drop 1) false
        (repeat refine .z rfl ?_);refine .rt Tryd.func50 (by rw [Tryd.results50]) (hx:=by simp (disch:=first|exact dsc|fail) only [go_sem,seval,hn];rfl) (hR := ?_);simp (disch:=first|exact dsc|fail) only [go_sem,seval,hn]
        exact h
      · rw [Bool.true_and] at h
        have hn3:=hn l (d.drop 1) (!d.isEmpty)
        (repeat refine .z rfl ?_);refine .text ?_;simp (disch:=first|exact dsc|fail) only [go_sem,seval,hn,sn,fcc,hh,sc]
        (repeat refine .z rfl ?_);refine .text ?_;simp (disch:=first|exact dsc|fail) only [go_sem,seval,hn,hh,hzz,hzd,han]
        have hbel:=hF.bel l (d.drop 1) (!d.isEmpty)
        (repeat refine .z rfl ?_);refine .rt Tryd.func50 (by rw [Tryd.results50]) (hx:=by simp (disch:=first|exact dsc|fail) only [go_sem,seval,hn];rfl) (hR := ?_);simp (disch:=first|exact dsc|fail) only [go_sem,seval,hn]
        exact h
    · have hlen:((idx.length:Int) == 0)=false:=by
        have:idx.length≠0:=fun x=>e (List.eq_nil_of_length_eq_zero x)
        rw [beq_eq_false_iff_ne];omega
      (repeat refine .z rfl ?_);refine .ifF (by simp (disch:=first|exact dsc|fail) only [go_sem,seval,hlen]) ?_
      by_cases e1:hi - lo=1
      · have hd1:((hi:Int) - (lo:Int) == 1)=true:=by rw [beq_iff_eq];omega
        rw [rebF,if_neg e,if_pos e1] at h
        dsimp only at h
        have hn1:=hn (l.drop 1) d c
        have hbl:=hdB_len hl
        have hcb : ∀ x:By,bs x = .sl false 1 (pl b8 x):=fun _=>rfl
        have hz2:(leaf (hdB l)).length=32:=leaf_len _
        (repeat refine .z rfl ?_);refine .text ?_;simp (disch:=first|exact dsc|fail) only [go_sem,seval,hn,hd1]
        (repeat refine .z rfl ?_);refine .ifT (by simp (disch:=first|exact dsc|fail) only [go_sem,seval,hd1]) ?_
        (repeat refine .z rfl ?_);refine .text ?_;simp (disch:=first|exact dsc|fail) only [go_sem,seval,hn,fp]
        refine CallK.of (fun R h=>nextB_spec l hll bl _ (by simp (disch:=first|exact dsc|fail) only [go_sem,seval,hn,fl]) R h) ?_;simp (disch:=first|exact dsc|fail) only [go_sem,seval,hn,sl]
        (repeat refine .z rfl ?_);refine .text ?_;simp (disch:=first|exact dsc|fail) only [go_sem,seval,hn,hcb]
        refine CallK.of (fun R h=>Leaf_spec hG0 hG1 (hdB l) hbl _ R h) ?_;simp (disch:=first|exact dsc|fail) only [go_sem,seval,hn,hz2,hzz,hzd,han]
        have hbel:=hF.bel (l.drop 1) d c
        (repeat refine .z rfl ?_);refine .rt Tryd.func50 (by rw [Tryd.results50]) (hx:=by simp (disch:=first|exact dsc|fail) only [go_sem,seval,hn];rfl) (hR := ?_);simp (disch:=first|exact dsc|fail) only [go_sem,seval,hn]
        exact h
      · have hd1:((hi:Int) - (lo:Int) == 1)=false:=by rw [beq_eq_false_iff_ne];omega
        (repeat refine .z rfl ?_);refine .text ?_;simp (disch:=first|exact dsc|fail) only [go_sem,seval,hn,hd1]
        (repeat refine .z rfl ?_);refine .ifF (by simp (disch:=first|exact dsc|fail) only [go_sem,seval,hd1]) ?_
        (repeat refine .z rfl ?_)
        obtain ⟨s1,s2,s3⟩:=spl_lt (n:=hi - lo) (by omega)
        have hps:=fun (H:Hp) (R:AV → Hp → Prop) h=>parts_spec (G:=G) lo hi (by omega) h3 idx hil ha H R h
        have hk1:lo < lo+spl (hi - lo):=by omega
        have hk2:lo+spl (hi - lo) < hi:=by omega
        have hf1:lo+spl (hi - lo) - lo≤f:=by omega
        have hf2:hi - (lo+spl (hi - lo))≤f:=by omega
        generalize hk:lo+spl (hi - lo)=k at hps hk1 hk2 hf1 hf2
        generalize hr1:rebF f (idx.filter fun i=>decide (i < (k:Int))) lo k l d c=r1
        obtain ⟨x1,l1,d1,c1⟩:=r1
        generalize hr2:rebF f (idx.filter fun i=>decide ((k:Int)≤i)) k hi l1 d1 c1=r2
        obtain ⟨x2,l2,d2,c2⟩:=r2
        rw [rebF_split e e1 hk hr1 hr2] at h
        dsimp only at h
        have o1:=rebF_ok f (idx.filter fun i=>decide (i < (k:Int))) lo k l d c hd hl
        rw [hr1] at o1
        obtain ⟨hx1,⟨a1,ha1⟩,⟨b1,hb1⟩⟩:=o1
        dsimp only at hx1 ha1 hb1
        have hd1' : ∀ x∈d1,x.length=32:=fun x hx=>hd x (by rw [hb1] at hx;exact List.mem_of_mem_drop hx)
        have hl1':Short l1:=by rw [ha1];exact hl.drop a1
        have hdl1:d1.length≤100000:=by rw [hb1,List.length_drop];omega
        have hll1:l1.length≤100000:=by rw [ha1,List.length_drop];omega
        have o2:=rebF_ok f (idx.filter fun i=>decide ((k:Int)≤i)) k hi l1 d1 c1 hd1' hl1'
        rw [hr2] at o2
        have hx2:=o2.1
        dsimp only at hx2
        have hl1:(idx.filter fun i=>decide (i < (k:Int))).length≤100000:=Nat.le_trans (List.length_filter_le _ _) hil
        have hl2:(idx.filter fun i=>decide ((k:Int)≤i)).length≤100000:=Nat.le_trans (List.length_filter_le _ _) hil
        have ha1:=asc_filter (p:=fun i=>decide (i < (k:Int))) ha
        have ha2:=asc_filter (p:=fun i=>decide ((k:Int)≤i)) ha
        have htk : ∀ c,Low idx (k:Int) c → idx.take c=idx.filter fun i=>decide (i < (k:Int)):=fun c h=>h.take
        have hdr : ∀ c,Low idx (k:Int) c → idx.drop c=idx.filter fun i=>decide ((k:Int)≤i):=fun c h=>h.drop
        generalize (idx.filter fun i=>decide (i < (k:Int)))=i1 at hr1 hl1 ha1 htk
        generalize (idx.filter fun i=>decide ((k:Int)≤i))=i2 at hr2 hl2 ha2 hdr
        unfold subV at hps
        have hF2:=(((hF.new (X := .cells [.p (i64 lo),.p (i64 hi),.p (.sl false 1 (pl i64 idx))]) (fun y hy=>by simp [AB.vals] at hy;rcases hy with rfl | rfl | rfl<;>exact .p _)).new (X := .cells (cl b8 zeroD)) (fun y hy=>by
          simp only [AB.vals,cl,List.mem_map] at hy
          obtain ⟨x,_,rfl⟩:=hy
          exact .p _)).new (X := .cells [.p (i64 lo),.p (i64 k),.p (.sl false 1 (pl i64 i1))]) (fun y hy=>by simp [AB.vals] at hy;rcases hy with rfl | rfl | rfl<;>exact .p _)).new (X := .cells [.p (i64 k),.p (i64 hi),.p (.sl false 1 (pl i64 i2))]) (fun y hy=>by simp [AB.vals] at hy;rcases hy with rfl | rfl | rfl<;>exact .p _)
        have hF3:=hF2.new (X := .cells (cl b8 x1)) (fun y hy=>by
          simp only [AB.vals,cl,List.mem_map] at hy
          obtain ⟨x,_,rfl⟩:=hy
          exact .p _)
        have hc1:=ih _ _ hF2 lo k i1 l d c hf1 hk1 (by omega) ha1 hl1 hd hdl hl hll
        have hc2:=ih _ _ hF3 k hi i2 l1 d1 c1 hf2 hk2 (by omega) ha2 hl2 hd1' hdl1 hl1' hll1
        rw [hr1] at hc1
        rw [hr2] at hc2
        dsimp only at hc1 hc2
        unfold subV at hc1 hc2
        have hn1:=hn l1 d1 c1
        have hn2:=hn l2 d2 c2
        (repeat refine .z rfl ?_);refine .text ?_;simp (disch:=first|exact dsc|fail) only [go_sem,seval,hn]
        refine CallK.of (r := .tup [.p (.agg [i64 lo,i64 k,.sl false 1 (pl i64 i1)]),.p (.agg [i64 k,i64 hi,.sl false 1 (pl i64 i2)])]) (fun R h=>hps _ R fun c hc=>by rw [htk c hc,hdr c hc];exact h) ?_
        simp (disch:=first|exact dsc|fail) only [go_sem,seval,hn]
        (repeat refine .z rfl ?_);refine .text ?_;simp (disch:=first|exact dsc|fail) only [go_sem,seval,hn,fr]
        refine CallK.of hc1 ?_
        simp (disch:=first|exact dsc|fail) only [go_sem,seval,hn]
        obtain ⟨SS,hS0,hS1⟩ : ∃ SS:Bool → Hp,SS false=S l1 d1 c1∧SS true=S l2 d2 c2:=⟨fun b=>bif b then S l2 d2 c2 else S l1 d1 c1,rfl,rfl⟩
        have hSn : ∀ b,(SS b).n=m:=fun b=>by cases b<;>simp only [hS0,hS1,hn]
        have hSr : ∀ b,(SS b).f r=some (.cells [.clo 50 [] [.ptr q 0,.ptr cc 0,.ptr p 0,.ptr r 0]]):=fun b=>by cases b<;>simp only [hS0,hS1,fr]
        rw [←hS0,←hS1] at hc2
        have hSb:Bel m (SS true):=by rw [hS1];exact hF.bel l2 d2 c2
        rw [←hS1] at h
        rw [←hS0]
        have hpp:=pair_len x1 x2
        (repeat refine .z rfl ?_)
        refine .openInv (fun L env' H'=>env' 4 = .ptr r 0∧env' 6 = .ptr (m+1) 0∧env' 12 = .ptr (m+3) 0∧env' 13 = .ptr (m+4) 0∧(L 0=true → env' 51 = .p (.agg (pl b8 x1)))∧(L 1=true → env' 52 = .clo 50 [] [.ptr q 0,.ptr cc 0,.ptr p 0,.ptr r 0])∧(L 2=true → env' 53 = .p (.agg [i64 k,i64 hi,.sl false 1 (pl i64 i2)]))∧(L 3=true → env' 54 = .p (.agg (pl b8 x2)))∧(L 4=true → env' 55 = .p (.agg (pl b8 (pair x1 x2))))∧(L 3=true → L 1=true∧L 2=true)∧(L 4=true → L 0=true∧L 3=true)∧(L 5=true → L 0=true∧L 1=true∧L 2=true∧L 3=true∧L 4=true)∧H'=((((((SS (L 3)).new (.cells [.p (i64 lo),.p (i64 hi),.p (.sl false 1 (pl i64 idx))])).new (if L 5 then .cells (cl b8 (pair x1 x2)) else .cells (cl b8 zeroD))).new (.cells [.p (i64 lo),.p (i64 k),.p (.sl false 1 (pl i64 i1))])).new (.cells [.p (i64 k),.p (i64 hi),.p (.sl false 1 (pl i64 i2))])).new (.cells (cl b8 x1)))) follows (by kernel_rfl) ?_ ?_ ?_
        · exact ⟨(by simp (disch:=first|exact dsc|fail) only [go_sem,seval,hSn,hSr,hx1,hx2,hpp,hzz,hzd,han]),(by simp (disch:=first|exact dsc|fail) only [go_sem,seval,hSn,hSr,hx1,hx2,hpp,hzz,hzd,han]),(by simp (disch:=first|exact dsc|fail) only [go_sem,seval,hSn,hSr,hx1,hx2,hpp,hzz,hzd,han]),(by simp (disch:=first|exact dsc|fail) only [go_sem,seval,hSn,hSr,hx1,hx2,hpp,hzz,hzd,han]),(fun h=>by cases h),(fun h=>by cases h),(fun h=>by cases h),(fun h=>by cases h),(fun h=>by cases h),(fun h=>by cases h),(fun h=>by cases h),(fun h=>by cases h),(by first | rfl | (simp only [Bool.false_eq_true,if_false];first | rfl | (simp (disch:=first|exact dsc|fail) only [go_sem,seval,hSn,hSr,hx1,hx2,hpp,hzz,hzd,han]<;>rfl)))⟩
        · intro i o L env' H' ho hL hall hI
          obtain ⟨f0,f1,f2,f3,g0,g1,g2,g3,g4,m3,m4,m5,rfl⟩:=hI
          have hSx:=hSn (L 3);have hSf:=hSn false;have hSt:=hSn true
          rcases i with _ | _ | _ | _ | _ | _ | i
          · cases ho
            have n4:L 4=false:=Bool.eq_false_iff.2 fun e=>by (have:=m4 e;simp [hL] at this)
            have n5:L 5=false:=Bool.eq_false_iff.2 fun e=>by (have:=m5 e;simp [hL] at this)
            refine opA_val (.p (.agg (pl b8 x1))) rfl rfl (by simp (disch:=first|exact dsc|fail) only [go_sem,seval,reduceIte,Bool.false_eq_true,if_false,if_true,f0,f1,f2,f3,n4,n5,hL,hSn,hSr,hx1,hx2,hpp,hzz,hzd,han]<;>rfl) rfl ?_
            exact ⟨(by (try simp (disch:=first|exact dsc|fail) only [go_sem,seval]);exact f0),(by (try simp (disch:=first|exact dsc|fail) only [go_sem,seval]);exact f1),(by (try simp (disch:=first|exact dsc|fail) only [go_sem,seval]);exact f2),(by (try simp (disch:=first|exact dsc|fail) only [go_sem,seval]);exact f3),(fun _=>by simp (disch:=first|exact dsc|fail) only [go_sem,seval]),(fun q=>by (rw [more_ne (by decide)] at q);(try simp (disch:=first|exact dsc|fail) only [go_sem,seval]);exact g1 q),(fun q=>by (rw [more_ne (by decide)] at q);(try simp (disch:=first|exact dsc|fail) only [go_sem,seval]);exact g2 q),(fun q=>by (rw [more_ne (by decide)] at q);(try simp (disch:=first|exact dsc|fail) only [go_sem,seval]);exact g3 q),(fun q=>by (rw [more_ne (by decide)] at q);(try simp (disch:=first|exact dsc|fail) only [go_sem,seval]);exact g4 q),(fun q=>by (rw [more_ne (by decide)] at q);obtain ⟨q1,q2⟩:=m3 q;exact ⟨more_t q1,more_t q2⟩),(fun q=>by (rw [more_ne (by decide)] at q);obtain ⟨q0,q3⟩:=m4 q;exact ⟨more_t q0,more_t q3⟩),(fun q=>by (rw [more_ne (by decide)] at q);obtain ⟨q0,q1,q2,q3,q4⟩:=m5 q;exact ⟨more_t q0,more_t q1,more_t q2,more_t q3,more_t q4⟩),(by (have e3:more L 0 3=L 3:=more_ne (by decide));(have e5:more L 0 5=L 5:=more_ne (by decide));(try simp only [e3,e5,n5]);first | done | rfl | (simp only [e3,e5,n5,if_true,if_false,Bool.false_eq_true];first | done | rfl | (simp (disch:=first|exact dsc|fail) only [go_sem,seval,e3,e5,n5,hSn,hSr,hx1,hx2,hpp,hzz,hzd,han]<;>rfl)))⟩
          · cases ho
            have n3:L 3=false:=Bool.eq_false_iff.2 fun e=>by (have:=m3 e;simp [hL] at this)
            have n5:L 5=false:=Bool.eq_false_iff.2 fun e=>by (have:=m5 e;simp [hL] at this)
            refine opA_val (.clo 50 [] [.ptr q 0,.ptr cc 0,.ptr p 0,.ptr r 0]) rfl rfl (by simp (disch:=first|exact dsc|fail) only [go_sem,seval,reduceIte,Bool.false_eq_true,if_false,if_true,f0,f1,f2,f3,n3,n5,hL,hSn,hSr,hx1,hx2,hpp,hzz,hzd,han]<;>rfl) rfl ?_
            exact ⟨(by (try simp (disch:=first|exact dsc|fail) only [go_sem,seval]);exact f0),(by (try simp (disch:=first|exact dsc|fail) only [go_sem,seval]);exact f1),(by (try simp (disch:=first|exact dsc|fail) only [go_sem,seval]);exact f2),(by (try simp (disch:=first|exact dsc|fail) only [go_sem,seval]);exact f3),(fun q=>by (rw [more_ne (by decide)] at q);(try simp (disch:=first|exact dsc|fail) only [go_sem,seval]);exact g0 q),(fun _=>by simp (disch:=first|exact dsc|fail) only [go_sem,seval]),(fun q=>by (rw [more_ne (by decide)] at q);(try simp (disch:=first|exact dsc|fail) only [go_sem,seval]);exact g2 q),(fun q=>by (rw [more_ne (by decide)] at q);(try simp (disch:=first|exact dsc|fail) only [go_sem,seval]);exact g3 q),(fun q=>by (rw [more_ne (by decide)] at q);(try simp (disch:=first|exact dsc|fail) only [go_sem,seval]);exact g4 q),(fun q=>by (rw [more_ne (by decide)] at q);obtain ⟨q1,q2⟩:=m3 q;exact ⟨more_t q1,more_t q2⟩),(fun q=>by (rw [more_ne (by decide)] at q);obtain ⟨q0,q3⟩:=m4 q;exact ⟨more_t q0,more_t q3⟩),(fun q=>by (rw [more_ne (by decide)] at q);obtain ⟨q0,q1,q2,q3,q4⟩:=m5 q;exact ⟨more_t q0,more_t q1,more_t q2,more_t q3,more_t q4⟩),(by (have e3:more L 1 3=L 3:=more_ne (by decide));(have e5:more L 1 5=L 5:=more_ne (by decide));(try simp only [e3,e5,n3,n5]);first | done | rfl | (simp only [e3,e5,n3,n5,if_true,if_false,Bool.false_eq_true];first | done | rfl | (simp (disch:=first|exact dsc|fail) only [go_sem,seval,e3,e5,n3,n5,hSn,hSr,hx1,hx2,hpp,hzz,hzd,han]<;>rfl)))⟩
          · cases ho
            have n3:L 3=false:=Bool.eq_false_iff.2 fun e=>by (have:=m3 e;simp [hL] at this)
            have n5:L 5=false:=Bool.eq_false_iff.2 fun e=>by (have:=m5 e;simp [hL] at this)
            refine opA_val (.p (.agg [i64 k,i64 hi,.sl false 1 (pl i64 i2)])) rfl rfl (by simp (disch:=first|exact dsc|fail) only [go_sem,seval,reduceIte,Bool.false_eq_true,if_false,if_true,f0,f1,f2,f3,n3,n5,hL,hSn,hSr,hx1,hx2,hpp,hzz,hzd,han]<;>rfl) rfl ?_
            exact ⟨(by (try simp (disch:=first|exact dsc|fail) only [go_sem,seval]);exact f0),(by (try simp (disch:=first|exact dsc|fail) only [go_sem,seval]);exact f1),(by (try simp (disch:=first|exact dsc|fail) only [go_sem,seval]);exact f2),(by (try simp (disch:=first|exact dsc|fail) only [go_sem,seval]);exact f3),(fun q=>by (rw [more_ne (by decide)] at q);(try simp (disch:=first|exact dsc|fail) only [go_sem,seval]);exact g0 q),(fun q=>by (rw [more_ne (by decide)] at q);(try simp (disch:=first|exact dsc|fail) only [go_sem,seval]);exact g1 q),(fun _=>by simp (disch:=first|exact dsc|fail) only [go_sem,seval]),(fun q=>by (rw [more_ne (by decide)] at q);(try simp (disch:=first|exact dsc|fail) only [go_sem,seval]);exact g3 q),(fun q=>by (rw [more_ne (by decide)] at q);(try simp (disch:=first|exact dsc|fail) only [go_sem,seval]);exact g4 q),(fun q=>by (rw [more_ne (by decide)] at q);obtain ⟨q1,q2⟩:=m3 q;exact ⟨more_t q1,more_t q2⟩),(fun q=>by (rw [more_ne (by decide)] at q);obtain ⟨q0,q3⟩:=m4 q;exact ⟨more_t q0,more_t q3⟩),(fun q=>by (rw [more_ne (by decide)] at q);obtain ⟨q0,q1,q2,q3,q4⟩:=m5 q;exact ⟨more_t q0,more_t q1,more_t q2,more_t q3,more_t q4⟩),(by (have e3:more L 2 3=L 3:=more_ne (by decide));(have e5:more L 2 5=L 5:=more_ne (by decide));(try simp only [e3,e5,n3,n5]);first | done | rfl | (simp only [e3,e5,n3,n5,if_true,if_false,Bool.false_eq_true];first | done | rfl | (simp (disch:=first|exact dsc|fail) only [go_sem,seval,e3,e5,n3,n5,hSn,hSr,hx1,hx2,hpp,hzz,hzd,han]<;>rfl)))⟩
          · cases ho
            have h1:L 1=true:=hall ⟨1,.data⟩ (by simp) rfl
            have d1:=g1 h1
            have h2:L 2=true:=hall ⟨2,.data⟩ (by simp) rfl
            have d2:=g2 h2
            have n4:L 4=false:=Bool.eq_false_iff.2 fun e=>by (have:=m4 e;simp [hL] at this)
            have n5:L 5=false:=Bool.eq_false_iff.2 fun e=>by (have:=m5 e;simp [hL] at this)
            (try simp only [n5,hL,if_true,if_false,Bool.false_eq_true])
            refine opA_call rfl rfl (by simp (disch:=first|exact dsc|fail) only [go_sem,seval,reduceIte,Bool.false_eq_true,if_false,if_true,f0,f1,f2,f3,d1,d2,h1,h2,n4,n5,hL,hSn,hSr,hx1,hx2,hpp,hzz,hzd,han]<;>rfl) rfl (by simp (disch:=first|exact dsc|fail) only [go_sem,seval,reduceIte,Bool.false_eq_true,if_false,if_true,f0,f1,f2,f3,d1,d2,h1,h2,n4,n5,hL,hSn,hSr,hx1,hx2,hpp,hzz,hzd,han]<;>rfl) (fun R h=>hc2 R h) ?_
            exact ⟨(by (try simp (disch:=first|exact dsc|fail) only [go_sem,seval]);exact f0),(by (try simp (disch:=first|exact dsc|fail) only [go_sem,seval]);exact f1),(by (try simp (disch:=first|exact dsc|fail) only [go_sem,seval]);exact f2),(by (try simp (disch:=first|exact dsc|fail) only [go_sem,seval]);exact f3),(fun q=>by (rw [more_ne (by decide)] at q);(try simp (disch:=first|exact dsc|fail) only [go_sem,seval]);exact g0 q),(fun q=>by (rw [more_ne (by decide)] at q);(try simp (disch:=first|exact dsc|fail) only [go_sem,seval]);exact g1 q),(fun q=>by (rw [more_ne (by decide)] at q);(try simp (disch:=first|exact dsc|fail) only [go_sem,seval]);exact g2 q),(fun _=>by simp (disch:=first|exact dsc|fail) only [go_sem,seval]),(fun q=>by (rw [more_ne (by decide)] at q);(try simp (disch:=first|exact dsc|fail) only [go_sem,seval]);exact g4 q),(fun _=>⟨more_t h1,more_t h2⟩),(fun q=>by (rw [more_ne (by decide)] at q);obtain ⟨q0,q3⟩:=m4 q;exact ⟨more_t q0,more_t q3⟩),(fun q=>by (rw [more_ne (by decide)] at q);obtain ⟨q0,q1,q2,q3,q4⟩:=m5 q;exact ⟨more_t q0,more_t q1,more_t q2,more_t q3,more_t q4⟩),(by (have e3:more L 3 3=true:=more_eq);(have e5:more L 3 5=L 5:=more_ne (by decide));(try simp only [e3,e5,n5,hL]);first | done | rfl | (simp only [e3,e5,n5,hL,if_true,if_false,Bool.false_eq_true];first | done | rfl | (simp (disch:=first|exact dsc|fail) only [go_sem,seval,e3,e5,n5,hL,hSn,hSr,hx1,hx2,hpp,hzz,hzd,han]<;>rfl)))⟩
          · cases ho
            have h0:L 0=true:=hall ⟨0,.data⟩ (by simp) rfl
            have d0:=g0 h0
            have h3:L 3=true:=hall ⟨3,.data⟩ (by simp) rfl
            have d3:=g3 h3
            have n5:L 5=false:=Bool.eq_false_iff.2 fun e=>by (have:=m5 e;simp [hL] at this)
            (try simp only [h3,n5,if_true,if_false,Bool.false_eq_true])
            refine opA_call rfl rfl (by simp (disch:=first|exact dsc|fail) only [go_sem,seval,reduceIte,Bool.false_eq_true,if_false,if_true,f0,f1,f2,f3,d0,d3,h0,h3,n5,hL,hSn,hSr,hx1,hx2,hpp,hzz,hzd,han]<;>rfl) rfl (by simp (disch:=first|exact dsc|fail) only [go_sem,seval,reduceIte,Bool.false_eq_true,if_false,if_true,f0,f1,f2,f3,d0,d3,h0,h3,n5,hL,hSn,hSr,hx1,hx2,hpp,hzz,hzd,han]<;>rfl) (fun R h=>Pair_spec hG0 hG1 x1 x2 hx1 hx2 _ R h) ?_
            exact ⟨(by (try simp (disch:=first|exact dsc|fail) only [go_sem,seval]);exact f0),(by (try simp (disch:=first|exact dsc|fail) only [go_sem,seval]);exact f1),(by (try simp (disch:=first|exact dsc|fail) only [go_sem,seval]);exact f2),(by (try simp (disch:=first|exact dsc|fail) only [go_sem,seval]);exact f3),(fun q=>by (rw [more_ne (by decide)] at q);(try simp (disch:=first|exact dsc|fail) only [go_sem,seval]);exact g0 q),(fun q=>by (rw [more_ne (by decide)] at q);(try simp (disch:=first|exact dsc|fail) only [go_sem,seval]);exact g1 q),(fun q=>by (rw [more_ne (by decide)] at q);(try simp (disch:=first|exact dsc|fail) only [go_sem,seval]);exact g2 q),(fun q=>by (rw [more_ne (by decide)] at q);(try simp (disch:=first|exact dsc|fail) only [go_sem,seval]);exact g3 q),(fun _=>by simp (disch:=first|exact dsc|fail) only [go_sem,seval]),(fun q=>by (rw [more_ne (by decide)] at q);obtain ⟨q1,q2⟩:=m3 q;exact ⟨more_t q1,more_t q2⟩),(fun _=>⟨more_t h0,more_t h3⟩),(fun q=>by (rw [more_ne (by decide)] at q);obtain ⟨q0,q1,q2,q3,q4⟩:=m5 q;exact ⟨more_t q0,more_t q1,more_t q2,more_t q3,more_t q4⟩),(by (have e3:more L 4 3=L 3:=more_ne (by decide));(have e5:more L 4 5=L 5:=more_ne (by decide));(try simp only [e3,e5,h3,n5]);first | done | rfl | (simp only [e3,e5,h3,n5,if_true,if_false,Bool.false_eq_true];first | done | rfl | (simp (disch:=first|exact dsc|fail) only [go_sem,seval,e3,e5,h3,n5,hSn,hSr,hx1,hx2,hpp,hzz,hzd,han]<;>rfl)))⟩
          · cases ho
            have h4:L 4=true:=hall ⟨4,.data⟩ (by simp) rfl
            have d4:=g4 h4
            have h0:L 0=true:=hall ⟨0,.phase⟩ (by simp) rfl
            have d0:=g0 h0
            have h1:L 1=true:=hall ⟨1,.phase⟩ (by simp) rfl
            have d1:=g1 h1
            have h2:L 2=true:=hall ⟨2,.phase⟩ (by simp) rfl
            have d2:=g2 h2
            have h3:L 3=true:=hall ⟨3,.phase⟩ (by simp) rfl
            have d3:=g3 h3
            refine opA_unit rfl rfl (by simp (disch:=first|exact dsc|fail) only [go_sem,seval,reduceIte,Bool.false_eq_true,if_false,if_true,f0,f1,f2,f3,d0,d1,d2,d3,d4,h0,h1,h2,h3,h4,hL,hSn,hSr,hx1,hx2,hpp,hzz,hzd,han]<;>rfl) rfl ?_
            exact ⟨(by (try simp (disch:=first|exact dsc|fail) only [go_sem,seval]);exact f0),(by (try simp (disch:=first|exact dsc|fail) only [go_sem,seval]);exact f1),(by (try simp (disch:=first|exact dsc|fail) only [go_sem,seval]);exact f2),(by (try simp (disch:=first|exact dsc|fail) only [go_sem,seval]);exact f3),(fun q=>by (rw [more_ne (by decide)] at q);(try simp (disch:=first|exact dsc|fail) only [go_sem,seval]);exact g0 q),(fun q=>by (rw [more_ne (by decide)] at q);(try simp (disch:=first|exact dsc|fail) only [go_sem,seval]);exact g1 q),(fun q=>by (rw [more_ne (by decide)] at q);(try simp (disch:=first|exact dsc|fail) only [go_sem,seval]);exact g2 q),(fun q=>by (rw [more_ne (by decide)] at q);(try simp (disch:=first|exact dsc|fail) only [go_sem,seval]);exact g3 q),(fun q=>by (rw [more_ne (by decide)] at q);(try simp (disch:=first|exact dsc|fail) only [go_sem,seval]);exact g4 q),(fun q=>by (rw [more_ne (by decide)] at q);obtain ⟨q1,q2⟩:=m3 q;exact ⟨more_t q1,more_t q2⟩),(fun q=>by (rw [more_ne (by decide)] at q);obtain ⟨q0,q3⟩:=m4 q;exact ⟨more_t q0,more_t q3⟩),(fun _=>⟨more_t h0,more_t h1,more_t h2,more_t h3,more_t h4⟩),(by (have e3:more L 5 3=L 3:=more_ne (by decide));(have e5:more L 5 5=true:=more_eq);(try simp only [e3,e5,h3,hL]);first | done | rfl | (simp only [e3,e5,h3,hL,if_true,if_false,Bool.false_eq_true];first | done | rfl | (simp (disch:=first|exact dsc|fail) only [go_sem,seval,e3,e5,h3,hL,hSn,hSr,hx1,hx2,hpp,hzz,hzd,han]<;>rfl)))⟩
          · simp at ho
        · intro L env' H' hall hI
          obtain ⟨f0,f1,f2,f3,g0,g1,g2,g3,g4,_,_,_,rfl⟩:=hI
          have l3:=hall 3 (by decide)
          have l5:=hall 5 (by decide)
          replace g0:=g0 (hall 0 (by decide))
          replace g1:=g1 (hall 1 (by decide))
          replace g2:=g2 (hall 2 (by decide))
          replace g3:=g3 (hall 3 (by decide))
          replace g4:=g4 (hall 4 (by decide))
          simp only [l3,l5,if_true]
          clear hall
          have hSn2:=hSn true
          have hbel:=hSb
          (repeat refine .z rfl ?_);refine .rt Tryd.func50 (by rw [Tryd.results50]) (hx:=by simp (disch:=first|exact dsc|fail) only [go_sem,seval,f1,hSn];rfl) (hR := ?_);simp (disch:=first|exact dsc|fail) only [go_sem,seval,f1,hSn]
          exact h
end walks
end Go.Proofs.YthonhnpiglafkaaDoor

/-
  Hash trees: Verify.
-/
namespace Go.Proofs.YthonhnpiglafkaaDoor
open Go Go.AL

def verR (n:Nat) (idx:List Int) (B N:List By):By × List By × List By × Bool:=rebF n idx 0 n B N true
def verC (n:Int) (idx:List Int) (B:List By):Nat:=if n < 1 ∨ B.length≠idx.length then 1 else chkE n idx
def verE (root:By) (n:Int) (idx:List Int) (B N:List By):Nat :=
  if verC n idx B=0 then if (verR n.toNat idx B N).2.2.1=[]∧(verR n.toNat idx B N).2.2.2=true∧(verR n.toNat idx B N).1=root then 0 else 80 else verC n idx B

theorem opA_valH {C:Cx} {ops:Array Oper} {i:Nat} {o:Oper} {K:Env → Hp → Prop} {env:Env} {H H':Hp} (x:AV) (ho:ops[i]? = some o) (hg:o.guard=none) (hs:stepOp C.P C.G o.op o.type env H = .val x H') (hd:dstOK C.nt o.dst=true)
    (hK:K (env.put o.dst x) H'):opA C ops false i K env H:=by
  unfold opA
  rw [ho]
  simp only [hg,wantedA,aOp1,hs,sOp]
  exact ⟨hd,hK⟩
section lists
variable {α:Type} {T:List α} {i:Nat} {x y:α}
theorem get_push (h:T[i]? = some x):(T++[y])[i]? = some x:=by rw [List.getElem?_append_left (List.getElem?_eq_some_iff.1 h).1];exact h
theorem get_last:(T++[y])[T.length]? = some y:=by simp
theorem lt_get (h:T[i]? = some x):i < T.length:=(List.getElem?_eq_some_iff.1 h).1
end lists
theorem bel_push {T:List AB} {m:Nat} {X:AB} (gb : ∀ (i:Nat) (x:AB),T[i]? = some x → ∀ y∈x.vals,BelowN (m+T.length) y) (hX : ∀ y∈X.vals,BelowN (m+T.length) y) :
    ∀ (i:Nat) (x:AB),(T++[X])[i]? = some x → ∀ y∈x.vals,BelowN (m+(T++[X]).length) y:=by
  intro i x hx y hy
  rw [List.length_append,List.length_singleton]
  rcases Nat.lt_or_ge i T.length with hlt | hge
  · rw [List.getElem?_append_left hlt] at hx
    exact (gb i x hx y hy).mono (by omega)
  · rw [List.getElem?_append_right hge] at hx
    rcases hz:i - T.length with _ | z<;>rw [hz] at hx<;>simp at hx
    subst hx
    exact (hX y hy).mono (by omega)
theorem bel_setT {T:List AB} {m a:Nat} {X:AB} (gb : ∀ (i:Nat) (x:AB),T[i]? = some x → ∀ y∈x.vals,BelowN (m+T.length) y) (hX : ∀ y∈X.vals,BelowN (m+T.length) y) :
    ∀ (i:Nat) (x:AB),(T.set a X)[i]? = some x → ∀ y∈x.vals,BelowN (m+(T.set a X).length) y:=by
  intro i x hx y hy
  rw [List.length_set]
  by_cases e:a=i
  · subst e
    have hlt:a < T.length:=by have:=(List.getElem?_eq_some_iff.1 hx).1;rw [List.length_set] at this;exact this
    rw [List.getElem?_set_self hlt] at hx
    cases hx
    exact hX y hy
  · rw [List.getElem?_set_ne e] at hx
    exact gb i x hx y hy

theorem bel_appT {T:List AB} {m:Nat} {H0:Hp} (hn:H0.n=m) (h:Bel m H0) (gb : ∀ (i:Nat) (x:AB),T[i]? = some x → ∀ y∈x.vals,BelowN (m+T.length) y):Bel (m+T.length) (app H0 T):=by
  intro b x hb hf y hy
  rcases Nat.lt_or_ge b m with hlt | hge
  · rw [app_f (by omega)] at hf
    exact (h b x hlt hf y hy).mono (by omega)
  · obtain ⟨i,rfl⟩ : ∃ i,b=H0.n+i:=⟨b - m,by omega⟩
    rw [app_at] at hf
    exact gb i x hf y hy
theorem set_same {α:Type} {T:List α} {i:Nat} {x:α} (h:T[i]? = some x):T.set i x=T:=by
  refine List.ext_getElem? fun j => ?_
  by_cases e:i=j
  · subst e;rw [List.getElem?_set_self (lt_get h),h]
  · rw [List.getElem?_set_ne e]
abbrev lvC (l:List By):AB := .cells [.p (.sl false 1 (pl bs l))]
abbrev nvC (d:List By):AB := .cells [.p (.sl false 32 (pl db d))]
def verF (H0:Hp) (T:List AB) (a2 a5:Nat) (l d:List By):Hp:=app H0 ((T.set a2 (lvC l)).set a5 (nvC d))
section fam
variable {H0:Hp} {m a2 a5 a6 a7:Nat} {T:List AB} {B N:List By}
theorem verF_n (hn:H0.n=m) (l d:List By):(verF H0 T a2 a5 l d).n=m+T.length:=by
  unfold verF;rw [app_n',hn,List.length_set,List.length_set]
theorem verF_at (hn:H0.n=m) {l d:List By} {a:Nat} {x:AB} (h:T[a]? = some x) (h2:a≠a2) (h5:a≠a5):(verF H0 T a2 a5 l d).f (m+a)=some x:=by
  unfold verF;rw [←hn,app_at,List.getElem?_set_ne h5.symm,List.getElem?_set_ne h2.symm,h]
theorem ver_fam (hn:H0.n=m) (hb:Bel m H0) (t2:T[a2]? = some (lvC B)) (t5:T[a5]? = some (nvC N))
    (t6:T[a6]? = some (.cells [.clo 70 [] [.ptr (m+a2) 0]])) (t7:T[a7]? = some (.cells [.clo 71 [] [.ptr (m+a5) 0]]))
    (gb : ∀ (i:Nat) (x:AB),T[i]? = some x → ∀ y∈x.vals,BelowN (m+T.length) y) :
    Fam (fun l d c=>((verF H0 T a2 a5 l d).new (.cells [.p (bo c)])).new (.cells [.clo 50 [] [.ptr (m+a7) 0,.ptr (m+T.length) 0,.ptr (m+a6) 0,.ptr (m+T.length+1) 0]])) (m+T.length+2) (m+a7) (m+T.length) (m+a6) (m+T.length+1) (m+a2) (m+a5):=by
  have l2:=lt_get t2
  have l5:=lt_get t5
  have l6:=lt_get t6
  have l7:=lt_get t7
  have h25:a2≠a5:=fun e=>by rw [e,t5] at t2;cases t2
  have h62:a6≠a2:=fun e=>by rw [e,t2] at t6;cases t6
  have h65:a6≠a5:=fun e=>by rw [e,t5] at t6;cases t6
  have h72:a7≠a2:=fun e=>by rw [e,t2] at t7;cases t7
  have h75:a7≠a5:=fun e=>by rw [e,t5] at t7;cases t7
  have hVn:=verF_n (T:=T) (a2:=a2) (a5:=a5) hn
  have up : ∀ {l d:List By} {c:Bool} {X:AB} {b:Nat} {x:AB},b < m+T.length → (verF H0 T a2 a5 l d).f b=some x → (((verF H0 T a2 a5 l d).new (.cells [.p (bo c)])).new X).f b=some x:=by
    intro l d c X b x hb h
    rw [f_new_ne (by rw [n_new',hVn];omega),f_new_ne (by rw [hVn];omega)];exact h
  have st : ∀ {l d:List By} {c:Bool} {X Y:AB} {b:Nat},b < m+T.length → (((verF H0 T a2 a5 l d).new (.cells [.p (bo c)])).new X).set b Y=(((verF H0 T a2 a5 l d).set b Y).new (.cells [.p (bo c)])).new X:=by
    intro l d c X Y b hb
    rw [set_new_ne (by rw [n_new',hVn];omega),set_new_ne (by rw [hVn];omega)]
  refine ⟨fun l d c=>by rw [n_new',n_new',hVn],fun l d c => ?_,fun l d c=>up (by omega) (verF_at hn t7 h72 h75),fun l d c => ?_,fun l d c=>up (by omega) (verF_at hn t6 h62 h65),fun l d c => ?_,fun l d c=>up (by omega) ?_,fun l d c=>up (by omega) ?_,fun l d c l' => ?_,fun l d c d' => ?_,fun l d c c' => ?_⟩
  · have hgb : ∀ (i:Nat) (x:AB),((T.set a2 (lvC l)).set a5 (nvC d))[i]? = some x → ∀ y∈x.vals,BelowN (m+((T.set a2 (lvC l)).set a5 (nvC d)).length) y :=
      bel_setT (bel_setT gb (fun y hy=>by simp [AB.vals] at hy;subst hy;exact .p _)) (fun y hy=>by simp [AB.vals] at hy;subst hy;exact .p _)
    have hB:=bel_appT hn hb hgb
    have hll:((T.set a2 (lvC l)).set a5 (nvC d)).length=T.length:=by rw [List.length_set,List.length_set]
    rw [hll] at hB
    have hVl:=hVn l d
    refine bel_newx (bel_newx (bel_mono (m:=m+T.length) (H:=verF H0 T a2 a5 l d) hB (Nat.le_of_eq hVl) (by omega)) fun y hy => ?_) fun y hy => ?_
    · simp [AB.vals] at hy;subst hy;exact .p _
    · simp [AB.vals] at hy;subst hy
      exact .clo _ _ _ (fun _ _ h=>by simp at h) (fun i z hz=>by rcases i with _ | _ | _ | _ | i<;>simp at hz<;>subst hz<;>exact .ptr _ _ (by omega))
  · rw [f_new_ne (by rw [n_new',hVn];omega),f_new_eq (by rw [hVn])]
  · rw [f_new_eq (by rw [n_new',hVn])]
  · unfold verF;rw [←hn,app_at,List.getElem?_set_ne h25.symm,List.getElem?_set_self (by omega)]
  · unfold verF;rw [←hn,app_at,List.getElem?_set_self (by rw [List.length_set];omega)]
  · rw [st (by omega)];unfold verF;rw [←hn,app_set_hi (by rw [List.length_set,List.length_set];omega),List.set_comm _ _ h25,List.set_set,List.set_comm _ _ h25.symm]
  · rw [st (by omega)];unfold verF;rw [←hn,app_set_hi (by rw [List.length_set,List.length_set];omega),List.set_set]
  · rw [set_new_ne (by rw [n_new',hVn];omega),set_new_eq (by rw [hVn])]
end fam
section walks
variable {G:Globs}
set_option maxRecDepth 20000 in
set_option maxHeartbeats 16000000 in
theorem Verify_spec (hG:GS G) (root:By) (hroot:root.length=32) (n:Int) (hn1 : -9223372036854775808≤n) (hn2:n≤9223372036854775807) (idx:List Int) (hil:idx.length≤100000) (B N:List By) (hB:Short B) (hBl:B.length≤100000) (hN : ∀ d∈N,d.length=32) (hNl:N.length≤100000)
    (H:Hp) (R:AV → Hp → Prop) (h:R (.p (i64 (verE root n idx B N:Nat))) H) :
    ACall Tryd.prog G 22 [.p (.agg (pl b8 root)),.p (i64 n),.p (.agg [.sl false 1 (pl i64 idx),.sl false 1 (pl bs B)]),.p (.agg [.sl false 32 (pl db N)])] H R:=by
  have hG':=hG
  obtain ⟨hG0,hG1⟩:=hG
  refine ACall.of_run (raw:=[]) Tryd.func22 rfl Tryd.ntmps22 (by simp) fun hbel => ?_
  (repeat refine .z rfl ?_);refine .text ?_;simp (disch:=first|exact dsc|fail) only [go_sem,seval,hroot]
  (repeat refine .z rfl ?_);refine .text ?_;simp (disch:=first|exact dsc|fail) only [go_sem,seval]
  refine CallK.of (fun R h=>check_spec n hn1 hn2 idx (by omega) _ R h) ?_;simp (disch:=first|exact dsc|fail) only [go_sem,seval]
  by_cases hlt:n < 1
  · have d1:decide (n < 1)=true:=decide_eq_true hlt
    have hv:verE root n idx B N=1:=by
      have:verC n idx B=1:=if_pos (.inl hlt)
      rw [verE,this];rfl
    rw [hv] at h
    (repeat refine .z rfl ?_);refine .text ?_;simp (disch:=first|exact dsc|fail) only [go_sem,seval,d1]
    (repeat refine .z rfl ?_);refine .ifT (by simp (disch:=first|exact dsc|fail) only [go_sem,seval,d1]) ?_
    (repeat refine .z rfl ?_);refine .text ?_;simp (disch:=first|exact dsc|fail) only [go_sem,seval]
    (repeat refine .z rfl ?_);refine .text ?_;simp (disch:=first|exact dsc|fail) only [go_sem,seval]
    (repeat refine .z rfl ?_);refine .ifT (by simp (disch:=first|exact dsc|fail) only [go_sem,seval]) ?_
    (repeat refine .z rfl ?_);refine .text ?_;simp (disch:=first|exact dsc|fail) only [go_sem,seval]
    (repeat refine .z rfl ?_);refine .rt Tryd.func22 (by rw [Tryd.results22]) (hR := ?_);simp (disch:=first|exact dsc|fail) only [go_sem,seval]
    exact h
  · have d1:decide (n < 1)=false:=decide_eq_false hlt
    by_cases hne:B.length=idx.length
    · have d2:((B.length:Int) != (idx.length:Int))=false:=by rw [hne];simp
      have hc:verC n idx B=chkE n idx:=if_neg (by rintro (h | h);exact hlt h;exact h hne)
      (repeat refine .z rfl ?_);refine .text ?_;simp (disch:=first|exact dsc|fail) only [go_sem,seval,d1,d2]
      (repeat refine .z rfl ?_);refine .ifF (by simp (disch:=first|exact dsc|fail) only [go_sem,seval,d1,d2]) ?_
      by_cases h0:chkE n idx=0
      · have d3:(((chkE n idx:Nat):Int) != 0)=false:=by rw [h0];rfl
        (repeat refine .z rfl ?_);refine .text ?_;simp (disch:=first|exact dsc|fail) only [go_sem,seval,d3]
        (repeat refine .z rfl ?_);refine .ifF (by simp (disch:=first|exact dsc|fail) only [go_sem,seval,d3]) ?_
        (repeat refine .z rfl ?_)
        obtain ⟨H0,hH0⟩ : ∃ H0,H0=(((H.new (.cells (cl b8 root))).new (.cells [.p (.sl false 1 (pl i64 idx)),.p (.sl false 1 (pl bs B))])).new (.cells [.p (.sl false 32 (pl db N))])):=⟨_,rfl⟩
        rw [←hH0]
        have hn0:H0.n=H.n+3:=by rw [hH0];simp (disch:=first|exact dsc|fail) only [go_sem,seval]
        have q0:H0.f H.n=some (.cells (cl b8 root)):=by rw [hH0];simp (disch:=first|exact dsc|fail) only [go_sem,seval]
        have q1:H0.f (H.n+1)=some (.cells [.p (.sl false 1 (pl i64 idx)),.p (.sl false 1 (pl bs B))]):=by rw [hH0];simp (disch:=first|exact dsc|fail) only [go_sem,seval]
        have q2:H0.f (H.n+2)=some (.cells [.p (.sl false 32 (pl db N))]):=by rw [hH0];simp (disch:=first|exact dsc|fail) only [go_sem,seval]
        have ht0:H0.trunc H.n=H:=by rw [hH0];simp (disch:=first|exact dsc|fail) only [go_sem,seval]
        have hb0:Bel (H.n+3) H0:=by
          rw [hH0]
          refine bel_p1 (bel_newx (bel_clb (bel_start hbel (by omega))) fun z hz=>by simp [AB.vals] at hz;rcases hz with rfl | rfl<;>exact .p _)
        have hbl0:Bel H.n H0:=by
          rw [hH0]
          exact bel_new (bel_new (bel_new hbel (by omega)) (by simp (disch:=first|exact dsc|fail) only [go_sem,seval];omega)) (by simp (disch:=first|exact dsc|fail) only [go_sem,seval];omega)
        -- REGION6
        refine .openInv (fun L env' H' => ∃ T a2 a5 a6 a7,H'=app H0 T∧(env' 1 = .p (i64 n)∧env' 4 = .ptr H.n 0∧env' 6 = .ptr (H.n+1) 0∧env' 7 = .ptr (H.n+2) 0∧env' 8 = .p (i64 0))∧(L 0=true → env' 35 = .ptr (H.n+1) 1)∧(L 1=true → env' 36 = .p (.sl false 1 (pl bs B)))∧(L 3=true → env' 38 = .ptr (H.n+2) 0)∧(L 4=true → env' 39 = .p (.sl false 32 (pl db N)))∧(L 2=true → env' 37 = .clo 70 [] [.ptr (H.n+3+a2) 0]∧T[a2]? = some (.cells [.p (.sl false 1 (pl bs B))]))∧(L 5=true → env' 40 = .clo 71 [] [.ptr (H.n+3+a5) 0]∧T[a5]? = some (.cells [.p (.sl false 32 (pl db N))]))∧(L 6=true → env' 10 = .ptr (H.n+3+a6) 0∧T[a6]? = some (.cells [if L 8 then .clo 70 [] [.ptr (H.n+3+a2) 0] else .p (.s .nilFunc)]))∧(L 7=true → env' 11 = .ptr (H.n+3+a7) 0∧T[a7]? = some (.cells [if L 9 then .clo 71 [] [.ptr (H.n+3+a5) 0] else .p (.s .nilFunc)]))∧(L 6=true → L 7=true → a6≠a7)∧(∀ j,(j=2 ∨ j=5 ∨ j=6 ∨ j=7) → L 8=true → L j=true)∧(L 9=true → L 8=true)∧(∀ (i:Nat) (x:AB),T[i]? = some x → ∀ y∈x.vals,BelowN (H.n+3+T.length) y)) follows (by kernel_rfl) ?_ ?_ ?_
        · exact ⟨[],0,0,0,0,rfl,⟨(by simp (disch:=first|exact dsc|fail) only [go_sem,seval]),(by simp (disch:=first|exact dsc|fail) only [go_sem,seval]),(by simp (disch:=first|exact dsc|fail) only [go_sem,seval]),(by simp (disch:=first|exact dsc|fail) only [go_sem,seval]),(by simp (disch:=first|exact dsc|fail) only [go_sem,seval])⟩,(fun h=>by cases h),(fun h=>by cases h),(fun h=>by cases h),(fun h=>by cases h),(fun h=>by cases h),(fun h=>by cases h),(fun h=>by cases h),(fun h=>by cases h),(fun h=>by cases h),(fun _ _ h=>by cases h),(fun h=>by cases h),(fun i x h=>by simp at h)⟩
        · intro i o L env' H' ho hL hall hI
          obtain ⟨T,a2,a5,a6,a7,rfl,⟨f1,f4,f6,f7,f8⟩,g0,g1,g3,g4,g2,g5,g6,g7,gd,gx,g9,gb⟩:=hI
          have hnT:(app H0 T).n=H.n+3+T.length:=by rw [app_n',hn0]
          rcases i with _ | _ | _ | _ | _ | _ | _ | _ | _ | _ | i
          · cases ho
            refine opA_val (.ptr (H.n+1) 1) rfl rfl (by simp (disch:=first|exact dsc|fail) only [go_sem,seval,f1,f4,f6,f7,f8,app_f' q1]<;>rfl) rfl ?_
            exact ⟨T,a2,a5,a6,a7,rfl,⟨(by (try simp (disch:=first|exact dsc|fail) only [go_sem,seval]);exact f1),(by (try simp (disch:=first|exact dsc|fail) only [go_sem,seval]);exact f4),(by (try simp (disch:=first|exact dsc|fail) only [go_sem,seval]);exact f6),(by (try simp (disch:=first|exact dsc|fail) only [go_sem,seval]);exact f7),(by (try simp (disch:=first|exact dsc|fail) only [go_sem,seval]);exact f8)⟩,(fun _=>by simp (disch:=first|exact dsc|fail) only [go_sem,seval]),(fun q=>by (rw [more_ne (by decide)] at q);(try simp (disch:=first|exact dsc|fail) only [go_sem,seval]);exact g1 q),(fun q=>by (rw [more_ne (by decide)] at q);(try simp (disch:=first|exact dsc|fail) only [go_sem,seval]);exact g3 q),(fun q=>by (rw [more_ne (by decide)] at q);(try simp (disch:=first|exact dsc|fail) only [go_sem,seval]);exact g4 q),(fun q=>by (rw [more_ne (by decide)] at q);(try simp (disch:=first|exact dsc|fail) only [go_sem,seval]);exact g2 q),(fun q=>by (rw [more_ne (by decide)] at q);(try simp (disch:=first|exact dsc|fail) only [go_sem,seval]);exact g5 q),(fun q=>by (rw [more_ne (by decide)] at q);(try simp (disch:=first|exact dsc|fail) only [go_sem,seval]);obtain ⟨u1,u2⟩:=g6 q;exact ⟨u1,by rw [more_ne (show 8≠0 by decide)];exact u2⟩),(fun q=>by (rw [more_ne (by decide)] at q);(try simp (disch:=first|exact dsc|fail) only [go_sem,seval]);obtain ⟨u1,u2⟩:=g7 q;exact ⟨u1,by rw [more_ne (show 9≠0 by decide)];exact u2⟩),(fun p q=>by (rw [more_ne (by decide)] at p q);exact gd p q),(fun j hj q=>by (rw [more_ne (by decide)] at q);exact more_t (gx j hj q)),(fun q=>by (rw [more_ne (by decide)] at q);exact more_t (g9 q)),gb⟩
          · cases ho
            have h0:L 0=true:=hall ⟨0,.data⟩ (by simp) rfl
            refine opA_val (.p (.sl false 1 (pl bs B))) rfl rfl (by simp (disch:=first|exact dsc|fail) only [go_sem,seval,f1,f4,f6,f7,f8,g0 h0,app_f' q1]<;>rfl) rfl ?_
            exact ⟨T,a2,a5,a6,a7,rfl,⟨(by (try simp (disch:=first|exact dsc|fail) only [go_sem,seval]);exact f1),(by (try simp (disch:=first|exact dsc|fail) only [go_sem,seval]);exact f4),(by (try simp (disch:=first|exact dsc|fail) only [go_sem,seval]);exact f6),(by (try simp (disch:=first|exact dsc|fail) only [go_sem,seval]);exact f7),(by (try simp (disch:=first|exact dsc|fail) only [go_sem,seval]);exact f8)⟩,(fun q=>by (rw [more_ne (by decide)] at q);(try simp (disch:=first|exact dsc|fail) only [go_sem,seval]);exact g0 q),(fun _=>by simp (disch:=first|exact dsc|fail) only [go_sem,seval]),(fun q=>by (rw [more_ne (by decide)] at q);(try simp (disch:=first|exact dsc|fail) only [go_sem,seval]);exact g3 q),(fun q=>by (rw [more_ne (by decide)] at q);(try simp (disch:=first|exact dsc|fail) only [go_sem,seval]);exact g4 q),(fun q=>by (rw [more_ne (by decide)] at q);(try simp (disch:=first|exact dsc|fail) only [go_sem,seval]);exact g2 q),(fun q=>by (rw [more_ne (by decide)] at q);(try simp (disch:=first|exact dsc|fail) only [go_sem,seval]);exact g5 q),(fun q=>by (rw [more_ne (by decide)] at q);(try simp (disch:=first|exact dsc|fail) only [go_sem,seval]);obtain ⟨u1,u2⟩:=g6 q;exact ⟨u1,by rw [more_ne (show 8≠1 by decide)];exact u2⟩),(fun q=>by (rw [more_ne (by decide)] at q);(try simp (disch:=first|exact dsc|fail) only [go_sem,seval]);obtain ⟨u1,u2⟩:=g7 q;exact ⟨u1,by rw [more_ne (show 9≠1 by decide)];exact u2⟩),(fun p q=>by (rw [more_ne (by decide)] at p q);exact gd p q),(fun j hj q=>by (rw [more_ne (by decide)] at q);exact more_t (gx j hj q)),(fun q=>by (rw [more_ne (by decide)] at q);exact more_t (g9 q)),gb⟩
          · cases ho
            have h1:L 1=true:=hall ⟨1,.data⟩ (by simp) rfl
            have n8:L 8=false:=Bool.eq_false_iff.2 fun e=>by (have:=gx 2 (by decide) e;rw [hL] at this;cases this)
            have n9:L 9=false:=Bool.eq_false_iff.2 fun e=>by (have:=g9 e;rw [n8] at this;cases this)
            refine opA_call rfl rfl (by simp (disch:=first|exact dsc|fail) only [go_sem,seval,g1 h1]<;>rfl) rfl (by simp (disch:=first|exact dsc|fail) only [go_sem,seval]<;>rfl) (fun R h=>sourceB_spec B _ R h) ?_
            rw [app_push,hnT]
            exact ⟨T++[.cells [.p (.sl false 1 (pl bs B))]],T.length,a5,a6,a7,rfl,⟨(by (try simp (disch:=first|exact dsc|fail) only [go_sem,seval]);exact f1),(by (try simp (disch:=first|exact dsc|fail) only [go_sem,seval]);exact f4),(by (try simp (disch:=first|exact dsc|fail) only [go_sem,seval]);exact f6),(by (try simp (disch:=first|exact dsc|fail) only [go_sem,seval]);exact f7),(by (try simp (disch:=first|exact dsc|fail) only [go_sem,seval]);exact f8)⟩,(fun q=>by (rw [more_ne (by decide)] at q);(try simp (disch:=first|exact dsc|fail) only [go_sem,seval]);exact g0 q),(fun q=>by (rw [more_ne (by decide)] at q);(try simp (disch:=first|exact dsc|fail) only [go_sem,seval]);exact g1 q),(fun q=>by (rw [more_ne (by decide)] at q);(try simp (disch:=first|exact dsc|fail) only [go_sem,seval]);exact g3 q),(fun q=>by (rw [more_ne (by decide)] at q);(try simp (disch:=first|exact dsc|fail) only [go_sem,seval]);exact g4 q),(fun _=>⟨by simp (disch:=first|exact dsc|fail) only [go_sem,seval],get_last⟩),(fun q=>by (rw [more_ne (by decide)] at q);(try simp (disch:=first|exact dsc|fail) only [go_sem,seval]);exact ⟨(g5 q).1,get_push (g5 q).2⟩),(fun q=>by (rw [more_ne (by decide)] at q);(try simp (disch:=first|exact dsc|fail) only [go_sem,seval]);obtain ⟨u1,u2⟩:=g6 q;refine ⟨u1,?_⟩;rw [n8,if_neg (by decide)] at u2;rw [more_ne (show 8≠2 by decide),n8,if_neg (by decide)];exact get_push u2),(fun q=>by (rw [more_ne (by decide)] at q);(try simp (disch:=first|exact dsc|fail) only [go_sem,seval]);obtain ⟨u1,u2⟩:=g7 q;refine ⟨u1,?_⟩;rw [n9,if_neg (by decide)] at u2;rw [more_ne (show 9≠2 by decide),n9,if_neg (by decide)];exact get_push u2),(fun p q=>by (rw [more_ne (by decide)] at p q);exact gd p q),(fun j hj q=>by (rw [more_ne (by decide)] at q);exact more_t (gx j hj q)),(fun q=>by (rw [more_ne (by decide)] at q);exact more_t (g9 q)),(bel_push gb (fun y hy=>by (simp [AB.vals] at hy);subst hy;exact .p _))⟩
          · cases ho
            refine opA_val (.ptr (H.n+2) 0) rfl rfl (by simp (disch:=first|exact dsc|fail) only [go_sem,seval,f1,f4,f6,f7,f8]<;>rfl) rfl ?_
            exact ⟨T,a2,a5,a6,a7,rfl,⟨(by (try simp (disch:=first|exact dsc|fail) only [go_sem,seval]);exact f1),(by (try simp (disch:=first|exact dsc|fail) only [go_sem,seval]);exact f4),(by (try simp (disch:=first|exact dsc|fail) only [go_sem,seval]);exact f6),(by (try simp (disch:=first|exact dsc|fail) only [go_sem,seval]);exact f7),(by (try simp (disch:=first|exact dsc|fail) only [go_sem,seval]);exact f8)⟩,(fun q=>by (rw [more_ne (by decide)] at q);(try simp (disch:=first|exact dsc|fail) only [go_sem,seval]);exact g0 q),(fun q=>by (rw [more_ne (by decide)] at q);(try simp (disch:=first|exact dsc|fail) only [go_sem,seval]);exact g1 q),(fun _=>by simp (disch:=first|exact dsc|fail) only [go_sem,seval]),(fun q=>by (rw [more_ne (by decide)] at q);(try simp (disch:=first|exact dsc|fail) only [go_sem,seval]);exact g4 q),(fun q=>by (rw [more_ne (by decide)] at q);(try simp (disch:=first|exact dsc|fail) only [go_sem,seval]);exact g2 q),(fun q=>by (rw [more_ne (by decide)] at q);(try simp (disch:=first|exact dsc|fail) only [go_sem,seval]);exact g5 q),(fun q=>by (rw [more_ne (by decide)] at q);(try simp (disch:=first|exact dsc|fail) only [go_sem,seval]);obtain ⟨u1,u2⟩:=g6 q;exact ⟨u1,by rw [more_ne (show 8≠3 by decide)];exact u2⟩),(fun q=>by (rw [more_ne (by decide)] at q);(try simp (disch:=first|exact dsc|fail) only [go_sem,seval]);obtain ⟨u1,u2⟩:=g7 q;exact ⟨u1,by rw [more_ne (show 9≠3 by decide)];exact u2⟩),(fun p q=>by (rw [more_ne (by decide)] at p q);exact gd p q),(fun j hj q=>by (rw [more_ne (by decide)] at q);exact more_t (gx j hj q)),(fun q=>by (rw [more_ne (by decide)] at q);exact more_t (g9 q)),gb⟩
          · cases ho
            have h3:L 3=true:=hall ⟨3,.data⟩ (by simp) rfl
            refine opA_val (.p (.sl false 32 (pl db N))) rfl rfl (by simp (disch:=first|exact dsc|fail) only [go_sem,seval,f1,f4,f6,f7,f8,g3 h3,app_f' q2]<;>rfl) rfl ?_
            exact ⟨T,a2,a5,a6,a7,rfl,⟨(by (try simp (disch:=first|exact dsc|fail) only [go_sem,seval]);exact f1),(by (try simp (disch:=first|exact dsc|fail) only [go_sem,seval]);exact f4),(by (try simp (disch:=first|exact dsc|fail) only [go_sem,seval]);exact f6),(by (try simp (disch:=first|exact dsc|fail) only [go_sem,seval]);exact f7),(by (try simp (disch:=first|exact dsc|fail) only [go_sem,seval]);exact f8)⟩,(fun q=>by (rw [more_ne (by decide)] at q);(try simp (disch:=first|exact dsc|fail) only [go_sem,seval]);exact g0 q),(fun q=>by (rw [more_ne (by decide)] at q);(try simp (disch:=first|exact dsc|fail) only [go_sem,seval]);exact g1 q),(fun q=>by (rw [more_ne (by decide)] at q);(try simp (disch:=first|exact dsc|fail) only [go_sem,seval]);exact g3 q),(fun _=>by simp (disch:=first|exact dsc|fail) only [go_sem,seval]),(fun q=>by (rw [more_ne (by decide)] at q);(try simp (disch:=first|exact dsc|fail) only [go_sem,seval]);exact g2 q),(fun q=>by (rw [more_ne (by decide)] at q);(try simp (disch:=first|exact dsc|fail) only [go_sem,seval]);exact g5 q),(fun q=>by (rw [more_ne (by decide)] at q);(try simp (disch:=first|exact dsc|fail) only [go_sem,seval]);obtain ⟨u1,u2⟩:=g6 q;exact ⟨u1,by rw [more_ne (show 8≠4 by decide)];exact u2⟩),(fun q=>by (rw [more_ne (by decide)] at q);(try simp (disch:=first|exact dsc|fail) only [go_sem,seval]);obtain ⟨u1,u2⟩:=g7 q;exact ⟨u1,by rw [more_ne (show 9≠4 by decide)];exact u2⟩),(fun p q=>by (rw [more_ne (by decide)] at p q);exact gd p q),(fun j hj q=>by (rw [more_ne (by decide)] at q);exact more_t (gx j hj q)),(fun q=>by (rw [more_ne (by decide)] at q);exact more_t (g9 q)),gb⟩
          · cases ho
            have h2:L 2=true:=hall ⟨2,.chain⟩ (by simp) rfl
            have h4:L 4=true:=hall ⟨4,.data⟩ (by simp) rfl
            have n8:L 8=false:=Bool.eq_false_iff.2 fun e=>by (have:=gx 5 (by decide) e;rw [hL] at this;cases this)
            have n9:L 9=false:=Bool.eq_false_iff.2 fun e=>by (have:=g9 e;rw [n8] at this;cases this)
            refine opA_call rfl rfl (by simp (disch:=first|exact dsc|fail) only [go_sem,seval,g4 h4]<;>rfl) rfl (by simp (disch:=first|exact dsc|fail) only [go_sem,seval]<;>rfl) (fun R h=>sourceD_spec N _ R h) ?_
            rw [app_push,hnT]
            exact ⟨T++[.cells [.p (.sl false 32 (pl db N))]],a2,T.length,a6,a7,rfl,⟨(by (try simp (disch:=first|exact dsc|fail) only [go_sem,seval]);exact f1),(by (try simp (disch:=first|exact dsc|fail) only [go_sem,seval]);exact f4),(by (try simp (disch:=first|exact dsc|fail) only [go_sem,seval]);exact f6),(by (try simp (disch:=first|exact dsc|fail) only [go_sem,seval]);exact f7),(by (try simp (disch:=first|exact dsc|fail) only [go_sem,seval]);exact f8)⟩,(fun q=>by (rw [more_ne (by decide)] at q);(try simp (disch:=first|exact dsc|fail) only [go_sem,seval]);exact g0 q),(fun q=>by (rw [more_ne (by decide)] at q);(try simp (disch:=first|exact dsc|fail) only [go_sem,seval]);exact g1 q),(fun q=>by (rw [more_ne (by decide)] at q);(try simp (disch:=first|exact dsc|fail) only [go_sem,seval]);exact g3 q),(fun q=>by (rw [more_ne (by decide)] at q);(try simp (disch:=first|exact dsc|fail) only [go_sem,seval]);exact g4 q),(fun q=>by (rw [more_ne (by decide)] at q);(try simp (disch:=first|exact dsc|fail) only [go_sem,seval]);exact ⟨(g2 q).1,get_push (g2 q).2⟩),(fun _=>⟨by simp (disch:=first|exact dsc|fail) only [go_sem,seval],get_last⟩),(fun q=>by (rw [more_ne (by decide)] at q);(try simp (disch:=first|exact dsc|fail) only [go_sem,seval]);obtain ⟨u1,u2⟩:=g6 q;refine ⟨u1,?_⟩;rw [n8,if_neg (by decide)] at u2;rw [more_ne (show 8≠5 by decide),n8,if_neg (by decide)];exact get_push u2),(fun q=>by (rw [more_ne (by decide)] at q);(try simp (disch:=first|exact dsc|fail) only [go_sem,seval]);obtain ⟨u1,u2⟩:=g7 q;refine ⟨u1,?_⟩;rw [n9,if_neg (by decide)] at u2;rw [more_ne (show 9≠5 by decide),n9,if_neg (by decide)];exact get_push u2),(fun p q=>by (rw [more_ne (by decide)] at p q);exact gd p q),(fun j hj q=>by (rw [more_ne (by decide)] at q);exact more_t (gx j hj q)),(fun q=>by (rw [more_ne (by decide)] at q);exact more_t (g9 q)),(bel_push gb (fun y hy=>by (simp [AB.vals] at hy);subst hy;exact .p _))⟩
          · cases ho
            have n8:L 8=false:=Bool.eq_false_iff.2 fun e=>by (have:=gx 6 (by decide) e;rw [hL] at this;cases this)
            have n9:L 9=false:=Bool.eq_false_iff.2 fun e=>by (have:=g9 e;rw [n8] at this;cases this)
            refine opA_valH (.ptr (app H0 T).n 0) rfl rfl (by simp (disch:=first|exact dsc|fail) only [go_sem,seval]<;>rfl) rfl ?_
            rw [app_push,hnT]
            exact ⟨T++[.cells [.p (.s .nilFunc)]],a2,a5,T.length,a7,rfl,⟨(by (try simp (disch:=first|exact dsc|fail) only [go_sem,seval]);exact f1),(by (try simp (disch:=first|exact dsc|fail) only [go_sem,seval]);exact f4),(by (try simp (disch:=first|exact dsc|fail) only [go_sem,seval]);exact f6),(by (try simp (disch:=first|exact dsc|fail) only [go_sem,seval]);exact f7),(by (try simp (disch:=first|exact dsc|fail) only [go_sem,seval]);exact f8)⟩,(fun q=>by (rw [more_ne (by decide)] at q);(try simp (disch:=first|exact dsc|fail) only [go_sem,seval]);exact g0 q),(fun q=>by (rw [more_ne (by decide)] at q);(try simp (disch:=first|exact dsc|fail) only [go_sem,seval]);exact g1 q),(fun q=>by (rw [more_ne (by decide)] at q);(try simp (disch:=first|exact dsc|fail) only [go_sem,seval]);exact g3 q),(fun q=>by (rw [more_ne (by decide)] at q);(try simp (disch:=first|exact dsc|fail) only [go_sem,seval]);exact g4 q),(fun q=>by (rw [more_ne (by decide)] at q);(try simp (disch:=first|exact dsc|fail) only [go_sem,seval]);exact ⟨(g2 q).1,get_push (g2 q).2⟩),(fun q=>by (rw [more_ne (by decide)] at q);(try simp (disch:=first|exact dsc|fail) only [go_sem,seval]);exact ⟨(g5 q).1,get_push (g5 q).2⟩),(fun _=>⟨by simp (disch:=first|exact dsc|fail) only [go_sem,seval],by rw [more_ne (show 8≠6 by decide),n8,if_neg (by decide)];exact get_last⟩),(fun q=>by (rw [more_ne (by decide)] at q);(try simp (disch:=first|exact dsc|fail) only [go_sem,seval]);obtain ⟨u1,u2⟩:=g7 q;refine ⟨u1,?_⟩;rw [n9,if_neg (by decide)] at u2;rw [more_ne (show 9≠6 by decide),n9,if_neg (by decide)];exact get_push u2),(fun _ q=>by (rw [more_ne (by decide)] at q);have:=lt_get (g7 q).2;omega),(fun j hj q=>by (rw [more_ne (by decide)] at q);exact more_t (gx j hj q)),(fun q=>by (rw [more_ne (by decide)] at q);exact more_t (g9 q)),(bel_push gb (fun y hy=>by (simp [AB.vals] at hy);subst hy;exact .p _))⟩
          · cases ho
            have n8:L 8=false:=Bool.eq_false_iff.2 fun e=>by (have:=gx 7 (by decide) e;rw [hL] at this;cases this)
            have n9:L 9=false:=Bool.eq_false_iff.2 fun e=>by (have:=g9 e;rw [n8] at this;cases this)
            refine opA_valH (.ptr (app H0 T).n 0) rfl rfl (by simp (disch:=first|exact dsc|fail) only [go_sem,seval]<;>rfl) rfl ?_
            rw [app_push,hnT]
            exact ⟨T++[.cells [.p (.s .nilFunc)]],a2,a5,a6,T.length,rfl,⟨(by (try simp (disch:=first|exact dsc|fail) only [go_sem,seval]);exact f1),(by (try simp (disch:=first|exact dsc|fail) only [go_sem,seval]);exact f4),(by (try simp (disch:=first|exact dsc|fail) only [go_sem,seval]);exact f6),(by (try simp (disch:=first|exact dsc|fail) only [go_sem,seval]);exact f7),(by (try simp (disch:=first|exact dsc|fail) only [go_sem,seval]);exact f8)⟩,(fun q=>by (rw [more_ne (by decide)] at q);(try simp (disch:=first|exact dsc|fail) only [go_sem,seval]);exact g0 q),(fun q=>by (rw [more_ne (by decide)] at q);(try simp (disch:=first|exact dsc|fail) only [go_sem,seval]);exact g1 q),(fun q=>by (rw [more_ne (by decide)] at q);(try simp (disch:=first|exact dsc|fail) only [go_sem,seval]);exact g3 q),(fun q=>by (rw [more_ne (by decide)] at q);(try simp (disch:=first|exact dsc|fail) only [go_sem,seval]);exact g4 q),(fun q=>by (rw [more_ne (by decide)] at q);(try simp (disch:=first|exact dsc|fail) only [go_sem,seval]);exact ⟨(g2 q).1,get_push (g2 q).2⟩),(fun q=>by (rw [more_ne (by decide)] at q);(try simp (disch:=first|exact dsc|fail) only [go_sem,seval]);exact ⟨(g5 q).1,get_push (g5 q).2⟩),(fun q=>by (rw [more_ne (by decide)] at q);(try simp (disch:=first|exact dsc|fail) only [go_sem,seval]);obtain ⟨u1,u2⟩:=g6 q;refine ⟨u1,?_⟩;rw [n8,if_neg (by decide)] at u2;rw [more_ne (show 8≠7 by decide),n8,if_neg (by decide)];exact get_push u2),(fun _=>⟨by simp (disch:=first|exact dsc|fail) only [go_sem,seval],by rw [more_ne (show 9≠7 by decide),n9,if_neg (by decide)];exact get_last⟩),(fun q _=>by (rw [more_ne (by decide)] at q);have:=lt_get (g6 q).2;omega),(fun j hj q=>by (rw [more_ne (by decide)] at q);exact more_t (gx j hj q)),(fun q=>by (rw [more_ne (by decide)] at q);exact more_t (g9 q)),(bel_push gb (fun y hy=>by (simp [AB.vals] at hy);subst hy;exact .p _))⟩
          · cases ho
            have h0:L 0=true:=hall ⟨0,.phase⟩ (by simp) rfl
            have h1:L 1=true:=hall ⟨1,.phase⟩ (by simp) rfl
            have h2:L 2=true:=hall ⟨2,.data⟩ (by simp) rfl
            have h5:L 5=true:=hall ⟨5,.chain⟩ (by simp) rfl
            have h6:L 6=true:=hall ⟨6,.data⟩ (by simp) rfl
            have h7:L 7=true:=hall ⟨7,.phase⟩ (by simp) rfl
            have n9:L 9=false:=Bool.eq_false_iff.2 fun e=>by (have:=g9 e;rw [hL] at this;cases this)
            obtain ⟨s2,t2⟩:=g2 h2
            obtain ⟨s5,t5⟩:=g5 h5
            obtain ⟨s6,t6⟩:=g6 h6
            obtain ⟨s7,t7⟩:=g7 h7
            have hdd:=gd h6 h7
            rw [hL,if_neg (by decide)] at t6
            rw [n9,if_neg (by decide)] at t7
            have hat:(app H0 T).f (H.n+3+a6)=some (.cells [.p (.s .nilFunc)]):=by rw [←hn0,app_at];exact t6
            have hst:(app H0 T).set (H.n+3+a6) (.cells [.clo 70 [] [.ptr (H.n+3+a2) 0]])=app H0 (T.set a6 (.cells [.clo 70 [] [.ptr (H.n+3+a2) 0]])):=by rw [←hn0,app_set_hi (lt_get t6)]
            refine opA_unit rfl rfl (by simp (disch:=first|exact dsc|fail) only [go_sem,seval,s2,s6,hat]<;>rfl) rfl ?_
            rw [hst]
            have h62:a6≠a2:=fun e=>by (rw [e,t2] at t6);cases t6
            have h65:a6≠a5:=fun e=>by (rw [e,t5] at t6);cases t6
            exact ⟨T.set a6 (.cells [.clo 70 [] [.ptr (H.n+3+a2) 0]]),a2,a5,a6,a7,rfl,⟨(by (try simp (disch:=first|exact dsc|fail) only [go_sem,seval]);exact f1),(by (try simp (disch:=first|exact dsc|fail) only [go_sem,seval]);exact f4),(by (try simp (disch:=first|exact dsc|fail) only [go_sem,seval]);exact f6),(by (try simp (disch:=first|exact dsc|fail) only [go_sem,seval]);exact f7),(by (try simp (disch:=first|exact dsc|fail) only [go_sem,seval]);exact f8)⟩,(fun q=>by (rw [more_ne (by decide)] at q);(try simp (disch:=first|exact dsc|fail) only [go_sem,seval]);exact g0 q),(fun q=>by (rw [more_ne (by decide)] at q);(try simp (disch:=first|exact dsc|fail) only [go_sem,seval]);exact g1 q),(fun q=>by (rw [more_ne (by decide)] at q);(try simp (disch:=first|exact dsc|fail) only [go_sem,seval]);exact g3 q),(fun q=>by (rw [more_ne (by decide)] at q);(try simp (disch:=first|exact dsc|fail) only [go_sem,seval]);exact g4 q),(fun _=>⟨s2,by rw [List.getElem?_set_ne h62];exact t2⟩),(fun _=>⟨s5,by rw [List.getElem?_set_ne h65];exact t5⟩),(fun _=>⟨s6,by rw [more_eq,if_pos rfl,List.getElem?_set_self (lt_get t6)]⟩),(fun _=>⟨s7,by rw [more_ne (show 9≠8 by decide),n9,if_neg (by decide),List.getElem?_set_ne hdd];exact t7⟩),(fun _ _=>hdd),(fun j hj _=>by rcases hj with rfl | rfl | rfl | rfl<;>exact more_t (by assumption)),(fun q=>by (rw [more_ne (by decide)] at q);exact more_t (g9 q)),(bel_setT gb (fun y hy=>by (simp [AB.vals] at hy);subst hy;(have:=lt_get t2);exact .clo _ _ _ (fun _ _ h=>by simp at h) (fun i z hz=>by (rcases i with _ | i<;>simp at hz);subst hz;exact .ptr _ _ (by omega))))⟩
          · cases ho
            have h0:L 0=true:=hall ⟨0,.phase⟩ (by simp) rfl
            have h1:L 1=true:=hall ⟨1,.phase⟩ (by simp) rfl
            have h2:L 2=true:=hall ⟨2,.phase⟩ (by simp) rfl
            have h3:L 3=true:=hall ⟨3,.phase⟩ (by simp) rfl
            have h4:L 4=true:=hall ⟨4,.phase⟩ (by simp) rfl
            have h5:L 5=true:=hall ⟨5,.data⟩ (by simp) rfl
            have h6:L 6=true:=hall ⟨6,.phase⟩ (by simp) rfl
            have h7:L 7=true:=hall ⟨7,.data⟩ (by simp) rfl
            have h8:L 8=true:=hall ⟨8,.chain⟩ (by simp) rfl
            obtain ⟨s2,t2⟩:=g2 h2
            obtain ⟨s5,t5⟩:=g5 h5
            obtain ⟨s6,t6⟩:=g6 h6
            obtain ⟨s7,t7⟩:=g7 h7
            have hdd:=gd h6 h7
            rw [h8,if_pos rfl] at t6
            rw [hL,if_neg (by decide)] at t7
            have hat:(app H0 T).f (H.n+3+a7)=some (.cells [.p (.s .nilFunc)]):=by rw [←hn0,app_at];exact t7
            have hst:(app H0 T).set (H.n+3+a7) (.cells [.clo 71 [] [.ptr (H.n+3+a5) 0]])=app H0 (T.set a7 (.cells [.clo 71 [] [.ptr (H.n+3+a5) 0]])):=by rw [←hn0,app_set_hi (lt_get t7)]
            refine opA_unit rfl rfl (by simp (disch:=first|exact dsc|fail) only [go_sem,seval,s5,s7,hat]<;>rfl) rfl ?_
            rw [hst]
            have h62:a7≠a2:=fun e=>by (rw [e,t2] at t7);cases t7
            have h65:a7≠a5:=fun e=>by (rw [e,t5] at t7);cases t7
            exact ⟨T.set a7 (.cells [.clo 71 [] [.ptr (H.n+3+a5) 0]]),a2,a5,a6,a7,rfl,⟨(by (try simp (disch:=first|exact dsc|fail) only [go_sem,seval]);exact f1),(by (try simp (disch:=first|exact dsc|fail) only [go_sem,seval]);exact f4),(by (try simp (disch:=first|exact dsc|fail) only [go_sem,seval]);exact f6),(by (try simp (disch:=first|exact dsc|fail) only [go_sem,seval]);exact f7),(by (try simp (disch:=first|exact dsc|fail) only [go_sem,seval]);exact f8)⟩,(fun q=>by (rw [more_ne (by decide)] at q);(try simp (disch:=first|exact dsc|fail) only [go_sem,seval]);exact g0 q),(fun q=>by (rw [more_ne (by decide)] at q);(try simp (disch:=first|exact dsc|fail) only [go_sem,seval]);exact g1 q),(fun q=>by (rw [more_ne (by decide)] at q);(try simp (disch:=first|exact dsc|fail) only [go_sem,seval]);exact g3 q),(fun q=>by (rw [more_ne (by decide)] at q);(try simp (disch:=first|exact dsc|fail) only [go_sem,seval]);exact g4 q),(fun _=>⟨s2,by rw [List.getElem?_set_ne h62];exact t2⟩),(fun _=>⟨s5,by rw [List.getElem?_set_ne h65];exact t5⟩),(fun _=>⟨s6,by rw [more_ne (show 8≠9 by decide),h8,if_pos rfl,List.getElem?_set_ne hdd.symm];exact t6⟩),(fun _=>⟨s7,by rw [more_eq,if_pos rfl,List.getElem?_set_self (lt_get t7)]⟩),(fun _ _=>hdd),(fun j hj q=>by (rw [more_ne (by decide)] at q);exact more_t (gx j hj q)),(fun _=>more_t h8),(bel_setT gb (fun y hy=>by (simp [AB.vals] at hy);subst hy;(have:=lt_get t5);exact .clo _ _ _ (fun _ _ h=>by simp at h) (fun i z hz=>by (rcases i with _ | i<;>simp at hz);subst hz;exact .ptr _ _ (by omega))))⟩
          · simp at ho
        · intro L env' H' hall hI
          obtain ⟨T,a2,a5,a6,a7,rfl,⟨f1,f4,f6,f7,f8⟩,_,_,_,_,g2,g5,g6,g7,gd,_,_,gb⟩:=hI
          obtain ⟨s2,t2⟩:=g2 (hall 2 (by decide))
          obtain ⟨s5,t5⟩:=g5 (hall 5 (by decide))
          obtain ⟨s6,t6⟩:=g6 (hall 6 (by decide))
          obtain ⟨s7,t7⟩:=g7 (hall 7 (by decide))
          have hdd:=gd (hall 6 (by decide)) (hall 7 (by decide))
          rw [hall 8 (by decide),if_pos rfl] at t6
          rw [hall 9 (by decide),if_pos rfl] at t7
          clear hall g2 g5 g6 g7 gd
        -- END6
          have hfam:=ver_fam hn0 hb0 t2 t5 t6 t7 gb
          have hVn:=verF_n (T:=T) (a2:=a2) (a5:=a5) hn0
          have hV0 : ∀ l d,(verF H0 T a2 a5 l d).f H.n=some (.cells (cl b8 root)):=fun l d=>app_f' q0
          have hV1 : ∀ l d,(verF H0 T a2 a5 l d).f (H.n+1)=some (.cells [.p (.sl false 1 (pl i64 idx)),.p (.sl false 1 (pl bs B))]):=fun l d=>app_f' q1
          have hVt : ∀ l d,(verF H0 T a2 a5 l d).trunc H.n=H:=fun l d=>by unfold verF;rw [app_trunc (by omega),ht0]
          have hVb : ∀ l d,Bel H.n (verF H0 T a2 a5 l d):=fun l d=>bel_appl hbl0 (by omega)
          have hKF:app H0 T=verF H0 T a2 a5 B N:=by unfold verF lvC nvC;rw [set_same t2,set_same t5]
          rw [hKF]
          have lt7:=lt_get t7
          have lt6:=lt_get t6
          have lt2:=lt_get t2
          have lt5:=lt_get t5
          generalize verF H0 T a2 a5=F at hfam hVn hV0 hV1 hVt hVb ⊢
          clear t2 t5 t6 t7 gb hKF hdd hbl0 hb0 ht0 q0 q1 q2 hn0 hH0
          generalize hM:H.n+3+T.length=M at hfam hVn
          generalize hQ:H.n+3+a7=q at hfam s7
          generalize hP:H.n+3+a6=p at hfam s6
          generalize hBL:H.n+3+a2=bl at hfam s2
          generalize hBN:H.n+3+a5=bn at hfam s5
          have hqM:q < M:=by omega
          have hpM:p < M:=by omega
          have hM3:H.n+3≤M:=by omega
          clear s2 s5 hM hQ hP hBL hBN lt7 lt6 lt2 lt5
          have hinc:Inc n idx:=by
            by_cases e:Inc n idx
            · exact e
            · rw [chkE,if_neg e] at h0;cases h0
          have hsz:sizeE n=0:=by rw [chkE,if_pos hinc] at h0;exact h0
          obtain ⟨k,rfl⟩ : ∃ k:Nat,n=k:=⟨n.toNat,by omega⟩
          have hk:k≤65536:=by
            rw [sizeE_nat] at hsz
            unfold rootE at hsz
            split at hsz
            · cases hsz
            · split at hsz
              · cases hsz
              · omega
          have hreb:=rebuild_spec (G:=G) hG' _ _ _ _ _ _ k _ _ hfam 0 k idx B N true (by omega) (by omega) hk hinc.asc hil hN hNl hB hBl
          have hok:=rebF_ok k idx 0 k B N true hN hB
          have hv:verE root k idx B N=if (verR k idx B N).2.2.1=[]∧(verR k idx B N).2.2.2=true∧(verR k idx B N).1=root then 0 else 80:=by
            rw [verE,hc,if_pos h0];rfl
          rw [hv] at h
          unfold verR at h
          generalize rebF k idx 0 k B N true=r at hreb hok h
          obtain ⟨x,l',d',c'⟩:=r
          dsimp only at hreb hok h
          obtain ⟨hx,⟨ka,hla⟩,⟨kb,hda⟩⟩:=hok
          have hd' : ∀ y∈d',y.length=32:=fun y hy=>hN y (by rw [hda] at hy;exact List.mem_of_mem_drop hy)
          have hdl':d'.length≤100000:=by rw [hda,List.length_drop];omega
          unfold subV at hreb
          have hn1':=hVn B N
          have hn2':=hVn l' d'
          have hn3':=hVn l' (d'.drop 1)
          have f4':=f4
          (repeat refine .z rfl ?_);refine .text ?_;simp (disch:=first|exact dsc|fail) only [go_sem,seval,f1,f6,s6,s7,hVn]
          (repeat refine .z rfl ?_);refine .text ?_;simp (disch:=first|exact dsc|fail) only [go_sem,seval,f1,s6,s7,hVn]
          (repeat refine .z rfl ?_);refine .text ?_;simp (disch:=first|exact dsc|fail) only [go_sem,seval,f1,s6,s7,hVn]
          (repeat refine .z rfl ?_);refine .text ?_;simp (disch:=first|exact dsc|fail) only [go_sem,seval,f1,f6,hVn,hV1]
          refine CallK.of (fun R h=>hreb R h) ?_
          simp (disch:=first|exact dsc|fail) only [go_sem,seval,hVn]
          have fq:=hfam.fq l' d' c'
          have fn:=hfam.fn l' d' c'
          have fcc:=hfam.fcc l' (d'.drop 1) c'
          have sn:=hfam.sn l' d' c' (d'.drop 1)
          have hbq:q < M+2:=by omega
          have hln:=Hp.lt (hfam.fn l' d' c')
          (try dsimp only at fq fn fcc sn hln)
          rw [n_new',n_new',hn2'] at hln
          obtain ⟨SS,hSS⟩ : ∃ SS:List By → Hp,SS=fun d=>((F l' d).new (.cells [.p (bo c')])).new (.cells [.clo 50 [] [.ptr q 0,.ptr M 0,.ptr p 0,.ptr (M+1) 0]]):=⟨_,rfl⟩
          have eS : ∀ d,((F l' d).new (.cells [.p (bo c')])).new (.cells [.clo 50 [] [.ptr q 0,.ptr M 0,.ptr p 0,.ptr (M+1) 0]])=SS d:=fun d=>by rw [hSS]
          rw [eS] at fq fn fcc sn
          rw [eS] at sn
          rw [eS]
          have hSn : ∀ d,(SS d).n=M+2:=fun d=>by rw [hSS];simp (disch:=first|exact dsc|fail) only [go_sem,seval,hVn]
          have hS0 : ∀ d,(SS d).f H.n=some (.cells (cl b8 root)):=fun d=>by rw [hSS];have:=hVn l' d;simp (disch:=first|exact dsc|fail) only [go_sem,seval,hVn,hV0]
          have hSt : ∀ d,(SS d).trunc H.n=H:=fun d=>by rw [hSS];have:=hVn l' d;simp (disch:=first|exact dsc|fail) only [go_sem,seval,hVn,hVt]
          have hSb : ∀ d,Bel H.n (SS d):=fun d=>by rw [hSS];exact bel_new (bel_new (hVb l' d) (by rw [hVn];omega)) (by rw [n_new',hVn];omega)
          have hs1:=hSn d'
          have hs2:=hSn (d'.drop 1)
          have hh:=hdD_len hd'
          (repeat refine .z rfl ?_);refine .text ?_;simp (disch:=first|exact dsc|fail) only [go_sem,seval,f1,s7,hSn,fq]
          refine CallK.of (fun R h=>nextD_spec d' hdl' hd' bn _ (by simp (disch:=first|exact dsc|fail) only [go_sem,seval,hSn,fn]) R h) ?_;simp (disch:=first|exact dsc|fail) only [go_sem,seval,hSn,sn,hh]
          have hbelS:=hSb (d'.drop 1)
          have hem:(!d'.isEmpty) = !decide (d'=[]):=by cases d'<;>rfl
          rw [hem]
          by_cases e1:d'=[]
          · rw [decide_eq_true e1]
            cases c'
            · rw [if_neg (by rintro ⟨_,h,_⟩;cases h)] at h
              (repeat refine .z rfl ?_);refine .text ?_;simp (disch:=first|exact dsc|fail) only [go_sem,seval,f1,fcc,hSn]
              (repeat refine .z rfl ?_);refine .ifT (by simp (disch:=first|exact dsc|fail) only [go_sem,seval]) ?_
              (repeat refine .z rfl ?_);refine .text ?_;simp (disch:=first|exact dsc|fail) only [go_sem,seval]
              have hbel:=hbelS
              (repeat refine .z rfl ?_);refine .rt Tryd.func22 (by rw [Tryd.results22]) (hR := ?_);simp (disch:=first|exact dsc|fail) only [go_sem,seval]
              rw [hSt]
              exact h
            · by_cases e2:x=root
              · have d4:(!decide (x=root))=false:=by rw [decide_eq_true e2];rfl
                rw [if_pos ⟨e1,rfl,e2⟩] at h
                (repeat refine .z rfl ?_);refine .text ?_;simp (disch:=first|exact dsc|fail) only [go_sem,seval,f4,fcc,hSn,hS0,hx,hroot,d4,cells_db,aggOf_db hx,aggOf_db hroot]
                (repeat refine .z rfl ?_);refine .ifF (by simp (disch:=first|exact dsc|fail) only [go_sem,seval,d4]) ?_
                (repeat refine .z rfl ?_);refine .text ?_;simp (disch:=first|exact dsc|fail) only [go_sem,seval]
                have hbel:=hbelS
                (repeat refine .z rfl ?_);refine .rt Tryd.func22 (by rw [Tryd.results22]) (hR := ?_);simp (disch:=first|exact dsc|fail) only [go_sem,seval]
                rw [hSt]
                exact h
              · have d4:(!decide (x=root))=true:=by rw [decide_eq_false e2];rfl
                rw [if_neg (by rintro ⟨_,_,h⟩;exact e2 h)] at h
                (repeat refine .z rfl ?_);refine .text ?_;simp (disch:=first|exact dsc|fail) only [go_sem,seval,f4,fcc,hSn,hS0,hx,hroot,d4,cells_db,aggOf_db hx,aggOf_db hroot]
                (repeat refine .z rfl ?_);refine .ifT (by simp (disch:=first|exact dsc|fail) only [go_sem,seval,d4]) ?_
                (repeat refine .z rfl ?_);refine .text ?_;simp (disch:=first|exact dsc|fail) only [go_sem,seval]
                have hbel:=hbelS
                (repeat refine .z rfl ?_);refine .rt Tryd.func22 (by rw [Tryd.results22]) (hR := ?_);simp (disch:=first|exact dsc|fail) only [go_sem,seval]
                rw [hSt]
                exact h
          · rw [decide_eq_false e1]
            rw [if_neg (by rintro ⟨h,_⟩;exact e1 h)] at h
            (repeat refine .z rfl ?_);refine .text ?_;simp (disch:=first|exact dsc|fail) only [go_sem,seval,f1,fcc,hSn]
            (repeat refine .z rfl ?_);refine .ifT (by simp (disch:=first|exact dsc|fail) only [go_sem,seval]) ?_
            (repeat refine .z rfl ?_);refine .text ?_;simp (disch:=first|exact dsc|fail) only [go_sem,seval]
            have hbel:=hbelS
            (repeat refine .z rfl ?_);refine .rt Tryd.func22 (by rw [Tryd.results22]) (hR := ?_);simp (disch:=first|exact dsc|fail) only [go_sem,seval]
            rw [hSt]
            exact h
      · have d3:(((chkE n idx:Nat):Int) != 0)=true:=by simp;omega
        have hv:verE root n idx B N=chkE n idx:=by rw [verE,hc,if_neg h0]
        rw [hv] at h
        (repeat refine .z rfl ?_);refine .text ?_;simp (disch:=first|exact dsc|fail) only [go_sem,seval,d3]
        (repeat refine .z rfl ?_);refine .ifT (by simp (disch:=first|exact dsc|fail) only [go_sem,seval,d3]) ?_
        (repeat refine .z rfl ?_);refine .text ?_;simp (disch:=first|exact dsc|fail) only [go_sem,seval]
        (repeat refine .z rfl ?_);refine .rt Tryd.func22 (by rw [Tryd.results22]) (hR := ?_);simp (disch:=first|exact dsc|fail) only [go_sem,seval]
        exact h
    · have d2:((B.length:Int) != (idx.length:Int))=true:=by simp;omega
      have hv:verE root n idx B N=1:=by
        have:verC n idx B=1:=if_pos (.inr hne)
        rw [verE,this];rfl
      rw [hv] at h
      (repeat refine .z rfl ?_);refine .text ?_;simp (disch:=first|exact dsc|fail) only [go_sem,seval,d1,d2]
      (repeat refine .z rfl ?_);refine .ifT (by simp (disch:=first|exact dsc|fail) only [go_sem,seval,d1,d2]) ?_
      (repeat refine .z rfl ?_);refine .text ?_;simp (disch:=first|exact dsc|fail) only [go_sem,seval]
      (repeat refine .z rfl ?_);refine .text ?_;simp (disch:=first|exact dsc|fail) only [go_sem,seval]
      (repeat refine .z rfl ?_);refine .ifT (by simp (disch:=first|exact dsc|fail) only [go_sem,seval]) ?_
      (repeat refine .z rfl ?_);refine .text ?_;simp (disch:=first|exact dsc|fail) only [go_sem,seval]
      (repeat refine .z rfl ?_);refine .rt Tryd.func22 (by rw [Tryd.results22]) (hR := ?_);simp (disch:=first|exact dsc|fail) only [go_sem,seval]
      exact h
end walks
end Go.Proofs.YthonhnpiglafkaaDoor

/-
  Hash trees: what the fixed examples of the laws come to.
-/
namespace Go.Proofs.YthonhnpiglafkaaDoor
open Go Go.AL

abbrev tx:List By:=[[97#8],[98#8],[99#8]]
abbrev dA:By:=leaf [97#8]
abbrev dB:By:=leaf [98#8]
abbrev dC:By:=leaf [99#8]
theorem tx_eq:textL 3=tx:=by rfl
theorem tx_short:Short tx:=fun i hi=>by
  rcases i with _ | _ | _ | i
  · exact (by decide:[97#8].length≤140737488352000)
  · exact (by decide:[98#8].length≤140737488352000)
  · exact (by decide:[99#8].length≤140737488352000)
  · simp at hi;omega
theorem foldD1 (x:By):foldD [x]=x:=foldD_one rfl
theorem foldD2 (x y:By):foldD [x,y]=pair x y:=by
  rw [foldD_two (by simp)]
  have h:spl [x,y].length=1:=by rfl
  rw [h]
  show pair (foldD [x]) (foldD [y])=_
  rw [foldD1,foldD1]
theorem foldD3 (x y z:By):foldD [x,y,z]=pair (pair x y) z:=by
  rw [foldD_two (by simp)]
  have h:spl [x,y,z].length=2:=show spl 3=2 by decide +kernel
  rw [h]
  show pair (foldD [x,y]) (foldD [z])=_
  rw [foldD2,foldD1]
theorem san_root:rootV tx=pair (pair dA dB) dC:=by
  have h:rootE tx.length=0:=rfl
  rw [rootV,if_pos h]
  exact foldD3 _ _ _
theorem san_one:rootV (tx.take 1)=dA:=by
  have h:rootE (tx.take 1).length=0:=rfl
  rw [rootV,if_pos h]
  exact foldD1 _
theorem san_none:rootV []=zeroD∧rootE 0=1:=⟨by rw [rootV,if_neg (by decide)],rfl⟩
theorem chk1:chkE 3 [1]=0:=by decide
theorem chk0:chkE 3 []=0:=by decide
theorem chk11:chkE 3 [1,1]=1:=by decide
theorem chk3:chkE 3 [3]=1:=by decide
theorem chk2:chkE 3 [2]=0:=by decide
theorem san_open:openN tx [1]=[dA,dC]:=by
  have h:chkE tx.length [1]=0:=chk1
  have hc:closI tx.length [1]=[(0,1),(2,3)]:=by decide
  rw [openN,if_pos h,hc]
  show [foldD [dA],foldD [dC]]=_
  rw [foldD1,foldD1]
theorem san_whole:openN tx []=[pair (pair dA dB) dC]:=by
  have h:chkE tx.length []=0:=chk0
  have hc:closI tx.length []=[(0,3)]:=by decide
  rw [openN,if_pos h,hc]
  show [foldD [dA,dB,dC]]=_
  rw [foldD3]
theorem san_wit:witN tx 2=[pair dA dB]:=by
  have h:chkE tx.length [2]=0:=chk2
  have hc:stepC tx.length (2:Int).toNat=[(0,2)]:=by decide
  rw [witN,if_pos h,pathD,hc]
  show [foldD [dA,dB]]=_
  rw [foldD2]
theorem san_push0:pushD [] 0 [97#8]=[dA]:=rfl
theorem san_push1:pushD [dA] 1 [98#8]=[pair dA dB]:=rfl
theorem san_push2:pushD [pair dA dB] 2 [99#8]=[pair dA dB,dC]:=rfl
theorem san_bag:bagD [pair dA dB,dC]=pair (pair dA dB) dC:=rfl
theorem reb1 (l:By) (x z:By):verR 3 [1] [l] [x,z]=(pair (pair x (leaf l)) z,[],[],true):=by
  have e1:rebF 1 ([]:List Int) 0 1 [l] [x,z] true=(x,[l],[z],true):=rfl
  have e2:rebF 1 ([1]:List Int) 1 2 [l] [z] true=(leaf l,[],[z],true):=rfl
  have f1:([1]:List Int).filter (fun i=>decide (i < ((2:Nat):Int)))=[1]:=by decide
  have f2:([1]:List Int).filter (fun i=>decide (((2:Nat):Int)≤i))=[]:=by decide
  have g1:([1]:List Int).filter (fun i=>decide (i < ((1:Nat):Int)))=[]:=by decide
  have g2:([1]:List Int).filter (fun i=>decide (((1:Nat):Int)≤i))=[1]:=by decide
  have e3:rebF 2 ([1]:List Int) 0 2 [l] [x,z] true=(pair x (leaf l),[],[z],true) :=
    rebF_split (by simp) (by omega) (k:=1) (by rfl) (by rw [g1];exact e1) (by rw [g2];exact e2)
  have e4:rebF 2 ([]:List Int) 2 3 [] [z] true=(z,[],[],true):=rfl
  exact rebF_split (by simp) (by omega) (k:=2) (by rfl) (by rw [f1];exact e3) (by rw [f2];exact e4)
theorem san_ver (r:By) (l x z:By):verE r 3 [1] [l] [x,z]=if pair (pair x (leaf l)) z=r then 0 else 80:=by
  have h:verC 3 [1] [l]=0:=by
    have : ¬((3:Int) < 1 ∨ [l].length≠([1]:List Int).length):=by simp
    rw [verC,if_neg this];exact chk1
  have ht:(3:Int).toNat=3:=rfl
  rw [verE,if_pos h,ht,reb1]
  dsimp only
  by_cases e:pair (pair x (leaf l)) z=r
  · rw [if_pos ⟨rfl,rfl,e⟩,if_pos e]
  · rw [if_neg (by rintro ⟨_,_,h⟩;exact e h),if_neg e]
theorem san_ver3 (r:By) (N:List By):verE r 3 [1] [] N=1:=by
  have h:verC 3 [1] []=1:=if_pos (.inr (by decide))
  rw [verE,h];rfl
theorem san_ver0 (r:By) (N:List By):verE r 0 [] [] N=1:=by
  have h:verC 0 [] []=1:=if_pos (.inl (by decide))
  rw [verE,h];rfl
theorem san_verB (r:By) (N:List By):verE r 65537 [] [] N=2:=by
  have h:verC 65537 [] []=2:=by decide
  rw [verE,h];rfl
set_option maxRecDepth 100000 in
theorem san_ne:pair (pair dA dA) dC≠pair (pair dA dB) dC:=by decide +kernel
theorem oc3:(oc (BitVec.ofNat 64 3)).toNat=2:=by decide
theorem climb1 (q:By) (b:By):climbI [q] [false].reverse b [q].length=pair q (leaf b):=by
  have hn:nth ([false]:List Bool).reverse 0=false:=rfl
  have hq:nth [q] 0=q:=rfl
  have h0:climbI [q] [false].reverse b 0=leaf b:=rfl
  show climbI [q] [false].reverse b (0+1)=_
  rw [climbI,hn,if_neg (by decide),hq,h0]
theorem san_con1:contN [pair dA dB,dC] 3 2 [99#8] [pair dA dB]=true:=by
  have hs:sideL 3 2=[false]:=by decide
  have ho:(oc (BitVec.ofNat 64 3)).toNat=[pair dA dB,dC].length:=oc3
  rw [contN,if_pos ho,hs,if_pos (show [false].length=[pair dA dB].length from rfl),decide_eq_true_eq,climb1,san_bag]
theorem san_con2:contN [pair dA dB,dC] 3 1 [99#8] [pair dA dB]=false:=by
  have hs:sideL 3 1=[true,false]:=by decide
  have ho:(oc (BitVec.ofNat 64 3)).toNat=[pair dA dB,dC].length:=oc3
  rw [contN,if_pos ho,hs,if_neg (by simp)]
theorem san_con3:contN [pair dA dB] 3 2 [99#8] [pair dA dB]=false:=by
  rw [contN,if_neg (by rw [oc3];simp)]
end Go.Proofs.YthonhnpiglafkaaDoor

/-
  Hash trees: the fixed examples of the laws.
-/
namespace Go.Proofs.YthonhnpiglafkaaDoor
open Go Go.AL

section walks
variable {G:Globs}
set_option maxRecDepth 20000 in
set_option maxHeartbeats 32000000 in
theorem sanity_spec (hG:GS G) (hT:GT G) (H:Hp) (R:AV → Hp → Prop) (h:R (.p (bo true)) H):ACall Tryd.prog G 9 [] H R:=by
  have hG':=hG
  obtain ⟨hG0,hG1⟩:=hG
  refine ACall.of_run (raw:=[]) Tryd.func9 rfl Tryd.ntmps9 (by simp) fun hbel => ?_
  (repeat refine .z rfl ?_);refine .text ?_;simp (disch:=first|exact dsc|fail) only [go_sem,seval]
  (repeat refine .z rfl ?_);refine .text ?_;simp (disch:=first|exact dsc|fail) only [go_sem,seval]
  refine CallK.of (fun R h=>texts_spec 3 (by omega) _ R h) ?_;simp (disch:=first|exact dsc|fail) only [go_sem,seval]
  rw [tx_eq]
  have lA:dA.length=32:=leaf_len _
  have lB:dB.length=32:=leaf_len _
  have lC:dC.length=32:=leaf_len _
  have s1:=san_root
  have s2:=san_one
  have s3:=san_open
  have s4:=san_whole
  have s5:=san_wit
  have p0:=san_push0
  have p1:=san_push1
  have p2:=san_push2
  have s6:=san_bag
  have s7:=san_ver (pair (pair dA dB) dC) [98#8] dA dC
  rw [if_pos rfl] at s7
  have s8:=san_ver (pair (pair dA dB) dC) [97#8] dA dC
  rw [if_neg san_ne] at s8
  have c1:=san_con1
  have c2:=san_con2
  have c3:=san_con3
  have hsh:=tx_short
  have hl3:tx.length=3:=rfl
  have n0:nth tx 0=[97#8]:=rfl
  have n1:nth tx 1=[98#8]:=rfl
  have n2:nth tx 2=[99#8]:=rfl
  have tk:(tx.take 1).length=1:=rfl
  have hsh1:Short (tx.take 1):=hsh.take 1
  have lr:(pair (pair dA dB) dC).length=32:=pair_len _ _
  have lab:(pair dA dB).length=32:=pair_len _ _
  have hA:leaf [97#8]=dA:=rfl
  have hB:leaf [98#8]=dB:=rfl
  have hC:leaf [99#8]=dC:=rfl
  generalize hr:pair (pair dA dB) dC=r at *
  generalize hab:pair dA dB=ab at *
  generalize dA=a at *
  generalize dB=b at *
  generalize dC=c at *
  generalize tx=ls at *
  have hcb : ∀ x:By,bs x = .sl false 1 (pl b8 x):=fun _=>rfl
  have r3:rootE ls.length=0:=by rw [hl3];rfl
  have r1:rootE (ls.take 1).length=0:=by rw [tk];rfl
  (repeat refine .z rfl ?_);refine .openF 12 15 18 [12,13,14,15,16,17] follows (by kernel_rfl) (by kernel_rfl) ?_;simp (disch:=first|exact dsc|fail) only [go_sem,seval,hl3,n0,n1,n2,hcb]
  refine CallQE.of (fun H R h=>LeafR_spec [97#8] (by simp) H R h) (by first | exact .p _ | simp (disch:=first|exact dsc|fail) only [go_sem,seval,hl3,n0,n1,n2,hcb,hA]) ?_;simp (disch:=first|exact dsc|fail) only [go_sem,seval,hl3,n0,n1,n2,hcb,hA]
  refine CallQE.of (fun H R h=>LeafR_spec [98#8] (by simp) H R h) (by first | exact .p _ | simp (disch:=first|exact dsc|fail) only [go_sem,seval,hl3,n0,n1,n2,hcb,hB]) ?_;simp (disch:=first|exact dsc|fail) only [go_sem,seval,hl3,n0,n1,n2,hcb,hB]
  refine CallQE.of (fun H R h=>LeafR_spec [99#8] (by simp) H R h) (by first | exact .p _ | simp (disch:=first|exact dsc|fail) only [go_sem,seval,hl3,n0,n1,n2,hcb,hC,lA,lB,lC]) ?_;simp (disch:=first|exact dsc|fail) only [go_sem,seval,hl3,n0,n1,n2,hcb,hC,lA,lB,lC]
  (repeat refine .z rfl ?_);refine .text ?_;simp (disch:=first|exact dsc|fail) only [go_sem,seval]
  refine CallK.of (fun R h=>PairR_spec a b lA lB _ R h) ?_;simp (disch:=first|exact dsc|fail) only [go_sem,seval,hab,lab]
  (repeat refine .z rfl ?_);refine .text ?_;simp (disch:=first|exact dsc|fail) only [go_sem,seval]
  refine CallK.of (fun R h=>Root_spec hG' ls (by omega) hsh _ R h) ?_;simp (disch:=first|exact dsc|fail) only [go_sem,seval,s1,r3,lr]
  (repeat refine .z rfl ?_);refine .text ?_;simp (disch:=first|exact dsc|fail) only [go_sem,seval,hl3]
  refine CallK.of (fun R h=>Root_spec hG' (ls.take 1) (by omega) hsh1 _ R h) ?_;simp (disch:=first|exact dsc|fail) only [go_sem,seval,s2,r1,lA]
  have hshN:Short ([]:List By):=fun i hi=>by simp at hi
  have z1:rootV ([]:List By)=zeroD:=san_none.1
  have z2:rootE ([]:List By).length=1:=san_none.2
  have z3:zeroD.length=32:=rfl
  have k1:chkE (ls.length:Int) [1]=0:=by rw [hl3];exact chk1
  have k0:chkE (ls.length:Int) []=0:=by rw [hl3];exact chk0
  have k11:chkE (ls.length:Int) [1,1]=1:=by rw [hl3];exact chk11
  have k3:chkE (ls.length:Int) [3]=1:=by rw [hl3];exact chk3
  have k2:chkE (ls.length:Int) [2]=0:=by rw [hl3];exact chk2
  have o11:openN ls [1,1]=[]:=by rw [openN,if_neg (by rw [k11];decide)]
  have o3:openN ls [3]=[]:=by rw [openN,if_neg (by rw [k3];decide)]
  have w3:witN ls 3=[]:=by rw [witN,if_neg (by rw [k3];decide)]
  (repeat refine .z rfl ?_);refine .text ?_;simp (disch:=first|exact dsc|fail) only [go_sem,seval]
  refine CallK.of (fun R h=>nil_arg (xs:=[]) (ys:=[]) (fl:=false) (sz:=1) (Root_spec hG' [] (by simp) hshN _ R h)) ?_;simp (disch:=first|exact dsc|fail) only [go_sem,seval,z1,z2,z3]
  (repeat refine .z rfl ?_);refine .text ?_;simp (disch:=first|exact dsc|fail) only [go_sem,seval]
  refine CallK.of (fun R h=>Open_spec hG' ls [1] (by omega) (by simp) hsh _ R h) ?_;simp (disch:=first|exact dsc|fail) only [go_sem,seval,s3,k1]
  (repeat refine .z rfl ?_);refine .text ?_;simp (disch:=first|exact dsc|fail) only [go_sem,seval]
  refine CallK.of (fun R h=>nil_arg (xs:=[.p (.sl false 1 (pl bs ls))]) (ys:=[]) (fl:=false) (sz:=1) (Open_spec hG' ls [] (by omega) (by simp) hsh _ R h)) ?_;simp (disch:=first|exact dsc|fail) only [go_sem,seval,s4,k0]
  (repeat refine .z rfl ?_);refine .text ?_;simp (disch:=first|exact dsc|fail) only [go_sem,seval]
  refine CallK.of (fun R h=>Open_spec hG' ls [1,1] (by omega) (by simp) hsh _ R h) ?_;simp (disch:=first|exact dsc|fail) only [go_sem,seval,o11,k11]
  (repeat refine .z rfl ?_);refine .text ?_;simp (disch:=first|exact dsc|fail) only [go_sem,seval]
  refine CallK.of (fun R h=>Open_spec hG' ls [3] (by omega) (by simp) hsh _ R h) ?_;simp (disch:=first|exact dsc|fail) only [go_sem,seval,o3,k3]
  (repeat refine .z rfl ?_);refine .text ?_;simp (disch:=first|exact dsc|fail) only [go_sem,seval]
  refine CallK.of (fun R h=>Witness_spec hG' ls 2 (by omega) hsh _ R h) ?_;simp (disch:=first|exact dsc|fail) only [go_sem,seval,s5,k2]
  (repeat refine .z rfl ?_);refine .text ?_;simp (disch:=first|exact dsc|fail) only [go_sem,seval]
  refine CallK.of (fun R h=>Witness_spec hG' ls 3 (by omega) hsh _ R h) ?_;simp (disch:=first|exact dsc|fail) only [go_sem,seval,w3,k3]
  (repeat refine .z rfl ?_);refine .open [] follows (by kernel_rfl) ?_;simp (disch:=first|exact dsc|fail) only [go_sem,seval,hl3,n0,n1,n2,hcb]
  refine CallD.still (fun R h=>nil_arg (xs:=[]) (ys:=[.p (i64 0),.p (.sl false 1 (pl b8 [97#8]))]) (fl:=false) (sz:=32) (Push_spec hG' hT [] (by simp) (by simp) 0 (by omega) (by decide) [97#8] (by simp) _ R h)) ?_;simp (disch:=first|exact dsc|fail) only [go_sem,seval,p0,hl3,n0,n1,n2,hcb]
  refine CallD.still (fun R h=>Push_spec hG' hT [a] (by simp) (by simp;exact lA) 1 (by omega) (show ones 64 1≤1 by decide) [98#8] (by simp) _ R h) ?_;simp (disch:=first|exact dsc|fail) only [go_sem,seval,p1,hl3,n0,n1,n2,hcb]
  refine CallD.still (fun R h=>Push_spec hG' hT [ab] (by simp) (by simp;exact lab) 2 (by omega) (show ones 64 2≤1 by decide) [99#8] (by simp) _ R h) ?_;simp (disch:=first|exact dsc|fail) only [go_sem,seval,p2,hl3,n0,n1,n2,hcb]
  (repeat refine .z rfl ?_);refine .text ?_;simp (disch:=first|exact dsc|fail) only [go_sem,seval,hl3,n0,n1,n2,hcb]
  (repeat refine .z rfl ?_);refine .text ?_;simp (disch:=first|exact dsc|fail) only [go_sem,seval,hl3,n0,n1,n2,hcb]
  (repeat refine .z rfl ?_);refine .text ?_;simp (disch:=first|exact dsc|fail) only [go_sem,seval,hl3,n0,n1,n2,hcb]
  (repeat refine .z rfl ?_);refine .text ?_;simp (disch:=first|exact dsc|fail) only [go_sem,seval,hl3,n0,n1,n2,hcb]
  (repeat refine .z rfl ?_);refine .text ?_;simp (disch:=first|exact dsc|fail) only [go_sem,seval,hl3,n0,n1,n2,hcb]
  (repeat refine .z rfl ?_)
  refine .openFast follows (by kernel_rfl) ?_
  simp only [List.append_eq,List.cons_append,List.nil_append]
  have q1:rootE 1=0:=rfl
  have q3:rootE 3=0:=rfl
  have q0:rootE 0=1:=rfl
  simp (disch:=first|exact dsc|fail) only [go_sem,seval,hr,lr,lA,lB,lC,lab,q1,q3,q0,k1,k0,k11,k3,k2,cells_db]
  have hAC : ∀ d∈[a,c],d.length=32:=by simp [lA,lC]
  have hR1 : ∀ d∈[r],d.length=32:=by simp [lr]
  have hAB1 : ∀ d∈[ab],d.length=32:=by simp [lab]
  have hABC : ∀ d∈[ab,c],d.length=32:=by simp [lab,lC]
  have hbag0:bagD []=zeroD:=rfl
  have hz:decide (zeroD=[0#8,0#8,0#8,0#8,0#8,0#8,0#8,0#8,0#8,0#8,0#8,0#8,0#8,0#8,0#8,0#8,0#8,0#8,0#8,0#8,0#8,0#8,0#8,0#8,0#8,0#8,0#8,0#8,0#8,0#8,0#8,0#8])=true:=rfl
  have shl : ∀ x:BitVec 8,Short [ [x] ]:=fun x i hi=>by
    simp at hi;subst hi;simp [nth]
  refine CallD.still (fun R h=>PairR_spec ab c lab lC _ R h) ?_;simp (disch:=first|exact dsc|fail) only [go_sem,seval,hr,lr,lA,lB,lC,lab,q1,q3,q0,k1,k0,k11,k3,k2,cells_db]
  refine CallD.still (fun R h=>SameR_spec [a,c] [a,c] hAC hAC (by simp) (by simp) _ R h) ?_;simp (disch:=first|exact dsc|fail) only [go_sem,seval,hr,lr,lA,lB,lC,lab,q1,q3,q0,k1,k0,k11,k3,k2,cells_db]
  refine CallD.still (fun R h=>SameR_spec [r] [r] hR1 hR1 (by simp) (by simp) _ R h) ?_;simp (disch:=first|exact dsc|fail) only [go_sem,seval,hr,lr,lA,lB,lC,lab,q1,q3,q0,k1,k0,k11,k3,k2,cells_db]
  refine CallD.still (fun R h=>SameR_spec [ab] [ab] hAB1 hAB1 (by simp) (by simp) _ R h) ?_;simp (disch:=first|exact dsc|fail) only [go_sem,seval,hr,lr,lA,lB,lC,lab,q1,q3,q0,k1,k0,k11,k3,k2,cells_db]
  refine CallD.still (fun R h=>SameR_spec [ab,c] [ab,c] hABC hABC (by simp) (by simp) _ R h) ?_;simp (disch:=first|exact dsc|fail) only [go_sem,seval,hr,lr,lA,lB,lC,lab,q1,q3,q0,k1,k0,k11,k3,k2,cells_db]
  refine CallD.still (fun R h=>Bag_spec hG' [ab,c] (by simp) hABC _ R h) ?_;simp (disch:=first|exact dsc|fail) only [go_sem,seval,hr,lr,lA,lB,lC,lab,q1,q3,q0,k1,k0,k11,k3,k2,cells_db,s6]
  refine CallD.still (fun R h=>nil_arg (xs:=[]) (ys:=[]) (fl:=false) (sz:=32) (Bag_spec hG' [] (by simp) (by simp) _ R h)) ?_;simp (disch:=first|exact dsc|fail) only [go_sem,seval,hbag0,hz,z3,hr,lr,lA,lB,lC,lab,q1,q3,q0,k1,k0,k11,k3,k2,cells_db]
  refine CallD.still (fun R h=>Verify_spec hG' r lr 3 (by omega) (by omega) [1] (by simp) [ [98#8] ] [a,c] (shl _) (by simp) hAC (by simp) _ R h) ?_;simp (disch:=first|exact dsc|fail) only [go_sem,seval,s7,hr,lr,lA,lB,lC,lab,q1,q3,q0,k1,k0,k11,k3,k2,cells_db]
  refine CallD.still (fun R h=>Verify_spec hG' r lr 3 (by omega) (by omega) [1] (by simp) [ [97#8] ] [a,c] (shl _) (by simp) hAC (by simp) _ R h) ?_;simp (disch:=first|exact dsc|fail) only [go_sem,seval,s8,hr,lr,lA,lB,lC,lab,q1,q3,q0,k1,k0,k11,k3,k2,cells_db]
  refine CallD.still (fun R h=>Verify_spec hG' r lr 3 (by omega) (by omega) [1] (by simp) [] [a,c] hshN (by simp) hAC (by simp) _ R h) ?_;simp (disch:=first|exact dsc|fail) only [go_sem,seval,san_ver3,hr,lr,lA,lB,lC,lab,q1,q3,q0,k1,k0,k11,k3,k2,cells_db]
  refine CallD.still (fun R h=>Verify_spec hG' r lr 0 (by omega) (by omega) [] (by simp) [] [a,c] hshN (by simp) hAC (by simp) _ R h) ?_;simp (disch:=first|exact dsc|fail) only [go_sem,seval,san_ver0,hr,lr,lA,lB,lC,lab,q1,q3,q0,k1,k0,k11,k3,k2,cells_db]
  refine CallD.still (fun R h=>Verify_spec hG' r lr 65537 (by omega) (by omega) [] (by simp) [] [a,c] hshN (by simp) hAC (by simp) _ R h) ?_;simp (disch:=first|exact dsc|fail) only [go_sem,seval,san_verB,hr,lr,lA,lB,lC,lab,q1,q3,q0,k1,k0,k11,k3,k2,cells_db]
  refine CallD.still (fun R h=>Contains_spec hG' [ab,c] (by simp) hABC 3 2 (by omega) (by omega) (by omega) [99#8] (by simp) [ab] (by simp) hAB1 _ R h) ?_;simp (disch:=first|exact dsc|fail) only [go_sem,seval,c1,hr,lr,lA,lB,lC,lab,q1,q3,q0,k1,k0,k11,k3,k2,cells_db]
  refine CallD.still (fun R h=>Contains_spec hG' [ab,c] (by simp) hABC 3 1 (by omega) (by omega) (by omega) [99#8] (by simp) [ab] (by simp) hAB1 _ R h) ?_;simp (disch:=first|exact dsc|fail) only [go_sem,seval,c2,hr,lr,lA,lB,lC,lab,q1,q3,q0,k1,k0,k11,k3,k2,cells_db]
  refine CallD.still (fun R h=>Contains_spec hG' [ab] (by simp) hAB1 3 2 (by omega) (by omega) (by omega) [99#8] (by simp) [ab] (by simp) hAB1 _ R h) ?_;simp (disch:=first|exact dsc|fail) only [go_sem,seval,c3,hr,lr,lA,lB,lC,lab,q1,q3,q0,k1,k0,k11,k3,k2,cells_db]
  (repeat refine .z rfl ?_);refine .rt Tryd.func9 (by rw [Tryd.results9]) (hR := ?_);simp (disch:=first|exact dsc|fail) only [go_sem,seval]
  exact h
end walks
end Go.Proofs.YthonhnpiglafkaaDoor

/-
  Hash trees: the reference's climbing,and whether a leaf belongs to a tree,for any arguments.
-/
namespace Go.Proofs.YthonhnpiglafkaaDoor
open Go Go.AL

def clR:Nat → Nat → Nat → By → List By → By × Bool
  | 0,_,_,_,_=>(zeroD,false)
  | f+1,n,i,b,path=>if n=1 then (leaf b,decide (path.length=0)) else if path.length=0 then (zeroD,false) else
    if i < spl n then (pair (clR f (spl n) i b (path.take (path.length - 1))).1 (nth path (path.length - 1)),(clR f (spl n) i b (path.take (path.length - 1))).2)
    else (pair (nth path (path.length - 1)) (clR f (n - spl n) (i - spl n) b (path.take (path.length - 1))).1,(clR f (n - spl n) (i - spl n) b (path.take (path.length - 1))).2)
theorem clR_len {b:By} : ∀ (f n i:Nat) (path:List By),(clR f n i b path).1.length=32
  | 0,_,_,_=>rfl
  | f+1,n,i,path=>by
    rw [clR]
    split
    · dsimp only;exact leaf_len b
    · split
      · rfl
      · split<;>(dsimp only;exact pair_len _ _)
def sd:Nat → Nat → Nat → List Bool
  | 0,_,_=>[]
  | f+1,n,i=>if n≤1 then [] else if i < spl n then true :: sd f (spl n) i else false :: sd f (n - spl n) (i - spl n)
theorem stepL_sd : ∀ (f i lo hi:Nat),lo≤i → i < hi → (stepL f i lo hi).map (·.1)=sd f (hi - lo) (i - lo)
  | 0,_,_,_,_,_=>rfl
  | f+1,i,lo,hi,h1,h2=>by
    rw [stepL,sd]
    by_cases c:hi - lo≤1
    · rw [if_pos c,if_pos c];rfl
    · have hs:=spl_lt (n:=hi - lo) (by omega)
      rw [if_neg c,if_neg c]
      by_cases c2:i < lo+spl (hi - lo)
      · rw [if_pos c2,if_pos (by omega),List.map_cons,stepL_sd f i lo _ h1 c2,show lo+spl (hi - lo) - lo=spl (hi - lo) by omega]
      · rw [if_neg c2,if_neg (by omega),List.map_cons,stepL_sd f i _ hi (by omega) h2,show hi - (lo+spl (hi - lo))=hi - lo - spl (hi - lo) by omega,show i - (lo+spl (hi - lo))=i - lo - spl (hi - lo) by omega]
theorem climbI_congr {p p':List By} {s s':List Bool} {b:By} : ∀ k,(∀ j,j < k → nth s j=nth s' j∧nth p j=nth p' j) → climbI p s b k=climbI p' s' b k
  | 0,_=>rfl
  | k+1,h=>by
    rw [climbI,climbI,climbI_congr k fun j hj=>h j (by omega),(h k (by omega)).1,(h k (by omega)).2]
theorem nth_snoc {α:Type} [Inhabited α] {l:List α} {x:α}:nth (l++[x]) l.length=x:=by unfold nth;simp
theorem nth_app {α:Type} [Inhabited α] {l m:List α} {j:Nat} (h:j < l.length):nth (l++m) j=nth l j:=by unfold nth;rw [List.getElem?_append_left h]
theorem clR_eq {b:By} : ∀ (f n i:Nat) (path:List By),n≤f → 1≤n → i < n →
    (clR f n i b path).2=decide ((sd f n i).length=path.length)∧((sd f n i).length=path.length → (clR f n i b path).1=climbI path (sd f n i).reverse b path.length)
  | 0,n,_,_,h1,h2,_=>by omega
  | f+1,n,i,path,h1,h2,h3=>by
    rw [clR,sd]
    by_cases c:n=1
    · rw [if_pos c,if_pos (show n≤1 by omega)]
      refine ⟨?_,fun h => ?_⟩
      · show decide (path.length=0)=decide (0=path.length)
        by_cases e:path.length=0
        · rw [e]
        · rw [decide_eq_false e,decide_eq_false (fun x=>e x.symm)]
      · have:path.length=0:=h.symm
        rw [this,climbI]
    · rw [if_neg c,if_neg (show ¬n≤1 by omega)]
      have hs:=spl_lt (n:=n) (by omega)
      by_cases e:path.length=0
      · rw [if_pos e]
        refine ⟨?_,fun h => ?_⟩
        · rw [e];split<;>exact (decide_eq_false (by simp)).symm
        · rw [e] at h;split at h<;>simp at h
      · rw [if_neg e]
        have hp:path=path.take (path.length - 1)++[nth path (path.length - 1)]:=by
          have h9:nth path (path.length - 1)=path[path.length - 1]'(by omega):=by unfold nth;rw [List.getElem?_eq_getElem (by omega)];rfl
          have h8:path.take (path.length - 1+1)=path:=List.take_of_length_le (by omega)
          rw [List.take_add_one,List.getElem?_eq_getElem (by omega)] at h8
          rw [h9]
          exact h8.symm
        have hpl:(path.take (path.length - 1)).length=path.length - 1:=by rw [List.length_take];omega
        generalize hx:nth path (path.length - 1)=x at *
        generalize hq:path.take (path.length - 1)=q at *
        by_cases c2:i < spl n
        · rw [if_pos c2,if_pos c2]
          obtain ⟨q1,q2⟩:=clR_eq f (spl n) i q (by omega) hs.1 c2
          refine ⟨?_,fun h => ?_⟩
          · dsimp only
            rw [q1,List.length_cons,hpl]
            by_cases e2:(sd f (spl n) i).length=path.length - 1
            · rw [decide_eq_true e2,decide_eq_true (by omega)]
            · rw [decide_eq_false e2,decide_eq_false (by omega)]
          · rw [List.length_cons] at h
            have hl:(sd f (spl n) i).length=q.length:=by omega
            dsimp only
            rw [q2 hl,List.reverse_cons,←h,climbI]
            have hk:(sd f (spl n) i).length=(sd f (spl n) i).reverse.length:=by simp
            have n1:nth ((sd f (spl n) i).reverse++[true]) (sd f (spl n) i).length=true:=by rw [hk];exact nth_snoc
            have n2:nth path (sd f (spl n) i).length=x:=by rw [show (sd f (spl n) i).length=path.length - 1 by omega];exact hx
            have n3:climbI path ((sd f (spl n) i).reverse++[true]) b (sd f (spl n) i).length=climbI q (sd f (spl n) i).reverse b (sd f (spl n) i).length:=climbI_congr _ fun j hj=>⟨nth_app (by rw [←hk];exact hj),by rw [hp];exact nth_app (by omega)⟩
            rw [n1,if_pos rfl,n2,n3,hl]
        · rw [if_neg c2,if_neg c2]
          obtain ⟨q1,q2⟩:=clR_eq f (n - spl n) (i - spl n) q (by omega) (by omega) (by omega)
          refine ⟨?_,fun h => ?_⟩
          · dsimp only
            rw [q1,List.length_cons,hpl]
            by_cases e2:(sd f (n - spl n) (i - spl n)).length=path.length - 1
            · rw [decide_eq_true e2,decide_eq_true (by omega)]
            · rw [decide_eq_false e2,decide_eq_false (by omega)]
          · rw [List.length_cons] at h
            have hl:(sd f (n - spl n) (i - spl n)).length=q.length:=by omega
            dsimp only
            rw [q2 hl,List.reverse_cons,←h,climbI]
            generalize sd f (n - spl n) (i - spl n)=S at *
            have hk:S.length=S.reverse.length:=by simp
            have n1:nth (S.reverse++[false]) S.length=false:=by rw [hk];exact nth_snoc
            have n2:nth path S.length=x:=by rw [show S.length=path.length - 1 by omega];exact hx
            have n3:climbI path (S.reverse++[false]) b S.length=climbI q S.reverse b S.length:=climbI_congr _ fun j hj=>⟨nth_app (by rw [←hk];exact hj),by rw [hp];exact nth_app (by omega)⟩
            rw [n1,if_neg (by simp),n2,n3,hl]

def conR (P:List By) (n i:Int) (b:By) (path:List By):Bool :=
  if 1≤n∧n≤65536∧0≤i∧i < n∧pc n.toNat=P.length then (clR n.toNat n.toNat i.toNat b path).2 && decide ((clR n.toNat n.toNat i.toNat b path).1=bagD P) else false

section walks
variable {G:Globs}
set_option maxRecDepth 20000 in
set_option maxHeartbeats 16000000 in
theorem climb_spec : ∀ (f n i:Nat) (_:n≤f) (_:1≤n) (_:n≤65536) (_:i < n) (b:By) (_:b.length≤140737488352000) (path:List By) (_:path.length≤100000) (_ : ∀ d∈path,d.length=32) (H:Hp) (R:AV → Hp → Prop)
    (_:R (.tup [.p (.agg (pl b8 (clR f n i b path).1)),.p (bo (clR f n i b path).2)]) H),ACall Tryd.prog G 56 [.p (.agg [i64 n,i64 i,bs b,.sl false 32 (pl db path)])] H R:=by
  intro f
  induction f with
  | zero=>intro n i h1 h2;omega
  | succ f ih =>
    intro n i h1 h2 h3 h4 b hb path hpl hpm H R h
    have hcb:bs b = .sl false 1 (pl b8 b):=rfl
    rw [clR] at h
    rw [hcb]
    refine ACall.of_run (raw:=[]) Tryd.func56 rfl Tryd.ntmps56 (by simp) fun hbel => ?_
    (repeat refine .z rfl ?_);refine .text ?_;simp (disch:=first|exact dsc|fail) only [go_sem,seval]
    (repeat refine .z rfl ?_);refine .text ?_;simp (disch:=first|exact dsc|fail) only [go_sem,seval]
    by_cases c:n=1
    · have d:((n:Int) == 1)=true:=by rw [c];rfl
      rw [if_pos c] at h
      dsimp only at h
      (repeat refine .z rfl ?_);refine .ifT (by simp (disch:=first|exact dsc|fail) only [go_sem,seval,d]) ?_
      have hz:((path.length:Int) == 0)=decide (path.length=0):=by
        by_cases e:path.length=0
        · rw [e];rfl
        · rw [decide_eq_false e,beq_eq_false_iff_ne];omega
      have hll:=leaf_len b
      have hzz:zeroD.length=32:=rfl
      (repeat refine .z rfl ?_)
      refine .openInv (fun L env' H'=>env' 1 = .ptr H.n 0∧env' 2 = .ptr (H.n+1) 0∧(L 0=true → env' 14 = .ptr H.n 2)∧(L 1=true → env' 15 = .p (.sl false 1 (pl b8 b)))∧(L 2=true → env' 16 = .p (.agg (pl b8 (leaf b))))∧(L 3=true → env' 17 = .ptr H.n 3)∧(L 4=true → env' 18 = .p (.sl false 32 (pl db path)))∧(L 5=true → env' 19 = .p (i64 path.length))∧(L 6=true → env' 20 = .p (bo (decide (path.length=0))))∧(L 8=true → env' 3 = .p (bo (decide (path.length=0))))∧(L 1=true → L 0=true)∧(L 2=true → L 1=true)∧(L 4=true → L 3=true)∧(L 5=true → L 4=true)∧(L 6=true → L 5=true)∧(L 7=true → L 0=true∧L 1=true∧L 2=true)∧(L 8=true → L 0=true∧L 1=true∧L 2=true∧L 3=true∧L 4=true∧L 5=true∧L 6=true∧L 7=true)∧H'=((H.new (.cells [.p (i64 n),.p (i64 i),.p (.sl false 1 (pl b8 b)),.p (.sl false 32 (pl db path))])).new (if L 7 then .cells (cl b8 (leaf b)) else .cells (cl b8 zeroD)))) follows (by kernel_rfl) ?_ ?_ ?_
      · exact ⟨(by simp (disch:=first|exact dsc|fail) only [go_sem,seval,hll,hz,hzz]),(by simp (disch:=first|exact dsc|fail) only [go_sem,seval,hll,hz,hzz]),(fun h=>by cases h),(fun h=>by cases h),(fun h=>by cases h),(fun h=>by cases h),(fun h=>by cases h),(fun h=>by cases h),(fun h=>by cases h),(fun h=>by cases h),(fun h=>by cases h),(fun h=>by cases h),(fun h=>by cases h),(fun h=>by cases h),(fun h=>by cases h),(fun h=>by cases h),(fun h=>by cases h),(by first | rfl | (simp only [Bool.false_eq_true,if_false];first | rfl | (simp (disch:=first|exact dsc|fail) only [go_sem,seval,hll,hz,hzz]<;>rfl)))⟩
      · intro i o L env' H' ho hL hall hI
        obtain ⟨f0,f1,g0,g1,g2,g3,g4,g5,g6,g8,m1,m2,m4,m5,m6,m7,m8,rfl⟩:=hI
        rcases i with _ | _ | _ | _ | _ | _ | _ | _ | _ | i
        · cases ho
          have n1:L 1=false:=Bool.eq_false_iff.2 fun e=>by (have:=m1 e;simp [hL] at this)
          have n7:L 7=false:=Bool.eq_false_iff.2 fun e=>by (have:=m7 e;simp [hL] at this)
          have n8:L 8=false:=Bool.eq_false_iff.2 fun e=>by (have:=m8 e;simp [hL] at this)
          refine opA_val (.ptr H.n 2) rfl rfl (by simp (disch:=first|exact dsc|fail) only [go_sem,seval,reduceIte,Bool.false_eq_true,if_false,if_true,f0,f1,n1,n7,n8,hL,hll,hz,hzz]<;>rfl) rfl ?_
          exact ⟨(by (try simp (disch:=first|exact dsc|fail) only [go_sem,seval]);exact f0),(by (try simp (disch:=first|exact dsc|fail) only [go_sem,seval]);exact f1),(fun _=>by simp (disch:=first|exact dsc|fail) only [go_sem,seval]),(fun q=>by (rw [more_ne (by decide)] at q);(try simp (disch:=first|exact dsc|fail) only [go_sem,seval]);exact g1 q),(fun q=>by (rw [more_ne (by decide)] at q);(try simp (disch:=first|exact dsc|fail) only [go_sem,seval]);exact g2 q),(fun q=>by (rw [more_ne (by decide)] at q);(try simp (disch:=first|exact dsc|fail) only [go_sem,seval]);exact g3 q),(fun q=>by (rw [more_ne (by decide)] at q);(try simp (disch:=first|exact dsc|fail) only [go_sem,seval]);exact g4 q),(fun q=>by (rw [more_ne (by decide)] at q);(try simp (disch:=first|exact dsc|fail) only [go_sem,seval]);exact g5 q),(fun q=>by (rw [more_ne (by decide)] at q);(try simp (disch:=first|exact dsc|fail) only [go_sem,seval]);exact g6 q),(fun q=>by (rw [more_ne (by decide)] at q);(try simp (disch:=first|exact dsc|fail) only [go_sem,seval]);exact g8 q),(fun q=>by (rw [more_ne (by decide)] at q);exact more_t (m1 q)),(fun q=>by (rw [more_ne (by decide)] at q);exact more_t (m2 q)),(fun q=>by (rw [more_ne (by decide)] at q);exact more_t (m4 q)),(fun q=>by (rw [more_ne (by decide)] at q);exact more_t (m5 q)),(fun q=>by (rw [more_ne (by decide)] at q);exact more_t (m6 q)),(fun q=>by (rw [more_ne (by decide)] at q);obtain ⟨q0,q1,q2⟩:=m7 q;exact ⟨more_t q0,more_t q1,more_t q2⟩),(fun q=>by (rw [more_ne (by decide)] at q);obtain ⟨q0,q1,q2,q3,q4,q5,q6,q7⟩:=m8 q;exact ⟨more_t q0,more_t q1,more_t q2,more_t q3,more_t q4,more_t q5,more_t q6,more_t q7⟩),(by (have e7:more L 0 7=L 7:=more_ne (by decide));(try simp only [e7,n7]);first | done | rfl | (simp only [e7,n7,if_true,if_false,Bool.false_eq_true];first | done | rfl | (simp (disch:=first|exact dsc|fail) only [go_sem,seval,e7,n7,hll,hz,hzz]<;>rfl)))⟩
        · cases ho
          have h0:L 0=true:=hall ⟨0,.data⟩ (by simp) rfl
          have d0:=g0 h0
          have n2:L 2=false:=Bool.eq_false_iff.2 fun e=>by (have:=m2 e;simp [hL] at this)
          have n7:L 7=false:=Bool.eq_false_iff.2 fun e=>by (have:=m7 e;simp [hL] at this)
          have n8:L 8=false:=Bool.eq_false_iff.2 fun e=>by (have:=m8 e;simp [hL] at this)
          refine opA_val (.p (.sl false 1 (pl b8 b))) rfl rfl (by simp (disch:=first|exact dsc|fail) only [go_sem,seval,reduceIte,Bool.false_eq_true,if_false,if_true,f0,f1,d0,h0,n2,n7,n8,hL,hll,hz,hzz]<;>rfl) rfl ?_
          exact ⟨(by (try simp (disch:=first|exact dsc|fail) only [go_sem,seval]);exact f0),(by (try simp (disch:=first|exact dsc|fail) only [go_sem,seval]);exact f1),(fun q=>by (rw [more_ne (by decide)] at q);(try simp (disch:=first|exact dsc|fail) only [go_sem,seval]);exact g0 q),(fun _=>by simp (disch:=first|exact dsc|fail) only [go_sem,seval]),(fun q=>by (rw [more_ne (by decide)] at q);(try simp (disch:=first|exact dsc|fail) only [go_sem,seval]);exact g2 q),(fun q=>by (rw [more_ne (by decide)] at q);(try simp (disch:=first|exact dsc|fail) only [go_sem,seval]);exact g3 q),(fun q=>by (rw [more_ne (by decide)] at q);(try simp (disch:=first|exact dsc|fail) only [go_sem,seval]);exact g4 q),(fun q=>by (rw [more_ne (by decide)] at q);(try simp (disch:=first|exact dsc|fail) only [go_sem,seval]);exact g5 q),(fun q=>by (rw [more_ne (by decide)] at q);(try simp (disch:=first|exact dsc|fail) only [go_sem,seval]);exact g6 q),(fun q=>by (rw [more_ne (by decide)] at q);(try simp (disch:=first|exact dsc|fail) only [go_sem,seval]);exact g8 q),(fun _=>more_t h0),(fun q=>by (rw [more_ne (by decide)] at q);exact more_t (m2 q)),(fun q=>by (rw [more_ne (by decide)] at q);exact more_t (m4 q)),(fun q=>by (rw [more_ne (by decide)] at q);exact more_t (m5 q)),(fun q=>by (rw [more_ne (by decide)] at q);exact more_t (m6 q)),(fun q=>by (rw [more_ne (by decide)] at q);obtain ⟨q0,q1,q2⟩:=m7 q;exact ⟨more_t q0,more_t q1,more_t q2⟩),(fun q=>by (rw [more_ne (by decide)] at q);obtain ⟨q0,q1,q2,q3,q4,q5,q6,q7⟩:=m8 q;exact ⟨more_t q0,more_t q1,more_t q2,more_t q3,more_t q4,more_t q5,more_t q6,more_t q7⟩),(by (have e7:more L 1 7=L 7:=more_ne (by decide));(try simp only [e7,n7]);first | done | rfl | (simp only [e7,n7,if_true,if_false,Bool.false_eq_true];first | done | rfl | (simp (disch:=first|exact dsc|fail) only [go_sem,seval,e7,n7,hll,hz,hzz]<;>rfl)))⟩
        · cases ho
          have h1:L 1=true:=hall ⟨1,.data⟩ (by simp) rfl
          have d1:=g1 h1
          have n7:L 7=false:=Bool.eq_false_iff.2 fun e=>by (have:=m7 e;simp [hL] at this)
          have n8:L 8=false:=Bool.eq_false_iff.2 fun e=>by (have:=m8 e;simp [hL] at this)
          (try simp only [n7,if_true,if_false,Bool.false_eq_true])
          refine opA_call rfl rfl (by simp (disch:=first|exact dsc|fail) only [go_sem,seval,reduceIte,Bool.false_eq_true,if_false,if_true,f0,f1,d1,h1,n7,n8,hL,hll,hz,hzz]<;>rfl) rfl (by simp (disch:=first|exact dsc|fail) only [go_sem,seval,reduceIte,Bool.false_eq_true,if_false,if_true,f0,f1,d1,h1,n7,n8,hL,hll,hz,hzz]<;>rfl) (fun R h=>LeafR_spec b (by omega) _ R h) ?_
          exact ⟨(by (try simp (disch:=first|exact dsc|fail) only [go_sem,seval]);exact f0),(by (try simp (disch:=first|exact dsc|fail) only [go_sem,seval]);exact f1),(fun q=>by (rw [more_ne (by decide)] at q);(try simp (disch:=first|exact dsc|fail) only [go_sem,seval]);exact g0 q),(fun q=>by (rw [more_ne (by decide)] at q);(try simp (disch:=first|exact dsc|fail) only [go_sem,seval]);exact g1 q),(fun _=>by simp (disch:=first|exact dsc|fail) only [go_sem,seval]),(fun q=>by (rw [more_ne (by decide)] at q);(try simp (disch:=first|exact dsc|fail) only [go_sem,seval]);exact g3 q),(fun q=>by (rw [more_ne (by decide)] at q);(try simp (disch:=first|exact dsc|fail) only [go_sem,seval]);exact g4 q),(fun q=>by (rw [more_ne (by decide)] at q);(try simp (disch:=first|exact dsc|fail) only [go_sem,seval]);exact g5 q),(fun q=>by (rw [more_ne (by decide)] at q);(try simp (disch:=first|exact dsc|fail) only [go_sem,seval]);exact g6 q),(fun q=>by (rw [more_ne (by decide)] at q);(try simp (disch:=first|exact dsc|fail) only [go_sem,seval]);exact g8 q),(fun q=>by (rw [more_ne (by decide)] at q);exact more_t (m1 q)),(fun _=>more_t h1),(fun q=>by (rw [more_ne (by decide)] at q);exact more_t (m4 q)),(fun q=>by (rw [more_ne (by decide)] at q);exact more_t (m5 q)),(fun q=>by (rw [more_ne (by decide)] at q);exact more_t (m6 q)),(fun q=>by (rw [more_ne (by decide)] at q);obtain ⟨q0,q1,q2⟩:=m7 q;exact ⟨more_t q0,more_t q1,more_t q2⟩),(fun q=>by (rw [more_ne (by decide)] at q);obtain ⟨q0,q1,q2,q3,q4,q5,q6,q7⟩:=m8 q;exact ⟨more_t q0,more_t q1,more_t q2,more_t q3,more_t q4,more_t q5,more_t q6,more_t q7⟩),(by (have e7:more L 2 7=L 7:=more_ne (by decide));(try simp only [e7,n7]);first | done | rfl | (simp only [e7,n7,if_true,if_false,Bool.false_eq_true];first | done | rfl | (simp (disch:=first|exact dsc|fail) only [go_sem,seval,e7,n7,hll,hz,hzz]<;>rfl)))⟩
        · cases ho
          have n4:L 4=false:=Bool.eq_false_iff.2 fun e=>by (have:=m4 e;simp [hL] at this)
          have n8:L 8=false:=Bool.eq_false_iff.2 fun e=>by (have:=m8 e;simp [hL] at this)
          refine opA_val (.ptr H.n 3) rfl rfl (by simp (disch:=first|exact dsc|fail) only [go_sem,seval,reduceIte,Bool.false_eq_true,if_false,if_true,f0,f1,n4,n8,hL,hll,hz,hzz]<;>rfl) rfl ?_
          exact ⟨(by (try simp (disch:=first|exact dsc|fail) only [go_sem,seval]);exact f0),(by (try simp (disch:=first|exact dsc|fail) only [go_sem,seval]);exact f1),(fun q=>by (rw [more_ne (by decide)] at q);(try simp (disch:=first|exact dsc|fail) only [go_sem,seval]);exact g0 q),(fun q=>by (rw [more_ne (by decide)] at q);(try simp (disch:=first|exact dsc|fail) only [go_sem,seval]);exact g1 q),(fun q=>by (rw [more_ne (by decide)] at q);(try simp (disch:=first|exact dsc|fail) only [go_sem,seval]);exact g2 q),(fun _=>by simp (disch:=first|exact dsc|fail) only [go_sem,seval]),(fun q=>by (rw [more_ne (by decide)] at q);(try simp (disch:=first|exact dsc|fail) only [go_sem,seval]);exact g4 q),(fun q=>by (rw [more_ne (by decide)] at q);(try simp (disch:=first|exact dsc|fail) only [go_sem,seval]);exact g5 q),(fun q=>by (rw [more_ne (by decide)] at q);(try simp (disch:=first|exact dsc|fail) only [go_sem,seval]);exact g6 q),(fun q=>by (rw [more_ne (by decide)] at q);(try simp (disch:=first|exact dsc|fail) only [go_sem,seval]);exact g8 q),(fun q=>by (rw [more_ne (by decide)] at q);exact more_t (m1 q)),(fun q=>by (rw [more_ne (by decide)] at q);exact more_t (m2 q)),(fun q=>by (rw [more_ne (by decide)] at q);exact more_t (m4 q)),(fun q=>by (rw [more_ne (by decide)] at q);exact more_t (m5 q)),(fun q=>by (rw [more_ne (by decide)] at q);exact more_t (m6 q)),(fun q=>by (rw [more_ne (by decide)] at q);obtain ⟨q0,q1,q2⟩:=m7 q;exact ⟨more_t q0,more_t q1,more_t q2⟩),(fun q=>by (rw [more_ne (by decide)] at q);obtain ⟨q0,q1,q2,q3,q4,q5,q6,q7⟩:=m8 q;exact ⟨more_t q0,more_t q1,more_t q2,more_t q3,more_t q4,more_t q5,more_t q6,more_t q7⟩),(by (have e7:more L 3 7=L 7:=more_ne (by decide));(try simp only [e7]);first | done | rfl | (simp only [e7,if_true,if_false,Bool.false_eq_true];first | done | rfl | (simp (disch:=first|exact dsc|fail) only [go_sem,seval,e7,hll,hz,hzz]<;>rfl)))⟩
        · cases ho
          have h3:L 3=true:=hall ⟨3,.data⟩ (by simp) rfl
          have d3:=g3 h3
          have n5:L 5=false:=Bool.eq_false_iff.2 fun e=>by (have:=m5 e;simp [hL] at this)
          have n8:L 8=false:=Bool.eq_false_iff.2 fun e=>by (have:=m8 e;simp [hL] at this)
          refine opA_val (.p (.sl false 32 (pl db path))) rfl rfl (by simp (disch:=first|exact dsc|fail) only [go_sem,seval,reduceIte,Bool.false_eq_true,if_false,if_true,f0,f1,d3,h3,n5,n8,hL,hll,hz,hzz]<;>rfl) rfl ?_
          exact ⟨(by (try simp (disch:=first|exact dsc|fail) only [go_sem,seval]);exact f0),(by (try simp (disch:=first|exact dsc|fail) only [go_sem,seval]);exact f1),(fun q=>by (rw [more_ne (by decide)] at q);(try simp (disch:=first|exact dsc|fail) only [go_sem,seval]);exact g0 q),(fun q=>by (rw [more_ne (by decide)] at q);(try simp (disch:=first|exact dsc|fail) only [go_sem,seval]);exact g1 q),(fun q=>by (rw [more_ne (by decide)] at q);(try simp (disch:=first|exact dsc|fail) only [go_sem,seval]);exact g2 q),(fun q=>by (rw [more_ne (by decide)] at q);(try simp (disch:=first|exact dsc|fail) only [go_sem,seval]);exact g3 q),(fun _=>by simp (disch:=first|exact dsc|fail) only [go_sem,seval]),(fun q=>by (rw [more_ne (by decide)] at q);(try simp (disch:=first|exact dsc|fail) only [go_sem,seval]);exact g5 q),(fun q=>by (rw [more_ne (by decide)] at q);(try simp (disch:=first|exact dsc|fail) only [go_sem,seval]);exact g6 q),(fun q=>by (rw [more_ne (by decide)] at q);(try simp (disch:=first|exact dsc|fail) only [go_sem,seval]);exact g8 q),(fun q=>by (rw [more_ne (by decide)] at q);exact more_t (m1 q)),(fun q=>by (rw [more_ne (by decide)] at q);exact more_t (m2 q)),(fun _=>more_t h3),(fun q=>by (rw [more_ne (by decide)] at q);exact more_t (m5 q)),(fun q=>by (rw [more_ne (by decide)] at q);exact more_t (m6 q)),(fun q=>by (rw [more_ne (by decide)] at q);obtain ⟨q0,q1,q2⟩:=m7 q;exact ⟨more_t q0,more_t q1,more_t q2⟩),(fun q=>by (rw [more_ne (by decide)] at q);obtain ⟨q0,q1,q2,q3,q4,q5,q6,q7⟩:=m8 q;exact ⟨more_t q0,more_t q1,more_t q2,more_t q3,more_t q4,more_t q5,more_t q6,more_t q7⟩),(by (have e7:more L 4 7=L 7:=more_ne (by decide));(try simp only [e7]);first | done | rfl | (simp only [e7,if_true,if_false,Bool.false_eq_true];first | done | rfl | (simp (disch:=first|exact dsc|fail) only [go_sem,seval,e7,hll,hz,hzz]<;>rfl)))⟩
        · cases ho
          have h4:L 4=true:=hall ⟨4,.data⟩ (by simp) rfl
          have d4:=g4 h4
          have n6:L 6=false:=Bool.eq_false_iff.2 fun e=>by (have:=m6 e;simp [hL] at this)
          have n8:L 8=false:=Bool.eq_false_iff.2 fun e=>by (have:=m8 e;simp [hL] at this)
          refine opA_val (.p (i64 path.length)) rfl rfl (by simp (disch:=first|exact dsc|fail) only [go_sem,seval,reduceIte,Bool.false_eq_true,if_false,if_true,f0,f1,d4,h4,n6,n8,hL,hll,hz,hzz]<;>rfl) rfl ?_
          exact ⟨(by (try simp (disch:=first|exact dsc|fail) only [go_sem,seval]);exact f0),(by (try simp (disch:=first|exact dsc|fail) only [go_sem,seval]);exact f1),(fun q=>by (rw [more_ne (by decide)] at q);(try simp (disch:=first|exact dsc|fail) only [go_sem,seval]);exact g0 q),(fun q=>by (rw [more_ne (by decide)] at q);(try simp (disch:=first|exact dsc|fail) only [go_sem,seval]);exact g1 q),(fun q=>by (rw [more_ne (by decide)] at q);(try simp (disch:=first|exact dsc|fail) only [go_sem,seval]);exact g2 q),(fun q=>by (rw [more_ne (by decide)] at q);(try simp (disch:=first|exact dsc|fail) only [go_sem,seval]);exact g3 q),(fun q=>by (rw [more_ne (by decide)] at q);(try simp (disch:=first|exact dsc|fail) only [go_sem,seval]);exact g4 q),(fun _=>by simp (disch:=first|exact dsc|fail) only [go_sem,seval]),(fun q=>by (rw [more_ne (by decide)] at q);(try simp (disch:=first|exact dsc|fail) only [go_sem,seval]);exact g6 q),(fun q=>by (rw [more_ne (by decide)] at q);(try simp (disch:=first|exact dsc|fail) only [go_sem,seval]);exact g8 q),(fun q=>by (rw [more_ne (by decide)] at q);exact more_t (m1 q)),(fun q=>by (rw [more_ne (by decide)] at q);exact more_t (m2 q)),(fun q=>by (rw [more_ne (by decide)] at q);exact more_t (m4 q)),(fun _=>more_t h4),(fun q=>by (rw [more_ne (by decide)] at q);exact more_t (m6 q)),(fun q=>by (rw [more_ne (by decide)] at q);obtain ⟨q0,q1,q2⟩:=m7 q;exact ⟨more_t q0,more_t q1,more_t q2⟩),(fun q=>by (rw [more_ne (by decide)] at q);obtain ⟨q0,q1,q2,q3,q4,q5,q6,q7⟩:=m8 q;exact ⟨more_t q0,more_t q1,more_t q2,more_t q3,more_t q4,more_t q5,more_t q6,more_t q7⟩),(by (have e7:more L 5 7=L 7:=more_ne (by decide));(try simp only [e7]);first | done | rfl | (simp only [e7,if_true,if_false,Bool.false_eq_true];first | done | rfl | (simp (disch:=first|exact dsc|fail) only [go_sem,seval,e7,hll,hz,hzz]<;>rfl)))⟩
        · cases ho
          have h5:L 5=true:=hall ⟨5,.data⟩ (by simp) rfl
          have d5:=g5 h5
          have n8:L 8=false:=Bool.eq_false_iff.2 fun e=>by (have:=m8 e;simp [hL] at this)
          refine opA_val (.p (bo (decide (path.length=0)))) rfl rfl (by simp (disch:=first|exact dsc|fail) only [go_sem,seval,reduceIte,Bool.false_eq_true,if_false,if_true,f0,f1,d5,h5,n8,hL,hll,hz,hzz]<;>rfl) rfl ?_
          exact ⟨(by (try simp (disch:=first|exact dsc|fail) only [go_sem,seval]);exact f0),(by (try simp (disch:=first|exact dsc|fail) only [go_sem,seval]);exact f1),(fun q=>by (rw [more_ne (by decide)] at q);(try simp (disch:=first|exact dsc|fail) only [go_sem,seval]);exact g0 q),(fun q=>by (rw [more_ne (by decide)] at q);(try simp (disch:=first|exact dsc|fail) only [go_sem,seval]);exact g1 q),(fun q=>by (rw [more_ne (by decide)] at q);(try simp (disch:=first|exact dsc|fail) only [go_sem,seval]);exact g2 q),(fun q=>by (rw [more_ne (by decide)] at q);(try simp (disch:=first|exact dsc|fail) only [go_sem,seval]);exact g3 q),(fun q=>by (rw [more_ne (by decide)] at q);(try simp (disch:=first|exact dsc|fail) only [go_sem,seval]);exact g4 q),(fun q=>by (rw [more_ne (by decide)] at q);(try simp (disch:=first|exact dsc|fail) only [go_sem,seval]);exact g5 q),(fun _=>by simp (disch:=first|exact dsc|fail) only [go_sem,seval]),(fun q=>by (rw [more_ne (by decide)] at q);(try simp (disch:=first|exact dsc|fail) only [go_sem,seval]);exact g8 q),(fun q=>by (rw [more_ne (by decide)] at q);exact more_t (m1 q)),(fun q=>by (rw [more_ne (by decide)] at q);exact more_t (m2 q)),(fun q=>by (rw [more_ne (by decide)] at q);exact more_t (m4 q)),(fun q=>by (rw [more_ne (by decide)] at q);exact more_t (m5 q)),(fun _=>more_t h5),(fun q=>by (rw [more_ne (by decide)] at q);obtain ⟨q0,q1,q2⟩:=m7 q;exact ⟨more_t q0,more_t q1,more_t q2⟩),(fun q=>by (rw [more_ne (by decide)] at q);obtain ⟨q0,q1,q2,q3,q4,q5,q6,q7⟩:=m8 q;exact ⟨more_t q0,more_t q1,more_t q2,more_t q3,more_t q4,more_t q5,more_t q6,more_t q7⟩),(by (have e7:more L 6 7=L 7:=more_ne (by decide));(try simp only [e7]);first | done | rfl | (simp only [e7,if_true,if_false,Bool.false_eq_true];first | done | rfl | (simp (disch:=first|exact dsc|fail) only [go_sem,seval,e7,hll,hz,hzz]<;>rfl)))⟩
        · cases ho
          have h2:L 2=true:=hall ⟨2,.data⟩ (by simp) rfl
          have d2:=g2 h2
          have h0:L 0=true:=hall ⟨0,.phase⟩ (by simp) rfl
          have d0:=g0 h0
          have h1:L 1=true:=hall ⟨1,.phase⟩ (by simp) rfl
          have d1:=g1 h1
          have n8:L 8=false:=Bool.eq_false_iff.2 fun e=>by (have:=m8 e;simp [hL] at this)
          refine opA_unit rfl rfl (by simp (disch:=first|exact dsc|fail) only [go_sem,seval,reduceIte,Bool.false_eq_true,if_false,if_true,f0,f1,d0,d1,d2,h0,h1,h2,n8,hL,hll,hz,hzz]<;>rfl) rfl ?_
          exact ⟨(by (try simp (disch:=first|exact dsc|fail) only [go_sem,seval]);exact f0),(by (try simp (disch:=first|exact dsc|fail) only [go_sem,seval]);exact f1),(fun q=>by (rw [more_ne (by decide)] at q);(try simp (disch:=first|exact dsc|fail) only [go_sem,seval]);exact g0 q),(fun q=>by (rw [more_ne (by decide)] at q);(try simp (disch:=first|exact dsc|fail) only [go_sem,seval]);exact g1 q),(fun q=>by (rw [more_ne (by decide)] at q);(try simp (disch:=first|exact dsc|fail) only [go_sem,seval]);exact g2 q),(fun q=>by (rw [more_ne (by decide)] at q);(try simp (disch:=first|exact dsc|fail) only [go_sem,seval]);exact g3 q),(fun q=>by (rw [more_ne (by decide)] at q);(try simp (disch:=first|exact dsc|fail) only [go_sem,seval]);exact g4 q),(fun q=>by (rw [more_ne (by decide)] at q);(try simp (disch:=first|exact dsc|fail) only [go_sem,seval]);exact g5 q),(fun q=>by (rw [more_ne (by decide)] at q);(try simp (disch:=first|exact dsc|fail) only [go_sem,seval]);exact g6 q),(fun q=>by (rw [more_ne (by decide)] at q);(try simp (disch:=first|exact dsc|fail) only [go_sem,seval]);exact g8 q),(fun q=>by (rw [more_ne (by decide)] at q);exact more_t (m1 q)),(fun q=>by (rw [more_ne (by decide)] at q);exact more_t (m2 q)),(fun q=>by (rw [more_ne (by decide)] at q);exact more_t (m4 q)),(fun q=>by (rw [more_ne (by decide)] at q);exact more_t (m5 q)),(fun q=>by (rw [more_ne (by decide)] at q);exact more_t (m6 q)),(fun _=>⟨more_t h0,more_t h1,more_t h2⟩),(fun q=>by (rw [more_ne (by decide)] at q);obtain ⟨q0,q1,q2,q3,q4,q5,q6,q7⟩:=m8 q;exact ⟨more_t q0,more_t q1,more_t q2,more_t q3,more_t q4,more_t q5,more_t q6,more_t q7⟩),(by (have e7:more L 7 7=true:=more_eq);(try simp only [e7,hL]);first | done | rfl | (simp only [e7,hL,if_true,if_false,Bool.false_eq_true];first | done | rfl | (simp (disch:=first|exact dsc|fail) only [go_sem,seval,e7,hL,hll,hz,hzz]<;>rfl)))⟩
        · cases ho
          have h6:L 6=true:=hall ⟨6,.data⟩ (by simp) rfl
          have d6:=g6 h6
          have h7:L 7=true:=hall ⟨7,.chain⟩ (by simp) rfl
          have h0:L 0=true:=hall ⟨0,.phase⟩ (by simp) rfl
          have d0:=g0 h0
          have h1:L 1=true:=hall ⟨1,.phase⟩ (by simp) rfl
          have d1:=g1 h1
          have h2:L 2=true:=hall ⟨2,.phase⟩ (by simp) rfl
          have d2:=g2 h2
          have h3:L 3=true:=hall ⟨3,.phase⟩ (by simp) rfl
          have d3:=g3 h3
          have h4:L 4=true:=hall ⟨4,.phase⟩ (by simp) rfl
          have d4:=g4 h4
          have h5:L 5=true:=hall ⟨5,.phase⟩ (by simp) rfl
          have d5:=g5 h5
          refine opA_val (.p (bo (decide (path.length=0)))) rfl rfl (by simp (disch:=first|exact dsc|fail) only [go_sem,seval,reduceIte,Bool.false_eq_true,if_false,if_true,f0,f1,d0,d1,d2,d3,d4,d5,d6,h0,h1,h2,h3,h4,h5,h6,h7,hL,hll,hz,hzz]<;>rfl) rfl ?_
          exact ⟨(by (try simp (disch:=first|exact dsc|fail) only [go_sem,seval]);exact f0),(by (try simp (disch:=first|exact dsc|fail) only [go_sem,seval]);exact f1),(fun q=>by (rw [more_ne (by decide)] at q);(try simp (disch:=first|exact dsc|fail) only [go_sem,seval]);exact g0 q),(fun q=>by (rw [more_ne (by decide)] at q);(try simp (disch:=first|exact dsc|fail) only [go_sem,seval]);exact g1 q),(fun q=>by (rw [more_ne (by decide)] at q);(try simp (disch:=first|exact dsc|fail) only [go_sem,seval]);exact g2 q),(fun q=>by (rw [more_ne (by decide)] at q);(try simp (disch:=first|exact dsc|fail) only [go_sem,seval]);exact g3 q),(fun q=>by (rw [more_ne (by decide)] at q);(try simp (disch:=first|exact dsc|fail) only [go_sem,seval]);exact g4 q),(fun q=>by (rw [more_ne (by decide)] at q);(try simp (disch:=first|exact dsc|fail) only [go_sem,seval]);exact g5 q),(fun q=>by (rw [more_ne (by decide)] at q);(try simp (disch:=first|exact dsc|fail) only [go_sem,seval]);exact g6 q),(fun _=>by simp (disch:=first|exact dsc|fail) only [go_sem,seval]),(fun q=>by (rw [more_ne (by decide)] at q);exact more_t (m1 q)),(fun q=>by (rw [more_ne (by decide)] at q);exact more_t (m2 q)),(fun q=>by (rw [more_ne (by decide)] at q);exact more_t (m4 q)),(fun q=>by (rw [more_ne (by decide)] at q);exact more_t (m5 q)),(fun q=>by (rw [more_ne (by decide)] at q);exact more_t (m6 q)),(fun q=>by (rw [more_ne (by decide)] at q);obtain ⟨q0,q1,q2⟩:=m7 q;exact ⟨more_t q0,more_t q1,more_t q2⟩),(fun _=>⟨more_t h0,more_t h1,more_t h2,more_t h3,more_t h4,more_t h5,more_t h6,more_t h7⟩),(by (have e7:more L 8 7=L 7:=more_ne (by decide));(try simp only [e7,h7]);first | done | rfl | (simp only [e7,h7,if_true,if_false,Bool.false_eq_true];first | done | rfl | (simp (disch:=first|exact dsc|fail) only [go_sem,seval,e7,h7,hll,hz,hzz]<;>rfl)))⟩
        · simp at ho
      · intro L env' H' hall hI
        obtain ⟨f0,f1,g0,g1,g2,g3,g4,g5,g6,g8,_,_,_,_,_,_,_,rfl⟩:=hI
        have l7:=hall 7 (by decide)
        replace g0:=g0 (hall 0 (by decide))
        replace g1:=g1 (hall 1 (by decide))
        replace g2:=g2 (hall 2 (by decide))
        replace g3:=g3 (hall 3 (by decide))
        replace g4:=g4 (hall 4 (by decide))
        replace g5:=g5 (hall 5 (by decide))
        replace g6:=g6 (hall 6 (by decide))
        replace g8:=g8 (hall 8 (by decide))
        simp only [l7,if_true]
        clear hall
        (repeat refine .z rfl ?_);refine .rt Tryd.func56 (by rw [Tryd.results56]) (hx:=by simp (disch:=first|exact dsc|fail) only [go_sem,seval,f1,g8,ares_ct,optTup_some];rfl) (hR := ?_);simp (disch:=first|exact dsc|fail) only [go_sem,seval,f1,g8,ares_ct,optTup_some]
        exact h
    · have d:((n:Int) == 1)=false:=by rw [beq_eq_false_iff_ne];omega
      rw [if_neg c] at h
      (repeat refine .z rfl ?_);refine .ifF (by simp (disch:=first|exact dsc|fail) only [go_sem,seval,d]) ?_
      (repeat refine .z rfl ?_);refine .text ?_;simp (disch:=first|exact dsc|fail) only [go_sem,seval]
      by_cases e:path.length=0
      · have d2:((path.length:Int) == 0)=true:=by rw [e];rfl
        rw [if_pos e] at h
        dsimp only at h
        (repeat refine .z rfl ?_);refine .ifT (by simp (disch:=first|exact dsc|fail) only [go_sem,seval,d2]) ?_
        (repeat refine .z rfl ?_);refine .text ?_;simp (disch:=first|exact dsc|fail) only [go_sem,seval]
        (repeat refine .z rfl ?_);refine .rt Tryd.func56 (by rw [Tryd.results56]) (hx:=by simp (disch:=first|exact dsc|fail) only [go_sem,seval,ares_ct,optTup_some];rfl) (hR := ?_);simp (disch:=first|exact dsc|fail) only [go_sem,seval,ares_ct,optTup_some]
        exact h
      · have d2:((path.length:Int) == 0)=false:=by rw [beq_eq_false_iff_ne];omega
        rw [if_neg e] at h
        have hs:=spl_lt (n:=n) (by omega)
        have hzz:zeroD.length=32:=rfl
        have hn2:(nth path (path.length - 1)).length=32:=hpm _ (nth_mem (by omega))
        have hl1:(path.length:Int) - 1=((path.length - 1:Nat):Int):=by omega
        have hqm : ∀ d∈path.take (path.length - 1),d.length=32:=fun d hd=>hpm d (List.mem_of_mem_take hd)
        have hql:(path.take (path.length - 1)).length=path.length - 1:=by rw [List.length_take];omega
        have hsub:(n:Int) - ((spl n:Nat):Int)=((n - spl n:Nat):Int):=by omega
        (repeat refine .z rfl ?_);refine .ifF (by simp (disch:=first|exact dsc|fail) only [go_sem,seval,d2]) ?_
        generalize hx:nth path (path.length - 1)=x at *
        have hsp:=splitR_spec (G:=G) n (by omega) (by omega)
        generalize spl n=k at *
        obtain ⟨H1,hH1⟩ : ∃ H1,H1=(H.new (.cells [.p (i64 n),.p (i64 i),.p (.sl false 1 (pl b8 b)),.p (.sl false 32 (pl db path))])).new (.cells (cl b8 zeroD)):=⟨_,rfl⟩
        have hn1:H1.n=H.n+2:=by rw [hH1];simp (disch:=first|exact dsc|fail) only [go_sem,seval]
        have hb1:H1.f H.n=some (.cells [.p (i64 n),.p (i64 i),.p (.sl false 1 (pl b8 b)),.p (.sl false 32 (pl db path))]):=by rw [hH1];simp (disch:=first|exact dsc|fail) only [go_sem,seval]
        have hfb : ∀ (p:Prop) [Decidable p] (X:AB),(if p then H1.new X else H1).f H.n=some (.cells [.p (i64 n),.p (i64 i),.p (.sl false 1 (pl b8 b)),.p (.sl false 32 (pl db path))]):=fun p _ X=>by
          split
          · rw [f_new_ne (by omega)];exact hb1
          · exact hb1
        rw [zeroL,←hH1]
        (repeat refine .z rfl ?_)
        refine .openInv (fun L env' H'=>env' 1 = .ptr H.n 0∧env' 2 = .ptr (H.n+1) 0∧(L 0=true → env' 26 = .ptr H.n 0)∧(L 1=true → env' 27 = .p (i64 n))∧(L 2=true → env' 28 = .p (i64 (k:Nat)))∧(L 3=true → env' 29 = .ptr H.n 3)∧(L 4=true → env' 30 = .p (.sl false 32 (pl db path)))∧(L 5=true → env' 31 = .ptr H.n 3)∧(L 6=true → env' 32 = .p (.sl false 32 (pl db path)))∧(L 7=true → env' 33 = .p (i64 path.length))∧(L 8=true → env' 34 = .p (i64 (path.length - 1:Nat)))∧(L 9=true → env' 35 = .ip 32 (pl db path) (path.length - 1) 0)∧(L 10=true → env' 36 = .p (.agg (pl b8 x)))∧(L 11=true → env' 5 = .ptr (H.n+2) 0)∧(L 12=true → env' 4 = .p (i64 (k:Nat)))∧(L 1=true → L 0=true)∧(L 2=true → L 1=true)∧(L 4=true → L 3=true)∧(L 6=true → L 5=true)∧(L 7=true → L 6=true)∧(L 8=true → L 7=true)∧(L 9=true → L 4=true∧L 8=true)∧(L 10=true → L 9=true)∧(L 12=true → L 0=true∧L 1=true∧L 2=true∧L 11=true)∧(L 13=true → L 0=true∧L 1=true∧L 2=true∧L 3=true∧L 4=true∧L 5=true∧L 6=true∧L 7=true∧L 8=true∧L 9=true∧L 10=true∧L 11=true∧L 12=true)∧H'=(if L 11 then H1.new (if L 13 then .cells (cl b8 x) else .cells (cl b8 zeroD)) else H1)) follows (by kernel_rfl) ?_ ?_ ?_
        · exact ⟨(by simp (disch:=first|exact dsc|fail) only [go_sem,seval,hl1,hx,hn2,cells_db,aggOf_db hn2,hfb,hn1,hzz]),(by simp (disch:=first|exact dsc|fail) only [go_sem,seval,hl1,hx,hn2,cells_db,aggOf_db hn2,hfb,hn1,hzz]),(fun h=>by cases h),(fun h=>by cases h),(fun h=>by cases h),(fun h=>by cases h),(fun h=>by cases h),(fun h=>by cases h),(fun h=>by cases h),(fun h=>by cases h),(fun h=>by cases h),(fun h=>by cases h),(fun h=>by cases h),(fun h=>by cases h),(fun h=>by cases h),(fun h=>by cases h),(fun h=>by cases h),(fun h=>by cases h),(fun h=>by cases h),(fun h=>by cases h),(fun h=>by cases h),(fun h=>by cases h),(fun h=>by cases h),(fun h=>by cases h),(fun h=>by cases h),(by first | rfl | (simp only [Bool.false_eq_true,if_false];first | rfl | (simp (disch:=first|exact dsc|fail) only [go_sem,seval,hl1,hx,hn2,cells_db,aggOf_db hn2,hfb,hn1,hzz]<;>rfl)))⟩
        · intro i o L env' H' ho hL hall hI
          obtain ⟨f0,f1,g0,g1,g2,g3,g4,g5,g6,g7,g8,g9,g10,g11,g12,m1,m2,m4,m6,m7,m8,m9,m10,m12,m13,rfl⟩:=hI
          rcases i with _ | _ | _ | _ | _ | _ | _ | _ | _ | _ | _ | _ | _ | _ | i
          · cases ho
            have n1:L 1=false:=Bool.eq_false_iff.2 fun e=>by (have:=m1 e;simp [hL] at this)
            have n12:L 12=false:=Bool.eq_false_iff.2 fun e=>by (have:=m12 e;simp [hL] at this)
            have n13:L 13=false:=Bool.eq_false_iff.2 fun e=>by (have:=m13 e;simp [hL] at this)
            refine opA_val (.ptr H.n 0) rfl rfl (by simp (disch:=first|exact dsc|fail) only [go_sem,seval,reduceIte,Bool.false_eq_true,if_false,if_true,f0,f1,n1,n12,n13,hL,hl1,hx,hn2,cells_db,aggOf_db hn2,hfb,hn1,hzz]<;>rfl) rfl ?_
            exact ⟨(by (try simp (disch:=first|exact dsc|fail) only [go_sem,seval]);exact f0),(by (try simp (disch:=first|exact dsc|fail) only [go_sem,seval]);exact f1),(fun _=>by simp (disch:=first|exact dsc|fail) only [go_sem,seval]),(fun q=>by (rw [more_ne (by decide)] at q);(try simp (disch:=first|exact dsc|fail) only [go_sem,seval]);exact g1 q),(fun q=>by (rw [more_ne (by decide)] at q);(try simp (disch:=first|exact dsc|fail) only [go_sem,seval]);exact g2 q),(fun q=>by (rw [more_ne (by decide)] at q);(try simp (disch:=first|exact dsc|fail) only [go_sem,seval]);exact g3 q),(fun q=>by (rw [more_ne (by decide)] at q);(try simp (disch:=first|exact dsc|fail) only [go_sem,seval]);exact g4 q),(fun q=>by (rw [more_ne (by decide)] at q);(try simp (disch:=first|exact dsc|fail) only [go_sem,seval]);exact g5 q),(fun q=>by (rw [more_ne (by decide)] at q);(try simp (disch:=first|exact dsc|fail) only [go_sem,seval]);exact g6 q),(fun q=>by (rw [more_ne (by decide)] at q);(try simp (disch:=first|exact dsc|fail) only [go_sem,seval]);exact g7 q),(fun q=>by (rw [more_ne (by decide)] at q);(try simp (disch:=first|exact dsc|fail) only [go_sem,seval]);exact g8 q),(fun q=>by (rw [more_ne (by decide)] at q);(try simp (disch:=first|exact dsc|fail) only [go_sem,seval]);exact g9 q),(fun q=>by (rw [more_ne (by decide)] at q);(try simp (disch:=first|exact dsc|fail) only [go_sem,seval]);exact g10 q),(fun q=>by (rw [more_ne (by decide)] at q);(try simp (disch:=first|exact dsc|fail) only [go_sem,seval]);exact g11 q),(fun q=>by (rw [more_ne (by decide)] at q);(try simp (disch:=first|exact dsc|fail) only [go_sem,seval]);exact g12 q),(fun q=>by (rw [more_ne (by decide)] at q);exact more_t (m1 q)),(fun q=>by (rw [more_ne (by decide)] at q);exact more_t (m2 q)),(fun q=>by (rw [more_ne (by decide)] at q);exact more_t (m4 q)),(fun q=>by (rw [more_ne (by decide)] at q);exact more_t (m6 q)),(fun q=>by (rw [more_ne (by decide)] at q);exact more_t (m7 q)),(fun q=>by (rw [more_ne (by decide)] at q);exact more_t (m8 q)),(fun q=>by (rw [more_ne (by decide)] at q);obtain ⟨q4,q8⟩:=m9 q;exact ⟨more_t q4,more_t q8⟩),(fun q=>by (rw [more_ne (by decide)] at q);exact more_t (m10 q)),(fun q=>by (rw [more_ne (by decide)] at q);obtain ⟨q0,q1,q2,q11⟩:=m12 q;exact ⟨more_t q0,more_t q1,more_t q2,more_t q11⟩),(fun q=>by (rw [more_ne (by decide)] at q);obtain ⟨q0,q1,q2,q3,q4,q5,q6,q7,q8,q9,q10,q11,q12⟩:=m13 q;exact ⟨more_t q0,more_t q1,more_t q2,more_t q3,more_t q4,more_t q5,more_t q6,more_t q7,more_t q8,more_t q9,more_t q10,more_t q11,more_t q12⟩),(by (have e11:more L 0 11=L 11:=more_ne (by decide));(have e13:more L 0 13=L 13:=more_ne (by decide));(try simp only [e11,e13,n13]);first | done | rfl | (simp only [e11,e13,n13,if_true,if_false,Bool.false_eq_true];first | done | rfl | (simp (disch:=first|exact dsc|fail) only [go_sem,seval,e11,e13,n13,hl1,hx,hn2,cells_db,aggOf_db hn2,hfb,hn1,hzz]<;>rfl)))⟩
          · cases ho
            have h0:L 0=true:=hall ⟨0,.data⟩ (by simp) rfl
            have d0:=g0 h0
            have n2:L 2=false:=Bool.eq_false_iff.2 fun e=>by (have:=m2 e;simp [hL] at this)
            have n12:L 12=false:=Bool.eq_false_iff.2 fun e=>by (have:=m12 e;simp [hL] at this)
            have n13:L 13=false:=Bool.eq_false_iff.2 fun e=>by (have:=m13 e;simp [hL] at this)
            refine opA_val (.p (i64 n)) rfl rfl (by simp (disch:=first|exact dsc|fail) only [go_sem,seval,reduceIte,Bool.false_eq_true,if_false,if_true,f0,f1,d0,h0,n2,n12,n13,hL,hl1,hx,hn2,cells_db,aggOf_db hn2,hfb,hn1,hzz]<;>rfl) rfl ?_
            exact ⟨(by (try simp (disch:=first|exact dsc|fail) only [go_sem,seval]);exact f0),(by (try simp (disch:=first|exact dsc|fail) only [go_sem,seval]);exact f1),(fun q=>by (rw [more_ne (by decide)] at q);(try simp (disch:=first|exact dsc|fail) only [go_sem,seval]);exact g0 q),(fun _=>by simp (disch:=first|exact dsc|fail) only [go_sem,seval]),(fun q=>by (rw [more_ne (by decide)] at q);(try simp (disch:=first|exact dsc|fail) only [go_sem,seval]);exact g2 q),(fun q=>by (rw [more_ne (by decide)] at q);(try simp (disch:=first|exact dsc|fail) only [go_sem,seval]);exact g3 q),(fun q=>by (rw [more_ne (by decide)] at q);(try simp (disch:=first|exact dsc|fail) only [go_sem,seval]);exact g4 q),(fun q=>by (rw [more_ne (by decide)] at q);(try simp (disch:=first|exact dsc|fail) only [go_sem,seval]);exact g5 q),(fun q=>by (rw [more_ne (by decide)] at q);(try simp (disch:=first|exact dsc|fail) only [go_sem,seval]);exact g6 q),(fun q=>by (rw [more_ne (by decide)] at q);(try simp (disch:=first|exact dsc|fail) only [go_sem,seval]);exact g7 q),(fun q=>by (rw [more_ne (by decide)] at q);(try simp (disch:=first|exact dsc|fail) only [go_sem,seval]);exact g8 q),(fun q=>by (rw [more_ne (by decide)] at q);(try simp (disch:=first|exact dsc|fail) only [go_sem,seval]);exact g9 q),(fun q=>by (rw [more_ne (by decide)] at q);(try simp (disch:=first|exact dsc|fail) only [go_sem,seval]);exact g10 q),(fun q=>by (rw [more_ne (by decide)] at q);(try simp (disch:=first|exact dsc|fail) only [go_sem,seval]);exact g11 q),(fun q=>by (rw [more_ne (by decide)] at q);(try simp (disch:=first|exact dsc|fail) only [go_sem,seval]);exact g12 q),(fun _=>more_t h0),(fun q=>by (rw [more_ne (by decide)] at q);exact more_t (m2 q)),(fun q=>by (rw [more_ne (by decide)] at q);exact more_t (m4 q)),(fun q=>by (rw [more_ne (by decide)] at q);exact more_t (m6 q)),(fun q=>by (rw [more_ne (by decide)] at q);exact more_t (m7 q)),(fun q=>by (rw [more_ne (by decide)] at q);exact more_t (m8 q)),(fun q=>by (rw [more_ne (by decide)] at q);obtain ⟨q4,q8⟩:=m9 q;exact ⟨more_t q4,more_t q8⟩),(fun q=>by (rw [more_ne (by decide)] at q);exact more_t (m10 q)),(fun q=>by (rw [more_ne (by decide)] at q);obtain ⟨q0,q1,q2,q11⟩:=m12 q;exact ⟨more_t q0,more_t q1,more_t q2,more_t q11⟩),(fun q=>by (rw [more_ne (by decide)] at q);obtain ⟨q0,q1,q2,q3,q4,q5,q6,q7,q8,q9,q10,q11,q12⟩:=m13 q;exact ⟨more_t q0,more_t q1,more_t q2,more_t q3,more_t q4,more_t q5,more_t q6,more_t q7,more_t q8,more_t q9,more_t q10,more_t q11,more_t q12⟩),(by (have e11:more L 1 11=L 11:=more_ne (by decide));(have e13:more L 1 13=L 13:=more_ne (by decide));(try simp only [e11,e13,n13]);first | done | rfl | (simp only [e11,e13,n13,if_true,if_false,Bool.false_eq_true];first | done | rfl | (simp (disch:=first|exact dsc|fail) only [go_sem,seval,e11,e13,n13,hl1,hx,hn2,cells_db,aggOf_db hn2,hfb,hn1,hzz]<;>rfl)))⟩
          · cases ho
            have h1:L 1=true:=hall ⟨1,.data⟩ (by simp) rfl
            have d1:=g1 h1
            have n12:L 12=false:=Bool.eq_false_iff.2 fun e=>by (have:=m12 e;simp [hL] at this)
            have n13:L 13=false:=Bool.eq_false_iff.2 fun e=>by (have:=m13 e;simp [hL] at this)
            (try simp only [n13,if_true,if_false,Bool.false_eq_true])
            refine opA_call rfl rfl (by simp (disch:=first|exact dsc|fail) only [go_sem,seval,reduceIte,Bool.false_eq_true,if_false,if_true,f0,f1,d1,h1,n12,n13,hL,hl1,hx,hn2,cells_db,aggOf_db hn2,hfb,hn1,hzz]<;>rfl) rfl (by simp (disch:=first|exact dsc|fail) only [go_sem,seval,reduceIte,Bool.false_eq_true,if_false,if_true,f0,f1,d1,h1,n12,n13,hL,hl1,hx,hn2,cells_db,aggOf_db hn2,hfb,hn1,hzz]<;>rfl) (fun R h=>hsp _ R h) ?_
            exact ⟨(by (try simp (disch:=first|exact dsc|fail) only [go_sem,seval]);exact f0),(by (try simp (disch:=first|exact dsc|fail) only [go_sem,seval]);exact f1),(fun q=>by (rw [more_ne (by decide)] at q);(try simp (disch:=first|exact dsc|fail) only [go_sem,seval]);exact g0 q),(fun q=>by (rw [more_ne (by decide)] at q);(try simp (disch:=first|exact dsc|fail) only [go_sem,seval]);exact g1 q),(fun _=>by simp (disch:=first|exact dsc|fail) only [go_sem,seval]),(fun q=>by (rw [more_ne (by decide)] at q);(try simp (disch:=first|exact dsc|fail) only [go_sem,seval]);exact g3 q),(fun q=>by (rw [more_ne (by decide)] at q);(try simp (disch:=first|exact dsc|fail) only [go_sem,seval]);exact g4 q),(fun q=>by (rw [more_ne (by decide)] at q);(try simp (disch:=first|exact dsc|fail) only [go_sem,seval]);exact g5 q),(fun q=>by (rw [more_ne (by decide)] at q);(try simp (disch:=first|exact dsc|fail) only [go_sem,seval]);exact g6 q),(fun q=>by (rw [more_ne (by decide)] at q);(try simp (disch:=first|exact dsc|fail) only [go_sem,seval]);exact g7 q),(fun q=>by (rw [more_ne (by decide)] at q);(try simp (disch:=first|exact dsc|fail) only [go_sem,seval]);exact g8 q),(fun q=>by (rw [more_ne (by decide)] at q);(try simp (disch:=first|exact dsc|fail) only [go_sem,seval]);exact g9 q),(fun q=>by (rw [more_ne (by decide)] at q);(try simp (disch:=first|exact dsc|fail) only [go_sem,seval]);exact g10 q),(fun q=>by (rw [more_ne (by decide)] at q);(try simp (disch:=first|exact dsc|fail) only [go_sem,seval]);exact g11 q),(fun q=>by (rw [more_ne (by decide)] at q);(try simp (disch:=first|exact dsc|fail) only [go_sem,seval]);exact g12 q),(fun q=>by (rw [more_ne (by decide)] at q);exact more_t (m1 q)),(fun _=>more_t h1),(fun q=>by (rw [more_ne (by decide)] at q);exact more_t (m4 q)),(fun q=>by (rw [more_ne (by decide)] at q);exact more_t (m6 q)),(fun q=>by (rw [more_ne (by decide)] at q);exact more_t (m7 q)),(fun q=>by (rw [more_ne (by decide)] at q);exact more_t (m8 q)),(fun q=>by (rw [more_ne (by decide)] at q);obtain ⟨q4,q8⟩:=m9 q;exact ⟨more_t q4,more_t q8⟩),(fun q=>by (rw [more_ne (by decide)] at q);exact more_t (m10 q)),(fun q=>by (rw [more_ne (by decide)] at q);obtain ⟨q0,q1,q2,q11⟩:=m12 q;exact ⟨more_t q0,more_t q1,more_t q2,more_t q11⟩),(fun q=>by (rw [more_ne (by decide)] at q);obtain ⟨q0,q1,q2,q3,q4,q5,q6,q7,q8,q9,q10,q11,q12⟩:=m13 q;exact ⟨more_t q0,more_t q1,more_t q2,more_t q3,more_t q4,more_t q5,more_t q6,more_t q7,more_t q8,more_t q9,more_t q10,more_t q11,more_t q12⟩),(by (have e11:more L 2 11=L 11:=more_ne (by decide));(have e13:more L 2 13=L 13:=more_ne (by decide));(try simp only [e11,e13,n13]);first | done | rfl | (simp only [e11,e13,n13,if_true,if_false,Bool.false_eq_true];first | done | rfl | (simp (disch:=first|exact dsc|fail) only [go_sem,seval,e11,e13,n13,hl1,hx,hn2,cells_db,aggOf_db hn2,hfb,hn1,hzz]<;>rfl)))⟩
          · cases ho
            have n4:L 4=false:=Bool.eq_false_iff.2 fun e=>by (have:=m4 e;simp [hL] at this)
            have n13:L 13=false:=Bool.eq_false_iff.2 fun e=>by (have:=m13 e;simp [hL] at this)
            refine opA_val (.ptr H.n 3) rfl rfl (by simp (disch:=first|exact dsc|fail) only [go_sem,seval,reduceIte,Bool.false_eq_true,if_false,if_true,f0,f1,n4,n13,hL,hl1,hx,hn2,cells_db,aggOf_db hn2,hfb,hn1,hzz]<;>rfl) rfl ?_
            exact ⟨(by (try simp (disch:=first|exact dsc|fail) only [go_sem,seval]);exact f0),(by (try simp (disch:=first|exact dsc|fail) only [go_sem,seval]);exact f1),(fun q=>by (rw [more_ne (by decide)] at q);(try simp (disch:=first|exact dsc|fail) only [go_sem,seval]);exact g0 q),(fun q=>by (rw [more_ne (by decide)] at q);(try simp (disch:=first|exact dsc|fail) only [go_sem,seval]);exact g1 q),(fun q=>by (rw [more_ne (by decide)] at q);(try simp (disch:=first|exact dsc|fail) only [go_sem,seval]);exact g2 q),(fun _=>by simp (disch:=first|exact dsc|fail) only [go_sem,seval]),(fun q=>by (rw [more_ne (by decide)] at q);(try simp (disch:=first|exact dsc|fail) only [go_sem,seval]);exact g4 q),(fun q=>by (rw [more_ne (by decide)] at q);(try simp (disch:=first|exact dsc|fail) only [go_sem,seval]);exact g5 q),(fun q=>by (rw [more_ne (by decide)] at q);(try simp (disch:=first|exact dsc|fail) only [go_sem,seval]);exact g6 q),(fun q=>by (rw [more_ne (by decide)] at q);(try simp (disch:=first|exact dsc|fail) only [go_sem,seval]);exact g7 q),(fun q=>by (rw [more_ne (by decide)] at q);(try simp (disch:=first|exact dsc|fail) only [go_sem,seval]);exact g8 q),(fun q=>by (rw [more_ne (by decide)] at q);(try simp (disch:=first|exact dsc|fail) only [go_sem,seval]);exact g9 q),(fun q=>by (rw [more_ne (by decide)] at q);(try simp (disch:=first|exact dsc|fail) only [go_sem,seval]);exact g10 q),(fun q=>by (rw [more_ne (by decide)] at q);(try simp (disch:=first|exact dsc|fail) only [go_sem,seval]);exact g11 q),(fun q=>by (rw [more_ne (by decide)] at q);(try simp (disch:=first|exact dsc|fail) only [go_sem,seval]);exact g12 q),(fun q=>by (rw [more_ne (by decide)] at q);exact more_t (m1 q)),(fun q=>by (rw [more_ne (by decide)] at q);exact more_t (m2 q)),(fun q=>by (rw [more_ne (by decide)] at q);exact more_t (m4 q)),(fun q=>by (rw [more_ne (by decide)] at q);exact more_t (m6 q)),(fun q=>by (rw [more_ne (by decide)] at q);exact more_t (m7 q)),(fun q=>by (rw [more_ne (by decide)] at q);exact more_t (m8 q)),(fun q=>by (rw [more_ne (by decide)] at q);obtain ⟨q4,q8⟩:=m9 q;exact ⟨more_t q4,more_t q8⟩),(fun q=>by (rw [more_ne (by decide)] at q);exact more_t (m10 q)),(fun q=>by (rw [more_ne (by decide)] at q);obtain ⟨q0,q1,q2,q11⟩:=m12 q;exact ⟨more_t q0,more_t q1,more_t q2,more_t q11⟩),(fun q=>by (rw [more_ne (by decide)] at q);obtain ⟨q0,q1,q2,q3,q4,q5,q6,q7,q8,q9,q10,q11,q12⟩:=m13 q;exact ⟨more_t q0,more_t q1,more_t q2,more_t q3,more_t q4,more_t q5,more_t q6,more_t q7,more_t q8,more_t q9,more_t q10,more_t q11,more_t q12⟩),(by (have e11:more L 3 11=L 11:=more_ne (by decide));(have e13:more L 3 13=L 13:=more_ne (by decide));(try simp only [e11,e13,n13]);first | done | rfl | (simp only [e11,e13,n13,if_true,if_false,Bool.false_eq_true];first | done | rfl | (simp (disch:=first|exact dsc|fail) only [go_sem,seval,e11,e13,n13,hl1,hx,hn2,cells_db,aggOf_db hn2,hfb,hn1,hzz]<;>rfl)))⟩
          · cases ho
            have h3:L 3=true:=hall ⟨3,.data⟩ (by simp) rfl
            have d3:=g3 h3
            have n9:L 9=false:=Bool.eq_false_iff.2 fun e=>by (have:=m9 e;simp [hL] at this)
            have n13:L 13=false:=Bool.eq_false_iff.2 fun e=>by (have:=m13 e;simp [hL] at this)
            refine opA_val (.p (.sl false 32 (pl db path))) rfl rfl (by simp (disch:=first|exact dsc|fail) only [go_sem,seval,reduceIte,Bool.false_eq_true,if_false,if_true,f0,f1,d3,h3,n9,n13,hL,hl1,hx,hn2,cells_db,aggOf_db hn2,hfb,hn1,hzz]<;>rfl) rfl ?_
            exact ⟨(by (try simp (disch:=first|exact dsc|fail) only [go_sem,seval]);exact f0),(by (try simp (disch:=first|exact dsc|fail) only [go_sem,seval]);exact f1),(fun q=>by (rw [more_ne (by decide)] at q);(try simp (disch:=first|exact dsc|fail) only [go_sem,seval]);exact g0 q),(fun q=>by (rw [more_ne (by decide)] at q);(try simp (disch:=first|exact dsc|fail) only [go_sem,seval]);exact g1 q),(fun q=>by (rw [more_ne (by decide)] at q);(try simp (disch:=first|exact dsc|fail) only [go_sem,seval]);exact g2 q),(fun q=>by (rw [more_ne (by decide)] at q);(try simp (disch:=first|exact dsc|fail) only [go_sem,seval]);exact g3 q),(fun _=>by simp (disch:=first|exact dsc|fail) only [go_sem,seval]),(fun q=>by (rw [more_ne (by decide)] at q);(try simp (disch:=first|exact dsc|fail) only [go_sem,seval]);exact g5 q),(fun q=>by (rw [more_ne (by decide)] at q);(try simp (disch:=first|exact dsc|fail) only [go_sem,seval]);exact g6 q),(fun q=>by (rw [more_ne (by decide)] at q);(try simp (disch:=first|exact dsc|fail) only [go_sem,seval]);exact g7 q),(fun q=>by (rw [more_ne (by decide)] at q);(try simp (disch:=first|exact dsc|fail) only [go_sem,seval]);exact g8 q),(fun q=>by (rw [more_ne (by decide)] at q);(try simp (disch:=first|exact dsc|fail) only [go_sem,seval]);exact g9 q),(fun q=>by (rw [more_ne (by decide)] at q);(try simp (disch:=first|exact dsc|fail) only [go_sem,seval]);exact g10 q),(fun q=>by (rw [more_ne (by decide)] at q);(try simp (disch:=first|exact dsc|fail) only [go_sem,seval]);exact g11 q),(fun q=>by (rw [more_ne (by decide)] at q);(try simp (disch:=first|exact dsc|fail) only [go_sem,seval]);exact g12 q),(fun q=>by (rw [more_ne (by decide)] at q);exact more_t (m1 q)),(fun q=>by (rw [more_ne (by decide)] at q);exact more_t (m2 q)),(fun _=>more_t h3),(fun q=>by (rw [more_ne (by decide)] at q);exact more_t (m6 q)),(fun q=>by (rw [more_ne (by decide)] at q);exact more_t (m7 q)),(fun q=>by (rw [more_ne (by decide)] at q);exact more_t (m8 q)),(fun q=>by (rw [more_ne (by decide)] at q);obtain ⟨q4,q8⟩:=m9 q;exact ⟨more_t q4,more_t q8⟩),(fun q=>by (rw [more_ne (by decide)] at q);exact more_t (m10 q)),(fun q=>by (rw [more_ne (by decide)] at q);obtain ⟨q0,q1,q2,q11⟩:=m12 q;exact ⟨more_t q0,more_t q1,more_t q2,more_t q11⟩),(fun q=>by (rw [more_ne (by decide)] at q);obtain ⟨q0,q1,q2,q3,q4,q5,q6,q7,q8,q9,q10,q11,q12⟩:=m13 q;exact ⟨more_t q0,more_t q1,more_t q2,more_t q3,more_t q4,more_t q5,more_t q6,more_t q7,more_t q8,more_t q9,more_t q10,more_t q11,more_t q12⟩),(by (have e11:more L 4 11=L 11:=more_ne (by decide));(have e13:more L 4 13=L 13:=more_ne (by decide));(try simp only [e11,e13,n13]);first | done | rfl | (simp only [e11,e13,n13,if_true,if_false,Bool.false_eq_true];first | done | rfl | (simp (disch:=first|exact dsc|fail) only [go_sem,seval,e11,e13,n13,hl1,hx,hn2,cells_db,aggOf_db hn2,hfb,hn1,hzz]<;>rfl)))⟩
          · cases ho
            have n6:L 6=false:=Bool.eq_false_iff.2 fun e=>by (have:=m6 e;simp [hL] at this)
            have n13:L 13=false:=Bool.eq_false_iff.2 fun e=>by (have:=m13 e;simp [hL] at this)
            refine opA_val (.ptr H.n 3) rfl rfl (by simp (disch:=first|exact dsc|fail) only [go_sem,seval,reduceIte,Bool.false_eq_true,if_false,if_true,f0,f1,n6,n13,hL,hl1,hx,hn2,cells_db,aggOf_db hn2,hfb,hn1,hzz]<;>rfl) rfl ?_
            exact ⟨(by (try simp (disch:=first|exact dsc|fail) only [go_sem,seval]);exact f0),(by (try simp (disch:=first|exact dsc|fail) only [go_sem,seval]);exact f1),(fun q=>by (rw [more_ne (by decide)] at q);(try simp (disch:=first|exact dsc|fail) only [go_sem,seval]);exact g0 q),(fun q=>by (rw [more_ne (by decide)] at q);(try simp (disch:=first|exact dsc|fail) only [go_sem,seval]);exact g1 q),(fun q=>by (rw [more_ne (by decide)] at q);(try simp (disch:=first|exact dsc|fail) only [go_sem,seval]);exact g2 q),(fun q=>by (rw [more_ne (by decide)] at q);(try simp (disch:=first|exact dsc|fail) only [go_sem,seval]);exact g3 q),(fun q=>by (rw [more_ne (by decide)] at q);(try simp (disch:=first|exact dsc|fail) only [go_sem,seval]);exact g4 q),(fun _=>by simp (disch:=first|exact dsc|fail) only [go_sem,seval]),(fun q=>by (rw [more_ne (by decide)] at q);(try simp (disch:=first|exact dsc|fail) only [go_sem,seval]);exact g6 q),(fun q=>by (rw [more_ne (by decide)] at q);(try simp (disch:=first|exact dsc|fail) only [go_sem,seval]);exact g7 q),(fun q=>by (rw [more_ne (by decide)] at q);(try simp (disch:=first|exact dsc|fail) only [go_sem,seval]);exact g8 q),(fun q=>by (rw [more_ne (by decide)] at q);(try simp (disch:=first|exact dsc|fail) only [go_sem,seval]);exact g9 q),(fun q=>by (rw [more_ne (by decide)] at q);(try simp (disch:=first|exact dsc|fail) only [go_sem,seval]);exact g10 q),(fun q=>by (rw [more_ne (by decide)] at q);(try simp (disch:=first|exact dsc|fail) only [go_sem,seval]);exact g11 q),(fun q=>by (rw [more_ne (by decide)] at q);(try simp (disch:=first|exact dsc|fail) only [go_sem,seval]);exact g12 q),(fun q=>by (rw [more_ne (by decide)] at q);exact more_t (m1 q)),(fun q=>by (rw [more_ne (by decide)] at q);exact more_t (m2 q)),(fun q=>by (rw [more_ne (by decide)] at q);exact more_t (m4 q)),(fun q=>by (rw [more_ne (by decide)] at q);exact more_t (m6 q)),(fun q=>by (rw [more_ne (by decide)] at q);exact more_t (m7 q)),(fun q=>by (rw [more_ne (by decide)] at q);exact more_t (m8 q)),(fun q=>by (rw [more_ne (by decide)] at q);obtain ⟨q4,q8⟩:=m9 q;exact ⟨more_t q4,more_t q8⟩),(fun q=>by (rw [more_ne (by decide)] at q);exact more_t (m10 q)),(fun q=>by (rw [more_ne (by decide)] at q);obtain ⟨q0,q1,q2,q11⟩:=m12 q;exact ⟨more_t q0,more_t q1,more_t q2,more_t q11⟩),(fun q=>by (rw [more_ne (by decide)] at q);obtain ⟨q0,q1,q2,q3,q4,q5,q6,q7,q8,q9,q10,q11,q12⟩:=m13 q;exact ⟨more_t q0,more_t q1,more_t q2,more_t q3,more_t q4,more_t q5,more_t q6,more_t q7,more_t q8,more_t q9,more_t q10,more_t q11,more_t q12⟩),(by (have e11:more L 5 11=L 11:=more_ne (by decide));(have e13:more L 5 13=L 13:=more_ne (by decide));(try simp only [e11,e13,n13]);first | done | rfl | (simp only [e11,e13,n13,if_true,if_false,Bool.false_eq_true];first | done | rfl | (simp (disch:=first|exact dsc|fail) only [go_sem,seval,e11,e13,n13,hl1,hx,hn2,cells_db,aggOf_db hn2,hfb,hn1,hzz]<;>rfl)))⟩
          · cases ho
            have h5:L 5=true:=hall ⟨5,.data⟩ (by simp) rfl
            have d5:=g5 h5
            have n7:L 7=false:=Bool.eq_false_iff.2 fun e=>by (have:=m7 e;simp [hL] at this)
            have n13:L 13=false:=Bool.eq_false_iff.2 fun e=>by (have:=m13 e;simp [hL] at this)
            refine opA_val (.p (.sl false 32 (pl db path))) rfl rfl (by simp (disch:=first|exact dsc|fail) only [go_sem,seval,reduceIte,Bool.false_eq_true,if_false,if_true,f0,f1,d5,h5,n7,n13,hL,hl1,hx,hn2,cells_db,aggOf_db hn2,hfb,hn1,hzz]<;>rfl) rfl ?_
            exact ⟨(by (try simp (disch:=first|exact dsc|fail) only [go_sem,seval]);exact f0),(by (try simp (disch:=first|exact dsc|fail) only [go_sem,seval]);exact f1),(fun q=>by (rw [more_ne (by decide)] at q);(try simp (disch:=first|exact dsc|fail) only [go_sem,seval]);exact g0 q),(fun q=>by (rw [more_ne (by decide)] at q);(try simp (disch:=first|exact dsc|fail) only [go_sem,seval]);exact g1 q),(fun q=>by (rw [more_ne (by decide)] at q);(try simp (disch:=first|exact dsc|fail) only [go_sem,seval]);exact g2 q),(fun q=>by (rw [more_ne (by decide)] at q);(try simp (disch:=first|exact dsc|fail) only [go_sem,seval]);exact g3 q),(fun q=>by (rw [more_ne (by decide)] at q);(try simp (disch:=first|exact dsc|fail) only [go_sem,seval]);exact g4 q),(fun q=>by (rw [more_ne (by decide)] at q);(try simp (disch:=first|exact dsc|fail) only [go_sem,seval]);exact g5 q),(fun _=>by simp (disch:=first|exact dsc|fail) only [go_sem,seval]),(fun q=>by (rw [more_ne (by decide)] at q);(try simp (disch:=first|exact dsc|fail) only [go_sem,seval]);exact g7 q),(fun q=>by (rw [more_ne (by decide)] at q);(try simp (disch:=first|exact dsc|fail) only [go_sem,seval]);exact g8 q),(fun q=>by (rw [more_ne (by decide)] at q);(try simp (disch:=first|exact dsc|fail) only [go_sem,seval]);exact g9 q),(fun q=>by (rw [more_ne (by decide)] at q);(try simp (disch:=first|exact dsc|fail) only [go_sem,seval]);exact g10 q),(fun q=>by (rw [more_ne (by decide)] at q);(try simp (disch:=first|exact dsc|fail) only [go_sem,seval]);exact g11 q),(fun q=>by (rw [more_ne (by decide)] at q);(try simp (disch:=first|exact dsc|fail) only [go_sem,seval]);exact g12 q),(fun q=>by (rw [more_ne (by decide)] at q);exact more_t (m1 q)),(fun q=>by (rw [more_ne (by decide)] at q);exact more_t (m2 q)),(fun q=>by (rw [more_ne (by decide)] at q);exact more_t (m4 q)),(fun _=>more_t h5),(fun q=>by (rw [more_ne (by decide)] at q);exact more_t (m7 q)),(fun q=>by (rw [more_ne (by decide)] at q);exact more_t (m8 q)),(fun q=>by (rw [more_ne (by decide)] at q);obtain ⟨q4,q8⟩:=m9 q;exact ⟨more_t q4,more_t q8⟩),(fun q=>by (rw [more_ne (by decide)] at q);exact more_t (m10 q)),(fun q=>by (rw [more_ne (by decide)] at q);obtain ⟨q0,q1,q2,q11⟩:=m12 q;exact ⟨more_t q0,more_t q1,more_t q2,more_t q11⟩),(fun q=>by (rw [more_ne (by decide)] at q);obtain ⟨q0,q1,q2,q3,q4,q5,q6,q7,q8,q9,q10,q11,q12⟩:=m13 q;exact ⟨more_t q0,more_t q1,more_t q2,more_t q3,more_t q4,more_t q5,more_t q6,more_t q7,more_t q8,more_t q9,more_t q10,more_t q11,more_t q12⟩),(by (have e11:more L 6 11=L 11:=more_ne (by decide));(have e13:more L 6 13=L 13:=more_ne (by decide));(try simp only [e11,e13,n13]);first | done | rfl | (simp only [e11,e13,n13,if_true,if_false,Bool.false_eq_true];first | done | rfl | (simp (disch:=first|exact dsc|fail) only [go_sem,seval,e11,e13,n13,hl1,hx,hn2,cells_db,aggOf_db hn2,hfb,hn1,hzz]<;>rfl)))⟩
          · cases ho
            have h6:L 6=true:=hall ⟨6,.data⟩ (by simp) rfl
            have d6:=g6 h6
            have n8:L 8=false:=Bool.eq_false_iff.2 fun e=>by (have:=m8 e;simp [hL] at this)
            have n13:L 13=false:=Bool.eq_false_iff.2 fun e=>by (have:=m13 e;simp [hL] at this)
            refine opA_val (.p (i64 path.length)) rfl rfl (by simp (disch:=first|exact dsc|fail) only [go_sem,seval,reduceIte,Bool.false_eq_true,if_false,if_true,f0,f1,d6,h6,n8,n13,hL,hl1,hx,hn2,cells_db,aggOf_db hn2,hfb,hn1,hzz]<;>rfl) rfl ?_
            exact ⟨(by (try simp (disch:=first|exact dsc|fail) only [go_sem,seval]);exact f0),(by (try simp (disch:=first|exact dsc|fail) only [go_sem,seval]);exact f1),(fun q=>by (rw [more_ne (by decide)] at q);(try simp (disch:=first|exact dsc|fail) only [go_sem,seval]);exact g0 q),(fun q=>by (rw [more_ne (by decide)] at q);(try simp (disch:=first|exact dsc|fail) only [go_sem,seval]);exact g1 q),(fun q=>by (rw [more_ne (by decide)] at q);(try simp (disch:=first|exact dsc|fail) only [go_sem,seval]);exact g2 q),(fun q=>by (rw [more_ne (by decide)] at q);(try simp (disch:=first|exact dsc|fail) only [go_sem,seval]);exact g3 q),(fun q=>by (rw [more_ne (by decide)] at q);(try simp (disch:=first|exact dsc|fail) only [go_sem,seval]);exact g4 q),(fun q=>by (rw [more_ne (by decide)] at q);(try simp (disch:=first|exact dsc|fail) only [go_sem,seval]);exact g5 q),(fun q=>by (rw [more_ne (by decide)] at q);(try simp (disch:=first|exact dsc|fail) only [go_sem,seval]);exact g6 q),(fun _=>by simp (disch:=first|exact dsc|fail) only [go_sem,seval]),(fun q=>by (rw [more_ne (by decide)] at q);(try simp (disch:=first|exact dsc|fail) only [go_sem,seval]);exact g8 q),(fun q=>by (rw [more_ne (by decide)] at q);(try simp (disch:=first|exact dsc|fail) only [go_sem,seval]);exact g9 q),(fun q=>by (rw [more_ne (by decide)] at q);(try simp (disch:=first|exact dsc|fail) only [go_sem,seval]);exact g10 q),(fun q=>by (rw [more_ne (by decide)] at q);(try simp (disch:=first|exact dsc|fail) only [go_sem,seval]);exact g11 q),(fun q=>by (rw [more_ne (by decide)] at q);(try simp (disch:=first|exact dsc|fail) only [go_sem,seval]);exact g12 q),(fun q=>by (rw [more_ne (by decide)] at q);exact more_t (m1 q)),(fun q=>by (rw [more_ne (by decide)] at q);exact more_t (m2 q)),(fun q=>by (rw [more_ne (by decide)] at q);exact more_t (m4 q)),(fun q=>by (rw [more_ne (by decide)] at q);exact more_t (m6 q)),(fun _=>more_t h6),(fun q=>by (rw [more_ne (by decide)] at q);exact more_t (m8 q)),(fun q=>by (rw [more_ne (by decide)] at q);obtain ⟨q4,q8⟩:=m9 q;exact ⟨more_t q4,more_t q8⟩),(fun q=>by (rw [more_ne (by decide)] at q);exact more_t (m10 q)),(fun q=>by (rw [more_ne (by decide)] at q);obtain ⟨q0,q1,q2,q11⟩:=m12 q;exact ⟨more_t q0,more_t q1,more_t q2,more_t q11⟩),(fun q=>by (rw [more_ne (by decide)] at q);obtain ⟨q0,q1,q2,q3,q4,q5,q6,q7,q8,q9,q10,q11,q12⟩:=m13 q;exact ⟨more_t q0,more_t q1,more_t q2,more_t q3,more_t q4,more_t q5,more_t q6,more_t q7,more_t q8,more_t q9,more_t q10,more_t q11,more_t q12⟩),(by (have e11:more L 7 11=L 11:=more_ne (by decide));(have e13:more L 7 13=L 13:=more_ne (by decide));(try simp only [e11,e13,n13]);first | done | rfl | (simp only [e11,e13,n13,if_true,if_false,Bool.false_eq_true];first | done | rfl | (simp (disch:=first|exact dsc|fail) only [go_sem,seval,e11,e13,n13,hl1,hx,hn2,cells_db,aggOf_db hn2,hfb,hn1,hzz]<;>rfl)))⟩
          · cases ho
            have h7:L 7=true:=hall ⟨7,.data⟩ (by simp) rfl
            have d7:=g7 h7
            have n9:L 9=false:=Bool.eq_false_iff.2 fun e=>by (have:=m9 e;simp [hL] at this)
            have n13:L 13=false:=Bool.eq_false_iff.2 fun e=>by (have:=m13 e;simp [hL] at this)
            refine opA_val (.p (i64 (path.length - 1:Nat))) rfl rfl (by simp (disch:=first|exact dsc|fail) only [go_sem,seval,reduceIte,Bool.false_eq_true,if_false,if_true,f0,f1,d7,h7,n9,n13,hL,hl1,hx,hn2,cells_db,aggOf_db hn2,hfb,hn1,hzz]<;>rfl) rfl ?_
            exact ⟨(by (try simp (disch:=first|exact dsc|fail) only [go_sem,seval]);exact f0),(by (try simp (disch:=first|exact dsc|fail) only [go_sem,seval]);exact f1),(fun q=>by (rw [more_ne (by decide)] at q);(try simp (disch:=first|exact dsc|fail) only [go_sem,seval]);exact g0 q),(fun q=>by (rw [more_ne (by decide)] at q);(try simp (disch:=first|exact dsc|fail) only [go_sem,seval]);exact g1 q),(fun q=>by (rw [more_ne (by decide)] at q);(try simp (disch:=first|exact dsc|fail) only [go_sem,seval]);exact g2 q),(fun q=>by (rw [more_ne (by decide)] at q);(try simp (disch:=first|exact dsc|fail) only [go_sem,seval]);exact g3 q),(fun q=>by (rw [more_ne (by decide)] at q);(try simp (disch:=first|exact dsc|fail) only [go_sem,seval]);exact g4 q),(fun q=>by (rw [more_ne (by decide)] at q);(try simp (disch:=first|exact dsc|fail) only [go_sem,seval]);exact g5 q),(fun q=>by (rw [more_ne (by decide)] at q);(try simp (disch:=first|exact dsc|fail) only [go_sem,seval]);exact g6 q),(fun q=>by (rw [more_ne (by decide)] at q);(try simp (disch:=first|exact dsc|fail) only [go_sem,seval]);exact g7 q),(fun _=>by simp (disch:=first|exact dsc|fail) only [go_sem,seval]),(fun q=>by (rw [more_ne (by decide)] at q);(try simp (disch:=first|exact dsc|fail) only [go_sem,seval]);exact g9 q),(fun q=>by (rw [more_ne (by decide)] at q);(try simp (disch:=first|exact dsc|fail) only [go_sem,seval]);exact g10 q),(fun q=>by (rw [more_ne (by decide)] at q);(try simp (disch:=first|exact dsc|fail) only [go_sem,seval]);exact g11 q),(fun q=>by (rw [more_ne (by decide)] at q);(try simp (disch:=first|exact dsc|fail) only [go_sem,seval]);exact g12 q),(fun q=>by (rw [more_ne (by decide)] at q);exact more_t (m1 q)),(fun q=>by (rw [more_ne (by decide)] at q);exact more_t (m2 q)),(fun q=>by (rw [more_ne (by decide)] at q);exact more_t (m4 q)),(fun q=>by (rw [more_ne (by decide)] at q);exact more_t (m6 q)),(fun q=>by (rw [more_ne (by decide)] at q);exact more_t (m7 q)),(fun _=>more_t h7),(fun q=>by (rw [more_ne (by decide)] at q);obtain ⟨q4,q8⟩:=m9 q;exact ⟨more_t q4,more_t q8⟩),(fun q=>by (rw [more_ne (by decide)] at q);exact more_t (m10 q)),(fun q=>by (rw [more_ne (by decide)] at q);obtain ⟨q0,q1,q2,q11⟩:=m12 q;exact ⟨more_t q0,more_t q1,more_t q2,more_t q11⟩),(fun q=>by (rw [more_ne (by decide)] at q);obtain ⟨q0,q1,q2,q3,q4,q5,q6,q7,q8,q9,q10,q11,q12⟩:=m13 q;exact ⟨more_t q0,more_t q1,more_t q2,more_t q3,more_t q4,more_t q5,more_t q6,more_t q7,more_t q8,more_t q9,more_t q10,more_t q11,more_t q12⟩),(by (have e11:more L 8 11=L 11:=more_ne (by decide));(have e13:more L 8 13=L 13:=more_ne (by decide));(try simp only [e11,e13,n13]);first | done | rfl | (simp only [e11,e13,n13,if_true,if_false,Bool.false_eq_true];first | done | rfl | (simp (disch:=first|exact dsc|fail) only [go_sem,seval,e11,e13,n13,hl1,hx,hn2,cells_db,aggOf_db hn2,hfb,hn1,hzz]<;>rfl)))⟩
          · cases ho
            have h4:L 4=true:=hall ⟨4,.data⟩ (by simp) rfl
            have d4:=g4 h4
            have h8:L 8=true:=hall ⟨8,.data⟩ (by simp) rfl
            have d8:=g8 h8
            have n10:L 10=false:=Bool.eq_false_iff.2 fun e=>by (have:=m10 e;simp [hL] at this)
            have n13:L 13=false:=Bool.eq_false_iff.2 fun e=>by (have:=m13 e;simp [hL] at this)
            refine opA_val (.ip 32 (pl db path) (path.length - 1) 0) rfl rfl (by simp (disch:=first|exact dsc|fail) only [go_sem,seval,reduceIte,Bool.false_eq_true,if_false,if_true,f0,f1,d4,d8,h4,h8,n10,n13,hL,hl1,hx,hn2,cells_db,aggOf_db hn2,hfb,hn1,hzz]<;>rfl) rfl ?_
            exact ⟨(by (try simp (disch:=first|exact dsc|fail) only [go_sem,seval]);exact f0),(by (try simp (disch:=first|exact dsc|fail) only [go_sem,seval]);exact f1),(fun q=>by (rw [more_ne (by decide)] at q);(try simp (disch:=first|exact dsc|fail) only [go_sem,seval]);exact g0 q),(fun q=>by (rw [more_ne (by decide)] at q);(try simp (disch:=first|exact dsc|fail) only [go_sem,seval]);exact g1 q),(fun q=>by (rw [more_ne (by decide)] at q);(try simp (disch:=first|exact dsc|fail) only [go_sem,seval]);exact g2 q),(fun q=>by (rw [more_ne (by decide)] at q);(try simp (disch:=first|exact dsc|fail) only [go_sem,seval]);exact g3 q),(fun q=>by (rw [more_ne (by decide)] at q);(try simp (disch:=first|exact dsc|fail) only [go_sem,seval]);exact g4 q),(fun q=>by (rw [more_ne (by decide)] at q);(try simp (disch:=first|exact dsc|fail) only [go_sem,seval]);exact g5 q),(fun q=>by (rw [more_ne (by decide)] at q);(try simp (disch:=first|exact dsc|fail) only [go_sem,seval]);exact g6 q),(fun q=>by (rw [more_ne (by decide)] at q);(try simp (disch:=first|exact dsc|fail) only [go_sem,seval]);exact g7 q),(fun q=>by (rw [more_ne (by decide)] at q);(try simp (disch:=first|exact dsc|fail) only [go_sem,seval]);exact g8 q),(fun _=>by simp (disch:=first|exact dsc|fail) only [go_sem,seval]),(fun q=>by (rw [more_ne (by decide)] at q);(try simp (disch:=first|exact dsc|fail) only [go_sem,seval]);exact g10 q),(fun q=>by (rw [more_ne (by decide)] at q);(try simp (disch:=first|exact dsc|fail) only [go_sem,seval]);exact g11 q),(fun q=>by (rw [more_ne (by decide)] at q);(try simp (disch:=first|exact dsc|fail) only [go_sem,seval]);exact g12 q),(fun q=>by (rw [more_ne (by decide)] at q);exact more_t (m1 q)),(fun q=>by (rw [more_ne (by decide)] at q);exact more_t (m2 q)),(fun q=>by (rw [more_ne (by decide)] at q);exact more_t (m4 q)),(fun q=>by (rw [more_ne (by decide)] at q);exact more_t (m6 q)),(fun q=>by (rw [more_ne (by decide)] at q);exact more_t (m7 q)),(fun q=>by (rw [more_ne (by decide)] at q);exact more_t (m8 q)),(fun _=>⟨more_t h4,more_t h8⟩),(fun q=>by (rw [more_ne (by decide)] at q);exact more_t (m10 q)),(fun q=>by (rw [more_ne (by decide)] at q);obtain ⟨q0,q1,q2,q11⟩:=m12 q;exact ⟨more_t q0,more_t q1,more_t q2,more_t q11⟩),(fun q=>by (rw [more_ne (by decide)] at q);obtain ⟨q0,q1,q2,q3,q4,q5,q6,q7,q8,q9,q10,q11,q12⟩:=m13 q;exact ⟨more_t q0,more_t q1,more_t q2,more_t q3,more_t q4,more_t q5,more_t q6,more_t q7,more_t q8,more_t q9,more_t q10,more_t q11,more_t q12⟩),(by (have e11:more L 9 11=L 11:=more_ne (by decide));(have e13:more L 9 13=L 13:=more_ne (by decide));(try simp only [e11,e13,n13]);first | done | rfl | (simp only [e11,e13,n13,if_true,if_false,Bool.false_eq_true];first | done | rfl | (simp (disch:=first|exact dsc|fail) only [go_sem,seval,e11,e13,n13,hl1,hx,hn2,cells_db,aggOf_db hn2,hfb,hn1,hzz]<;>rfl)))⟩
          · cases ho
            have h9:L 9=true:=hall ⟨9,.data⟩ (by simp) rfl
            have d9:=g9 h9
            have n13:L 13=false:=Bool.eq_false_iff.2 fun e=>by (have:=m13 e;simp [hL] at this)
            refine opA_val (.p (.agg (pl b8 x))) rfl rfl (by simp (disch:=first|exact dsc|fail) only [go_sem,seval,reduceIte,Bool.false_eq_true,if_false,if_true,f0,f1,d9,h9,n13,hL,hl1,hx,hn2,cells_db,aggOf_db hn2,hfb,hn1,hzz]<;>rfl) rfl ?_
            exact ⟨(by (try simp (disch:=first|exact dsc|fail) only [go_sem,seval]);exact f0),(by (try simp (disch:=first|exact dsc|fail) only [go_sem,seval]);exact f1),(fun q=>by (rw [more_ne (by decide)] at q);(try simp (disch:=first|exact dsc|fail) only [go_sem,seval]);exact g0 q),(fun q=>by (rw [more_ne (by decide)] at q);(try simp (disch:=first|exact dsc|fail) only [go_sem,seval]);exact g1 q),(fun q=>by (rw [more_ne (by decide)] at q);(try simp (disch:=first|exact dsc|fail) only [go_sem,seval]);exact g2 q),(fun q=>by (rw [more_ne (by decide)] at q);(try simp (disch:=first|exact dsc|fail) only [go_sem,seval]);exact g3 q),(fun q=>by (rw [more_ne (by decide)] at q);(try simp (disch:=first|exact dsc|fail) only [go_sem,seval]);exact g4 q),(fun q=>by (rw [more_ne (by decide)] at q);(try simp (disch:=first|exact dsc|fail) only [go_sem,seval]);exact g5 q),(fun q=>by (rw [more_ne (by decide)] at q);(try simp (disch:=first|exact dsc|fail) only [go_sem,seval]);exact g6 q),(fun q=>by (rw [more_ne (by decide)] at q);(try simp (disch:=first|exact dsc|fail) only [go_sem,seval]);exact g7 q),(fun q=>by (rw [more_ne (by decide)] at q);(try simp (disch:=first|exact dsc|fail) only [go_sem,seval]);exact g8 q),(fun q=>by (rw [more_ne (by decide)] at q);(try simp (disch:=first|exact dsc|fail) only [go_sem,seval]);exact g9 q),(fun _=>by simp (disch:=first|exact dsc|fail) only [go_sem,seval]),(fun q=>by (rw [more_ne (by decide)] at q);(try simp (disch:=first|exact dsc|fail) only [go_sem,seval]);exact g11 q),(fun q=>by (rw [more_ne (by decide)] at q);(try simp (disch:=first|exact dsc|fail) only [go_sem,seval]);exact g12 q),(fun q=>by (rw [more_ne (by decide)] at q);exact more_t (m1 q)),(fun q=>by (rw [more_ne (by decide)] at q);exact more_t (m2 q)),(fun q=>by (rw [more_ne (by decide)] at q);exact more_t (m4 q)),(fun q=>by (rw [more_ne (by decide)] at q);exact more_t (m6 q)),(fun q=>by (rw [more_ne (by decide)] at q);exact more_t (m7 q)),(fun q=>by (rw [more_ne (by decide)] at q);exact more_t (m8 q)),(fun q=>by (rw [more_ne (by decide)] at q);obtain ⟨q4,q8⟩:=m9 q;exact ⟨more_t q4,more_t q8⟩),(fun _=>more_t h9),(fun q=>by (rw [more_ne (by decide)] at q);obtain ⟨q0,q1,q2,q11⟩:=m12 q;exact ⟨more_t q0,more_t q1,more_t q2,more_t q11⟩),(fun q=>by (rw [more_ne (by decide)] at q);obtain ⟨q0,q1,q2,q3,q4,q5,q6,q7,q8,q9,q10,q11,q12⟩:=m13 q;exact ⟨more_t q0,more_t q1,more_t q2,more_t q3,more_t q4,more_t q5,more_t q6,more_t q7,more_t q8,more_t q9,more_t q10,more_t q11,more_t q12⟩),(by (have e11:more L 10 11=L 11:=more_ne (by decide));(have e13:more L 10 13=L 13:=more_ne (by decide));(try simp only [e11,e13,n13]);first | done | rfl | (simp only [e11,e13,n13,if_true,if_false,Bool.false_eq_true];first | done | rfl | (simp (disch:=first|exact dsc|fail) only [go_sem,seval,e11,e13,n13,hl1,hx,hn2,cells_db,aggOf_db hn2,hfb,hn1,hzz]<;>rfl)))⟩
          · cases ho
            have n12:L 12=false:=Bool.eq_false_iff.2 fun e=>by (have:=m12 e;simp [hL] at this)
            have n13:L 13=false:=Bool.eq_false_iff.2 fun e=>by (have:=m13 e;simp [hL] at this)
            (try simp only [n13,hL,if_true,if_false,Bool.false_eq_true])
            refine opA_valH (.ptr (H.n+2) 0) rfl rfl (by simp (disch:=first|exact dsc|fail) only [go_sem,seval,reduceIte,Bool.false_eq_true,if_false,if_true,f0,f1,n12,n13,hL,hl1,hx,hn2,cells_db,aggOf_db hn2,hfb,hn1,hzz]<;>rfl) rfl ?_
            exact ⟨(by (try simp (disch:=first|exact dsc|fail) only [go_sem,seval]);exact f0),(by (try simp (disch:=first|exact dsc|fail) only [go_sem,seval]);exact f1),(fun q=>by (rw [more_ne (by decide)] at q);(try simp (disch:=first|exact dsc|fail) only [go_sem,seval]);exact g0 q),(fun q=>by (rw [more_ne (by decide)] at q);(try simp (disch:=first|exact dsc|fail) only [go_sem,seval]);exact g1 q),(fun q=>by (rw [more_ne (by decide)] at q);(try simp (disch:=first|exact dsc|fail) only [go_sem,seval]);exact g2 q),(fun q=>by (rw [more_ne (by decide)] at q);(try simp (disch:=first|exact dsc|fail) only [go_sem,seval]);exact g3 q),(fun q=>by (rw [more_ne (by decide)] at q);(try simp (disch:=first|exact dsc|fail) only [go_sem,seval]);exact g4 q),(fun q=>by (rw [more_ne (by decide)] at q);(try simp (disch:=first|exact dsc|fail) only [go_sem,seval]);exact g5 q),(fun q=>by (rw [more_ne (by decide)] at q);(try simp (disch:=first|exact dsc|fail) only [go_sem,seval]);exact g6 q),(fun q=>by (rw [more_ne (by decide)] at q);(try simp (disch:=first|exact dsc|fail) only [go_sem,seval]);exact g7 q),(fun q=>by (rw [more_ne (by decide)] at q);(try simp (disch:=first|exact dsc|fail) only [go_sem,seval]);exact g8 q),(fun q=>by (rw [more_ne (by decide)] at q);(try simp (disch:=first|exact dsc|fail) only [go_sem,seval]);exact g9 q),(fun q=>by (rw [more_ne (by decide)] at q);(try simp (disch:=first|exact dsc|fail) only [go_sem,seval]);exact g10 q),(fun _=>by simp (disch:=first|exact dsc|fail) only [go_sem,seval]),(fun q=>by (rw [more_ne (by decide)] at q);(try simp (disch:=first|exact dsc|fail) only [go_sem,seval]);exact g12 q),(fun q=>by (rw [more_ne (by decide)] at q);exact more_t (m1 q)),(fun q=>by (rw [more_ne (by decide)] at q);exact more_t (m2 q)),(fun q=>by (rw [more_ne (by decide)] at q);exact more_t (m4 q)),(fun q=>by (rw [more_ne (by decide)] at q);exact more_t (m6 q)),(fun q=>by (rw [more_ne (by decide)] at q);exact more_t (m7 q)),(fun q=>by (rw [more_ne (by decide)] at q);exact more_t (m8 q)),(fun q=>by (rw [more_ne (by decide)] at q);obtain ⟨q4,q8⟩:=m9 q;exact ⟨more_t q4,more_t q8⟩),(fun q=>by (rw [more_ne (by decide)] at q);exact more_t (m10 q)),(fun q=>by (rw [more_ne (by decide)] at q);obtain ⟨q0,q1,q2,q11⟩:=m12 q;exact ⟨more_t q0,more_t q1,more_t q2,more_t q11⟩),(fun q=>by (rw [more_ne (by decide)] at q);obtain ⟨q0,q1,q2,q3,q4,q5,q6,q7,q8,q9,q10,q11,q12⟩:=m13 q;exact ⟨more_t q0,more_t q1,more_t q2,more_t q3,more_t q4,more_t q5,more_t q6,more_t q7,more_t q8,more_t q9,more_t q10,more_t q11,more_t q12⟩),(by (have e11:more L 11 11=true:=more_eq);(have e13:more L 11 13=L 13:=more_ne (by decide));(try simp only [e11,e13,n13,hL]);first | done | rfl | (simp only [e11,e13,n13,hL,if_true,if_false,Bool.false_eq_true];first | done | rfl | (simp (disch:=first|exact dsc|fail) only [go_sem,seval,e11,e13,n13,hL,hl1,hx,hn2,cells_db,aggOf_db hn2,hfb,hn1,hzz]<;>rfl)))⟩
          · cases ho
            have h2:L 2=true:=hall ⟨2,.data⟩ (by simp) rfl
            have d2:=g2 h2
            have h0:L 0=true:=hall ⟨0,.phase⟩ (by simp) rfl
            have d0:=g0 h0
            have h1:L 1=true:=hall ⟨1,.phase⟩ (by simp) rfl
            have d1:=g1 h1
            have h11:L 11=true:=hall ⟨11,.phase⟩ (by simp) rfl
            have d11:=g11 h11
            have n13:L 13=false:=Bool.eq_false_iff.2 fun e=>by (have:=m13 e;simp [hL] at this)
            refine opA_val (.p (i64 (k:Nat))) rfl rfl (by simp (disch:=first|exact dsc|fail) only [go_sem,seval,reduceIte,Bool.false_eq_true,if_false,if_true,f0,f1,d0,d1,d2,d11,h0,h1,h2,h11,n13,hL,hl1,hx,hn2,cells_db,aggOf_db hn2,hfb,hn1,hzz]<;>rfl) rfl ?_
            exact ⟨(by (try simp (disch:=first|exact dsc|fail) only [go_sem,seval]);exact f0),(by (try simp (disch:=first|exact dsc|fail) only [go_sem,seval]);exact f1),(fun q=>by (rw [more_ne (by decide)] at q);(try simp (disch:=first|exact dsc|fail) only [go_sem,seval]);exact g0 q),(fun q=>by (rw [more_ne (by decide)] at q);(try simp (disch:=first|exact dsc|fail) only [go_sem,seval]);exact g1 q),(fun q=>by (rw [more_ne (by decide)] at q);(try simp (disch:=first|exact dsc|fail) only [go_sem,seval]);exact g2 q),(fun q=>by (rw [more_ne (by decide)] at q);(try simp (disch:=first|exact dsc|fail) only [go_sem,seval]);exact g3 q),(fun q=>by (rw [more_ne (by decide)] at q);(try simp (disch:=first|exact dsc|fail) only [go_sem,seval]);exact g4 q),(fun q=>by (rw [more_ne (by decide)] at q);(try simp (disch:=first|exact dsc|fail) only [go_sem,seval]);exact g5 q),(fun q=>by (rw [more_ne (by decide)] at q);(try simp (disch:=first|exact dsc|fail) only [go_sem,seval]);exact g6 q),(fun q=>by (rw [more_ne (by decide)] at q);(try simp (disch:=first|exact dsc|fail) only [go_sem,seval]);exact g7 q),(fun q=>by (rw [more_ne (by decide)] at q);(try simp (disch:=first|exact dsc|fail) only [go_sem,seval]);exact g8 q),(fun q=>by (rw [more_ne (by decide)] at q);(try simp (disch:=first|exact dsc|fail) only [go_sem,seval]);exact g9 q),(fun q=>by (rw [more_ne (by decide)] at q);(try simp (disch:=first|exact dsc|fail) only [go_sem,seval]);exact g10 q),(fun q=>by (rw [more_ne (by decide)] at q);(try simp (disch:=first|exact dsc|fail) only [go_sem,seval]);exact g11 q),(fun _=>by simp (disch:=first|exact dsc|fail) only [go_sem,seval]),(fun q=>by (rw [more_ne (by decide)] at q);exact more_t (m1 q)),(fun q=>by (rw [more_ne (by decide)] at q);exact more_t (m2 q)),(fun q=>by (rw [more_ne (by decide)] at q);exact more_t (m4 q)),(fun q=>by (rw [more_ne (by decide)] at q);exact more_t (m6 q)),(fun q=>by (rw [more_ne (by decide)] at q);exact more_t (m7 q)),(fun q=>by (rw [more_ne (by decide)] at q);exact more_t (m8 q)),(fun q=>by (rw [more_ne (by decide)] at q);obtain ⟨q4,q8⟩:=m9 q;exact ⟨more_t q4,more_t q8⟩),(fun q=>by (rw [more_ne (by decide)] at q);exact more_t (m10 q)),(fun _=>⟨more_t h0,more_t h1,more_t h2,more_t h11⟩),(fun q=>by (rw [more_ne (by decide)] at q);obtain ⟨q0,q1,q2,q3,q4,q5,q6,q7,q8,q9,q10,q11,q12⟩:=m13 q;exact ⟨more_t q0,more_t q1,more_t q2,more_t q3,more_t q4,more_t q5,more_t q6,more_t q7,more_t q8,more_t q9,more_t q10,more_t q11,more_t q12⟩),(by (have e11:more L 12 11=L 11:=more_ne (by decide));(have e13:more L 12 13=L 13:=more_ne (by decide));(try simp only [e11,e13,h11,n13]);first | done | rfl | (simp only [e11,e13,h11,n13,if_true,if_false,Bool.false_eq_true];first | done | rfl | (simp (disch:=first|exact dsc|fail) only [go_sem,seval,e11,e13,h11,n13,hl1,hx,hn2,cells_db,aggOf_db hn2,hfb,hn1,hzz]<;>rfl)))⟩
          · cases ho
            have h11:L 11=true:=hall ⟨11,.data⟩ (by simp) rfl
            have d11:=g11 h11
            have h10:L 10=true:=hall ⟨10,.data⟩ (by simp) rfl
            have d10:=g10 h10
            have h12:L 12=true:=hall ⟨12,.chain⟩ (by simp) rfl
            have d12:=g12 h12
            have h0:L 0=true:=hall ⟨0,.phase⟩ (by simp) rfl
            have d0:=g0 h0
            have h1:L 1=true:=hall ⟨1,.phase⟩ (by simp) rfl
            have d1:=g1 h1
            have h2:L 2=true:=hall ⟨2,.phase⟩ (by simp) rfl
            have d2:=g2 h2
            have h3:L 3=true:=hall ⟨3,.phase⟩ (by simp) rfl
            have d3:=g3 h3
            have h4:L 4=true:=hall ⟨4,.phase⟩ (by simp) rfl
            have d4:=g4 h4
            have h5:L 5=true:=hall ⟨5,.phase⟩ (by simp) rfl
            have d5:=g5 h5
            have h6:L 6=true:=hall ⟨6,.phase⟩ (by simp) rfl
            have d6:=g6 h6
            have h7:L 7=true:=hall ⟨7,.phase⟩ (by simp) rfl
            have d7:=g7 h7
            have h8:L 8=true:=hall ⟨8,.phase⟩ (by simp) rfl
            have d8:=g8 h8
            have h9:L 9=true:=hall ⟨9,.phase⟩ (by simp) rfl
            have d9:=g9 h9
            refine opA_unit rfl rfl (by simp (disch:=first|exact dsc|fail) only [go_sem,seval,reduceIte,Bool.false_eq_true,if_false,if_true,f0,f1,d0,d1,d2,d3,d4,d5,d6,d7,d8,d9,d10,d11,d12,h0,h1,h2,h3,h4,h5,h6,h7,h8,h9,h10,h11,h12,hL,hl1,hx,hn2,cells_db,aggOf_db hn2,hfb,hn1,hzz]<;>rfl) rfl ?_
            exact ⟨(by (try simp (disch:=first|exact dsc|fail) only [go_sem,seval]);exact f0),(by (try simp (disch:=first|exact dsc|fail) only [go_sem,seval]);exact f1),(fun q=>by (rw [more_ne (by decide)] at q);(try simp (disch:=first|exact dsc|fail) only [go_sem,seval]);exact g0 q),(fun q=>by (rw [more_ne (by decide)] at q);(try simp (disch:=first|exact dsc|fail) only [go_sem,seval]);exact g1 q),(fun q=>by (rw [more_ne (by decide)] at q);(try simp (disch:=first|exact dsc|fail) only [go_sem,seval]);exact g2 q),(fun q=>by (rw [more_ne (by decide)] at q);(try simp (disch:=first|exact dsc|fail) only [go_sem,seval]);exact g3 q),(fun q=>by (rw [more_ne (by decide)] at q);(try simp (disch:=first|exact dsc|fail) only [go_sem,seval]);exact g4 q),(fun q=>by (rw [more_ne (by decide)] at q);(try simp (disch:=first|exact dsc|fail) only [go_sem,seval]);exact g5 q),(fun q=>by (rw [more_ne (by decide)] at q);(try simp (disch:=first|exact dsc|fail) only [go_sem,seval]);exact g6 q),(fun q=>by (rw [more_ne (by decide)] at q);(try simp (disch:=first|exact dsc|fail) only [go_sem,seval]);exact g7 q),(fun q=>by (rw [more_ne (by decide)] at q);(try simp (disch:=first|exact dsc|fail) only [go_sem,seval]);exact g8 q),(fun q=>by (rw [more_ne (by decide)] at q);(try simp (disch:=first|exact dsc|fail) only [go_sem,seval]);exact g9 q),(fun q=>by (rw [more_ne (by decide)] at q);(try simp (disch:=first|exact dsc|fail) only [go_sem,seval]);exact g10 q),(fun q=>by (rw [more_ne (by decide)] at q);(try simp (disch:=first|exact dsc|fail) only [go_sem,seval]);exact g11 q),(fun q=>by (rw [more_ne (by decide)] at q);(try simp (disch:=first|exact dsc|fail) only [go_sem,seval]);exact g12 q),(fun q=>by (rw [more_ne (by decide)] at q);exact more_t (m1 q)),(fun q=>by (rw [more_ne (by decide)] at q);exact more_t (m2 q)),(fun q=>by (rw [more_ne (by decide)] at q);exact more_t (m4 q)),(fun q=>by (rw [more_ne (by decide)] at q);exact more_t (m6 q)),(fun q=>by (rw [more_ne (by decide)] at q);exact more_t (m7 q)),(fun q=>by (rw [more_ne (by decide)] at q);exact more_t (m8 q)),(fun q=>by (rw [more_ne (by decide)] at q);obtain ⟨q4,q8⟩:=m9 q;exact ⟨more_t q4,more_t q8⟩),(fun q=>by (rw [more_ne (by decide)] at q);exact more_t (m10 q)),(fun q=>by (rw [more_ne (by decide)] at q);obtain ⟨q0,q1,q2,q11⟩:=m12 q;exact ⟨more_t q0,more_t q1,more_t q2,more_t q11⟩),(fun _=>⟨more_t h0,more_t h1,more_t h2,more_t h3,more_t h4,more_t h5,more_t h6,more_t h7,more_t h8,more_t h9,more_t h10,more_t h11,more_t h12⟩),(by (have e11:more L 13 11=L 11:=more_ne (by decide));(have e13:more L 13 13=true:=more_eq);(try simp only [e11,e13,h11,hL]);first | done | rfl | (simp only [e11,e13,h11,hL,if_true,if_false,Bool.false_eq_true];first | done | rfl | (simp (disch:=first|exact dsc|fail) only [go_sem,seval,e11,e13,h11,hL,hl1,hx,hn2,cells_db,aggOf_db hn2,hfb,hn1,hzz]<;>rfl)))⟩
          · simp at ho
        · intro L env' H' hall hI
          obtain ⟨f0,f1,g0,g1,g2,g3,g4,g5,g6,g7,g8,g9,g10,g11,g12,_,_,_,_,_,_,_,_,_,_,rfl⟩:=hI
          have l11:=hall 11 (by decide)
          have l13:=hall 13 (by decide)
          replace g0:=g0 (hall 0 (by decide))
          replace g1:=g1 (hall 1 (by decide))
          replace g2:=g2 (hall 2 (by decide))
          replace g3:=g3 (hall 3 (by decide))
          replace g4:=g4 (hall 4 (by decide))
          replace g5:=g5 (hall 5 (by decide))
          replace g6:=g6 (hall 6 (by decide))
          replace g7:=g7 (hall 7 (by decide))
          replace g8:=g8 (hall 8 (by decide))
          replace g9:=g9 (hall 9 (by decide))
          replace g10:=g10 (hall 10 (by decide))
          replace g11:=g11 (hall 11 (by decide))
          replace g12:=g12 (hall 12 (by decide))
          simp only [l11,l13,if_true]
          clear hall
          rw [hH1]
          (repeat refine .z rfl ?_);refine .openQ 13 14 [13,14] follows (by kernel_rfl) (by kernel_rfl) ?_;simp (disch:=first|exact dsc|fail) only [go_sem,seval,f0,f1,g11,g12,hl1]
          by_cases c2:i < k
          · have d3:decide ((i:Int) < (k:Int))=true:=by simp only [decide_eq_true_eq];omega
            rw [if_pos c2] at h
            dsimp only at h
            have hcl:=clR_len (b:=b) f k i (path.take (path.length - 1))
            have ih1:=ih k i (by omega) (by omega) (by omega) c2 b hb (path.take (path.length - 1)) (by omega) hqm
            rw [hcb] at ih1
            generalize clR f k i b (path.take (path.length - 1))=r at *
            obtain ⟨dd,is⟩:=r
            dsimp only at *
            (repeat refine .z rfl ?_);refine .text ?_;simp (disch:=first|exact dsc|fail) only [go_sem,seval,f0,f1,g11,g12,d3]
            (repeat refine .z rfl ?_);refine .ifT (by simp (disch:=first|exact dsc|fail) only [go_sem,seval,d3]) ?_
            (repeat refine .z rfl ?_);refine .text ?_;simp (disch:=first|exact dsc|fail) only [go_sem,seval,f0,f1,g11,g12]
            refine CallK.of (fun R h=>ih1 _ R h) ?_;simp (disch:=first|exact dsc|fail) only [go_sem,seval,f0,f1,g11,g12,hcl]
            (repeat refine .z rfl ?_);refine .text ?_;simp (disch:=first|exact dsc|fail) only [go_sem,seval,f0,f1,g11,g12,hcl,hn2]
            refine CallK.of (fun R h=>PairR_spec dd x hcl hn2 _ R h) ?_;simp (disch:=first|exact dsc|fail) only [go_sem,seval,f0,f1,g11,g12,hcl,pair_len,hzz]
            (repeat refine .z rfl ?_);refine .rt Tryd.func56 (by rw [Tryd.results56]) (hx:=by simp (disch:=first|exact dsc|fail) only [go_sem,seval,f0,f1,g11,g12,ares_ct,optTup_some,pair_len];rfl) (hR := ?_);simp (disch:=first|exact dsc|fail) only [go_sem,seval,f0,f1,g11,g12,ares_ct,optTup_some,pair_len]
            exact h
          · have d3:decide ((i:Int) < (k:Int))=false:=by simp only [decide_eq_false_iff_not];omega
            have hsub2:(i:Int) - (k:Int)=((i - k:Nat):Int):=by omega
            rw [if_neg c2] at h
            dsimp only at h
            have hcl:=clR_len (b:=b) f (n - k) (i - k) (path.take (path.length - 1))
            have ih1:=ih (n - k) (i - k) (by omega) (by omega) (by omega) (by omega) b hb (path.take (path.length - 1)) (by omega) hqm
            rw [hcb] at ih1
            generalize clR f (n - k) (i - k) b (path.take (path.length - 1))=r at *
            obtain ⟨dd,is⟩:=r
            dsimp only at *
            (repeat refine .z rfl ?_);refine .text ?_;simp (disch:=first|exact dsc|fail) only [go_sem,seval,f0,f1,g11,g12,d3]
            (repeat refine .z rfl ?_);refine .ifF (by simp (disch:=first|exact dsc|fail) only [go_sem,seval,d3]) ?_
            (repeat refine .z rfl ?_);refine .text ?_;simp (disch:=first|exact dsc|fail) only [go_sem,seval,f0,f1,g11,g12,hsub]
            (repeat refine .z rfl ?_);refine .text ?_;simp (disch:=first|exact dsc|fail) only [go_sem,seval,f0,f1,g11,g12,hsub2]
            (repeat refine .z rfl ?_);refine .text ?_;simp (disch:=first|exact dsc|fail) only [go_sem,seval,f0,f1,g11,g12]
            refine CallK.of (fun R h=>ih1 _ R h) ?_;simp (disch:=first|exact dsc|fail) only [go_sem,seval,f0,f1,g11,g12,hcl]
            (repeat refine .z rfl ?_);refine .text ?_;simp (disch:=first|exact dsc|fail) only [go_sem,seval,f0,f1,g11,g12,hcl,hn2]
            refine CallK.of (fun R h=>PairR_spec x dd hn2 hcl _ R h) ?_;simp (disch:=first|exact dsc|fail) only [go_sem,seval,f0,f1,g11,g12,hcl,pair_len,hzz]
            (repeat refine .z rfl ?_);refine .rt Tryd.func56 (by rw [Tryd.results56]) (hx:=by simp (disch:=first|exact dsc|fail) only [go_sem,seval,f0,f1,g11,g12,ares_ct,optTup_some,pair_len];rfl) (hR := ?_);simp (disch:=first|exact dsc|fail) only [go_sem,seval,f0,f1,g11,g12,ares_ct,optTup_some,pair_len]
            exact h
end walks
end Go.Proofs.YthonhnpiglafkaaDoor

/-
  Hash trees: the peaks after pushing leaves one by one,and their bag.
-/
namespace Go.Proofs.YthonhnpiglafkaaDoor
open Go Go.AL

def peakF:Nat → List By → List By
  | 0,_=>[]
  | f+1,ls=>if ls=[] then [] else rootD (ls.take (2 ^ Nat.log2 ls.length)) :: peakF f (ls.drop (2 ^ Nat.log2 ls.length))
def peaks (ls:List By):List By:=peakF ls.length ls

theorem pw_pos (a:Nat):1≤2 ^ a:=Nat.one_le_two_pow


def pcF:Nat → Nat → Nat
  | 0,_=>0
  | f+1,n=>n % 2+pcF f (n / 2)
theorem pcF_eq : ∀ f n,n < 2 ^ f → pcF f n=pc n
  | 0,n,h=>by
    have:n=0:=by simpa using h
    subst this;rw [pc_zero];rfl
  | f+1,n,h=>by
    by_cases e:n=0
    · subst e
      rw [pcF,pcF_eq f _ (by have:=pw_pos f;omega),pc_zero]
    · rw [pcF,pc_pos e,pcF_eq f _ (by rw [Nat.pow_succ] at h;omega)]


end Go.Proofs.YthonhnpiglafkaaDoor

/-
  Bits: counting ones word by word counts them,up to 65536 (by the kernel,number by number).
-/
namespace Go.Proofs.YthonhnpiglafkaaDoor
open Go Go.AL

def okR:Nat → Nat → Bool
  | 0,_=>true
  | f+1,a=>Nat.beq (oc (BitVec.ofNat 64 a)).toNat (pcF 17 a) && okR f (a+1)
theorem okR_spec : ∀ (f a n:Nat),okR f a=true → a≤n → n < a+f → (oc (BitVec.ofNat 64 n)).toNat=pcF 17 n
  | 0,a,n,_,h1,h2=>by omega
  | f+1,a,n,h,h1,h2=>by
    simp only [okR,Bool.and_eq_true] at h
    rcases Nat.lt_or_ge a n with h3 | h3
    · exact okR_spec f (a+1) n h.2 (by omega) (by omega)
    · obtain rfl:a=n:=by omega
      exact Nat.eq_of_beq_eq_true h.1
theorem ok0:okR 8192 0=true:=by decide +kernel
theorem ok1:okR 8192 8192=true:=by decide +kernel
theorem ok2:okR 8192 16384=true:=by decide +kernel
theorem ok3:okR 8192 24576=true:=by decide +kernel
theorem ok4:okR 8192 32768=true:=by decide +kernel
theorem ok5:okR 8192 40960=true:=by decide +kernel
theorem ok6:okR 8192 49152=true:=by decide +kernel
theorem ok7:okR 8192 57344=true:=by decide +kernel
theorem ok8:okR 1 65536=true:=by decide +kernel
theorem oc_pc {n:Nat} (h:n≤65536):(oc (BitVec.ofNat 64 n)).toNat=pc n:=by
  rw [←pcF_eq 17 n (by omega)]
  rcases Nat.lt_or_ge n 8192 with h0 | h0
  · exact okR_spec _ _ n ok0 (by omega) (by omega)
  rcases Nat.lt_or_ge n 16384 with h1 | h1
  · exact okR_spec _ _ n ok1 (by omega) (by omega)
  rcases Nat.lt_or_ge n 24576 with h2 | h2
  · exact okR_spec _ _ n ok2 (by omega) (by omega)
  rcases Nat.lt_or_ge n 32768 with h3 | h3
  · exact okR_spec _ _ n ok3 (by omega) (by omega)
  rcases Nat.lt_or_ge n 40960 with h4 | h4
  · exact okR_spec _ _ n ok4 (by omega) (by omega)
  rcases Nat.lt_or_ge n 49152 with h5 | h5
  · exact okR_spec _ _ n ok5 (by omega) (by omega)
  rcases Nat.lt_or_ge n 57344 with h6 | h6
  · exact okR_spec _ _ n ok6 (by omega) (by omega)
  rcases Nat.lt_or_ge n 65536 with h7 | h7
  · exact okR_spec _ _ n ok7 (by omega) (by omega)
  exact okR_spec _ _ n ok8 (by omega) (by omega)
end Go.Proofs.YthonhnpiglafkaaDoor

/-
  Hash trees: whether a leaf belongs to a tree: the program and the reference agree.
-/
namespace Go.Proofs.YthonhnpiglafkaaDoor
open Go Go.AL

theorem pcF_top : ∀ f n,pcF f n≤f
  | 0,_=>Nat.le_refl _
  | f+1,n=>by have:=pcF_top f (n / 2);rw [pcF];omega
theorem con_eq {P:List By} {n i:Nat} {b:By} {path:List By} (h1:1≤n) (h2:n≤65536) (h3:i < n):contN P n i b path=conR P n i b path:=by
  unfold contN conR
  have e:sideL n i=sd n n i:=by
    unfold sideL
    rw [stepL_sd n i 0 n (by omega) h3]
    rfl
  obtain ⟨q1,q2⟩:=clR_eq (b:=b) n n i path (Nat.le_refl _) h1 h3
  rw [oc_pc h2,e,Int.toNat_natCast,Int.toNat_natCast]
  by_cases c:pc n=P.length
  · have hc:1≤(n:Int)∧(n:Int)≤65536∧0≤(i:Int)∧(i:Int) < (n:Int)∧pc n=P.length:=⟨by omega,by omega,by omega,by omega,c⟩
    rw [if_pos c,if_pos hc,q1]
    by_cases c2:(sd n n i).length=path.length
    · rw [if_pos c2,decide_eq_true c2,Bool.true_and,q2 c2]
    · rw [if_neg c2,decide_eq_false c2,Bool.false_and]
  · rw [if_neg c,if_neg (fun x=>c x.2.2.2.2)]

section walks
variable {G:Globs}
theorem Contains_bad (P:List By) (n i:Int) (b:By) (path:List By) (hn : ¬(1≤n∧n≤65536∧0≤i∧i < n)) (H:Hp) (R:AV → Hp → Prop) (h:R (.p (bo false)) H) :
    ACall Tryd.prog G 24 [.p (.sl false 32 (pl db P)),.p (.agg [i64 n,i64 i,.sl false 1 (pl b8 b),.sl false 32 (pl db path)])] H R:=by
  refine ACall.of_run (raw:=[]) Tryd.func24 rfl Tryd.ntmps24 (by simp) fun hbel => ?_
  (repeat refine .z rfl ?_);refine .text ?_;simp (disch:=first|exact dsc|fail) only [go_sem,seval]
  by_cases c1:n < 1
  · have d1:=decide_eq_true c1
    (repeat refine .z rfl ?_);refine .text ?_;simp (disch:=first|exact dsc|fail) only [go_sem,seval,d1]
    (repeat refine .z rfl ?_);refine .ifT (by simp (disch:=first|exact dsc|fail) only [go_sem,seval,d1]) ?_
    (repeat refine .z rfl ?_);refine .text ?_;simp (disch:=first|exact dsc|fail) only [go_sem,seval]
    (repeat refine .z rfl ?_);refine .rt Tryd.func24 (by rw [Tryd.results24]) (hR := ?_);simp (disch:=first|exact dsc|fail) only [go_sem,seval]
    exact h
  have d1:=decide_eq_false c1
  by_cases c2:65536 < n
  · have d2:=decide_eq_true c2
    (repeat refine .z rfl ?_);refine .text ?_;simp (disch:=first|exact dsc|fail) only [go_sem,seval,d1,d2]
    (repeat refine .z rfl ?_);refine .ifT (by simp (disch:=first|exact dsc|fail) only [go_sem,seval,d1,d2]) ?_
    (repeat refine .z rfl ?_);refine .text ?_;simp (disch:=first|exact dsc|fail) only [go_sem,seval]
    (repeat refine .z rfl ?_);refine .rt Tryd.func24 (by rw [Tryd.results24]) (hR := ?_);simp (disch:=first|exact dsc|fail) only [go_sem,seval]
    exact h
  have d2:=decide_eq_false c2
  by_cases c3:i < 0
  · have d3:=decide_eq_true c3
    (repeat refine .z rfl ?_);refine .text ?_;simp (disch:=first|exact dsc|fail) only [go_sem,seval,d1,d2,d3]
    (repeat refine .z rfl ?_);refine .ifT (by simp (disch:=first|exact dsc|fail) only [go_sem,seval,d1,d2,d3]) ?_
    (repeat refine .z rfl ?_);refine .text ?_;simp (disch:=first|exact dsc|fail) only [go_sem,seval]
    (repeat refine .z rfl ?_);refine .rt Tryd.func24 (by rw [Tryd.results24]) (hR := ?_);simp (disch:=first|exact dsc|fail) only [go_sem,seval]
    exact h
  have d3:=decide_eq_false c3
  have d4:decide (n≤i)=true:=by simp only [decide_eq_true_eq];omega
  (repeat refine .z rfl ?_);refine .text ?_;simp (disch:=first|exact dsc|fail) only [go_sem,seval,d1,d2,d3,d4]
  (repeat refine .z rfl ?_);refine .ifT (by simp (disch:=first|exact dsc|fail) only [go_sem,seval,d1,d2,d3,d4]) ?_
  (repeat refine .z rfl ?_);refine .text ?_;simp (disch:=first|exact dsc|fail) only [go_sem,seval]
  (repeat refine .z rfl ?_);refine .rt Tryd.func24 (by rw [Tryd.results24]) (hR := ?_);simp (disch:=first|exact dsc|fail) only [go_sem,seval]
  exact h

set_option maxHeartbeats 16000000 in
theorem ContainsR_spec (P:List By) (hl:P.length≤100000) (hP : ∀ d∈P,d.length=32) (n i:Int) (b:By) (hb:b.length≤140737488352000) (path:List By) (hpl:path.length≤100000) (hpm : ∀ d∈path,d.length=32)
    (H:Hp) (R:AV → Hp → Prop) (h:R (.p (bo (conR P n i b path))) H) :
    ACall Tryd.prog G 25 [.p (.sl false 32 (pl db P)),.p (.agg [i64 n,i64 i,.sl false 1 (pl b8 b),.sl false 32 (pl db path)])] H R:=by
  unfold conR at h
  refine ACall.of_run (raw:=[]) Tryd.func25 rfl Tryd.ntmps25 (by simp) fun hbel => ?_
  (repeat refine .z rfl ?_);refine .text ?_;simp (disch:=first|exact dsc|fail) only [go_sem,seval]
  by_cases c1:n < 1
  · have d1:=decide_eq_true c1
    rw [if_neg (fun x=>by omega)] at h
    (repeat refine .z rfl ?_);refine .text ?_;simp (disch:=first|exact dsc|fail) only [go_sem,seval,d1]
    (repeat refine .z rfl ?_);refine .ifT (by simp (disch:=first|exact dsc|fail) only [go_sem,seval,d1]) ?_
    (repeat refine .z rfl ?_);refine .text ?_;simp (disch:=first|exact dsc|fail) only [go_sem,seval]
    (repeat refine .z rfl ?_);refine .rt Tryd.func25 (by rw [Tryd.results25]) (hR := ?_);simp (disch:=first|exact dsc|fail) only [go_sem,seval]
    exact h
  have d1:=decide_eq_false c1
  by_cases c2:65536 < n
  · have d2:=decide_eq_true c2
    rw [if_neg (fun x=>by omega)] at h
    (repeat refine .z rfl ?_);refine .text ?_;simp (disch:=first|exact dsc|fail) only [go_sem,seval,d1,d2]
    (repeat refine .z rfl ?_);refine .ifT (by simp (disch:=first|exact dsc|fail) only [go_sem,seval,d1,d2]) ?_
    (repeat refine .z rfl ?_);refine .text ?_;simp (disch:=first|exact dsc|fail) only [go_sem,seval]
    (repeat refine .z rfl ?_);refine .rt Tryd.func25 (by rw [Tryd.results25]) (hR := ?_);simp (disch:=first|exact dsc|fail) only [go_sem,seval]
    exact h
  have d2:=decide_eq_false c2
  by_cases c3:i < 0
  · have d3:=decide_eq_true c3
    rw [if_neg (fun x=>by omega)] at h
    (repeat refine .z rfl ?_);refine .text ?_;simp (disch:=first|exact dsc|fail) only [go_sem,seval,d1,d2,d3]
    (repeat refine .z rfl ?_);refine .ifT (by simp (disch:=first|exact dsc|fail) only [go_sem,seval,d1,d2,d3]) ?_
    (repeat refine .z rfl ?_);refine .text ?_;simp (disch:=first|exact dsc|fail) only [go_sem,seval]
    (repeat refine .z rfl ?_);refine .rt Tryd.func25 (by rw [Tryd.results25]) (hR := ?_);simp (disch:=first|exact dsc|fail) only [go_sem,seval]
    exact h
  have d3:=decide_eq_false c3
  by_cases c4:n≤i
  · have d4:=decide_eq_true c4
    rw [if_neg (fun x=>by omega)] at h
    (repeat refine .z rfl ?_);refine .text ?_;simp (disch:=first|exact dsc|fail) only [go_sem,seval,d1,d2,d3,d4]
    (repeat refine .z rfl ?_);refine .ifT (by simp (disch:=first|exact dsc|fail) only [go_sem,seval,d1,d2,d3,d4]) ?_
    (repeat refine .z rfl ?_);refine .text ?_;simp (disch:=first|exact dsc|fail) only [go_sem,seval]
    (repeat refine .z rfl ?_);refine .rt Tryd.func25 (by rw [Tryd.results25]) (hR := ?_);simp (disch:=first|exact dsc|fail) only [go_sem,seval]
    exact h
  have d4:=decide_eq_false c4
  obtain ⟨m,rfl⟩ : ∃ m:Nat,n=m:=⟨n.toNat,by omega⟩
  obtain ⟨j,rfl⟩ : ∃ j:Nat,i=j:=⟨i.toNat,by omega⟩
  rw [Int.toNat_natCast,Int.toNat_natCast] at h
  have hpcl:pc m≤100000:=by
    rw [←pcF_eq 17 m (by omega)]
    exact Nat.le_trans (pcF_top 17 m) (by omega)
  (repeat refine .z rfl ?_);refine .text ?_;simp (disch:=first|exact dsc|fail) only [go_sem,seval,d1,d2,d3,d4]
  refine CallK.of (fun R h=>ones_spec m (by omega) _ R h) ?_;simp (disch:=first|exact dsc|fail) only [go_sem,seval]
  by_cases e:pc m=P.length
  · have d5:(((pc m:Nat):Int) != (P.length:Int))=false:=by rw [e];simp
    rw [if_pos ⟨by omega,by omega,by omega,by omega,e⟩] at h
    have hcl:=clR_len (b:=b) m m j path
    have hbl:=bagD_len hP
    have hcs:=climb_spec (G:=G) m m j (Nat.le_refl _) (by omega) (by omega) (by omega) b hb path hpl hpm
    rw [show bs b = .sl false 1 (pl b8 b) from rfl] at hcs
    generalize clR m m j b path=r at *
    obtain ⟨dd,is⟩:=r
    dsimp only at *
    simp (disch:=first|exact dsc|fail) only [go_sem,seval,d5]
    (repeat refine .z rfl ?_);refine .ifF (by simp (disch:=first|exact dsc|fail) only [go_sem,seval,d5]) ?_
    (repeat refine .z rfl ?_);refine .text ?_;simp (disch:=first|exact dsc|fail) only [go_sem,seval]
    refine CallK.of (fun R h=>hcs _ R h) ?_;simp (disch:=first|exact dsc|fail) only [go_sem,seval,hcl]
    cases is
    · (repeat refine .z rfl ?_);refine .open [] follows (by kernel_rfl) ?_;simp (disch:=first|exact dsc|fail) only [go_sem,seval,hcl,hbl]
      (repeat refine .z rfl ?_);refine .rt Tryd.func25 (by rw [Tryd.results25]) (hR := ?_);simp (disch:=first|exact dsc|fail) only [go_sem,seval]
      exact h
    · (repeat refine .z rfl ?_);refine .open [] follows (by kernel_rfl) ?_;simp (disch:=first|exact dsc|fail) only [go_sem,seval,hcl,hbl]
      refine CallD.still (fun R h=>BagR_spec P hl hP _ R h) ?_;simp (disch:=first|exact dsc|fail) only [go_sem,seval,hcl,hbl]
      (repeat refine .z rfl ?_);refine .rt Tryd.func25 (by rw [Tryd.results25]) (hR := ?_);simp (disch:=first|exact dsc|fail) only [go_sem,seval]
      exact h
  · have d5:(((pc m:Nat):Int) != (P.length:Int))=true:=by rw [bne_iff_ne];omega
    rw [if_neg (fun x=>e x.2.2.2.2)] at h
    simp (disch:=first|exact dsc|fail) only [go_sem,seval,d5]
    (repeat refine .z rfl ?_);refine .ifT (by simp (disch:=first|exact dsc|fail) only [go_sem,seval,d5]) ?_
    (repeat refine .z rfl ?_);refine .text ?_;simp (disch:=first|exact dsc|fail) only [go_sem,seval]
    (repeat refine .z rfl ?_);refine .rt Tryd.func25 (by rw [Tryd.results25]) (hR := ?_);simp (disch:=first|exact dsc|fail) only [go_sem,seval]
    exact h
end walks
end Go.Proofs.YthonhnpiglafkaaDoor

/-
  Hash trees: what the opening of any selection of leaves is rebuilt to.
-/
namespace Go.Proofs.YthonhnpiglafkaaDoor
open Go Go.AL


theorem filter_split {k:Int} : ∀ {l:List Int},l.Pairwise (· < ·) → (l.filter fun i=>decide (i < k))++(l.filter fun i=>decide (k≤i))=l
  | [],_=>rfl
  | x :: l,h=>by
    rw [List.pairwise_cons] at h
    by_cases c:x < k
    · rw [List.filter_cons_of_pos (by simpa using c),List.filter_cons_of_neg (by simp;omega),List.cons_append,filter_split h.2]
    · have e:(l.filter fun i=>decide (i < k))=[]:=List.filter_eq_nil_iff.2 fun y hy=>by have:=h.1 y hy;simp;omega
      have e2:(l.filter fun i=>decide (k≤i))=l:=List.filter_eq_self.2 fun y hy=>by have:=h.1 y hy;simp;omega
      rw [List.filter_cons_of_neg (by simpa using c),List.filter_cons_of_pos (by simp;omega),e,e2]
      rfl



theorem inc_pw {n:Int} {idx:List Int} (h:Inc n idx):idx.Pairwise (· < ·) ∧ ∀ i∈idx,0≤i∧i < n:=by
  refine ⟨?_,fun i hi => ?_⟩
  · refine asc_pw.1 ?_
    have hs : ∀ i,i+1 < idx.length → nth idx i < nth idx (i+1):=fun i hi=>by have:=(h (i+1) hi).1;rwa [prevI_succ] at this
    intro i j hij
    induction j with
    | zero=>omega
    | succ j ih =>
      intro hj
      rcases Nat.lt_or_ge i j with h1 | h1
      · have:=ih h1 (by omega)
        have:=hs j hj
        omega
      · obtain rfl:i=j:=by omega
        exact hs i hj
  · obtain ⟨j,hj,rfl⟩:=List.getElem_of_mem hi
    have e:nth idx j=idx[j]:=by simp [nth,hj]
    rw [←e]
    exact ⟨h.nonneg j hj,(h j hj).2⟩




end Go.Proofs.YthonhnpiglafkaaDoor

/-
  Hash trees: the reference's rebuilding,and its Verify.
-/
namespace Go.Proofs.YthonhnpiglafkaaDoor
open Go Go.AL

theorem rebF_use : ∀ (f:Nat) (idx:List Int) (lo hi:Nat) (l d:List By) (c:Bool),hi - lo≤f → lo < hi → idx.Pairwise (· < ·) → (∀ i∈idx,(lo:Int)≤i∧i < hi) →
    ∃ x,rebF f idx lo hi l d c=(x,l.drop idx.length,d.drop (closL f idx lo hi).length,c && decide ((closL f idx lo hi).length≤d.length))
  | 0,_,lo,hi,_,_,_,h1,h2,_,_=>by omega
  | f+1,idx,lo,hi,l,d,c,h1,h2,ha,hr=>by
    by_cases e:idx=[]
    · subst e
      rw [rebF,closL,if_pos rfl,if_pos rfl]
      refine ⟨hdD d,?_⟩
      cases d with
      | nil=>rfl
      | cons y d=>simp
    · by_cases e1:hi - lo=1
      · have hx:idx.length=1:=by
          cases idx with
          | nil=>exact absurd rfl e
          | cons x t =>
            have hx:=hr x (by simp)
            cases t with
            | nil=>rfl
            | cons y t =>
              have hy:=hr y (by simp)
              have:=(List.pairwise_cons.1 ha).1 y (by simp)
              omega
        rw [rebF,closL,if_neg e,if_neg e,if_pos e1,if_pos e1,hx]
        exact ⟨leaf (hdB l),by simp⟩
      · have hs:=spl_lt (n:=hi - lo) (by omega)
        have hsp:=filter_split (k:=((lo+spl (hi - lo):Nat):Int)) ha
        rw [closL,if_neg e,if_neg e1]
        generalize hk:lo+spl (hi - lo)=k at *
        obtain ⟨x1,i1⟩:=rebF_use f (idx.filter fun i=>decide (i < (k:Int))) lo k l d c (by omega) (by omega) (ha.filter _) (fun i hi=>by
          have h:=List.mem_filter.1 hi
          have:=hr i h.1
          have:=h.2
          simp at this
          omega)
        generalize hc1:closL f (idx.filter fun i=>decide (i < (k:Int))) lo k=c1 at *
        obtain ⟨x2,i2⟩:=rebF_use f (idx.filter fun i=>decide ((k:Int)≤i)) k hi (l.drop (idx.filter fun i=>decide (i < (k:Int))).length) (d.drop c1.length) (c && decide (c1.length≤d.length)) (by omega) (by omega) (ha.filter _) (fun i hi=>by
          have h:=List.mem_filter.1 hi
          have:=hr i h.1
          have:=h.2
          simp at this
          omega)
        generalize hc2:closL f (idx.filter fun i=>decide ((k:Int)≤i)) k hi=c2 at *
        refine ⟨pair x1 x2,?_⟩
        rw [rebF_split e e1 hk i1 i2,List.drop_drop,List.drop_drop]
        have hl:(idx.filter fun i=>decide (i < (k:Int))).length+(idx.filter fun i=>decide ((k:Int)≤i)).length=idx.length:=by
          rw [←List.length_append,hsp]
        rw [hl,List.length_append]
        congr 3
        rw [List.length_drop,Bool.and_assoc]
        congr 1
        by_cases e2:c1.length+c2.length≤d.length
        · rw [decide_eq_true (by omega),decide_eq_true (by omega),decide_eq_true e2];rfl
        · rw [decide_eq_false e2]
          by_cases e3:c1.length≤d.length
          · rw [decide_eq_true e3,decide_eq_false (by omega)];rfl
          · rw [decide_eq_false e3];rfl

theorem closL_small : ∀ (f:Nat) (idx:List Int) (lo hi:Nat),hi - lo≤f → lo < hi → idx≠[] → ∀ r∈closL f idx lo hi,lo≤r.1∧r.1 < r.2∧r.2≤hi∧r≠(lo,hi)
  | 0,_,lo,hi,h1,h2,_=>by omega
  | f+1,idx,lo,hi,h1,h2,e=>by
    intro r hr
    rw [closL,if_neg e] at hr
    split at hr
    · cases hr
    · have hs:=spl_lt (n:=hi - lo) (by omega)
      have hin : ∀ (l:List Int) (a b:Nat),a < b → ∀ r∈closL f l a b,a≤r.1∧r.1 < r.2∧r.2≤b:=fun l a b hab r hr=>by
        obtain ⟨j,hj,rfl⟩:=List.getElem_of_mem hr
        have h:=closL_rng f l a b hab j hj
        have e:nth (closL f l a b) j=(closL f l a b)[j]:=by unfold nth;rw [List.getElem?_eq_getElem hj];rfl
        rw [e] at h
        exact h
      generalize hk:lo+spl (hi - lo)=k at *
      rcases List.mem_append.1 hr with h | h
      · have:=hin _ _ _ (by omega) r h
        exact ⟨by omega,by omega,by omega,fun x=>by rw [x] at this;omega⟩
      · have:=hin _ _ _ (by omega) r h
        exact ⟨by omega,by omega,by omega,fun x=>by rw [x] at this;omega⟩

theorem rng_split {idx:List Int} {lo k hi:Nat} (hp:idx.Pairwise (· < ·)) (h1:lo≤k) (h2:k≤hi):(rng idx lo hi).length=(rng idx lo k).length+(rng idx k hi).length:=by
  have h:=filter_split (k:=(k:Int)) (l:=rng idx lo hi) (hp.filter _)
  rw [←rng_filter_lt h2,←rng_filter_ge h1,←List.length_append,h]
theorem rng_mem {idx:List Int} {lo hi:Nat} : ∀ i∈rng idx lo hi,(lo:Int)≤i∧i < hi:=fun i h=>by
  have:=(List.mem_filter.1 h).2
  simpa using this
theorem first_idx {α:Type} [Inhabited α] {c pre post:List α} {x:α} (h:c=pre++x :: post):nth c pre.length=x:=by subst h;unfold nth;simp

theorem closL_nil' {f lo hi:Nat}:closL (f+1) [] lo hi=[(lo,hi)]:=by rw [closL,if_pos rfl]
theorem mem3 {c pre cl post:List (Nat × Nat)} (hc:c=pre++cl++post) {j:Nat} (hj:j < c.length):(j < pre.length∧nth c j∈pre) ∨ (pre.length≤j∧j < pre.length+cl.length∧nth c j∈cl) ∨ (pre.length+cl.length≤j∧nth c j∈post):=by
  have e:nth c j=c[j]:=by unfold nth;rw [List.getElem?_eq_getElem hj];rfl
  rw [e]
  subst hc
  rw [List.length_append,List.length_append] at hj
  rcases Nat.lt_or_ge j pre.length with h1 | h1
  · left
    refine ⟨h1,?_⟩
    rw [List.getElem_append_left (by rw [List.length_append];omega),List.getElem_append_left h1]
    exact List.getElem_mem _
  · rcases Nat.lt_or_ge j (pre.length+cl.length) with h2 | h2
    · right;left
      refine ⟨h1,h2,?_⟩
      rw [List.getElem_append_left (by rw [List.length_append];omega),List.getElem_append_right h1]
      exact List.getElem_mem _
    · right;right
      refine ⟨h2,?_⟩
      rw [List.getElem_append_right (by rw [List.length_append];omega)]
      exact List.getElem_mem _
theorem found {f lo hi:Nat} {l:List Int} {c pre post:List (Nat × Nat)} (h1:hi - lo≤f+1) (h2:lo < hi) (hc:c=pre++closL (f+1) l lo hi++post) (hpre : ∀ r∈pre,r.2≤lo) (hpost : ∀ r∈post,hi≤r.1) {j:Nat} (hj:j < c.length) (h:nth c j=(lo,hi)):l=[]∧j=pre.length:=by
  rcases mem3 hc hj with ⟨_,hm⟩ | ⟨a,b,hm⟩ | ⟨_,hm⟩
  · rw [h] at hm
    have:=hpre _ hm
    dsimp only at this
    omega
  · rw [h] at hm
    by_cases e:l=[]
    · subst e
      rw [closL_nil'] at b
      simp at b
      exact ⟨rfl,by omega⟩
    · exact absurd rfl (closL_small (f+1) l lo hi h1 h2 e _ hm).2.2.2
  · rw [h] at hm
    have:=hpost _ hm
    dsimp only at this
    omega

section walks
variable {G:Globs}
def opV (idx:List Int) (B N:List By) (c:List (Nat × Nat)):PV := .agg [.sl false 1 (pl i64 idx),.sl false 1 (pl bs B),.sl false 32 (pl db N),.sl false 2 (pl mx c)]
set_option maxHeartbeats 16000000 in
theorem rebuildR_spec (idx:List Int) (hil:idx.length≤100000) (hp:idx.Pairwise (· < ·)) (B N:List By) (hB:Short B) (hBl:B.length=idx.length) (hN : ∀ d∈N,d.length=32) (c:List (Nat × Nat)) (hNl:N.length=c.length) (hcl:c.length≤100000) (hcb : ∀ r∈c,r.1≤65536∧r.2≤65536) : ∀ (f lo hi:Nat) (_:hi - lo≤f) (_:lo < hi) (_:hi≤65536)
    (pre post:List (Nat × Nat)) (_:c=pre++closL f (rng idx lo hi) lo hi++post) (_ : ∀ r∈pre,r.2≤lo) (_ : ∀ r∈post,hi≤r.1) (H:Hp) (R:AV → Hp → Prop)
    (_:R (.p (.agg (pl b8 (rebF f (rng idx lo hi) lo hi (B.drop (rng idx 0 lo).length) (N.drop pre.length) true).1))) H),ACall Tryd.prog G 52 [.p (opV idx B N c),.p (i64 lo),.p (i64 hi)] H R:=by
  intro f
  induction f with
  | zero=>intro lo hi h1 h2;omega
  | succ f ih =>
    intro lo hi h1 h2 h3 pre post hc hpre hpost H R h
    unfold opV
    refine ACall.of_run (raw:=[]) Tryd.func52 rfl Tryd.ntmps52 (by simp) fun hbel => ?_
    (repeat refine .z rfl ?_);refine .text ?_;simp (disch:=first|exact dsc|fail) only [go_sem,seval]
    (repeat refine .z rfl ?_);refine .text ?_;simp (disch:=first|exact dsc|fail) only [go_sem,seval]
    have hzz:zeroD.length=32:=rfl
    unfold opV at ih
    (repeat refine .z rfl ?_);refine .loopE [1,2,3,6] (fun j=>[(7,.p (i64 j))]) (fun j=>[]) (fun j => ∀ q,q < j → nth c q≠(lo,hi)) (0) (c.length) (by omega) ?_ (by first | rfl | (simp (disch:=first|exact dsc|fail) only [go_sem,seval,zeroL]<;>rfl)) ?_ ?_ ?_
    · simp (disch:=first|exact dsc|fail) only [go_sem,seval,zeroL]<;>(repeat' (first | rfl | refine And.intro ?_ ?_))
    rotate_left 1
    intro env E hQ;simp (disch:=first|exact dsc|fail) only [go_sem,seval,zeroL] at E
    rotate_left 1
    intro j env hj0 hj E hQ ihE;simp (disch:=first|exact dsc|fail) only [go_sem,seval,zeroL] at E
    rotate_left 1
    · intro q hq;omega
    · have hne:rng idx lo hi≠[]:=fun e=>by
        rw [e,closL_nil',List.append_assoc] at hc
        have hl:pre.length < c.length:=by rw [hc];simp
        exact hQ pre.length hl (first_idx hc)
      have hin:=rng_mem (idx:=idx) (lo:=lo) (hi:=hi)
      have hpr:(rng idx lo hi).Pairwise (· < ·):=hp.filter _
      have hs0:=rng_split (idx:=idx) (lo:=0) (k:=lo) (hi:=hi) hp (by omega) (by omega)
      have hle:=rng_le (idx:=idx) (lo:=0) (hi:=hi)
      have hpos:1≤(rng idx lo hi).length:=List.length_pos_iff.2 hne
      have hsub:(hi:Int) - (lo:Int)=((hi - lo:Nat):Int):=by omega
      (repeat refine .z rfl ?_);refine .text ?_;simp (disch:=first|exact dsc|fail) only [go_sem,seval,E]
      (repeat refine .z rfl ?_);refine .ifF (by simp (disch:=first|exact dsc|fail) only [go_sem,seval]) ?_
      (repeat refine .z rfl ?_);refine .text ?_;simp (disch:=first|exact dsc|fail) only [go_sem,seval,E,hsub]
      by_cases e1:hi - lo=1
      · have q1:(((hi - lo:Nat):Int) == 1)=true:=by rw [e1];rfl
        have hv:(rebF (f+1) (rng idx lo hi) lo hi (B.drop (rng idx 0 lo).length) (N.drop pre.length) true).1=leaf (nth B (rng idx 0 lo).length):=by
          rw [rebF,if_neg hne,if_pos e1]
          dsimp only
          have hd:B.drop (rng idx 0 lo).length≠[]:=fun e=>by have:=congrArg List.length e;rw [List.length_drop] at this;simp at this;omega
          rw [hdB,if_neg hd]
          congr 1
          unfold nth
          rw [List.getElem?_drop,Nat.add_zero]
        rw [hv] at h
        have hw:=within_spec (G:=G) idx 0 lo hil
        have hb1:=hB (rng idx 0 lo).length (by omega)
        have hcb2 : ∀ x:By,bs x = .sl false 1 (pl b8 x):=fun _=>rfl
        have hll:=leaf_len (nth B (rng idx 0 lo).length)
        generalize (rng idx 0 lo).length=w at *
        generalize hx:nth B w=x at *
        (repeat refine .z rfl ?_);refine .ifT (by simp (disch:=first|exact dsc|fail) only [go_sem,seval,q1]) ?_
        (repeat refine .z rfl ?_);refine .open [11] follows (by kernel_rfl) ?_;simp (disch:=first|exact dsc|fail) only [go_sem,seval,E]
        refine CallD.still (fun R h=>hw _ R h) ?_;simp (disch:=first|exact dsc|fail) only [go_sem,seval,E,hx,hcb2,List.getElem?_cons_zero]
        refine CallD.still (fun R h=>LeafR_spec x (by omega) _ R h) ?_;simp (disch:=first|exact dsc|fail) only [go_sem,seval,E,hll,hzz]
        (repeat refine .z rfl ?_);refine .rt Tryd.func52 (by rw [Tryd.results52]) (hx:=by simp (disch:=first|exact dsc|fail) only [go_sem,seval,E,zeroL];rfl) (hR := ?_);simp (disch:=first|exact dsc|fail) only [go_sem,seval,E,zeroL]
        exact h
      · have q1:(((hi - lo:Nat):Int) == 1)=false:=by rw [beq_eq_false_iff_ne];omega
        have hs:=spl_lt (n:=hi - lo) (by omega)
        have hspl:=splitR_spec (G:=G) (hi - lo) (by omega) (by omega)
        have hcl1:closL (f+1) (rng idx lo hi) lo hi=closL f (rng idx lo (lo+spl (hi - lo))) lo (lo+spl (hi - lo))++closL f (rng idx (lo+spl (hi - lo)) hi) (lo+spl (hi - lo)) hi:=by
          rw [closL,if_neg hne,if_neg e1,rng_filter_lt (by omega),rng_filter_ge (by omega)]
        rw [hcl1] at hc
        generalize hsp:spl (hi - lo)=s at *
        generalize hk:lo+s=k at *
        have hbig : ∀ (l:List Int) (a b:Nat),a < b → ∀ r∈closL f l a b,a≤r.1∧r.2≤b:=fun l a b hab r hr=>by
          obtain ⟨j,hj,rfl⟩:=List.getElem_of_mem hr
          have h:=closL_rng f l a b hab j hj
          have e:nth (closL f l a b) j=(closL f l a b)[j]:=by unfold nth;rw [List.getElem?_eq_getElem hj];rfl
          rw [e] at h
          exact ⟨h.1,h.2.2⟩
        have hb1:=hbig (rng idx lo k) lo k (by omega)
        have hb2:=hbig (rng idx k hi) k hi (by omega)
        have hs1:=rng_split (idx:=idx) (lo:=0) (k:=lo) (hi:=k) hp (by omega) (by omega)
        obtain ⟨x1,i1⟩:=rebF_use f (rng idx lo k) lo k (B.drop (rng idx 0 lo).length) (N.drop pre.length) true (by omega) (by omega) (hp.filter _) rng_mem
        have ih1:=ih lo k (by omega) (by omega) (by omega) pre (closL f (rng idx k hi) k hi++post) (by rw [hc];simp only [List.append_assoc]) hpre (fun r hr=>by
          rcases List.mem_append.1 hr with h | h
          · have:=hb2 r h;omega
          · have:=hpost r h;omega)
        have ih2:=ih k hi (by omega) (by omega) h3 (pre++closL f (rng idx lo k) lo k) post (by rw [hc];simp only [List.append_assoc]) (fun r hr=>by
          rcases List.mem_append.1 hr with h | h
          · have:=hpre r h;omega
          · have:=hb1 r h;omega) hpost
        have hlen:N.length=pre.length+(closL f (rng idx lo k) lo k).length+(closL f (rng idx k hi) k hi).length+post.length:=by
          rw [hNl,hc];simp only [List.length_append];omega
        have hdc:(true && decide ((closL f (rng idx lo k) lo k).length≤(N.drop pre.length).length))=true:=by
          rw [Bool.true_and,decide_eq_true]
          rw [List.length_drop];omega
        rw [hdc,List.drop_drop,List.drop_drop,←hs1] at i1
        rw [List.length_append] at ih2
        obtain ⟨x2,i2⟩:=rebF_use f (rng idx k hi) k hi (B.drop (rng idx 0 k).length) (N.drop (pre.length+(closL f (rng idx lo k) lo k).length)) true (by omega) (by omega) (hp.filter _) rng_mem
        have hv:(rebF (f+1) (rng idx lo hi) lo hi (B.drop (rng idx 0 lo).length) (N.drop pre.length) true).1=pair x1 x2:=by
          have j1:rebF f ((rng idx lo hi).filter fun i=>decide (i < (k:Int))) lo k (B.drop (rng idx 0 lo).length) (N.drop pre.length) true=(x1,B.drop (rng idx 0 k).length,N.drop (pre.length+(closL f (rng idx lo k) lo k).length),true):=by rw [rng_filter_lt (by omega)];exact i1
          have j2:=i2
          generalize hz2:rebF f (rng idx k hi) k hi (B.drop (rng idx 0 k).length) (N.drop (pre.length+(closL f (rng idx lo k) lo k).length)) true=z2 at j2
          rw [←rng_filter_ge (l:=idx) (lo:=lo) (hi:=hi) (by omega)] at hz2
          rw [j2] at hz2
          have:=rebF_split hne e1 (by rw [hsp];exact hk) j1 hz2
          rw [this]
        rw [hv] at h
        rw [i1] at ih1
        rw [i2] at ih2
        dsimp only at ih1 ih2
        have hok1:=(rebF_ok f (rng idx lo k) lo k (B.drop (rng idx 0 lo).length) (N.drop pre.length) true (fun x hx=>hN x (List.mem_of_mem_drop hx)) (hB.drop _)).1
        have hok2:=(rebF_ok f (rng idx k hi) k hi (B.drop (rng idx 0 k).length) (N.drop (pre.length+(closL f (rng idx lo k) lo k).length)) true (fun x hx=>hN x (List.mem_of_mem_drop hx)) (hB.drop _)).1
        rw [i1] at hok1
        rw [i2] at hok2
        dsimp only at hok1 hok2
        have hadd:(lo:Int)+(s:Int)=(k:Int):=by omega
        have hpl:=pair_len x1 x2
        clear ih i1 i2 hc hlen hdc hcl1 hb1 hb2 hbig
        (repeat refine .z rfl ?_);refine .ifF (by simp (disch:=first|exact dsc|fail) only [go_sem,seval,q1]) ?_
        (repeat refine .z rfl ?_);refine .text ?_;simp (disch:=first|exact dsc|fail) only [go_sem,seval,E,hsub]
        refine CallK.of (fun R h=>hspl _ R h) ?_;simp (disch:=first|exact dsc|fail) only [go_sem,seval,E,hadd]
        (repeat refine .z rfl ?_);refine .open [9] follows (by kernel_rfl) ?_;simp (disch:=first|exact dsc|fail) only [go_sem,seval,E]
        refine CallD.still (fun R h=>ih1 _ R h) ?_;simp (disch:=first|exact dsc|fail) only [go_sem,seval,E]
        refine CallD.still (fun R h=>ih2 _ R h) ?_;simp (disch:=first|exact dsc|fail) only [go_sem,seval,E]
        refine CallD.still (fun R h=>PairR_spec x1 x2 hok1 hok2 _ R h) ?_;simp (disch:=first|exact dsc|fail) only [go_sem,seval,E,hpl,hzz]
        (repeat refine .z rfl ?_);refine .rt Tryd.func52 (by rw [Tryd.results52]) (hx:=by simp (disch:=first|exact dsc|fail) only [go_sem,seval,E,zeroL];rfl) (hR := ?_);simp (disch:=first|exact dsc|fail) only [go_sem,seval,E,zeroL]
        exact h
    · (repeat refine .z rfl ?_);refine .text ?_;simp (disch:=first|exact dsc|fail) only [go_sem,seval,E]
      (repeat refine .z rfl ?_);refine .ifT (by simp (disch:=first|exact dsc|fail) only [go_sem,seval]) ?_
      by_cases c1:nth c j=(lo,hi)
      · obtain ⟨e1,e2⟩:=found h1 h2 hc hpre hpost hj c1
        have hn:(nth N j).length=32:=hN _ (nth_mem (by omega))
        have hv:(rebF (f+1) (rng idx lo hi) lo hi (B.drop (rng idx 0 lo).length) (N.drop pre.length) true).1=nth N j:=by
          rw [e1,rebF,if_pos rfl]
          dsimp only
          have hd:N.drop pre.length≠[]:=fun e=>by have:=congrArg List.length e;rw [List.length_drop] at this;simp at this;omega
          rw [hdD,if_neg hd]
          unfold nth
          rw [List.getElem?_drop,e2,Nat.add_zero]
        rw [hv] at h
        have q1:((lo:Int) == (lo:Int))=true:=beq_self_eq_true _
        have q2:((hi:Int) == (hi:Int))=true:=beq_self_eq_true _
        (repeat refine .z rfl ?_);refine .text ?_;simp (disch:=first|exact dsc|fail) only [go_sem,seval,E,cells_mx,c1,q1,q2]
        (repeat refine .z rfl ?_);refine .ifT (by simp (disch:=first|exact dsc|fail) only [go_sem,seval]) ?_
        generalize hx:nth N j=x at *
        (repeat refine .z rfl ?_);refine .text ?_;simp (disch:=first|exact dsc|fail) only [go_sem,seval,E,hx,cells_db,aggOf_db hn,hzz,hn]
        (repeat refine .z rfl ?_);refine .rt Tryd.func52 (by rw [Tryd.results52]) (hx:=by simp (disch:=first|exact dsc|fail) only [go_sem,seval,E,zeroL];rfl) (hR := ?_);simp (disch:=first|exact dsc|fail) only [go_sem,seval,E,zeroL]
        exact h
      · have hQ2 : ∀ q,q < j+1 → nth c q≠(lo,hi):=fun q hq=>by
          rcases Nat.lt_or_ge q j with h5 | h5
          · exact hQ q h5
          · obtain rfl:q=j:=by omega
            exact c1
        by_cases c2:(nth c j).1=lo
        · have c3:(nth c j).2≠hi:=fun x=>c1 (Prod.ext c2 x)
          have q1:(((nth c j).1:Int) == (lo:Int))=true:=by rw [c2];exact beq_self_eq_true _
          have q2:(((nth c j).2:Int) == (hi:Int))=false:=by rw [beq_eq_false_iff_ne];omega
          (repeat refine .z rfl ?_);refine .text ?_;simp (disch:=first|exact dsc|fail) only [go_sem,seval,E,cells_mx,q1,q2]
          (repeat refine .z rfl ?_);refine .ifF (by simp (disch:=first|exact dsc|fail) only [go_sem,seval]) ?_
          (repeat refine .z rfl ?_);refine .text ?_;simp (disch:=first|exact dsc|fail) only [go_sem,seval,E]
          first | (refine ihE _ _ ?_ hQ2 ?_) | (refine .z rfl ?_;refine ihE _ _ ?_ hQ2 ?_) | (refine .z rfl ?_;refine .z rfl ?_;refine ihE _ _ ?_ hQ2 ?_) | (refine .z rfl ?_;refine .z rfl ?_;refine .z rfl ?_;refine ihE _ _ ?_ hQ2 ?_)
          · simp (disch:=first|exact dsc|fail) only [go_sem,seval,E]<;>(repeat' (first | rfl | refine And.intro ?_ ?_))
          · first | rfl | (simp (disch:=first|exact dsc|fail) only [go_sem,seval,E]<;>(try rfl))
        · have q1:(((nth c j).1:Int) == (lo:Int))=false:=by rw [beq_eq_false_iff_ne];omega
          (repeat refine .z rfl ?_);refine .text ?_;simp (disch:=first|exact dsc|fail) only [go_sem,seval,E,cells_mx,q1]
          (repeat refine .z rfl ?_);refine .ifF (by simp (disch:=first|exact dsc|fail) only [go_sem,seval]) ?_
          (repeat refine .z rfl ?_);refine .text ?_;simp (disch:=first|exact dsc|fail) only [go_sem,seval,E]
          first | (refine ihE _ _ ?_ hQ2 ?_) | (refine .z rfl ?_;refine ihE _ _ ?_ hQ2 ?_) | (refine .z rfl ?_;refine .z rfl ?_;refine ihE _ _ ?_ hQ2 ?_) | (refine .z rfl ?_;refine .z rfl ?_;refine .z rfl ?_;refine ihE _ _ ?_ hQ2 ?_)
          · simp (disch:=first|exact dsc|fail) only [go_sem,seval,E]<;>(repeat' (first | rfl | refine And.intro ?_ ?_))
          · first | rfl | (simp (disch:=first|exact dsc|fail) only [go_sem,seval,E]<;>(try rfl))
end walks
end Go.Proofs.YthonhnpiglafkaaDoor

/-
  Hash trees: the reference's Verify.
-/
namespace Go.Proofs.YthonhnpiglafkaaDoor
open Go Go.AL

theorem verE_bad {root:By} {n:Int} {idx:List Int} {B N:List By} {k:Nat} (h:verC n idx B=k) (hk:k≠0):verE root n idx B N=k:=by rw [verE,h,if_neg hk]

section walks
variable {G:Globs}
set_option maxHeartbeats 16000000 in
theorem VerifyR_spec (root:By) (hroot:root.length=32) (n:Int) (hn1 : -9223372036854775808≤n) (hn2:n≤9223372036854775807) (idx:List Int) (hil:idx.length≤100000) (B N:List By) (hB:Short B) (hBl:B.length≤100000) (hN : ∀ d∈N,d.length=32) (hNl:N.length≤100000)
    (H:Hp) (R:AV → Hp → Prop) (h:R (.p (i64 (verE root n idx B N:Nat))) H) :
    ACall Tryd.prog G 23 [.p (.agg (pl b8 root)),.p (i64 n),.p (.agg [.sl false 1 (pl i64 idx),.sl false 1 (pl bs B)]),.p (.agg [.sl false 32 (pl db N)])] H R:=by
  refine ACall.of_run (raw:=[]) Tryd.func23 rfl Tryd.ntmps23 (by simp) fun hbel => ?_
  (repeat refine .z rfl ?_);refine .text ?_;simp (disch:=first|exact dsc|fail) only [go_sem,seval]
  by_cases c1:n < 1
  · have d1:=decide_eq_true c1
    rw [verE_bad (k:=1) (by rw [verC,if_pos (.inl c1)]) (by omega)] at h
    (repeat refine .z rfl ?_);refine .text ?_;simp (disch:=first|exact dsc|fail) only [go_sem,seval,d1]
    (repeat refine .z rfl ?_);refine .ifT (by simp (disch:=first|exact dsc|fail) only [go_sem,seval,d1]) ?_
    (repeat refine .z rfl ?_);refine .text ?_;simp (disch:=first|exact dsc|fail) only [go_sem,seval]
    (repeat refine .z rfl ?_);refine .rt Tryd.func23 (by rw [Tryd.results23]) (hR := ?_);simp (disch:=first|exact dsc|fail) only [go_sem,seval]
    exact h
  have d1:=decide_eq_false c1
  by_cases c2:Inc n idx
  · have d2:=decide_eq_true c2
    (repeat refine .z rfl ?_);refine .text ?_;simp (disch:=first|exact dsc|fail) only [go_sem,seval,d1]
    refine CallK.of (fun R h=>increasing_spec n idx hil _ R h) ?_;simp (disch:=first|exact dsc|fail) only [go_sem,seval,d1,d2]
    by_cases c3:B.length=idx.length
    · have d3:((B.length:Int) != (idx.length:Int))=false:=by rw [c3];simp
      simp (disch:=first|exact dsc|fail) only [go_sem,seval,d3]
      (repeat refine .z rfl ?_);refine .ifF (by simp (disch:=first|exact dsc|fail) only [go_sem,seval,d1,d2,d3]) ?_
      (repeat refine .z rfl ?_);refine .text ?_;simp (disch:=first|exact dsc|fail) only [go_sem,seval]
      refine CallK.of (fun R h=>sizeRI_spec n _ R h) ?_;simp (disch:=first|exact dsc|fail) only [go_sem,seval]
      have hvc:verC n idx B=sizeE n:=by rw [verC,if_neg (fun x=>by rcases x with x | x;exact c1 x;exact x c3),chkE,if_pos c2]
      by_cases c4:sizeE n=0
      · have hk:n≤65536:=by
          unfold sizeE at c4
          rw [if_neg c1] at c4
          split at c4
          · cases c4
          · omega
        obtain ⟨k,rfl⟩ : ∃ k:Nat,n=k:=⟨n.toNat,by omega⟩
        obtain ⟨hp,hr⟩:=inc_pw c2
        have hcr:=closedR_spec (G:=G) idx hil k 0 k (by omega) (by omega) (by omega)
        rw [closR_all c2 (by omega)] at hcr
        have hcn:=closL_len k idx 0 k (by omega)
        have hrg:=closL_rng k idx 0 k (by omega)
        have hra:=rng_all c2
        have hr0:rng idx 0 0=[]:=by
          unfold rng
          refine List.filter_eq_nil_iff.2 fun i hi => ?_
          simp<;>omega
        obtain ⟨x,hx⟩:=rebF_use k idx 0 k B N true (by omega) (by omega) hp (fun i hi=>by have:=hr i hi;omega)
        have hok:=(rebF_ok k idx 0 k B N true hN hB).1
        have hv:verE root k idx B N=if N.length=(closI k idx).length∧x=root then 0 else 80:=by
          rw [verE,hvc,if_pos c4]
          unfold verR
          rw [Int.toNat_natCast,hx]
          dsimp only
          show (if N.drop (closI k idx).length=[]∧(true && decide ((closI k idx).length≤N.length))=true∧x=root then 0 else 80)=_
          by_cases q:N.length=(closI k idx).length
          · by_cases q2:x=root
            · rw [if_pos (show N.length=(closI k idx).length∧x=root from ⟨q,q2⟩),if_pos ⟨List.drop_of_length_le (by omega),by rw [Bool.true_and,decide_eq_true];omega,q2⟩]
            · rw [if_neg (show ¬(N.length=(closI k idx).length∧x=root) from fun y=>q2 y.2),if_neg (fun y=>q2 y.2.2)]
          · rw [if_neg (show ¬(N.length=(closI k idx).length∧x=root) from fun y=>q y.1),if_neg]
            rintro ⟨y1,y2,_⟩
            have y1:=congrArg List.length y1
            rw [List.length_drop] at y1
            simp at y1 y2
            omega
        rw [hx] at hok
        dsimp only at hok
        rw [hv] at h
        have hreb:=fun (hNc:N.length=(closI k idx).length)=>rebuildR_spec (G:=G) idx hil hp B N hB c3 hN (closI k idx) hNc (by have:(closI k idx).length≤k - 0:=hcn;omega) (fun r hr=>by
          obtain ⟨j,hj,rfl⟩:=List.getElem_of_mem hr
          have h:=hrg j hj
          have e:nth (closL k idx 0 k) j=(closI k idx)[j]:=by
            have:j < (closL k idx 0 k).length:=hj
            unfold nth;rw [List.getElem?_eq_getElem this];rfl
          rw [e] at h
          omega) k 0 k (by omega) (by omega) (by omega) [] [] (by rw [hra];simp [closI]) (fun r hr=>by cases hr) (fun r hr=>by cases hr)
        rw [hra,hr0] at hreb
        simp only [List.length_nil,List.drop_zero,hx] at hreb
        unfold opV at hreb
        have hcl:(closI k idx).length≤100000:=by have:(closI k idx).length≤k - 0:=hcn;omega
        clear hx hrg
        generalize closI k idx=cs at *
        (repeat refine .z rfl ?_);refine .ifF (by simp (disch:=first|exact dsc|fail) only [go_sem,seval,c4]) ?_
        (repeat refine .z rfl ?_);refine .text ?_;simp (disch:=first|exact dsc|fail) only [go_sem,seval]
        refine CallK.of (fun R h=>hcr _ R h) ?_;simp (disch:=first|exact dsc|fail) only [go_sem,seval]
        (repeat refine .z rfl ?_);refine .weak 9 (x := .sl (H.n+3) 0 2 (pl mx cs)) (y := .p (.sl false 2 (pl mx cs))) (by simp (disch:=first|exact dsc|fail) only [go_sem,seval]<;>rfl) rfl ?_
        by_cases q:N.length=cs.length
        · have d5:((N.length:Int) != (cs.length:Int))=false:=by rw [q];simp
          have hreb2:=hreb q
          have hsa : ∀ a b c d x y:AV,setAt [a,b,c,d] 0 [x,y]=[x,y,c,d]:=fun _ _ _ _ _ _=>rfl
          (repeat refine .z rfl ?_);refine .open [] follows (by kernel_rfl) ?_;simp (disch:=first|exact dsc|fail) only [go_sem,seval,d5,acells1,acells2,mkAgg4,hsa]
          refine CallD.still (fun R h=>hreb2 _ R h) ?_;simp (disch:=first|exact dsc|fail) only [go_sem,seval,d5,hok,hroot]
          by_cases q2:x=root
          · rw [if_pos ⟨q,q2⟩] at h
            have d6:decide (x=root)=true:=decide_eq_true q2
            (repeat refine .z rfl ?_);refine .ifF (by simp (disch:=first|exact dsc|fail) only [go_sem,seval,d6]) ?_
            (repeat refine .z rfl ?_);refine .text ?_;simp (disch:=first|exact dsc|fail) only [go_sem,seval]
            (repeat refine .z rfl ?_);refine .rt Tryd.func23 (by rw [Tryd.results23]) (hR := ?_);simp (disch:=first|exact dsc|fail) only [go_sem,seval]
            exact h
          · rw [if_neg (fun y=>q2 y.2)] at h
            have d6:decide (x=root)=false:=decide_eq_false q2
            (repeat refine .z rfl ?_);refine .ifT (by simp (disch:=first|exact dsc|fail) only [go_sem,seval,d6]) ?_
            (repeat refine .z rfl ?_);refine .text ?_;simp (disch:=first|exact dsc|fail) only [go_sem,seval]
            (repeat refine .z rfl ?_);refine .rt Tryd.func23 (by rw [Tryd.results23]) (hR := ?_);simp (disch:=first|exact dsc|fail) only [go_sem,seval]
            exact h
        · have d5:((N.length:Int) != (cs.length:Int))=true:=by rw [bne_iff_ne];omega
          rw [if_neg (fun y=>q y.1)] at h
          (repeat refine .z rfl ?_);refine .open [] follows (by kernel_rfl) ?_;simp (disch:=first|exact dsc|fail) only [go_sem,seval,d5]
          (repeat refine .z rfl ?_);refine .ifT (by simp (disch:=first|exact dsc|fail) only [go_sem,seval]) ?_
          (repeat refine .z rfl ?_);refine .text ?_;simp (disch:=first|exact dsc|fail) only [go_sem,seval]
          (repeat refine .z rfl ?_);refine .rt Tryd.func23 (by rw [Tryd.results23]) (hR := ?_);simp (disch:=first|exact dsc|fail) only [go_sem,seval]
          exact h
      · have h2:sizeE n=2:=by
          unfold sizeE at c4 ⊢
          rw [if_neg c1] at c4 ⊢
          split at c4
          · rename_i x;rw [if_pos x]
          · exact absurd rfl c4
        rw [verE_bad (k:=2) (by rw [hvc,h2]) (by omega)] at h
        (repeat refine .z rfl ?_);refine .ifT (by simp (disch:=first|exact dsc|fail) only [go_sem,seval,c4,h2]) ?_
        (repeat refine .z rfl ?_);refine .text ?_;simp (disch:=first|exact dsc|fail) only [go_sem,seval]
        (repeat refine .z rfl ?_);refine .rt Tryd.func23 (by rw [Tryd.results23]) (hR := ?_);simp (disch:=first|exact dsc|fail) only [go_sem,seval]
        exact h
    · have d3:((B.length:Int) != (idx.length:Int))=true:=by rw [bne_iff_ne];omega
      rw [verE_bad (k:=1) (by rw [verC,if_pos (.inr c3)]) (by omega)] at h
      simp (disch:=first|exact dsc|fail) only [go_sem,seval,d3]
      (repeat refine .z rfl ?_);refine .ifT (by simp (disch:=first|exact dsc|fail) only [go_sem,seval,d1,d2,d3]) ?_
      (repeat refine .z rfl ?_);refine .text ?_;simp (disch:=first|exact dsc|fail) only [go_sem,seval]
      (repeat refine .z rfl ?_);refine .rt Tryd.func23 (by rw [Tryd.results23]) (hR := ?_);simp (disch:=first|exact dsc|fail) only [go_sem,seval]
      exact h
  · have d2:=decide_eq_false c2
    rw [verE_bad (k:=1) (by rw [verC];split;rfl;rw [chkE,if_neg c2]) (by omega)] at h
    (repeat refine .z rfl ?_);refine .text ?_;simp (disch:=first|exact dsc|fail) only [go_sem,seval,d1]
    refine CallK.of (fun R h=>increasing_spec n idx hil _ R h) ?_;simp (disch:=first|exact dsc|fail) only [go_sem,seval,d1,d2]
    (repeat refine .z rfl ?_);refine .ifT (by simp (disch:=first|exact dsc|fail) only [go_sem,seval,d1,d2]) ?_
    (repeat refine .z rfl ?_);refine .text ?_;simp (disch:=first|exact dsc|fail) only [go_sem,seval]
    (repeat refine .z rfl ?_);refine .rt Tryd.func23 (by rw [Tryd.results23]) (hR := ?_);simp (disch:=first|exact dsc|fail) only [go_sem,seval]
    exact h
end walks
end Go.Proofs.YthonhnpiglafkaaDoor

/-
  Hash trees: the walk of MerkleChecksMatchReference.
-/
namespace Go.Proofs.YthonhnpiglafkaaDoor
open Go Go.AL

section walks
variable {G:Globs}
theorem Contains_any (hG:GS G) (P:List By) (hl:P.length≤100000) (hP : ∀ d∈P,d.length=32) (n i:Int) (b:By) (hb:b.length≤140737488352000) (path:List By) (hpl:path.length≤100000) (hpm : ∀ d∈path,d.length=32)
    (H:Hp) (R:AV → Hp → Prop) (h:R (.p (bo (conR P n i b path))) H) :
    ACall Tryd.prog G 24 [.p (.sl false 32 (pl db P)),.p (.agg [i64 n,i64 i,.sl false 1 (pl b8 b),.sl false 32 (pl db path)])] H R:=by
  by_cases c:1≤n∧n≤65536∧0≤i∧i < n
  · obtain ⟨m,rfl⟩ : ∃ m:Nat,n=m:=⟨n.toNat,by omega⟩
    obtain ⟨j,rfl⟩ : ∃ j:Nat,i=j:=⟨i.toNat,by omega⟩
    refine Contains_spec hG P hl hP m j (by omega) (by omega) (by omega) b hb path hpl hpm H R ?_
    rw [con_eq (by omega) (by omega) (by omega)]
    exact h
  · refine Contains_bad P n i b path c H R ?_
    rw [conR,if_neg (fun x=>c ⟨x.1,x.2.1,x.2.2.1,x.2.2.2.1⟩)] at h
    exact h

set_option maxHeartbeats 32000000 in
theorem Checks_spec (hG:GS G) (hT:GT G) (li:List Int) (hli:li.length≤9223372036854775807) (lq:List By) (hlq:lq.length≤9223372036854775807) (hlb:Short lq) (on:List By) (hon:on.length≤9223372036854775807) (hod : ∀ d∈on,d.length=32)
    (pn:Int) (hpn : -9223372036854775808≤pn∧pn≤9223372036854775807) (pi:Int) (hpi : -9223372036854775808≤pi∧pi≤9223372036854775807) (pb:By) (hpb:pb.length≤9223372036854775807) (pp:List By) (hpp:pp.length≤9223372036854775807) (hpd : ∀ d∈pp,d.length=32) (H:Hp) (R:AV → Hp → Prop) (h:R (.p (bo true)) H) :
    ACall Tryd.prog G 4 [.p (.agg [.sl false 1 (pl i64 li),.sl false 1 (pl bs lq)]),.p (.agg [.sl false 32 (pl db on)]),.p (.agg [i64 pn,i64 pi,bs pb,.sl false 32 (pl db pp)])] H R:=by
  have hcb:bs pb = .sl false 1 (pl b8 pb):=rfl
  rw [hcb]
  refine ACall.of_run (raw:=[]) Tryd.func4 rfl Tryd.ntmps4 (by simp) fun hbel => ?_
  (repeat refine .z rfl ?_);refine .text ?_;simp (disch:=first|exact dsc|fail) only [go_sem,seval]
  (repeat refine .z rfl ?_);refine .text ?_;simp (disch:=first|exact dsc|fail) only [go_sem,seval]
  refine CallK.of (fun R h=>sanity_spec hG hT _ R h) ?_;simp (disch:=first|exact dsc|fail) only [go_sem,seval]
  by_cases c1:60 < (li.length:Int)
  · have d1:=decide_eq_true c1
    (repeat refine .z rfl ?_);refine .text ?_;simp (disch:=first|exact dsc|fail) only [go_sem,seval,d1]
    (repeat refine .z rfl ?_);refine .ifT (by simp (disch:=first|exact dsc|fail) only [go_sem,seval,d1]) ?_
    (repeat refine .z rfl ?_);refine .text ?_;simp (disch:=first|exact dsc|fail) only [go_sem,seval]
    (repeat refine .z rfl ?_);refine .rt Tryd.func4 (by rw [Tryd.results4]) (hR := ?_);simp (disch:=first|exact dsc|fail) only [go_sem,seval]
    exact h
  have d1:=decide_eq_false c1
  by_cases c2:60 < (lq.length:Int)
  · have d2:=decide_eq_true c2
    (repeat refine .z rfl ?_);refine .text ?_;simp (disch:=first|exact dsc|fail) only [go_sem,seval,d1,d2]
    (repeat refine .z rfl ?_);refine .ifT (by simp (disch:=first|exact dsc|fail) only [go_sem,seval,d1,d2]) ?_
    (repeat refine .z rfl ?_);refine .text ?_;simp (disch:=first|exact dsc|fail) only [go_sem,seval]
    (repeat refine .z rfl ?_);refine .rt Tryd.func4 (by rw [Tryd.results4]) (hR := ?_);simp (disch:=first|exact dsc|fail) only [go_sem,seval]
    exact h
  have d2:=decide_eq_false c2
  by_cases c3:60 < (on.length:Int)
  · have d3:=decide_eq_true c3
    (repeat refine .z rfl ?_);refine .text ?_;simp (disch:=first|exact dsc|fail) only [go_sem,seval,d1,d2,d3]
    (repeat refine .z rfl ?_);refine .ifT (by simp (disch:=first|exact dsc|fail) only [go_sem,seval,d1,d2,d3]) ?_
    (repeat refine .z rfl ?_);refine .text ?_;simp (disch:=first|exact dsc|fail) only [go_sem,seval]
    (repeat refine .z rfl ?_);refine .rt Tryd.func4 (by rw [Tryd.results4]) (hR := ?_);simp (disch:=first|exact dsc|fail) only [go_sem,seval]
    exact h
  have d3:=decide_eq_false c3
  by_cases c4:60 < (pp.length:Int)
  · have d4:=decide_eq_true c4
    (repeat refine .z rfl ?_);refine .text ?_;simp (disch:=first|exact dsc|fail) only [go_sem,seval,d1,d2,d3,d4]
    (repeat refine .z rfl ?_);refine .ifT (by simp (disch:=first|exact dsc|fail) only [go_sem,seval,d1,d2,d3,d4]) ?_
    (repeat refine .z rfl ?_);refine .text ?_;simp (disch:=first|exact dsc|fail) only [go_sem,seval]
    (repeat refine .z rfl ?_);refine .rt Tryd.func4 (by rw [Tryd.results4]) (hR := ?_);simp (disch:=first|exact dsc|fail) only [go_sem,seval]
    exact h
  have d4:=decide_eq_false c4
  by_cases c5:300 < (pb.length:Int)
  · have d5:=decide_eq_true c5
    (repeat refine .z rfl ?_);refine .text ?_;simp (disch:=first|exact dsc|fail) only [go_sem,seval,d1,d2,d3,d4,d5]
    (repeat refine .z rfl ?_);refine .ifT (by simp (disch:=first|exact dsc|fail) only [go_sem,seval,d1,d2,d3,d4,d5]) ?_
    (repeat refine .z rfl ?_);refine .text ?_;simp (disch:=first|exact dsc|fail) only [go_sem,seval]
    (repeat refine .z rfl ?_);refine .rt Tryd.func4 (by rw [Tryd.results4]) (hR := ?_);simp (disch:=first|exact dsc|fail) only [go_sem,seval]
    exact h
  have d5:=decide_eq_false c5
  have hzz:zeroD.length=32:=rfl
  have hroot:=hdD_len hod
  (repeat refine .z rfl ?_);refine .text ?_;simp (disch:=first|exact dsc|fail) only [go_sem,seval,d1,d2,d3,d4,d5]
  (repeat refine .z rfl ?_);refine .ifF (by simp (disch:=first|exact dsc|fail) only [go_sem,seval,d1,d2,d3,d4,d5]) ?_
  (repeat refine .z rfl ?_);refine .text ?_;simp (disch:=first|exact dsc|fail) only [go_sem,seval]
  (repeat refine .z rfl ?_);refine .text ?_;simp (disch:=first|exact dsc|fail) only [go_sem,seval]
  (repeat refine .z rfl ?_);refine .cutE [3,4,5,7,8] [] [(H.n+3,.cells (cl b8 (hdD on)))] (fun ihE => ?_) (fun env E => ?_)
  rotate_left 1
  simp (disch:=first|exact dsc|fail) only [go_sem,seval,zeroL] at E
  rotate_left 1
  · by_cases e:on=[]
    · have hz:hdD on=zeroD:=by rw [e];rfl
      have d6:decide ((0:Int) < (on.length:Int))=false:=by rw [e];rfl
      (repeat refine .z rfl ?_);refine .ifF (by simp (disch:=first|exact dsc|fail) only [go_sem,seval,d6]) ?_
      first | (refine ihE _ _ ?_ ?_) | (refine .z rfl ?_;refine ihE _ _ ?_ ?_) | (refine .z rfl ?_;refine .z rfl ?_;refine ihE _ _ ?_ ?_) | (refine .z rfl ?_;refine .z rfl ?_;refine .z rfl ?_;refine ihE _ _ ?_ ?_)
      · simp (disch:=first|exact dsc|fail) only [go_sem,seval,hz,zeroL]<;>(repeat' (first | rfl | refine And.intro ?_ ?_))
      · exact (by rw [hz,←zeroL];simp (disch:=first|exact dsc|fail) only [go_sem,seval])
    · have hz:hdD on=nth on 0:=by rw [hdD,if_neg e]
      have hne:on.length≠0:=fun x=>e (List.length_eq_zero_iff.1 x)
      have d6:decide ((0:Int) < (on.length:Int))=true:=by simp only [decide_eq_true_eq];omega
      have hn:(nth on 0).length=32:=hod _ (nth_mem (by omega))
      (repeat refine .z rfl ?_);refine .ifT (by simp (disch:=first|exact dsc|fail) only [go_sem,seval,d6]) ?_
      (repeat refine .z rfl ?_);refine .text ?_;simp (disch:=first|exact dsc|fail) only [go_sem,seval,cells_db,aggOf_db hn,hn,zeroL,hzz]
      first | (refine ihE _ _ ?_ ?_) | (refine .z rfl ?_;refine ihE _ _ ?_ ?_) | (refine .z rfl ?_;refine .z rfl ?_;refine ihE _ _ ?_ ?_) | (refine .z rfl ?_;refine .z rfl ?_;refine .z rfl ?_;refine ihE _ _ ?_ ?_)
      · simp (disch:=first|exact dsc|fail) only [go_sem,seval,hz,zeroL]<;>(repeat' (first | rfl | refine And.intro ?_ ?_))
      · exact (by rw [hz];simp (disch:=first|exact dsc|fail) only [go_sem,seval])
  · generalize hdD on=r at *
    have q1 : ∀ x:Bool,(x == x)=true:=fun x=>by cases x<;>rfl
    have hv1:=Verify_spec hG r hroot pn hpn.1 hpn.2 li (by omega) lq on hlb (by omega) hod (by omega)
    have hv2:=VerifyR_spec (G:=G) r hroot pn hpn.1 hpn.2 li (by omega) lq on hlb (by omega) hod (by omega)
    have hc1:=Contains_any hG on (by omega) hod pn pi pb (by omega) pp (by omega) hpd
    have hc2:=ContainsR_spec (G:=G) on (by omega) hod pn pi pb (by omega) pp (by omega) hpd
    generalize verE r pn li lq on=v at *
    generalize conR on pn pi pb pp=w at *
    (repeat refine .z rfl ?_);refine .open [] follows (by kernel_rfl) ?_;simp (disch:=first|exact dsc|fail) only [go_sem,seval,E,hroot]
    refine CallD.still (fun R h=>hv1 _ R h) ?_;simp (disch:=first|exact dsc|fail) only [go_sem,seval,E,hroot]
    refine CallD.still (fun R h=>hv2 _ R h) ?_;simp (disch:=first|exact dsc|fail) only [go_sem,seval,E,hroot,beq_self_eq_true]
    refine CallD.still (fun R h=>hc1 _ R h) ?_;simp (disch:=first|exact dsc|fail) only [go_sem,seval,E,hroot,beq_self_eq_true]
    refine CallD.still (fun R h=>hc2 _ R h) ?_;simp (disch:=first|exact dsc|fail) only [go_sem,seval,E,hroot,beq_self_eq_true,q1]
    (repeat refine .z rfl ?_);refine .rt Tryd.func4 (by rw [Tryd.results4]) (hx:=by simp (disch:=first|exact dsc|fail) only [go_sem,seval,E];rfl) (hR := ?_);simp (disch:=first|exact dsc|fail) only [go_sem,seval,E]
    exact h
end walks
end Go.Proofs.YthonhnpiglafkaaDoor

/-
  What the laws' rows give their walks: the tables,a world for the witness,what the arguments read as.
-/
namespace Go.Proofs.YthonhnpiglafkaaDoor
open Go Go.AL Go.ChangeShapes Go.WideShapes Go.ChangeAt Go.RowKit

theorem own:ownKnob Tryd.prog.godebug=none:=by kernel_rfl
theorem laidOut:laidOutB Tryd.prog=true:=by kernel_rfl
def nI:String:=Rows.merklePartsRow.named[0]!
def nC:String:=Rows.merklePartsRow.named[1]!
def nS:String:=Rows.merklePartsRow.named[2]!
def nT:String:=Rows.merklePartsRow.named[3]!
theorem gConst:Tryd.prog.globalNamed nC=some 3:=by kernel_rfl
theorem gInit:Tryd.prog.globalNamed nI=some 0:=by kernel_rfl
theorem gTab:Tryd.prog.globalNamed nT=some 2:=by kernel_rfl
theorem gConstT:(Tryd.prog.globals[3]?).map (·.type)=some 128:=by kernel_rfl
theorem gInitT:(Tryd.prog.globals[0]?).map (·.type)=some 115:=by kernel_rfl
theorem gTabT:(Tryd.prog.globals[2]?).map (·.type)=some 125:=by kernel_rfl

def kz:List Int:=ks.map fun x=>(x.toNat:Int)
def iz:List Int:=inits.map fun x=>(x.toNat:Int)
def tz:List Int:=dbt.map fun x=>(x.toNat:Int)
def sz32:List Int:=[0,1,28,2,29,14,24,3,30,22,20,15,25,17,4,8,31,27,13,23,21,19,16,7,26,12,18,6,11,5,10,9]

theorem met_tail {P:Program} {x:String × DataW Unit} {l:List (String × DataW Unit)} {W:World} (h:laidMet P (x :: l) W):laidMet P l W:=by
  obtain ⟨ps,⟨g',t',cs,fuel,p,q,_,_,_,_,hq,hps⟩,hn,ha⟩:=h
  subst hps
  exact ⟨q,hq,(List.nodup_append.1 hn).2.1,fun b off hb=>ha b off (List.mem_append_right _ hb)⟩
theorem tables {W:World} (h:laidMetH Tryd.prog Rows.merklePartsRow.laid W):Lib.TabIs Tryd.prog W nC .u32 kz∧Lib.TabIs Tryd.prog W nI .u32 iz∧Lib.TabIs Tryd.prog W nT .u8 tz:=by
  have h:laidMet Tryd.prog [(nS,Lib.tabData .u8 sz32),(nT,Lib.tabData .u8 tz),(nC,Lib.tabData .u32 kz),(nI,Lib.tabData .u32 iz)] W:=h
  have h2:=met_tail h
  have h3:=met_tail h2
  have h4:=met_tail h3
  exact ⟨Lib.tabIs_of_head gConst gConstT Tryd.underlying128 Tryd.underlying110 cells110 cells128 h3,
    Lib.tabIs_of_head gInit gInitT Tryd.underlying115 Tryd.underlying110 cells110 cells115 h4,
    Lib.tabIs_of_head gTab gTabT Tryd.underlying125 Tryd.underlying5 cells5 cells125 h2⟩

theorem glob_bytes {P:Program} {W:World} {name:String} {g:Nat} {l:List (BitVec 8)} {zs:List Int} (h:Lib.TabIs P W name .u8 zs) (hg:P.globalNamed name=some g) (hz:zs=l.map fun x=>(x.toNat:Int)) (hl:0 < l.length) :
    RelV σ0 H0 W (.ip l.length [.agg (pl b8 l)] 0 0) (.pointer (some ⟨g,0,none⟩)):=by
  subst hz
  have hcell : ∀ i,i < l.length → W.cell? ⟨g,i,none⟩=some (.int .u8 ((l[i]?).getD 0).toNat):=fun i hi=>by
    have:=h.cell hg i (by simpa using hi)
    rw [this]
    simp [List.getD,hi]
  have:=RelV.ip (σ:=σ0) (H:=H0) (w:=W) (sz:=l.length) (xs:=[.agg (pl b8 l)]) (i:=0) (sub:=0) (g:=g) (off:=0) (cap:=1)
    (.sl false _ _ _ 0 1 (fun k => .int .u8 ((l[k]?).getD 0).toNat) (by simp) ⟨by simp,by unfold maxLen;omega⟩ (fun x hx=>by simp only [List.mem_singleton] at hx;subst hx;exact pl_len)
      (fun k hk=>by
        simp only [List.length_singleton,Nat.one_mul] at hk
        rw [Nat.zero_add]
        exact ⟨stable0 _ _,hcell k hk,rfl⟩)
      (fun k y hy=>by
        have:flat [PV.agg (pl b8 l)]=pl b8 l:=by simp [flat,PV.cells]
        rw [this] at hy
        simp only [pl,List.getElem?_map,Option.map_eq_some_iff] at hy
        obtain ⟨x,hx,rfl⟩:=hy
        rw [hx]
        exact .s _ rfl)) (by simp) hl
  simpa using this

def GG:Globs:=fun g=>if g=0 then some (8,[.agg (pl w32 inits)]) else if g=3 then some (64,[.agg (pl w32 ks)]) else if g=2 then some (64,[.agg (pl b8 dbt)]) else none
theorem GG_ok:GS GG:=⟨rfl,rfl⟩
theorem GG_t:GT GG:=rfl
theorem rel_start {W:World} (h:laidMetH Tryd.prog Rows.merklePartsRow.laid W):Rel GG σ0 H0 W:=rel0 fun g sz xs hg=>by
  obtain ⟨h1,h0,h2⟩:=tables h
  unfold GG at hg
  split at hg
  · rename_i e;subst e;cases hg
    exact glob_words (l:=inits) h0 gInit rfl (by decide)
  · split at hg
    · rename_i e;subst e;cases hg
      exact glob_words (l:=ks) h1 gConst rfl (by decide)
    · split at hg
      · rename_i e;subst e;cases hg
        exact glob_bytes (l:=dbt) h2 gTab rfl (by decide)
      · cases hg

noncomputable def laidWorld (os:Os):World :=
  let w:=World.holding Tryd.prog os ⟨#[],#[],[]⟩
  { w with heap:=(((w.heap.modify 0 fun
      | .cells _ t frozen => .cells (iz.map fun z=>Value.int .u32 z).toArray t frozen
      | o=>o).modify 3 fun
      | .cells _ t frozen => .cells (kz.map fun z=>Value.int .u32 z).toArray t frozen
      | o=>o).modify 2 fun
      | .cells _ t frozen => .cells (tz.map fun z=>Value.int .u8 z).toArray t frozen
      | o=>o).modify 1 fun
      | .cells _ t frozen => .cells (sz32.map fun z=>Value.int .u8 z).toArray t frozen
      | o=>o }

set_option maxRecDepth 100000 in
theorem laid_met (os:Os) (args:Array Value):laidMet Tryd.prog Rows.merklePartsRow.laid ((laidWorld os).forCall (fun _ _=>0) ⟨#[],args,[]⟩).memory :=
  laidMet_of_run' 8 (by kernel_rfl) (by kernel_rfl)

set_option maxRecDepth 100000
section read
variable {k:Nat} {y:List PV}
theorem rd_bytes (h:Reads Tryd.prog (k+2) 44 y) : ∃ l:By,l.length≤9223372036854775807∧y=[bs l]:=by
  obtain ⟨l,h1,rfl,-⟩:=Reads.sl b8 (fun _=>True) Tryd.underlying44 cells5 aggT5 h fun y hy=>by
    obtain ⟨b,rfl⟩:=Reads.u8 Tryd.underlying5 hy
    exact ⟨b,rfl,trivial⟩
  exact ⟨l,h1,rfl⟩
theorem rd_rows (h:Reads Tryd.prog (k+3) 22 y) : ∃ ls:List By,ls.length≤9223372036854775807∧y=[.sl false 1 (pl bs ls)] ∧ ∀ l∈ls,l.length≤9223372036854775807 :=
  Reads.sl bs (fun l=>l.length≤9223372036854775807) Tryd.underlying22 cells44 aggT44 h fun y hy=>by
    obtain ⟨l,h1,rfl⟩:=rd_bytes hy
    exact ⟨l,rfl,h1⟩
theorem rd_ints (h:Reads Tryd.prog (k+2) 26 y) : ∃ l:List Int,l.length≤9223372036854775807∧y=[.sl false 1 (pl i64 l)] ∧ ∀ x∈l,-9223372036854775808≤x∧x≤9223372036854775807 :=
  Reads.sl i64 (fun x => -9223372036854775808≤x∧x≤9223372036854775807) Tryd.underlying26 cells3 aggT3 h fun y hy=>by
    obtain ⟨z,h1,h2,rfl⟩:=Reads.i64 Tryd.underlying3 hy
    exact ⟨z,rfl,h1,h2⟩
theorem rd_digs (h:Reads Tryd.prog (k+3) 35 y) : ∃ l:List By,l.length≤9223372036854775807∧y=[.sl false 32 (pl db l)] ∧ ∀ d∈l,d.length=32 :=
  Reads.sl db (fun d=>d.length=32) Tryd.underlying35 cells31 aggT31 h fun y hy=>by
    obtain ⟨l,h1,rfl⟩:=Reads.arr b8 Tryd.underlying31 hy fun y hy=>Reads.u8 Tryd.underlying5 hy
    exact ⟨l,rfl,h1⟩
end read

section rel
variable {W:World} {v:Value} {H:Type} {enc:TypeId × Value → H} {d:DataW H} {ps:List MemPlace} {base:Nat}
theorem rel_leaves (hval:Value.okWide Tryd.prog W .any base 48 v) (h:DataW.Trod enc Tryd.prog W 0 (fun _=>true) true 48 v d ps) :
    ∃ (l:List Int) (q:List By),l.length≤9223372036854775807∧(∀ x∈l,-9223372036854775808≤x∧x≤9223372036854775807)∧q.length≤9223372036854775807∧(∀ i,i < q.length → (nth q i).length≤9223372036854775807)∧RelV σ0 H0 W (.p (.agg [.sl false 1 (pl i64 l),.sl false 1 (pl bs q)])) v:=by
  obtain ⟨xs,hx,e⟩:=rel_read 8 (by kernel_rfl) hval h
  obtain ⟨y1,z1,rfl,-,r1,y2,z2,rfl,-,r2,rfl⟩:=Reads.struct (k:=7) Tryd.underlying48 hx
  obtain ⟨l,h3,rfl,h4⟩:=rd_ints r1
  obtain ⟨q,h1,rfl,h2⟩:=rd_rows r2
  rw [aggT48] at e
  exact ⟨l,q,h3,h4,h1,fun i hi=>h2 _ (nth_mem hi),e⟩
theorem rel_opening (hval:Value.okWide Tryd.prog W .any base 37 v) (h:DataW.Trod enc Tryd.prog W 0 (fun _=>true) true 37 v d ps) :
    ∃ l:List By,l.length≤9223372036854775807∧(∀ d∈l,d.length=32)∧RelV σ0 H0 W (.p (.agg [.sl false 32 (pl db l)])) v:=by
  obtain ⟨xs,hx,e⟩:=rel_read 8 (by kernel_rfl) hval h
  obtain ⟨y1,z1,rfl,-,r1,rfl⟩:=Reads.struct (k:=7) Tryd.underlying37 hx
  obtain ⟨l,h1,rfl,h2⟩:=rd_digs r1
  rw [aggT37] at e
  exact ⟨l,h1,h2,e⟩
theorem rel_member (hval:Value.okWide Tryd.prog W .any base 50 v) (h:DataW.Trod enc Tryd.prog W 0 (fun _=>true) true 50 v d ps) :
    ∃ (n i:Int) (b:By) (p:List By),(-9223372036854775808≤n∧n≤9223372036854775807)∧(-9223372036854775808≤i∧i≤9223372036854775807)∧b.length≤9223372036854775807∧p.length≤9223372036854775807∧(∀ d∈p,d.length=32) ∧
      RelV σ0 H0 W (.p (.agg [i64 n,i64 i,bs b,.sl false 32 (pl db p)])) v:=by
  obtain ⟨xs,hx,e⟩:=rel_read 8 (by kernel_rfl) hval h
  obtain ⟨y1,z1,rfl,-,r1,y2,z2,rfl,-,r2,y3,z3,rfl,-,r3,y4,z4,rfl,-,r4,rfl⟩:=Reads.struct (k:=7) Tryd.underlying50 hx
  obtain ⟨n,h1,h2,rfl⟩:=Reads.i64 Tryd.underlying3 r1
  obtain ⟨i,h3,h4,rfl⟩:=Reads.i64 Tryd.underlying3 r2
  obtain ⟨b,h5,rfl⟩:=rd_bytes r3
  obtain ⟨p,h6,rfl,h7⟩:=rd_digs r4
  rw [aggT50] at e
  exact ⟨n,i,b,p,⟨h1,h2⟩,⟨h3,h4⟩,h5,h6,h7,e⟩
end rel
end Go.Proofs.YthonhnpiglafkaaDoor
