/-
  The log of readings: Append and Retract,by the program.
-/
import Derived.Test.YtdpfkanfahchjaaDoorPkS2
import Derived.Test.YtdpfkanfahchjaaDoorCards
import Derived.Test.YtdpfkanfahchjaaDoorTie
set_option linter.unusedSimpArgs false
set_option linter.unusedVariables false
namespace Go.Proofs.YtdpfkanfahchjaaDoor
open Go Go.AL

def zg0 (l:List Rdg):Int:=match l.findIdx? (fun r => !vB r) with | some i=>(i:Nat) | none => -1
theorem zoq {l:List Rdg}:0≤zg0 l ↔ ¬ ∀ r∈l,vR r:=by
 unfold zg0
 cases h:l.findIdx? (fun r => !vB r) with
 | none =>
  rw [List.findIdx?_eq_none_iff] at h
  refine⟨fun e=>absurd e (by decide),fun e=>absurd (fun r hr=>zex.1 ?_) e⟩
  have:=h r hr
  simpa using this
 | some i =>
  refine⟨fun _ e => ?_,fun _=>by show (0:Int)≤(i:Nat);omega⟩
  rw [List.findIdx?_eq_some_iff_getElem] at h
  obtain⟨hi,hp,_⟩:=h
  have:=zex.2 (e _ (List.getElem_mem hi))
  rw [this] at hp
  cases hp
theorem zvk {l:List Rdg} {i:Nat} (hi:i < l.length) (hb:vB (nth l i)=false) (hlt : ∀ j,j < i → vB (nth l j)=true):zg0 l=i:=by
 have:l.findIdx? (fun r => !vB r)=some i:=by
  rw [List.findIdx?_eq_some_iff_getElem]
  refine⟨hi,?_,fun j hj => ?_⟩
  · rw [←show nth l i=l[i] by simp [nth,hi],hb];rfl
  · rw [←show nth l j=l[j]'(by omega) by simp [nth,show j < l.length by omega],hlt j hj];simp
 unfold zg0
 rw [this]
theorem zvl {l:List Rdg} (h : ∀ j,j < l.length → vB (nth l j)=true):zg0 l = -1:=by
 have:l.findIdx? (fun r => !vB r)=none:=by
  rw [List.findIdx?_eq_none_iff]
  intro x hx
  obtain⟨j,hj,rfl⟩:=List.mem_iff_getElem.1 hx
  have:=h j hj
  rw [show nth l j=l[j] by simp [nth,hj]] at this
  rw [this];rfl
 unfold zg0
 rw [this]
section walks
variable {G:Globs}
theorem zqp (r:Rdg) (H:Hp) (R:AV → Hp → Prop) (h:R (.p (bo (!vB r))) H):ACall Tryd.prog G 41 [.p (zv r)] H R:=by
 have hac:zh (.p (zv r))=some [.p (i64 r.who),.p (i64 r.whn),.p (i64 r.knd),.p (i64 r.val)]:=rfl
 refine ACall.of_run (raw:=[]) Tryd.func41 rfl Tryd.ntmps41 (by simp) fun hbel => ?_
 refine .q ?_;refine .text ?_;simp (disch:=first|exact za|fail) only [go_sem,seval,-List.reduceReplicate,hac]
 refine .q ?_;refine .text ?_;simp (disch:=first|exact za|fail) only [go_sem,seval,-List.reduceReplicate]
 refine CallK.of (fun R h=>znc r _ R h) ?_;simp (disch:=first|exact za|fail) only [go_sem,seval,-List.reduceReplicate]
 refine .q ?_;refine .rt Tryd.func41 (by rw [Tryd.results41]) (hR := ?_);simp (disch:=first|exact za|fail) only [go_sem,seval,-List.reduceReplicate]
 exact h
theorem zgw (l:List Rdg) (hl:l.length≤100000) (H:Hp) (R:AV → Hp → Prop) (h:R (.p (i64 (zg0 l))) H):ACall Tryd.prog G 69 [.p (.sl false 4 (pl zv l)),.clo 41 [] []] H R:=by
 refine ACall.of_run (raw:=[]) Tryd.func69 rfl Tryd.ntmps69 (by simp) fun hbel => ?_
 refine .q ?_;refine .text ?_;simp (disch:=first|exact za|fail) only [go_sem,seval,-List.reduceReplicate]
 refine .q ?_;refine .text ?_;simp (disch:=first|exact za|fail) only [go_sem,seval,-List.reduceReplicate]
 refine .q ?_;refine .loopE [0,1,7] (fun i=>[(8,.p (i64 i))]) (fun i=>[]) (fun i => ∀ j,j < i → vB (nth l j)=true) (0) (l.length) (by omega) ?_ (by first | rfl | (simp (disch:=first|exact za|fail) only [go_sem,seval,-List.reduceReplicate]<;>rfl)) ?_ ?_ ?_
 · simp (disch:=first|exact za|fail) only [go_sem,seval,-List.reduceReplicate]<;>(repeat' (first | rfl | refine And.intro ?_ ?_))
 rotate_left 1
 intro env E hQ;simp (disch:=first|exact za|fail) only [go_sem,seval,-List.reduceReplicate] at E
 rotate_left 1
 intro i env hi0 hi E hQ ihE;simp (disch:=first|exact za|fail) only [go_sem,seval,-List.reduceReplicate] at E
 rotate_left 1
 · exact fun j hj=>absurd hj (by omega)
 · rw [zvl hQ] at h
   refine .q ?_;refine .text ?_;simp (disch:=first|exact za|fail) only [go_sem,seval,-List.reduceReplicate,E]
   refine .q ?_;refine .ifF (by simp (disch:=first|exact za|fail) only [go_sem,seval,-List.reduceReplicate]) ?_
   refine .q ?_;refine .text ?_;simp (disch:=first|exact za|fail) only [go_sem,seval,-List.reduceReplicate,E]
   refine .q ?_;refine .rt Tryd.func69 (by rw [Tryd.results69]) (hx:=by simp (disch:=first|exact za|fail) only [go_sem,seval,-List.reduceReplicate,E];rfl) (hR := ?_);simp (disch:=first|exact za|fail) only [go_sem,seval,-List.reduceReplicate,E]
   exact h
 · refine .q ?_;refine .text ?_;simp (disch:=first|exact za|fail) only [go_sem,seval,-List.reduceReplicate,E]
   refine .q ?_;refine .ifT (by simp (disch:=first|exact za|fail) only [go_sem,seval,-List.reduceReplicate]) ?_
   refine .q ?_;refine .text ?_;simp (disch:=first|exact za|fail) only [go_sem,seval,-List.reduceReplicate,E]
   refine .q ?_;refine .text ?_;simp (disch:=first|exact za|fail) only [go_sem,seval,-List.reduceReplicate,E]
   refine CallK.of (fun R h=>zqp (nth l i) _ R h) ?_;simp (disch:=first|exact za|fail) only [go_sem,seval,-List.reduceReplicate,E]
   cases hv:vB (nth l i) with
   | true =>
    refine .q ?_;refine .ifF (by simp (disch:=first|exact za|fail) only [go_sem,seval,-List.reduceReplicate,hv]) ?_
    refine .skip ?_
    refine .q ?_;refine .text ?_;simp (disch:=first|exact za|fail) only [go_sem,seval,-List.reduceReplicate,E]
    first | (refine ihE _ _ ?_ (zm hQ hv) ?_) | (refine .z rfl ?_;refine ihE _ _ ?_ (zm hQ hv) ?_) | (refine .z rfl ?_;refine .z rfl ?_;refine ihE _ _ ?_ (zm hQ hv) ?_) | (refine .z rfl ?_;refine .z rfl ?_;refine .z rfl ?_;refine ihE _ _ ?_ (zm hQ hv) ?_)
    · simp (disch:=first|exact za|fail) only [go_sem,seval,-List.reduceReplicate,E]<;>(repeat' (first | rfl | refine And.intro ?_ ?_))
    · first | rfl | (simp (disch:=first|exact za|fail) only [go_sem,seval,-List.reduceReplicate,E]<;>(try rfl))
   | false =>
    rw [zvk hi hv hQ] at h
    refine .q ?_;refine .ifT (by simp (disch:=first|exact za|fail) only [go_sem,seval,-List.reduceReplicate,hv]) ?_
    refine .q ?_;refine .text ?_;simp (disch:=first|exact za|fail) only [go_sem,seval,-List.reduceReplicate,E]
    refine .q ?_;refine .rt Tryd.func69 (by rw [Tryd.results69]) (hx:=by simp (disch:=first|exact za|fail) only [go_sem,seval,-List.reduceReplicate,E];rfl) (hR := ?_);simp (disch:=first|exact za|fail) only [go_sem,seval,-List.reduceReplicate,E]
    exact h
theorem zeh (l:List Rdg) (hl:l.length≤100000) (H:Hp) (R:AV → Hp → Prop) (h:R (.p (bo (decide (0≤zg0 l)))) H):ACall Tryd.prog G 43 [.p (.sl false 4 (pl zv l)),.clo 41 [] []] H R:=by
 refine ACall.of_run (raw:=[]) Tryd.func43 rfl Tryd.ntmps43 (by simp) fun hbel => ?_
 refine .q ?_;refine .text ?_;simp (disch:=first|exact za|fail) only [go_sem,seval,-List.reduceReplicate]
 refine .q ?_;refine .text ?_;simp (disch:=first|exact za|fail) only [go_sem,seval,-List.reduceReplicate]
 refine CallK.of (fun R h=>zgw l hl _ R h) ?_;simp (disch:=first|exact za|fail) only [go_sem,seval,-List.reduceReplicate]
 refine .q ?_;refine .rt Tryd.func43 (by rw [Tryd.results43]) (hR := ?_);simp (disch:=first|exact za|fail) only [go_sem,seval,-List.reduceReplicate]
 exact h
set_option maxHeartbeats 4000000 in
set_option maxRecDepth 20000 in
theorem zbK (hG0:G 0=some (8,[.agg (pl zy inits)])) (hG1:G 1=some (64,[.agg (pl zy ks)])) (d:By) (s0:Int) (l:List Rdg) (hd:d.length≤1000000000) (hl:l.length≤100000) (H:Hp) (R:AV → Hp → Prop)
 (h:R (.tup [.p (sto (zbr (d,s0) l).1.1 (zbr (d,s0) l).1.2),.p (i64 (zbr (d,s0) l).2)]) H):ACall Tryd.prog G 13 [.p (sto d s0),.p (.sl false 4 (pl zv l))] H R:=by
 unfold zbr at h
 have hok:=zhE (d:=d)
 have hlN:=zhF (d:=d)
 refine ACall.of_run (raw:=[]) Tryd.func13 rfl Tryd.ntmps13 (by simp) fun hbel => ?_
 refine .q ?_;refine .text ?_;simp (disch:=first|exact za|fail) only [go_sem,seval,-List.reduceReplicate]
 refine .q ?_;refine .text ?_;simp (disch:=first|exact za|fail) only [go_sem,seval,-List.reduceReplicate]
 by_cases c1:l.length < 1
 · have d1:decide ((l.length:Int) < 1)=true:=decide_eq_true (by omega)
   rw [if_pos (.inl c1)] at h
   refine .q ?_;refine .text ?_;simp (disch:=first|exact za|fail) only [go_sem,seval,-List.reduceReplicate,d1]
   refine .q ?_;refine .ifT (by simp (disch:=first|exact za|fail) only [go_sem,seval,-List.reduceReplicate]) ?_
   refine .q ?_;refine .text ?_;simp (disch:=first|exact za|fail) only [go_sem,seval,-List.reduceReplicate]
   refine .q ?_;refine .rt Tryd.func13 (by rw [Tryd.results13]) (hR := ?_);simp (disch:=first|exact za|fail) only [go_sem,seval,-List.reduceReplicate]
   exact h
 have d1:decide ((l.length:Int) < 1)=false:=decide_eq_false (by omega)
 by_cases c2:4096 < l.length
 · have d2:decide ((4096:Int) < (l.length:Int))=true:=decide_eq_true (by omega)
   rw [if_pos (.inr (.inl c2))] at h
   refine .q ?_;refine .text ?_;simp (disch:=first|exact za|fail) only [go_sem,seval,-List.reduceReplicate,d1,d2]
   refine .q ?_;refine .ifT (by simp (disch:=first|exact za|fail) only [go_sem,seval,-List.reduceReplicate]) ?_
   refine .q ?_;refine .text ?_;simp (disch:=first|exact za|fail) only [go_sem,seval,-List.reduceReplicate]
   refine .q ?_;refine .rt Tryd.func13 (by rw [Tryd.results13]) (hR := ?_);simp (disch:=first|exact za|fail) only [go_sem,seval,-List.reduceReplicate]
   exact h
 have d2:decide ((4096:Int) < (l.length:Int))=false:=decide_eq_false (by omega)
 refine .q ?_;refine .text ?_;simp (disch:=first|exact za|fail) only [go_sem,seval,-List.reduceReplicate,d1,d2]
 refine CallK.of (fun R h=>zeh l hl _ R h) ?_;simp (disch:=first|exact za|fail) only [go_sem,seval,-List.reduceReplicate,d1,d2]
 by_cases c3 : ∀ r∈l,vR r
 rotate_left
 · have d3:decide (0≤zg0 l)=true:=decide_eq_true (zoq.2 c3)
   rw [if_pos (.inr (.inr c3))] at h
   refine .q ?_;refine .ifT (by simp (disch:=first|exact za|fail) only [go_sem,seval,-List.reduceReplicate,d3]) ?_
   refine .q ?_;refine .text ?_;simp (disch:=first|exact za|fail) only [go_sem,seval,-List.reduceReplicate]
   refine .q ?_;refine .rt Tryd.func13 (by rw [Tryd.results13]) (hR := ?_);simp (disch:=first|exact za|fail) only [go_sem,seval,-List.reduceReplicate]
   exact h
 have d3:decide (0≤zg0 l)=false:=decide_eq_false fun e=>zoq.1 e c3
 have hne : ¬ (l.length < 1 ∨ 4096 < l.length ∨ ¬ ∀ r∈l,vR r):=fun e=>by
  rcases e with e | e | e
  · exact c1 e
  · exact c2 e
  · exact e c3
 rw [if_neg hne] at h
 refine .q ?_;refine .ifF (by simp (disch:=first|exact za|fail) only [go_sem,seval,-List.reduceReplicate,d3]) ?_
 refine .skip ?_
 refine .q ?_;refine .text ?_;simp (disch:=first|exact za|fail) only [go_sem,seval,-List.reduceReplicate]
 refine CallK.of (fun R h=>yE hG0 hG1 d s0 (by omega) _ R h) ?_;simp (disch:=first|exact za|fail) only [go_sem,seval,-List.reduceReplicate]
 obtain⟨S,hS⟩ : ∃ S,S=lS d:=⟨_,rfl⟩
 obtain⟨N,hN⟩ : ∃ N,N=lN d:=⟨_,rfl⟩
 dsimp only at h
 rw [←hS] at h hok ⊢
 rw [←hN] at h hlN ⊢
 have hSl:=hok.2
 by_cases c4:65536 < S.l.length+l.length
 · have d4:decide ((65536:Int) < (S.l.length:Int)+(l.length:Int))=true:=decide_eq_true (by omega)
   rw [if_pos c4] at h
   refine .q ?_;refine .text ?_;simp (disch:=first|exact za|fail) only [go_sem,seval,-List.reduceReplicate,d4]
   refine .q ?_;refine .ifT (by simp (disch:=first|exact za|fail) only [go_sem,seval,-List.reduceReplicate]) ?_
   refine .q ?_;refine .text ?_;simp (disch:=first|exact za|fail) only [go_sem,seval,-List.reduceReplicate]
   refine .q ?_;refine .rt Tryd.func13 (by rw [Tryd.results13]) (hR := ?_);simp (disch:=first|exact za|fail) only [go_sem,seval,-List.reduceReplicate]
   exact h
 have d4:decide ((65536:Int) < (S.l.length:Int)+(l.length:Int))=false:=decide_eq_false (by omega)
 rw [if_neg c4] at h
 refine .q ?_;refine .text ?_;simp (disch:=first|exact za|fail) only [go_sem,seval,-List.reduceReplicate,d4]
 refine .q ?_;refine .ifF (by simp (disch:=first|exact za|fail) only [go_sem,seval,-List.reduceReplicate]) ?_
 refine .skip ?_
 have hpc:=ziN (l:=l)
 obtain⟨p,hp⟩ : ∃ p,p=pcl l:=⟨_,rfl⟩
 rw [←hp] at h hpc
 have hrl:(rcd 1#8 p).length=13+p.length:=yY
 obtain⟨q,hq⟩ : ∃ q,q=rcd 1#8 p:=⟨_,rfl⟩
 rw [←hq] at h hrl
 refine .q ?_;refine .open [7] follows (by kernel_rfl) ?_;simp (disch:=first|exact za|fail) only [go_sem,seval,-List.reduceReplicate]
 refine CallD.still (fun R h=>zc4 l (by omega) _ R h) ?_;simp (disch:=first|exact za|fail) only [go_sem,seval,-List.reduceReplicate]
 have hsg:([i64 l.length,.sl false 1 (pl (sle 1 b8) (pkc l 4))]:List PV)=[i64 l.length,.sl false 1 (pl (sle 1 b8) (pkc l 4))]:=rfl
 have hpk:(pkc l 4).length=4:=zbC
 have hpl : ∀ c∈pkc l 4,c.length≤1000000:=fun c hc=>by have:=ziM c hc;omega
 have hpay : ∀ (B:Hp) (R:AV → Hp → Prop),R (.p (.sl false 1 (pl b8 p))) B → ACall Tryd.prog G 46 [.p (.agg [i64 l.length,.sl false 1 (pl (sle 1 b8) (pkc l 4))])] B R:=fun B R h=>ziJ l.length (pkc l 4) (by omega) hpl B R (by rw [hp] at h;exact h)
 have hrec : ∀ (B:Hp) (R:AV → Hp → Prop),R (.p (.sl false 1 (pl b8 q))) B → ACall Tryd.prog G 45 [.p (b8 1#8),.p (.sl false 1 (pl b8 p))] B R:=fun B R h=>zeR hG0 hG1 1#8 p (by omega) B R (by rw [hq] at h;exact h)
 refine CallD.still (fun R h=>hpay _ R h) ?_;simp (disch:=first|exact za|fail) only [go_sem,seval,-List.reduceReplicate]
 refine CallD.still (fun R h=>hrec _ R h) ?_;simp (disch:=first|exact za|fail) only [go_sem,seval,-List.reduceReplicate]
 refine CallD.still (fun R h=>zee d q s0 N hlN (by omega) (by omega) _ R h) ?_;simp (disch:=first|exact za|fail) only [go_sem,seval,-List.reduceReplicate]
 refine .q ?_;refine .rt Tryd.func13 (by rw [Tryd.results13]) (hR := ?_);simp (disch:=first|exact za|fail) only [go_sem,seval,-List.reduceReplicate]
 exact h
set_option maxHeartbeats 2000000 in
theorem ziR (x n:Nat) (hn:n≤8) (H:Hp) (R:AV → Hp → Prop) (h:R (.p (.sl false 1 (pl b8 (yD n x)))) H) :
 ACall Tryd.prog G 53 [.p (.s (.slice none 0 0)),.p (i64 x),.p (i64 n)] H R:=by
 refine ACall.of_run (raw:=[]) Tryd.func53 rfl Tryd.ntmps53 (by simp) fun hbel => ?_
 have hx0:x / 256 ^ 0=x:=by simp
 have hn0:(n:Int) - ((0:Nat):Int)=n:=by omega
 refine .nilS 0 1 rfl ?_
 refine .q ?_;refine .text ?_;simp (disch:=first|exact za|fail) only [go_sem,seval,-List.reduceReplicate]
 refine .q ?_;refine .own 0 (by simp (disch:=first|exact za|fail) only [go_sem,seval,-List.reduceReplicate];rfl) ?_
 refine .q ?_;refine .loopH [] (fun i=>[(0,.sl H.n i 1 (pl b8 (yD i x))),(1,.p (i64 (x / 256 ^ i:Nat))),(2,.p (i64 ((n:Int) - (i:Int))))]) (fun i=>H.new (.tail i)) (fun i=>True) (0) (n) (by omega) ?_ (by first | rfl | (simp (disch:=first|exact za|fail) only [go_sem,seval,-List.reduceReplicate,yD,hx0,hn0]<;>rfl)) ?_ ?_ ?_
 · simp (disch:=first|exact za|fail) only [go_sem,seval,-List.reduceReplicate,yD,hx0,hn0]<;>(repeat' (first | rfl | refine And.intro ?_ ?_))
 · exact trivial
 intro env E hQ;simp (disch:=first|exact za|fail) only [go_sem,seval,-List.reduceReplicate,yD,hx0,hn0] at E
 rotate_left 1
 intro i env hi0 hi E hQ ihE;simp (disch:=first|exact za|fail) only [go_sem,seval,-List.reduceReplicate,yD,hx0,hn0] at E
 rotate_left 1
 · have hd:decide ((0:Int) < (n:Int) - (n:Int))=false:=decide_eq_false (by omega)
   refine .q ?_;refine .text ?_;simp (disch:=first|exact za|fail) only [go_sem,seval,-List.reduceReplicate,E,hd]
   refine .q ?_;refine .ifF (by simp (disch:=first|exact za|fail) only [go_sem,seval,-List.reduceReplicate,Int.sub_self]) ?_
   refine .q ?_;refine .text ?_;simp (disch:=first|exact za|fail) only [go_sem,seval,-List.reduceReplicate,E]
   refine .q ?_;refine .rt Tryd.func53 (by rw [Tryd.results53]) (hx:=by simp (disch:=first|exact za|fail) only [go_sem,seval,-List.reduceReplicate,E];rfl) (hR := ?_);simp (disch:=first|exact za|fail) only [go_sem,seval,-List.reduceReplicate,E]
   exact h
 · have hl:(yD i x).length=i:=zC
   have hs:yD i x++[BitVec.ofNat 8 (x / 256 ^ i)]=yD (i+1) x:=leN_snoc.symm
   have hd:decide ((0:Int) < (n:Int) - (i:Int))=true:=decide_eq_true (by omega)
   have hx:((x / 256 ^ i:Nat):Int) / 256=((x / 256 ^ (i+1):Nat):Int):=by
    rw [show (256:Int)=((256:Nat):Int) from rfl,←Int.natCast_ediv,Nat.div_div_eq_div_mul,Nat.pow_succ]
   have hn1:(n:Int) - (i:Int) - 1=(n:Int) - ((i:Int)+1):=by omega
   refine .q ?_;refine .text ?_;simp (disch:=first|exact za|fail) only [go_sem,seval,-List.reduceReplicate,E,hd]
   refine .q ?_;refine .ifT (by simp (disch:=first|exact za|fail) only [go_sem,seval,-List.reduceReplicate,hd]) ?_
   refine .q ?_;refine .text ?_;simp (disch:=first|exact za|fail) only [go_sem,seval,-List.reduceReplicate,E,hl,BitVec.ofInt_natCast,zc5,zc6]
   refine .q ?_;refine .text ?_;simp (disch:=first|exact za|fail) only [go_sem,seval,-List.reduceReplicate,E,ziC,hx]
   refine .q ?_;refine .text ?_;simp (disch:=first|exact za|fail) only [go_sem,seval,-List.reduceReplicate,E,hn1]
   first | (refine ihE _ _ ?_ trivial ?_) | (refine .z rfl ?_;refine ihE _ _ ?_ trivial ?_) | (refine .z rfl ?_;refine .z rfl ?_;refine ihE _ _ ?_ trivial ?_) | (refine .z rfl ?_;refine .z rfl ?_;refine .z rfl ?_;refine ihE _ _ ?_ trivial ?_)
   · simp (disch:=first|exact za|fail) only [go_sem,seval,-List.reduceReplicate,E,hs,ziC,hx,hn1,List.append_assoc,Nat.add_assoc]<;>(repeat' (first | rfl | refine And.intro ?_ ?_))
   · first | rfl | (simp (disch:=first|exact za|fail) only [go_sem,seval,-List.reduceReplicate,E,hs,ziC,hx,hn1,List.append_assoc,Nat.add_assoc]<;>(try rfl))
theorem zla (g:List Bool) (hg:0 < g.length) (hg2:g.length≤100000) (H:Hp) (R:AV → Hp → Prop) (h:R (.vr H.n g.length 1) (H.new (.vec (cl bo g)))) :
 ACall Tryd.prog G 72 [.p (.sl false 1 (pl bo g))] H R:=by
 refine ACall.of_run (raw:=[]) Tryd.func72 rfl Tryd.ntmps72 (by simp) fun hbel => ?_
 refine .q ?_;refine .text ?_;simp (disch:=first|exact za|fail) only [go_sem,seval,-List.reduceReplicate]
 refine .q ?_;refine .region ?_
 refine .one rfl (by simp (disch:=first|exact za|fail) only [go_sem,seval,-List.reduceReplicate]<;>rfl) rfl ?_
 refine .isNil (e:=4) zhB (xs:=pl bo g) (fl:=false) (sz:=1) (by simp (disch:=first|exact za|fail) only [go_sem,seval,-List.reduceReplicate]) rfl fun b hb => .nil ?_
 cases b with
 | true =>
  have:=hb rfl
  rw [show g=[] from List.map_eq_nil_iff.1 this] at hg
  exact absurd hg (by decide)
 | false =>
  refine .q ?_;refine .ifF (by simp (disch:=first|exact za|fail) only [go_sem,seval,-List.reduceReplicate]) ?_
  refine .skip ?_
  refine .q ?_;refine .region ?_
  refine .buildVec (sz:=1) (cs:=[]) (by simp (disch:=first|exact za|fail) only [go_sem,seval,-List.reduceReplicate,zW,yz]<;>rfl) (by rfl) ?_
  refine .run ?_
  simp (disch:=first|exact za|fail) only [go_sem,seval,-List.reduceReplicate,flat_bo']
  refine .q ?_;refine .retKeep Tryd.func72 (by rw [Tryd.results72]) (by simp (disch:=first|exact za|fail) only [go_sem,seval,-List.reduceReplicate];rfl) ?_;(try simp (disch:=first|exact za|fail) only [go_sem,seval,-List.reduceReplicate])
  exact h
theorem zg1 (s:Strm) (i:Int) (hs:s.l.length≤65536) (hg:s.gone.length=s.l.length) (H:Hp) (R:AV → Hp → Prop) (h:R (.tup [.p (yt (yy s i).1),.p (i64 (yy s i).2)]) H) :
 ACall Tryd.prog G 52 [.p (yt s),.p (i64 i)] H R:=by
 unfold yy at h
 refine ACall.of_run (raw:=[]) Tryd.func52 rfl Tryd.ntmps52 (by simp) fun hbel => ?_
 refine .q ?_;refine .text ?_;simp (disch:=first|exact za|fail) only [go_sem,seval,-List.reduceReplicate]
 by_cases c1:i < 0
 · have d1:decide (i < 0)=true:=decide_eq_true c1
   rw [if_pos (.inl c1)] at h
   refine .q ?_;refine .text ?_;simp (disch:=first|exact za|fail) only [go_sem,seval,-List.reduceReplicate,d1]
   refine .q ?_;refine .ifT (by simp (disch:=first|exact za|fail) only [go_sem,seval,-List.reduceReplicate]) ?_
   refine .q ?_;refine .text ?_;simp (disch:=first|exact za|fail) only [go_sem,seval,-List.reduceReplicate]
   refine .q ?_;refine .rt Tryd.func52 (by rw [Tryd.results52]) (hR := ?_);simp (disch:=first|exact za|fail) only [go_sem,seval,-List.reduceReplicate]
   exact h
 · have d1:decide (i < 0)=false:=decide_eq_false c1
   by_cases c2:(s.l.length:Int)≤i
   · have d2:decide ((s.l.length:Int)≤i)=true:=decide_eq_true c2
     rw [if_pos (.inr c2)] at h
     refine .q ?_;refine .text ?_;simp (disch:=first|exact za|fail) only [go_sem,seval,-List.reduceReplicate,d1,d2]
     refine .q ?_;refine .ifT (by simp (disch:=first|exact za|fail) only [go_sem,seval,-List.reduceReplicate]) ?_
     refine .q ?_;refine .text ?_;simp (disch:=first|exact za|fail) only [go_sem,seval,-List.reduceReplicate]
     refine .q ?_;refine .rt Tryd.func52 (by rw [Tryd.results52]) (hR := ?_);simp (disch:=first|exact za|fail) only [go_sem,seval,-List.reduceReplicate]
     exact h
   · have d2:decide ((s.l.length:Int)≤i)=false:=decide_eq_false c2
     rw [if_neg (by omega)] at h
     obtain⟨k,rfl⟩ : ∃ k:Nat,i=k:=⟨i.toNat,by omega⟩
     rw [Int.toNat_natCast] at h
     have hk:k < s.gone.length:=by omega
     refine .q ?_;refine .text ?_;simp (disch:=first|exact za|fail) only [go_sem,seval,-List.reduceReplicate,d1,d2]
     refine .q ?_;refine .ifF (by simp (disch:=first|exact za|fail) only [go_sem,seval,-List.reduceReplicate]) ?_
     refine .q ?_;refine .text ?_;simp (disch:=first|exact za|fail) only [go_sem,seval,-List.reduceReplicate]
     cases hn:nth s.gone k with
     | true =>
      rw [hn,if_pos rfl] at h
      refine .q ?_;refine .ifT (by simp (disch:=first|exact za|fail) only [go_sem,seval,-List.reduceReplicate,hn]) ?_
      refine .q ?_;refine .text ?_;simp (disch:=first|exact za|fail) only [go_sem,seval,-List.reduceReplicate]
      refine .q ?_;refine .rt Tryd.func52 (by rw [Tryd.results52]) (hR := ?_);simp (disch:=first|exact za|fail) only [go_sem,seval,-List.reduceReplicate]
      exact h
     | false =>
      rw [hn,if_neg (by decide)] at h
      refine .q ?_;refine .ifF (by simp (disch:=first|exact za|fail) only [go_sem,seval,-List.reduceReplicate,hn]) ?_
      refine .skip ?_
      refine .q ?_;refine .text ?_;simp (disch:=first|exact za|fail) only [go_sem,seval,-List.reduceReplicate]
      refine CallK.of (fun R h=>zla s.gone (by omega) (by omega) _ R h) ?_;simp (disch:=first|exact za|fail) only [go_sem,seval,-List.reduceReplicate]
      refine .q ?_;refine .text ?_;simp (disch:=first|exact za|fail) only [go_sem,seval,-List.reduceReplicate]
      refine .q ?_;refine .frzV 6 (by simp (disch:=first|exact za|fail) only [go_sem,seval,-List.reduceReplicate];rfl) (by simp (disch:=first|exact za|fail) only [go_sem,seval,-List.reduceReplicate]<;>rfl) (xs:=pl bo (s.gone.set k true)) (by rw [flat_bo',zf1]) (by rw [yG,List.length_set]) ziD ?_;(try simp (disch:=first|exact za|fail) only [go_sem,seval,-List.reduceReplicate])
      refine .q ?_;refine .text ?_;simp (disch:=first|exact za|fail) only [go_sem,seval,-List.reduceReplicate,zvc]
      refine .q ?_;refine .rt Tryd.func52 (by rw [Tryd.results52]) (hR := ?_);simp (disch:=first|exact za|fail) only [go_sem,seval,-List.reduceReplicate]
      exact h
set_option maxHeartbeats 4000000 in
set_option maxRecDepth 20000 in
theorem zan (hG0:G 0=some (8,[.agg (pl zy inits)])) (hG1:G 1=some (64,[.agg (pl zy ks)])) (d:By) (s0 i:Int) (hd:d.length≤1000000000) (H:Hp) (R:AV → Hp → Prop)
 (h:R (.tup [.p (sto (rtV (d,s0) i).1.1 (rtV (d,s0) i).1.2),.p (i64 (rtV (d,s0) i).2)]) H):ACall Tryd.prog G 15 [.p (sto d s0),.p (i64 i)] H R:=by
 unfold rtV at h
 have hok:=zhE (d:=d)
 have hlN:=zhF (d:=d)
 refine ACall.of_run (raw:=[]) Tryd.func15 rfl Tryd.ntmps15 (by simp) fun hbel => ?_
 refine .q ?_;refine .text ?_;simp (disch:=first|exact za|fail) only [go_sem,seval,-List.reduceReplicate]
 refine .q ?_;refine .text ?_;simp (disch:=first|exact za|fail) only [go_sem,seval,-List.reduceReplicate]
 refine CallK.of (fun R h=>yE hG0 hG1 d s0 (by omega) _ R h) ?_;simp (disch:=first|exact za|fail) only [go_sem,seval,-List.reduceReplicate]
 obtain⟨S,hS⟩ : ∃ S,S=lS d:=⟨_,rfl⟩
 obtain⟨N,hN⟩ : ∃ N,N=lN d:=⟨_,rfl⟩
 dsimp only at h
 rw [←hS] at h hok ⊢
 rw [←hN] at h hlN ⊢
 have hSl:=hok.2
 obtain⟨V,hV⟩ : ∃ V,V=yy S i:=⟨_,rfl⟩
 have hret : ∀ (B:Hp) (R:AV → Hp → Prop),R (.tup [.p (yt V.1),.p (i64 V.2)]) B → ACall Tryd.prog G 52 [.p (yt S),.p (i64 i)] B R:=fun B R h=>zg1 S i hok.2 hok.1 B R (by rw [hV] at h;exact h)
 rw [←hV] at h
 refine .q ?_;refine .text ?_;simp (disch:=first|exact za|fail) only [go_sem,seval,-List.reduceReplicate]
 refine CallK.of (fun R h=>hret _ R h) ?_;simp (disch:=first|exact za|fail) only [go_sem,seval,-List.reduceReplicate]
 by_cases c1:V.2=0
 rotate_left
 · have d1:(V.2 != 0)=true:=by simpa using c1
   rw [if_pos c1] at h
   refine .q ?_;refine .text ?_;simp (disch:=first|exact za|fail) only [go_sem,seval,-List.reduceReplicate,d1]
   refine .q ?_;refine .ifT (by simp (disch:=first|exact za|fail) only [go_sem,seval,-List.reduceReplicate]) ?_
   refine .q ?_;refine .text ?_;simp (disch:=first|exact za|fail) only [go_sem,seval,-List.reduceReplicate]
   refine .q ?_;refine .rt Tryd.func15 (by rw [Tryd.results15]) (hR := ?_);simp (disch:=first|exact za|fail) only [go_sem,seval,-List.reduceReplicate]
   exact h
 have d1:(V.2 != 0)=false:=by simpa using c1
 rw [if_neg (fun e=>e c1)] at h
 have hk : ∃ k:Nat,i=k:=by
  refine⟨i.toNat,?_⟩
  unfold yy at hV
  by_cases e:i < 0 ∨ (S.l.length:Int)≤i
  · rw [if_pos e] at hV;rw [hV] at c1;exact absurd c1 (by decide)
  · omega
 obtain⟨k,rfl⟩:=hk
 rw [Int.toNat_natCast] at h
 obtain⟨q,hq⟩ : ∃ q,q=rcd 2#8 (yD 4 k):=⟨_,rfl⟩
 have hrl:q.length=17:=by rw [hq,yY,zC]
 rw [←hq] at h
 have hrec : ∀ (B:Hp) (R:AV → Hp → Prop),R (.p (.sl false 1 (pl b8 q))) B → ACall Tryd.prog G 45 [.p (b8 2#8),.p (.sl false 1 (pl b8 (yD 4 k)))] B R:=fun B R h=>zeR hG0 hG1 2#8 (yD 4 k) (by rw [zC];decide) B R (by rw [hq] at h;exact h)
 refine .q ?_;refine .text ?_;simp (disch:=first|exact za|fail) only [go_sem,seval,-List.reduceReplicate,d1]
 refine .q ?_;refine .ifF (by simp (disch:=first|exact za|fail) only [go_sem,seval,-List.reduceReplicate]) ?_
 refine .skip ?_
 refine .q ?_;refine .open [6] follows (by kernel_rfl) ?_;simp (disch:=first|exact za|fail) only [go_sem,seval,-List.reduceReplicate]
 refine CallD.still (fun R h=>ziR k 4 (by decide) _ R h) ?_;simp (disch:=first|exact za|fail) only [go_sem,seval,-List.reduceReplicate]
 refine CallD.still (fun R h=>hrec _ R h) ?_;simp (disch:=first|exact za|fail) only [go_sem,seval,-List.reduceReplicate]
 refine CallD.still (fun R h=>zee d q s0 N hlN (by omega) (by omega) _ R h) ?_;simp (disch:=first|exact za|fail) only [go_sem,seval,-List.reduceReplicate]
 refine .q ?_;refine .rt Tryd.func15 (by rw [Tryd.results15]) (hR := ?_);simp (disch:=first|exact za|fail) only [go_sem,seval,-List.reduceReplicate]
 exact h
end walks
end Go.Proofs.YtdpfkanfahchjaaDoor

/-
  The log of readings: payloads applied to a stream,by the reference.
-/
namespace Go.Proofs.YtdpfkanfahchjaaDoor
open Go Go.AL

theorem zor {rows:Nat} {c:Nat → By} (h:zkH rows c) : ∀ r∈zbI rows c,vR r:=fun r hr=>by
 simp only [zbI,List.mem_map,List.mem_range] at hr
 obtain⟨i,hi,rfl⟩:=hr
 have key : ∀ k,k < 4 → ((((dec (z8 (c k)))[i]?.getD 0#8).toNat:Nat):Int)≤top k:=fun k hk=>by
  obtain⟨_,h2,_,h4⟩:=h k hk
  have hlt:i < (dec (z8 (c k))).length:=by omega
  rw [List.getElem?_eq_getElem hlt,Option.getD_some]
  obtain⟨p,hp,e⟩:=zis.1 (List.getElem_mem hlt)
  have:=h2 p hp
  rw [e] at this
  omega
 have h0:=key 0 (by decide)
 have h1:=key 1 (by decide)
 have h2:=key 2 (by decide)
 have h3:=key 3 (by decide)
 simp only [top] at h0 h1 h2 h3
 refine⟨⟨?_,?_⟩,⟨?_,?_⟩,⟨?_,?_⟩,⟨?_,?_⟩⟩<;>simp only [mkR]<;>omega
theorem zos {rows:Int} {cs:List By} : ∀ r∈(yC rows cs).1,vR r:=by
 unfold yC
 split
 · rename_i h;exact zor h.2.2.2
 · intro r hr;cases hr
noncomputable def zlb (s:Strm) (k:BitVec 8) (p:By):Strm × Bool :=
 if k=2#8 then (if p.length=4 then ((yy s (val p:Nat)).1,(yy s (val p:Nat)).2 == 0) else (s,false))
 else match zV s k p with | some s'=>(s',true) | none=>(s,false)
theorem zqq {s s':Strm} {k:BitVec 8} {p:By} (h:zV s k p=some s'):zlb s k p=(s',true):=by
 unfold zlb
 split
 · rename_i e
   subst e
   have h':zV ⟨s.l,s.gone⟩ 2#8 p=some s':=h
   rw [zef] at h'
   split at h'
   · rename_i c
     rw [if_pos c]
     have h2:zdz s (val p)=some s':=h'
     rw [ziO] at h2
     split at h2
     · rename_i q;cases h2;rw [q];rfl
     · cases h2
   · cases h'
 · rw [h]
theorem zqr {s:Strm} {k:BitVec 8} {p:By} (h:zV s k p=none):(zlb s k p).2=false:=by
 unfold zlb
 split
 · rename_i e
   subst e
   have h':zV ⟨s.l,s.gone⟩ 2#8 p=none:=h
   rw [zef] at h'
   split at h'
   · rename_i c
     rw [if_pos c]
     have h2:zdz s (val p)=none:=h'
     rw [ziO] at h2
     split at h2
     · cases h2
     · rename_i q;exact beq_eq_false_iff_ne.2 q
   · rename_i c;rw [if_neg c]
 · rw [h]
section walks
variable {G:Globs}
set_option maxHeartbeats 4000000 in
set_option maxRecDepth 20000 in
theorem zlc (s:Strm) (k:BitVec 8) (p:By) (hs:SOk s) (hp:p.length≤1048576) (H:Hp) (R:AV → Hp → Prop) (h:R (.tup [.p (yt (zlb s k p).1),.p (bo (zlb s k p).2)]) H) :
    ACall Tryd.prog G 40 [.p (yt s),.p (b8 k),.p (.sl false 1 (pl b8 p))] H R:=by
  have hsl:=hs.2
  have hsw:(yt s).weak=yt s:=rfl
  unfold zlb at h
  refine ACall.of_run (raw:=[]) Tryd.func40 rfl Tryd.ntmps40 (by simp) fun hbel => ?_
  refine .q ?_;refine .text ?_;simp (disch:=first|exact za|fail) only [go_sem,seval,-List.reduceReplicate]
  refine .q ?_;refine .text ?_;simp (disch:=first|exact za|fail) only [go_sem,seval,-List.reduceReplicate]
  by_cases k2:k=2#8
  · rw [if_pos k2] at h
    have dk:(k == 2#8)=true:=by simpa using k2
    refine .q ?_;refine .ifT (by simp (disch:=first|exact za|fail) only [go_sem,seval,-List.reduceReplicate,dk]) ?_
    refine .q ?_;refine .text ?_;simp (disch:=first|exact za|fail) only [go_sem,seval,-List.reduceReplicate]
    by_cases c1:p.length=4
    rotate_left
    · have d1:((p.length:Int) != 4)=true:=bne_iff_ne.2 (by omega)
      rw [if_neg c1] at h
      refine .q ?_;refine .ifT (by simp (disch:=first|exact za|fail) only [go_sem,seval,-List.reduceReplicate,d1]) ?_
      refine .q ?_;refine .text ?_;simp (disch:=first|exact za|fail) only [go_sem,seval,-List.reduceReplicate]
      refine .q ?_;refine .rt Tryd.func40 (by rw [Tryd.results40]) (hR := ?_);simp (disch:=first|exact za|fail) only [go_sem,seval,-List.reduceReplicate]
      exact h
    have d1:((p.length:Int) != 4)=false:=by simp;omega
    rw [if_pos c1] at h
    refine .q ?_;refine .ifF (by simp (disch:=first|exact za|fail) only [go_sem,seval,-List.reduceReplicate,d1]) ?_
    refine .skip ?_
    obtain⟨V,hV⟩ : ∃ V,V=yy s (val p:Nat):=⟨_,rfl⟩
    have hret : ∀ (B:Hp) (R:AV → Hp → Prop),R (.tup [.p (yt V.1),.p (i64 V.2)]) B → ACall Tryd.prog G 33 [.p (yt s),.p (i64 (val p:Nat))] B R:=fun B R h=>zdh s (val p:Nat) hs.2 hs.1 B R (by rw [hV] at h;exact h)
    rw [←hV] at h
    obtain⟨B,hB⟩ : ∃ B,B=((H.new (.cells [.p (.sl false 4 (pl zv s.l)),.p (.sl false 1 (pl bo s.gone))])).new (.cells [.p (.sl true 4 []),.p (.sl true 1 [])])).new (.cells [.p (.sl false 4 (pl zv V.1.l)),.p (.sl false 1 (pl bo V.1.gone))]):=⟨_,rfl⟩
    refine .q ?_;refine .cutH [6] [(8,.ptr (H.n+2) 0),(9,.p (i64 V.2))] (B) (fun ihF => ?_) (fun env F => ?_)
    rotate_left 1
    simp (disch:=first|exact za|fail) only [go_sem,seval,-List.reduceReplicate] at F
    rotate_left 1
    · refine .openTr (.one 0 (.one 1 (.fork 2 7 (.fork 3 7 (.lin [4,5,6,7,8,9]) (.lin [3,4,5,6,8,9])) (.lin [2,3,4,5,6,8,9])))) [7,8] follows (by kernel_rfl) ?_
      refine zl (.p (yt s)) rfl rfl (by simp (disch:=first|exact za|fail) only [go_sem,seval,-List.reduceReplicate]<;>rfl) rfl ?_
      refine zl (.p (.sl false 1 (pl b8 p))) rfl rfl (by simp (disch:=first|exact za|fail) only [go_sem,seval,-List.reduceReplicate]<;>rfl) rfl ?_
      refine And.intro (yA (.p (i64 (val p:Nat))) rfl rfl (by simp (disch:=first|exact za|fail) only [go_sem,seval,-List.reduceReplicate]<;>rfl) (by rfl) rfl (fun R h=>zab p (by omega) _ R h) (And.intro ?_ ?_)) ?_
      · refine yA (.tup [.p (yt V.1),.p (i64 V.2)]) rfl rfl (by simp (disch:=first|exact za|fail) only [go_sem,seval,-List.reduceReplicate]<;>rfl) (by rfl) rfl (fun R h=>hret _ R h) ?_
        refine zA [3,4] (by kernel_rfl) ?_
        simp (disch:=first|exact za|fail) only [go_sem,seval,-List.reduceReplicate]
        first | (refine ihF _ _ ?_ ?_) | (refine .z rfl ?_;refine ihF _ _ ?_ ?_) | (refine .z rfl ?_;refine .z rfl ?_;refine ihF _ _ ?_ ?_) | (refine .z rfl ?_;refine .z rfl ?_;refine .z rfl ?_;refine ihF _ _ ?_ ?_)
        · simp (disch:=first|exact za|fail) only [go_sem,seval,-List.reduceReplicate]<;>(repeat' (first | rfl | refine And.intro ?_ ?_))
        · exact hB.symm
      · refine yc (.ptr (H.n+2) 0) rfl rfl (by simp (disch:=first|exact za|fail) only [go_sem,seval,-List.reduceReplicate]<;>rfl) rfl ?_
        refine zA [4] (by kernel_rfl) ?_
        simp (disch:=first|exact za|fail) only [go_sem,seval,-List.reduceReplicate,hsw]
        refine CallD.still (fun R h=>hret _ R h) ?_;simp (disch:=first|exact za|fail) only [go_sem,seval,-List.reduceReplicate,hsw]
        first | (refine ihF _ _ ?_ ?_) | (refine .z rfl ?_;refine ihF _ _ ?_ ?_) | (refine .z rfl ?_;refine .z rfl ?_;refine ihF _ _ ?_ ?_) | (refine .z rfl ?_;refine .z rfl ?_;refine .z rfl ?_;refine ihF _ _ ?_ ?_)
        · simp (disch:=first|exact za|fail) only [go_sem,seval,-List.reduceReplicate]<;>(repeat' (first | rfl | refine And.intro ?_ ?_))
        · exact hB.symm
      · refine yc (.ptr (H.n+2) 0) rfl rfl (by simp (disch:=first|exact za|fail) only [go_sem,seval,-List.reduceReplicate]<;>rfl) rfl ?_
        refine zA [5] (by kernel_rfl) ?_
        simp (disch:=first|exact za|fail) only [go_sem,seval,-List.reduceReplicate]
        refine CallD.still (fun R h=>zab p (by omega) _ R h) ?_;simp (disch:=first|exact za|fail) only [go_sem,seval,-List.reduceReplicate,hsw]
        refine CallD.still (fun R h=>hret _ R h) ?_;simp (disch:=first|exact za|fail) only [go_sem,seval,-List.reduceReplicate,hsw]
        first | (refine ihF _ _ ?_ ?_) | (refine .z rfl ?_;refine ihF _ _ ?_ ?_) | (refine .z rfl ?_;refine .z rfl ?_;refine ihF _ _ ?_ ?_) | (refine .z rfl ?_;refine .z rfl ?_;refine .z rfl ?_;refine ihF _ _ ?_ ?_)
        · simp (disch:=first|exact za|fail) only [go_sem,seval,-List.reduceReplicate]<;>(repeat' (first | rfl | refine And.intro ?_ ?_))
        · exact hB.symm
    · subst hB
      refine .q ?_;refine .text ?_;simp (disch:=first|exact za|fail) only [go_sem,seval,-List.reduceReplicate,F]
      refine .q ?_;refine .rt Tryd.func40 (by rw [Tryd.results40]) (hx:=by simp (disch:=first|exact za|fail) only [go_sem,seval,-List.reduceReplicate,F];rfl) (hR := ?_);simp (disch:=first|exact za|fail) only [go_sem,seval,-List.reduceReplicate,F]
      exact h
  rw [if_neg k2] at h
  have dk:(k == 2#8)=false:=beq_eq_false_iff_ne.2 k2
  refine .q ?_;refine .ifF (by simp (disch:=first|exact za|fail) only [go_sem,seval,-List.reduceReplicate,dk]) ?_
  refine .skip ?_
  have fail:zV s k p=none → R (.tup [.p (yt s),.p (bo false)]) H:=fun e=>by rw [e] at h;exact h
  by_cases k1:k=1#8
  rotate_left
  · have d1:(k != 1#8)=true:=bne_iff_ne.2 k1
    refine .q ?_;refine .text ?_;simp (disch:=first|exact za|fail) only [go_sem,seval,-List.reduceReplicate,d1]
    refine .q ?_;refine .ifT (by simp (disch:=first|exact za|fail) only [go_sem,seval,-List.reduceReplicate]) ?_
    refine .q ?_;refine .text ?_;simp (disch:=first|exact za|fail) only [go_sem,seval,-List.reduceReplicate]
    refine .q ?_;refine .rt Tryd.func40 (by rw [Tryd.results40]) (hR := ?_);simp (disch:=first|exact za|fail) only [go_sem,seval,-List.reduceReplicate]
    exact fail (by rw [zV,if_neg k1,if_neg fun q=>k2 q.1])
  have d1:(k != 1#8)=false:=by simp [k1]
  have np:zcP p=none → R (.tup [.p (yt s),.p (bo false)]) H:=fun e=>fail (by rw [zV,if_pos k1,e])
  by_cases c1:p.length < 2
  · have d2:decide ((p.length:Int) < 2)=true:=decide_eq_true (by omega)
    refine .q ?_;refine .text ?_;simp (disch:=first|exact za|fail) only [go_sem,seval,-List.reduceReplicate,d1,d2]
    refine .q ?_;refine .ifT (by simp (disch:=first|exact za|fail) only [go_sem,seval,-List.reduceReplicate]) ?_
    refine .q ?_;refine .text ?_;simp (disch:=first|exact za|fail) only [go_sem,seval,-List.reduceReplicate]
    refine .q ?_;refine .rt Tryd.func40 (by rw [Tryd.results40]) (hR := ?_);simp (disch:=first|exact za|fail) only [go_sem,seval,-List.reduceReplicate]
    exact np (by unfold zcP;rw [if_pos c1])
  have d2:decide ((p.length:Int) < 2)=false:=decide_eq_false (by omega)
  have h2:(p.take 2).length=2:=by rw [List.length_take];omega
  refine .q ?_;refine .text ?_;simp (disch:=first|exact za|fail) only [go_sem,seval,-List.reduceReplicate,d1,d2]
  refine .q ?_;refine .ifF (by simp (disch:=first|exact za|fail) only [go_sem,seval,-List.reduceReplicate]) ?_
  refine .skip ?_
  refine .q ?_;refine .text ?_;simp (disch:=first|exact za|fail) only [go_sem,seval,-List.reduceReplicate]
  refine CallK.of (fun R h=>zab (p.take 2) (by omega) _ R h) ?_;simp (disch:=first|exact za|fail) only [go_sem,seval,-List.reduceReplicate]
  obtain⟨rows,hrows⟩ : ∃ rows,rows=val (p.take 2):=⟨_,rfl⟩
  rw [←hrows]
  refine .q ?_;refine .text ?_;simp (disch:=first|exact za|fail) only [go_sem,seval,-List.reduceReplicate]
  obtain⟨B,hB⟩ : ∃ B,B=p.drop 2:=⟨_,rfl⟩
  have hBl:B.length≤1048576:=by rw [hB,List.length_drop];omega
  have psg:zcP p=match z6 4 B with | some (cs,r)=>if r.length=0 then some (rows,cs) else none | none=>none:=by
    unfold zcP;rw [if_neg c1,←hB,←hrows]
    cases z6 4 B with
    | none=>rfl
    | some q=>obtain⟨cs,r⟩:=q;cases r<;>rfl
  have bad:z6 4 B=none → R (.tup [.p (yt s),.p (bo false)]) H:=fun e=>np (by rw [psg,e])
  have hr0:rI B 0=B:=rfl
  have hc0:csI B 0=[]:=rfl
  rw [←hB]
  refine .q ?_;refine .text ?_;simp (disch:=first|exact za|fail) only [go_sem,seval,-List.reduceReplicate]
  refine .q ?_;refine .ownC (H.n+2) 1 (by simp (disch:=first|exact za|fail) only [go_sem,seval,-List.reduceReplicate];rfl) (by rfl) ?_;simp (disch:=first|exact za|fail) only [go_sem,seval,-List.reduceReplicate,List.set_cons_zero,List.set_cons_succ]
  refine .q ?_;refine .loopE [3,6,10] (fun i=>[(2,.p (.sl false 1 (pl b8 (rI B i)))),(11,.p (i64 i))]) (fun i=>[(H.n+2,.cells [.p (i64 rows),.sl (H.n+3) i 1 (pl (sle 1 b8) (csI B i))]),(H.n+3,.tail i)]) (fun i=>(z6 i B).isSome=true) (0) (4) (by omega) ?_ (by first | rfl | (simp (disch:=first|exact za|fail) only [go_sem,seval,-List.reduceReplicate,hr0,hc0]<;>rfl)) ?_ ?_ ?_
  · simp (disch:=first|exact za|fail) only [go_sem,seval,-List.reduceReplicate,hr0,hc0]<;>(repeat' (first | rfl | refine And.intro ?_ ?_))
  rotate_left 1
  intro env E hQ;simp (disch:=first|exact za|fail) only [go_sem,seval,-List.reduceReplicate,hr0,hc0] at E
  rotate_left 1
  intro i env hi0 hi E hQ ihE;simp (disch:=first|exact za|fail) only [go_sem,seval,-List.reduceReplicate,hr0,hc0] at E
  rotate_left 1
  · rfl
  · have hps:=zch hQ
    obtain⟨cs,hcs⟩ : ∃ cs,cs=csI B 4:=⟨_,rfl⟩
    obtain⟨r,hr⟩ : ∃ r,r=rI B 4:=⟨_,rfl⟩
    have hcl:=(zbo hps).2
    rw [hps] at psg
    dsimp only at psg
    rw [←hcs,←hr] at psg
    rw [←hcs] at hcl
    refine .q ?_;refine .text ?_;simp (disch:=first|exact za|fail) only [go_sem,seval,-List.reduceReplicate,E]
    refine .q ?_;refine .ifF (by simp (disch:=first|exact za|fail) only [go_sem,seval,-List.reduceReplicate]) ?_
    refine .q ?_;refine .text ?_;simp (disch:=first|exact za|fail) only [go_sem,seval,-List.reduceReplicate,E,←hcs,zal]
    refine CallK.of (fun R h=>zea (rows:Int) cs (fun c hc=>Nat.le_trans (hcl c hc) (by omega)) _ R h) ?_;simp (disch:=first|exact za|fail) only [go_sem,seval,-List.reduceReplicate,E,←hcs]
    obtain⟨e,hee⟩ : ∃ e,e=(yC rows cs).2:=⟨_,rfl⟩
    obtain⟨W,hL⟩ : ∃ W,W=(yC rows cs).1:=⟨_,rfl⟩
    have hLl:e=0 → W.length=rows:=fun h=>by rw [hL];exact zk7 (by rw [←hee];exact h)
    have hLe:e=0 → rows≤4096:=fun h=>zoo (cs:=cs) (by rw [←hee];exact h)
    have hWv : ∀ r∈W,vR r:=fun r hr=>zos r (by rw [←hL];exact hr)
    rw [←hee,←hL]
    have no:zcP p=some (rows,cs) → ¬ (0 < rows∧e=0∧s.l.length+rows≤65536) → R (.tup [.p (yt s),.p (bo false)]) H:=fun q1 q2=>fail (by
      rw [k1,show zV s 1#8 p=zV ⟨s.l,s.gone⟩ 1#8 p from rfl,zgs q1,←hee,if_neg q2])
    by_cases c2:e=0
    rotate_left
    · have d2:(e != 0)=true:=by simpa using c2
      refine .q ?_;refine .text ?_;simp (disch:=first|exact za|fail) only [go_sem,seval,-List.reduceReplicate,E,d2]
      refine .q ?_;refine .ifT (by simp (disch:=first|exact za|fail) only [go_sem,seval,-List.reduceReplicate]) ?_
      refine .q ?_;refine .text ?_;simp (disch:=first|exact za|fail) only [go_sem,seval,-List.reduceReplicate,E]
      refine .q ?_;refine .rt Tryd.func40 (by rw [Tryd.results40]) (hx:=by simp (disch:=first|exact za|fail) only [go_sem,seval,-List.reduceReplicate,E];rfl) (hR := ?_);simp (disch:=first|exact za|fail) only [go_sem,seval,-List.reduceReplicate,E]
      by_cases hrl:r.length=0
      · exact no (by rw [psg,if_pos hrl]) fun q=>c2 q.2.1
      · exact np (by rw [psg,if_neg hrl])
    have d2:(e != 0)=false:=by simpa using c2
    have hLr:=hLl c2
    have hLm:=hLe c2
    by_cases c3:r.length=0
    rotate_left
    · have d3:decide ((0:Int) < (r.length:Int))=true:=decide_eq_true (by omega)
      refine .q ?_;refine .text ?_;simp (disch:=first|exact za|fail) only [go_sem,seval,-List.reduceReplicate,E,d2,←hr,d3]
      refine .q ?_;refine .ifT (by simp (disch:=first|exact za|fail) only [go_sem,seval,-List.reduceReplicate]) ?_
      refine .q ?_;refine .text ?_;simp (disch:=first|exact za|fail) only [go_sem,seval,-List.reduceReplicate,E]
      refine .q ?_;refine .rt Tryd.func40 (by rw [Tryd.results40]) (hx:=by simp (disch:=first|exact za|fail) only [go_sem,seval,-List.reduceReplicate,E];rfl) (hR := ?_);simp (disch:=first|exact za|fail) only [go_sem,seval,-List.reduceReplicate,E]
      exact np (by rw [psg,if_neg c3])
    rw [if_pos c3] at psg
    have d3:decide ((0:Int) < (r.length:Int))=false:=decide_eq_false (by omega)
    by_cases c4:W.length=0
    · have d4:((W.length:Int) == 0)=true:=beq_iff_eq.2 (by omega)
      refine .q ?_;refine .text ?_;simp (disch:=first|exact za|fail) only [go_sem,seval,-List.reduceReplicate,E,d2,←hr,d3,d4]
      refine .q ?_;refine .ifT (by simp (disch:=first|exact za|fail) only [go_sem,seval,-List.reduceReplicate]) ?_
      refine .q ?_;refine .text ?_;simp (disch:=first|exact za|fail) only [go_sem,seval,-List.reduceReplicate,E]
      refine .q ?_;refine .rt Tryd.func40 (by rw [Tryd.results40]) (hx:=by simp (disch:=first|exact za|fail) only [go_sem,seval,-List.reduceReplicate,E];rfl) (hR := ?_);simp (disch:=first|exact za|fail) only [go_sem,seval,-List.reduceReplicate,E]
      exact no psg (by rintro ⟨q1,q2,q3⟩;omega)
    have d4:((W.length:Int) == 0)=false:=beq_eq_false_iff_ne.2 (by omega)
    by_cases c5:65536 < s.l.length+W.length
    · have d5:decide ((65536:Int) < (s.l.length:Int)+(W.length:Int))=true:=decide_eq_true (by omega)
      refine .q ?_;refine .text ?_;simp (disch:=first|exact za|fail) only [go_sem,seval,-List.reduceReplicate,E,d2,←hr,d3,d4,d5]
      refine .q ?_;refine .ifT (by simp (disch:=first|exact za|fail) only [go_sem,seval,-List.reduceReplicate]) ?_
      refine .q ?_;refine .text ?_;simp (disch:=first|exact za|fail) only [go_sem,seval,-List.reduceReplicate,E]
      refine .q ?_;refine .rt Tryd.func40 (by rw [Tryd.results40]) (hx:=by simp (disch:=first|exact za|fail) only [go_sem,seval,-List.reduceReplicate,E];rfl) (hR := ?_);simp (disch:=first|exact za|fail) only [go_sem,seval,-List.reduceReplicate,E]
      exact no psg (by rintro ⟨q1,q2,q3⟩;omega)
    have d5:decide ((65536:Int) < (s.l.length:Int)+(W.length:Int))=false:=decide_eq_false (by omega)
    have yes:zV s k p=some ⟨s.l++W,s.gone++List.replicate rows false⟩:=by
      rw [k1,show zV s 1#8 p=zV ⟨s.l,s.gone⟩ 1#8 p from rfl,zgs psg,←hee,←hL,if_pos ⟨by omega,c2,by omega⟩]
    rw [yes] at h
    dsimp only at h
    refine .q ?_;refine .text ?_;simp (disch:=first|exact za|fail) only [go_sem,seval,-List.reduceReplicate,E,d2,←hr,d3,d4,d5]
    refine .q ?_;refine .ifF (by simp (disch:=first|exact za|fail) only [go_sem,seval,-List.reduceReplicate]) ?_
    refine .skip ?_
    refine .q ?_;refine .text ?_;simp (disch:=first|exact za|fail) only [go_sem,seval,-List.reduceReplicate,E]
    have ht0:W.take 0=[]:=rfl
    have hta:W.take W.length=W:=List.take_length
    refine .q ?_;refine .loopE [3,6,13] (fun j=>[(15,.p (i64 j))]) (fun j=>[(H.n,.cells [.p (.sl false 4 (pl zv (s.l++W.take j))),.p (.sl false 1 (pl bo (s.gone++List.replicate j false)))])]) (fun j=>True) (0) (W.length) (by omega) ?_ (by first | rfl | (simp (disch:=first|exact za|fail) only [go_sem,seval,-List.reduceReplicate,ht0,List.append_nil,List.replicate_zero,E]<;>rfl)) ?_ ?_ ?_
    · simp (disch:=first|exact za|fail) only [go_sem,seval,-List.reduceReplicate,ht0,List.append_nil,List.replicate_zero,E]<;>(repeat' (first | rfl | refine And.intro ?_ ?_))
    rotate_left 1
    intro env M hQ;simp (disch:=first|exact za|fail) only [go_sem,seval,-List.reduceReplicate,ht0,List.append_nil,List.replicate_zero,E] at M
    rotate_left 1
    intro j env hj0 hj M hQ ihM;simp (disch:=first|exact za|fail) only [go_sem,seval,-List.reduceReplicate,ht0,List.append_nil,List.replicate_zero,E] at M
    rotate_left 1
    · trivial
    · refine .q ?_;refine .text ?_;simp (disch:=first|exact za|fail) only [go_sem,seval,-List.reduceReplicate,M]
      refine .q ?_;refine .ifF (by simp (disch:=first|exact za|fail) only [go_sem,seval,-List.reduceReplicate]) ?_
      refine .q ?_;refine .text ?_;simp (disch:=first|exact za|fail) only [go_sem,seval,-List.reduceReplicate,M,hta]
      refine .q ?_;refine .rt Tryd.func40 (by rw [Tryd.results40]) (hx:=by simp (disch:=first|exact za|fail) only [go_sem,seval,-List.reduceReplicate,M];rfl) (hR := ?_);simp (disch:=first|exact za|fail) only [go_sem,seval,-List.reduceReplicate,M]
      rw [←hLr] at h
      exact h
    · refine .q ?_;refine .text ?_;simp (disch:=first|exact za|fail) only [go_sem,seval,-List.reduceReplicate,M]
      refine .q ?_;refine .ifT (by simp (disch:=first|exact za|fail) only [go_sem,seval,-List.reduceReplicate]) ?_
      have hjl:j < W.length:=by omega
      have hag : ∀ r,(zv r).aggOf 0 4=zv r:=fun _=>rfl
      have hrw : ∀ r,(zv r).weak=zv r:=fun _=>rfl
      have hagg : ∀ x y,PV.agg [PV.sl false 4 (pl zv x),PV.sl false 1 (pl bo y)]=yt ⟨x,y⟩:=fun _ _=>rfl
      have hnm:nth W j∈W:=zS hjl
      have htk:s.l++W.take j++[nth W j]=s.l++W.take (j+1):=by
        rw [List.append_assoc,List.take_add_one,List.getElem?_eq_getElem hjl]
        simp [nth,hjl]
      have hrp:s.gone++List.replicate j false++[false]=s.gone++List.replicate (j+1) false:=by rw [List.append_assoc,←List.replicate_succ']
      have hsg:=hs.1
      have htl:(W.take j).length=j:=by rw [List.length_take];omega
      refine .q ?_;refine .openT [9] follows (by kernel_rfl) ?_;simp (disch:=first|exact za|fail) only [go_sem,seval,-List.reduceReplicate,M,hag,hrw,hagg]
      refine CallD.still (fun R h=>zgp ⟨s.l++W.take j,s.gone++List.replicate j false⟩ (nth W j) (by rw [List.length_append,htl];omega) (by rw [List.length_append,List.length_replicate];omega) (hWv _ hnm) _ R h) ?_;simp (disch:=first|exact za|fail) only [go_sem,seval,-List.reduceReplicate,M]
      refine .q ?_;refine .text ?_;simp (disch:=first|exact za|fail) only [go_sem,seval,-List.reduceReplicate,M]
      first | (refine ihM _ _ ?_ trivial ?_) | (refine .z rfl ?_;refine ihM _ _ ?_ trivial ?_) | (refine .z rfl ?_;refine .z rfl ?_;refine ihM _ _ ?_ trivial ?_) | (refine .z rfl ?_;refine .z rfl ?_;refine .z rfl ?_;refine ihM _ _ ?_ trivial ?_)
      · simp (disch:=first|exact za|fail) only [go_sem,seval,-List.reduceReplicate,M,E,htk,hrp]<;>(repeat' (first | rfl | refine And.intro ?_ ?_))
      · first | rfl | (simp (disch:=first|exact za|fail) only [go_sem,seval,-List.reduceReplicate,M,E,htk,hrp]<;>(try rfl))
  · have hps:=zch hQ
    have hsu:=zbn (i:=i) (b:=B)
    rw [hps] at hsu
    dsimp only at hsu
    obtain⟨hrl,hcl⟩:=zbo hps
    have hcn:=zc3 hps
    obtain⟨r,hr⟩ : ∃ r,r=rI B i:=⟨_,rfl⟩
    rw [←hr] at hsu hrl
    have fail:zed r → R (.tup [.p (yt s),.p (bo false)]) H:=fun e=>bad (zgr (i:=i+1) (by omega) (by rw [hsu,if_pos e]))
    refine .q ?_;refine .text ?_;simp (disch:=first|exact za|fail) only [go_sem,seval,-List.reduceReplicate,E]
    refine .q ?_;refine .ifT (by simp (disch:=first|exact za|fail) only [go_sem,seval,-List.reduceReplicate]) ?_
    by_cases c2:r.length < 4
    · have d2:decide ((r.length:Int) < 4)=true:=decide_eq_true (by omega)
      refine .q ?_;refine .text ?_;simp (disch:=first|exact za|fail) only [go_sem,seval,-List.reduceReplicate,E,←hr,d2]
      refine .q ?_;refine .ifT (by simp (disch:=first|exact za|fail) only [go_sem,seval,-List.reduceReplicate]) ?_
      refine .q ?_;refine .text ?_;simp (disch:=first|exact za|fail) only [go_sem,seval,-List.reduceReplicate,E]
      refine .q ?_;refine .rt Tryd.func40 (by rw [Tryd.results40]) (hx:=by simp (disch:=first|exact za|fail) only [go_sem,seval,-List.reduceReplicate,E];rfl) (hR := ?_);simp (disch:=first|exact za|fail) only [go_sem,seval,-List.reduceReplicate,E]
      exact fail (.inl c2)
    have d2:decide ((r.length:Int) < 4)=false:=decide_eq_false (by omega)
    have h4:(r.take 4).length=4:=by rw [List.length_take];omega
    refine .q ?_;refine .text ?_;simp (disch:=first|exact za|fail) only [go_sem,seval,-List.reduceReplicate,E,←hr,d2]
    refine CallK.of (fun R h=>zab (r.take 4) (by omega) _ R h) ?_;simp (disch:=first|exact za|fail) only [go_sem,seval,-List.reduceReplicate,E,←hr,d2]
    obtain⟨n,hn⟩ : ∃ n,n=val (r.take 4):=⟨_,rfl⟩
    rw [←hn] at hsu ⊢
    by_cases c3:r.length < 4+n
    · have d3:decide ((r.length:Int) - 4 < (n:Int))=true:=decide_eq_true (by omega)
      simp (disch:=first|exact za|fail) only [go_sem,seval,-List.reduceReplicate,E,←hr,d3]
      refine .q ?_;refine .ifT (by simp (disch:=first|exact za|fail) only [go_sem,seval,-List.reduceReplicate]) ?_
      refine .q ?_;refine .text ?_;simp (disch:=first|exact za|fail) only [go_sem,seval,-List.reduceReplicate,E]
      refine .q ?_;refine .rt Tryd.func40 (by rw [Tryd.results40]) (hx:=by simp (disch:=first|exact za|fail) only [go_sem,seval,-List.reduceReplicate,E];rfl) (hR := ?_);simp (disch:=first|exact za|fail) only [go_sem,seval,-List.reduceReplicate,E]
      exact fail (.inr (by rw [←hn];exact c3))
    have d3:decide ((r.length:Int) - 4 < (n:Int))=false:=decide_eq_false (by omega)
    rw [if_neg (by unfold zed;rw [←hn];omega)] at hsu
    simp (disch:=first|exact za|fail) only [go_sem,seval,-List.reduceReplicate,E,←hr,d3]
    refine .q ?_;refine .ifF (by simp (disch:=first|exact za|fail) only [go_sem,seval,-List.reduceReplicate]) ?_
    refine .skip ?_
    refine .q ?_;refine .text ?_;simp (disch:=first|exact za|fail) only [go_sem,seval,-List.reduceReplicate,E,←hr]
    refine CallK.of (fun R h=>zab (r.take 4) (by omega) _ R h) ?_;simp (disch:=first|exact za|fail) only [go_sem,seval,-List.reduceReplicate,E,←hr]
    rw [←hn]
    obtain⟨c,hc⟩ : ∃ c,c=(r.drop 4).take n:=⟨_,rfl⟩
    have i1:(4+(n:Int)).toNat=4+n:=by omega
    have e1':(r.take (4+n)).drop 4=c:=by rw [hc,List.drop_take,show 4+n - 4=n by omega]
    have q1 : csI B i ++ [c] = csI B (i + 1) := by rw [hc]; conv => rhs; rw [csI, hsu]
                                                   rfl
    have q2 : r.drop (4 + n) = rI B (i + 1) := by conv => rhs; rw [rI, hsu]
                                                  rfl
    have hq2:(z6 (i+1) B).isSome=true:=by rw [hsu];rfl
    have hkl:(csI B i).length≤100:=by rw [hcn];omega
    have hone:[PV.sl false 1 (pl b8 c)]=pl (sle 1 b8) [c]:=rfl
    have hwk:(PV.sl false 1 (pl b8 c)).weak=PV.sl false 1 (pl b8 c):=rfl
    have hall:((pl (sle 1 b8) [c]).all fun x=>x.cells.length == 1)=true:=rfl
    have hw2:(pl (sle 1 b8) [c]).map PV.weak=pl (sle 1 b8) [c]:=rfl
    refine .q ?_;refine .open [7,9] follows (by kernel_rfl) ?_;simp (disch:=first|exact za|fail) only [go_sem,seval,-List.reduceReplicate,E,←hr,i1,e1',hone,hwk,hall,hw2,hkl,q1]
    refine .q ?_;refine .text ?_;simp (disch:=first|exact za|fail) only [go_sem,seval,-List.reduceReplicate,E,←hr,i1,q2]
    refine .q ?_;refine .text ?_;simp (disch:=first|exact za|fail) only [go_sem,seval,-List.reduceReplicate,E]
    first | (refine ihE _ _ ?_ hq2 ?_) | (refine .z rfl ?_;refine ihE _ _ ?_ hq2 ?_) | (refine .z rfl ?_;refine .z rfl ?_;refine ihE _ _ ?_ hq2 ?_) | (refine .z rfl ?_;refine .z rfl ?_;refine .z rfl ?_;refine ihE _ _ ?_ hq2 ?_)
    · simp (disch:=first|exact za|fail) only [go_sem,seval,-List.reduceReplicate,E]<;>(repeat' (first | rfl | refine And.intro ?_ ?_))
    · first | rfl | (simp (disch:=first|exact za|fail) only [go_sem,seval,-List.reduceReplicate,E]<;>(try rfl))
end walks
end Go.Proofs.YtdpfkanfahchjaaDoor

/-
  The log of readings read whole,by the reference.
-/
namespace Go.Proofs.YtdpfkanfahchjaaDoor
open Go Go.AL

structure LrS where
 B:Hp
 s:Strm
 fl:Bool
 n:Nat
structure LR (H:Hp) (d:By) (s0:Int) (x:LrS):Prop where
 n:H.n+3≤x.B.n
 f1:x.B.f H.n=some (.cells [.p (.sl false 1 (pl b8 d)),.p (i64 s0)])
 f2:x.B.f (H.n+1)=some (.cells [.p (.sl true 4 []),.p (.sl true 1 [])])
 f5:x.B.f (H.n+2)=some (.cells [.p (.sl x.fl 4 (pl zv x.s.l)),.p (.sl x.fl 1 (pl bo x.s.gone))])
 ok:SOk x.s
 ld:ld z0S d=ld x.s (d.drop x.n)
 le:x.n≤d.length
 tr:x.B.trunc H.n=H
theorem zfn {H B:Hp} {d:By} {s0:Int} {s s':Strm} {fl:Bool} {n m:Nat} (h:LR H d s0 ⟨B,s,fl,n⟩) (hs:SOk s') (hl:Go.Proofs.YtdpfkanfahchjaaDoor.ld s (d.drop n)=Go.Proofs.YtdpfkanfahchjaaDoor.ld s' (d.drop m)) (hm:m≤d.length) (x:AB) :
 LR H d s0 ⟨(B.new x).set (H.n+2) (.cells [.p (.sl false 4 (pl zv s'.l)),.p (.sl false 1 (pl bo s'.gone))]),s',false,m⟩:=by
 obtain⟨hn,f1,f2,f5,ok,hld,hle,tr⟩:=h
 dsimp only at hn f1 f2 f5 ok hld hle tr
 have hb : ∀ b,b < B.n → b≠H.n+2 → ((B.new x).set (H.n+2) (.cells [.p (.sl false 4 (pl zv s'.l)),.p (.sl false 1 (pl bo s'.gone))])).f b=B.f b:=fun b h1 h2=>by
  rw [Hp.f_set_ne _ _ _ _ h2,Hp.f_new_old _ _ _ h1]
 refine⟨?_,(hb _ (by omega) (by omega)).trans f1,(hb _ (by omega) (by omega)).trans f2,?_,hs,hld.trans hl,hm,?_⟩<;>dsimp only
 · show H.n+3≤B.n+1;omega
 · simp (disch:=first|exact za|fail) only [go_sem,seval,-List.reduceReplicate]
 · rw [Hp.trunc_set _ _ _ _ (by omega),Hp.trunc_new _ _ _ (by omega)];exact tr
section walks
variable {G:Globs}
set_option maxHeartbeats 4000000 in
set_option maxRecDepth 20000 in
theorem znq (d:By) (s0:Int) (hd:d.length≤140737488353000) (H:Hp) (R:AV → Hp → Prop) (h:R (.tup [.p (yt (lS d)),.p (i64 (lN d:Nat)),.p (i64 (lE d))]) H):ACall Tryd.prog G 12 [.p (sto d s0)] H R:=by
 refine ACall.of_run (raw:=[]) Tryd.func12 rfl Tryd.ntmps12 (by simp) fun hbel => ?_
 refine .q ?_;refine .text ?_;simp (disch:=first|exact za|fail) only [go_sem,seval,-List.reduceReplicate]
 refine .q ?_;refine .text ?_;simp (disch:=first|exact za|fail) only [go_sem,seval,-List.reduceReplicate]
 obtain⟨B0,hB0⟩ : ∃ B0,B0=((H.new (.cells [.p (.sl false 1 (pl b8 d)),.p (i64 s0)])).new (.cells [.p (.sl true 4 []),.p (.sl true 1 [])])).new (.cells [.p (.sl true 4 []),.p (.sl true 1 [])]):=⟨_,rfl⟩
 have q0:LR H d s0 ⟨B0,z0S,true,0⟩:=by
  subst hB0
  refine⟨?_,?_,?_,?_,zno,rfl,Nat.zero_le _,?_⟩<;>dsimp only
  · exact Nat.le_refl _
  · simp (disch:=first|exact za|fail) only [go_sem,seval,-List.reduceReplicate]
  · simp (disch:=first|exact za|fail) only [go_sem,seval,-List.reduceReplicate]
  · simp (disch:=first|exact za|fail) only [go_sem,seval,-List.reduceReplicate]
    rfl
  · simp (disch:=first|exact za|fail) only [go_sem,seval,-List.reduceReplicate]
 rw [←hB0]
 clear hB0
 refine .q ?_;refine .text ?_;simp (disch:=first|exact za|fail) only [go_sem,seval,-List.reduceReplicate]
 refine .q ?_;refine .loopK (S:=LrS) [1,2,5] (fun x=>[(6,.p (i64 x.n))]) (fun x=>x.B) (fun x=>LR H d s0 x) (fun x=>d.length - x.n) (⟨B0,z0S,true,0⟩) ?_ (by first | rfl | (simp (disch:=first|exact za|fail) only [go_sem,seval,-List.reduceReplicate]<;>rfl)) ?_ ?_
 · simp (disch:=first|exact za|fail) only [go_sem,seval,-List.reduceReplicate]<;>(repeat' (first | rfl | refine And.intro ?_ ?_))
 rotate_left 1
 intro x env E hQ ihE;simp (disch:=first|exact za|fail) only [go_sem,seval,-List.reduceReplicate] at E
 rotate_left 1
 · exact q0
 · obtain⟨B,s,fl,n⟩:=x
   have hQ0:=hQ
   obtain⟨hn,f1,f2,f5,ok,hld,hle,tr⟩:=hQ
   dsimp only at hn f1 f2 f5 ok hld hle tr E ⊢
   have hbelB:Bel H.n B:=zX (by rw [tr];exact (Hp.trunc_self H).symm) hbel
   have hres : ∀ q,ld s (d.drop n)=q → lS d=q.1∧lN d=d.length - q.2.1∧lE d=if q.2.2 then 0 else 270:=fun q e=>by
    unfold lS lN lE
    rw [hld,e]
    exact⟨rfl,rfl,rfl⟩
   have hbelH:=hbel
   have hbel:Bel H.n B:=hbelB
   by_cases c0:n < d.length
   rotate_left
   · have d0:decide ((n:Int) < (d.length:Int))=false:=decide_eq_false (by omega)
     have hb0:d.drop n=[]:=List.drop_eq_nil_of_le (by omega)
     have hl:ld s (d.drop n)=(s,0,true):=by rw [hb0];exact zaQ
     have hnn:(n:Int)=(d.length:Int):=by omega
     rw [(hres _ hl).1,(hres _ hl).2.1,(hres _ hl).2.2,if_pos rfl,Nat.sub_zero] at h
     refine .q ?_;refine .text ?_;simp (disch:=first|exact za|fail) only [go_sem,seval,-List.reduceReplicate,E,f1,d0]
     refine .q ?_;refine .ifF (by simp (disch:=first|exact za|fail) only [go_sem,seval,-List.reduceReplicate]) ?_
     refine .q ?_;refine .text ?_;simp (disch:=first|exact za|fail) only [go_sem,seval,-List.reduceReplicate,E,f5,f2]
     refine .q ?_;refine .rt Tryd.func12 (by rw [Tryd.results12]) (hx:=by simp (disch:=first|exact za|fail) only [go_sem,seval,-List.reduceReplicate,E,hnn,tr];rfl) (hR := ?_);simp (disch:=first|exact za|fail) only [go_sem,seval,-List.reduceReplicate,E,hnn,tr]
     exact h
   have d0:decide ((n:Int) < (d.length:Int))=true:=decide_eq_true (by omega)
   obtain⟨b,hb⟩ : ∃ b,b=d.drop n:=⟨_,rfl⟩
   have hbl:b.length=d.length - n:=by rw [hb,List.length_drop]
   refine .q ?_;refine .text ?_;simp (disch:=first|exact za|fail) only [go_sem,seval,-List.reduceReplicate,E,f1,d0]
   refine .q ?_;refine .ifT (by simp (disch:=first|exact za|fail) only [go_sem,seval,-List.reduceReplicate]) ?_
   refine .q ?_;refine .text ?_;simp (disch:=first|exact za|fail) only [go_sem,seval,-List.reduceReplicate,E,f1]
   rw [←hb] at hres ⊢
   have stop:ld s b=(s,b.length,false) → R (.tup [.p (yt s),.p (i64 n),.p (i64 270)]) H:=fun hl=>by
    rw [(hres _ hl).1,(hres _ hl).2.1,(hres _ hl).2.2,if_neg (by exact Bool.false_ne_true)] at h
    dsimp only at h
    rw [show ((d.length - b.length:Nat):Int)=(n:Int) by omega] at h
    exact h
   have none':spl b=none → R (.tup [.p (yt s),.p (i64 n),.p (i64 270)]) H:=fun e=>stop (zbB (by omega) e)
   by_cases c1:b.length < 13
   · have d1:decide ((b.length:Int) < 13)=true:=decide_eq_true (by omega)
     refine .q ?_;refine .text ?_;simp (disch:=first|exact za|fail) only [go_sem,seval,-List.reduceReplicate,E,d1]
     refine .q ?_;refine .ifT (by simp (disch:=first|exact za|fail) only [go_sem,seval,-List.reduceReplicate]) ?_
     refine .q ?_;refine .text ?_;simp (disch:=first|exact za|fail) only [go_sem,seval,-List.reduceReplicate,E,f5,f2]
     refine .q ?_;refine .rt Tryd.func12 (by rw [Tryd.results12]) (hx:=by simp (disch:=first|exact za|fail) only [go_sem,seval,-List.reduceReplicate,E,tr];rfl) (hR := ?_);simp (disch:=first|exact za|fail) only [go_sem,seval,-List.reduceReplicate,E,tr]
     exact none' (by rw [spl,if_pos c1])
   have d1:decide ((b.length:Int) < 13)=false:=decide_eq_false (by omega)
   have h4:(b.take 4).length=4:=by rw [List.length_take];omega
   refine .q ?_;refine .text ?_;simp (disch:=first|exact za|fail) only [go_sem,seval,-List.reduceReplicate,E,d1]
   refine .q ?_;refine .ifF (by simp (disch:=first|exact za|fail) only [go_sem,seval,-List.reduceReplicate]) ?_
   refine .skip ?_
   refine .q ?_;refine .text ?_;simp (disch:=first|exact za|fail) only [go_sem,seval,-List.reduceReplicate,E]
   refine CallK.of (fun R h=>zab (b.take 4) (by omega) _ R h) ?_;simp (disch:=first|exact za|fail) only [go_sem,seval,-List.reduceReplicate,E]
   obtain⟨v,hv⟩ : ∃ v,v=val (b.take 4):=⟨_,rfl⟩
   rw [←hv]
   by_cases c2:1048576 < v
   · have d2:decide ((1048576:Int) < (v:Int))=true:=decide_eq_true (by omega)
     refine .q ?_;refine .open [] follows (by kernel_rfl) ?_;simp (disch:=first|exact za|fail) only [go_sem,seval,-List.reduceReplicate,E,d2]
     refine .q ?_;refine .ifT (by simp (disch:=first|exact za|fail) only [go_sem,seval,-List.reduceReplicate]) ?_
     refine .q ?_;refine .text ?_;simp (disch:=first|exact za|fail) only [go_sem,seval,-List.reduceReplicate,E,f5,f2]
     refine .q ?_;refine .rt Tryd.func12 (by rw [Tryd.results12]) (hx:=by simp (disch:=first|exact za|fail) only [go_sem,seval,-List.reduceReplicate,E,tr];rfl) (hR := ?_);simp (disch:=first|exact za|fail) only [go_sem,seval,-List.reduceReplicate,E,tr]
     exact none' (by rw [spl,if_neg c1,←hv,if_pos (.inl c2)])
   have d2:decide ((1048576:Int) < (v:Int))=false:=decide_eq_false (by omega)
   by_cases c3:b.length < 13+v
   · have d3:decide ((b.length:Int) < 13+(v:Int))=true:=decide_eq_true (by omega)
     refine .q ?_;refine .open [] follows (by kernel_rfl) ?_;simp (disch:=first|exact za|fail) only [go_sem,seval,-List.reduceReplicate,E,d2,d3]
     refine .q ?_;refine .ifT (by simp (disch:=first|exact za|fail) only [go_sem,seval,-List.reduceReplicate]) ?_
     refine .q ?_;refine .text ?_;simp (disch:=first|exact za|fail) only [go_sem,seval,-List.reduceReplicate,E,f5,f2]
     refine .q ?_;refine .rt Tryd.func12 (by rw [Tryd.results12]) (hx:=by simp (disch:=first|exact za|fail) only [go_sem,seval,-List.reduceReplicate,E,tr];rfl) (hR := ?_);simp (disch:=first|exact za|fail) only [go_sem,seval,-List.reduceReplicate,E,tr]
     exact none' (by rw [spl,if_neg c1,←hv,if_pos (.inr c3)])
   have d3:decide ((b.length:Int) < 13+(v:Int))=false:=decide_eq_false (by omega)
   have e1:(b.take (5+v)).drop 4=(b.drop 4).take (1+v):=by rw [List.drop_take,show 5+v - 4=1+v by omega]
   obtain⟨m,hm⟩ : ∃ m,m=(b.drop 4).take (1+v):=⟨_,rfl⟩
   have hml:m.length≤140737488353000:=by rw [hm,List.length_take,List.length_drop];omega
   rw [←hm] at e1
   have i1:(5+(v:Int)).toNat=5+v:=by omega
   have i2:(13+(v:Int)).toNat=13+v:=by omega
   have e2:(b.take (13+v)).drop (5+v)=(b.drop (5+v)).take 8:=by rw [List.drop_take,show 13+v - (5+v)=8 by omega]
   refine .q ?_;refine .open [] follows (by kernel_rfl) ?_;simp (disch:=first|exact za|fail) only [go_sem,seval,-List.reduceReplicate,E,d2,d3,i1,i2,e1,e2]
   refine CallD.still (fun R h=>zd8 m (by omega) _ R h) ?_;simp (disch:=first|exact za|fail) only [go_sem,seval,-List.reduceReplicate,E,d2,d3,i1,i2,e1,e2,zQ,zcg]
   by_cases c4:(sha m).take 8=(b.drop (5+v)).take 8
   rotate_left
   · have d4:decide ((sha m).take 8=(b.drop (5+v)).take 8)=false:=decide_eq_false c4
     simp (disch:=first|exact za|fail) only [go_sem,seval,-List.reduceReplicate,E,d4]
     refine .q ?_;refine .ifT (by simp (disch:=first|exact za|fail) only [go_sem,seval,-List.reduceReplicate]) ?_
     refine .q ?_;refine .text ?_;simp (disch:=first|exact za|fail) only [go_sem,seval,-List.reduceReplicate,E,f5,f2]
     refine .q ?_;refine .rt Tryd.func12 (by rw [Tryd.results12]) (hx:=by simp (disch:=first|exact za|fail) only [go_sem,seval,-List.reduceReplicate,E,tr];rfl) (hR := ?_);simp (disch:=first|exact za|fail) only [go_sem,seval,-List.reduceReplicate,E,tr]
     exact none' (by rw [spl,if_neg c1,←hv,if_neg (by omega),←hm,if_neg c4])
   have d4:decide ((sha m).take 8=(b.drop (5+v)).take 8)=true:=decide_eq_true c4
   have hs:spl b=some (nth b 4,(b.drop 5).take v,b.drop (13+v)):=by
    rw [spl,if_neg c1,←hv,if_neg (by omega),←hm,if_pos c4];rfl
   have e3:(b.take (5+v)).drop 5=(b.drop 5).take v:=by rw [List.drop_take,show 5+v - 5=v by omega]
   simp (disch:=first|exact za|fail) only [go_sem,seval,-List.reduceReplicate,E,d4]
   refine .q ?_;refine .ifF (by simp (disch:=first|exact za|fail) only [go_sem,seval,-List.reduceReplicate]) ?_
   refine .skip ?_
   obtain⟨k,hk⟩ : ∃ k,k=nth b 4:=⟨_,rfl⟩
   obtain⟨p,hp⟩ : ∃ p,p=(b.drop 5).take v:=⟨_,rfl⟩
   have hpl:p.length≤1048576:=by rw [hp,List.length_take,List.length_drop];omega
   rw [←hk,←hp] at hs
   rw [←hp] at e3
   have hsw:(PV.agg [.sl fl 4 (pl zv s.l),.sl fl 1 (pl bo s.gone)]).weak=yt s:=rfl
   have hbw:(PV.sl false 1 (pl b8 p)).weak=PV.sl false 1 (pl b8 p):=rfl
   obtain⟨V,hV⟩ : ∃ V,V=zlb s k p:=⟨_,rfl⟩
   have hpar : ∀ (B:Hp) (R:AV → Hp → Prop),R (.tup [.p (yt V.1),.p (bo V.2)]) B → ACall Tryd.prog G 40 [.p (yt s),.p (b8 k),.p (.sl false 1 (pl b8 p))] B R:=fun B R h=>zlc s k p ok hpl B R (by rw [hV] at h;exact h)
   obtain⟨C,hC⟩ : ∃ C,C=B.new (.cells [.p (.sl false 4 (pl zv V.1.l)),.p (.sl false 1 (pl bo V.1.gone))]):=⟨_,rfl⟩
   refine .q ?_;refine .cutH [1,2,5,6,8] [(9,.ptr B.n 0),(10,.p (bo V.2))] (C) (fun ihF => ?_) (fun env F => ?_)
   rotate_left 1
   simp (disch:=first|exact za|fail) only [go_sem,seval,-List.reduceReplicate,E] at F
   rotate_left 1
   · refine .openTr (.one 0 (.one 1 (.one 2 (.one 3 (.one 4 (.one 5 (.one 6 (.one 7 (.fork 8 12 (.lin [9,10,11,12,13,14]) (.lin [8,9,10,11,13,14])))))))))) [12,13] follows (by kernel_rfl) ?_
     refine zl (.p (.agg [.sl fl 4 (pl zv s.l),.sl fl 1 (pl bo s.gone)])) rfl rfl (by simp (disch:=first|exact za|fail) only [go_sem,seval,-List.reduceReplicate,E,f5]<;>rfl) rfl ?_
     refine zl (.p (.sl false 1 (pl b8 b))) rfl rfl (by simp (disch:=first|exact za|fail) only [go_sem,seval,-List.reduceReplicate,E]<;>rfl) rfl ?_
     refine zl (.ip 1 (pl b8 b) 4 0) rfl rfl (by simp (disch:=first|exact za|fail) only [go_sem,seval,-List.reduceReplicate,E]<;>rfl) rfl ?_
     refine zl (.p (b8 k)) rfl rfl (by simp (disch:=first|exact za|fail) only [go_sem,seval,-List.reduceReplicate,E,←hk]<;>rfl) rfl ?_
     refine zl (.p (.sl false 1 (pl b8 b))) rfl rfl (by simp (disch:=first|exact za|fail) only [go_sem,seval,-List.reduceReplicate,E]<;>rfl) rfl ?_
     refine zl (.p (i64 v)) rfl rfl (by simp (disch:=first|exact za|fail) only [go_sem,seval,-List.reduceReplicate,E]<;>rfl) rfl ?_
     refine zl (.p (i64 (5+v))) rfl rfl (by simp (disch:=first|exact za|fail) only [go_sem,seval,-List.reduceReplicate,E]<;>rfl) rfl ?_
     refine zl (.p (.sl false 1 (pl b8 p))) rfl rfl (by simp (disch:=first|exact za|fail) only [go_sem,seval,-List.reduceReplicate,E,i1,e3]<;>rfl) rfl ?_
     refine And.intro (yA (.tup [.p (yt V.1),.p (bo V.2)]) rfl rfl (by simp (disch:=first|exact za|fail) only [go_sem,seval,-List.reduceReplicate,E,hsw,hbw]<;>rfl) (by rfl) rfl (fun R h=>hpar _ R h) ?_) ?_
     · refine zA [3,4] (by kernel_rfl) ?_
       simp (disch:=first|exact za|fail) only [go_sem,seval,-List.reduceReplicate,E]
       first | (refine ihF _ _ ?_ ?_) | (refine .z rfl ?_;refine ihF _ _ ?_ ?_) | (refine .z rfl ?_;refine .z rfl ?_;refine ihF _ _ ?_ ?_) | (refine .z rfl ?_;refine .z rfl ?_;refine .z rfl ?_;refine ihF _ _ ?_ ?_)
       · simp (disch:=first|exact za|fail) only [go_sem,seval,-List.reduceReplicate]<;>(repeat' (first | rfl | refine And.intro ?_ ?_))
       · exact hC.symm
     · refine yc (.ptr B.n 0) rfl rfl (by simp (disch:=first|exact za|fail) only [go_sem,seval,-List.reduceReplicate,E]<;>rfl) rfl ?_
       refine zA [4] (by kernel_rfl) ?_
       simp (disch:=first|exact za|fail) only [go_sem,seval,-List.reduceReplicate,E,hsw,hbw]
       refine CallD.still (fun R h=>hpar _ R h) ?_;simp (disch:=first|exact za|fail) only [go_sem,seval,-List.reduceReplicate,E,hsw]
       first | (refine ihF _ _ ?_ ?_) | (refine .z rfl ?_;refine ihF _ _ ?_ ?_) | (refine .z rfl ?_;refine .z rfl ?_;refine ihF _ _ ?_ ?_) | (refine .z rfl ?_;refine .z rfl ?_;refine .z rfl ?_;refine ihF _ _ ?_ ?_)
       · simp (disch:=first|exact za|fail) only [go_sem,seval,-List.reduceReplicate]<;>(repeat' (first | rfl | refine And.intro ?_ ?_))
       · exact hC.symm
   · subst hC
     cases hps:zV s k p with
     | none =>
      have hv2:V.2=false:=by rw [hV];exact zqr hps
      have hl:ld s b=(s,b.length,false):=zdA hs hps
      have hfC : ∀ x c,c < B.n → (B.new x).f c=B.f c:=fun x c hc=>Hp.f_new_old _ _ _ hc
      have htC : ∀ x,(B.new x).trunc H.n=H:=fun x=>by rw [Hp.trunc_new _ _ _ (by omega)];exact tr
      have h1 : ∀ x,(B.new x).f (H.n+1)=some (.cells [.p (.sl true 4 []),.p (.sl true 1 [])]):=fun x=>(hfC x _ (by omega)).trans f2
      have h2 : ∀ x,(B.new x).f (H.n+2)=some (.cells [.p (.sl fl 4 (pl zv s.l)),.p (.sl fl 1 (pl bo s.gone))]):=fun x=>(hfC x _ (by omega)).trans f5
      obtain⟨C,hC⟩ : ∃ C,C=B.new (.cells [.p (.sl false 4 (pl zv V.1.l)),.p (.sl false 1 (pl bo V.1.gone))]):=⟨_,rfl⟩
      have g1:C.f (H.n+1)=some (.cells [.p (.sl true 4 []),.p (.sl true 1 [])]):=by rw [hC];exact h1 _
      have g2:C.f (H.n+2)=some (.cells [.p (.sl fl 4 (pl zv s.l)),.p (.sl fl 1 (pl bo s.gone))]):=by rw [hC];exact h2 _
      have tr':C.trunc H.n=H:=by rw [hC];exact htC _
      have hbel:Bel H.n C:=zX (by rw [tr'];exact (Hp.trunc_self H).symm) hbelH
      have hCn:H.n+3≤C.n:=by rw [hC];show _≤B.n+1;omega
      rw [←hC]
      refine .q ?_;refine .text ?_;simp (disch:=first|exact za|fail) only [go_sem,seval,-List.reduceReplicate,F,E,hv2]
      refine .q ?_;refine .ifT (by simp (disch:=first|exact za|fail) only [go_sem,seval,-List.reduceReplicate]) ?_
      refine .q ?_;refine .text ?_;simp (disch:=first|exact za|fail) only [go_sem,seval,-List.reduceReplicate,F,E,g1,g2]
      refine .q ?_;refine .rt Tryd.func12 (by rw [Tryd.results12]) (hx:=by simp (disch:=first|exact za|fail) only [go_sem,seval,-List.reduceReplicate,F,E,tr'];rfl) (hR := ?_);simp (disch:=first|exact za|fail) only [go_sem,seval,-List.reduceReplicate,F,E,tr']
      exact stop hl
     | some s' =>
      have hVV:V=(s',true):=by rw [hV];exact zqq hps
      have hl:ld s b=ld s' (b.drop (13+v)):=za0 hs hps
      have hok:=zfm hps ok
      have h9 : ∀ x,(B.new x).f (H.n+2)=some (.cells [.p (.sl fl 4 (pl zv s.l)),.p (.sl fl 1 (pl bo s.gone))]):=fun x=>by rw [Hp.f_new_old _ _ _ (by omega)];exact f5
      subst hVV
      dsimp only
      refine .q ?_;refine .text ?_;simp (disch:=first|exact za|fail) only [go_sem,seval,-List.reduceReplicate,F,E]
      refine .q ?_;refine .ifF (by simp (disch:=first|exact za|fail) only [go_sem,seval,-List.reduceReplicate]) ?_
      refine .skip ?_
      refine .q ?_;refine .text ?_;simp (disch:=first|exact za|fail) only [go_sem,seval,-List.reduceReplicate,F,E,h9]
      refine .q ?_;refine .text ?_;simp (disch:=first|exact za|fail) only [go_sem,seval,-List.reduceReplicate,F,E]
      have hm:d.length - (n+13+v) < d.length - n:=by omega
      have hdr:d.drop (n+13+v)=b.drop (13+v):=by rw [hb,List.drop_drop,Nat.add_assoc]
      have hnv:((n+13+v:Nat):Int)=(n:Int)+13+(v:Int):=by omega
      first | (refine ihE (⟨(B.new (.cells [.p (.sl false 4 (pl zv s'.l)),.p (.sl false 1 (pl bo s'.gone))])).set (H.n+2) (.cells [.p (.sl false 4 (pl zv s'.l)),.p (.sl false 1 (pl bo s'.gone))]),s',false,n+13+v⟩) _ _ ?_ ?_ (zfn hQ0 hok (by rw [hdr,←hb];exact hl) (by omega) _) ?_) | (refine .z rfl ?_;refine ihE (⟨(B.new (.cells [.p (.sl false 4 (pl zv s'.l)),.p (.sl false 1 (pl bo s'.gone))])).set (H.n+2) (.cells [.p (.sl false 4 (pl zv s'.l)),.p (.sl false 1 (pl bo s'.gone))]),s',false,n+13+v⟩) _ _ ?_ ?_ (zfn hQ0 hok (by rw [hdr,←hb];exact hl) (by omega) _) ?_) | (refine .z rfl ?_;refine .z rfl ?_;refine ihE (⟨(B.new (.cells [.p (.sl false 4 (pl zv s'.l)),.p (.sl false 1 (pl bo s'.gone))])).set (H.n+2) (.cells [.p (.sl false 4 (pl zv s'.l)),.p (.sl false 1 (pl bo s'.gone))]),s',false,n+13+v⟩) _ _ ?_ ?_ (zfn hQ0 hok (by rw [hdr,←hb];exact hl) (by omega) _) ?_) | (refine .z rfl ?_;refine .z rfl ?_;refine .z rfl ?_;refine ihE (⟨(B.new (.cells [.p (.sl false 4 (pl zv s'.l)),.p (.sl false 1 (pl bo s'.gone))])).set (H.n+2) (.cells [.p (.sl false 4 (pl zv s'.l)),.p (.sl false 1 (pl bo s'.gone))]),s',false,n+13+v⟩) _ _ ?_ ?_ (zfn hQ0 hok (by rw [hdr,←hb];exact hl) (by omega) _) ?_)
      rotate_left 1
      · simp (disch:=first|exact za|fail) only [go_sem,seval,-List.reduceReplicate,E,F,hnv]<;>(repeat' (first | rfl | refine And.intro ?_ ?_))
      · first | rfl | (simp (disch:=first|exact za|fail) only [go_sem,seval,-List.reduceReplicate,E,F,hnv]<;>(try rfl))
      · exact hm
end walks
end Go.Proofs.YtdpfkanfahchjaaDoor

/-
  The log of readings: Append and Retract,by the reference;equal streams;readings of triples.
-/
namespace Go.Proofs.YtdpfkanfahchjaaDoor
open Go Go.AL

section walks
variable {G:Globs}
end walks
end Go.Proofs.YtdpfkanfahchjaaDoor

/-
  The log of readings: readings compared;equal streams;readings of triples.
-/
namespace Go.Proofs.YtdpfkanfahchjaaDoor
open Go Go.AL

def zqs (P:Program) (t:TypeId) (k:IntKind) (n:Nat):Bool :=
  match P.underlying t with
  | some (.struct fs) => fs.toList.length == n && P.cellsOf t == n && fs.all (·.name != "_") && ((List.range n).all fun i => match fs.toList[i]? with | some f => f.offset == i && P.cellsOf f.type == 1 && (match P.underlying f.type with | some (.int k') => k' == k | _ => false) | none => false) && P.keyTypeAt 64 t && !P.eqGuardType P.depth t && zK P t
  | _=>false
theorem zgx {α β:Type} (g:β → Option (List α)) (h:β → α) : ∀ (l:List β),(∀ i∈l,g i=some [h i]) → (l.mapM g).map List.flatten=some (l.map h)
 | [],_=>rfl
 | i :: l,hg=>by
  have ih:=zgx g h l (fun j hj=>hg j (by simp [hj]))
  simp only [List.mapM_cons,hg i (by simp)]
  cases hm:l.mapM g with
  | none=>simp [hm] at ih
  | some ls =>
   simp only [hm,Option.map_some,Option.some.injEq] at ih
   simp [ih]
theorem zgy {P:Program} {t:TypeId} {k:IntKind} (l:List Int) (hw : ∀ x∈l,(Lit.int k x).wf=true) (h:zqs P t k l.length=true) :
 P.keyLits 64 t (l.map fun x=>Value.int k x)=some (l.map fun x=>Lit.int k x):=by
 unfold zqs at h
 split at h
 case h_2=>cases h
 rename_i fs hu
 simp only [Bool.and_eq_true,beq_iff_eq] at h
 obtain⟨⟨⟨⟨⟨⟨h1,h2⟩,h3⟩,h4⟩,_⟩,_⟩,_⟩:=h
 rw [List.all_eq_true] at h4
 have key : ∀ i,i < l.length → ∃ f,fs.toList[i]? = some f∧f.offset=i∧P.cellsOf f.type=1∧P.underlying f.type=some (.int k):=fun i hi=>by
  have:=h4 i (List.mem_range.2 hi)
  split at this
  case h_2=>cases this
  rename_i f hf
  simp only [Bool.and_eq_true,beq_iff_eq] at this
  obtain⟨⟨a,b⟩,c⟩:=this
  split at c
  case h_2=>cases c
  rename_i k' hk
  have hk':k'=k:=by simpa using c
  subst hk'
  exact⟨f,hf,a,b,hk⟩
 unfold Program.keyLits
 simp only [hu]
 rw [if_pos ⟨by rw [List.length_map,h2],h3⟩]
 have hm:=zgx (fun f=>P.keyLits 63 f.type (((l.map fun x=>Value.int k x).drop f.offset).take (P.cellsOf f.type))) (fun f=>Lit.int k (nth l f.offset)) fs.toList (fun f hf=>by
  obtain⟨i,hi,e⟩:=List.mem_iff_getElem.1 hf
  obtain⟨g,hg,a,b,c⟩:=key i (by omega)
  rw [List.getElem?_eq_getElem hi,e] at hg
  cases hg
  have hi':i < l.length:=by omega
  have e1:((l.map fun x=>Value.int k x).drop i).take 1=[Value.int k (nth l i)]:=by
   rw [List.take_one]
   simp [nth,hi']
  simp only [a,b,e1]
  unfold Program.keyLits
  have hx:(Lit.int k (nth l i)).wf=true:=hw _ (zS hi')
  simp only [c]
  rw [if_pos ⟨trivial,hx⟩])
 rw [hm]
 congr 1
 refine List.ext_getElem? fun i => ?_
 by_cases hi:i < l.length
 · obtain⟨f,hf,a,_,_⟩:=key i hi
   rw [List.getElem?_map,hf,List.getElem?_map,Option.map_some,a]
   simp [hi,nth]
 · rw [List.getElem?_eq_none (by rw [List.length_map];omega),List.getElem?_eq_none (by rw [List.length_map];omega)]
theorem ztX {P:Program} {t:TypeId} {k:IntKind} (a b:List Int) (ha : ∀ x∈a,(Lit.int k x).wf=true) (hb : ∀ x∈b,(Lit.int k x).wf=true) (h:zqs P t k a.length=true) (hl:b.length=a.length) :
 zcz P t (a.map fun x=>PV.s (.int k x)) (b.map fun x=>PV.s (.int k x))=some (decide (a=b)):=by
 have hb':zqs P t k b.length=true:=by rw [hl];exact h
 have h2:=h
 unfold zqs at h2
 split at h2
 case h_2=>cases h2
 simp only [Bool.and_eq_true,Bool.not_eq_true'] at h2
 obtain⟨⟨⟨_,h5⟩,h6⟩,h7⟩:=h2
 unfold zcz
 rw [zdt,zdt,if_pos (by simp [h5,h6,h7])]
 simp only [zgy a ha h,zgy b hb hb',Option.some.injEq,decide_eq_decide]
 constructor
 · intro e
   refine zdQ hl.symm fun i hi' => ?_
   have:=congrArg (fun l:List Lit=>l[i]?) e
   simp only [List.getElem?_map,zfd hi',zfd (show i < b.length by omega),Option.map_some,Option.some.injEq,Lit.int.injEq,true_and] at this
   exact this
 · intro e;rw [e]
theorem zwP:zqs Tryd.prog 24 .i64 4=true:=by kernel_rfl
theorem zwQ {x:Int} (h : -9223372036854775808≤x∧x≤9223372036854775807):(Lit.int .i64 x).wf=true:=by
 simp only [Lit.wf,Bool.and_eq_true,decide_eq_true_eq]
 exact⟨by show (-9223372036854775808:Int)≤_;omega,by show _≤(9223372036854775807:Int);omega⟩
theorem neR {a b:Rdg} (ha:vR a) (hb:vR b):zo Tryd.prog .neq 24 (.p (zv a)) (.p (zv b))=some (.p (bo (!decide (a=b)))):=by
 have w : ∀ r,vR r → ∀ x∈([r.who,r.whn,r.knd,r.val]:List Int),(Lit.int .i64 x).wf=true:=fun r hr x hx=>by
  obtain⟨⟨a1,a2⟩,⟨b1,b2⟩,⟨c1,c2⟩,⟨d1,d2⟩⟩:=hr
  simp only [List.mem_cons,List.not_mem_nil,or_false] at hx
  rcases hx with rfl | rfl | rfl | rfl<;>exact zwQ ⟨by omega,by omega⟩
 have h:=ztX (P:=Tryd.prog) (t:=24) (k := .i64) [a.who,a.whn,a.knd,a.val] [b.who,b.whn,b.knd,b.val] (w a ha) (w b hb) zwP rfl
 have f2 : ∀ P t xs ys,zo P .neq t (.p (.agg xs)) (.p (.agg ys))=(zcz P t xs ys).map fun r => .p (.s (.bool !r)):=fun _ _ _ _=>rfl
 show zo _ _ _ (.p (.agg (rdL a))) (.p (.agg (rdL b)))=_
 rw [f2]
 have e:([a.who,a.whn,a.knd,a.val]=[b.who,b.whn,b.knd,b.val]) ↔ a=b:=by
  obtain⟨a1,a2,a3,a4⟩:=a
  obtain⟨b1,b2,b3,b4⟩:=b
  simp
 have h':zcz Tryd.prog 24 (rdL a) (rdL b)=some (decide (a=b)):=by
  rw [←decide_eq_decide.2 e];exact h
 rw [h']
 rfl
abbrev T3:=BitVec 8 × BitVec 8 × BitVec 8
def tri (t:T3):PV := .agg [b8 t.1,b8 t.2.1,b8 t.2.2]
def rdt (t:T3):Rdg:=rd3 t.1 t.2.1 t.2.2
def rds (l:List T3):List Rdg:=(l.take 20).map rdt
theorem zot {l:List T3} : ∀ r∈rds l,vR r:=fun r hr=>by
 simp only [rds,List.mem_map] at hr
 obtain⟨t,_,rfl⟩:=hr
 exact zvD
theorem zei {l:List T3}:(rds l).length=min 20 l.length:=by simp [rds]
section walks
variable {G:Globs}
set_option maxHeartbeats 4000000 in
theorem zeU (a b:List Rdg) (ha : ∀ r∈a,vR r) (hb : ∀ r∈b,vR r) (hl:a.length≤100000000) (H:Hp) (R:AV → Hp → Prop) (h:R (.p (bo (decide (a=b)))) H):ACall Tryd.prog G 25 [.p (.sl false 4 (pl zv a)),.p (.sl false 4 (pl zv b))] H R:=by
 have hag : ∀ r,(zv r).aggOf 0 4=zv r:=fun _=>rfl
 have bad:a≠b → R (.p (bo false)) H:=fun e=>by rw [decide_eq_false e] at h;exact h
 refine ACall.of_run (raw:=[]) Tryd.func25 rfl Tryd.ntmps25 (by simp) fun hbel => ?_
 refine .q ?_;refine .text ?_;simp (disch:=first|exact za|fail) only [go_sem,seval,-List.reduceReplicate]
 refine .q ?_;refine .text ?_;simp (disch:=first|exact za|fail) only [go_sem,seval,-List.reduceReplicate]
 by_cases c:a.length=b.length
 rotate_left
 · have d:((a.length:Int) != (b.length:Int))=true:=bne_iff_ne.2 (by omega)
   refine .q ?_;refine .ifT (by simp (disch:=first|exact za|fail) only [go_sem,seval,-List.reduceReplicate,d]) ?_
   refine .q ?_;refine .text ?_;simp (disch:=first|exact za|fail) only [go_sem,seval,-List.reduceReplicate]
   refine .q ?_;refine .rt Tryd.func25 (by rw [Tryd.results25]) (hR := ?_);simp (disch:=first|exact za|fail) only [go_sem,seval,-List.reduceReplicate]
   exact bad fun e=>c (by rw [e])
 have d:((a.length:Int) != (b.length:Int))=false:=by simp [c]
 refine .q ?_;refine .ifF (by simp (disch:=first|exact za|fail) only [go_sem,seval,-List.reduceReplicate,d]) ?_
 refine .skip ?_
 refine .q ?_;refine .text ?_;simp (disch:=first|exact za|fail) only [go_sem,seval,-List.reduceReplicate]
 refine .q ?_;refine .loopE [0,1] (fun i=>[(5,.p (i64 i))]) (fun i=>[]) (fun i => ∀ j,j < i → nth a j=nth b j) (0) (a.length) (by omega) ?_ (by first | rfl | (simp (disch:=first|exact za|fail) only [go_sem,seval,-List.reduceReplicate]<;>rfl)) ?_ ?_ ?_
 · simp (disch:=first|exact za|fail) only [go_sem,seval,-List.reduceReplicate]<;>(repeat' (first | rfl | refine And.intro ?_ ?_))
 rotate_left 1
 intro env E hQ;simp (disch:=first|exact za|fail) only [go_sem,seval,-List.reduceReplicate] at E
 rotate_left 1
 intro i env hi0 hi E hQ ihE;simp (disch:=first|exact za|fail) only [go_sem,seval,-List.reduceReplicate] at E
 rotate_left 1
 · intro j hj;omega
 · refine .q ?_;refine .text ?_;simp (disch:=first|exact za|fail) only [go_sem,seval,-List.reduceReplicate,E]
   refine .q ?_;refine .ifF (by simp (disch:=first|exact za|fail) only [go_sem,seval,-List.reduceReplicate]) ?_
   refine .q ?_;refine .text ?_;simp (disch:=first|exact za|fail) only [go_sem,seval,-List.reduceReplicate,E]
   refine .q ?_;refine .rt Tryd.func25 (by rw [Tryd.results25]) (hx:=by simp (disch:=first|exact za|fail) only [go_sem,seval,-List.reduceReplicate,E];rfl) (hR := ?_);simp (disch:=first|exact za|fail) only [go_sem,seval,-List.reduceReplicate,E]
   rw [decide_eq_true (zdQ c hQ)] at h
   exact h
 · have hbi:i < b.length:=by omega
   have e:=neR (ha _ (zS hi)) (hb _ (zS hbi))
   refine .q ?_;refine .text ?_;simp (disch:=first|exact za|fail) only [go_sem,seval,-List.reduceReplicate,E]
   refine .q ?_;refine .ifT (by simp (disch:=first|exact za|fail) only [go_sem,seval,-List.reduceReplicate]) ?_
   by_cases q:nth a i=nth b i
   · have d:(!decide (nth a i=nth b i))=false:=by simp [q]
     rw [d] at e
     refine .q ?_;refine .open [] follows (by kernel_rfl) ?_;simp (disch:=first|exact za|fail) only [go_sem,seval,-List.reduceReplicate,E,hag,e]
     refine .q ?_;refine .ifF (by simp (disch:=first|exact za|fail) only [go_sem,seval,-List.reduceReplicate]) ?_
     refine .skip ?_
     refine .q ?_;refine .text ?_;simp (disch:=first|exact za|fail) only [go_sem,seval,-List.reduceReplicate,E]
     first | (refine ihE _ _ ?_ (zm hQ q) ?_) | (refine .z rfl ?_;refine ihE _ _ ?_ (zm hQ q) ?_) | (refine .z rfl ?_;refine .z rfl ?_;refine ihE _ _ ?_ (zm hQ q) ?_) | (refine .z rfl ?_;refine .z rfl ?_;refine .z rfl ?_;refine ihE _ _ ?_ (zm hQ q) ?_)
     · simp (disch:=first|exact za|fail) only [go_sem,seval,-List.reduceReplicate,E]<;>(repeat' (first | rfl | refine And.intro ?_ ?_))
     · first | rfl | (simp (disch:=first|exact za|fail) only [go_sem,seval,-List.reduceReplicate,E]<;>(try rfl))
   · have d:(!decide (nth a i=nth b i))=true:=by simp [q]
     rw [d] at e
     refine .q ?_;refine .open [] follows (by kernel_rfl) ?_;simp (disch:=first|exact za|fail) only [go_sem,seval,-List.reduceReplicate,E,hag,e]
     refine .q ?_;refine .ifT (by simp (disch:=first|exact za|fail) only [go_sem,seval,-List.reduceReplicate]) ?_
     refine .q ?_;refine .text ?_;simp (disch:=first|exact za|fail) only [go_sem,seval,-List.reduceReplicate,E]
     refine .q ?_;refine .rt Tryd.func25 (by rw [Tryd.results25]) (hx:=by simp (disch:=first|exact za|fail) only [go_sem,seval,-List.reduceReplicate,E];rfl) (hR := ?_);simp (disch:=first|exact za|fail) only [go_sem,seval,-List.reduceReplicate,E]
     exact bad fun x=>q (by rw [x])
set_option maxHeartbeats 4000000 in
theorem zci (a b:Strm) (ha : ∀ r∈a.l,vR r) (hb : ∀ r∈b.l,vR r) (hl:a.l.length≤100000000) (hg:a.gone.length≤100000000) (H:Hp) (R:AV → Hp → Prop) (h:R (.p (bo (decide (a=b)))) H):ACall Tryd.prog G 17 [.p (yt a),.p (yt b)] H R:=by
 have hag : ∀ r,(zv r).aggOf 0 4=zv r:=fun _=>rfl
 have bad:a≠b → R (.p (bo false)) H:=fun e=>by rw [decide_eq_false e] at h;exact h
 refine ACall.of_run (raw:=[]) Tryd.func17 rfl Tryd.ntmps17 (by simp) fun hbel => ?_
 refine .q ?_;refine .text ?_;simp (disch:=first|exact za|fail) only [go_sem,seval,-List.reduceReplicate]
 by_cases c1:a.l.length=b.l.length
 rotate_left
 · have d1:((a.l.length:Int) != (b.l.length:Int))=true:=bne_iff_ne.2 (by omega)
   refine .q ?_;refine .text ?_;simp (disch:=first|exact za|fail) only [go_sem,seval,-List.reduceReplicate,d1]
   refine .q ?_;refine .ifT (by simp (disch:=first|exact za|fail) only [go_sem,seval,-List.reduceReplicate]) ?_
   refine .q ?_;refine .text ?_;simp (disch:=first|exact za|fail) only [go_sem,seval,-List.reduceReplicate]
   refine .q ?_;refine .rt Tryd.func17 (by rw [Tryd.results17]) (hR := ?_);simp (disch:=first|exact za|fail) only [go_sem,seval,-List.reduceReplicate]
   exact bad fun e=>c1 (by rw [e])
 have d1:((a.l.length:Int) != (b.l.length:Int))=false:=by simp [c1]
 by_cases c2:a.gone.length=b.gone.length
 rotate_left
 · have d2:((a.gone.length:Int) != (b.gone.length:Int))=true:=bne_iff_ne.2 (by omega)
   refine .q ?_;refine .text ?_;simp (disch:=first|exact za|fail) only [go_sem,seval,-List.reduceReplicate,d1,d2]
   refine .q ?_;refine .ifT (by simp (disch:=first|exact za|fail) only [go_sem,seval,-List.reduceReplicate]) ?_
   refine .q ?_;refine .text ?_;simp (disch:=first|exact za|fail) only [go_sem,seval,-List.reduceReplicate]
   refine .q ?_;refine .rt Tryd.func17 (by rw [Tryd.results17]) (hR := ?_);simp (disch:=first|exact za|fail) only [go_sem,seval,-List.reduceReplicate]
   exact bad fun e=>c2 (by rw [e])
 have d2:((a.gone.length:Int) != (b.gone.length:Int))=false:=by simp [c2]
 refine .q ?_;refine .text ?_;simp (disch:=first|exact za|fail) only [go_sem,seval,-List.reduceReplicate,d1,d2]
 refine .q ?_;refine .ifF (by simp (disch:=first|exact za|fail) only [go_sem,seval,-List.reduceReplicate]) ?_
 refine .skip ?_
 refine .q ?_;refine .text ?_;simp (disch:=first|exact za|fail) only [go_sem,seval,-List.reduceReplicate]
 refine .q ?_;refine .loopE [2,3] (fun i=>[(5,.p (i64 i))]) (fun i=>[]) (fun i => ∀ j,j < i → nth a.l j=nth b.l j) (0) (a.l.length) (by omega) ?_ (by first | rfl | (simp (disch:=first|exact za|fail) only [go_sem,seval,-List.reduceReplicate]<;>rfl)) ?_ ?_ ?_
 · simp (disch:=first|exact za|fail) only [go_sem,seval,-List.reduceReplicate]<;>(repeat' (first | rfl | refine And.intro ?_ ?_))
 rotate_left 1
 intro env E hQ;simp (disch:=first|exact za|fail) only [go_sem,seval,-List.reduceReplicate] at E
 rotate_left 1
 intro i env hi0 hi E hQ ihE;simp (disch:=first|exact za|fail) only [go_sem,seval,-List.reduceReplicate] at E
 rotate_left 1
 · intro j hj;omega
 rotate_left
 · have hbi:i < b.l.length:=by omega
   have e:=neR (ha _ (zS hi)) (hb _ (zS hbi))
   refine .q ?_;refine .text ?_;simp (disch:=first|exact za|fail) only [go_sem,seval,-List.reduceReplicate,E]
   refine .q ?_;refine .ifT (by simp (disch:=first|exact za|fail) only [go_sem,seval,-List.reduceReplicate]) ?_
   by_cases q:nth a.l i=nth b.l i
   · have d:(!decide (nth a.l i=nth b.l i))=false:=by simp [q]
     rw [d] at e
     refine .q ?_;refine .open [] follows (by kernel_rfl) ?_;simp (disch:=first|exact za|fail) only [go_sem,seval,-List.reduceReplicate,E,hag,e]
     refine .q ?_;refine .ifF (by simp (disch:=first|exact za|fail) only [go_sem,seval,-List.reduceReplicate]) ?_
     refine .skip ?_
     refine .q ?_;refine .text ?_;simp (disch:=first|exact za|fail) only [go_sem,seval,-List.reduceReplicate,E]
     first | (refine ihE _ _ ?_ (zm hQ q) ?_) | (refine .z rfl ?_;refine ihE _ _ ?_ (zm hQ q) ?_) | (refine .z rfl ?_;refine .z rfl ?_;refine ihE _ _ ?_ (zm hQ q) ?_) | (refine .z rfl ?_;refine .z rfl ?_;refine .z rfl ?_;refine ihE _ _ ?_ (zm hQ q) ?_)
     · simp (disch:=first|exact za|fail) only [go_sem,seval,-List.reduceReplicate,E]<;>(repeat' (first | rfl | refine And.intro ?_ ?_))
     · first | rfl | (simp (disch:=first|exact za|fail) only [go_sem,seval,-List.reduceReplicate,E]<;>(try rfl))
   · have d:(!decide (nth a.l i=nth b.l i))=true:=by simp [q]
     rw [d] at e
     refine .q ?_;refine .open [] follows (by kernel_rfl) ?_;simp (disch:=first|exact za|fail) only [go_sem,seval,-List.reduceReplicate,E,hag,e]
     refine .q ?_;refine .ifT (by simp (disch:=first|exact za|fail) only [go_sem,seval,-List.reduceReplicate]) ?_
     refine .q ?_;refine .text ?_;simp (disch:=first|exact za|fail) only [go_sem,seval,-List.reduceReplicate,E]
     refine .q ?_;refine .rt Tryd.func17 (by rw [Tryd.results17]) (hx:=by simp (disch:=first|exact za|fail) only [go_sem,seval,-List.reduceReplicate,E];rfl) (hR := ?_);simp (disch:=first|exact za|fail) only [go_sem,seval,-List.reduceReplicate,E]
     exact bad fun x=>q (by rw [x])
 · have el:a.l=b.l:=zdQ c1 hQ
   refine .q ?_;refine .text ?_;simp (disch:=first|exact za|fail) only [go_sem,seval,-List.reduceReplicate,E]
   refine .q ?_;refine .ifF (by simp (disch:=first|exact za|fail) only [go_sem,seval,-List.reduceReplicate]) ?_
   refine .q ?_;refine .text ?_;simp (disch:=first|exact za|fail) only [go_sem,seval,-List.reduceReplicate,E]
   refine .q ?_;refine .loopE [2,3] (fun j=>[(6,.p (i64 j))]) (fun j=>[]) (fun j => ∀ i,i < j → nth a.gone i=nth b.gone i) (0) (a.gone.length) (by omega) ?_ (by first | rfl | (simp (disch:=first|exact za|fail) only [go_sem,seval,-List.reduceReplicate,E]<;>rfl)) ?_ ?_ ?_
   · simp (disch:=first|exact za|fail) only [go_sem,seval,-List.reduceReplicate,E]<;>(repeat' (first | rfl | refine And.intro ?_ ?_))
   rotate_left 1
   intro env F hQ;simp (disch:=first|exact za|fail) only [go_sem,seval,-List.reduceReplicate,E] at F
   rotate_left 1
   intro j env hj0 hj F hQ ihF;simp (disch:=first|exact za|fail) only [go_sem,seval,-List.reduceReplicate,E] at F
   rotate_left 1
   · intro j hj;omega
   · have eg:a.gone=b.gone:=zdQ c2 hQ
     have eab:a=b:=by cases a;cases b;simp only at el eg;rw [el,eg]
     refine .q ?_;refine .text ?_;simp (disch:=first|exact za|fail) only [go_sem,seval,-List.reduceReplicate,F]
     refine .q ?_;refine .ifF (by simp (disch:=first|exact za|fail) only [go_sem,seval,-List.reduceReplicate]) ?_
     refine .q ?_;refine .text ?_;simp (disch:=first|exact za|fail) only [go_sem,seval,-List.reduceReplicate,F]
     refine .q ?_;refine .rt Tryd.func17 (by rw [Tryd.results17]) (hx:=by simp (disch:=first|exact za|fail) only [go_sem,seval,-List.reduceReplicate,F,E];rfl) (hR := ?_);simp (disch:=first|exact za|fail) only [go_sem,seval,-List.reduceReplicate,F,E]
     rw [decide_eq_true eab] at h
     exact h
   · have hbj:j < b.gone.length:=by omega
     have hbo:isBool Tryd.prog 4=true:=by kernel_rfl
     refine .q ?_;refine .text ?_;simp (disch:=first|exact za|fail) only [go_sem,seval,-List.reduceReplicate,F]
     refine .q ?_;refine .ifT (by simp (disch:=first|exact za|fail) only [go_sem,seval,-List.reduceReplicate]) ?_
     by_cases q:nth a.gone j=nth b.gone j
     · have d:(!(nth a.gone j == nth b.gone j))=false:=by simp [q]
       refine .q ?_;refine .open [] follows (by kernel_rfl) ?_;simp (disch:=first|exact za|fail) only [go_sem,seval,-List.reduceReplicate,F,E,d]
       refine .q ?_;refine .ifF (by simp (disch:=first|exact za|fail) only [go_sem,seval,-List.reduceReplicate]) ?_
       refine .skip ?_
       refine .q ?_;refine .text ?_;simp (disch:=first|exact za|fail) only [go_sem,seval,-List.reduceReplicate,F]
       first | (refine ihF _ _ ?_ (zm hQ q) ?_) | (refine .z rfl ?_;refine ihF _ _ ?_ (zm hQ q) ?_) | (refine .z rfl ?_;refine .z rfl ?_;refine ihF _ _ ?_ (zm hQ q) ?_) | (refine .z rfl ?_;refine .z rfl ?_;refine .z rfl ?_;refine ihF _ _ ?_ (zm hQ q) ?_)
       · simp (disch:=first|exact za|fail) only [go_sem,seval,-List.reduceReplicate,F,E]<;>(repeat' (first | rfl | refine And.intro ?_ ?_))
       · first | rfl | (simp (disch:=first|exact za|fail) only [go_sem,seval,-List.reduceReplicate,F,E]<;>(try rfl))
     · have d:(!(nth a.gone j == nth b.gone j))=true:=by simp [q]
       refine .q ?_;refine .open [] follows (by kernel_rfl) ?_;simp (disch:=first|exact za|fail) only [go_sem,seval,-List.reduceReplicate,F,E,d]
       refine .q ?_;refine .ifT (by simp (disch:=first|exact za|fail) only [go_sem,seval,-List.reduceReplicate]) ?_
       refine .q ?_;refine .text ?_;simp (disch:=first|exact za|fail) only [go_sem,seval,-List.reduceReplicate,F]
       refine .q ?_;refine .rt Tryd.func17 (by rw [Tryd.results17]) (hx:=by simp (disch:=first|exact za|fail) only [go_sem,seval,-List.reduceReplicate,F,E];rfl) (hR := ?_);simp (disch:=first|exact za|fail) only [go_sem,seval,-List.reduceReplicate,F,E]
       exact bad fun x=>q (by rw [x])
set_option maxHeartbeats 4000000 in
theorem zcR (l:List T3) (hl:l.length≤9223372036854775807) (H:Hp) (R:AV → Hp → Prop) (h:R (.p (.sl false 4 (pl zv (rds l)))) H):ACall Tryd.prog G 31 [.p (.sl false 3 (pl tri l))] H R:=by
 have r0:pl zv ((l.take 0).map rdt)=[]:=rfl
 have hag : ∀ r,(tri r).aggOf 0 3=tri r:=fun _=>rfl
 have hlen3 : ∀ y∈pl tri l,y.cells.length=3:=fun y hy=>by
  simp only [pl,List.mem_map] at hy
  obtain⟨x,_,rfl⟩:=hy
  rfl
 refine ACall.of_run (raw:=[]) Tryd.func31 rfl Tryd.ntmps31 (by simp) fun hbel => ?_
 refine .q ?_;refine .text ?_;simp (disch:=first|exact za|fail) only [go_sem,seval,-List.reduceReplicate]
 refine .q ?_;refine .text ?_;simp (disch:=first|exact za|fail) only [go_sem,seval,-List.reduceReplicate]
 refine .q ?_;refine .own 3 (by simp (disch:=first|exact za|fail) only [go_sem,seval,-List.reduceReplicate];rfl) ?_
 refine .q ?_;refine .text ?_;simp (disch:=first|exact za|fail) only [go_sem,seval,-List.reduceReplicate]
 refine .q ?_;refine .loopE [0] (fun i=>[(3,.sl H.n i 4 (pl zv ((l.take i).map rdt))),(4,.p (i64 i))]) (fun i=>[(H.n,.tail i)]) (fun i=>True) (0) (min 20 l.length) (by omega) ?_ (by first | rfl | (simp (disch:=first|exact za|fail) only [go_sem,seval,-List.reduceReplicate,r0]<;>rfl)) ?_ ?_ ?_
 · simp (disch:=first|exact za|fail) only [go_sem,seval,-List.reduceReplicate,r0]<;>(repeat' (first | rfl | refine And.intro ?_ ?_))
 · exact trivial
 intro env E hQ;simp (disch:=first|exact za|fail) only [go_sem,seval,-List.reduceReplicate,r0] at E
 rotate_left 1
 intro i env hi0 hi E hQ ihE;simp (disch:=first|exact za|fail) only [go_sem,seval,-List.reduceReplicate,r0] at E
 rotate_left 1
 · have hall:(l.take (min 20 l.length)).map rdt=rds l:=by
    rw [rds]
    congr 1
    by_cases c:20≤l.length
    · rw [Nat.min_eq_left c]
    · rw [Nat.min_eq_right (by omega),List.take_length,List.take_of_length_le (by omega)]
   by_cases c1:l.length≤20
   · have hall':l.map rdt=rds l:=by rw [rds,List.take_of_length_le c1]
     have d1:decide (((min 20 l.length:Nat):Int) < (l.length:Int))=false:=decide_eq_false (by omega)
     refine .q ?_;refine .text ?_;simp (disch:=first|exact za|fail) only [go_sem,seval,-List.reduceReplicate,E,zc,ze,d1]
     refine .q ?_;refine .ifF (by simp (disch:=first|exact za|fail) only [go_sem,seval,-List.reduceReplicate]) ?_
     refine .q ?_;refine .text ?_;simp (disch:=first|exact za|fail) only [go_sem,seval,-List.reduceReplicate,E,zc,ze,hall,hall']
     refine .q ?_;refine .rt Tryd.func31 (by rw [Tryd.results31]) (hx:=by simp (disch:=first|exact za|fail) only [go_sem,seval,-List.reduceReplicate,E,hall];rfl) (hR := ?_);simp (disch:=first|exact za|fail) only [go_sem,seval,-List.reduceReplicate,E,hall]
     exact h
   · have d1:decide (((min 20 l.length:Nat):Int) < (l.length:Int))=true:=decide_eq_true (by omega)
     have d2:decide (((min 20 l.length:Nat):Int) < 20)=false:=decide_eq_false (by omega)
     refine .q ?_;refine .text ?_;simp (disch:=first|exact za|fail) only [go_sem,seval,-List.reduceReplicate,E,zc,ze,d1,d2]
     refine .q ?_;refine .ifF (by simp (disch:=first|exact za|fail) only [go_sem,seval,-List.reduceReplicate]) ?_
     refine .q ?_;refine .text ?_;simp (disch:=first|exact za|fail) only [go_sem,seval,-List.reduceReplicate,E,zc,ze,hall]
     refine .q ?_;refine .rt Tryd.func31 (by rw [Tryd.results31]) (hx:=by simp (disch:=first|exact za|fail) only [go_sem,seval,-List.reduceReplicate,E,hall];rfl) (hR := ?_);simp (disch:=first|exact za|fail) only [go_sem,seval,-List.reduceReplicate,E,hall]
     exact h
 · have hil:i < l.length:=by omega
   have d1:decide ((i:Int) < (l.length:Int))=true:=decide_eq_true (by omega)
   have d2:decide ((i:Int) < 20)=true:=decide_eq_true (by omega)
   have htw:(tri (nth l i)).weak = .agg [b8 (nth l i).1,b8 (nth l i).2.1,b8 (nth l i).2.2]:=rfl
   have hs:pl zv ((l.take i).map rdt)++[zv (rdt (nth l i))]=pl zv ((l.take (i+1)).map rdt):=by
    rw [←Go.AL.take_one hil];simp [pl]
   have hln:(pl zv ((l.take i).map rdt)).length≤20:=by simp [pl];omega
   have hrw:(zv (rdt (nth l i))).weak=zv (rdt (nth l i)):=rfl
   refine .q ?_;refine .text ?_;simp (disch:=first|exact za|fail) only [go_sem,seval,-List.reduceReplicate,E,zc,ze,d1,d2]
   refine .q ?_;refine .ifT (by simp (disch:=first|exact za|fail) only [go_sem,seval,-List.reduceReplicate]) ?_
   have htl : ∀ t,(tri t).cells.length=3:=fun _=>rfl
   have hrd : ∀ t:T3,rd3 t.1 t.2.1 t.2.2=rdt t:=fun _=>rfl
   have hal:((pl zv [rdt (nth l i)]).all fun y=>y.cells.length == 4)=true:=zdD
   have hon : ∀ r,[zv r]=pl zv [r]:=fun _=>rfl
   have hs2:pl zv ((l.take i).map rdt)++pl zv [rdt (nth l i)]=pl zv ((l.take (i+1)).map rdt):=hs
   refine .q ?_;refine .text ?_;simp (disch:=first|exact za|fail) only [go_sem,seval,-List.reduceReplicate,E,zc,ze,hag,htw,htl]
   refine CallK.of (fun R h=>zdi _ _ _ _ R h) ?_;simp (disch:=first|exact za|fail) only [go_sem,seval,-List.reduceReplicate,E,zc,ze,hrd,hal,hon,yP,hs2,hln]
   refine .q ?_;refine .text ?_;simp (disch:=first|exact za|fail) only [go_sem,seval,-List.reduceReplicate,E,zc,ze]
   first | (refine ihE _ _ ?_ trivial ?_) | (refine .z rfl ?_;refine ihE _ _ ?_ trivial ?_) | (refine .z rfl ?_;refine .z rfl ?_;refine ihE _ _ ?_ trivial ?_) | (refine .z rfl ?_;refine .z rfl ?_;refine .z rfl ?_;refine ihE _ _ ?_ trivial ?_)
   · simp (disch:=first|exact za|fail) only [go_sem,seval,-List.reduceReplicate,E,zc,ze,yP,hs2]<;>(repeat' (first | rfl | refine And.intro ?_ ?_))
   · first | rfl | (simp (disch:=first|exact za|fail) only [go_sem,seval,-List.reduceReplicate,E,zc,ze,yP,hs2]<;>(try rfl))
end walks
end Go.Proofs.YtdpfkanfahchjaaDoor

/-
  The log of readings: operations on streams and on stores.
-/
namespace Go.Proofs.YtdpfkanfahchjaaDoor
open Go Go.AL

structure Op where
 k:BitVec 8
 l:List T3
 a:BitVec 16
def opv (x:Op):PV := .agg [b8 x.k,.sl false 3 (pl tri x.l),w16 x.a]
theorem ztY {x:Op}:zh (.p (opv x))=some [.p (b8 x.k),.p (.sl false 3 (pl tri x.l)),.p (w16 x.a)]:=rfl
def chg (s:Strm) (x:Op):Strm × Bool :=
 if x.k % 4#8=1#8 then
  if s.l.length=0 then (s,false)
  else if (yy s (x.a.toNat % s.l.length:Nat)).2≠0 then (s,false) else ((yy s (x.a.toNat % s.l.length:Nat)).1,true)
 else (⟨s.l++rds x.l,s.gone++List.replicate (rds x.l).length false⟩,decide (0 < (rds x.l).length))
section walks
variable {G:Globs}
set_option maxHeartbeats 4000000 in
set_option maxRecDepth 20000 in
theorem zld (s:Strm) (x:Op) (hs:SOk s) (hl:s.l.length≤60000) (hx:x.l.length≤9223372036854775807) (H:Hp) (R:AV → Hp → Prop) (h:R (.tup [.p (yt (chg s x).1),.p (bo (chg s x).2)]) H) :
 ACall Tryd.prog G 58 [.p (yt s),.p (opv x)] H R:=by
 unfold chg at h
 have hsw : ∀ s,(yt s).weak=yt s:=fun _=>rfl
 have hg:=hs.1
 have rr : ∀ y:BitVec 8,zo Tryd.prog .rem 5 (.p (b8 y)) (.p (b8 4#8))=some (.p (b8 (y % 4#8))):=fun y=>zay _ _ _ _ (by decide)
 refine ACall.of_run (raw:=[]) Tryd.func58 rfl Tryd.ntmps58 (by simp) fun hbel => ?_
 refine .q ?_;refine .text ?_;simp (disch:=first|exact za|fail) only [go_sem,seval,-List.reduceReplicate,ztY]
 by_cases k1:x.k % 4#8=1#8
 · have dk:(x.k % 4#8 == 1#8)=true:=by simpa using k1
   rw [if_pos k1] at h
   refine .q ?_;refine .text ?_;simp (disch:=first|exact za|fail) only [go_sem,seval,-List.reduceReplicate,rr,dk]
   refine .q ?_;refine .ifT (by simp (disch:=first|exact za|fail) only [go_sem,seval,-List.reduceReplicate]) ?_
   refine .q ?_;refine .text ?_;simp (disch:=first|exact za|fail) only [go_sem,seval,-List.reduceReplicate]
   by_cases c1:s.l.length=0
   · have d1:((s.l.length:Int) == 0)=true:=beq_iff_eq.2 (by omega)
     rw [if_pos c1] at h
     refine .q ?_;refine .ifT (by simp (disch:=first|exact za|fail) only [go_sem,seval,-List.reduceReplicate,d1]) ?_
     refine .q ?_;refine .text ?_;simp (disch:=first|exact za|fail) only [go_sem,seval,-List.reduceReplicate]
     refine .q ?_;refine .rt Tryd.func58 (by rw [Tryd.results58]) (hR := ?_);simp (disch:=first|exact za|fail) only [go_sem,seval,-List.reduceReplicate]
     exact h
   have d1:((s.l.length:Int) == 0)=false:=beq_eq_false_iff_ne.2 (by omega)
   rw [if_neg c1] at h
   refine .q ?_;refine .ifF (by simp (disch:=first|exact za|fail) only [go_sem,seval,-List.reduceReplicate,d1]) ?_
   refine .skip ?_
   obtain⟨n,hn⟩ : ∃ n,n=x.a.toNat % s.l.length:=⟨_,rfl⟩
   have hmod:(x.a.toNat:Int) % (s.l.length:Int)=(n:Int):=by rw [hn];exact (Int.natCast_emod _ _).symm
   have hnl:n < s.l.length:=by rw [hn];exact Nat.mod_lt _ (by omega)
   obtain⟨V,hV⟩ : ∃ V,V=yy s (n:Nat):=⟨_,rfl⟩
   rw [←hn,←hV] at h
   have hret : ∀ (B:Hp) (R:AV → Hp → Prop),R (.tup [.p (yt V.1),.p (i64 V.2)]) B → ACall Tryd.prog G 33 [.p (yt s),.p (i64 (n:Nat))] B R:=fun B R h=>zdh s (n:Nat) hs.2 hs.1 B R (by rw [hV] at h;exact h)
   obtain⟨C,hC⟩ : ∃ C,C=(((H.new (.cells [.p (.sl false 4 (pl zv s.l)),.p (.sl false 1 (pl bo s.gone))])).new (.cells [.p (b8 x.k),.p (.sl false 3 (pl tri x.l)),.p (w16 x.a)])).new (.cells [.p (.sl true 4 []),.p (.sl true 1 [])])).new (.cells [.p (.sl false 4 (pl zv V.1.l)),.p (.sl false 1 (pl bo V.1.gone))]):=⟨_,rfl⟩
   refine .q ?_;refine .cutH [2,4] [(6,.ptr (H.n+3) 0),(7,.p (i64 V.2))] (C) (fun ihF => ?_) (fun env F => ?_)
   rotate_left 1
   simp (disch:=first|exact za|fail) only [go_sem,seval,-List.reduceReplicate] at F
   rotate_left 1
   · refine .openTr (.one 0 (.one 1 (.one 2 (.one 3 (.one 4 (.one 5 (.one 6 (.fork 7 12 (.fork 8 12 (.lin [9,10,11,12,13,14]) (.lin [8,9,10,11,13,14])) (.lin [7,8,9,10,11,13,14]))))))))) [12,13] follows (by kernel_rfl) ?_
     refine zl (.p (yt s)) rfl rfl (by simp (disch:=first|exact za|fail) only [go_sem,seval,-List.reduceReplicate]<;>rfl) rfl ?_
     refine zl (.ptr (H.n+1) 2) rfl rfl (by simp (disch:=first|exact za|fail) only [go_sem,seval,-List.reduceReplicate]<;>rfl) rfl ?_
     refine zl (.p (w16 x.a)) rfl rfl (by simp (disch:=first|exact za|fail) only [go_sem,seval,-List.reduceReplicate]<;>rfl) rfl ?_
     refine zl (.p (i64 x.a.toNat)) rfl rfl (by simp (disch:=first|exact za|fail) only [go_sem,seval,-List.reduceReplicate]<;>rfl) rfl ?_
     refine zl (.ptr H.n 0) rfl rfl (by simp (disch:=first|exact za|fail) only [go_sem,seval,-List.reduceReplicate]<;>rfl) rfl ?_
     refine zl (.p (.sl false 4 (pl zv s.l))) rfl rfl (by simp (disch:=first|exact za|fail) only [go_sem,seval,-List.reduceReplicate]<;>rfl) rfl ?_
     refine zl (.p (i64 s.l.length)) rfl rfl (by simp (disch:=first|exact za|fail) only [go_sem,seval,-List.reduceReplicate]<;>rfl) rfl ?_
     refine And.intro (zl (.p (i64 (n:Nat))) rfl rfl (by simp (disch:=first|exact za|fail) only [go_sem,seval,-List.reduceReplicate,hmod]<;>rfl) rfl (And.intro (yA (.tup [.p (yt V.1),.p (i64 V.2)]) rfl rfl (by simp (disch:=first|exact za|fail) only [go_sem,seval,-List.reduceReplicate,hsw]<;>rfl) (by rfl) rfl (fun R h=>hret _ R h) ?_) ?_)) ?_
     · refine zA [3,4] (by kernel_rfl) ?_
       simp (disch:=first|exact za|fail) only [go_sem,seval,-List.reduceReplicate]
       first | (refine ihF _ _ ?_ ?_) | (refine .z rfl ?_;refine ihF _ _ ?_ ?_) | (refine .z rfl ?_;refine .z rfl ?_;refine ihF _ _ ?_ ?_) | (refine .z rfl ?_;refine .z rfl ?_;refine .z rfl ?_;refine ihF _ _ ?_ ?_)
       · simp (disch:=first|exact za|fail) only [go_sem,seval,-List.reduceReplicate]<;>(repeat' (first | rfl | refine And.intro ?_ ?_))
       · exact hC.symm
     · refine yc (.ptr (H.n+3) 0) rfl rfl (by simp (disch:=first|exact za|fail) only [go_sem,seval,-List.reduceReplicate]<;>rfl) rfl ?_
       refine zA [4] (by kernel_rfl) ?_
       simp (disch:=first|exact za|fail) only [go_sem,seval,-List.reduceReplicate,hsw]
       refine CallD.still (fun R h=>hret _ R h) ?_;simp (disch:=first|exact za|fail) only [go_sem,seval,-List.reduceReplicate,hsw]
       first | (refine ihF _ _ ?_ ?_) | (refine .z rfl ?_;refine ihF _ _ ?_ ?_) | (refine .z rfl ?_;refine .z rfl ?_;refine ihF _ _ ?_ ?_) | (refine .z rfl ?_;refine .z rfl ?_;refine .z rfl ?_;refine ihF _ _ ?_ ?_)
       · simp (disch:=first|exact za|fail) only [go_sem,seval,-List.reduceReplicate]<;>(repeat' (first | rfl | refine And.intro ?_ ?_))
       · exact hC.symm
     · refine yc (.ptr (H.n+3) 0) rfl rfl (by simp (disch:=first|exact za|fail) only [go_sem,seval,-List.reduceReplicate]<;>rfl) rfl ?_
       refine zA [5] (by kernel_rfl) ?_
       simp (disch:=first|exact za|fail) only [go_sem,seval,-List.reduceReplicate,hsw,hmod]
       refine CallD.still (fun R h=>hret _ R h) ?_;simp (disch:=first|exact za|fail) only [go_sem,seval,-List.reduceReplicate,hsw]
       first | (refine ihF _ _ ?_ ?_) | (refine .z rfl ?_;refine ihF _ _ ?_ ?_) | (refine .z rfl ?_;refine .z rfl ?_;refine ihF _ _ ?_ ?_) | (refine .z rfl ?_;refine .z rfl ?_;refine .z rfl ?_;refine ihF _ _ ?_ ?_)
       · simp (disch:=first|exact za|fail) only [go_sem,seval,-List.reduceReplicate]<;>(repeat' (first | rfl | refine And.intro ?_ ?_))
       · exact hC.symm
   · subst hC
     by_cases c2:V.2=0
     · have d2:(V.2 != 0)=false:=by simpa using c2
       rw [if_neg (fun e=>e c2)] at h
       refine .q ?_;refine .text ?_;simp (disch:=first|exact za|fail) only [go_sem,seval,-List.reduceReplicate,F,d2]
       refine .q ?_;refine .ifF (by simp (disch:=first|exact za|fail) only [go_sem,seval,-List.reduceReplicate]) ?_
       refine .skip ?_
       refine .q ?_;refine .text ?_;simp (disch:=first|exact za|fail) only [go_sem,seval,-List.reduceReplicate,F]
       refine .q ?_;refine .rt Tryd.func58 (by rw [Tryd.results58]) (hx:=by simp (disch:=first|exact za|fail) only [go_sem,seval,-List.reduceReplicate,F];rfl) (hR := ?_);simp (disch:=first|exact za|fail) only [go_sem,seval,-List.reduceReplicate,F]
       exact h
     · have d2:(V.2 != 0)=true:=by simpa using c2
       rw [if_pos c2] at h
       refine .q ?_;refine .text ?_;simp (disch:=first|exact za|fail) only [go_sem,seval,-List.reduceReplicate,F,d2]
       refine .q ?_;refine .ifT (by simp (disch:=first|exact za|fail) only [go_sem,seval,-List.reduceReplicate]) ?_
       refine .q ?_;refine .text ?_;simp (disch:=first|exact za|fail) only [go_sem,seval,-List.reduceReplicate,F]
       refine .q ?_;refine .rt Tryd.func58 (by rw [Tryd.results58]) (hx:=by simp (disch:=first|exact za|fail) only [go_sem,seval,-List.reduceReplicate,F];rfl) (hR := ?_);simp (disch:=first|exact za|fail) only [go_sem,seval,-List.reduceReplicate,F]
       exact h
 · have dk:(x.k % 4#8 == 1#8)=false:=by simpa using k1
   rw [if_neg k1] at h
   obtain⟨W,hW⟩ : ∃ W,W=rds x.l:=⟨_,rfl⟩
   have hWv : ∀ r∈W,vR r:=by rw [hW];exact zot
   have hWl:W.length≤20:=by rw [hW,zei];omega
   have hrd : ∀ (B:Hp) (R:AV → Hp → Prop),R (.p (.sl false 4 (pl zv W))) B → ACall Tryd.prog G 31 [.p (.sl false 3 (pl tri x.l))] B R:=fun B R h=>zcR x.l hx B R (by rw [hW] at h;exact h)
   rw [←hW] at h
   refine .q ?_;refine .text ?_;simp (disch:=first|exact za|fail) only [go_sem,seval,-List.reduceReplicate,rr,dk]
   refine .q ?_;refine .ifF (by simp (disch:=first|exact za|fail) only [go_sem,seval,-List.reduceReplicate]) ?_
   refine .skip ?_
   refine .q ?_;refine .text ?_;simp (disch:=first|exact za|fail) only [go_sem,seval,-List.reduceReplicate]
   refine CallK.of (fun R h=>hrd _ R h) ?_;simp (disch:=first|exact za|fail) only [go_sem,seval,-List.reduceReplicate]
   refine .q ?_;refine .text ?_;simp (disch:=first|exact za|fail) only [go_sem,seval,-List.reduceReplicate]
   have ht0:W.take 0=[]:=rfl
   have hta:W.take W.length=W:=List.take_length
   refine .q ?_;refine .loopE [2,4,8] (fun j=>[(9,.p (i64 j))]) (fun j=>[(H.n,.cells [.p (.sl false 4 (pl zv (s.l++W.take j))),.p (.sl false 1 (pl bo (s.gone++List.replicate j false)))])]) (fun j=>True) (0) (W.length) (by omega) ?_ (by first | rfl | (simp (disch:=first|exact za|fail) only [go_sem,seval,-List.reduceReplicate,ht0,List.append_nil,List.replicate_zero]<;>rfl)) ?_ ?_ ?_
   · simp (disch:=first|exact za|fail) only [go_sem,seval,-List.reduceReplicate,ht0,List.append_nil,List.replicate_zero]<;>(repeat' (first | rfl | refine And.intro ?_ ?_))
   rotate_left 1
   intro env M hQ;simp (disch:=first|exact za|fail) only [go_sem,seval,-List.reduceReplicate,ht0,List.append_nil,List.replicate_zero] at M
   rotate_left 1
   intro j env hj0 hj M hQ ihM;simp (disch:=first|exact za|fail) only [go_sem,seval,-List.reduceReplicate,ht0,List.append_nil,List.replicate_zero] at M
   rotate_left 1
   · trivial
   · refine .q ?_;refine .text ?_;simp (disch:=first|exact za|fail) only [go_sem,seval,-List.reduceReplicate,M]
     refine .q ?_;refine .ifF (by simp (disch:=first|exact za|fail) only [go_sem,seval,-List.reduceReplicate]) ?_
     have hdd:decide ((0:Int) < (W.length:Int))=decide (0 < W.length):=by simp
     refine .q ?_;refine .text ?_;simp (disch:=first|exact za|fail) only [go_sem,seval,-List.reduceReplicate,M,hta,hdd]
     refine .q ?_;refine .rt Tryd.func58 (by rw [Tryd.results58]) (hx:=by simp (disch:=first|exact za|fail) only [go_sem,seval,-List.reduceReplicate,M];rfl) (hR := ?_);simp (disch:=first|exact za|fail) only [go_sem,seval,-List.reduceReplicate,M]
     exact h
   · refine .q ?_;refine .text ?_;simp (disch:=first|exact za|fail) only [go_sem,seval,-List.reduceReplicate,M]
     refine .q ?_;refine .ifT (by simp (disch:=first|exact za|fail) only [go_sem,seval,-List.reduceReplicate]) ?_
     have hjl:j < W.length:=by omega
     have hag : ∀ r,(zv r).aggOf 0 4=zv r:=fun _=>rfl
     have hrw : ∀ r,(zv r).weak=zv r:=fun _=>rfl
     have hagg : ∀ x y,PV.agg [PV.sl false 4 (pl zv x),PV.sl false 1 (pl bo y)]=yt ⟨x,y⟩:=fun _ _=>rfl
     have hnm:nth W j∈W:=zS hjl
     have htk:s.l++W.take j++[nth W j]=s.l++W.take (j+1):=by
      rw [List.append_assoc,List.take_add_one,List.getElem?_eq_getElem hjl]
      simp [nth,hjl]
     have hrp:s.gone++List.replicate j false++[false]=s.gone++List.replicate (j+1) false:=by rw [List.append_assoc,←List.replicate_succ']
     have htl:(W.take j).length=j:=by rw [List.length_take];omega
     refine .q ?_;refine .openT [9] follows (by kernel_rfl) ?_;simp (disch:=first|exact za|fail) only [go_sem,seval,-List.reduceReplicate,M,hag,hrw,hagg]
     refine CallD.still (fun R h=>zgp ⟨s.l++W.take j,s.gone++List.replicate j false⟩ (nth W j) (by rw [List.length_append,htl];omega) (by rw [List.length_append,List.length_replicate];omega) (hWv _ hnm) _ R h) ?_;simp (disch:=first|exact za|fail) only [go_sem,seval,-List.reduceReplicate,M]
     refine .q ?_;refine .text ?_;simp (disch:=first|exact za|fail) only [go_sem,seval,-List.reduceReplicate,M]
     first | (refine ihM _ _ ?_ trivial ?_) | (refine .z rfl ?_;refine ihM _ _ ?_ trivial ?_) | (refine .z rfl ?_;refine .z rfl ?_;refine ihM _ _ ?_ trivial ?_) | (refine .z rfl ?_;refine .z rfl ?_;refine .z rfl ?_;refine ihM _ _ ?_ trivial ?_)
     · simp (disch:=first|exact za|fail) only [go_sem,seval,-List.reduceReplicate,M,htk,hrp]<;>(repeat' (first | rfl | refine And.intro ?_ ?_))
     · first | rfl | (simp (disch:=first|exact za|fail) only [go_sem,seval,-List.reduceReplicate,M,htk,hrp]<;>(try rfl))
end walks
end Go.Proofs.YtdpfkanfahchjaaDoor

/-
  The log of readings: an operation on a store.
-/
namespace Go.Proofs.YtdpfkanfahchjaaDoor
open Go Go.AL

noncomputable def apV (s:Sto) (x:Op):Sto :=
 if x.k % 4#8=1#8 then
  if (lS s.1).l.length=0 then s
  else if (rtV s (x.a.toNat % (lS s.1).l.length:Nat)).2=0 then (rtV s (x.a.toNat % (lS s.1).l.length:Nat)).1 else s
 else if x.k % 4#8=2#8 then (s.1,s.1.length)
 else if x.k % 4#8=3#8 then (s.1.take (crN s.1 s.2 x.a.toNat),(crN s.1 s.2 x.a.toNat:Nat))
 else if (zbr s (rds x.l)).2=0 then (zbr s (rds x.l)).1 else s
def WS (s:Sto):Prop:=0≤s.2∧s.2≤s.1.length
section walks
variable {G:Globs}
set_option maxHeartbeats 8000000 in
set_option maxRecDepth 20000 in
theorem ziS (hG0:G 0=some (8,[.agg (pl zy inits)])) (hG1:G 1=some (64,[.agg (pl zy ks)])) (d:By) (s0:Int) (x:Op) (hw:WS (d,s0)) (hd:d.length≤1000000000) (hx:x.l.length≤9223372036854775807) (H:Hp) (R:AV → Hp → Prop)
 (h:R (.p (sto (apV (d,s0) x).1 (apV (d,s0) x).2)) H):ACall Tryd.prog G 35 [.p (sto d s0),.p (opv x)] H R:=by
 unfold apV at h
 dsimp only at h
 have hsw:(sto d s0).weak=sto d s0:=rfl
 have rr : ∀ y:BitVec 8,zo Tryd.prog .rem 5 (.p (b8 y)) (.p (b8 4#8))=some (.p (b8 (y % 4#8))):=fun y=>zay _ _ _ _ (by decide)
 refine ACall.of_run (raw:=[]) Tryd.func35 rfl Tryd.ntmps35 (by simp) fun hbel => ?_
 refine .q ?_;refine .text ?_;simp (disch:=first|exact za|fail) only [go_sem,seval,-List.reduceReplicate,ztY]
 by_cases k1:x.k % 4#8=1#8
 · have dk:(x.k % 4#8 == 1#8)=true:=by simpa using k1
   rw [if_pos k1] at h
   refine .q ?_;refine .text ?_;simp (disch:=first|exact za|fail) only [go_sem,seval,-List.reduceReplicate,rr,dk]
   refine .q ?_;refine .text ?_;simp (disch:=first|exact za|fail) only [go_sem,seval,-List.reduceReplicate,rr,dk]
   refine .q ?_;refine .ifT (by simp (disch:=first|exact za|fail) only [go_sem,seval,-List.reduceReplicate]) ?_
   refine .q ?_;refine .text ?_;simp (disch:=first|exact za|fail) only [go_sem,seval,-List.reduceReplicate]
   refine CallK.of (fun R h=>yE hG0 hG1 d s0 (by omega) _ R h) ?_;simp (disch:=first|exact za|fail) only [go_sem,seval,-List.reduceReplicate]
   have hok:=zhE (d:=d)
   obtain⟨S,hS⟩ : ∃ S,S=lS d:=⟨_,rfl⟩
   rw [←hS] at h hok ⊢
   have hSl:=hok.2
   refine .q ?_;refine .text ?_;simp (disch:=first|exact za|fail) only [go_sem,seval,-List.reduceReplicate]
   by_cases c1:S.l.length=0
   · have d1:((S.l.length:Int) == 0)=true:=beq_iff_eq.2 (by omega)
     rw [if_pos c1] at h
     refine .q ?_;refine .ifT (by simp (disch:=first|exact za|fail) only [go_sem,seval,-List.reduceReplicate,d1]) ?_
     refine .q ?_;refine .text ?_;simp (disch:=first|exact za|fail) only [go_sem,seval,-List.reduceReplicate]
     refine .q ?_;refine .rt Tryd.func35 (by rw [Tryd.results35]) (hR := ?_);simp (disch:=first|exact za|fail) only [go_sem,seval,-List.reduceReplicate]
     exact h
   have d1:((S.l.length:Int) == 0)=false:=beq_eq_false_iff_ne.2 (by omega)
   rw [if_neg c1] at h
   refine .q ?_;refine .ifF (by simp (disch:=first|exact za|fail) only [go_sem,seval,-List.reduceReplicate,d1]) ?_
   refine .skip ?_
   obtain⟨n,hn⟩ : ∃ n,n=x.a.toNat % S.l.length:=⟨_,rfl⟩
   have hmod:(x.a.toNat:Int) % (S.l.length:Int)=(n:Int):=by rw [hn];exact (Int.natCast_emod _ _).symm
   have hnl:n < S.l.length:=by rw [hn];exact Nat.mod_lt _ (by omega)
   obtain⟨V,hV⟩ : ∃ V,V=rtV (d,s0) (n:Nat):=⟨_,rfl⟩
   rw [←hn,←hV] at h
   have hret : ∀ (B:Hp) (R:AV → Hp → Prop),R (.tup [.p (sto V.1.1 V.1.2),.p (i64 V.2)]) B → ACall Tryd.prog G 15 [.p (sto d s0),.p (i64 (n:Nat))] B R:=fun B R h=>zan hG0 hG1 d s0 (n:Nat) hd B R (by rw [hV] at h;exact h)
   obtain⟨B,hB⟩ : ∃ B,B=(((H.new (.cells [.p (.sl false 1 (pl b8 d)),.p (i64 s0)])).new (.cells [.p (b8 x.k),.p (.sl false 3 (pl tri x.l)),.p (w16 x.a)])).new (.cells [.p (.sl true 1 []),.p (i64 0)])).new (.cells [.p (.sl false 4 (pl zv S.l)),.p (.sl false 1 (pl bo S.gone))]):=⟨_,rfl⟩
   obtain⟨C,hC⟩ : ∃ C,C=B.new (.cells [.p (.sl false 1 (pl b8 V.1.1)),.p (i64 V.1.2)]):=⟨_,rfl⟩
   refine .q ?_;refine .cutH [2,4] [(8,.ptr (H.n+4) 0),(9,.p (i64 V.2))] (C) (fun ihF => ?_) (fun env F => ?_)
   rotate_left 1
   simp (disch:=first|exact za|fail) only [go_sem,seval,-List.reduceReplicate] at F
   rotate_left 1
   · refine .openTr (.one 0 (.one 1 (.one 2 (.one 3 (.one 4 (.one 5 (.one 6 (.fork 7 12 (.fork 8 12 (.lin [9,10,11,12,13,14]) (.lin [8,9,10,11,13,14])) (.lin [7,8,9,10,11,13,14]))))))))) [12,13] follows (by kernel_rfl) ?_
     refine zl (.p (sto d s0)) rfl rfl (by simp (disch:=first|exact za|fail) only [go_sem,seval,-List.reduceReplicate]<;>rfl) rfl ?_
     refine zl (.ptr (H.n+1) 2) rfl rfl (by simp (disch:=first|exact za|fail) only [go_sem,seval,-List.reduceReplicate]<;>rfl) rfl ?_
     refine zl (.p (w16 x.a)) rfl rfl (by simp (disch:=first|exact za|fail) only [go_sem,seval,-List.reduceReplicate]<;>rfl) rfl ?_
     refine zl (.p (i64 x.a.toNat)) rfl rfl (by simp (disch:=first|exact za|fail) only [go_sem,seval,-List.reduceReplicate]<;>rfl) rfl ?_
     refine zl (.ptr (H.n+3) 0) rfl rfl (by simp (disch:=first|exact za|fail) only [go_sem,seval,-List.reduceReplicate]<;>rfl) rfl ?_
     refine zl (.p (.sl false 4 (pl zv S.l))) rfl rfl (by simp (disch:=first|exact za|fail) only [go_sem,seval,-List.reduceReplicate]<;>rfl) rfl ?_
     refine zl (.p (i64 S.l.length)) rfl rfl (by simp (disch:=first|exact za|fail) only [go_sem,seval,-List.reduceReplicate]<;>rfl) rfl ?_
     refine And.intro (zl (.p (i64 (n:Nat))) rfl rfl (by simp (disch:=first|exact za|fail) only [go_sem,seval,-List.reduceReplicate,hmod]<;>rfl) rfl (And.intro (yA (.tup [.p (sto V.1.1 V.1.2),.p (i64 V.2)]) rfl rfl (by simp (disch:=first|exact za|fail) only [go_sem,seval,-List.reduceReplicate,hsw]<;>rfl) (by rfl) rfl (fun R h=>hret _ R h) ?_) ?_)) ?_
     · refine zA [3,4] (by kernel_rfl) ?_
       simp (disch:=first|exact za|fail) only [go_sem,seval,-List.reduceReplicate]
       first | (refine ihF _ _ ?_ ?_) | (refine .z rfl ?_;refine ihF _ _ ?_ ?_) | (refine .z rfl ?_;refine .z rfl ?_;refine ihF _ _ ?_ ?_) | (refine .z rfl ?_;refine .z rfl ?_;refine .z rfl ?_;refine ihF _ _ ?_ ?_)
       · simp (disch:=first|exact za|fail) only [go_sem,seval,-List.reduceReplicate]<;>(repeat' (first | rfl | refine And.intro ?_ ?_))
       · exact (by rw [hC,hB])
     · refine yc (.ptr (H.n+4) 0) rfl rfl (by simp (disch:=first|exact za|fail) only [go_sem,seval,-List.reduceReplicate]<;>rfl) rfl ?_
       refine zA [4] (by kernel_rfl) ?_
       simp (disch:=first|exact za|fail) only [go_sem,seval,-List.reduceReplicate,hsw]
       refine CallD.still (fun R h=>hret _ R h) ?_;simp (disch:=first|exact za|fail) only [go_sem,seval,-List.reduceReplicate,hsw]
       first | (refine ihF _ _ ?_ ?_) | (refine .z rfl ?_;refine ihF _ _ ?_ ?_) | (refine .z rfl ?_;refine .z rfl ?_;refine ihF _ _ ?_ ?_) | (refine .z rfl ?_;refine .z rfl ?_;refine .z rfl ?_;refine ihF _ _ ?_ ?_)
       · simp (disch:=first|exact za|fail) only [go_sem,seval,-List.reduceReplicate]<;>(repeat' (first | rfl | refine And.intro ?_ ?_))
       · exact (by rw [hC,hB])
     · refine yc (.ptr (H.n+4) 0) rfl rfl (by simp (disch:=first|exact za|fail) only [go_sem,seval,-List.reduceReplicate]<;>rfl) rfl ?_
       refine zA [5] (by kernel_rfl) ?_
       simp (disch:=first|exact za|fail) only [go_sem,seval,-List.reduceReplicate,hsw,hmod]
       refine CallD.still (fun R h=>hret _ R h) ?_;simp (disch:=first|exact za|fail) only [go_sem,seval,-List.reduceReplicate,hsw]
       first | (refine ihF _ _ ?_ ?_) | (refine .z rfl ?_;refine ihF _ _ ?_ ?_) | (refine .z rfl ?_;refine .z rfl ?_;refine ihF _ _ ?_ ?_) | (refine .z rfl ?_;refine .z rfl ?_;refine .z rfl ?_;refine ihF _ _ ?_ ?_)
       · simp (disch:=first|exact za|fail) only [go_sem,seval,-List.reduceReplicate]<;>(repeat' (first | rfl | refine And.intro ?_ ?_))
       · exact (by rw [hC,hB])
   · subst hC hB
     by_cases c2:V.2=0
     · have d2:(V.2 == 0)=true:=by simpa using c2
       rw [if_pos c2] at h
       refine .q ?_;refine .text ?_;simp (disch:=first|exact za|fail) only [go_sem,seval,-List.reduceReplicate,F,d2]
       refine .q ?_;refine .ifT (by simp (disch:=first|exact za|fail) only [go_sem,seval,-List.reduceReplicate]) ?_
       refine .q ?_;refine .text ?_;simp (disch:=first|exact za|fail) only [go_sem,seval,-List.reduceReplicate,F]
       refine .q ?_;refine .rt Tryd.func35 (by rw [Tryd.results35]) (hx:=by simp (disch:=first|exact za|fail) only [go_sem,seval,-List.reduceReplicate,F];rfl) (hR := ?_);simp (disch:=first|exact za|fail) only [go_sem,seval,-List.reduceReplicate,F]
       exact h
     · have d2:(V.2 == 0)=false:=by simpa using c2
       rw [if_neg c2] at h
       refine .q ?_;refine .text ?_;simp (disch:=first|exact za|fail) only [go_sem,seval,-List.reduceReplicate,F,d2]
       refine .q ?_;refine .ifF (by simp (disch:=first|exact za|fail) only [go_sem,seval,-List.reduceReplicate]) ?_
       refine .skip ?_
       refine .q ?_;refine .text ?_;simp (disch:=first|exact za|fail) only [go_sem,seval,-List.reduceReplicate,F]
       refine .q ?_;refine .rt Tryd.func35 (by rw [Tryd.results35]) (hx:=by simp (disch:=first|exact za|fail) only [go_sem,seval,-List.reduceReplicate,F];rfl) (hR := ?_);simp (disch:=first|exact za|fail) only [go_sem,seval,-List.reduceReplicate,F]
       exact h
 have dk1:(x.k % 4#8 == 1#8)=false:=by simpa using k1
 rw [if_neg k1] at h
 refine .q ?_;refine .text ?_;simp (disch:=first|exact za|fail) only [go_sem,seval,-List.reduceReplicate,rr,dk1]
 refine .q ?_;refine .text ?_;simp (disch:=first|exact za|fail) only [go_sem,seval,-List.reduceReplicate,rr,dk1]
 refine .q ?_;refine .ifF (by simp (disch:=first|exact za|fail) only [go_sem,seval,-List.reduceReplicate]) ?_
 by_cases k2:x.k % 4#8=2#8
 · have dk2:(x.k % 4#8 == 2#8)=true:=by simpa using k2
   rw [if_pos k2] at h
   refine .q ?_;refine .text ?_;simp (disch:=first|exact za|fail) only [go_sem,seval,-List.reduceReplicate,dk2]
   refine .q ?_;refine .ifT (by simp (disch:=first|exact za|fail) only [go_sem,seval,-List.reduceReplicate]) ?_
   refine .q ?_;refine .text ?_;simp (disch:=first|exact za|fail) only [go_sem,seval,-List.reduceReplicate]
   refine CallK.of (fun R h=>zhw d s0 _ R h) ?_;simp (disch:=first|exact za|fail) only [go_sem,seval,-List.reduceReplicate]
   refine .q ?_;refine .rt Tryd.func35 (by rw [Tryd.results35]) (hR := ?_);simp (disch:=first|exact za|fail) only [go_sem,seval,-List.reduceReplicate]
   exact h
 have dk2:(x.k % 4#8 == 2#8)=false:=by simpa using k2
 rw [if_neg k2] at h
 refine .q ?_;refine .text ?_;simp (disch:=first|exact za|fail) only [go_sem,seval,-List.reduceReplicate,dk2]
 refine .q ?_;refine .ifF (by simp (disch:=first|exact za|fail) only [go_sem,seval,-List.reduceReplicate]) ?_
 by_cases k3:x.k % 4#8=3#8
 · have dk3:(x.k % 4#8 == 3#8)=true:=by simpa using k3
   have hxa:=x.a.isLt
   rw [if_pos k3] at h
   refine .q ?_;refine .text ?_;simp (disch:=first|exact za|fail) only [go_sem,seval,-List.reduceReplicate,dk3]
   refine .q ?_;refine .ifT (by simp (disch:=first|exact za|fail) only [go_sem,seval,-List.reduceReplicate]) ?_
   refine .q ?_;refine .text ?_;simp (disch:=first|exact za|fail) only [go_sem,seval,-List.reduceReplicate]
   refine CallK.of (fun R h=>zdB d s0 (x.a.toNat:Nat) hw (by omega) ⟨by omega,by omega⟩ _ R h) ?_;simp (disch:=first|exact za|fail) only [go_sem,seval,-List.reduceReplicate]
   refine .q ?_;refine .rt Tryd.func35 (by rw [Tryd.results35]) (hR := ?_);simp (disch:=first|exact za|fail) only [go_sem,seval,-List.reduceReplicate]
   exact h
 have dk3:(x.k % 4#8 == 3#8)=false:=by simpa using k3
 rw [if_neg k3] at h
 refine .q ?_;refine .text ?_;simp (disch:=first|exact za|fail) only [go_sem,seval,-List.reduceReplicate,dk3]
 refine .q ?_;refine .ifF (by simp (disch:=first|exact za|fail) only [go_sem,seval,-List.reduceReplicate]) ?_
 obtain⟨W,hW⟩ : ∃ W,W=rds x.l:=⟨_,rfl⟩
 have hWl:W.length≤20:=by rw [hW,zei];omega
 have hrd : ∀ (B:Hp) (R:AV → Hp → Prop),R (.p (.sl false 4 (pl zv W))) B → ACall Tryd.prog G 31 [.p (.sl false 3 (pl tri x.l))] B R:=fun B R h=>zcR x.l hx B R (by rw [hW] at h;exact h)
 obtain⟨V,hV⟩ : ∃ V,V=zbr (d,s0) W:=⟨_,rfl⟩
 have happ : ∀ (B:Hp) (R:AV → Hp → Prop),R (.tup [.p (sto V.1.1 V.1.2),.p (i64 V.2)]) B → ACall Tryd.prog G 13 [.p (sto d s0),.p (.sl false 4 (pl zv W))] B R:=fun B R h=>zbK hG0 hG1 d s0 W hd (by omega) B R (by rw [hV] at h;exact h)
 rw [←hW,←hV] at h
 have hww:(PV.sl false 4 (pl zv W)).weak = .sl false 4 (pl zv W):=rfl
 have htw:(PV.sl false 3 (pl tri x.l)).weak = .sl false 3 (pl tri x.l):=rfl
 obtain⟨B,hB⟩ : ∃ B,B=((H.new (.cells [.p (.sl false 1 (pl b8 d)),.p (i64 s0)])).new (.cells [.p (b8 x.k),.p (.sl false 3 (pl tri x.l)),.p (w16 x.a)])).new (.cells [.p (.sl true 1 []),.p (i64 0)]):=⟨_,rfl⟩
 obtain⟨C,hC⟩ : ∃ C,C=B.new (.cells [.p (.sl false 1 (pl b8 V.1.1)),.p (i64 V.1.2)]):=⟨_,rfl⟩
 refine .q ?_;refine .cutH [2,4] [(10,.ptr (H.n+3) 0),(11,.p (i64 V.2))] (C) (fun ihF => ?_) (fun env F => ?_)
 rotate_left 1
 simp (disch:=first|exact za|fail) only [go_sem,seval,-List.reduceReplicate] at F
 rotate_left 1
 · refine .openTr (.one 0 (.one 1 (.one 2 (.fork 3 8 (.fork 4 8 (.lin [5,6,7,8,9,10]) (.lin [4,5,6,7,9,10])) (.lin [3,4,5,6,7,9,10]))))) [8,9] follows (by kernel_rfl) ?_
   refine zl (.p (sto d s0)) rfl rfl (by simp (disch:=first|exact za|fail) only [go_sem,seval,-List.reduceReplicate]<;>rfl) rfl ?_
   refine zl (.ptr (H.n+1) 1) rfl rfl (by simp (disch:=first|exact za|fail) only [go_sem,seval,-List.reduceReplicate]<;>rfl) rfl ?_
   refine zl (.p (.sl false 3 (pl tri x.l))) rfl rfl (by simp (disch:=first|exact za|fail) only [go_sem,seval,-List.reduceReplicate]<;>rfl) rfl ?_
   refine And.intro (yA (.p (.sl false 4 (pl zv W))) rfl rfl (by simp (disch:=first|exact za|fail) only [go_sem,seval,-List.reduceReplicate,htw]<;>rfl) (by rfl) rfl (fun R h=>hrd _ R h) (And.intro (yA (.tup [.p (sto V.1.1 V.1.2),.p (i64 V.2)]) rfl rfl (by simp (disch:=first|exact za|fail) only [go_sem,seval,-List.reduceReplicate,hsw,hww]<;>rfl) (by rfl) rfl (fun R h=>happ _ R h) ?_) ?_)) ?_
   · refine zA [3,4] (by kernel_rfl) ?_
     simp (disch:=first|exact za|fail) only [go_sem,seval,-List.reduceReplicate]
     first | (refine ihF _ _ ?_ ?_) | (refine .z rfl ?_;refine ihF _ _ ?_ ?_) | (refine .z rfl ?_;refine .z rfl ?_;refine ihF _ _ ?_ ?_) | (refine .z rfl ?_;refine .z rfl ?_;refine .z rfl ?_;refine ihF _ _ ?_ ?_)
     · simp (disch:=first|exact za|fail) only [go_sem,seval,-List.reduceReplicate]<;>(repeat' (first | rfl | refine And.intro ?_ ?_))
     · exact (by rw [hC,hB])
   · refine yc (.ptr (H.n+3) 0) rfl rfl (by simp (disch:=first|exact za|fail) only [go_sem,seval,-List.reduceReplicate]<;>rfl) rfl ?_
     refine zA [4] (by kernel_rfl) ?_
     simp (disch:=first|exact za|fail) only [go_sem,seval,-List.reduceReplicate,hsw,hww]
     refine CallD.still (fun R h=>happ _ R h) ?_;simp (disch:=first|exact za|fail) only [go_sem,seval,-List.reduceReplicate,hsw]
     first | (refine ihF _ _ ?_ ?_) | (refine .z rfl ?_;refine ihF _ _ ?_ ?_) | (refine .z rfl ?_;refine .z rfl ?_;refine ihF _ _ ?_ ?_) | (refine .z rfl ?_;refine .z rfl ?_;refine .z rfl ?_;refine ihF _ _ ?_ ?_)
     · simp (disch:=first|exact za|fail) only [go_sem,seval,-List.reduceReplicate]<;>(repeat' (first | rfl | refine And.intro ?_ ?_))
     · exact (by rw [hC,hB])
   · refine yc (.ptr (H.n+3) 0) rfl rfl (by simp (disch:=first|exact za|fail) only [go_sem,seval,-List.reduceReplicate]<;>rfl) rfl ?_
     refine zA [5] (by kernel_rfl) ?_
     simp (disch:=first|exact za|fail) only [go_sem,seval,-List.reduceReplicate,hsw,htw]
     refine CallD.still (fun R h=>hrd _ R h) ?_;simp (disch:=first|exact za|fail) only [go_sem,seval,-List.reduceReplicate,hsw,hww]
     refine CallD.still (fun R h=>happ _ R h) ?_;simp (disch:=first|exact za|fail) only [go_sem,seval,-List.reduceReplicate,hsw]
     first | (refine ihF _ _ ?_ ?_) | (refine .z rfl ?_;refine ihF _ _ ?_ ?_) | (refine .z rfl ?_;refine .z rfl ?_;refine ihF _ _ ?_ ?_) | (refine .z rfl ?_;refine .z rfl ?_;refine .z rfl ?_;refine ihF _ _ ?_ ?_)
     · simp (disch:=first|exact za|fail) only [go_sem,seval,-List.reduceReplicate]<;>(repeat' (first | rfl | refine And.intro ?_ ?_))
     · exact (by rw [hC,hB])
 · subst hC hB
   by_cases c2:V.2=0
   · have d2:(V.2 == 0)=true:=by simpa using c2
     rw [if_pos c2] at h
     refine .q ?_;refine .text ?_;simp (disch:=first|exact za|fail) only [go_sem,seval,-List.reduceReplicate,F,d2]
     refine .q ?_;refine .ifT (by simp (disch:=first|exact za|fail) only [go_sem,seval,-List.reduceReplicate]) ?_
     refine .q ?_;refine .text ?_;simp (disch:=first|exact za|fail) only [go_sem,seval,-List.reduceReplicate,F]
     refine .q ?_;refine .rt Tryd.func35 (by rw [Tryd.results35]) (hx:=by simp (disch:=first|exact za|fail) only [go_sem,seval,-List.reduceReplicate,F];rfl) (hR := ?_);simp (disch:=first|exact za|fail) only [go_sem,seval,-List.reduceReplicate,F]
     exact h
   · have d2:(V.2 == 0)=false:=by simpa using c2
     rw [if_neg c2] at h
     refine .q ?_;refine .text ?_;simp (disch:=first|exact za|fail) only [go_sem,seval,-List.reduceReplicate,F,d2]
     refine .q ?_;refine .ifF (by simp (disch:=first|exact za|fail) only [go_sem,seval,-List.reduceReplicate]) ?_
     refine .skip ?_
     refine .q ?_;refine .text ?_;simp (disch:=first|exact za|fail) only [go_sem,seval,-List.reduceReplicate,F]
     refine .q ?_;refine .rt Tryd.func35 (by rw [Tryd.results35]) (hx:=by simp (disch:=first|exact za|fail) only [go_sem,seval,-List.reduceReplicate,F];rfl) (hR := ?_);simp (disch:=first|exact za|fail) only [go_sem,seval,-List.reduceReplicate,F]
     exact h
end walks
end Go.Proofs.YtdpfkanfahchjaaDoor

/-
  The log of readings: runs of operations.
-/
namespace Go.Proofs.YtdpfkanfahchjaaDoor
open Go Go.AL

theorem zvm {s:Sto} {l:List Rdg} (h:WS s) (h2:(zbr s l).2=0):WS (zbr s l).1:=by
 unfold zbr at h2 ⊢
 split at h2<;>split
 · cases h2
 · contradiction
 · contradiction
 · split at h2
   · cases h2
   · rename_i c
     rw [if_neg c]
     have:=zhF (d:=s.1)
     have h1:=h.1
     refine⟨?_,?_⟩<;>dsimp only
     · omega
     · rw [List.length_append,List.length_take];omega
theorem zwR {s:Sto} {i:Int} (h:WS s) (h2:(rtV s i).2=0):WS (rtV s i).1:=by
 unfold rtV at h2 ⊢
 split at h2
 · rename_i c;exact absurd h2 c
 · rename_i c
   rw [if_neg c]
   have:=zhF (d:=s.1)
   have h1:=h.1
   refine⟨?_,?_⟩<;>dsimp only
   · omega
   · rw [List.length_append,List.length_take];omega
theorem zwS {d:By} {s k:Int} (h:0≤s∧s≤d.length):crN d s k≤d.length:=by unfold crN;omega
theorem zwT {s:Sto} {x:Op} (h:WS s):WS (apV s x):=by
 unfold apV
 split
 · split
   · exact h
   · split
     · rename_i c;exact zwR h c
     · exact h
 · split
   · exact⟨by dsimp only;omega,by dsimp only;omega⟩
   · split
     · have:=zwS (d:=s.1) (k:=x.a.toNat) h
       exact⟨by dsimp only;omega,by dsimp only;rw [List.length_take];omega⟩
     · split
       · rename_i c;exact zvm h c
       · exact h
theorem zvn {s:Sto} {x:Op}:(apV s x).1.length≤s.1.length+300:=by
 unfold apV
 split
 · split
   · omega
   · split
     · rename_i c
       unfold rtV at c ⊢
       split at c
       · rename_i q;exact absurd c q
       · rename_i q
         rw [if_neg q]
         dsimp only
         rw [List.length_append,List.length_take,yY,zC];omega
     · omega
 · split
   · dsimp only;omega
   · split
     · dsimp only;rw [List.length_take];omega
     · split
       · rename_i c
         have hp:=ziN (l:=rds x.l)
         have hr:=zei (l:=x.l)
         unfold zbr at c ⊢
         split
         · dsimp only;rw [List.length_nil];omega
         · split
           · dsimp only;rw [List.length_nil];omega
           · dsimp only
             rw [List.length_append,List.length_take,yY];omega
       · omega
noncomputable def zbL (l:List Op) (i:Nat):Sto:=(l.take i).foldl apV ([],0)
theorem zeA {l:List Op} {i:Nat} (h:i < l.length):zbL l (i+1)=apV (zbL l i) (l[i]):=by
 rw [zbL,List.take_succ_eq_append_getElem h,List.foldl_append];rfl
theorem ziT {l:List Op} : ∀ {i:Nat},i≤l.length → WS (zbL l i)∧(zbL l i).1.length≤300*i
 | 0,_=>⟨⟨Int.le_refl _,Int.le_refl _⟩,Nat.le_refl _⟩
 | i+1,h=>by
  obtain⟨h1,h2⟩:=ziT (l:=l) (i:=i) (by omega)
  rw [zeA (by omega)]
  exact⟨zwT h1,by have:=zvn (s:=zbL l i) (x:=l[i]);omega⟩
noncomputable def zdb (l:List Op):Sto:=zbL l (min 12 l.length)
theorem ziU {l:List Op}:WS (zdb l)∧(zdb l).1.length≤3600:=by
 obtain⟨n,hn⟩ : ∃ n,n=min 12 l.length:=⟨_,rfl⟩
 have h1:n≤l.length:=by omega
 have h2:n≤12:=by omega
 have:=ziT (l:=l) (i:=n) h1
 unfold zdb
 rw [←hn]
 exact⟨this.1,Nat.le_trans this.2 (Nat.mul_le_mul_left 300 h2)⟩
instance:Inhabited Op:=⟨⟨0#8,[],0#16⟩⟩
section walks
variable {G:Globs}
set_option maxRecDepth 20000 in
theorem zgz (H:Hp) (R:AV → Hp → Prop) (h:R (.p (sto [] 0)) H):ACall Tryd.prog G 34 [] H R:=by
 refine ACall.of_run (raw:=[]) Tryd.func34 rfl Tryd.ntmps34 (by simp) fun hbel => ?_
 refine .q ?_;refine .text ?_;simp (disch:=first|exact za|fail) only [go_sem,seval,-List.reduceReplicate]
 refine .q ?_;refine .text ?_;simp (disch:=first|exact za|fail) only [go_sem,seval,-List.reduceReplicate]
 refine .q ?_;refine .rt Tryd.func34 (by rw [Tryd.results34]) (hR := ?_);simp (disch:=first|exact za|fail) only [go_sem,seval,-List.reduceReplicate]
 exact h
set_option maxHeartbeats 4000000 in
set_option maxRecDepth 20000 in
theorem zgA (hG0:G 0=some (8,[.agg (pl zy inits)])) (hG1:G 1=some (64,[.agg (pl zy ks)])) (l:List Op) (hl:l.length≤9223372036854775807) (hx : ∀ x∈l,x.l.length≤9223372036854775807) (H:Hp) (R:AV → Hp → Prop)
 (h:R (.p (sto (zdb l).1 (zdb l).2)) H):ACall Tryd.prog G 10 [.p (.sl false 3 (pl opv l))] H R:=by
 have hag : ∀ x,(opv x).aggOf 0 3=opv x:=fun _=>rfl
 have how : ∀ x,(opv x).weak=opv x:=fun _=>rfl
 have hol : ∀ x,(opv x).cells.length=3:=fun _=>rfl
 have r0:zbL l 0=([],0):=rfl
 refine ACall.of_run (raw:=[]) Tryd.func10 rfl Tryd.ntmps10 (by simp) fun hbel => ?_
 refine .q ?_;refine .text ?_;simp (disch:=first|exact za|fail) only [go_sem,seval,-List.reduceReplicate]
 refine .q ?_;refine .text ?_;simp (disch:=first|exact za|fail) only [go_sem,seval,-List.reduceReplicate]
 refine CallK.of (fun R h=>zgz _ R h) ?_;simp (disch:=first|exact za|fail) only [go_sem,seval,-List.reduceReplicate]
 refine .q ?_;refine .text ?_;simp (disch:=first|exact za|fail) only [go_sem,seval,-List.reduceReplicate]
 refine .q ?_;refine .loopE [0,2,3] (fun i=>[(4,.p (i64 i))]) (fun i=>[(H.n+1,.cells [.p (.sl false 1 (pl b8 (zbL l i).1)),.p (i64 (zbL l i).2)])]) (fun i=>True) (0) (min 12 l.length) (by omega) ?_ (by first | rfl | (simp (disch:=first|exact za|fail) only [go_sem,seval,-List.reduceReplicate,r0]<;>rfl)) ?_ ?_ ?_
 · simp (disch:=first|exact za|fail) only [go_sem,seval,-List.reduceReplicate,r0]<;>(repeat' (first | rfl | refine And.intro ?_ ?_))
 · exact trivial
 intro env E hQ;simp (disch:=first|exact za|fail) only [go_sem,seval,-List.reduceReplicate,r0] at E
 rotate_left 1
 intro i env hi0 hi E hQ ihE;simp (disch:=first|exact za|fail) only [go_sem,seval,-List.reduceReplicate,r0] at E
 rotate_left 1
 · unfold zdb at h
   obtain⟨n,hn⟩ : ∃ n,n=min 12 l.length:=⟨_,rfl⟩
   rw [←hn] at h E ⊢
   by_cases c1:l.length≤12
   · have d1:decide ((n:Int) < (l.length:Int))=false:=decide_eq_false (by omega)
     refine .q ?_;refine .text ?_;simp (disch:=first|exact za|fail) only [go_sem,seval,-List.reduceReplicate,E,zc,ze,d1]
     refine .q ?_;refine .ifF (by simp (disch:=first|exact za|fail) only [go_sem,seval,-List.reduceReplicate]) ?_
     refine .q ?_;refine .text ?_;simp (disch:=first|exact za|fail) only [go_sem,seval,-List.reduceReplicate,E,zc,ze]
     refine .q ?_;refine .rt Tryd.func10 (by rw [Tryd.results10]) (hx:=by simp (disch:=first|exact za|fail) only [go_sem,seval,-List.reduceReplicate,E];rfl) (hR := ?_);simp (disch:=first|exact za|fail) only [go_sem,seval,-List.reduceReplicate,E]
     exact h
   · have d1:decide ((n:Int) < (l.length:Int))=true:=decide_eq_true (by omega)
     have d2:decide ((n:Int) < 12)=false:=decide_eq_false (by omega)
     refine .q ?_;refine .text ?_;simp (disch:=first|exact za|fail) only [go_sem,seval,-List.reduceReplicate,E,zc,ze,d1,d2]
     refine .q ?_;refine .ifF (by simp (disch:=first|exact za|fail) only [go_sem,seval,-List.reduceReplicate]) ?_
     refine .q ?_;refine .text ?_;simp (disch:=first|exact za|fail) only [go_sem,seval,-List.reduceReplicate,E,zc,ze]
     refine .q ?_;refine .rt Tryd.func10 (by rw [Tryd.results10]) (hx:=by simp (disch:=first|exact za|fail) only [go_sem,seval,-List.reduceReplicate,E];rfl) (hR := ?_);simp (disch:=first|exact za|fail) only [go_sem,seval,-List.reduceReplicate,E]
     exact h
 · have hil:i < l.length:=by omega
   have d1:decide ((i:Int) < (l.length:Int))=true:=decide_eq_true (by omega)
   have d2:decide ((i:Int) < 12)=true:=decide_eq_true (by omega)
   obtain⟨hws,hle⟩:=ziT (l:=l) (i:=i) (by omega)
   have hnl:l[i]=nth l i:=by simp [nth,hil]
   have hsu:=zeA hil
   rw [hnl] at hsu
   have hap : ∀ (B:Hp) (R:AV → Hp → Prop),R (.p (sto (zbL l (i+1)).1 (zbL l (i+1)).2)) B → ACall Tryd.prog G 35 [.p (sto (zbL l i).1 (zbL l i).2),.p (opv (nth l i))] B R:=fun B R h=>ziS hG0 hG1 (zbL l i).1 (zbL l i).2 (nth l i) hws (by omega) (hx _ (zS hil)) B R (by rw [hsu] at h;exact h)
   have hst:PV.agg [.sl false 1 (pl b8 (zbL l i).1),i64 (zbL l i).2]=sto (zbL l i).1 (zbL l i).2:=rfl
   refine .q ?_;refine .text ?_;simp (disch:=first|exact za|fail) only [go_sem,seval,-List.reduceReplicate,E,zc,ze,d1,d2]
   refine .q ?_;refine .ifT (by simp (disch:=first|exact za|fail) only [go_sem,seval,-List.reduceReplicate]) ?_
   refine .q ?_;refine .openT [6] follows (by kernel_rfl) ?_;simp (disch:=first|exact za|fail) only [go_sem,seval,-List.reduceReplicate,E,zc,ze,hag,how,hol,hst]
   refine CallD.still (fun R h=>hap _ R h) ?_;simp (disch:=first|exact za|fail) only [go_sem,seval,-List.reduceReplicate,E]
   refine .q ?_;refine .text ?_;simp (disch:=first|exact za|fail) only [go_sem,seval,-List.reduceReplicate,E,zc,ze]
   first | (refine ihE _ _ ?_ trivial ?_) | (refine .z rfl ?_;refine ihE _ _ ?_ trivial ?_) | (refine .z rfl ?_;refine .z rfl ?_;refine ihE _ _ ?_ trivial ?_) | (refine .z rfl ?_;refine .z rfl ?_;refine .z rfl ?_;refine ihE _ _ ?_ trivial ?_)
   · simp (disch:=first|exact za|fail) only [go_sem,seval,-List.reduceReplicate,E,zc,ze]<;>(repeat' (first | rfl | refine And.intro ?_ ?_))
   · first | rfl | (simp (disch:=first|exact za|fail) only [go_sem,seval,-List.reduceReplicate,E,zc,ze]<;>(try rfl))
def zbM (l:List Op) (i:Nat):List Op:=(l.take i).filter fun x=>x.k % 4#8 != 3#8
theorem zqt {l:List Op} {i:Nat} (h:i < l.length):zbM l (i+1)=if (nth l i).k % 4#8 != 3#8 then zbM l i++[nth l i] else zbM l i:=by
 rw [zbM,List.take_succ_eq_append_getElem h,List.filter_append,show l[i]=nth l i by simp [nth,h]]
 cases c:((nth l i).k % 4#8 != 3#8)<;>simp only [List.filter_cons,c,List.filter_nil,zbM]<;>simp
theorem zov {l:List Op} {i:Nat}:(zbM l i).length≤i:=by
 have:=List.length_filter_le (fun x:Op=>x.k % 4#8 != 3#8) (l.take i)
 rw [List.length_take] at this
 unfold zbM;omega
def cal (l:List Op):List Op:=zbM l (min 12 l.length)
set_option maxHeartbeats 4000000 in
set_option maxRecDepth 20000 in
theorem zhG (l:List Op) (hl:l.length≤9223372036854775807) (H:Hp) (R:AV → Hp → Prop)
 (h:R (.p (.sl false 3 (pl opv (cal l)))) H):ACall Tryd.prog G 26 [.p (.sl false 3 (pl opv l))] H R:=by
 have hag : ∀ x,(opv x).aggOf 0 3=opv x:=fun _=>rfl
 have how : ∀ x,(opv x).weak=opv x:=fun _=>rfl
 have hol : ∀ x,(opv x).cells.length=3:=fun _=>rfl
 have r0:pl opv (zbM l 0)=[]:=rfl
 have l0:(zbM l 0).length=0:=rfl
 have rr : ∀ y:BitVec 8,zo Tryd.prog .rem 5 (.p (b8 y)) (.p (b8 4#8))=some (.p (b8 (y % 4#8))):=fun y=>zay _ _ _ _ (by decide)
 refine ACall.of_run (raw:=[]) Tryd.func26 rfl Tryd.ntmps26 (by simp) fun hbel => ?_
 refine .q ?_;refine .text ?_;simp (disch:=first|exact za|fail) only [go_sem,seval,-List.reduceReplicate]
 refine .q ?_;refine .text ?_;simp (disch:=first|exact za|fail) only [go_sem,seval,-List.reduceReplicate]
 refine .q ?_;refine .own 3 (by simp (disch:=first|exact za|fail) only [go_sem,seval,-List.reduceReplicate];rfl) ?_
 refine .q ?_;refine .text ?_;simp (disch:=first|exact za|fail) only [go_sem,seval,-List.reduceReplicate]
 refine .q ?_;refine .loopE [0] (fun i=>[(3,.sl H.n (zbM l i).length 3 (pl opv (zbM l i))),(4,.p (i64 i))]) (fun i=>[(H.n,.tail (zbM l i).length)]) (fun i=>True) (0) (min 12 l.length) (by omega) ?_ (by first | rfl | (simp (disch:=first|exact za|fail) only [go_sem,seval,-List.reduceReplicate,r0,l0]<;>rfl)) ?_ ?_ ?_
 · simp (disch:=first|exact za|fail) only [go_sem,seval,-List.reduceReplicate,r0,l0]<;>(repeat' (first | rfl | refine And.intro ?_ ?_))
 · exact trivial
 intro env E hQ;simp (disch:=first|exact za|fail) only [go_sem,seval,-List.reduceReplicate,r0,l0] at E
 rotate_left 1
 intro i env hi0 hi E hQ ihE;simp (disch:=first|exact za|fail) only [go_sem,seval,-List.reduceReplicate,r0,l0] at E
 rotate_left 1
 · unfold cal at h
   obtain⟨n,hn⟩ : ∃ n,n=min 12 l.length:=⟨_,rfl⟩
   rw [←hn] at h E ⊢
   by_cases c1:l.length≤12
   · have d1:decide ((n:Int) < (l.length:Int))=false:=decide_eq_false (by omega)
     refine .q ?_;refine .text ?_;simp (disch:=first|exact za|fail) only [go_sem,seval,-List.reduceReplicate,E,zc,ze,d1]
     refine .q ?_;refine .ifF (by simp (disch:=first|exact za|fail) only [go_sem,seval,-List.reduceReplicate]) ?_
     refine .q ?_;refine .text ?_;simp (disch:=first|exact za|fail) only [go_sem,seval,-List.reduceReplicate,E,zc,ze]
     refine .q ?_;refine .rt Tryd.func26 (by rw [Tryd.results26]) (hx:=by simp (disch:=first|exact za|fail) only [go_sem,seval,-List.reduceReplicate,E];rfl) (hR := ?_);simp (disch:=first|exact za|fail) only [go_sem,seval,-List.reduceReplicate,E]
     exact h
   · have d1:decide ((n:Int) < (l.length:Int))=true:=decide_eq_true (by omega)
     have d2:decide ((n:Int) < 12)=false:=decide_eq_false (by omega)
     refine .q ?_;refine .text ?_;simp (disch:=first|exact za|fail) only [go_sem,seval,-List.reduceReplicate,E,zc,ze,d1,d2]
     refine .q ?_;refine .ifF (by simp (disch:=first|exact za|fail) only [go_sem,seval,-List.reduceReplicate]) ?_
     refine .q ?_;refine .text ?_;simp (disch:=first|exact za|fail) only [go_sem,seval,-List.reduceReplicate,E,zc,ze]
     refine .q ?_;refine .rt Tryd.func26 (by rw [Tryd.results26]) (hx:=by simp (disch:=first|exact za|fail) only [go_sem,seval,-List.reduceReplicate,E];rfl) (hR := ?_);simp (disch:=first|exact za|fail) only [go_sem,seval,-List.reduceReplicate,E]
     exact h
 · have hil:i < l.length:=by omega
   have d1:decide ((i:Int) < (l.length:Int))=true:=decide_eq_true (by omega)
   have d2:decide ((i:Int) < 12)=true:=decide_eq_true (by omega)
   have hsu:=zqt hil
   have hle:=zov (l:=l) (i:=i)
   refine .q ?_;refine .text ?_;simp (disch:=first|exact za|fail) only [go_sem,seval,-List.reduceReplicate,E,zc,ze,d1,d2]
   refine .q ?_;refine .ifT (by simp (disch:=first|exact za|fail) only [go_sem,seval,-List.reduceReplicate]) ?_
   obtain⟨x,hxx⟩ : ∃ x,x=nth l i:=⟨_,rfl⟩
   rw [←hxx] at hsu
   by_cases c3:x.k % 4#8=3#8
   · have d3:(x.k % 4#8 != 3#8)=false:=by simp [c3]
     rw [d3,if_neg (by decide)] at hsu
     have hfa : ∀ y:Op,(opv y).cells[0]? = some (b8 y.k):=fun _=>rfl
     refine .q ?_;refine .text ?_;simp (disch:=first|exact za|fail) only [go_sem,seval,-List.reduceReplicate,E,zc,ze,hag,how,hol,hfa,rr,←hxx,d3]
     refine .q ?_;refine .ifF (by simp (disch:=first|exact za|fail) only [go_sem,seval,-List.reduceReplicate]) ?_
     refine .skip ?_
     refine .q ?_;refine .text ?_;simp (disch:=first|exact za|fail) only [go_sem,seval,-List.reduceReplicate,E]
     first | (refine ihE _ _ ?_ trivial ?_) | (refine .z rfl ?_;refine ihE _ _ ?_ trivial ?_) | (refine .z rfl ?_;refine .z rfl ?_;refine ihE _ _ ?_ trivial ?_) | (refine .z rfl ?_;refine .z rfl ?_;refine .z rfl ?_;refine ihE _ _ ?_ trivial ?_)
     · simp (disch:=first|exact za|fail) only [go_sem,seval,-List.reduceReplicate,E,zc,ze,hsu]<;>(repeat' (first | rfl | refine And.intro ?_ ?_))
     · first | rfl | (simp (disch:=first|exact za|fail) only [go_sem,seval,-List.reduceReplicate,E,zc,ze,hsu]<;>(try rfl))
   · have d3:(x.k % 4#8 != 3#8)=true:=by simp [c3]
     rw [d3,if_pos rfl] at hsu
     have hfa : ∀ y:Op,(opv y).cells[0]? = some (b8 y.k):=fun _=>rfl
     have hon:[opv x]=pl opv [x]:=rfl
     have hal:((pl opv [x]).all fun y=>y.cells.length == 3)=true:=rfl
     have hpw:(pl opv [x]).map PV.weak=pl opv [x]:=rfl
     have hs2:pl opv (zbM l i)++pl opv [x]=pl opv (zbM l (i+1)):=by rw [hsu,y9]
     have hs3:zbM l i++[x]=zbM l (i+1):=hsu.symm
     have hcl:(zbM l (i+1)).length=(zbM l i).length+1:=by rw [hsu,List.length_append];rfl
     refine .q ?_;refine .text ?_;simp (disch:=first|exact za|fail) only [go_sem,seval,-List.reduceReplicate,E,zc,ze,hag,how,hol,hfa,rr,←hxx,d3]
     refine .q ?_;refine .ifT (by simp (disch:=first|exact za|fail) only [go_sem,seval,-List.reduceReplicate]) ?_
     refine .q ?_;refine .text ?_;simp (disch:=first|exact za|fail) only [go_sem,seval,-List.reduceReplicate,E,zc,ze,hag,how,hol,←hxx,hon,hal,hpw,hs2,hs3,hle]
     refine .q ?_;refine .text ?_;simp (disch:=first|exact za|fail) only [go_sem,seval,-List.reduceReplicate,E,zc,ze]
     first | (refine ihE _ _ ?_ trivial ?_) | (refine .z rfl ?_;refine ihE _ _ ?_ trivial ?_) | (refine .z rfl ?_;refine .z rfl ?_;refine ihE _ _ ?_ trivial ?_) | (refine .z rfl ?_;refine .z rfl ?_;refine .z rfl ?_;refine ihE _ _ ?_ trivial ?_)
     · simp (disch:=first|exact za|fail) only [go_sem,seval,-List.reduceReplicate,E,zc,ze,hon,hpw,hs2,hs3,hcl]<;>(repeat' (first | rfl | refine And.intro ?_ ?_))
     · first | rfl | (simp (disch:=first|exact za|fail) only [go_sem,seval,-List.reduceReplicate,E,zc,ze,hon,hpw,hs2,hs3,hcl]<;>(try rfl))
end walks
end Go.Proofs.YtdpfkanfahchjaaDoor

/-
  The log of readings: the streams after each change.
-/
namespace Go.Proofs.YtdpfkanfahchjaaDoor
open Go Go.AL

instance:Inhabited Strm:=⟨z0S⟩
def lst (o:List Strm):Strm:=nth o (o.length - 1)
structure Hs where
 o:List Strm
 y:Nat
def hstep (h:Hs) (x:Op):Hs :=
 ⟨if x.k % 4#8 < 2#8 then (if (chg (lst h.o) x).2=true then h.o++[(chg (lst h.o) x).1] else h.o) else h.o,if x.k % 4#8=2#8 then h.o.length - 1 else h.y⟩
def yT (l:List Op) (i:Nat):Hs:=(l.take i).foldl hstep ⟨[z0S],0⟩
theorem zeB {l:List Op} {i:Nat} (h:i < l.length):yT l (i+1)=hstep (yT l i) (nth l i):=by
 rw [yT,List.take_succ_eq_append_getElem h,List.foldl_append,show l[i]=nth l i by simp [nth,h]];rfl
theorem zqu {s:Strm} {i:Int} (h:(yy s i).2=0):(yy s i).1=⟨s.l,s.gone.set i.toNat true⟩:=by
 unfold yy at h ⊢
 split
 · rename_i c;rw [if_pos c] at h;cases h
 · rename_i c
   rw [if_neg c] at h
   split
   · rename_i d;rw [if_pos d] at h;cases h
   · rfl
def SL (n:Nat) (s:Strm):Prop:=s.gone.length=s.l.length∧s.l.length≤n ∧ ∀ r∈s.l,vR r
theorem zt0 {s:Strm} {x:Op} {n:Nat} (h:SL n s):SL (n+20) (chg s x).1:=by
 obtain⟨h1,h2,h3⟩:=h
 unfold chg
 split
 · split
   · exact⟨h1,by dsimp only;omega,h3⟩
   · split
     · exact⟨h1,by dsimp only;omega,h3⟩
     · rename_i c
       rw [show ((yy s (x.a.toNat % s.l.length:Nat)).1,true).1=(yy s (x.a.toNat % s.l.length:Nat)).1 from rfl,zqu (Decidable.not_not.1 c)]
       exact⟨by dsimp only;rw [List.length_set];exact h1,by dsimp only;omega,h3⟩
 · have:=zei (l:=x.l)
   refine⟨?_,?_,?_⟩<;>dsimp only
   · simp [h1]
   · rw [List.length_append];omega
   · intro r hr
     rcases List.mem_append.1 hr with hr | hr
     · exact h3 r hr
     · exact zot r hr
theorem zfo {o:List Strm} (h:1≤o.length):lst o∈o:=zS (by omega)
theorem SL.mono {s:Strm} {n m:Nat} (h:SL n s) (hm:n≤m):SL m s:=⟨h.1,Nat.le_trans h.2.1 hm,h.2.2⟩
theorem zfp {l:List Op} : ∀ {i:Nat},i≤l.length → 1≤(yT l i).o.length∧(yT l i).o.length≤i+1∧(yT l i).y < (yT l i).o.length ∧ ∀ s∈(yT l i).o,SL (20*i) s
 | 0,_=>⟨Nat.le_refl _,Nat.le_refl _,Nat.lt_succ_self 0,fun s hs=>by
  have:s=z0S:=by simpa [yT] using hs
  subst this
  exact⟨rfl,Nat.le_refl _,fun r hr=>by cases hr⟩⟩
 | i+1,h=>by
  obtain⟨h1,h2,h3,h4⟩:=zfp (l:=l) (i:=i) (by omega)
  rw [zeB (by omega)]
  have hc:=zt0 (x:=nth l i) (h4 _ (zfo h1))
  have hmn : ∀ s∈(yT l i).o,SL (20*(i+1)) s:=fun s hs=>(h4 s hs).mono (by omega)
  unfold hstep
  dsimp only
  have hy : ∀ n,(yT l i).o.length≤n → (if (nth l i).k % 4#8=2#8 then (yT l i).o.length - 1 else (yT l i).y) < n:=fun n hn=>by split<;>omega
  split
  · split
    · refine⟨?_,?_,hy _ ?_,?_⟩
      · rw [List.length_append];omega
      · rw [List.length_append];simp only [List.length_singleton];omega
      · rw [List.length_append];omega
      · intro s hs
        rcases List.mem_append.1 hs with hs | hs
        · exact hmn s hs
        · rw [List.mem_singleton.1 hs];exact hc
    · exact⟨h1,by omega,hy _ (Nat.le_refl _),hmn⟩
  · exact⟨h1,by omega,hy _ (Nat.le_refl _),hmn⟩
def his (l:List Op):Hs:=yT l (min 12 l.length)
structure HhS where
 B:Hp
 i:Nat
structure HI (H:Hp) (l:List Op) (x:HhS):Prop where
 i:x.i≤min 12 l.length
 n:H.n+1≤x.B.n
 f:x.B.f H.n=some (.tail ((yT l x.i).o.length - 1))
 tr:x.B.trunc H.n=H
section walks
variable {G:Globs}
set_option maxHeartbeats 8000000 in
set_option maxRecDepth 20000 in
theorem zej (l:List Op) (hl:l.length≤9223372036854775807) (hx : ∀ x∈l,x.l.length≤9223372036854775807) (H:Hp) (R:AV → Hp → Prop)
 (h:R (.tup [.p (.sl false 2 (pl yt (his l).o)),.p (i64 (his l).y)]) H):ACall Tryd.prog G 27 [.p (.sl false 3 (pl opv l))] H R:=by
 have hag : ∀ x,(opv x).aggOf 0 3=opv x:=fun _=>rfl
 have how : ∀ x,(opv x).weak=opv x:=fun _=>rfl
 have hol : ∀ x,(opv x).cells.length=3:=fun _=>rfl
 have hfa : ∀ y:Op,(opv y).cells[0]? = some (b8 y.k):=fun _=>rfl
 have rr : ∀ y:BitVec 8,zo Tryd.prog .rem 5 (.p (b8 y)) (.p (b8 4#8))=some (.p (b8 (y % 4#8))):=fun y=>zay _ _ _ _ (by decide)
 refine ACall.of_run (raw:=[]) Tryd.func27 rfl Tryd.ntmps27 (by simp) fun hbel => ?_
 refine .q ?_;refine .text ?_;simp (disch:=first|exact za|fail) only [go_sem,seval,-List.reduceReplicate]
 refine .q ?_;refine .text ?_;simp (disch:=first|exact za|fail) only [go_sem,seval,-List.reduceReplicate]
 refine .q ?_;refine .own 4 (by simp (disch:=first|exact za|fail) only [go_sem,seval,-List.reduceReplicate];rfl) ?_
 refine .q ?_;refine .text ?_;simp (disch:=first|exact za|fail) only [go_sem,seval,-List.reduceReplicate]
 refine .q ?_;refine .text ?_;simp (disch:=first|exact za|fail) only [go_sem,seval,-List.reduceReplicate]
 have hz:[PV.agg [.sl false 4 [],.sl false 1 []]]=pl yt (yT l 0).o:=rfl
 have hz1:(yT l 0).o.length - 1=0:=rfl
 have hz2:(yT l 0).y=0:=rfl
 have q0:HI H l ⟨H.new (.tail 0),0⟩:=by
  refine⟨Nat.zero_le _,?_,?_,?_⟩<;>dsimp only
  · exact Nat.le_refl _
  · simp (disch:=first|exact za|fail) only [go_sem,seval,-List.reduceReplicate]
    rfl
  · simp (disch:=first|exact za|fail) only [go_sem,seval,-List.reduceReplicate]
 refine .q ?_;refine .loopK (S:=HhS) [0] (fun x=>[(4,.sl H.n ((yT l x.i).o.length - 1) 2 (pl yt (yT l x.i).o)),(5,.p (i64 (yT l x.i).y)),(6,.p (i64 x.i))]) (fun x=>x.B) (fun x=>HI H l x) (fun x=>12 - x.i) (⟨H.new (.tail 0),0⟩) ?_ (by first | rfl | (simp (disch:=first|exact za|fail) only [go_sem,seval,-List.reduceReplicate,hz,hz1,hz2]<;>rfl)) ?_ ?_
 · simp (disch:=first|exact za|fail) only [go_sem,seval,-List.reduceReplicate,hz,hz1,hz2]<;>(repeat' (first | rfl | refine And.intro ?_ ?_))
 rotate_left 1
 intro x env E hQ ihE;simp (disch:=first|exact za|fail) only [go_sem,seval,-List.reduceReplicate,hz,hz1,hz2] at E
 rotate_left 1
 · exact q0
 · obtain⟨B,i⟩:=x
   obtain⟨hi,hn,hf,tr⟩:=hQ
   dsimp only at hi hn hf tr E ⊢
   have hbelH:=hbel
   have hbel:Bel H.n B:=zX (by rw [tr];exact (Hp.trunc_self H).symm) hbelH
   obtain⟨ho1,ho2,hoy,hos⟩:=zfp (l:=l) (i:=i) (by omega)
   by_cases c0:i=min 12 l.length
   · unfold his at h
     rw [←c0] at h
     by_cases c1:l.length≤12
     · have d1:decide ((i:Int) < (l.length:Int))=false:=decide_eq_false (by omega)
       refine .q ?_;refine .text ?_;simp (disch:=first|exact za|fail) only [go_sem,seval,-List.reduceReplicate,E,d1]
       refine .q ?_;refine .ifF (by simp (disch:=first|exact za|fail) only [go_sem,seval,-List.reduceReplicate]) ?_
       refine .q ?_;refine .text ?_;simp (disch:=first|exact za|fail) only [go_sem,seval,-List.reduceReplicate,E]
       refine .q ?_;refine .rt Tryd.func27 (by rw [Tryd.results27]) (hx:=by simp (disch:=first|exact za|fail) only [go_sem,seval,-List.reduceReplicate,E,hf,tr];rfl) (hR := ?_);simp (disch:=first|exact za|fail) only [go_sem,seval,-List.reduceReplicate,E,hf,tr]
       exact h
     · have d1:decide ((i:Int) < (l.length:Int))=true:=decide_eq_true (by omega)
       have d2:decide ((i:Int) < 12)=false:=decide_eq_false (by omega)
       refine .q ?_;refine .text ?_;simp (disch:=first|exact za|fail) only [go_sem,seval,-List.reduceReplicate,E,d1,d2]
       refine .q ?_;refine .ifF (by simp (disch:=first|exact za|fail) only [go_sem,seval,-List.reduceReplicate]) ?_
       refine .q ?_;refine .text ?_;simp (disch:=first|exact za|fail) only [go_sem,seval,-List.reduceReplicate,E]
       refine .q ?_;refine .rt Tryd.func27 (by rw [Tryd.results27]) (hx:=by simp (disch:=first|exact za|fail) only [go_sem,seval,-List.reduceReplicate,E,hf,tr];rfl) (hR := ?_);simp (disch:=first|exact za|fail) only [go_sem,seval,-List.reduceReplicate,E,hf,tr]
       exact h
   · have hil:i < l.length:=by omega
     have d1:decide ((i:Int) < (l.length:Int))=true:=decide_eq_true (by omega)
     have d2:decide ((i:Int) < 12)=true:=decide_eq_true (by omega)
     have hsu:=zeB hil
     have hxl:=hx _ (zS hil)
     refine .q ?_;refine .text ?_;simp (disch:=first|exact za|fail) only [go_sem,seval,-List.reduceReplicate,E,d1,d2]
     refine .q ?_;refine .ifT (by simp (disch:=first|exact za|fail) only [go_sem,seval,-List.reduceReplicate]) ?_
     obtain⟨x,hxx⟩ : ∃ x,x=nth l i:=⟨_,rfl⟩
     rw [←hxx] at hsu hxl
     refine .q ?_;refine .text ?_;simp (disch:=first|exact za|fail) only [go_sem,seval,-List.reduceReplicate,E,hag,how,hol,hfa,rr,←hxx]
     obtain⟨o,ho⟩ : ∃ o,o=(yT l i).o:=⟨_,rfl⟩
     obtain⟨y,hy⟩ : ∃ y,y=(yT l i).y:=⟨_,rfl⟩
     have hst:yT l i=⟨o,y⟩:=by rw [ho,hy]
     rw [←ho] at ho1 ho2 hos hoy hf
     rw [hst] at hsu
     obtain⟨s,hs⟩ : ∃ s,s=lst o:=⟨_,rfl⟩
     have hsm:SL (20*i) s:=by rw [hs];exact hos _ (zfo ho1)
     have hol1:(o.length:Int) - 1=((o.length - 1:Nat):Int):=by omega
     unfold hstep at hsu
     dsimp only at hsu
     rw [←hs] at hsu
     obtain⟨y',hy'⟩ : ∃ y',y'=if x.k % 4#8=2#8 then o.length - 1 else y:=⟨_,rfl⟩
     rw [←hy'] at hsu
     refine .q ?_;refine .cutE [0,4,6] [(5,.p (i64 (y':Nat)))] [] (fun ihF => ?_) (fun env F => ?_)
     rotate_left 1
     simp (disch:=first|exact za|fail) only [go_sem,seval,-List.reduceReplicate,E,←ho,←hy] at F
     rotate_left 1
     · by_cases k2:x.k % 4#8=2#8
       · have dk:(x.k % 4#8 == 2#8)=true:=by simpa using k2
         rw [if_pos k2] at hy'
         refine .q ?_;refine .ifT (by simp (disch:=first|exact za|fail) only [go_sem,seval,-List.reduceReplicate,dk]) ?_
         refine .q ?_;refine .text ?_;simp (disch:=first|exact za|fail) only [go_sem,seval,-List.reduceReplicate,E,←ho,hol1]
         first | (refine ihF _ _ ?_ ?_) | (refine .z rfl ?_;refine ihF _ _ ?_ ?_) | (refine .z rfl ?_;refine .z rfl ?_;refine ihF _ _ ?_ ?_) | (refine .z rfl ?_;refine .z rfl ?_;refine .z rfl ?_;refine ihF _ _ ?_ ?_)
         · simp (disch:=first|exact za|fail) only [go_sem,seval,-List.reduceReplicate,E,hy']<;>(repeat' (first | rfl | refine And.intro ?_ ?_))
         · first | rfl | (simp (disch:=first|exact za|fail) only [go_sem,seval,-List.reduceReplicate,E,hy']<;>(try rfl))
       · have dk:(x.k % 4#8 == 2#8)=false:=by simpa using k2
         rw [if_neg k2] at hy'
         refine .q ?_;refine .ifF (by simp (disch:=first|exact za|fail) only [go_sem,seval,-List.reduceReplicate,dk]) ?_
         refine .skip ?_
         first | (refine ihF _ _ ?_ ?_) | (refine .z rfl ?_;refine ihF _ _ ?_ ?_) | (refine .z rfl ?_;refine .z rfl ?_;refine ihF _ _ ?_ ?_) | (refine .z rfl ?_;refine .z rfl ?_;refine .z rfl ?_;refine ihF _ _ ?_ ?_)
         · simp (disch:=first|exact za|fail) only [go_sem,seval,-List.reduceReplicate,E,hy',hy]<;>(repeat' (first | rfl | refine And.intro ?_ ?_))
         · first | rfl | (simp (disch:=first|exact za|fail) only [go_sem,seval,-List.reduceReplicate,E,hy',hy]<;>(try rfl))
     refine .q ?_;refine .text ?_;simp (disch:=first|exact za|fail) only [go_sem,seval,-List.reduceReplicate,F,E,hag,how,hol,hfa,rr,←hxx]
     by_cases k3:x.k % 4#8 < 2#8
     rotate_left
     · have dk:decide (x.k % 4#8 < 2#8)=false:=decide_eq_false k3
       rw [if_neg k3] at hsu
       have hmu:12 - (i+1) < 12 - i:=by omega
       have s1:(yT l (i+1)).o=o:=by rw [hsu]
       have s2:(yT l (i+1)).y=y':=by rw [hsu]
       refine .q ?_;refine .ifF (by simp (disch:=first|exact za|fail) only [go_sem,seval,-List.reduceReplicate,dk]) ?_
       refine .skip ?_
       refine .q ?_;refine .text ?_;simp (disch:=first|exact za|fail) only [go_sem,seval,-List.reduceReplicate,F,E]
       first | (refine ihE (⟨B,i+1⟩) _ _ ?_ ?_ ⟨by dsimp only;omega,hn,(by rw [s1];exact hf),tr⟩ ?_) | (refine .z rfl ?_;refine ihE (⟨B,i+1⟩) _ _ ?_ ?_ ⟨by dsimp only;omega,hn,(by rw [s1];exact hf),tr⟩ ?_) | (refine .z rfl ?_;refine .z rfl ?_;refine ihE (⟨B,i+1⟩) _ _ ?_ ?_ ⟨by dsimp only;omega,hn,(by rw [s1];exact hf),tr⟩ ?_) | (refine .z rfl ?_;refine .z rfl ?_;refine .z rfl ?_;refine ihE (⟨B,i+1⟩) _ _ ?_ ?_ ⟨by dsimp only;omega,hn,(by rw [s1];exact hf),tr⟩ ?_)
       rotate_left 1
       · simp (disch:=first|exact za|fail) only [go_sem,seval,-List.reduceReplicate,E,F,s1,s2,←ho]<;>(repeat' (first | rfl | refine And.intro ?_ ?_))
       · first | rfl | (simp (disch:=first|exact za|fail) only [go_sem,seval,-List.reduceReplicate,E,F,s1,s2,←ho]<;>(try rfl))
       · exact hmu
     have dk:decide (x.k % 4#8 < 2#8)=true:=decide_eq_true k3
     rw [if_pos k3] at hsu
     refine .q ?_;refine .ifT (by simp (disch:=first|exact za|fail) only [go_sem,seval,-List.reduceReplicate,dk]) ?_
     obtain⟨V,hV⟩ : ∃ V,V=chg s x:=⟨_,rfl⟩
     have hch : ∀ (B:Hp) (R:AV → Hp → Prop),R (.tup [.p (yt V.1),.p (bo V.2)]) B → ACall Tryd.prog G 58 [.p (yt s),.p (opv x)] B R:=fun B R h=>zld s x ⟨hsm.1,by have:=hsm.2.1;omega⟩ (by have:=hsm.2.1;omega) hxl B R (by rw [hV] at h;exact h)
     rw [←hV] at hsu
     have hBn:=Hp.lt hf
     obtain⟨C,hC⟩ : ∃ C,C=B.new (.cells [.p (.sl false 4 (pl zv V.1.l)),.p (.sl false 1 (pl bo V.1.gone))]):=⟨_,rfl⟩
     have hsn:nth o (o.length - 1)=s:=hs.symm
     have hsc:(yt s).cells.length=2:=rfl
     have hsa:(yt s).aggOf 0 2=yt s:=rfl
     have hsw : ∀ s,(yt s).weak=yt s:=fun _=>rfl
     have hoi:o.length - 1 < o.length:=by omega
     refine .q ?_;refine .cutH [0,4,5,6] [(7,.ptr B.n 0),(8,.p (bo V.2))] (C) (fun ihD => ?_) (fun env D => ?_)
     rotate_left 1
     simp (disch:=first|exact za|fail) only [go_sem,seval,-List.reduceReplicate,F,E,←ho] at D
     rotate_left 1
     · refine .openTr (.one 0 (.one 1 (.one 2 (.one 3 (.one 4 (.one 5 (.one 6 (.one 7 (.one 8 (.one 9 (.fork 10 14 (.lin [11,12,13,14,15,16]) (.lin [10,11,12,13,15,16])))))))))))) [14,15] follows (by kernel_rfl) ?_
       refine zl (.sl H.n (o.length - 1) 2 (pl yt o)) rfl rfl (by simp (disch:=first|exact za|fail) only [go_sem,seval,-List.reduceReplicate,F,E,←ho]<;>rfl) rfl ?_
       refine zl (.sl H.n (o.length - 1) 2 (pl yt o)) rfl rfl (by simp (disch:=first|exact za|fail) only [go_sem,seval,-List.reduceReplicate,F,E,←ho]<;>rfl) rfl ?_
       refine zl (.p (i64 o.length)) rfl rfl (by simp (disch:=first|exact za|fail) only [go_sem,seval,-List.reduceReplicate,F,E,←ho]<;>rfl) rfl ?_
       refine zl (.p (i64 (o.length - 1:Nat))) rfl rfl (by simp (disch:=first|exact za|fail) only [go_sem,seval,-List.reduceReplicate,F,E,hol1]<;>rfl) rfl ?_
       refine zl (.ip 2 (pl yt o) (o.length - 1) 0) rfl rfl (by simp (disch:=first|exact za|fail) only [go_sem,seval,-List.reduceReplicate,F,E,hoi]<;>rfl) rfl ?_
       refine zl (.p (yt s)) rfl rfl (by simp (disch:=first|exact za|fail) only [go_sem,seval,-List.reduceReplicate,F,E,hoi,hsn,hsc,hsa]<;>rfl) rfl ?_
       refine zl (.p (.sl false 3 (pl opv l))) rfl rfl (by simp (disch:=first|exact za|fail) only [go_sem,seval,-List.reduceReplicate,F,E]<;>rfl) rfl ?_
       refine zl (.p (i64 i)) rfl rfl (by simp (disch:=first|exact za|fail) only [go_sem,seval,-List.reduceReplicate,F,E]<;>rfl) rfl ?_
       refine zl (.ip 3 (pl opv l) i 0) rfl rfl (by simp (disch:=first|exact za|fail) only [go_sem,seval,-List.reduceReplicate,F,E]<;>rfl) rfl ?_
       refine zl (.p (opv x)) rfl rfl (by simp (disch:=first|exact za|fail) only [go_sem,seval,-List.reduceReplicate,F,E,hag,hol,←hxx]<;>rfl) rfl ?_
       refine And.intro (yA (.tup [.p (yt V.1),.p (bo V.2)]) rfl rfl (by simp (disch:=first|exact za|fail) only [go_sem,seval,-List.reduceReplicate,hsw,how]<;>rfl) (by rfl) rfl (fun R h=>hch _ R h) ?_) ?_
       · refine zA [3,4] (by kernel_rfl) ?_
         simp (disch:=first|exact za|fail) only [go_sem,seval,-List.reduceReplicate]
         first | (refine ihD _ _ ?_ ?_) | (refine .z rfl ?_;refine ihD _ _ ?_ ?_) | (refine .z rfl ?_;refine .z rfl ?_;refine ihD _ _ ?_ ?_) | (refine .z rfl ?_;refine .z rfl ?_;refine .z rfl ?_;refine ihD _ _ ?_ ?_)
         · simp (disch:=first|exact za|fail) only [go_sem,seval,-List.reduceReplicate,F,E,←ho]<;>(repeat' (first | rfl | refine And.intro ?_ ?_))
         · exact hC.symm
       · refine yc (.ptr B.n 0) rfl rfl (by simp (disch:=first|exact za|fail) only [go_sem,seval,-List.reduceReplicate]<;>rfl) rfl ?_
         refine zA [4] (by kernel_rfl) ?_
         simp (disch:=first|exact za|fail) only [go_sem,seval,-List.reduceReplicate,hsw,how]
         refine CallD.still (fun R h=>hch _ R h) ?_;simp (disch:=first|exact za|fail) only [go_sem,seval,-List.reduceReplicate,hsw]
         first | (refine ihD _ _ ?_ ?_) | (refine .z rfl ?_;refine ihD _ _ ?_ ?_) | (refine .z rfl ?_;refine .z rfl ?_;refine ihD _ _ ?_ ?_) | (refine .z rfl ?_;refine .z rfl ?_;refine .z rfl ?_;refine ihD _ _ ?_ ?_)
         · simp (disch:=first|exact za|fail) only [go_sem,seval,-List.reduceReplicate,F,E,←ho]<;>(repeat' (first | rfl | refine And.intro ?_ ?_))
         · exact hC.symm
     · subst hC
       have hmu:12 - (i+1) < 12 - i:=by omega
       have hfC : ∀ c,(B.new c).f H.n=some (.tail (o.length - 1)):=fun c=>by rw [Hp.f_new_old _ _ _ hBn];exact hf
       have htC : ∀ c,(B.new c).trunc H.n=H:=fun c=>by rw [Hp.trunc_new _ _ _ (by omega)];exact tr
       cases hv:V.2 with
       | false =>
        rw [if_neg (by rw [hv];decide)] at hsu
        have s1:(yT l (i+1)).o=o:=by rw [hsu]
        have s2:(yT l (i+1)).y=y':=by rw [hsu]
        refine .q ?_;refine .text ?_;simp (disch:=first|exact za|fail) only [go_sem,seval,-List.reduceReplicate,D,F,E,hv]
        refine .q ?_;refine .ifF (by simp (disch:=first|exact za|fail) only [go_sem,seval,-List.reduceReplicate]) ?_
        refine .skip ?_
        refine .q ?_;refine .text ?_;simp (disch:=first|exact za|fail) only [go_sem,seval,-List.reduceReplicate,D,F,E]
        first | (refine ihE (⟨B.new (.cells [.p (.sl false 4 (pl zv V.1.l)),.p (.sl false 1 (pl bo V.1.gone))]),i+1⟩) _ _ ?_ ?_ ⟨by dsimp only;omega,(by show _≤B.n+1;omega),(by dsimp only;rw [s1];exact hfC _),htC _⟩ ?_) | (refine .z rfl ?_;refine ihE (⟨B.new (.cells [.p (.sl false 4 (pl zv V.1.l)),.p (.sl false 1 (pl bo V.1.gone))]),i+1⟩) _ _ ?_ ?_ ⟨by dsimp only;omega,(by show _≤B.n+1;omega),(by dsimp only;rw [s1];exact hfC _),htC _⟩ ?_) | (refine .z rfl ?_;refine .z rfl ?_;refine ihE (⟨B.new (.cells [.p (.sl false 4 (pl zv V.1.l)),.p (.sl false 1 (pl bo V.1.gone))]),i+1⟩) _ _ ?_ ?_ ⟨by dsimp only;omega,(by show _≤B.n+1;omega),(by dsimp only;rw [s1];exact hfC _),htC _⟩ ?_) | (refine .z rfl ?_;refine .z rfl ?_;refine .z rfl ?_;refine ihE (⟨B.new (.cells [.p (.sl false 4 (pl zv V.1.l)),.p (.sl false 1 (pl bo V.1.gone))]),i+1⟩) _ _ ?_ ?_ ⟨by dsimp only;omega,(by show _≤B.n+1;omega),(by dsimp only;rw [s1];exact hfC _),htC _⟩ ?_)
        rotate_left 1
        · simp (disch:=first|exact za|fail) only [go_sem,seval,-List.reduceReplicate,D,E,F,s1,s2,←ho]<;>(repeat' (first | rfl | refine And.intro ?_ ?_))
        · first | rfl | (simp (disch:=first|exact za|fail) only [go_sem,seval,-List.reduceReplicate,D,E,F,s1,s2,←ho]<;>(try rfl))
        · exact hmu
       | true =>
        rw [if_pos hv] at hsu
        have s1:(yT l (i+1)).o=o++[V.1]:=by rw [hsu]
        have s2:(yT l (i+1)).y=y':=by rw [hsu]
        refine .q ?_;refine .text ?_;simp (disch:=first|exact za|fail) only [go_sem,seval,-List.reduceReplicate,D,F,E,hv]
        refine .q ?_;refine .ifT (by simp (disch:=first|exact za|fail) only [go_sem,seval,-List.reduceReplicate]) ?_
        have hone:pl yt o++[PV.agg [PV.sl false 4 (pl zv V.1.l),PV.sl false 1 (pl bo V.1.gone)]]=pl yt (o++[V.1]):=by rw [←y9];rfl
        have hle:(o++[V.1]).length - 1=o.length - 1+1:=by rw [List.length_append];simp only [List.length_singleton];omega
        have hle3:o.length - 1+1=o.length:=by omega
        have q1 : ∀ c,((B.set H.n (.tail (o.length - 1+1))).new c).f H.n=some (.tail (o.length - 1+1)):=fun c=>by
         rw [Hp.f_new_old _ _ _ (by show H.n < B.n;omega)];simp (disch:=first|exact za|fail) only [go_sem,seval,-List.reduceReplicate]
        have q2 : ∀ c,((B.set H.n (.tail (o.length - 1+1))).new c).trunc H.n=H:=fun c=>by
         rw [Hp.trunc_new _ _ _ (by show H.n≤B.n;omega),Hp.trunc_set _ _ _ _ (by omega)];exact tr
        have hle2:(yT l (i+1)).o.length - 1=o.length - 1+1:=by rw [s1];exact hle
        refine .q ?_;refine .text ?_;simp (disch:=first|exact za|fail) only [go_sem,seval,-List.reduceReplicate,D,F,E,hfC,←ho,hone]
        refine .q ?_;refine .text ?_;simp (disch:=first|exact za|fail) only [go_sem,seval,-List.reduceReplicate,D,F,E]
        first | (refine ihE (⟨(B.set H.n (.tail (o.length - 1+1))).new (.cells [.p (.sl false 4 (pl zv V.1.l)),.p (.sl false 1 (pl bo V.1.gone))]),i+1⟩) _ _ ?_ ?_ ⟨by dsimp only;omega,(by show _≤B.n+1;omega),(by dsimp only;rw [hle2];exact q1 _),q2 _⟩ ?_) | (refine .z rfl ?_;refine ihE (⟨(B.set H.n (.tail (o.length - 1+1))).new (.cells [.p (.sl false 4 (pl zv V.1.l)),.p (.sl false 1 (pl bo V.1.gone))]),i+1⟩) _ _ ?_ ?_ ⟨by dsimp only;omega,(by show _≤B.n+1;omega),(by dsimp only;rw [hle2];exact q1 _),q2 _⟩ ?_) | (refine .z rfl ?_;refine .z rfl ?_;refine ihE (⟨(B.set H.n (.tail (o.length - 1+1))).new (.cells [.p (.sl false 4 (pl zv V.1.l)),.p (.sl false 1 (pl bo V.1.gone))]),i+1⟩) _ _ ?_ ?_ ⟨by dsimp only;omega,(by show _≤B.n+1;omega),(by dsimp only;rw [hle2];exact q1 _),q2 _⟩ ?_) | (refine .z rfl ?_;refine .z rfl ?_;refine .z rfl ?_;refine ihE (⟨(B.set H.n (.tail (o.length - 1+1))).new (.cells [.p (.sl false 4 (pl zv V.1.l)),.p (.sl false 1 (pl bo V.1.gone))]),i+1⟩) _ _ ?_ ?_ ⟨by dsimp only;omega,(by show _≤B.n+1;omega),(by dsimp only;rw [hle2];exact q1 _),q2 _⟩ ?_)
        rotate_left 1
        · simp (disch:=first|exact za|fail) only [go_sem,seval,-List.reduceReplicate,D,E,F,s1,s2,hle,hle3,hone,←ho]<;>(repeat' (first | rfl | refine And.intro ?_ ?_))
        · first | rfl | (simp (disch:=first|exact za|fail) only [go_sem,seval,-List.reduceReplicate,D,E,F,s1,s2,hle,hle3,hone,←ho]<;>(try rfl))
        · exact hmu
end walks
end Go.Proofs.YtdpfkanfahchjaaDoor

/-
  The log of readings: a record with a right digest.
-/
namespace Go.Proofs.YtdpfkanfahchjaaDoor
open Go Go.AL

noncomputable def zdF (d:By) (n k:Nat) (a:Nat):Bool :=
 if h:a+13≤d.length then
  if d.length - a - 13 < val ((d.drop a).take 4) then false
  else if k < a+13+val ((d.drop a).take 4) then
   decide (k < n) && decide ((sha ((d.drop (a+4)).take (1+val ((d.drop a).take 4)))).take 8=(d.drop (a+5+val ((d.drop a).take 4))).take 8)
  else zdF d n k (a+13+val ((d.drop a).take 4))
 else false
termination_by d.length - a
theorem zt1 {d:By} {a:Nat} (h:a+4≤d.length):val ((d.drop a).take 4)=(nth d a).toNat+(nth d (a+1)).toNat*2 ^ 8+(nth d (a+2)).toNat*2 ^ 16+(nth d (a+3)).toNat*2 ^ 24:=by
 have e:(d.drop a).take 4=[nth d a,nth d (a+1),nth d (a+2),nth d (a+3)]:=by
  refine List.ext_getElem? fun i => ?_
  rw [List.getElem?_take]
  by_cases c:i < 4
  · rw [if_pos c,List.getElem?_drop]
    have:i=0 ∨ i=1 ∨ i=2 ∨ i=3:=by omega
    rcases this with rfl | rfl | rfl | rfl<;>simp [nth,show a < d.length by omega,show a+1 < d.length by omega,show a+2 < d.length by omega,show a+3 < d.length by omega]
  · rw [if_neg c,List.getElem?_eq_none (by simp;omega)]
 rw [e]
 simp only [val]
 omega
section walks
variable {G:Globs}
set_option maxHeartbeats 8000000 in
set_option maxRecDepth 20000 in
theorem zg2 (d:By) (n k:Nat) (hd:d.length≤140737488353000) (hn:n≤140737488353000) (hk:k≤140737488353000) (H:Hp) (R:AV → Hp → Prop)
 (h:R (.p (bo (zdF d n k 0))) H):ACall Tryd.prog G 28 [.p (.sl false 1 (pl b8 d)),.p (i64 n),.p (i64 k)] H R:=by
 refine ACall.of_run (raw:=[]) Tryd.func28 rfl Tryd.ntmps28 (by simp) fun hbel => ?_
 refine .q ?_;refine .text ?_;simp (disch:=first|exact za|fail) only [go_sem,seval,-List.reduceReplicate]
 refine .q ?_;refine .text ?_;simp (disch:=first|exact za|fail) only [go_sem,seval,-List.reduceReplicate]
 refine .q ?_;refine .loopT (S:=Nat) [0,1,2] (fun a=>[(7,.p (i64 (a:Nat)))]) (fun a=>[]) (fun a=>a≤d.length∧zdF d n k a=zdF d n k 0) (fun a=>d.length - a) (0) ?_ (by first | rfl | (simp (disch:=first|exact za|fail) only [go_sem,seval,-List.reduceReplicate]<;>rfl)) ?_ ?_
 · simp (disch:=first|exact za|fail) only [go_sem,seval,-List.reduceReplicate]<;>(repeat' (first | rfl | refine And.intro ?_ ?_))
 rotate_left 1
 intro a env E hQ ihE;simp (disch:=first|exact za|fail) only [go_sem,seval,-List.reduceReplicate] at E
 rotate_left 1
 · exact⟨Nat.zero_le _,rfl⟩
 · obtain⟨hal,hQ⟩:=hQ
   by_cases c1:a+13≤d.length
   rotate_left
   · have d1:decide ((a:Int)+13≤(d.length:Int))=false:=decide_eq_false (by omega)
     have hv:zdF d n k a=false:=by rw [zdF,dif_neg c1]
     rw [←hQ,hv] at h
     refine .q ?_;refine .text ?_;simp (disch:=first|exact za|fail) only [go_sem,seval,-List.reduceReplicate,E,d1]
     refine .q ?_;refine .ifF (by simp (disch:=first|exact za|fail) only [go_sem,seval,-List.reduceReplicate]) ?_
     refine .q ?_;refine .text ?_;simp (disch:=first|exact za|fail) only [go_sem,seval,-List.reduceReplicate,E]
     refine .q ?_;refine .rt Tryd.func28 (by rw [Tryd.results28]) (hx:=by simp (disch:=first|exact za|fail) only [go_sem,seval,-List.reduceReplicate,E];rfl) (hR := ?_);simp (disch:=first|exact za|fail) only [go_sem,seval,-List.reduceReplicate,E]
     exact h
   have d1:decide ((a:Int)+13≤(d.length:Int))=true:=decide_eq_true (by omega)
   have hv4:=zt1 (d:=d) (a:=a) (by omega)
   obtain⟨v,hv⟩ : ∃ v,v=val ((d.drop a).take 4):=⟨_,rfl⟩
   have hu:zdF d n k a=if d.length - a - 13 < v then false else if k < a+13+v then decide (k < n) && decide ((sha ((d.drop (a+4)).take (1+v))).take 8=(d.drop (a+5+v)).take 8) else zdF d n k (a+13+v):=by
    rw [zdF,dif_pos c1,←hv]
   rw [←hv] at hv4
   have b0:=(nth d a).isLt
   have b1:=(nth d (a+1)).isLt
   have b2:=(nth d (a+2)).isLt
   have b3:=(nth d (a+3)).isLt
   obtain⟨x0,hx0⟩ : ∃ x,x=(nth d a).toNat:=⟨_,rfl⟩
   obtain⟨x1,hx1⟩ : ∃ x,x=(nth d (a+1)).toNat:=⟨_,rfl⟩
   obtain⟨x2,hx2⟩ : ∃ x,x=(nth d (a+2)).toNat:=⟨_,rfl⟩
   obtain⟨x3,hx3⟩ : ∃ x,x=(nth d (a+3)).toNat:=⟨_,rfl⟩
   rw [←hx0] at b0 hv4
   rw [←hx1] at b1 hv4
   rw [←hx2] at b2 hv4
   rw [←hx3] at b3 hv4
   have s1:zo Tryd.prog .shl 3 (.p (i64 (x1:Nat))) (.p (yJ 8#64))=some (.p (i64 ((x1*2 ^ 8:Nat):Int))):=by
    rw [show ∀ x,zo Tryd.prog .shl 3 (.p (i64 x)) (.p (yJ 8#64))=some (.p (i64 (IntKind.i64.wrap (x*2 ^ 8)))) from fun _=>rfl,yj (by omega) (by omega)];rfl
   have s2:zo Tryd.prog .shl 3 (.p (i64 (x2:Nat))) (.p (yJ 16#64))=some (.p (i64 ((x2*2 ^ 16:Nat):Int))):=by
    rw [show ∀ x,zo Tryd.prog .shl 3 (.p (i64 x)) (.p (yJ 16#64))=some (.p (i64 (IntKind.i64.wrap (x*2 ^ 16)))) from fun _=>rfl,yj (by omega) (by omega)];rfl
   have s3:zo Tryd.prog .shl 3 (.p (i64 (x3:Nat))) (.p (yJ 24#64))=some (.p (i64 ((x3*2 ^ 24:Nat):Int))):=by
    rw [show ∀ x,zo Tryd.prog .shl 3 (.p (i64 x)) (.p (yJ 24#64))=some (.p (i64 (IntKind.i64.wrap (x*2 ^ 24)))) from fun _=>rfl,yj (by omega) (by omega)];rfl
   have o1:=zcf (P:=Tryd.prog) (t:=3) (a:=x0) (b:=x1) (k:=8) (by omega) (by omega)
   have o2:=zcf (P:=Tryd.prog) (t:=3) (a:=x0+x1*2 ^ 8) (b:=x2) (k:=16) (by omega) (by omega)
   have o3:=zcf (P:=Tryd.prog) (t:=3) (a:=x0+x1*2 ^ 8+x2*2 ^ 16) (b:=x3) (k:=24) (by omega) (by omega)
   rw [←hv4] at o3
   obtain⟨y1,hy1⟩ : ∃ y,y=x1*2 ^ 8:=⟨_,rfl⟩
   obtain⟨y2,hy2⟩ : ∃ y,y=x2*2 ^ 16:=⟨_,rfl⟩
   obtain⟨y3,hy3⟩ : ∃ y,y=x3*2 ^ 24:=⟨_,rfl⟩
   rw [←hy1] at s1 o1 o2 o3
   rw [←hy2] at s2 o2 o3
   rw [←hy3] at s3 o3
   obtain⟨z1,hz1⟩ : ∃ z,z=x0+y1:=⟨_,rfl⟩
   rw [←hz1] at o1 o2 o3
   obtain⟨z2,hz2⟩ : ∃ z,z=z1+y2:=⟨_,rfl⟩
   rw [←hz2] at o2 o3
   have hvl:v < 4294967296:=by omega
   clear hv4
   refine .q ?_;refine .text ?_;simp (disch:=first|exact za|fail) only [go_sem,seval,-List.reduceReplicate,E,ze,d1]
   refine .q ?_;refine .ifT (by simp (disch:=first|exact za|fail) only [go_sem,seval,-List.reduceReplicate]) ?_
   refine .q ?_;refine .open [] follows (by kernel_rfl) ?_;simp (disch:=first|exact za|fail) only [go_sem,seval,-List.reduceReplicate,E,←hx0,←hx1,←hx2,←hx3,s1,s2,s3,o1,o2,o3]
   by_cases c2:d.length - a - 13 < v
   · have d2:decide ((d.length:Int) - (a:Int) - 13 < (v:Int))=true:=decide_eq_true (by omega)
     rw [←hQ,hu,if_pos c2] at h
     refine .q ?_;refine .text ?_;simp (disch:=first|exact za|fail) only [go_sem,seval,-List.reduceReplicate,E,d2]
     refine .q ?_;refine .ifT (by simp (disch:=first|exact za|fail) only [go_sem,seval,-List.reduceReplicate]) ?_
     refine .q ?_;refine .text ?_;simp (disch:=first|exact za|fail) only [go_sem,seval,-List.reduceReplicate,E]
     refine .q ?_;refine .rt Tryd.func28 (by rw [Tryd.results28]) (hx:=by simp (disch:=first|exact za|fail) only [go_sem,seval,-List.reduceReplicate,E];rfl) (hR := ?_);simp (disch:=first|exact za|fail) only [go_sem,seval,-List.reduceReplicate,E]
     exact h
   have d2:decide ((d.length:Int) - (a:Int) - 13 < (v:Int))=false:=decide_eq_false (by omega)
   rw [if_neg c2] at hu
   refine .q ?_;refine .text ?_;simp (disch:=first|exact za|fail) only [go_sem,seval,-List.reduceReplicate,E,d2]
   refine .q ?_;refine .ifF (by simp (disch:=first|exact za|fail) only [go_sem,seval,-List.reduceReplicate]) ?_
   refine .skip ?_
   by_cases c3:k < a+13+v
   rotate_left
   · have d3:decide ((k:Int) < (a:Int)+13+(v:Int))=false:=decide_eq_false (by omega)
     rw [if_neg c3] at hu
     have hmu:d.length - (a+13+v) < d.length - a:=by omega
     have hnv:((a+13+v:Nat):Int)=(a:Int)+13+(v:Int):=by omega
     refine .q ?_;refine .text ?_;simp (disch:=first|exact za|fail) only [go_sem,seval,-List.reduceReplicate,E,d3]
     refine .q ?_;refine .ifF (by simp (disch:=first|exact za|fail) only [go_sem,seval,-List.reduceReplicate]) ?_
     refine .skip ?_
     refine .q ?_;refine .text ?_;simp (disch:=first|exact za|fail) only [go_sem,seval,-List.reduceReplicate,E]
     first | (refine ihE (a+13+v) _ _ ?_ ?_ ⟨by omega,by rw [←hu];exact hQ⟩ ?_) | (refine .z rfl ?_;refine ihE (a+13+v) _ _ ?_ ?_ ⟨by omega,by rw [←hu];exact hQ⟩ ?_) | (refine .z rfl ?_;refine .z rfl ?_;refine ihE (a+13+v) _ _ ?_ ?_ ⟨by omega,by rw [←hu];exact hQ⟩ ?_) | (refine .z rfl ?_;refine .z rfl ?_;refine .z rfl ?_;refine ihE (a+13+v) _ _ ?_ ?_ ⟨by omega,by rw [←hu];exact hQ⟩ ?_)
     rotate_left 1
     · simp (disch:=first|exact za|fail) only [go_sem,seval,-List.reduceReplicate,E,hnv]<;>(repeat' (first | rfl | refine And.intro ?_ ?_))
     · first | rfl | (simp (disch:=first|exact za|fail) only [go_sem,seval,-List.reduceReplicate,E,hnv]<;>(try rfl))
     · exact hmu
   have d3:decide ((k:Int) < (a:Int)+13+(v:Int))=true:=decide_eq_true (by omega)
   rw [if_pos c3] at hu
   refine .q ?_;refine .text ?_;simp (disch:=first|exact za|fail) only [go_sem,seval,-List.reduceReplicate,E,d3]
   refine .q ?_;refine .ifT (by simp (disch:=first|exact za|fail) only [go_sem,seval,-List.reduceReplicate]) ?_
   by_cases c4:k < n
   rotate_left
   · have d4:decide ((k:Int) < (n:Int))=false:=decide_eq_false (by omega)
     rw [←hQ,hu,decide_eq_false c4,Bool.false_and] at h
     refine .q ?_;refine .open [] follows (by kernel_rfl) ?_;simp (disch:=first|exact za|fail) only [go_sem,seval,-List.reduceReplicate,E,d4]
     refine .q ?_;refine .rt Tryd.func28 (by rw [Tryd.results28]) (hx:=by simp (disch:=first|exact za|fail) only [go_sem,seval,-List.reduceReplicate,E];rfl) (hR := ?_);simp (disch:=first|exact za|fail) only [go_sem,seval,-List.reduceReplicate,E]
     exact h
   have d4:decide ((k:Int) < (n:Int))=true:=decide_eq_true (by omega)
   rw [decide_eq_true c4,Bool.true_and] at hu
   rw [←hQ,hu] at h
   have i1:((a:Int)+4).toNat=a+4:=by omega
   have i2:((a:Int)+5+(v:Int)).toNat=a+5+v:=by omega
   have i3:((a:Int)+13+(v:Int)).toNat=a+13+v:=by omega
   have e1:(d.take (a+5+v)).drop (a+4)=(d.drop (a+4)).take (1+v):=by rw [List.drop_take,show a+5+v - (a+4)=1+v by omega]
   have e2:(d.take (a+13+v)).drop (a+5+v)=(d.drop (a+5+v)).take 8:=by rw [List.drop_take,show a+13+v - (a+5+v)=8 by omega]
   obtain⟨m,hm⟩ : ∃ m,m=(d.drop (a+4)).take (1+v):=⟨_,rfl⟩
   have hml:m.length≤140737488353000:=by rw [hm,List.length_take,List.length_drop];omega
   rw [←hm] at e1 h
   refine .q ?_;refine .open [] follows (by kernel_rfl) ?_;simp (disch:=first|exact za|fail) only [go_sem,seval,-List.reduceReplicate,E,d4,i1,i2,i3,e1,e2]
   refine CallD.still (fun R h=>zd8 m (by omega) _ R h) ?_;simp (disch:=first|exact za|fail) only [go_sem,seval,-List.reduceReplicate,E,d4,i1,i2,i3,e1,e2,zQ,zcg]
   refine .q ?_;refine .rt Tryd.func28 (by rw [Tryd.results28]) (hx:=by simp (disch:=first|exact za|fail) only [go_sem,seval,-List.reduceReplicate,E];rfl) (hR := ?_);simp (disch:=first|exact za|fail) only [go_sem,seval,-List.reduceReplicate,E]
   exact h
end walks
end Go.Proofs.YtdpfkanfahchjaaDoor

/-
  The log of readings: plain facts for the laws.
-/
namespace Go.Proofs.YtdpfkanfahchjaaDoor
open Go Go.AL

theorem zwU {s s':Strm} {k:BitVec 8} {p:By} (h:zV s k p=some s') (hs : ∀ r∈s.l,vR r) : ∀ r∈s'.l,vR r:=by
 unfold zV at h
 split at h
 · split at h
   · split at h
     · rename_i q
       cases h
       intro r hr
       rcases List.mem_append.1 hr with hr | hr
       · exact hs r hr
       · exact zor q.2.2.1 r hr
     · cases h
   · cases h
 · split at h
   · unfold zdz at h
     split at h
     · cases h;exact hs
     · cases h
   · cases h
theorem Log.v {s t:Strm} {b:By} (h:Log s b t) (hs : ∀ r∈s.l,vR r) : ∀ r∈t.l,vR r:=by
 induction h with
 | nil s=>exact hs
 | cons _ h _ ih=>exact ih (zwU h hs)
theorem zwV {d:By} : ∀ r∈(lS d).l,vR r:=zgt.1.v (by intro r hr;cases hr)
theorem zle {l:List Rdg} (h : ∀ r∈l,vR r) (hl:l.length≤4096):yC (l.length:Int) (pkc l 4)=(l,0):=by
 have hsn:zkH l.length (fun k=>(pkc l 4)[k]?.getD []):=fun k hk=>by
  dsimp only
  rw [zam hk];exact zkI h k hk
 have hseg:zbI l.length (fun k=>(pkc l 4)[k]?.getD [])=l:=by
  have:=zeP h
  unfold zbI at this ⊢
  conv=>rhs;rw [←this]
  apply List.map_congr_left
  intro i _
  simp only [mkR,zam (show 0 < 4 by decide),zam (show 1 < 4 by decide),zam (show 2 < 4 by decide),zam (show 3 < 4 by decide)]
 have hok:zgV (l.length:Int) (pkc l 4):=⟨by omega,by omega,zbC,by rw [Int.toNat_natCast];exact hsn⟩
 unfold yC
 rw [if_pos hok,Int.toNat_natCast]
 exact Prod.ext hseg rfl
def sr0:Rdg:=⟨1,2,3,7⟩
def sr1:Rdg:=⟨1,3,3,7⟩
def sr2:Rdg:=⟨1,4,3,9⟩
def sl3:List Rdg:=[sr0,sr1,sr2]
theorem zlf : ∀ r∈sl3,vR r:=by
 intro r hr
 simp only [sl3,List.mem_cons,List.not_mem_nil,or_false] at hr
 rcases hr with rfl | rfl | rfl<;>(simp only [vR,sr0,sr1,sr2];omega)
theorem zlg:pkc sl3 4=[[1#8,2#8],[2#8,0#8,3#8,0#8,4#8,0#8],[3#8,2#8],[7#8,1#8,9#8,0#8]]:=by
 have g : ∀ v:BitVec 8,∀ t,grp (v :: t)=(v,lead v t 255) :: grp (t.drop (lead v t 255)):=fun _ _=>zbm
 have c0:zH sl3 0=[1#8,1#8,1#8]:=rfl
 have c1:zH sl3 1=[2#8,3#8,4#8]:=rfl
 have c2:zH sl3 2=[3#8,3#8,3#8]:=rfl
 have c3:zH sl3 3=[7#8,7#8,9#8]:=rfl
 have e:pkc sl3 4=[rle (zH sl3 0),rle (zH sl3 1),rle (zH sl3 2),rle (zH sl3 3)]:=rfl
 rw [e,c0,c1,c2,c3]
 simp [rle,zbm,zd3,lead,flq]
theorem zt2:lS []=z0S:=by unfold lS;rw [zaQ]
theorem zt3:lN []=0:=by unfold lN;rw [zaQ];rfl
theorem zwW:lE []=0:=by unfold lE;rw [zaQ];rfl
noncomputable def sD1:By:=rcd 1#8 (pcl sl3)
noncomputable def sD2:By:=sD1++rcd 2#8 (yD 4 1)
def ss1:Strm:=⟨sl3,[false,false,false]⟩
def ss2:Strm:=⟨sl3,[false,true,false]⟩
theorem zlh:(pcl sl3).length=32:=by
 unfold pcl zp6
 rw [zlg]
 simp [yh,zC]
theorem zfq:sD1.length=45:=by unfold sD1;rw [yY,zlh]
theorem ziV:sD2.length=62:=by unfold sD2;rw [List.length_append,zfq,yY,zC]
theorem znr:Log z0S sD1 ss1:=by
 have h:=zk8 (s:=z0S) (l:=sl3) (by decide) (by decide) zlf (by decide)
 have:=Log.snoc (a:=[]) (.nil z0S) (by rw [zlh];decide) h
 exact this
theorem zwX:yy ss1 1=(ss2,0):=rfl
theorem zns:Log z0S sD2 ss2:=by
 have h:=zk9 (s:=ss1) (i:=1) (by decide)
 rw [ziO,show yy ss1 ((1:Nat):Int)=(ss2,0) from rfl] at h
 exact Log.snoc znr (by rw [zC];decide) h
theorem zxx:zbr ([],0) sl3=((sD1,0),0):=by
 unfold zbr
 rw [if_neg (by rintro (h | h | h);exact absurd h (by decide);exact absurd h (by decide);exact h zlf)]
 dsimp only
 rw [zt2,zt3,if_neg (by decide)]
 rfl
theorem zxW:rtV (sD1,0) 1=((sD2,0),0):=by
 have h:=zgu znr
 unfold rtV
 dsimp only
 rw [h.1,h.2.1,zwX,if_neg (by decide),List.take_length]
 exact Prod.ext (Prod.ext rfl (by show min (0:Int) _=0;omega)) rfl
theorem zvo:(rtV (sD2,0) 1).2=120:=by
 have h:=zgu zns
 unfold rtV
 dsimp only
 rw [h.1,show yy ss2 1=(z0S,120) from rfl,if_pos (by decide)]
theorem zwY:(rtV (sD2,0) 3).2=4:=by
 have h:=zgu zns
 unfold rtV
 dsimp only
 rw [h.1,show yy ss2 3=(z0S,4) from rfl,if_pos (by decide)]
theorem zvp:(zbr (sD1,0) []).2=1:=by
 unfold zbr
 rw [if_pos (.inl (by decide))]
def sr9:Rdg:=⟨99,0,0,0⟩
theorem zxz:(zbr (sD1,0) [sr9]).2=1:=by
 unfold zbr
 rw [if_pos (.inr (.inr fun h=>absurd (h sr9 (by simp)) (by decide)))]
theorem zxA:sD2.take 61=sD1++(rcd 2#8 (yD 4 1)).take 16:=by
 unfold sD2
 rw [List.take_append,zfq,List.take_of_length_le (by rw [zfq];decide)]
theorem zwZ:lS (sD2.take 61)=ss1∧lN (sD2.take 61)=45∧lE (sD2.take 61)=270:=by
 have hr:(rcd 2#8 (yD 4 1)).length=17:=by rw [yY,zC]
 have hl:((rcd 2#8 (yD 4 1)).take 16).length=16:=by rw [List.length_take,hr];rfl
 have hc:=ziv (k:=2#8) (p:=yD 4 1) (r:=[]) (n:=16) (by rw [zC];decide) (by rw [zC];decide)
 rw [List.append_nil] at hc
 have h:ld z0S (sD2.take 61)=(ss1,16,false):=by
  rw [zxA,ztA znr,zbB (by rw [hl];decide) hc,hl]
 have hl2:(sD2.take 61).length=61:=by rw [List.length_take,ziV];rfl
 unfold lS lN lE
 rw [h,hl2]
 exact⟨rfl,rfl,rfl⟩
theorem zxB:crN sD2 0 61=61:=by unfold crN;rw [ziV];rfl
theorem zxC:yC 1 [[1#8],[1#8,0#8],[1#8,0#8],[1#8,0#8]]=([],270):=by
 unfold yC
 rw [if_neg]
 rintro ⟨_,_,_,h⟩
 exact absurd (h 0 (by decide)).1 (by decide)
theorem zvq:yC 2 [[1#8,0#8,1#8,0#8],[1#8,1#8],[1#8,1#8],[1#8,1#8]]=([],270):=by
 unfold yC
 rw [if_neg]
 rintro ⟨_,_,_,h⟩
 have:=(h 0 (by decide)).2.2.1
 exact absurd (this.2.1 rfl) (by decide)
end Go.Proofs.YtdpfkanfahchjaaDoor

/-
  The log of readings: the fixed examples of the laws.
-/
namespace Go.Proofs.YtdpfkanfahchjaaDoor
open Go Go.AL

def sC1:List By:=[[1#8],[1#8,0#8],[1#8,0#8],[1#8,0#8]]
def sC2:List By:=[[1#8,0#8,1#8,0#8],[1#8,1#8],[1#8,1#8],[1#8,1#8]]
theorem s_odd':yC 1 sC1=([],270):=zxC
theorem s_split':yC 2 sC2=([],270):=zvq
theorem eqR {a b:Rdg} (ha:vR a) (hb:vR b):zo Tryd.prog .eql 24 (.p (zv a)) (.p (zv b))=some (.p (bo (decide (a=b)))):=by
 have h:=neR ha hb
 have f1 : ∀ P t xs ys,zo P .eql t (.p (.agg xs)) (.p (.agg ys))=(zcz P t xs ys).map fun r => .p (.s (.bool r)):=fun _ _ _ _=>rfl
 have f2 : ∀ P t xs ys,zo P .neq t (.p (.agg xs)) (.p (.agg ys))=(zcz P t xs ys).map fun r => .p (.s (.bool !r)):=fun _ _ _ _=>rfl
 unfold zv at h ⊢
 rw [f2] at h
 rw [f1]
 cases e:zcz Tryd.prog 24 (rdL a) (rdL b) with
 | none=>rw [e] at h;cases h
 | some r =>
  rw [e] at h
  simp only [Option.map_some,bo,Option.some.injEq,AV.p.injEq,PV.s.injEq,Value.bool.injEq] at h
  have:r=decide (a=b):=by
   cases r<;>cases hd:decide (a=b)<;>simp_all
  rw [this];rfl
section walks
variable {G:Globs}
set_option maxHeartbeats 4000000 in
set_option maxRecDepth 20000 in
theorem zgB (d:By) (s0:Int) (H:Hp) (R:AV → Hp → Prop) (h:R (.tup [.p (sto [] 0),.p (i64 1)]) H):ACall Tryd.prog G 13 [.p (sto d s0),.p (.s (.slice none 0 0))] H R:=by
 refine ACall.of_run (raw:=[]) Tryd.func13 rfl Tryd.ntmps13 (by simp) fun hbel => ?_
 refine .nilS 1 4 rfl ?_
 refine .q ?_;refine .text ?_;simp (disch:=first|exact za|fail) only [go_sem,seval,-List.reduceReplicate]
 refine .q ?_;refine .text ?_;simp (disch:=first|exact za|fail) only [go_sem,seval,-List.reduceReplicate]
 have d1:decide ((([]:List PV).length:Int) < 1)=true:=rfl
 refine .q ?_;refine .text ?_;simp (disch:=first|exact za|fail) only [go_sem,seval,-List.reduceReplicate,d1]
 refine .q ?_;refine .ifT (by simp (disch:=first|exact za|fail) only [go_sem,seval,-List.reduceReplicate]) ?_
 refine .q ?_;refine .text ?_;simp (disch:=first|exact za|fail) only [go_sem,seval,-List.reduceReplicate]
 refine .q ?_;refine .rt Tryd.func13 (by rw [Tryd.results13]) (hR := ?_);simp (disch:=first|exact za|fail) only [go_sem,seval,-List.reduceReplicate]
 exact h
set_option maxHeartbeats 16000000 in
set_option maxRecDepth 40000 in
theorem zbE (hG0:G 0=some (8,[.agg (pl zy inits)])) (hG1:G 1=some (64,[.agg (pl zy ks)])) (H:Hp) (R:AV → Hp → Prop) (h:R (.p (bo true)) H):ACall Tryd.prog G 9 [] H R:=by
 have hlit:[PV.agg [i64 1,i64 2,i64 3,i64 7],PV.agg [i64 1,i64 3,i64 3,i64 7],PV.agg [i64 1,i64 4,i64 3,i64 9]]=pl zv sl3:=rfl
 have hsl:sl3.length=3:=rfl
 refine ACall.of_run (raw:=[]) Tryd.func9 rfl Tryd.ntmps9 (by simp) fun hbel => ?_
 refine .q ?_;refine .text ?_;simp (disch:=first|exact za|fail) only [go_sem,seval,-List.reduceReplicate,hlit]
 refine .q ?_;refine .text ?_;simp (disch:=first|exact za|fail) only [go_sem,seval,-List.reduceReplicate,hlit]
 refine .q ?_;refine .text ?_;simp (disch:=first|exact za|fail) only [go_sem,seval,-List.reduceReplicate]
 refine CallK.of (fun R h=>zc4 sl3 (by decide) _ R h) ?_;simp (disch:=first|exact za|fail) only [go_sem,seval,-List.reduceReplicate,hsl]
 refine .q ?_;refine .text ?_;simp (disch:=first|exact za|fail) only [go_sem,seval,-List.reduceReplicate]
 refine CallK.of (fun R h=>yu 3 (pkc sl3 4) (fun c hc=>Nat.le_trans (ziM c hc) (by decide)) _ R h) ?_;simp (disch:=first|exact za|fail) only [go_sem,seval,-List.reduceReplicate]
 have hu:yC 3 (pkc sl3 4)=(sl3,0):=zle zlf (by decide)
 rw [hu]
 simp (disch:=first|exact za|fail) only [go_sem,seval,-List.reduceReplicate]
 refine .q ?_;refine .text ?_;simp (disch:=first|exact za|fail) only [go_sem,seval,-List.reduceReplicate]
 refine CallK.of (fun R h=>zgz _ R h) ?_;simp (disch:=first|exact za|fail) only [go_sem,seval,-List.reduceReplicate]
 have hsw : ∀ d s,(sto d s).weak=sto d s:=fun _ _=>rfl
 have hseg : ∀ r c,(seg r c).weak=seg r c:=fun _ _=>rfl
 simp (disch:=first|exact za|fail) only [go_sem,seval,-List.reduceReplicate,hsw]
 refine CallK.of (fun R h=>yE hG0 hG1 [] 0 (by decide) _ R h) ?_;simp (disch:=first|exact za|fail) only [go_sem,seval,-List.reduceReplicate,zt2,zt3,zwW]
 refine .q ?_;refine .text ?_;simp (disch:=first|exact za|fail) only [go_sem,seval,-List.reduceReplicate]
 refine CallK.of (fun R h=>zgz _ R h) ?_;simp (disch:=first|exact za|fail) only [go_sem,seval,-List.reduceReplicate,hsw]
 refine CallK.of (fun R h=>zbK hG0 hG1 [] 0 sl3 (by decide) (by decide) _ R h) ?_;simp (disch:=first|exact za|fail) only [go_sem,seval,-List.reduceReplicate,zxx]
 have hd1:=zfq
 have hd2:=ziV
 obtain⟨D1,hD1⟩ : ∃ D,D=sD1:=⟨_,rfl⟩
 obtain⟨D2,hD2⟩ : ∃ D,D=sD2:=⟨_,rfl⟩
 have e_rt:=zxW
 have e_again:=zvo
 have e_none:=zwY
 have e_empty:=zvp
 have e_bad:=zxz
 have e_log:=zgu zns
 have e_torn:=zwZ
 have e_crN:=zxB
 rw [←hD1] at hd1 e_rt e_empty e_bad ⊢
 rw [←hD2] at hd2 e_rt e_again e_none e_log e_torn e_crN
 refine .q ?_;refine .text ?_;simp (disch:=first|exact za|fail) only [go_sem,seval,-List.reduceReplicate,hsw]
 refine CallK.of (fun R h=>zan hG0 hG1 D1 0 1 (by omega) _ R h) ?_;simp (disch:=first|exact za|fail) only [go_sem,seval,-List.reduceReplicate,e_rt]
 refine .q ?_;refine .text ?_;simp (disch:=first|exact za|fail) only [go_sem,seval,-List.reduceReplicate,hsw]
 obtain⟨A1,a1⟩ : ∃ A:Sto,rtV (D2,0) 1=(A,120):=⟨_,Prod.ext rfl e_again⟩
 obtain⟨A2,a2⟩ : ∃ A:Sto,rtV (D2,0) 3=(A,4):=⟨_,Prod.ext rfl e_none⟩
 obtain⟨A4,a4⟩ : ∃ A:Sto,zbr (D1,0) [sr9]=(A,1):=⟨_,Prod.ext rfl e_bad⟩
 refine CallK.of (fun R h=>zan hG0 hG1 D2 0 1 (by omega) _ R h) ?_;simp (disch:=first|exact za|fail) only [go_sem,seval,-List.reduceReplicate,a1]
 refine .q ?_;refine .text ?_;simp (disch:=first|exact za|fail) only [go_sem,seval,-List.reduceReplicate,hsw]
 refine CallK.of (fun R h=>zan hG0 hG1 D2 0 3 (by omega) _ R h) ?_;simp (disch:=first|exact za|fail) only [go_sem,seval,-List.reduceReplicate,a2]
 refine .q ?_;refine .text ?_;simp (disch:=first|exact za|fail) only [go_sem,seval,-List.reduceReplicate,hsw]
 refine CallK.of (fun R h=>zgB D1 0 _ R h) ?_;simp (disch:=first|exact za|fail) only [go_sem,seval,-List.reduceReplicate]
 have hl9:[PV.agg [i64 99,i64 0,i64 0,i64 0]]=pl zv [sr9]:=rfl
 refine .q ?_;refine .text ?_;simp (disch:=first|exact za|fail) only [go_sem,seval,-List.reduceReplicate,hsw,hl9]
 refine CallK.of (fun R h=>zbK hG0 hG1 D1 0 [sr9] (by omega) (by decide) _ R h) ?_;simp (disch:=first|exact za|fail) only [go_sem,seval,-List.reduceReplicate,a4]
 refine .q ?_;refine .text ?_;simp (disch:=first|exact za|fail) only [go_sem,seval,-List.reduceReplicate,hsw]
 refine CallK.of (fun R h=>yE hG0 hG1 D2 0 (by omega) _ R h) ?_;simp (disch:=first|exact za|fail) only [go_sem,seval,-List.reduceReplicate,e_log.1,e_log.2.1,e_log.2.2]
 have h61:(D2.length:Int) - 1=61:=by omega
 refine .q ?_;refine .text ?_;simp (disch:=first|exact za|fail) only [go_sem,seval,-List.reduceReplicate,hsw,h61]
 refine CallK.of (fun R h=>zdB D2 0 61 ⟨by omega,by omega⟩ (by omega) ⟨by omega,by omega⟩ _ R h) ?_;simp (disch:=first|exact za|fail) only [go_sem,seval,-List.reduceReplicate,e_crN,hsw]
 have h61l:(D2.take 61).length≤140737488353000:=by rw [List.length_take];omega
 refine CallK.of (fun R h=>yE hG0 hG1 (D2.take 61) 61 h61l _ R h) ?_;simp (disch:=first|exact za|fail) only [go_sem,seval,-List.reduceReplicate,e_torn.1,e_torn.2.1,e_torn.2.2]
 refine .q ?_;refine .text ?_;simp (disch:=first|exact za|fail) only [go_sem,seval,-List.reduceReplicate]
 refine CallK.of (fun R h=>yu 1 sC1 (by decide) _ R h) ?_;simp (disch:=first|exact za|fail) only [go_sem,seval,-List.reduceReplicate,s_odd']
 refine .q ?_;refine .text ?_;simp (disch:=first|exact za|fail) only [go_sem,seval,-List.reduceReplicate]
 refine CallK.of (fun R h=>yu 2 sC2 (by decide) _ R h) ?_;simp (disch:=first|exact za|fail) only [go_sem,seval,-List.reduceReplicate,s_split']
 have hpk:(pkc sl3 4).length=4:=zbC
 have hg2:ss2.gone.length=3:=rfl
 refine .q ?_;refine .text ?_;simp (disch:=first|exact za|fail) only [go_sem,seval,-List.reduceReplicate,hpk,hsl,hg2]
 refine .q ?_;refine .ifF (by simp (disch:=first|exact za|fail) only [go_sem,seval,-List.reduceReplicate]) ?_
 refine .skip ?_
 have hc:=zlg
 obtain⟨c3,hc3'⟩ : ∃ c:By,c=[7#8,1#8,9#8,0#8]:=⟨_,rfl⟩
 obtain⟨c0,hc0'⟩ : ∃ c:By,c=[1#8,2#8]:=⟨_,rfl⟩
 have hc3:nth (pkc sl3 4) 3=c3:=by rw [hc,hc3'];rfl
 have hc0:nth (pkc sl3 4) 0=c0:=by rw [hc,hc0'];rfl
 have hb3:[b8 7#8,b8 1#8,b8 9#8,b8 0#8]=pl b8 c3:=by rw [hc3'];rfl
 have hb0:[b8 1#8,b8 2#8]=pl b8 c0:=by rw [hc0'];rfl
 have hal : ∀ c:By,((pl b8 c).all fun x=>x.cells.length == 1)=true:=fun c=>by
  rw [List.all_eq_true];intro x hx;simp only [pl,List.mem_map] at hx;obtain⟨y,_,rfl⟩:=hx;rfl
 have hpw : ∀ c:By,(pl b8 c).map PV.weak=pl b8 c:=fun c=>zcY fun _=>rfl
 have hrw : ∀ r,(zv r).weak=zv r:=fun _=>rfl
 have hrc : ∀ r,(zv r).cells.length=4:=fun _=>rfl
 have hr2:(⟨1,4,3,9⟩:Rdg)=sr2:=rfl
 have hdq : ∀ c:By,decide (c=c)=true:=fun c=>by simp
 have hz:z0S.l.length=0:=rfl
 have hg1:nth ss2.gone 1=true:=rfl
 have hg0:nth ss2.gone 0=false:=rfl
 have hs1:ss1.l.length=3:=rfl
 have hag : ∀ r,(zv r).aggOf 0 4=zv r:=fun _=>rfl
 have hn2:nth sl3 2=sr2:=rfl
 have heq:zo Tryd.prog .eql 24 (.p (zv sr2)) (.p (zv sr2))=some (.p (bo true)):=by
  rw [eqR (zlf _ (by simp [sl3])) (zlf _ (by simp [sl3]))];simp
 refine .q ?_;refine .openStill follows (by kernel_rfl) ?_;simp (disch:=first|exact za|fail) only [go_sem,seval,-List.reduceReplicate,List.append_eq,hrw,hrc,hr2,hal,hpw,hb3,hb0,hdq,hpk,hsl,hg2,hc3,hc0,hz,hg1,hg0,hs1,hd1,hd2,hag,hn2,heq,zQ,zcg]
 refine CallD.still (fun R h=>zhw D1 0 _ R h) ?_;simp (disch:=first|exact za|fail) only [go_sem,seval,-List.reduceReplicate,List.append_eq,hsw,hd1]
 refine CallD.still (fun R h=>zgo D1 D1 45 45 _ R h) ?_;simp (disch:=first|exact za|fail) only [go_sem,seval,-List.reduceReplicate,List.append_eq,hdq]
 refine .q ?_;refine .rt Tryd.func9 (by rw [Tryd.results9]) (hR := ?_);simp (disch:=first|exact za|fail) only [go_sem,seval,-List.reduceReplicate]
 exact h
end walks
end Go.Proofs.YtdpfkanfahchjaaDoor

/-
  The log of readings: a run without crashes and its history.
-/
namespace Go.Proofs.YtdpfkanfahchjaaDoor
open Go Go.AL

structure Inv (n:Nat) (s:Sto) (h:Hs) (rc:Recs):Prop where
 ok:zkJ rc
 len:h.o.length=rc.length+1
 sq:Sqn (fun j=>nth h.o j) rc
 z:nth h.o 0=z0S
 disk:s.1=lg rc
 syn:s.2=((lg (rc.take h.y)).length:Nat)
 y:h.y≤rc.length
 sl : ∀ t∈h.o,SL n t
theorem znt {rc:Recs} {i:Nat}:(lg (rc.take i)).length≤(lg rc).length:=by
 conv=>rhs;rw [←List.take_append_drop i rc,zm6,List.length_append]
 omega
theorem zcj {α:Type} [Inhabited α] {l m:List α} {i:Nat} (h:i < l.length):nth (l++m) i=nth l i:=by
 simp [nth,List.getElem?_append_left h]
theorem zli {α:Type} [Inhabited α] {l:List α} {x:α}:nth (l++[x]) l.length=x:=by simp [nth]
theorem Inv.last {n:Nat} {s:Sto} {h:Hs} {rc:Recs} (i:Inv n s h rc):lS s.1=lst h.o∧lN s.1=s.1.length∧lE s.1=0:=by
 have hl:=zoa i.ok i.sq
 rw [i.z,←i.disk] at hl
 have:=zgu hl
 rw [show rc.length=h.o.length - 1 by rw [i.len];rfl] at this
 exact this
theorem Inv.snoc {n:Nat} {s:Sto} {h:Hs} {rc:Recs} (i:Inv n s h rc) {k:BitVec 8} {p:By} {u:Strm} (hp:p.length≤1048576) (h2:zV (lst h.o) k p=some u) (hu:SL (n+20) u) :
 Inv (n+20) (s.1++rcd k p,s.2) ⟨h.o++[u],h.y⟩ (rc++[(k,p)]):=by
 have hl:=i.len
 have ho:h.o.length - 1=rc.length:=by omega
 refine⟨?_,?_,?_,?_,?_,?_,?_,?_⟩<;>(try dsimp only)
 · intro q hq
   rcases List.mem_append.1 hq with hq | hq
   · exact i.ok q hq
   · rw [List.mem_singleton.1 hq];exact hp
 · rw [List.length_append,List.length_append,hl];rfl
 · intro j q hj
   by_cases c:j < rc.length
   · rw [List.getElem?_append_left c] at hj
     have:=i.sq j q hj
     dsimp only at this ⊢
     rw [zcj (by omega),zcj (by omega)]
     exact this
   · have hjl:j < (rc++[(k,p)]).length:=(List.getElem?_eq_some_iff.1 hj).1
     rw [List.length_append] at hjl
     simp only [List.length_singleton] at hjl
     have e:j=rc.length:=by omega
     subst e
     have hq:q=(k,p):=by simpa using hj.symm
     subst hq
     dsimp only
     rw [zcj (by omega),show rc.length+1=h.o.length by omega,zli,show nth h.o rc.length=lst h.o by unfold lst;rw [ho]]
     exact h2
 · rw [zcj (by omega)];exact i.z
 · rw [zu4,i.disk]
 · rw [List.take_append_of_le_length i.y];exact i.syn
 · rw [List.length_append];have:=i.y;omega
 · intro t ht
   rcases List.mem_append.1 ht with ht | ht
   · exact (i.sl t ht).mono (by omega)
   · rw [List.mem_singleton.1 ht];exact hu
theorem Inv.mono {n m:Nat} {s:Sto} {h:Hs} {rc:Recs} (i:Inv n s h rc) (hm:n≤m):Inv m s h rc:=⟨i.ok,i.len,i.sq,i.z,i.disk,i.syn,i.y,fun t ht=>(i.sl t ht).mono hm⟩
theorem zw0 (k:BitVec 8):k % 4#8=0#8 ∨ k % 4#8=1#8 ∨ k % 4#8=2#8 ∨ k % 4#8=3#8:=by
 have h:(k % 4#8).toNat < 4:=by rw [BitVec.toNat_umod];exact Nat.mod_lt _ (by decide)
 have:(k % 4#8).toNat=0 ∨ (k % 4#8).toNat=1 ∨ (k % 4#8).toNat=2 ∨ (k % 4#8).toNat=3:=by omega
 rcases this with e | e | e | e
 · exact .inl (BitVec.eq_of_toNat_eq e)
 · exact .inr (.inl (BitVec.eq_of_toNat_eq e))
 · exact .inr (.inr (.inl (BitVec.eq_of_toNat_eq e)))
 · exact .inr (.inr (.inr (BitVec.eq_of_toNat_eq e)))
theorem Inv.step {n:Nat} {s:Sto} {h:Hs} {rc:Recs} (i:Inv n s h rc) (hn:n≤1000) {x:Op} (hx:x.k % 4#8≠3#8) : ∃ rc',Inv (n+20) (apV s x) (hstep h x) rc':=by
 obtain⟨hS,hN,hE⟩:=i.last
 have hl:=i.len
 have hsl:=i.sl _ (zfo (by omega:1≤h.o.length))
 obtain⟨t,ht⟩ : ∃ t,t=lst h.o:=⟨_,rfl⟩
 rw [←ht] at hS hsl
 have hc:=zt0 (x:=x) hsl
 have hsyn:s.2≤s.1.length:=by rw [i.syn,i.disk];have:=znt (rc:=rc) (i:=h.y);omega
 have hmin:min s.2 ((s.1.length:Nat):Int)=s.2:=by omega
 have happ : ∀ (k:BitVec 8) (p:By) (u:Strm),p.length≤1048576 → zV t k p=some u → SL (n+20) u → ∃ rc',Inv (n+20) (s.1.take s.1.length++rcd k p,min s.2 ((s.1.length:Nat):Int)) ⟨h.o++[u],h.y⟩ rc':=fun k p u hp h2 hu=>by
  rw [List.take_length,hmin]
  exact⟨_,i.snoc hp (by rw [←ht];exact h2) hu⟩
 have hsame : ∃ rc',Inv (n+20) s ⟨h.o,h.y⟩ rc':=⟨_,i.mono (by omega)⟩
 unfold hstep apV
 rw [←ht]
 rcases zw0 x.k with e | e | e | e
 · rw [e,if_neg (show ¬ (0#8:BitVec 8)=1#8 by decide),if_neg (show ¬ (0#8:BitVec 8)=2#8 by decide),if_neg (show ¬ (0#8:BitVec 8)=3#8 by decide),if_pos (show (0#8:BitVec 8) < 2#8 by decide)]
   try rw [if_neg (show ¬ (0#8:BitVec 8)=2#8 by decide)]
   have hch:chg t x=(⟨t.l++rds x.l,t.gone++List.replicate (rds x.l).length false⟩,decide (0 < (rds x.l).length)):=by
    unfold chg;rw [e,if_neg (by decide)]
   rw [hch] at hc ⊢
   dsimp only at hc ⊢
   have hr:=zei (l:=x.l)
   by_cases c:0 < (rds x.l).length
   · have hs:=zk8 (s:=t) (l:=rds x.l) c (by omega) zot (by have:=hsl.2.1;omega)
     have hp:=ziN (l:=rds x.l)
     have hv:zbr s (rds x.l)=((s.1.take (lN s.1)++rcd 1#8 (pcl (rds x.l)),min s.2 (lN s.1)),0):=by
      unfold zbr
      rw [if_neg (by rintro (q | q | q);exact absurd q (by omega);exact absurd q (by omega);exact q zot),hS,if_neg (by have:=hsl.2.1;omega)]
     rw [hv,hN,if_pos rfl,decide_eq_true c,if_pos rfl]
     exact happ _ _ _ (by omega) hs hc
   · have hv:(zbr s (rds x.l)).2=1:=by unfold zbr;rw [if_pos (.inl (by omega))]
     rw [hv,if_neg (by decide),decide_eq_false c,if_neg (by decide)]
     exact hsame
 · rw [e,if_pos (show (1#8:BitVec 8)=1#8 from rfl),if_pos (show (1#8:BitVec 8) < 2#8 by decide),if_neg (show ¬ (1#8:BitVec 8)=2#8 by decide),hS]
   by_cases c0:t.l.length=0
   · have hch:chg t x=(t,false):=by unfold chg;rw [e,if_pos rfl,if_pos c0]
     rw [if_pos c0,hch,if_neg (show ¬ (t,false).2=true from Bool.false_ne_true)]
     exact hsame
   rw [if_neg c0]
   obtain⟨m,hm⟩ : ∃ m,m=x.a.toNat % t.l.length:=⟨_,rfl⟩
   have hml:m < t.l.length:=by rw [hm];exact Nat.mod_lt _ (by omega)
   rw [←hm]
   have hch:chg t x=if (yy t (m:Nat)).2≠0 then (t,false) else ((yy t (m:Nat)).1,true):=by
    unfold chg;rw [e,if_pos rfl,if_neg c0,←hm]
   by_cases c1:(yy t (m:Nat)).2=0
   · rw [if_neg (by rw [c1];decide)] at hch
     have hs:=zk9 (s:=t) (i:=m) (by have:=hsl.2.1;omega)
     rw [ziO,if_pos c1] at hs
     have hv:rtV s (m:Nat)=((s.1.take (lN s.1)++rcd 2#8 (yD 4 m),min s.2 (lN s.1)),0):=by
      unfold rtV
      rw [hS,if_neg (by rw [c1];decide),Int.toNat_natCast]
     rw [hch] at hc
     rw [hv,hN,if_pos rfl,hch,if_pos rfl]
     exact happ _ _ _ (by rw [zC];decide) hs hc
   · rw [if_pos c1] at hch
     have hv:(rtV s (m:Nat)).2≠0:=by unfold rtV;rw [hS,if_pos c1];exact c1
     rw [if_neg hv,hch,if_neg (show ¬ (t,false).2=true from Bool.false_ne_true)]
     exact hsame
 · rw [e,if_neg (show ¬ (2#8:BitVec 8)=1#8 by decide),if_pos (show (2#8:BitVec 8)=2#8 from rfl),if_neg (show ¬ (2#8:BitVec 8) < 2#8 by decide)]
   try rw [if_pos (show (2#8:BitVec 8)=2#8 from rfl)]
   refine⟨rc,i.ok,i.len,i.sq,i.z,i.disk,?_,?_,fun t ht=>(i.sl t ht).mono (by omega)⟩<;>dsimp only
   · rw [show h.o.length - 1=rc.length by omega,List.take_length,i.disk]
   · omega
 · exact absurd e hx
theorem Inv.run {l:List Op} (hl : ∀ x∈l,x.k % 4#8≠3#8) : ∀ {i:Nat},i≤l.length → i≤12 → ∃ rc,Inv (20*i) (zbL l i) (yT l i) rc
 | 0,_,_=>by
  refine⟨[],fun q hq=>(by cases hq),rfl,fun j q hj=>(by cases hj),rfl,rfl,rfl,Nat.le_refl _,fun t ht => ?_⟩
  have:t=z0S:=by simpa [yT] using ht
  subst this
  exact⟨rfl,Nat.le_refl _,fun r hr=>by cases hr⟩
 | i+1,h,h12=>by
  obtain⟨rc,hi⟩:=Inv.run hl (i:=i) (by omega) (by omega)
  rw [zeA (by omega),zeB (by omega),show nth l i=l[i] by simp [nth,show i < l.length by omega]]
  exact hi.step (by omega) (hl _ (List.getElem_mem _))
theorem zvr {l:List Op} : ∀ x∈cal l,x.k % 4#8≠3#8:=fun x hx=>by
 unfold cal zbM at hx
 have:=(List.mem_filter.1 hx).2
 simpa using this
theorem ziW {l:List Op}:(cal l).length≤12:=by
 have:=zov (l:=l) (i:=min 12 l.length)
 unfold cal;omega
theorem zow {l:List Op} : ∀ x∈cal l,x∈l:=fun x hx=>by
 unfold cal zbM at hx
 exact List.mem_of_mem_take (List.mem_filter.1 hx).1
theorem Inv.cal (l:List Op) : ∃ rc,Inv 240 (zdb (cal l)) (his (Go.Proofs.YtdpfkanfahchjaaDoor.cal l)) rc:=by
 have h12:=ziW (l:=l)
 obtain⟨rc,h⟩:=Inv.run (l:=Go.Proofs.YtdpfkanfahchjaaDoor.cal l) zvr (i:=min 12 (Go.Proofs.YtdpfkanfahchjaaDoor.cal l).length) (by omega) (by omega)
 exact⟨rc,h.mono (by omega)⟩
theorem Inv.cut {n:Nat} {s:Sto} {h:Hs} {rc:Recs} (i:Inv n s h rc) {c:Nat} (h1:s.2≤c) (h2:c≤s.1.length) :
 lN (s.1.take c)≤s.1.length ∧ ∃ j,h.y≤j∧j < h.o.length∧lS (s.1.take c)=nth h.o j:=by
 obtain⟨j,a1,a2,a3,a4,a5⟩:=ztB i.ok i.sq (n:=c) (by rw [←i.disk];exact h2)
 rw [i.z,←i.disk] at a4 a5
 have hl:=i.len
 refine⟨Nat.le_trans zhF (by rw [List.length_take];omega),j,a3 _ i.y (by have:=i.syn;omega),by omega,a4⟩
end Go.Proofs.YtdpfkanfahchjaaDoor

/-
  The log of readings: the law Durability.
-/
namespace Go.Proofs.YtdpfkanfahchjaaDoor
open Go Go.AL

section walks
variable {G:Globs}
set_option maxHeartbeats 16000000 in
set_option maxRecDepth 40000 in
theorem zqv (hG0:G 0=some (8,[.agg (pl zy inits)])) (hG1:G 1=some (64,[.agg (pl zy ks)])) (l:List Op) (w:BitVec 16) (hl:l.length≤9223372036854775807) (hx : ∀ x∈l,x.l.length≤9223372036854775807) (H:Hp) (R:AV → Hp → Prop) (h:R (.p (bo true)) H) :
 ACall Tryd.prog G 5 [.p (.sl false 3 (pl opv l)),.p (w16 w)] H R:=by
 have hsw : ∀ d s,(sto d s).weak=sto d s:=fun _ _=>rfl
 have hmw : ∀ s,(yt s).weak=yt s:=fun _=>rfl
 have hsc : ∀ s,(yt s).cells.length=2:=fun _=>rfl
 have hsa : ∀ s,(yt s).aggOf 0 2=yt s:=fun _=>rfl
 obtain⟨L,hL⟩ : ∃ L,L=cal l:=⟨_,rfl⟩
 have hL12:L.length≤12:=by rw [hL];exact ziW
 have hLx : ∀ x∈L,x.l.length≤9223372036854775807:=fun x hx'=>hx x (by rw [hL] at hx';exact zow x hx')
 obtain⟨rc,hI⟩:=Inv.cal l
 rw [←hL] at hI
 obtain⟨hws,hrl⟩:=ziU (l:=L)
 obtain⟨d,hd⟩ : ∃ d,d=(zdb L).1:=⟨_,rfl⟩
 obtain⟨s,hs⟩ : ∃ s,s=(zdb L).2:=⟨_,rfl⟩
 obtain⟨o,ho⟩ : ∃ o,o=(his L).o:=⟨_,rfl⟩
 obtain⟨y,hy⟩ : ∃ y,y=(his L).y:=⟨_,rfl⟩
 have ho13:o.length≤13:=by
  have:=(zfp (l:=L) (i:=min 12 L.length) (by omega)).2.1
  rw [ho];unfold his;omega
 have hrun : ∀ (B:Hp) (R:AV → Hp → Prop),R (.p (sto d s)) B → ACall Tryd.prog G 10 [.p (.sl false 3 (pl opv L))] B R:=fun B R h=>zgA hG0 hG1 L (by omega) hLx B R (by rw [←hd,←hs];exact h)
 have hhis : ∀ (B:Hp) (R:AV → Hp → Prop),R (.tup [.p (.sl false 2 (pl yt o)),.p (i64 (y:Nat))]) B → ACall Tryd.prog G 27 [.p (.sl false 3 (pl opv L))] B R:=fun B R h=>zej L (by omega) hLx B R (by rw [←ho,←hy];exact h)
 have hcal : ∀ (B:Hp) (R:AV → Hp → Prop),R (.p (.sl false 3 (pl opv L))) B → ACall Tryd.prog G 26 [.p (.sl false 3 (pl opv l))] B R:=fun B R h=>zhG l hl B R (by rw [←hL];exact h)
 rw [show zdb L=(d,s) by rw [hd,hs]] at hws hrl hI
 rw [show his L=⟨o,y⟩ by rw [ho,hy]] at hI
 obtain⟨hs0,hs1⟩:=hws
 dsimp only at hs0 hs1 hrl
 obtain⟨e1,e2,e3⟩:=hI.last
 have hlen:=hI.len
 have hyl:=hI.y
 have hosl:=hI.sl
 dsimp only at e1 e2 e3 hlen hyl hosl
 have hcut : ∀ c:Nat,s≤c → c≤d.length → lN (d.take c)≤d.length ∧ ∃ j,y≤j∧j < o.length∧lS (d.take c)=nth o j:=fun c h1 h2=>hI.cut h1 h2
 have hol1:(o.length:Int) - 1=((o.length - 1:Nat):Int):=by omega
 have hoi:o.length - 1 < o.length:=by omega
 have hlst:nth o (o.length - 1)=lst o:=rfl
 have hsl:=hosl _ (zfo (by omega:1≤o.length))
 refine ACall.of_run (raw:=[]) Tryd.func5 rfl Tryd.ntmps5 (by simp) fun hbel => ?_
 refine .q ?_;refine .text ?_;simp (disch:=first|exact za|fail) only [go_sem,seval,-List.reduceReplicate]
 refine .q ?_;refine .text ?_;simp (disch:=first|exact za|fail) only [go_sem,seval,-List.reduceReplicate]
 refine CallK.of (fun R h=>zbE hG0 hG1 _ R h) ?_;simp (disch:=first|exact za|fail) only [go_sem,seval,-List.reduceReplicate]
 refine .q ?_;refine .text ?_;simp (disch:=first|exact za|fail) only [go_sem,seval,-List.reduceReplicate]
 refine CallK.of (fun R h=>hcal _ R h) ?_;simp (disch:=first|exact za|fail) only [go_sem,seval,-List.reduceReplicate]
 refine .q ?_;refine .text ?_;simp (disch:=first|exact za|fail) only [go_sem,seval,-List.reduceReplicate]
 refine CallK.of (fun R h=>hhis _ R h) ?_;simp (disch:=first|exact za|fail) only [go_sem,seval,-List.reduceReplicate]
 refine .q ?_;refine .text ?_;simp (disch:=first|exact za|fail) only [go_sem,seval,-List.reduceReplicate]
 refine CallK.of (fun R h=>hrun _ R h) ?_;simp (disch:=first|exact za|fail) only [go_sem,seval,-List.reduceReplicate]
 refine .q ?_;refine .text ?_;simp (disch:=first|exact za|fail) only [go_sem,seval,-List.reduceReplicate,hsw]
 refine CallK.of (fun R h=>yE hG0 hG1 d s (by omega) _ R h) ?_;simp (disch:=first|exact za|fail) only [go_sem,seval,-List.reduceReplicate,e1,e2,e3]
 have hds:decide (lst o=lst o)=true:=by simp
 refine .q ?_;refine .openStill follows (by kernel_rfl) ?_;simp (disch:=first|exact za|fail) only [go_sem,seval,-List.reduceReplicate,List.append_eq,hol1,hoi,hlst,hsc,hsa,hmw]
 refine CallD.still (fun R h=>zci (lst o) (lst o) hsl.2.2 hsl.2.2 (by have:=hsl.2.1;omega) (by have:=hsl.1;have:=hsl.2.1;omega) _ R h) ?_;simp (disch:=first|exact za|fail) only [go_sem,seval,-List.reduceReplicate,List.append_eq,hds]
 refine .q ?_;refine .ifF (by simp (disch:=first|exact za|fail) only [go_sem,seval,-List.reduceReplicate]) ?_
 refine .skip ?_
 obtain⟨n,hn⟩ : ∃ n,n=w.toNat % (d.length+2):=⟨_,rfl⟩
 have hmod:(w.toNat:Int) % ((d.length:Int)+2)=(n:Int):=by rw [hn];exact (Int.natCast_emod _ _).symm
 have hnl:n < d.length+2:=by rw [hn];exact Nat.mod_lt _ (by omega)
 obtain⟨c,hc⟩ : ∃ c,c=crN d s (n:Nat):=⟨_,rfl⟩
 have hcs:s≤c∧c≤d.length:=by rw [hc];unfold crN;omega
 obtain⟨hm1,j,hj1,hj2,hj3⟩:=hcut c hcs.1 hcs.2
 have hcr : ∀ (B:Hp) (R:AV → Hp → Prop),R (.p (sto (d.take c) (c:Nat))) B → ACall Tryd.prog G 21 [.p (sto d s),.p (i64 (n:Nat))] B R:=fun B R h=>zdB d s (n:Nat) ⟨hs0,hs1⟩ (by omega) ⟨by omega,by omega⟩ B R (by rw [←hc];exact h)
 have htl:(d.take c).length≤140737488353000:=by rw [List.length_take];omega
 obtain⟨D,hD⟩ : ∃ D,D=d.take c:=⟨_,rfl⟩
 obtain⟨S,hS⟩ : ∃ S,S=lS D:=⟨_,rfl⟩
 obtain⟨N,hN⟩ : ∃ N,N=lN D:=⟨_,rfl⟩
 obtain⟨E0,hE0⟩ : ∃ E,E=lE D:=⟨_,rfl⟩
 rw [←hD] at hcr htl hm1 hj3
 rw [←hN] at hm1
 rw [←hS] at hj3
 have hSv : ∀ r∈S.l,vR r:=by rw [hS];exact zwV
 have hSk:SOk S:=by rw [hS];exact zhE
 have hld : ∀ (B:Hp) (R:AV → Hp → Prop),R (.tup [.p (yt S),.p (i64 (N:Nat)),.p (i64 E0)]) B → ACall Tryd.prog G 11 [.p (sto D (c:Nat))] B R:=fun B R h=>yE hG0 hG1 D (c:Nat) htl B R (by rw [←hS,←hN,←hE0];exact h)
 obtain⟨B,hB⟩ : ∃ B,B=(H.new (.cells [.p (.sl false 1 (pl b8 d)),.p (i64 s)])).new (.cells [.p (.sl false 4 (pl zv (lst o).l)),.p (.sl false 1 (pl bo (lst o).gone))]):=⟨_,rfl⟩
 obtain⟨C,hC⟩ : ∃ C,C=B.new (.cells [.p (.sl false 4 (pl zv S.l)),.p (.sl false 1 (pl bo S.gone))]):=⟨_,rfl⟩
 refine .q ?_;refine .cutH [5,7,8,11] [(13,.ptr (H.n+2) 0),(14,.p (i64 (N:Nat))),(15,.p (i64 E0))] (C) (fun ihF => ?_) (fun env F => ?_)
 rotate_left 1
 simp (disch:=first|exact za|fail) only [go_sem,seval,-List.reduceReplicate] at F
 rotate_left 1
 · refine .openTr (.one 0 (.one 1 (.one 2 (.one 3 (.one 4 (.one 5 (.one 6 (.fork 7 14 (.fork 8 14 (.fork 9 14 (.lin [10,11,12,13,14,15,16,17]) (.lin [9,10,11,12,13,15,16,17])) (.lin [8,9,10,11,12,13,15,16,17])) (.lin [7,8,9,10,11,12,13,15,16,17]))))))))) [14,15] follows (by kernel_rfl) ?_
   refine zl (.p (sto d s)) rfl rfl (by simp (disch:=first|exact za|fail) only [go_sem,seval,-List.reduceReplicate]<;>rfl) rfl ?_
   refine zl (.p (w16 w)) rfl rfl (by simp (disch:=first|exact za|fail) only [go_sem,seval,-List.reduceReplicate]<;>rfl) rfl ?_
   refine zl (.p (i64 w.toNat)) rfl rfl (by simp (disch:=first|exact za|fail) only [go_sem,seval,-List.reduceReplicate]<;>rfl) rfl ?_
   refine zl (.ptr H.n 0) rfl rfl (by simp (disch:=first|exact za|fail) only [go_sem,seval,-List.reduceReplicate]<;>rfl) rfl ?_
   refine zl (.p (.sl false 1 (pl b8 d))) rfl rfl (by simp (disch:=first|exact za|fail) only [go_sem,seval,-List.reduceReplicate]<;>rfl) rfl ?_
   refine zl (.p (i64 d.length)) rfl rfl (by simp (disch:=first|exact za|fail) only [go_sem,seval,-List.reduceReplicate]<;>rfl) rfl ?_
   refine zl (.p (i64 ((d.length:Int)+2))) rfl rfl (by simp (disch:=first|exact za|fail) only [go_sem,seval,-List.reduceReplicate]<;>rfl) rfl ?_
   refine And.intro (zl (.p (i64 (n:Nat))) rfl rfl (by simp (disch:=first|exact za|fail) only [go_sem,seval,-List.reduceReplicate,hmod]<;>rfl) rfl (And.intro (yA (.p (sto D (c:Nat))) rfl rfl (by simp (disch:=first|exact za|fail) only [go_sem,seval,-List.reduceReplicate,hsw]<;>rfl) (by rfl) rfl (fun R h=>hcr _ R h) (And.intro (yA (.tup [.p (yt S),.p (i64 (N:Nat)),.p (i64 E0)]) rfl rfl (by simp (disch:=first|exact za|fail) only [go_sem,seval,-List.reduceReplicate,hsw]<;>rfl) (by rfl) rfl (fun R h=>hld _ R h) ?_) ?_)) ?_)) ?_
   · refine zA [4,5] (by kernel_rfl) ?_
     simp (disch:=first|exact za|fail) only [go_sem,seval,-List.reduceReplicate]
     first | (refine ihF _ _ ?_ ?_) | (refine .z rfl ?_;refine ihF _ _ ?_ ?_) | (refine .z rfl ?_;refine .z rfl ?_;refine ihF _ _ ?_ ?_) | (refine .z rfl ?_;refine .z rfl ?_;refine .z rfl ?_;refine ihF _ _ ?_ ?_)
     · simp (disch:=first|exact za|fail) only [go_sem,seval,-List.reduceReplicate]<;>(repeat' (first | rfl | refine And.intro ?_ ?_))
     · exact (by rw [hC,hB])
   · refine yc (.ptr (H.n+2) 0) rfl rfl (by simp (disch:=first|exact za|fail) only [go_sem,seval,-List.reduceReplicate]<;>rfl) rfl ?_
     refine zA [5] (by kernel_rfl) ?_
     simp (disch:=first|exact za|fail) only [go_sem,seval,-List.reduceReplicate,hsw]
     refine CallD.still (fun R h=>hld _ R h) ?_;simp (disch:=first|exact za|fail) only [go_sem,seval,-List.reduceReplicate,hsw]
     first | (refine ihF _ _ ?_ ?_) | (refine .z rfl ?_;refine ihF _ _ ?_ ?_) | (refine .z rfl ?_;refine .z rfl ?_;refine ihF _ _ ?_ ?_) | (refine .z rfl ?_;refine .z rfl ?_;refine .z rfl ?_;refine ihF _ _ ?_ ?_)
     · simp (disch:=first|exact za|fail) only [go_sem,seval,-List.reduceReplicate]<;>(repeat' (first | rfl | refine And.intro ?_ ?_))
     · exact (by rw [hC,hB])
   · refine yc (.ptr (H.n+2) 0) rfl rfl (by simp (disch:=first|exact za|fail) only [go_sem,seval,-List.reduceReplicate]<;>rfl) rfl ?_
     refine zA [6] (by kernel_rfl) ?_
     simp (disch:=first|exact za|fail) only [go_sem,seval,-List.reduceReplicate,hsw]
     refine CallD.still (fun R h=>hcr _ R h) ?_;simp (disch:=first|exact za|fail) only [go_sem,seval,-List.reduceReplicate,hsw]
     refine CallD.still (fun R h=>hld _ R h) ?_;simp (disch:=first|exact za|fail) only [go_sem,seval,-List.reduceReplicate,hsw]
     first | (refine ihF _ _ ?_ ?_) | (refine .z rfl ?_;refine ihF _ _ ?_ ?_) | (refine .z rfl ?_;refine .z rfl ?_;refine ihF _ _ ?_ ?_) | (refine .z rfl ?_;refine .z rfl ?_;refine .z rfl ?_;refine ihF _ _ ?_ ?_)
     · simp (disch:=first|exact za|fail) only [go_sem,seval,-List.reduceReplicate]<;>(repeat' (first | rfl | refine And.intro ?_ ?_))
     · exact (by rw [hC,hB])
   · refine yc (.ptr (H.n+2) 0) rfl rfl (by simp (disch:=first|exact za|fail) only [go_sem,seval,-List.reduceReplicate]<;>rfl) rfl ?_
     refine zA [7] (by kernel_rfl) ?_
     simp (disch:=first|exact za|fail) only [go_sem,seval,-List.reduceReplicate,hsw,hmod]
     refine CallD.still (fun R h=>hcr _ R h) ?_;simp (disch:=first|exact za|fail) only [go_sem,seval,-List.reduceReplicate,hsw]
     refine CallD.still (fun R h=>hld _ R h) ?_;simp (disch:=first|exact za|fail) only [go_sem,seval,-List.reduceReplicate,hsw]
     first | (refine ihF _ _ ?_ ?_) | (refine .z rfl ?_;refine ihF _ _ ?_ ?_) | (refine .z rfl ?_;refine .z rfl ?_;refine ihF _ _ ?_ ?_) | (refine .z rfl ?_;refine .z rfl ?_;refine .z rfl ?_;refine ihF _ _ ?_ ?_)
     · simp (disch:=first|exact za|fail) only [go_sem,seval,-List.reduceReplicate]<;>(repeat' (first | rfl | refine And.intro ?_ ?_))
     · exact (by rw [hC,hB])
 · subst hC hB
   have d9:decide ((d.length:Int) < (N:Int))=false:=decide_eq_false (by omega)
   refine .q ?_;refine .text ?_;simp (disch:=first|exact za|fail) only [go_sem,seval,-List.reduceReplicate,F,d9]
   refine .q ?_;refine .ifF (by simp (disch:=first|exact za|fail) only [go_sem,seval,-List.reduceReplicate]) ?_
   refine .skip ?_
   refine .q ?_;refine .text ?_;simp (disch:=first|exact za|fail) only [go_sem,seval,-List.reduceReplicate,F]
   refine .q ?_;refine .loopE [5,7,13] (fun i=>[(16,.p (i64 i))]) (fun i=>[]) (fun i => ∃ j,i≤j∧j < o.length∧S=nth o j) (y) (o.length) (by omega) ?_ (by first | rfl | (simp (disch:=first|exact za|fail) only [go_sem,seval,-List.reduceReplicate,F]<;>rfl)) ?_ ?_ ?_
   · simp (disch:=first|exact za|fail) only [go_sem,seval,-List.reduceReplicate,F]<;>(repeat' (first | rfl | refine And.intro ?_ ?_))
   rotate_left 1
   intro env E hQ;simp (disch:=first|exact za|fail) only [go_sem,seval,-List.reduceReplicate,F] at E
   rotate_left 1
   intro i env hi0 hi E hQ ihE;simp (disch:=first|exact za|fail) only [go_sem,seval,-List.reduceReplicate,F] at E
   rotate_left 1
   · exact⟨j,hj1,hj2,hj3⟩
   · obtain⟨j,a1,a2,_⟩:=hQ
     omega
   · obtain⟨j,a1,a2,a3⟩:=hQ
     have hso:=hosl _ (zS hi)
     have hSl:=hSk.2
     have hSg:=hSk.1
     have hoc:i < o.length:=hi
     refine .q ?_;refine .text ?_;simp (disch:=first|exact za|fail) only [go_sem,seval,-List.reduceReplicate,E]
     refine .q ?_;refine .ifT (by simp (disch:=first|exact za|fail) only [go_sem,seval,-List.reduceReplicate]) ?_
     refine .q ?_;refine .open [] follows (by kernel_rfl) ?_;simp (disch:=first|exact za|fail) only [go_sem,seval,-List.reduceReplicate,E,F,hsc,hsa,hmw]
     refine CallD.still (fun R h=>zci S (nth o i) hSv hso.2.2 (by omega) (by omega) _ R h) ?_;simp (disch:=first|exact za|fail) only [go_sem,seval,-List.reduceReplicate,E,F,hsc,hsa,hmw]
     by_cases q:S=nth o i
     · have dq:decide (S=nth o i)=true:=decide_eq_true q
       refine .q ?_;refine .ifT (by simp (disch:=first|exact za|fail) only [go_sem,seval,-List.reduceReplicate,dq]) ?_
       refine .q ?_;refine .text ?_;simp (disch:=first|exact za|fail) only [go_sem,seval,-List.reduceReplicate,E,F]
       refine .q ?_;refine .rt Tryd.func5 (by rw [Tryd.results5]) (hx:=by simp (disch:=first|exact za|fail) only [go_sem,seval,-List.reduceReplicate,E,F];rfl) (hR := ?_);simp (disch:=first|exact za|fail) only [go_sem,seval,-List.reduceReplicate,E,F]
       exact h
     · have dq:decide (S=nth o i)=false:=decide_eq_false q
       have hj':j≠i:=fun e=>q (by rw [a3,e])
       refine .q ?_;refine .ifF (by simp (disch:=first|exact za|fail) only [go_sem,seval,-List.reduceReplicate,dq]) ?_
       refine .skip ?_
       refine .q ?_;refine .text ?_;simp (disch:=first|exact za|fail) only [go_sem,seval,-List.reduceReplicate,E,F]
       first | (refine ihE _ _ ?_ ⟨j,by omega,a2,a3⟩ ?_) | (refine .z rfl ?_;refine ihE _ _ ?_ ⟨j,by omega,a2,a3⟩ ?_) | (refine .z rfl ?_;refine .z rfl ?_;refine ihE _ _ ?_ ⟨j,by omega,a2,a3⟩ ?_) | (refine .z rfl ?_;refine .z rfl ?_;refine .z rfl ?_;refine ihE _ _ ?_ ⟨j,by omega,a2,a3⟩ ?_)
       · simp (disch:=first|exact za|fail) only [go_sem,seval,-List.reduceReplicate,E,F]<;>(repeat' (first | rfl | refine And.intro ?_ ?_))
       · first | rfl | (simp (disch:=first|exact za|fail) only [go_sem,seval,-List.reduceReplicate,E,F]<;>(try rfl))
end walks
end Go.Proofs.YtdpfkanfahchjaaDoor

/-
  The log of readings: what the laws' rows give their walks: the tables,a world for the witness,what the arguments read as.
-/
namespace Go.Proofs.YtdpfkanfahchjaaDoor
open Go Go.AL Go.ChangeShapes Go.WideShapes Go.ChangeAt Go.RowKit

theorem own:ownKnob Tryd.prog.godebug=none:=by kernel_rfl
theorem laidOut:laidOutB Tryd.prog=true:=by kernel_rfl
def nI:String:=Rows.colstoreMatchesReferenceRow.named[0]!
def nC:String:=Rows.colstoreMatchesReferenceRow.named[1]!
theorem zt4:Tryd.prog.globalNamed nC=some 1:=by kernel_rfl
theorem zvE:Tryd.prog.globalNamed nI=some 0:=by kernel_rfl
theorem zvs:(Tryd.prog.globals[1]?).map (·.type)=some 148:=by kernel_rfl
theorem zw1:(Tryd.prog.globals[0]?).map (·.type)=some 133:=by kernel_rfl
def kz:List Int:=ks.map fun x=>(x.toNat:Int)
def iz:List Int:=inits.map fun x=>(x.toNat:Int)
theorem zt5 {P:Program} {x:String × DataW Unit} {l:List (String × DataW Unit)} {W:World} (h:laidMet P (x :: l) W):laidMet P l W:=by
 obtain⟨ps,⟨g',t',cs,fuel,p,q,_,_,_,_,hq,hps⟩,hn,ha⟩:=h
 subst hps
 exact⟨q,hq,(List.nodup_append.1 hn).2.1,fun b off hb=>ha b off (List.mem_append_right _ hb)⟩
theorem tables {W:World} (h:laidMetH Tryd.prog Rows.colstoreMatchesReferenceRow.laid W):Lib.TabIs Tryd.prog W nC .u32 kz∧Lib.TabIs Tryd.prog W nI .u32 iz:=by
 have h:laidMet Tryd.prog [(nC,Lib.tabData .u32 kz),(nI,Lib.tabData .u32 iz)] W:=h
 have h2:=zt5 h
 exact⟨Lib.tabIs_of_head zt4 zvs Tryd.underlying148 Tryd.underlying132 zgf zkt h,
  Lib.tabIs_of_head zvE zw1 Tryd.underlying133 Tryd.underlying132 zgf zkr h2⟩
def GG:Globs:=⟨fun g=>if g=0 then some (8,[.agg (pl zy inits)]) else if g=1 then some (64,[.agg (pl zy ks)]) else none,fun _=>none⟩
theorem zvt:GG 0=some (8,[.agg (pl zy inits)]):=rfl
theorem zvu:GG 1=some (64,[.agg (pl zy ks)]):=rfl
theorem zc7 {W:World} (h:laidMetH Tryd.prog Rows.colstoreMatchesReferenceRow.laid W):Rel GG σ0 H0 W:=zxG (fun g sz xs hg=>by
 obtain⟨h1,h0⟩:=tables h
 simp only [GG] at hg
 split at hg
 · rename_i e;subst e;cases hg
   exact zf3 (l:=inits) h0 zvE rfl (by decide)
 · split at hg
   · rename_i e;subst e;cases hg
     exact zf3 (l:=ks) h1 zt4 rfl (by decide)
   · cases hg) fun r m hm=>by cases hm
noncomputable def laidWorld (os:Os):World :=
 let w:=World.holding Tryd.prog os ⟨#[],#[],[]⟩
 { w with heap:=(w.heap.modify 0 fun
  | .cells _ t frozen => .cells (iz.map fun z=>Value.int .u32 z).toArray t frozen
  | o=>o).modify 1 fun
  | .cells _ t frozen => .cells (kz.map fun z=>Value.int .u32 z).toArray t frozen
  | o=>o }
set_option maxRecDepth 100000 in
theorem laid_met (os:Os) (args:Array Value):laidMet Tryd.prog Rows.colstoreMatchesReferenceRow.laid ((laidWorld os).forCall (fun _ _=>0) ⟨#[],args,[]⟩).memory :=
 laidMet_of_run' 8 (by kernel_rfl) (by kernel_rfl)

set_option maxRecDepth 100000
section read
variable {k:Nat} {y:List PV}
theorem zlj (h:Reads Tryd.prog (k+2) 27 y) : ∃ l:By,l.length≤9223372036854775807∧y=[.sl false 1 (pl b8 l)]:=by
 obtain⟨l,h1,rfl,-⟩:=Reads.sl b8 (fun _=>True) Tryd.underlying27 cells5 zrS h fun y hy=>by
  obtain⟨b,rfl⟩:=Reads.u8 Tryd.underlying5 hy
  exact⟨b,rfl,trivial⟩
 exact⟨l,h1,rfl⟩
theorem zvv (h:Reads Tryd.prog (k+3) 47 y) : ∃ ls:List By,ls.length≤9223372036854775807∧y=[.sl false 1 (pl (sle 1 b8) ls)] ∧ ∀ l∈ls,l.length≤9223372036854775807 :=
 Reads.sl (sle 1 b8) (fun l=>l.length≤9223372036854775807) Tryd.underlying47 cells27 zmX h fun y hy=>by
  obtain⟨l,h1,rfl⟩:=zlj hy
  exact⟨l,rfl,h1⟩
theorem zox (h:Reads Tryd.prog (k+3) 61 y) : ∃ l:List T3,l.length≤9223372036854775807∧y=[.sl false 3 (pl tri l)]:=by
 obtain⟨l,h1,rfl,-⟩:=Reads.sl tri (fun _=>True) Tryd.underlying61 znY zrX h fun y hy=>by
  obtain⟨l,h1,rfl⟩:=Reads.arr b8 Tryd.underlying63 hy fun y hy=>Reads.u8 Tryd.underlying5 hy
  match l,h1 with
  | [a,b,c],_=>exact⟨(a,b,c),rfl,trivial⟩
 exact⟨l,h1,rfl⟩
theorem zxD (h:Reads Tryd.prog (k+4) 74 y) : ∃ x:Op,zbw true y=opv x∧x.l.length≤9223372036854775807:=by
 obtain⟨y1,z1,rfl,-,r1,y2,z2,rfl,-,r2,y3,z3,rfl,-,r3,rfl⟩:=Reads.struct Tryd.underlying74 h
 obtain⟨a,rfl⟩:=Reads.u8 Tryd.underlying5 r1
 obtain⟨l,h1,rfl⟩:=zox r2
 obtain⟨c,rfl⟩:=Reads.u16 Tryd.underlying46 r3
 exact⟨⟨a,l,c⟩,rfl,h1⟩
theorem zw2 (h:Reads Tryd.prog (k+5) 22 y) : ∃ l:List Op,l.length≤9223372036854775807∧y=[.sl false 3 (pl opv l)] ∧ ∀ x∈l,x.l.length≤9223372036854775807 :=
 Reads.sl opv (fun x=>x.l.length≤9223372036854775807) Tryd.underlying22 znZ zrY h fun y hy=>zxD hy
end read
section rel
variable {W:World} {v:Value} {H:Type} {enc:TypeId × Value → H} {d:DataW H} {ps:List MemPlace} {base:Nat}
theorem ziX (hval:Value.okWide Tryd.prog W .any base 22 v) (h:DataW.Trod enc Tryd.prog W 0 (fun _=>true) true 22 v d ps) :
 ∃ l:List Op,l.length≤9223372036854775807∧(∀ x∈l,x.l.length≤9223372036854775807)∧RelV σ0 H0 W (.p (.sl false 3 (pl opv l))) v:=by
 obtain⟨xs,hx,e⟩:=zbZ 8 (by kernel_rfl) hval h
 obtain⟨l,h1,rfl,h2⟩:=zw2 (k:=3) hx
 rw [zrT] at e
 exact⟨l,h1,h2,e⟩
theorem zt6 (hval:Value.okWide Tryd.prog W .any base 61 v) (h:DataW.Trod enc Tryd.prog W 0 (fun _=>true) true 61 v d ps) :
 ∃ l:List T3,l.length≤9223372036854775807∧RelV σ0 H0 W (.p (.sl false 3 (pl tri l))) v:=by
 obtain⟨xs,hx,e⟩:=zbZ 8 (by kernel_rfl) hval h
 obtain⟨l,h1,rfl⟩:=zox (k:=5) hx
 rw [zrW] at e
 exact⟨l,h1,e⟩
theorem zqw (hval:Value.okWide Tryd.prog W .any base 27 v) (h:DataW.Trod enc Tryd.prog W 0 (fun _=>true) true 27 v d ps) :
 ∃ l:By,l.length≤9223372036854775807∧RelV σ0 H0 W (.p (.sl false 1 (pl b8 l))) v:=by
 obtain⟨xs,hx,e⟩:=zbZ 8 (by kernel_rfl) hval h
 obtain⟨l,h1,rfl⟩:=zlj (k:=6) hx
 rw [zmX] at e
 exact⟨l,h1,e⟩
theorem zoy (hval:Value.okWide Tryd.prog W .any base 49 v) (h:DataW.Trod enc Tryd.prog W 0 (fun _=>true) true 49 v d ps) :
 ∃ (z:Int) (cs:List By),(-9223372036854775808≤z∧z≤9223372036854775807)∧cs.length≤9223372036854775807∧(∀ c∈cs,c.length≤9223372036854775807)∧RelV σ0 H0 W (.p (seg z cs)) v:=by
 obtain⟨xs,hx,e⟩:=zbZ 8 (by kernel_rfl) hval h
 obtain⟨y1,z1,rfl,-,r1,y2,z2,rfl,-,r2,rfl⟩:=Reads.struct (k:=7) Tryd.underlying49 hx
 obtain⟨z,h1,h2,rfl⟩:=Reads.i64 Tryd.underlying3 r1
 obtain⟨cs,h3,rfl,h4⟩:=zvv r2
 rw [zrV] at e
 exact⟨z,cs,⟨h1,h2⟩,h3,h4,e⟩
theorem zw3 (hval:Value.okWide Tryd.prog W .any base 5 v) (h:DataW.Trod enc Tryd.prog W 0 (fun _=>true) true 5 v d ps) : ∃ b:BitVec 8,RelV σ0 H0 W (.p (b8 b)) v:=by
 obtain⟨xs,hx,e⟩:=zbZ 1 (by kernel_rfl) hval h
 obtain⟨b,rfl⟩:=Reads.u8 (k:=0) Tryd.underlying5 hx
 rw [zrS] at e
 exact⟨b,e⟩
theorem zfr (hval:Value.okWide Tryd.prog W .any base 46 v) (h:DataW.Trod enc Tryd.prog W 0 (fun _=>true) true 46 v d ps) : ∃ b:BitVec 16,RelV σ0 H0 W (.p (w16 b)) v:=by
 obtain⟨xs,hx,e⟩:=zbZ 1 (by kernel_rfl) hval h
 obtain⟨b,rfl⟩:=Reads.u16 (k:=0) Tryd.underlying46 hx
 rw [zrU] at e
 exact⟨b,e⟩
end rel
end Go.Proofs.YtdpfkanfahchjaaDoor

/-
  The log of readings: a log with one byte changed.
-/
namespace Go.Proofs.YtdpfkanfahchjaaDoor
open Go Go.AL

theorem zqx {k:BitVec 8} {p b:By} (hp:p.length≤1048576):val ((rcd k p++b).take 4)=p.length:=by
 rw [rcd,List.append_assoc,List.take_left' zC,zbA (by omega)]
theorem zoz {n k:Nat} : ∀ (l:Recs) (a b:By),zkJ l → (a++lg l).length≤k → zdF (a++(lg l++b)) n k a.length=zdF (a++(lg l++b)) n k (a++lg l).length
 | [],a,b,_,_=>by simp [lg]
 | q :: l,a,b,ho,hk=>by
  have hq:=ho q (by simp)
  have hl:(rcd q.1 q.2).length=13+q.2.length:=yY
  have hkl:a.length+(13+q.2.length)+(lg l).length≤k:=by
   have:=hk
   rw [lg,List.length_append,List.length_append,hl] at this
   omega
  have ih:=zoz (n:=n) (k:=k) l (a++rcd q.1 q.2) b (fun x hx=>ho x (by simp [hx])) (by rw [List.length_append,List.length_append,hl];omega)
  have e:a++(lg (q :: l)++b)=a++rcd q.1 q.2++(lg l++b):=by rw [lg];simp
  have e2:a++lg (q :: l)=a++rcd q.1 q.2++lg l:=by rw [lg];simp
  rw [e,e2,←ih]
  have hdl:(a++rcd q.1 q.2++(lg l++b)).length=a.length+(13+q.2.length)+((lg l).length+b.length):=by simp only [List.length_append,hl]
  have hv:val (((a++rcd q.1 q.2++(lg l++b)).drop a.length).take 4)=q.2.length:=by
   rw [List.append_assoc,List.drop_left' rfl,zqx hq]
  conv=>lhs;rw [zdF]
  rw [dif_pos (by rw [hdl];omega),hv,hdl,if_neg (by omega),if_neg (by omega),List.length_append,hl,show a.length+13+q.2.length=a.length+(13+q.2.length) by omega]
theorem zvw {b:By} {k:BitVec 8} {p r:By} (h:spl b=some (k,p,r)):(sha ((b.drop 4).take (1+p.length))).take 8=(b.drop (5+p.length)).take 8:=by
 have hl:=(zaC h).2.2
 unfold spl at h
 rw [←hl] at h
 split at h
 · cases h
 · split at h
   · cases h
   · split at h
     · rename_i c;exact c
     · cases h
theorem Inv.hit {m:Nat} {s:Sto} {h:Hs} {rc:Recs} (i:Inv m s h rc) {k:Nat} (hk:k < s.1.length) (x:BitVec 8) :
 (lE (s.1.set k x)=270∧lN (s.1.set k x)≤k ∧ ∃ j,0≤j∧j < h.o.length∧lS (s.1.set k x)=nth h.o j) ∨ (k < lN (s.1.set k x)∧zdF (s.1.set k x) (lN (s.1.set k x)) k 0=true):=by
 obtain⟨j,o,a1,a2,a3,a4,a5⟩:=ztC (x:=x) i.ok i.sq (k:=k) (by rw [←i.disk];exact hk)
 rw [i.z,←i.disk] at a5
 rw [←i.disk] at a4
 have hl:=i.len
 obtain⟨D,hD⟩ : ∃ D,D=s.1.set k x:=⟨_,rfl⟩
 have hDl:D.length=s.1.length:=by rw [hD,List.length_set]
 rw [←hD] at a4 a5 ⊢
 rw [←hDl] at hk a5
 have hNv:lN D=D.length - (ld z0S D).2.1:=rfl
 rcases a5 with ⟨b1,b2,b3⟩ | ⟨k',p',r',b1,b2,b3⟩
 · refine .inl ⟨?_,?_,j,Nat.zero_le _,by omega,b1⟩
   · unfold lE;rw [b3];rfl
   · rw [hNv,b2];omega
 · have hs:=zaC b1
   have hd:=zvw b1
   rw [List.length_drop] at hs
   have hkn:k < lN D:=by rw [hNv];omega
   refine .inr ⟨hkn,?_⟩
   have hsp:D=lg (rc.take j)++D.drop o:=by rw [←a4,List.take_append_drop]
   have hp:=zoz (n:=lN D) (k:=k) (rc.take j) [] (D.drop o) (fun q hq=>i.ok q (List.mem_of_mem_take hq)) (by rw [List.nil_append,←a2];exact a3)
   rw [List.nil_append,←hsp,List.nil_append,←a2,List.length_nil] at hp
   rw [hp,zdF,dif_pos (by omega),←hs.2.2,if_neg (by omega),if_pos (by omega)]
   rw [List.drop_drop,List.drop_drop,←Nat.add_assoc] at hd
   rw [decide_eq_true hkn,decide_eq_true hd];rfl
end Go.Proofs.YtdpfkanfahchjaaDoor
