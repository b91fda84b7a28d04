/-
  All steps of the program.
-/
import Derived.Test.YtjnbifkojpfdgaaPkS1
import Derived.Test.YtjnbifkojpfdgaaRows
set_option linter.unusedSimpArgs false
set_option linter.unusedVariables false
namespace Go.Proofs.Ytjnbifkojpfdgaa
open Go Go.AL

def step1 (j:Nat) (c:Circ):Circ:=match j with | 0=>fold goG c | 1=>share c | _=>deadG c
def stp (c:Circ):Nat → Circ
  | 0=>c
  | s+1=>step1 (s % 3) (stp c s)

theorem mkAgg_clo {f:Nat} {a b:List AV}:mkAgg [.clo f a b] = .agg [.clo f a b]:=rfl
theorem acells_agg {xs:List AV}:acells (.agg xs)=some xs:=rfl
theorem mkAgg_clo3 {f g h:Nat} {a b a' b' a'' b'':List AV}:mkAgg [.clo f a b,.clo g a' b',.clo h a'' b''] = .agg [.clo f a b,.clo g a' b',.clo h a'' b'']:=rfl
theorem isAggV_agg {xs:List AV}:(AV.agg xs).isAggV=true:=rfl
attribute [go_sem] mkAgg_clo acells_agg mkAgg_clo3 isAggV_agg

section walks
variable {G:Globs}

set_option maxHeartbeats 8000000 in
theorem optimize_All_spec (c:Circ) (hv : ∀ s,s < 6 → Vd (stp c s)) (H:Hp) (R:AV → Hp → Prop) (h:R (.p (circ (once goG (once goG c)))) H):ACall Try.prog G 19 [.p (circ c)] H R:=by
  refine ACall.of_run (raw:=[]) Try.func19 rfl Try.ntmps19 (by simp) fun hbel => ?_
  (repeat refine .z rfl ?_);refine .text ?_;simp (disch:=first|exact dsc|fail) only [go_sem,seval]
  (repeat refine .z rfl ?_);refine .text ?_;simp (disch:=first|exact dsc|fail) only [go_sem,seval]
  (repeat refine .z rfl ?_);refine .text ?_;simp (disch:=first|exact dsc|fail) only [go_sem,seval]
  repeat refine .z rfl ?_
  refine .count (fun i env H'=>env 1 = .ptr H.n 0∧env 2 = .ptr (H.n+1) 0∧env 3 = .ptr (H.n+2) 0∧env 10 = .p (i64 i) ∧ ∃ S,H'=app (((H.new (.cells (cc (stp c (3*i))))).new (.cells [.p (i64 0),.p (.sl true 1 []),.p (i64 0)])).new (.cells [.clo 14 [] [],.clo 15 [] [],.clo 17 [] []])) S) 0 2 (by omega) ?_ ?_ ?_
  · simp (disch:=first|exact dsc|fail) only [go_sem,seval]
    exact ⟨[],rfl⟩
  · intro env H' ⟨e1,e2,e3,e10,S,eH⟩
    subst eH
    (repeat refine .z rfl ?_);refine .text ?_;simp (disch:=first|exact dsc|fail) only [go_sem,seval,e10]
    (repeat refine .z rfl ?_);refine .ifF (by simp (disch:=first|exact dsc|fail) only [go_sem,seval]) ?_
    (repeat refine .z rfl ?_);refine .text ?_;simp (disch:=first|exact dsc|fail) only [go_sem,seval,e1,e2]
    (repeat refine .z rfl ?_);refine .rt Try.func19 (by rw [Try.results19]) (hx:=by simp (disch:=first|exact dsc|fail) only [go_sem,seval,e2];rfl) (hR := ?_);simp (disch:=first|exact dsc|fail) only [go_sem,seval,e2]
    exact h
  · intro i env H' _ hi ⟨e1,e2,e3,e10,S,eH⟩ ih
    subst eH
    (repeat refine .z rfl ?_);refine .text ?_;simp (disch:=first|exact dsc|fail) only [go_sem,seval,e10]
    (repeat refine .z rfl ?_);refine .ifT (by simp (disch:=first|exact dsc|fail) only [go_sem,seval]) ?_
    (repeat refine .z rfl ?_);refine .text ?_;simp (disch:=first|exact dsc|fail) only [go_sem,seval,e3]
    repeat refine .z rfl ?_
    refine .count (fun j env H'=>env 1 = .ptr H.n 0∧env 2 = .ptr (H.n+1) 0∧env 3 = .ptr (H.n+2) 0∧env 10 = .p (i64 i)∧env 12 = .agg [.clo 14 [] [],.clo 15 [] [],.clo 17 [] []]∧env 13 = .p (i64 j) ∧ ∃ S,H'=app (((H.new (.cells (cc (stp c (3*i+j))))).new (.cells [.p (i64 0),.p (.sl true 1 []),.p (i64 0)])).new (.cells [.clo 14 [] [],.clo 15 [] [],.clo 17 [] []])) S) 0 3 (by omega) ?_ ?_ ?_
    · simp (disch:=first|exact dsc|fail) only [go_sem,seval,e1,e2,e3,e10]
      exact ⟨S,rfl⟩
    · intro env H' ⟨e1,e2,e3,e10,e12,e13,S,eH⟩
      subst eH
      (repeat refine .z rfl ?_);refine .text ?_;simp (disch:=first|exact dsc|fail) only [go_sem,seval,e13]
      (repeat refine .z rfl ?_);refine .ifF (by simp (disch:=first|exact dsc|fail) only [go_sem,seval]) ?_
      (repeat refine .z rfl ?_);refine .text ?_;simp (disch:=first|exact dsc|fail) only [go_sem,seval,e10]
      refine ih _ _ ?_
      simp (disch:=first|exact dsc|fail) only [go_sem,seval,e1,e2,e3,e10]
      exact ⟨S,rfl⟩
    · intro j env H' _ hj ⟨e1,e2,e3,e10,e12,e13,S,eH⟩ ih
      subst eH
      have hvs:=hv (3*i+j) (by omega)
      have hst:stp c (3*i+(j+1))=step1 j (stp c (3*i+j)):=by
        rw [show 3*i+(j+1)=(3*i+j)+1 by omega,stp,show (3*i+j) % 3=j by omega]
      rw [hst] at ih
      generalize stp c (3*i+j)=x at *
      rcases j with _ | _ | _ | j
      · (repeat refine .z rfl ?_);refine .text ?_;simp (disch:=first|exact dsc|fail) only [go_sem,seval,e13]
        (repeat refine .z rfl ?_);refine .ifT (by simp (disch:=first|exact dsc|fail) only [go_sem,seval]) ?_
        (repeat refine .z rfl ?_);refine .text ?_;simp (disch:=first|exact dsc|fail) only [go_sem,seval,e12,e13]
        (repeat refine .z rfl ?_);refine .text ?_;simp (disch:=first|exact dsc|fail) only [go_sem,seval,e1]
        refine CallK.of (fun R h=>circuit_Valid_spec x hvs _ R h) ?_;simp (disch:=first|exact dsc|fail) only [go_sem,seval]
        (repeat refine .z rfl ?_);refine .ifT (by simp (disch:=first|exact dsc|fail) only [go_sem,seval]) ?_
        (repeat refine .z rfl ?_);refine .text ?_;simp (disch:=first|exact dsc|fail) only [go_sem,seval,e1]
        refine CallK.of (fun R h=>optimize_Fold_spec x hvs.ok _ R h) ?_;simp (disch:=first|exact dsc|fail) only [go_sem,seval,e1]
        (repeat refine .z rfl ?_);refine .text ?_;simp (disch:=first|exact dsc|fail) only [go_sem,seval,e13]
        refine ih _ _ ?_
        simp (disch:=first|exact dsc|fail) only [go_sem,seval,e1,e2,e3,e10,e12,e13,step1]
        exact ⟨_,app_new⟩
      · (repeat refine .z rfl ?_);refine .text ?_;simp (disch:=first|exact dsc|fail) only [go_sem,seval,e13]
        (repeat refine .z rfl ?_);refine .ifT (by simp (disch:=first|exact dsc|fail) only [go_sem,seval]) ?_
        (repeat refine .z rfl ?_);refine .text ?_;simp (disch:=first|exact dsc|fail) only [go_sem,seval,e12,e13]
        (repeat refine .z rfl ?_);refine .text ?_;simp (disch:=first|exact dsc|fail) only [go_sem,seval,e1]
        refine CallK.of (fun R h=>circuit_Valid_spec x hvs _ R h) ?_;simp (disch:=first|exact dsc|fail) only [go_sem,seval]
        (repeat refine .z rfl ?_);refine .ifT (by simp (disch:=first|exact dsc|fail) only [go_sem,seval]) ?_
        (repeat refine .z rfl ?_);refine .text ?_;simp (disch:=first|exact dsc|fail) only [go_sem,seval,e1]
        refine CallK.of (fun R h=>optimize_Share_spec x hvs.ok _ R h) ?_;simp (disch:=first|exact dsc|fail) only [go_sem,seval,e1]
        (repeat refine .z rfl ?_);refine .text ?_;simp (disch:=first|exact dsc|fail) only [go_sem,seval,e13]
        refine ih _ _ ?_
        simp (disch:=first|exact dsc|fail) only [go_sem,seval,e1,e2,e3,e10,e12,e13,step1]
        exact ⟨_,app_new⟩
      · (repeat refine .z rfl ?_);refine .text ?_;simp (disch:=first|exact dsc|fail) only [go_sem,seval,e13]
        (repeat refine .z rfl ?_);refine .ifT (by simp (disch:=first|exact dsc|fail) only [go_sem,seval]) ?_
        (repeat refine .z rfl ?_);refine .text ?_;simp (disch:=first|exact dsc|fail) only [go_sem,seval,e12,e13]
        (repeat refine .z rfl ?_);refine .text ?_;simp (disch:=first|exact dsc|fail) only [go_sem,seval,e1]
        refine CallK.of (fun R h=>circuit_Valid_spec x hvs _ R h) ?_;simp (disch:=first|exact dsc|fail) only [go_sem,seval]
        (repeat refine .z rfl ?_);refine .ifT (by simp (disch:=first|exact dsc|fail) only [go_sem,seval]) ?_
        (repeat refine .z rfl ?_);refine .text ?_;simp (disch:=first|exact dsc|fail) only [go_sem,seval,e1]
        refine CallK.of (fun R h=>optimize_Dead_spec x hvs.ok _ R h) ?_;simp (disch:=first|exact dsc|fail) only [go_sem,seval,e1]
        (repeat refine .z rfl ?_);refine .text ?_;simp (disch:=first|exact dsc|fail) only [go_sem,seval,e13]
        refine ih _ _ ?_
        simp (disch:=first|exact dsc|fail) only [go_sem,seval,e1,e2,e3,e10,e12,e13,step1]
        exact ⟨_,app_new⟩
      · omega
end walks
end Go.Proofs.Ytjnbifkojpfdgaa

/-
  The circuit that the reference makes of an arbitrary one.
-/
namespace Go.Proofs.Ytjnbifkojpfdgaa
open Go Go.AL

def mdM (c:Circ) (i:Nat):Nat:=if i < c.layers.length then min (nth c.layers i).length 6 else 0
def mdR (c:Circ) (i:Nat) (n:Int):List Gate:=if mdM c i=0 then [⟨0,0,0#64,1#64,0#64,0#64⟩] else tab (fun k=>mkG (nth (nth c.layers i) k) n) (mdM c i)
def mdI (c:Circ):Int:=1+c.inputs % 256 % 6
def mdL (c:Circ):Nat → List Gate
  | 0=>mdR c 0 (mdI c)
  | i+1=>mdR c (i+1) ((mdL c i).length:Int)
def mdW (c:Circ) (i:Nat):Int:=if i=0 then mdI c else ((mdL c (i - 1)).length:Int)
theorem mdL_eq (c:Circ) (i:Nat):mdL c i=mdR c i (mdW c i):=by cases i<;>rfl
def mdN (c:Circ):Nat:=max 1 (min c.layers.length 4)
def made (c:Circ):Circ:=⟨mdI c,tab (mdL c) (mdN c),c.sums % 256 % (mdW c (mdN c)+1)⟩

theorem mdR_len {c:Circ} {i:Nat} {n:Int}:1≤(mdR c i n).length∧(mdR c i n).length≤6:=by
  unfold mdR
  split
  · simp
  · rw [tab_len]
    have:mdM c i≤6:=by unfold mdM;split<;>omega
    omega
theorem mdL_len {c:Circ} {i:Nat}:1≤(mdL c i).length∧(mdL c i).length≤6:=by rw [mdL_eq];exact mdR_len
theorem mdW_pos {c:Circ} {i:Nat}:1≤mdW c i∧mdW c i≤6:=by
  unfold mdW
  split
  · unfold mdI;omega
  · have:=mdL_len (c:=c) (i:=i - 1);omega

def mH (H:Hp) (c:Circ) (ls:List (List Gate)) (k:Nat):Hp :=
  ((((H.new (.cells (cc c))).new (.cells [.p (i64 4),.p (i64 6)])).new (.cells [.p (i64 0),.p (.sl true 1 []),.p (i64 0)])).new (.cells [.p (i64 (mdI c)),.sl (H.n+4) k 1 (pl (sle 6 gate) ls),.p (i64 0)])).new (.tail k)
theorem acells_two {i s:Int}:acells (.p (.agg [i64 i,i64 s]))=some [.p (i64 i),.p (i64 s)]:=rfl
attribute [go_sem] acells_two

section walks
variable {G:Globs}

set_option maxHeartbeats 8000000 in
theorem R16_Made_spec (c:Circ) (hl:c.layers.length≤9223372036854775807) (hr : ∀ i,i < c.layers.length → (nth c.layers i).length≤9223372036854775807) (H:Hp) (R:AV → Hp → Prop) (h:R (.p (circ (made c))) H) :
    ACall Try.prog G 31 [.p (circ c),.p (.agg [i64 4,i64 6])] H R:=by
  refine ACall.of_run (raw:=[]) Try.func31 rfl Try.ntmps31 (by simp) fun hbel => ?_
  have hmi:mdI c=1+c.inputs % 256 % 6:=rfl
  (repeat refine .z rfl ?_);refine .text ?_;simp (disch:=first|exact dsc|fail) only [go_sem,seval]
  (repeat refine .z rfl ?_);refine .text ?_;simp (disch:=first|exact dsc|fail) only [go_sem,seval,←hmi]
  (repeat refine .z rfl ?_);refine .ownC (H.n+3) 1 (by simp (disch:=first|exact dsc|fail) only [go_sem,seval];rfl) (by rfl) ?_;simp (disch:=first|exact dsc|fail) only [go_sem,seval,List.set_cons_zero,List.set_cons_succ]
  (repeat refine .z rfl ?_);refine .text ?_;simp (disch:=first|exact dsc|fail) only [go_sem,seval]
  (repeat refine .z rfl ?_);refine .text ?_;simp (disch:=first|exact dsc|fail) only [go_sem,seval]
  repeat refine .z rfl ?_
  refine .count (fun k env H'=>env 2 = .ptr H.n 0∧env 3 = .ptr (H.n+1) 0∧env 4 = .ptr (H.n+2) 0∧env 5 = .ptr (H.n+3) 0∧env 6 = .p (i64 (mdW c k))∧env 7 = .p (i64 k) ∧ ∃ T,H'=app (mH H c (tab (mdL c) k) k) T) 0 (mdN c) (by omega) ?_ ?_ ?_
  · simp (disch:=first|exact dsc|fail) only [go_sem,seval]
    exact ⟨rfl,[],rfl⟩
  · intro env H' ⟨e2,e3,e4,e5,e6,e7,T,eH⟩
    subst eH
    have hw:=mdW_pos (c:=c) (i:=mdN c)
    have hn:mdN c=max 1 (min c.layers.length 4):=rfl
    have hmx:max 1 (min ((c.layers.length:Nat):Int) 4)=(mdN c:Int):=by rw [hn];omega
    (repeat refine .z rfl ?_);refine .text ?_;simp (disch:=first|exact dsc|fail) only [go_sem,seval,e2,e3,e7,mH,hmx]
    (repeat refine .z rfl ?_);refine .ifF (by simp (disch:=first|exact dsc|fail) only [go_sem,seval]) ?_
    (repeat refine .z rfl ?_);refine .text ?_;simp (disch:=first|exact dsc|fail) only [go_sem,seval,e2,e5,e6]
    (repeat refine .z rfl ?_);refine .text ?_;simp (disch:=first|exact dsc|fail) only [go_sem,seval,e4,e5]
    (repeat refine .z rfl ?_);refine .rt Try.func31 (by rw [Try.results31]) (hx:=by simp (disch:=first|exact dsc|fail) only [go_sem,seval,e4];rfl) (hR := ?_);simp (disch:=first|exact dsc|fail) only [go_sem,seval,e4]
    exact h
  · intro k env H' _ hk ⟨e2,e3,e4,e5,e6,e7,T,eH⟩ ih
    subst eH
    have hw:=mdW_pos (c:=c) (i:=k)
    have hn:mdN c=max 1 (min c.layers.length 4):=rfl
    have hmx:max 1 (min ((c.layers.length:Nat):Int) 4)=(mdN c:Int):=by rw [hn];omega
    have hm6:mdM c k≤6:=by unfold mdM;split<;>omega
    (repeat refine .z rfl ?_);refine .text ?_;simp (disch:=first|exact dsc|fail) only [go_sem,seval,e2,e3,e7,mH,hmx]
    (repeat refine .z rfl ?_);refine .ifT (by simp (disch:=first|exact dsc|fail) only [go_sem,seval]) ?_
    (repeat refine .z rfl ?_);refine .text ?_;simp (disch:=first|exact dsc|fail) only [go_sem,seval]
    (repeat refine .z rfl ?_);refine .own 8 (by simp (disch:=first|exact dsc|fail) only [go_sem,seval];rfl) ?_
    (repeat refine .z rfl ?_);refine .text ?_;simp (disch:=first|exact dsc|fail) only [go_sem,seval]
    repeat refine .z rfl ?_
    refine .count (fun i env H'=>env 2 = .ptr H.n 0∧env 3 = .ptr (H.n+1) 0∧env 4 = .ptr (H.n+2) 0∧env 5 = .ptr (H.n+3) 0∧env 6 = .p (i64 (mdW c k))∧env 7 = .p (i64 k)∧env 8 = .sl (H.n+5+T.length) i 6 (pl gate (tab (fun j=>mkG (nth (nth c.layers k) j) (mdW c k)) i))∧env 9 = .p (i64 i)∧H'=(app (mH H c (tab (mdL c) k) k) T).new (.tail i)) 0 (mdM c k) (by omega) ?_ ?_ ?_
    · simp (disch:=first|exact dsc|fail) only [go_sem,seval,e2,e3,e4,e5,e6,e7,mH]
      rfl
    · intro env H' ⟨e2,e3,e4,e5,e6,e7,e8,e9,eH⟩
      subst eH
      have hmm:mdM c k=if k < c.layers.length then min (nth c.layers k).length 6 else 0:=rfl
      have hL:=mdL_eq c k
      have hll:=mdL_len (c:=c) (i:=k)
      have hWs:mdW c (k+1)=((mdL c k).length:Int):=rfl
      by_cases hkl:k < c.layers.length
      · rw [if_pos hkl] at hmm
        have hrk:=hr k hkl
        by_cases h2:mdM c k < (nth c.layers k).length
        · have h6:mdM c k=6:=by omega
          (repeat refine .z rfl ?_);refine .text ?_;simp (disch:=first|exact dsc|fail) only [go_sem,seval,e2,e3,e4,e5,e6,e7,e9,mH]
          (repeat refine .z rfl ?_);refine .ifF (by simp (disch:=first|exact dsc|fail) only [go_sem,seval]) ?_
          (repeat refine .z rfl ?_);refine .text ?_;simp (disch:=first|exact dsc|fail) only [go_sem,seval,e8]
          (repeat refine .z rfl ?_);refine .ifB (by simp (disch:=first|exact dsc|fail) only [go_sem,seval];rfl) (fun hz => ?_) (fun hz => ?_)
          · cases hz
          · have h0 : ¬ mdM c k=0:=by omega
            have hLL:mdL c k=tab (fun j=>mkG (nth (nth c.layers k) j) (mdW c k)) (mdM c k):=by rw [hL,mdR,if_neg h0]
            refine .skip ?_
            (repeat refine .z rfl ?_);refine .text ?_;simp (disch:=first|exact dsc|fail) only [go_sem,seval,e2,e3,e4,e5,e6,e7,e8]
            (repeat refine .z rfl ?_);refine .text ?_;simp (disch:=first|exact dsc|fail) only [go_sem,seval,e8]
            (repeat refine .z rfl ?_);refine .text ?_;simp (disch:=first|exact dsc|fail) only [go_sem,seval,e2,e3,e4,e5,e6,e7]
            refine ih _ _ ?_
            simp (disch:=first|exact dsc|fail) only [go_sem,seval,e2,e3,e4,e5,e6,e7,mH,tab_succ,hWs,hLL]
            first | exact ⟨rfl,_,app_new⟩ | exact ⟨_,app_new⟩
        · skip
          (repeat refine .z rfl ?_);refine .text ?_;simp (disch:=first|exact dsc|fail) only [go_sem,seval,e2,e3,e4,e5,e6,e7,e9,mH]
          (repeat refine .z rfl ?_);refine .ifF (by simp (disch:=first|exact dsc|fail) only [go_sem,seval]) ?_
          (repeat refine .z rfl ?_);refine .text ?_;simp (disch:=first|exact dsc|fail) only [go_sem,seval,e8]
          (repeat refine .z rfl ?_);refine .ifB (by simp (disch:=first|exact dsc|fail) only [go_sem,seval];rfl) (fun hz => ?_) (fun hz => ?_)
          · have h0:mdM c k=0:=by first | omega | (have:=eq_of_beq hz;omega)
            have hLL:mdL c k=[⟨0,0,0#64,1#64,0#64,0#64⟩]:=by rw [hL,mdR,if_pos h0]
            rw [h0] at e8 ⊢
            (repeat refine .z rfl ?_);refine .text ?_;simp (disch:=first|exact dsc|fail) only [go_sem,seval,e8,tab_zero]
            (repeat refine .z rfl ?_);refine .text ?_;simp (disch:=first|exact dsc|fail) only [go_sem,seval,e2,e3,e4,e5,e6,e7]
            (repeat refine .z rfl ?_);refine .text ?_;simp (disch:=first|exact dsc|fail) only [go_sem,seval]
            (repeat refine .z rfl ?_);refine .text ?_;simp (disch:=first|exact dsc|fail) only [go_sem,seval,e2,e3,e4,e5,e6,e7]
            refine ih _ _ ?_
            simp (disch:=first|exact dsc|fail) only [go_sem,seval,e2,e3,e4,e5,e6,e7,mH,tab_succ,hWs,hLL]
            first | exact ⟨rfl,_,app_new⟩ | exact ⟨_,app_new⟩
          · have h0 : ¬ mdM c k=0:=fun e=>by first | (rw [e] at hz;simp at hz;done) | cases hz
            have hLL:mdL c k=tab (fun j=>mkG (nth (nth c.layers k) j) (mdW c k)) (mdM c k):=by rw [hL,mdR,if_neg h0]
            refine .skip ?_
            (repeat refine .z rfl ?_);refine .text ?_;simp (disch:=first|exact dsc|fail) only [go_sem,seval,e2,e3,e4,e5,e6,e7,e8]
            (repeat refine .z rfl ?_);refine .text ?_;simp (disch:=first|exact dsc|fail) only [go_sem,seval,e8]
            (repeat refine .z rfl ?_);refine .text ?_;simp (disch:=first|exact dsc|fail) only [go_sem,seval,e2,e3,e4,e5,e6,e7]
            refine ih _ _ ?_
            simp (disch:=first|exact dsc|fail) only [go_sem,seval,e2,e3,e4,e5,e6,e7,mH,tab_succ,hWs,hLL]
            first | exact ⟨rfl,_,app_new⟩ | exact ⟨_,app_new⟩
      · skip
        (repeat refine .z rfl ?_);refine .text ?_;simp (disch:=first|exact dsc|fail) only [go_sem,seval,e2,e3,e4,e5,e6,e7,e9,mH]
        (repeat refine .z rfl ?_);refine .ifF (by simp (disch:=first|exact dsc|fail) only [go_sem,seval]) ?_
        (repeat refine .z rfl ?_);refine .text ?_;simp (disch:=first|exact dsc|fail) only [go_sem,seval,e8]
        (repeat refine .z rfl ?_);refine .ifB (by simp (disch:=first|exact dsc|fail) only [go_sem,seval];rfl) (fun hz => ?_) (fun hz => ?_)
        · have h0:mdM c k=0:=by first | omega | (have:=eq_of_beq hz;omega)
          have hLL:mdL c k=[⟨0,0,0#64,1#64,0#64,0#64⟩]:=by rw [hL,mdR,if_pos h0]
          rw [h0] at e8 ⊢
          (repeat refine .z rfl ?_);refine .text ?_;simp (disch:=first|exact dsc|fail) only [go_sem,seval,e8,tab_zero]
          (repeat refine .z rfl ?_);refine .text ?_;simp (disch:=first|exact dsc|fail) only [go_sem,seval,e2,e3,e4,e5,e6,e7]
          (repeat refine .z rfl ?_);refine .text ?_;simp (disch:=first|exact dsc|fail) only [go_sem,seval]
          (repeat refine .z rfl ?_);refine .text ?_;simp (disch:=first|exact dsc|fail) only [go_sem,seval,e2,e3,e4,e5,e6,e7]
          refine ih _ _ ?_
          simp (disch:=first|exact dsc|fail) only [go_sem,seval,e2,e3,e4,e5,e6,e7,mH,tab_succ,hWs,hLL]
          first | exact ⟨rfl,_,app_new⟩ | exact ⟨_,app_new⟩
        · have h0 : ¬ mdM c k=0:=fun e=>by first | (rw [e] at hz;simp at hz;done) | cases hz
          have hLL:mdL c k=tab (fun j=>mkG (nth (nth c.layers k) j) (mdW c k)) (mdM c k):=by rw [hL,mdR,if_neg h0]
          refine .skip ?_
          (repeat refine .z rfl ?_);refine .text ?_;simp (disch:=first|exact dsc|fail) only [go_sem,seval,e2,e3,e4,e5,e6,e7,e8]
          (repeat refine .z rfl ?_);refine .text ?_;simp (disch:=first|exact dsc|fail) only [go_sem,seval,e8]
          (repeat refine .z rfl ?_);refine .text ?_;simp (disch:=first|exact dsc|fail) only [go_sem,seval,e2,e3,e4,e5,e6,e7]
          refine ih _ _ ?_
          simp (disch:=first|exact dsc|fail) only [go_sem,seval,e2,e3,e4,e5,e6,e7,mH,tab_succ,hWs,hLL]
          first | exact ⟨rfl,_,app_new⟩ | exact ⟨_,app_new⟩
    · intro i env H' _ hi ⟨e2,e3,e4,e5,e6,e7,e8,e9,eH⟩ ih
      subst eH
      have hmm:mdM c k=if k < c.layers.length then min (nth c.layers k).length 6 else 0:=rfl
      have hkl:k < c.layers.length:=by
        by_cases h:k < c.layers.length
        · exact h
        · rw [if_neg h] at hmm;omega
      rw [if_pos hkl] at hmm
      have hrk:=hr k hkl
      (repeat refine .z rfl ?_);refine .text ?_;simp (disch:=first|exact dsc|fail) only [go_sem,seval,e2,e3,e4,e5,e6,e7,e9,mH]
      (repeat refine .z rfl ?_);refine .ifT (by simp (disch:=first|exact dsc|fail) only [go_sem,seval]) ?_
      (repeat refine .z rfl ?_);refine .text ?_;simp (disch:=first|exact dsc|fail) only [go_sem,seval,e2,e3,e4,e5,e6,e7,e8,e9]
      refine CallK.of (fun R h=>R16_MadeGate_spec _ _ (by omega) _ R h) ?_;simp (disch:=first|exact dsc|fail) only [go_sem,seval]
      (repeat refine .z rfl ?_);refine .text ?_;simp (disch:=first|exact dsc|fail) only [go_sem,seval,e9]
      refine ih _ _ ?_
      simp (disch:=first|exact dsc|fail) only [go_sem,seval,e2,e3,e4,e5,e6,e7,e8,e9,mH,tab_succ]
end walks
end Go.Proofs.Ytjnbifkojpfdgaa

/-
  The columns that the reference makes of arbitrary ones.
-/
namespace Go.Proofs.Ytjnbifkojpfdgaa
open Go Go.AL

def clM (raw:List (List U)) (N i:Nat):Nat:=if i < raw.length then min (nth raw i).length N else 0
def clTo (raw:List (List U)) (N i m:Nat):List U:=tab (fun t=>if t < m then rRed (nth (nth raw i) t) else 0#64) N
def clR (raw:List (List U)) (N i:Nat):List U:=clTo raw N i (clM raw N i)
def columns (raw:List (List U)) (n N:Nat):List (List U):=tab (clR raw N) n
theorem clTo_zero {raw:List (List U)} {N i:Nat}:clTo raw N i 0=List.replicate N 0#64:=nth_ext (by simp [clTo,tab]) fun j hj=>by
  rw [clTo,tab_len] at hj
  rw [clTo,nth_tab hj,if_neg (by omega),nth_replicate hj]
theorem clTo_len {raw:List (List U)} {N i m:Nat}:(clTo raw N i m).length=N:=tab_len
theorem clTo_succ {raw:List (List U)} {N i m:Nat} (h:m < N):(clTo raw N i m).set m (rRed (nth (nth raw i) m))=clTo raw N i (m+1):=nth_ext (by simp [clTo,tab]) fun j hj=>by
  rw [List.length_set,clTo_len] at hj
  by_cases e:m=j
  · subst e;rw [nth_set_eq rfl (by rw [clTo_len];omega),clTo,nth_tab hj,if_pos (by omega)]
  · rw [nth_set_ne e,clTo,clTo,nth_tab hj,nth_tab hj]
    by_cases e2:j < m
    · rw [if_pos e2,if_pos (by omega)]
    · rw [if_neg e2,if_neg (by omega)]

section walks
variable {G:Globs}

set_option maxHeartbeats 8000000 in
theorem R16_Columns_spec (raw:List (List U)) (hl:raw.length≤9223372036854775807) (hr : ∀ i,i < raw.length → (nth raw i).length≤9223372036854775807) (n lg:Nat) (hn:n≤1000) (hlg:lg≤2) (H:Hp) (R:AV → Hp → Prop) (h:R (.p (.sl false 1 (pl (sle 1 w64) (columns raw n (2 ^ lg))))) H) :
    ACall Try.prog G 32 [.p (.sl false 1 (pl (sle 1 w64) raw)),.p (i64 n),.p (i64 lg)] H R:=by
  refine ACall.of_run (raw:=[]) Try.func32 rfl Try.ntmps32 (by simp) fun hbel => ?_
  obtain ⟨N,hN⟩ : ∃ N,2 ^ lg=N:=⟨_,rfl⟩
  have hNb:1≤N∧N≤4:=by
    rcases lg with _ | _ | _ | lg
    · subst hN;decide
    · subst hN;decide
    · subst hN;decide
    · omega
  have hsh:IntKind.i64.wrap (1*2 ^ lg)=(N:Int):=by
    rcases lg with _ | _ | _ | lg
    · subst hN;decide
    · subst hN;decide
    · subst hN;decide
    · omega
  rw [hN] at h
  (repeat refine .z rfl ?_);refine .text ?_;simp (disch:=first|exact dsc|fail) only [go_sem,seval]
  (repeat refine .z rfl ?_);refine .text ?_;simp (disch:=first|exact dsc|fail) only [go_sem,seval]
  (repeat refine .z rfl ?_);refine .own 7 (by simp (disch:=first|exact dsc|fail) only [go_sem,seval];rfl) ?_
  (repeat refine .z rfl ?_);refine .text ?_;simp (disch:=first|exact dsc|fail) only [go_sem,seval]
  repeat refine .z rfl ?_
  refine .count (fun i env H'=>env 0 = .p (.sl false 1 (pl (sle 1 w64) raw))∧env 1 = .p (i64 n)∧env 2 = .p (i64 lg)∧env 7 = .sl H.n i 1 (pl (sle 1 w64) (tab (clR raw N) i))∧env 8 = .p (i64 i) ∧ ∃ T,H'=app (H.new (.tail i)) T) 0 n (by omega) ?_ ?_ ?_
  · simp (disch:=first|exact dsc|fail) only [go_sem,seval]
    exact ⟨rfl,[],rfl⟩
  · intro env H' ⟨e0,e1,e2,e7,e8,T,eH⟩
    subst eH
    (repeat refine .z rfl ?_);refine .text ?_;simp (disch:=first|exact dsc|fail) only [go_sem,seval,e1,e8]
    (repeat refine .z rfl ?_);refine .ifF (by simp (disch:=first|exact dsc|fail) only [go_sem,seval]) ?_
    (repeat refine .z rfl ?_);refine .text ?_;simp (disch:=first|exact dsc|fail) only [go_sem,seval,e7]
    (repeat refine .z rfl ?_);refine .rt Try.func32 (by rw [Try.results32]) (hR := ?_);simp (disch:=first|exact dsc|fail) only [go_sem,seval]
    exact h
  · intro i env H' _ hi ⟨e0,e1,e2,e7,e8,T,eH⟩ ih
    subst eH
    have hcm:clM raw N i=if i < raw.length then min (nth raw i).length N else 0:=rfl
    have hcN:clM raw N i≤N:=by rw [hcm];split<;>omega
    (repeat refine .z rfl ?_);refine .text ?_;simp (disch:=first|exact dsc|fail) only [go_sem,seval,e1,e8]
    (repeat refine .z rfl ?_);refine .ifT (by simp (disch:=first|exact dsc|fail) only [go_sem,seval]) ?_
    (repeat refine .z rfl ?_);refine .text ?_;simp (disch:=first|exact dsc|fail) only [go_sem,seval,e2,hsh]
    (repeat refine .z rfl ?_);refine .text ?_;simp (disch:=first|exact dsc|fail) only [go_sem,seval]
    repeat refine .z rfl ?_
    refine .count (fun m env H'=>env 0 = .p (.sl false 1 (pl (sle 1 w64) raw))∧env 1 = .p (i64 n)∧env 2 = .p (i64 lg)∧env 7 = .sl H.n i 1 (pl (sle 1 w64) (tab (clR raw N) i))∧env 8 = .p (i64 i)∧env 9 = .ref (H.n+1+T.length) 0 N 1∧env 10 = .p (i64 m)∧H'=(app (H.new (.tail i)) T).new (.cells (cl w64 (clTo raw N i m)))) 0 (clM raw N i) (by omega) ?_ ?_ ?_
    · simp (disch:=first|exact dsc|fail) only [go_sem,seval,e0,e1,e2,e7,e8,clTo_zero]
    · intro env H' ⟨e0,e1,e2,e7,e8,e9,e10,eH⟩
      subst eH
      have hcl:(clTo raw N i (clM raw N i)).length=N:=clTo_len
      have htk:(clTo raw N i (clM raw N i)).take N=clTo raw N i (clM raw N i):=List.take_of_length_le (by rw [hcl];exact Nat.le_refl _)
      have hcr:clTo raw N i (clM raw N i)=clR raw N i:=rfl
      by_cases hil:i < raw.length
      · rw [if_pos hil] at hcm
        have hri:=hr i hil
        by_cases h2:clM raw N i < (nth raw i).length
        · (repeat refine .z rfl ?_);refine .text ?_;simp (disch:=first|exact dsc|fail) only [go_sem,seval,e0,e8,e9,e10]
          (repeat refine .z rfl ?_);refine .ifF (by simp (disch:=first|exact dsc|fail) only [go_sem,seval]) ?_
          (repeat refine .z rfl ?_);refine .frzS 9 (by simp (disch:=first|exact dsc|fail) only [go_sem,seval,e9,htk];rfl) (by simp (disch:=first|exact dsc|fail) only [go_sem,seval,e9,htk]<;>rfl) (fun _=>rfl) (by first | exact dsc | fail) ?_;(try simp (disch:=first|exact dsc|fail) only [go_sem,seval,e9,htk])
          (repeat refine .z rfl ?_);refine .text ?_;simp (disch:=first|exact dsc|fail) only [go_sem,seval,e7]
          (repeat refine .z rfl ?_);refine .text ?_;simp (disch:=first|exact dsc|fail) only [go_sem,seval,e8]
          refine ih _ _ ?_
          simp (disch:=first|exact dsc|fail) only [go_sem,seval,e0,e1,e2,e7,e8,tab_succ,hcr]
          exact ⟨_,app_new⟩
        · (repeat refine .z rfl ?_);refine .text ?_;simp (disch:=first|exact dsc|fail) only [go_sem,seval,e0,e8,e9,e10]
          (repeat refine .z rfl ?_);refine .ifF (by simp (disch:=first|exact dsc|fail) only [go_sem,seval]) ?_
          (repeat refine .z rfl ?_);refine .frzS 9 (by simp (disch:=first|exact dsc|fail) only [go_sem,seval,e9,htk];rfl) (by simp (disch:=first|exact dsc|fail) only [go_sem,seval,e9,htk]<;>rfl) (fun _=>rfl) (by first | exact dsc | fail) ?_;(try simp (disch:=first|exact dsc|fail) only [go_sem,seval,e9,htk])
          (repeat refine .z rfl ?_);refine .text ?_;simp (disch:=first|exact dsc|fail) only [go_sem,seval,e7]
          (repeat refine .z rfl ?_);refine .text ?_;simp (disch:=first|exact dsc|fail) only [go_sem,seval,e8]
          refine ih _ _ ?_
          simp (disch:=first|exact dsc|fail) only [go_sem,seval,e0,e1,e2,e7,e8,tab_succ,hcr]
          exact ⟨_,app_new⟩
      · (repeat refine .z rfl ?_);refine .text ?_;simp (disch:=first|exact dsc|fail) only [go_sem,seval,e0,e8,e9,e10]
        (repeat refine .z rfl ?_);refine .ifF (by simp (disch:=first|exact dsc|fail) only [go_sem,seval]) ?_
        (repeat refine .z rfl ?_);refine .frzS 9 (by simp (disch:=first|exact dsc|fail) only [go_sem,seval,e9,htk];rfl) (by simp (disch:=first|exact dsc|fail) only [go_sem,seval,e9,htk]<;>rfl) (fun _=>rfl) (by first | exact dsc | fail) ?_;(try simp (disch:=first|exact dsc|fail) only [go_sem,seval,e9,htk])
        (repeat refine .z rfl ?_);refine .text ?_;simp (disch:=first|exact dsc|fail) only [go_sem,seval,e7]
        (repeat refine .z rfl ?_);refine .text ?_;simp (disch:=first|exact dsc|fail) only [go_sem,seval,e8]
        refine ih _ _ ?_
        simp (disch:=first|exact dsc|fail) only [go_sem,seval,e0,e1,e2,e7,e8,tab_succ,hcr]
        exact ⟨_,app_new⟩
    · intro m env H' _ hm ⟨e0,e1,e2,e7,e8,e9,e10,eH⟩ ih
      subst eH
      have hil:i < raw.length:=by
        by_cases h:i < raw.length
        · exact h
        · rw [if_neg h] at hcm;omega
      rw [if_pos hil] at hcm
      have hri:=hr i hil
      have hcl:(clTo raw N i m).length=N:=clTo_len
      have hss:=clTo_succ (raw:=raw) (i:=i) (show m < N by omega)
      (repeat refine .z rfl ?_);refine .text ?_;simp (disch:=first|exact dsc|fail) only [go_sem,seval,e0,e8,e9,e10]
      (repeat refine .z rfl ?_);refine .ifT (by simp (disch:=first|exact dsc|fail) only [go_sem,seval]) ?_
      (repeat refine .z rfl ?_);refine .text ?_;simp (disch:=first|exact dsc|fail) only [go_sem,seval,e0,e8,e9,e10]
      refine CallK.of (fun R h=>rRed_spec _ _ R h) ?_;simp (disch:=first|exact dsc|fail) only [go_sem,seval,e9,e10,hss]
      (repeat refine .z rfl ?_);refine .text ?_;simp (disch:=first|exact dsc|fail) only [go_sem,seval,e10]
      refine ih _ _ ?_
      simp (disch:=first|exact dsc|fail) only [go_sem,seval,e0,e1,e2,e7,e8,e9,e10]
end walks
end Go.Proofs.Ytjnbifkojpfdgaa

/-
  Arithmetic modulo the prime: what both kinds come to.
-/
namespace Go.Proofs.Ytjnbifkojpfdgaa
open Go Go.AL

theorem valid_iff {a:U}:valid a=true ↔ a.toNat < 18446744069414584321:=by
  unfold valid
  rw [decide_eq_true_eq,BitVec.lt_def]
  rfl
theorem rRed_nat {x:U}:(rRed x).toNat=x.toNat % 18446744069414584321:=by
  unfold rRed
  rw [BitVec.toNat_umod]
  rfl
theorem rRed_valid {x:U}:valid (rRed x)=true:=by
  rw [valid_iff,rRed_nat];omega
theorem fRed_nat {x:U}:(fRed x).toNat=x.toNat % 18446744069414584321:=by
  unfold fRed
  have hx:=x.isLt
  have hp:(18446744069414584321#64:U).toNat=18446744069414584321:=rfl
  split
  · rename_i h
    rw [BitVec.le_def,hp] at h
    rw [BitVec.toNat_sub_of_le (by rw [BitVec.le_def,hp];exact h),hp]
    omega
  · rename_i h
    rw [BitVec.le_def,hp] at h
    omega
theorem rAdd_nat {a b:U} (ha:valid a=true) (hb:valid b=true):(rAdd a b).toNat=(a.toNat+b.toNat) % 18446744069414584321:=by
  rw [valid_iff] at ha hb
  have hp:(18446744069414584321#64:U).toNat=18446744069414584321:=rfl
  have hs:(18446744069414584321#64 - b).toNat=18446744069414584321 - b.toNat:=by
    rw [BitVec.toNat_sub_of_le (by rw [BitVec.le_def,hp];omega),hp]
  unfold rAdd
  split
  · rename_i h
    rw [BitVec.le_def,hs] at h
    rw [BitVec.toNat_sub_of_le (by rw [BitVec.le_def,hs];exact h),hs]
    omega
  · rename_i h
    rw [BitVec.le_def,hs] at h
    rw [BitVec.toNat_add]
    omega
theorem fAdd_nat {a b:U} (ha:valid a=true) (hb:valid b=true):(fAdd a b).toNat=(a.toNat+b.toNat) % 18446744069414584321:=by
  rw [valid_iff] at ha hb
  have hp:(18446744069414584321#64:U).toNat=18446744069414584321:=rfl
  unfold fAdd
  split
  · rename_i h
    rw [BitVec.le_def,hp,BitVec.toNat_add] at h
    rw [BitVec.toNat_sub,hp,BitVec.toNat_add]
    omega
  · rename_i h
    rw [BitVec.le_def,hp,BitVec.toNat_add] at h
    rw [BitVec.toNat_add]
    omega
theorem fSub_nat {a b:U} (ha:valid a=true) (hb:valid b=true):(fSub a b).toNat=(a.toNat+(18446744069414584321 - b.toNat)) % 18446744069414584321:=by
  rw [valid_iff] at ha hb
  have hp:(18446744069414584321#64:U).toNat=18446744069414584321:=rfl
  unfold fSub
  split
  · rename_i h
    rw [BitVec.toNat_add,hp,BitVec.toNat_sub]
    omega
  · rename_i h
    rw [BitVec.toNat_sub]
    omega
theorem rShift_nat {a:U} (ha:valid a=true):(rShift a).toNat=a.toNat*4294967296 % 18446744069414584321:=by
  rw [valid_iff] at ha
  have h1:(a % 4294967296#64*4294967296#64).toNat=a.toNat % 4294967296*4294967296:=by
    rw [BitVec.toNat_mul,BitVec.toNat_umod]
    show a.toNat % 4294967296*4294967296 % 2 ^ 64=_
    omega
  have h2:(a / 4294967296#64*4294967295#64).toNat=a.toNat / 4294967296*4294967295:=by
    rw [BitVec.toNat_mul,BitVec.toNat_udiv]
    show a.toNat / 4294967296*4294967295 % 2 ^ 64=_
    omega
  unfold rShift
  rw [rAdd_nat rRed_valid rRed_valid,rRed_nat,rRed_nat,h1,h2]
  omega
theorem nat_valid {a:U} {n:Nat} (h:a.toNat=n % 18446744069414584321):valid a=true:=by
  rw [valid_iff,h];omega
end Go.Proofs.Ytjnbifkojpfdgaa

/-
  Products modulo the prime: the two kinds agree.
-/
namespace Go.Proofs.Ytjnbifkojpfdgaa
open Go Go.AL

theorem mul_lt32 {x y:Nat} (hx:x < 4294967296) (hy:y < 4294967296):x*y≤4294967295*4294967295:=Nat.mul_le_mul (by omega) (by omega)

theorem rHalf_nat {a b:U} (ha:valid a=true) (hb:b.toNat < 4294967296):(rHalf a b).toNat=a.toNat*b.toNat % 18446744069414584321:=by
  rw [valid_iff] at ha
  have h1:(a % 4294967296#64*b).toNat=a.toNat % 4294967296*b.toNat:=by
    rw [BitVec.toNat_mul,BitVec.toNat_umod]
    show a.toNat % 4294967296*b.toNat % 2 ^ 64=_
    have:=mul_lt32 (x:=a.toNat % 4294967296) (by omega) hb
    omega
  have h2:(a / 4294967296#64*b).toNat=a.toNat / 4294967296*b.toNat:=by
    rw [BitVec.toNat_mul,BitVec.toNat_udiv]
    show a.toNat / 4294967296*b.toNat % 2 ^ 64=_
    have:=mul_lt32 (x:=a.toNat / 4294967296) (by omega) hb
    omega
  have h3:a.toNat*b.toNat=a.toNat / 4294967296*b.toNat*4294967296+a.toNat % 4294967296*b.toNat:=by
    conv=>lhs;rw [←Nat.div_add_mod a.toNat 4294967296,Nat.add_mul]
    rw [Nat.mul_comm 4294967296,Nat.mul_right_comm]
  unfold rHalf
  rw [rAdd_nat rRed_valid (nat_valid (rShift_nat rRed_valid)),rRed_nat,rShift_nat rRed_valid,rRed_nat,h1,h2,h3]
  generalize a.toNat / 4294967296*b.toNat=B
  generalize a.toNat % 4294967296*b.toNat=A
  omega

theorem rMul_nat {a b:U} (ha:valid a=true) (hb:valid b=true):(rMul a b).toNat=a.toNat*b.toNat % 18446744069414584321:=by
  have hb':=valid_iff.1 hb
  have l1:(b % 4294967296#64).toNat=b.toNat % 4294967296:=by rw [BitVec.toNat_umod];rfl
  have l2:(b / 4294967296#64).toNat=b.toNat / 4294967296:=by rw [BitVec.toNat_udiv];rfl
  have e1:=rHalf_nat (b:=b % 4294967296#64) ha (by rw [l1];omega)
  have e2:=rHalf_nat (b:=b / 4294967296#64) ha (by rw [l2];omega)
  rw [l1] at e1
  rw [l2] at e2
  have h3:a.toNat*b.toNat=a.toNat*(b.toNat / 4294967296)*4294967296+a.toNat*(b.toNat % 4294967296):=by
    conv=>lhs;rw [←Nat.div_add_mod b.toNat 4294967296,Nat.mul_add]
    rw [Nat.mul_comm 4294967296,Nat.mul_assoc]
  unfold rMul
  rw [rAdd_nat (nat_valid e1) (nat_valid (rShift_nat (nat_valid e2))),e1,rShift_nat (nat_valid e2),e2,h3]
  generalize a.toNat*(b.toNat / 4294967296)=B
  generalize a.toNat*(b.toNat % 4294967296)=A
  omega

theorem mask_nat {x:U}:(x &&& 4294967295#64).toNat=x.toNat % 4294967296:=by
  rw [BitVec.toNat_and]
  exact Nat.and_two_pow_sub_one_eq_mod x.toNat 32
theorem shr_nat {x:U}:(x >>> 32).toNat=x.toNat / 4294967296:=by
  rw [BitVec.toNat_ushiftRight,Nat.shiftRight_eq_div_pow]

theorem mulHi_nat {a b:U}:(mulHi a b).toNat=a.toNat*b.toNat / 18446744073709551616:=by
  have ha:=a.isLt
  have hb:=b.isLt
  have q00:=mul_lt32 (x:=a.toNat % 4294967296) (y:=b.toNat % 4294967296) (by omega) (by omega)
  have q10:=mul_lt32 (x:=a.toNat / 4294967296) (y:=b.toNat % 4294967296) (by omega) (by omega)
  have q01:=mul_lt32 (x:=a.toNat % 4294967296) (y:=b.toNat / 4294967296) (by omega) (by omega)
  have q11:=mul_lt32 (x:=a.toNat / 4294967296) (y:=b.toNat / 4294967296) (by omega) (by omega)
  have h3:a.toNat*b.toNat=a.toNat / 4294967296*(b.toNat / 4294967296)*18446744073709551616+(a.toNat / 4294967296*(b.toNat % 4294967296)+a.toNat % 4294967296*(b.toNat / 4294967296))*4294967296+a.toNat % 4294967296*(b.toNat % 4294967296):=by
    conv=>lhs;rw [←Nat.div_add_mod a.toNat 4294967296,←Nat.div_add_mod b.toNat 4294967296]
    generalize a.toNat / 4294967296=x1
    generalize a.toNat % 4294967296=x0
    generalize b.toNat / 4294967296=y1
    generalize b.toNat % 4294967296=y0
    rw [Nat.add_mul,Nat.mul_add,Nat.mul_add]
    have e1:4294967296*x1*(4294967296*y1)=x1*y1*18446744073709551616:=by
      rw [Nat.mul_mul_mul_comm,Nat.mul_comm]
    have e2:4294967296*x1*y0=x1*y0*4294967296:=by rw [Nat.mul_assoc,Nat.mul_comm]
    have e3:x0*(4294967296*y1)=x0*y1*4294967296:=by rw [Nat.mul_left_comm,Nat.mul_comm]
    rw [e1,e2,e3]
    omega
  have t00:((a &&& 4294967295#64)*(b &&& 4294967295#64)).toNat=a.toNat % 4294967296*(b.toNat % 4294967296):=by
    rw [BitVec.toNat_mul,mask_nat,mask_nat];omega
  have t10:((a >>> 32)*(b &&& 4294967295#64)).toNat=a.toNat / 4294967296*(b.toNat % 4294967296):=by
    rw [BitVec.toNat_mul,mask_nat,shr_nat];omega
  have t01:((a &&& 4294967295#64)*(b >>> 32)).toNat=a.toNat % 4294967296*(b.toNat / 4294967296):=by
    rw [BitVec.toNat_mul,mask_nat,shr_nat];omega
  have t11:((a >>> 32)*(b >>> 32)).toNat=a.toNat / 4294967296*(b.toNat / 4294967296):=by
    rw [BitVec.toNat_mul,shr_nat,shr_nat];omega
  unfold mulHi
  simp only [BitVec.toNat_add,shr_nat,mask_nat,t00,t10,t01,t11]
  rw [h3]
  generalize a.toNat / 4294967296*(b.toNat / 4294967296)=p11 at *
  generalize a.toNat / 4294967296*(b.toNat % 4294967296)=p10 at *
  generalize a.toNat % 4294967296*(b.toNat / 4294967296)=p01 at *
  generalize a.toNat % 4294967296*(b.toNat % 4294967296)=p00 at *
  omega
end Go.Proofs.Ytjnbifkojpfdgaa

/-
  Sums and products modulo the prime: the program's are the reference's.
-/
namespace Go.Proofs.Ytjnbifkojpfdgaa
open Go Go.AL

theorem fMul_nat {a b:U} (ha:valid a=true) (hb:valid b=true):(fMul a b).toNat=a.toNat*b.toNat % 18446744069414584321:=by
  have ha':=a.isLt
  have hb':=b.isLt
  have hq:a.toNat*b.toNat≤18446744073709551615*18446744073709551615:=Nat.mul_le_mul (by omega) (by omega)
  have hh:=mulHi_nat (a:=a) (b:=b)
  have h1:(mulHi a b >>> 32).toNat=a.toNat*b.toNat / 18446744073709551616 / 4294967296:=by rw [shr_nat,hh]
  have h0:((mulHi a b &&& 4294967295#64)*4294967295#64).toNat=a.toNat*b.toNat / 18446744073709551616 % 4294967296*4294967295:=by
    rw [BitVec.toNat_mul,mask_nat,hh]
    show a.toNat*b.toNat / 18446744073709551616 % 4294967296*4294967295 % 2 ^ 64=_
    omega
  have hl:(a*b).toNat=a.toNat*b.toNat % 18446744073709551616:=by rw [BitVec.toNat_mul]
  have v1:valid (fRed (a*b))=true:=nat_valid fRed_nat
  have v2:valid (mulHi a b >>> 32)=true:=by rw [valid_iff,h1];omega
  have v3:valid (fRed ((mulHi a b &&& 4294967295#64)*4294967295#64))=true:=nat_valid fRed_nat
  have hs:=fSub_nat v1 v2
  unfold fMul
  rw [fAdd_nat (nat_valid hs) v3,hs,fRed_nat,fRed_nat,h1,h0,hl]
  generalize a.toNat*b.toNat=Q at *
  omega

theorem fAdd_eq {a b:U} (ha:valid a=true) (hb:valid b=true):fAdd a b=rAdd a b:=BitVec.eq_of_toNat_eq (by rw [fAdd_nat ha hb,rAdd_nat ha hb])
theorem fMul_eq {a b:U} (ha:valid a=true) (hb:valid b=true):fMul a b=rMul a b:=BitVec.eq_of_toNat_eq (by rw [fMul_nat ha hb,rMul_nat ha hb])
theorem rAdd_valid {a b:U} (ha:valid a=true) (hb:valid b=true):valid (rAdd a b)=true:=nat_valid (rAdd_nat ha hb)
theorem rMul_valid {a b:U} (ha:valid a=true) (hb:valid b=true):valid (rMul a b)=true:=nat_valid (rMul_nat ha hb)
theorem zero_valid:valid 0#64=true:=by decide

def fvG (g:Gate):Prop:=valid g.c=true∧valid g.a=true∧valid g.b=true∧valid g.d=true

end Go.Proofs.Ytjnbifkojpfdgaa

/-
  Folding: the program's gates are the reference's.
-/
namespace Go.Proofs.Ytjnbifkojpfdgaa
open Go Go.AL

theorem n4_eq (x:Gate):n4 x=m5 (m4 x):=by
  obtain ⟨l,r,c,a,b,d⟩:=x
  unfold n4 m4 m5
  cases h:usesR (⟨l,r,c,a,b,d⟩:Gate) with
  | true=>simp [h]
  | false =>
    have h2:usesR (⟨l,0,c,a,b,d⟩:Gate)=false:=h
    simp [h2]

theorem tail_eq (x:Gate):n4 (n3 (n2 x))=m5 (m4 (n3 (m2 x))):=by
  rw [←n4_eq]
  obtain ⟨l,r,c,a,b,d⟩:=x
  by_cases h:(!usesL (⟨l,r,c,a,b,d⟩:Gate) && usesR (⟨l,r,c,a,b,d⟩:Gate))=true
  · rw [n2,m2,if_pos h,if_pos h]
    simp only [usesL,usesR,Bool.and_eq_true,Bool.not_eq_true',Bool.or_eq_false_iff,bne_eq_false_iff_eq,Bool.or_eq_true,bne_iff_ne,ne_eq] at h
    obtain ⟨⟨hc,ha⟩,hb⟩:=h
    subst hc
    subst ha
    have hb : ¬ b=0#64:=by rcases hb with hb | hb;exact absurd rfl hb;exact hb
    simp [swp,n3,n4,usesL,usesR,hb]
  · rw [n2,m2,if_neg h,if_neg h]

theorem fv_nth {p:List Gate} (h : ∀ j,j < p.length → fvG (nth p j)) (i:Nat):fvG (nth p i):=by
  by_cases hi:i < p.length
  · exact h i hi
  · have:nth p i=default:=by simp [nth,Nat.le_of_not_lt hi]
    rw [this]
    exact ⟨zero_valid,zero_valid,zero_valid,zero_valid⟩

theorem fvG_mk {l r:Int} {c a b d:U} (hc:valid c=true) (ha:valid a=true) (hb:valid b=true) (hd:valid d=true):fvG ⟨l,r,c,a,b,d⟩:=⟨hc,ha,hb,hd⟩

theorem foldL_fg1 {g:Gate} {p:List Gate} (hg:fvG g) (hp : ∀ j,j < p.length → fvG (nth p j)):foldL g p=fg1 false p g∧fvG (foldL g p):=by
  obtain ⟨hc,ha,hb,hd⟩:=hg
  obtain ⟨_,_,_,hv⟩:=fv_nth hp g.l.toNat
  have e1:=fMul_eq hc hv
  have e2:=fMul_eq ha hv
  have e3:=fAdd_eq hb (rMul_valid hc hv)
  have e4:=fAdd_eq hd (rMul_valid ha hv)
  unfold foldL fg1
  cases h:konst (nth p g.l.toNat) with
  | true =>
    simp only [if_true,Bool.not_false,Bool.and_true,e1,e2,e3,e4]
    exact ⟨trivial,fvG_mk zero_valid zero_valid (rAdd_valid hb (rMul_valid hc hv)) (rAdd_valid hd (rMul_valid ha hv))⟩
  | false =>
    simp only [Bool.false_eq_true,if_false,Bool.and_false]
    exact ⟨trivial,hc,ha,hb,hd⟩

theorem foldL_fg2 {g:Gate} {p:List Gate} (hg:fvG g) (hp : ∀ j,j < p.length → fvG (nth p j)):swp (foldL (swp g) p)=fg2 false p g∧fvG (fg2 false p g):=by
  obtain ⟨hc,ha,hb,hd⟩:=hg
  obtain ⟨_,_,_,hv⟩:=fv_nth hp g.r.toNat
  have e1:=fMul_eq hc hv
  have e2:=fMul_eq hb hv
  have e3:=fAdd_eq ha (rMul_valid hc hv)
  have e4:=fAdd_eq hd (rMul_valid hb hv)
  unfold foldL fg2 swp
  cases h:konst (nth p g.r.toNat) with
  | true =>
    simp only [if_true,Bool.not_false,Bool.and_true,h,e1,e2,e3,e4]
    exact ⟨trivial,fvG_mk zero_valid (rAdd_valid ha (rMul_valid hc hv)) zero_valid (rAdd_valid hd (rMul_valid hb hv))⟩
  | false =>
    simp only [Bool.false_eq_true,if_false,Bool.and_false,h]
    exact ⟨trivial,hc,ha,hb,hd⟩

theorem n1_eq {g:Gate} (hg:fvG g):n1 g=m1 g∧fvG (m1 g):=by
  obtain ⟨hc,ha,hb,hd⟩:=hg
  unfold n1 m1
  split
  · rw [fAdd_eq ha hb]
    exact ⟨rfl,fvG_mk hc (rAdd_valid ha hb) zero_valid hd⟩
  · exact ⟨rfl,hc,ha,hb,hd⟩

theorem goG_foldG {b:Bool} {p:List Gate} {g:Gate} (hg:fvG g) (hp : ∀ j,j < p.length → fvG (nth p j)):goG b p g=foldG b p g:=by
  unfold goG foldG norm
  cases b with
  | true =>
    have h1:fg1 true p g=g:=by simp [fg1]
    have h2:fg2 true p g=g:=by simp [fg2]
    rw [if_pos rfl,h1,h2,(n1_eq hg).1,tail_eq]
  | false =>
    obtain ⟨e1,v1⟩:=foldL_fg1 hg hp
    rw [e1] at v1
    obtain ⟨e2,v2⟩:=foldL_fg2 v1 hp
    rw [if_neg (by simp),e1,e2,(n1_eq v2).1,tail_eq]
end Go.Proofs.Ytjnbifkojpfdgaa

/-
  Folding a valid circuit: the program and the reference agree,and it stays valid.
-/
namespace Go.Proofs.Ytjnbifkojpfdgaa
open Go Go.AL

theorem fv_swp {x:Gate} (h:fvG x):fvG (swp x):=⟨h.1,h.2.2.1,h.2.1,h.2.2.2⟩
theorem fv_n3 {x:Gate} (h:fvG x):fvG (n3 x):=by unfold n3;split<;>exact ⟨h.1,h.2.1,h.2.2.1,h.2.2.2⟩
theorem fv_m4 {x:Gate} (h:fvG x):fvG (m4 x):=by unfold m4;split<;>exact ⟨h.1,h.2.1,h.2.2.1,h.2.2.2⟩
theorem fv_m2 {x:Gate} (h:fvG x):fvG (m2 x):=by
  unfold m2;split
  · exact fvG_mk h.1 h.2.2.1 zero_valid h.2.2.2
  · exact h
theorem fv_m5 {x:Gate} (h:fvG x):fvG (m5 x):=by
  unfold m5;split
  · exact fv_swp h
  · exact h
theorem fv_foldG {b:Bool} {p:List Gate} {g:Gate} (hg:fvG g) (hp : ∀ j,j < p.length → fvG (nth p j)):fvG (foldG b p g):=by
  unfold foldG
  cases b with
  | true =>
    have h1:fg1 true p g=g:=by simp [fg1]
    have h2:fg2 true p g=g:=by simp [fg2]
    rw [h1,h2]
    exact fv_m5 (fv_m4 (fv_n3 (fv_m2 (n1_eq hg).2)))
  | false =>
    obtain ⟨e1,v1⟩:=foldL_fg1 hg hp
    rw [e1] at v1
    obtain ⟨e2,v2⟩:=foldL_fg2 v1 hp
    exact fv_m5 (fv_m4 (fv_n3 (fv_m2 (n1_eq v2).2)))

theorem Vd.fv {c:Circ} (h:Vd c) {k i:Nat} (hk:k < c.layers.length) (hi:i < (nth c.layers k).length):fvG (nth (nth c.layers k) i):=by
  obtain ⟨_,h1,h2,h3,h4⟩:=vG_inv (h.vg k hk i hi)
  exact ⟨h1,h2,h3,h4⟩

theorem fl_both {c:Circ} (h:Vd c) : ∀ k,k < c.layers.length → fl goG c.layers k=fl foldG c.layers k ∧ ∀ i,i < (nth c.layers k).length → fvG (nth (fl foldG c.layers k) i)
  | 0,hk=>by
    refine ⟨tab_congr fun i hi=>goG_foldG (h.fv hk hi) (fun j hj=>absurd hj (by simp)),fun i hi => ?_⟩
    rw [fl_nth hi]
    exact fv_foldG (h.fv hk hi) (fun j hj=>absurd hj (by simp [pv]))
  | k+1,hk=>by
    obtain ⟨e,hv⟩:=fl_both h k (by omega)
    have hp : ∀ j,j < (fl foldG c.layers k).length → fvG (nth (fl foldG c.layers k) j):=fun j hj=>hv j (by rwa [fl_len] at hj)
    refine ⟨?_,fun i hi => ?_⟩
    · show tab _ _=tab _ _
      refine tab_congr fun i hi => ?_
      rw [e]
      exact goG_foldG (h.fv hk hi) hp
    · rw [fl_nth hi]
      exact fv_foldG (h.fv hk hi) hp

theorem fold_eq {c:Circ} (h:Vd c):fold goG c=fold foldG c:=by
  unfold fold
  congr 1
  exact tab_congr fun k hk=>(fl_both h k hk).1

theorem vG_of {g:Gate} {n:Int} (ho:opG n g) (hf:fvG g):vG g n=true:=by
  simp only [vG,Bool.and_eq_true,decide_eq_true_eq]
  exact ⟨⟨⟨⟨⟨⟨⟨ho.1,ho.2.1⟩,ho.2.2.1⟩,ho.2.2.2⟩,hf.1⟩,hf.2.1⟩,hf.2.2.1⟩,hf.2.2.2⟩

theorem Vd.fold {c:Circ} (h:Vd c):Vd (fold foldG c) where
  ok:=h.ok.fold keeps_foldG
  inp:=h.inp
  len:=by show (tab _ _).length≤64;rw [tab_len];exact h.len
  row k hk:=by
    simp only [Proofs.Ytjnbifkojpfdgaa.fold,tab_len] at hk ⊢
    rw [nth_tab hk,fl_len];exact h.row k hk
  sm:=by
    have hl:=h.ok.len.1
    simp only [Proofs.Ytjnbifkojpfdgaa.fold,tab_len]
    rw [nth_tab (by omega),fl_len];exact h.sm
  vg k hk i hi:=by
    have ho:=(h.ok.fold keeps_foldG).op k hk i hi
    refine vG_of ho ?_
    simp only [Proofs.Ytjnbifkojpfdgaa.fold,tab_len] at hk hi ⊢
    rw [nth_tab hk] at hi ⊢
    rw [fl_len] at hi
    exact (fl_both h k hk).2 i hi
end Go.Proofs.Ytjnbifkojpfdgaa

/-
  Sharing and removing keep circuits valid.
-/
namespace Go.Proofs.Ytjnbifkojpfdgaa
open Go Go.AL

theorem shTo_fv {ns:List Int} {first last:Bool} {l:List Gate} (h : ∀ j,j < l.length → fvG (nth l j)) : ∀ i,i≤l.length → ∀ j,j < (shTo ns first last l i).1.length → fvG (nth (shTo ns first last l i).1 j)
  | 0,_,j,hj=>absurd hj (by simp [shTo])
  | i+1,hi,j,hj=>by
    have ih:=shTo_fv (ns:=ns) (first:=first) (last:=last) h i (by omega)
    have hg:fvG (shG ns first (nth l i)):=by
      have:=h i (by omega)
      unfold shG
      split
      · exact this
      · exact ⟨this.1,this.2.1,this.2.2.1,this.2.2.2⟩
    have hnew : ∀ j,j < ((shTo ns first last l i).1++[shG ns first (nth l i)]).length → fvG (nth ((shTo ns first last l i).1++[shG ns first (nth l i)]) j):=fun j hj=>by
      by_cases e:j < (shTo ns first last l i).1.length
      · rw [nth_append_l e];exact ih j e
      · rw [nth_append_r (by omega),show j - (shTo ns first last l i).1.length=0 by simp at hj;omega,nth_cons_zero];exact hg
    simp only [shTo] at hj ⊢
    cases hf:findI (shTo ns first last l i).1 (shG ns first (nth l i)) with
    | none=>rw [hf] at hj;exact hnew j hj
    | some m =>
      rw [hf] at hj
      simp only at hj ⊢
      split at hj
      · rename_i hl;rw [if_pos hl];exact hnew j hj
      · rename_i hl;rw [if_neg hl];exact ih j hj

theorem shTo_last {ns:List Int} {first:Bool} {l:List Gate} : ∀ i,(shTo ns first true l i).1.length=i
  | 0=>rfl
  | i+1=>by
    have ih:=shTo_last (ns:=ns) (first:=first) (l:=l) i
    simp only [shTo]
    cases findI (shTo ns first true l i).1 (shG ns first (nth l i))<;>simp [ih]

theorem Vd.share {c:Circ} (h:Vd c):Vd (share c) where
  ok:=h.ok.share
  inp:=h.inp
  len:=by show (tab _ _).length≤64;rw [tab_len];exact h.len
  row k hk:=by
    simp only [Proofs.Ytjnbifkojpfdgaa.share,tab_len] at hk ⊢
    rw [nth_tab hk]
    have h1:=(shN_ok h.ok k hk).len
    have h2:=h.row k hk
    omega
  sm:=by
    have hl:=h.ok.len.1
    have hs:=h.sm
    simp only [Proofs.Ytjnbifkojpfdgaa.share,tab_len]
    rw [nth_tab (by omega),shN_eq,show (c.layers.length - 1+1 == c.layers.length)=true by simp;omega,shTo_last]
    exact hs
  vg k hk i hi:=by
    refine vG_of (h.ok.share.op k hk i hi) ?_
    simp only [Proofs.Ytjnbifkojpfdgaa.share,tab_len] at hk hi ⊢
    rw [nth_tab hk] at hi ⊢
    rw [shN_eq] at hi ⊢
    exact shTo_fv (fun j hj=>h.fv hk hj) _ (Nat.le_refl _) i hi
end Go.Proofs.Ytjnbifkojpfdgaa

/-
  Removing unused gates keeps circuits valid;all steps of a valid circuit.
-/
namespace Go.Proofs.Ytjnbifkojpfdgaa
open Go Go.AL

theorem cnt_all {b:List Bool} : ∀ {i:Nat},(∀ j,j < i → nth b j=true) → cntB b i=i
  | 0,_=>rfl
  | i+1,h=>by
    have ih:=cnt_all (b:=b) (i:=i) fun j hj=>h j (by omega)
    simp only [cntB,h i (by omega),if_true]
    omega
theorem fv_zeroU {x:Gate} (h:fvG x):fvG (zeroU x):=fv_m4 (fv_n3 h)
theorem gw_fv {c:Circ} (h:Vd c) {d:Nat} (hd:d < c.layers.length) : ∀ j,j < (gw c d).length → fvG (nth (gw c d) j):=by
  rw [gw_eq]
  exact keepO_mem (h.ok.row (c.layers.length - 1 - d) (by omega)).1 (fun i hi=>h.fv (by omega) hi)

theorem gw_sums {c:Circ} (h:Vd c):c.sums≤((gw c 0).length:Int):=by
  have hl:=h.ok.len.1
  have hs:=h.sm
  have h0:=h.ok.sums.1
  obtain ⟨s,hs'⟩ : ∃ s:Nat,c.sums=s:=⟨c.sums.toNat,by omega⟩
  rw [gw_eq,Nat.sub_zero]
  generalize hn:(nth c.layers (c.layers.length - 1)).length=n at *
  have hb : ∀ j,j < s → nth (fw c 0) j=true:=fun j hj=>by
    have hjn:j < (nth c.layers (c.layers.length - 1 - 0)).length:=by rw [Nat.sub_zero,hn];omega
    rw [fw,nth_tab hjn,want,if_pos (by omega)]
    have:decide ((j:Int) < c.sums)=true:=by simp;omega
    rw [this];rfl
  have h1:=cnt_all hb
  have h2:=sel_mono (b:=fw c 0) (l:=nth c.layers (c.layers.length - 1)) (show s≤n by omega)
  rw [sel_len,sel_len,h1] at h2
  unfold keepO
  rw [hn,sel_len]
  split
  · omega
  · rw [sel_len];omega

theorem Vd.dead {c:Circ} (h:Vd c):Vd (deadG c) where
  ok:=h.ok.dead
  inp:=h.inp
  len:=by show (tab _ _).length≤64;rw [tab_len];exact h.len
  row k hk:=by
    simp only [deadG,tab_len] at hk ⊢
    rw [nth_tab hk,gf,List.length_map,gw_eq,show c.layers.length - 1 - (c.layers.length - 1 - k)=k by omega]
    have h1:=keepO_le (b:=fw c (c.layers.length - 1 - k)) (h.ok.row k hk).1
    have h2:=h.row k hk
    omega
  sm:=by
    have hl:=h.ok.len.1
    have hs:=gw_sums h
    simp only [deadG,tab_len]
    rw [nth_tab (by omega),gf,List.length_map,Nat.sub_self]
    exact hs
  vg k hk i hi:=by
    refine vG_of (h.ok.dead.op k hk i hi) ?_
    simp only [deadG,tab_len] at hk hi ⊢
    rw [nth_tab hk] at hi ⊢
    rw [gf,List.length_map] at hi
    rw [gf,nth_map hi]
    have hf:=gw_fv h (show c.layers.length - 1 - k < c.layers.length by omega) i hi
    split
    · exact fv_zeroU hf
    · exact fv_zeroU ⟨hf.1,hf.2.1,hf.2.2.1,hf.2.2.2⟩

theorem Vd.step1 {c:Circ} (h:Vd c) (j:Nat):Vd (step1 j c):=by
  unfold Proofs.Ytjnbifkojpfdgaa.step1
  split
  · rw [fold_eq h];exact h.fold
  · exact h.share
  · exact h.dead
theorem Vd.stp {c:Circ} (h:Vd c) : ∀ s,Vd (stp c s)
  | 0=>h
  | s+1=>(Vd.stp h s).step1 _

end Go.Proofs.Ytjnbifkojpfdgaa

/-
  What the reference makes of a circuit is valid.
-/
namespace Go.Proofs.Ytjnbifkojpfdgaa
open Go Go.AL

theorem mdR_op {c:Circ} {i:Nat} {n:Int} (hn:1≤n) : ∀ j,j < (mdR c i n).length → opG n (nth (mdR c i n) j)∧fvG (nth (mdR c i n) j):=by
  unfold mdR
  split
  · intro j hj
    have:j=0:=by simpa using hj
    subst this
    rw [nth_cons_zero]
    exact ⟨⟨Int.le_refl _,by show (0:Int) < n;omega,Int.le_refl _,by show (0:Int) < n;omega⟩,fvG_mk zero_valid (by decide) zero_valid zero_valid⟩
  · intro j hj
    rw [tab_len] at hj
    rw [nth_tab hj]
    generalize nth (nth c.layers i) j=g
    exact ⟨⟨Int.emod_nonneg _ (by omega),Int.emod_lt_of_pos _ (by omega),Int.emod_nonneg _ (by omega),Int.emod_lt_of_pos _ (by omega)⟩,fvG_mk rRed_valid rRed_valid rRed_valid rRed_valid⟩

theorem made_wid {c:Circ} {k:Nat} (hk:k < mdN c):wid (made c) k=mdW c k:=by
  unfold wid mdW
  split
  · rfl
  · rw [show (made c).layers=tab (mdL c) (mdN c) from rfl,nth_tab (by omega)]

theorem mdN_le {c:Circ}:1≤mdN c∧mdN c≤4:=by unfold mdN;omega

theorem made_ok (c:Circ):Ok (made c) where
  inp:=by have:=mdW_pos (c:=c) (i:=0);exact ⟨this.1,by have h:=this.2;show mdI c≤1000;have:mdW c 0=mdI c:=rfl;omega⟩
  sums:=by
    have hw:=mdW_pos (c:=c) (i:=mdN c)
    have h1:=Int.emod_nonneg (c.sums % 256) (show mdW c (mdN c)+1≠0 by omega)
    have h2:=Int.emod_lt_of_pos (c.sums % 256) (show 0 < mdW c (mdN c)+1 by omega)
    exact ⟨h1,by show c.sums % 256 % (mdW c (mdN c)+1)≤1000;omega⟩
  len:=by
    have:=mdN_le (c:=c)
    show 1≤(tab _ _).length∧(tab _ _).length≤1000
    rw [tab_len];omega
  row k hk:=by
    simp only [made,tab_len] at hk ⊢
    rw [nth_tab hk]
    have:=mdL_len (c:=c) (i:=k)
    omega
  op k hk i hi:=by
    have hk':k < mdN c:=by simpa [made,tab] using hk
    rw [made_wid hk']
    simp only [made] at hi ⊢
    rw [nth_tab hk'] at hi ⊢
    rw [mdL_eq] at hi ⊢
    exact (mdR_op mdW_pos.1 i hi).1

theorem made_vd (c:Circ):Vd (made c) where
  ok:=made_ok c
  inp:=by have:=mdW_pos (c:=c) (i:=0);show mdI c≤64;have h:mdW c 0=mdI c:=rfl;omega
  len:=by
    have:=mdN_le (c:=c)
    show (tab _ _).length≤64
    rw [tab_len];omega
  row k hk:=by
    simp only [made,tab_len] at hk ⊢
    rw [nth_tab hk]
    have:=mdL_len (c:=c) (i:=k)
    omega
  sm:=by
    have hn:=mdN_le (c:=c)
    have hw:=mdW_pos (c:=c) (i:=mdN c)
    have h2:=Int.emod_lt_of_pos (c.sums % 256) (show 0 < mdW c (mdN c)+1 by omega)
    simp only [made,tab_len]
    rw [nth_tab (by omega)]
    have e:mdW c (mdN c)=((mdL c (mdN c - 1)).length:Int):=by rw [mdW,if_neg (by omega)]
    rw [←e]
    omega
  vg k hk i hi:=by
    refine vG_of ((made_ok c).op k hk i hi) ?_
    have hk':k < mdN c:=by simpa [made,tab] using hk
    simp only [made] at hi ⊢
    rw [nth_tab hk'] at hi ⊢
    rw [mdL_eq] at hi ⊢
    exact (mdR_op mdW_pos.1 i hi).2
end Go.Proofs.Ytjnbifkojpfdgaa

/-
  What the laws make of their argument.
-/
namespace Go.Proofs.Ytjnbifkojpfdgaa
open Go Go.AL

def inpV (c:Circ) (cols:List (List U)) (lg:BitVec 8):PV := .agg [i64 c.inputs,.sl false 1 (pl (sle 6 gate) c.layers),i64 c.sums,.sl false 1 (pl (sle 1 w64) cols),b8 lg]
theorem acells_inp {c:Circ} {cols:List (List U)} {lg:BitVec 8}:acells (.p (inpV c cols lg))=some [.p (i64 c.inputs),.p (.sl false 1 (pl (sle 6 gate) c.layers)),.p (i64 c.sums),.p (.sl false 1 (pl (sle 1 w64) cols)),.p (b8 lg)]:=rfl
def pairR (x y:Option AV):Option AV:=match x,y with | some x,some y=>some (.tup [x,y]) | _,_=>none
theorem pairR_some {x y:AV}:pairR (some x) (some y)=some (.tup [x,y]):=rfl
theorem ares_cell_tmp {P:Program} {a b:Nat} {t:TypeId} {env:Env} {H:Hp}:ares P [.cell a t,.tmp b] env H=pairR (aLoad P H t (env a)) (some (env b)):=by
  simp only [ares,aresAll,aresOne]
  cases aLoad P H t (env a)<;>rfl
attribute [go_sem] pairR_some ares_cell_tmp
attribute [go_sem] acells_inp

section walks
variable {G:Globs}

set_option maxHeartbeats 4000000 in
theorem W19_made_spec (c:Circ) (cols:List (List U)) (lg:BitVec 8) (hl:c.layers.length≤9223372036854775807) (hr : ∀ i,i < c.layers.length → (nth c.layers i).length≤9223372036854775807) (hl2:cols.length≤9223372036854775807) (hr2 : ∀ i,i < cols.length → (nth cols i).length≤9223372036854775807)
    (H:Hp) (R:AV → Hp → Prop) (h:R (.tup [.p (circ (made c)),.p (.sl false 1 (pl (sle 1 w64) (columns cols (mdI c).toNat (2 ^ (lg.toNat % 3)))))]) H):ACall Try.prog G 11 [.p (inpV c cols lg)] H R:=by
  refine ACall.of_run (raw:=[]) Try.func11 rfl Try.ntmps11 (by simp) fun hbel => ?_
  have hi:=mdW_pos (c:=c) (i:=0)
  have hi':mdW c 0=mdI c:=rfl
  obtain ⟨n,hn⟩ : ∃ n:Nat,mdI c=n:=⟨(mdI c).toNat,by omega⟩
  have hmn:(made c).inputs=(n:Int):=hn
  rw [hn,Int.toNat_natCast] at h
  have h3:((lg.toNat:Int) % 3)=((lg.toNat % 3:Nat):Int):=by omega
  (repeat refine .z rfl ?_);refine .text ?_;simp (disch:=first|exact dsc|fail) only [go_sem,seval]
  (repeat refine .z rfl ?_);refine .text ?_;simp (disch:=first|exact dsc|fail) only [go_sem,seval]
  refine CallK.of (fun R h=>R16_Made_spec c hl hr _ R h) ?_;simp (disch:=first|exact dsc|fail) only [go_sem,seval]
  (repeat refine .z rfl ?_);refine .open [10] follows (by kernel_rfl) ?_;simp (disch:=first|exact dsc|fail) only [go_sem,seval,hmn,h3]
  refine CallD.still (fun R h=>R16_Columns_spec cols hl2 hr2 n (lg.toNat % 3) (by omega) (by omega) _ R h) ?_;simp (disch:=first|exact dsc|fail) only [go_sem,seval,hmn]
  (repeat refine .z rfl ?_);refine .rt Try.func11 (by rw [Try.results11]) (hR := ?_);simp (disch:=first|exact dsc|fail) only [go_sem,seval]
  have he:(⟨(n:Int),(made c).layers,(made c).sums⟩:Circ)=made c:=by rw [←hmn]
  rw [he]
  exact h
end walks
end Go.Proofs.Ytjnbifkojpfdgaa

/-
  Circuits written out: whether they are valid,reckoned.
-/
namespace Go.Proofs.Ytjnbifkojpfdgaa
open Go Go.AL

def vdB (c:Circ):Bool :=
  decide (1≤c.inputs) && decide (c.inputs≤64) && decide (0≤c.sums) && decide (c.sums≤64) && decide (1≤c.layers.length) && decide (c.layers.length≤64) &&
    decide (c.sums≤((nth c.layers (c.layers.length - 1)).length:Int)) &&
    (List.range c.layers.length).all fun k=>decide (1≤(nth c.layers k).length) && decide ((nth c.layers k).length≤64) && (List.range (nth c.layers k).length).all fun i=>vG (nth (nth c.layers k) i) (wid c k)

theorem vdB_vd {c:Circ} (h:vdB c=true):Vd c:=by
  simp only [vdB,Bool.and_eq_true,decide_eq_true_eq,List.all_eq_true,List.mem_range] at h
  obtain ⟨⟨⟨⟨⟨⟨⟨h1,h2⟩,h3⟩,h4⟩,h5⟩,h6⟩,h7⟩,h8⟩:=h
  refine ⟨⟨⟨h1,by omega⟩,⟨h3,by omega⟩,⟨h5,by omega⟩,fun k hk => ?_,fun k hk i hi => ?_⟩,h2,h6,fun k hk => ?_,h7,fun k hk i hi => ?_⟩
  · obtain ⟨⟨a,b⟩,_⟩:=h8 k hk
    exact ⟨a,by omega⟩
  · exact (vG_inv ((h8 k hk).2 i hi)).1
  · exact (h8 k hk).1.2
  · exact (h8 k hk).2 i hi

def twice:Circ:=⟨1,[[⟨0,0,0,1,0,0⟩,⟨0,0,0,1,0,0⟩],[⟨0,1,0,1,1,0⟩]],1⟩
def constC:Circ:=⟨2,[[⟨0,0,0,0,0,5⟩,⟨1,0,0,1,0,0⟩],[⟨0,1,1,0,0,0⟩]],1⟩
def zeroC:Circ:=⟨1,[[⟨0,0,1,0,0,0⟩,⟨0,0,0,0,0,0⟩,⟨0,0,0,0,0,1⟩]],1⟩
theorem twice_vd:Vd twice:=vdB_vd (by decide)
theorem const_vd:Vd constC:=vdB_vd (by decide)
theorem zero_vd:Vd zeroC:=vdB_vd (by decide)

/-! ### What sanity asks -/
theorem san_a:once goG (once goG twice)=⟨1,[[⟨0,0,0,1,0,0⟩],[⟨0,0,0,2,0,0⟩]],1⟩:=by decide
theorem san_b:once goG (once goG constC)=⟨2,[[⟨1,0,0,1,0,0⟩],[⟨0,0,0,5,0,0⟩]],1⟩:=by decide
theorem san_d:deadG zeroC=⟨1,[[⟨0,0,1,0,0,0⟩,⟨0,0,0,0,0,1⟩]],1⟩:=by decide
theorem san_f:fold goG twice=twice:=by decide
theorem san_s:share twice=⟨1,[[⟨0,0,0,1,0,0⟩],[⟨0,0,0,1,1,0⟩]],1⟩:=by decide
theorem san_n:size twice=3∧size (once goG (once goG twice))=2:=by decide
end Go.Proofs.Ytjnbifkojpfdgaa

/-
  The walk of the laws' fixed examples.
-/
namespace Go.Proofs.Ytjnbifkojpfdgaa
open Go Go.AL

theorem mkAgg_circL {i s:Int} {b:Bool} {ls:List PV}:mkAgg [.p (i64 i),.p (.sl b 1 ls),.p (i64 s)] = .p (.agg [i64 i,.sl b 1 ls,i64 s]):=rfl
theorem acells_circL {i s:Int} {b:Bool} {ls:List PV}:acells (.p (.agg [i64 i,.sl b 1 ls,i64 s]))=some [.p (i64 i),.p (.sl b 1 ls),.p (i64 s)]:=rfl

def sA:Circ:=⟨1,[[⟨0,0,0,1,0,0⟩],[⟨0,0,0,2,0,0⟩]],1⟩
def sB:Circ:=⟨2,[[⟨1,0,0,1,0,0⟩],[⟨0,0,0,5,0,0⟩]],1⟩
def sD:Circ:=⟨1,[[⟨0,0,1,0,0,0⟩,⟨0,0,0,0,0,1⟩]],1⟩
def sS:Circ:=⟨1,[[⟨0,0,0,1,0,0⟩],[⟨0,0,0,1,1,0⟩]],1⟩
theorem hA:decide (once goG (once goG twice)=sA)=true:=decide_eq_true san_a
theorem hB:decide (once goG (once goG constC)=sB)=true:=decide_eq_true san_b
theorem hD:decide (deadG zeroC=sD)=true:=decide_eq_true san_d
theorem hF:decide (fold goG twice=twice)=true:=decide_eq_true san_f
theorem hS:decide (share twice=sS)=true:=decide_eq_true san_s
section walks
variable {G:Globs}

set_option maxHeartbeats 8000000 in
theorem W19_sanity_spec (H:Hp) (R:AV → Hp → Prop) (h:R (.p (bo true)) H):ACall Try.prog G 10 [] H R:=by
  refine ACall.of_run (raw:=[]) Try.func10 rfl Try.ntmps10 (by simp) fun hbel => ?_
  (repeat refine .z rfl ?_);refine .text ?_;simp (disch:=first|exact dsc|fail) only [go_sem,seval,mkAgg_circL,acells_circL]
  (repeat refine .z rfl ?_);refine .text ?_;simp (disch:=first|exact dsc|fail) only [go_sem,seval,mkAgg_circL,acells_circL]
  (repeat refine .z rfl ?_);refine .text ?_;simp (disch:=first|exact dsc|fail) only [go_sem,seval,mkAgg_circL,acells_circL]
  (repeat refine .z rfl ?_);refine .text ?_;simp (disch:=first|exact dsc|fail) only [go_sem,seval,mkAgg_circL,acells_circL]
  (repeat refine .z rfl ?_);refine .weakC (H.n) (by simp (disch:=first|exact dsc|fail) only [go_sem,seval];rfl) ?_;(try simp (disch:=first|exact dsc|fail) only [go_sem,seval,List.map_replicate,List.map_cons,List.map_nil,AV.weak,PV.weak])
  (repeat refine .z rfl ?_);refine .weakC (H.n+1) (by simp (disch:=first|exact dsc|fail) only [go_sem,seval];rfl) ?_;(try simp (disch:=first|exact dsc|fail) only [go_sem,seval,List.map_replicate,List.map_cons,List.map_nil,AV.weak,PV.weak])
  (repeat refine .z rfl ?_);refine .weakC (H.n+2) (by simp (disch:=first|exact dsc|fail) only [go_sem,seval];rfl) ?_;(try simp (disch:=first|exact dsc|fail) only [go_sem,seval,List.map_replicate,List.map_cons,List.map_nil,AV.weak,PV.weak])
  change ARun _ _ _ (((H.new (.cells (cc twice))).new (.cells (cc constC))).new (.cells (cc zeroC))) _
  (repeat refine .z rfl ?_);refine .openF 6 9 12 [6,7,8,9,10,11] follows (by kernel_rfl) (by kernel_rfl) ?_;simp (disch:=first|exact dsc|fail) only [go_sem,seval]
  refine CallQE.of (fun H R h=>optimize_All_spec twice (fun s _=>twice_vd.stp s) H R h) (by first | exact .p _ | simp (disch:=first|exact dsc|fail) only [go_sem,seval]) ?_;simp (disch:=first|exact dsc|fail) only [go_sem,seval]
  refine CallQE.of (fun H R h=>optimize_All_spec constC (fun s _=>const_vd.stp s) H R h) (by first | exact .p _ | simp (disch:=first|exact dsc|fail) only [go_sem,seval]) ?_;simp (disch:=first|exact dsc|fail) only [go_sem,seval]
  refine CallQE.of (fun H R h=>optimize_Dead_spec zeroC zero_vd.ok H R h) (by first | exact .p _ | simp (disch:=first|exact dsc|fail) only [go_sem,seval]) ?_;simp (disch:=first|exact dsc|fail) only [go_sem,seval]
  (repeat refine .z rfl ?_);refine .openF 4 6 8 [4,5,6,7] follows (by kernel_rfl) (by kernel_rfl) ?_;simp (disch:=first|exact dsc|fail) only [go_sem,seval]
  refine CallQE.of (fun H R h=>optimize_Fold_spec twice twice_vd.ok H R h) (by first | exact .p _ | simp (disch:=first|exact dsc|fail) only [go_sem,seval]) ?_;simp (disch:=first|exact dsc|fail) only [go_sem,seval]
  refine CallQE.of (fun H R h=>optimize_Share_spec twice twice_vd.ok H R h) (by first | exact .p _ | simp (disch:=first|exact dsc|fail) only [go_sem,seval]) ?_;simp (disch:=first|exact dsc|fail) only [go_sem,seval]
  (repeat refine .z rfl ?_);refine .text ?_;simp (disch:=first|exact dsc|fail) only [go_sem,seval,mkAgg_circL,acells_circL]
  have oA:Ok (once goG (once goG twice)):=(twice_vd.stp 6).ok
  have oB:Ok (once goG (once goG constC)):=(const_vd.stp 6).ok
  refine CallK.of (fun R h=>R16_Same_spec _ sA oA (vdB_vd (by decide)).ok _ R h) ?_;simp (disch:=first|exact dsc|fail) only [go_sem,seval,hA,hB,hD,hF,hS,mkAgg_circL,acells_circL]
  refine CallK.of (fun R h=>R16_Same_spec _ sB oB (vdB_vd (by decide)).ok _ R h) ?_;simp (disch:=first|exact dsc|fail) only [go_sem,seval,hA,hB,hD,hF,hS,mkAgg_circL,acells_circL]
  refine CallK.of (fun R h=>R16_Same_spec _ sD zero_vd.dead.ok (vdB_vd (by decide)).ok _ R h) ?_;simp (disch:=first|exact dsc|fail) only [go_sem,seval,hA,hB,hD,hF,hS,mkAgg_circL,acells_circL]
  refine CallK.of (fun R h=>R16_Same_spec _ twice (twice_vd.ok.fold keeps_goG) twice_vd.ok _ R h) ?_;simp (disch:=first|exact dsc|fail) only [go_sem,seval,hA,hB,hD,hF,hS,mkAgg_circL,acells_circL]
  refine CallK.of (fun R h=>R16_Same_spec _ sS twice_vd.ok.share (vdB_vd (by decide)).ok _ R h) ?_;simp (disch:=first|exact dsc|fail) only [go_sem,seval,hA,hB,hD,hF,hS,mkAgg_circL,acells_circL]
  refine CallK.of (fun R h=>optimize_Size_spec twice twice_vd.ok _ R h) ?_;simp (disch:=first|exact dsc|fail) only [go_sem,seval,hA,hB,hD,hF,hS,mkAgg_circL,acells_circL,san_n.1,san_n.2]
  refine CallK.of (fun R h=>optimize_Size_spec _ oA _ R h) ?_;simp (disch:=first|exact dsc|fail) only [go_sem,seval,hA,hB,hD,hF,hS,mkAgg_circL,acells_circL,san_n.1,san_n.2]
  (repeat refine .z rfl ?_);refine .rt Try.func10 (by rw [Try.results10]) (hR := ?_);simp (disch:=first|exact dsc|fail) only [go_sem,seval]
  exact h
end walks
end Go.Proofs.Ytjnbifkojpfdgaa

/-
  The walk of OptimizeMatchesReference.
-/
namespace Go.Proofs.Ytjnbifkojpfdgaa
open Go Go.AL

section walks
variable {G:Globs}

end walks
end Go.Proofs.Ytjnbifkojpfdgaa

/-
  The normal form of folded gates;folding twice changes nothing more.
-/
namespace Go.Proofs.Ytjnbifkojpfdgaa
open Go Go.AL

structure NF (b:Bool) (p:List Gate) (x:Gate):Prop where
  l0:usesL x=false → x.l=0
  r0:usesR x=false → x.r=0
  rl:usesR x=true → usesL x=true∧x.l≤x.r
  eq:x.l=x.r → x.b=0#64
  kl:b=false → usesL x=true → konst (nth p x.l.toNat)=false
  kr:b=false → usesR x=true → konst (nth p x.r.toNat)=false









end Go.Proofs.Ytjnbifkojpfdgaa

/-
  Sharing twice is sharing once;the kept gates of a layer differ;doubled layers share to the same.
-/
namespace Go.Proofs.Ytjnbifkojpfdgaa
open Go Go.AL

def Dif (l:List Gate):Prop := ∀ i j,i < l.length → j < i → nth l i≠nth l j

theorem findI_none {l:List Gate} {g:Gate}:findI l g=none ↔ ∀ i,i < l.length → nth l i≠g:=by
  unfold findI
  rw [fst_none]
  exact ⟨fun h i hi e=>by have:=h i hi;simp [e] at this,fun h i hi=>by simpa using h i hi⟩
theorem findI_some {l:List Gate} {g:Gate} {i:Nat}:findI l g=some i ↔ i < l.length∧nth l i=g ∧ ∀ j,j < i → nth l j≠g:=by
  unfold findI
  rw [fst_some]
  simp only [decide_eq_true_eq,decide_eq_false_iff_not]
theorem Dif.snoc {l:List Gate} {g:Gate} (h:Dif l) (hg:findI l g=none):Dif (l++[g]):=by
  intro i j hi hj
  simp only [List.length_append,List.length_cons,List.length_nil] at hi
  by_cases e:i < l.length
  · rw [nth_append_l e,nth_append_l (by omega)];exact h i j e hj
  · rw [nth_append_r (by omega),show i - l.length=0 by omega,nth_cons_zero,nth_append_l (by omega)]
    exact fun e=>findI_none.1 hg j (by omega) e.symm

theorem shTo_dif {ns:List Int} {first:Bool} {l:List Gate} : ∀ i,Dif (shTo ns first false l i).1
  | 0=>fun i j h=>absurd h (by simp [shTo])
  | i+1=>by
    have ih:=shTo_dif (ns:=ns) (first:=first) (l:=l) i
    simp only [shTo]
    cases hf:findI (shTo ns first false l i).1 (shG ns first (nth l i)) with
    | none=>exact ih.snoc hf
    | some j=>exact ih

theorem shTo_fix {ns:List Int} {first last:Bool} {m:List Gate} (hm:last=true ∨ Dif m) (hg : ∀ j,j < m.length → shG ns first (nth m j)=nth m j) :
    ∀ i,i≤m.length → shTo ns first last m i=(m.take i,tab (fun j=>(j:Int)) i)
  | 0,_=>rfl
  | i+1,hi=>by
    have ih:=shTo_fix hm hg i (by omega)
    simp only [shTo]
    rw [ih,hg i (by omega)]
    have h1:m.take i++[nth m i]=m.take (i+1):=by
      rw [List.take_succ_eq_append_getElem (by omega)]
      simp [nth,show i < m.length by omega]
    have h2:tab (fun j=>(j:Int)) i++[((m.take i).length:Int)]=tab (fun j=>(j:Int)) (i+1):=by
      rw [tab_succ,List.length_take,Nat.min_eq_left (by omega)]
    simp only
    rw [h1,h2]
    cases hf:findI (m.take i) (nth m i) with
    | none=>rfl
    | some j =>
      rcases hm with rfl | hm
      · rfl
      · exfalso
        obtain ⟨q1,q2,_⟩:=findI_some.1 hf
        rw [List.length_take] at q1
        have:nth (m.take i) j=nth m j:=by simp [nth,List.getElem?_take,show j < i by omega]
        rw [this] at q2
        exact hm i j (by omega) (by omega) q2.symm

theorem shG_id {w:Nat} {g:Gate} {first:Bool} (h:first=true ∨ opG (w:Int) g):shG (tab (fun j=>(j:Int)) w) first g=g:=by
  unfold shG
  split
  · rfl
  · rename_i hf
    rcases h with h | ⟨h1,h2,h3,h4⟩
    · exact absurd h hf
    · rw [nth_tab (by omega),nth_tab (by omega)]
      cases g
      simp only at h1 h3 ⊢
      rw [Int.toNat_of_nonneg h1,Int.toNat_of_nonneg h3]

theorem shN_shN {c:Circ} (hc:Ok c) : ∀ k,k < c.layers.length → shN (share c).layers k=((shN c.layers k).1,tab (fun j=>(j:Int)) (shN c.layers k).1.length)
  | k,hk=>by
    have hl:(share c).layers=tab (fun k=>(shN c.layers k).1) c.layers.length:=rfl
    have hm:nth (share c).layers k=(shN c.layers k).1:=by rw [hl,nth_tab hk]
    rw [shN_eq,hm,show (share c).layers.length=c.layers.length by rw [hl,tab_len]]
    have hop:=(shN_ok hc k hk).op
    rw [shTo_fix (m:=(shN c.layers k).1) ?_ ?_ _ (Nat.le_refl _),List.take_length]
    · by_cases e:k+1=c.layers.length
      · exact .inl (by simpa using e)
      · refine .inr ?_
        rw [shN_eq,show (k+1 == c.layers.length)=false by simpa using e]
        exact shTo_dif _
    · intro j hj
      by_cases h0:k=0
      · subst h0;rfl
      · have hP:shP (share c).layers k=tab (fun j=>(j:Int)) (shN c.layers (k - 1)).1.length:=by
          rw [shP,if_neg h0,shN_shN hc (k - 1) (by omega)]
        rw [hP]
        refine shG_id (.inr ?_)
        have:=hop j hj
        rwa [shW,if_neg h0] at this


theorem share_dif {c:Circ} {k:Nat} (hk:k+1 < c.layers.length):Dif (nth (share c).layers k):=by
  show Dif (nth (tab _ _) k)
  rw [nth_tab (by omega),shN_eq,show (k+1 == c.layers.length)=false by simp;omega]
  exact shTo_dif _

/-! ### Doubled layers -/
theorem findI_append {l:List Gate} {g h:Gate} {i:Nat} (hf:findI l g=some i):findI (l++[h]) g=some i:=by
  obtain ⟨h1,h2,h3⟩:=findI_some.1 hf
  refine findI_some.2 ⟨by simp;omega,by rw [nth_append_l h1];exact h2,fun j hj=>by rw [nth_append_l (by omega)];exact h3 j hj⟩
theorem findI_here {l:List Gate} {g:Gate} (hf:findI l g=none):findI (l++[g]) g=some l.length:=by
  refine findI_some.2 ⟨by simp,by rw [nth_append_r (Nat.le_refl _),Nat.sub_self,nth_cons_zero],fun j hj=>by rw [nth_append_l hj];exact findI_none.1 hf j hj⟩

theorem shTo_found {ns:List Int} {first:Bool} {l:List Gate} : ∀ i j,j < i → ∃ x:Nat,findI (shTo ns first false l i).1 (shG ns first (nth l j))=some x∧nth (shTo ns first false l i).2 j=(x:Int)∧(shTo ns first false l i).2.length=i
  | 0,j,hj=>absurd hj (by omega)
  | i+1,j,hj=>by
    have hlen:(shTo ns first false l i).2.length=i:=by
      cases i with
      | zero=>rfl
      | succ i=>exact (shTo_found (i+1) i (by omega)).choose_spec.2.2
    simp only [shTo]
    cases hf:findI (shTo ns first false l i).1 (shG ns first (nth l i)) with
    | none =>
      simp only
      by_cases e:j=i
      · subst e
        exact ⟨_,findI_here hf,by rw [nth_append_r (by omega),hlen,Nat.sub_self,nth_cons_zero],by simp [hlen]⟩
      · obtain ⟨x,h1,h2,_⟩:=shTo_found (ns:=ns) (first:=first) (l:=l) i j (by omega)
        exact ⟨x,findI_append h1,by rw [nth_append_l (by omega)];exact h2,by simp [hlen]⟩
    | some q =>
      simp only [Bool.false_eq_true,if_false]
      by_cases e:j=i
      · subst e
        exact ⟨q,hf,by rw [nth_append_r (by omega),hlen,Nat.sub_self,nth_cons_zero],by simp [hlen]⟩
      · obtain ⟨x,h1,h2,_⟩:=shTo_found (ns:=ns) (first:=first) (l:=l) i j (by omega)
        exact ⟨x,h1,by rw [nth_append_l (by omega)];exact h2,by simp [hlen]⟩

theorem shTo_congr {ns ns':List Int} {first last:Bool} {l l':List Gate} : ∀ i,(∀ j,j < i → shG ns first (nth l j)=shG ns' first (nth l' j)) → shTo ns first last l i=shTo ns' first last l' i
  | 0,_=>rfl
  | i+1,h=>by
    have ih:=shTo_congr (last:=last) i fun j hj=>h j (by omega)
    simp only [shTo]
    rw [ih,h i (by omega)]

theorem shTo_len {ns:List Int} {first last:Bool} {l:List Gate} : ∀ i,(shTo ns first last l i).2.length=i
  | 0=>rfl
  | i+1=>by
    have:=shTo_len (ns:=ns) (first:=first) (last:=last) (l:=l) i
    simp only [shTo]
    cases findI (shTo ns first last l i).1 (shG ns first (nth l i)) with
    | none=>simp [this]
    | some j=>simp only;split<;>simp [this]

theorem shTo_twice {ns:List Int} {first:Bool} {l:List Gate} : ∀ i,i≤l.length → shTo ns first false (l++l) (l.length+i)=((shTo ns first false l l.length).1,(shTo ns first false l l.length).2++(shTo ns first false l l.length).2.take i)
  | 0,_=>by
    rw [Nat.add_zero,List.take_zero,List.append_nil]
    exact shTo_congr _ fun j hj=>by rw [nth_append_l hj]
  | i+1,hi=>by
    have ih:=shTo_twice (ns:=ns) (first:=first) (l:=l) i (by omega)
    obtain ⟨x,h1,h2,h3⟩:=shTo_found (ns:=ns) (first:=first) (l:=l) l.length i (by omega)
    rw [←Nat.add_assoc,shTo,ih,nth_append_r (by omega),Nat.add_sub_cancel_left]
    simp only [h1,Bool.false_eq_true,if_false]
    congr 1
    rw [List.append_assoc]
    congr 1
    rw [List.take_succ_eq_append_getElem (by omega)]
    have:nth (shTo ns first false l l.length).2 i=(shTo ns first false l l.length).2[i]'(by omega):=by simp [nth,show i < (shTo ns first false l l.length).2.length by omega]
    rw [←this,h2]

structure Doubled (c d:Circ) (k:Nat):Prop where
  hk:k+1 < c.layers.length
  inp:d.inputs=c.inputs
  sums:d.sums=c.sums
  len:d.layers.length=c.layers.length
  same : ∀ j,j < c.layers.length → j≠k → j≠k+1 → nth d.layers j=nth c.layers j
  two:nth d.layers k=nth c.layers k++nth c.layers k
  nlen:(nth d.layers (k+1)).length=(nth c.layers (k+1)).length
  next : ∀ i,i < (nth c.layers (k+1)).length → ∃ a b:Bool,nth (nth d.layers (k+1)) i = { nth (nth c.layers (k+1)) i with
      l:=(nth (nth c.layers (k+1)) i).l+(if a then ((nth c.layers k).length:Int) else 0),r:=(nth (nth c.layers (k+1)) i).r+(if b then ((nth c.layers k).length:Int) else 0) }

theorem nth_twice {l:List Int} {x:Int} {a:Bool} (h0:0≤x) (h1:x < l.length):nth (l++l) (x+(if a then (l.length:Int) else 0)).toNat=nth l x.toNat:=by
  cases a
  · rw [if_neg (by simp),Int.add_zero,nth_append_l (by omega)]
  · rw [if_pos rfl,nth_append_r (by omega)]
    congr 1;omega

theorem Doubled.shN {c d:Circ} {k:Nat} (hc:Ok c) (h:Doubled c d k) : ∀ j,j < c.layers.length → (j≠k → shN d.layers j=shN c.layers j)∧(j=k → shN d.layers j=((shN c.layers k).1,(shN c.layers k).2++(shN c.layers k).2))
  | j,hj=>by
    have ih:j≠0 → (j - 1≠k → Proofs.Ytjnbifkojpfdgaa.shN d.layers (j - 1)=Proofs.Ytjnbifkojpfdgaa.shN c.layers (j - 1))∧(j - 1=k → Proofs.Ytjnbifkojpfdgaa.shN d.layers (j - 1)=((Proofs.Ytjnbifkojpfdgaa.shN c.layers k).1,(Proofs.Ytjnbifkojpfdgaa.shN c.layers k).2++(Proofs.Ytjnbifkojpfdgaa.shN c.layers k).2)):=fun h0=>Doubled.shN hc h (j - 1) (by omega)
    have hkk:=h.hk
    have hP:j≠k+1 → shP d.layers j=shP c.layers j:=fun hne=>by
      unfold shP
      split
      · rfl
      · rename_i h0;rw [(ih h0).1 (by omega)]
    refine ⟨fun hne => ?_,fun he => ?_⟩
    · rw [shN_eq,shN_eq,h.len]
      by_cases e:j=k+1
      · subst e
        rw [h.nlen]
        refine shTo_congr _ fun i hi => ?_
        obtain ⟨a,b,hn⟩:=h.next i hi
        have hb:(k+1 == 0)=false:=by simp
        have hnum:(Proofs.Ytjnbifkojpfdgaa.shN c.layers k).2.length=(nth c.layers k).length:=by rw [shN_eq];exact shTo_len _
        have hPd:shP d.layers (k+1)=(Proofs.Ytjnbifkojpfdgaa.shN c.layers k).2++(Proofs.Ytjnbifkojpfdgaa.shN c.layers k).2:=by
          rw [shP,if_neg (by omega),(ih (by omega)).2 (by omega)]
        have hPc:shP c.layers (k+1)=(Proofs.Ytjnbifkojpfdgaa.shN c.layers k).2:=by rw [shP,if_neg (by omega),Nat.add_sub_cancel]
        have ho:=hc.op (k+1) hkk i hi
        rw [wid,if_neg (by omega),Nat.add_sub_cancel] at ho
        obtain ⟨o1,o2,o3,o4⟩:=ho
        rw [hn,hPd,hPc,hb]
        rw [←hnum] at o2 o4 ⊢
        show (⟨nth _ _,nth _ _,_,_,_,_⟩:Gate)=⟨_,_,_,_,_,_⟩
        rw [nth_twice o1 o2,nth_twice o3 o4]
      · rw [h.same j hj hne e,hP e]
    · subst he
      rw [shN_eq,h.len,h.two,hP (by omega),List.length_append]
      have hl:(j+1 == c.layers.length)=false:=by simp;omega
      have:=shTo_twice (ns:=shP c.layers j) (first:=j == 0) (l:=nth c.layers j) (nth c.layers j).length (Nat.le_refl _)
      rw [hl,this,shN_eq,hl,List.take_of_length_le (by rw [shTo_len];exact Nat.le_refl _)]

theorem Doubled.share {c d:Circ} {k:Nat} (hc:Ok c) (h:Doubled c d k):share d=share c:=by
  show (⟨_,tab _ _,_⟩:Circ)=⟨_,tab _ _,_⟩
  rw [h.inp,h.sums,h.len]
  congr 1
  refine tab_congr fun j hj => ?_
  by_cases e:j=k
  · rw [(h.shN hc j hj).2 e,e]
  · rw [(h.shN hc j hj).1 e]
end Go.Proofs.Ytjnbifkojpfdgaa

/-
  The walk of OptimizeRedundancy: the region that makes the doubled circuit.
-/
namespace Go.Proofs.Ytjnbifkojpfdgaa
open Go Go.AL

theorem opA_val {C:Cx} {ops:Array Oper} {i:Nat} {o:Oper} {K:Env → Hp → Prop} {env:Env} {H:Hp} (x:AV) (ho:ops[i]? = some o) (hg:o.guard=none) (hs:stepOp C.P C.G o.op o.type env H = .val x H) (hd:dstOK C.nt o.dst=true)
    (hK:K (env.put o.dst x) H):opA C ops false i K env H:=by
  unfold opA
  rw [ho]
  simp only [hg,wantedA,aOp1,hs,sOp]
  exact ⟨hd,hK⟩
theorem opA_valH {C:Cx} {ops:Array Oper} {i:Nat} {o:Oper} {K:Env → Hp → Prop} {env:Env} {H H':Hp} (x:AV) (ho:ops[i]? = some o) (hg:o.guard=none) (hs:stepOp C.P C.G o.op o.type env H = .val x H') (hd:dstOK C.nt o.dst=true)
    (hK:K (env.put o.dst x) H'):opA C ops false i K env H:=by
  unfold opA
  rw [ho]
  simp only [hg,wantedA,aOp1,hs,sOp]
  exact ⟨hd,hK⟩
theorem opA_unit {C:Cx} {ops:Array Oper} {i:Nat} {o:Oper} {K:Env → Hp → Prop} {env:Env} {H H':Hp} (ho:ops[i]? = some o) (hg:o.guard=none) (hs:stepOp C.P C.G o.op o.type env H = .unit H') (hd:o.dst=none)
    (hK:K env H'):opA C ops false i K env H:=by
  unfold opA
  rw [ho]
  simp only [hg,wantedA,aOp1,hs,sOp]
  exact ⟨hd,by rw [hd];exact hK⟩
theorem more_ne {L:Nat → Bool} {i k:Nat} (h:k≠i):more L i k=L k:=by simp [more,h]
theorem more_eq {L:Nat → Bool} {i:Nat}:more L i i=true:=by simp [more]
theorem more_t {L:Nat → Bool} {i k:Nat} (h:L k=true):more L i k=true:=by simp [more,h]

def rB (m:Circ) (H:Hp) (y:AB):Hp:=(H.new y).new (.cells (cc m))
def rV (m:Circ):AB := .vec (cl (sle 6 gate) m.layers)
def rZ:AB := .cells [.p (i64 0),.p (.sl true 1 []),.p (i64 0)]
def rF (m:Circ) (a:Nat):AB := .cells [.p (i64 m.inputs),.vr a m.layers.length 1,.p (i64 m.sums)]
inductive ST (m:Circ) (H:Hp) (y:AB):Bool → Bool → Bool → Bool → AV → AV → AV → Hp → Prop
  | s0 (u v w:AV):ST m H y false false false false u v w (rB m H y)
  | s7 (l8:Bool) (u w:AV) (hw:l8=true → w = .agg [.p (i64 m.inputs),.vr (H.n+2) m.layers.length 1,.p (i64 m.sums)]):ST m H y true l8 false false u (.vr (H.n+2) m.layers.length 1) w ((rB m H y).new (rV m))
  | s9 (v w:AV):ST m H y false false true false (.ptr (H.n+2) 0) v w ((rB m H y).new rZ)
  | s79 (l8 l10:Bool) (w:AV) (hw:l8=true → w = .agg [.p (i64 m.inputs),.vr (H.n+2) m.layers.length 1,.p (i64 m.sums)]):ST m H y true l8 true l10 (.ptr (H.n+3) 0) (.vr (H.n+2) m.layers.length 1) w (((rB m H y).new (rV m)).new (if l10 then rF m (H.n+2) else rZ))
  | s97 (l8 l10:Bool) (w:AV) (hw:l8=true → w = .agg [.p (i64 m.inputs),.vr (H.n+3) m.layers.length 1,.p (i64 m.sums)]):ST m H y true l8 true l10 (.ptr (H.n+2) 0) (.vr (H.n+3) m.layers.length 1) w (((rB m H y).new (if l10 then rF m (H.n+3) else rZ)).new (rV m))
section st
variable {m:Circ} {H B:Hp} {y:AB} {l7 l8 l9 l10:Bool} {u v w:AV}
theorem ST.fm (h:ST m H y l7 l8 l9 l10 u v w B):B.f (H.n+1)=some (.cells [.p (i64 m.inputs),.p (.sl false 1 (pl (sle 6 gate) m.layers)),.p (i64 m.sums)]):=by
  cases h<;>simp (disch:=first|exact dsc|fail) only [rB,go_sem,seval]<;>rfl
theorem ST.e47 (h:ST m H y l7 l8 l9 l10 u v w B) (h7:l7=true) : ∃ a,v = .vr a m.layers.length 1:=by
  cases h<;>first | exact ⟨_,rfl⟩ | cases h7
theorem ST.op8 {a:Nat} (h:ST m H y true false l9 false u v w B) (ha:v = .vr a m.layers.length 1):ST m H y true true l9 false u v (.agg [.p (i64 m.inputs),.vr a m.layers.length 1,.p (i64 m.sums)]) B:=by
  cases h<;>cases ha
  · exact .s7 _ _ _ fun _=>rfl
  · exact .s79 _ _ _ fun _=>rfl
  · exact .s97 _ _ _ fun _=>rfl
theorem ST.op7 (h:ST m H y false false l9 false u v w B):ST m H y true false l9 false u (.vr B.n m.layers.length 1) w (B.new (rV m)):=by
  cases h
  · have:=ST.s7 (m:=m) (H:=H) (y:=y) false u w (by simp)
    simpa [rB,n_new'] using this
  · have:=ST.s97 (m:=m) (H:=H) (y:=y) false false w (by simp)
    simpa [rB,n_new'] using this
theorem ST.op9 (h:ST m H y l7 l8 false false u v w B):ST m H y l7 l8 true false (.ptr B.n 0) v w (B.new rZ):=by
  cases h
  · have:=ST.s9 (m:=m) (H:=H) (y:=y) v w
    simpa [rB,n_new'] using this
  · rename_i hw
    have:=ST.s79 (m:=m) (H:=H) (y:=y) l8 false w hw
    simpa [rB,n_new'] using this
theorem ST.op10 (h:ST m H y true true true false u v w B) : ∃ a b,u = .ptr b 0∧w = .agg [.p (i64 m.inputs),.vr a m.layers.length 1,.p (i64 m.sums)]∧B.f b=some (.cells [.p (i64 0),.p (.sl true 1 []),.p (i64 0)]) ∧
    ST m H y true true true true u v w (B.set b (.cells [.p (i64 m.inputs),.vr a m.layers.length 1,.p (i64 m.sums)])):=by
  cases h
  · rename_i hw
    refine ⟨H.n+2,H.n+3,rfl,hw rfl,?_,?_⟩
    · simp (disch:=first|exact dsc|fail) only [rB,go_sem,seval]<;>rfl
    · have:=ST.s79 (m:=m) (H:=H) (y:=y) true true w hw
      refine cast ?_ this
      congr 1
      simp (disch:=first|exact dsc|fail) only [rB,go_sem,seval]<;>rfl
  · rename_i hw
    refine ⟨H.n+3,H.n+2,rfl,hw rfl,?_,?_⟩
    · simp (disch:=first|exact dsc|fail) only [rB,go_sem,seval]<;>rfl
    · have:=ST.s97 (m:=m) (H:=H) (y:=y) true true w hw
      refine cast ?_ this
      congr 1
      simp (disch:=first|exact dsc|fail) only [rB,go_sem,seval]<;>rfl
end st
structure RD (H:Hp) (m:Circ) (a b:Nat) (B:Hp):Prop where
  n:B.n=H.n+4
  f1:B.f (H.n+1)=some (.cells [.p (i64 m.inputs),.p (.sl false 1 (pl (sle 6 gate) m.layers)),.p (i64 m.sums)])
  fa:B.f a=some (.vec (cl (sle 6 gate) m.layers))
  fb:B.f b=some (.cells [.p (i64 m.inputs),.vr a m.layers.length 1,.p (i64 m.sums)])
  la:H.n+2≤a∧a < H.n+4
  lb:H.n+2≤b∧b < H.n+4
  ne:a≠b
  bel:Bel H.n B
  tr:B.trunc H.n=H
theorem ST.fin {m:Circ} {H B:Hp} {y:AB} {u v w:AV} (h:ST m H y true true true true u v w B) (hbel:Bel H.n H) : ∃ a b,u = .ptr b 0∧RD H m a b B:=by
  have hm:=h.fm
  have b1:Bel H.n (rB m H y):=bel_new (bel_new hbel (Nat.le_refl _)) (by simp only [n_new'];omega)
  have b2 : ∀ x z,Bel H.n (((rB m H y).new x).new z):=fun x z=>bel_new (bel_new b1 (by simp only [rB,n_new'];omega)) (by simp only [rB,n_new'];omega)
  cases h
  · refine ⟨H.n+2,H.n+3,rfl,?_,hm,?_,?_,by omega,by omega,by omega,b2 _ _,?_⟩<;>simp (disch:=first|exact dsc|fail) only [rB,rV,rF,if_true,go_sem,seval]<;>rfl
  · refine ⟨H.n+3,H.n+2,rfl,?_,hm,?_,?_,by omega,by omega,by omega,b2 _ _,?_⟩<;>simp (disch:=first|exact dsc|fail) only [rB,rV,rF,if_true,go_sem,seval]<;>rfl

/-! ### Operands moved to the copies -/
def mvL (bits:BitVec 16) (i:Nat):Bool:=bits >>> (2*(i:Int) % 16).toNat &&& 1#16 == 1#16
def mvR (bits:BitVec 16) (i:Nat):Bool:=bits >>> ((2*(i:Int)+1) % 16).toNat &&& 1#16 == 1#16
def mvG (bits:BitVec 16) (n:Nat) (i:Nat) (g:Gate):Gate := { g with l:=g.l+(if mvL bits i then (n:Int) else 0),r:=g.r+(if mvR bits i then (n:Int) else 0) }
def mvTo (f:Nat → Gate → Gate) (l:List Gate) (i:Nat):List Gate:=tab (fun j=>if j < i then f j (nth l j) else nth l j) l.length
section mv
variable {f:Nat → Gate → Gate} {l:List Gate} {i:Nat}
theorem mvTo_zero:mvTo f l 0=l:=by
  refine (tab_congr fun j hj => ?_).trans (tab_nth l)
  rw [if_neg (by omega)]
theorem mvTo_all:mvTo f l l.length=tab (fun j=>f j (nth l j)) l.length:=tab_congr fun j hj=>by rw [if_pos hj]
theorem mvTo_len:(mvTo f l i).length=l.length:=tab_len
theorem mvTo_nth (h:i < l.length):nth (mvTo f l i) i=nth l i:=by rw [mvTo,nth_tab h,if_neg (by omega)]
theorem mvTo_succ (h:i < l.length):(mvTo f l i).set i (f i (nth l i))=mvTo f l (i+1):=nth_ext (by simp [mvTo,tab]) fun j hj=>by
  rw [List.length_set,mvTo_len] at hj
  by_cases e:i=j
  · subst e;rw [nth_set_eq rfl (by rw [mvTo_len];omega),mvTo,nth_tab hj,if_pos (by omega)]
  · rw [nth_set_ne e,mvTo,mvTo,nth_tab hj,nth_tab hj]
    by_cases e2:j < i
    · rw [if_pos e2,if_pos (by omega)]
    · rw [if_neg e2,if_neg (by omega)]
end mv

def doub (c:Circ) (bits:BitVec 16) (k:Nat):Circ :=
  ⟨c.inputs,(c.layers.set k (nth c.layers k++nth c.layers k)).set (k+1) (tab (fun j=>mvG bits (nth c.layers k).length j (nth (nth c.layers (k+1)) j)) (nth c.layers (k+1)).length),c.sums⟩
section doub
variable {c:Circ} {bits:BitVec 16} {k:Nat}
theorem doub_nth (hk:k+1 < c.layers.length):nth (doub c bits k).layers k=nth c.layers k++nth c.layers k∧nth (doub c bits k).layers (k+1)=tab (fun j=>mvG bits (nth c.layers k).length j (nth (nth c.layers (k+1)) j)) (nth c.layers (k+1)).length ∧ ∀ j,j≠k → j≠k+1 → nth (doub c bits k).layers j=nth c.layers j:=by
  refine ⟨?_,?_,fun j h1 h2 => ?_⟩
  · show nth (List.set (List.set _ _ _) _ _) _=_
    rw [nth_set_ne (by omega),nth_set_eq rfl (by omega)]
  · show nth (List.set (List.set _ _ _) _ _) _=_
    rw [nth_set_eq rfl (by rw [List.length_set];omega)]
  · show nth (List.set (List.set _ _ _) _ _) _=_
    rw [nth_set_ne (Ne.symm h2),nth_set_ne (Ne.symm h1)]
theorem doub_dbl (hk:k+1 < c.layers.length):Doubled c (doub c bits k) k where
  hk:=hk
  inp:=rfl
  sums:=rfl
  len:=by simp [doub]
  same j _ h1 h2:=(doub_nth hk).2.2 j h1 h2
  two:=(doub_nth hk).1
  nlen:=by rw [(doub_nth hk).2.1,tab_len]
  next i hi:=⟨mvL bits i,mvR bits i,by rw [(doub_nth hk).2.1,nth_tab hi];rfl⟩
theorem doub_ok (hv:Vd c) (hk:k+1 < c.layers.length):Ok (doub c bits k):=by
  have hl:(doub c bits k).layers.length=c.layers.length:=by simp [doub]
  have hN:=doub_nth (bits:=bits) hk
  have hr:=fun j hj=>hv.ok.row j hj
  have hr64:=fun j hj=>hv.row j hj
  have hlen : ∀ j,j < c.layers.length → (nth (doub c bits k).layers j).length=(if j=k then 2 else 1)*(nth c.layers j).length:=fun j hj=>by
    by_cases e1:j=k
    · subst e1;rw [hN.1,if_pos rfl,List.length_append];omega
    · rw [if_neg e1]
      by_cases e2:j=k+1
      · subst e2;rw [hN.2.1,tab_len];omega
      · rw [hN.2.2 j e1 e2];omega
  refine ⟨hv.ok.inp,hv.ok.sums,by rw [hl];exact hv.ok.len,fun j hj => ?_,fun j hj i hi => ?_⟩
  · rw [hl] at hj
    have h1:=hr j hj
    have h2:=hr64 j hj
    rw [hlen j hj]
    split<;>omega
  · rw [hl] at hj
    have hw:wid c j≤wid (doub c bits k) j:=by
      unfold wid
      split
      · exact Int.le_refl _
      · rename_i h0
        rw [hlen (j - 1) (by omega)]
        split<;>omega
    have hop:=fun i hi=>hv.ok.op j hj i hi
    by_cases e1:j=k
    · subst e1
      rw [hN.1] at hi ⊢
      rw [List.length_append] at hi
      have : ∃ i',i' < (nth c.layers j).length∧nth (nth c.layers j++nth c.layers j) i=nth (nth c.layers j) i':=by
        by_cases h:i < (nth c.layers j).length
        · exact ⟨i,h,nth_append_l h⟩
        · exact ⟨i - (nth c.layers j).length,by omega,nth_append_r (by omega)⟩
      obtain ⟨i',hi',he⟩:=this
      rw [he]
      obtain ⟨a1,a2,a3,a4⟩:=hop i' hi'
      exact ⟨a1,by omega,a3,by omega⟩
    · by_cases e2:j=k+1
      · subst e2
        rw [hN.2.1] at hi ⊢
        rw [tab_len] at hi
        rw [nth_tab hi]
        obtain ⟨a1,a2,a3,a4⟩:=hop i hi
        have h3:wid c (k+1)=((nth c.layers k).length:Int):=rfl
        have h4:wid (doub c bits k) (k+1)=((nth c.layers k).length:Int)+(nth c.layers k).length:=by
          show ((nth (doub c bits k).layers k).length:Int)=_
          rw [hN.1,List.length_append];omega
        rw [h3] at a2 a4
        rw [h4]
        refine ⟨?_,?_,?_,?_⟩<;>simp only [mvG]<;>split<;>omega
      · rw [hN.2.2 j e1 e2] at hi ⊢
        obtain ⟨a1,a2,a3,a4⟩:=hop i hi
        exact ⟨a1,by omega,a3,by omega⟩
end doub
end Go.Proofs.Ytjnbifkojpfdgaa

/-
  The walk of OptimizeRedundancy.
-/
namespace Go.Proofs.Ytjnbifkojpfdgaa
open Go Go.AL

section walks
variable {G:Globs}
set_option maxHeartbeats 16000000 in
set_option maxRecDepth 20000 in
theorem W19_Redundancy_spec (c:Circ) (cols:List (List U)) (lg:BitVec 8) (hl:c.layers.length≤9223372036854775807) (hr : ∀ i,i < c.layers.length → (nth c.layers i).length≤9223372036854775807) (hl2:cols.length≤9223372036854775807) (hr2 : ∀ i,i < cols.length → (nth cols i).length≤9223372036854775807) (z:BitVec 8) (bits:BitVec 16)
    (H:Hp) (R:AV → Hp → Prop) (h:R (.p (bo true)) H):ACall Try.prog G 9 [.p (inpV c cols lg),.p (b8 z),.p (w16 bits)] H R:=by
  refine ACall.of_run (raw:=[]) Try.func9 rfl Try.ntmps9 (by simp) fun hbel => ?_
  have hv:=made_vd c
  (repeat refine .z rfl ?_);refine .text ?_;simp (disch:=first|exact dsc|fail) only [go_sem,seval]
  (repeat refine .z rfl ?_);refine .text ?_;simp (disch:=first|exact dsc|fail) only [go_sem,seval]
  refine CallK.of (fun R h=>W19_sanity_spec _ R h) ?_;simp (disch:=first|exact dsc|fail) only [go_sem,seval]
  (repeat refine .z rfl ?_);refine .text ?_;simp (disch:=first|exact dsc|fail) only [go_sem,seval]
  refine CallK.of (fun R h=>W19_made_spec c cols lg hl hr hl2 hr2 _ R h) ?_;simp (disch:=first|exact dsc|fail) only [go_sem,seval]
  generalize made c=m at *
  have hml:=hv.ok.len
  (repeat refine .z rfl ?_);refine .text ?_;simp (disch:=first|exact dsc|fail) only [go_sem,seval]
  by_cases c1:m.layers.length < 2
  · have d1:decide ((m.layers.length:Int) < 2)=true:=by simp only [decide_eq_true_eq];omega
    (repeat refine .z rfl ?_);refine .ifT (by simp (disch:=first|exact dsc|fail) only [go_sem,seval,d1]) ?_
    (repeat refine .z rfl ?_);refine .text ?_;simp (disch:=first|exact dsc|fail) only [go_sem,seval]
    (repeat refine .z rfl ?_);refine .rt Try.func9 (by rw [Try.results9]) (hR := ?_);simp (disch:=first|exact dsc|fail) only [go_sem,seval]
    exact h
  · have d1:decide ((m.layers.length:Int) < 2)=false:=by simp only [decide_eq_false_iff_not];omega
    have hl1:(m.layers.length:Int) - 1=((m.layers.length - 1:Nat):Int):=by omega
    obtain ⟨k,hk,hmod⟩ : ∃ k:Nat,k < m.layers.length - 1∧(z.toNat:Int) % ((m.layers.length - 1:Nat):Int)=(k:Int):=⟨z.toNat % (m.layers.length - 1),Nat.mod_lt _ (by omega),(Int.natCast_emod _ _).symm⟩
    have hne:((m.layers.length - 1:Nat):Int)≠0:=by omega
    (repeat refine .z rfl ?_);refine .ifF (by simp (disch:=first|exact dsc|fail) only [go_sem,seval,d1]) ?_
    (repeat refine .z rfl ?_);refine .text ?_;simp (disch:=first|exact dsc|fail) only [go_sem,seval,hl1,hne,hmod]
    (repeat refine .z rfl ?_);refine .text ?_;simp (disch:=first|exact dsc|fail) only [go_sem,seval]
    generalize AB.cells [AV.p (i64 c.inputs),AV.p (PV.sl false 1 (pl (sle 6 gate) c.layers)),AV.p (i64 c.sums),AV.p (PV.sl false 1 (pl (sle 1 w64) cols)),AV.p (b8 lg)]=y
    (repeat refine .z rfl ?_);refine .cut (fun env' B=>env' 2 = .p (w16 bits)∧env' 7 = .p (bo true)∧env' 8 = .ptr (H.n+1) 0∧env' 10 = .p (i64 k)∧env' 11 = .p (i64 (nth m.layers k).length) ∧ ∃ a b,env' 12 = .ptr b 0∧RD H m a b B) (fun ih => ?_) ?_
    repeat refine .z rfl ?_
    refine .openW (fun L env' H'=>env' 2 = .p (w16 bits)∧env' 7 = .p (bo true)∧env' 8 = .ptr (H.n+1) 0∧env' 10 = .p (i64 k)∧env' 11 = .p (i64 (nth m.layers k).length)∧(L 0=true → env' 40 = .ptr (H.n+1) 0)∧(L 1=true → env' 41 = .p (i64 m.inputs))∧(L 2=true → env' 42 = .ptr (H.n+1) 2)∧(L 3=true → env' 43 = .p (i64 m.sums))∧(L 4=true → L 7=false → env' 44 = .p (.sl true 1 []))∧(L 5=true → env' 45 = .ptr (H.n+1) 1)∧(L 6=true → env' 46 = .p (.sl false 1 (pl (sle 6 gate) m.layers)))∧(L 7=true → L 4=true∧L 6=true)∧(L 8=true → L 1=true∧L 3=true∧L 7=true)∧(L 10=true → L 8=true∧L 9=true)∧ST m H y (L 7) (L 8) (L 9) (L 10) (env' 12) (env' 47) (env' 48) H') follows (by kernel_rfl) ?_ ?_ ?_
    · exact ⟨(by simp (disch:=first|exact dsc|fail) only [go_sem,seval]),(by simp (disch:=first|exact dsc|fail) only [go_sem,seval]),(by simp (disch:=first|exact dsc|fail) only [go_sem,seval]),(by simp (disch:=first|exact dsc|fail) only [go_sem,seval]),(by simp (disch:=first|exact dsc|fail) only [go_sem,seval]),(fun h=>by cases h),(fun h=>by cases h),(fun h=>by cases h),(fun h=>by cases h),(fun h=>by cases h),(fun h=>by cases h),(fun h=>by cases h),(fun h=>by cases h),(fun h=>by cases h),(fun h=>by cases h),.s0 _ _ _⟩
    · intro i o L env' H' ho hL hall hI
      obtain ⟨f0,f1,f2,f3,f4,g0,g1,g2,g3,g4,g5,g6,m7,m8,m10,st⟩:=hI
      have hM:=st.fm
      rcases i with _ | _ | _ | _ | _ | _ | _ | _ | _ | _ | _ | i
      · cases ho
        refine opW.of (opA_val (.ptr (H.n+1) 0) rfl rfl (by simp (disch:=first|exact dsc|fail) only [go_sem,seval,f0,f1,f2,f3,f4,hM]<;>rfl) rfl ?_)
        exact ⟨(by (try simp (disch:=first|exact dsc|fail) only [go_sem,seval]);exact f0),(by (try simp (disch:=first|exact dsc|fail) only [go_sem,seval]);exact f1),(by (try simp (disch:=first|exact dsc|fail) only [go_sem,seval]);exact f2),(by (try simp (disch:=first|exact dsc|fail) only [go_sem,seval]);exact f3),(by (try simp (disch:=first|exact dsc|fail) only [go_sem,seval]);exact f4),(fun _=>by simp (disch:=first|exact dsc|fail) only [go_sem,seval]),(fun q=>by (rw [more_ne (by decide)] at q);(try simp (disch:=first|exact dsc|fail) only [go_sem,seval]);exact g1 q),(fun q=>by (rw [more_ne (by decide)] at q);(try simp (disch:=first|exact dsc|fail) only [go_sem,seval]);exact g2 q),(fun q=>by (rw [more_ne (by decide)] at q);(try simp (disch:=first|exact dsc|fail) only [go_sem,seval]);exact g3 q),(fun q q2=>by (rw [more_ne (by decide)] at q q2);(try simp (disch:=first|exact dsc|fail) only [go_sem,seval]);exact g4 q q2),(fun q=>by (rw [more_ne (by decide)] at q);(try simp (disch:=first|exact dsc|fail) only [go_sem,seval]);exact g5 q),(fun q=>by (rw [more_ne (by decide)] at q);(try simp (disch:=first|exact dsc|fail) only [go_sem,seval]);exact g6 q),(fun q=>by (rw [more_ne (by decide)] at q);have:=m7 q;exact ⟨more_t this.1,more_t this.2⟩),(fun q=>by (rw [more_ne (by decide)] at q);have:=m8 q;exact ⟨more_t this.1,more_t this.2.1,more_t this.2.2⟩),(fun q=>by (rw [more_ne (by decide)] at q);have:=m10 q;exact ⟨more_t this.1,more_t this.2⟩),(by rw [more_ne (by decide),more_ne (by decide),more_ne (by decide),more_ne (by decide)];simp (disch:=first|exact dsc|fail) only [go_sem,seval];exact st)⟩
      · cases ho
        have h0:L 0=true:=hall ⟨0,.data⟩ (by simp) rfl
        have n8:L 8=false:=Bool.eq_false_iff.2 fun e=>by (have:=m8 e;simp [hL] at this)
        refine opW.of (opA_val (.p (i64 m.inputs)) rfl rfl (by simp (disch:=first|exact dsc|fail) only [go_sem,seval,f0,f1,f2,f3,f4,g0 h0,hM]<;>rfl) rfl ?_)
        exact ⟨(by (try simp (disch:=first|exact dsc|fail) only [go_sem,seval]);exact f0),(by (try simp (disch:=first|exact dsc|fail) only [go_sem,seval]);exact f1),(by (try simp (disch:=first|exact dsc|fail) only [go_sem,seval]);exact f2),(by (try simp (disch:=first|exact dsc|fail) only [go_sem,seval]);exact f3),(by (try simp (disch:=first|exact dsc|fail) only [go_sem,seval]);exact f4),(fun q=>by (rw [more_ne (by decide)] at q);(try simp (disch:=first|exact dsc|fail) only [go_sem,seval]);exact g0 q),(fun _=>by simp (disch:=first|exact dsc|fail) only [go_sem,seval]),(fun q=>by (rw [more_ne (by decide)] at q);(try simp (disch:=first|exact dsc|fail) only [go_sem,seval]);exact g2 q),(fun q=>by (rw [more_ne (by decide)] at q);(try simp (disch:=first|exact dsc|fail) only [go_sem,seval]);exact g3 q),(fun q q2=>by (rw [more_ne (by decide)] at q q2);(try simp (disch:=first|exact dsc|fail) only [go_sem,seval]);exact g4 q q2),(fun q=>by (rw [more_ne (by decide)] at q);(try simp (disch:=first|exact dsc|fail) only [go_sem,seval]);exact g5 q),(fun q=>by (rw [more_ne (by decide)] at q);(try simp (disch:=first|exact dsc|fail) only [go_sem,seval]);exact g6 q),(fun q=>by (rw [more_ne (by decide)] at q);have:=m7 q;exact ⟨more_t this.1,more_t this.2⟩),(fun q=>by (rw [more_ne (by decide)] at q);have:=m8 q;exact ⟨more_t this.1,more_t this.2.1,more_t this.2.2⟩),(fun q=>by (rw [more_ne (by decide)] at q);have:=m10 q;exact ⟨more_t this.1,more_t this.2⟩),(by rw [more_ne (by decide),more_ne (by decide),more_ne (by decide),more_ne (by decide)];simp (disch:=first|exact dsc|fail) only [go_sem,seval];exact st)⟩
      · cases ho
        refine opW.of (opA_val (.ptr (H.n+1) 2) rfl rfl (by simp (disch:=first|exact dsc|fail) only [go_sem,seval,f0,f1,f2,f3,f4,hM]<;>rfl) rfl ?_)
        exact ⟨(by (try simp (disch:=first|exact dsc|fail) only [go_sem,seval]);exact f0),(by (try simp (disch:=first|exact dsc|fail) only [go_sem,seval]);exact f1),(by (try simp (disch:=first|exact dsc|fail) only [go_sem,seval]);exact f2),(by (try simp (disch:=first|exact dsc|fail) only [go_sem,seval]);exact f3),(by (try simp (disch:=first|exact dsc|fail) only [go_sem,seval]);exact f4),(fun q=>by (rw [more_ne (by decide)] at q);(try simp (disch:=first|exact dsc|fail) only [go_sem,seval]);exact g0 q),(fun q=>by (rw [more_ne (by decide)] at q);(try simp (disch:=first|exact dsc|fail) only [go_sem,seval]);exact g1 q),(fun _=>by simp (disch:=first|exact dsc|fail) only [go_sem,seval]),(fun q=>by (rw [more_ne (by decide)] at q);(try simp (disch:=first|exact dsc|fail) only [go_sem,seval]);exact g3 q),(fun q q2=>by (rw [more_ne (by decide)] at q q2);(try simp (disch:=first|exact dsc|fail) only [go_sem,seval]);exact g4 q q2),(fun q=>by (rw [more_ne (by decide)] at q);(try simp (disch:=first|exact dsc|fail) only [go_sem,seval]);exact g5 q),(fun q=>by (rw [more_ne (by decide)] at q);(try simp (disch:=first|exact dsc|fail) only [go_sem,seval]);exact g6 q),(fun q=>by (rw [more_ne (by decide)] at q);have:=m7 q;exact ⟨more_t this.1,more_t this.2⟩),(fun q=>by (rw [more_ne (by decide)] at q);have:=m8 q;exact ⟨more_t this.1,more_t this.2.1,more_t this.2.2⟩),(fun q=>by (rw [more_ne (by decide)] at q);have:=m10 q;exact ⟨more_t this.1,more_t this.2⟩),(by rw [more_ne (by decide),more_ne (by decide),more_ne (by decide),more_ne (by decide)];simp (disch:=first|exact dsc|fail) only [go_sem,seval];exact st)⟩
      · cases ho
        have h2:L 2=true:=hall ⟨2,.data⟩ (by simp) rfl
        have n8:L 8=false:=Bool.eq_false_iff.2 fun e=>by (have:=m8 e;simp [hL] at this)
        refine opW.of (opA_val (.p (i64 m.sums)) rfl rfl (by simp (disch:=first|exact dsc|fail) only [go_sem,seval,f0,f1,f2,f3,f4,g2 h2,hM]<;>rfl) rfl ?_)
        exact ⟨(by (try simp (disch:=first|exact dsc|fail) only [go_sem,seval]);exact f0),(by (try simp (disch:=first|exact dsc|fail) only [go_sem,seval]);exact f1),(by (try simp (disch:=first|exact dsc|fail) only [go_sem,seval]);exact f2),(by (try simp (disch:=first|exact dsc|fail) only [go_sem,seval]);exact f3),(by (try simp (disch:=first|exact dsc|fail) only [go_sem,seval]);exact f4),(fun q=>by (rw [more_ne (by decide)] at q);(try simp (disch:=first|exact dsc|fail) only [go_sem,seval]);exact g0 q),(fun q=>by (rw [more_ne (by decide)] at q);(try simp (disch:=first|exact dsc|fail) only [go_sem,seval]);exact g1 q),(fun q=>by (rw [more_ne (by decide)] at q);(try simp (disch:=first|exact dsc|fail) only [go_sem,seval]);exact g2 q),(fun _=>by simp (disch:=first|exact dsc|fail) only [go_sem,seval]),(fun q q2=>by (rw [more_ne (by decide)] at q q2);(try simp (disch:=first|exact dsc|fail) only [go_sem,seval]);exact g4 q q2),(fun q=>by (rw [more_ne (by decide)] at q);(try simp (disch:=first|exact dsc|fail) only [go_sem,seval]);exact g5 q),(fun q=>by (rw [more_ne (by decide)] at q);(try simp (disch:=first|exact dsc|fail) only [go_sem,seval]);exact g6 q),(fun q=>by (rw [more_ne (by decide)] at q);have:=m7 q;exact ⟨more_t this.1,more_t this.2⟩),(fun q=>by (rw [more_ne (by decide)] at q);have:=m8 q;exact ⟨more_t this.1,more_t this.2.1,more_t this.2.2⟩),(fun q=>by (rw [more_ne (by decide)] at q);have:=m10 q;exact ⟨more_t this.1,more_t this.2⟩),(by rw [more_ne (by decide),more_ne (by decide),more_ne (by decide),more_ne (by decide)];simp (disch:=first|exact dsc|fail) only [go_sem,seval];exact st)⟩
      · cases ho
        have n7:L 7=false:=Bool.eq_false_iff.2 fun e=>by (have:=m7 e;simp [hL] at this)
        refine opW.of (opA_val (.p (.sl true 1 [])) rfl rfl (by simp (disch:=first|exact dsc|fail) only [go_sem,seval,f0,f1,f2,f3,f4,hM]<;>rfl) rfl ?_)
        exact ⟨(by (try simp (disch:=first|exact dsc|fail) only [go_sem,seval]);exact f0),(by (try simp (disch:=first|exact dsc|fail) only [go_sem,seval]);exact f1),(by (try simp (disch:=first|exact dsc|fail) only [go_sem,seval]);exact f2),(by (try simp (disch:=first|exact dsc|fail) only [go_sem,seval]);exact f3),(by (try simp (disch:=first|exact dsc|fail) only [go_sem,seval]);exact f4),(fun q=>by (rw [more_ne (by decide)] at q);(try simp (disch:=first|exact dsc|fail) only [go_sem,seval]);exact g0 q),(fun q=>by (rw [more_ne (by decide)] at q);(try simp (disch:=first|exact dsc|fail) only [go_sem,seval]);exact g1 q),(fun q=>by (rw [more_ne (by decide)] at q);(try simp (disch:=first|exact dsc|fail) only [go_sem,seval]);exact g2 q),(fun q=>by (rw [more_ne (by decide)] at q);(try simp (disch:=first|exact dsc|fail) only [go_sem,seval]);exact g3 q),(fun _ _=>by simp (disch:=first|exact dsc|fail) only [go_sem,seval]),(fun q=>by (rw [more_ne (by decide)] at q);(try simp (disch:=first|exact dsc|fail) only [go_sem,seval]);exact g5 q),(fun q=>by (rw [more_ne (by decide)] at q);(try simp (disch:=first|exact dsc|fail) only [go_sem,seval]);exact g6 q),(fun q=>by (rw [more_ne (by decide)] at q);have:=m7 q;exact ⟨more_t this.1,more_t this.2⟩),(fun q=>by (rw [more_ne (by decide)] at q);have:=m8 q;exact ⟨more_t this.1,more_t this.2.1,more_t this.2.2⟩),(fun q=>by (rw [more_ne (by decide)] at q);have:=m10 q;exact ⟨more_t this.1,more_t this.2⟩),(by rw [more_ne (by decide),more_ne (by decide),more_ne (by decide),more_ne (by decide)];simp (disch:=first|exact dsc|fail) only [go_sem,seval];exact st)⟩
      · cases ho
        refine opW.of (opA_val (.ptr (H.n+1) 1) rfl rfl (by simp (disch:=first|exact dsc|fail) only [go_sem,seval,f0,f1,f2,f3,f4,hM]<;>rfl) rfl ?_)
        exact ⟨(by (try simp (disch:=first|exact dsc|fail) only [go_sem,seval]);exact f0),(by (try simp (disch:=first|exact dsc|fail) only [go_sem,seval]);exact f1),(by (try simp (disch:=first|exact dsc|fail) only [go_sem,seval]);exact f2),(by (try simp (disch:=first|exact dsc|fail) only [go_sem,seval]);exact f3),(by (try simp (disch:=first|exact dsc|fail) only [go_sem,seval]);exact f4),(fun q=>by (rw [more_ne (by decide)] at q);(try simp (disch:=first|exact dsc|fail) only [go_sem,seval]);exact g0 q),(fun q=>by (rw [more_ne (by decide)] at q);(try simp (disch:=first|exact dsc|fail) only [go_sem,seval]);exact g1 q),(fun q=>by (rw [more_ne (by decide)] at q);(try simp (disch:=first|exact dsc|fail) only [go_sem,seval]);exact g2 q),(fun q=>by (rw [more_ne (by decide)] at q);(try simp (disch:=first|exact dsc|fail) only [go_sem,seval]);exact g3 q),(fun q q2=>by (rw [more_ne (by decide)] at q q2);(try simp (disch:=first|exact dsc|fail) only [go_sem,seval]);exact g4 q q2),(fun _=>by simp (disch:=first|exact dsc|fail) only [go_sem,seval]),(fun q=>by (rw [more_ne (by decide)] at q);(try simp (disch:=first|exact dsc|fail) only [go_sem,seval]);exact g6 q),(fun q=>by (rw [more_ne (by decide)] at q);have:=m7 q;exact ⟨more_t this.1,more_t this.2⟩),(fun q=>by (rw [more_ne (by decide)] at q);have:=m8 q;exact ⟨more_t this.1,more_t this.2.1,more_t this.2.2⟩),(fun q=>by (rw [more_ne (by decide)] at q);have:=m10 q;exact ⟨more_t this.1,more_t this.2⟩),(by rw [more_ne (by decide),more_ne (by decide),more_ne (by decide),more_ne (by decide)];simp (disch:=first|exact dsc|fail) only [go_sem,seval];exact st)⟩
      · cases ho
        have h5:L 5=true:=hall ⟨5,.data⟩ (by simp) rfl
        have n7:L 7=false:=Bool.eq_false_iff.2 fun e=>by (have:=m7 e;simp [hL] at this)
        refine opW.of (opA_val (.p (.sl false 1 (pl (sle 6 gate) m.layers))) rfl rfl (by simp (disch:=first|exact dsc|fail) only [go_sem,seval,f0,f1,f2,f3,f4,g5 h5,hM]<;>rfl) rfl ?_)
        exact ⟨(by (try simp (disch:=first|exact dsc|fail) only [go_sem,seval]);exact f0),(by (try simp (disch:=first|exact dsc|fail) only [go_sem,seval]);exact f1),(by (try simp (disch:=first|exact dsc|fail) only [go_sem,seval]);exact f2),(by (try simp (disch:=first|exact dsc|fail) only [go_sem,seval]);exact f3),(by (try simp (disch:=first|exact dsc|fail) only [go_sem,seval]);exact f4),(fun q=>by (rw [more_ne (by decide)] at q);(try simp (disch:=first|exact dsc|fail) only [go_sem,seval]);exact g0 q),(fun q=>by (rw [more_ne (by decide)] at q);(try simp (disch:=first|exact dsc|fail) only [go_sem,seval]);exact g1 q),(fun q=>by (rw [more_ne (by decide)] at q);(try simp (disch:=first|exact dsc|fail) only [go_sem,seval]);exact g2 q),(fun q=>by (rw [more_ne (by decide)] at q);(try simp (disch:=first|exact dsc|fail) only [go_sem,seval]);exact g3 q),(fun q q2=>by (rw [more_ne (by decide)] at q q2);(try simp (disch:=first|exact dsc|fail) only [go_sem,seval]);exact g4 q q2),(fun q=>by (rw [more_ne (by decide)] at q);(try simp (disch:=first|exact dsc|fail) only [go_sem,seval]);exact g5 q),(fun _=>by simp (disch:=first|exact dsc|fail) only [go_sem,seval]),(fun q=>by (rw [more_ne (by decide)] at q);have:=m7 q;exact ⟨more_t this.1,more_t this.2⟩),(fun q=>by (rw [more_ne (by decide)] at q);have:=m8 q;exact ⟨more_t this.1,more_t this.2.1,more_t this.2.2⟩),(fun q=>by (rw [more_ne (by decide)] at q);have:=m10 q;exact ⟨more_t this.1,more_t this.2⟩),(by rw [more_ne (by decide),more_ne (by decide),more_ne (by decide),more_ne (by decide)];simp (disch:=first|exact dsc|fail) only [go_sem,seval];exact st)⟩
      · cases ho
        have h4:L 4=true:=hall ⟨4,.data⟩ (by simp) rfl
        have h6:L 6=true:=hall ⟨6,.data⟩ (by simp) rfl
        have n8:L 8=false:=Bool.eq_false_iff.2 fun e=>by (have:=m8 e;simp [hL] at this)
        have n10:L 10=false:=Bool.eq_false_iff.2 fun e=>by (have:=m8 (m10 e).1;simp [hL] at this)
        refine opW.vec 44 rfl rfl (g4 h4 hL) (aOp1_val (.vr H'.n m.layers.length 1) (by simp (disch:=first|exact dsc|fail) only [go_sem,seval,f0,f1,f2,f3,f4,g6 h6,g4 h4 hL,hM]<;>rfl) rfl ?_)
        exact ⟨(by (try simp (disch:=first|exact dsc|fail) only [go_sem,seval]);exact f0),(by (try simp (disch:=first|exact dsc|fail) only [go_sem,seval]);exact f1),(by (try simp (disch:=first|exact dsc|fail) only [go_sem,seval]);exact f2),(by (try simp (disch:=first|exact dsc|fail) only [go_sem,seval]);exact f3),(by (try simp (disch:=first|exact dsc|fail) only [go_sem,seval]);exact f4),(fun q=>by (rw [more_ne (by decide)] at q);(try simp (disch:=first|exact dsc|fail) only [go_sem,seval]);exact g0 q),(fun q=>by (rw [more_ne (by decide)] at q);(try simp (disch:=first|exact dsc|fail) only [go_sem,seval]);exact g1 q),(fun q=>by (rw [more_ne (by decide)] at q);(try simp (disch:=first|exact dsc|fail) only [go_sem,seval]);exact g2 q),(fun q=>by (rw [more_ne (by decide)] at q);(try simp (disch:=first|exact dsc|fail) only [go_sem,seval]);exact g3 q),(fun _ q=>by rw [more_eq] at q;cases q),(fun q=>by (rw [more_ne (by decide)] at q);(try simp (disch:=first|exact dsc|fail) only [go_sem,seval]);exact g5 q),(fun q=>by (rw [more_ne (by decide)] at q);(try simp (disch:=first|exact dsc|fail) only [go_sem,seval]);exact g6 q),(fun _=>⟨more_t h4,more_t h6⟩),(fun q=>by (rw [more_ne (by decide)] at q);have:=m8 q;exact ⟨more_t this.1,more_t this.2.1,more_t this.2.2⟩),(fun q=>by (rw [more_ne (by decide)] at q);have:=m10 q;exact ⟨more_t this.1,more_t this.2⟩),(by rw [more_eq,more_ne (by decide),more_ne (by decide),more_ne (by decide)];rw [hL,n8,n10] at st;rw [n8,n10];simp (disch:=first|exact dsc|fail) only [go_sem,seval];exact st.op7)⟩
      · cases ho
        have h1:L 1=true:=hall ⟨1,.data⟩ (by simp) rfl
        have h3:L 3=true:=hall ⟨3,.data⟩ (by simp) rfl
        have h7:L 7=true:=hall ⟨7,.data⟩ (by simp) rfl
        have n10:L 10=false:=Bool.eq_false_iff.2 fun e=>by (have:=m10 e;simp [hL] at this)
        obtain ⟨a,ha⟩:=st.e47 h7
        refine opW.of (opA_val (.agg [.p (i64 m.inputs),.vr a m.layers.length 1,.p (i64 m.sums)]) rfl rfl (by simp (disch:=first|exact dsc|fail) only [go_sem,seval,f0,f1,f2,f3,f4,g1 h1,g3 h3,hM,ha]<;>rfl) rfl ?_)
        exact ⟨(by (try simp (disch:=first|exact dsc|fail) only [go_sem,seval]);exact f0),(by (try simp (disch:=first|exact dsc|fail) only [go_sem,seval]);exact f1),(by (try simp (disch:=first|exact dsc|fail) only [go_sem,seval]);exact f2),(by (try simp (disch:=first|exact dsc|fail) only [go_sem,seval]);exact f3),(by (try simp (disch:=first|exact dsc|fail) only [go_sem,seval]);exact f4),(fun q=>by (rw [more_ne (by decide)] at q);(try simp (disch:=first|exact dsc|fail) only [go_sem,seval]);exact g0 q),(fun q=>by (rw [more_ne (by decide)] at q);(try simp (disch:=first|exact dsc|fail) only [go_sem,seval]);exact g1 q),(fun q=>by (rw [more_ne (by decide)] at q);(try simp (disch:=first|exact dsc|fail) only [go_sem,seval]);exact g2 q),(fun q=>by (rw [more_ne (by decide)] at q);(try simp (disch:=first|exact dsc|fail) only [go_sem,seval]);exact g3 q),(fun q q2=>by (rw [more_ne (by decide)] at q q2);(try simp (disch:=first|exact dsc|fail) only [go_sem,seval]);exact g4 q q2),(fun q=>by (rw [more_ne (by decide)] at q);(try simp (disch:=first|exact dsc|fail) only [go_sem,seval]);exact g5 q),(fun q=>by (rw [more_ne (by decide)] at q);(try simp (disch:=first|exact dsc|fail) only [go_sem,seval]);exact g6 q),(fun q=>by (rw [more_ne (by decide)] at q);have:=m7 q;exact ⟨more_t this.1,more_t this.2⟩),(fun _=>⟨more_t h1,more_t h3,more_t h7⟩),(fun q=>by (rw [more_ne (by decide)] at q);have:=m10 q;exact ⟨more_t this.1,more_t this.2⟩),(by rw [more_ne (by decide),more_eq,more_ne (by decide),more_ne (by decide)];rw [hL,n10,h7] at st;rw [n10,h7];simp (disch:=first|exact dsc|fail) only [go_sem,seval];exact st.op8 ha)⟩
      · cases ho
        have n10:L 10=false:=Bool.eq_false_iff.2 fun e=>by (have:=m10 e;simp [hL] at this)
        refine opW.of (opA_valH (.ptr H'.n 0) rfl rfl (by simp (disch:=first|exact dsc|fail) only [go_sem,seval]<;>rfl) rfl ?_)
        exact ⟨(by (try simp (disch:=first|exact dsc|fail) only [go_sem,seval]);exact f0),(by (try simp (disch:=first|exact dsc|fail) only [go_sem,seval]);exact f1),(by (try simp (disch:=first|exact dsc|fail) only [go_sem,seval]);exact f2),(by (try simp (disch:=first|exact dsc|fail) only [go_sem,seval]);exact f3),(by (try simp (disch:=first|exact dsc|fail) only [go_sem,seval]);exact f4),(fun q=>by (rw [more_ne (by decide)] at q);(try simp (disch:=first|exact dsc|fail) only [go_sem,seval]);exact g0 q),(fun q=>by (rw [more_ne (by decide)] at q);(try simp (disch:=first|exact dsc|fail) only [go_sem,seval]);exact g1 q),(fun q=>by (rw [more_ne (by decide)] at q);(try simp (disch:=first|exact dsc|fail) only [go_sem,seval]);exact g2 q),(fun q=>by (rw [more_ne (by decide)] at q);(try simp (disch:=first|exact dsc|fail) only [go_sem,seval]);exact g3 q),(fun q q2=>by (rw [more_ne (by decide)] at q q2);(try simp (disch:=first|exact dsc|fail) only [go_sem,seval]);exact g4 q q2),(fun q=>by (rw [more_ne (by decide)] at q);(try simp (disch:=first|exact dsc|fail) only [go_sem,seval]);exact g5 q),(fun q=>by (rw [more_ne (by decide)] at q);(try simp (disch:=first|exact dsc|fail) only [go_sem,seval]);exact g6 q),(fun q=>by (rw [more_ne (by decide)] at q);have:=m7 q;exact ⟨more_t this.1,more_t this.2⟩),(fun q=>by (rw [more_ne (by decide)] at q);have:=m8 q;exact ⟨more_t this.1,more_t this.2.1,more_t this.2.2⟩),(fun q=>by (rw [more_ne (by decide)] at q);have:=m10 q;exact ⟨more_t this.1,more_t this.2⟩),(by rw [more_ne (by decide),more_ne (by decide),more_eq,more_ne (by decide)];rw [hL,n10] at st;rw [n10];simp (disch:=first|exact dsc|fail) only [go_sem,seval];exact st.op9)⟩
      · cases ho
        have h0:L 0=true:=hall ⟨0,.phase⟩ (by simp) rfl
        have h1:L 1=true:=hall ⟨1,.phase⟩ (by simp) rfl
        have h2:L 2=true:=hall ⟨2,.phase⟩ (by simp) rfl
        have h3:L 3=true:=hall ⟨3,.phase⟩ (by simp) rfl
        have h4:L 4=true:=hall ⟨4,.phase⟩ (by simp) rfl
        have h5:L 5=true:=hall ⟨5,.phase⟩ (by simp) rfl
        have h6:L 6=true:=hall ⟨6,.phase⟩ (by simp) rfl
        have h7:L 7=true:=hall ⟨7,.phase⟩ (by simp) rfl
        have h8:L 8=true:=hall ⟨8,.phase⟩ (by simp) rfl
        have h9:L 9=true:=hall ⟨9,.phase⟩ (by simp) rfl
        rw [hL,h7,h8,h9] at st
        obtain ⟨a,b,e12,e48,hb,hop⟩:=st.op10
        refine opW.of (opA_unit rfl rfl (by simp (disch:=first|exact dsc|fail) only [go_sem,seval,f0,e12,e48,hb]<;>rfl) rfl ?_)
        exact ⟨(by (try simp (disch:=first|exact dsc|fail) only [go_sem,seval]);exact f0),(by (try simp (disch:=first|exact dsc|fail) only [go_sem,seval]);exact f1),(by (try simp (disch:=first|exact dsc|fail) only [go_sem,seval]);exact f2),(by (try simp (disch:=first|exact dsc|fail) only [go_sem,seval]);exact f3),(by (try simp (disch:=first|exact dsc|fail) only [go_sem,seval]);exact f4),(fun q=>by (rw [more_ne (by decide)] at q);(try simp (disch:=first|exact dsc|fail) only [go_sem,seval]);exact g0 q),(fun q=>by (rw [more_ne (by decide)] at q);(try simp (disch:=first|exact dsc|fail) only [go_sem,seval]);exact g1 q),(fun q=>by (rw [more_ne (by decide)] at q);(try simp (disch:=first|exact dsc|fail) only [go_sem,seval]);exact g2 q),(fun q=>by (rw [more_ne (by decide)] at q);(try simp (disch:=first|exact dsc|fail) only [go_sem,seval]);exact g3 q),(fun q q2=>by (rw [more_ne (by decide)] at q q2);(try simp (disch:=first|exact dsc|fail) only [go_sem,seval]);exact g4 q q2),(fun q=>by (rw [more_ne (by decide)] at q);(try simp (disch:=first|exact dsc|fail) only [go_sem,seval]);exact g5 q),(fun q=>by (rw [more_ne (by decide)] at q);(try simp (disch:=first|exact dsc|fail) only [go_sem,seval]);exact g6 q),(fun q=>by (rw [more_ne (by decide)] at q);have:=m7 q;exact ⟨more_t this.1,more_t this.2⟩),(fun q=>by (rw [more_ne (by decide)] at q);have:=m8 q;exact ⟨more_t this.1,more_t this.2.1,more_t this.2.2⟩),(fun _=>⟨more_t h8,more_t h9⟩),(by rw [more_ne (by decide),more_ne (by decide),more_ne (by decide),more_eq,h7,h8,h9];exact hop)⟩
      · simp at ho
    · intro L env' H' hall hI
      obtain ⟨f0,f1,f2,f3,f4,_,_,_,_,_,_,_,_,_,_,st⟩:=hI
      rw [hall 7 (by decide),hall 8 (by decide),hall 9 (by decide),hall 10 (by decide)] at st
      exact ih _ _ ⟨f0,f1,f2,f3,f4,st.fin hbel⟩
    intro env B ⟨e2,e7,e8,e10,e11,a,b,e12,hB⟩
    obtain ⟨hBn,hB1,hBa,hBb,⟨ha1,ha2⟩,⟨hb1,hb2⟩,hab,hBbel,hBtr⟩:=hB
    have hmr:=hv.ok.row k (by omega)
    have hmr1:=hv.ok.row (k+1) (by omega)
    (repeat refine .z rfl ?_);refine .text ?_;simp (disch:=first|exact dsc|fail) only [go_sem,seval,e8,hB1,e10]
    (repeat refine .z rfl ?_);refine .text ?_;simp (disch:=first|exact dsc|fail) only [go_sem,seval,e8,hB1,e10]
    (repeat refine .z rfl ?_);refine .weak 13 (by simp (disch:=first|exact dsc|fail) only [go_sem,seval];rfl) (by simp (disch:=first|exact dsc|fail) only [go_sem,seval,AV.weak,PV.weak];rfl) ?_;(try simp (disch:=first|exact dsc|fail) only [go_sem,seval])
    have hBal:a < B.n:=by omega
    (repeat refine .z rfl ?_);refine .text ?_;simp (disch:=first|exact dsc|fail) only [go_sem,seval,e8,e12,hBb,hBa,e10]
    (repeat refine .z rfl ?_);refine .region ?_
    refine .one rfl (by simp (disch:=first|exact dsc|fail) only [go_sem,seval]<;>rfl) rfl ?_
    refine .vec 68 (by simp (disch:=first|exact dsc|fail) only [go_sem,seval]<;>rfl) ?_
    refine .run ?_
    simp (disch:=first|exact dsc|fail) only [go_sem,seval,e8,hB1,e10]
    (repeat refine .z rfl ?_);refine .text ?_;simp (disch:=first|exact dsc|fail) only [go_sem,seval]
    have hn64:=hv.row k (by omega)
    have hgt:=fun i hi=>hv.ok.gt (k:=k+1) (i:=i) (by omega) hi
    have hD:=Doubled.share hv.ok (doub_dbl (c:=m) (k:=k) (bits:=bits) (by omega))
    have hDo:=doub_ok hv (k:=k) (bits:=bits) (by omega)
    unfold doub at hD hDo
    rw [←mvTo_all] at hD hDo
    have hdlen:((m.layers.set k (nth m.layers k++nth m.layers k)).length)=m.layers.length:=List.length_set
    have hdq:(m.layers.set k (nth m.layers k++nth m.layers k)).set (k+1) (mvTo (mvG bits (nth m.layers k).length) (nth m.layers (k+1)) (nth m.layers (k+1)).length)=(m.layers.set k (nth m.layers k++nth m.layers k)).set (k+1) (mvTo (mvG bits (nth m.layers k).length) (nth m.layers (k+1)) (nth m.layers (k+1)).length):=rfl
    generalize hn:(nth m.layers k).length=n at *
    generalize hL:nth m.layers (k+1)=L at *
    generalize (m.layers.set k (nth m.layers k++nth m.layers k))=D at *
    repeat refine .z rfl ?_
    refine .count (fun i env H'=>env 2 = .p (w16 bits)∧env 7 = .p (bo true)∧env 8 = .ptr (H.n+1) 0∧env 10 = .p (i64 k)∧env 11 = .p (i64 n)∧env 12 = .ptr b 0∧env 14 = .vr (B.n+1) L.length 6∧env 15 = .p (i64 i)∧H'=((B.set a (.vec (cl (sle 6 gate) D))).new (.tail 1)).new (.vec (gcs (mvTo (mvG bits n) L i)))) 0 L.length (by omega) ?_ ?_ ?_
    · simp (disch:=first|exact dsc|fail) only [go_sem,seval,e2,e7,e8,e10,e11,e12]
      rw [mvTo_zero]
      rfl
    · intro env H' ⟨e2,e7,e8,e10,e11,e12,e14,e15,eH⟩
      subst eH
      have hml2:(mvTo (mvG bits n) L L.length).length=L.length:=mvTo_len
      generalize hk1e:k+1=k1 at hD hDo hL hgt
      have hk1:(k:Int)+1=(k1:Int):=by omega
      generalize mvTo (mvG bits n) L L.length=M at *
      (repeat refine .z rfl ?_);refine .text ?_;simp (disch:=first|exact dsc|fail) only [go_sem,seval,e14,e15]
      (repeat refine .z rfl ?_);refine .ifF (by simp (disch:=first|exact dsc|fail) only [go_sem,seval]) ?_
      (repeat refine .z rfl ?_);refine .frzV 14 (by simp (disch:=first|exact dsc|fail) only [go_sem,seval,e14];rfl) (by simp (disch:=first|exact dsc|fail) only [go_sem,seval,e14]<;>rfl) (xs:=pl gate M) rfl (by rw [pl_len,hml2]) gate_len ?_;(try simp (disch:=first|exact dsc|fail) only [go_sem,seval,e14])
      (repeat refine .z rfl ?_);refine .text ?_;simp (disch:=first|exact dsc|fail) only [go_sem,seval,e10,e12,hBb,hk1,hdlen]
      have hdl2:(D.set k1 M).length=m.layers.length:=by rw [List.length_set,hdlen]
      generalize D.set k1 M=D2 at hD hDo hdl2 ⊢
      repeat refine .z rfl ?_
      refine .frzCell b 1 a (x := .vr a m.layers.length 1) (y := .p (.sl false 1 (pl (sle 6 gate) D2))) (by simp (disch:=first|exact dsc|fail) only [go_sem,seval,hBb]<;>rfl) rfl (Ne.symm hab) (fun σ w val hr hs=>vr_plain hr (xs:=pl (sle 6 gate) D2) (cs:=cl (sle 6 gate) D2) (by simp (disch:=first|exact dsc|fail) only [go_sem,seval]<;>rfl) (by rw [flat_sle,pl_p]) (by rw [pl_len,hdl2]) (fun x hx=>by simp only [pl,List.mem_map] at hx;obtain ⟨y,_,rfl⟩:=hx;rfl) hs) ?_
      simp (disch:=first|exact dsc|fail) only [go_sem,seval]
      have q4 : ∀ x:Circ,decide (x=x)=true:=fun x=>decide_eq_true rfl
      have hcirc : ∀ d:Circ,(PV.agg [i64 d.inputs,.sl false 1 (pl (sle 6 gate) d.layers),i64 d.sums])=circ d:=fun d=>rfl
      have hcD:(PV.agg [i64 m.inputs,.sl false 1 (pl (sle 6 gate) D2),i64 m.sums])=circ ⟨m.inputs,D2,m.sums⟩:=rfl
      have hcm:=hcirc m
      have hShare:=hv.ok.share
      (repeat refine .z rfl ?_);refine .open [] follows (by kernel_rfl) ?_;simp (disch:=first|exact dsc|fail) only [go_sem,seval,e7,e8,e12,hB1,hcD,hcm]
      refine CallD.still (fun R h=>optimize_Share_spec _ hDo _ R h) ?_;simp (disch:=first|exact dsc|fail) only [go_sem,seval]
      rw [hD]
      refine CallD.still (fun R h=>optimize_Dead_spec _ hShare _ R h) ?_;simp (disch:=first|exact dsc|fail) only [go_sem,seval,e8,hB1,hcm]
      refine CallD.still (fun R h=>optimize_Share_spec _ hv.ok _ R h) ?_;simp (disch:=first|exact dsc|fail) only [go_sem,seval]
      refine CallD.still (fun R h=>optimize_Dead_spec _ hShare _ R h) ?_;simp (disch:=first|exact dsc|fail) only [go_sem,seval]
      refine CallD.still (fun R h=>R16_Same_spec _ _ hShare.dead hShare.dead _ R h) ?_;simp (disch:=first|exact dsc|fail) only [go_sem,seval,q4,e7]
      have ht:((((B.set a AB.dead).set b (AB.cells [AV.p (i64 m.inputs),AV.p (PV.sl false 1 (pl (sle 6 gate) D2)),AV.p (i64 m.sums)])).new (AB.tail 1)).new AB.dead).trunc H.n=H:=by
        simp (disch:=first|exact dsc|fail) only [go_sem,seval,hBtr]
      have hb2:Bel H.n ((((B.set a AB.dead).set b (AB.cells [AV.p (i64 m.inputs),AV.p (PV.sl false 1 (pl (sle 6 gate) D2)),AV.p (i64 m.sums)])).new (AB.tail 1)).new AB.dead) :=
        bel_new (bel_new (bel_set (bel_set hBbel (by omega)) (by omega)) (by simp only [n_set'];omega)) (by simp only [n_new',n_set'];omega)
      generalize ((((B.set a AB.dead).set b (AB.cells [AV.p (i64 m.inputs),AV.p (PV.sl false 1 (pl (sle 6 gate) D2)),AV.p (i64 m.sums)])).new (AB.tail 1)).new AB.dead)=Z at *
      have hbel:=hb2
      (repeat refine .z rfl ?_);refine .rt Try.func9 (by rw [Try.results9]) (hx:=by simp (disch:=first|exact dsc|fail) only [go_sem,seval,ht];rfl) (hR := ?_);simp (disch:=first|exact dsc|fail) only [go_sem,seval,ht]
      exact h
    · intro i env H' _ hi ⟨e2,e7,e8,e10,e11,e12,e14,e15,eH⟩ ih
      subst eH
      have hg:=hgt i hi
      have hnn:=mvTo_nth (f:=mvG bits n) hi
      have hsu:=mvTo_succ (f:=mvG bits n) hi
      have hcl:(mvTo (mvG bits n) L i).length=L.length:=mvTo_len
      have hil:i < (mvTo (mvG bits n) L i).length:=by omega
      have hg0:=gcs_get0 hil
      have hg1:=gcs_get1 hil
      have hs0:=fun x=>gcs_set0 (x:=x) hil
      have hs1:=fun (l:List Gate) x h=>gcs_set1 (l:=l) (i:=i) (x:=x) h
      rw [hnn] at hg0 hg1 hs0
      rw [←hsu] at ih
      generalize mvTo (mvG bits n) L i=ll at *
      unfold mvG at ih
      generalize nth L i=g at *
      (repeat refine .z rfl ?_);refine .text ?_;simp (disch:=first|exact dsc|fail) only [go_sem,seval,e14,e15]
      (repeat refine .z rfl ?_);refine .ifT (by simp (disch:=first|exact dsc|fail) only [go_sem,seval]) ?_
      (repeat refine .z rfl ?_);refine .text ?_;simp (disch:=first|exact dsc|fail) only [go_sem,seval,e2,e15]
      have hsu0:ll.set i g=ll:=by rw [←hnn];exact set_nth_self
      (repeat refine .z rfl ?_);refine .cut (fun env' H2=>env' 2 = .p (w16 bits)∧env' 7 = .p (bo true)∧env' 8 = .ptr (H.n+1) 0∧env' 10 = .p (i64 k)∧env' 11 = .p (i64 n)∧env' 12 = .ptr b 0∧env' 14 = .vr (B.n+1) L.length 6∧env' 15 = .p (i64 i)∧H2=((B.set a (.vec (cl (sle 6 gate) D))).new (.tail 1)).new (.vec (gcs (ll.set i (setL g (g.l+(if mvL bits i then (n:Int) else 0))))))) (fun ih => ?_) ?_
      · (repeat refine .z rfl ?_);refine .ifB (by simp (disch:=first|exact dsc|fail) only [go_sem,seval];rfl) (fun hc1 => ?_) (fun hc1 => ?_)
        · rw [if_pos (show mvL bits i=true from hc1)] at ih
          (repeat refine .z rfl ?_);refine .text ?_;simp (disch:=first|exact dsc|fail) only [go_sem,seval,e14,e15,e11,hcl,hg0,hs0]
          refine ih _ _ ?_
          simp (disch:=first|exact dsc|fail) only [go_sem,seval,e2,e7,e8,e10,e11,e12,e14,e15]
          try rfl
        · have hz:mvL bits i=false:=hc1
          rw [hz] at ih
          simp only [Bool.false_eq_true,if_false,Int.add_zero] at ih
          rw [show setL g g.l=g from rfl,hsu0] at ih
          refine .skip ?_
          refine ih _ _ ?_
          simp (disch:=first|exact dsc|fail) only [go_sem,seval,e2,e7,e8,e10,e11,e12,e14,e15]
          try rfl
      clear e2 e7 e8 e10 e11 e12 e14 e15
      intro env' H2 ⟨e2,e7,e8,e10,e11,e12,e14,e15,eHH⟩
      subst eHH
      have hset : ∀ x y:Gate,(ll.set i x).set i y=ll.set i y:=fun x y=>List.set_set _
      have hcl2 : ∀ x:Gate,(ll.set i x).length=L.length:=fun x=>by rw [List.length_set,hcl]
      have hnn2 : ∀ x:Gate,nth (ll.set i x) i=x:=fun x=>nth_set_eq rfl hil
      have hq:({ g with l:=g.l+(if mvL bits i then (n:Int) else 0),r:=g.r+(if mvR bits i then (n:Int) else 0) }:Gate)=setR (setL g (g.l+(if mvL bits i then (n:Int) else 0))) (g.r+(if mvR bits i then (n:Int) else 0)):=rfl
      have hr1:(setL g (g.l+(if mvL bits i then (n:Int) else 0))).r=g.r:=rfl
      rw [hq] at ih
      generalize setL g (g.l+(if mvL bits i then (n:Int) else 0))=g1 at *
      have hil2:i < (ll.set i g1).length:=by rw [List.length_set];exact hil
      have hg1:=gcs_get1 hil2
      have hs1:=fun x=>gcs_set1 (x:=x) hil2
      rw [hnn2,hr1] at hg1
      rw [hnn2] at hs1
      simp only [hset] at hs1
      have hcl3:=hcl2 g1
      have hself:setR g1 g.r=g1:=by rw [←hr1];rfl
      generalize hl1:ll.set i g1=l1 at *
      (repeat refine .z rfl ?_);refine .text ?_;simp (disch:=first|exact dsc|fail) only [go_sem,seval,e2,e15]
      (repeat refine .z rfl ?_);refine .cut (fun env' H2=>env' 2 = .p (w16 bits)∧env' 7 = .p (bo true)∧env' 8 = .ptr (H.n+1) 0∧env' 10 = .p (i64 k)∧env' 11 = .p (i64 n)∧env' 12 = .ptr b 0∧env' 14 = .vr (B.n+1) L.length 6∧env' 15 = .p (i64 i)∧H2=((B.set a (.vec (cl (sle 6 gate) D))).new (.tail 1)).new (.vec (gcs (ll.set i (setR g1 (g.r+(if mvR bits i then (n:Int) else 0))))))) (fun ih => ?_) ?_
      · (repeat refine .z rfl ?_);refine .ifB (by simp (disch:=first|exact dsc|fail) only [go_sem,seval];rfl) (fun hc2 => ?_) (fun hc2 => ?_)
        · rename_i ih0
          rw [if_pos (show mvR bits i=true from hc2)] at ih
          (repeat refine .z rfl ?_);refine .text ?_;simp (disch:=first|exact dsc|fail) only [go_sem,seval,e14,e15,e11,hcl3,hg1,hs1]
          refine ih _ _ ?_
          simp (disch:=first|exact dsc|fail) only [go_sem,seval,e2,e7,e8,e10,e11,e12,e14,e15]
          try rfl
        · have hz:mvR bits i=false:=hc2
          rw [hz] at ih
          simp only [Bool.false_eq_true,if_false,Int.add_zero] at ih
          rw [hself,hl1] at ih
          refine .skip ?_
          refine ih _ _ ?_
          simp (disch:=first|exact dsc|fail) only [go_sem,seval,e2,e7,e8,e10,e11,e12,e14,e15]
          try rfl
      clear e2 e7 e8 e10 e11 e12 e14 e15
      intro env' H2 ⟨e2,e7,e8,e10,e11,e12,e14,e15,eHH⟩
      subst eHH
      (repeat refine .z rfl ?_);refine .text ?_;simp (disch:=first|exact dsc|fail) only [go_sem,seval,e15]
      refine ih _ _ ?_
      simp (disch:=first|exact dsc|fail) only [go_sem,seval,e2,e7,e8,e10,e11,e12,e14]
end walks
end Go.Proofs.Ytjnbifkojpfdgaa

/-
  What the laws' arguments read as.
-/
namespace Go.Proofs.Ytjnbifkojpfdgaa
open Go Go.AL Go.ChangeShapes Go.WideShapes Go.ChangeAt Go.RowKit

theorem own:ownKnob Try.prog.godebug=none:=by kernel_rfl
theorem laidOut:laidOutB Try.prog=true:=by kernel_rfl
def GG:Globs:=fun _=>none
theorem rel_start {W:World}:Rel GG σ0 H0 W:=rel0 fun g sz xs hg=>by cases hg
noncomputable def laidWorld (os:Os):World:=World.holding Try.prog os ⟨#[],#[],[]⟩

section read
variable {k:Nat} {y:List PV}
theorem rd_gate (h:Reads Try.prog (k+2) 46 y) : ∃ g:Gate,packB true y=gate g∧True:=by
  obtain ⟨y1,z1,rfl,-,r1,y2,z2,rfl,-,r2,y3,z3,rfl,-,r3,y4,z4,rfl,-,r4,y5,z5,rfl,-,r5,y6,z6,rfl,-,r6,rfl⟩:=Reads.struct Try.underlying46 h
  obtain ⟨l,-,-,rfl⟩:=Reads.i64 Try.underlying3 r1
  obtain ⟨r,-,-,rfl⟩:=Reads.i64 Try.underlying3 r2
  obtain ⟨c,rfl⟩:=Reads.u64 Try.underlying44 r3
  obtain ⟨a,rfl⟩:=Reads.u64 Try.underlying44 r4
  obtain ⟨b,rfl⟩:=Reads.u64 Try.underlying44 r5
  obtain ⟨d,rfl⟩:=Reads.u64 Try.underlying44 r6
  exact ⟨⟨l,r,c,a,b,d⟩,rfl,trivial⟩
theorem rd_layers (h:Reads Try.prog (k+4) 22 y) : ∃ ls:List (List Gate),ls.length≤9223372036854775807∧y=[.sl false 1 (pl (sle 6 gate) ls)] ∧ ∀ l∈ls,l.length≤9223372036854775807 :=
  Reads.sl (sle 6 gate) (fun l=>l.length≤9223372036854775807) Try.underlying22 cells40 aggT40 h fun y hy=>by
    obtain ⟨l,h1,rfl,-⟩:=Reads.sl gate (fun _=>True) Try.underlying40 cells46 aggT46 hy fun y hy=>rd_gate hy
    exact ⟨l,rfl,h1⟩
theorem rd_cols (h:Reads Try.prog (k+4) 25 y) : ∃ ls:List (List U),ls.length≤9223372036854775807∧y=[.sl false 1 (pl (sle 1 w64) ls)] ∧ ∀ l∈ls,l.length≤9223372036854775807 :=
  Reads.sl (sle 1 w64) (fun l=>l.length≤9223372036854775807) Try.underlying25 cells42 aggT42 h fun y hy=>by
    obtain ⟨l,h1,rfl,-⟩:=Reads.sl w64 (fun _=>True) Try.underlying42 cells44 aggT44 hy fun y hy=>by
      obtain ⟨b,rfl⟩:=Reads.u64 Try.underlying44 hy
      exact ⟨b,rfl,trivial⟩
    exact ⟨l,rfl,h1⟩
theorem rd_circ (h:Reads Try.prog (k+5) 24 y) : ∃ c:Circ,c.layers.length≤9223372036854775807∧(∀ l∈c.layers,l.length≤9223372036854775807)∧y=[i64 c.inputs,.sl false 1 (pl (sle 6 gate) c.layers),i64 c.sums]:=by
  obtain ⟨y1,z1,rfl,-,r1,y2,z2,rfl,-,r2,y3,z3,rfl,-,r3,rfl⟩:=Reads.struct Try.underlying24 h
  obtain ⟨n,-,-,rfl⟩:=Reads.i64 Try.underlying3 r1
  obtain ⟨ls,h1,rfl,h2⟩:=rd_layers r2
  obtain ⟨s,-,-,rfl⟩:=Reads.i64 Try.underlying3 r3
  exact ⟨⟨n,ls,s⟩,h1,h2,rfl⟩
end read

theorem nth_mem {α:Type} [Inhabited α] {l:List α} {i:Nat} (h:i < l.length):nth l i∈l:=by
  have:nth l i=l[i]:=by simp [nth,h]
  rw [this];exact List.getElem_mem h

section rel
variable {W:World} {v:Value} {H:Type} {enc:TypeId × Value → H} {d:DataW H} {ps:List MemPlace} {base:Nat}
theorem rel_inp (hval:Value.okWide Try.prog W .any base 27 v) (h:DataW.Trod enc Try.prog W 0 (fun _=>true) true 27 v d ps) :
    ∃ (c:Circ) (cols:List (List U)) (lg:BitVec 8),c.layers.length≤9223372036854775807∧(∀ i,i < c.layers.length → (nth c.layers i).length≤9223372036854775807)∧cols.length≤9223372036854775807∧(∀ i,i < cols.length → (nth cols i).length≤9223372036854775807)∧RelV σ0 H0 W (.p (inpV c cols lg)) v:=by
  obtain ⟨xs,hx,e⟩:=rel_read 8 (by kernel_rfl) hval h
  obtain ⟨y1,z1,rfl,-,r1,y2,z2,rfl,-,r2,y3,z3,rfl,-,r3,rfl⟩:=Reads.struct (k:=7) Try.underlying27 hx
  obtain ⟨c,h1,h2,rfl⟩:=rd_circ r1
  obtain ⟨cols,h3,rfl,h4⟩:=rd_cols r2
  obtain ⟨lg,rfl⟩:=Reads.u8 Try.underlying5 r3
  rw [aggT27] at e
  exact ⟨c,cols,lg,h1,fun i hi=>h2 _ (nth_mem hi),h3,fun i hi=>h4 _ (nth_mem hi),e⟩
theorem rel_u8 (hval:Value.okWide Try.prog W .any base 5 v) (h:DataW.Trod enc Try.prog W 0 (fun _=>true) true 5 v d ps) : ∃ b:BitVec 8,RelV σ0 H0 W (.p (b8 b)) v:=by
  obtain ⟨xs,hx,e⟩:=rel_read 1 (by kernel_rfl) hval h
  obtain ⟨b,rfl⟩:=Reads.u8 (k:=0) Try.underlying5 hx
  rw [aggT5] at e
  exact ⟨b,e⟩
theorem rel_u16 (hval:Value.okWide Try.prog W .any base 48 v) (h:DataW.Trod enc Try.prog W 0 (fun _=>true) true 48 v d ps) : ∃ b:BitVec 16,RelV σ0 H0 W (.p (w16 b)) v:=by
  obtain ⟨xs,hx,e⟩:=rel_read 1 (by kernel_rfl) hval h
  obtain ⟨b,rfl⟩:=Reads.u16 (k:=0) Try.underlying48 hx
  rw [aggT48] at e
  exact ⟨b,e⟩
end rel
end Go.Proofs.Ytjnbifkojpfdgaa
