/-
  Sessions: which messages are valid.
-/
import Derived.Test.YtmoecjgehdkhkaaDoorPkS1
set_option linter.unusedSimpArgs false
set_option linter.unusedVariables false
namespace Go.Proofs.YtmoecjgehdkhkaaDoor
open Go Go.AL

section enc
variable {x:Ext} {l:List Ext} {a b:U}
def ecl (x:Ext):List AV:=[.p (w64 x.a),.p (w64 x.b)]
theorem ecl_def:ecl x=[.p (w64 x.a),.p (w64 x.b)]:=rfl
theorem cells_ext:(ext x).cells=[w64 x.a,w64 x.b]:=rfl
theorem isAgg_ext:(ext x).isAgg=true:=rfl
theorem aggOf_ext:(ext x).aggOf 0 2=ext x:=rfl
theorem isAggV_ext:(AV.p (ext x)).isAggV=true:=rfl
theorem weak_ext:(ext x).weak=ext x:=rfl
theorem weak1_ext:(ext x).weak1=ext x:=rfl
theorem acells_ext:acells (.p (ext x))=some (ecl x):=rfl
theorem ext_fold:PV.agg [w64 a,w64 b]=ext ⟨a,b⟩:=rfl
theorem mkAgg_ext:mkAgg [.p (w64 a),.p (w64 b)] = .p (ext ⟨a,b⟩):=rfl
theorem ext_eta:(⟨x.a,x.b⟩:Ext)=x:=rfl
theorem pl_weak1_ext:(pl ext l).map PV.weak1=pl ext l:=pl_weak1 fun _=>rfl
theorem pl_weak_ext:(pl ext l).map PV.weak=pl ext l:=pl_weak fun _=>rfl
theorem ext_len : ∀ y∈pl ext l,y.cells.length=2:=fun y hy=>by
 simp only [pl,List.mem_map] at hy
 obtain ⟨x,_,rfl⟩:=hy
 rfl
end enc
attribute [go_sem] aggOf_ext ecl_def cells_ext isAgg_ext isAggV_ext weak_ext weak1_ext acells_ext ext_fold mkAgg_ext ext_eta pl_weak1_ext pl_weak_ext

theorem pvweak1_map {l:List PV} (h : ∀ x∈l,x.weak1=x):l.map PV.weak1=l:=by
 induction l with
 | nil=>rfl
 | cons a l ih=>rw [List.map_cons,h a (by simp),ih fun x hx=>h x (by simp [hx])]
theorem weak1_msgL {m:Msg} : ∀ x∈msgL m,x.weak1=x:=fun x hx=>by
 simp only [msgL,List.mem_append,List.mem_cons,List.not_mem_nil,or_false,pl,List.mem_map] at hx
 rcases hx with (rfl | rfl | rfl | rfl) | ⟨y,_,rfl⟩ | rfl | rfl<;>rfl
theorem weak1_sesL {s:Ses} : ∀ x∈sesL s,x.weak1=x:=fun x hx=>by
 simp only [sesL,List.mem_append,List.mem_cons,List.not_mem_nil,or_false,pl,List.mem_map] at hx
 rcases hx with (rfl | rfl | rfl | rfl) | ⟨y,_,rfl⟩ | hx | rfl | rfl | rfl | rfl
 all_goals first | rfl | exact weak1_msgL _ hx
theorem weak_msg {m:Msg}:(msg m).weak=msg m:=by show PV.agg ((msgL m).map PV.weak1)=_;rw [pvweak1_map weak1_msgL];rfl
theorem weak_ses {s:Ses}:(ses s).weak=ses s:=by show PV.agg ((sesL s).map PV.weak1)=_;rw [pvweak1_map weak1_sesL];rfl
theorem weak_dgv {d:Dg}:(dgv d).weak=dgv d:=by show PV.agg ((pl b8 d.val).map PV.weak1)=_;rw [pl_weak1 fun _=>rfl];rfl
attribute [go_sem] weak_msg weak_ses weak_dgv

def fOK (x:U):Bool:=decide (x < 18446744069414584321#64)
def extOK (x:Ext):Bool:=fOK x.a && fOK x.b
def small (n:Int):Bool:=decide (0≤n) && decide (n≤2147483647)
def holds (k t s v:Int):Bool :=
 if k=1 then decide (1≤t) && decide (t≤400) && (s+v == 0) else if k=3 then decide (s≤64) && (t+v == 0) else if k=4 then (v == 1) && (t+s == 0) else if k=5 then decide (v≤64) && (t+s == 0) else t+s+v == 0
def valid (m:Msg):Bool:=small m.session && small m.step && fits m.kind m.step && holds m.kind m.text.length m.sums.length m.values.length && !m.values.any fun x => !extOK x
structure Msg.Ok (m:Msg):Prop where
 kind:okI m.kind
 session:okI m.session
 step:okI m.step
 text:m.text.length≤140737488355000
 sums:m.sums.length≤140737488355000
 values:m.values.length≤140737488355000

section walks
variable {G:Globs} {r1 r2:Nat} {m1:List (Int × Rule)} {m2:List (Int × Int)}
theorem fieldValid_spec (x:U) (H:Hp) (R:AV → Hp → Prop) (h:R (.p (bo (fOK x))) H):ACall Tryd.prog G 80 [.p (w64 x)] H R:=by
 refine ACall.of_run (raw:=[]) Tryd.func80 rfl Tryd.ntmps80 (by simp) fun hbel => ?_
 (repeat refine .z rfl ?_);refine .text ?_;simp (disch:=first|exact dsc|fail) only [go_sem,seval]
 (repeat refine .z rfl ?_);refine .text ?_;simp (disch:=first|exact dsc|fail) only [go_sem,seval]
 (repeat refine .z rfl ?_);refine .rt Tryd.func80 (by rw [Tryd.results80]) (hR := ?_);simp (disch:=first|exact dsc|fail) only [go_sem,seval]
 exact h
theorem extValid_spec (x:Ext) (H:Hp) (R:AV → Hp → Prop) (h:R (.p (bo (extOK x))) H):ACall Tryd.prog G 67 [.p (ext x)] H R:=by
 unfold extOK at h
 refine ACall.of_run (raw:=[]) Tryd.func67 rfl Tryd.ntmps67 (by simp) fun hbel => ?_
 (repeat refine .z rfl ?_);refine .text ?_;simp (disch:=first|exact dsc|fail) only [go_sem,seval]
 (repeat refine .z rfl ?_);refine .text ?_;simp (disch:=first|exact dsc|fail) only [go_sem,seval]
 refine CallK.of (fun R h=>fieldValid_spec _ _ R h) ?_;simp (disch:=first|exact dsc|fail) only [go_sem,seval]
 cases h1:fOK x.a with
 | true =>
  simp (disch:=first|exact dsc|fail) only [go_sem,seval]
  refine CallK.of (fun R h=>fieldValid_spec _ _ R h) ?_;simp (disch:=first|exact dsc|fail) only [go_sem,seval]
  (repeat refine .z rfl ?_);refine .rt Tryd.func67 (by rw [Tryd.results67]) (hR := ?_);simp (disch:=first|exact dsc|fail) only [go_sem,seval]
  simpa [h1] using h
 | false =>
  simp (disch:=first|exact dsc|fail) only [go_sem,seval]
  (repeat refine .z rfl ?_);refine .rt Tryd.func67 (by rw [Tryd.results67]) (hR := ?_);simp (disch:=first|exact dsc|fail) only [go_sem,seval]
  simpa [h1] using h
theorem valid1_spec (x:Ext) (H:Hp) (R:AV → Hp → Prop) (h:R (.p (bo (!extOK x))) H):ACall Tryd.prog G 66 [.p (ext x)] H R:=by
 refine ACall.of_run (raw:=[]) Tryd.func66 rfl Tryd.ntmps66 (by simp) fun hbel => ?_
 (repeat refine .z rfl ?_);refine .text ?_;simp (disch:=first|exact dsc|fail) only [go_sem,seval]
 (repeat refine .z rfl ?_);refine .text ?_;simp (disch:=first|exact dsc|fail) only [go_sem,seval]
 refine CallK.of (fun R h=>extValid_spec _ _ R h) ?_;simp (disch:=first|exact dsc|fail) only [go_sem,seval]
 (repeat refine .z rfl ?_);refine .rt Tryd.func66 (by rw [Tryd.results66]) (hR := ?_);simp (disch:=first|exact dsc|fail) only [go_sem,seval]
 exact h
theorem any_of {xs:List Ext} {p:Ext → Bool} {i:Nat} (hi:i < xs.length) (h:p (nth xs i)=true):xs.any p=true:=by
 rw [List.any_eq_true]
 exact ⟨nth xs i,by rw [show nth xs i=xs[i] by simp [nth,hi]];exact List.getElem_mem hi,h⟩
theorem any_not {xs:List Ext} {p:Ext → Bool} (h : ∀ i,i < xs.length → p (nth xs i)=false):xs.any p=false:=by
 rw [List.any_eq_false]
 intro x hx
 obtain ⟨i,hi,rfl⟩:=List.getElem_of_mem hx
 have:=h i hi
 rw [show nth xs i=xs[i] by simp [nth,hi]] at this
 simp [this]
set_option maxHeartbeats 4000000 in
theorem IndexE_spec (xs:List Ext) (hl:xs.length≤140737488355000) (H:Hp) (R:AV → Hp → Prop) (h : ∀ n:Int,decide (0≤n)=(xs.any fun x => !extOK x) → R (.p (i64 n)) H) :
 ACall Tryd.prog G 79 [.p (.sl false 2 (pl ext xs)),.clo 66 [] []] H R:=by
 refine ACall.of_run (raw:=[]) Tryd.func79 rfl Tryd.ntmps79 (by simp) fun hbel => ?_
 (repeat refine .z rfl ?_);refine .text ?_;simp (disch:=first|exact dsc|fail) only [go_sem,seval]
 (repeat refine .z rfl ?_);refine .text ?_;simp (disch:=first|exact dsc|fail) only [go_sem,seval]
 (repeat refine .z rfl ?_);refine .loopE [0,1,7] (fun i=>[(8,.p (i64 i))]) (fun i=>[]) (fun i => ∀ j,j < i → (!extOK (nth xs j))=false) (0) (xs.length) (by omega) ?_ (by first | rfl | (simp (disch:=first|exact dsc|fail) only [go_sem,seval]<;>rfl)) ?_ ?_ ?_
 · simp (disch:=first|exact dsc|fail) only [go_sem,seval]<;>(repeat' (first | rfl | refine And.intro ?_ ?_))
 rotate_left 1
 intro env E hQ;simp (disch:=first|exact dsc|fail) only [go_sem,seval] at E
 rotate_left 1
 intro i env hi0 hi E hQ ihE;simp (disch:=first|exact dsc|fail) only [go_sem,seval] at E
 rotate_left 1
 · exact fun j hj=>absurd hj (by omega)
 · have hn:=any_not (p:=fun x => !extOK x) hQ
   (repeat refine .z rfl ?_);refine .text ?_;simp (disch:=first|exact dsc|fail) only [go_sem,seval,E]
   (repeat refine .z rfl ?_);refine .ifF (by simp (disch:=first|exact dsc|fail) only [go_sem,seval]) ?_
   (repeat refine .z rfl ?_);refine .text ?_;simp (disch:=first|exact dsc|fail) only [go_sem,seval]
   (repeat refine .z rfl ?_);refine .rt Tryd.func79 (by rw [Tryd.results79]) (hR := ?_);simp (disch:=first|exact dsc|fail) only [go_sem,seval]
   exact h _ (by rw [hn];rfl)
 · (repeat refine .z rfl ?_);refine .text ?_;simp (disch:=first|exact dsc|fail) only [go_sem,seval,E]
   (repeat refine .z rfl ?_);refine .ifT (by simp (disch:=first|exact dsc|fail) only [go_sem,seval]) ?_
   (repeat refine .z rfl ?_);refine .text ?_;simp (disch:=first|exact dsc|fail) only [go_sem,seval,E]
   (repeat refine .z rfl ?_);refine .text ?_;simp (disch:=first|exact dsc|fail) only [go_sem,seval,E]
   refine CallK.of (fun R h=>valid1_spec _ _ R h) ?_;simp (disch:=first|exact dsc|fail) only [go_sem,seval]
   (repeat refine .z rfl ?_);refine .ifB (by simp (disch:=first|exact dsc|fail) only [go_sem,seval];rfl) (fun hc => ?_) (fun hc => ?_)
   · have hn:=any_of (p:=fun x => !extOK x) hi (by simpa using hc)
     (repeat refine .z rfl ?_);refine .text ?_;simp (disch:=first|exact dsc|fail) only [go_sem,seval,E]
     (repeat refine .z rfl ?_);refine .rt Tryd.func79 (by rw [Tryd.results79]) (hR := ?_);simp (disch:=first|exact dsc|fail) only [go_sem,seval]
     exact h _ (by rw [hn];simp)
   · have hn : ∀ j,j < i+1 → (!extOK (nth xs j))=false:=fun j hj=>by
      rcases Nat.lt_or_ge j i with q | q
      · exact hQ j q
      · rw [show j=i by omega];simpa using hc
     refine .skip ?_
     (repeat refine .z rfl ?_);refine .text ?_;simp (disch:=first|exact dsc|fail) only [go_sem,seval,E]
     first | (refine ihE _ _ ?_ hn ?_) | (refine .z rfl ?_;refine ihE _ _ ?_ hn ?_) | (refine .z rfl ?_;refine .z rfl ?_;refine ihE _ _ ?_ hn ?_) | (refine .z rfl ?_;refine .z rfl ?_;refine .z rfl ?_;refine ihE _ _ ?_ hn ?_)
     · simp (disch:=first|exact dsc|fail) only [go_sem,seval,E]<;>(repeat' (first | rfl | refine And.intro ?_ ?_))
     · first | rfl | (simp (disch:=first|exact dsc|fail) only [go_sem,seval,E]<;>(try rfl))
theorem ContainsE_spec (xs:List Ext) (hl:xs.length≤140737488355000) (H:Hp) (R:AV → Hp → Prop) (h:R (.p (bo (xs.any fun x => !extOK x))) H) :
 ACall Tryd.prog G 65 [.p (.sl false 2 (pl ext xs)),.clo 66 [] []] H R:=by
 refine ACall.of_run (raw:=[]) Tryd.func65 rfl Tryd.ntmps65 (by simp) fun hbel => ?_
 (repeat refine .z rfl ?_);refine .text ?_;simp (disch:=first|exact dsc|fail) only [go_sem,seval]
 (repeat refine .z rfl ?_);refine .text ?_;simp (disch:=first|exact dsc|fail) only [go_sem,seval]
 refine CallK.ex (S:=fun r H' => ∃ n:Int,r = .p (i64 n)∧H'=H∧decide (0≤n)=(xs.any fun x => !extOK x)) (IndexE_spec xs hl _ _ fun n hn=>⟨n,rfl,rfl,hn⟩) ?_
 rintro _ _ ⟨n,rfl,rfl,hn⟩
 simp (disch:=first|exact dsc|fail) only [go_sem,seval,hn]
 (repeat refine .z rfl ?_);refine .rt Tryd.func65 (by rw [Tryd.results65]) (hR := ?_);simp (disch:=first|exact dsc|fail) only [go_sem,seval]
 exact h
theorem rule_enters {k:Int} {r:Rule} (h:ruleT k=some r):enters Tryd.prog r.fn=true:=by
 unfold ruleT at h
 (repeat' split at h)<;>cases h<;>first | exact enters106 | exact enters107 | exact enters108 | exact enters109 | exact enters110
theorem rule_call {k:Int} {r:Rule} (hr:ruleT k=some r) (a b c:Int) (ha:0≤a∧a≤1000000000000000) (hb:0≤b∧b≤1000000000000000) (hc:0≤c∧c≤1000000000000000) (H:Hp) (R:AV → Hp → Prop) (h:R (.p (bo (holds k a b c))) H):ACall Tryd.prog G r.fn [.p (i64 a),.p (i64 b),.p (i64 c)] H R:=by
 unfold ruleT at hr
 unfold holds at h
 by_cases k1:k=1
 · subst k1;cases hr;exact rule1_spec a b c ha hb hc H R h
 by_cases k2:k=2
 · subst k2;cases hr;exact empty_spec a b c ha hb hc H R h
 by_cases k3:k=3
 · subst k3;cases hr;exact rule2_spec a b c ha hb hc H R h
 by_cases k4:k=4
 · subst k4;cases hr;exact rule3_spec a b c ha hb hc H R h
 by_cases k5:k=5
 · subst k5;cases hr;exact rule4_spec a b c ha hb hc H R h
 by_cases k6:k=6
 · subst k6;cases hr;exact empty_spec a b c ha hb hc H R h
 by_cases k7:k=7
 · subst k7;cases hr;exact empty_spec a b c ha hb hc H R h
 · simp [k1,k2,k3,k4,k5,k6,k7] at hr
theorem fits_rule {k s:Int} (h:fits k s=true) : ∃ r,ruleT k=some r:=by
 unfold fits at h
 cases hr:ruleT k with
 | none=>rw [hr] at h;cases h
 | some r=>exact ⟨r,rfl⟩
theorem isAggV_agg {l:List AV}:(AV.agg l).isAggV=true:=rfl
attribute [go_sem] isAggV_agg
theorem rlv_def {r:Rule}:rlv r = .agg [.p (i64 r.first),.p (i64 r.every),.clo r.fn [] []]:=rfl
theorem small_spec' (n:Int) (H:Hp) (R:AV → Hp → Prop) (h:R (.p (bo (small n))) H):ACall Tryd.prog G 64 [.p (i64 n)] H R:=small_spec n H R h
set_option maxHeartbeats 4000000 in
set_option maxRecDepth 20000 in
theorem valid_spec (g:GR G r1 r2 m1 m2) (m:Msg) (hm:m.Ok) (H:Hp) (R:AV → Hp → Prop) (h:R (.p (bo (valid m))) H):ACall Tryd.prog G 39 [.p (msg m)] H R:=by
 have e1:=g.g1
 have e2:=g.h1
 have e3:=g.rule2 hm.kind
 have hk:=hm.kind
 have hs:=hm.step
 have ht:=hm.text
 have hsu:=hm.sums
 have hva:=hm.values
 unfold valid at h
 refine ACall.of_run (raw:=[]) Tryd.func39 rfl Tryd.ntmps39 (by simp) fun hbel => ?_
 (repeat refine .z rfl ?_);refine .text ?_;simp (disch:=first|exact dsc|fail) only [go_sem,seval]
 (repeat refine .z rfl ?_);refine .text ?_;simp (disch:=first|exact dsc|fail) only [go_sem,seval]
 refine CallK.of (fun R h=>small_spec' _ _ R h) ?_;simp (disch:=first|exact dsc|fail) only [go_sem,seval]
 cases v1:small m.session with
 | false =>
  rw [v1] at h
  simp (disch:=first|exact dsc|fail) only [go_sem,seval]
  (repeat refine .z rfl ?_);refine .rt Tryd.func39 (by rw [Tryd.results39]) (hR := ?_);simp (disch:=first|exact dsc|fail) only [go_sem,seval]
  exact h
 | true =>
  rw [v1] at h
  simp (disch:=first|exact dsc|fail) only [go_sem,seval]
  refine CallK.of (fun R h=>small_spec' _ _ R h) ?_;simp (disch:=first|exact dsc|fail) only [go_sem,seval]
  cases v2:small m.step with
  | false =>
   rw [v2] at h
   simp (disch:=first|exact dsc|fail) only [go_sem,seval]
   (repeat refine .z rfl ?_);refine .rt Tryd.func39 (by rw [Tryd.results39]) (hR := ?_);simp (disch:=first|exact dsc|fail) only [go_sem,seval]
   exact h
  | true =>
   rw [v2] at h
   simp (disch:=first|exact dsc|fail) only [go_sem,seval]
   refine CallK.of (fun R h=>fits_spec g _ _ hk hs _ R h) ?_;simp (disch:=first|exact dsc|fail) only [go_sem,seval]
   cases v3:fits m.kind m.step with
   | false =>
    rw [v3] at h
    simp (disch:=first|exact dsc|fail) only [go_sem,seval]
    (repeat refine .z rfl ?_);refine .rt Tryd.func39 (by rw [Tryd.results39]) (hR := ?_);simp (disch:=first|exact dsc|fail) only [go_sem,seval]
    exact h
   | true =>
    rw [v3] at h
    obtain ⟨r,hr⟩:=fits_rule v3
    have hen:=rule_enters hr
    rw [hr] at e3
    simp only at e3
    simp (disch:=first|exact dsc|fail) only [go_sem,seval,e1,e2,e3,rlv_def,hen]
    refine CallK.of (fun R h=>rule_call hr m.text.length m.sums.length m.values.length (by omega) (by omega) (by omega) _ R h) ?_
    simp (disch:=first|exact dsc|fail) only [go_sem,seval]
    cases v4:holds m.kind m.text.length m.sums.length m.values.length with
    | false =>
     rw [v4] at h
     simp (disch:=first|exact dsc|fail) only [go_sem,seval]
     (repeat refine .z rfl ?_);refine .rt Tryd.func39 (by rw [Tryd.results39]) (hR := ?_);simp (disch:=first|exact dsc|fail) only [go_sem,seval]
     exact h
    | true =>
     rw [v4] at h
     have hen2:enters Tryd.prog 66=true:=enters66
     simp (disch:=first|exact dsc|fail) only [go_sem,seval,hen2]
     refine CallK.of (fun R h=>ContainsE_spec _ hva _ R h) ?_;simp (disch:=first|exact dsc|fail) only [go_sem,seval]
     (repeat refine .z rfl ?_);refine .rt Tryd.func39 (by rw [Tryd.results39]) (hR := ?_);simp (disch:=first|exact dsc|fail) only [go_sem,seval]
     simpa using h
end walks
end Go.Proofs.YtmoecjgehdkhkaaDoor

/-
  Sessions: the encoding of a message.
-/
namespace Go.Proofs.YtmoecjgehdkhkaaDoor
open Go Go.AL

def encS (l:List Int):By:=l.flatMap fun n=>le (BitVec.ofInt 64 n) 8
def encV (l:List Ext):By:=l.flatMap fun x=>le x.a 8++le x.b 8
def enc0 (m:Msg):By :=
 [BitVec.ofInt 8 m.kind]++le (BitVec.ofInt 64 m.session) 4++le (BitVec.ofInt 64 m.step) 4++m.root.val++le (BitVec.ofInt 64 m.text.length) 2++m.text++[BitVec.ofInt 8 m.sums.length]++encS m.sums++[BitVec.ofInt 8 m.values.length]++encV m.values
def enc (m:Msg):By:=if valid m then enc0 m++(sha (enc0 m)).take 8 else []

theorem valid_b {m:Msg} (h:valid m=true):m.text.length≤400∧m.sums.length≤64∧m.values.length≤64:=by
 have h2:holds m.kind m.text.length m.sums.length m.values.length=true:=by
  unfold valid at h
  simp only [Bool.and_eq_true] at h
  exact h.1.2
 unfold holds at h2
 (repeat' split at h2)<;>simp only [Bool.and_eq_true,decide_eq_true_eq,beq_iff_eq] at h2<;>omega
theorem encS_len {l:List Int}:(encS l).length=8*l.length:=by
 induction l with
 | nil=>rfl
 | cons a l ih=>simp only [encS,List.flatMap_cons,List.length_append,le_len,List.length_cons] at ih ⊢;omega
theorem encV_len {l:List Ext}:(encV l).length=16*l.length:=by
 induction l with
 | nil=>rfl
 | cons a l ih=>simp only [encV,List.flatMap_cons,List.length_append,le_len,List.length_cons] at ih ⊢;omega
theorem str_elems {l:By}:((bytesOf l).data.toList.map fun b=>PV.s (.int .u8 b.toNat))=pl b8 l:=by
 simp [bytesOf,pl,b8]
theorem take_succ_nth {α:Type} [Inhabited α] {l:List α} {i:Nat} (h:i < l.length):l.take (i+1)=l.take i++[nth l i]:=by
 rw [List.take_add_one,List.getElem?_eq_getElem h,show nth l i=l[i] by simp [nth,h]];rfl
theorem encS_nil:encS []=[]:=rfl
theorem encV_nil:encV []=[]:=rfl
theorem encS_succ {l:List Int} {i:Nat} (h:i < l.length):encS (l.take (i+1))=encS (l.take i)++le (BitVec.ofInt 64 (nth l i)) 8:=by
 rw [take_succ_nth h];simp [encS]
theorem encV_succ {l:List Ext} {i:Nat} (h:i < l.length):encV (l.take (i+1))=encV (l.take i)++le (nth l i).a 8++le (nth l i).b 8:=by
 rw [take_succ_nth h];simp [encV]

def eH (H:Hp) (m:Msg) (n:Nat):Hp:=(H.new (.cells (mcl m))).new (.tail n)
section eh
variable {H:Hp} {m:Msg} {n k:Nat}
theorem eH_n:(eH H m n).n=H.n+2:=by simp [eH,Hp.n_new]
theorem eH_f0:(eH H m n).f H.n=some (.cells (mcl m)):=by simp (disch:=first|exact dsc|fail) only [eH,go_sem,seval]
theorem eH_f1:(eH H m n).f (H.n+1)=some (.tail n):=by simp (disch:=first|exact dsc|fail) only [eH,go_sem,seval]
theorem eH_set:(eH H m n).set (H.n+1) (.tail k)=eH H m k:=by simp (disch:=first|exact dsc|fail) only [eH,go_sem,seval]
theorem eH_def:(H.new (.cells (mcl m))).new (.tail n)=eH H m n:=rfl
theorem eH_trunc:(eH H m n).trunc H.n=H:=by simp (disch:=first|exact dsc|fail) only [eH,go_sem,seval]
theorem eH_bel (h:Bel H.n H):Bel H.n (eH H m n):=by
 unfold eH
 refine bel_newx (bel_newx h fun y hy => ?_) fun y hy=>by simp [AB.vals] at hy
 simp only [AB.vals,mcl,List.mem_map] at hy
 obtain ⟨x,_,rfl⟩:=hy
 exact .p _
end eh
attribute [go_sem] eH_n eH_f0 eH_f1 eH_set eH_trunc

section walks
variable {G:Globs} {r1 r2:Nat} {m1:List (Int × Rule)} {m2:List (Int × Int)}
theorem Encode_nil (g:GR G r1 r2 m1 m2) (m:Msg) (hm:m.Ok) (hv:valid m=false) (H:Hp) (R:AV → Hp → Prop) (h:R (.p (.s (.slice none 0 0))) H):ACall Tryd.prog G 12 [.p (msg m)] H R:=by
 refine ACall.of_run (raw:=[40]) Tryd.func12 rfl Tryd.ntmps12 (by simp) fun hbel => ?_
 (repeat refine .z rfl ?_);refine .text ?_;simp (disch:=first|exact dsc|fail) only [go_sem,seval]
 (repeat refine .z rfl ?_);refine .text ?_;simp (disch:=first|exact dsc|fail) only [go_sem,seval]
 refine CallK.of (fun R h=>valid_spec g m hm _ R h) ?_;simp (disch:=first|exact dsc|fail) only [go_sem,seval,hv]
 (repeat refine .z rfl ?_);refine .ifT (by simp (disch:=first|exact dsc|fail) only [go_sem,seval]) ?_
 repeat refine .z rfl ?_;refine .region ?_
 refine .nilA (by simp (disch:=first|exact dsc|fail) only [go_sem,seval]<;>rfl) ?_
 refine .run ?_
 simp (disch:=first|exact dsc|fail) only [go_sem,seval]
 refine .rt Tryd.func12 (by rw [Tryd.results12]) (hR := ?_);simp (disch:=first|exact dsc|fail) only [go_sem,seval]
 exact h
set_option maxHeartbeats 8000000 in
set_option maxRecDepth 20000 in
theorem Encode_valid (g:GR G r1 r2 m1 m2) (m:Msg) (hm:m.Ok) (hv:valid m=true) (H:Hp) (R:AV → Hp → Prop) (h:R (.p (.sl false 1 (pl b8 (enc0 m++(sha (enc0 m)).take 8)))) H):ACall Tryd.prog G 12 [.p (msg m)] H R:=by
 obtain ⟨b1,b2,b3⟩:=valid_b hv
 have hrl:=m.root.len
 refine ACall.of_run (raw:=[40]) Tryd.func12 rfl Tryd.ntmps12 (by simp) fun hbel => ?_
 (repeat refine .z rfl ?_);refine .text ?_;simp (disch:=first|exact dsc|fail) only [go_sem,seval]
 (repeat refine .z rfl ?_);refine .text ?_;simp (disch:=first|exact dsc|fail) only [go_sem,seval]
 refine CallK.of (fun R h=>valid_spec g m hm _ R h) ?_;simp (disch:=first|exact dsc|fail) only [go_sem,seval,hv]
 (repeat refine .z rfl ?_);refine .ifF (by simp (disch:=first|exact dsc|fail) only [go_sem,seval]) ?_
 (repeat refine .z rfl ?_);refine .text ?_;simp (disch:=first|exact dsc|fail) only [go_sem,seval]
 refine CallK.of (fun R h=>write_spec0 [BitVec.ofInt 8 m.kind] (BitVec.ofInt 64 m.session) 4 (by simp) _ R h) ?_;simp (disch:=first|exact dsc|fail) only [go_sem,seval]
 generalize hx1:BitVec.ofInt 8 m.kind :: le (BitVec.ofInt 64 m.session) 4=x1
 have l1:x1.length=5:=by rw [←hx1];simp [le_len]
 have l2:(le (BitVec.ofInt 64 m.step) 4).length=4:=le_len
 rw [eH_def]
 have hw1 : ∀ R:AV → Hp → Prop,R (.sl (H.n+1) 8 1 (pl b8 (x1++le (BitVec.ofInt 64 m.step) 4))) (eH H m 8) → ACall Tryd.prog G 40 [.sl (H.n+1) 4 1 (pl b8 x1),.p (w64 (BitVec.ofInt 64 m.step)),.p (i64 4)] (eH H m 4) R:=fun R h=>write_spec x1 (BitVec.ofInt 64 m.step) 4 (by omega) (H.n+1) 4 _ eH_f1 R (by rw [eH_set];exact h)
 (repeat refine .z rfl ?_)
 refine .openInv (fun L env' H'=>env' 1 = .ptr H.n 0∧(L 8=false → env' 3 = .sl (H.n+1) 4 1 (pl b8 x1))∧(L 0=true → env' 20 = .sl (H.n+1) 4 1 (pl b8 x1))∧(L 1=true → env' 21 = .ptr H.n 2)∧(L 2=true → env' 22 = .p (i64 m.step))∧(L 3=true → env' 23 = .p (w64 (BitVec.ofInt 64 m.step)))∧(L 4=true → env' 24 = .sl (H.n+1) 8 1 (pl b8 (x1++le (BitVec.ofInt 64 m.step) 4)))∧(L 5=true → env' 25 = .ptr H.n 4)∧(L 6=true → env' 26 = .ref H.n 4 32 1)∧(L 7=true → env' 27 = .sl (H.n+1) 9 1 (pl b8 (x1++le (BitVec.ofInt 64 m.step) 4++m.root.val)))∧(L 8=true → env' 3 = .sl (H.n+1) 9 1 (pl b8 (x1++le (BitVec.ofInt 64 m.step) 4++m.root.val)))∧(L 4=true → allT L [0,3])∧(L 7=true → allT L [4,6])∧(L 8=true → allT L [0,1,2,3,4,5,6,7])∧H'=(eH H m (if L 7 then 9 else if L 4 then 8 else 4))) follows (by kernel_rfl) ?_ ?_ ?_
 · exact ⟨(by simp (disch:=first|exact dsc|fail) only [go_sem,seval,l1,l2,hrl]),(fun _=>by simp (disch:=first|exact dsc|fail) only [go_sem,seval,l1,l2,hrl]),(fun h=>by cases h),(fun h=>by cases h),(fun h=>by cases h),(fun h=>by cases h),(fun h=>by cases h),(fun h=>by cases h),(fun h=>by cases h),(fun h=>by cases h),(fun h=>by cases h),(fun h=>by cases h),(fun h=>by cases h),(fun h=>by cases h),(by first | rfl | (simp only [Bool.false_eq_true,if_false];first | rfl | (simp (disch:=first|exact dsc|fail) only [go_sem,seval,l1,l2,hrl]<;>rfl)))⟩
 · intro i o L env' H' ho hL hall hI
   obtain ⟨f0,f1,g0,g1,g2,g3,g4,g5,g6,g7,g8,m4,m7,m8,rfl⟩:=hI
   rcases i with _ | _ | _ | _ | _ | _ | _ | _ | _ | i
   · cases ho
     have n4:=nfT m4 hL
     have n8:=nfT m8 hL
     refine opA_val (.sl (H.n+1) 4 1 (pl b8 x1)) rfl rfl (by simp (disch:=first|exact dsc|fail) only [go_sem,seval,reduceIte,Bool.false_eq_true,if_false,if_true,f0,f1 n8,n4,n8,hL,l1,l2,hrl]<;>rfl) rfl ?_
     exact ⟨(kf f0),(kq f1),kn,(kp g1),(kp g2),(kp g3),(kp g4),(kp g5),(kp g6),(kp g7),(kp g8),(ka m4),(ka m7),(ka m8),(by (have e4:more L 0 4=L 4:=more_ne (by decide));(have e7:more L 0 7=L 7:=more_ne (by decide));(try simp only [e4,e7,n4]);first | done | rfl | (simp only [e4,e7,n4,if_true,if_false,Bool.false_eq_true];first | done | rfl | (simp (disch:=first|exact dsc|fail) only [go_sem,seval,e4,e7,n4,l1,l2,hrl]<;>rfl)))⟩
   · cases ho
     have n8:=nfT m8 hL
     refine opA_val (.ptr H.n 2) rfl rfl (by simp (disch:=first|exact dsc|fail) only [go_sem,seval,reduceIte,Bool.false_eq_true,if_false,if_true,f0,f1 n8,n8,hL,l1,l2,hrl]<;>rfl) rfl ?_
     exact ⟨(kf f0),(kq f1),(kp g0),kn,(kp g2),(kp g3),(kp g4),(kp g5),(kp g6),(kp g7),(kp g8),(ka m4),(ka m7),(ka m8),(by (have e4:more L 1 4=L 4:=more_ne (by decide));(have e7:more L 1 7=L 7:=more_ne (by decide));(try simp only [e4,e7]);first | done | rfl | (simp only [e4,e7,if_true,if_false,Bool.false_eq_true];first | done | rfl | (simp (disch:=first|exact dsc|fail) only [go_sem,seval,e4,e7,l1,l2,hrl]<;>rfl)))⟩
   · cases ho
     have h1:L 1=true:=hall ⟨1,.data⟩ (by simp) rfl
     have d1:=g1 h1
     have n8:=nfT m8 hL
     refine opA_val (.p (i64 m.step)) rfl rfl (by simp (disch:=first|exact dsc|fail) only [go_sem,seval,reduceIte,Bool.false_eq_true,if_false,if_true,f0,f1 n8,d1,n8,hL,l1,l2,hrl]<;>rfl) rfl ?_
     exact ⟨(kf f0),(kq f1),(kp g0),(kp g1),kn,(kp g3),(kp g4),(kp g5),(kp g6),(kp g7),(kp g8),(ka m4),(ka m7),(ka m8),(by (have e4:more L 2 4=L 4:=more_ne (by decide));(have e7:more L 2 7=L 7:=more_ne (by decide));(try simp only [e4,e7]);first | done | rfl | (simp only [e4,e7,if_true,if_false,Bool.false_eq_true];first | done | rfl | (simp (disch:=first|exact dsc|fail) only [go_sem,seval,e4,e7,l1,l2,hrl]<;>rfl)))⟩
   · cases ho
     have h2:L 2=true:=hall ⟨2,.data⟩ (by simp) rfl
     have d2:=g2 h2
     have n4:=nfT m4 hL
     have n8:=nfT m8 hL
     refine opA_val (.p (w64 (BitVec.ofInt 64 m.step))) rfl rfl (by simp (disch:=first|exact dsc|fail) only [go_sem,seval,reduceIte,Bool.false_eq_true,if_false,if_true,f0,f1 n8,d2,n4,n8,hL,l1,l2,hrl]<;>rfl) rfl ?_
     exact ⟨(kf f0),(kq f1),(kp g0),(kp g1),(kp g2),kn,(kp g4),(kp g5),(kp g6),(kp g7),(kp g8),(ka m4),(ka m7),(ka m8),(by (have e4:more L 3 4=L 4:=more_ne (by decide));(have e7:more L 3 7=L 7:=more_ne (by decide));(try simp only [e4,e7,n4]);first | done | rfl | (simp only [e4,e7,n4,if_true,if_false,Bool.false_eq_true];first | done | rfl | (simp (disch:=first|exact dsc|fail) only [go_sem,seval,e4,e7,n4,l1,l2,hrl]<;>rfl)))⟩
   · cases ho
     have h0:L 0=true:=hall ⟨0,.data⟩ (by simp) rfl
     have d0:=g0 h0
     have h3:L 3=true:=hall ⟨3,.data⟩ (by simp) rfl
     have d3:=g3 h3
     have n7:=nfT m7 hL
     have n8:=nfT m8 hL
     (try simp only [n7,hL,if_true,if_false,Bool.false_eq_true])
     refine opA_call rfl rfl (by simp (disch:=first|exact dsc|fail) only [go_sem,seval,reduceIte,Bool.false_eq_true,if_false,if_true,f0,f1 n8,d0,d3,n7,n8,hL,l1,l2,hrl]<;>rfl) rfl (by simp (disch:=first|exact dsc|fail) only [go_sem,seval,reduceIte,Bool.false_eq_true,if_false,if_true,f0,f1 n8,d0,d3,n7,n8,hL,l1,l2,hrl]<;>rfl) (fun R h=>hw1 R h) ?_
     exact ⟨(kf f0),(kq f1),(kp g0),(kp g1),(kp g2),(kp g3),kn,(kp g5),(kp g6),(kp g7),(kp g8),(fun _=>kt (allT_cons h0 (allT_cons h3 allT_nil))),(ka m7),(ka m8),(by (have e4:more L 4 4=true:=more_eq);(have e7:more L 4 7=L 7:=more_ne (by decide));(try simp only [e4,e7,n7,hL]);first | done | rfl | (simp only [e4,e7,n7,hL,if_true,if_false,Bool.false_eq_true];first | done | rfl | (simp (disch:=first|exact dsc|fail) only [go_sem,seval,e4,e7,n7,hL,l1,l2,hrl]<;>rfl)))⟩
   · cases ho
     have n8:=nfT m8 hL
     refine opA_val (.ptr H.n 4) rfl rfl (by simp (disch:=first|exact dsc|fail) only [go_sem,seval,reduceIte,Bool.false_eq_true,if_false,if_true,f0,f1 n8,n8,hL,l1,l2,hrl]<;>rfl) rfl ?_
     exact ⟨(kf f0),(kq f1),(kp g0),(kp g1),(kp g2),(kp g3),(kp g4),kn,(kp g6),(kp g7),(kp g8),(ka m4),(ka m7),(ka m8),(by (have e4:more L 5 4=L 4:=more_ne (by decide));(have e7:more L 5 7=L 7:=more_ne (by decide));(try simp only [e4,e7]);first | done | rfl | (simp only [e4,e7,if_true,if_false,Bool.false_eq_true];first | done | rfl | (simp (disch:=first|exact dsc|fail) only [go_sem,seval,e4,e7,l1,l2,hrl]<;>rfl)))⟩
   · cases ho
     have h5:L 5=true:=hall ⟨5,.data⟩ (by simp) rfl
     have d5:=g5 h5
     have n7:=nfT m7 hL
     have n8:=nfT m8 hL
     refine opA_val (.ref H.n 4 32 1) rfl rfl (by simp (disch:=first|exact dsc|fail) only [go_sem,seval,reduceIte,Bool.false_eq_true,if_false,if_true,f0,f1 n8,d5,n7,n8,hL,l1,l2,hrl]<;>rfl) rfl ?_
     exact ⟨(kf f0),(kq f1),(kp g0),(kp g1),(kp g2),(kp g3),(kp g4),(kp g5),kn,(kp g7),(kp g8),(ka m4),(ka m7),(ka m8),(by (have e4:more L 6 4=L 4:=more_ne (by decide));(have e7:more L 6 7=L 7:=more_ne (by decide));(try simp only [e4,e7,n7]);first | done | rfl | (simp only [e4,e7,n7,if_true,if_false,Bool.false_eq_true];first | done | rfl | (simp (disch:=first|exact dsc|fail) only [go_sem,seval,e4,e7,n7,l1,l2,hrl]<;>rfl)))⟩
   · cases ho
     have h4:L 4=true:=hall ⟨4,.data⟩ (by simp) rfl
     have d4:=g4 h4
     have h6:L 6=true:=hall ⟨6,.data⟩ (by simp) rfl
     have d6:=g6 h6
     have n8:=nfT m8 hL
     (try simp only [h4,hL,if_true,if_false,Bool.false_eq_true])
     refine opA_valH (.sl (H.n+1) 9 1 (pl b8 (x1++le (BitVec.ofInt 64 m.step) 4++m.root.val))) rfl rfl (by simp (disch:=first|exact dsc|fail) only [go_sem,seval,reduceIte,Bool.false_eq_true,if_false,if_true,f0,f1 n8,d4,d6,h4,n8,hL,l1,l2,hrl]<;>rfl) rfl ?_
     exact ⟨(kf f0),(kq f1),(kp g0),(kp g1),(kp g2),(kp g3),(kp g4),(kp g5),(kp g6),kn,(kp g8),(ka m4),(fun _=>kt (allT_cons h4 (allT_cons h6 allT_nil))),(ka m8),(by (have e4:more L 7 4=L 4:=more_ne (by decide));(have e7:more L 7 7=true:=more_eq);(try simp only [e4,e7,h4,hL]);first | done | rfl | (simp only [e4,e7,h4,hL,if_true,if_false,Bool.false_eq_true];first | done | rfl | (simp (disch:=first|exact dsc|fail) only [go_sem,seval,e4,e7,h4,hL,l1,l2,hrl]<;>rfl)))⟩
   · cases ho
     have h7:L 7=true:=hall ⟨7,.data⟩ (by simp) rfl
     have d7:=g7 h7
     have h0:L 0=true:=hall ⟨0,.phase⟩ (by simp) rfl
     have h1:L 1=true:=hall ⟨1,.phase⟩ (by simp) rfl
     have h2:L 2=true:=hall ⟨2,.phase⟩ (by simp) rfl
     have h3:L 3=true:=hall ⟨3,.phase⟩ (by simp) rfl
     have h4:L 4=true:=hall ⟨4,.phase⟩ (by simp) rfl
     have h5:L 5=true:=hall ⟨5,.phase⟩ (by simp) rfl
     have h6:L 6=true:=hall ⟨6,.phase⟩ (by simp) rfl
     refine opA_val (.sl (H.n+1) 9 1 (pl b8 (x1++le (BitVec.ofInt 64 m.step) 4++m.root.val))) rfl rfl (by simp (disch:=first|exact dsc|fail) only [go_sem,seval,reduceIte,Bool.false_eq_true,if_false,if_true,f0,f1 hL,d7,h4,h7,hL,l1,l2,hrl]<;>rfl) rfl ?_
     exact ⟨(kf f0),kx,(kp g0),(kp g1),(kp g2),(kp g3),(kp g4),(kp g5),(kp g6),(kp g7),kn,(ka m4),(ka m7),(fun _=>kt (allT_cons h0 (allT_cons h1 (allT_cons h2 (allT_cons h3 (allT_cons h4 (allT_cons h5 (allT_cons h6 (allT_cons h7 allT_nil))))))))),(by (have e4:more L 8 4=L 4:=more_ne (by decide));(have e7:more L 8 7=L 7:=more_ne (by decide));(try simp only [e4,e7,h4,h7]);first | done | rfl | (simp only [e4,e7,h4,h7,if_true,if_false,Bool.false_eq_true];first | done | rfl | (simp (disch:=first|exact dsc|fail) only [go_sem,seval,e4,e7,h4,h7,l1,l2,hrl]<;>rfl)))⟩
   · simp at ho
 · intro L env' H' hall hI
   obtain ⟨f0,f1,g0,g1,g2,g3,g4,g5,g6,g7,g8,_,_,_,rfl⟩:=hI
   have l4:=hall 4 (by decide)
   have l7:=hall 7 (by decide)
   replace g0:=g0 (hall 0 (by decide))
   replace g1:=g1 (hall 1 (by decide))
   replace g2:=g2 (hall 2 (by decide))
   replace g3:=g3 (hall 3 (by decide))
   replace g4:=g4 (hall 4 (by decide))
   replace g5:=g5 (hall 5 (by decide))
   replace g6:=g6 (hall 6 (by decide))
   replace g7:=g7 (hall 7 (by decide))
   replace g8:=g8 (hall 8 (by decide))
   simp only [l4,l7,if_true]
   clear hall
   generalize hx2:x1++le (BitVec.ofInt 64 m.step) 4++m.root.val=x2 at *
   have l3:x2.length=41:=by rw [←hx2];simp [l1,l2,hrl]
   clear hw1 g0 g1 g2 g3 g4 g5 g6 g7 f1
   have hw2 : ∀ R:AV → Hp → Prop,R (.sl (H.n+1) 11 1 (pl b8 (x2++le (BitVec.ofInt 64 m.text.length) 2))) (eH H m 11) → ACall Tryd.prog G 40 [.sl (H.n+1) 9 1 (pl b8 x2),.p (w64 (BitVec.ofInt 64 m.text.length)),.p (i64 2)] (eH H m 9) R:=fun R h=>write_spec x2 (BitVec.ofInt 64 m.text.length) 2 (by omega) (H.n+1) 9 _ eH_f1 R (by rw [eH_set];exact h)
   have l4:(le (BitVec.ofInt 64 m.text.length) 2).length=2:=le_len
   (repeat refine .z rfl ?_)
   refine .openInv (fun L env' H'=>env' 1 = .ptr H.n 0∧(L 9=false → env' 3 = .sl (H.n+1) 9 1 (pl b8 x2))∧(L 0=true → env' 28 = .sl (H.n+1) 9 1 (pl b8 x2))∧(L 1=true → env' 29 = .ptr H.n 3)∧(L 2=true → env' 30 = .p (str (bytesOf m.text)))∧(L 3=true → env' 31 = .p (i64 m.text.length))∧(L 4=true → env' 32 = .p (w64 (BitVec.ofInt 64 m.text.length)))∧(L 5=true → env' 33 = .sl (H.n+1) 11 1 (pl b8 (x2++le (BitVec.ofInt 64 m.text.length) 2)))∧(L 6=true → env' 34 = .ptr H.n 3)∧(L 7=true → env' 35 = .p (str (bytesOf m.text)))∧(L 8=true → env' 36 = .sl (H.n+1) 12 1 (pl b8 (x2++le (BitVec.ofInt 64 m.text.length) 2++m.text)))∧(L 9=true → env' 3 = .sl (H.n+1) 12 1 (pl b8 (x2++le (BitVec.ofInt 64 m.text.length) 2++m.text)))∧(L 5=true → allT L [0,4])∧(L 8=true → allT L [5,7])∧(L 9=true → allT L [0,1,2,3,4,5,6,7,8])∧H'=(eH H m (if L 8 then 12 else if L 5 then 11 else 9))) follows (by kernel_rfl) ?_ ?_ ?_
   · exact ⟨(by simp (disch:=first|exact dsc|fail) only [go_sem,seval,l3,l4,str_elems,f0,g8]),(fun _=>by simp (disch:=first|exact dsc|fail) only [go_sem,seval,l3,l4,str_elems,f0,g8]),(fun h=>by cases h),(fun h=>by cases h),(fun h=>by cases h),(fun h=>by cases h),(fun h=>by cases h),(fun h=>by cases h),(fun h=>by cases h),(fun h=>by cases h),(fun h=>by cases h),(fun h=>by cases h),(fun h=>by cases h),(fun h=>by cases h),(fun h=>by cases h),(by first | rfl | (simp only [Bool.false_eq_true,if_false];first | rfl | (simp (disch:=first|exact dsc|fail) only [go_sem,seval,l3,l4,str_elems,f0,g8]<;>rfl)))⟩
   · intro i o L env' H' ho hL hall hI
     obtain ⟨f0,f1,g0,g1,g2,g3,g4,g5,g6,g7,g8,g9,m5,m8,m9,rfl⟩:=hI
     rcases i with _ | _ | _ | _ | _ | _ | _ | _ | _ | _ | i
     · cases ho
       have n5:=nfT m5 hL
       have n9:=nfT m9 hL
       refine opA_val (.sl (H.n+1) 9 1 (pl b8 x2)) rfl rfl (by simp (disch:=first|exact dsc|fail) only [go_sem,seval,reduceIte,Bool.false_eq_true,if_false,if_true,f0,f1 n9,n5,n9,hL,l3,l4,str_elems,f0,g8]<;>rfl) rfl ?_
       exact ⟨(kf f0),(kq f1),kn,(kp g1),(kp g2),(kp g3),(kp g4),(kp g5),(kp g6),(kp g7),(kp g8),(kp g9),(ka m5),(ka m8),(ka m9),(by (have e5:more L 0 5=L 5:=more_ne (by decide));(have e8:more L 0 8=L 8:=more_ne (by decide));(try simp only [e5,e8,n5]);first | done | rfl | (simp only [e5,e8,n5,if_true,if_false,Bool.false_eq_true];first | done | rfl | (simp (disch:=first|exact dsc|fail) only [go_sem,seval,e5,e8,n5,l3,l4,str_elems,f0,g8]<;>rfl)))⟩
     · cases ho
       have n9:=nfT m9 hL
       refine opA_val (.ptr H.n 3) rfl rfl (by simp (disch:=first|exact dsc|fail) only [go_sem,seval,reduceIte,Bool.false_eq_true,if_false,if_true,f0,f1 n9,n9,hL,l3,l4,str_elems,f0,g8]<;>rfl) rfl ?_
       exact ⟨(kf f0),(kq f1),(kp g0),kn,(kp g2),(kp g3),(kp g4),(kp g5),(kp g6),(kp g7),(kp g8),(kp g9),(ka m5),(ka m8),(ka m9),(by (have e5:more L 1 5=L 5:=more_ne (by decide));(have e8:more L 1 8=L 8:=more_ne (by decide));(try simp only [e5,e8]);first | done | rfl | (simp only [e5,e8,if_true,if_false,Bool.false_eq_true];first | done | rfl | (simp (disch:=first|exact dsc|fail) only [go_sem,seval,e5,e8,l3,l4,str_elems,f0,g8]<;>rfl)))⟩
     · cases ho
       have h1:L 1=true:=hall ⟨1,.data⟩ (by simp) rfl
       have d1:=g1 h1
       have n9:=nfT m9 hL
       refine opA_val (.p (str (bytesOf m.text))) rfl rfl (by simp (disch:=first|exact dsc|fail) only [go_sem,seval,reduceIte,Bool.false_eq_true,if_false,if_true,f0,f1 n9,d1,n9,hL,l3,l4,str_elems,f0,g8]<;>rfl) rfl ?_
       exact ⟨(kf f0),(kq f1),(kp g0),(kp g1),kn,(kp g3),(kp g4),(kp g5),(kp g6),(kp g7),(kp g8),(kp g9),(ka m5),(ka m8),(ka m9),(by (have e5:more L 2 5=L 5:=more_ne (by decide));(have e8:more L 2 8=L 8:=more_ne (by decide));(try simp only [e5,e8]);first | done | rfl | (simp only [e5,e8,if_true,if_false,Bool.false_eq_true];first | done | rfl | (simp (disch:=first|exact dsc|fail) only [go_sem,seval,e5,e8,l3,l4,str_elems,f0,g8]<;>rfl)))⟩
     · cases ho
       have h2:L 2=true:=hall ⟨2,.data⟩ (by simp) rfl
       have d2:=g2 h2
       have n9:=nfT m9 hL
       refine opA_val (.p (i64 m.text.length)) rfl rfl (by simp (disch:=first|exact dsc|fail) only [go_sem,seval,reduceIte,Bool.false_eq_true,if_false,if_true,f0,f1 n9,d2,n9,hL,l3,l4,str_elems,f0,g8]<;>rfl) rfl ?_
       exact ⟨(kf f0),(kq f1),(kp g0),(kp g1),(kp g2),kn,(kp g4),(kp g5),(kp g6),(kp g7),(kp g8),(kp g9),(ka m5),(ka m8),(ka m9),(by (have e5:more L 3 5=L 5:=more_ne (by decide));(have e8:more L 3 8=L 8:=more_ne (by decide));(try simp only [e5,e8]);first | done | rfl | (simp only [e5,e8,if_true,if_false,Bool.false_eq_true];first | done | rfl | (simp (disch:=first|exact dsc|fail) only [go_sem,seval,e5,e8,l3,l4,str_elems,f0,g8]<;>rfl)))⟩
     · cases ho
       have h3:L 3=true:=hall ⟨3,.data⟩ (by simp) rfl
       have d3:=g3 h3
       have n5:=nfT m5 hL
       have n9:=nfT m9 hL
       refine opA_val (.p (w64 (BitVec.ofInt 64 m.text.length))) rfl rfl (by simp (disch:=first|exact dsc|fail) only [go_sem,seval,reduceIte,Bool.false_eq_true,if_false,if_true,f0,f1 n9,d3,n5,n9,hL,l3,l4,str_elems,f0,g8]<;>rfl) rfl ?_
       exact ⟨(kf f0),(kq f1),(kp g0),(kp g1),(kp g2),(kp g3),kn,(kp g5),(kp g6),(kp g7),(kp g8),(kp g9),(ka m5),(ka m8),(ka m9),(by (have e5:more L 4 5=L 5:=more_ne (by decide));(have e8:more L 4 8=L 8:=more_ne (by decide));(try simp only [e5,e8,n5]);first | done | rfl | (simp only [e5,e8,n5,if_true,if_false,Bool.false_eq_true];first | done | rfl | (simp (disch:=first|exact dsc|fail) only [go_sem,seval,e5,e8,n5,l3,l4,str_elems,f0,g8]<;>rfl)))⟩
     · cases ho
       have h0:L 0=true:=hall ⟨0,.data⟩ (by simp) rfl
       have d0:=g0 h0
       have h4:L 4=true:=hall ⟨4,.data⟩ (by simp) rfl
       have d4:=g4 h4
       have n8:=nfT m8 hL
       have n9:=nfT m9 hL
       (try simp only [n8,hL,if_true,if_false,Bool.false_eq_true])
       refine opA_call rfl rfl (by simp (disch:=first|exact dsc|fail) only [go_sem,seval,reduceIte,Bool.false_eq_true,if_false,if_true,f0,f1 n9,d0,d4,n8,n9,hL,l3,l4,str_elems,f0,g8]<;>rfl) rfl (by simp (disch:=first|exact dsc|fail) only [go_sem,seval,reduceIte,Bool.false_eq_true,if_false,if_true,f0,f1 n9,d0,d4,n8,n9,hL,l3,l4,str_elems,f0,g8]<;>rfl) (fun R h=>hw2 R h) ?_
       exact ⟨(kf f0),(kq f1),(kp g0),(kp g1),(kp g2),(kp g3),(kp g4),kn,(kp g6),(kp g7),(kp g8),(kp g9),(fun _=>kt (allT_cons h0 (allT_cons h4 allT_nil))),(ka m8),(ka m9),(by (have e5:more L 5 5=true:=more_eq);(have e8:more L 5 8=L 8:=more_ne (by decide));(try simp only [e5,e8,n8,hL]);first | done | rfl | (simp only [e5,e8,n8,hL,if_true,if_false,Bool.false_eq_true];first | done | rfl | (simp (disch:=first|exact dsc|fail) only [go_sem,seval,e5,e8,n8,hL,l3,l4,str_elems,f0,g8]<;>rfl)))⟩
     · cases ho
       have n9:=nfT m9 hL
       refine opA_val (.ptr H.n 3) rfl rfl (by simp (disch:=first|exact dsc|fail) only [go_sem,seval,reduceIte,Bool.false_eq_true,if_false,if_true,f0,f1 n9,n9,hL,l3,l4,str_elems,f0,g8]<;>rfl) rfl ?_
       exact ⟨(kf f0),(kq f1),(kp g0),(kp g1),(kp g2),(kp g3),(kp g4),(kp g5),kn,(kp g7),(kp g8),(kp g9),(ka m5),(ka m8),(ka m9),(by (have e5:more L 6 5=L 5:=more_ne (by decide));(have e8:more L 6 8=L 8:=more_ne (by decide));(try simp only [e5,e8]);first | done | rfl | (simp only [e5,e8,if_true,if_false,Bool.false_eq_true];first | done | rfl | (simp (disch:=first|exact dsc|fail) only [go_sem,seval,e5,e8,l3,l4,str_elems,f0,g8]<;>rfl)))⟩
     · cases ho
       have h6:L 6=true:=hall ⟨6,.data⟩ (by simp) rfl
       have d6:=g6 h6
       have n8:=nfT m8 hL
       have n9:=nfT m9 hL
       refine opA_val (.p (str (bytesOf m.text))) rfl rfl (by simp (disch:=first|exact dsc|fail) only [go_sem,seval,reduceIte,Bool.false_eq_true,if_false,if_true,f0,f1 n9,d6,n8,n9,hL,l3,l4,str_elems,f0,g8]<;>rfl) rfl ?_
       exact ⟨(kf f0),(kq f1),(kp g0),(kp g1),(kp g2),(kp g3),(kp g4),(kp g5),(kp g6),kn,(kp g8),(kp g9),(ka m5),(ka m8),(ka m9),(by (have e5:more L 7 5=L 5:=more_ne (by decide));(have e8:more L 7 8=L 8:=more_ne (by decide));(try simp only [e5,e8,n8]);first | done | rfl | (simp only [e5,e8,n8,if_true,if_false,Bool.false_eq_true];first | done | rfl | (simp (disch:=first|exact dsc|fail) only [go_sem,seval,e5,e8,n8,l3,l4,str_elems,f0,g8]<;>rfl)))⟩
     · cases ho
       have h5:L 5=true:=hall ⟨5,.data⟩ (by simp) rfl
       have d5:=g5 h5
       have h7:L 7=true:=hall ⟨7,.data⟩ (by simp) rfl
       have d7:=g7 h7
       have n9:=nfT m9 hL
       (try simp only [h5,hL,if_true,if_false,Bool.false_eq_true])
       refine opA_valH (.sl (H.n+1) 12 1 (pl b8 (x2++le (BitVec.ofInt 64 m.text.length) 2++m.text))) rfl rfl (by simp (disch:=first|exact dsc|fail) only [go_sem,seval,reduceIte,Bool.false_eq_true,if_false,if_true,f0,f1 n9,d5,d7,h5,n9,hL,l3,l4,str_elems,f0,g8]<;>rfl) rfl ?_
       exact ⟨(kf f0),(kq f1),(kp g0),(kp g1),(kp g2),(kp g3),(kp g4),(kp g5),(kp g6),(kp g7),kn,(kp g9),(ka m5),(fun _=>kt (allT_cons h5 (allT_cons h7 allT_nil))),(ka m9),(by (have e5:more L 8 5=L 5:=more_ne (by decide));(have e8:more L 8 8=true:=more_eq);(try simp only [e5,e8,h5,hL]);first | done | rfl | (simp only [e5,e8,h5,hL,if_true,if_false,Bool.false_eq_true];first | done | rfl | (simp (disch:=first|exact dsc|fail) only [go_sem,seval,e5,e8,h5,hL,l3,l4,str_elems,f0,g8]<;>rfl)))⟩
     · cases ho
       have h8:L 8=true:=hall ⟨8,.data⟩ (by simp) rfl
       have d8:=g8 h8
       have h0:L 0=true:=hall ⟨0,.phase⟩ (by simp) rfl
       have h1:L 1=true:=hall ⟨1,.phase⟩ (by simp) rfl
       have h2:L 2=true:=hall ⟨2,.phase⟩ (by simp) rfl
       have h3:L 3=true:=hall ⟨3,.phase⟩ (by simp) rfl
       have h4:L 4=true:=hall ⟨4,.phase⟩ (by simp) rfl
       have h5:L 5=true:=hall ⟨5,.phase⟩ (by simp) rfl
       have h6:L 6=true:=hall ⟨6,.phase⟩ (by simp) rfl
       have h7:L 7=true:=hall ⟨7,.phase⟩ (by simp) rfl
       refine opA_val (.sl (H.n+1) 12 1 (pl b8 (x2++le (BitVec.ofInt 64 m.text.length) 2++m.text))) rfl rfl (by simp (disch:=first|exact dsc|fail) only [go_sem,seval,reduceIte,Bool.false_eq_true,if_false,if_true,f0,f1 hL,d8,h5,h8,hL,l3,l4,str_elems,f0,g8]<;>rfl) rfl ?_
       exact ⟨(kf f0),kx,(kp g0),(kp g1),(kp g2),(kp g3),(kp g4),(kp g5),(kp g6),(kp g7),(kp g8),kn,(ka m5),(ka m8),(fun _=>kt (allT_cons h0 (allT_cons h1 (allT_cons h2 (allT_cons h3 (allT_cons h4 (allT_cons h5 (allT_cons h6 (allT_cons h7 (allT_cons h8 allT_nil)))))))))),(by (have e5:more L 9 5=L 5:=more_ne (by decide));(have e8:more L 9 8=L 8:=more_ne (by decide));(try simp only [e5,e8,h5,h8]);first | done | rfl | (simp only [e5,e8,h5,h8,if_true,if_false,Bool.false_eq_true];first | done | rfl | (simp (disch:=first|exact dsc|fail) only [go_sem,seval,e5,e8,h5,h8,l3,l4,str_elems,f0,g8]<;>rfl)))⟩
     · simp at ho
   · intro L env' H' hall hI
     obtain ⟨f0,f1,g0,g1,g2,g3,g4,g5,g6,g7,g8,g9,_,_,_,rfl⟩:=hI
     have l5:=hall 5 (by decide)
     have l8:=hall 8 (by decide)
     replace g0:=g0 (hall 0 (by decide))
     replace g1:=g1 (hall 1 (by decide))
     replace g2:=g2 (hall 2 (by decide))
     replace g3:=g3 (hall 3 (by decide))
     replace g4:=g4 (hall 4 (by decide))
     replace g5:=g5 (hall 5 (by decide))
     replace g6:=g6 (hall 6 (by decide))
     replace g7:=g7 (hall 7 (by decide))
     replace g8:=g8 (hall 8 (by decide))
     replace g9:=g9 (hall 9 (by decide))
     simp only [l5,l8,if_true]
     clear hall
     generalize hx3:x2++le (BitVec.ofInt 64 m.text.length) 2++m.text=x3 at *
     have l5:x3.length≤443:=by rw [←hx3];simp only [List.length_append,l3,l4];omega
     clear hw2 g0 g1 g2 g3 g4 g5 g6 g7 g8
     have e1:=f0
     (repeat refine .z rfl ?_);refine .text ?_;simp (disch:=first|exact dsc|fail) only [go_sem,seval,e1,g9]
     (repeat refine .z rfl ?_);refine .text ?_;simp (disch:=first|exact dsc|fail) only [go_sem,seval,e1]
     have l6 : ∀ i,i≤m.sums.length → (x3++[BitVec.ofInt 8 m.sums.length]++encS (m.sums.take i)).length=x3.length+1+8*i:=fun i hi=>by
      simp only [List.length_append,encS_len,List.length_take,List.length_cons,List.length_nil];omega
     have hw3 : ∀ i,i < m.sums.length → ∀ R:AV → Hp → Prop,R (.sl (H.n+1) (13+8*(i+1)) 1 (pl b8 (x3++[BitVec.ofInt 8 m.sums.length]++encS (m.sums.take (i+1))))) (eH H m (13+8*(i+1))) → ACall Tryd.prog G 40 [.sl (H.n+1) (13+8*i) 1 (pl b8 (x3++[BitVec.ofInt 8 m.sums.length]++encS (m.sums.take i))),.p (w64 (BitVec.ofInt 64 (nth m.sums i))),.p (i64 8)] (eH H m (13+8*i)) R:=fun i hi R h=>write_spec _ (BitVec.ofInt 64 (nth m.sums i)) 8 (by rw [l6 i (by omega)];omega) (H.n+1) (13+8*i) _ eH_f1 R (by rw [eH_set,List.append_assoc (x3++_),←encS_succ hi];exact h)
     (repeat refine .z rfl ?_);refine .loopH [1,45,46] (fun i=>[(3,.sl (H.n+1) (13+8*i) 1 (pl b8 (x3++[BitVec.ofInt 8 m.sums.length]++encS (m.sums.take i)))),(47,.p (i64 i))]) (fun i=>eH H m (13+8*i)) (fun i=>True) (0) (m.sums.length) (by omega) ?_ (by first | rfl | (simp (disch:=first|exact dsc|fail) only [go_sem,seval,e1,g9,List.take_zero,Nat.mul_zero,Nat.add_zero,encS_nil,List.append_nil]<;>rfl)) ?_ ?_ ?_
     · simp (disch:=first|exact dsc|fail) only [go_sem,seval,e1,g9,List.take_zero,Nat.mul_zero,Nat.add_zero,encS_nil,List.append_nil]<;>(repeat' (first | rfl | refine And.intro ?_ ?_))
     · exact trivial
     intro env E hQ;simp (disch:=first|exact dsc|fail) only [go_sem,seval,e1,g9,List.take_zero,Nat.mul_zero,Nat.add_zero,encS_nil,List.append_nil] at E
     rotate_left 1
     intro i env hi0 hi E hQ ihE;simp (disch:=first|exact dsc|fail) only [go_sem,seval,e1,g9,List.take_zero,Nat.mul_zero,Nat.add_zero,encS_nil,List.append_nil] at E
     rotate_left 1
     · have l60:=l6 _ (Nat.le_refl _)
       rw [List.take_length] at l60
       generalize hx4:x3++[BitVec.ofInt 8 m.sums.length]++encS m.sums=x4 at *
       have l7:x4.length≤1000:=by omega
       clear hw3
       generalize hv1:13+8*m.sums.length=v1 at *
       (repeat refine .z rfl ?_);refine .text ?_;simp (disch:=first|exact dsc|fail) only [go_sem,seval,E]
       (repeat refine .z rfl ?_);refine .ifF (by simp (disch:=first|exact dsc|fail) only [go_sem,seval]) ?_
       (repeat refine .z rfl ?_);refine .text ?_;simp (disch:=first|exact dsc|fail) only [go_sem,seval,E]
       (repeat refine .z rfl ?_);refine .text ?_;simp (disch:=first|exact dsc|fail) only [go_sem,seval,E]
       have l8 : ∀ i,i≤m.values.length → (x4++[BitVec.ofInt 8 m.values.length]++encV (m.values.take i)).length=x4.length+1+16*i:=fun i hi=>by
        simp only [List.length_append,encV_len,List.length_take,List.length_cons,List.length_nil];omega
       have hw4 : ∀ i T,i < m.values.length → ∀ R:AV → Hp → Prop,R (.sl (H.n+1) (v1+1+16*i+8) 1 (pl b8 (x4++[BitVec.ofInt 8 m.values.length]++encV (m.values.take i)++le (nth m.values i).a 8))) (app (eH H m (v1+1+16*i+8)) T) → ACall Tryd.prog G 40 [.sl (H.n+1) (v1+1+16*i) 1 (pl b8 (x4++[BitVec.ofInt 8 m.values.length]++encV (m.values.take i))),.p (w64 (nth m.values i).a),.p (i64 8)] (app (eH H m (v1+1+16*i)) T) R:=fun i T hi R h=>write_spec _ (nth m.values i).a 8 (by rw [l8 i (by omega)];omega) (H.n+1) (v1+1+16*i) _ (by simp (disch:=first|exact dsc|fail) only [go_sem,seval]) R (by simp (disch:=first|exact dsc|fail) only [go_sem,seval];exact h)
       have hw5 : ∀ i T,i < m.values.length → ∀ R:AV → Hp → Prop,R (.sl (H.n+1) (v1+1+16*(i+1)) 1 (pl b8 (x4++[BitVec.ofInt 8 m.values.length]++encV (m.values.take (i+1))))) (app (eH H m (v1+1+16*(i+1))) T) → ACall Tryd.prog G 40 [.sl (H.n+1) (v1+1+16*i+8) 1 (pl b8 (x4++[BitVec.ofInt 8 m.values.length]++encV (m.values.take i)++le (nth m.values i).a 8)),.p (w64 (nth m.values i).b),.p (i64 8)] (app (eH H m (v1+1+16*i+8)) T) R:=fun i T hi R h=>write_spec _ (nth m.values i).b 8 (by rw [List.length_append,l8 i (by omega),le_len];omega) (H.n+1) (v1+1+16*i+8) _ (by simp (disch:=first|exact dsc|fail) only [go_sem,seval]) R (by
        have:x4++[BitVec.ofInt 8 m.values.length]++encV (m.values.take i)++le (nth m.values i).a 8++le (nth m.values i).b 8=x4++[BitVec.ofInt 8 m.values.length]++encV (m.values.take (i+1)):=by rw [encV_succ hi];simp
        rw [this]
        simp (disch:=first|exact dsc|fail) only [go_sem,seval]
        exact h)
       (repeat refine .z rfl ?_);refine .loopF [64,65] (fun i=>[(3,.sl (H.n+1) (v1+1+16*i) 1 (pl b8 (x4++[BitVec.ofInt 8 m.values.length]++encV (m.values.take i)))),(66,.p (i64 i))]) (fun i=>[(H.n+1,.tail (v1+1+16*i))]) (fun i=>True) (0) (m.values.length) (by omega) ?_ (by first | rfl | (simp (disch:=first|exact dsc|fail) only [go_sem,seval,E,List.take_zero,Nat.mul_zero,Nat.add_zero,encV_nil,List.append_nil]<;>rfl)) ?_ ?_ ?_
       · simp (disch:=first|exact dsc|fail) only [go_sem,seval,E,List.take_zero,Nat.mul_zero,Nat.add_zero,encV_nil,List.append_nil]<;>(repeat' (first | rfl | refine And.intro ?_ ?_))
       · exact trivial
       intro env T F hQ;simp (disch:=first|exact dsc|fail) only [go_sem,seval,E,List.take_zero,Nat.mul_zero,Nat.add_zero,encV_nil,List.append_nil] at F
       rotate_left 1
       intro i env T hi0 hi F hQ ihF;simp (disch:=first|exact dsc|fail) only [go_sem,seval,E,List.take_zero,Nat.mul_zero,Nat.add_zero,encV_nil,List.append_nil] at F
       rotate_left 1
       · have l80:=l8 _ (Nat.le_refl _)
         rw [List.take_length] at l80
         have he:enc0 m=x4++[BitVec.ofInt 8 m.values.length]++encV m.values:=by
          rw [enc0,←hx4,←hx3,←hx2,←hx1];simp [BitVec.ofInt_natCast]
         rw [he] at h
         clear hw4 hw5
         generalize x4++[BitVec.ofInt 8 m.values.length]++encV m.values=x5 at *
         generalize v1+1+16*m.values.length=v2 at *
         have hsh:(sha x5).length=32:=sha_len x5
         (repeat refine .z rfl ?_);refine .text ?_;simp (disch:=first|exact dsc|fail) only [go_sem,seval,F,sets_cons,sets_nil]
         (repeat refine .z rfl ?_);refine .ifF (by simp (disch:=first|exact dsc|fail) only [go_sem,seval]) ?_
         (repeat refine .z rfl ?_);refine .text ?_;simp (disch:=first|exact dsc|fail) only [go_sem,seval,F,sets_cons,sets_nil]
         refine CallK.of (fun R h=>Sum_spec g.s0 g.s1 x5 (by omega) _ R h) ?_;simp (disch:=first|exact dsc|fail) only [go_sem,seval,hsh]
         (repeat refine .z rfl ?_);refine .text ?_;simp (disch:=first|exact dsc|fail) only [go_sem,seval,F,sets_cons,sets_nil,hsh]
         have hbel:=eH_bel (m:=m) (n:=v2+1) hbel
         (repeat refine .z rfl ?_);refine .rt Tryd.func12 (by rw [Tryd.results12]) (hR := ?_);simp (disch:=first|exact dsc|fail) only [go_sem,seval]
         exact h
       · have ha:=fun T=>hw4 i T hi
         have hb:=fun T=>hw5 i T hi
         have hE1 : ∀ k x,(app (eH H m k) (T++[x])).f (H.n+2+T.length)=some x:=fun k x=>by
          rw [←eH_n (H:=H) (m:=m) (n:=k),app_at];simp
         clear hw4 hw5
         generalize x4++[BitVec.ofInt 8 m.values.length]++encV (m.values.take i)=y0 at *
         generalize x4++[BitVec.ofInt 8 m.values.length]++encV (m.values.take (i+1))=y2 at *
         generalize hk0:v1+1+16*i=k0 at *
         have hk2:v1+1+16*(i+1)=k0+16:=by omega
         simp only [hk2] at hb ihF
         (repeat refine .z rfl ?_);refine .text ?_;simp (disch:=first|exact dsc|fail) only [go_sem,seval,F,sets_cons,sets_nil]
         (repeat refine .z rfl ?_);refine .ifT (by simp (disch:=first|exact dsc|fail) only [go_sem,seval]) ?_
         (repeat refine .z rfl ?_);refine .text ?_;simp (disch:=first|exact dsc|fail) only [go_sem,seval,F,sets_cons,sets_nil,e1]
         generalize nth m.values i=x at *
         rw [app_push]
         generalize hT:T++[AB.cells [AV.p (w64 x.a),AV.p (w64 x.b)]]=T2
         have hE2 : ∀ k,(app (eH H m k) T2).f (H.n+2+T.length)=some (.cells [.p (w64 x.a),.p (w64 x.b)]):=fun k=>by rw [←hT];exact hE1 k _
         have ha:=ha T2
         have hb:=hb T2
         (repeat refine .z rfl ?_)
         refine .openInv (fun L env' H'=>(L 7=false → env' 3 = .sl (H.n+1) k0 1 (pl b8 y0))∧env' 7 = .ptr (H.n+2+T.length) 0∧env' 64 = .p (.sl false 2 (pl ext m.values))∧env' 65 = .p (i64 m.values.length)∧env' 66 = .p (i64 i)∧(L 0=true → env' 70 = .sl (H.n+1) k0 1 (pl b8 y0))∧(L 1=true → env' 71 = .ptr (H.n+2+T.length) 0)∧(L 2=true → env' 72 = .p (w64 x.a))∧(L 3=true → env' 73 = .sl (H.n+1) (k0+8) 1 (pl b8 (y0++le x.a 8)))∧(L 4=true → env' 74 = .ptr (H.n+2+T.length) 1)∧(L 5=true → env' 75 = .p (w64 x.b))∧(L 6=true → env' 76 = .sl (H.n+1) (k0+16) 1 (pl b8 y2))∧(L 7=true → env' 3 = .sl (H.n+1) (k0+16) 1 (pl b8 y2))∧(L 3=true → allT L [0,2])∧(L 6=true → allT L [3,5])∧(L 7=true → allT L [0,1,2,3,4,5,6])∧H'=(app (eH H m (if L 6 then k0+16 else if L 3 then k0+8 else k0)) T2)) follows (by kernel_rfl) ?_ ?_ ?_
         · exact ⟨(fun _=>by simp (disch:=first|exact dsc|fail) only [go_sem,seval,F,E,e1,hE2]),(by simp (disch:=first|exact dsc|fail) only [go_sem,seval,F,E,e1,hE2]),(by simp (disch:=first|exact dsc|fail) only [go_sem,seval,F,E,e1,hE2]),(by simp (disch:=first|exact dsc|fail) only [go_sem,seval,F,E,e1,hE2]),(by simp (disch:=first|exact dsc|fail) only [go_sem,seval,F,E,e1,hE2]),(fun h=>by cases h),(fun h=>by cases h),(fun h=>by cases h),(fun h=>by cases h),(fun h=>by cases h),(fun h=>by cases h),(fun h=>by cases h),(fun h=>by cases h),(fun h=>by cases h),(fun h=>by cases h),(fun h=>by cases h),(by first | rfl | (simp only [Bool.false_eq_true,if_false];first | rfl | (simp (disch:=first|exact dsc|fail) only [go_sem,seval,F,E,e1,hE2]<;>rfl)))⟩
         · intro i o L env' H' ho hL hall hI
           obtain ⟨f0,f1,f2,f3,f4,g0,g1,g2,g3,g4,g5,g6,g7,m3,m6,m7,rfl⟩:=hI
           rcases i with _ | _ | _ | _ | _ | _ | _ | _ | i
           · cases ho
             have n3:=nfT m3 hL
             have n7:=nfT m7 hL
             refine opA_val (.sl (H.n+1) k0 1 (pl b8 y0)) rfl rfl (by simp (disch:=first|exact dsc|fail) only [go_sem,seval,reduceIte,Bool.false_eq_true,if_false,if_true,f0 n7,f1,f2,f3,f4,n3,n7,hL,F,E,e1,hE2]<;>rfl) rfl ?_
             exact ⟨(kq f0),(kf f1),(kf f2),(kf f3),(kf f4),kn,(kp g1),(kp g2),(kp g3),(kp g4),(kp g5),(kp g6),(kp g7),(ka m3),(ka m6),(ka m7),(by (have e3:more L 0 3=L 3:=more_ne (by decide));(have e6:more L 0 6=L 6:=more_ne (by decide));(try simp only [e3,e6,n3]);first | done | rfl | (simp only [e3,e6,n3,if_true,if_false,Bool.false_eq_true];first | done | rfl | (simp (disch:=first|exact dsc|fail) only [go_sem,seval,e3,e6,n3,F,E,e1,hE2]<;>rfl)))⟩
           · cases ho
             have n7:=nfT m7 hL
             refine opA_val (.ptr (H.n+2+T.length) 0) rfl rfl (by simp (disch:=first|exact dsc|fail) only [go_sem,seval,reduceIte,Bool.false_eq_true,if_false,if_true,f0 n7,f1,f2,f3,f4,n7,hL,F,E,e1,hE2]<;>rfl) rfl ?_
             exact ⟨(kq f0),(kf f1),(kf f2),(kf f3),(kf f4),(kp g0),kn,(kp g2),(kp g3),(kp g4),(kp g5),(kp g6),(kp g7),(ka m3),(ka m6),(ka m7),(by (have e3:more L 1 3=L 3:=more_ne (by decide));(have e6:more L 1 6=L 6:=more_ne (by decide));(try simp only [e3,e6]);first | done | rfl | (simp only [e3,e6,if_true,if_false,Bool.false_eq_true];first | done | rfl | (simp (disch:=first|exact dsc|fail) only [go_sem,seval,e3,e6,F,E,e1,hE2]<;>rfl)))⟩
           · cases ho
             have h1:L 1=true:=hall ⟨1,.data⟩ (by simp) rfl
             have d1:=g1 h1
             have n3:=nfT m3 hL
             have n7:=nfT m7 hL
             refine opA_val (.p (w64 x.a)) rfl rfl (by simp (disch:=first|exact dsc|fail) only [go_sem,seval,reduceIte,Bool.false_eq_true,if_false,if_true,f0 n7,f1,f2,f3,f4,d1,n3,n7,hL,F,E,e1,hE2]<;>rfl) rfl ?_
             exact ⟨(kq f0),(kf f1),(kf f2),(kf f3),(kf f4),(kp g0),(kp g1),kn,(kp g3),(kp g4),(kp g5),(kp g6),(kp g7),(ka m3),(ka m6),(ka m7),(by (have e3:more L 2 3=L 3:=more_ne (by decide));(have e6:more L 2 6=L 6:=more_ne (by decide));(try simp only [e3,e6,n3]);first | done | rfl | (simp only [e3,e6,n3,if_true,if_false,Bool.false_eq_true];first | done | rfl | (simp (disch:=first|exact dsc|fail) only [go_sem,seval,e3,e6,n3,F,E,e1,hE2]<;>rfl)))⟩
           · cases ho
             have h0:L 0=true:=hall ⟨0,.data⟩ (by simp) rfl
             have d0:=g0 h0
             have h2:L 2=true:=hall ⟨2,.data⟩ (by simp) rfl
             have d2:=g2 h2
             have n6:=nfT m6 hL
             have n7:=nfT m7 hL
             (try simp only [n6,hL,if_true,if_false,Bool.false_eq_true])
             refine opA_call rfl rfl (by simp (disch:=first|exact dsc|fail) only [go_sem,seval,reduceIte,Bool.false_eq_true,if_false,if_true,f0 n7,f1,f2,f3,f4,d0,d2,n6,n7,hL,F,E,e1,hE2]<;>rfl) rfl (by simp (disch:=first|exact dsc|fail) only [go_sem,seval,reduceIte,Bool.false_eq_true,if_false,if_true,f0 n7,f1,f2,f3,f4,d0,d2,n6,n7,hL,F,E,e1,hE2]<;>rfl) (fun R h=>ha R h) ?_
             exact ⟨(kq f0),(kf f1),(kf f2),(kf f3),(kf f4),(kp g0),(kp g1),(kp g2),kn,(kp g4),(kp g5),(kp g6),(kp g7),(fun _=>kt (allT_cons h0 (allT_cons h2 allT_nil))),(ka m6),(ka m7),(by (have e3:more L 3 3=true:=more_eq);(have e6:more L 3 6=L 6:=more_ne (by decide));(try simp only [e3,e6,n6,hL]);first | done | rfl | (simp only [e3,e6,n6,hL,if_true,if_false,Bool.false_eq_true];first | done | rfl | (simp (disch:=first|exact dsc|fail) only [go_sem,seval,e3,e6,n6,hL,F,E,e1,hE2]<;>rfl)))⟩
           · cases ho
             have n7:=nfT m7 hL
             refine opA_val (.ptr (H.n+2+T.length) 1) rfl rfl (by simp (disch:=first|exact dsc|fail) only [go_sem,seval,reduceIte,Bool.false_eq_true,if_false,if_true,f0 n7,f1,f2,f3,f4,n7,hL,F,E,e1,hE2]<;>rfl) rfl ?_
             exact ⟨(kq f0),(kf f1),(kf f2),(kf f3),(kf f4),(kp g0),(kp g1),(kp g2),(kp g3),kn,(kp g5),(kp g6),(kp g7),(ka m3),(ka m6),(ka m7),(by (have e3:more L 4 3=L 3:=more_ne (by decide));(have e6:more L 4 6=L 6:=more_ne (by decide));(try simp only [e3,e6]);first | done | rfl | (simp only [e3,e6,if_true,if_false,Bool.false_eq_true];first | done | rfl | (simp (disch:=first|exact dsc|fail) only [go_sem,seval,e3,e6,F,E,e1,hE2]<;>rfl)))⟩
           · cases ho
             have h4:L 4=true:=hall ⟨4,.data⟩ (by simp) rfl
             have d4:=g4 h4
             have n6:=nfT m6 hL
             have n7:=nfT m7 hL
             refine opA_val (.p (w64 x.b)) rfl rfl (by simp (disch:=first|exact dsc|fail) only [go_sem,seval,reduceIte,Bool.false_eq_true,if_false,if_true,f0 n7,f1,f2,f3,f4,d4,n6,n7,hL,F,E,e1,hE2]<;>rfl) rfl ?_
             exact ⟨(kq f0),(kf f1),(kf f2),(kf f3),(kf f4),(kp g0),(kp g1),(kp g2),(kp g3),(kp g4),kn,(kp g6),(kp g7),(ka m3),(ka m6),(ka m7),(by (have e3:more L 5 3=L 3:=more_ne (by decide));(have e6:more L 5 6=L 6:=more_ne (by decide));(try simp only [e3,e6,n6]);first | done | rfl | (simp only [e3,e6,n6,if_true,if_false,Bool.false_eq_true];first | done | rfl | (simp (disch:=first|exact dsc|fail) only [go_sem,seval,e3,e6,n6,F,E,e1,hE2]<;>rfl)))⟩
           · cases ho
             have h3:L 3=true:=hall ⟨3,.data⟩ (by simp) rfl
             have d3:=g3 h3
             have h5:L 5=true:=hall ⟨5,.data⟩ (by simp) rfl
             have d5:=g5 h5
             have n7:=nfT m7 hL
             (try simp only [h3,hL,if_true,if_false,Bool.false_eq_true])
             refine opA_call rfl rfl (by simp (disch:=first|exact dsc|fail) only [go_sem,seval,reduceIte,Bool.false_eq_true,if_false,if_true,f0 n7,f1,f2,f3,f4,d3,d5,h3,n7,hL,F,E,e1,hE2]<;>rfl) rfl (by simp (disch:=first|exact dsc|fail) only [go_sem,seval,reduceIte,Bool.false_eq_true,if_false,if_true,f0 n7,f1,f2,f3,f4,d3,d5,h3,n7,hL,F,E,e1,hE2]<;>rfl) (fun R h=>hb R h) ?_
             exact ⟨(kq f0),(kf f1),(kf f2),(kf f3),(kf f4),(kp g0),(kp g1),(kp g2),(kp g3),(kp g4),(kp g5),kn,(kp g7),(ka m3),(fun _=>kt (allT_cons h3 (allT_cons h5 allT_nil))),(ka m7),(by (have e3:more L 6 3=L 3:=more_ne (by decide));(have e6:more L 6 6=true:=more_eq);(try simp only [e3,e6,h3,hL]);first | done | rfl | (simp only [e3,e6,h3,hL,if_true,if_false,Bool.false_eq_true];first | done | rfl | (simp (disch:=first|exact dsc|fail) only [go_sem,seval,e3,e6,h3,hL,F,E,e1,hE2]<;>rfl)))⟩
           · cases ho
             have h6:L 6=true:=hall ⟨6,.data⟩ (by simp) rfl
             have d6:=g6 h6
             have h0:L 0=true:=hall ⟨0,.phase⟩ (by simp) rfl
             have h1:L 1=true:=hall ⟨1,.phase⟩ (by simp) rfl
             have h2:L 2=true:=hall ⟨2,.phase⟩ (by simp) rfl
             have h3:L 3=true:=hall ⟨3,.phase⟩ (by simp) rfl
             have h4:L 4=true:=hall ⟨4,.phase⟩ (by simp) rfl
             have h5:L 5=true:=hall ⟨5,.phase⟩ (by simp) rfl
             refine opA_val (.sl (H.n+1) (k0+16) 1 (pl b8 y2)) rfl rfl (by simp (disch:=first|exact dsc|fail) only [go_sem,seval,reduceIte,Bool.false_eq_true,if_false,if_true,f0 hL,f1,f2,f3,f4,d6,h3,h6,hL,F,E,e1,hE2]<;>rfl) rfl ?_
             exact ⟨kx,(kf f1),(kf f2),(kf f3),(kf f4),(kp g0),(kp g1),(kp g2),(kp g3),(kp g4),(kp g5),(kp g6),kn,(ka m3),(ka m6),(fun _=>kt (allT_cons h0 (allT_cons h1 (allT_cons h2 (allT_cons h3 (allT_cons h4 (allT_cons h5 (allT_cons h6 allT_nil)))))))),(by (have e3:more L 7 3=L 3:=more_ne (by decide));(have e6:more L 7 6=L 6:=more_ne (by decide));(try simp only [e3,e6,h3,h6]);first | done | rfl | (simp only [e3,e6,h3,h6,if_true,if_false,Bool.false_eq_true];first | done | rfl | (simp (disch:=first|exact dsc|fail) only [go_sem,seval,e3,e6,h3,h6,F,E,e1,hE2]<;>rfl)))⟩
           · simp at ho
         · intro L env' H' hall hI
           obtain ⟨f0,f1,f2,f3,f4,g0,g1,g2,g3,g4,g5,g6,g7,_,_,_,rfl⟩:=hI
           have l3:=hall 3 (by decide)
           have l6:=hall 6 (by decide)
           replace g0:=g0 (hall 0 (by decide))
           replace g1:=g1 (hall 1 (by decide))
           replace g2:=g2 (hall 2 (by decide))
           replace g3:=g3 (hall 3 (by decide))
           replace g4:=g4 (hall 4 (by decide))
           replace g5:=g5 (hall 5 (by decide))
           replace g6:=g6 (hall 6 (by decide))
           replace g7:=g7 (hall 7 (by decide))
           simp only [l3,l6,if_true]
           clear hall
           (repeat refine .z rfl ?_);refine .text ?_;simp (disch:=first|exact dsc|fail) only [go_sem,seval,f4]
           first | (refine ihF _ _ ?_ trivial ?_) | (refine .z rfl ?_;refine ihF _ _ ?_ trivial ?_) | (refine .z rfl ?_;refine .z rfl ?_;refine ihF _ _ ?_ trivial ?_) | (refine .z rfl ?_;refine .z rfl ?_;refine .z rfl ?_;refine ihF _ _ ?_ trivial ?_)
           · simp (disch:=first|exact dsc|fail) only [go_sem,seval,F,E,e1,f2,f3,g7,hk2,←hT,eH_set]<;>(repeat' (first | rfl | refine And.intro ?_ ?_))
           · first | exact .mk _ rfl | exact .mk [] rfl | (apply Later.mk;simp (disch:=first|exact dsc|fail) only [go_sem,seval,app_push,F,E,e1,f2,f3,g7,hk2,←hT,eH_set];exact rfl) | (apply Later.mk;simp (disch:=first|exact dsc|fail) only [go_sem,seval,app_push,app_app,List.append_assoc,F,E,e1,f2,f3,g7,hk2,←hT,eH_set]<;>(try rfl))
     · have hh:=hw3 i hi
       (repeat refine .z rfl ?_);refine .text ?_;simp (disch:=first|exact dsc|fail) only [go_sem,seval,E]
       (repeat refine .z rfl ?_);refine .ifT (by simp (disch:=first|exact dsc|fail) only [go_sem,seval]) ?_
       (repeat refine .z rfl ?_);refine .text ?_;simp (disch:=first|exact dsc|fail) only [go_sem,seval,E]
       (repeat refine .z rfl ?_);refine .text ?_;simp (disch:=first|exact dsc|fail) only [go_sem,seval,E]
       refine CallK.of (fun R h=>hh R h) ?_;simp (disch:=first|exact dsc|fail) only [go_sem,seval]
       (repeat refine .z rfl ?_);refine .text ?_;simp (disch:=first|exact dsc|fail) only [go_sem,seval,E]
       first | (refine ihE _ _ ?_ trivial ?_) | (refine .z rfl ?_;refine ihE _ _ ?_ trivial ?_) | (refine .z rfl ?_;refine .z rfl ?_;refine ihE _ _ ?_ trivial ?_) | (refine .z rfl ?_;refine .z rfl ?_;refine .z rfl ?_;refine ihE _ _ ?_ trivial ?_)
       · simp (disch:=first|exact dsc|fail) only [go_sem,seval,E,e1]<;>(repeat' (first | rfl | refine And.intro ?_ ?_))
       · first | rfl | (simp (disch:=first|exact dsc|fail) only [go_sem,seval,E,e1]<;>(try rfl))
end walks
end Go.Proofs.YtmoecjgehdkhkaaDoor

/-
  Sessions: taking bytes one portion after the other.
-/
namespace Go.Proofs.YtmoecjgehdkhkaaDoor
open Go Go.AL

theorem bytesOf_inj {a b:By}:bytesOf a=bytesOf b ↔ a=b:=by
 constructor
 · intro h
   have h1:(bytesOf a).data.toList=(bytesOf b).data.toList:=by rw [h]
   simp only [bytesOf] at h1
   have h2 : ∀ l m:By,(l.map fun x=>UInt8.ofBitVec x)=(m.map fun x=>UInt8.ofBitVec x) → l=m:=by
    intro l
    induction l with
    | nil=>intro m h;cases m<;>simp at h ⊢
    | cons x l ih =>
     intro m h
     cases m with
     | nil=>simp at h
     | cons y m =>
      simp only [List.map_cons,List.cons.injEq] at h
      rw [ih m h.2]
      have:=congrArg UInt8.toBitVec h.1
      simp at this
      rw [this]
   exact h2 _ _ h1
 · rintro rfl;rfl
theorem str_beq {a b:By}:((bytesOf a).toList == (bytesOf b).toList)=decide (a=b):=by
 rw [ByteArray.toList_eq,ByteArray.toList_eq]
 by_cases e:a=b
 · subst e;simp
 · rw [decide_eq_false e,beq_eq_false_iff_ne]
   intro h
   refine e (bytesOf_inj.1 ?_)
   have:(bytesOf a).data=(bytesOf b).data:=Array.toList_inj.1 h
   cases hx:bytesOf a;cases hy:bytesOf b
   rw [hx,hy] at this
   simp only at this
   rw [this]
theorem bel_set1 {n b:Nat} {H:Hp} {x:PV} (h:Bel n H):Bel n (H.set b (.cells [.p x])):=bel_setx h fun y hy=>by
 simp only [AB.vals,List.mem_singleton] at hy;subst hy;exact .p _
def tk (st:By × Bool) (n:Nat):By × (By × Bool) :=
 if st.1.length < n then (List.replicate n 0#8,(st.1,false)) else if st.2 then (st.1.take n,(st.1.drop n,true)) else (List.replicate n 0#8,(st.1.drop n,false))
theorem tk_len {st:By × Bool} {n:Nat}:(tk st n).1.length=n:=by
 unfold tk
 split
 · simp
 · split
   · simp only [List.length_take];omega
   · simp
theorem tk_le {st:By × Bool} {n:Nat}:(tk st n).2.1.length≤st.1.length:=by
 unfold tk
 split
 · exact Nat.le_refl _
 · split<;>simp

section walks
variable {G:Globs} {r1 r2:Nat} {m1:List (Int × Rule)} {m2:List (Int × Int)}
theorem Encode_spec (g:GR G r1 r2 m1 m2) (m:Msg) (hm:m.Ok) (H:Hp) (R:AV → Hp → Prop) (h:R (.p (.sl false 1 (pl b8 (enc m)))) H):ACall Tryd.prog G 12 [.p (msg m)] H R:=by
 cases hv:valid m with
 | true =>
  rw [enc,hv] at h
  exact Encode_valid g m hm hv H R h
 | false =>
  rw [enc,hv] at h
  refine ACall.wk (Encode_nil g m hm hv H (fun r H'=>r = .p (.s (.slice none 0 0))∧H'=H) ⟨rfl,rfl⟩) ?_
  rintro _ _ ⟨rfl,rfl⟩
  refine ⟨_,h,fun σ w v hv => ?_⟩
  cases hv with | p hp=>cases hp;exact .p (.nil _ _)
theorem Equal_spec (a b:By) (H:Hp) (R:AV → Hp → Prop) (h:R (.p (bo (decide (a=b)))) H):ACall Tryd.prog G 36 [.p (.sl false 1 (pl b8 a)),.p (.sl false 1 (pl b8 b))] H R:=by
 refine ACall.of_run (raw:=[]) Tryd.func36 rfl Tryd.ntmps36 (by simp) fun hbel => ?_
 (repeat refine .z rfl ?_);refine .text ?_;simp (disch:=first|exact dsc|fail) only [go_sem,seval]
 (repeat refine .z rfl ?_);refine .text ?_;simp (disch:=first|exact dsc|fail) only [go_sem,seval,conv_bytes_str,str_beq]
 (repeat refine .z rfl ?_);refine .rt Tryd.func36 (by rw [Tryd.results36]) (hR := ?_);simp (disch:=first|exact dsc|fail) only [go_sem,seval]
 exact h
theorem consumer1_spec (rest:By) (hr:rest.length≤140737488355000) (n:Nat) (hn:n≤140737488355000) (cb:Nat) (H:Hp) (hc:H.f cb=some (.cells [.p (.sl false 1 (pl b8 rest))])) (R:AV → Hp → Prop)
 (h:R (if rest.length < n then .tup [.p (.sl false 1 []),.p (bo false)] else .tup [.p (.sl false 1 (pl b8 (rest.take n))),.p (bo true)]) (H.set cb (.cells [.p (.sl false 1 (pl b8 (if rest.length < n then rest else rest.drop n)))]))) :
 ACall Tryd.prog G 60 [.p (i64 n),.ptr cb 0] H R:=by
 have hcn:=Hp.lt hc
 refine ACall.of_run (raw:=[]) Tryd.func60 rfl Tryd.ntmps60 (by simp) fun hbel => ?_
 (repeat refine .z rfl ?_);refine .text ?_;simp (disch:=first|exact dsc|fail) only [go_sem,seval]
 (repeat refine .z rfl ?_);refine .text ?_;simp (disch:=first|exact dsc|fail) only [go_sem,seval,hc]
 by_cases c:rest.length < n
 · have d:decide ((rest.length:Int) < (n:Int))=true:=decide_eq_true (by omega)
   rw [if_pos c,if_pos c,Hp.set_same H _ cb hc] at h
   (repeat refine .z rfl ?_);refine .ifT (by simp (disch:=first|exact dsc|fail) only [go_sem,seval,d]) ?_
   (repeat refine .z rfl ?_);refine .text ?_;simp (disch:=first|exact dsc|fail) only [go_sem,seval]
   (repeat refine .z rfl ?_);refine .rt Tryd.func60 (by rw [Tryd.results60]) (hR := ?_);simp (disch:=first|exact dsc|fail) only [go_sem,seval]
   exact h
 · have d:decide ((rest.length:Int) < (n:Int))=false:=decide_eq_false (by omega)
   rw [if_neg c,if_neg c] at h
   (repeat refine .z rfl ?_);refine .ifF (by simp (disch:=first|exact dsc|fail) only [go_sem,seval,d]) ?_
   (repeat refine .z rfl ?_);refine .text ?_;simp (disch:=first|exact dsc|fail) only [go_sem,seval,hc]
   (repeat refine .z rfl ?_);refine .text ?_;simp (disch:=first|exact dsc|fail) only [go_sem,seval,hc]
   (repeat refine .z rfl ?_);refine .text ?_;simp (disch:=first|exact dsc|fail) only [go_sem,seval]
   (repeat refine .z rfl ?_);refine .retKeep Tryd.func60 (by rw [Tryd.results60]) (by simp (disch:=first|exact dsc|fail) only [go_sem,seval];rfl) ?_;(try simp (disch:=first|exact dsc|fail) only [go_sem,seval])
   exact h
theorem consumer_spec (b:By) (H:Hp) (R:AV → Hp → Prop) (h:R (.clo 60 [] [.ptr H.n 0]) (H.new (.cells [.p (.sl false 1 (pl b8 b))]))):ACall Tryd.prog G 31 [.p (.sl false 1 (pl b8 b))] H R:=by
 refine ACall.of_run (raw:=[]) Tryd.func31 rfl Tryd.ntmps31 (by simp) fun hbel => ?_
 (repeat refine .z rfl ?_);refine .text ?_;simp (disch:=first|exact dsc|fail) only [go_sem,seval]
 (repeat refine .z rfl ?_);refine .text ?_;simp (disch:=first|exact dsc|fail) only [go_sem,seval]
 (repeat refine .z rfl ?_);refine .retKeep Tryd.func31 (by rw [Tryd.results31]) (by simp (disch:=first|exact dsc|fail) only [go_sem,seval];rfl) ?_;(try simp (disch:=first|exact dsc|fail) only [go_sem,seval])
 exact h
set_option maxHeartbeats 4000000 in
theorem take_spec (st:By × Bool) (hr:st.1.length≤140737488355000) (n:Nat) (hn:n≤100000) (cb c1 c2:Nat) (H:Hp) (hc:H.f cb=some (.cells [.p (.sl false 1 (pl b8 st.1))])) (h1:H.f c1=some (.cells [.clo 60 [] [.ptr cb 0]])) (h2:H.f c2=some (.cells [.p (bo st.2)]))
 (ne:cb≠c2) (ne1:cb≠c1) (R:AV → Hp → Prop) (h:R (.p (.sl false 1 (pl b8 (tk st n).1))) ((H.set cb (.cells [.p (.sl false 1 (pl b8 (tk st n).2.1))])).set c2 (.cells [.p (bo (tk st n).2.2)]))) :
 ACall Tryd.prog G 32 [.p (i64 n),.ptr c1 0,.ptr c2 0] H R:=by
 obtain ⟨rest,ok⟩:=st
 simp only at hr hc h2
 have hcn:=Hp.lt hc
 have hcn1:=Hp.lt h1
 have hcn2:=Hp.lt h2
 have hen:enters Tryd.prog 60=true:=enters60
 refine ACall.of_run (raw:=[]) Tryd.func32 rfl Tryd.ntmps32 (by simp) fun hbel => ?_
 (repeat refine .z rfl ?_);refine .text ?_;simp (disch:=first|exact dsc|fail) only [go_sem,seval]
 (repeat refine .z rfl ?_);refine .text ?_;simp (disch:=first|exact dsc|fail) only [go_sem,seval,h1,hen]
 unfold tk at h
 simp only at h
 by_cases c:rest.length < n
 · rw [if_pos c] at h
   simp only at h
   refine CallK.of (fun R h=>consumer1_spec rest (by omega) n (by omega) cb _ hc R h) ?_
   rw [if_pos c,if_pos c]
   simp (disch:=first|exact dsc|fail) only [go_sem,seval,h2]
   have hs:H.set cb (.cells [.p (.sl false 1 (pl b8 rest))])=H:=Hp.set_same H _ cb hc
   rw [hs] at h ⊢
   have hbel:=bel_set1 (b:=c2) (x:=bo false) hbel
   cases ok
   · (repeat refine .z rfl ?_);refine .text ?_;simp (disch:=first|exact dsc|fail) only [go_sem,seval,h2]
     (repeat refine .z rfl ?_);refine .text ?_;simp (disch:=first|exact dsc|fail) only [go_sem,seval]
     (repeat refine .z rfl ?_);refine .ifT (by simp (disch:=first|exact dsc|fail) only [go_sem,seval]) ?_
     (repeat refine .z rfl ?_);refine .text ?_;simp (disch:=first|exact dsc|fail) only [go_sem,seval]
     (repeat refine .z rfl ?_);refine .frzS 4 (by simp (disch:=first|exact dsc|fail) only [go_sem,seval];rfl) (by simp (disch:=first|exact dsc|fail) only [go_sem,seval]<;>rfl) (fun _=>rfl) (by first | exact dsc | fail) ?_;(try simp (disch:=first|exact dsc|fail) only [go_sem,seval])
     (repeat refine .z rfl ?_);refine .rt Tryd.func32 (by rw [Tryd.results32]) (hR := ?_);simp (disch:=first|exact dsc|fail) only [go_sem,seval]
     exact h
   · (repeat refine .z rfl ?_);refine .text ?_;simp (disch:=first|exact dsc|fail) only [go_sem,seval,h2]
     (repeat refine .z rfl ?_);refine .text ?_;simp (disch:=first|exact dsc|fail) only [go_sem,seval]
     (repeat refine .z rfl ?_);refine .ifT (by simp (disch:=first|exact dsc|fail) only [go_sem,seval]) ?_
     (repeat refine .z rfl ?_);refine .text ?_;simp (disch:=first|exact dsc|fail) only [go_sem,seval]
     (repeat refine .z rfl ?_);refine .frzS 4 (by simp (disch:=first|exact dsc|fail) only [go_sem,seval];rfl) (by simp (disch:=first|exact dsc|fail) only [go_sem,seval]<;>rfl) (fun _=>rfl) (by first | exact dsc | fail) ?_;(try simp (disch:=first|exact dsc|fail) only [go_sem,seval])
     (repeat refine .z rfl ?_);refine .rt Tryd.func32 (by rw [Tryd.results32]) (hR := ?_);simp (disch:=first|exact dsc|fail) only [go_sem,seval]
     exact h
 · rw [if_neg c] at h
   refine CallK.of (fun R h=>consumer1_spec rest (by omega) n (by omega) cb _ hc R h) ?_
   rw [if_neg c,if_neg c]
   simp (disch:=first|exact dsc|fail) only [go_sem,seval,h2]
   have hbel:=fun y=>bel_set1 (b:=c2) (x:=y) (bel_set1 (b:=cb) (x := .sl false 1 (pl b8 (rest.drop n))) hbel)
   cases ok
   · (repeat refine .z rfl ?_);refine .text ?_;simp (disch:=first|exact dsc|fail) only [go_sem,seval,h2]
     (repeat refine .z rfl ?_);refine .text ?_;simp (disch:=first|exact dsc|fail) only [go_sem,seval]
     (repeat refine .z rfl ?_);refine .ifT (by simp (disch:=first|exact dsc|fail) only [go_sem,seval]) ?_
     (repeat refine .z rfl ?_);refine .text ?_;simp (disch:=first|exact dsc|fail) only [go_sem,seval]
     (repeat refine .z rfl ?_);refine .frzS 4 (by simp (disch:=first|exact dsc|fail) only [go_sem,seval];rfl) (by simp (disch:=first|exact dsc|fail) only [go_sem,seval]<;>rfl) (fun _=>rfl) (by first | exact dsc | fail) ?_;(try simp (disch:=first|exact dsc|fail) only [go_sem,seval])
     (repeat refine .z rfl ?_);refine .rt Tryd.func32 (by rw [Tryd.results32]) (hR := ?_);simp (disch:=first|exact dsc|fail) only [go_sem,seval]
     exact h
   · (repeat refine .z rfl ?_);refine .text ?_;simp (disch:=first|exact dsc|fail) only [go_sem,seval,h2]
     (repeat refine .z rfl ?_);refine .text ?_;simp (disch:=first|exact dsc|fail) only [go_sem,seval]
     (repeat refine .z rfl ?_);refine .ifF (by simp (disch:=first|exact dsc|fail) only [go_sem,seval]) ?_
     (repeat refine .z rfl ?_);refine .text ?_;simp (disch:=first|exact dsc|fail) only [go_sem,seval]
     (repeat refine .z rfl ?_);refine .rt Tryd.func32 (by rw [Tryd.results32]) (hR := ?_);simp (disch:=first|exact dsc|fail) only [go_sem,seval]
     exact h
end walks
end Go.Proofs.YtmoecjgehdkhkaaDoor

/-
  Sessions: chunks of bytes and of words.
-/
namespace Go.Proofs.YtmoecjgehdkhkaaDoor
open Go Go.AL

section walks
variable {G:Globs}

theorem ChunkB_spec (L:List (BitVec 8)) (n:Nat) (hn:1≤n∧n≤1000) (H:Hp) (R:AV → Hp → Prop) (h:R (.clo 78 [] [.ptr H.n 0,.ptr (H.n+1) 0]) ((H.new (.cells [.p (.sl false 1 (pl b8 L))])).new (.cells [.p (i64 n)]))):ACall Tryd.prog G 62 [.p (.sl false 1 (pl b8 L)),.p (i64 n)] H R:=by
 have d:decide ((n:Int) < 1)=false:=decide_eq_false (by omega)
 refine ACall.of_run (raw:=[]) Tryd.func62 rfl Tryd.ntmps62 (by simp) fun hbel => ?_
 (repeat refine .z rfl ?_);refine .text ?_;simp (disch:=first|exact dsc|fail) only [go_sem,seval,-List.reduceReplicate]
 (repeat refine .z rfl ?_);refine .text ?_;simp (disch:=first|exact dsc|fail) only [go_sem,seval,-List.reduceReplicate,d]
 (repeat refine .z rfl ?_);refine .ifF (by simp (disch:=first|exact dsc|fail) only [go_sem,seval,-List.reduceReplicate,d]) ?_
 (repeat refine .z rfl ?_);refine .text ?_;simp (disch:=first|exact dsc|fail) only [go_sem,seval,-List.reduceReplicate]
 (repeat refine .z rfl ?_);refine .retKeep Tryd.func62 (by rw [Tryd.results62]) (by simp (disch:=first|exact dsc|fail) only [go_sem,seval,-List.reduceReplicate];rfl) ?_;(try simp (disch:=first|exact dsc|fail) only [go_sem,seval,-List.reduceReplicate])
 exact h
set_option maxHeartbeats 8000000 in
theorem ChunkB1_spec (L:List (BitVec 8)) (n c:Nat) (hn:1≤n∧n≤1000) (hl:L.length=n*c) (hl2:L.length≤1000000) (y p q m:Nat) (X:Nat → Hp) (hX : ∀ i,(X i).n=m) (hB : ∀ i,Bel m (X i)) (hy0:y < m) (hp : ∀ i,(X i).f p=some (.cells [.p (.sl false 1 (pl b8 L))])) (hq : ∀ i,(X i).f q=some (.cells [.p (i64 n)]))
 (hy : ∀ i,i < c → ∀ (S:List AB) (K:AV → Hp → Prop),K (.p (bo true)) (app (X (i+1)) S) → AYield Tryd.prog G y [.p (.sl false 1 (pl b8 ((L.take (n*i+n)).drop (n*i))))] (app (X i) S) K)
 (R:AV → Hp → Prop) (h:R (.tup []) (X c)):ACall Tryd.prog G 78 [.yld y,.ptr p 0,.ptr q 0] (X 0) R:=by
 have hX0:=hX 0
 have hp0:=hp 0
 have hmul : ∀ i,i < c → n*i+n≤n*c:=fun i hi=>by
  have:=Nat.mul_le_mul_left n (show i+1≤c by omega)
  rw [Nat.mul_succ] at this;exact this
 obtain ⟨P,hP⟩ : ∃ P:Nat → Nat,∀ i,n*i=P i:=⟨fun i=>n*i,fun _=>rfl⟩
 have hPs : ∀ i,P (i+1)=P i+n:=fun i=>by rw [←hP,←hP,Nat.mul_succ]
 have hP0:P 0=0:=by rw [←hP];rfl
 simp only [hP] at hl hy hmul
 clear hP
 refine ACall.of_run (raw:=[]) Tryd.func78 rfl Tryd.ntmps78 (by simp) fun hbel => ?_
 rw [hX0]
 have hbel : ∀ i,Bel m (X i):=hB
 (repeat refine .z rfl ?_);refine .text ?_;simp (disch:=first|exact dsc|fail) only [go_sem,seval,-List.reduceReplicate,hp0]
 (repeat refine .z rfl ?_);refine .loopH [0,1,2] (fun i=>[(4,.p (i64 (P i)))]) (fun i=>X i) (fun i=>True) (0) (c) (by omega) ?_ (by first | rfl | (simp (disch:=first|exact dsc|fail) only [go_sem,seval,-List.reduceReplicate,hP0]<;>rfl)) ?_ ?_ ?_
 · simp (disch:=first|exact dsc|fail) only [go_sem,seval,-List.reduceReplicate,hP0]<;>(repeat' (first | rfl | refine And.intro ?_ ?_))
 · exact trivial
 intro env E hQ;simp (disch:=first|exact dsc|fail) only [go_sem,seval,-List.reduceReplicate,hP0] at E
 rotate_left 1
 intro i env hi0 hi E hQ ihE;simp (disch:=first|exact dsc|fail) only [go_sem,seval,-List.reduceReplicate,hP0] at E
 rotate_left 1
 · have d:decide ((P c:Int) < (L.length:Int))=false:=decide_eq_false (by omega)
   have hXe:=hX c
   have hpc:=hp c
   (repeat refine .z rfl ?_);refine .text ?_;simp (disch:=first|exact dsc|fail) only [go_sem,seval,-List.reduceReplicate,E,hpc,d]
   (repeat refine .z rfl ?_);refine .ifF (by simp (disch:=first|exact dsc|fail) only [go_sem,seval,-List.reduceReplicate,d]) ?_
   (repeat refine .z rfl ?_);refine .fin Tryd.func78 (by rw [Tryd.results78]) (by simp (disch:=first|exact dsc|fail) only [go_sem,seval,-List.reduceReplicate];rfl) (by simp (disch:=first|exact dsc|fail) only [go_sem,seval,-List.reduceReplicate];rfl) (by (try dsimp only);repeat (first | with_reducible refine bel_new ?_ dsc | with_reducible refine bel_appl ?_ dsc | with_reducible refine bel_set ?_ dsc | with_reducible refine bel_cl ?_ | with_reducible exact hbel | with_reducible exact hbel _)) ?_;simp (disch:=first|exact dsc|fail) only [go_sem,seval,-List.reduceReplicate]
   (try rw [trunc_eq hXe.symm])
   exact h
 · have hm:=hmul i hi
   have hyi:=hy i hi []
   simp only [app_nil] at hyi
   have hpi:=hp i
   have hqi:=hq i
   have hst:=hPs i
   rw [hst] at ihE
   generalize P i=N at *
   have d:decide ((N:Int) < (L.length:Int))=true:=decide_eq_true (by omega)
   have d2:min (n:Int) ((L.length - N:Nat):Int)=(n:Int):=by omega
   (repeat refine .z rfl ?_);refine .text ?_;simp (disch:=first|exact dsc|fail) only [go_sem,seval,-List.reduceReplicate,E,hpi,d]
   (repeat refine .z rfl ?_);refine .ifT (by simp (disch:=first|exact dsc|fail) only [go_sem,seval,-List.reduceReplicate,d]) ?_
   (repeat refine .z rfl ?_);refine .open [] follows (by kernel_rfl) ?_;simp (disch:=first|exact dsc|fail) only [go_sem,seval,-List.reduceReplicate,E,hpi,hqi,d2]
   (repeat refine .z rfl ?_);refine .text ?_;simp (disch:=first|exact dsc|fail) only [go_sem,seval,-List.reduceReplicate,E,hpi]
   refine YieldK.of (fun K hK=>hyi K hK) ?_;simp (disch:=first|exact dsc|fail) only [go_sem,seval,-List.reduceReplicate]
   (repeat refine .z rfl ?_);refine .ifF (by simp (disch:=first|exact dsc|fail) only [go_sem,seval,-List.reduceReplicate]) ?_
   (repeat refine .z rfl ?_);refine .text ?_;simp (disch:=first|exact dsc|fail) only [go_sem,seval,-List.reduceReplicate,E,hq (i+1)]
   first | (refine ihE _ _ ?_ trivial ?_) | (refine .z rfl ?_;refine ihE _ _ ?_ trivial ?_) | (refine .z rfl ?_;refine .z rfl ?_;refine ihE _ _ ?_ trivial ?_) | (refine .z rfl ?_;refine .z rfl ?_;refine .z rfl ?_;refine ihE _ _ ?_ trivial ?_)
   · simp (disch:=first|exact dsc|fail) only [go_sem,seval,-List.reduceReplicate,E]<;>(repeat' (first | rfl | refine And.intro ?_ ?_))
   · first | rfl | (simp (disch:=first|exact dsc|fail) only [go_sem,seval,-List.reduceReplicate,E]<;>(try rfl))

theorem ChunkW_spec (L:List (BitVec 64)) (n:Nat) (hn:1≤n∧n≤1000) (H:Hp) (R:AV → Hp → Prop) (h:R (.clo 63 [] [.ptr H.n 0,.ptr (H.n+1) 0]) ((H.new (.cells [.p (.sl false 1 (pl w64 L))])).new (.cells [.p (i64 n)]))):ACall Tryd.prog G 35 [.p (.sl false 1 (pl w64 L)),.p (i64 n)] H R:=by
 have d:decide ((n:Int) < 1)=false:=decide_eq_false (by omega)
 refine ACall.of_run (raw:=[]) Tryd.func35 rfl Tryd.ntmps35 (by simp) fun hbel => ?_
 (repeat refine .z rfl ?_);refine .text ?_;simp (disch:=first|exact dsc|fail) only [go_sem,seval,-List.reduceReplicate]
 (repeat refine .z rfl ?_);refine .text ?_;simp (disch:=first|exact dsc|fail) only [go_sem,seval,-List.reduceReplicate,d]
 (repeat refine .z rfl ?_);refine .ifF (by simp (disch:=first|exact dsc|fail) only [go_sem,seval,-List.reduceReplicate,d]) ?_
 (repeat refine .z rfl ?_);refine .text ?_;simp (disch:=first|exact dsc|fail) only [go_sem,seval,-List.reduceReplicate]
 (repeat refine .z rfl ?_);refine .retKeep Tryd.func35 (by rw [Tryd.results35]) (by simp (disch:=first|exact dsc|fail) only [go_sem,seval,-List.reduceReplicate];rfl) ?_;(try simp (disch:=first|exact dsc|fail) only [go_sem,seval,-List.reduceReplicate])
 exact h
set_option maxHeartbeats 8000000 in
theorem ChunkW1_spec (L:List (BitVec 64)) (n c:Nat) (hn:1≤n∧n≤1000) (hl:L.length=n*c) (hl2:L.length≤1000000) (y p q m:Nat) (X:Nat → Hp) (hX : ∀ i,(X i).n=m) (hB : ∀ i,Bel m (X i)) (hy0:y < m) (hp : ∀ i,(X i).f p=some (.cells [.p (.sl false 1 (pl w64 L))])) (hq : ∀ i,(X i).f q=some (.cells [.p (i64 n)]))
 (hy : ∀ i,i < c → ∀ (S:List AB) (K:AV → Hp → Prop),K (.p (bo true)) (app (X (i+1)) S) → AYield Tryd.prog G y [.p (.sl false 1 (pl w64 ((L.take (n*i+n)).drop (n*i))))] (app (X i) S) K)
 (R:AV → Hp → Prop) (h:R (.tup []) (X c)):ACall Tryd.prog G 63 [.yld y,.ptr p 0,.ptr q 0] (X 0) R:=by
 have hX0:=hX 0
 have hp0:=hp 0
 have hmul : ∀ i,i < c → n*i+n≤n*c:=fun i hi=>by
  have:=Nat.mul_le_mul_left n (show i+1≤c by omega)
  rw [Nat.mul_succ] at this;exact this
 obtain ⟨P,hP⟩ : ∃ P:Nat → Nat,∀ i,n*i=P i:=⟨fun i=>n*i,fun _=>rfl⟩
 have hPs : ∀ i,P (i+1)=P i+n:=fun i=>by rw [←hP,←hP,Nat.mul_succ]
 have hP0:P 0=0:=by rw [←hP];rfl
 simp only [hP] at hl hy hmul
 clear hP
 refine ACall.of_run (raw:=[]) Tryd.func63 rfl Tryd.ntmps63 (by simp) fun hbel => ?_
 rw [hX0]
 have hbel : ∀ i,Bel m (X i):=hB
 (repeat refine .z rfl ?_);refine .text ?_;simp (disch:=first|exact dsc|fail) only [go_sem,seval,-List.reduceReplicate,hp0]
 (repeat refine .z rfl ?_);refine .loopH [0,1,2] (fun i=>[(4,.p (i64 (P i)))]) (fun i=>X i) (fun i=>True) (0) (c) (by omega) ?_ (by first | rfl | (simp (disch:=first|exact dsc|fail) only [go_sem,seval,-List.reduceReplicate,hP0]<;>rfl)) ?_ ?_ ?_
 · simp (disch:=first|exact dsc|fail) only [go_sem,seval,-List.reduceReplicate,hP0]<;>(repeat' (first | rfl | refine And.intro ?_ ?_))
 · exact trivial
 intro env E hQ;simp (disch:=first|exact dsc|fail) only [go_sem,seval,-List.reduceReplicate,hP0] at E
 rotate_left 1
 intro i env hi0 hi E hQ ihE;simp (disch:=first|exact dsc|fail) only [go_sem,seval,-List.reduceReplicate,hP0] at E
 rotate_left 1
 · have d:decide ((P c:Int) < (L.length:Int))=false:=decide_eq_false (by omega)
   have hXe:=hX c
   have hpc:=hp c
   (repeat refine .z rfl ?_);refine .text ?_;simp (disch:=first|exact dsc|fail) only [go_sem,seval,-List.reduceReplicate,E,hpc,d]
   (repeat refine .z rfl ?_);refine .ifF (by simp (disch:=first|exact dsc|fail) only [go_sem,seval,-List.reduceReplicate,d]) ?_
   (repeat refine .z rfl ?_);refine .fin Tryd.func63 (by rw [Tryd.results63]) (by simp (disch:=first|exact dsc|fail) only [go_sem,seval,-List.reduceReplicate];rfl) (by simp (disch:=first|exact dsc|fail) only [go_sem,seval,-List.reduceReplicate];rfl) (by (try dsimp only);repeat (first | with_reducible refine bel_new ?_ dsc | with_reducible refine bel_appl ?_ dsc | with_reducible refine bel_set ?_ dsc | with_reducible refine bel_cl ?_ | with_reducible exact hbel | with_reducible exact hbel _)) ?_;simp (disch:=first|exact dsc|fail) only [go_sem,seval,-List.reduceReplicate]
   (try rw [trunc_eq hXe.symm])
   exact h
 · have hm:=hmul i hi
   have hyi:=hy i hi []
   simp only [app_nil] at hyi
   have hpi:=hp i
   have hqi:=hq i
   have hst:=hPs i
   rw [hst] at ihE
   generalize P i=N at *
   have d:decide ((N:Int) < (L.length:Int))=true:=decide_eq_true (by omega)
   have d2:min (n:Int) ((L.length - N:Nat):Int)=(n:Int):=by omega
   (repeat refine .z rfl ?_);refine .text ?_;simp (disch:=first|exact dsc|fail) only [go_sem,seval,-List.reduceReplicate,E,hpi,d]
   (repeat refine .z rfl ?_);refine .ifT (by simp (disch:=first|exact dsc|fail) only [go_sem,seval,-List.reduceReplicate,d]) ?_
   (repeat refine .z rfl ?_);refine .open [] follows (by kernel_rfl) ?_;simp (disch:=first|exact dsc|fail) only [go_sem,seval,-List.reduceReplicate,E,hpi,hqi,d2]
   (repeat refine .z rfl ?_);refine .text ?_;simp (disch:=first|exact dsc|fail) only [go_sem,seval,-List.reduceReplicate,E,hpi]
   refine YieldK.of (fun K hK=>hyi K hK) ?_;simp (disch:=first|exact dsc|fail) only [go_sem,seval,-List.reduceReplicate]
   (repeat refine .z rfl ?_);refine .ifF (by simp (disch:=first|exact dsc|fail) only [go_sem,seval,-List.reduceReplicate]) ?_
   (repeat refine .z rfl ?_);refine .text ?_;simp (disch:=first|exact dsc|fail) only [go_sem,seval,-List.reduceReplicate,E,hq (i+1)]
   first | (refine ihE _ _ ?_ trivial ?_) | (refine .z rfl ?_;refine ihE _ _ ?_ trivial ?_) | (refine .z rfl ?_;refine .z rfl ?_;refine ihE _ _ ?_ trivial ?_) | (refine .z rfl ?_;refine .z rfl ?_;refine .z rfl ?_;refine ihE _ _ ?_ trivial ?_)
   · simp (disch:=first|exact dsc|fail) only [go_sem,seval,-List.reduceReplicate,E]<;>(repeat' (first | rfl | refine And.intro ?_ ?_))
   · first | rfl | (simp (disch:=first|exact dsc|fail) only [go_sem,seval,-List.reduceReplicate,E]<;>(try rfl))
end walks

def wds (b:By):Nat → List U
 | 0=>[]
 | c+1=>wds b c++[rd ((b.take (8*c+8)).drop (8*c))]
theorem wds_succ {b:By} {c:Nat}:wds b (c+1)=wds b c++[rd ((b.take (8*c+8)).drop (8*c))]:=rfl
theorem wds_len {b:By} : ∀ {c},(wds b c).length=c
 | 0=>rfl
 | c+1=>by simp [wds,wds_len]
theorem bel_sl1 {H:Hp} {n a v sz:Nat} {xs:List PV} (h:Bel n H) (ha:a < n):Bel n (H.new (.cells [.sl a v sz xs])):=bel_newx h fun z hz=>by
 simp only [AB.vals,List.mem_singleton] at hz;subst hz;exact .sl _ _ _ _ ha
section walks
variable {G:Globs}
set_option maxHeartbeats 8000000 in
theorem words_spec (b:By) (c:Nat) (hc:b.length=8*c) (hb:c≤10000) (H:Hp) (R:AV → Hp → Prop) (h:R (.p (.sl false 1 (pl w64 (wds b c)))) H):ACall Tryd.prog G 34 [.p (.sl false 1 (pl b8 b))] H R:=by
 refine ACall.of_run (raw:=[]) Tryd.func34 rfl Tryd.ntmps34 (by simp) fun hbel => ?_
 (repeat refine .z rfl ?_);refine .text ?_;simp (disch:=first|exact dsc|fail) only [go_sem,seval,-List.reduceReplicate]
 (repeat refine .z rfl ?_);refine .text ?_;simp (disch:=first|exact dsc|fail) only [go_sem,seval,-List.reduceReplicate]
 (repeat refine .z rfl ?_);refine .ownC H.n 0 (by simp (disch:=first|exact dsc|fail) only [go_sem,seval,-List.reduceReplicate];rfl) (by rfl) ?_;simp (disch:=first|exact dsc|fail) only [go_sem,seval,-List.reduceReplicate,List.set_cons_zero,List.set_cons_succ]
 (repeat refine .z rfl ?_);refine .text ?_;simp (disch:=first|exact dsc|fail) only [go_sem,seval,-List.reduceReplicate]
 refine CallK.of (fun R h=>ChunkB_spec b 8 (by omega) _ R h) ?_;simp (disch:=first|exact dsc|fail) only [go_sem,seval,-List.reduceReplicate]
 (repeat refine .z rfl ?_);refine .rangeFunc (ps:=[7]) rfl (by simp (disch:=first|exact dsc|fail) only [go_sem,seval,-List.reduceReplicate];rfl) (by simp (disch:=first|exact dsc|fail) only [go_sem,seval,-List.reduceReplicate]) (by simp) fun L vs hL hvs hround => ?_;simp (disch:=first|exact dsc|fail) only [go_sem,seval,-List.reduceReplicate]
 refine ChunkB1_spec b 8 c (by omega) hc (by omega) (H.n+4) (H.n+2) (H.n+3) (H.n+5) (fun j=>(((((H.new (.cells [.sl (H.n+1) j 1 (pl w64 (wds b j))])).new (.tail j)).new (.cells [.p (.sl false 1 (pl b8 b))])).new (.cells [.p (i64 (8:Nat))])).new (.obj vs (L .ready none)))) (fun j=>by simp (disch:=first|exact dsc|fail) only [go_sem,seval,-List.reduceReplicate]) (fun j => ?_) (by omega) (fun j=>by simp (disch:=first|exact dsc|fail) only [go_sem,seval,-List.reduceReplicate]) (fun j=>by simp (disch:=first|exact dsc|fail) only [go_sem,seval,-List.reduceReplicate]) (fun j hj S K hK => ?_) _ ?_
 · (try dsimp only);(repeat (first | with_reducible exact hbel | with_reducible exact bel_start hbel dsc | with_reducible refine bel_newc ?_ | with_reducible refine bel_newp ?_ | with_reducible refine bel_newt ?_ | with_reducible refine bel_newo hvs ?_ dsc | with_reducible refine bel_cl ?_ | with_reducible refine bel_setp ?_ | with_reducible refine bel_sett ?_ | with_reducible refine bel_setd ?_ | with_reducible refine bel_newd ?_))
   exact bel_sl1 (bel_start hbel (by omega)) (by omega)
 · rw [wds_succ] at hK
   have hl:((b.take (8*j+8)).drop (8*j)).length=8:=by rw [List.length_drop,List.length_take];omega
   have hwl:=wds_len (b:=b) (c:=j)
   generalize (b.take (8*j+8)).drop (8*j)=x at *
   refine hround _ _ _ rfl (by simp (disch:=first|exact dsc|fail) only [go_sem,seval,-List.reduceReplicate]) fun hbel2 => ?_
   dsimp only
   simp (disch:=first|exact dsc|fail) only [go_sem,seval,-List.reduceReplicate]
   (repeat refine .z rfl ?_);refine .text ?_;simp (disch:=first|exact dsc|fail) only [go_sem,seval,-List.reduceReplicate]
   (repeat refine .z rfl ?_);refine .beginRound rfl hL (by simp (disch:=first|exact dsc|fail) only [go_sem,seval,-List.reduceReplicate];rfl) ?_;simp (disch:=first|exact dsc|fail) only [go_sem,seval,-List.reduceReplicate]
   (repeat refine .z rfl ?_);refine .open [4,5] follows (by kernel_rfl) ?_;simp (disch:=first|exact dsc|fail) only [go_sem,seval,-List.reduceReplicate]
   refine CallD.still (fun R h=>read_spec x (by omega) _ R h) ?_;simp (disch:=first|exact dsc|fail) only [go_sem,seval,-List.reduceReplicate,hwl]
   (repeat refine .z rfl ?_);refine .roundEndK rfl hL (by simp (disch:=first|exact dsc|fail) only [go_sem,seval,-List.reduceReplicate];rfl) ?_;simp (disch:=first|exact dsc|fail) only [go_sem,seval,-List.reduceReplicate]
   exact hK
 · unfold LoopEnd;refine ⟨?_,.inl ⟨(by simp (disch:=first|exact dsc|fail) only [go_sem,seval,-List.reduceReplicate]<;>rfl),?_⟩⟩;(try dsimp only);(repeat (first | with_reducible exact hbel | with_reducible exact bel_start hbel dsc | with_reducible refine bel_newc ?_ | with_reducible refine bel_newp ?_ | with_reducible refine bel_newt ?_ | with_reducible refine bel_newo hvs ?_ dsc | with_reducible refine bel_cl ?_ | with_reducible refine bel_setp ?_ | with_reducible refine bel_sett ?_ | with_reducible refine bel_setd ?_ | with_reducible refine bel_newd ?_));simp (disch:=first|exact dsc|fail) only [go_sem,seval,-List.reduceReplicate]
   · exact bel_sl1 (bel_start hbel (by omega)) (by omega)
   (repeat refine .z rfl ?_);refine .text ?_;simp (disch:=first|exact dsc|fail) only [go_sem,seval,-List.reduceReplicate]
   (repeat refine .z rfl ?_);refine .rt Tryd.func34 (by rw [Tryd.results34]) (hR := ?_);simp (disch:=first|exact dsc|fail) only [go_sem,seval,-List.reduceReplicate]
   exact h
end walks
end Go.Proofs.YtmoecjgehdkhkaaDoor

/-
  Sessions: decoding a message.
-/
namespace Go.Proofs.YtmoecjgehdkhkaaDoor
open Go Go.AL

def mG (k s t:Int) (tx:By) (r:By) (S V:AV):List AV := .p (i64 k) :: .p (i64 s) :: .p (i64 t) :: .p (str (bytesOf tx)) :: (cl b8 r++[S,V])
theorem bytesOf_nil:ByteArray.empty=bytesOf []:=rfl
section mg
variable {k s t:Int} {tx r:By} {S V:AV}
theorem mG_len (h:r.length=32):(mG k s t tx r S V).length=38:=by simp [mG,cl_len,h]
theorem mG_set0 {x:Int}:(mG k s t tx r S V).set 0 (.p (i64 x))=mG x s t tx r S V:=rfl
theorem mG_set1 {x:Int}:(mG k s t tx r S V).set 1 (.p (i64 x))=mG k x t tx r S V:=rfl
theorem mG_set2 {x:Int}:(mG k s t tx r S V).set 2 (.p (i64 x))=mG k s x tx r S V:=rfl
theorem mG_set3 {x:By}:(mG k s t tx r S V).set 3 (.p (str (bytesOf x)))=mG k s t x r S V:=rfl
theorem mG_setR {x:By} (h:r.length=32) (hx:x.length=32):setAt (mG k s t tx r S V) 4 (cl b8 x)=mG k s t tx x S V:=by
 rw [setAt_eq _ _ _ (by rw [mG_len h,cl_len,hx];omega),cl_len,hx]
 unfold mG
 simp only [List.take_succ_cons,List.take_zero,List.drop_succ_cons,List.cons_append,List.nil_append]
 rw [List.drop_append_of_le_length (by rw [cl_len];omega),List.drop_of_length_le (by rw [cl_len];omega)];rfl
theorem mG_get36 (h:r.length=32):(mG k s t tx r S V)[36]? = some S:=by
 unfold mG;simp only [List.getElem?_cons_succ];rw [get_app (by rw [cl_len,h]) (by omega)];rfl
theorem mG_get37 (h:r.length=32):(mG k s t tx r S V)[37]? = some V:=by
 unfold mG;simp only [List.getElem?_cons_succ];rw [get_app (by rw [cl_len,h]) (by omega)];rfl
theorem mG_set36 {x:AV} (h:r.length=32):(mG k s t tx r S V).set 36 x=mG k s t tx r x V:=by
 unfold mG
 simp only [List.set_cons_succ]
 rw [List.set_append_right _ _ (by rw [cl_len];omega),cl_len,h];rfl
theorem mG_set37 {x:AV} (h:r.length=32):(mG k s t tx r S V).set 37 x=mG k s t tx r S x:=by
 unfold mG
 simp only [List.set_cons_succ]
 rw [List.set_append_right _ _ (by rw [cl_len];omega),cl_len,h];rfl
theorem mG_take (h:r.length=32):(mG k s t tx r S V).take 38=mG k s t tx r S V:=List.take_of_length_le (by rw [mG_len h];exact Nat.le_refl _)
theorem pvs_app {l:List AV} {ps qs:List PV} {m:List AV} (h:pvs? l=some ps) (h2:pvs? m=some qs):pvs? (l++m)=some (ps++qs):=by
 induction l generalizing ps with
 | nil=>simp [pvs?] at h;subst h;simpa using h2
 | cons a l ih =>
  simp only [pvs?] at h
  split at h
  · rename_i p q h3 h4
    cases h
    have:=ih h4
    simp [pvs?,h3,this]
  · cases h
theorem mG_agg {a v a' v':Nat} {su:List Int} {va:List Ext} (h:r.length=32):mkAgg (mG k s t tx r (.sl a v 1 (pl i64 su)) (.sl a' v' 2 (pl ext va))) = .p (msg ⟨k,s,t,tx,⟨r,h⟩,su,va⟩):=by
 unfold mkAgg
 have h1:pvs? (mG k s t tx r (.sl a v 1 (pl i64 su)) (.sl a' v' 2 (pl ext va)))=some (msgL ⟨k,s,t,tx,⟨r,h⟩,su,va⟩):=by
  have h2:pvs? (cl b8 r)=some (pl b8 r):=by rw [←pl_p];exact pvs_p _
  have h3:pvs? [AV.sl a v 1 (pl i64 su),AV.sl a' v' 2 (pl ext va)]=some [.sl false 1 (pl i64 su),.sl false 2 (pl ext va)]:=rfl
  have h4:=pvs_app h2 h3
  have h5:pvs? [AV.p (i64 k),.p (i64 s),.p (i64 t),.p (str (bytesOf tx))]=some [i64 k,i64 s,i64 t,str (bytesOf tx)]:=rfl
  exact pvs_app h5 h4
 rw [h1];rfl
theorem mG_zero:((([i64 0,i64 0,i64 0,str ByteArray.empty]:List PV)++List.replicate 32 (b8 0#8)++([.sl true 1 [],.sl true 2 []]:List PV)).map .p)=mG 0 0 0 [] (List.replicate 32 0#8) (.p (.sl true 1 [])) (.p (.sl true 2 [])):=rfl
end mg
theorem rd_lt : ∀ {b:By},b.length≤7 → (rd b).toNat < 2 ^ (8*b.length)
 | [],_=>by simp [rd]
 | c :: b,h=>by
  have ih:=rd_lt (b:=b) (by simp at h;omega)
  have hc:=c.isLt
  have h1:(rd (c :: b)).toNat=(rd b).toNat*256+c.toNat:=by
   simp only [rd,BitVec.toNat_or,BitVec.toNat_shiftLeft,BitVec.toNat_setWidth]
   have h2:(rd b).toNat <<< 8 < 2 ^ 64:=by
    rw [Nat.shiftLeft_eq]
    have:2 ^ (8*b.length)*2 ^ 8≤2 ^ 64:=by
     rw [←Nat.pow_add];exact Nat.pow_le_pow_right (by omega) (by simp at h;omega)
    have:=Nat.mul_lt_mul_of_pos_right ih (show 0 < 2 ^ 8 by decide)
    omega
   rw [Nat.mod_eq_of_lt h2,Nat.mod_eq_of_lt (show c.toNat < 2 ^ 64 by omega),←Nat.shiftLeft_add_eq_or_of_lt (by omega),Nat.shiftLeft_eq]
  rw [h1,List.length_cons,show 8*(b.length+1)=8*b.length+8 by omega,Nat.pow_add]
  omega
theorem rd_lt4 {b:By} (h:b.length≤4):(rd b).toNat < 4294967296:=by
 have:=rd_lt (b:=b) (by omega)
 have h2:2 ^ (8*b.length)≤2 ^ 32:=Nat.pow_le_pow_right (by omega) (by omega)
 omega
theorem rd_lt2 {b:By} (h:b.length≤2):(rd b).toNat < 65536:=by
 have:=rd_lt (b:=b) (by omega)
 have h2:2 ^ (8*b.length)≤2 ^ 16:=Nat.pow_le_pow_right (by omega) (by omega)
 omega
theorem wrap_small {n:Nat} (h:n < 9223372036854775808):IntKind.i64.wrap (n:Int)=n:=wrap_lo (by omega) (by omega)
def dH (H:Hp) (mc:List AV) (st:By × Bool):Hp :=
 ((((H.new (.cells (mG 0 0 0 [] (List.replicate 32 0#8) (.p (.sl true 1 [])) (.p (.sl true 2 []))))).new (.cells mc)).new (.cells [.p (.sl false 1 (pl b8 st.1))])).new (.cells [.clo 60 [] [.ptr (H.n+2) 0]])).new (.cells [.p (bo st.2)])
section dh
variable {H:Hp} {mc mc':List AV} {st st':By × Bool}
theorem dH_n:(dH H mc st).n=H.n+5:=by simp [dH,Hp.n_new]
theorem dH_f0:(dH H mc st).f H.n=some (.cells (mG 0 0 0 [] (List.replicate 32 0#8) (.p (.sl true 1 [])) (.p (.sl true 2 [])))):=by simp (disch:=first|exact dsc|fail) only [dH,go_sem,seval,-List.reduceReplicate]
theorem dH_f1:(dH H mc st).f (H.n+1)=some (.cells mc):=by simp (disch:=first|exact dsc|fail) only [dH,go_sem,seval,-List.reduceReplicate]
theorem dH_f2:(dH H mc st).f (H.n+2)=some (.cells [.p (.sl false 1 (pl b8 st.1))]):=by simp (disch:=first|exact dsc|fail) only [dH,go_sem,seval,-List.reduceReplicate]
theorem dH_f3:(dH H mc st).f (H.n+3)=some (.cells [.clo 60 [] [.ptr (H.n+2) 0]]):=by simp (disch:=first|exact dsc|fail) only [dH,go_sem,seval,-List.reduceReplicate]
theorem dH_f4:(dH H mc st).f (H.n+4)=some (.cells [.p (bo st.2)]):=by simp (disch:=first|exact dsc|fail) only [dH,go_sem,seval,-List.reduceReplicate]
theorem dH_set1:(dH H mc st).set (H.n+1) (.cells mc')=dH H mc' st:=by simp (disch:=first|exact dsc|fail) only [dH,go_sem,seval,-List.reduceReplicate]
theorem dH_set:((dH H mc st).set (H.n+2) (.cells [.p (.sl false 1 (pl b8 st'.1))])).set (H.n+4) (.cells [.p (bo st'.2)])=dH H mc st':=by simp (disch:=first|exact dsc|fail) only [dH,go_sem,seval,-List.reduceReplicate]
theorem dH_trunc:(dH H mc st).trunc H.n=H:=by simp (disch:=first|exact dsc|fail) only [dH,go_sem,seval,-List.reduceReplicate]
end dh
def dK (H:Hp) (mc:List AV) (st:By × Bool) (i j:Nat):Hp:=((dH H mc st).new (.tail i)).new (.tail j)
section dk
variable {H:Hp} {mc mc':List AV} {st st':By × Bool} {i j k:Nat}
theorem dK_n:(dK H mc st i j).n=H.n+7:=by simp [dK,dH_n,Hp.n_new]
theorem dK_old {b:Nat} {x:AB} (h:(dH H mc st).f b=some x):(dK H mc st i j).f b=some x:=by
 have:=Hp.lt h
 unfold dK
 rw [Hp.f_new_old _ _ _ (by rw [Hp.n_new];omega),Hp.f_new_old _ _ _ this,h]
theorem dK_f0:(dK H mc st i j).f H.n=some (.cells (mG 0 0 0 [] (List.replicate 32 0#8) (.p (.sl true 1 [])) (.p (.sl true 2 [])))):=dK_old dH_f0
theorem dK_f1:(dK H mc st i j).f (H.n+1)=some (.cells mc):=dK_old dH_f1
theorem dK_f2:(dK H mc st i j).f (H.n+2)=some (.cells [.p (.sl false 1 (pl b8 st.1))]):=dK_old dH_f2
theorem dK_f3:(dK H mc st i j).f (H.n+3)=some (.cells [.clo 60 [] [.ptr (H.n+2) 0]]):=dK_old dH_f3
theorem dK_f4:(dK H mc st i j).f (H.n+4)=some (.cells [.p (bo st.2)]):=dK_old dH_f4
theorem dK_f5:(dK H mc st i j).f (H.n+5)=some (.tail i):=by simp (disch:=first|exact dsc|fail) only [dK,dH,go_sem,seval,-List.reduceReplicate]
theorem dK_f6:(dK H mc st i j).f (H.n+6)=some (.tail j):=by simp (disch:=first|exact dsc|fail) only [dK,dH,go_sem,seval,-List.reduceReplicate]
theorem dK_set1:(dK H mc st i j).set (H.n+1) (.cells mc')=dK H mc' st i j:=by simp (disch:=first|exact dsc|fail) only [dK,dH,go_sem,seval,-List.reduceReplicate]
theorem dK_set5:(dK H mc st i j).set (H.n+5) (.tail k)=dK H mc st k j:=by simp (disch:=first|exact dsc|fail) only [dK,dH,go_sem,seval,-List.reduceReplicate]
theorem dK_set6:(dK H mc st i j).set (H.n+6) (.tail k)=dK H mc st i k:=by simp (disch:=first|exact dsc|fail) only [dK,dH,go_sem,seval,-List.reduceReplicate]
theorem dK_set:((dK H mc st i j).set (H.n+2) (.cells [.p (.sl false 1 (pl b8 st'.1))])).set (H.n+4) (.cells [.p (bo st'.2)])=dK H mc st' i j:=by simp (disch:=first|exact dsc|fail) only [dK,dH,go_sem,seval,-List.reduceReplicate]
theorem dK_trunc:(dK H mc st i j).trunc H.n=H:=by simp (disch:=first|exact dsc|fail) only [dK,dH,go_sem,seval,-List.reduceReplicate]
theorem mG_bel {n:Nat} {a b c:Int} {tx r:By} {S V:AV} (hS:BelowN n S) (hV:BelowN n V) : ∀ y∈mG a b c tx r S V,BelowN n y:=fun y hy=>by
 simp only [mG,List.mem_cons,List.mem_append,List.not_mem_nil,or_false,cl,List.mem_map] at hy
 rcases hy with rfl | rfl | rfl | rfl | ⟨x,_,rfl⟩ | rfl | rfl<;>first | exact .p _ | assumption
theorem dK_bel {n:Nat} (hn:H.n+7≤n) (h:Bel H.n H) (hm : ∀ y∈mc,BelowN n y):Bel n (dK H mc st i j):=by
 unfold dK dH
 refine bel_newx (bel_newx (bel_newx (bel_newx (bel_newx (bel_newx (bel_newx (bel_start h (by omega)) ?_) hm) ?_) ?_) ?_) ?_) ?_
 · exact mG_bel (.p _) (.p _)
 · intro y hy;simp only [AB.vals,List.mem_singleton] at hy;subst hy;exact .p _
 · intro y hy;simp only [AB.vals,List.mem_singleton] at hy;subst hy
   refine .clo _ _ _ (fun i x h=>by simp at h) fun i x h => ?_
   have:i=0:=by have:=(List.getElem?_eq_some_iff.1 h).1;simpa using this
   subst this;simp at h;subst h;exact .ptr _ _ (by omega)
 · intro y hy;simp only [AB.vals,List.mem_singleton] at hy;subst hy;exact .p _
 · intro y hy;simp [AB.vals] at hy
 · intro y hy;simp [AB.vals] at hy
end dk
theorem dK_bel0 {H:Hp} {mc:List AV} {st:By × Bool} {i j:Nat} (h:Bel H.n H):Bel H.n (dK H mc st i j):=by
 unfold dK dH
 exact bel_new (bel_new (bel_new (bel_new (bel_new (bel_new (bel_new h (Nat.le_refl _)) (by simp only [n_new'];omega)) (by simp only [n_new'];omega)) (by simp only [n_new'];omega)) (by simp only [n_new'];omega)) (by simp only [n_new'];omega)) (by simp only [n_new'];omega)
def zP:PV := .agg ([i64 0,i64 0,i64 0,str (bytesOf [])]++(pl b8 (List.replicate 32 0#8)++[.sl true 1 [],.sl true 2 []]))
def toI (x:U):Int:=IntKind.i64.wrap x.toNat
attribute [go_sem] dK_n dK_f0 dK_f1 dK_f2 dK_f3 dK_f4 dK_f5 dK_f6 dK_set1 dK_set5 dK_set6 dK_trunc dH_n dH_f0 dH_f1 dH_f2 dH_f3 dH_f4 dH_set1 dH_trunc mG_len mG_set0 mG_set1 mG_set2 mG_set3 mG_setR mG_get36 mG_get37 mG_set36 mG_set37 mG_take mG_zero
def prs (w:List U):Nat → List Ext
 | 0=>[]
 | j+1=>prs w j++[⟨nth w (2*j),nth w (2*j+1)⟩]
theorem prs_succ {w:List U} {j:Nat}:prs w (j+1)=prs w j++[⟨nth w (2*j),nth w (2*j+1)⟩]:=rfl
theorem prs_len {w:List U} : ∀ {j},(prs w j).length=j
 | 0=>rfl
 | j+1=>by simp [prs,prs_len]
def mkD (l:By):Dg:=if h:l.length=32 then ⟨l,h⟩ else zD
theorem mkD_eq {l:By} (h:l.length=32):mkD l=⟨l,h⟩:=dif_pos h
def zM:Msg:=⟨0,0,0,[],zD,[],[]⟩
def d7 (kd se sp:Nat) (tx dgs:By) (us:List Int) (c:Nat) (vl:By) (s:By × Bool):Msg × Bool:=(⟨kd,se,sp,tx,mkD dgs,us,prs (wds vl (2*c)) c⟩,(tk s 8).2.2)
def d6 (kd se sp:Nat) (tx dgs:By) (us:List Int) (c:Nat) (s:By × Bool):Msg × Bool:=d7 kd se sp tx dgs us c (tk s (16*c)).1 (tk s (16*c)).2
def d5 (kd se sp:Nat) (tx dgs:By) (c:Nat) (s:By × Bool):Msg × Bool:=d6 kd se sp tx dgs ((wds (tk s (8*c)).1 c).map toI) (nth (tk (tk s (8*c)).2 1).1 0).toNat (tk (tk s (8*c)).2 1).2
def d4 (kd se sp:Nat) (tx dgs:By) (s:By × Bool):Msg × Bool:=d5 kd se sp tx dgs (nth (tk s 1).1 0).toNat (tk s 1).2
def d3 (kd se sp:Nat) (dgs:By) (tl:Nat) (s:By × Bool):Msg × Bool:=d4 kd se sp (tk s tl).1 dgs (tk s tl).2
def d2 (kd se sp:Nat) (dgs:By) (s:By × Bool):Msg × Bool:=d3 kd se sp dgs (rd (tk s 2).1).toNat (tk s 2).2
def d1 (hd:By) (s:By × Bool):Msg × Bool:=d2 (nth hd 0).toNat (rd ((hd.take 5).drop 1)).toNat (rd ((hd.take 9).drop 5)).toNat (hd.drop 9) s
def decM (b:By):Msg × Bool:=d1 (tk (b,true) 41).1 (tk (b,true) 41).2
def decF (b:By) (r:Msg × Bool):Msg × Int:=if r.2=false then (zM,6) else if enc r.1=b then (r.1,0) else (zM,5)
def dec (b:By):Msg × Int:=decF b (decM b)
section walks
variable {G:Globs} {r1 r2:Nat} {m1:List (Int × Rule)} {m2:List (Int × Int)}
theorem take_at (st:By × Bool) (hr:st.1.length≤140737488355000) (n:Nat) (hn:n≤100000) (H:Hp) (mc:List AV) (i j:Nat) (R:AV → Hp → Prop) (h:R (.p (.sl false 1 (pl b8 (tk st n).1))) (dK H mc (tk st n).2 i j)) :
 ACall Tryd.prog G 32 [.p (i64 n),.ptr (H.n+3) 0,.ptr (H.n+4) 0] (dK H mc st i j) R :=
 take_spec st hr n hn (H.n+2) (H.n+3) (H.n+4) _ dK_f2 dK_f3 dK_f4 (by omega) (by omega) R (by rw [dK_set];exact h)
theorem take_app (T:List AB) (st:By × Bool) (hr:st.1.length≤140737488355000) (n:Nat) (hn:n≤100000) (H:Hp) (mc:List AV) (i j:Nat) (R:AV → Hp → Prop) (h:R (.p (.sl false 1 (pl b8 (tk st n).1))) (app (dK H mc (tk st n).2 i j) T)) :
 ACall Tryd.prog G 32 [.p (i64 n),.ptr (H.n+3) 0,.ptr (H.n+4) 0] (app (dK H mc st i j) T) R :=
 take_spec st hr n hn (H.n+2) (H.n+3) (H.n+4) _ (app_f' dK_f2) (app_f' dK_f3) (app_f' dK_f4) (by omega) (by omega) R (by rw [app_set (by rw [dK_n];omega),app_set (by rw [Hp.n_set,dK_n];omega),dK_set];exact h)
theorem mG_aggZ:mkAgg (mG 0 0 0 [] (List.replicate 32 0#8) (.p (.sl true 1 [])) (.p (.sl true 2 []))) = .p zP:=by
 unfold mkAgg
 have h2:pvs? (cl b8 (List.replicate 32 0#8))=some (pl b8 (List.replicate 32 0#8)):=by rw [←pl_p];exact pvs_p _
 have h4:=pvs_app h2 (show pvs? [AV.p (.sl true 1 []),.p (.sl true 2 [])]=some [.sl true 1 [],.sl true 2 []] from rfl)
 have h5:=pvs_app (show pvs? [AV.p (i64 0),.p (i64 0),.p (i64 0),.p (str (bytesOf []))]=some [i64 0,i64 0,i64 0,str (bytesOf [])] from rfl) h4
 rw [show pvs? (mG 0 0 0 [] (List.replicate 32 0#8) (.p (.sl true 1 [])) (.p (.sl true 2 [])))=_ from h5]
 rfl
theorem weak_z:zP.weak=msg zM:=by
 show PV.agg (List.map PV.weak1 _)=_
 rw [List.map_append,List.map_append,pvweak1_map (l:=pl b8 _) fun x hx=>by simp only [pl,List.mem_map] at hx;obtain ⟨y,_,rfl⟩:=hx;rfl]
 rfl
theorem mG_aggZ':mkAgg (.p (i64 0) :: .p (i64 0) :: .p (i64 0) :: .p (str ByteArray.empty) :: List.map AV.p (pl b8 (List.replicate 32 0#8)++[PV.sl true 1 [],PV.sl true 2 []])) = .p zP:=by
 rw [←mG_aggZ];simp [mG,cl,pl,bytesOf_nil]
theorem acells_z:acells (.p zP)=some (mG 0 0 0 [] (List.replicate 32 0#8) (.p (.sl true 1 [])) (.p (.sl true 2 []))):=by
 show some ((_:List PV).map AV.p)=_
 simp [mG,cl,pl]
attribute [go_sem] mG_aggZ mG_aggZ' acells_z weak_z
def opt2:Option AV → Option AV → Option AV
 | some x,some y=>some (.tup [x,y])
 | _,_=>none
theorem opt2_some {x y:AV}:opt2 (some x) (some y)=some (.tup [x,y]):=rfl
theorem ares_ct {P:Program} {a t:Nat} {ty:TypeId} {env:Env} {H:Hp}:ares P [.cell a ty,.tmp t] env H=opt2 (aLoad P H ty (env a)) (some (env t)):=by
 simp only [ares,aresAll,aresOne]
 cases aLoad P H ty (env a)<;>rfl
def opt3:Option AV → Option AV → Option AV → Option AV
 | some x,some y,some z=>some (.tup [x,y,z])
 | _,_,_=>none
theorem opt3_some {x y z:AV}:opt3 (some x) (some y) (some z)=some (.tup [x,y,z]):=rfl
theorem ares_ctt {P:Program} {a t u:Nat} {ty:TypeId} {env:Env} {H:Hp}:ares P [.cell a ty,.tmp t,.tmp u] env H=opt3 (aLoad P H ty (env a)) (some (env t)) (some (env u)):=by
 simp only [ares,aresAll,aresOne]
 cases aLoad P H ty (env a)<;>rfl
theorem ares_cct {P:Program} {a b u:Nat} {ty ty':TypeId} {env:Env} {H:Hp}:ares P [.cell a ty,.cell b ty',.tmp u] env H=opt3 (aLoad P H ty (env a)) (aLoad P H ty' (env b)) (some (env u)):=by
 simp only [ares,aresAll,aresOne]
 cases aLoad P H ty (env a)<;>cases aLoad P H ty' (env b)<;>rfl
attribute [go_sem] opt2_some ares_ct opt3_some ares_ctt ares_cct
set_option maxHeartbeats 16000000 in
set_option maxRecDepth 20000 in
theorem Decode_spec (g:GR G r1 r2 m1 m2) (b:By) (hb:b.length≤140737488355000) (H:Hp) (R:AV → Hp → Prop) (h:R (.tup [.p (msg (dec b).1),.p (i64 (dec b).2)]) H):ACall Tryd.prog G 9 [.p (.sl false 1 (pl b8 b))] H R:=by
 have hen:enters Tryd.prog 32=true:=enters32
 have hz:(List.replicate 32 0#8:By).length=32:=List.length_replicate
 refine ACall.of_run (raw:=[]) Tryd.func9 rfl Tryd.ntmps9 (by simp) fun hbel => ?_
 (repeat refine .z rfl ?_);refine .text ?_;simp (disch:=first|exact dsc|fail) only [go_sem,seval,-List.reduceReplicate]
 (repeat refine .z rfl ?_);refine .text ?_;simp (disch:=first|exact dsc|fail) only [go_sem,seval,-List.reduceReplicate]
 (repeat refine .z rfl ?_);refine .text ?_;simp (disch:=first|exact dsc|fail) only [go_sem,seval,-List.reduceReplicate]
 refine CallK.of (fun R h=>consumer_spec b _ R h) ?_;simp (disch:=first|exact dsc|fail) only [go_sem,seval,-List.reduceReplicate]
 change ARun _ _ _ (dH H (mG 0 0 0 [] (List.replicate 32 0#8) (.p (.sl true 1 [])) (.p (.sl true 2 []))) (b,true)) R
 refine .ownC (H.n+1) 36 (by simp (disch:=first|exact dsc|fail) only [go_sem,seval,-List.reduceReplicate]<;>rfl) (mG_get36 hz) ?_
 simp (disch:=first|exact dsc|fail) only [go_sem,seval,-List.reduceReplicate,hz]
 refine .ownC (H.n+1) 37 (by simp (disch:=first|exact dsc|fail) only [go_sem,seval,-List.reduceReplicate]<;>rfl) (mG_get37 hz) ?_
 simp (disch:=first|exact dsc|fail) only [go_sem,seval,-List.reduceReplicate,hz]
 change ARun _ _ _ (dK H (mG 0 0 0 [] (List.replicate 32 0#8) (.sl (H.n+5) 0 1 []) (.sl (H.n+6) 0 2 [])) (b,true) 0 0) R
 have k1:(tk (b,true) 41).1.length=41:=tk_len
 have q1:=tk_le (st:=(b,true)) (n:=41)
 (repeat refine .z rfl ?_);refine .text ?_;simp (disch:=first|exact dsc|fail) only [go_sem,seval,-List.reduceReplicate]
 (repeat refine .z rfl ?_);refine .text ?_;simp (disch:=first|exact dsc|fail) only [go_sem,seval,-List.reduceReplicate,hen]
 refine CallK.of (fun R h=>take_at (b,true) hb 41 (by omega) H _ _ _ R h) ?_;simp (disch:=first|exact dsc|fail) only [go_sem,seval,-List.reduceReplicate]
 simp only at q1
 unfold dec decM at h
 generalize (tk (b,true) 41).2=s1 at *
 generalize (tk (b,true) 41).1=hd at *
 (repeat refine .z rfl ?_);refine .text ?_;simp (disch:=first|exact dsc|fail) only [go_sem,seval,-List.reduceReplicate,k1]
 have k3:((hd.take 5).drop 1).length=4:=by rw [List.length_drop,List.length_take];omega
 have k4:((hd.take 9).drop 5).length=4:=by rw [List.length_drop,List.length_take];omega
 have w3:=rd_lt4 (Nat.le_of_eq k3)
 have w4:=rd_lt4 (Nat.le_of_eq k4)
 have w5:=wrap_small (n:=(rd ((hd.take 5).drop 1)).toNat) (by omega)
 have w6:=wrap_small (n:=(rd ((hd.take 9).drop 5)).toNat) (by omega)
 have k2:(hd.drop 9).length=32:=by rw [List.length_drop,k1]
 (repeat refine .z rfl ?_);refine .text ?_;simp (disch:=first|exact dsc|fail) only [go_sem,seval,-List.reduceReplicate,k1]
 refine CallK.of (fun R h=>read_spec ((hd.take 5).drop 1) (by omega) _ R h) ?_;simp (disch:=first|exact dsc|fail) only [go_sem,seval,-List.reduceReplicate,w5]
 (repeat refine .z rfl ?_);refine .text ?_;simp (disch:=first|exact dsc|fail) only [go_sem,seval,-List.reduceReplicate,k1]
 refine CallK.of (fun R h=>read_spec ((hd.take 9).drop 5) (by omega) _ R h) ?_;simp (disch:=first|exact dsc|fail) only [go_sem,seval,-List.reduceReplicate,w6]
 unfold d1 at h
 generalize hse:(rd ((hd.take 5).drop 1)).toNat=se at *
 generalize hsp:(rd ((hd.take 9).drop 5)).toNat=sp at *
 generalize hdg:hd.drop 9=dgs at *
 generalize hkd:(nth hd 0).toNat=kd at *
 (repeat refine .z rfl ?_);refine .open [4] follows (by kernel_rfl) ?_;simp (disch:=first|exact dsc|fail) only [go_sem,seval,-List.reduceReplicate,k1,k2,hdg]
 -- the text
 have k5:(tk s1 2).1.length=2:=tk_len
 have q2:=tk_le (st:=s1) (n:=2)
 have w7:=rd_lt2 (Nat.le_of_eq k5)
 have w8:=wrap_small (n:=(rd (tk s1 2).1).toNat) (by omega)
 (repeat refine .z rfl ?_);refine .text ?_;simp (disch:=first|exact dsc|fail) only [go_sem,seval,-List.reduceReplicate]
 refine CallK.of (fun R h=>take_at s1 (by omega) 2 (by omega) H _ _ _ R h) ?_;simp (disch:=first|exact dsc|fail) only [go_sem,seval,-List.reduceReplicate]
 refine CallK.of (fun R h=>read_spec (tk s1 2).1 (by omega) _ R h) ?_;simp (disch:=first|exact dsc|fail) only [go_sem,seval,-List.reduceReplicate,w8]
 unfold d2 at h
 generalize hs2:(tk s1 2).2=s2 at *
 generalize htl:(rd (tk s1 2).1).toNat=tl at *
 have k6:(tk s2 tl).1.length=tl:=tk_len
 have q3:=tk_le (st:=s2) (n:=tl)
 refine CallK.of (fun R h=>take_at s2 (by omega) tl (by omega) H _ _ _ R h) ?_;simp (disch:=first|exact dsc|fail) only [go_sem,seval,-List.reduceReplicate,conv_bytes_str]
 unfold d3 at h
 generalize hs3:(tk s2 tl).2=s3 at *
 generalize htx:(tk s2 tl).1=tx at *
 -- the numbers
 have k7:(tk s3 1).1.length=1:=tk_len
 have q4:=tk_le (st:=s3) (n:=1)
 (repeat refine .z rfl ?_);refine .text ?_;simp (disch:=first|exact dsc|fail) only [go_sem,seval,-List.reduceReplicate]
 refine CallK.of (fun R h=>take_at s3 (by omega) 1 (by omega) H _ _ _ R h) ?_;simp (disch:=first|exact dsc|fail) only [go_sem,seval,-List.reduceReplicate,k7]
 unfold d4 at h
 generalize hs4:(tk s3 1).2=s4 at *
 generalize hc1:(nth (tk s3 1).1 0).toNat=c1 at *
 have hc1b:c1 < 256:=by rw [←hc1];exact (nth (tk s3 1).1 0).isLt
 obtain ⟨n8,hn8,h8⟩ : ∃ n8:Nat,n8=8*c1∧8*(c1:Int)=(n8:Int):=⟨8*c1,rfl,by omega⟩
 have k8:(tk s4 n8).1.length=n8:=tk_len
 have q5:=tk_le (st:=s4) (n:=n8)
 simp (disch:=first|exact dsc|fail) only [go_sem,seval,-List.reduceReplicate,h8]
 refine CallK.of (fun R h=>take_at s4 (by omega) n8 (by omega) H _ _ _ R h) ?_;simp (disch:=first|exact dsc|fail) only [go_sem,seval,-List.reduceReplicate]
 unfold d5 at h
 rw [←hn8] at h
 generalize hs5:(tk s4 n8).2=s5 at *
 generalize hsm:(tk s4 n8).1=sm at *
 refine CallK.of (fun R h=>words_spec sm c1 (by omega) (by omega) _ R h) ?_;simp (disch:=first|exact dsc|fail) only [go_sem,seval,-List.reduceReplicate,wds_len]
 generalize hws:wds sm c1=ws at *
 have hwl:ws.length=c1:=by rw [←hws];exact wds_len
 (repeat refine .z rfl ?_);refine .loopH [0,2,4,6,7,11,53,54,77] (fun i=>[(55,.p (i64 i))]) (fun i=>dK H (mG kd se sp tx dgs (.sl (H.n+5) i 1 (pl i64 ((ws.take i).map toI))) (.sl (H.n+6) 0 2 [])) s5 i 0) (fun i=>True) (0) (c1) (by omega) ?_ (by first | rfl | (simp (disch:=first|exact dsc|fail) only [go_sem,seval,-List.reduceReplicate,k2,List.take_zero,List.map_nil]<;>rfl)) ?_ ?_ ?_
 · simp (disch:=first|exact dsc|fail) only [go_sem,seval,-List.reduceReplicate,k2,List.take_zero,List.map_nil]<;>(repeat' (first | rfl | refine And.intro ?_ ?_))
 · exact trivial
 intro env E hQ;simp (disch:=first|exact dsc|fail) only [go_sem,seval,-List.reduceReplicate,k2,List.take_zero,List.map_nil] at E
 rotate_left 1
 intro i env hi0 hi E hQ ihE;simp (disch:=first|exact dsc|fail) only [go_sem,seval,-List.reduceReplicate,k2,List.take_zero,List.map_nil] at E
 rotate_left 1
 · have hwt:ws.take c1=ws:=List.take_of_length_le (by omega)
   rw [hwt] at *
   have hvl:(ws.map toI).length=c1:=by rw [List.length_map];exact hwl
   generalize ws.map toI=us at *
   (repeat refine .z rfl ?_);refine .text ?_;simp (disch:=first|exact dsc|fail) only [go_sem,seval,-List.reduceReplicate,E]
   (repeat refine .z rfl ?_);refine .ifF (by simp (disch:=first|exact dsc|fail) only [go_sem,seval,-List.reduceReplicate]) ?_
   have k9:(tk s5 1).1.length=1:=tk_len
   have q6:=tk_le (st:=s5) (n:=1)
   (repeat refine .z rfl ?_);refine .text ?_;simp (disch:=first|exact dsc|fail) only [go_sem,seval,-List.reduceReplicate,E,hen]
   refine CallK.of (fun R h=>take_at s5 (by omega) 1 (by omega) H _ _ _ R h) ?_;simp (disch:=first|exact dsc|fail) only [go_sem,seval,-List.reduceReplicate,k9]
   generalize hs6:(tk s5 1).2=s6 at *
   generalize hc2:(nth (tk s5 1).1 0).toNat=c2 at *
   have hc2b:c2 < 256:=by rw [←hc2];exact (nth (tk s5 1).1 0).isLt
   obtain ⟨n16,hn16,h16⟩ : ∃ n16:Nat,n16=16*c2∧16*(c2:Int)=(n16:Int):=⟨16*c2,rfl,by omega⟩
   have k10:(tk s6 n16).1.length=n16:=tk_len
   have q7:=tk_le (st:=s6) (n:=n16)
   simp (disch:=first|exact dsc|fail) only [go_sem,seval,-List.reduceReplicate,h16]
   refine CallK.of (fun R h=>take_at s6 (by omega) n16 (by omega) H _ _ _ R h) ?_;simp (disch:=first|exact dsc|fail) only [go_sem,seval,-List.reduceReplicate]
   unfold d6 at h
   rw [←hn16] at h
   generalize hs7:(tk s6 n16).2=s7 at *
   generalize hvm:(tk s6 n16).1=vm at *
   refine CallK.of (fun R h=>words_spec vm (2*c2) (by omega) (by omega) _ R h) ?_;simp (disch:=first|exact dsc|fail) only [go_sem,seval,-List.reduceReplicate,wds_len]
   unfold d7 at h
   generalize hwv:wds vm (2*c2)=wv at *
   have hwvl:wv.length=2*c2:=by rw [←hwv];exact wds_len
   refine CallK.of (fun R h=>ChunkW_spec wv 2 (by omega) _ R h) ?_;simp (disch:=first|exact dsc|fail) only [go_sem,seval,-List.reduceReplicate]
   (repeat refine .z rfl ?_);refine .rangeFunc (ps:=[77]) rfl (by simp (disch:=first|exact dsc|fail) only [go_sem,seval,-List.reduceReplicate];rfl) (by simp (disch:=first|exact dsc|fail) only [go_sem,seval,-List.reduceReplicate]) (by simp) fun L vs hL hvs hround => ?_;simp (disch:=first|exact dsc|fail) only [go_sem,seval,-List.reduceReplicate]
   refine ChunkW1_spec wv 2 c2 (by omega) hwvl (by omega) (H.n+9) (H.n+7) (H.n+8) (H.n+10) (fun j=>(((dK H (mG kd se sp tx dgs (.sl (H.n+5) c1 1 (pl i64 us)) (.sl (H.n+6) j 2 (pl ext (prs wv j)))) s7 c1 j).new (.cells [.p (.sl false 1 (pl w64 wv))])).new (.cells [.p (i64 (2:Nat))])).new (.obj vs (L .ready none))) (fun j=>by simp (disch:=first|exact dsc|fail) only [go_sem,seval,-List.reduceReplicate]) (fun j => ?_) (by omega) (fun j=>by simp (disch:=first|exact dsc|fail) only [go_sem,seval,-List.reduceReplicate]) (fun j=>by simp (disch:=first|exact dsc|fail) only [go_sem,seval,-List.reduceReplicate]) (fun j hj S K hK => ?_) _ ?_
   · (try dsimp only);(repeat (first | with_reducible exact hbel | with_reducible exact bel_start hbel dsc | with_reducible refine bel_newc ?_ | with_reducible refine bel_newp ?_ | with_reducible refine bel_newt ?_ | with_reducible refine bel_newo hvs ?_ dsc | with_reducible refine bel_cl ?_ | with_reducible refine bel_setp ?_ | with_reducible refine bel_sett ?_ | with_reducible refine bel_setd ?_ | with_reducible refine bel_newd ?_))
     exact dK_bel (by omega) hbel (mG_bel (.sl _ _ _ _ (by omega)) (.sl _ _ _ _ (by omega)))
   · rw [prs_succ] at hK
     have hpl:=prs_len (w:=wv) (j:=j)
     have hl:((wv.take (2*j+2)).drop (2*j)).length=2:=by rw [List.length_drop,List.length_take];omega
     have hx0:nth ((wv.take (2*j+2)).drop (2*j)) 0=nth wv (2*j):=by rw [nth_drop,nth_take (by omega)];rfl
     have hx1:nth ((wv.take (2*j+2)).drop (2*j)) 1=nth wv (2*j+1):=by rw [nth_drop,nth_take (by omega)]
     rw [←hx0,←hx1] at hK
     clear hx0 hx1
     generalize (wv.take (2*j+2)).drop (2*j)=x at *
     generalize prs wv j=ps at *
     refine hround _ _ _ rfl (by simp (disch:=first|exact dsc|fail) only [go_sem,seval,-List.reduceReplicate]) fun hbel2 => ?_
     dsimp only
     simp (disch:=first|exact dsc|fail) only [go_sem,seval,-List.reduceReplicate]
     (repeat refine .z rfl ?_);refine .text ?_;simp (disch:=first|exact dsc|fail) only [go_sem,seval,-List.reduceReplicate]
     (repeat refine .z rfl ?_);refine .beginRound rfl hL (by simp (disch:=first|exact dsc|fail) only [go_sem,seval,-List.reduceReplicate];rfl) ?_;simp (disch:=first|exact dsc|fail) only [go_sem,seval,-List.reduceReplicate]
     (repeat refine .z rfl ?_);refine .open [10,12] follows (by kernel_rfl) ?_;simp (disch:=first|exact dsc|fail) only [go_sem,seval,-List.reduceReplicate,E,k2,hpl,hl]
     (repeat refine .z rfl ?_);refine .roundEndK rfl hL (by simp (disch:=first|exact dsc|fail) only [go_sem,seval,-List.reduceReplicate];rfl) ?_;simp (disch:=first|exact dsc|fail) only [go_sem,seval,-List.reduceReplicate]
     exact hK
   · unfold LoopEnd;refine ⟨?_,.inl ⟨(by simp (disch:=first|exact dsc|fail) only [go_sem,seval,-List.reduceReplicate]<;>rfl),?_⟩⟩;(try dsimp only);(repeat (first | with_reducible exact hbel | with_reducible exact bel_start hbel dsc | with_reducible refine bel_newc ?_ | with_reducible refine bel_newp ?_ | with_reducible refine bel_newt ?_ | with_reducible refine bel_newo hvs ?_ dsc | with_reducible refine bel_cl ?_ | with_reducible refine bel_setp ?_ | with_reducible refine bel_sett ?_ | with_reducible refine bel_setd ?_ | with_reducible refine bel_newd ?_));simp (disch:=first|exact dsc|fail) only [go_sem,seval,-List.reduceReplicate]
     · exact dK_bel (by omega) hbel (mG_bel (.sl _ _ _ _ (by omega)) (.sl _ _ _ _ (by omega)))
     have ktx:tx.length=tl:=k6
     have kps:=prs_len (w:=wv) (j:=c2)
     rw [mkD_eq k2] at h
     generalize prs wv c2=ps at *
     simp (disch:=first|exact dsc|fail) only [go_sem,seval,-List.reduceReplicate]
     (repeat refine .z rfl ?_);refine .text ?_;simp (disch:=first|exact dsc|fail) only [go_sem,seval,-List.reduceReplicate,E,hen]
     refine CallK.of (fun R h=>take_app [.cells [.p (.sl false 1 (pl w64 wv))],.cells [.p (i64 2)]] s7 (by omega) 8 (by omega) H _ _ _ R h) ?_;simp (disch:=first|exact dsc|fail) only [go_sem,seval,-List.reduceReplicate]
     generalize (tk s7 8).2=s8 at *
     generalize [AB.cells [AV.p (PV.sl false 1 (pl w64 wv))],AB.cells [AV.p (i64 2)]]=T
     have hbel:Bel H.n (dK H (mG kd se sp tx dgs (.sl (H.n+5) c1 1 (pl i64 us)) (.sl (H.n+6) c2 2 (pl ext ps))) s8 c1 c2):=dK_bel0 hbel
     have hf4:(dK H (mG kd se sp tx dgs (.sl (H.n+5) c1 1 (pl i64 us)) (.sl (H.n+6) c2 2 (pl ext ps))) s8 c1 c2).f (H.n+4)=some (.cells [.p (bo s8.2)]):=dK_f4
     cases hok:s8.2 with
     | false =>
      rw [hok] at h hf4
      simp only [decF,if_true] at h
      (repeat refine .z rfl ?_);refine .text ?_;simp (disch:=first|exact dsc|fail) only [go_sem,seval,-List.reduceReplicate,E,hf4]
      (repeat refine .z rfl ?_);refine .ifT (by simp (disch:=first|exact dsc|fail) only [go_sem,seval,-List.reduceReplicate]) ?_
      (repeat refine .z rfl ?_);refine .text ?_;simp (disch:=first|exact dsc|fail) only [go_sem,seval,-List.reduceReplicate,E,hz]
      (repeat refine .z rfl ?_);refine .rt Tryd.func9 (by rw [Tryd.results9]) (hx:=by simp (disch:=first|exact dsc|fail) only [go_sem,seval,-List.reduceReplicate,E,hz];rfl) (hR := ?_);simp (disch:=first|exact dsc|fail) only [go_sem,seval,-List.reduceReplicate,E,hz]
      exact h
     | true =>
      rw [hok] at h hf4
      simp only [decF,Bool.true_eq_false,if_false] at h
      (repeat refine .z rfl ?_);refine .text ?_;simp (disch:=first|exact dsc|fail) only [go_sem,seval,-List.reduceReplicate,E,hf4]
      (repeat refine .z rfl ?_);refine .ifF (by simp (disch:=first|exact dsc|fail) only [go_sem,seval,-List.reduceReplicate]) ?_
      (repeat refine .z rfl ?_);refine .text ?_;simp (disch:=first|exact dsc|fail) only [go_sem,seval,-List.reduceReplicate,E,mG_agg k2]
      have hM:(⟨kd,se,sp,tx,⟨dgs,k2⟩,us,ps⟩:Msg).Ok:=⟨⟨by show (_:Int)≤(kd:Int);omega,by show (kd:Int)≤_;omega⟩,⟨by show (_:Int)≤(se:Int);omega,by show (se:Int)≤_;omega⟩,⟨by show (_:Int)≤(sp:Int);omega,by show (sp:Int)≤_;omega⟩,by show tx.length≤_;omega,by show us.length≤_;omega,by show ps.length≤_;omega⟩
      have hagg:=mG_agg (k:=kd) (s:=se) (t:=sp) (tx:=tx) (a:=H.n+5) (v:=c1) (a':=H.n+6) (v':=c2) (su:=us) (va:=ps) k2
      generalize (⟨kd,se,sp,tx,⟨dgs,k2⟩,us,ps⟩:Msg)=M at *
      refine CallK.of (fun R h=>Encode_spec g M hM _ R h) ?_;simp (disch:=first|exact dsc|fail) only [go_sem,seval,-List.reduceReplicate,E]
      refine CallK.of (fun R h=>Equal_spec _ _ _ R h) ?_;simp (disch:=first|exact dsc|fail) only [go_sem,seval,-List.reduceReplicate]
      by_cases he:enc M=b
      · rw [if_pos he] at h
        have d:decide (enc M=b)=true:=decide_eq_true he
        simp (disch:=first|exact dsc|fail) only [go_sem,seval,-List.reduceReplicate,d]
        (repeat refine .z rfl ?_);refine .ifF (by simp (disch:=first|exact dsc|fail) only [go_sem,seval,-List.reduceReplicate]) ?_
        (repeat refine .z rfl ?_);refine .text ?_;simp (disch:=first|exact dsc|fail) only [go_sem,seval,-List.reduceReplicate,E,hagg]
        (repeat refine .z rfl ?_);refine .rt Tryd.func9 (by rw [Tryd.results9]) (hx:=by simp (disch:=first|exact dsc|fail) only [go_sem,seval,-List.reduceReplicate,E,hz];rfl) (hR := ?_);simp (disch:=first|exact dsc|fail) only [go_sem,seval,-List.reduceReplicate,E,hz]
        exact h
      · rw [if_neg he] at h
        have d:decide (enc M=b)=false:=decide_eq_false he
        simp (disch:=first|exact dsc|fail) only [go_sem,seval,-List.reduceReplicate,d]
        (repeat refine .z rfl ?_);refine .ifT (by simp (disch:=first|exact dsc|fail) only [go_sem,seval,-List.reduceReplicate]) ?_
        (repeat refine .z rfl ?_);refine .text ?_;simp (disch:=first|exact dsc|fail) only [go_sem,seval,-List.reduceReplicate,E,hz]
        (repeat refine .z rfl ?_);refine .rt Tryd.func9 (by rw [Tryd.results9]) (hx:=by simp (disch:=first|exact dsc|fail) only [go_sem,seval,-List.reduceReplicate,E,hz];rfl) (hR := ?_);simp (disch:=first|exact dsc|fail) only [go_sem,seval,-List.reduceReplicate,E,hz]
        exact h
 · have hst:(ws.take (i+1)).map toI=(ws.take i).map toI++[toI (nth ws i)]:=by rw [take_succ_nth (by omega),List.map_append];rfl
   have hli:((ws.take i).map toI).length=i:=by rw [List.length_map,List.length_take];omega
   rw [hst] at ihE
   have htoI : ∀ x:U,IntKind.i64.wrap (x.toNat:Int)=toI x:=fun _=>rfl
   generalize (ws.take i).map toI=us at *
   (repeat refine .z rfl ?_);refine .text ?_;simp (disch:=first|exact dsc|fail) only [go_sem,seval,-List.reduceReplicate,E]
   (repeat refine .z rfl ?_);refine .ifT (by simp (disch:=first|exact dsc|fail) only [go_sem,seval,-List.reduceReplicate]) ?_
   (repeat refine .z rfl ?_);refine .text ?_;simp (disch:=first|exact dsc|fail) only [go_sem,seval,-List.reduceReplicate,E]
   (repeat refine .z rfl ?_);refine .text ?_;simp (disch:=first|exact dsc|fail) only [go_sem,seval,-List.reduceReplicate,E,k2,hli,htoI]
   (repeat refine .z rfl ?_);refine .text ?_;simp (disch:=first|exact dsc|fail) only [go_sem,seval,-List.reduceReplicate,E]
   first | (refine ihE _ _ ?_ trivial ?_) | (refine .z rfl ?_;refine ihE _ _ ?_ trivial ?_) | (refine .z rfl ?_;refine .z rfl ?_;refine ihE _ _ ?_ trivial ?_) | (refine .z rfl ?_;refine .z rfl ?_;refine .z rfl ?_;refine ihE _ _ ?_ trivial ?_)
   · simp (disch:=first|exact dsc|fail) only [go_sem,seval,-List.reduceReplicate,E]<;>(repeat' (first | rfl | refine And.intro ?_ ?_))
   · first | rfl | (simp (disch:=first|exact dsc|fail) only [go_sem,seval,-List.reduceReplicate,E]<;>(try rfl))
end walks
end Go.Proofs.YtmoecjgehdkhkaaDoor

/-
  Sessions: their states,sending and receiving.
-/
namespace Go.Proofs.YtmoecjgehdkhkaaDoor
open Go Go.AL

def newS (id due:Int):Ses:=⟨id,0,0,[],zD,zM,due,0,0,0⟩
def nS (id due:Int):PV := .agg ([i64 id,i64 0,i64 0,str (bytesOf [])]++(pl b8 (List.replicate 32 0#8)++([i64 0,i64 0,i64 0,str (bytesOf [])]++(pl b8 (List.replicate 32 0#8)++[.sl true 1 [],.sl true 2 [],i64 due,i64 0,i64 0,i64 0]))))
def nC (id due:Int):List AV:=([i64 id,i64 0,i64 0,str (bytesOf [])]++(pl b8 (List.replicate 32 0#8)++([i64 0,i64 0,i64 0,str (bytesOf [])]++(pl b8 (List.replicate 32 0#8)++[.sl true 1 [],.sl true 2 [],i64 due,i64 0,i64 0,i64 0])))).map .p
theorem nS_mk {id due:Int}:mkAgg (AV.p (i64 id) :: AV.p (i64 0) :: AV.p (i64 0) :: AV.p (str ByteArray.empty) :: (List.map AV.p (pl b8 (List.replicate 32 0#8)++[i64 0,i64 0,i64 0,str ByteArray.empty]++pl b8 (List.replicate 32 0#8)++[PV.sl true 1 [],PV.sl true 2 [],i64 0,i64 0,i64 0,i64 0])).set 70 (AV.p (i64 due))) = .p (nS id due):=rfl
theorem nS_cells {id due:Int}:acells (.p (nS id due))=some (nC id due):=rfl
theorem nC_len {id due:Int}:(nC id due).length=78:=rfl
theorem nC_agg {id due:Int}:mkAgg (nC id due) = .p (nS id due):=rfl
theorem nC_take {id due:Int}:(nC id due).take 78=nC id due:=rfl
theorem nS_weak {id due:Int}:(nS id due).weak=ses (newS id due):=rfl
theorem nC_zero:AV.p (i64 0) :: AV.p (i64 0) :: AV.p (i64 0) :: AV.p (str ByteArray.empty) :: List.map AV.p (pl b8 (List.replicate 32 0#8)++[i64 0,i64 0,i64 0,str ByteArray.empty]++pl b8 (List.replicate 32 0#8)++[PV.sl true 1 [],PV.sl true 2 [],i64 0,i64 0,i64 0,i64 0])=nC 0 0:=rfl
theorem nC_set0 {a b id:Int}:(nC a b).set 0 (.p (i64 id))=nC id b:=rfl
theorem nC_set74 {a b due:Int}:(nC a b).set 74 (.p (i64 due))=nC a due:=rfl
theorem pair_len {a b:By}:(pair a b).length=32:=sha_len _
theorem ssetR' {s:Ses} {x:By} (h:x.length=32):setAt (scl s) 4 (cl b8 x)=scl { s with seen:=⟨x,h⟩ }:=ssetR (d:=⟨x,h⟩)
theorem acells3 {a b c:PV}:acells (.p (.agg [a,b,c]))=some [.p a,.p b,.p c]:=rfl
theorem mkAgg3 {a b c:PV}:mkAgg [.p a,.p b,.p c] = .p (.agg [a,b,c]):=rfl
attribute [go_sem] acells3 mkAgg3 nC_set0 nC_set74 ssetR' nS_mk nS_cells nC_len nC_agg nC_take nS_weak
section walks
variable {G:Globs} {r1 r2:Nat} {m1:List (Int × Rule)} {m2:List (Int × Int)}
theorem New_spec (id due:Int) (H:Hp) (R:AV → Hp → Prop) (h:R (.p (ses (newS id due))) H):ACall Tryd.prog G 15 [.p (i64 id),.p (i64 due)] H R:=by
 refine ACall.of_run (raw:=[]) Tryd.func15 rfl Tryd.ntmps15 (by simp) fun hbel => ?_
 (repeat refine .z rfl ?_);refine .text ?_;simp (disch:=first|exact dsc|fail) only [go_sem,seval,-List.reduceReplicate]
 (repeat refine .z rfl ?_);refine .text ?_;simp (disch:=first|exact dsc|fail) only [go_sem,seval,-List.reduceReplicate,nC_zero]
 (repeat refine .z rfl ?_);refine .rt Tryd.func15 (by rw [Tryd.results15]) (hR := ?_);simp (disch:=first|exact dsc|fail) only [go_sem,seval,-List.reduceReplicate]
 exact h
theorem final_spec (s:Ses) (b:Nat) (H:Hp) (hb:H.f b=some (.cells (scl s))) (R:AV → Hp → Prop) (h:R (.p (bo (decide (3≤s.state)))) H):ACall Tryd.prog G 46 [.ptr b 0] H R:=by
 refine ACall.of_run (raw:=[]) Tryd.func46 rfl Tryd.ntmps46 (by simp) fun hbel => ?_
 (repeat refine .z rfl ?_);refine .text ?_;simp (disch:=first|exact dsc|fail) only [go_sem,seval,-List.reduceReplicate]
 (repeat refine .z rfl ?_);refine .text ?_;simp (disch:=first|exact dsc|fail) only [go_sem,seval,-List.reduceReplicate,hb]
 (repeat refine .z rfl ?_);refine .rt Tryd.func46 (by rw [Tryd.results46]) (hR := ?_);simp (disch:=first|exact dsc|fail) only [go_sem,seval,-List.reduceReplicate]
 exact h
def sends (s:Ses):Bool:=(((s.last.kind != 0) && (s.last.step % 2 == 0)) == (s.step % 2 == 0))
theorem sends_spec (s:Ses) (h1:0≤s.step) (h2:0≤s.last.step) (b:Nat) (H:Hp) (hb:H.f b=some (.cells (scl s))) (R:AV → Hp → Prop) (h:R (.p (bo (sends s))) H):ACall Tryd.prog G 47 [.ptr b 0] H R:=by
 unfold sends at h
 refine ACall.of_run (raw:=[]) Tryd.func47 rfl Tryd.ntmps47 (by simp) fun hbel => ?_
 (repeat refine .z rfl ?_);refine .text ?_;simp (disch:=first|exact dsc|fail) only [go_sem,seval,-List.reduceReplicate]
 (repeat refine .z rfl ?_);refine .text ?_;simp (disch:=first|exact dsc|fail) only [go_sem,seval,-List.reduceReplicate,hb]
 (first | refine guarded_split (fun c1 => ?_) (fun c1 => ?_) | refine guardedD_split (fun c1 => ?_) (fun c1 => ?_))<;>(try simp only [Bool.not_eq_true',Bool.not_eq_false'] at c1)<;>simp (disch:=first|exact dsc|fail) only [go_sem,seval,-List.reduceReplicate,c1,hb]
 · rw [c1] at h
   (repeat refine .z rfl ?_);refine .text ?_;simp (disch:=first|exact dsc|fail) only [go_sem,seval,-List.reduceReplicate,hb]
   (repeat refine .z rfl ?_);refine .rt Tryd.func47 (by rw [Tryd.results47]) (hR := ?_);simp (disch:=first|exact dsc|fail) only [go_sem,seval,-List.reduceReplicate]
   exact h
 · rw [c1] at h
   (repeat refine .z rfl ?_);refine .text ?_;simp (disch:=first|exact dsc|fail) only [go_sem,seval,-List.reduceReplicate,hb]
   (repeat refine .z rfl ?_);refine .rt Tryd.func47 (by rw [Tryd.results47]) (hR := ?_);simp (disch:=first|exact dsc|fail) only [go_sem,seval,-List.reduceReplicate]
   exact h
def addS (s:Ses) (m:Msg) (b:By):Ses :=
 { s with step:=s.step+1,seen:=⟨pair s.seen.val (sha b),pair_len⟩,bytes:=s.bytes+b.length,rounds:=s.rounds+1,words:=s.words+m.sums.length+2*m.values.length,state:=(stateT m.kind).getD 0,text:=if m.kind=1 then m.text else s.text }
theorem scl_bel {n b:Nat} {H:Hp} {s:Ses} (h:Bel n H):Bel n (H.set b (.cells (scl s))):=bel_setx h fun y hy=>by
 simp only [AB.vals,scl,List.mem_map] at hy
 obtain ⟨x,_,rfl⟩:=hy
 exact .p _
set_option maxHeartbeats 4000000 in
set_option maxRecDepth 20000 in
theorem add_spec (g:GR G r1 r2 m1 m2) (s:Ses) (m:Msg) (hm:m.Ok) (b:By) (hb:b.length≤140737488353000) (h1:0≤s.step∧s.step≤1000000000000) (h2:0≤s.bytes∧s.bytes≤1000000000000000000) (h3:0≤s.rounds∧s.rounds≤1000000000000) (h4:0≤s.words∧s.words≤1000000000000000000)
 (c:Nat) (H:Hp) (hc:H.f c=some (.cells (scl s))) (R:AV → Hp → Prop) (h:R (.tup []) (H.set c (.cells (scl (addS s m b))))):ACall Tryd.prog G 49 [.ptr c 0,.p (msg m),.p (.sl false 1 (pl b8 b))] H R:=by
 have hcn:=Hp.lt hc
 have e1:=g.g2
 have e2:=g.h2
 have e3:=g.state hm.kind
 have hsu:=hm.sums
 have hva:=hm.values
 have hsl:=s.seen.len
 have hsh:=sha_len b
 have hp:(pair s.seen.val (sha b)).length=32:=pair_len
 refine ACall.of_run (raw:=[]) Tryd.func49 rfl Tryd.ntmps49 (by simp) fun hbel => ?_
 (repeat refine .z rfl ?_);refine .text ?_;simp (disch:=first|exact dsc|fail) only [go_sem,seval,-List.reduceReplicate]
 (repeat refine .z rfl ?_);refine .text ?_;simp (disch:=first|exact dsc|fail) only [go_sem,seval,-List.reduceReplicate,hc]
 (repeat refine .z rfl ?_);refine .open [10] follows (by kernel_rfl) ?_;simp (disch:=first|exact dsc|fail) only [go_sem,seval,-List.reduceReplicate]
 refine CallD.still (fun R h=>Sum_spec g.s0 g.s1 b hb _ R h) ?_;simp (disch:=first|exact dsc|fail) only [go_sem,seval,-List.reduceReplicate,hsh]
 refine CallD.still (fun R h=>Pair_spec g.s0 g.s1 _ _ hsl hsh _ R h) ?_;simp (disch:=first|exact dsc|fail) only [go_sem,seval,-List.reduceReplicate,hp]
 (repeat refine .z rfl ?_);refine .open [32] follows (by kernel_rfl) ?_;simp (disch:=first|exact dsc|fail) only [go_sem,seval,-List.reduceReplicate]
 (repeat refine .z rfl ?_);refine .text ?_;simp (disch:=first|exact dsc|fail) only [go_sem,seval,-List.reduceReplicate,e1,e2,e3]
 (repeat refine .z rfl ?_);refine .text ?_;simp (disch:=first|exact dsc|fail) only [go_sem,seval,-List.reduceReplicate]
 have hbel:=fun x=>scl_bel (b:=c) (s:=x) hbel
 (repeat refine .z rfl ?_);refine .ifB (by simp (disch:=first|exact dsc|fail) only [go_sem,seval,-List.reduceReplicate];rfl) (fun hk => ?_) (fun hk => ?_)
 · have hk1:m.kind=1:=by simpa using hk
   unfold addS at h
   rw [if_pos hk1] at h
   (repeat refine .z rfl ?_);refine .text ?_;simp (disch:=first|exact dsc|fail) only [go_sem,seval,-List.reduceReplicate]
   (repeat refine .z rfl ?_);refine .fin Tryd.func49 (by rw [Tryd.results49]) (by simp (disch:=first|exact dsc|fail) only [go_sem,seval,-List.reduceReplicate];rfl) (by simp (disch:=first|exact dsc|fail) only [go_sem,seval,-List.reduceReplicate];rfl) (by (try dsimp only);repeat (first | with_reducible refine bel_new ?_ dsc | with_reducible refine bel_appl ?_ dsc | with_reducible refine bel_set ?_ dsc | with_reducible refine bel_cl ?_ | with_reducible exact hbel | with_reducible exact hbel _)) ?_;simp (disch:=first|exact dsc|fail) only [go_sem,seval,-List.reduceReplicate]
   exact h
 · have hk1:m.kind≠1:=by simpa using hk
   unfold addS at h
   rw [if_neg hk1] at h
   refine .skip ?_
   (repeat refine .z rfl ?_);refine .fin Tryd.func49 (by rw [Tryd.results49]) (by simp (disch:=first|exact dsc|fail) only [go_sem,seval,-List.reduceReplicate];rfl) (by simp (disch:=first|exact dsc|fail) only [go_sem,seval,-List.reduceReplicate];rfl) (by (try dsimp only);repeat (first | with_reducible refine bel_new ?_ dsc | with_reducible refine bel_appl ?_ dsc | with_reducible refine bel_set ?_ dsc | with_reducible refine bel_cl ?_ | with_reducible exact hbel | with_reducible exact hbel _)) ?_;simp (disch:=first|exact dsc|fail) only [go_sem,seval,-List.reduceReplicate]
   exact h
end walks
theorem enc_len {m:Msg} (h:valid m=true):50≤(enc m).length∧(enc m).length≤3000:=by
 obtain ⟨b1,b2,b3⟩:=valid_b h
 have:=m.root.len
 rw [enc,h,if_pos rfl]
 simp only [enc0,List.length_append,le_len,encS_len,encV_len,List.length_take,sha_len,List.length_cons,List.length_nil]
 omega
def sH (H:Hp) (s:Ses) (m:Msg) (o:List AV) (x:Ses):Hp:=(((H.new (.cells (scl s))).new (.cells (mcl m))).new (.cells o)).new (.cells (scl x))
section sh
variable {H:Hp} {s s' x x':Ses} {m m':Msg} {o o':List AV}
theorem sH_n:(sH H s m o x).n=H.n+4:=by simp [sH,Hp.n_new]
theorem sH_f0:(sH H s m o x).f H.n=some (.cells (scl s)):=by simp (disch:=first|exact dsc|fail) only [sH,go_sem,seval]
theorem sH_f1:(sH H s m o x).f (H.n+1)=some (.cells (mcl m)):=by simp (disch:=first|exact dsc|fail) only [sH,go_sem,seval]
theorem sH_f2:(sH H s m o x).f (H.n+2)=some (.cells o):=by simp (disch:=first|exact dsc|fail) only [sH,go_sem,seval]
theorem sH_f3:(sH H s m o x).f (H.n+3)=some (.cells (scl x)):=by simp (disch:=first|exact dsc|fail) only [sH,go_sem,seval]
theorem sH_set0:(sH H s m o x).set H.n (.cells (scl s'))=sH H s' m o x:=by simp (disch:=first|exact dsc|fail) only [sH,go_sem,seval]
theorem sH_set1:(sH H s m o x).set (H.n+1) (.cells (mcl m'))=sH H s m' o x:=by simp (disch:=first|exact dsc|fail) only [sH,go_sem,seval]
theorem sH_set2:(sH H s m o x).set (H.n+2) (.cells o')=sH H s m o' x:=by simp (disch:=first|exact dsc|fail) only [sH,go_sem,seval]
theorem sH_set3:(sH H s m o x).set (H.n+3) (.cells (scl x'))=sH H s m o x':=by simp (disch:=first|exact dsc|fail) only [sH,go_sem,seval]
theorem sH_trunc:(sH H s m o x).trunc H.n=H:=by simp (disch:=first|exact dsc|fail) only [sH,go_sem,seval]
theorem sH_def:(((H.new (.cells (scl s))).new (.cells (mcl m))).new (.cells o)).new (.cells (scl x))=sH H s m o x:=rfl
theorem sH_bel (h:Bel H.n H):Bel H.n (sH H s m o x):=by
 unfold sH
 exact bel_new (bel_new (bel_new (bel_new h (Nat.le_refl _)) (by simp only [n_new'];omega)) (by simp only [n_new'];omega)) (by simp only [n_new'];omega)
end sh
attribute [go_sem] sH_n sH_f0 sH_f1 sH_f2 sH_f3 sH_set0 sH_set1 sH_set2 sH_set3 sH_trunc
section walks
variable {G:Globs} {r1 r2:Nat} {m1:List (Int × Rule)} {m2:List (Int × Int)}
def sBad (s:Ses) (m:Msg):Bool:=decide (3≤s.state) || (s.state != 0 && !sends s) || !fits m.kind s.step
def sMsg (s:Ses) (m:Msg):Msg := { m with session:=s.id,step:=s.step,root:=if m.kind != 2 then s.seen else m.root }
def send (s:Ses) (m:Msg):Ses × By × Int :=
 if sBad s m then (s,[],290) else if valid (sMsg s m) then ({ addS s (sMsg s m) (enc (sMsg s m)) with last:=sMsg s m },enc (sMsg s m),0) else (s,[],1)
structure Ses.Ok (s:Ses):Prop where
 id:okI s.id
 step:0≤s.step∧s.step≤1000000000000
 last:0≤s.last.step
 bytes:0≤s.bytes∧s.bytes≤1000000000000000000
 rounds:0≤s.rounds∧s.rounds≤1000000000000
 words:0≤s.words∧s.words≤1000000000000000000
set_option maxHeartbeats 4000000 in
set_option maxRecDepth 20000 in
theorem Send_spec (g:GR G r1 r2 m1 m2) (s:Ses) (hs:s.Ok) (m:Msg) (hm:m.Ok) (H:Hp) (R:AV → Hp → Prop) (h:R (.tup [.p (ses (send s m).1),.p (.sl false 1 (pl b8 (send s m).2.1)),.p (i64 (send s m).2.2)]) H):ACall Tryd.prog G 19 [.p (ses s),.p (msg m)] H R:=by
 have hstep:=hs.step
 have hko:okI s.step:=⟨by omega,by omega⟩
 refine ACall.of_run (raw:=[]) Tryd.func19 rfl Tryd.ntmps19 (by simp) fun hbel => ?_
 (repeat refine .z rfl ?_);refine .text ?_;simp (disch:=first|exact dsc|fail) only [go_sem,seval,-List.reduceReplicate,nC_zero]
 (repeat refine .z rfl ?_);refine .text ?_;simp (disch:=first|exact dsc|fail) only [go_sem,seval,-List.reduceReplicate,nC_zero]
 rw [sH_def]
 have hbel:=fun s m o x=>sH_bel (s:=s) (m:=m) (o:=o) (x:=x) hbel
 have hin : ∀ R,R (.p (bo (decide (3≤s.state)))) (sH H s m (nC 0 0) s) → ACall Tryd.prog G 46 [.ptr (H.n+3) 0] (sH H s m (nC 0 0) s) R:=fun R h=>final_spec s (H.n+3) _ sH_f3 R h
 have hsn : ∀ R,R (.p (bo (sends s))) (sH H s m (nC 0 0) s) → ACall Tryd.prog G 47 [.ptr (H.n+3) 0] (sH H s m (nC 0 0) s) R:=fun R h=>sends_spec s hstep.1 hs.last (H.n+3) _ sH_f3 R h
 (repeat refine .z rfl ?_);refine .cutE [2,3,4,7] [(28,.p (bo (sBad s m)))] [] (fun ihE => ?_) (fun env E => ?_)
 rotate_left 1
 simp (disch:=first|exact dsc|fail) only [go_sem,seval,-List.reduceReplicate] at E
 rotate_left 1
 · unfold sBad at ihE
   (repeat refine .z rfl ?_);refine .text ?_;simp (disch:=first|exact dsc|fail) only [go_sem,seval,-List.reduceReplicate]
   refine CallK.of (fun R h=>hin R h) ?_;simp (disch:=first|exact dsc|fail) only [go_sem,seval,-List.reduceReplicate]
   cases f1:decide (3≤s.state) with
   | true =>
    rw [f1] at ihE
    simp (disch:=first|exact dsc|fail) only [go_sem,seval,-List.reduceReplicate]
    first | (refine ihE _ _ ?_ ?_) | (refine .z rfl ?_;refine ihE _ _ ?_ ?_) | (refine .z rfl ?_;refine .z rfl ?_;refine ihE _ _ ?_ ?_) | (refine .z rfl ?_;refine .z rfl ?_;refine .z rfl ?_;refine ihE _ _ ?_ ?_)
    · simp (disch:=first|exact dsc|fail) only [go_sem,seval,-List.reduceReplicate]<;>(repeat' (first | rfl | refine And.intro ?_ ?_))
    · first | rfl | (simp (disch:=first|exact dsc|fail) only [go_sem,seval,-List.reduceReplicate]<;>(try rfl))
   | false =>
    rw [f1] at ihE
    simp (disch:=first|exact dsc|fail) only [go_sem,seval,-List.reduceReplicate]
    cases f2:s.state != 0 with
    | false =>
     rw [f2] at ihE
     simp (disch:=first|exact dsc|fail) only [go_sem,seval,-List.reduceReplicate,f2]
     refine CallK.of (fun R h=>fits_spec g _ _ hm.kind hko _ R h) ?_;simp (disch:=first|exact dsc|fail) only [go_sem,seval,-List.reduceReplicate]
     first | (refine ihE _ _ ?_ ?_) | (refine .z rfl ?_;refine ihE _ _ ?_ ?_) | (refine .z rfl ?_;refine .z rfl ?_;refine ihE _ _ ?_ ?_) | (refine .z rfl ?_;refine .z rfl ?_;refine .z rfl ?_;refine ihE _ _ ?_ ?_)
     · simp (disch:=first|exact dsc|fail) only [go_sem,seval,-List.reduceReplicate]<;>(repeat' (first | rfl | refine And.intro ?_ ?_))
     · first | rfl | (simp (disch:=first|exact dsc|fail) only [go_sem,seval,-List.reduceReplicate]<;>(try rfl))
    | true =>
     rw [f2] at ihE
     simp (disch:=first|exact dsc|fail) only [go_sem,seval,-List.reduceReplicate,f2]
     refine CallK.of (fun R h=>hsn R h) ?_;simp (disch:=first|exact dsc|fail) only [go_sem,seval,-List.reduceReplicate]
     cases f3:sends s with
     | false =>
      rw [f3] at ihE
      simp (disch:=first|exact dsc|fail) only [go_sem,seval,-List.reduceReplicate]
      first | (refine ihE _ _ ?_ ?_) | (refine .z rfl ?_;refine ihE _ _ ?_ ?_) | (refine .z rfl ?_;refine .z rfl ?_;refine ihE _ _ ?_ ?_) | (refine .z rfl ?_;refine .z rfl ?_;refine .z rfl ?_;refine ihE _ _ ?_ ?_)
      · simp (disch:=first|exact dsc|fail) only [go_sem,seval,-List.reduceReplicate]<;>(repeat' (first | rfl | refine And.intro ?_ ?_))
      · first | rfl | (simp (disch:=first|exact dsc|fail) only [go_sem,seval,-List.reduceReplicate]<;>(try rfl))
     | true =>
      rw [f3] at ihE
      simp (disch:=first|exact dsc|fail) only [go_sem,seval,-List.reduceReplicate]
      refine CallK.of (fun R h=>fits_spec g _ _ hm.kind hko _ R h) ?_;simp (disch:=first|exact dsc|fail) only [go_sem,seval,-List.reduceReplicate]
      first | (refine ihE _ _ ?_ ?_) | (refine .z rfl ?_;refine ihE _ _ ?_ ?_) | (refine .z rfl ?_;refine .z rfl ?_;refine ihE _ _ ?_ ?_) | (refine .z rfl ?_;refine .z rfl ?_;refine .z rfl ?_;refine ihE _ _ ?_ ?_)
      · simp (disch:=first|exact dsc|fail) only [go_sem,seval,-List.reduceReplicate]<;>(repeat' (first | rfl | refine And.intro ?_ ?_))
      · first | rfl | (simp (disch:=first|exact dsc|fail) only [go_sem,seval,-List.reduceReplicate]<;>(try rfl))
 · unfold send at h
   cases hbad:sBad s m with
   | true =>
    rw [hbad,if_pos rfl] at h
    (repeat refine .z rfl ?_);refine .ifT (by simp (disch:=first|exact dsc|fail) only [go_sem,seval,-List.reduceReplicate,E,hbad]) ?_
    (repeat refine .z rfl ?_);refine .text ?_;simp (disch:=first|exact dsc|fail) only [go_sem,seval,-List.reduceReplicate,E,sets_nil]
    (repeat refine .z rfl ?_);refine .rt Tryd.func19 (by rw [Tryd.results19]) (hx:=by simp (disch:=first|exact dsc|fail) only [go_sem,seval,-List.reduceReplicate,E];rfl) (hR := ?_);simp (disch:=first|exact dsc|fail) only [go_sem,seval,-List.reduceReplicate,E]
    exact h
   | false =>
    rw [hbad] at h
    simp only [Bool.false_eq_true,if_false] at h
    (repeat refine .z rfl ?_);refine .ifF (by simp (disch:=first|exact dsc|fail) only [go_sem,seval,-List.reduceReplicate,E,hbad]) ?_
    rw [sets_nil]
    (repeat refine .z rfl ?_)
    refine .openInv (fun L env' H'=>env' 2 = .ptr H.n 0∧env' 3 = .ptr (H.n+1) 0∧env' 4 = .ptr (H.n+2) 0∧env' 7 = .ptr (H.n+3) 0∧(L 0=true → env' 30 = .ptr H.n 0)∧(L 1=true → env' 31 = .p (i64 s.id))∧(L 2=true → env' 32 = .ptr H.n 1)∧(L 3=true → env' 33 = .p (i64 s.step))∧(L 4=true → env' 34 = .ptr (H.n+1) 1)∧(L 6=true → env' 35 = .ptr (H.n+1) 2)∧(L 5=true → allT L [0,1,4])∧(L 7=true → allT L [0,1,2,3,4,5,6])∧H'=(sH H s (if L 7 then { m with session:=s.id,step:=s.step } else if L 5 then { m with session:=s.id } else m) (nC 0 0) s)) follows (by kernel_rfl) ?_ ?_ ?_
    · exact ⟨(by simp (disch:=first|exact dsc|fail) only [go_sem,seval,-List.reduceReplicate,E]),(by simp (disch:=first|exact dsc|fail) only [go_sem,seval,-List.reduceReplicate,E]),(by simp (disch:=first|exact dsc|fail) only [go_sem,seval,-List.reduceReplicate,E]),(by simp (disch:=first|exact dsc|fail) only [go_sem,seval,-List.reduceReplicate,E]),(fun h=>by cases h),(fun h=>by cases h),(fun h=>by cases h),(fun h=>by cases h),(fun h=>by cases h),(fun h=>by cases h),(fun h=>by cases h),(fun h=>by cases h),(by first | rfl | (simp only [Bool.false_eq_true,if_false];first | rfl | (simp (disch:=first|exact dsc|fail) only [go_sem,seval,-List.reduceReplicate,E]<;>rfl)))⟩
    · intro i o L env' H' ho hL hall hI
      obtain ⟨f0,f1,f2,f3,g0,g1,g2,g3,g4,g6,m5,m7,rfl⟩:=hI
      rcases i with _ | _ | _ | _ | _ | _ | _ | _ | i
      · cases ho
        have n5:=nfT m5 hL
        have n7:=nfT m7 hL
        refine opA_val (.ptr H.n 0) rfl rfl (by simp (disch:=first|exact dsc|fail) only [go_sem,seval,-List.reduceReplicate,reduceIte,Bool.false_eq_true,if_false,if_true,f0,f1,f2,f3,n5,n7,hL,E]<;>rfl) rfl ?_
        exact ⟨(kf f0),(kf f1),(kf f2),(kf f3),kn,(kp g1),(kp g2),(kp g3),(kp g4),(kp g6),(ka m5),(ka m7),(by (have e5:more L 0 5=L 5:=more_ne (by decide));(have e7:more L 0 7=L 7:=more_ne (by decide));(try simp only [e5,e7,n5,n7]);first | done | rfl | (simp only [e5,e7,n5,n7,if_true,if_false,Bool.false_eq_true];first | done | rfl | (simp (disch:=first|exact dsc|fail) only [go_sem,seval,-List.reduceReplicate,e5,e7,n5,n7,E]<;>rfl)))⟩
      · cases ho
        have h0:L 0=true:=hall ⟨0,.data⟩ (by simp) rfl
        have d0:=g0 h0
        have n5:=nfT m5 hL
        have n7:=nfT m7 hL
        refine opA_val (.p (i64 s.id)) rfl rfl (by simp (disch:=first|exact dsc|fail) only [go_sem,seval,-List.reduceReplicate,reduceIte,Bool.false_eq_true,if_false,if_true,f0,f1,f2,f3,d0,n5,n7,hL,E]<;>rfl) rfl ?_
        exact ⟨(kf f0),(kf f1),(kf f2),(kf f3),(kp g0),kn,(kp g2),(kp g3),(kp g4),(kp g6),(ka m5),(ka m7),(by (have e5:more L 1 5=L 5:=more_ne (by decide));(have e7:more L 1 7=L 7:=more_ne (by decide));(try simp only [e5,e7,n5,n7]);first | done | rfl | (simp only [e5,e7,n5,n7,if_true,if_false,Bool.false_eq_true];first | done | rfl | (simp (disch:=first|exact dsc|fail) only [go_sem,seval,-List.reduceReplicate,e5,e7,n5,n7,E]<;>rfl)))⟩
      · cases ho
        have n7:=nfT m7 hL
        refine opA_val (.ptr H.n 1) rfl rfl (by simp (disch:=first|exact dsc|fail) only [go_sem,seval,-List.reduceReplicate,reduceIte,Bool.false_eq_true,if_false,if_true,f0,f1,f2,f3,n7,hL,E]<;>rfl) rfl ?_
        exact ⟨(kf f0),(kf f1),(kf f2),(kf f3),(kp g0),(kp g1),kn,(kp g3),(kp g4),(kp g6),(ka m5),(ka m7),(by (have e5:more L 2 5=L 5:=more_ne (by decide));(have e7:more L 2 7=L 7:=more_ne (by decide));(try simp only [e5,e7,n7]);first | done | rfl | (simp only [e5,e7,n7,if_true,if_false,Bool.false_eq_true];first | done | rfl | (simp (disch:=first|exact dsc|fail) only [go_sem,seval,-List.reduceReplicate,e5,e7,n7,E]<;>rfl)))⟩
      · cases ho
        have h2:L 2=true:=hall ⟨2,.data⟩ (by simp) rfl
        have d2:=g2 h2
        have n7:=nfT m7 hL
        refine opA_val (.p (i64 s.step)) rfl rfl (by simp (disch:=first|exact dsc|fail) only [go_sem,seval,-List.reduceReplicate,reduceIte,Bool.false_eq_true,if_false,if_true,f0,f1,f2,f3,d2,n7,hL,E]<;>rfl) rfl ?_
        exact ⟨(kf f0),(kf f1),(kf f2),(kf f3),(kp g0),(kp g1),(kp g2),kn,(kp g4),(kp g6),(ka m5),(ka m7),(by (have e5:more L 3 5=L 5:=more_ne (by decide));(have e7:more L 3 7=L 7:=more_ne (by decide));(try simp only [e5,e7,n7]);first | done | rfl | (simp only [e5,e7,n7,if_true,if_false,Bool.false_eq_true];first | done | rfl | (simp (disch:=first|exact dsc|fail) only [go_sem,seval,-List.reduceReplicate,e5,e7,n7,E]<;>rfl)))⟩
      · cases ho
        have n5:=nfT m5 hL
        have n7:=nfT m7 hL
        refine opA_val (.ptr (H.n+1) 1) rfl rfl (by simp (disch:=first|exact dsc|fail) only [go_sem,seval,-List.reduceReplicate,reduceIte,Bool.false_eq_true,if_false,if_true,f0,f1,f2,f3,n5,n7,hL,E]<;>rfl) rfl ?_
        exact ⟨(kf f0),(kf f1),(kf f2),(kf f3),(kp g0),(kp g1),(kp g2),(kp g3),kn,(kp g6),(ka m5),(ka m7),(by (have e5:more L 4 5=L 5:=more_ne (by decide));(have e7:more L 4 7=L 7:=more_ne (by decide));(try simp only [e5,e7,n5,n7]);first | done | rfl | (simp only [e5,e7,n5,n7,if_true,if_false,Bool.false_eq_true];first | done | rfl | (simp (disch:=first|exact dsc|fail) only [go_sem,seval,-List.reduceReplicate,e5,e7,n5,n7,E]<;>rfl)))⟩
      · cases ho
        have h4:L 4=true:=hall ⟨4,.data⟩ (by simp) rfl
        have d4:=g4 h4
        have h1:L 1=true:=hall ⟨1,.data⟩ (by simp) rfl
        have d1:=g1 h1
        have h0:L 0=true:=hall ⟨0,.phase⟩ (by simp) rfl
        have n7:=nfT m7 hL
        refine opA_unit rfl rfl (by simp (disch:=first|exact dsc|fail) only [go_sem,seval,-List.reduceReplicate,reduceIte,Bool.false_eq_true,if_false,if_true,f0,f1,f2,f3,d1,d4,n7,hL,E]<;>rfl) rfl ?_
        exact ⟨f0,f1,f2,f3,(kp0 g0),(kp0 g1),(kp0 g2),(kp0 g3),(kp0 g4),(kp0 g6),(fun _=>kt (allT_cons h0 (allT_cons h1 (allT_cons h4 allT_nil)))),(ka m7),(by (have e5:more L 5 5=true:=more_eq);(have e7:more L 5 7=L 7:=more_ne (by decide));(try simp only [e5,e7,n7,hL]);first | done | rfl | (simp only [e5,e7,n7,hL,if_true,if_false,Bool.false_eq_true];first | done | rfl | (simp (disch:=first|exact dsc|fail) only [go_sem,seval,-List.reduceReplicate,e5,e7,n7,hL,E]<;>rfl)))⟩
      · cases ho
        have h5:L 5=true:=hall ⟨5,.phase⟩ (by simp) rfl
        have n7:=nfT m7 hL
        refine opA_val (.ptr (H.n+1) 2) rfl rfl (by simp (disch:=first|exact dsc|fail) only [go_sem,seval,-List.reduceReplicate,reduceIte,Bool.false_eq_true,if_false,if_true,f0,f1,f2,f3,h5,n7,hL,E]<;>rfl) rfl ?_
        exact ⟨(kf f0),(kf f1),(kf f2),(kf f3),(kp g0),(kp g1),(kp g2),(kp g3),(kp g4),kn,(ka m5),(ka m7),(by (have e5:more L 6 5=L 5:=more_ne (by decide));(have e7:more L 6 7=L 7:=more_ne (by decide));(try simp only [e5,e7,h5,n7]);first | done | rfl | (simp only [e5,e7,h5,n7,if_true,if_false,Bool.false_eq_true];first | done | rfl | (simp (disch:=first|exact dsc|fail) only [go_sem,seval,-List.reduceReplicate,e5,e7,h5,n7,E]<;>rfl)))⟩
      · cases ho
        have h6:L 6=true:=hall ⟨6,.data⟩ (by simp) rfl
        have d6:=g6 h6
        have h3:L 3=true:=hall ⟨3,.data⟩ (by simp) rfl
        have d3:=g3 h3
        have h5:L 5=true:=hall ⟨5,.chain⟩ (by simp) rfl
        have h0:L 0=true:=hall ⟨0,.phase⟩ (by simp) rfl
        have h1:L 1=true:=hall ⟨1,.phase⟩ (by simp) rfl
        have h2:L 2=true:=hall ⟨2,.phase⟩ (by simp) rfl
        have h4:L 4=true:=hall ⟨4,.phase⟩ (by simp) rfl
        refine opA_unit rfl rfl (by simp (disch:=first|exact dsc|fail) only [go_sem,seval,-List.reduceReplicate,reduceIte,Bool.false_eq_true,if_false,if_true,f0,f1,f2,f3,d3,d6,h5,hL,E]<;>rfl) rfl ?_
        exact ⟨f0,f1,f2,f3,(kp0 g0),(kp0 g1),(kp0 g2),(kp0 g3),(kp0 g4),(kp0 g6),(ka m5),(fun _=>kt (allT_cons h0 (allT_cons h1 (allT_cons h2 (allT_cons h3 (allT_cons h4 (allT_cons h5 (allT_cons h6 allT_nil)))))))),(by (have e5:more L 7 5=L 5:=more_ne (by decide));(have e7:more L 7 7=true:=more_eq);(try simp only [e5,e7,h5,hL]);first | done | rfl | (simp only [e5,e7,h5,hL,if_true,if_false,Bool.false_eq_true];first | done | rfl | (simp (disch:=first|exact dsc|fail) only [go_sem,seval,-List.reduceReplicate,e5,e7,h5,hL,E]<;>rfl)))⟩
      · simp at ho
    · intro L env' H' hall hI
      obtain ⟨f0,f1,f2,f3,g0,g1,g2,g3,g4,g6,_,_,rfl⟩:=hI
      have l5:=hall 5 (by decide)
      have l7:=hall 7 (by decide)
      replace g0:=g0 (hall 0 (by decide))
      replace g1:=g1 (hall 1 (by decide))
      replace g2:=g2 (hall 2 (by decide))
      replace g3:=g3 (hall 3 (by decide))
      replace g4:=g4 (hall 4 (by decide))
      replace g6:=g6 (hall 6 (by decide))
      simp only [l5,l7,if_true]
      clear hall
      (repeat refine .z rfl ?_);refine .text ?_;simp (disch:=first|exact dsc|fail) only [go_sem,seval,-List.reduceReplicate,f0,f1,f2,f3]
      have hm2:(sMsg s m).Ok:=⟨hm.kind,hs.id,hko,hm.text,hm.sums,hm.values⟩
      (repeat refine .z rfl ?_);refine .cutE [2,3,4,7] [] [(H.n+1,.cells (mcl (sMsg s m)))] (fun ihF => ?_) (fun env F => ?_)
      rotate_left 1
      simp (disch:=first|exact dsc|fail) only [go_sem,seval,-List.reduceReplicate,f0,f1,f2,f3] at F
      rotate_left 1
      · unfold sMsg at ihF
        (repeat refine .z rfl ?_);refine .ifB (by simp (disch:=first|exact dsc|fail) only [go_sem,seval,-List.reduceReplicate];rfl) (fun hk => ?_) (fun hk => ?_)
        · rw [hk] at ihF
          simp only [if_true] at ihF
          (repeat refine .z rfl ?_);refine .text ?_;simp (disch:=first|exact dsc|fail) only [go_sem,seval,-List.reduceReplicate,f0,f1,f2,f3]
          first | (refine ihF _ _ ?_ ?_) | (refine .z rfl ?_;refine ihF _ _ ?_ ?_) | (refine .z rfl ?_;refine .z rfl ?_;refine ihF _ _ ?_ ?_) | (refine .z rfl ?_;refine .z rfl ?_;refine .z rfl ?_;refine ihF _ _ ?_ ?_)
          · simp (disch:=first|exact dsc|fail) only [go_sem,seval,-List.reduceReplicate,f0,f1,f2,f3]<;>(repeat' (first | rfl | refine And.intro ?_ ?_))
          · first | rfl | (simp (disch:=first|exact dsc|fail) only [go_sem,seval,-List.reduceReplicate,f0,f1,f2,f3]<;>(try rfl))
        · rw [hk] at ihF
          simp only [Bool.false_eq_true,if_false] at ihF
          refine .skip ?_
          first | (refine ihF _ _ ?_ ?_) | (refine .z rfl ?_;refine ihF _ _ ?_ ?_) | (refine .z rfl ?_;refine .z rfl ?_;refine ihF _ _ ?_ ?_) | (refine .z rfl ?_;refine .z rfl ?_;refine .z rfl ?_;refine ihF _ _ ?_ ?_)
          · simp (disch:=first|exact dsc|fail) only [go_sem,seval,-List.reduceReplicate,f0,f1,f2,f3]<;>(repeat' (first | rfl | refine And.intro ?_ ?_))
          · first | rfl | (simp (disch:=first|exact dsc|fail) only [go_sem,seval,-List.reduceReplicate,f0,f1,f2,f3]<;>(try rfl))
      · generalize sMsg s m=M at *
        clear f0 f1 f2 f3
        (repeat refine .z rfl ?_);refine .text ?_;simp (disch:=first|exact dsc|fail) only [go_sem,seval,-List.reduceReplicate,F,sets_cons,sets_nil]
        cases hv:valid M with
        | false =>
         rw [hv] at h
         simp only [Bool.false_eq_true,if_false] at h
         refine CallK.of (fun R h=>Encode_nil g M hm2 hv _ R h) ?_;simp (disch:=first|exact dsc|fail) only [go_sem,seval,-List.reduceReplicate]
         (repeat refine .z rfl ?_);refine .text ?_;simp (disch:=first|exact dsc|fail) only [go_sem,seval,-List.reduceReplicate]
         (repeat refine .z rfl ?_);refine .ifT (by simp (disch:=first|exact dsc|fail) only [go_sem,seval,-List.reduceReplicate]) ?_
         (repeat refine .z rfl ?_);refine .text ?_;simp (disch:=first|exact dsc|fail) only [go_sem,seval,-List.reduceReplicate,F]
         (repeat refine .z rfl ?_);refine .rt Tryd.func19 (by rw [Tryd.results19]) (hx:=by simp (disch:=first|exact dsc|fail) only [go_sem,seval,-List.reduceReplicate,F];rfl) (hR := ?_);simp (disch:=first|exact dsc|fail) only [go_sem,seval,-List.reduceReplicate,F]
         exact h
        | true =>
         rw [hv] at h
         simp only [if_true] at h
         have hev:enc0 M++(sha (enc0 M)).take 8=enc M:=by rw [enc,hv];rfl
         have hlen:=enc_len hv
         have hne:(enc M).length≠0:=by omega
         have hen:enters Tryd.prog 49=true:=enters49
         refine CallK.of (fun R h=>Encode_valid g M hm2 hv _ R h) ?_;simp (disch:=first|exact dsc|fail) only [go_sem,seval,-List.reduceReplicate,hev]
         generalize enc M=e at *
         (repeat refine .z rfl ?_);refine .text ?_;simp (disch:=first|exact dsc|fail) only [go_sem,seval,-List.reduceReplicate]
         (repeat refine .z rfl ?_);refine .ifF (by simp (disch:=first|exact dsc|fail) only [go_sem,seval,-List.reduceReplicate]) ?_
         (repeat refine .z rfl ?_);refine .text ?_;simp (disch:=first|exact dsc|fail) only [go_sem,seval,-List.reduceReplicate,F]
         (repeat refine .z rfl ?_);refine .text ?_;simp (disch:=first|exact dsc|fail) only [go_sem,seval,-List.reduceReplicate,F,hen]
         refine CallK.of (fun R h=>add_spec g s M hm2 e (by omega) hs.step hs.bytes hs.rounds hs.words (H.n+3) (sH H s M (nC 0 0) s) sH_f3 R h) ?_;simp (disch:=first|exact dsc|fail) only [go_sem,seval,-List.reduceReplicate]
         (repeat refine .z rfl ?_);refine .text ?_;simp (disch:=first|exact dsc|fail) only [go_sem,seval,-List.reduceReplicate,F]
         (repeat refine .z rfl ?_);refine .text ?_;simp (disch:=first|exact dsc|fail) only [go_sem,seval,-List.reduceReplicate,F]
         (repeat refine .z rfl ?_);refine .rt Tryd.func19 (by rw [Tryd.results19]) (hx:=by simp (disch:=first|exact dsc|fail) only [go_sem,seval,-List.reduceReplicate,F];rfl) (hR := ?_);simp (disch:=first|exact dsc|fail) only [go_sem,seval,-List.reduceReplicate,F]
         exact h
end walks
end Go.Proofs.YtmoecjgehdkhkaaDoor

/-
  Sessions: receiving;the last message again;what has been used.
-/
namespace Go.Proofs.YtmoecjgehdkhkaaDoor
open Go Go.AL

theorem dig_ok:arrOK Tryd.prog 23 .u8 32=true:=by kernel_rfl
theorem eqD {a b:By} (ha:a.length=32) (hb:b.length=32):aBin Tryd.prog .eql 23 (.p (.agg (pl b8 a))) (.p (.agg (pl b8 b)))=some (.p (bo (decide (a=b)))) :=
 eq_b8 (by rw [ha];exact dig_ok) (by omega)
theorem neD {a b:By} (ha:a.length=32) (hb:b.length=32):aBin Tryd.prog .neq 23 (.p (.agg (pl b8 a))) (.p (.agg (pl b8 b)))=some (.p (bo (!decide (a=b)))):=by
 have h:=eqD ha hb
 have f1 : ∀ P t xs ys,aBin P .eql t (.p (.agg xs)) (.p (.agg ys))=(aggEq P t xs ys).map fun r => .p (.s (.bool r)):=fun _ _ _ _=>rfl
 have f2 : ∀ P t xs ys,aBin P .neq t (.p (.agg xs)) (.p (.agg ys))=(aggEq P t xs ys).map fun r => .p (.s (.bool !r)):=fun _ _ _ _=>rfl
 rw [f1] at h
 rw [f2]
 cases e:aggEq Tryd.prog 23 (pl b8 a) (pl b8 b) with
 | none=>rw [e] at h;cases h
 | some r =>
  rw [e] at h
  simp only [Option.map_some,bo,Option.some.injEq,AV.p.injEq,PV.s.injEq,Value.bool.injEq] at h
  rw [←h];rfl
attribute [go_sem] eqD neD
def rH (H:Hp) (s:Ses) (o z:List AV) (x:Ses):Hp:=(((H.new (.cells (scl s))).new (.cells o)).new (.cells z)).new (.cells (scl x))
section rh
variable {H:Hp} {s s' x x':Ses} {o o' z z':List AV}
theorem rH_n:(rH H s o z x).n=H.n+4:=by simp [rH,Hp.n_new]
theorem rH_f0:(rH H s o z x).f H.n=some (.cells (scl s)):=by simp (disch:=first|exact dsc|fail) only [rH,go_sem,seval]
theorem rH_f1:(rH H s o z x).f (H.n+1)=some (.cells o):=by simp (disch:=first|exact dsc|fail) only [rH,go_sem,seval]
theorem rH_f2:(rH H s o z x).f (H.n+2)=some (.cells z):=by simp (disch:=first|exact dsc|fail) only [rH,go_sem,seval]
theorem rH_f3:(rH H s o z x).f (H.n+3)=some (.cells (scl x)):=by simp (disch:=first|exact dsc|fail) only [rH,go_sem,seval]
theorem rH_set0:(rH H s o z x).set H.n (.cells (scl s'))=rH H s' o z x:=by simp (disch:=first|exact dsc|fail) only [rH,go_sem,seval]
theorem rH_set1:(rH H s o z x).set (H.n+1) (.cells o')=rH H s o' z x:=by simp (disch:=first|exact dsc|fail) only [rH,go_sem,seval]
theorem rH_set2:(rH H s o z x).set (H.n+2) (.cells z')=rH H s o z' x:=by simp (disch:=first|exact dsc|fail) only [rH,go_sem,seval]
theorem rH_set3:(rH H s o z x).set (H.n+3) (.cells (scl x'))=rH H s o z x':=by simp (disch:=first|exact dsc|fail) only [rH,go_sem,seval]
theorem rH_trunc:(rH H s o z x).trunc H.n=H:=by simp (disch:=first|exact dsc|fail) only [rH,go_sem,seval]
theorem rH_def:(((H.new (.cells (scl s))).new (.cells o)).new (.cells z)).new (.cells (scl x))=rH H s o z x:=rfl
theorem rH_bel (h:Bel H.n H):Bel H.n (rH H s o z x):=by
 unfold rH
 exact bel_new (bel_new (bel_new (bel_new h (Nat.le_refl _)) (by simp only [n_new'];omega)) (by simp only [n_new'];omega)) (by simp only [n_new'];omega)
end rh
attribute [go_sem] rH_n rH_f0 rH_f1 rH_f2 rH_f3 rH_set0 rH_set1 rH_set2 rH_set3 rH_trunc
theorem mz_zero:AV.p (i64 0) :: AV.p (i64 0) :: AV.p (i64 0) :: AV.p (str ByteArray.empty) :: List.map AV.p (pl b8 (List.replicate 32 0#8)++[PV.sl true 1 [],PV.sl true 2 []])=mG 0 0 0 [] (List.replicate 32 0#8) (.p (.sl true 1 [])) (.p (.sl true 2 [])):=by simp [mG,cl,pl,bytesOf_nil]
theorem sclD75 {s:Ses}:(scl s).drop 75=[.p (i64 s.bytes),.p (i64 s.rounds),.p (i64 s.words)]:=by
 rw [←sclU,List.take_of_length_le (by rw [List.length_drop,scl_len];omega)]
attribute [go_sem] sclD75
theorem zM_ok:zM.Ok:=⟨by constructor<;>decide,by constructor<;>decide,by constructor<;>decide,by decide,by decide,by decide⟩
theorem d7_ok {kd se sp:Nat} {tx dgs:By} {us:List Int} {c:Nat} {vl:By} {s:By × Bool} (h1:kd < 4294967296) (h2:se < 4294967296) (h3:sp < 4294967296) (h4:tx.length≤100000) (h5:us.length≤100000) (h6:c≤100000):(d7 kd se sp tx dgs us c vl s).1.Ok∧0≤(d7 kd se sp tx dgs us c vl s).1.step:=by
 refine ⟨⟨⟨?_,?_⟩,⟨?_,?_⟩,⟨?_,?_⟩,?_,?_,?_⟩,?_⟩
 · show (-9223372036854775808:Int)≤(kd:Int);omega
 · show (kd:Int)≤9223372036854775807;omega
 · show (-9223372036854775808:Int)≤(se:Int);omega
 · show (se:Int)≤9223372036854775807;omega
 · show (-9223372036854775808:Int)≤(sp:Int);omega
 · show (sp:Int)≤9223372036854775807;omega
 · show tx.length≤_;omega
 · show us.length≤_;omega
 · show (prs _ _).length≤_;rw [prs_len];omega
 · show (0:Int)≤(sp:Int);omega
theorem decM_ok (b:By):(decM b).1.Ok∧0≤(decM b).1.step:=by
 have hn : ∀ (l:By) i,(nth l i).toNat < 256:=fun l i=>(nth l i).isLt
 have k1:(tk (b,true) 41).1.length=41:=tk_len
 unfold decM d1 d2 d3 d4 d5 d6
 refine d7_ok ?_ ?_ ?_ ?_ ?_ ?_
 · have:=hn (tk (b,true) 41).1 0;omega
 · exact rd_lt4 (by rw [List.length_drop,List.length_take];omega)
 · exact rd_lt4 (by rw [List.length_drop,List.length_take];omega)
 · rw [tk_len]
   have:=rd_lt2 (b:=(tk (tk (b,true) 41).2 2).1) (by rw [tk_len];exact Nat.le_refl _)
   omega
 · rw [List.length_map,wds_len]
   have:=hn (tk (tk (tk (tk (b,true) 41).2 2).2 (rd (tk (tk (b,true) 41).2 2).1).toNat).2 1).1 0
   omega
 · exact Nat.le_of_lt (Nat.lt_of_lt_of_le (hn _ 0) (by omega))
theorem dec_ok (b:By):(dec b).1.Ok∧0≤(dec b).1.step:=by
 unfold dec decF
 split
 · exact ⟨zM_ok,by decide⟩
 · split
   · exact decM_ok b
   · exact ⟨zM_ok,by decide⟩
def rC (s:Ses) (d:Msg) (code:Int):Int :=
 if code != 0 then code else if d.session != s.id then 1 else if decide (d.step < s.step) then 120
 else if decide (s.step < d.step) || ((s.state != 0 && sends s) || (d.kind != 2 && !decide (d.root.val=s.seen.val))) then 290 else 0
def rCode (s:Ses) (b:By):Int:=rC s (dec b).1 (dec b).2
def recv (s:Ses) (b:By) (now:Int):Ses × Msg × Int :=
 if 3≤s.state then (s,zM,290) else if s.due < now then ({ s with state:=5 },zM,291) else if rCode s b≠0 then (s,zM,rCode s b) else (addS s (dec b).1 b,(dec b).1,0)
section walks
variable {G:Globs} {r1 r2:Nat} {m1:List (Int × Rule)} {m2:List (Int × Int)}
theorem Resend_spec (g:GR G r1 r2 m1 m2) (s:Ses) (hm:s.last.Ok) (H:Hp) (R:AV → Hp → Prop) (h:R (.p (.sl false 1 (pl b8 (enc s.last)))) H):ACall Tryd.prog G 17 [.p (ses s)] H R:=by
 refine ACall.of_run (raw:=[]) Tryd.func17 rfl Tryd.ntmps17 (by simp) fun hbel => ?_
 (repeat refine .z rfl ?_);refine .text ?_;simp (disch:=first|exact dsc|fail) only [go_sem,seval,-List.reduceReplicate]
 (repeat refine .z rfl ?_);refine .text ?_;simp (disch:=first|exact dsc|fail) only [go_sem,seval,-List.reduceReplicate]
 refine CallK.of (fun R h=>Encode_spec g _ hm _ R h) ?_;simp (disch:=first|exact dsc|fail) only [go_sem,seval,-List.reduceReplicate]
 (repeat refine .z rfl ?_);refine .rt Tryd.func17 (by rw [Tryd.results17]) (hR := ?_);simp (disch:=first|exact dsc|fail) only [go_sem,seval,-List.reduceReplicate]
 exact h
def usage (s:Ses):PV := .agg [i64 s.bytes,i64 s.rounds,i64 s.words]
theorem Usage_spec (s:Ses) (H:Hp) (R:AV → Hp → Prop) (h:R (.p (usage s)) H):ACall Tryd.prog G 25 [.p (ses s)] H R:=by
 refine ACall.of_run (raw:=[]) Tryd.func25 rfl Tryd.ntmps25 (by simp) fun hbel => ?_
 (repeat refine .z rfl ?_);refine .text ?_;simp (disch:=first|exact dsc|fail) only [go_sem,seval,-List.reduceReplicate]
 (repeat refine .z rfl ?_);refine .text ?_;simp (disch:=first|exact dsc|fail) only [go_sem,seval,-List.reduceReplicate]
 (repeat refine .z rfl ?_);refine .rt Tryd.func25 (by rw [Tryd.results25]) (hR := ?_);simp (disch:=first|exact dsc|fail) only [go_sem,seval,-List.reduceReplicate]
 exact h
set_option maxHeartbeats 4000000 in
set_option maxRecDepth 20000 in
theorem Receive_any (g:GR G r1 r2 m1 m2) (s:Ses) (hs:s.Ok) (b:By) (now:Int) (hb0:3≤s.state ∨ s.due < now ∨ b.length≤140737488353000) (H:Hp) (R:AV → Hp → Prop) (h:R (.tup [.p (ses (recv s b now).1),.p (msg (recv s b now).2.1),.p (i64 (recv s b now).2.2)]) H):ACall Tryd.prog G 23 [.p (ses s),.p (.sl false 1 (pl b8 b)),.p (i64 now)] H R:=by
 have hstep:=hs.step
 have hz:(List.replicate 32 0#8:By).length=32:=List.length_replicate
 refine ACall.of_run (raw:=[]) Tryd.func23 rfl Tryd.ntmps23 (by simp) fun hbel => ?_
 (repeat refine .z rfl ?_);refine .text ?_;simp (disch:=first|exact dsc|fail) only [go_sem,seval,-List.reduceReplicate,nC_zero,mz_zero]
 (repeat refine .z rfl ?_);refine .text ?_;simp (disch:=first|exact dsc|fail) only [go_sem,seval,-List.reduceReplicate,nC_zero,mz_zero]
 rw [rH_def]
 have hbel:=fun s o z x=>rH_bel (s:=s) (o:=o) (z:=z) (x:=x) hbel
 have hin : ∀ R,R (.p (bo (decide (3≤s.state)))) (rH H s (nC 0 0) (mG 0 0 0 [] (List.replicate 32 0#8) (.p (.sl true 1 [])) (.p (.sl true 2 []))) s) → ACall Tryd.prog G 46 [.ptr (H.n+3) 0] (rH H s (nC 0 0) (mG 0 0 0 [] (List.replicate 32 0#8) (.p (.sl true 1 [])) (.p (.sl true 2 []))) s) R:=fun R h=>final_spec s (H.n+3) _ rH_f3 R h
 unfold recv at h
 (repeat refine .z rfl ?_);refine .text ?_;simp (disch:=first|exact dsc|fail) only [go_sem,seval,-List.reduceReplicate]
 refine CallK.of (fun R h=>hin R h) ?_;simp (disch:=first|exact dsc|fail) only [go_sem,seval,-List.reduceReplicate]
 by_cases c1:3≤s.state
 · have d1:decide (3≤s.state)=true:=decide_eq_true c1
   rw [if_pos c1] at h
   simp (disch:=first|exact dsc|fail) only [go_sem,seval,-List.reduceReplicate,d1]
   (repeat refine .z rfl ?_);refine .ifT (by simp (disch:=first|exact dsc|fail) only [go_sem,seval,-List.reduceReplicate]) ?_
   (repeat refine .z rfl ?_);refine .text ?_;simp (disch:=first|exact dsc|fail) only [go_sem,seval,-List.reduceReplicate,hz]
   (repeat refine .z rfl ?_);refine .rt Tryd.func23 (by rw [Tryd.results23]) (hx:=by simp (disch:=first|exact dsc|fail) only [go_sem,seval,-List.reduceReplicate,hz];rfl) (hR := ?_);simp (disch:=first|exact dsc|fail) only [go_sem,seval,-List.reduceReplicate,hz]
   exact h
 · have d1:decide (3≤s.state)=false:=decide_eq_false c1
   rw [if_neg c1] at h
   simp (disch:=first|exact dsc|fail) only [go_sem,seval,-List.reduceReplicate,d1]
   (repeat refine .z rfl ?_);refine .ifF (by simp (disch:=first|exact dsc|fail) only [go_sem,seval,-List.reduceReplicate]) ?_
   (repeat refine .z rfl ?_);refine .text ?_;simp (disch:=first|exact dsc|fail) only [go_sem,seval,-List.reduceReplicate]
   by_cases c2:s.due < now
   · have d2:decide (s.due < now)=true:=decide_eq_true c2
     rw [if_pos c2] at h
     (repeat refine .z rfl ?_);refine .ifT (by simp (disch:=first|exact dsc|fail) only [go_sem,seval,-List.reduceReplicate,d2]) ?_
     (repeat refine .z rfl ?_);refine .text ?_;simp (disch:=first|exact dsc|fail) only [go_sem,seval,-List.reduceReplicate]
     (repeat refine .z rfl ?_);refine .text ?_;simp (disch:=first|exact dsc|fail) only [go_sem,seval,-List.reduceReplicate,hz]
     (repeat refine .z rfl ?_);refine .rt Tryd.func23 (by rw [Tryd.results23]) (hx:=by simp (disch:=first|exact dsc|fail) only [go_sem,seval,-List.reduceReplicate,hz];rfl) (hR := ?_);simp (disch:=first|exact dsc|fail) only [go_sem,seval,-List.reduceReplicate,hz]
     exact h
   · have d2:decide (s.due < now)=false:=decide_eq_false c2
     rw [if_neg c2] at h
     have hb:b.length≤140737488353000:=by omega
     obtain ⟨hdo,hds⟩:=dec_ok b
     have hsn : ∀ T,∀ R,R (.p (bo (sends s))) (app (rH H s (nC 0 0) (mG 0 0 0 [] (List.replicate 32 0#8) (.p (.sl true 1 [])) (.p (.sl true 2 []))) s) T) → ACall Tryd.prog G 47 [.ptr (H.n+3) 0] (app (rH H s (nC 0 0) (mG 0 0 0 [] (List.replicate 32 0#8) (.p (.sl true 1 [])) (.p (.sl true 2 []))) s) T) R:=fun T R h=>sends_spec s hstep.1 hs.last (H.n+3) _ (app_f' rH_f3) R h
     (repeat refine .z rfl ?_);refine .ifF (by simp (disch:=first|exact dsc|fail) only [go_sem,seval,-List.reduceReplicate,d2]) ?_
     (repeat refine .z rfl ?_);refine .text ?_;simp (disch:=first|exact dsc|fail) only [go_sem,seval,-List.reduceReplicate]
     refine CallK.of (fun R h=>Decode_spec g b (by omega) _ R h) ?_;simp (disch:=first|exact dsc|fail) only [go_sem,seval,-List.reduceReplicate,mz_zero,hz]
     unfold rCode at h
     simp only [ne_eq] at h
     generalize (dec b).1=d at *
     generalize (dec b).2=code at *
     have hsn:=hsn [.cells (mcl d)]
     simp only [app_cons,app_nil] at hsn
     have hrl:=d.root.len
     have hsl:=s.seen.len
     (repeat refine .zs rfl ?_);refine .cutE [1,3,6,7,9,10] [(11,.p (i64 (rC s d code)))] [] (fun ihF => ?_) (fun env F => ?_)
     rotate_left 1
     simp (disch:=first|exact dsc|fail) only [go_sem,seval,-List.reduceReplicate] at F
     rotate_left 1
     · unfold rC at ihF
       (repeat refine .z rfl ?_);refine .text ?_;simp (disch:=first|exact dsc|fail) only [go_sem,seval,-List.reduceReplicate]
       (repeat refine .z rfl ?_);refine .ifB (by simp (disch:=first|exact dsc|fail) only [go_sem,seval,-List.reduceReplicate];rfl) (fun b1 => ?_) (fun b1 => ?_)
       · rw [b1] at ihF
         refine .skip ?_
         first | (refine ihF _ _ ?_ ?_) | (refine .z rfl ?_;refine ihF _ _ ?_ ?_) | (refine .z rfl ?_;refine .z rfl ?_;refine ihF _ _ ?_ ?_) | (refine .z rfl ?_;refine .z rfl ?_;refine .z rfl ?_;refine ihF _ _ ?_ ?_)
         · simp (disch:=first|exact dsc|fail) only [go_sem,seval,-List.reduceReplicate]<;>(repeat' (first | rfl | refine And.intro ?_ ?_))
         · first | rfl | (simp (disch:=first|exact dsc|fail) only [go_sem,seval,-List.reduceReplicate]<;>(try rfl))
       · have hc0:code=0:=by simpa using b1
         rw [b1] at ihF
         simp only [Bool.false_eq_true,if_false] at ihF
         (repeat refine .z rfl ?_);refine .text ?_;simp (disch:=first|exact dsc|fail) only [go_sem,seval,-List.reduceReplicate]
         (repeat refine .z rfl ?_);refine .ifB (by simp (disch:=first|exact dsc|fail) only [go_sem,seval,-List.reduceReplicate];rfl) (fun b2 => ?_) (fun b2 => ?_)
         · rw [b2] at ihF
           (repeat refine .z rfl ?_);refine .text ?_;simp (disch:=first|exact dsc|fail) only [go_sem,seval,-List.reduceReplicate]
           first | (refine ihF _ _ ?_ ?_) | (refine .z rfl ?_;refine ihF _ _ ?_ ?_) | (refine .z rfl ?_;refine .z rfl ?_;refine ihF _ _ ?_ ?_) | (refine .z rfl ?_;refine .z rfl ?_;refine .z rfl ?_;refine ihF _ _ ?_ ?_)
           · simp (disch:=first|exact dsc|fail) only [go_sem,seval,-List.reduceReplicate]<;>(repeat' (first | rfl | refine And.intro ?_ ?_))
           · first | rfl | (simp (disch:=first|exact dsc|fail) only [go_sem,seval,-List.reduceReplicate]<;>(try rfl))
         · rw [b2] at ihF
           simp only [Bool.false_eq_true,if_false] at ihF
           (repeat refine .z rfl ?_);refine .text ?_;simp (disch:=first|exact dsc|fail) only [go_sem,seval,-List.reduceReplicate]
           (repeat refine .z rfl ?_);refine .ifB (by simp (disch:=first|exact dsc|fail) only [go_sem,seval,-List.reduceReplicate];rfl) (fun b3 => ?_) (fun b3 => ?_)
           · rw [b3] at ihF
             (repeat refine .z rfl ?_);refine .text ?_;simp (disch:=first|exact dsc|fail) only [go_sem,seval,-List.reduceReplicate]
             first | (refine ihF _ _ ?_ ?_) | (refine .z rfl ?_;refine ihF _ _ ?_ ?_) | (refine .z rfl ?_;refine .z rfl ?_;refine ihF _ _ ?_ ?_) | (refine .z rfl ?_;refine .z rfl ?_;refine .z rfl ?_;refine ihF _ _ ?_ ?_)
             · simp (disch:=first|exact dsc|fail) only [go_sem,seval,-List.reduceReplicate]<;>(repeat' (first | rfl | refine And.intro ?_ ?_))
             · first | rfl | (simp (disch:=first|exact dsc|fail) only [go_sem,seval,-List.reduceReplicate]<;>(try rfl))
           · rw [b3] at ihF
             simp only [Bool.false_eq_true,if_false] at ihF
             (repeat refine .z rfl ?_);refine .text ?_;simp (disch:=first|exact dsc|fail) only [go_sem,seval,-List.reduceReplicate]
             cases b4:decide (s.step < d.step) with
             | true =>
              rw [b4] at ihF
              (repeat refine .z rfl ?_);refine .ifT (by simp (disch:=first|exact dsc|fail) only [go_sem,seval,-List.reduceReplicate,b4]) ?_
              refine .skip ?_
              (repeat refine .z rfl ?_);refine .ifT (by simp (disch:=first|exact dsc|fail) only [go_sem,seval,-List.reduceReplicate]) ?_
              (repeat refine .z rfl ?_);refine .text ?_;simp (disch:=first|exact dsc|fail) only [go_sem,seval,-List.reduceReplicate]
              first | (refine ihF _ _ ?_ ?_) | (refine .z rfl ?_;refine ihF _ _ ?_ ?_) | (refine .z rfl ?_;refine .z rfl ?_;refine ihF _ _ ?_ ?_) | (refine .z rfl ?_;refine .z rfl ?_;refine .z rfl ?_;refine ihF _ _ ?_ ?_)
              · simp (disch:=first|exact dsc|fail) only [go_sem,seval,-List.reduceReplicate,hc0]<;>(repeat' (first | rfl | refine And.intro ?_ ?_))
              · first | rfl | (simp (disch:=first|exact dsc|fail) only [go_sem,seval,-List.reduceReplicate,hc0]<;>(try rfl))
             | false =>
              rw [b4] at ihF
              (repeat refine .z rfl ?_);refine .ifF (by simp (disch:=first|exact dsc|fail) only [go_sem,seval,-List.reduceReplicate,b4]) ?_
              (repeat refine .z rfl ?_);refine .text ?_;simp (disch:=first|exact dsc|fail) only [go_sem,seval,-List.reduceReplicate]
              cases b5:s.state != 0 with
              | false =>
               rw [b5] at ihF
               simp (disch:=first|exact dsc|fail) only [go_sem,seval,-List.reduceReplicate,b5]
               (repeat refine .z rfl ?_);refine .ifF (by simp (disch:=first|exact dsc|fail) only [go_sem,seval,-List.reduceReplicate]) ?_
               (repeat refine .z rfl ?_);refine .text ?_;simp (disch:=first|exact dsc|fail) only [go_sem,seval,-List.reduceReplicate]
               cases b7:d.kind != 2 with
               | false =>
                rw [b7] at ihF
                simp (disch:=first|exact dsc|fail) only [go_sem,seval,-List.reduceReplicate,b7]
                (repeat refine .z rfl ?_);refine .ifF (by simp (disch:=first|exact dsc|fail) only [go_sem,seval,-List.reduceReplicate]) ?_
                refine .skip ?_
                first | (refine ihF _ _ ?_ ?_) | (refine .z rfl ?_;refine ihF _ _ ?_ ?_) | (refine .z rfl ?_;refine .z rfl ?_;refine ihF _ _ ?_ ?_) | (refine .z rfl ?_;refine .z rfl ?_;refine .z rfl ?_;refine ihF _ _ ?_ ?_)
                · simp (disch:=first|exact dsc|fail) only [go_sem,seval,-List.reduceReplicate,hc0]<;>(repeat' (first | rfl | refine And.intro ?_ ?_))
                · first | rfl | (simp (disch:=first|exact dsc|fail) only [go_sem,seval,-List.reduceReplicate,hc0]<;>(try rfl))
               | true =>
                rw [b7] at ihF
                simp (disch:=first|exact dsc|fail) only [go_sem,seval,-List.reduceReplicate,b7]
                cases b8:decide (d.root.val=s.seen.val) with
                | true =>
                 rw [b8] at ihF
                 simp (disch:=first|exact dsc|fail) only [go_sem,seval,-List.reduceReplicate,b8]
                 (repeat refine .z rfl ?_);refine .ifF (by simp (disch:=first|exact dsc|fail) only [go_sem,seval,-List.reduceReplicate]) ?_
                 refine .skip ?_
                 first | (refine ihF _ _ ?_ ?_) | (refine .z rfl ?_;refine ihF _ _ ?_ ?_) | (refine .z rfl ?_;refine .z rfl ?_;refine ihF _ _ ?_ ?_) | (refine .z rfl ?_;refine .z rfl ?_;refine .z rfl ?_;refine ihF _ _ ?_ ?_)
                 · simp (disch:=first|exact dsc|fail) only [go_sem,seval,-List.reduceReplicate,hc0]<;>(repeat' (first | rfl | refine And.intro ?_ ?_))
                 · first | rfl | (simp (disch:=first|exact dsc|fail) only [go_sem,seval,-List.reduceReplicate,hc0]<;>(try rfl))
                | false =>
                 rw [b8] at ihF
                 simp (disch:=first|exact dsc|fail) only [go_sem,seval,-List.reduceReplicate,b8]
                 (repeat refine .z rfl ?_);refine .ifT (by simp (disch:=first|exact dsc|fail) only [go_sem,seval,-List.reduceReplicate]) ?_
                 (repeat refine .z rfl ?_);refine .text ?_;simp (disch:=first|exact dsc|fail) only [go_sem,seval,-List.reduceReplicate]
                 first | (refine ihF _ _ ?_ ?_) | (refine .z rfl ?_;refine ihF _ _ ?_ ?_) | (refine .z rfl ?_;refine .z rfl ?_;refine ihF _ _ ?_ ?_) | (refine .z rfl ?_;refine .z rfl ?_;refine .z rfl ?_;refine ihF _ _ ?_ ?_)
                 · simp (disch:=first|exact dsc|fail) only [go_sem,seval,-List.reduceReplicate,hc0]<;>(repeat' (first | rfl | refine And.intro ?_ ?_))
                 · first | rfl | (simp (disch:=first|exact dsc|fail) only [go_sem,seval,-List.reduceReplicate,hc0]<;>(try rfl))
              | true =>
               rw [b5] at ihF
               simp (disch:=first|exact dsc|fail) only [go_sem,seval,-List.reduceReplicate,b5]
               refine CallK.of (fun R h=>hsn R h) ?_;simp (disch:=first|exact dsc|fail) only [go_sem,seval,-List.reduceReplicate]
               cases b6:sends s with
               | true =>
                rw [b6] at ihF
                (try simp (disch:=first|exact dsc|fail) only [go_sem,seval,-List.reduceReplicate])
                (repeat refine .z rfl ?_);refine .ifT (by simp (disch:=first|exact dsc|fail) only [go_sem,seval,-List.reduceReplicate]) ?_
                refine .skip ?_
                (repeat refine .z rfl ?_);refine .ifT (by simp (disch:=first|exact dsc|fail) only [go_sem,seval,-List.reduceReplicate]) ?_
                (repeat refine .z rfl ?_);refine .text ?_;simp (disch:=first|exact dsc|fail) only [go_sem,seval,-List.reduceReplicate]
                first | (refine ihF _ _ ?_ ?_) | (refine .z rfl ?_;refine ihF _ _ ?_ ?_) | (refine .z rfl ?_;refine .z rfl ?_;refine ihF _ _ ?_ ?_) | (refine .z rfl ?_;refine .z rfl ?_;refine .z rfl ?_;refine ihF _ _ ?_ ?_)
                · simp (disch:=first|exact dsc|fail) only [go_sem,seval,-List.reduceReplicate,hc0]<;>(repeat' (first | rfl | refine And.intro ?_ ?_))
                · first | rfl | (simp (disch:=first|exact dsc|fail) only [go_sem,seval,-List.reduceReplicate,hc0]<;>(try rfl))
               | false =>
                rw [b6] at ihF
                (try simp (disch:=first|exact dsc|fail) only [go_sem,seval,-List.reduceReplicate])
                (repeat refine .z rfl ?_);refine .ifF (by simp (disch:=first|exact dsc|fail) only [go_sem,seval,-List.reduceReplicate]) ?_
                (repeat refine .z rfl ?_);refine .text ?_;simp (disch:=first|exact dsc|fail) only [go_sem,seval,-List.reduceReplicate]
                cases b7:d.kind != 2 with
                | false =>
                 rw [b7] at ihF
                 simp (disch:=first|exact dsc|fail) only [go_sem,seval,-List.reduceReplicate,b7]
                 (repeat refine .z rfl ?_);refine .ifF (by simp (disch:=first|exact dsc|fail) only [go_sem,seval,-List.reduceReplicate]) ?_
                 refine .skip ?_
                 first | (refine ihF _ _ ?_ ?_) | (refine .z rfl ?_;refine ihF _ _ ?_ ?_) | (refine .z rfl ?_;refine .z rfl ?_;refine ihF _ _ ?_ ?_) | (refine .z rfl ?_;refine .z rfl ?_;refine .z rfl ?_;refine ihF _ _ ?_ ?_)
                 · simp (disch:=first|exact dsc|fail) only [go_sem,seval,-List.reduceReplicate,hc0]<;>(repeat' (first | rfl | refine And.intro ?_ ?_))
                 · first | rfl | (simp (disch:=first|exact dsc|fail) only [go_sem,seval,-List.reduceReplicate,hc0]<;>(try rfl))
                | true =>
                 rw [b7] at ihF
                 simp (disch:=first|exact dsc|fail) only [go_sem,seval,-List.reduceReplicate,b7]
                 cases b8:decide (d.root.val=s.seen.val) with
                 | true =>
                  rw [b8] at ihF
                  simp (disch:=first|exact dsc|fail) only [go_sem,seval,-List.reduceReplicate,b8]
                  (repeat refine .z rfl ?_);refine .ifF (by simp (disch:=first|exact dsc|fail) only [go_sem,seval,-List.reduceReplicate]) ?_
                  refine .skip ?_
                  first | (refine ihF _ _ ?_ ?_) | (refine .z rfl ?_;refine ihF _ _ ?_ ?_) | (refine .z rfl ?_;refine .z rfl ?_;refine ihF _ _ ?_ ?_) | (refine .z rfl ?_;refine .z rfl ?_;refine .z rfl ?_;refine ihF _ _ ?_ ?_)
                  · simp (disch:=first|exact dsc|fail) only [go_sem,seval,-List.reduceReplicate,hc0]<;>(repeat' (first | rfl | refine And.intro ?_ ?_))
                  · first | rfl | (simp (disch:=first|exact dsc|fail) only [go_sem,seval,-List.reduceReplicate,hc0]<;>(try rfl))
                 | false =>
                  rw [b8] at ihF
                  simp (disch:=first|exact dsc|fail) only [go_sem,seval,-List.reduceReplicate,b8]
                  (repeat refine .z rfl ?_);refine .ifT (by simp (disch:=first|exact dsc|fail) only [go_sem,seval,-List.reduceReplicate]) ?_
                  (repeat refine .z rfl ?_);refine .text ?_;simp (disch:=first|exact dsc|fail) only [go_sem,seval,-List.reduceReplicate]
                  first | (refine ihF _ _ ?_ ?_) | (refine .z rfl ?_;refine ihF _ _ ?_ ?_) | (refine .z rfl ?_;refine .z rfl ?_;refine ihF _ _ ?_ ?_) | (refine .z rfl ?_;refine .z rfl ?_;refine .z rfl ?_;refine ihF _ _ ?_ ?_)
                  · simp (disch:=first|exact dsc|fail) only [go_sem,seval,-List.reduceReplicate,hc0]<;>(repeat' (first | rfl | refine And.intro ?_ ?_))
                  · first | rfl | (simp (disch:=first|exact dsc|fail) only [go_sem,seval,-List.reduceReplicate,hc0]<;>(try rfl))
     · generalize rC s d code=rc at *
       (repeat refine .z rfl ?_);refine .text ?_;simp (disch:=first|exact dsc|fail) only [go_sem,seval,-List.reduceReplicate,F]
       (repeat refine .z rfl ?_);refine .ifB (by simp (disch:=first|exact dsc|fail) only [go_sem,seval,-List.reduceReplicate];rfl) (fun e0 => ?_) (fun e0 => ?_)
       · have e1 : ¬rc=0:=by simpa using e0
         rw [if_pos e1] at h
         (repeat refine .z rfl ?_);refine .text ?_;simp (disch:=first|exact dsc|fail) only [go_sem,seval,-List.reduceReplicate,F,sets_nil,hz]
         (repeat refine .z rfl ?_);refine .rt Tryd.func23 (by rw [Tryd.results23]) (hx:=by simp (disch:=first|exact dsc|fail) only [go_sem,seval,-List.reduceReplicate,F,hz];rfl) (hR := ?_);simp (disch:=first|exact dsc|fail) only [go_sem,seval,-List.reduceReplicate,F,hz]
         exact h
       · have e1:rc=0:=by simpa using e0
         rw [if_neg (by simp [e1])] at h
         have hen:enters Tryd.prog 49=true:=enters49
         (repeat refine .z rfl ?_);refine .text ?_;simp (disch:=first|exact dsc|fail) only [go_sem,seval,-List.reduceReplicate,F,sets_nil]
         have hc3 : ∀ x,((rH H s (nC 0 0) (mG 0 0 0 [] (List.replicate 32 0#8) (.p (.sl true 1 [])) (.p (.sl true 2 []))) s).new x).f (H.n+3)=some (.cells (scl s)):=fun x=>by rw [Hp.f_new_old _ _ _ (by rw [rH_n];omega)];exact rH_f3
         refine CallK.of (fun R h=>add_spec g s d hdo b (by omega) hs.step hs.bytes hs.rounds hs.words (H.n+3) _ (hc3 _) R h) ?_;simp (disch:=first|exact dsc|fail) only [go_sem,seval,-List.reduceReplicate]
         generalize addS s d b=X at *
         generalize hZ:mG 0 0 0 [] (List.replicate 32 0#8) (.p (.sl true 1 [])) (.p (.sl true 2 []))=Z at *
         have hZl:Z.length=38:=by rw [←hZ];exact mG_len hz
         (repeat refine .z rfl ?_)
         refine .openInv (fun L env' H'=>env' 6 = .ptr (H.n+1) 0∧env' 7 = .ptr (H.n+2) 0∧env' 9 = .ptr (H.n+3) 0∧env' 10 = .ptr (H.n+4) 0∧(L 0=true → env' 75 = .p (ses X))∧(L 1=true → env' 76 = .p (msg d))∧(L 4=true → env' 8 = .p (i64 0))∧(L 2=true → allT L [0])∧(L 3=true → allT L [0,1,2])∧H'=((rH H s (if L 2 then scl X else nC 0 0) (if L 3 then mcl d else Z) X).new (.cells (mcl d)))) follows (by kernel_rfl) ?_ ?_ ?_
         · exact ⟨(by simp (disch:=first|exact dsc|fail) only [go_sem,seval,-List.reduceReplicate,F,hZl]),(by simp (disch:=first|exact dsc|fail) only [go_sem,seval,-List.reduceReplicate,F,hZl]),(by simp (disch:=first|exact dsc|fail) only [go_sem,seval,-List.reduceReplicate,F,hZl]),(by simp (disch:=first|exact dsc|fail) only [go_sem,seval,-List.reduceReplicate,F,hZl]),(fun h=>by cases h),(fun h=>by cases h),(fun h=>by cases h),(fun h=>by cases h),(fun h=>by cases h),(by first | rfl | (simp only [Bool.false_eq_true,if_false];first | rfl | (simp (disch:=first|exact dsc|fail) only [go_sem,seval,-List.reduceReplicate,F,hZl]<;>rfl)))⟩
         · intro i o L env' H' ho hL hall hI
           obtain ⟨f0,f1,f2,f3,g0,g1,g4,m2,m3,rfl⟩:=hI
           rcases i with _ | _ | _ | _ | _ | i
           · cases ho
             have n2:=nfT m2 hL
             have n3:=nfT m3 hL
             refine opA_val (.p (ses X)) rfl rfl (by simp (disch:=first|exact dsc|fail) only [go_sem,seval,-List.reduceReplicate,reduceIte,Bool.false_eq_true,if_false,if_true,f0,f1,f2,f3,n2,n3,hL,F,hZl]<;>rfl) rfl ?_
             exact ⟨(kf f0),(kf f1),(kf f2),(kf f3),kn,(kp g1),(kp g4),(ka m2),(ka m3),(by (have e2:more L 0 2=L 2:=more_ne (by decide));(have e3:more L 0 3=L 3:=more_ne (by decide));(try simp only [e2,e3,n2,n3]);first | done | rfl | (simp only [e2,e3,n2,n3,if_true,if_false,Bool.false_eq_true];first | done | rfl | (simp (disch:=first|exact dsc|fail) only [go_sem,seval,-List.reduceReplicate,e2,e3,n2,n3,F,hZl]<;>rfl)))⟩
           · cases ho
             have n3:=nfT m3 hL
             refine opA_val (.p (msg d)) rfl rfl (by simp (disch:=first|exact dsc|fail) only [go_sem,seval,-List.reduceReplicate,reduceIte,Bool.false_eq_true,if_false,if_true,f0,f1,f2,f3,n3,hL,F,hZl]<;>rfl) rfl ?_
             exact ⟨(kf f0),(kf f1),(kf f2),(kf f3),(kp g0),kn,(kp g4),(ka m2),(ka m3),(by (have e2:more L 1 2=L 2:=more_ne (by decide));(have e3:more L 1 3=L 3:=more_ne (by decide));(try simp only [e2,e3,n3]);first | done | rfl | (simp only [e2,e3,n3,if_true,if_false,Bool.false_eq_true];first | done | rfl | (simp (disch:=first|exact dsc|fail) only [go_sem,seval,-List.reduceReplicate,e2,e3,n3,F,hZl]<;>rfl)))⟩
           · cases ho
             have h0:L 0=true:=hall ⟨0,.data⟩ (by simp) rfl
             have d0:=g0 h0
             have n3:=nfT m3 hL
             refine opA_unit rfl rfl (by simp (disch:=first|exact dsc|fail) only [go_sem,seval,-List.reduceReplicate,reduceIte,Bool.false_eq_true,if_false,if_true,f0,f1,f2,f3,d0,n3,hL,F,hZl]<;>rfl) rfl ?_
             exact ⟨f0,f1,f2,f3,(kp0 g0),(kp0 g1),(kp0 g4),(fun _=>kt (allT_cons h0 allT_nil)),(ka m3),(by (have e2:more L 2 2=true:=more_eq);(have e3:more L 2 3=L 3:=more_ne (by decide));(try simp only [e2,e3,n3,hL]);first | done | rfl | (simp only [e2,e3,n3,hL,if_true,if_false,Bool.false_eq_true];first | done | rfl | (simp (disch:=first|exact dsc|fail) only [go_sem,seval,-List.reduceReplicate,e2,e3,n3,hL,F,hZl]<;>rfl)))⟩
           · cases ho
             have h1:L 1=true:=hall ⟨1,.data⟩ (by simp) rfl
             have d1:=g1 h1
             have h2:L 2=true:=hall ⟨2,.chain⟩ (by simp) rfl
             have h0:L 0=true:=hall ⟨0,.phase⟩ (by simp) rfl
             refine opA_unit rfl rfl (by simp (disch:=first|exact dsc|fail) only [go_sem,seval,-List.reduceReplicate,reduceIte,Bool.false_eq_true,if_false,if_true,f0,f1,f2,f3,d1,h2,hL,F,hZl]<;>rfl) rfl ?_
             exact ⟨f0,f1,f2,f3,(kp0 g0),(kp0 g1),(kp0 g4),(ka m2),(fun _=>kt (allT_cons h0 (allT_cons h1 (allT_cons h2 allT_nil)))),(by (have e2:more L 3 2=L 2:=more_ne (by decide));(have e3:more L 3 3=true:=more_eq);(try simp only [e2,e3,h2,hL]);first | done | rfl | (simp only [e2,e3,h2,hL,if_true,if_false,Bool.false_eq_true];first | done | rfl | (simp (disch:=first|exact dsc|fail) only [go_sem,seval,-List.reduceReplicate,e2,e3,h2,hL,F,hZl]<;>rfl)))⟩
           · cases ho
             have h3:L 3=true:=hall ⟨3,.chain⟩ (by simp) rfl
             have h2:L 2=true:=hall ⟨2,.phase⟩ (by simp) rfl
             refine opA_val (.p (i64 0)) rfl rfl (by simp (disch:=first|exact dsc|fail) only [go_sem,seval,-List.reduceReplicate,reduceIte,Bool.false_eq_true,if_false,if_true,f0,f1,f2,f3,h2,h3,hL,F,hZl]<;>rfl) rfl ?_
             exact ⟨(kf f0),(kf f1),(kf f2),(kf f3),(kp g0),(kp g1),kn,(ka m2),(ka m3),(by (have e2:more L 4 2=L 2:=more_ne (by decide));(have e3:more L 4 3=L 3:=more_ne (by decide));(try simp only [e2,e3,h2,h3]);first | done | rfl | (simp only [e2,e3,h2,h3,if_true,if_false,Bool.false_eq_true];first | done | rfl | (simp (disch:=first|exact dsc|fail) only [go_sem,seval,-List.reduceReplicate,e2,e3,h2,h3,F,hZl]<;>rfl)))⟩
           · simp at ho
         · intro L env' H' hall hI
           obtain ⟨f0,f1,f2,f3,g0,g1,g4,_,_,rfl⟩:=hI
           have l2:=hall 2 (by decide)
           have l3:=hall 3 (by decide)
           replace g0:=g0 (hall 0 (by decide))
           replace g1:=g1 (hall 1 (by decide))
           replace g4:=g4 (hall 4 (by decide))
           simp only [l2,l3,if_true]
           clear hall
           (repeat refine .z rfl ?_);refine .rt Tryd.func23 (by rw [Tryd.results23]) (hx:=by simp (disch:=first|exact dsc|fail) only [go_sem,seval,-List.reduceReplicate,f0,f1,g4];rfl) (hR := ?_);simp (disch:=first|exact dsc|fail) only [go_sem,seval,-List.reduceReplicate,f0,f1,g4]
           exact h
theorem Receive_spec (g:GR G r1 r2 m1 m2) (s:Ses) (hs:s.Ok) (b:By) (hb:b.length≤140737488353000) (now:Int) (H:Hp) (R:AV → Hp → Prop) (h:R (.tup [.p (ses (recv s b now).1),.p (msg (recv s b now).2.1),.p (i64 (recv s b now).2.2)]) H):ACall Tryd.prog G 23 [.p (ses s),.p (.sl false 1 (pl b8 b)),.p (i64 now)] H R :=
 Receive_any g s hs b now (.inr (.inr hb)) H R h
end walks
end Go.Proofs.YtmoecjgehdkhkaaDoor

/-
  Sessions: what is decoded from an encoding (plain).
-/
namespace Go.Proofs.YtmoecjgehdkhkaaDoor
open Go Go.AL

theorem tk_app {x r:By} {n:Nat} (h:x.length=n):tk (x++r,true) n=(x,(r,true)):=by
 subst h
 unfold tk
 simp
theorem tk_short {r:By} {n:Nat} (h:r.length < n):(tk (r,true) n).2.2=false:=by
 unfold tk
 rw [if_pos h]
theorem rd_le (x:U) : ∀ n,n≤8 → (rd (le x n)).toNat=x.toNat % 2 ^ (8*n):=by
 suffices h : ∀ n (b:By),n+b.length≤8 → (rd (le x n++b)).toNat=x.toNat % 2 ^ (8*n)+(rd b).toNat*2 ^ (8*n) from fun n hn=>by
  have:=h n [] (by simpa using hn)
  simpa [rd] using this
 have hlt : ∀ b:By,b.length≤8 → (rd b).toNat < 2 ^ (8*b.length):=fun b hb=>by
  by_cases h7:b.length≤7
  · exact rd_lt h7
  · have:b.length=8:=by omega
    rw [this];exact (rd b).isLt
 have hcons : ∀ (c:BitVec 8) (b:By),b.length≤7 → (rd (c :: b)).toNat=c.toNat+(rd b).toNat*256:=fun c b hb=>by
  have ih:=rd_lt hb
  have hc:=c.isLt
  simp only [rd,BitVec.toNat_or,BitVec.toNat_shiftLeft,BitVec.toNat_setWidth]
  have h2:(rd b).toNat <<< 8 < 2 ^ 64:=by
   rw [Nat.shiftLeft_eq]
   have:2 ^ (8*b.length)*2 ^ 8≤2 ^ 64:=by
    rw [←Nat.pow_add];exact Nat.pow_le_pow_right (by omega) (by omega)
   have:=Nat.mul_lt_mul_of_pos_right ih (show 0 < 2 ^ 8 by decide)
   omega
  rw [Nat.mod_eq_of_lt h2,Nat.mod_eq_of_lt (show c.toNat < 2 ^ 64 by omega),←Nat.shiftLeft_add_eq_or_of_lt (by omega),Nat.shiftLeft_eq]
  omega
 intro n
 induction n with
 | zero=>intro b _;simp [le,Nat.mod_one]
 | succ n ih =>
  intro b hb
  rw [le_succ,List.append_assoc,List.singleton_append,ih _ (by simp;omega),hcons _ _ (by omega)]
  have h1:((x >>> (8*n)).setWidth 8:BitVec 8).toNat=x.toNat / 2 ^ (8*n) % 256:=by
   simp [BitVec.toNat_setWidth,BitVec.toNat_ushiftRight,Nat.shiftRight_eq_div_pow]
  rw [h1,show 8*(n+1)=8*n+8 by omega,Nat.pow_add,Nat.mod_mul]
  rw [Nat.add_mul,Nat.add_assoc]
  congr 1
  rw [Nat.mul_comm (2 ^ (8*n)) (_ % 2 ^ 8),show (2 ^ 8:Nat)=256 by rfl,Nat.mul_assoc,Nat.mul_comm 256]
theorem rd_le64 (x:U):rd (le x 8)=x:=BitVec.eq_of_toNat_eq (by rw [rd_le x 8 (by omega)];exact Nat.mod_eq_of_lt x.isLt)
theorem toI_ofInt {n:Int} (h:okI n):toI (BitVec.ofInt 64 n)=n:=by
 obtain ⟨h1,h2⟩:=h
 unfold toI
 rw [IntKind.wrap_i64]
 have:((BitVec.ofInt 64 n).toNat:Int)=n % 18446744073709551616:=by
  rw [BitVec.toNat_ofInt]
  omega
 rw [this]
 omega
theorem wds_enc {l:List Int} (h : ∀ x∈l,okI x) (r:By):(wds (encS l++r) l.length).map toI=l:=by
 suffices hh : ∀ i,i≤l.length → (wds (encS l++r) i).map toI=l.take i by
  have:=hh l.length (Nat.le_refl _)
  rwa [List.take_length] at this
 intro i
 induction i with
 | zero=>intro _;rfl
 | succ i ih =>
  intro hi
  have hsp:encS l=encS (l.take i)++(le (BitVec.ofInt 64 (nth l i)) 8++encS (l.drop (i+1))):=by
   have h1:l=l.take i++([nth l i]++l.drop (i+1)):=by
    rw [←List.append_assoc,←take_succ_nth (by omega),List.take_append_drop]
   conv=>lhs;rw [h1]
   simp [encS]
  have hl1:(encS (l.take i)).length=8*i:=by rw [encS_len,List.length_take];omega
  have hx:((encS l++r).take (8*i+8)).drop (8*i)=le (BitVec.ofInt 64 (nth l i)) 8:=by
   rw [hsp,List.append_assoc,←hl1,List.take_length_add_append,List.drop_left,List.append_assoc,List.take_append_of_le_length (by rw [le_len];exact Nat.le_refl _),List.take_of_length_le (by rw [le_len];exact Nat.le_refl _)]
  rw [wds_succ,List.map_append,ih (by omega),hx,rd_le64,take_succ_nth (by omega)]
  have:=toI_ofInt (h (nth l i) (by rw [show nth l i=l[i] by simp [nth,show i < l.length by omega]];exact List.getElem_mem _))
  simp [this]

theorem nth_wds {b:By} {n i:Nat} (h:i < n):nth (wds b n) i=rd ((b.take (8*i+8)).drop (8*i)):=by
 induction n with
 | zero=>omega
 | succ n ih =>
  rw [wds_succ]
  by_cases e:i < n
  · rw [nth_append_l (by rw [wds_len];exact e),ih e]
  · have:i=n:=by omega
    subst this
    rw [nth_append_r (by rw [wds_len];exact Nat.le_refl _),wds_len,Nat.sub_self,nth_cons_zero]
theorem prs_enc {l:List Ext} (r:By):prs (wds (encV l++r) (2*l.length)) l.length=l:=by
 suffices hh : ∀ i,i≤l.length → prs (wds (encV l++r) (2*l.length)) i=l.take i by
  have:=hh l.length (Nat.le_refl _)
  rwa [List.take_length] at this
 intro i
 induction i with
 | zero=>intro _;rfl
 | succ i ih =>
  intro hi
  have hsp:encV l=encV (l.take i)++(le (nth l i).a 8++(le (nth l i).b 8++encV (l.drop (i+1)))):=by
   have h1:l=l.take i++([nth l i]++l.drop (i+1)):=by
    rw [←List.append_assoc,←take_succ_nth (by omega),List.take_append_drop]
   conv=>lhs;rw [h1]
   simp [encV]
  have hl1:(encV (l.take i)).length=16*i:=by rw [encV_len,List.length_take];omega
  have hx0:((encV l++r).take (8*(2*i)+8)).drop (8*(2*i))=le (nth l i).a 8:=by
   rw [hsp,List.append_assoc,show 8*(2*i)=(encV (l.take i)).length by rw [hl1];omega,List.take_length_add_append,List.drop_left,List.append_assoc,List.take_append_of_le_length (by rw [le_len];exact Nat.le_refl _),List.take_of_length_le (by rw [le_len];exact Nat.le_refl _)]
  have hx1:((encV l++r).take (8*(2*i+1)+8)).drop (8*(2*i+1))=le (nth l i).b 8:=by
   have h2:encV l++r=(encV (l.take i)++le (nth l i).a 8)++(le (nth l i).b 8++(encV (l.drop (i+1))++r)):=by rw [hsp];simp
   have h3:(encV (l.take i)++le (nth l i).a 8).length=8*(2*i+1):=by rw [List.length_append,hl1,le_len];omega
   rw [h2,←h3,List.take_length_add_append,List.drop_left,List.take_append_of_le_length (by rw [le_len];exact Nat.le_refl _),List.take_of_length_le (by rw [le_len];exact Nat.le_refl _)]
  rw [prs_succ,ih (by omega),nth_wds (by omega),nth_wds (by omega),hx0,hx1,rd_le64,rd_le64,take_succ_nth (by omega)]
theorem small_nat {n:Int} (h:small n=true):0≤n∧n < 2147483648:=by
 unfold small at h
 simp only [Bool.and_eq_true,decide_eq_true_eq] at h
 omega
theorem toNat_ofInt {n:Int} {w:Nat} (h0:0≤n) (h:n < (2 ^ w:Nat)):((BitVec.ofInt w n).toNat:Int)=n:=by
 rw [BitVec.toNat_ofInt]
 have:(n % ((2 ^ w:Nat):Int))=n:=Int.emod_eq_of_lt h0 h
 rw [this];omega
theorem rd_num {n:Int} (h0:0≤n) (h:n < 4294967296):((rd (le (BitVec.ofInt 64 n) 4)).toNat:Int)=n:=by
 have h2:=toNat_ofInt (w:=64) h0 (by omega)
 rw [rd_le _ 4 (by omega)]
 omega
theorem fits_kind {k s:Int} (h:fits k s=true):1≤k∧k≤7:=by
 obtain ⟨r,hr⟩:=fits_rule h
 unfold ruleT at hr
 (repeat' split at hr)<;>first | omega | cases hr
theorem valid_small {m:Msg} (h:valid m=true):(0≤m.session∧m.session < 2147483648)∧(0≤m.step∧m.step < 2147483648)∧fits m.kind m.step=true:=by
 unfold valid at h
 simp only [Bool.and_eq_true] at h
 obtain ⟨⟨⟨⟨h1,h2⟩,h3⟩,_⟩,_⟩:=h
 exact ⟨small_nat h1,small_nat h2,h3⟩
theorem decM_enc {m:Msg} (h:valid m=true) (hi : ∀ x∈m.sums,okI x) (y:By):decM (enc0 m++y)=(m,decide (8≤y.length)):=by
 obtain ⟨b1,b2,b3⟩:=valid_b h
 obtain ⟨s1,s2,s3⟩:=valid_small h
 have s4:=fits_kind s3
 have hrl:=m.root.len
 have e1:enc0 m++y=([BitVec.ofInt 8 m.kind]++le (BitVec.ofInt 64 m.session) 4++le (BitVec.ofInt 64 m.step) 4++m.root.val)++(le (BitVec.ofInt 64 m.text.length) 2++(m.text++([BitVec.ofInt 8 m.sums.length]++(encS m.sums++([BitVec.ofInt 8 m.values.length]++(encV m.values++y)))))):=by
  unfold enc0;simp
 have hhl:([BitVec.ofInt 8 m.kind]++le (BitVec.ofInt 64 m.session) 4++le (BitVec.ofInt 64 m.step) 4++m.root.val).length=41:=by simp [le_len,hrl]
 have q0:nth ([BitVec.ofInt 8 m.kind]++le (BitVec.ofInt 64 m.session) 4++le (BitVec.ofInt 64 m.step) 4++m.root.val) 0=BitVec.ofInt 8 m.kind:=rfl
 have q1:(([BitVec.ofInt 8 m.kind]++le (BitVec.ofInt 64 m.session) 4++le (BitVec.ofInt 64 m.step) 4++m.root.val).take 5).drop 1=le (BitVec.ofInt 64 m.session) 4:=rfl
 have q2:(([BitVec.ofInt 8 m.kind]++le (BitVec.ofInt 64 m.session) 4++le (BitVec.ofInt 64 m.step) 4++m.root.val).take 9).drop 5=le (BitVec.ofInt 64 m.step) 4:=rfl
 have q3:([BitVec.ofInt 8 m.kind]++le (BitVec.ofInt 64 m.session) 4++le (BitVec.ofInt 64 m.step) 4++m.root.val).drop 9=m.root.val:=by
  rw [List.drop_append_of_le_length (by simp [le_len]),List.drop_of_length_le (by simp [le_len])];rfl
 have hk:=toNat_ofInt (n:=m.kind) (w:=8) (by omega) (by omega)
 have ht2:(rd (le (BitVec.ofInt 64 m.text.length) 2)).toNat=m.text.length:=by
  have h2:=toNat_ofInt (n:=m.text.length) (w:=64) (by omega) (by omega)
  rw [rd_le _ 2 (by omega)];omega
 have hs2:=toNat_ofInt (n:=m.sums.length) (w:=8) (by omega) (by omega)
 have hv2:=toNat_ofInt (n:=m.values.length) (w:=8) (by omega) (by omega)
 have hs3:(nth [BitVec.ofInt 8 (m.sums.length:Int)] 0).toNat=m.sums.length:=by
  show (BitVec.ofInt 8 (m.sums.length:Int)).toNat=_;omega
 have hv3:(nth [BitVec.ofInt 8 (m.values.length:Int)] 0).toNat=m.values.length:=by
  show (BitVec.ofInt 8 (m.values.length:Int)).toNat=_;omega
 unfold decM
 rw [e1,tk_app hhl]
 simp only [d1,q0,q1,q2,q3]
 unfold d2
 rw [tk_app le_len]
 simp only [ht2]
 unfold d3
 rw [tk_app rfl]
 unfold d4
 rw [tk_app (n:=1) rfl]
 simp only [hs3]
 unfold d5
 rw [tk_app encS_len]
 simp only
 rw [tk_app (n:=1) rfl]
 simp only [hv3]
 unfold d6
 rw [tk_app encV_len]
 simp only
 unfold d7
 have w1:=wds_enc hi []
 have w2:=prs_enc (l:=m.values) []
 rw [List.append_nil] at w1 w2
 rw [w1,w2,mkD_eq hrl]
 refine Prod.ext ?_ ?_
 · have r1:=rd_num s1.1 (by omega)
   have r2:=rd_num s2.1 (by omega)
   simp only [hk,r1,r2]
   rfl
 · show (tk (y,true) 8).2.2=_
   by_cases e:y.length < 8
   · rw [tk_short e,decide_eq_false (by omega)]
   · rw [tk,if_neg e,if_pos rfl,decide_eq_true (by omega)]
theorem dec_enc {m:Msg} (h:valid m=true) (hi : ∀ x∈m.sums,okI x):dec (enc m)=(m,0):=by
 have he:enc m=enc0 m++(sha (enc0 m)).take 8:=by rw [enc,h];rfl
 have hl:((sha (enc0 m)).take 8).length=8:=by rw [List.length_take,sha_len];rfl
 unfold dec
 rw [he,decM_enc h hi,←he]
 unfold decF
 rw [if_neg (by simp [hl]),if_pos rfl]
theorem dec_cut {m:Msg} (h:valid m=true) (hi : ∀ x∈m.sums,okI x):dec ((enc m).take ((enc m).length - 1))=(zM,6):=by
 have he:enc m=enc0 m++(sha (enc0 m)).take 8:=by rw [enc,h];rfl
 have hl:((sha (enc0 m)).take 8).length=8:=by rw [List.length_take,sha_len];rfl
 have hcut:(enc m).take ((enc m).length - 1)=enc0 m++(sha (enc0 m)).take 7:=by
  rw [he,List.length_append,hl,show (enc0 m).length+8 - 1=(enc0 m).length+7 by omega,List.take_length_add_append,List.take_take];rfl
 unfold dec
 rw [hcut,decM_enc h hi]
 unfold decF
 rw [if_pos (by simp [List.length_take,sha_len])]
theorem enc_size {m:Msg} (h:valid m=true):(enc m).length=53+m.text.length+8*m.sums.length+16*m.values.length:=by
 have:=m.root.len
 rw [enc,h,if_pos rfl]
 simp only [enc0,List.length_append,le_len,encS_len,encV_len,List.length_take,sha_len,List.length_cons,List.length_nil]
 omega
end Go.Proofs.YtmoecjgehdkhkaaDoor

/-
  Sessions: what the fixed examples come to (plain).
-/
namespace Go.Proofs.YtmoecjgehdkhkaaDoor
open Go Go.AL

def kAsk:Msg:=⟨1,0,0,[99,111,117,110,116],zD,[],[]⟩
def kCoin:Msg:=⟨4,0,0,[],zD,[],[⟨1,0⟩]⟩
def oneD:Dg:=⟨1#8 :: List.replicate 31 0#8,rfl⟩
def kRoot:Msg:=⟨2,0,0,[],oneD,[],[]⟩
def sA:Ses:=newS 7 100
def M0:Msg:=⟨1,7,0,[99,111,117,110,116],zD,[],[]⟩
def p0:By:=enc M0
def a1:Ses := { addS sA M0 p0 with last:=M0 }
def b1:Ses:=addS sA M0 p0
def M1:Msg:=⟨2,7,1,[],oneD,[],[]⟩
def p1:By:=enc M1
def b2:Ses := { addS b1 M1 p1 with last:=M1 }
def a2:Ses:=addS a1 M1 p1
def M2:Msg:=⟨4,7,2,[],a2.seen,[],[⟨1,0⟩]⟩
def p2:By:=enc M2
def a3:Ses := { addS a2 M2 p2 with last:=M2 }
theorem v0:valid M0=true:=by decide +kernel
theorem v1:valid M1=true:=by decide +kernel
theorem v2:valid M2=true:=by rfl
theorem F1:send sA kCoin=(sA,[],290):=by
 unfold send;rw [show sBad sA kCoin=true by decide +kernel];rfl
theorem F2:send sA kAsk=(a1,p0,0):=by
 unfold send;rw [show sBad sA kAsk=false by decide +kernel,show sMsg sA kAsk=M0 from rfl,v0];rfl
theorem F3:send a1 kAsk=(a1,[],290):=by
 unfold send;rw [show sBad a1 kAsk=true by rfl];rfl
theorem F9:send b1 kRoot=(b2,p1,0):=by
 unfold send;rw [show sBad b1 kRoot=false by rfl,show sMsg b1 kRoot=M1 from rfl,v1];rfl
theorem F11:send a2 kCoin=(a3,p2,0):=by
 unfold send;rw [show sBad a2 kCoin=false by rfl,show sMsg a2 kCoin=M2 from rfl,v2];rfl
theorem F12:send a3 kCoin=(a3,[],290):=by
 unfold send;rw [show sBad a3 kCoin=true by rfl];rfl
theorem D0:dec p0=(M0,0):=dec_enc v0 (by simp [M0])
theorem D1:dec p1=(M1,0):=dec_enc v1 (by simp [M1])
theorem F4:recv sA p0 101=({ sA with state:=5 },zM,291):=by
 unfold recv;rw [if_neg (by decide),if_pos (by decide)]
theorem F5:recv sA (p0.take (p0.length - 1)) 1=(sA,zM,6):=by
 unfold recv rCode;rw [if_neg (by decide),if_neg (by decide),show dec (p0.take (p0.length - 1))=(zM,6) from dec_cut v0 (by simp [M0])];rfl
theorem F6:recv (newS 8 100) p0 1=(newS 8 100,zM,1):=by
 unfold recv rCode;rw [if_neg (by decide),if_neg (by decide),D0];rfl
theorem F7:recv sA p0 100=(b1,M0,0):=by
 unfold recv rCode;rw [if_neg (by decide),if_neg (by decide),D0,show rC sA (M0,(0:Int)).1 (M0,(0:Int)).2=0 by decide +kernel];rfl
theorem F8:recv b1 p0 1=(b1,zM,120):=by
 unfold recv rCode;rw [if_neg (show ¬(3≤b1.state) by show ¬((3:Int)≤1);omega),if_neg (show ¬(b1.due < 1) by show ¬((100:Int) < 1);omega),D0,show rC b1 (M0,(0:Int)).1 (M0,(0:Int)).2=120 by rfl];rfl
theorem F10:recv a1 p1 1=(a2,M1,0):=by
 unfold recv rCode;rw [if_neg (show ¬(3≤a1.state) by show ¬((3:Int)≤1);omega),if_neg (show ¬(a1.due < 1) by show ¬((100:Int) < 1);omega),D1,show rC a1 (M1,(0:Int)).1 (M1,(0:Int)).2=0 by rfl];rfl
theorem F13:recv { sA with state:=5 } p0 1=({ sA with state:=5 },zM,290):=by
 unfold recv;rw [if_pos (by decide)]
theorem F14:dec []=(zM,6):=by decide +kernel
theorem F15:enc zM=[]:=by unfold enc;rw [show valid zM=false by decide +kernel];rfl
theorem n0:p0.length=58:=by unfold p0;rw [enc_size v0];rfl
theorem n1:p1.length≤3000:=(enc_len v1).2
theorem n2:p2.length=69:=by unfold p2;rw [enc_size v2];rfl
theorem mo {m:Msg} (h1 : -9223372036854775808≤m.kind∧m.kind≤9223372036854775807) (h2 : -9223372036854775808≤m.session∧m.session≤9223372036854775807) (h3 : -9223372036854775808≤m.step∧m.step≤9223372036854775807) (h4:m.text.length≤140737488355000) (h5:m.sums.length≤140737488355000) (h6:m.values.length≤140737488355000):m.Ok:=⟨h1,h2,h3,h4,h5,h6⟩
theorem okAsk:kAsk.Ok:=by apply mo<;>decide
theorem okCoin:kCoin.Ok:=by apply mo<;>decide
theorem okRoot:kRoot.Ok:=by apply mo<;>decide
theorem okNew {id due:Int} (h:okI id):(newS id due).Ok:=by
 refine ⟨h,?_,?_,?_,?_,?_⟩<;>simp [newS,zM]
theorem okA:sA.Ok:=okNew ⟨by decide,by decide⟩
theorem okLate:({ sA with state:=5 }:Ses).Ok:=⟨⟨by decide,by decide⟩,⟨by decide,by decide⟩,by decide,⟨by decide,by decide⟩,⟨by decide,by decide⟩,⟨by decide,by decide⟩⟩
theorem ok_add {s:Ses} (h:s.Ok) {m:Msg} {b:By} (h1:s.step≤1000) (h2:s.bytes≤100000) (h3:s.rounds≤1000) (h4:s.words≤100000) (hb:b.length≤3000) (hs:m.sums.length≤3000) (hv:m.values.length≤3000):(addS s m b).Ok:=by
 obtain ⟨q1,q2,q3,q4,q5,q6⟩:=h
 refine ⟨q1,?_,q3,?_,?_,?_⟩<;>simp only [addS]<;>omega
theorem okB1:b1.Ok:=ok_add okA (by decide) (by decide) (by decide) (by decide) (by rw [n0];omega) (by decide) (by decide)
theorem okA1:a1.Ok:=by
 obtain ⟨q1,q2,q3,q4,q5,q6⟩:=okB1
 exact ⟨q1,q2,by decide,q4,q5,q6⟩
theorem eA1:a1.step=1∧a1.bytes=58∧a1.rounds=1∧a1.words=0:=⟨rfl,by show (0:Int)+(p0.length:Int)=58;rw [n0];rfl,rfl,rfl⟩
theorem okA2:a2.Ok:=ok_add okA1 (by rw [eA1.1];omega) (by rw [eA1.2.1];omega) (by rw [eA1.2.2.1];omega) (by rw [eA1.2.2.2];omega) n1 (by decide) (by decide)
theorem eA2:a2.step=2∧a2.bytes≤4000∧a2.rounds=2∧a2.words=0:=⟨rfl,by show a1.bytes+(p1.length:Int)≤4000;have:=n1;rw [eA1.2.1];omega,rfl,rfl⟩
theorem okA3:a3.Ok:=by
 obtain ⟨q1,q2,q3,q4,q5,q6⟩:=ok_add (m:=M2) okA2 (by rw [eA2.1];omega) (by have:=eA2.2.1;omega) (by rw [eA2.2.2.1];omega) (by rw [eA2.2.2.2];omega) (by rw [n2];omega) (by decide) (by decide)
 exact ⟨q1,q2,by decide,q4,q5,q6⟩
theorem okM2:M2.Ok:=by apply mo<;>decide
end Go.Proofs.YtmoecjgehdkhkaaDoor
