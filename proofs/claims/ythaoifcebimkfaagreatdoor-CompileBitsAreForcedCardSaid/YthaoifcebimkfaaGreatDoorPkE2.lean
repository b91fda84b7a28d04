/- Proofs. -/
import Derived.Test.YthaoifcebimkfaaGreatDoorPkE1
import Derived.Maps.Keyed
import Derived.DeepKeys4
import Derived.LaidEqlPtr
import Derived.Laws.Externs
import Derived.DeepKeys
import Derived.OrdersIn
import Derived.Laws.Cover3
import Derived.RangeFuncRecord
import Derived.Lib.SlBytesConst
import Derived.Carry
import Derived.OpenShut
import Derived.Lib.LaidTab
import Derived.Deep.DeepHandedRow
import Derived.ProofKit
set_option linter.unusedSectionVars false
set_option linter.unusedSimpArgs false
set_option linter.unusedVariables false
namespace Go.AL
open Go

def zcQ:List PV → Option (List Value)
 | []=>some []
 | .s v :: xs=>(zcQ xs).map (v :: ·)
 | _=>none

theorem zef {w:World} {S:Nat → Nat → Prop} : ∀ {xs:List PV} {a vs:List Value},zcQ xs=some a → vs.length=xs.length → (∀ (i:Nat) x v,xs[i]? = some x → vs[i]? = some v → RelP w S x v) → vs=a
 | [],a,vs,h,hl,_=>by simp only [zcQ,Option.some.injEq] at h;subst h;simpa using hl
 | x :: xs,a,vs,h,hl,hr=>by
  cases x<;>simp only [zcQ,Option.map_eq_some_iff] at h
  case s v =>
   obtain⟨a',h',rfl⟩:=h
   cases vs with
   | nil=>simp at hl
   | cons u us =>
    have h0:=hr 0 _ _ rfl rfl;cases h0;exact congrArg _ (zef h' (by simpa using hl) (fun i x v e1 e2=>hr (i+1) x v (by simpa using e1) (by simpa using e2)))
  all_goals cases h


section states
variable {G:Globs} {σ:Gh} {H:Hp} {w:World}

theorem zbR (hr:Rel G σ H w) {b:Nat} {vs vs':List AV} {S S':OS} {o o':Obj} {us:Array Value} (hb:H.f b=some (.obj vs S)) (hw:w.heap[σ.c b]? = some o) (ho:ze2 o=true) (hus:RelVs σ H w vs' us) (ho':ze2 o'=true) (hS:S' us o') :
 Rel G σ (H.set b (.obj vs' S')) (w.putObj (σ.c b) o')∧Ev H.n σ H w σ (H.set b (.obj vs' S')) (w.putObj (σ.c b) o'):=by
 have hbn:=Hp.lt hb;have hlt:σ.c b < w.heap.size:=zcM hw
 have hother : ∀ g,g≠σ.c b → (w.putObj (σ.c b) o').heap[g]? = w.heap[g]? := fun g hg=>World.putObj_heap_other hg
 have fcells : ∀ b' x,(H.set b (.obj vs' S')).f b'=some (.cells x) → H.f b'=some (.cells x):=by
  intro b' x h;rw [Hp.f_set] at h;split at h
  · cases h
  · exact h
 have ftail : ∀ b' k d,(H.set b (.obj vs' S')).f b'=some (.tl k d) → H.f b'=some (.tl k d):=by
  intro b' x d h;rw [Hp.f_set] at h;split at h
  · cases h
  · exact h
 have fobj : ∀ b' vs1 T,(H.set b (.obj vs' S')).f b'=some (.obj vs1 T) → ∃ vs'' T',H.f b'=some (.obj vs'' T'):=by
  intro b' vs1 T h;rw [Hp.f_set] at h;split at h
  · rename_i hh;rw [hh.1];exact⟨_,_,hb⟩
  · exact⟨_,_,h⟩
 have hcell : ∀ g o1 v,w.cell? ⟨g,o1,none⟩=some v → (w.putObj (σ.c b) o').cell? ⟨g,o1,none⟩=some v:=by
  intro g o1 v h;by_cases hg:g=σ.c b
  · subst hg
    cases o<;>first | (simp [World.cell?,hw] at h;done) | cases ho
  · simpa [World.cell?,hother g hg] using h
 have hev:Ev H.n σ H w σ (H.set b (.obj vs' S')) (w.putObj (σ.c b) o'):=by
  refine⟨fun g o1 v h1 h2=>⟨⟨fun b' x h=>h1.1 b' x (fcells _ _ h),fun b' k d o2 s h=>h1.2 b' k d o2 s (ftail _ _ _ h)⟩,hcell g o1 v h2⟩,fun _ _=>rfl,Nat.le_refl _,fun b' _ k d hk=>⟨k,d,ftail b' k d hk,Nat.le_refl _,fun _=>rfl⟩,by simp,
   fun g hg hf=>⟨hother g (Ne.symm (hf.3 b vs S hb)),fun b' x h=>hf.1 b' x (fcells _ _ h),fun b' k d o2 s h=>hf.2 b' k d o2 s (ftail _ _ _ h),fun b' vs' T h=>let ⟨_,_,h'⟩:=fobj _ _ _ h;hf.3 b' _ _ h'⟩,rfl,rfl⟩
 have hne : ∀ b' x,H.f b'=some (.cells x) → σ.c b'≠σ.c b:=fun b' x h e=>by
  obtain⟨c,ee,q1,_⟩:=hr.cells b' x h
  rw [e,hw] at q1;cases q1;cases ho
 have hneT : ∀ b' k d g o2 s,H.f b'=some (.tl k d) → σ.t b'=some (g,o2,s) → g≠σ.c b:=fun b' k d g o2 s h ht e=>by
  obtain⟨c,ee,q1,_⟩:=hr.tail b' k d g o2 s h ht
  rw [e,hw] at q1;cases q1;cases ho
 refine⟨⟨fun b' x h => ?_,fun b' k d g o2 s h ht => ?_,hr.vec_keep hev (fun b' k ds h=>⟨ftail _ _ _ h,rfl⟩) (fun b' k ds g o2 s _ h ht=>hother g (hneT b' k _ g o2 s h ht)),fun b1 b2 x y h1 h2=>hr.cc b1 b2 x y (fcells _ _ h1) (fcells _ _ h2),fun b1 b2 x k d g o2 s h1 h2=>hr.ct b1 b2 x k d g o2 s (fcells _ _ h1) (ftail _ _ _ h2),
  fun b1 b2 k d k' d' g o2 s o3 s' h1 h2=>hr.tt b1 b2 k d k' d' g o2 s o3 s' (ftail _ _ _ h1) (ftail _ _ _ h2),hr.glob_mono hev,fun b' vs' T h => ?_,fun b1 b2 v1 v2 T1 T2 h1 h2 he => ?_,hr.gm_mono hev,hr.z_mono hev rfl⟩,hev⟩
 · obtain⟨c,ee,q1,q2,q3⟩:=hr.cells b' x (fcells _ _ h)
   exact⟨c,ee,(hother _ (hne b' x (fcells _ _ h))).trans q1,q2,fun i y hy=>let ⟨v,a,b⟩:=q3 i y hy;⟨v,a,b.mono hev⟩⟩
 · obtain⟨c,ee,q1,q2⟩:=hr.tail b' k d g o2 s (ftail _ _ _ h) ht
   exact⟨c,ee,(hother g (hneT b' k d g o2 s (ftail _ _ _ h) ht)).trans q1,q2⟩
 · by_cases hbb:b'=b
   · subst hbb;rw [Hp.f_set_self H _ _ hbn] at h;cases h
     exact⟨o',us,World.putObj_heap_same hlt,ho',hus.mono hev,hS⟩
   · rw [Hp.f_set_ne H _ _ _ hbb] at h
     obtain⟨o1,us1,q1,q2,q3,q4⟩:=hr.objs b' vs' T h
     exact⟨o1,us1,(hother _ (fun e=>hbb (hr.oo b' b _ _ _ _ h hb e))).trans q1,q2,q3.mono hev,q4⟩
 · obtain⟨_,_,h1'⟩:=fobj _ _ _ h1
   obtain⟨_,_,h2'⟩:=fobj _ _ _ h2
   exact hr.oo b1 b2 _ _ _ _ h1' h2' he

theorem zoX (hr:Rel G σ H w) (o:Obj) (ho:ze2 o=true) (vs:List AV) (us:Array Value) (S:OS) (hus:RelVs σ H w vs us) (hS:S us o) :
 Rel G (σ.withC H.n w.heap.size) (H.new (.obj vs S)) (w.alloc o)∧Ev H.n σ H w (σ.withC H.n w.heap.size) (H.new (.obj vs S)) (w.alloc o):=by
 have hold : ∀ b,b < H.n → (σ.withC H.n w.heap.size).c b=σ.c b:=fun b hb=>by simp [Gh.withC,Nat.ne_of_lt hb]
 have hnew:(σ.withC H.n w.heap.size).c H.n=w.heap.size:=by simp [Gh.withC]
 have fcells : ∀ b x,(H.new (.obj vs S)).f b=some (.cells x) → H.f b=some (.cells x):=by
  intro b x h;rw [Hp.f_new] at h;split at h
  · cases h
  · exact h
 have ftail : ∀ b k d,(H.new (.obj vs S)).f b=some (.tl k d) → H.f b=some (.tl k d):=by
  intro b x d h;rw [Hp.f_new] at h;split at h
  · cases h
  · exact h
 have fobj : ∀ b vs' T,(H.new (.obj vs S)).f b=some (.obj vs' T) → (b=H.n∧vs'=vs∧T=S) ∨ H.f b=some (.obj vs' T):=by
  intro b vs' T h;rw [Hp.f_new] at h;split at h
  · rename_i hh;cases h;exact .inl ⟨hh,rfl,rfl⟩
  · exact .inr h
 have hev:Ev H.n σ H w (σ.withC H.n w.heap.size) (H.new (.obj vs S)) (w.alloc o):=by
  refine⟨fun g o1 v h1 h2 => ?_,hold,by simp [Hp.n_new],fun b hb k d hk=>⟨k,d,ftail b k d hk,Nat.le_refl _,fun _=>rfl⟩,by simp,fun g hg hf=>⟨heap_alloc_old w _ hg,?_,?_,?_⟩,rfl,rfl⟩
  · have hlt:g < w.heap.size:=World.block_lt_of_cell? (a:=⟨g,o1,none⟩) w h2
    refine⟨⟨fun b x h => ?_,fun b k d o2 s h ht=>h1.2 b k d o2 s (ftail _ _ _ h) ht⟩,by rw [World.cell?_alloc_lt (a:=⟨g,o1,none⟩) w _ hlt];exact h2⟩
    have h:=fcells _ _ h;rw [hold b (Hp.lt h)];exact h1.1 b x h
  · intro b x h;have h:=fcells _ _ h;rw [hold b (Hp.lt h)];exact hf.1 b x h
  · exact fun b k d o2 s h ht=>hf.2 b k d o2 s (ftail _ _ _ h) ht
  · intro b vs' T h
    rcases fobj b vs' T h with ⟨rfl,_,_⟩ | h
    · rw [hnew];omega
    · rw [hold b (Hp.lt h)];exact hf.3 b vs' T h
 refine⟨⟨fun b x h => ?_,fun b k d g o2 s h ht => ?_,hr.vec_keep hev (fun b k ds h=>⟨ftail _ _ _ h,rfl⟩) (fun b k ds g o2 s _ h ht=>heap_alloc_old w _ (hr.t_lt h ht)),fun b1 b2 x y h1 h2 he => ?_,fun b1 b2 x k d g o2 s h1 h2 ht => ?_,
  fun b1 b2 k d k' d' g o2 s o3 s' h1 h2=>hr.tt b1 b2 k d k' d' g o2 s o3 s' (ftail _ _ _ h1) (ftail _ _ _ h2),hr.glob_mono hev,fun b vs' T h => ?_,fun b1 b2 v1 v2 T1 T2 h1 h2 he => ?_,hr.gm_mono hev,hr.z_mono hev rfl⟩,hev⟩
 · have h:=fcells _ _ h
   obtain⟨c,ee,q1,q2,q3⟩:=hr.cells b x h
   exact⟨c,ee,by rw [hold b (Hp.lt h),heap_alloc_old w _ (hr.c_lt h)];exact q1,q2,fun i y hy=>let ⟨v,a,b⟩:=q3 i y hy;⟨v,a,b.mono hev⟩⟩
 · have h:=ftail _ _ _ h
   obtain⟨c,ee,q1,q2⟩:=hr.tail b k d g o2 s h ht
   exact⟨c,ee,by rw [heap_alloc_old w _ (hr.t_lt h ht)];exact q1,q2⟩
 · have h1:=fcells _ _ h1;have h2:=fcells _ _ h2;rw [hold b1 (Hp.lt h1),hold b2 (Hp.lt h2)] at he;exact hr.cc b1 b2 x y h1 h2 he
 · have h1:=fcells _ _ h1;rw [hold b1 (Hp.lt h1)];exact hr.ct b1 b2 x k d g o2 s h1 (ftail _ _ _ h2) ht
 · rcases fobj b vs' T h with ⟨rfl,rfl,rfl⟩ | h
   · exact⟨o,us,by rw [hnew];exact heap_alloc_new w _,ho,hus.mono hev,hS⟩
   · obtain⟨o1,us1,q1,q2,q3,q4⟩:=hr.objs b vs' T h
     exact⟨o1,us1,by rw [hold b (Hp.lt h),heap_alloc_old w _ (hr.o_lt h)];exact q1,q2,q3.mono hev,q4⟩
 · rcases fobj b1 v1 T1 h1 with ⟨p1,_,_⟩ | p1<;>rcases fobj b2 v2 T2 h2 with ⟨p2,_,_⟩ | p2
   · rw [p1,p2]
   · rw [p1,hnew,hold b2 (Hp.lt p2)] at he
     have:=hr.o_lt p2;omega
   · rw [p2,hnew,hold b1 (Hp.lt p1)] at he
     have:=hr.o_lt p1;omega
   · rw [hold b1 (Hp.lt p1),hold b2 (Hp.lt p2)] at he;exact hr.oo b1 b2 _ _ _ _ p1 p2 he
end states

def zhh (P:Program) (k:TypeId):Bool :=
 match P.underlying k with
 | some (.int _) | some .bool | some .string=>true
 | some (.array _ _) | some (.struct _)=>decide (k < P.types.size) && P.keyTypeAt 9999 k && laidOutB P
 | _=>false

theorem zeG {P:Program} {k:TypeId} (h:zhh P k=true):Maps.Keyed P k:=by
 unfold zhh at h;split at h
 · rename_i q hq;exact Maps.int_keyed hq
 · rename_i hq;exact Maps.bool_keyed hq
 · rename_i hq;exact .of_law (WideMaps.string_law hq)
 · rename_i hq;simp only [Bool.and_eq_true,decide_eq_true_eq] at h;exact .of_law (deep_law_laid h.2 (by omega) h.1.1 h.1.2 (by rw [hq]))
 · rename_i hq;simp only [Bool.and_eq_true,decide_eq_true_eq] at h;exact .of_law (deep_law_laid h.2 (by omega) h.1.1 h.1.2 (by rw [hq]))
 · cases h

def PV.val? : PV → Option Value
 | .s v=>some v
 | .agg xs=>(zcQ xs).map fun vs => .agg vs.toArray
 | _=>none
def AV.key? : AV → Option Value
 | .p x=>x.val?
 | _=>none

theorem AV.key?_rel {σ H w} {x:AV} {kv v:Value} (h:x.key? = some kv) (r:RelV σ H w x v):v=kv:=by
 cases x<;>simp only [AV.key?] at h<;>try cases h
 rename_i x
 cases r with | p r =>
 cases r with
 | s v h1=>simpa [PV.val?] using h
 | agg xs vs hl h1 hh =>
  simp only [PV.val?,Option.map_eq_some_iff] at h
  obtain⟨us,h2,rfl⟩:=h
  have:=zef (w:=w) (vs:=vs.toList) h2 (by simp [hl]) (fun i x v a b=>hh i x v a (by simpa using b))
  rw [←this]
 | emp=>simp [PV.val?] at h
 | sl=>simp [PV.val?] at h

def AB.map? : AB → Option (List (Value × AV))
 | .obj vals S=>S.ks.map fun ks=>ks.zip vals
 | _=>none

theorem map?_mapB (m:List (Value × AV)):(AB.mapB m).map? = some m:=by
 simp only [AB.mapB,AB.map?,zgb,Option.map_some,Option.some.injEq];rw [List.zip_map']
 simp

def zdB (P:Program) (kt:TypeId) (ks:List Value):Bool:=ks.all fun k=>(keyOf P kt k).isSome

def zdl (P:Program) (kt:TypeId) (a b:Value):Bool :=
 match keyOf P kt a,keyOf P kt b with
 | some x,some y=>x.sameKey y
 | _,_=>false

theorem zeH {P:Program} {kt:TypeId} (K:Maps.Keyed P kt) {a:Value} {l:Lit} (h:keyOf P kt a=some l):zdl P kt a a=true:=by
 simp only [zdl,h];exact WideAt.sameKey_self (K.key h)
theorem zcr {P:Program} {kt:TypeId} (K:Maps.Keyed P kt) {a b:Value} (h:zdl P kt a b=true):a=b:=by
 unfold zdl at h;split at h
 · rename_i x y hx hy;obtain rfl:=WideAt.sameKey_eq h;exact K.inj hx hy
 · cases h

def zdm (P:Program) (kt:TypeId) (kv:Value):List (Value × AV) → Option AV
 | []=>none
 | (k,v) :: m=>if zdl P kt k kv=true then some v else zdm P kt kv m

def zgC (P:Program) (kt:TypeId) (kv:Value) (x:AV):List (Value × AV) → List (Value × AV)
 | []=>[(kv,x)]
 | (k,v) :: m=>if zdl P kt k kv=true then (k,x) :: m else (k,v) :: zgC P kt kv x m

section find
variable {P:Program} {kt:TypeId} {kv:Value} {l:Lit} (K:Maps.Keyed P kt) (hkv:keyOf P kt kv=some l)
include K hkv

theorem zjl {x:AV} : ∀ {m:List (Value × AV)} {j:Nat},(∀ p∈m,(keyOf P kt p.1).isSome=true) → (m.map (·.1)).Nodup → m[j]? = some (kv,x) → zdm P kt kv m=some x
 | [],j,_,_,h=>by simp at h
 | (k,v) :: m,0,_,_,h=>by
  simp only [List.getElem?_cons_zero,Option.some.injEq,Prod.mk.injEq] at h
  obtain⟨rfl,rfl⟩:=h
  simp [zdm,zeH K hkv]
 | (k,v) :: m,j+1,hok,hnd,h=>by
  simp only [List.getElem?_cons_succ] at h;simp only [List.map_cons,List.nodup_cons] at hnd
  have hne : ¬ zdl P kt k kv=true:=fun e=>hnd.1 (by
   obtain rfl:=zcr K e
   exact List.mem_map.2 ⟨(k,x),List.mem_of_getElem? h,rfl⟩)
  rw [zdm,if_neg hne];exact zjl (fun p hp=>hok p (by simp [hp])) hnd.2 h

theorem zhi : ∀ {m:List (Value × AV)},(∀ p∈m,p.1≠kv) → zdm P kt kv m=none
 | [],_=>rfl
 | (k,v) :: m,h=>by
  have hne : ¬ zdl P kt k kv=true:=fun e=>h (k,v) (by simp) (zcr K e)
  rw [zdm,if_neg hne]
  exact zhi fun p hp=>h p (by simp [hp])

theorem zlP {x y:AV} : ∀ {m:List (Value × AV)} {j:Nat},(m.map (·.1)).Nodup → m[j]? = some (kv,y) → zgC P kt kv x m=m.modify j (fun _=>(kv,x))
 | [],j,_,h=>by simp at h
 | (k,v) :: m,0,_,h=>by
  simp only [List.getElem?_cons_zero,Option.some.injEq,Prod.mk.injEq] at h
  obtain⟨rfl,rfl⟩:=h
  simp [zgC,zeH K hkv]
 | (k,v) :: m,j+1,hnd,h=>by
  simp only [List.getElem?_cons_succ] at h;simp only [List.map_cons,List.nodup_cons] at hnd
  have hne : ¬ zdl P kt k kv=true:=fun e=>hnd.1 (by
   obtain rfl:=zcr K e
   exact List.mem_map.2 ⟨(k,y),List.mem_of_getElem? h,rfl⟩)
  rw [zgC,if_neg hne,zlP hnd.2 h]
  simp

theorem zjm {x:AV} : ∀ {m:List (Value × AV)},(∀ p∈m,p.1≠kv) → zgC P kt kv x m=m++[(kv,x)]
 | [],_=>rfl
 | (k,v) :: m,h=>by
  have hne : ¬ zdl P kt k kv=true:=fun e=>h (k,v) (by simp) (zcr K e)
  rw [zgC,if_neg hne,zjm fun p hp=>h p (by simp [hp])];rfl
end find

def zaZ (P:Program) (t:TypeId):Option AV :=
 match (P.info? t).bind (·.zero),zU P t with
 | some (.agg _),some ps=>some (.p (.agg ps))
 | some _,some [p]=>some (.p p)
 | _,_=>none

theorem zcR {P:Program} {σ:Gh} {H:Hp} {w:World} {t:TypeId} {x:AV} (h:zaZ P t=some x) : ∃ v,(zeroValue t).run P w = .ok v w∧RelV σ H w x v:=by
 unfold zaZ at h;split at h
 · rename_i cs ps hz hps;cases h
   obtain⟨z,h1,h2,h3,h4⟩:=yy (w:=w) (S:=Stable σ H) hps
   rw [hz] at h2;cases h2
   refine⟨_,h1,.p (.agg ps cs h3 (fun i v hv => ?_) (fun i p v hp hv=>(h4 i p v hp hv).1))⟩
   have hlt:i < ps.length:=by rw [←h3];exact (Array.getElem?_eq_some_iff.1 hv).1
   exact (h4 i ps[i] v (by simp) hv).2
 · rename_i v p hne hz hps;cases h
   obtain⟨z,h1,h2,h3,h4⟩:=yy (w:=w) (S:=Stable σ H) hps
   rw [hz] at h2;cases h2
   refine⟨_,h1,.p ?_⟩
   have hc:v.cells = #[v]:=by
    cases v with
    | agg cs=>exact absurd rfl (hne cs)
    | _=>rfl
   exact (h4 0 p v rfl (by rw [hc];rfl)).1
 · cases h

def zby (P:Program) (gm:Nat → Option (List (Value × AV))) (H:Hp) (t:TypeId) (x ix:AV) (ok:Bool):Option AV :=
 match P.underlying t with
 | some (.map kt et) =>
  match (match x with | .mp b=>(H.f b).bind AB.map? | .p (.s (.map none))=>some [] | .p (.s (.map (some r)))=>gm r | _=>none),ix.key? with
  | some m,some kv =>
   if zhh P kt∧zdB P kt (kv :: m.map (·.1)) then
    match zdm P kt kv m,zaZ P et with
    | some v,some _=>some (if ok then .tup [v,.p (.s (.bool true))] else v)
    | none,some z=>some (if ok then .tup [z,.p (.s (.bool false))] else z)
    | _,_=>none
   else none
  | _,_=>none
 | _=>none

def zeg (P:Program) (H:Hp) (t:TypeId) (x ix y:AV):Option Hp :=
 match P.underlying t,x with
 | some (.map kt _),.mp b =>
  match (H.f b).bind AB.map?,ix.key? with
  | some m,some kv=>if zhh P kt∧zdB P kt (kv :: m.map (·.1)) then some (H.set b (.mapB (zgC P kt kv y m))) else none
  | _,_=>none
 | _,_=>none

section runs
variable {P:Program} {G:Globs} {σ:Gh} {H:Hp} {w:World}

theorem zgU (hr:Rel G σ H w) {b:Nat} {m:List (Value × AV)} (hb:(H.f b).bind AB.map? = some m) :
 ∃ vs S es clock,H.f b=some (.obj vs S)∧w.heap[σ.c b]? = some (.map es clock)∧es.toList.map (·.key)=m.map (·.1)∧(m.map (·.1)).Nodup∧(es.toList.map (·.born)).Nodup∧(∀ e∈es.toList,e.born < clock) ∧
  es.size=m.length ∧ ∀ (j:Nat) e p,es[j]? = some e → m[j]? = some p → e.key=p.1∧RelV σ H w p.2 e.val:=by
 cases hf:H.f b with
 | none=>simp [hf] at hb
 | some x =>
  rw [hf] at hb
  cases x with
  | obj vs S =>
   simp only [Option.bind_some,AB.map?,Option.map_eq_some_iff] at hb
   obtain⟨ks,hks,rfl⟩:=hb
   obtain⟨o,us,h1,h2,h3,h4⟩:=hr.objs b vs S hf
   obtain⟨es,clock,rfl,e1,e2,e3,e4,e5⟩:=S.map ks hks us o h4
   have hl1:ks.length=es.size:=by rw [←e1];simp
   have hl2:vs.length=es.size:=by rw [←h3.1,←Array.length_toList,←e2];simp
   have hm1:(ks.zip vs).map (·.1)=ks:=List.map_fst_zip (by omega)
   refine⟨vs,S,es,clock,rfl,h1,by rw [hm1,e1],by rw [hm1];exact e3,e4,e5,by simp;omega,fun j e p hj hp => ?_⟩
   rw [List.getElem?_zip_eq_some] at hp
   have hk:(es.toList.map (·.key))[j]? = some e.key:=by simp [hj]
   have hv:(es.toList.map (·.val))[j]? = some e.val:=by simp [hj]
   rw [e1,hp.1] at hk;rw [e2] at hv
   exact⟨(Option.some.inj hk).symm,h3.2 j p.2 e.val hp.2 (by simpa using hv)⟩
  | _=>simp [AB.map?] at hb

theorem zlQ (hr:Rel G σ H w) {t:TypeId} {x ix y:AV} {ok:Bool} {vx vi:Value} (h:zby P G.map H t x ix ok=some y) (hx:RelV σ H w x vx) (hi:RelV σ H w ix vi) :
 ∃ v,(Instr.lookup t vx vi ok).run P w = .ok v w∧RelV σ H w y v:=by
 unfold zby at h;split at h
 case h_2=>cases h
 rename_i kt et hu;split at h
 case h_2=>cases h
 rename_i m kv hm hkv;obtain rfl:=AV.key?_rel hkv hi;split at h
 case isFalse=>cases h
 rename_i hc
 obtain⟨hkt,hok⟩:=hc
 have K:=zeG hkt;simp only [zdB,List.all_cons,Bool.and_eq_true,List.all_eq_true,List.mem_map] at hok
 obtain⟨hk0,hks⟩:=hok
 obtain⟨lk,hlk⟩:=Option.isSome_iff_exists.1 hk0
 -- the entries
 have hes : ∃ es:Array MapEntry,((vx = .map none∧es = #[]) ∨ ∃ r clock,vx = .map (some r)∧w.heap[r]? = some (.map es clock))∧(m.map (·.1)).Nodup∧es.size=m.length ∧ ∀ (j:Nat) e p,es[j]? = some e → m[j]? = some p → e.key=p.1∧RelV σ H w p.2 e.val:=by
  split at hm
  · rename_i b
    cases hx with | mp hb =>
    obtain⟨vs,S,es,clock,_,h1,_,h3,_,_,h6,h7⟩:=zgU hr hm
    exact⟨es,.inr ⟨_,clock,rfl,h1⟩,h3,h6,h7⟩
  · cases hm
    obtain rfl:vx = .map none:=by cases hx with | p hp=>cases hp;rfl
    exact⟨#[],.inl ⟨rfl,rfl⟩,by simp,by simp,by simp⟩
  · rename_i r
    obtain rfl:vx = .map (some r):=by cases hx with | p hp=>cases hp;rfl
    obtain⟨⟨es,clock,h1,h2,h3,h4⟩,_⟩:=hr.gm r m hm
    exact⟨es,.inr ⟨r,clock,rfl,h1⟩,h3,h2,h4⟩
  · cases hm
 obtain⟨es,he,hnd,hsz,hent⟩:=hes
 have hkeys : ∀ e∈es.toList,∃ l,keyOf P kt e.key=some l:=fun e hmem=>by
  obtain⟨j,hj⟩:=List.getElem?_of_mem hmem
  have hlt:j < m.length:=by rw [←hsz];simpa using (List.getElem?_eq_some_iff.1 hj).1
  have hp:m[j]? = some m[j]:=by simp [hlt]
  obtain⟨h1,_⟩:=hent j e m[j] (by simpa using hj) hp
  rw [h1];exact Option.isSome_iff_exists.1 (hks _ ⟨m[j],List.mem_of_getElem? hp,rfl⟩)
 have hchk:=K.check w es.isEmpty hlk
 have hrun : ∀ q:Option (Nat × Value),(Instr.findKey kt vi es.toList).run P w = .ok q w → (Instr.lookup t vx vi ok).run P w =
  ((do let (v,ok') ←(match q with | some (_,v)=>pure (v,true) | none=>do pure (←zeroValue et,false):Sem (Value × Bool));pure (if ok then .tuple #[v,.bool ok'] else v):Sem Value).run P w):=fun q hfind=>by
  unfold Instr.lookup
  rcases he with ⟨rfl,rfl⟩ | ⟨r,clock,rfl,hw⟩
  · cases q<;>simp only [Sem.run_bind,run_underlying hu,Result.andThen_ok,Sem.run_pure,hchk,hfind]<;>cases (zeroValue et).run P w<;>simp [Result.andThen]
  · cases q<;>simp only [Sem.run_bind,run_underlying hu,Result.andThen_ok,Sem.run_pure,MapKept.run_getObj_map hw,hchk,hfind]<;>cases (zeroValue et).run P w<;>simp [Result.andThen]
 rcases K.find w hlk es.toList hkeys with ⟨hfind,hne⟩ | ⟨j,e,hfind,hj,hkey⟩
 · have hmiss:zdm P kt vi m=none:=zhi K hlk fun p hp e=>by
    obtain⟨j,hj⟩:=List.getElem?_of_mem hp
    have hlt:j < es.size:=by rw [hsz];exact (List.getElem?_eq_some_iff.1 hj).1
    obtain⟨h1,_⟩:=hent j es[j] p (by simp) hj
    exact hne es[j] (by simp) (h1.trans e)
   rw [hmiss] at h;split at h
   · rename_i h1 _;cases h1
   · rename_i z _ hz
     obtain⟨v,hv,hzv⟩:=zcR (σ:=σ) (H:=H) (w:=w) hz
     rw [hrun _ hfind];cases h
     refine⟨if ok then .tuple #[v,.bool false] else v,by simp [hv],?_⟩
     cases ok
     · exact hzv
     · refine .tup _ (by simp) fun i x v' h1 h2 => ?_
       rcases i with _ | _ | i
       · simp at h1 h2;subst h1;subst h2;exact hzv
       · simp at h1 h2;subst h1;subst h2;exact .p (.s _ rfl)
       · simp at h1
   · cases h
 · have hj':es[j]? = some e:=by simpa using hj
   have hlt:j < m.length:=by rw [←hsz];exact (Array.getElem?_eq_some_iff.1 hj').1
   have hp:m[j]? = some m[j]:=by simp [hlt]
   obtain⟨h1,h2⟩:=hent j e m[j] hj' hp
   have hhit:zdm P kt vi m=some m[j].2:=zjl K hlk (fun p hp=>hks _ ⟨p,hp,rfl⟩) hnd (by rw [hp,←hkey,h1]);rw [hhit] at h;split at h
   · rename_i v _ h3 _;cases h3;rw [hrun _ hfind];cases h
     refine⟨if ok then .tuple #[e.val,.bool true] else e.val,by simp,?_⟩
     cases ok
     · exact h2
     · refine .tup _ (by simp) fun i x v' h1 h2' => ?_
       rcases i with _ | _ | i
       · simp at h1 h2';subst h1;subst h2';exact h2
       · simp at h1 h2';subst h1;subst h2';exact .p (.s _ rfl)
       · simp at h1
   · rename_i h3 _;cases h3
   · cases h

theorem zlR (hr:Rel G σ H w) {t:TypeId} {x ix y:AV} {H':Hp} {vx vi vy:Value} (h:zeg P H t x ix y=some H') (hx:RelV σ H w x vx) (hi:RelV σ H w ix vi) (hy:RelV σ H w y vy) :
 ∃ w',(Instr.mapUpdate t vx vi vy).run P w = .ok () w'∧Rel G σ H' w'∧Ev H.n σ H w σ H' w':=by
 unfold zeg at h;split at h
 case h_2=>cases h
 rename_i kt et b hu;split at h
 case h_2=>cases h
 rename_i m kv hm hkv;obtain rfl:=AV.key?_rel hkv hi;split at h
 case isFalse=>cases h
 rename_i hc
 obtain⟨hkt,hok⟩:=hc
 cases h;have K:=zeG hkt;simp only [zdB,List.all_cons,Bool.and_eq_true,List.all_eq_true,List.mem_map] at hok
 obtain⟨hk0,hks⟩:=hok
 obtain⟨lk,hlk⟩:=Option.isSome_iff_exists.1 hk0
 cases hx with | mp hbn =>
 obtain⟨vs,S,es,clock,hb,hw,hkk,hnd,hborn,hclk,hsz,hent⟩:=zgU hr hm
 have hkeys : ∀ e∈es.toList,∃ l,keyOf P kt e.key=some l:=fun e hmem=>by
  have:e.key∈m.map (·.1):=by rw [←hkk];exact List.mem_map.2 ⟨e,hmem,rfl⟩
  exact Option.isSome_iff_exists.1 (hks _ (by simpa using this))
 have hchk:=K.check w false hlk
 have hset : ∀ o,(setObj (σ.c b) o).run P w = .ok () (w.putObj (σ.c b) o):=fun o=>MapKept.run_setObj_map o hw
 have hvals : ∀ (j:Nat) p e,m[j]? = some p → es[j]? = some e → RelV σ H w p.2 e.val:=fun j p e h1 h2=>(hent j e p h2 h1).2
 rcases K.find w hlk es.toList hkeys with ⟨hfind,hne⟩ | ⟨j,e,hfind,hj,hkey⟩
 · have hput:zgC P kt vi y m=m++[(vi,y)]:=zjm K hlk fun p hp e=>by
    have:p.1∈es.toList.map (·.key):=by rw [hkk];exact List.mem_map.2 ⟨p,hp,rfl⟩
    obtain⟨e',h1,h2⟩:=List.mem_map.1 this
    exact hne e' h1 (h2.trans e)
   refine⟨w.putObj (σ.c b) (.map (es.push { key:=vi,val:=vy,born:=clock }) (clock+1)),?_,?_⟩
   · unfold Instr.mapUpdate;simp [run_underlying hu,MapKept.run_getObj_map hw,hchk,hfind,hset]
   · rw [hput];refine zbR hr hb hw rfl (S':=zgb ((m++[(vi,y)]).map (·.1))) (o' := .map (es.push { key:=vi,val:=vy,born:=clock }) (clock+1)) (vs':=(m++[(vi,y)]).map (·.2)) (us:=(es.push { key:=vi,val:=vy,born:=clock }).map (·.val)) ⟨by simp [hsz],fun i x v h1 h2 => ?_⟩ rfl ?_
     · by_cases hi:i < m.length
       · have hp:m[i]? = some m[i]:=by simp [hi]
         have he:es[i]? = some es[i]:=by simp [hsz,hi]
         simp [List.getElem?_append_left,hi,hp] at h1;simp [Array.getElem?_push,hsz,Nat.ne_of_lt hi,he,hi] at h2;subst h1;subst h2;exact hvals i m[i] es[i] hp he
       · have:i=m.length:=by
          have:=(List.getElem?_eq_some_iff.1 h1).1
          simp at this;omega
         subst this;simp at h1;rw [Array.map_push,Array.getElem?_push,Array.size_map,if_pos hsz.symm] at h2;simp at h2;subst h1;subst h2;exact hy
     · refine⟨_,_,rfl,by simp [hkk],by simp,?_,?_,fun e he => ?_⟩
       · simp only [List.map_append,List.map_cons,List.map_nil];rw [List.nodup_append]
         refine⟨hnd,by simp,fun a ha b hb => ?_⟩
         simp only [List.mem_singleton] at hb;subst hb;rw [←hkk] at ha
         obtain⟨e',h1,h2⟩:=List.mem_map.1 ha
         exact fun h=>hne e' h1 (h2.trans h)
       · simp only [Array.toList_push,List.map_append,List.map_cons,List.map_nil];rw [List.nodup_append]
         refine⟨hborn,by simp,fun a ha b hb => ?_⟩
         simp only [List.mem_singleton] at hb;subst hb
         obtain⟨e',h1,h2⟩:=List.mem_map.1 ha
         have:=hclk e' h1
         omega
       · simp only [Array.toList_push,List.mem_append,List.mem_singleton] at he
         rcases he with he | rfl
         · exact Nat.lt_succ_of_lt (hclk e he)
         · exact Nat.lt_succ_self _
 · have hj':es[j]? = some e:=by simpa using hj
   have hjl:j < es.size:=(Array.getElem?_eq_some_iff.1 hj').1
   have hlt:j < m.length:=by omega
   have hp:m[j]? = some m[j]:=by simp [hlt]
   obtain⟨h1,h2⟩:=hent j e m[j] hj' hp
   have hput:zgC P kt vi y m=m.modify j (fun _=>(vi,y)):=zlP K hlk (y:=m[j].2) hnd (by rw [hp,←hkey,h1]);have hst:=K.stays w hlk
   refine⟨w.putObj (σ.c b) (.map (es.modify j fun e => { e with key:=vi,val:=vy }) clock),?_,?_⟩
   · unfold Instr.mapUpdate;simp [run_underlying hu,MapKept.run_getObj_map hw,hchk,hfind,hset,hj',hkey,hst]
   · rw [hput]
     have hkeys':(es.modify j fun e => { e with key:=vi,val:=vy }).toList.map (·.key)=es.toList.map (·.key):=by
      apply List.ext_getElem?;intro i;simp only [List.getElem?_map,Array.getElem?_toList,Array.getElem?_modify];by_cases hij:j=i
      · subst hij;simp [hj',hkey]
      · simp [hij]
     have hborn':(es.modify j fun e => { e with key:=vi,val:=vy }).toList.map (·.born)=es.toList.map (·.born):=by
      apply List.ext_getElem?;intro i;simp only [List.getElem?_map,Array.getElem?_toList,Array.getElem?_modify];by_cases hij:j=i
      · subst hij;simp [hj']
      · simp [hij]
     have hm':(m.modify j fun _=>(vi,y)).map (·.1)=m.map (·.1):=by
      apply List.ext_getElem?;intro i;simp only [List.getElem?_map,List.getElem?_modify];by_cases hij:j=i
      · subst hij;simp [hp,←h1,hkey]
      · simp [hij]
     refine zbR hr hb hw rfl (S':=zgb ((m.modify j fun _=>(vi,y)).map (·.1))) (o' := .map (es.modify j fun e => { e with key:=vi,val:=vy }) clock) (vs':=(m.modify j fun _=>(vi,y)).map (·.2)) (us:=(es.modify j fun e => { e with key:=vi,val:=vy }).map (·.val)) ⟨by simp [hsz],fun i x v h3 h4 => ?_⟩ rfl ?_
     · simp only [List.getElem?_map,List.getElem?_modify,Array.getElem?_map,Array.getElem?_modify,Option.map_eq_some_iff] at h3 h4
       obtain⟨q,hq,rfl⟩:=h3
       obtain⟨f,hf,rfl⟩:=h4
       by_cases hij:j=i
       · subst hij;simp [hp] at hq;simp [hj'] at hf;subst hq;subst hf;exact hy
       · simp [hij] at hq hf;exact hvals i q f hq hf
     · exact⟨_,_,rfl,by rw [hkeys',hkk,hm'],by simp,by rw [hm'];exact hnd,by rw [hborn'];exact hborn,fun e' he'=>by
        have:e'.born∈es.toList.map (·.born):=by rw [←hborn'];exact List.mem_map.2 ⟨e',he',rfl⟩
        obtain⟨e2,h5,h6⟩:=List.mem_map.1 this
        rw [←h6];exact hclk e2 h5⟩

theorem zlS (hr:Rel G σ H w) {t:TypeId} :
 ∃ v w' σ',(Instr.makeMap t none).run P w = .ok v w'∧RelV σ' (H.new (.mapB [])) w' (.mp H.n) v∧Rel G σ' (H.new (.mapB [])) w'∧Ev H.n σ H w σ' (H.new (.mapB [])) w':=by
 obtain⟨h1,h2⟩:=zoX hr (.map #[] 0) rfl [] #[] (zgb []) ⟨rfl,by simp⟩ ⟨#[],0,rfl,by simp,by simp,by simp,by simp,by simp⟩
 refine⟨.map (some w.heap.size),w.alloc (.map #[] 0),_,by simp [Instr.makeMap,newObj,Sem.run],?_,h1,h2⟩
 have:RelV (σ.withC H.n w.heap.size) (H.new (.mapB [])) (w.alloc (.map #[] 0)) (.mp H.n) (.map (some ((σ.withC H.n w.heap.size).c H.n))) := .mp (by simp [Hp.n_new])
 simpa [Gh.withC] using this
end runs

end Go.AL

namespace Go.AL
open Go

abbrev ptA (g o:Nat):Value := .pointer (some ⟨g,o,none⟩)
abbrev ptv (g:Nat):Value:=ptA g 0
abbrev ptq (g o:Nat):PV := .s (ptA g o)
abbrev ptp (g:Nat):PV:=ptq g 0
def zhj (H:Hp) (x:AV):AV :=
 match x with
 | .p (.s (.pointer (some ⟨g,o,none⟩)))=>match H.z g with | some (sz,xs)=>if o < xs.length*sz then .ip sz xs (o / sz) (o % sz) else .top | none => .top
 | x=>x
theorem zxB {G:Globs} {σ:Gh} {H:Hp} {w:World} (hr:Rel G σ H w) {x:AV} {v:Value} (h:RelV σ H w x v):RelV σ H w (zhj H x) v:=by
 unfold zhj
 split
 · rename_i g o
   cases h with | p h =>
   cases h
   split
   · rename_i sz xs hz
     split
     · rename_i hlt;have h1:=(hr.z g sz xs hz).2.2
       generalize hv:(Value.pointer (some ⟨g,0,none⟩))=v at h1
       cases h1 with | @ip _ _ _ _ g' off cap hp hi hs =>
       simp only [Value.pointer.injEq,Option.some.injEq,Addr.mk.injEq,and_true] at hv
       obtain⟨rfl,ho⟩:=hv
       have:off=0:=by omega
       subst this
       have hpos:0 < sz:=by omega
       have h2:RelV σ H w (.ip sz xs (o / sz) (o % sz)) (.pointer (some ⟨g,0+o / sz*sz+o % sz,none⟩)) := .ip hp (Nat.div_lt_of_lt_mul (by rw [Nat.mul_comm];exact hlt)) (Nat.mod_lt _ hpos)
       rwa [Nat.zero_add,Nat.div_add_mod'] at h2
     · exact .top _
   · exact .top _
 · exact h

def zGw (w:World) (p:Bool) (v:Value):Prop :=
 match p with
 | true => ∃ g c e,v=ptv g∧w.heap[g]? = some (.cells c e (0,0))
 | false => ∃ n,v = .int .i64 n
def RowK (w:World):List Bool → List Value → Prop
 | [],[]=>True
 | p :: ps,v :: vs=>zGw w p v∧RowK w ps vs
 | _,_=>False
def zr8 (H:Hp) (p:Bool) (v:Value):Prop :=
 match p with
 | true => ∃ g,v=ptv g∧H.z g≠none
 | false => ∃ n,v = .int .i64 n
def RowZ (H:Hp):List Bool → List Value → Prop
 | [],[]=>True
 | p :: ps,v :: vs=>zr8 H p v∧RowZ H ps vs
 | _,_=>False
theorem RowZ.k {G:Globs} {σ:Gh} {H:Hp} {w:World} (hr:Rel G σ H w) : ∀ {sh:List Bool} {vs:List Value},RowZ H sh vs → RowK w sh vs
 | [],[],_=>trivial
 | p :: sh,v :: vs,⟨h1,h2⟩=>⟨by
  cases p with
  | false=>exact h1
  | true =>
   obtain⟨g,rfl,hz⟩:=h1
   cases h:H.z g with
   | none=>exact absurd h hz
   | some q =>
    obtain⟨⟨c,e,hc⟩,_⟩:=hr.z g q.1 q.2 h
    exact⟨g,c,e,rfl,hc⟩,RowZ.k hr h2⟩

structure PKeys (P:Program) (kt:TypeId) (sh:List Bool):Prop where
 st : ∃ fs,P.underlying kt=some (.struct fs)
 check : ∀ (w:World) (em:Bool) (vs:List Value),RowK w sh vs → (Instr.checkKey em 10000 kt (.agg vs.toArray)).run P w = .ok () w
 eq : ∀ (w:World) (xs ys:List Value),RowK w sh xs → RowK w sh ys → ∃ r:Bool,(Op.equal kt (.agg xs.toArray) (.agg ys.toArray)).run P w = .ok r w∧(r=true ↔ xs=ys)

def zhk (H:Hp) (sh:List Bool) (v:Value):Prop := ∃ vs:List Value,v = .agg vs.toArray∧RowZ H sh vs
open Classical in
noncomputable def zdC (kv:Value):List (Value × AV) → Option AV
 | []=>none
 | (k,v) :: m=>if k=kv then some v else zdC kv m
open Classical in
noncomputable def zfR (kv:Value) (x:AV):List (Value × AV) → List (Value × AV)
 | []=>[(kv,x)]
 | (k,v) :: m=>if k=kv then (k,x) :: m else (k,v) :: zfR kv x m
def zlT (P:Program) (H:Hp) (kt:TypeId) (kv:Value) (m:List (Value × AV)):Prop := ∃ sh,PKeys P kt sh∧zhk H sh kv ∧ ∀ e∈m,zhk H sh e.1

open Classical in
noncomputable def zaJ (P:Program) (H:Hp) (t:TypeId) (x ix:AV) (ok:Bool):Option AV :=
 match P.underlying t,x,ix.key? with
 | some (.map kt et),.mp b,some kv =>
  match (H.f b).bind AB.map? with
  | some m =>
   if zlT P H kt kv m then
    match zdC kv m,zaZ P et with
    | some v,some _=>some (if ok then .tup [v,.p (.s (.bool true))] else v)
    | none,some z=>some (if ok then .tup [z,.p (.s (.bool false))] else z)
    | _,_=>none
   else none
  | none=>none
 | _,_,_=>none
open Classical in
noncomputable def zdD (P:Program) (H:Hp) (t:TypeId) (x ix y:AV):Option Hp :=
 match P.underlying t,x,ix.key? with
 | some (.map kt et),.mp b,some kv =>
  match (H.f b).bind AB.map? with
  | some m=>if zlT P H kt kv m then some (H.set b (.mapB (zfR kv y m))) else none
  | none=>none
 | _,_,_=>none

section rel
variable {P:Program} {G:Globs} {σ:Gh} {H:Hp} {w:World}

theorem zhl {fs:Array Field} {k:Value} {e:MapEntry} {es:List MapEntry} {i:Nat}:Instr.findNow (.struct fs) k (e :: es) i=none:=by
 simp [Instr.findNow,Instr.sameNow]

theorem zhm (hr:Rel G σ H w) {kt:TypeId} {sh:List Bool} (K:PKeys P kt sh) {kv:Value} (hk:zhk H sh kv) : ∀ (es:List MapEntry) (m:List (Value × AV)) (i:Nat),es.map (·.key)=m.map (·.1) → (∀ e∈m,zhk H sh e.1) →
 ((Instr.findAsking kt kv es i).run P w = .ok none w∧zdC kv m=none∧(∀ y,zfR kv y m=m++[(kv,y)]) ∧ ∀ e∈es,e.key≠kv) ∨
 ∃ j e p,(Instr.findAsking kt kv es i).run P w = .ok (some (i+j,e.val)) w∧es[j]? = some e∧m[j]? = some p∧e.key=kv∧zdC kv m=some p.2 ∧ ∀ y,zfR kv y m=m.set j (kv,y)
 | [],m,i,h,_=>by
  have:m=[]:=by simpa using h.symm
  subst this;exact .inl ⟨by simp [Instr.findAsking],rfl,fun _=>rfl,by simp⟩
 | e :: es,m,i,h,ho=>by
  cases m with
  | nil=>simp at h
  | cons p m =>
   simp only [List.map_cons,List.cons.injEq] at h
   obtain⟨h1,h2⟩:=h
   obtain⟨xs,rfl,hx⟩:=hk
   obtain⟨ys,hy1,hy⟩:=ho p (by simp)
   obtain⟨r,hrun,hiff⟩:=K.eq w _ _ (hx.k hr) (hy.k hr)
   rw [←hy1] at hrun
   have hv:(r=true ↔ p.1=Value.agg xs.toArray):=by
    rw [hiff,hy1];constructor
    · intro e;rw [e]
    · intro e;simpa using e.symm
   cases r with
   | true =>
    have e1:=hv.1 rfl;refine .inr ⟨0,e,p,?_,rfl,rfl,h1.trans e1,?_,fun y => ?_⟩
    · simp [Instr.findAsking,h1,hrun]
    · obtain⟨pk,pv⟩:=p;simp only at e1;simp [zdC,e1]
    · obtain⟨pk,pv⟩:=p;simp only at e1;simp [zfR,e1]
   | false =>
    have e1 : ¬ p.1=Value.agg xs.toArray:=fun x=>by have:=hv.2 x;simp at this
    rcases zhm hr K ⟨xs,rfl,hx⟩ es m (i+1) h2 (fun q hq=>ho q (by simp [hq])) with ⟨a1,a2,a3,a4⟩ | ⟨j,e',p',a1,a2,a3,a4,a5,a6⟩
    · refine .inl ⟨?_,?_,fun y => ?_,fun e' he => ?_⟩
      · simp [Instr.findAsking,h1,hrun,a1]
      · obtain⟨pk,pv⟩:=p;simp only at e1;simp [zdC,e1,a2]
      · obtain⟨pk,pv⟩:=p;simp only at e1;simp [zfR,e1,a3]
      · simp only [List.mem_cons] at he
        rcases he with rfl | he
        · rw [h1];exact e1
        · exact a4 e' he
    · refine .inr ⟨j+1,e',p',?_,a2,a3,a4,?_,fun y => ?_⟩
      · simp [Instr.findAsking,h1,hrun,a1,Nat.add_comm,Nat.add_left_comm]
      · obtain⟨pk,pv⟩:=p;simp only at e1;simp [zdC,e1,a5]
      · obtain⟨pk,pv⟩:=p;simp only at e1;simp [zfR,e1,a6]

theorem run_findKey (hr:Rel G σ H w) {kt:TypeId} {sh:List Bool} (K:PKeys P kt sh) {kv:Value} (hk:zhk H sh kv) {es:List MapEntry} {m:List (Value × AV)} (h:es.map (·.key)=m.map (·.1)) (hN : ∀ e∈m,zhk H sh e.1) :
 ((Instr.findKey kt kv es).run P w = .ok none w∧zdC kv m=none∧(∀ y,zfR kv y m=m++[(kv,y)]) ∧ ∀ e∈es,e.key≠kv) ∨
 ∃ j e p,(Instr.findKey kt kv es).run P w = .ok (some (j,e.val)) w∧es[j]? = some e∧m[j]? = some p∧e.key=kv∧zdC kv m=some p.2 ∧ ∀ y,zfR kv y m=m.set j (kv,y):=by
 obtain⟨fs,hfs⟩:=K.st
 cases es with
 | nil =>
  have:m=[]:=by simpa using h.symm
  subst this;exact .inl ⟨by simp [Instr.findKey,run_underlying hfs,Instr.findNow],rfl,fun _=>rfl,by simp⟩
 | cons e es =>
  have hrun:(Instr.findKey kt kv (e :: es)).run P w=(Instr.findAsking kt kv (e :: es)).run P w:=by
   simp [Instr.findKey,run_underlying hfs,zhl]
  rw [hrun]
  rcases zhm hr K hk (e :: es) m 0 h hN with a | ⟨j,e',p',a1,a2⟩
  · exact .inl a
  · exact .inr ⟨j,e',p',by simpa using a1,a2⟩

theorem zoY (hr:Rel G σ H w) {t:TypeId} {x y ix:AV} {ok:Bool} {vx vi:Value} (h:zaJ P H t x ix ok=some y) (hx:RelV σ H w x vx) (hi:RelV σ H w ix vi) :
 ∃ v,(Instr.lookup t vx vi ok).run P w = .ok v w∧RelV σ H w y v:=by
 unfold zaJ at h;split at h
 case h_2=>cases h
 rename_i kt et b kv hu hkv;obtain rfl:=AV.key?_rel hkv hi;split at h
 case h_2=>cases h
 rename_i m hm;split at h
 case isFalse=>cases h
 rename_i hc
 obtain⟨sh,K,hk,hN⟩:=hc
 cases hx with | mp hb =>
 obtain⟨vs,S,es,clock,_,hw,hE,_,_,_,hsz,hent⟩:=zgU hr hm
 obtain⟨cs,hcs,hrz⟩:=hk
 have hchk:=K.check w es.isEmpty _ (hrz.k hr);rw [←hcs] at hchk
 rcases run_findKey hr K ⟨cs,hcs,hrz⟩ hE hN with ⟨hf,h2,_⟩ | ⟨j,e,p,hf,hj,hp,hpk,h2,_⟩
 · rw [h2] at h;split at h
   · rename_i h3 _;cases h3
   · rename_i z _ hz
     obtain⟨v,hv1,hv2⟩:=zcR (σ:=σ) (H:=H) (w:=w) hz
     cases h
     refine⟨if ok then .tuple #[v,.bool false] else v,?_,?_⟩
     · unfold Instr.lookup;simp only [Sem.run_bind,run_underlying hu,Result.andThen_ok,Sem.run_pure,MapKept.run_getObj_map hw,hchk,hf,hv1]
     · cases ok
       · exact hv2
       · refine .tup _ (by simp) fun i x v' h1 h2' => ?_
         rcases i with _ | _ | i
         · simp at h1 h2';subst h1;subst h2';exact hv2
         · simp at h1 h2';subst h1;subst h2';exact .p (.s _ rfl)
         · simp at h1
   · cases h
 · obtain⟨q1,q2⟩:=hent j e p (by simpa using hj) hp
   rw [h2] at h;split at h
   · rename_i v _ h3 _;cases h3;cases h
     refine⟨if ok then .tuple #[e.val,.bool true] else e.val,?_,?_⟩
     · unfold Instr.lookup;simp only [Sem.run_bind,run_underlying hu,Result.andThen_ok,Sem.run_pure,MapKept.run_getObj_map hw,hchk,hf]
     · cases ok
       · exact q2
       · refine .tup _ (by simp) fun i x v' h1 h2' => ?_
         rcases i with _ | _ | i
         · simp at h1 h2';subst h1;subst h2';exact q2
         · simp at h1 h2';subst h1;subst h2';exact .p (.s _ rfl)
         · simp at h1
   · rename_i h3 _;cases h3
   · cases h

theorem zhn : ∀ {sh:List Bool} {vs:List Value},RowZ H sh vs → ∀ n,(vs.zip vs).all (fun (x,y)=>Instr.sameBits n x y)=true
 | [],[],_,_=>rfl
 | p :: sh,v :: vs,⟨h1,h2⟩,n=>by
  simp only [List.zip_cons_cons,List.all_cons,zhn h2 n,Bool.and_true]
  cases p with
  | false=>obtain⟨m,rfl⟩:=h1;cases n<;>simp [Instr.sameBits]
  | true=>obtain⟨g,rfl,_⟩:=h1;cases n<;>simp [Instr.sameBits,ptA]

theorem ztq (hr:Rel G σ H w) {t:TypeId} {x y ix:AV} {H':Hp} {vx vi vy:Value} (h:zdD P H t x ix y=some H') (hx:RelV σ H w x vx) (hi:RelV σ H w ix vi) (hy:RelV σ H w y vy) :
 ∃ w',(Instr.mapUpdate t vx vi vy).run P w = .ok () w'∧Rel G σ H' w'∧Ev H.n σ H w σ H' w':=by
 unfold zdD at h;split at h
 case h_2=>cases h
 rename_i kt et b kv hu hkv;obtain rfl:=AV.key?_rel hkv hi;split at h
 case h_2=>cases h
 rename_i m hm;split at h
 case isFalse=>cases h
 rename_i hc
 obtain⟨sh,K,hk,hN⟩:=hc
 cases h
 cases hx with | mp hb =>
 obtain⟨vs,S,es,clock,hf0,hw,hkk,hnd,hborn,hclk,hsz,hent⟩:=zgU hr hm
 obtain⟨cs,hcs,hrz⟩:=hk
 have hchk:=K.check w false _ (hrz.k hr);rw [←hcs] at hchk
 have hset : ∀ o,(setObj (σ.c b) o).run P w = .ok () (w.putObj (σ.c b) o):=fun o=>MapKept.run_setObj_map o hw
 rcases run_findKey hr K ⟨cs,hcs,hrz⟩ hkk hN with ⟨hfind,_,hput,hne⟩ | ⟨j,e,p,hfind,hj,hp,hkey,_,hput⟩
 · refine⟨w.putObj (σ.c b) (.map (es.push { key:=vi,val:=vy,born:=clock }) (clock+1)),?_,?_⟩
   · unfold Instr.mapUpdate;simp [run_underlying hu,MapKept.run_getObj_map hw,hchk,hfind,hset]
   · rw [hput];refine zbR hr hf0 hw rfl (S':=zgb ((m++[(vi,y)]).map (·.1))) (o' := .map (es.push { key:=vi,val:=vy,born:=clock }) (clock+1)) (vs':=(m++[(vi,y)]).map (·.2)) (us:=(es.push { key:=vi,val:=vy,born:=clock }).map (·.val)) ⟨by simp [hsz],fun i x v h1 h2 => ?_⟩ rfl ?_
     · by_cases hi:i < m.length
       · have hp:m[i]? = some m[i]:=by simp [hi]
         have he:es[i]? = some es[i]:=by simp [hsz,hi]
         simp [List.getElem?_append_left,hi,hp] at h1;simp [Array.getElem?_push,hsz,Nat.ne_of_lt hi,he,hi] at h2;subst h1;subst h2;exact (hent i es[i] m[i] he hp).2
       · have:i=m.length:=by
          have:=(List.getElem?_eq_some_iff.1 h1).1
          simp at this;omega
         subst this;simp at h1;rw [Array.map_push,Array.getElem?_push,Array.size_map,if_pos hsz.symm] at h2;simp at h2;subst h1;subst h2;exact hy
     · refine⟨_,_,rfl,by simp [hkk],by simp,?_,?_,fun e he => ?_⟩
       · simp only [List.map_append,List.map_cons,List.map_nil];rw [List.nodup_append]
         refine⟨hnd,by simp,fun a ha b hb => ?_⟩
         simp only [List.mem_singleton] at hb;subst hb;rw [←hkk] at ha
         obtain⟨e',h1,h2⟩:=List.mem_map.1 ha
         exact fun h=>hne e' h1 (h2.trans h)
       · simp only [Array.toList_push,List.map_append,List.map_cons,List.map_nil];rw [List.nodup_append]
         refine⟨hborn,by simp,fun a ha b hb => ?_⟩
         simp only [List.mem_singleton] at hb;subst hb
         obtain⟨e',h1,h2⟩:=List.mem_map.1 ha
         have:=hclk e' h1
         omega
       · simp only [Array.toList_push,List.mem_append,List.mem_singleton] at he
         rcases he with he | rfl
         · exact Nat.lt_succ_of_lt (hclk e he)
         · exact Nat.lt_succ_self _
 · have hj':es[j]? = some e:=by simpa using hj
   have hjl:j < es.size:=(Array.getElem?_eq_some_iff.1 hj').1
   obtain⟨h1,h2⟩:=hent j e p hj' hp
   have hst:(Instr.keyThatStays vi vi).run P w = .ok vi w:=by
    have:Instr.sameBits 10000 vi vi=true:=by
     rw [hcs,show 10000=9999+1 from rfl,Instr.sameBits];simp only [BEq.rfl,Bool.true_and];exact zhn hrz 9999
    simp [Instr.keyThatStays,this]
   refine⟨w.putObj (σ.c b) (.map (es.modify j fun e => { e with key:=vi,val:=vy }) clock),?_,?_⟩
   · unfold Instr.mapUpdate;simp [run_underlying hu,MapKept.run_getObj_map hw,hchk,hfind,hset,hj',hkey,hst]
   · rw [hput]
     have hkeys':(es.modify j fun e => { e with key:=vi,val:=vy }).toList.map (·.key)=es.toList.map (·.key):=by
      apply List.ext_getElem?;intro i;simp only [List.getElem?_map,Array.getElem?_toList,Array.getElem?_modify];by_cases hij:j=i
      · subst hij;simp [hj',hkey]
      · simp [hij]
     have hborn':(es.modify j fun e => { e with key:=vi,val:=vy }).toList.map (·.born)=es.toList.map (·.born):=by
      apply List.ext_getElem?;intro i;simp only [List.getElem?_map,Array.getElem?_toList,Array.getElem?_modify];by_cases hij:j=i
      · subst hij;simp [hj']
      · simp [hij]
     have hjm:j < m.length:=(List.getElem?_eq_some_iff.1 hp).1
     have hm':(m.set j (vi,y)).map (·.1)=m.map (·.1):=by
      apply List.ext_getElem?;intro i;simp only [List.getElem?_map,List.getElem?_set];by_cases hij:j=i
      · subst hij
        have e0:m[j]=p:=by simpa [hjm] using hp
        simp [hjm,e0,←h1,hkey]
      · simp [hij]
     refine zbR hr hf0 hw rfl (S':=zgb ((m.set j (vi,y)).map (·.1))) (o' := .map (es.modify j fun e => { e with key:=vi,val:=vy }) clock) (vs':=(m.set j (vi,y)).map (·.2)) (us:=(es.modify j fun e => { e with key:=vi,val:=vy }).map (·.val)) ⟨by simp [hsz],fun i x v h3 h4 => ?_⟩ rfl ?_
     · simp only [List.getElem?_map,List.getElem?_set,Array.getElem?_map,Array.getElem?_modify,Option.map_eq_some_iff] at h3 h4
       obtain⟨q,hq,rfl⟩:=h3
       obtain⟨f,hf,rfl⟩:=h4
       by_cases hij:j=i
       · subst hij;simp [hjm] at hq;simp [hj'] at hf;subst hq;subst hf;exact hy
       · simp [hij] at hq hf;exact (hent i f q hf hq).2
     · exact⟨_,_,rfl,by rw [hkeys',hkk,hm'],by simp,by rw [hm'];exact hnd,by rw [hborn'];exact hborn,fun e' he'=>by
        have:e'.born∈es.toList.map (·.born):=by rw [←hborn'];exact List.mem_map.2 ⟨e',he',rfl⟩
        obtain⟨e2,h5,h6⟩:=List.mem_map.1 this
        rw [←h6];exact hclk e2 h5⟩
end rel

def zCf (P:Program) (d:Option TypeDesc):Bool :=
 match d with
 | some (.struct fs)=>fs.any fun f=>match P.underlying f.type with | some (.pointer _)=>true | _=>false
 | _=>false
def zCg (P:Program) (d:Option TypeDesc):Bool :=
 match d with
 | some (.map kt _)=>zCf P (P.underlying kt)
 | _=>false
def zbz (P:Program) (t:TypeId):Bool:=zCg P (P.underlying t)
noncomputable def zaK (P:Program) (gm:Nat → Option (List (Value × AV))) (H:Hp) (t:TypeId) (x ix:AV) (ok:Bool):Option AV :=
 if zbz P t=true then zaJ P H t x ix ok else zby P gm H t x ix ok
noncomputable def zbb (P:Program) (H:Hp) (t:TypeId) (x ix y:AV):Option Hp :=
 if zbz P t=true then zdD P H t x ix y else zeg P H t x ix y
theorem zlU {P:Program} {gm:Nat → Option (List (Value × AV))} {H:Hp} {t:TypeId} {x ix:AV} {ok:Bool}:zaK P gm H t x ix ok=if zbz P t=true then zaJ P H t x ix ok else zby P gm H t x ix ok:=rfl
theorem zlV {P:Program} {H:Hp} {t:TypeId} {x ix y:AV}:zbb P H t x ix y=if zbz P t=true then zdD P H t x ix y else zeg P H t x ix y:=rfl
theorem zkg {P:Program} {G:Globs} {σ:Gh} {H:Hp} {w:World} (hr:Rel G σ H w) {t:TypeId} {x ix y:AV} {ok:Bool} {vx vi:Value} (h:zaK P G.map H t x ix ok=some y) (hx:RelV σ H w x vx) (hi:RelV σ H w ix vi) :
 ∃ v,(Instr.lookup t vx vi ok).run P w = .ok v w∧RelV σ H w y v:=by
 unfold zaK at h;split at h
 · exact zoY hr h hx hi
 · exact zlQ hr h hx hi
theorem ze6 {P:Program} {G:Globs} {σ:Gh} {H:Hp} {w:World} (hr:Rel G σ H w) {t:TypeId} {x ix y:AV} {H':Hp} {vx vi vy:Value} (h:zbb P H t x ix y=some H') (hx:RelV σ H w x vx) (hi:RelV σ H w ix vi) (hy:RelV σ H w y vy) :
 ∃ w',(Instr.mapUpdate t vx vi vy).run P w = .ok () w'∧Rel G σ H' w'∧Ev H.n σ H w σ H' w':=by
 unfold zbb at h;split at h
 · exact ztq hr h hx hi hy
 · exact zlR hr h hx hi hy
end Go.AL

namespace Go.AL
open Go

def zgV (P:Program) (f:FuncId):Option String :=
  match P.funcs[f]? with
  | some fn => if fn.body.isNone && fn.origin == "" then some fn.name else none
  | none=>none

def zkh:List AV → Option (List Int)
 | []=>some []
 | .p (.s (.int .u64 n)) :: xs=>(zkh xs).map (n :: ·)
 | _=>none

def zki (nm:String) (args:List AV):Option AV :=
  match zkh args with
  | some [x,y,c] =>
    if 0≤x∧0≤y∧0≤c∧c≤1 then
      if nm = "math/bits.Add64" then some (.tup [.p (.s (.int .u64 ((x.toNat + y.toNat + c.toNat) % 2 ^ 64 : Nat))), .p (.s (.int .u64 ((x.toNat + y.toNat + c.toNat) / 2 ^ 64 : Nat)))])
      else if nm = "math/bits.Sub64" then some (.tup [.p (.s (.int .u64 ((x.toNat + 2 ^ 64 - y.toNat - c.toNat) % 2 ^ 64 : Nat))), .p (.s (.int .u64 (if x.toNat < y.toNat + c.toNat then 1 else 0 : Nat)))])
      else none
    else none
  | _=>none

theorem zlW {σ H w} : ∀ {args:List AV} {ns:List Int} {vs:Array Value},zkh args=some ns → RelVs σ H w args vs → vs.toList=ns.map (Value.int .u64)
 | [],ns,vs,h,hv=>by
  simp only [zkh,Option.some.injEq] at h;subst h
  have:=hv.1
  simp at this;simp [this]
 | x :: xs,ns,vs,h,hv=>by
  obtain⟨l⟩:=vs
  cases l with
  | nil=>have:=hv.1;simp at this
  | cons v vs =>
   cases x with
   | p x =>
    cases x with
    | s u =>
     cases u with
     | int k n =>
      cases k<;>simp only [zkh,Option.map_eq_some_iff] at h<;>try cases h
      rename_i ms hms
      obtain⟨hms,rfl⟩:=hms
      have h0:=hv.2 0 _ v rfl rfl;have ht:=zlW (vs:=⟨vs⟩) hms ⟨by simpa using hv.1,fun i x v a b=>hv.2 (i+1) x v (by simpa using a) (by simpa using b)⟩;simp only at ht
      cases h0 with | p h0 =>
      cases h0;simp [ht]
     | _=>simp [zkh] at h
    | _=>simp [zkh] at h
   | _=>simp [zkh] at h

theorem zoZ {fn : Func} (h : fn.name = "math/bits.Add64") : Extern.find fn = some (fun args => do
    let (x, y, c) ← Extern.MathBitsCarry.three "Add64" args
    pure (Extern.MathBitsCarry.pair ((x+y+c) % Extern.MathBitsCarry.m64) ((x+y+c) / Extern.MathBitsCarry.m64))):=by
  unfold Extern.find;rw [h]
  kernel_rfl
theorem zo0 {fn : Func} (h : fn.name = "math/bits.Sub64") : Extern.find fn = some (fun args => do
    let (x, y, b) ← Extern.MathBitsCarry.three "Sub64" args
    pure (Extern.MathBitsCarry.pair ((x+Extern.MathBitsCarry.m64 - y - b) % Extern.MathBitsCarry.m64) (if x < y+b then 1 else 0))):=by
  unfold Extern.find;rw [h]
  kernel_rfl
theorem zxC (nm:String) (x y c:Value):Extern.MathBitsCarry.three nm #[x,y,c]=(do
    let c:=(←asInt c).toNat
    if c > 1 then unsupported (.noEntry ("extern/math/bits." ++ nm ++ ": a carry that is neither 0 nor 1"))
    pure ((←asInt x).toNat,(←asInt y).toNat,c)):=rfl

theorem zjn {P:Program} {w:World} (nm:String) {k1 k2 k3:IntKind} (x y c:Int) (hc : ¬ 1 < c.toNat):(Extern.MathBitsCarry.three nm #[.int k1 x,.int k2 y,.int k3 c]).run P w = .ok (x.toNat,y.toNat,c.toNat) w:=by
 rw [zxC];simp only [asInt,asIntOf,Sem.run_bind,Sem.run_pure,Result.andThen_ok,gt_iff_lt,hc,if_false]

theorem zjo {fn : Func} (n : String) (h : fn.name = n) (ho : fn.origin = "") (h1 : (Extern.allNextRows.lookup n).isNone = true) : Extern.findNext fn = none := by
  unfold Extern.findNext;rw [h,ho]
  have h2 : (Extern.allNextRows.lookup "").isNone = true := by kernel_rfl
  simp only [Option.isNone_iff_eq_none] at h1 h2;simp [h1,h2]

theorem zCh {P:Program} {σ:Gh} {H:Hp} {w:World} {f:FuncId} {nm:String} {args:List AV} {y:AV} {vs:Array Value} (hn:zgV P f=some nm) (h:zki nm args=some y) (hv:RelVs σ H w args vs) :
 ∃ v,(callFunc f vs).run P w = .ok (.value v) w∧RelV σ H w y v:=by
 unfold zgV at hn;split at hn
 case h_2=>cases hn
 rename_i fn hf;split at hn
 case isFalse=>cases hn
 rename_i hc;cases hn;simp only [Bool.and_eq_true,beq_iff_eq] at hc
 obtain⟨hb,ho⟩:=hc
 unfold zki at h;split at h
 case h_2=>cases h
 rename_i x y' c hu;have hl:=zlW hu hv
 obtain rfl:vs = #[.int .u64 x,.int .u64 y',.int .u64 c]:=by
  apply Array.ext'
  simpa using hl
 split at h
 case isFalse=>cases h
 rename_i hr
 have hc1 : ¬ 1 < c.toNat:=by omega
 split at h
 · rename_i he;cases h;have hr:=run_callFunc_extern hf (by rw [he];decide) hb (zjo _ he ho (by kernel_rfl)) (zoZ he) #[.int .u64 x,.int .u64 y',.int .u64 c] w
   refine⟨.tuple #[.int .u64 ((x.toNat+y'.toNat+c.toNat) % 2 ^ 64:Nat),.int .u64 ((x.toNat+y'.toNat+c.toNat) / 2 ^ 64:Nat)],?_,.tup _ rfl fun i x v h1 h2 => ?_⟩
   · rw [hr];simp only [Sem.run_bind,zjn _ _ _ _ hc1,Result.andThen_ok,Sem.run_pure];rfl
   · rcases i with _ | _ | i
     · simp at h1 h2;subst h1;subst h2;exact .p (.s _ rfl)
     · simp at h1 h2;subst h1;subst h2;exact .p (.s _ rfl)
     · simp at h1
 · split at h
   case isFalse=>cases h
   rename_i he;cases h;have hr:=run_callFunc_extern hf (by rw [he];decide) hb (zjo _ he ho (by kernel_rfl)) (zo0 he) #[.int .u64 x,.int .u64 y',.int .u64 c] w
   refine⟨.tuple #[.int .u64 ((x.toNat+2 ^ 64 - y'.toNat - c.toNat) % 2 ^ 64:Nat),.int .u64 (if x.toNat < y'.toNat+c.toNat then 1 else 0:Nat)],?_,.tup _ rfl fun i x v h1 h2 => ?_⟩
   · rw [hr];simp only [Sem.run_bind,zjn _ _ _ _ hc1,Result.andThen_ok,Sem.run_pure];rfl
   · rcases i with _ | _ | i
     · simp at h1 h2;subst h1;subst h2;exact .p (.s _ rfl)
     · simp at h1 h2;subst h1;subst h2;exact .p (.s _ rfl)
     · simp at h1

end Go.AL

namespace Go.AL
open Go

inductive SRes where
 | val (x:AV) (H:Hp)
 | unit (H:Hp)
 | call (f:FuncId) (args:List AV)
 | yield (b:Nat) (args:List AV)
 | fail

def vH (x:Option AV) (H:Hp):SRes:=match x with | some x => .val x H | none => .fail
def vHH (x:Option (AV × Hp)):SRes:=match x with | some (x,H) => .val x H | none => .fail
def uH (x:Option Hp):SRes:=match x with | some H => .unit H | none => .fail

def zat (P:Program) (t:TypeId) (v:Value):AV :=
 match v with
 | .slice a l c=>if a.isNone && l == 0 && c == 0 then (match P.underlying t with | some (.slice e) => .p (.sl true (P.cellsOf e) []) | _ => .p (.sl true 0 [])) else .p (.s (.slice a l c))
 | v=>yq v

def zaW (P:Program) (G:Globs) (env:Env) (t:TypeId) (x:Operand):AV :=
 match x with
 | .const v=>zat P t v
 | x=>yd G env x

theorem zdE {σ:Gh} {H:Hp} {w:World} {u v:Value} (h:RelV σ H w (.p (.s u)) v):v=u:=by
 cases h with | p h=>cases h;rfl

def zbA (v:Value):AV:=match v with | .slice none 0 0 => .p (.s (.slice none 0 0)) | v=>yq v
def za6 (P:Program) (t:TypeId) (v:Value):AV:=match v with | .slice none 0 0 => .p (.s (.slice none 0 0)) | v=>zat P t v
def zho (G:Globs) (env:Env) (x:Operand):AV:=match x with | .const v=>zbA v | x=>yd G env x
def zkk (P:Program) (G:Globs) (env:Env) (t:TypeId) (x:Operand):AV:=match x with | .const v=>za6 P t v | x=>zaW P G env t x

def yL (P:Program) (G:Globs) (env:Env):List Operand → List TypeId → List AV
 | [],_=>[]
 | x :: xs,[]=>yd G env x :: yL P G env xs []
 | x :: xs,t :: ts=>zkk P G env t x :: yL P G env xs ts

def y5 (G:Globs) (env:Env):List (Nat × Operand) → List (Nat × AV)
 | []=>[]
 | (i,x) :: r=>(i,yd G env x) :: y5 G env r

def zbc (G:Globs) (env:Env):List Operand → List AV
 | []=>[]
 | x :: r=>yd G env x :: zbc G env r

def enters (P : Program) (f : FuncId) : Bool := match P.funcs[f]? with | some fn => fn.body.isSome && !(fn.name == "runtime.NumGoroutine") | none => false

open Classical in
noncomputable def zjp (P:Program) (t:TypeId) (xs ys:List PV):Option Bool :=
 if P.keyTypeAt 64 t && !P.eqGuardType P.depth t && yr P t then
  match zcQ xs,zcQ ys with
  | some a,some b=>match P.keyLits 64 t a,P.keyLits 64 t b with
   | some la,some lb=>some (decide (la=lb))
   | _,_=>none
  | _,_=>none
 else none

theorem zgf {P:Program} {t:TypeId} {d:Nat} {cs:List Value} {l:List Lit} (ht:yr P t=true) (h:P.keyLits d t cs=some l):cs.length=P.cellsOf t∧((∃ n e,P.underlying t=some (.array n e)) ∨ ∃ fs,P.underlying t=some (.struct fs)):=by
 cases d with
 | zero=>simp [Program.keyLits] at h
 | succ d =>
  unfold yr at ht;split at ht
  case h_2=>cases ht
  rename_i k hk
  cases k<;>simp [z8] at ht
  · rename_i n e;unfold Program.keyLits at h;simp only [hk] at h;split at h
    · rename_i hl;exact⟨hl,.inl ⟨n,e,hk⟩⟩
    · cases h
  · rename_i fs;unfold Program.keyLits at h;simp only [hk] at h;split at h
    · rename_i hl;exact⟨hl.1,.inr ⟨fs,hk⟩⟩
    · cases h

open Classical in
theorem ztr {P:Program} {t:TypeId} {xs ys:List PV} {r:Bool} {w:World} {S:Nat → Nat → Prop} {vx vy:Value} (h:zjp P t xs ys=some r) (hx:RelP w S (.agg xs) vx) (hy:RelP w S (.agg ys) vy) (op:BinOp) (xo yo:Operand) :
 (eqGuard op t xo yo vx vy).run P w = .ok () w∧(Op.equal t vx vy).run P w = .ok r w∧(∃ vs,vx = .agg vs) ∧ ∃ us,vy = .agg us:=by
 cases hx with | agg _ vs hl _ hr =>
 cases hy with | agg _ us hl' _ hr' =>
 unfold zjp at h;split at h
 case isFalse=>cases h
 rename_i hc;simp only [Bool.and_eq_true,Bool.not_eq_true'] at hc
 obtain⟨⟨hk,hg⟩,ha⟩:=hc
 split at h
 case h_2=>cases h
 rename_i a b e1 e2;split at h
 case h_2=>cases h
 rename_i la lb f1 f2;cases h;have q1:vs.toList=a:=zef e1 (by simpa using hl) (fun i x v e e'=>hr i x v e (by simpa using e'));have q2:us.toList=b:=zef e2 (by simpa using hl') (fun i x v e e'=>hr' i x v e (by simpa using e'))
 obtain⟨g1,g2⟩:=zgf ha f1
 obtain⟨g3,_⟩:=zgf ha f2
 have fm : ∀ {ws:Array Value},ws.size=P.cellsOf t → (Value.agg ws).formed P t=true:=fun hs=>by
  rcases g2 with ⟨n,e,hu⟩ | ⟨fs,hu⟩<;>simp [Value.formed,hu,hs]
 have fx:=fm (ws:=vs) (by rw [←Array.length_toList,q1,g1]);have fy:=fm (ws:=us) (by rw [←Array.length_toList,q2,g3])
 refine⟨?_,?_,⟨vs,rfl⟩,us,rfl⟩
 · unfold eqGuard
   cases op<;>simp [hg]
 · obtain⟨r,hr,hiff⟩:=run_equalIn_deep 9936 64 t hk w 64 64 (.agg vs) (.agg us) la lb fx fy (by simpa [Value.cells,q1] using f1) (by simpa [Value.cells,q2] using f2)
   by_cases he:la=lb
   · rw [decide_eq_true he,←hiff.2 he];exact hr
   · cases r with
     | false=>rw [decide_eq_false he];exact hr
     | true=>exact absurd (hiff.1 rfl) he

def zo1:AV → Bool
 | .p (.sl _ _ (_ :: _))=>true
 | .sl _ _ _ (_ :: _)=>true
 | .ref .. => true
 | .vr _ (_+1) _=>true
 | _=>false

theorem zo2 {σ:Gh} {H:Hp} {w:World} {x:AV} {v:Value} (h:zo1 x=true) (hr:RelV σ H w x v) : ∃ a l c,v = .slice (some a) l c:=by
 unfold zo1 at h;split at h
 · cases hr with | p hr=>cases hr;exact⟨_,_,_,rfl⟩
 · cases hr with | sl hr _=>cases hr;exact⟨_,_,_,rfl⟩
 · cases hr;exact⟨_,_,_,rfl⟩
 · cases hr with | vr hr =>
   obtain⟨_,a,c,rfl,ha,_⟩:=hr
   have:=ha (by omega)
   cases a with
   | none=>cases this
   | some a=>exact⟨_,_,_,rfl⟩
 · cases h

noncomputable def zx (P:Program) (op:BinOp) (t:TypeId) (x y:AV):Option AV :=
 match x,y with
 | .p (.s a),.p (.s b)=>(yV P op t a b).map fun v => .p (.s v)
 | .p (.agg xs),.p (.agg ys)=>match op with
  | .eql=>(zjp P t xs ys).map fun r => .p (.s (.bool r))
  | .neq=>(zjp P t xs ys).map fun r => .p (.s (.bool !r))
  | _=>none
 | .clo _ _ _,.p (.s .nilFunc)=>if zgT P t then (match op with
  | .eql=>some (.p (.s (.bool false)))
  | .neq=>some (.p (.s (.bool true)))
  | _=>none) else none
 | .ptr _ _,.p (.s (.pointer none))=>if zeC P t then (match op with
  | .eql=>some (.p (.s (.bool false)))
  | .neq=>some (.p (.s (.bool true)))
  | _=>none) else none
 | x,.p (.s (.slice none 0 0))=>if zdw P t && zo1 x then (match op with
  | .eql=>some (.p (.s (.bool false)))
  | .neq=>some (.p (.s (.bool true)))
  | _=>none) else none
 | _,_=>none

def aUn (op:UnOp) (x:AV):Option AV :=
 match x with
 | .p (.s a)=>(vUn op a).map fun v => .p (.s v)
 | _=>none

def zdn (P:Program) (H:Hp) (s d:TypeId) (x:AV):Option AV :=
 match P.underlying s,P.underlying d with
 | some (.slice _),some .string=>zbJ P H s d x
 | some .string,some (.slice _)=>zee P s d x
 | _,_=>if (P.underlying s).isSome then (match x with | .p (.s a)=>(zge P d a).map fun v => .p (.s v) | _=>none) else none

def zch (big:Bool) (x y:AV):Option AV :=
 match x,y with
 | .p (.s (.int k a)),.p (.s (.int k' b))=>if k=k' then some (.p (.s (.int k (if big then max a b else min a b)))) else none
 | _,_=>none

def isIface (P:Program) (t:TypeId):Bool:=match P.underlying t with | some (.interface _) | none=>true | _=>false

def zts (x:AV):Option AV :=
 match x with
 | .ptr b off=>some (.ptr b off)
 | .ip sz xs i sub=>some (.ip sz xs i sub)
 | .clo f a c=>some (.clo f a c)
 | .vp b k off=>some (.vp b k off)
 | .p (.s (.pointer (some a)))=>some (.p (.s (.pointer (some a))))
 | _=>none

def zxD (P:Program) (t:TypeId):Bool:=match P.underlying t with | some (.interface _) | none=>false | _=>true
def zgW (P:Program) (t:TypeId) (ok:Bool) (x:AV):Option AV :=
 if zxD P t && ok then
  match x with
  | .p (.s .nilIface)=>(zaZ P t).map fun z => .tup [z,.p (.s (.bool false))]
  | .p (.s (.iface d (.int k n)))=>if d=t then some (.tup [.p (.s (.int k n)),.p (.s (.bool true))]) else (zaZ P t).map fun z => .tup [z,.p (.s (.bool false))]
  | _=>none
 else none
theorem zhp {σ:Gh} {H:Hp} {w:World} {x y:AV} {u v:Value} (h1:RelV σ H w x u) (h2:RelV σ H w y v):RelV σ H w (.tup [x,y]) (.tuple #[u,v]) :=
 .tup _ rfl fun i a b ha hb=>by
  match i with
  | 0=>simp at ha hb;subst ha;subst hb;exact h1
  | 1=>simp at ha hb;subst ha;subst hb;exact h2
  | _+2=>simp at ha
theorem zlX {P:Program} {σ:Gh} {H:Hp} {w:World} {t:TypeId} {ok:Bool} {x y:AV} {v:Value} (xt:TypeId) (h:zgW P t ok x=some y) (hx:RelV σ H w x v) : ∃ u,(Instr.typeAssert v xt t ok).run P w = .ok u w∧RelV σ H w y u:=by
 unfold zgW at h;split at h
 case isFalse=>cases h
 rename_i hc;simp only [Bool.and_eq_true] at hc
 obtain⟨hc,rfl⟩:=hc
 unfold zxD at hc
 cases hu:P.underlying t with
 | none=>simp [hu] at hc
 | some d =>
  rw [hu] at hc;split at h
  · have:=zdE hx
    subst this;simp only [Option.map_eq_some_iff] at h
    obtain⟨z,hz,rfl⟩:=h
    obtain⟨u,h1,h2⟩:=zcR (σ:=σ) (H:=H) (w:=w) hz
    refine⟨.tuple #[u,.bool false],?_,zhp h2 (.p (.s _ rfl))⟩
    cases d<;>first | (simp at hc;done) | simp [Instr.typeAssert,run_underlying hu,h1]
  · have:=zdE hx
    subst this;split at h
    · rename_i e;subst e;cases h
      refine⟨_,?_,zhp (.p (.s _ rfl)) (.p (.s _ rfl))⟩
      cases d<;>first | (simp at hc;done) | simp [Instr.typeAssert,run_underlying hu]
    · rename_i e;simp only [Option.map_eq_some_iff] at h
      obtain⟨z,hz,rfl⟩:=h
      obtain⟨u,h1,h2⟩:=zcR (σ:=σ) (H:=H) (w:=w) hz
      refine⟨.tuple #[u,.bool false],?_,zhp h2 (.p (.s _ rfl))⟩
      cases d<;>first | (simp at hc;done) | simp [Instr.typeAssert,run_underlying hu,h1,e]
  · cases h

def zW (P:Program) (G:Globs) (env:Env) (H:Hp) (b:Builtin) (args:List Operand) (ts:List TypeId):SRes :=
 match b,args,ts with
 | .len,[x],[t]=>vH (zEB P t (yd G env x)) H
 | .append,[s,x],[t,u]=>vHH (ze4 P H t u (zaW P G env t s) (zaW P G env u x))
 | .copy,[d,s],[t,_]=>vHH (zlN P H t (yd G env d) (yd G env s))
 | .min,[x,y],_=>vH (zch false (yd G env x) (yd G env y)) H
 | .max,[x,y],_=>vH (zch true (yd G env x) (yd G env y)) H
 | _,_,_ => .fail

def zcS (P:Program) (fn:FuncId) (args:List AV) (H:Hp):SRes:=match zgV P fn with | some nm=>vH (zki nm args) H | none => .fail

def zbd (P:Program) (G:Globs) (env:Env) (c:Call) (f:AV) (H:Hp):SRes :=
 match f with
 | .clo fn first captured=>if enters P fn then .call fn (first++yL P G env c.args.toList c.argTypes.toList++captured) else zcS P fn (first++yL P G env c.args.toList c.argTypes.toList++captured) H
 | .yld b => .yield b (yL P G env c.args.toList c.argTypes.toList)
 | _ => .fail

noncomputable def ze (P:Program) (G:Globs) (op:Op) (ty:TypeId) (env:Env) (H:Hp):SRes :=
 match op with
 | .move x => .val (zaW P G env ty x) H
 | .assign x => .val (zaW P G env ty x) H
 | .alloc t=>match zU P t with | some ps => .val (.ptr H.n 0) (H.new (.cells (ps.map .p))) | none => .fail
 | .box _ x=>match zh (yd G env x) with | some cs => .val (.ptr H.n 0) (H.new (.cells cs)) | none => .fail
 | .build t parts=>vH (yf P t (y5 G env parts.toList)) H
 | .buildSlice t n parts=>vHH (zaB P H t n (y5 G env parts.toList))
 | .load t a=>vH (zcg P H t (zhj H (yd G env a))) H
 | .store t a x=>uH (zfO P H t (yd G env a) (zaW P G env t x))
 | .nilCheck x=>vH (zts (yd G env x)) H
 | .binOp op t x y _=>vH (zx P op t (zho G env x) (zho G env y)) H
 | .unOp op _ x=>vH (aUn op (yd G env x)) H
 | .convert s d x=>vH (zdn P H s d (yd G env x)) H
 | .makeInterface t x=>match yd G env x with | .p (.s v)=>if isIface P t then .fail else .val (.p (.s (.iface t v))) H | _ => .fail
 | .makeFunc fn first captured=>match fn with | .func f => .val (.clo f (zbc G env first.toList) (zbc G env captured.toList)) H | _ => .fail
 | .makeSlice t l c=>match l with | .const (.int _ 0)=>vHH (zdA P H t (yd G env l) (yd G env c)) | _=>vHH (zdk P H t (yd G env l) (yd G env c))
 | .slice t x lo hi mx=>vH (zhg P t (yd G env x) (lo.map (yd G env)) (hi.map (yd G env)) (mx.map (yd G env))) H
 | .fieldAddr s x f=>vH (zbN P s (yd G env x) f) H
 | .field s x f=>vH (zhd P s (yd G env x) f) H
 | .indexAddr t x i=>vH (zbM P t (yd G env x) (yd G env i)) H
 | .index t x i=>vH (zav P t (yd G env x) (yd G env i)) H
 | .extract t i=>match yd G env t with | .tup xs=>vH xs[i]? H | _ => .fail
 | .pick c x y=>match yd G env c with | .p (.s (.bool b)) => .val (if b then zaW P G env ty x else zaW P G env ty y) H | _ => .fail
 | .call c=>match c.callee with
  | .value f=>zbd P G env c (yd G env f) H
  | .builtin b=>zW P G env H b c.args.toList c.argTypes.toList
  | .invoke _ _ => .fail
 | .makeMap _ r=>match r with | none => .val (.mp H.n) (H.new (.mapB [])) | _ => .fail
 | .lookup t x i ok=>vH (zaK P G.map H t (yd G env x) (yd G env i) ok) H
 | .mapUpdate t x i y | .insert t x i y=>uH (zbb P H t (yd G env x) (yd G env i) (zaW P G env t y))
 | .typeAssert x _ t ok=>vH (zgW P t ok (yd G env x)) H
 | _ => .fail

section sound
variable {P:Program} {G:Globs} {σ:Gh} {H:Hp} {w:World} {env:Env} {nt m:Nat} {a:Act}

theorem zgg {t:TypeId} (v:Value):RelV σ H w (zat P t v) v:=by
 cases v
 case slice ad l c =>
  simp only [zat]
  split
  · rename_i h;simp only [Bool.and_eq_true,Option.isNone_iff_eq_none,beq_iff_eq] at h
    obtain⟨⟨rfl,rfl⟩,rfl⟩:=h
    split<;>exact .p (.nil true _)
  · exact .p (.s _ rfl)
 all_goals (unfold zat;exact zeB _)

theorem zaL (hr:Rel G σ H w) (hf:RelF nt m σ H w env a) (t:TypeId) (x:Operand):RelV σ H w (zaW P G env t x) (a.eval x):=by
 cases x with
 | const v=>exact zgg v
 | tmp t=>exact zj hr hf (.tmp t)
 | global g=>exact zj hr hf (.global g)
 | func f=>exact zj hr hf (.func f)

theorem zlY (hr:Rel G σ H w) (hf:RelF nt m σ H w env a) (x:Operand):RelV σ H w (zho G env x) (a.eval x):=by
 cases x with
 | const v =>
  show RelV σ H w (zbA v) v
  unfold zbA
  split
  · exact .p (.s _ rfl)
  · exact zeB _
 | tmp t=>exact zj hr hf (.tmp t)
 | global g=>exact zj hr hf (.global g)
 | func f=>exact zj hr hf (.func f)

theorem zxE (hr:Rel G σ H w) (hf:RelF nt m σ H w env a) (t:TypeId) (x:Operand):RelV σ H w (zkk P G env t x) (a.eval x):=by
 cases x with
 | const v =>
  show RelV σ H w (za6 P t v) v
  unfold za6
  split
  · exact .p (.s _ rfl)
  · exact zgg _
 | tmp t=>exact zj hr hf (.tmp t)
 | global g=>exact zj hr hf (.global g)
 | func f=>exact zj hr hf (.func f)

theorem zeh (hr:Rel G σ H w) (hf:RelF nt m σ H w env a) : ∀ (xs:List Operand) (ts:List TypeId),(yL P G env xs ts).length=xs.length ∧ ∀ (i:Nat) x v,(yL P G env xs ts)[i]? = some x → (xs.map a.eval)[i]? = some v → RelV σ H w x v
 | [],ts=>by simp [yL]
 | x :: xs,[]=>by
  obtain⟨h1,h2⟩:=zeh hr hf xs []
  refine⟨by simp [yL,h1],fun i y v hy hv => ?_⟩
  cases i with
  | zero=>simp [yL] at hy hv;subst hy;subst hv;exact zj hr hf x
  | succ i=>simp only [yL,List.getElem?_cons_succ,List.map_cons] at hy hv;exact h2 i y v hy hv
 | x :: xs,t :: ts=>by
  obtain⟨h1,h2⟩:=zeh hr hf xs ts
  refine⟨by simp [yL,h1],fun i y v hy hv => ?_⟩
  cases i with
  | zero=>simp [yL] at hy hv;subst hy;subst hv;exact zxE hr hf t x
  | succ i=>simp only [yL,List.getElem?_cons_succ,List.map_cons] at hy hv;exact h2 i y v hy hv

theorem zcT (hr:Rel G σ H w) (hf:RelF nt m σ H w env a) : ∀ (ps:List (Nat × Operand)),(y5 G env ps).length=ps.length ∧ ∀ (k:Nat) i x j v,(y5 G env ps)[k]? = some (i,x) → (ps.map fun p=>(p.1,a.eval p.2))[k]? = some (j,v) → j=i∧RelV σ H w x v
 | []=>by simp [y5]
 | (i,x) :: ps=>by
  obtain⟨h1,h2⟩:=zcT hr hf ps
  refine⟨by simp [y5,h1],fun k i' y j v hy hv => ?_⟩
  cases k with
  | zero =>
   simp [y5] at hy hv
   obtain⟨rfl,rfl⟩:=hy
   obtain⟨rfl,rfl⟩:=hv
   exact⟨rfl,zj hr hf x⟩
  | succ k=>simp only [y5,List.getElem?_cons_succ,List.map_cons] at hy hv;exact h2 k i' y j v hy hv

theorem zfS (hr:Rel G σ H w) (hf:RelF nt m σ H w env a) : ∀ (xs:List Operand),(zbc G env xs).length=xs.length ∧ ∀ (i:Nat) x v,(zbc G env xs)[i]? = some x → (xs.map a.eval)[i]? = some v → RelV σ H w x v
 | []=>by simp [zbc]
 | x :: xs=>by
  obtain⟨h1,h2⟩:=zfS hr hf xs
  refine⟨by simp [zbc,h1],fun i y v hy hv => ?_⟩
  cases i with
  | zero=>simp [zbc] at hy hv;subst hy;subst hv;exact zj hr hf x
  | succ i=>simp only [zbc,List.getElem?_cons_succ,List.map_cons] at hy hv;exact h2 i y v hy hv

theorem zeI (hr:Rel G σ H w) (hf:RelF nt m σ H w env a) (x:Option Operand):zeF σ H w (x.map (yd G env)) (x.map a.eval):=by
 cases x with
 | none=>trivial
 | some x=>exact zj hr hf x

theorem zo3 {f:FuncId} (h:enters P f=true) (vs:Array Value) (w:World):(callFunc f vs).run P w = .ok (.enter f vs) w:=by
  unfold enters at h;split at h
  case h_2=>cases h
  rename_i fn hf;simp only [Bool.and_eq_true,Bool.not_eq_true'] at h
  obtain⟨h1,h2⟩:=h
  have h3 : ¬ fn.body=none:=fun h=>by simp [h] at h1
  have h4 : ¬ fn.name = "runtime.NumGoroutine" := by simpa using h2
  simp [callFunc,hf,h3,h4]

def StepOK (P:Program) (G:Globs) (σ:Gh) (H:Hp) (w:World) (ex:Sem Next):SRes → Prop
 | .val x H' => ∃ v w' σ',ex.run P w = .ok (.value v) w'∧RelV σ' H' w' x v∧Rel G σ' H' w'∧Ev H.n σ H w σ' H' w'
 | .unit H' => ∃ w' σ',ex.run P w = .ok .skip w'∧Rel G σ' H' w'∧Ev H.n σ H w σ' H' w'
 | .call f args => ∃ vs,ex.run P w = .ok (.enter f vs) w∧RelVs σ H w args vs
 | .yield b args => ∃ vs,RelVs σ H w args vs ∧ ∀ f t x y,(Instr.yield (σ.c b) vs).run P w = .ok (.round (σ.c b) f t x y) w → ex.run P w = .ok (.round (σ.c b) f t x y) w
 | .fail=>True

theorem StepOK.read (hr:Rel G σ H w) {x:Option AV} {s:Sem Value} (h : ∀ y,x=some y → ∃ v,s.run P w = .ok v w∧RelV σ H w y v):StepOK P G σ H w (do pure (.value (←s))) (vH x H):=by
 cases x with
 | none=>trivial
 | some y =>
  obtain⟨v,h1,h2⟩:=h y rfl
  exact⟨v,w,σ,by simp [h1],h2,hr,Ev.refl (Nat.le_refl _)⟩

theorem StepOK.make {x:Option (AV × Hp)} {s:Sem Value} (h : ∀ y H',x=some (y,H') → ∃ v w' σ',s.run P w = .ok v w'∧RelV σ' H' w' y v∧Rel G σ' H' w'∧Ev H.n σ H w σ' H' w'):StepOK P G σ H w (do pure (.value (←s))) (vHH x):=by
 cases x with
 | none=>trivial
 | some y =>
  obtain⟨y,H'⟩:=y
  obtain⟨v,w',σ',h1,h2⟩:=h y H' rfl
  exact⟨v,w',σ',by simp [h1],h2⟩

theorem zhq {big:Bool} {X Y z:AV} {vx vy:Value} {ts:Array TypeId} {ty:TypeId} (h:zch big X Y=some z) (h1:RelV σ H w X vx) (h2:RelV σ H w Y vy) :
 ∃ v,((if big then Builtin.max_ else Builtin.min_) ts ty #[vx,vy]).run P w = .ok v w∧RelV σ H w z v:=by
 unfold zch at h;split at h
 case h_2=>cases h
 rename_i k i k' j;split at h
 case isFalse=>cases h
 rename_i hk;subst hk;cases h
 have h1':vx = .int k i:=by cases h1 with | p h=>cases h;rfl
 have h2':vy = .int k j:=by cases h2 with | p h=>cases h;rfl
 subst h1' h2'
 refine⟨.int k (if big then max i j else min i j),?_,.p (.s _ rfl)⟩
 cases big
 · simp [Builtin.min_,List.foldlM_cons,List.foldlM_nil,Builtin.min2];omega
 · simp [Builtin.max_,List.foldlM_cons,List.foldlM_nil,Builtin.max2];omega

theorem ziL (hr:Rel G σ H w) (hf:RelF nt m σ H w env a) (b:Builtin) (args:Array Operand) (ts:Array TypeId) (ty:TypeId) (cs:Array Bool) :
 StepOK P G σ H w (builtin b ts ty cs (args.map a.eval)) (zW P G env H b args.toList ts.toList):=by
 unfold zW
 split
 · rename_i x t hx ht
   have hx':args = #[x]:=by simpa using congrArg List.toArray hx
   have ht':ts = #[t]:=by simpa using congrArg List.toArray ht
   subst hx';subst ht'
   exact .read hr fun y hy=>by simpa using zxA (ty:=ty) hy (zj hr hf x)
 · rename_i s x t u hx ht
   have hx':args = #[s,x]:=by simpa using congrArg List.toArray hx
   have ht':ts = #[t,u]:=by simpa using congrArg List.toArray ht
   subst hx';subst ht'
   exact .make fun y H' hy=>by simpa using zlM (ty:=ty) hr hy (zaL hr hf t s) (zaL hr hf u x)
 · rename_i d s t u hx ht
   have hx':args = #[d,s]:=by simpa using congrArg List.toArray hx
   have ht':ts = #[t,u]:=by simpa using congrArg List.toArray ht
   subst hx';subst ht'
   exact .make fun y H' hy=>by simpa using ztm (u:=u) (ty:=ty) hr hy (zj hr hf d) (zj hr hf s)
 · rename_i x y hx
   have hx':args = #[x,y]:=by simpa using congrArg List.toArray hx
   subst hx'
   refine .read hr fun z hz => ?_
   have h1:=zj hr hf x;have h2:=zj hr hf y
   generalize yd G env x=X at hz h1
   generalize yd G env y=Y at hz h2
   simp only [List.map_toArray,List.map_cons,List.map_nil]
   generalize a.eval x=vx at h1
   generalize a.eval y=vy at h2
   exact zhq (big:=false) (ts:=ts) (ty:=ty) hz h1 h2
 · rename_i x y hx
   have hx':args = #[x,y]:=by simpa using congrArg List.toArray hx
   subst hx'
   refine .read hr fun z hz => ?_
   have h1:=zj hr hf x;have h2:=zj hr hf y
   generalize yd G env x=X at hz h1
   generalize yd G env y=Y at hz h2
   simp only [List.map_toArray,List.map_cons,List.map_nil]
   generalize a.eval x=vx at h1
   generalize a.eval y=vy at h2
   exact zhq (big:=true) (ts:=ts) (ty:=ty) hz h1 h2
 · trivial

theorem zkl (hr:Rel G σ H w) (hf:RelF nt m σ H w env a) (o:Oper):StepOK P G σ H w (execOp a.eval o) (ze P G o.op o.type env H):=by
 obtain⟨dst,op,ty,pos,after,guard⟩:=o
 cases op<;>simp only [ze,execOp]<;>try trivial
 case move x=>exact⟨_,w,σ,rfl,zaL hr hf ty x,hr,Ev.refl (Nat.le_refl _)⟩
 case assign x=>exact⟨_,w,σ,rfl,zaL hr hf ty x,hr,Ev.refl (Nat.le_refl _)⟩
 case alloc t =>
  split
  · rename_i ps hps
    obtain⟨u,w',σ',h1,h2⟩:=zti hr hps
    exact⟨u,w',σ',by simp [h1],h2⟩
  · trivial
 case box t x =>
  split
  · rename_i cs hcs
    obtain⟨u,w',σ',h1,h2⟩:=zCd (P:=P) (e:=t) hr hcs (zj hr hf x)
    exact⟨u,w',σ',by simp [h1],h2⟩
  · trivial
 case build t parts =>
  refine .read hr fun y hy => ?_
  obtain⟨h1,h2⟩:=zcT hr hf parts.toList
  exact zoV hy (by simp [h1]) (fun k i x j v e1 e2=>h2 k i x j v e1 (by simpa using e2))
 case buildSlice t n parts =>
  refine .make fun y H' hy => ?_
  obtain⟨h1,h2⟩:=zcT hr hf parts.toList
  exact zgB hr hy (by simp [h1]) (fun k i x j v e1 e2=>h2 k i x j v e1 (by simpa using e2))
 case load t x=>exact .read hr fun y hy=>zjh hr hy (zxB hr (zj hr hf x))
 case store t x y =>
  cases h:zfO P H t (yd G env x) (zaW P G env t y) with
  | none=>trivial
  | some H' =>
   obtain⟨w',σ',h1,h2,h3⟩:=zoR hr h (zj hr hf x) (zaL hr hf t y)
   exact⟨w',σ',by simp [h1],h2,h3⟩
 case makeMap t r =>
  cases r with
  | some x=>trivial
  | none =>
   obtain⟨v,w',σ',h1,h2,h3,h4⟩:=zlS (P:=P) hr (t:=t)
   exact⟨v,w',σ',by simp [h1],h2,h3,h4⟩
 case lookup t x i ok=>exact .read hr fun y hy=>zkg hr hy (zj hr hf x) (zj hr hf i)
 case mapUpdate t x i y =>
  cases h:zbb P H t (yd G env x) (yd G env i) (zaW P G env t y) with
  | none=>trivial
  | some H' =>
   obtain⟨w',h1,h2,h3⟩:=ze6 hr h (zj hr hf x) (zj hr hf i) (zaL hr hf t y)
   exact⟨w',σ,by simp [h1],h2,h3⟩
 case insert t x i y =>
  cases h:zbb P H t (yd G env x) (yd G env i) (zaW P G env t y) with
  | none=>trivial
  | some H' =>
   obtain⟨w',h1,h2,h3⟩:=ze6 hr h (zj hr hf x) (zj hr hf i) (zaL hr hf t y)
   exact⟨w',σ,by simp [h1],h2,h3⟩
 case nilCheck x =>
  have hx:=zj hr hf x
  cases h:zts (yd G env x) with
  | none=>trivial
  | some y =>
   unfold zts at h;split at h<;>cases h
   · rename_i b off e;rw [e] at hx
     generalize a.eval x=v at hx ⊢
     cases hx with | ptr hb=>exact⟨_,w,σ,rfl,.ptr hb,hr,Ev.refl (Nat.le_refl _)⟩
   · rename_i sz xs i sub e;rw [e] at hx
     generalize a.eval x=v at hx ⊢
     cases hx with | ip hp hi hs=>exact⟨_,w,σ,rfl,.ip hp hi hs,hr,Ev.refl (Nat.le_refl _)⟩
   · rename_i f p c e;rw [e] at hx
     generalize a.eval x=v at hx ⊢
     cases hx with | clo fs cs q1 q2 q3 q4=>exact⟨_,w,σ,rfl,.clo fs cs q1 q2 q3 q4,hr,Ev.refl (Nat.le_refl _)⟩
   · rename_i b k off e;rw [e] at hx
     generalize a.eval x=v at hx ⊢
     cases hx with | vp ad q=>exact⟨_,w,σ,rfl,.vp ad q,hr,Ev.refl (Nat.le_refl _)⟩
   · rename_i ad e;rw [e] at hx
     generalize a.eval x=v at hx ⊢
     cases hx with | p hp =>
     cases hp
     exact⟨_,w,σ,rfl,.p (.s _ rfl),hr,Ev.refl (Nat.le_refl _)⟩
 case binOp op t x y t' =>
  refine .read hr fun z hz => ?_
  have h1:=zlY hr hf x;have h2:=zlY hr hf y;unfold zx at hz;split at hz
  case h_6=>cases hz
  case h_4 =>
   rename_i b off e1 e2;split at hz
   case isFalse=>cases hz
   rename_i hc
   obtain⟨_,hu⟩:=zg9 hc
   rw [e1] at h1;rw [e2] at h2;have h2':a.eval y = .pointer none:=zdE h2
   generalize a.eval x=v1 at h1 ⊢
   cases h1 with | ptr hb =>
   rw [h2'];split at hz
   case h_3=>cases hz
   all_goals
    cases hz
    refine⟨_,?_,.p (.s _ rfl)⟩
    rw [Sem.run_bind,yg (by simp) (by simp),Result.andThen_ok];simp only [binOp];rw [Sem.run_bind,zeD hu];rfl
  case h_3 =>
   rename_i e1 e2;split at hz
   case isFalse=>cases hz
   rename_i hc
   obtain⟨_,_,_,hu⟩:=zgc hc
   rw [e1] at h1;rw [e2] at h2;have h2':a.eval y = .nilFunc:=zdE h2
   generalize a.eval x=v1 at h1 ⊢
   cases h1 with | clo fs cs q1 q2 q3 q4 =>
   rw [h2'];split at hz
   case h_3=>cases hz
   all_goals
    cases hz
    refine⟨_,?_,.p (.s _ rfl)⟩
    rw [Sem.run_bind,yg (by simp) (by simp),Result.andThen_ok];simp only [binOp];rw [Sem.run_bind,zoO hu];rfl
  case h_5 =>
   rename_i x' e2 hn;split at hz
   case isFalse=>cases hz
   rename_i hc;simp only [Bool.and_eq_true] at hc
   obtain⟨e,hu⟩:=ze3 hc.1
   obtain⟨ad,l,c,h1'⟩:=zo2 hc.2 h1
   rw [e2] at h2;have h2':a.eval y = .slice none 0 0:=zdE h2;rw [h1',h2'];split at hz
   case h_3=>cases hz
   all_goals
    cases hz
    refine⟨_,?_,.p (.s _ rfl)⟩
    rw [Sem.run_bind,yg (by simp) (by simp),Result.andThen_ok];simp only [binOp];rw [Sem.run_bind,zdx hu];rfl
  case h_2 =>
   rename_i xs ys e1 e2;rw [e1] at h1;rw [e2] at h2
   cases h1 with | p h1 =>
   cases h2 with | p h2 =>
   split at hz
   case h_3=>cases hz
   all_goals
    simp only [Option.map_eq_some_iff] at hz
    obtain⟨r,hr1,rfl⟩:=hz
    refine⟨_,?_,.p (.s _ rfl)⟩
    rename_i hop
    obtain⟨q1,q2,⟨vs,q3⟩,us,q4⟩:=ztr hr1 h1 h2 _ x y
    rw [q3,q4] at q1 q2 ⊢;rw [Sem.run_bind,q1,Result.andThen_ok];simp only [binOp,Sem.run_bind,q2,Result.andThen_ok,Sem.run_pure]
  rename_i u v e1 e2;rw [e1] at h1;rw [e2] at h2
  have h1':a.eval x=u:=by cases h1 with | p h=>cases h;rfl
  have h2':a.eval y=v:=by cases h2 with | p h=>cases h;rfl
  cases hv:yV P op t u v with
  | none=>simp [hv] at hz
  | some r =>
   simp only [hv,Option.map_some,Option.some.injEq] at hz;subst hz;rw [h1',h2']
   refine⟨r,zxx hv x y w,.p (.s _ ?_)⟩
   unfold yV at hv;split at hv
   · split at hv
     · unfold zdv at hv;split at hv;· cases hv
       · split at hv<;>cases hv<;>rfl
     · split at hv
       · unfold zaV at hv
         split at hv<;>first | (cases hv;rfl) | (split at hv<;>cases hv;rfl) | (cases hv)
       · cases hv
   · unfold zEA at hv
     split at hv<;>first | (cases hv;rfl) | (split at hv<;>cases hv;rfl) | (cases hv)
   · split at hv
     · split at hv<;>cases hv<;>rfl
     · cases hv
   · split at hv
     · split at hv<;>cases hv<;>rfl
     · cases hv
   · split at hv
     · split at hv<;>cases hv<;>rfl
     · cases hv
   · split at hv
     · split at hv<;>cases hv<;>rfl
     · cases hv
   · cases hv
 case unOp op t x =>
  refine .read hr fun z hz => ?_
  have h1:=zj hr hf x;unfold aUn at hz;split at hz
  case h_2=>cases hz
  rename_i u e1;rw [e1] at h1
  have h1':a.eval x=u:=by cases h1 with | p h=>cases h;rfl
  cases hv:vUn op u with
  | none=>simp [hv] at hz
  | some r =>
   simp only [hv,Option.map_some,Option.some.injEq] at hz;subst hz;rw [h1']
   refine⟨r,zCc hv w,.p (.s _ ?_)⟩
   unfold vUn at hv;split at hv<;>cases hv<;>rfl
 case convert s d x =>
  have h1:=zj hr hf x;unfold zdn
  split
  · exact .read hr fun y hy=>ziJ hr hy h1
  · cases h:zee P s d (yd G env x) with
    | none=>trivial
    | some y =>
     obtain⟨v,w',q1,q2,q3,q4⟩:=ziK hr h h1
     exact⟨v,w',σ,by simp [q1],q2,q3,q4⟩
  · refine .read hr fun z hz => ?_
    split at hz
    case isFalse=>cases hz
    rename_i hs;split at hz
    case h_2=>cases hz
    rename_i u e1;rw [e1] at h1
    have h1':a.eval x=u:=by cases h1 with | p h=>cases h;rfl
    cases hv:zge P d u with
    | none=>simp [hv] at hz
    | some r =>
     simp only [hv,Option.map_some,Option.some.injEq] at hz;subst hz;rw [h1']
     refine⟨r,zth hs hv w,.p (.s _ ?_)⟩
     unfold zge at hv;split at hv<;>cases hv<;>rfl
 case makeInterface t x =>
  have h1:=zj hr hf x
  split
  · rename_i v e1
    split
    · trivial
    · rename_i hi;rw [e1] at h1
      have h1':a.eval x=v:=by cases h1 with | p h=>cases h;rfl
      unfold isIface at hi
      cases hu:P.underlying t with
      | none =>
       simp [hu] at hi
      | some d =>
       rw [hu] at hi
       refine⟨.iface t v,w,σ,?_,.p (.s _ rfl),hr,Ev.refl (Nat.le_refl _)⟩
       cases d<;>first | (simp at hi;done) | simp [Instr.makeInterface,run_underlying hu,h1']
  · trivial
 case typeAssert x xt t ok=>exact .read hr fun y hy=>zlX xt hy (zj hr hf x)
 case makeFunc fn first captured =>
  split
  · rename_i f
    obtain⟨l1,r1⟩:=zfS hr hf first.toList
    obtain⟨l2,r2⟩:=zfS hr hf captured.toList
    exact⟨.func (.func f) (first.map a.eval) (captured.map a.eval),w,σ,rfl,.clo _ _ (by simp [l1]) (by simp [l2]) (fun i x v e1 e2=>r1 i x v e1 (by simpa using e2)) (fun i x v e1 e2=>r2 i x v e1 (by simpa using e2)),hr,Ev.refl (Nat.le_refl _)⟩
  · trivial
 case makeSlice t l c =>
  split
  · exact .make fun y H' hy=>zoT hr hy (zj hr hf _) (zj hr hf c)
  · exact .make fun y H' hy=>ztl hr hy (zj hr hf l) (zj hr hf c)
 case slice t x lo hi mx=>exact .read hr fun y hy=>zoW hy (zj hr hf x) (zeI hr hf lo) (zeI hr hf hi) (zeI hr hf mx)
 case fieldAddr s x f=>exact .read hr fun y hy=>zhb hy (zj hr hf x)
 case field s x f=>exact .read hr fun y hy=>zoP hy (zj hr hf x)
 case indexAddr t x i=>exact .read hr fun y hy=>zha hy (zj hr hf x) (zj hr hf i)
 case index t x i=>exact .read hr fun y hy=>zoQ hy (zj hr hf x) (zj hr hf i)
 case extract t i =>
  have h1:=zj hr hf t
  split
  · rename_i xs e1;rw [e1] at h1
    refine .read hr fun y hy => ?_
    generalize a.eval t=v at h1 ⊢
    cases h1 with | tup vs hl h =>
    have hlt:i < vs.size:=by rw [hl];exact (List.getElem?_eq_some_iff.1 hy).1
    exact⟨vs[i],by simp [Instr.extract,hlt],h i y _ hy (by simp)⟩
  · trivial
 case pick c x y =>
  have h1:=zj hr hf c
  split
  · rename_i b e1;rw [e1] at h1
    generalize hv:a.eval c=v at h1 ⊢
    cases h1.bool_inv
    cases b
    · exact⟨_,w,σ,rfl,zaL hr hf ty y,hr,Ev.refl (Nat.le_refl _)⟩
    · exact⟨_,w,σ,rfl,zaL hr hf ty x,hr,Ev.refl (Nat.le_refl _)⟩
  · trivial
 case call c =>
  obtain⟨callee,args,ts⟩:=c
  cases callee with
  | invoke r m=>trivial
  | builtin b=>exact ziL hr hf b args ts ty _
  | value f =>
   have h1:=zj hr hf f;simp only [zbd]
   split
   · rename_i fn first captured e1
     rw [e1] at h1
     obtain⟨l2,r2⟩:=zeh (P:=P) hr hf args.toList ts.toList
     generalize hv:a.eval f=v at h1
     cases h1 with | clo fs cs q1 q2 q3 q4 =>
     have hvs:RelVs σ H w (first++yL P G env args.toList ts.toList++captured) (fs++args.map a.eval++cs):=by
      refine⟨by simp [q1,q2,l2],fun i x v e1 e2 => ?_⟩
      rw [Array.getElem?_append] at e2;simp only [Array.size_append,Array.size_map] at e2;by_cases hi:i < fs.size+args.size
      · rw [if_pos hi] at e2;rw [List.getElem?_append_left (by simp [l2,←q1];exact hi)] at e1;rw [Array.getElem?_append] at e2;by_cases hi2:i < fs.size
        · rw [if_pos hi2] at e2;rw [List.getElem?_append_left (by omega)] at e1;exact q3 i x v e1 e2
        · rw [if_neg hi2] at e2;rw [List.getElem?_append_right (by omega)] at e1;rw [←q1] at e1;exact r2 _ x v e1 (by simpa using e2)
      · rw [if_neg hi] at e2;rw [List.getElem?_append_right (by simp [l2,←q1];omega)] at e1;simp only [List.length_append,l2,←q1,Array.length_toList] at e1;exact q4 _ x v e1 e2
     split
     · rename_i he
       refine⟨fs++args.map a.eval++cs,?_,hvs⟩
       simp only [resolve,hv,Deferred.ofValue,Sem.run_bind,Sem.run_pure,Result.andThen_ok,invoke];exact zo3 he _ w
     · unfold zcS
       split
       · rename_i nm hn
         cases hx:zki nm (first++yL P G env args.toList ts.toList++captured) with
         | none=>trivial
         | some y =>
          obtain⟨v,q5,q6⟩:=zCh hn hx hvs
          refine⟨v,w,σ,?_,q6,hr,Ev.refl (Nat.le_refl _)⟩
          simp only [resolve,hv,Deferred.ofValue,Sem.run_bind,Sem.run_pure,Result.andThen_ok,invoke];exact q5
       · trivial
   · rename_i b e1;rw [e1] at h1
     obtain⟨l2,r2⟩:=zeh (P:=P) hr hf args.toList ts.toList
     generalize hv:a.eval f=v at h1
     cases h1 with | yld hb =>
     refine⟨args.map a.eval,⟨by simp [l2],fun i x v e1 e2=>r2 i x v e1 (by simpa using e2)⟩,fun f' t x y hy => ?_⟩
     simp only [resolve,hv,Deferred.ofValue,Sem.run_bind,Sem.run_pure,Result.andThen_ok,invoke]
     simpa using hy
   · trivial
end sound

theorem zhr {P:Program} {G:Globs} {op:Op} {ty:TypeId} {env:Env} {H:Hp} (h:ze P G op ty env H ≠ .fail) : ∀ c,op ≠ .defer c:=by
 intro c e;subst e;exact h rfl

end Go.AL

namespace Go.AL
open Go

def zA (nt:Nat) (d:Option Nat):Bool:=match d with | some d=>decide (d < nt) | none=>true

def zL (nt:Nat) (ops:Array Oper) (g:Option (Nat × Bool)) (env:Env):Option Bool :=
 match g with
 | none=>some true
 | some (j,yJ) =>
  match (ops[j]?).bind (·.dst) with
  | some d=>if d < nt then (match env d with | .p (.s (.bool t))=>some (t == yJ) | .tup []=>some false | _=>none) else none
  | none=>none

def yj (raw:List Nat) (f:FuncId) (args:List AV):List AV:=if raw.contains f then args else args.map AV.weak

def sOp (C:Cx) (dst:Option Nat) (H:Hp) (K:AV → Hp → Prop):SRes → Prop
 | .val x H'=>zA C.nt dst=true∧K x H'
 | .unit H'=>dst=none∧K .top H'
 | .call f args=>zA C.nt dst=true∧ACall C.P C.G f (yj C.raw f args) H K
 | .yield b args=>zA C.nt dst=true∧AYield C.P C.G b (args.map AV.weak) H K
 | .fail=>False

def aOp1 (C:Cx) (o:Oper) (env:Env) (H:Hp) (K:AV → Hp → Prop):Prop:=sOp C o.dst H K (ze C.P C.G o.op o.type env H)

theorem sOp.mono {C:Cx} {dst H} {K K':AV → Hp → Prop} {r:SRes} (h:sOp C dst H K r) (hk : ∀ x H',K x H' → K' x H'):sOp C dst H K' r:=by
 cases r with
 | val x H'=>exact⟨h.1,hk _ _ h.2⟩
 | unit H'=>exact⟨h.1,hk _ _ h.2⟩
 | call f args=>exact⟨h.1,h.2.mono hk⟩
 | yield b args=>exact⟨h.1,h.2.mono hk⟩
 | fail=>exact h

theorem RelVs.weak {σ H w} {xs:List AV} {vs:Array Value} (h:RelVs σ H w xs vs):RelVs σ H w (xs.map AV.weak) vs :=
 ⟨by simpa using h.1,fun i x v hx hv=>by
  simp only [List.getElem?_map,Option.map_eq_some_iff] at hx
  obtain⟨y,hy,rfl⟩:=hx
  exact (h.2 i y v hy hv).weak⟩

theorem zkm {σ H w} {raw f} {xs:List AV} {vs:Array Value} (h:RelVs σ H w xs vs):RelVs σ H w (yj raw f xs) vs:=by
 unfold yj
 split
 · exact h
 · exact h.weak

section
variable {C:Cx} {k:List Item} {env:Env} {H:Hp} {R:AV → Hp → Prop} {ops:Array Oper} {o:Oper} {rest:List Oper}

theorem zaw {nt:Nat} {d:Option Nat} (h:zA nt d=true) : ∀ i,d=some i → i < nt:=fun i hi=>by subst hi;simpa [zA] using h

theorem aOp1.wp {K:AV → Hp → Prop} (h:aOp1 C o env H K) {σ:Gh} {w:World} {a:Act} {m:Nat} {ro:Option Nat} (hr:Rel C.G σ H w) (hf:RelF C.nt m σ H w env a) {N:Act → World → Prop} {Q:Exit → Act → World → Prop}
 (hN : ∀ x v H' σ' w',K x H' → (∀ i,o.dst=some i → i < C.nt) → Rel C.G σ' H' w' → RelV σ' H' w' x v → Ev H.n σ H w σ' H' w' → N (a.put o.dst v) w'):o.wpIn { Fence.wide with round:=ro } 0 C.P a w N Q:=by
 have hs:=zkl (P:=C.P) hr hf o;unfold aOp1 at h;unfold Oper.wpIn
 refine⟨fun f _=>trivial,?_⟩
 have hsem:Oper.semAt ro a.eval o=execOp a.eval o:=Oper.semAt_eq _ _ _ (zhr (P:=C.P) (G:=C.G) (ty:=o.type) (env:=env) (H:=H) fun hh=>by rw [hh] at h;exact h)
 show o.uponIn _ _ _ _ _ _ ((Oper.semAt ro a.eval o).run C.P w)
 rw [hsem]
 generalize ze C.P C.G o.op o.type env H=r at h hs
 cases r with
 | val x H' =>
  obtain⟨v,w',σ',hrun,hv,hrel,hev⟩:=hs
  rw [hrun];exact hN x v H' σ' w' h.2 (zaw h.1) hrel hv hev
 | unit H' =>
  obtain⟨w',σ',hrun,hrel,hev⟩:=hs
  rw [hrun];exact hN .top undef H' σ' w' h.2 (by simp [h.1]) hrel (.top _) hev
 | call f args =>
  obtain⟨vs,hrun,hvs⟩:=hs
  rw [hrun]
  refine⟨fun h=>(by cases h),(callsIn_wide (n:=0 - 1)).2 ((h.2 σ w vs hr (zkm hvs)).mono ?_)⟩
  rintro e w' ⟨x,H',σ',v,q,rfl,hrel,hv,hev⟩
  exact hN x v H' σ' w' q (zaw h.1) hrel hv hev
 | yield b args =>
  obtain⟨vs,hvs,hrun⟩:=hs
  obtain⟨f,t,x,y,q1,q2⟩:=h.2 σ w vs hr hvs.weak
  rw [hrun _ _ _ _ q1]
  refine⟨fun h=>(by cases h),q2.mono ?_⟩
  rintro e w' ⟨x,H',σ',v,q,rfl,hrel,hv,hev⟩
  exact hN x v H' σ' w' q (zaw h.1) hrel hv hev
 | fail=>exact h.elim

theorem zcU {σ:Gh} {w:World} {a:Act} {m:Nat} {g:Option (Nat × Bool)} {t:Bool} (h:zL C.nt ops g env=some t) (hf:RelF C.nt m σ H w env a) (hg:o.guard=g):Region.wanted o (yielded ops a.tmps)=t:=by
 subst hg;unfold zL at h;split at h
 · rename_i hg;cases h;simp [Region.wanted,hg]
 · rename_i j yJ hg;split at h
   case h_2=>cases h
   rename_i d hd;split at h
   case isFalse=>cases h
   rename_i hlt;split at h
   case h_3=>cases h
   case h_2 =>
    rename_i he;cases h
    have hv : ∃ vs,a.tmps.getD d undef = .tuple vs:=by
     have:=hf.slot d
     rw [he] at this
     generalize a.tmps.getD d undef=v at this
     cases this with | tup vs _ _=>exact⟨vs,rfl⟩
    obtain⟨vs,hv⟩:=hv
    have hs:d < a.tmps.size:=by rw [hf.size];exact hlt
    have hv':a.tmps[d]? = some (.tuple vs):=by simpa [Array.getD_eq_getD_getElem?,hs] using hv
    simp only [Region.wanted,hg,yielded,hd,Option.bind_some,hv'];rfl
   rename_i b he;cases h;have hv:a.tmps.getD d undef = .bool b:=RelV.bool_inv (he ▸ hf.slot d)
   have hs:d < a.tmps.size:=by rw [hf.size];exact hlt
   have hv':a.tmps[d]? = some (.bool b):=by simpa [Array.getD_eq_getD_getElem?,hs] using hv
   simp only [Region.wanted,hg,yielded,hd,Option.bind_some,hv']
   cases b<;>cases yJ<;>rfl

def YieldK (C:Cx) (ops:Array Oper) (b:Nat) (args:List AV) (dst:Option Nat) (rest:List Oper) (k:List Item) (env:Env) (H:Hp) (R:AV → Hp → Prop):Prop :=
 AYield C.P C.G b args H fun r H'=>AOps C ops rest k (env.put dst r) H' R

def CallK (C:Cx) (ops:Array Oper) (f:FuncId) (args:List AV) (dst:Option Nat) (rest:List Oper) (k:List Item) (env:Env) (H:Hp) (R:AV → Hp → Prop):Prop :=
 ACall C.P C.G f args H fun r H'=>AOps C ops rest k (env.put dst r) H' R

def zCi (C:Cx) (ops:Array Oper) (r:SRes) (dst:Option Nat) (rest:List Oper) (k:List Item) (env:Env) (H:Hp) (R:AV → Hp → Prop) (go:AV → Hp → Prop):Prop :=
 match r with
 | .val x H'=>zA C.nt dst=true∧go x H'
 | .unit H'=>dst=none∧go .top H'
 | .call f args=>zA C.nt dst=true∧CallK C ops f (yj C.raw f args) dst rest k env H R
 | .yield b args=>zA C.nt dst=true∧YieldK C ops b (args.map AV.weak) dst rest k env H R
 | .fail=>False

def zcs (C:Cx) (ops:Array Oper):List Oper → List Item → Env → Hp → (AV → Hp → Prop) → Prop
 | [],k,env,H,R=>ARun C k env H R
 | o :: rest,k,env,H,R =>
  match zL C.nt ops o.guard env with
  | some true=>zCi C ops (ze C.P C.G o.op o.type env H) o.dst rest k env H R (fun x H'=>zcs C ops rest k (env.put o.dst x) H' R)
  | some false=>zA C.nt o.dst=true∧zcs C ops rest k (env.put o.dst (.tup [])) H R
  | none=>False

theorem zcm {F:Fence} {n:Nat} (l:List Oper) {Q Q':Exit → Act → World → Prop} (hQ : ∀ e a w,Q e a w → Q' e a w) : ∀ a w,wpListIn F n C.P ops Q l a w → wpListIn F n C.P ops Q' l a w:=by
 induction l with
 | nil=>intro a w h;exact hQ _ _ _ h
 | cons o l ih =>
  intro a w h;unfold wpListIn at h ⊢
  split
  · rename_i hw;rw [if_pos hw] at h;unfold Oper.wpIn at *
    refine⟨h.1,?_⟩
    have h:=h.2
    generalize (o.semAt F.round a.eval).run C.P w=r at *
    have lets:LetsOut Q → LetsOut Q':=fun ⟨a0,w0,q⟩=>⟨a0,w0,hQ _ _ _ q⟩
    cases r with
    | ok x w' =>
     cases x<;>simp only [Oper.uponIn] at h ⊢ <;>
      first
       | exact ih _ _ h
       | exact⟨h.1,CallsIn.mono h.2 (fun e w'' he=>by cases e<;>first | exact ih _ _ he | exact hQ _ _ _ he | exact lets he)⟩
       | exact⟨h.1,RoundIn.mono h.2 (fun e w'' he=>by cases e<;>first | exact ih _ _ he | exact hQ _ _ _ he | exact lets he)⟩
       | exact⟨h.1,RowsIn.mono h.2 (fun _ _ he=>ih _ _ he)⟩
    | halt x w'=>cases x<;>simp only [Oper.uponIn] at h ⊢ <;> exact hQ _ _ _ h
  · rename_i hw;rw [if_neg hw] at h;exact⟨h.1,ih _ _ h.2⟩

theorem AOps.of_op {o:Oper} (t:Bool) (hw:zL C.nt ops o.guard env=some t)
 (h : ∀ σ w a m,Pre C σ H w env a m → ∀ (K:Act → World → Prop) (Q:Exit → Act → World → Prop),
  (∀ x v H' σ' w',AOps C ops rest k (env.put o.dst x) H' R → (∀ i,o.dst=some i → i < C.nt) → Rel C.G σ' H' w' → RelV σ' H' w' x v → Ev H.n σ H w σ' H' w' → K (a.put o.dst v) w') →
  if t then o.wpIn (Fr C σ) 0 C.P a w K Q else K (a.put o.dst undef) w):AOps C ops (o :: rest) k env H R:=by
 intro σ w a m hpre
 have key : ∀ x v H' σ' w',AOps C ops rest k (env.put o.dst x) H' R → (∀ i,o.dst=some i → i < C.nt) → Rel C.G σ' H' w' → RelV σ' H' w' x v → Ev H.n σ H w σ' H' w' →
  wpListIn (Fr C σ) 0 C.P ops (fun e a' w'=>e = .normal ∧ ∃ env' H' σ',ARun C k env' H' R∧Pre C σ' H' w' env' a' m∧Ev H.n σ H w σ' H' w') rest (a.put o.dst v) w':=by
  intro x v H' σ' w' hrest hd hrel hv hev;have hf':RelF C.nt m σ' H' w' (env.put o.dst x) (a.put o.dst v):=(hpre.fr.mono hev).put hd hv;have hpre':Pre C σ' H' w' (env.put o.dst x) (a.put o.dst v) m:=hpre.go hrel hf' hev;have h1:=hrest σ' w' (a.put o.dst v) m hpre'
  have hF:Fr C σ'=Fr C σ:=by simp only [Fr,round_eq hpre.n0 hev.c hpre.lt]
  rw [hF] at h1;refine zcm rest ?_ _ _ h1
  rintro e a' w2 ⟨rfl,env',H2,σ2,hr,hpre2,hev2⟩
  exact⟨rfl,env',H2,σ2,hr,hpre2,hev.trans (hev2.weaken hev.hn) (Nat.le_refl _)⟩
 have h1:=h σ w a m hpre _ (fun e a' w'=>e = .normal ∧ ∃ env' H' σ',ARun C k env' H' R∧Pre C σ' H' w' env' a' m∧Ev H.n σ H w σ' H' w') key;unfold wpListIn;have hwt:=zcU (o:=o) hw hpre.fr rfl
 cases t with
 | true=>rw [if_pos hwt];exact h1
 | false=>rw [if_neg (by rw [hwt];simp)];exact⟨fun f _=>trivial,h1⟩

theorem AOps.run : ∀ {l:List Oper} {env:Env} {H:Hp},zcs C ops l k env H R → AOps C ops l k env H R
 | [],env,H,h => .nil h
 | o :: rest,env,H,h=>by
  unfold zcs at h;split at h
  · rename_i hwa
    have h':aOp1 C o env H fun x H'=>AOps C ops rest k (env.put o.dst x) H' R:=by
     unfold aOp1;unfold zCi at h
     generalize ze C.P C.G o.op o.type env H=r at h
     cases r with
     | val x H'=>exact⟨h.1,AOps.run h.2⟩
     | unit H'=>exact⟨h.1,AOps.run h.2⟩
     | call f args=>exact⟨h.1,h.2⟩
     | yield b args=>exact⟨h.1,h.2⟩
     | fail=>exact h.elim
    exact .of_op true hwa fun σ w a m hpre K Q hK=>h'.wp hpre.rel hpre.fr hK
  · rename_i hwa
    exact .of_op false hwa fun σ w a m hpre K Q hK=>hK (.tup []) undef H σ w (AOps.run h.2) (zaw h.1) hpre.rel (.tup #[] rfl (by simp)) (Ev.refl (Nat.le_refl _))
  · exact h.elim

theorem CallK.of {f:FuncId} {args:List AV} {dst:Option Nat} {r:AV} {H':Hp} (h : ∀ R:AV → Hp → Prop,R r H' → ACall C.P C.G f args H R) (hk:zcs C ops rest k (env.put dst r) H' R):CallK C ops f args dst rest k env H R :=
 h _ (AOps.run hk)

theorem CallK.ex {f:FuncId} {args:List AV} {dst:Option Nat} {S:AV → Hp → Prop} (h:ACall C.P C.G f args H S) (hk : ∀ r H',S r H' → zcs C ops rest k (env.put dst r) H' R):CallK C ops f args dst rest k env H R :=
 h.mono fun r H' q=>AOps.run (hk r H' q)

theorem YieldK.of {b:Nat} {args:List AV} {dst:Option Nat} {r:AV} {H':Hp} (h : ∀ R:AV → Hp → Prop,R r H' → AYield C.P C.G b args H R) (hk:zcs C ops rest k (env.put dst r) H' R):YieldK C ops b args dst rest k env H R :=
 h _ (AOps.run hk)

theorem ARun.text {id:Nat} {l:List Oper} (h:zcs C l.toArray l k env H R):ARun C (.code (.region id l.toArray false) :: k) env H R := .region (AOps.run h)


def zei (P:Program) (env:Env) (H:Hp):ResultVar → Option AV
 | .tmp t=>some (env t)
 | .cell a t=>zcg P H t (env a)

def zci (P:Program) (env:Env) (H:Hp):List ResultVar → Option (List AV)
 | []=>some []
 | r :: rs=>match zei P env H r,zci P env H rs with
  | some x,some xs=>some (x :: xs)
  | _,_=>none

def ze7 (P:Program) (rs:List ResultVar) (env:Env) (H:Hp):Option AV :=
 match zci P env H rs with
 | some [x]=>some x
 | some xs=>some (.tup xs)
 | none=>none

def zxF (tmps:Array Value):ResultVar → Sem Value
 | .tmp t=>pure (tmps.getD t undef)
 | .cell a t=>do loadVar t (←asAddr (tmps.getD a undef))

theorem zo4 (fn:Func) (tmps:Array Value):results fn tmps=(do let vs ←fn.results.mapM (zxF tmps);pure (if h:vs.size=1 then vs[0] else .tuple vs)):=by
 unfold results
 congr 1

theorem zlZ {σ:Gh} {w:World} {a:Act} {nt m:Nat} (hr:Rel C.G σ H w) (hf:RelF nt m σ H w env a) {r:ResultVar} {x:AV} (h1:zei C.P env H r=some x) :
 ∃ v,(zxF a.tmps r).run C.P w = .ok v w∧RelV σ H w x v:=by
 cases r with
 | tmp t=>simp only [zei,Option.some.injEq] at h1;subst h1;exact⟨_,rfl,hf.slot t⟩
 | cell ad t =>
  simp only [zei] at h1
  obtain⟨v,hv,hx⟩:=zjh hr h1 (hf.slot ad)
  refine⟨v,?_,hx⟩
  have hptr : ∃ p,a.tmps.getD ad undef = .pointer (some p):=by
   have hs:=hf.slot ad
   generalize a.tmps.getD ad undef=u at hs ⊢
   generalize env ad=y at h1 hs
   unfold zcg at h1;split at h1
   case h_2=>cases h1
   split at h1
   · cases hs;exact⟨_,rfl⟩
   · cases hs;exact⟨_,rfl⟩
   · cases hs;exact⟨_,rfl⟩
   · cases h1
  obtain⟨p,hp⟩:=hptr
  rw [hp] at hv;simp only [zxF,hp];exact hv

theorem zgh {σ:Gh} {w:World} {a:Act} {nt m:Nat} (hr:Rel C.G σ H w) (hf:RelF nt m σ H w env a) : ∀ {rs:List ResultVar} {xs:List AV},zci C.P env H rs=some xs →
 ∃ vs:List Value,(rs.mapM (zxF a.tmps)).run C.P w = .ok vs w∧vs.length=xs.length ∧ ∀ (i:Nat) x v,xs[i]? = some x → vs[i]? = some v → RelV σ H w x v
 | [],xs,h=>by simp only [zci,Option.some.injEq] at h;subst h;exact⟨[],by simp,rfl,by simp⟩
 | r :: rs,xs,h=>by
  simp only [zci] at h;split at h
  case h_2=>cases h
  rename_i x ys h1 h2;cases h
  obtain⟨vs,q1,q2,q3⟩:=zgh hr hf h2
  obtain⟨v,hv,hx⟩:=zlZ hr hf h1
  refine⟨v :: vs,?_,by simp [q2],fun i y u hy hu => ?_⟩
  · rw [List.mapM_cons];simp only [Sem.run_bind,hv,Result.andThen_ok,q1,Sem.run_pure]
  · cases i with
    | zero=>simp at hy hu;subst hy;subst hu;exact hx
    | succ i=>simp at hy hu;exact q3 i y u hy hu

theorem zxG {fn:Func} {x:AV} {σ:Gh} {w:World} {a:Act} {nt m:Nat} (hr:Rel C.G σ H w) (hf:RelF nt m σ H w env a) (h:ze7 C.P fn.results.toList env H=some x) :
 ∃ v,(results fn a.tmps).run C.P w = .ok v w∧RelV σ H w x v:=by
 unfold ze7 at h
 cases hall:zci C.P env H fn.results.toList with
 | none=>simp [hall] at h
 | some xs =>
  obtain⟨vs,q1,q2,q3⟩:=zgh hr hf hall
  have hm:(fn.results.mapM (zxF a.tmps)).run C.P w = .ok vs.toArray w:=by
   rw [Array.mapM_eq_mapM_toList,Sem.run_map,q1,Result.andThen_ok]
  simp only [hall] at h;rw [zo4,Sem.run_bind,hm,Result.andThen_ok];split at h
  · rename_i y hy;cases hy;cases h
    match vs,q2,q3 with
    | [v],_,q3=>exact⟨v,rfl,q3 0 _ v rfl rfl⟩
  · rename_i ys hne hy;cases hy;cases h
    refine⟨.tuple vs.toArray,?_,.tup _ (by simp [q2]) (fun i x v h1 h2=>q3 i x v h1 (by simpa using h2))⟩
    have : ¬ vs.toArray.size=1:=fun h1=>by
     simp only [List.size_toArray,q2] at h1
     match xs,h1,hne with
     | [z],_,hne=>exact hne z rfl
    simp only [this,dite_false,Sem.run_pure]
  · rename_i hy;cases hy

def AV.out (n0:Nat):AV → Option AV
 | .p x=>some (.p x.weak)
 | .sl _ _ sz xs=>some (.p (.sl false sz xs))
 | .tup xs=>match pvs? xs with | some ps=>some (.tup (ps.map fun p => .p p.weak)) | none=>none
 | .ptr b off=>if b < n0 then some (.ptr b off) else none
 | .ref b off len sz=>if b < n0 then some (.ref b off len sz) else none
 | .vr b len sz=>if b < n0 then some (.vr b len sz) else none
 | .mp b=>if b < n0 then some (.mp b) else none
 | _=>none

theorem TailOK.trunc {σ:Gh} {n0 α k sz:Nat} {v:Value} (h:TailOK σ H α k sz v) (hα:α < n0):TailOK σ (H.trunc n0) α k sz v :=
 ⟨hα,fun k0 d hk=>h.2 k0 d (by rwa [Hp.f_trunc,if_pos hα] at hk)⟩

theorem Stable.trunc {σ:Gh} {n0 g o:Nat} (h:Stable σ H g o):Stable σ (H.trunc n0) g o:=by
 have hf : ∀ b x,(H.trunc n0).f b=some x → H.f b=some x:=fun b x h=>by
  rw [Hp.f_trunc] at h;split at h
  · exact h
  · cases h
 exact⟨fun b cs hb=>h.1 b cs (hf _ _ hb),fun b v d o' s hb=>h.2 b v d o' s (hf _ _ hb)⟩

theorem RelV.trunc {σ:Gh} {w:World} {n0:Nat} {x:AV} {v:Value} (h:RelV σ H w x v):BelowN n0 x → RelV σ (H.trunc n0) w x v:=by
 have hp : ∀ {x:PV} {v:Value},RelP w (Stable σ H) x v → RelP w (Stable σ (H.trunc n0)) x v:=fun h=>h.mono fun g o v h1 h2=>⟨h1.trunc,h2⟩
 induction h with
 | p h=>exact fun _ => .p (hp h)
 | sl h ht=>intro hb;cases hb with | sl _ _ _ _ hb=>exact .sl (hp h) (ht.trunc hb)
 | ref a h0 _ hcap ha=>intro hb;cases hb with | ref _ _ _ _ hb=>exact .ref a h0 hb hcap ha
 | ptr _=>intro hb;cases hb with | ptr _ _ hb=>exact .ptr hb
 | ip h hi hs=>exact fun _ => .ip (hp h) hi hs
 | clo fs cs hf hc _ _ ih1 ih2=>intro hb;cases hb with | clo _ _ _ h1 h2=>exact .clo fs cs hf hc (fun i x v a b=>ih1 i x v a b (h1 i x a)) (fun i x v a b=>ih2 i x v a b (h2 i x a))
 | tup vs hl _ ih=>intro hb;cases hb with | tup _ h=>exact .tup vs hl (fun i x v a b=>ih i x v a b (h i x a))
 | agg vs hl h1 _ ih=>intro hb;cases hb with | agg _ h=>exact .agg vs hl h1 (fun i x v a b=>ih i x v a b (h i x a))
 | yld _=>intro hb;cases hb with | yld _ hb=>exact .yld hb
 | mp _=>intro hb;cases hb with | mp _ hb=>exact .mp hb
 | vr q =>
  intro hb
  cases hb with | vr _ _ _ hb =>
  obtain⟨_,a,cap,rfl,q1,q2⟩:=q
  exact .vr ⟨hb,a,cap,rfl,q1,fun k0 d hk=>q2 k0 d (by rwa [Hp.f_trunc,if_pos hb] at hk)⟩
 | vp a q =>
  intro hb
  cases hb with | vp _ _ _ hb =>
  exact .vp a ⟨hb,fun k0 d hk=>q.2 k0 d (by rwa [Hp.f_trunc,if_pos hb] at hk)⟩
 | top v=>exact fun _ => .top v

theorem ztt {σ:Gh} {w:World} {n0:Nat} (hr:Rel C.G σ H w) (hb:Bel n0 H):Rel C.G σ (H.trunc n0) w∧Ev n0 σ H w σ (H.trunc n0) w:=by
 have hf : ∀ b x,(H.trunc n0).f b=some x → H.f b=some x∧b < n0:=fun b x h=>by
  rw [Hp.f_trunc] at h;split at h
  · rename_i hb;exact⟨h,hb⟩
  · cases h
 have hev:Ev n0 σ H w σ (H.trunc n0) w:=⟨fun g o v h1 h2=>⟨h1.trunc,h2⟩,fun _ _=>rfl,Nat.le_refl _,fun b hb k d hk=>⟨k,d,(hf _ _ hk).1,Nat.le_refl _,fun _=>rfl⟩,Nat.le_refl _,
  fun g _ h=>⟨rfl,fun b cs hb=>h.1 b cs (hf _ _ hb).1,fun b v d o' s hb=>h.2 b v d o' s (hf _ _ hb).1,fun b vs S hb=>h.3 b vs S (hf _ _ hb).1⟩,rfl,rfl⟩
 refine⟨⟨fun b cs h => ?_,fun b k d g o s h=>hr.tail b k d g o s (hf _ _ h).1,fun b k cs h => ?_,fun b b' cs cs' h h'=>hr.cc b b' cs cs' (hf _ _ h).1 (hf _ _ h').1,fun b b' cs k d g o s h h'=>hr.ct b b' cs k d g o s (hf _ _ h).1 (hf _ _ h').1,
  fun b b' k d k' d' g o s o' s' h h'=>hr.tt b b' k d k' d' g o s o' s' (hf _ _ h).1 (hf _ _ h').1,fun g sz xs h=>(hr.glob g sz xs h).trunc (.ip _ _ _ _),fun b vs S h => ?_,fun b b' vs vs' S S' h h'=>hr.oo b b' vs vs' S S' (hf _ _ h).1 (hf _ _ h').1,fun r m h=>(hr.gm r m h).of rfl (hev.blk r (hr.gm r m h).lt (hr.gm r m h).2.1).2 fun x v hx q=>q.trunc (hx _),fun g sz xs h=>(hr.z g sz xs h).of rfl (hev.blk g (hr.z g sz xs h).lt (hr.z g sz xs h).2.1).2 fun q=>q.trunc (.ip _ _ _ _)⟩,hev⟩
 · obtain⟨h1,h2⟩:=hf _ _ h
   obtain⟨c,e,q1,q2,q3⟩:=hr.cells b cs h1
   exact⟨c,e,q1,q2,fun i x hx=>let ⟨v,a,b'⟩:=q3 i x hx;⟨v,a,b'.1.trunc (hb b _ h2 h1 x (List.mem_of_getElem? hx)),b'.2⟩⟩
 · obtain⟨h1,h2⟩:=hf _ _ h
   obtain⟨q0,q1,q2⟩:=hr.vec b k cs h1
   refine⟨q0,q1,fun g o s hg => ?_⟩
   obtain⟨p0,p1,p2⟩:=q2 g o s hg
   exact⟨p0,p1,fun i x hx=>let ⟨v,a,b'⟩:=p2 i x hx;⟨v,a,b'.1.trunc (hb b _ h2 h1 x (List.mem_of_getElem? hx)),b'.2⟩⟩
 · obtain⟨h1,h2⟩:=hf _ _ h
   obtain⟨o,us,q1,q2,q3,q4⟩:=hr.objs b vs S h1
   exact⟨o,us,q1,q2,⟨q3.1,fun i x v a b'=>(q3.2 i x v a b').trunc (hb b _ h2 h1 x (List.mem_of_getElem? a))⟩,q4⟩

theorem AV.out_rel {σ:Gh} {w:World} {n0:Nat} {x y:AV} {v:Value} (h:x.out n0=some y) (r:RelV σ H w x v):RelV σ (H.trunc n0) w y v:=by
 cases x with
 | p x=>simp only [AV.out,Option.some.injEq] at h;subst h;exact r.weak.trunc (.p _)
 | sl α k sz xs=>simp only [AV.out,Option.some.injEq] at h;subst h;exact r.weak.trunc (.p _)
 | ptr b off =>
  simp only [AV.out] at h;split at h
  · rename_i hb;cases h;exact r.trunc (.ptr _ _ hb)
  · cases h
 | ref b off len sz =>
  simp only [AV.out] at h;split at h
  · rename_i hb;cases h;exact r.trunc (.ref _ _ _ _ hb)
  · cases h
 | vr b len sz =>
  simp only [AV.out] at h;split at h
  · rename_i hb;cases h;exact r.trunc (.vr _ _ _ hb)
  · cases h
 | mp b =>
  simp only [AV.out] at h;split at h
  · rename_i hb;cases h;exact r.trunc (.mp _ hb)
  · cases h
 | tup xs =>
  simp only [AV.out] at h;split at h
  case h_2=>cases h
  rename_i ps hps;cases h
  obtain⟨hl,hg⟩:=pvs?_get hps
  cases r with | tup vs hvl hv =>
  refine .tup vs (by simp [hl,hvl]) fun i y v hy hv' => ?_
  simp only [List.getElem?_map,Option.map_eq_some_iff] at hy
  obtain⟨p,hp,rfl⟩:=hy
  obtain⟨a,ha,hap⟩:=hg i p hp
  exact RelV.trunc (.p (AV.pv?_rel hap (hv i a v ha hv')).weak) (.p _)
 | _=>simp [AV.out] at h

theorem zgi {P:Program} {G:Globs} {σ:Gh} : ∀ (ms:List Nat) (fr:Frame) (cs:List Frame) (w:World) {m:Nat},fr.mode = .returning → fr.defers=ms.map mark → ms.Nodup → (∀ r∈ms,m≤r∧w.heap[r]? = some (.deferred (some []))∧Free σ H r) → Rel G σ H w →
 ∃ w',Steps P (lone fr cs w) (lone { fr with defers:=[] } cs w')∧Rel G σ H w'∧(∀ n0,n0≤H.n → EvM n0 m σ H w σ H w')
 | [],fr,cs,w,m,hm,hd,_,_,hr=>⟨w,by
  have : { fr with defers:=[] }=fr:=by cases fr;simp only at hd;subst hd;rfl
  rw [this];exact .refl _ _,hr,fun n0 hn=>Ev.refl hn⟩
 | r :: ms,fr,cs,w,m,hm,hd,hnd,hms,hr=>by
  obtain⟨h1,h2,h3⟩:=hms r (by simp)
  have hlt:r < w.heap.size:=(Array.getElem?_eq_some_iff.1 h2).1
  have hother : ∀ g,g≠r → (w.putObj r (.deferred none)).heap[g]? = w.heap[g]? := fun g hg=>World.putObj_heap_other hg
  have hev : ∀ n0,n0≤H.n → EvM n0 m σ H w σ H (w.putObj r (.deferred none)):=fun n0 hn=>by
   refine⟨fun g o v q1 q2=>⟨q1,?_⟩,fun _ _=>rfl,hn,fun _ _ k d hk=>⟨k,d,hk,Nat.le_refl _,fun _=>rfl⟩,by simp,fun g hg hf=>⟨hother g (by omega),hf⟩,rfl,rfl⟩
   by_cases hgr:g=r
   · subst hgr;simp [World.cell?,h2] at q2
   · simpa [World.cell?,hother g hgr] using q2
  have hrel:Rel G σ H (w.putObj r (.deferred none)):=by
   have hev:=hev H.n (Nat.le_refl _)
   refine⟨fun b cs h => ?_,fun b k d g o s h ht => ?_,hr.vec_keep hev (fun _ _ _ h=>⟨h,rfl⟩) (fun b k cs g o s _ h ht=>hother g (fun hg=>h3.2 b k _ o s h (hg ▸ ht))),hr.cc,hr.ct,hr.tt,fun g sz xs h=>(hr.glob g sz xs h).mono hev,fun b vs S h => ?_,hr.oo,fun g m h=>(hr.gm g m h).of (hother g (fun e=>by obtain⟨⟨es,cl,q,_⟩,_⟩:=hr.gm g m h;rw [e,h2] at q;cases q)) (hr.gm g m h).2.1 fun x v _ q=>q.mono hev,fun g sz xs h=>(hr.z g sz xs h).of (hother g (fun e=>by obtain⟨⟨c,e',q⟩,_⟩:=hr.z g sz xs h;rw [e,h2] at q;cases q)) (hr.z g sz xs h).2.1 fun q=>q.mono hev⟩
   · obtain⟨c,e,p1,p2,p3⟩:=hr.cells b cs h
     exact⟨c,e,(hother _ (h3.1 b cs h)).trans p1,p2,fun i x hx=>let ⟨v,a,b⟩:=p3 i x hx;⟨v,a,b.mono hev⟩⟩
   · obtain⟨c,e,p1,p2⟩:=hr.tail b k d g o s h ht
     exact⟨c,e,(hother g (fun hg=>h3.2 b k d o s h (hg ▸ ht))).trans p1,p2⟩
   · obtain⟨o,us,p1,p2,p3,p4⟩:=hr.objs b vs S h
     exact⟨o,us,(hother _ (h3.3 b vs S h)).trans p1,p2,p3.mono hev,p4⟩
  have hs:=step_collected (P:=P) (fr:=fr) (cs:=cs) (w:=w) (d:=mark r) (r:=r) (ds:=ms.map mark) (by rw [hm];simp) hd rfl (run_takeDeferred h2);have hnd':=List.nodup_cons.1 hnd
  obtain⟨w',q1,q2,q3⟩:=zgi (P:=P) ms { fr with defers:=[]++ms.map mark } cs (w.putObj r (.deferred none)) (m:=m) hm rfl hnd'.2
   (fun g hg=>let ⟨p1,p2,p3⟩:=hms g (by simp [hg]);⟨p1,(hother g (fun e=>hnd'.1 (e ▸ hg))).trans p2,p3⟩) hrel
  exact⟨w',.head hs q1,q2,fun n0 hn=>(hev n0 hn).trans' (q3 n0 hn) (Nat.le_refl _) (Nat.le_refl _) (Nat.le_refl _)⟩

theorem ARun.leave {fn:Func} {x:AV} (hro:C.round=none) (hfn:C.P.funcs[C.fid]? = some fn) {rs:List ResultVar} (hrs:fn.results.toList=rs) (hx:ze7 C.P rs env H=some x) (todo:List Item)
 (hstep : ∀ (b:Frame) (a:Act) cs w,b.roundOf=none → step C.P (lone (b.atR a todo) cs w) = .next (lone { b.atR a todo with mode := .returning } cs w))
 {R:AV → Hp → Prop} (y:AV) (H':Hp) (hR:R y H') (hrel : ∀ σ w v,Rel C.G σ H w → RelV σ H w x v → C.n0≤H.n → ∃ σ',Rel C.G σ' H' w∧RelV σ' H' w y v∧Ev C.n0 σ H w σ' H' w):ARun C todo env H R:=by
 intro σ w a b cs m hb hpre;subst hrs
 have hro':b.roundOf=none:=by rw [hb.ro,hro];rfl
 obtain⟨ms,d1,d2,d3⟩:=hpre.fr.defers
 obtain⟨w1,s1,r1,e1⟩:=zgi (P:=C.P) ms { b.atR a todo with mode := .returning } cs w (m:=m) rfl d1 d2 d3 hpre.rel
 have hf1:RelF C.nt 0 σ H w1 env { a with defers:=[] }:=⟨⟨[],rfl,List.nodup_nil,by simp⟩,hpre.fr.size,fun i=>(hpre.fr.slot i).mono (e1 H.n (Nat.le_refl _))⟩
 obtain⟨v,hv,hxv⟩:=zxG r1 hf1 hx
 obtain⟨σ',q1,q2,q3⟩:=hrel σ w1 v r1 hxv hpre.n0
 refine⟨y,H',σ',v,w1,_,hR,.head (hstep b a cs w hro') s1,?_,q1,q2,(e1 C.n0 hpre.n0).trans' q3 (Nat.le_refl _) (Nat.le_refl _) (Nat.le_trans hpre.m (e1 C.n0 hpre.n0).size)⟩
 unfold Fin;rw [hro]
 exact⟨_,rfl,hb.fn,rfl,rfl,hb.kind,fn,by simpa [Frame.atR,hb.fn] using hfn,hv⟩

theorem ARun.ret {fn:Func} {x y:AV} (hfn:C.P.funcs[C.fid]? = some fn) {rs:List ResultVar} (hrs:fn.results.toList=rs) (hx:ze7 C.P rs env H=some x) (hy:x.out C.n0=some y) (hb:Bel C.n0 H) (hR:R y (H.trunc C.n0)) (hro:C.round=none:=by rfl) :
 ARun C (.code .ret :: k) env H R :=
 .leave hro hfn hrs hx _ (fun _ _ _ _ h=>stepR_ret h) y _ hR fun σ w v h1 h2 _=>let ⟨a,b⟩:=ztt h1 hb;⟨σ,a,AV.out_rel hy h2,b⟩

theorem ARun.retKeep {fn:Func} {x:AV} (hfn:C.P.funcs[C.fid]? = some fn) {rs:List ResultVar} (hrs:fn.results.toList=rs) (hx:ze7 C.P rs env H=some x) (hR:R x H) (hro:C.round=none:=by rfl):ARun C (.code .ret :: k) env H R :=
 .leave hro hfn hrs hx _ (fun _ _ _ _ h=>stepR_ret h) x _ hR fun σ _ _ h1 h2 hn=>⟨σ,h1,h2,Ev.refl hn⟩
end

end Go.AL

namespace Go.AL
open Go


section congr
variable {P:Program} {G:Globs} {env env':Env} {H:Hp}

theorem zi {x:Operand} (h : ∀ t,x = .tmp t → env t=env' t):yd G env x=yd G env' x:=by
 cases x with
 | tmp t=>exact h t rfl
 | _=>rfl

theorem yN {ty:TypeId} {x:Operand} (h : ∀ t,x = .tmp t → env t=env' t):zaW P G env ty x=zaW P G env' ty x:=by
 cases x with
 | tmp t=>exact h t rfl
 | _=>rfl

theorem zhs {x:Operand} (h : ∀ t,x = .tmp t → env t=env' t):zho G env x=zho G env' x:=by
 cases x with
 | tmp t=>exact h t rfl
 | _=>rfl

theorem zo5 {ty:TypeId} {x:Operand} (h : ∀ t,x = .tmp t → env t=env' t):zkk P G env ty x=zkk P G env' ty x:=by
 cases x with
 | tmp t=>exact h t rfl
 | _=>rfl

theorem zdF : ∀ (xs:List Operand) (ts:List TypeId),(∀ x∈xs,∀ t,x = .tmp t → env t=env' t) → yL P G env xs ts=yL P G env' xs ts
 | [],_,_=>rfl
 | x :: xs,[],h=>by simp only [yL];rw [zi (h x (by simp)),zdF xs [] (fun y hy=>h y (by simp [hy]))]
 | x :: xs,t :: ts,h=>by simp only [yL];rw [zo5 (h x (by simp)),zdF xs ts (fun y hy=>h y (by simp [hy]))]

theorem zcV : ∀ (ps:List (Nat × Operand)),(∀ x∈ps.map (·.2),∀ t,x = .tmp t → env t=env' t) → y5 G env ps=y5 G env' ps
 | [],_=>rfl
 | (i,x) :: ps,h=>by simp only [y5];rw [zi (h x (by simp)),zcV ps (fun y hy=>h y (by simp at hy ⊢;exact .inr hy))]

theorem zdG : ∀ (xs:List Operand),(∀ x∈xs,∀ t,x = .tmp t → env t=env' t) → zbc G env xs=zbc G env' xs
 | [],_=>rfl
 | x :: xs,h=>by simp only [zbc];rw [zi (h x (by simp)),zdG xs (fun y hy=>h y (by simp [hy]))]

theorem ze8 {b:Builtin} {args:List Operand} {ts:List TypeId} (h : ∀ x∈args,∀ t,x = .tmp t → env t=env' t):zW P G env H b args ts=zW P G env' H b args ts:=by
 unfold zW
 split
 · rw [zi (h _ (by simp))]
 · rename_i s x t u;rw [yN (h s (by simp)),yN (h x (by simp))]
 · rename_i d s t u;rw [zi (h d (by simp)),zi (h s (by simp))]
 · rename_i x y;rw [zi (h x (by simp)),zi (h y (by simp))]
 · rename_i x y;rw [zi (h x (by simp)),zi (h y (by simp))]
 · rfl

theorem zkn {op:Op} {ty:TypeId} (h : ∀ x∈op.operands,∀ t,x = .tmp t → env t=env' t):ze P G op ty env H=ze P G op ty env' H:=by
 cases op<;>simp only [ze,Op.operands] at * <;> try rfl
 case move x=>rw [yN (h x (by simp))]
 case assign x=>rw [yN (h x (by simp))]
 case box t x=>rw [zi (h x (by simp))]
 case build t parts=>rw [zcV _ (fun x hx=>h x (by simpa using hx))]
 case buildSlice t n parts=>rw [zcV _ (fun x hx=>h x (by simpa using hx))]
 case load t x=>rw [zi (h x (by simp))]
 case store t x y=>rw [zi (h x (by simp)),yN (h y (by simp))]
 case nilCheck x=>rw [zi (h x (by simp))]
 case binOp op t x y t'=>rw [zhs (h x (by simp)),zhs (h y (by simp))]
 case unOp op t x=>rw [zi (h x (by simp))]
 case convert s d x=>rw [zi (h x (by simp))]
 case makeInterface t x=>rw [zi (h x (by simp))]
 case typeAssert x xt t ok=>rw [zi (h x (by simp))]
 case makeFunc fn first captured =>
  split
  · rw [zdG _ (fun x hx=>h x (by simp at hx ⊢;exact .inl hx)),zdG _ (fun x hx=>h x (by simp at hx ⊢;exact .inr hx))]
  · rfl
 case makeSlice t l c =>
  split
  · rw [zi (h c (by simp)),zi (h _ (by simp))]
  · rw [zi (h c (by simp)),zi (h l (by simp))]
 case slice t x lo hi mx =>
  have e1:yd G env x=yd G env' x:=zi (h x (by simp))
  have e2:lo.map (yd G env)=lo.map (yd G env'):=by
   cases lo with | none=>rfl | some y=>simp only [Option.map_some];rw [zi (h y (by simp))]
  have e3:hi.map (yd G env)=hi.map (yd G env'):=by
   cases hi with | none=>rfl | some y=>simp only [Option.map_some];rw [zi (h y (by simp))]
  have e4:mx.map (yd G env)=mx.map (yd G env'):=by
   cases mx with | none=>rfl | some y=>simp only [Option.map_some];rw [zi (h y (by simp))]
  rw [e1,e2,e3,e4]
 case lookup t x i ok=>rw [zi (h x (by simp)),zi (h i (by simp))]
 case mapUpdate t x i y=>rw [zi (h x (by simp)),zi (h i (by simp)),yN (h y (by simp))]
 case insert t x i y=>rw [zi (h x (by simp)),zi (h i (by simp)),yN (h y (by simp))]
 case fieldAddr s x f=>rw [zi (h x (by simp))]
 case field s x f=>rw [zi (h x (by simp))]
 case indexAddr t x i=>rw [zi (h x (by simp)),zi (h i (by simp))]
 case index t x i=>rw [zi (h x (by simp)),zi (h i (by simp))]
 case extract x i=>rw [zi (h x (by simp))]
 case pick c x y=>rw [zi (h c (by simp)),yN (h x (by simp)),yN (h y (by simp))]
 case call c =>
  obtain⟨callee,args,ts⟩:=c
  cases callee with
  | value f =>
   simp only [Call.operands] at h;simp only [zbd];rw [zi (h f (by simp)),zdF _ _ (fun x hx=>h x (by simp at hx ⊢;exact .inr hx))]
  | builtin b =>
   simp only [Call.operands] at h;exact ze8 (fun x hx=>h x (by simpa using hx))
  | invoke r m=>rfl
end congr


section any
variable {C:Cx} {ops:Array Oper} {q:Nat → Bool} {Q:Env → Hp → Prop}

def opA (C:Cx) (ops:Array Oper) (quiet:Bool) (i:Nat) (K:Env → Hp → Prop) (env:Env) (H:Hp):Prop :=
 match ops[i]? with
 | none=>K env H
 | some o =>
  match zL C.nt ops o.guard env with
  | some true=>if quiet then ∃ x,aOp1 C o env H (fun x' H'=>x'=x∧H'=H)∧K (env.put o.dst x) H else aOp1 C o env H (fun x H'=>K (env.put o.dst x) H')
  | some false=>zA C.nt o.dst=true∧K (env.put o.dst (.tup [])) H
  | none=>False

def zgD (C:Cx) (ops:Array Oper) (q:Nat → Bool) (Q:Env → Hp → Prop):Nat → Array Bool → Env → Hp → Prop
 | 0,listed,env,H=>Region.ready .any ops listed=[]∧Q env H
 | fuel+1,listed,env,H=>(Region.ready .any ops listed=[] → Q env H) ∧
  ∀ i∈Region.ready .any ops listed,opA C ops (q i) i (zgD C ops q Q fuel (listed.setIfInBounds i true)) env H

theorem zbe {quiet:Bool} {i:Nat} {K K':Env → Hp → Prop} {env:Env} {H:Hp} (hk : ∀ env H,K env H → K' env H) (h:opA C ops quiet i K env H):opA C ops quiet i K' env H:=by
 unfold opA at *
 split
 · rename_i ho;simp only [ho] at h;exact hk _ _ h
 · rename_i o ho;simp only [ho] at h
   split
   · rename_i hw;simp only [hw] at h
     split
     · rename_i hq;rw [if_pos hq] at h;obtain⟨x,h1,h2⟩:=h;exact⟨x,h1,hk _ _ h2⟩
     · rename_i hq;rw [if_neg hq] at h;exact sOp.mono h fun x H' hh=>hk _ _ hh
   · rename_i hw;simp only [hw] at h;exact⟨h.1,hk _ _ h.2⟩
   · rename_i hw;simp only [hw] at h

theorem zac {n1 m:Nat} {ro:Option Nat} {R1:Exit → Act → World → Prop} : ∀ (fuel:Nat) (listed:Array Bool) (env:Env) (H:Hp) (σ:Gh) (w:World) (a:Act),zgD C ops q Q fuel listed env H → Rel C.G σ H w → RelF C.nt m σ H w env a → n1≤H.n →
 (∀ env' H' σ' w' a',Q env' H' → Rel C.G σ' H' w' → RelF C.nt m σ' H' w' env' a' → Ev n1 σ H w σ' H' w' → R1 .normal a' w') → wpAnyIn { Fence.wide with round:=ro } 0 C.P .any ops R1 fuel listed a w
 | 0,listed,env,H,σ,w,a,h,hr,hf,hn,hR=>⟨h.1,hR env H σ w a h.2 hr hf (Ev.refl hn)⟩
 | fuel+1,listed,env,H,σ,w,a,h,hr,hf,hn,hR=>by
  refine⟨fun h0=>hR env H σ w a (h.1 h0) hr hf (Ev.refl hn),fun i hi => ?_⟩
  have hi':=h.2 i hi;unfold opA at hi';unfold wpOpIn;split at hi'
  · rename_i ho;simp only [ho];exact zac fuel _ env H σ w a hi' hr hf hn hR
  · rename_i o ho;simp only [ho];split at hi'
    · rename_i hw;rw [if_pos (zcU hw hf rfl)]
      have h1:aOp1 C o env H (fun x H'=>zgD C ops q Q fuel (listed.setIfInBounds i true) (env.put o.dst x) H'):=by
       split at hi'
       · obtain⟨x,h1,h2⟩:=hi'
         exact sOp.mono h1 fun x' H' hh=>by rw [hh.1,hh.2];exact h2
       · exact hi'
      refine h1.wp hr hf fun x v H' σ' w' hk hd hrel hv hev => ?_
      exact zac fuel _ _ H' σ' w' _ hk hrel ((hf.mono hev).put hd hv) (Nat.le_trans hn hev.hn) fun env' H2 σ2 w2 a2 b1 b2 b3 b4=>hR env' H2 σ2 w2 a2 b1 b2 b3 (hev.trans b4 hn)
    · rename_i hw;rw [if_neg (by rw [zcU hw hf rfl];simp)]
      exact⟨fun f _=>trivial,zac fuel _ _ H σ w _ hi'.2 hr (hf.put (zaw hi'.1) (.tup #[] rfl (by simp))) hn hR⟩
    · exact hi'.elim

def YieldsA (C:Cx) (ops:Array Oper) (o:Oper) (env:Env) (H:Hp) (x:AV):Prop :=
 (zL C.nt ops o.guard env=some true∧aOp1 C o env H (fun x' H'=>x'=x∧H'=H)) ∨ (zL C.nt ops o.guard env=some false∧zA C.nt o.dst=true∧x = .tup [])

theorem YieldsA.opA {i:Nat} {o:Oper} {x:AV} {env:Env} {H:Hp} {K:Env → Hp → Prop} (hi:ops[i]? = some o) (hy:YieldsA C ops o env H x) (h:K (env.put o.dst x) H):opA C ops true i K env H:=by
 unfold Go.AL.opA;simp only [hi]
 rcases hy with ⟨hw,h1⟩ | ⟨hw,h1,rfl⟩
 · simp only [hw,if_true];exact⟨x,h1,h⟩
 · simp only [hw];exact⟨h1,h⟩

theorem put_ne {env:Env} {d:Option Nat} {x:AV} {t:Nat} (h : ∀ i,d=some i → i≠t):env.put d x t=env t:=by
 cases d with
 | none=>rfl
 | some i=>simp only [Env.put];rw [if_neg (Ne.symm (h i rfl))]

theorem put_comm {env:Env} {d e:Option Nat} {x y:AV} (h : ∀ i,d=some i → e≠some i):(env.put d x).put e y=(env.put e y).put d x:=by
 cases d with
 | none=>rfl
 | some i =>
  cases e with
  | none=>rfl
  | some j =>
   have:i≠j:=fun hh=>h i rfl (by rw [hh])
   funext t
   simp only [Env.put];by_cases h1:t=j
   · rw [if_pos h1,if_neg (by omega),if_pos h1]
   · rw [if_neg h1];by_cases h2:t=i
     · rw [if_pos h2,if_pos h2]
     · rw [if_neg h2,if_neg h2,if_neg h1]

theorem zbf {o:Oper} {env:Env} {d:Option Nat} {x:AV} (h : ∀ i,d=some i → i ∉ o.looksAt ops):zL C.nt ops o.guard (env.put d x)=zL C.nt ops o.guard env:=by
 unfold zL
 split
 · rfl
 · rename_i j yJ hg
   cases hd:(ops[j]?).bind (·.dst) with
   | none=>rfl
   | some t =>
    have:env.put d x t=env t:=put_ne fun i hi heq=>h i hi (by subst heq;simp [Oper.looksAt,hg,hd])
    simp only [this]

theorem zct {o:Oper} {env:Env} {H:Hp} {d:Option Nat} {x:AV} {K:AV → Hp → Prop} (h : ∀ i,d=some i → i ∉ o.looksAt ops):aOp1 C o (env.put d x) H K ↔ aOp1 C o env H K:=by
 unfold aOp1
 rw [zkn (env':=env) fun y hy t ht=>put_ne fun i hi heq=>h i hi (by
  subst heq;subst ht
  exact List.mem_append_left _ (List.mem_filterMap.2 ⟨.tmp i,by simpa using hy,rfl⟩))]

theorem YieldsA.put {o:Oper} {env:Env} {H:Hp} {x y:AV} {d:Option Nat} (h : ∀ i,d=some i → i ∉ o.looksAt ops) (hy:YieldsA C ops o env H x):YieldsA C ops o (env.put d y) H x:=by
 unfold YieldsA at *;rw [zbf h]
 rcases hy with ⟨h1,h2⟩ | h1
 · exact .inl ⟨h1,(zct h).2 h2⟩
 · exact .inr h1

theorem zko {j:Nat} {oi oj:Oper} {x:AV} {env:Env} {H:Hp} {K:Env → Hp → Prop} (hj:ops[j]? = some oj) (hap:oi.apart ops oj=true) (hy:YieldsA C ops oi env H x) (h:opA C ops true j K (env.put oi.dst x) H) :
 opA C ops true j (fun env' H'=>YieldsA C ops oi env' H' x∧K (env'.put oi.dst x) H') env H:=by
 obtain⟨h1,h2,h3⟩:=Oper.apart_spec hap
 unfold opA at *;simp only [hj] at *;rw [zbf h1] at h
 split
 · rename_i hw;simp only [hw,if_true] at h ⊢
   obtain⟨y,q1,q2⟩:=h
   exact⟨y,(zct h1).1 q1,hy.put h3,by rw [←put_comm h2];exact q2⟩
 · rename_i hw;simp only [hw] at h
   exact⟨h.1,hy.put h3,by rw [←put_comm h2];exact h.2⟩
 · rename_i hw;simp only [hw] at h

theorem zo6 {i:Nat} {oi:Oper} {x:AV} (hi:ops[i]? = some oi) (hqi:q i=true) (Wt:Nat → Prop) (hWt : ∀ j oj,ops[j]? = some oj → Wt j → ∃ e∈oj.after,Region.binds .any e=true∧(e.on=i ∨ Wt e.on)) : ∀ (fuel:Nat) (listed:Array Bool) (env:Env) (H:Hp),
 (∀ j,Wt j → listed.getD j true=false) →
 (∀ j oj,ops[j]? = some oj → j≠i → listed.getD j true=false → ¬Wt j → q j=true∧oi.apart ops oj=true) →
 i∈Region.ready .any ops listed → YieldsA C ops oi env H x → zgD C ops q Q fuel (listed.setIfInBounds i true) (env.put oi.dst x) H → zgD C ops q Q (fuel+1) listed env H:=by
 intro fuel
 induction fuel with
 | zero =>
  intro listed env H _ _ hr hy hh
  refine⟨fun h=>(by rw [h] at hr;cases hr),fun j hj => ?_⟩
  by_cases hji:j=i
  · subst hji;rw [hqi];exact hy.opA hi hh
  · have:=ready_mono hj hji
    rw [hh.1] at this
    cases this
 | succ fuel ih =>
  intro listed env H hun0 hfree hr hy hh
  refine⟨fun h=>(by rw [h] at hr;cases hr),fun j hj => ?_⟩
  by_cases hji:j=i
  · subst hji;rw [hqi];exact hy.opA hi hh
  · have h1:=hh.2 j (ready_mono hj hji)
    obtain⟨hjun,oj,hoj,hall⟩:=mem_ready.1 hj
    have hnot : ∀ e∈oj.after,Region.binds .any e=true → e.on≠i:=fun e he hb heq=>by
     have h1:=hall e he hb;have h0:=(mem_ready.1 hr).1;rw [heq] at h1
     rcases Nat.lt_or_ge i listed.size with h' | h'
     · simp [h'] at h0 h1;rw [h0] at h1;cases h1
     · simp [Array.getElem?_eq_none h'] at h1
    have hnw : ¬Wt j:=fun hw=>by
     obtain⟨e,he,hb,h | h⟩:=hWt j oj hoj hw
     · exact hnot e he hb h
     · have h1:=hall e he hb;have h0:=hun0 _ h
       rcases Nat.lt_or_ge e.on listed.size with h' | h'
       · simp [h'] at h0 h1;rw [h0] at h1;cases h1
       · simp [Array.getElem?_eq_none h'] at h1
    obtain⟨hqj,hap⟩:=hfree j oj hoj hji hjun hnw
    rw [hqj] at h1 ⊢;have h2:=zko hoj hap hy h1
    have hfree' : ∀ k ok,ops[k]? = some ok → k≠i → (listed.setIfInBounds j true).getD k true=false →
     ¬Wt k → q k=true∧oi.apart ops ok=true:=fun k ok hk hki hun hno=>by
     refine hfree k ok hk hki ?_ hno;by_cases hjk:j=k
     · subst hjk;exact hjun
     · rw [getD_set_ne true hjk] at hun;exact hun
    have hun' : ∀ k,Wt k → (listed.setIfInBounds j true).getD k true=false:=fun k hk=>by
     by_cases hjk:j=k
     · subst hjk;exact absurd hk hnw
     · rw [getD_set_ne true hjk];exact hun0 k hk
    refine zbe (fun env' H' h3=>ih (listed.setIfInBounds j true) env' H' hun' hfree' (ready_mono hr (Ne.symm hji)) h3.1 ?_) h2;rw [Array.setIfInBounds_comm _ _ hji];exact h3.2

def yG (ops:Array Oper) (listed:Array Bool) (i:Nat):Nat → Nat → Bool
 | 0,_=>false
 | f+1,j => !listed.getD j true && match ops[j]? with
  | some oj=>oj.after.any fun e=>Region.binds .any e && (e.on == i || yG ops listed i f e.on)
  | none=>false

def zcu (ops:Array Oper) (listed:Array Bool) (i:Nat):List Nat :=
 (List.range ops.size).foldl (fun acc j=>if !listed.getD j true && (match ops[j]? with
  | some oj=>oj.after.any fun e=>Region.binds .any e && (e.on == i || acc.contains e.on)
  | none=>false) then j :: acc else acc) []

theorem za7 {ops:Array Oper} {listed:Array Bool} {i j:Nat} (h:(zcu ops listed i).contains j=true) : ∃ f,yG ops listed i f j=true:=by
 have mono : ∀ f j,yG ops listed i f j=true → yG ops listed i (f+1) j=true:=by
  intro f
  induction f with
  | zero=>intro j h;cases h
  | succ f ih =>
   intro j h;unfold yG at h ⊢;simp only [Bool.and_eq_true] at h ⊢
   refine⟨h.1,?_⟩
   have h2:=h.2;split at h2
   · obtain⟨e,he,hb⟩:=Array.any_eq_true'.1 h2
     simp only [Bool.and_eq_true,Bool.or_eq_true] at hb;exact Array.any_eq_true'.2 ⟨e,he,by simp only [Bool.and_eq_true,Bool.or_eq_true];exact⟨hb.1,hb.2.imp id (ih _)⟩⟩
   · cases h2
 have key : ∀ (l:List Nat) (acc:List Nat),(∀ j∈acc,∃ f,yG ops listed i f j=true) → ∀ j∈l.foldl (fun acc j=>if !listed.getD j true && (match ops[j]? with
  | some oj=>oj.after.any fun e=>Region.binds .any e && (e.on == i || acc.contains e.on)
  | none=>false) then j :: acc else acc) acc,∃ f,yG ops listed i f j=true:=by
  intro l
  induction l with
  | nil=>exact fun acc h=>h
  | cons a l ih =>
   intro acc hacc;rw [List.foldl_cons];refine ih _ ?_
   by_cases hc:(!listed.getD a true && (match ops[a]? with
    | some oj=>oj.after.any fun e=>Region.binds .any e && (e.on == i || acc.contains e.on)
    | none=>false))=true
   · rw [if_pos hc];intro j hj
     rcases List.mem_cons.1 hj with rfl | hj
     · simp only [Bool.and_eq_true] at hc
       obtain⟨h1,h2⟩:=hc
       split at h2
       · rename_i oj hoj
         obtain⟨e,he,hb⟩:=Array.any_eq_true'.1 h2
         simp only [Bool.and_eq_true,Bool.or_eq_true] at hb
         rcases hb.2 with h3 | h3
         · refine⟨1,?_⟩
           unfold yG;simp only [Bool.and_eq_true]
           refine⟨h1,?_⟩
           simp only [hoj];exact Array.any_eq_true'.2 ⟨e,he,by simp only [Bool.and_eq_true,Bool.or_eq_true];exact⟨hb.1,.inl h3⟩⟩
         · obtain⟨f,hf⟩:=hacc e.on (by simpa using h3)
           refine⟨f+1,?_⟩
           unfold yG;simp only [Bool.and_eq_true]
           refine⟨h1,?_⟩
           simp only [hoj];exact Array.any_eq_true'.2 ⟨e,he,by simp only [Bool.and_eq_true,Bool.or_eq_true];exact⟨hb.1,.inr hf⟩⟩
       · cases h2
     · exact hacc j hj
   · rw [if_neg hc];exact hacc
 exact key _ [] (by simp) j (by simpa [zcu] using h)

def zxH (q:Nat → Bool) (ops:Array Oper) (listed:Array Bool) (i:Nat):Bool :=
 match ops[i]? with
 | none=>false
 | some oi=>(List.range ops.size).all fun j=>j == i || listed.getD j true || match ops[j]? with
  | some oj=>oj.after.any (fun e=>Region.binds .any e && e.on == i) || (q j && oi.apart ops oj) || (zcu ops listed i).contains j
  | none=>true

def Waits (ops:Array Oper) (listed:Array Bool) (i j:Nat):Prop := ∃ f,yG ops listed i f j=true

theorem Waits.edge {i j:Nat} {oj:Oper} {listed:Array Bool} (hj:ops[j]? = some oj) (h:Waits ops listed i j) : ∃ e∈oj.after,Region.binds .any e=true∧(e.on=i ∨ Waits ops listed i e.on):=by
 obtain⟨f,h⟩:=h
 cases f with
 | zero=>cases h
 | succ f =>
  simp only [yG,hj,Bool.and_eq_true] at h
  obtain⟨e,he,hb⟩:=Array.any_eq_true'.1 h.2
  simp only [Bool.and_eq_true,Bool.or_eq_true,beq_iff_eq] at hb
  exact⟨e,he,hb.1,hb.2.imp id fun h=>⟨f,h⟩⟩

theorem Waits.unlisted {i j:Nat} {listed:Array Bool} (h:Waits ops listed i j):listed.getD j true=false:=by
 obtain⟨f,h⟩:=h
 cases f with
 | zero=>cases h
 | succ f=>simp only [yG,Bool.and_eq_true,Bool.not_eq_true'] at h;exact h.1

theorem zo7 {i:Nat} {oi:Oper} {listed:Array Bool} (hi:ops[i]? = some oi) (h:zxH q ops listed i=true) (j:Nat) (oj:Oper)
 (hj:ops[j]? = some oj) (hne:j≠i) (hun:listed.getD j true=false) (hno : ¬Waits ops listed i j):q j=true∧oi.apart ops oj=true:=by
 simp only [zxH,hi,List.all_eq_true,List.mem_range] at h;have h1:=h j (Array.getElem?_eq_some_iff.1 hj).1;simp only [hj,Bool.or_eq_true,beq_iff_eq,hne,false_or,hun,Bool.false_eq_true,Bool.and_eq_true] at h1
 rcases h1 with (h1 | h1) | h1
 · refine absurd ⟨1,?_⟩ hno
   obtain⟨e,he,hb⟩:=Array.any_eq_true'.1 h1
   simp only [Bool.and_eq_true,beq_iff_eq] at hb;simp only [yG,hun,hj,Bool.not_false,Bool.true_and];exact Array.any_eq_true'.2 ⟨e,he,by simp [hb.1,hb.2]⟩
 · exact h1
 · exact absurd (za7 h1) hno

def ztu (q:Nat → Bool) (ops:Array Oper):Nat → Nat → Array Bool → Bool
 | 0,_,listed=>(Region.ready .any ops listed).isEmpty
 | fuel+1,k,listed=>(Region.ready .any ops listed).contains k && (if q k then zxH q ops listed k else Region.ready .any ops listed == [k]) && ztu q ops fuel (k+1) (listed.setIfInBounds k true)

def ze9 (C:Cx) (ops:Array Oper) (q:Nat → Bool) (Q:Env → Hp → Prop):Nat → List Oper → Env → Hp → Prop
 | _,[],env,H=>Q env H
 | k,_ :: l,env,H=>opA C ops (q k) k (ze9 C ops q Q (k+1) l) env H

theorem zht : ∀ (l:List Oper) (k:Nat) (listed:Array Bool) (env:Env) (H:Hp),(∀ j,l[j]? = ops[k+j]?) → ztu q ops l.length k listed=true → ze9 C ops q Q k l env H → zgD C ops q Q l.length listed env H
 | [],_,_,_,_,_,hB,h=>⟨by simpa [ztu] using hB,h⟩
 | o :: l,k,listed,env,H,hl,hB,h=>by
  have h0:ops[k]? = some o:=by simpa using (hl 0).symm
  have hl' : ∀ j,l[j]? = ops[k+1+j]? := fun j=>by have:=hl (j+1);simpa [Nat.add_assoc,Nat.add_comm 1 j] using this
  simp only [List.length_cons,ztu,Bool.and_eq_true] at hB
  obtain⟨⟨hr,hf⟩,hB'⟩:=hB
  simp only [ze9] at h;by_cases hq:q k=true
  · rw [if_pos hq] at hf;rw [hq] at h
    have : ∃ x,YieldsA C ops o env H x∧ze9 C ops q Q (k+1) l (env.put o.dst x) H:=by
     unfold opA at h;simp only [h0] at h;split at h
     · rename_i hw;simp only [if_true] at h;obtain⟨x,h1,h2⟩:=h;exact⟨x,.inl ⟨hw,h1⟩,h2⟩
     · rename_i hw;exact⟨.tup [],.inr ⟨hw,h.1,rfl⟩,h.2⟩
     · exact h.elim
    obtain⟨x,hy,hK⟩:=this
    exact zo6 h0 hq (Waits ops listed k) (fun j oj hj hw=>hw.edge hj) l.length listed env H (fun j hw=>hw.unlisted) (zo7 h0 hf) (by simpa using hr) hy (zht l (k+1) _ _ _ hl' hB' hK)
  · rw [if_neg hq] at hf
    have hrd:Region.ready .any ops listed=[k]:=by simpa using hf
    refine⟨fun h0=>(by rw [hrd] at h0;cases h0),fun i hi => ?_⟩
    rw [hrd] at hi;simp only [List.mem_singleton] at hi;subst hi;exact zbe (fun env' H' hh=>zht l (i+1) _ _ _ hl' hB' hh) h
end any

section draw
variable {C:Cx} {k:List Item} {env:Env} {H:Hp} {R:AV → Hp → Prop}


theorem ARun.draw {id:Nat} {l:List Oper} (q:Nat → Bool) (hm:C.P.follows .mixedOrders=true) (hB:ztu q l.toArray l.length 0 (Array.replicate l.length false)=true)
 (h:ze9 C l.toArray q (fun env' H'=>ARun C k env' H' R) 0 l env H):ARun C (.code (.region id l.toArray true) :: k) env H R :=
 .of_wp fun σ w a m hpre=>by
  obtain⟨g1,g2⟩:=zdt hpre.rel
  have:=zht (C:=C) (ops:=l.toArray) (Q:=fun env' H'=>ARun C k env' H' R) l 0 (Array.replicate l.length false) env H (by simp) hB h
  refine wpIn_region_any hm ?_;rw [List.size_toArray]
  exact zac (m:=m) l.length _ env H σ w.drew a this g1 (hpre.fr.mono g2) (Nat.le_refl _) fun env' H' σ' w' a' b1 b2 b3 b4=>⟨rfl,env',H',σ',b1,hpre.go b2 b3 (g2.trans b4 (Nat.le_refl _)),g2.trans b4 (Nat.le_refl _)⟩
end draw

end Go.AL

namespace Go.AL
open Go

def i64 (n:Int):PV := .s (.int .i64 n)
def bo (b:Bool):PV := .s (.bool b)
@[reducible] def str (s:ByteArray):PV := .s (.string s)
def b8 (x:BitVec 8):PV := .s (.int .u8 x.toNat)
def w16 (x:BitVec 16):PV := .s (.int .u16 x.toNat)
def w32 (x:BitVec 32):PV := .s (.int .u32 x.toNat)
def zg (x:BitVec 64):PV := .s (.int .u64 x.toNat)

theorem zfa {n:Int} (h1 : -9223372036854775808≤n) (h2:n≤9223372036854775807):IntKind.i64.wrap n=n:=by rw [IntKind.wrap_i64];omega


theorem zl0 {w:Nat} (x:BitVec w):BitVec.ofInt w (x.toNat:Int)=x:=by simp


theorem zpa {w:Nat} (x:BitVec w) (n:Nat):(x.toNat:Int).fdiv (2 ^ min n w)=((x >>> n).toNat:Int):=by
 have h:x.toNat / 2 ^ min n w=(x >>> n).toNat:=by
  rw [BitVec.toNat_ushiftRight,Nat.shiftRight_eq_div_pow]
  rcases Nat.le_total n w with h | h
  · rw [Nat.min_eq_left h]
  · rw [Nat.min_eq_right h,Nat.div_eq_of_lt x.isLt,Nat.div_eq_of_lt];exact Nat.lt_of_lt_of_le x.isLt (Nat.pow_le_pow_right (by omega) h)
 rw [Int.fdiv_eq_ediv_of_nonneg _ (Int.pow_nonneg (by decide)),←h]
 norm_cast

theorem ztv (n:Int):(i64 n).cells=[i64 n]:=rfl
theorem zxI (n:Int):(i64 n).weak=i64 n:=rfl
theorem ztw (n:Int):(i64 n).weak1=i64 n:=rfl
theorem zpb (n:Int):zh (.p (i64 n))=some [.p (i64 n)]:=rfl
theorem ztx (n:Int):(i64 n).isAgg=false:=rfl
theorem zpc (n:Int):zbt false [.p (i64 n)]=some (i64 n):=rfl
theorem zpd (n:Int):(AV.p (i64 n)).isAggV=false:=rfl
theorem zxJ (b:Bool):(bo b).cells=[bo b]:=rfl
theorem zr9 (b:Bool):(bo b).weak=bo b:=rfl
theorem zxK (b:Bool):(bo b).weak1=bo b:=rfl
theorem zty (b:Bool):zh (.p (bo b))=some [.p (bo b)]:=rfl
theorem zxL (b:Bool):(bo b).isAgg=false:=rfl
theorem ztz (b:Bool):zbt false [.p (bo b)]=some (bo b):=rfl
theorem ztA (b:Bool):(AV.p (bo b)).isAggV=false:=rfl
theorem ztB (s:ByteArray):(str s).cells=[str s]:=rfl
theorem zxM (s:ByteArray):(str s).weak=str s:=rfl
theorem ztC (s:ByteArray):(str s).weak1=str s:=rfl
theorem zpe (s:ByteArray):zh (.p (str s))=some [.p (str s)]:=rfl
theorem ztD (s:ByteArray):(str s).isAgg=false:=rfl
theorem zpf (s:ByteArray):zbt false [.p (str s)]=some (str s):=rfl
theorem zpg (s:ByteArray):(AV.p (str s)).isAggV=false:=rfl
theorem zxN (x:BitVec 8):(b8 x).cells=[b8 x]:=rfl
theorem zCj (x:BitVec 8):(b8 x).weak=b8 x:=rfl
theorem zxO (x:BitVec 8):(b8 x).weak1=b8 x:=rfl
theorem ztE (x:BitVec 8):zh (.p (b8 x))=some [.p (b8 x)]:=rfl
theorem zxP (x:BitVec 8):(b8 x).isAgg=false:=rfl
theorem ztF (x:BitVec 8):zbt false [.p (b8 x)]=some (b8 x):=rfl
theorem ztG (x:BitVec 8):(AV.p (b8 x)).isAggV=false:=rfl
theorem ztH (x:BitVec 16):(w16 x).cells=[w16 x]:=rfl
theorem zxQ (x:BitVec 16):(w16 x).weak=w16 x:=rfl
theorem ztI (x:BitVec 16):(w16 x).weak1=w16 x:=rfl
theorem zph (x:BitVec 16):zh (.p (w16 x))=some [.p (w16 x)]:=rfl
theorem ztJ (x:BitVec 16):(w16 x).isAgg=false:=rfl
theorem zpi (x:BitVec 16):zbt false [.p (w16 x)]=some (w16 x):=rfl
theorem zpj (x:BitVec 16):(AV.p (w16 x)).isAggV=false:=rfl
theorem ztK (x:BitVec 32):(w32 x).cells=[w32 x]:=rfl
theorem zxR (x:BitVec 32):(w32 x).weak=w32 x:=rfl
theorem ztL (x:BitVec 32):(w32 x).weak1=w32 x:=rfl
theorem zpk (x:BitVec 32):zh (.p (w32 x))=some [.p (w32 x)]:=rfl
theorem ztM (x:BitVec 32):(w32 x).isAgg=false:=rfl
theorem zpl (x:BitVec 32):zbt false [.p (w32 x)]=some (w32 x):=rfl
theorem zpm (x:BitVec 32):(AV.p (w32 x)).isAggV=false:=rfl
theorem ztN (x:BitVec 64):(zg x).cells=[zg x]:=rfl
theorem zxS (x:BitVec 64):(zg x).weak=zg x:=rfl
theorem ztO (x:BitVec 64):(zg x).weak1=zg x:=rfl
theorem zpn (x:BitVec 64):zh (.p (zg x))=some [.p (zg x)]:=rfl
theorem ztP (x:BitVec 64):(zg x).isAgg=false:=rfl
theorem zpo (x:BitVec 64):zbt false [.p (zg x)]=some (zg x):=rfl
theorem zpp (x:BitVec 64):(AV.p (zg x)).isAggV=false:=rfl
theorem zCk (n:Int):(AV.p (i64 n)).int? = some n:=rfl
theorem zED (x:BitVec 8):(AV.p (b8 x)).int? = some (x.toNat:Int):=rfl
theorem zCl (x:BitVec 16):(AV.p (w16 x)).int? = some (x.toNat:Int):=rfl
theorem zCm (x:BitVec 32):(AV.p (w32 x)).int? = some (x.toNat:Int):=rfl
theorem zCn (x:BitVec 64):(AV.p (zg x)).int? = some (x.toNat:Int):=rfl
theorem zpq (n:Int):yq (.int .i64 n) = .p (i64 n):=rfl
theorem ztQ (b:Bool):yq (.bool b) = .p (bo b):=rfl
theorem zpr (s:ByteArray):yq (.string s) = .p (str s):=rfl
theorem ztR (n:Int) (h0:0≤n) (h1:n < 256):yq (.int .u8 n) = .p (b8 (BitVec.ofInt 8 n)):=by
 have:((BitVec.ofInt 8 n).toNat:Int)=n:=by rw [BitVec.toNat_ofInt];simp only [Int.reducePow,Nat.reducePow,Int.cast_ofNat_Int];omega
 unfold yq b8;rw [this]
theorem zps (n:Int) (h0:0≤n) (h1:n < 18446744073709551616):yq (.int .u64 n) = .p (zg (BitVec.ofInt 64 n)):=by
 have:((BitVec.ofInt 64 n).toNat:Int)=n:=by rw [BitVec.toNat_ofInt];simp only [Int.reducePow,Nat.reducePow,Int.cast_ofNat_Int];omega
 unfold yq zg;rw [this]
theorem zhu (P:Program) (t:TypeId) (x y:BitVec 8) (hy:y≠0#8):zx P .quo t (.p (b8 x)) (.p (b8 y))=some (.p (b8 (x / y))):=by
 simp only [zx,b8,yV,zG,zaV,Bool.false_eq_true,if_false,if_true,Option.map_some]
 have hn : ¬ ((y.toNat:Int)=0):=fun h=>hy (BitVec.eq_of_toNat_eq (by simpa using h))
 rw [if_neg hn]
 have h:IntKind.u8.wrap ((x.toNat:Int).tdiv y.toNat)=((x / y).toNat:Int):=by
  rw [IntKind.wrap_u8,Int.tdiv_eq_ediv_of_nonneg (by omega),BitVec.toNat_udiv];have h1:x.toNat / y.toNat≤x.toNat:=Nat.div_le_self _ _;have h2:=x.isLt;simp only [Nat.reducePow] at h2;rw [←Int.natCast_ediv]
  generalize x.toNat / y.toNat=q at *
  omega
 rw [h,Option.map_some]
theorem zbS (P:Program) (t:TypeId) (x y:BitVec 8) (hy:y≠0#8):zx P .rem t (.p (b8 x)) (.p (b8 y))=some (.p (b8 (x % y))):=by
 simp only [zx,b8,yV,zG,zaV,Bool.false_eq_true,if_false,if_true,Option.map_some]
 have hn : ¬ ((y.toNat:Int)=0):=fun h=>hy (BitVec.eq_of_toNat_eq (by simpa using h))
 rw [if_neg hn]
 have h:((x.toNat:Int).tmod y.toNat)=((x % y).toNat:Int):=by
  rw [Int.tmod_eq_emod_of_nonneg (by omega),BitVec.toNat_umod,Int.natCast_emod]
 rw [h,Option.map_some]
theorem zdH (P:Program) (t:TypeId) (x:BitVec 8) (y:BitVec 64):zx P .shr t (.p (b8 x)) (.p (zg y))=some (.p (b8 (x >>> y.toNat))):=by
 simp only [zx,b8,zg,yV,zG,zdv,if_true];rw [if_neg (by omega)];simp only [Option.map_some];rw [Int.toNat_natCast]
 have:=zpa x y.toNat
 exact congrArg (fun n=>some (AV.p (PV.s (Value.int IntKind.u8 n)))) this
theorem zl1 (P:Program) (t:TypeId) (x y:BitVec 64):zx P .add t (.p (zg x)) (.p (zg y))=some (.p (zg (x+y))):=by
 simp only [zx,zg,yV,zG,zaV,Bool.false_eq_true,if_false,if_true,Option.map_some]
 have h:((x.toNat:Int)+y.toNat) % 18446744073709551616=((x+y).toNat:Int):=by
  rw [BitVec.toNat_add];simp only [Nat.reducePow];omega
 rw [IntKind.wrap_u64,h]
theorem zl2 (P:Program) (t:TypeId) (x y:BitVec 64):zx P .sub t (.p (zg x)) (.p (zg y))=some (.p (zg (x - y))):=by
 simp only [zx,zg,yV,zG,zaV,Bool.false_eq_true,if_false,if_true,Option.map_some]
 have h:((x.toNat:Int) - y.toNat) % 18446744073709551616=((x - y).toNat:Int):=by
  rw [BitVec.toNat_sub];have:=x.isLt;have:=y.isLt;simp only [Nat.reducePow] at *;omega
 rw [IntKind.wrap_u64,h]
theorem zl3 (P:Program) (t:TypeId) (x y:BitVec 64):zx P .mul t (.p (zg x)) (.p (zg y))=some (.p (zg (x*y))):=by
 simp only [zx,zg,yV,zG,zaV,Bool.false_eq_true,if_false,if_true,Option.map_some]
 have h:((x.toNat:Int)*y.toNat) % 18446744073709551616=((x*y).toNat:Int):=by
  rw [BitVec.toNat_mul,Int.natCast_emod,Int.natCast_mul];rfl
 rw [IntKind.wrap_u64,h]
theorem zl4 (P:Program) (t:TypeId) (x y:BitVec 64):zx P .and t (.p (zg x)) (.p (zg y))=some (.p (zg (x &&& y))):=by
 simp only [zx,zg,yV,zG,zaV,Bool.false_eq_true,if_false,if_true,Option.map_some]
 have h:IntKind.u64.wrap (((x &&& y).toNat:Nat):Int)=(((x &&& y).toNat:Nat):Int):=by
  rw [IntKind.wrap_u64];have:=(x &&& y).isLt;simp only [Nat.reducePow] at this;omega
 have h1:BitVec.ofInt IntKind.u64.bits (x.toNat:Int)=x:=zl0 x;have h2:BitVec.ofInt IntKind.u64.bits (y.toNat:Int)=y:=zl0 y;rw [h1,h2];exact congrArg (fun n=>some (AV.p (PV.s (Value.int IntKind.u64 n)))) h
theorem zl5 (P:Program) (t:TypeId) (x y:BitVec 64):zx P .eql t (.p (zg x)) (.p (zg y))=some (.p (bo (x == y))):=by
 simp only [zx,zg,yV,zG,zaV,Bool.false_eq_true,if_false,if_true,Option.map_some]
 have h:((x.toNat:Int) == (y.toNat:Int))=(x == y):=by
  rw [Bool.eq_iff_iff];simp only [beq_iff_eq,Int.ofNat_inj];exact BitVec.toNat_inj
 simp only [bo,bne,h]
theorem zl6 (P:Program) (t:TypeId) (x y:BitVec 64):zx P .neq t (.p (zg x)) (.p (zg y))=some (.p (bo (x != y))):=by
 simp only [zx,zg,yV,zG,zaV,Bool.false_eq_true,if_false,if_true,Option.map_some]
 have h:((x.toNat:Int) == (y.toNat:Int))=(x == y):=by
  rw [Bool.eq_iff_iff];simp only [beq_iff_eq,Int.ofNat_inj];exact BitVec.toNat_inj
 simp only [bo,bne,h]
theorem zl7 (P:Program) (t:TypeId) (x y:BitVec 64):zx P .lss t (.p (zg x)) (.p (zg y))=some (.p (bo (decide (x < y)))):=by
 simp only [zx,zg,yV,zG,zaV,Bool.false_eq_true,if_false,if_true,Option.map_some];simp only [bo,BitVec.lt_def,BitVec.le_def,gt_iff_lt,ge_iff_le,Int.ofNat_lt,Int.ofNat_le]
theorem zl8 (P:Program) (t:TypeId) (x y:BitVec 64):zx P .gtr t (.p (zg x)) (.p (zg y))=some (.p (bo (decide (y < x)))):=by
 simp only [zx,zg,yV,zG,zaV,Bool.false_eq_true,if_false,if_true,Option.map_some];simp only [bo,BitVec.lt_def,BitVec.le_def,gt_iff_lt,ge_iff_le,Int.ofNat_lt,Int.ofNat_le]
theorem zl9 (P:Program) (t:TypeId) (x y:BitVec 64):zx P .geq t (.p (zg x)) (.p (zg y))=some (.p (bo (decide (y≤x)))):=by
 simp only [zx,zg,yV,zG,zaV,Bool.false_eq_true,if_false,if_true,Option.map_some];simp only [bo,BitVec.lt_def,BitVec.le_def,gt_iff_lt,ge_iff_le,Int.ofNat_lt,Int.ofNat_le]
theorem zma (P:Program) (t:TypeId) (x y:BitVec 64) (hy:y≠0#64):zx P .quo t (.p (zg x)) (.p (zg y))=some (.p (zg (x / y))):=by
 simp only [zx,zg,yV,zG,zaV,Bool.false_eq_true,if_false,if_true,Option.map_some]
 have hn : ¬ ((y.toNat:Int)=0):=fun h=>hy (BitVec.eq_of_toNat_eq (by simpa using h))
 rw [if_neg hn]
 have h:IntKind.u64.wrap ((x.toNat:Int).tdiv y.toNat)=((x / y).toNat:Int):=by
  rw [IntKind.wrap_u64,Int.tdiv_eq_ediv_of_nonneg (by omega),BitVec.toNat_udiv];have h1:x.toNat / y.toNat≤x.toNat:=Nat.div_le_self _ _;have h2:=x.isLt;simp only [Nat.reducePow] at h2;rw [←Int.natCast_ediv]
  generalize x.toNat / y.toNat=q at *
  omega
 rw [h,Option.map_some]
theorem zmb (P:Program) (t:TypeId) (x y:BitVec 64) (hy:y≠0#64):zx P .rem t (.p (zg x)) (.p (zg y))=some (.p (zg (x % y))):=by
 simp only [zx,zg,yV,zG,zaV,Bool.false_eq_true,if_false,if_true,Option.map_some]
 have hn : ¬ ((y.toNat:Int)=0):=fun h=>hy (BitVec.eq_of_toNat_eq (by simpa using h))
 rw [if_neg hn]
 have h:((x.toNat:Int).tmod y.toNat)=((x % y).toNat:Int):=by
  rw [Int.tmod_eq_emod_of_nonneg (by omega),BitVec.toNat_umod,Int.natCast_emod]
 rw [h,Option.map_some]
theorem zgE (P:Program) (t:TypeId) (x:BitVec 64) (n:Int) (hn:0≤n):zx P .shr t (.p (zg x)) (.p (i64 n))=some (.p (zg (x >>> n.toNat))):=by
 simp only [zx,zg,i64,yV,zG,zdv,if_true];rw [if_neg (by omega)];simp only [Option.map_some]
 have:=zpa x n.toNat
 exact congrArg (fun n=>some (AV.p (PV.s (Value.int IntKind.u64 n)))) this
theorem zgF (P:Program) (t:TypeId) (x:BitVec 64) (y:BitVec 64):zx P .shr t (.p (zg x)) (.p (zg y))=some (.p (zg (x >>> y.toNat))):=by
 simp only [zx,zg,zg,yV,zG,zdv,if_true];rw [if_neg (by omega)];simp only [Option.map_some];rw [Int.toNat_natCast]
 have:=zpa x y.toNat
 exact congrArg (fun n=>some (AV.p (PV.s (Value.int IntKind.u64 n)))) this
theorem zpt (x:BitVec 64):aUn .neg (.p (zg x))=some (.p (zg (-x))):=by
 simp only [aUn,zg,vUn,Option.map_some]
 have h:IntKind.u64.wrap (0 - (x.toNat:Int))=((-x).toNat:Int):=by
  rw [IntKind.wrap_u64,BitVec.toNat_neg];have:=x.isLt;simp only [Nat.reducePow] at *;omega
 rw [h]
theorem zmc (P:Program) (t:TypeId) (x y:Int):zx P .add t (.p (i64 x)) (.p (i64 y))=some (.p (i64 (IntKind.i64.wrap (x+y)))):=by simp only [zx,i64,yV,zG,zaV,Bool.false_eq_true,if_false,if_true,Option.map_some,bo,gt_iff_lt,ge_iff_le]
theorem zmd (P:Program) (t:TypeId) (x y:Int):zx P .sub t (.p (i64 x)) (.p (i64 y))=some (.p (i64 (IntKind.i64.wrap (x - y)))):=by simp only [zx,i64,yV,zG,zaV,Bool.false_eq_true,if_false,if_true,Option.map_some,bo,gt_iff_lt,ge_iff_le]
theorem zme (P:Program) (t:TypeId) (x y:Int):zx P .mul t (.p (i64 x)) (.p (i64 y))=some (.p (i64 (IntKind.i64.wrap (x*y)))):=by simp only [zx,i64,yV,zG,zaV,Bool.false_eq_true,if_false,if_true,Option.map_some,bo,gt_iff_lt,ge_iff_le]
theorem zmf (P:Program) (t:TypeId) (x y:Int):zx P .eql t (.p (i64 x)) (.p (i64 y))=some (.p (bo (x == y))):=by simp only [zx,i64,yV,zG,zaV,Bool.false_eq_true,if_false,if_true,Option.map_some,bo,gt_iff_lt,ge_iff_le]
theorem zmg (P:Program) (t:TypeId) (x y:Int):zx P .neq t (.p (i64 x)) (.p (i64 y))=some (.p (bo (x != y))):=by simp only [zx,i64,yV,zG,zaV,Bool.false_eq_true,if_false,if_true,Option.map_some,bo,gt_iff_lt,ge_iff_le]
theorem zmh (P:Program) (t:TypeId) (x y:Int):zx P .lss t (.p (i64 x)) (.p (i64 y))=some (.p (bo (decide (x < y)))):=by simp only [zx,i64,yV,zG,zaV,Bool.false_eq_true,if_false,if_true,Option.map_some,bo,gt_iff_lt,ge_iff_le]
theorem zmi (P:Program) (t:TypeId) (x y:Int):zx P .leq t (.p (i64 x)) (.p (i64 y))=some (.p (bo (decide (x≤y)))):=by simp only [zx,i64,yV,zG,zaV,Bool.false_eq_true,if_false,if_true,Option.map_some,bo,gt_iff_lt,ge_iff_le]
theorem zmj (P:Program) (t:TypeId) (x y:Int):zx P .gtr t (.p (i64 x)) (.p (i64 y))=some (.p (bo (decide (y < x)))):=by simp only [zx,i64,yV,zG,zaV,Bool.false_eq_true,if_false,if_true,Option.map_some,bo,gt_iff_lt,ge_iff_le]
theorem zmk (P:Program) (t:TypeId) (x y:Int):zx P .geq t (.p (i64 x)) (.p (i64 y))=some (.p (bo (decide (y≤x)))):=by simp only [zx,i64,yV,zG,zaV,Bool.false_eq_true,if_false,if_true,Option.map_some,bo,gt_iff_lt,ge_iff_le]
theorem zml (P:Program) (t:TypeId) (x y:Int) (hx:0≤x) (hy:0 < y) (hb:x≤9223372036854775807):zx P .quo t (.p (i64 x)) (.p (i64 y))=some (.p (i64 (x / y))):=by
 simp only [zx,i64,yV,zG,zaV,Bool.false_eq_true,if_false,if_true];rw [if_neg (by omega),Int.tdiv_eq_ediv_of_nonneg hx];have h1:x / y≤x:=Int.ediv_le_self _ hx;have h2:0≤x / y:=Int.ediv_nonneg hx (by omega);rw [zfa (by omega) (by omega),Option.map_some]
theorem zmm (P:Program) (t:TypeId) (x y:Int) (hx:0≤x) (hy:0 < y):zx P .rem t (.p (i64 x)) (.p (i64 y))=some (.p (i64 (x % y))):=by
 simp only [zx,i64,yV,zG,zaV,Bool.false_eq_true,if_false,if_true];rw [if_neg (by omega),Int.tmod_eq_emod_of_nonneg hx,Option.map_some]
theorem zmn (P:Program) (t:TypeId) (x y:Int) (hy:0≤y) (h63:y≤63):zx P .shl t (.p (i64 x)) (.p (i64 y))=some (.p (i64 (IntKind.i64.wrap (x*2 ^ y.toNat)))):=by
 have hm:min y.toNat IntKind.i64.bits=y.toNat:=by simp only [IntKind.bits];omega
 simp only [zx,i64,yV,zG,zdv,if_true,hm];rw [if_neg (by omega)];rfl
theorem zmo (P:Program) (t:TypeId) (x y:Int) (hy:0≤y) (h63:y≤63):zx P .shr t (.p (i64 x)) (.p (i64 y))=some (.p (i64 (x / 2 ^ y.toNat))):=by
 have hm:min y.toNat IntKind.i64.bits=y.toNat:=by simp only [IntKind.bits];omega
 simp only [zx,i64,yV,zG,zdv,if_true,hm];rw [if_neg (by omega)];simp only [Option.map_some,Int.fdiv_eq_ediv_of_nonneg _ (Int.pow_nonneg (by decide:(0:Int)≤2))]
theorem zpu (x:Int):aUn .neg (.p (i64 x))=some (.p (i64 (IntKind.i64.wrap (0 - x)))):=rfl
theorem ztS (b:Bool):aUn .not (.p (bo b))=some (.p (bo (!b))):=rfl
theorem zmp (P:Program) (t:TypeId) (x y:ByteArray):zx P .eql t (.p (str x)) (.p (str y))=some (.p (bo (x.toList == y.toList))):=rfl
theorem zmq (P:Program) (t:TypeId) (x y:ByteArray):zx P .neq t (.p (str x)) (.p (str y))=some (.p (bo (!(x.toList == y.toList)))):=rfl
theorem zpv (P:Program) (t:TypeId) (x y:Bool) (h:isBool P t=true):zx P .neq t (.p (bo x)) (.p (bo y))=some (.p (bo (!(x == y)))):=by simp only [zx,bo,yV,h,if_true,Option.map_some]

def zcW (P:Program) (t:TypeId):Bool:=match P.underlying t with | some (.int _)=>true | _=>false
theorem zeJ {P:Program} {t:TypeId} (h:zcW P t=true) : ∃ k,P.underlying t=some (.int k):=by
 unfold zcW at h;split at h
 · rename_i k hk;exact⟨k,hk⟩
 · cases h

theorem zmr (P:Program) (H:Hp) (s d:TypeId) (x:BitVec 8) (hs:zcW P s=true) (hd:P.underlying d=some (.int .i64)):zdn P H s d (.p (b8 x))=some (.p (i64 (IntKind.i64.wrap x.toNat))):=by
 obtain⟨k,hk⟩:=zeJ hs
 simp only [zdn,hk,hd,Option.isSome_some,if_true,b8,zge,Option.map_some,i64]
theorem zkp (P:Program) (H:Hp) (s d:TypeId) (x:BitVec 64) (hs:zcW P s=true) (hd:P.underlying d=some (.int .i64)):zdn P H s d (.p (zg x))=some (.p (i64 (IntKind.i64.wrap x.toNat))):=by
 obtain⟨k,hk⟩:=zeJ hs
 simp only [zdn,hk,hd,Option.isSome_some,if_true,zg,zge,Option.map_some,i64]
theorem zkq (P:Program) (H:Hp) (s d:TypeId) (x:Int) (hs:zcW P s=true) (hd:P.underlying d=some (.int .u64)):zdn P H s d (.p (i64 x))=some (.p (zg (BitVec.ofInt 64 x))):=by
 obtain⟨k,hk⟩:=zeJ hs
 have h:(x % 18446744073709551616)=((BitVec.ofInt 64 x).toNat:Int):=by rw [BitVec.toNat_ofInt];simp only [Nat.reducePow,Int.cast_ofNat_Int];omega
 simp only [zdn,hk,hd,Option.isSome_some,if_true,i64,zge,Option.map_some,IntKind.wrap_u64,h,zg]
theorem zhv (x y:Int):zch false (.p (i64 x)) (.p (i64 y))=some (.p (i64 (min x y))):=rfl
theorem zhw (x y:Int):zch true (.p (i64 x)) (.p (i64 y))=some (.p (i64 (max x y))):=rfl

end Go.AL

namespace Go.AL
open Go

def runT (C:Cx) (ops:Array Oper) (r:SRes) (dst:Option Nat) (rest:List Oper) (k:List Item) (env:Env) (H:Hp) (R:AV → Hp → Prop):Prop :=
 match r with
 | .val x H'=>zA C.nt dst=true∧zcs C ops rest k (env.put dst x) H' R
 | .unit H'=>dst=none∧zcs C ops rest k (env.put dst .top) H' R
 | .call f args=>zA C.nt dst=true∧CallK C ops f (yj C.raw f args) dst rest k env H R
 | .yield b args=>zA C.nt dst=true∧YieldK C ops b (args.map AV.weak) dst rest k env H R
 | .fail=>False

section text
variable {C:Cx} {ops:Array Oper} {op:Op} {dst:Option Nat} {rest:List Oper} {k:List Item} {env:Env} {H H':Hp} {R:AV → Hp → Prop} {ty:TypeId} {pos:String} {after:Array Edge} {x:AV} {f:FuncId} {args:List AV} {j:Nat} {yJ:Bool}

theorem zxT:zcs C ops [] k env H R=ARun C k env H R:=rfl
theorem ztT:zcs C ops (⟨dst,op,ty,pos,after,none⟩ :: rest) k env H R=runT C ops (ze C.P C.G op ty env H) dst rest k env H R:=by
 unfold zcs runT zCi;simp only [zL]
 try (cases ze C.P C.G op ty env H<;>rfl)
def guarded (C:Cx) (ops:Array Oper) (w:Option Bool) (op:Op) (ty:TypeId) (dst:Option Nat) (rest:List Oper) (k:List Item) (env:Env) (H:Hp) (R:AV → Hp → Prop):Prop :=
 match w with
 | some true=>runT C ops (ze C.P C.G op ty env H) dst rest k env H R
 | some false=>zA C.nt dst=true∧zcs C ops rest k (env.put dst (.tup [])) H R
 | none=>False
theorem ztU:zcs C ops (⟨dst,op,ty,pos,after,some (j,yJ)⟩ :: rest) k env H R=guarded C ops (zL C.nt ops (some (j,yJ)) env) op ty dst rest k env H R:=by
 conv=>lhs;unfold zcs
 unfold guarded zCi;simp only
 cases zL C.nt ops (some (j,yJ)) env with
 | none=>rfl
 | some t =>
  cases t
  · rfl
  · simp only [runT];try (cases ze C.P C.G op ty env H<;>rfl)
theorem zkr:guarded C ops (some true) op ty dst rest k env H R=runT C ops (ze C.P C.G op ty env H) dst rest k env H R:=rfl
theorem ziM:guarded C ops (some false) op ty dst rest k env H R=(zA C.nt dst=true∧zcs C ops rest k (env.put dst (.tup [])) H R):=rfl
theorem zxU:runT C ops (.val x H') dst rest k env H R=(zA C.nt dst=true∧zcs C ops rest k (env.put dst x) H' R):=rfl
theorem ztV:runT C ops (.unit H') none rest k env H R=zcs C ops rest k env H' R:=by simp [runT,Env.put]
theorem ztW:runT C ops (.call f args) dst rest k env H R=(zA C.nt dst=true∧CallK C ops f (yj C.raw f args) dst rest k env H R):=rfl
theorem zpw {b:Nat}:runT C ops (.yield b args) dst rest k env H R=(zA C.nt dst=true∧YieldK C ops b (args.map AV.weak) dst rest k env H R):=rfl
theorem zpx {nt d:Nat}:(zA nt (some d)=true)=(d < nt):=by simp [zA]
theorem put_some {d i:Nat}:Env.put env (some d) x i=if i=d then x else env i:=rfl
theorem zms {i:Nat}:Env.put env none x i=env i:=rfl
end text

def guardOf (nt:Nat) (d:Option Nat) (env:Env) (yJ:Bool):Option Bool :=
 match d with
 | some d=>if d < nt then (match env d with | .p (.s (.bool t))=>some (t == yJ) | .tup []=>some false | _=>none) else none
 | none=>none
theorem zks {nt:Nat} {ops:Array Oper} {j:Nat} {yJ:Bool} {env:Env}:zL nt ops (some (j,yJ)) env=guardOf nt ((ops[j]?).bind (·.dst)) env yJ:=rfl
def zpy (x:AV) (yJ:Bool):Option Bool:=match x with | .p (.s (.bool t))=>some (t == yJ) | .tup []=>some false | _=>none
theorem zkt {nt d:Nat} {env:Env} {yJ:Bool}:guardOf nt (some d) env yJ=if d < nt then zpy (env d) yJ else none:=rfl
theorem ztX {t yJ:Bool}:zpy (.p (bo t)) yJ=some (t == yJ):=rfl
theorem zpz {yJ:Bool}:zpy (.tup []) yJ=some false:=rfl

def zdI (C:Cx) (ops:Array Oper) (q:Nat → Bool) (n:Nat) (l:List Oper) (k:List Item) (env:Env) (H:Hp) (R:AV → Hp → Prop):Prop:=ze9 C ops q (fun env' H'=>ARun C k env' H' R) n l env H

section draw
variable {C:Cx} {ops:Array Oper} {q:Nat → Bool} {quiet:Bool} {n:Nat} {op:Op} {dst:Option Nat} {rest:List Oper} {k:List Item} {env:Env} {H H':Hp} {R:AV → Hp → Prop} {ty:TypeId} {pos:String} {after:Array Edge} {x:AV} {f:FuncId} {args:List AV} {j:Nat} {yJ:Bool}

theorem zxV {o:Oper} (hn:ops[n]? = some o) (hg:zL C.nt ops o.guard env=some true) {x:AV} {H':Hp} (hr:ze C.P C.G o.op o.type env H = .val x H') (hd:zA C.nt o.dst=true) (hq:q n=true → H'=H)
 (h:zdI C ops q (n+1) rest k (env.put o.dst x) H' R):zdI C ops q n (o :: rest) k env H R:=by
 unfold zdI ze9 opA;simp only [hn,hg]
 cases hqn:q n with
 | true =>
  simp only [if_true]
  have:=hq hqn;subst this
  exact⟨x,by unfold aOp1;rw [hr];exact⟨hd,rfl,rfl⟩,h⟩
 | false =>
  simp only [Bool.false_eq_true,if_false];unfold aOp1;rw [hr]
  exact⟨hd,h⟩
theorem ztY {o:Oper} (hn:ops[n]? = some o) (hg:zL C.nt ops o.guard env=some true) {H':Hp} (hr:ze C.P C.G o.op o.type env H = .unit H') (hd:o.dst=none) (hq:q n=false)
 (h:zdI C ops q (n+1) rest k env H' R):zdI C ops q n (o :: rest) k env H R:=by
 unfold zdI ze9 opA;simp only [hn,hg,hq,Bool.false_eq_true,if_false];unfold aOp1;rw [hr]
 exact⟨hd,by rw [hd];exact h⟩
theorem ztZ {o:Oper} (hn:ops[n]? = some o) (hg:zL C.nt ops o.guard env=some true) {f:FuncId} {args:List AV} (hr:ze C.P C.G o.op o.type env H = .call f args) (hd:zA C.nt o.dst=true)
 (h:if q n then ∃ x,ACall C.P C.G f (yj C.raw f args) H (fun x' H'=>x'=x∧H'=H)∧zdI C ops q (n+1) rest k (env.put o.dst x) H R
  else ACall C.P C.G f (yj C.raw f args) H (fun x H'=>zdI C ops q (n+1) rest k (env.put o.dst x) H' R)):zdI C ops q n (o :: rest) k env H R:=by
 unfold zdI ze9 opA;simp only [hn,hg]
 cases hqn:q n with
 | true =>
  rw [hqn] at h;simp only [if_true] at h ⊢
  obtain⟨x,h2,h3⟩:=h
  exact⟨x,by unfold aOp1;rw [hr];exact⟨hd,h2⟩,h3⟩
 | false =>
  rw [hqn] at h;simp only [Bool.false_eq_true,if_false] at h ⊢;unfold aOp1;rw [hr]
  exact⟨hd,h⟩

theorem zpA {o:Oper} (hn:ops[n]? = some o) (hg:zL C.nt ops o.guard env=some true) {b:Nat} {args:List AV} (hr:ze C.P C.G o.op o.type env H = .yield b args) (hd:zA C.nt o.dst=true) (hq:q n=false)
 (h:AYield C.P C.G b (args.map AV.weak) H (fun x H'=>zdI C ops q (n+1) rest k (env.put o.dst x) H' R)):zdI C ops q n (o :: rest) k env H R:=by
 unfold zdI ze9 opA;simp only [hn,hg,hq,Bool.false_eq_true,if_false];unfold aOp1;rw [hr]
 exact⟨hd,h⟩
theorem zt0 {o:Oper} (hn:ops[n]? = some o) (hg:zL C.nt ops o.guard env=some false) (hd:zA C.nt o.dst=true) (h:zdI C ops q (n+1) rest k (env.put o.dst (.tup [])) H R):zdI C ops q n (o :: rest) k env H R:=by
 unfold zdI ze9 opA;simp only [hn,hg]
 exact⟨hd,h⟩

def zax (C:Cx) (ops:Array Oper) (q:Nat → Bool):Nat → List Oper → List Item → Env → Hp → (AV → Hp → Prop) → Prop
 | _,[],k,env,H,R=>ARun C k env H R
 | n,o :: rest,k,env,H,R =>
  match zL C.nt ops o.guard env with
  | some true=>(match ze C.P C.G o.op o.type env H with
   | .val x H'=>zA C.nt o.dst=true∧(q n=true → H'=H)∧zax C ops q (n+1) rest k (env.put o.dst x) H' R
   | .unit H'=>o.dst=none∧q n=false∧zax C ops q (n+1) rest k env H' R
   | .call f args=>zA C.nt o.dst=true∧if q n then ∃ x,ACall C.P C.G f (yj C.raw f args) H (fun x' H'=>x'=x∧H'=H)∧zax C ops q (n+1) rest k (env.put o.dst x) H R
    else ACall C.P C.G f (yj C.raw f args) H (fun x H'=>zax C ops q (n+1) rest k (env.put o.dst x) H' R)
   | .yield b args=>zA C.nt o.dst=true∧q n=false∧AYield C.P C.G b (args.map AV.weak) H (fun x H'=>zax C ops q (n+1) rest k (env.put o.dst x) H' R)
   | .fail=>False)
  | some false=>zA C.nt o.dst=true∧zax C ops q (n+1) rest k (env.put o.dst (.tup [])) H R
  | none=>False

theorem yB : ∀ {l:List Oper} {n:Nat} {env:Env} {H:Hp},(∀ j,l[j]? = ops[n+j]?) → zax C ops q n l k env H R → zdI C ops q n l k env H R
 | [],n,env,H,_,h=>h
 | o :: rest,n,env,H,hl,h=>by
  have h0:ops[n]? = some o:=by simpa using (hl 0).symm
  have hl' : ∀ j,rest[j]? = ops[n+1+j]? := fun j=>by have:=hl (j+1);simpa [Nat.add_assoc,Nat.add_comm 1 j] using this
  unfold zax at h;split at h
  · rename_i hw
    cases hr:ze C.P C.G o.op o.type env H with
    | val x H'=>rw [hr] at h;exact zxV h0 hw hr h.1 h.2.1 (yB hl' h.2.2)
    | unit H'=>rw [hr] at h;exact ztY h0 hw hr h.1 h.2.1 (yB hl' h.2.2)
    | call f args =>
     rw [hr] at h;refine ztZ h0 hw hr h.1 ?_;have h2:=h.2;split at h2
     · rename_i hq;rw [if_pos hq];obtain⟨x,a,b⟩:=h2;exact⟨x,a,yB hl' b⟩
     · rename_i hq;rw [if_neg hq];exact h2.mono fun x H' b=>yB hl' b
    | yield b args =>
     rw [hr] at h;exact zpA h0 hw hr h.1 h.2.1 (h.2.2.mono fun x H' b=>yB hl' b)
    | fail=>rw [hr] at h;exact h.elim
  · rename_i hw;exact zt0 h0 hw h.1 (yB hl' h.2)
  · exact h.elim

def CallD (C:Cx) (ops:Array Oper) (q:Nat → Bool) (quiet:Bool) (f:FuncId) (args:List AV) (dst:Option Nat) (n:Nat) (rest:List Oper) (k:List Item) (env:Env) (H:Hp) (R:AV → Hp → Prop):Prop :=
 if quiet then ∃ x,ACall C.P C.G f args H (fun x' H'=>x'=x∧H'=H)∧zax C ops q n rest k (env.put dst x) H R
 else ACall C.P C.G f args H (fun x H'=>zax C ops q n rest k (env.put dst x) H' R)

def YieldD (C:Cx) (ops:Array Oper) (q:Nat → Bool) (b:Nat) (args:List AV) (dst:Option Nat) (n:Nat) (rest:List Oper) (k:List Item) (env:Env) (H:Hp) (R:AV → Hp → Prop):Prop :=
 AYield C.P C.G b args H (fun x H'=>zax C ops q n rest k (env.put dst x) H' R)

def zgG (C:Cx) (ops:Array Oper) (q:Nat → Bool) (r:SRes) (n:Nat) (dst:Option Nat) (rest:List Oper) (k:List Item) (env:Env) (H:Hp) (R:AV → Hp → Prop):Prop :=
 match r with
 | .val x H'=>zA C.nt dst=true∧(q n=true → H'=H)∧zax C ops q (n+1) rest k (env.put dst x) H' R
 | .unit H'=>dst=none∧q n=false∧zax C ops q (n+1) rest k env H' R
 | .call f args=>zA C.nt dst=true∧CallD C ops q (q n) f (yj C.raw f args) dst (n+1) rest k env H R
 | .yield b args=>zA C.nt dst=true∧q n=false∧YieldD C ops q b (args.map AV.weak) dst (n+1) rest k env H R
 | .fail=>False

theorem zxW:zax C ops q n [] k env H R=ARun C k env H R:=rfl
theorem zt1:zax C ops q n (⟨dst,op,ty,pos,after,none⟩ :: rest) k env H R=zgG C ops q (ze C.P C.G op ty env H) n dst rest k env H R:=by
 conv=>lhs;unfold zax
 simp only [zL];unfold zgG CallD YieldD
 cases ze C.P C.G op ty env H<;>rfl
def zbT (C:Cx) (ops:Array Oper) (q:Nat → Bool) (w:Option Bool) (op:Op) (ty:TypeId) (n:Nat) (dst:Option Nat) (rest:List Oper) (k:List Item) (env:Env) (H:Hp) (R:AV → Hp → Prop):Prop :=
 match w with
 | some true=>zgG C ops q (ze C.P C.G op ty env H) n dst rest k env H R
 | some false=>zA C.nt dst=true∧zax C ops q (n+1) rest k (env.put dst (.tup [])) H R
 | none=>False
theorem zt2:zax C ops q n (⟨dst,op,ty,pos,after,some (j,yJ)⟩ :: rest) k env H R=zbT C ops q (zL C.nt ops (some (j,yJ)) env) op ty n dst rest k env H R:=by
 conv=>lhs;unfold zax
 unfold zbT zgG CallD YieldD
 cases zL C.nt ops (some (j,yJ)) env with
 | none=>rfl
 | some b=>cases b<;>cases ze C.P C.G op ty env H<;>rfl
theorem ziN:zbT C ops q (some true) op ty n dst rest k env H R=zgG C ops q (ze C.P C.G op ty env H) n dst rest k env H R:=rfl
theorem zhx:zbT C ops q (some false) op ty n dst rest k env H R=(zA C.nt dst=true∧zax C ops q (n+1) rest k (env.put dst (.tup [])) H R):=rfl
theorem zxX:zgG C ops q (.val x H') n dst rest k env H R=(zA C.nt dst=true∧(q n=true → H'=H)∧zax C ops q (n+1) rest k (env.put dst x) H' R):=rfl
theorem zt3:zgG C ops q (.val x H) n dst rest k env H R=(zA C.nt dst=true∧zax C ops q (n+1) rest k (env.put dst x) H R):=by simp [zgG]
theorem zt4:zgG C ops q (.unit H') n none rest k env H R=(q n=false∧zax C ops q (n+1) rest k env H' R):=by simp [zgG]
theorem zt5:zgG C ops q (.call f args) n dst rest k env H R=(zA C.nt dst=true∧CallD C ops q (q n) f (yj C.raw f args) dst (n+1) rest k env H R):=rfl

theorem zpB {b:Nat}:zgG C ops q (.yield b args) n dst rest k env H R=(zA C.nt dst=true∧q n=false∧YieldD C ops q b (args.map AV.weak) dst (n+1) rest k env H R):=rfl

theorem YieldD.of {b:Nat} {args':List AV} {r:AV} {H':Hp} (h : ∀ R:AV → Hp → Prop,R r H' → AYield C.P C.G b args' H R) (hk:zax C ops q n rest k (env.put dst r) H' R):YieldD C ops q b args' dst n rest k env H R :=
 h _ hk

theorem CallD.still {args':List AV} {r:AV} (h : ∀ R:AV → Hp → Prop,R r H → ACall C.P C.G f args' H R) (hk:zax C ops q n rest k (env.put dst r) H R):CallD C ops q true f args' dst n rest k env H R:=by
 unfold CallD;rw [if_pos rfl]
 exact⟨r,h _ ⟨rfl,rfl⟩,hk⟩
theorem CallD.moves {args':List AV} {S:AV → Hp → Prop} (h:ACall C.P C.G f args' H S) (hk : ∀ r H',S r H' → zax C ops q n rest k (env.put dst r) H' R):CallD C ops q false f args' dst n rest k env H R:=by
 unfold CallD;rw [if_neg (by simp)];exact h.mono hk

def zcX (loud:List Nat) (n:Nat):Bool := !loud.contains n

theorem ARun.open {id:Nat} {l:List Oper} (loud:List Nat) (hm:C.P.follows .mixedOrders=true) (hB:ztu (zcX loud) l.toArray l.length 0 (Array.replicate l.length false)=true)
 (h:zax C l.toArray (zcX loud) 0 l k env H R):ARun C (.code (.region id l.toArray true) :: k) env H R :=
 .draw (zcX loud) hm hB (yB (by simp) h)
end draw

theorem zpC {n:Nat}:zcX [] n=true:=rfl
theorem zmt {m n:Nat} {l:List Nat}:zcX (m :: l) n=(!(n == m) && zcX l n):=by
 unfold zcX;rw [List.contains_cons]
 cases (n == m)<;>simp

section branch
variable {C:Cx} {k:List Item} {env:Env} {H:Hp} {R:AV → Hp → Prop} {x y:Code} {t:Nat}
theorem ARun.ifT (hc:env t = .p (bo true)) (h:ARun C (.code x :: k) env H R):ARun C (.code (.cond (.tmp t) x y) :: k) env H R:=ARun.cond (t:=true) hc h
theorem ARun.ifF (hc:env t = .p (bo false)) (h:ARun C (.code y :: k) env H R):ARun C (.code (.cond (.tmp t) x y) :: k) env H R:=ARun.cond (t:=false) hc h
theorem ARun.ifB {b:Bool} (hc:env t = .p (bo b)) (h1:b=true → ARun C (.code x :: k) env H R) (h2:b=false → ARun C (.code y :: k) env H R):ARun C (.code (.cond (.tmp t) x y) :: k) env H R:=by
 cases b
 · exact .ifF hc (h2 rfl)
 · exact .ifT hc (h1 rfl)
end branch

theorem zxY {a b:Int} (h:a < b):decide (a < b)=true:=decide_eq_true h
theorem zxZ {a b:Int} (h:b≤a):decide (a < b)=false:=decide_eq_false (by omega)
theorem zx0 {a b:Int} (h:a≤b):decide (a≤b)=true:=decide_eq_true h
theorem zx1 {a b:Int} (h:b < a):decide (a≤b)=false:=decide_eq_false (by omega)
theorem zGx {a b:Int} (h:a=b):(a == b)=true:=by simp [h]
theorem zGy {a b:Int} (h:a≠b):(a == b)=false:=by simp [h]
theorem zGz {a b:Int} (h:a≠b):(a != b)=true:=by simp [h]
theorem zGA {a b:Int} (h:a=b):(a != b)=false:=by simp [h]

section heaps
variable {H:Hp} {x y:AB} {b c:Nat}
theorem n_new':(H.new x).n=H.n+1:=by rw [Hp.n_new]
theorem n_set':(H.set b x).n=H.n:=by rw [Hp.n_set]
theorem zk (h:b=H.n):(H.new x).f b=some x:=by simp [Hp.f_new,h]
theorem zb (h:b≠H.n):(H.new x).f b=H.f b:=by simp [Hp.f_new,h]
theorem zy (h:c=b) (hb:b < H.n):(H.set b x).f c=some x:=by simp [Hp.f_set,h,hb]
theorem f_set_ne' (h:c≠b):(H.set b x).f c=H.f c:=by simp [Hp.f_set,h]
theorem zpD (h:b=H.n):(H.new x).set b y=H.new y:=by subst h;exact Hp.set_new_self H x y
theorem zhy (h:b < H.n):(H.new x).set b y=(H.set b y).new x:=Hp.set_new_old H x y b h
theorem trunc_new' (h:b≤H.n):(H.new x).trunc b=H.trunc b:=Hp.trunc_new H x b h
theorem trunc_set' (h:b≤c):(H.set c x).trunc b=H.trunc b:=Hp.trunc_set H x c b h
theorem zx2 (h:b=H.n):H.trunc b=H:=by subst h;exact Hp.trunc_self H
end heaps

def zsa (P:Program) (d:Option TypeDesc) (x:AV) (ix:Option Int):Option AV :=
 match ix with
 | some n =>
  match d,x with
  | some (.array len e),x=>if 0≤n∧n.toNat < len∧0 < P.cellsOf e∧x.isAggV then zhc P e x (n.toNat*P.cellsOf e) else none
  | some .string,.p (.s (.string s))=>if 0≤n then (s[n.toNat]?).map fun b => .p (.s (.int .u8 b.toNat)) else none
  | _,_=>none
 | none=>none
theorem zt6 {P:Program} {t:TypeId} {x ix:AV}:zav P t x ix=zsa P (P.underlying t) x ix.int? := rfl
theorem zmu {P:Program} {len:Nat} {e:TypeId} {x:AV} {n:Int}:zsa P (some (.array len e)) x (some n)=if 0≤n∧n.toNat < len∧0 < P.cellsOf e∧x.isAggV then zhc P e x (n.toNat*P.cellsOf e) else none:=rfl

section steps
variable {P:Program} {G:Globs} {ty:TypeId} {env:Env} {H:Hp} {x y z:Operand}
theorem zt7:ze P G (.move x) ty env H = .val (zaW P G env ty x) H:=rfl
theorem zmv:ze P G (.assign x) ty env H = .val (zaW P G env ty x) H:=rfl
def zmw (ps:Option (List PV)) (H:Hp):SRes:=match ps with | some ps => .val (.ptr H.n 0) (H.new (.cells (ps.map .p))) | none => .fail
theorem zpE {t:TypeId}:ze P G (.alloc t) ty env H=zmw (zU P t) H:=rfl
theorem ziO {ps:List PV}:zmw (some ps) H = .val (.ptr H.n 0) (H.new (.cells (ps.map .p))):=rfl
def zx3 (cs:Option (List AV)) (H:Hp):SRes:=match cs with | some cs => .val (.ptr H.n 0) (H.new (.cells cs)) | none => .fail
theorem zx4 {t:TypeId}:ze P G (.box t x) ty env H=zx3 (zh (yd G env x)) H:=rfl
theorem zmx {cs:List AV}:zx3 (some cs) H = .val (.ptr H.n 0) (H.new (.cells cs)):=rfl
theorem zpF {t:TypeId} {ps:Array (Nat × Operand)}:ze P G (.build t ps) ty env H=vH (yf P t (y5 G env ps.toList)) H:=rfl
theorem zgH {t:TypeId} {n:Nat} {ps:Array (Nat × Operand)}:ze P G (.buildSlice t n ps) ty env H=vHH (zaB P H t n (y5 G env ps.toList)):=rfl
theorem zt8 {t:TypeId}:ze P G (.load t x) ty env H=vH (zcg P H t (zhj H (yd G env x))) H:=rfl
theorem zpG {t:TypeId}:ze P G (.store t x y) ty env H=uH (zfO P H t (yd G env x) (zaW P G env t y)):=rfl
theorem ziP:ze P G (.nilCheck x) ty env H=vH (zts (yd G env x)) H:=rfl
theorem zpH {op:BinOp} {t t':TypeId}:ze P G (.binOp op t x y t') ty env H=vH (zx P op t (zho G env x) (zho G env y)) H:=rfl
theorem zt9 {op:UnOp} {t:TypeId}:ze P G (.unOp op t x) ty env H=vH (aUn op (yd G env x)) H:=rfl
theorem zku {s d:TypeId}:ze P G (.convert s d x) ty env H=vH (zdn P H s d (yd G env x)) H:=rfl
def zx5 (i:Bool) (t:TypeId) (x:AV) (H:Hp):SRes:=match x with | .p (.s v)=>if i then .fail else .val (.p (.s (.iface t v))) H | _ => .fail
theorem zeK {t:TypeId}:ze P G (.makeInterface t x) ty env H=zx5 (isIface P t) t (yd G env x) H:=rfl
theorem zgI {xt t:TypeId} {ok:Bool}:ze P G (.typeAssert x xt t ok) ty env H=vH (zgW P t ok (yd G env x)) H:=rfl
theorem ziQ {f:FuncId} {a c:Array Operand}:ze P G (.makeFunc (.func f) a c) ty env H = .val (.clo f (zbc G env a.toList) (zbc G env c.toList)) H:=rfl
theorem zgJ {t:TypeId} {k:IntKind}:ze P G (.makeSlice t (.const (.int k 0)) y) ty env H=vHH (zdA P H t (yd G env (.const (.int k 0))) (yd G env y)):=rfl
theorem zhz {t:TypeId} {n:Nat}:ze P G (.makeSlice t (.tmp n) y) ty env H=vHH (zdk P H t (env n) (yd G env y)):=rfl
theorem zpI {t:TypeId} {lo hi mx:Option Operand}:ze P G (.slice t x lo hi mx) ty env H=vH (zhg P t (yd G env x) (lo.map (yd G env)) (hi.map (yd G env)) (mx.map (yd G env))) H:=rfl
theorem zhA {s:TypeId} {f:Nat}:ze P G (.fieldAddr s x f) ty env H=vH (zbN P s (yd G env x) f) H:=rfl
theorem zx6 {b off:Nat}:zhj H (.ptr b off) = .ptr b off:=rfl
theorem zCo {sz i sub:Nat} {xs:List PV}:zhj H (.ip sz xs i sub) = .ip sz xs i sub:=rfl
theorem zCp {b k off:Nat}:zhj H (.vp b k off) = .vp b k off:=rfl
def zGB (o:Nat) (q:Option (Nat × List PV)):AV:=match q with | some (sz,xs)=>if o < xs.length*sz then .ip sz xs (o / sz) (o % sz) else .top | none => .top
theorem zCq {g o:Nat}:zhj H (.p (ptq g o))=zGB o (H.z g):=rfl
theorem zua {o sz:Nat} {xs:List PV}:zGB o (some (sz,xs))=if o < xs.length*sz then .ip sz xs (o / sz) (o % sz) else .top:=rfl
theorem zCr {g o:Nat}:zts (.p (ptq g o))=some (.p (ptq g o)):=rfl
theorem zub {g o:Nat}:(ptq g o).cells=[ptq g o]:=rfl
theorem zx7 {g o:Nat}:(ptq g o).weak=ptq g o:=rfl
theorem zuc {g o:Nat}:(ptq g o).weak1=ptq g o:=rfl
theorem zud {g o:Nat}:(ptq g o).isAgg=false:=rfl
theorem zpJ {g o:Nat}:(AV.p (ptq g o)).isAggV=false:=rfl
theorem zpK {g o:Nat}:zh (.p (ptq g o))=some [.p (ptq g o)]:=rfl
theorem z_new {x:AB}:(H.new x).z=H.z:=rfl
theorem z_set {b:Nat} {x:AB}:(H.set b x).z=H.z:=rfl
theorem zpL {t:TypeId} {g o:Nat} (h:zeC P t=true):zx P .eql t (.p (ptq g o)) (.p (.s (.pointer none)))=some (.p (bo false)):=by
 simp only [zx,ptq,ptA,yV,h];rfl
theorem zpM {s:TypeId} {f:Nat}:ze P G (.field s x f) ty env H=vH (zhd P s (yd G env x) f) H:=rfl
theorem zhB {t:TypeId}:ze P G (.indexAddr t x y) ty env H=vH (zbM P t (yd G env x) (yd G env y)) H:=rfl
theorem zpN {t:TypeId}:ze P G (.index t x y) ty env H=vH (zav P t (yd G env x) (yd G env y)) H:=rfl
def zhC (x:AV) (i:Nat) (H:Hp):SRes:=match x with | .tup xs=>vH xs[i]? H | _ => .fail
theorem zkv {i:Nat}:ze P G (.extract x i) ty env H=zhC (yd G env x) i H:=rfl
def zsb (b:AV) (x y:AV) (H:Hp):SRes:=match b with | .p (.s (.bool b)) => .val (if b then x else y) H | _ => .fail
theorem zue:ze P G (.pick x y z) ty env H=zsb (yd G env x) (zaW P G env ty y) (zaW P G env ty z) H:=rfl
theorem zpO {b:Bool} {u v:AV}:zsb (.p (bo b)) u v H = .val (if b=true then u else v) H:=rfl
theorem zhD {xs:List AV} {i:Nat}:zhC (.tup xs) i H=vH xs[i]? H:=rfl
theorem zuf {f:Operand} {a:Array Operand} {ts:Array TypeId}:ze P G (.call ⟨.value f,a,ts⟩) ty env H=zbd P G env ⟨.value f,a,ts⟩ (yd G env f) H:=rfl
theorem zkw {b:Builtin} {a:Array Operand} {ts:Array TypeId}:ze P G (.call ⟨.builtin b,a,ts⟩) ty env H=zW P G env H b a.toList ts.toList:=rfl
theorem zkx {c:Call} {fn:FuncId} {a b:List AV}:zbd P G env c (.clo fn a b) H=if enters P fn then .call fn (a++yL P G env c.args.toList c.argTypes.toList++b) else zcS P fn (a++yL P G env c.args.toList c.argTypes.toList++b) H:=rfl
theorem zmy {fn:FuncId} {nm:String} {args:List AV} (h:zgV P fn=some nm):zcS P fn args H=vH (zki nm args) H:=by rw [zcS,h]
theorem zky {c:Call} {b:Nat}:zbd P G env c (.yld b) H = .yield b (yL P G env c.args.toList c.argTypes.toList):=rfl
theorem zx8 {b:Nat}:(AV.yld b).weak = .yld b:=rfl
def lenD (P:Program) (d:Option TypeDesc) (x:AV):Option AV :=
 match d with
 | some .string=>match x with | .p (.s (.string s))=>some (.p (.s (.int .i64 s.size))) | _=>none
 | some (.slice _) =>
  match x with
  | .p (.sl _ _ xs) | .sl _ _ _ xs=>some (.p (.s (.int .i64 xs.length)))
  | .ref _ _ len _=>some (.p (.s (.int .i64 len)))
  | .vr _ len _=>some (.p (.s (.int .i64 len)))
  | _=>none
 | some (.array n _)=>some (.p (.s (.int .i64 n)))
 | some (.pointer a)=>match P.underlying a with | some (.array n _)=>some (.p (.s (.int .i64 n))) | _=>none
 | _=>none
theorem zx9 {s:ByteArray}:lenD P (some .string) (.p (str s))=some (.p (i64 s.size)):=rfl
theorem zEE {e:TypeId} {b:Bool} {z:Nat} {xs:List PV}:lenD P (some (.slice e)) (.p (.sl b z xs))=some (.p (i64 xs.length)):=rfl
theorem zCs {e:TypeId} {a v z:Nat} {xs:List PV}:lenD P (some (.slice e)) (.sl a v z xs)=some (.p (i64 xs.length)):=rfl
theorem zya {e:TypeId} {b o l z:Nat}:lenD P (some (.slice e)) (.ref b o l z)=some (.p (i64 l)):=rfl
theorem zCt {e:TypeId} {b l z:Nat}:lenD P (some (.slice e)) (.vr b l z)=some (.p (i64 l)):=rfl
theorem zyb {n:Nat} {e:TypeId} {x:AV}:lenD P (some (.array n e)) x=some (.p (i64 n)):=rfl
theorem zyc {a:TypeId} {x:AV}:lenD P (some (.pointer a)) x=match P.underlying a with | some (.array n _)=>some (.p (.s (.int .i64 n))) | _=>none:=rfl
theorem builtin_len {t:TypeId}:zW P G env H .len [x] [t]=vH (lenD P (P.underlying t) (yd G env x)) H:=rfl
theorem builtin_append {t u:TypeId}:zW P G env H .append [x,y] [t,u]=vHH (ze4 P H t u (zaW P G env t x) (zaW P G env u y)):=rfl
theorem builtin_copy {t u:TypeId}:zW P G env H .copy [x,y] [t,u]=vHH (zlN P H t (yd G env x) (yd G env y)):=rfl
theorem builtin_min {ts:List TypeId}:zW P G env H .min [x,y] ts=vH (zch false (yd G env x) (yd G env y)) H:=rfl
theorem builtin_max {ts:List TypeId}:zW P G env H .max [x,y] ts=vH (zch true (yd G env x) (yd G env y)) H:=rfl
theorem zCu {v:AV}:vH (some v) H = .val v H:=rfl
theorem zyd {v:AV} {H':Hp}:vHH (some (v,H')) = .val v H':=rfl
theorem zCv {H':Hp}:uH (some H') = .unit H':=rfl
theorem zCw {t:Nat}:yd G env (.tmp t)=env t:=rfl
theorem zug {v:Value}:yd G env (.const v)=yq v:=rfl
theorem zye {f:FuncId}:yd G env (.func f) = .clo f [] []:=rfl
def zmz (g:Option (Nat × List PV)):AV:=match g with | some (sz,xs) => .ip sz xs 0 0 | none => .top
theorem zpP {g:Nat}:yd G env (.global g)=zmz (G g):=rfl
theorem zpQ {sz:Nat} {xs:List PV}:zmz (some (sz,xs)) = .ip sz xs 0 0:=rfl
theorem zyf {t:Nat}:zaW P G env ty (.tmp t)=env t:=rfl
theorem zpR {v:Value}:zaW P G env ty (.const v)=zat P ty v:=rfl
theorem zuh {f:FuncId}:zaW P G env ty (.func f) = .clo f [] []:=rfl
theorem zmA {g:Nat}:zaW P G env ty (.global g)=zmz (G g):=rfl
theorem zmB {k:IntKind} {n:Int}:zat P ty (.int k n)=yq (.int k n):=rfl
theorem zkz {b:Bool}:zat P ty (.bool b)=yq (.bool b):=rfl
theorem zhE {s:ByteArray}:zat P ty (.string s)=yq (.string s):=rfl
theorem zgK:zat P ty .nilFunc = .p (.s .nilFunc):=rfl
def zEg (d:Option TypeDesc) (P:Program):AV:=match d with | some (.slice e) => .p (.sl true (P.cellsOf e) []) | _ => .p (.sl true 0 [])
theorem zmC:zat P ty (.slice none 0 0)=zEg (P.underlying ty) P:=rfl
theorem zmD {e:TypeId}:zEg (some (.slice e)) P = .p (.sl true (P.cellsOf e) []):=rfl
theorem zui {ts:List TypeId}:yL P G env [] ts=[]:=rfl
theorem zpS {xs:List Operand} {t:TypeId} {ts:List TypeId}:yL P G env (x :: xs) (t :: ts)=zkk P G env t x :: yL P G env xs ts:=rfl
theorem zyg {t:Nat}:zho G env (.tmp t)=env t:=rfl
theorem zpT {v:Value}:zho G env (.const v)=zbA v:=rfl
theorem zuj {f:FuncId}:zho G env (.func f) = .clo f [] []:=rfl
theorem zmE {g:Nat}:zho G env (.global g)=zmz (G g):=rfl
theorem zyh {t:Nat}:zkk P G env ty (.tmp t)=env t:=rfl
theorem zpU {v:Value}:zkk P G env ty (.const v)=za6 P ty v:=rfl
theorem zuk {f:FuncId}:zkk P G env ty (.func f) = .clo f [] []:=rfl
theorem zmF {g:Nat}:zkk P G env ty (.global g)=zmz (G g):=rfl
theorem zmG {k:IntKind} {n:Int}:zbA (.int k n)=yq (.int k n):=rfl
theorem zkA {b:Bool}:zbA (.bool b)=yq (.bool b):=rfl
theorem zhF {s:ByteArray}:zbA (.string s)=yq (.string s):=rfl
theorem zmH:zbA (.slice none 0 0) = .p (.s (.slice none 0 0)):=rfl
theorem zmI {k:IntKind} {n:Int}:za6 P ty (.int k n)=yq (.int k n):=rfl
theorem zkB {b:Bool}:za6 P ty (.bool b)=yq (.bool b):=rfl
theorem zhG {s:ByteArray}:za6 P ty (.string s)=yq (.string s):=rfl
theorem zgL:za6 P ty .nilFunc = .p (.s .nilFunc):=rfl
theorem zmJ:za6 P ty (.slice none 0 0) = .p (.s (.slice none 0 0)):=rfl
theorem zul {t:TypeId}:zeC P t=zCb (P.underlying t):=rfl
theorem zkC {e:TypeId}:zCb (some (.pointer e))=true:=rfl
theorem zmK:yq (.pointer none) = .p (.s (.pointer none)):=rfl
theorem zkD:zbA (.pointer none) = .p (.s (.pointer none)):=rfl
theorem zkE:zat P ty (.pointer none) = .p (.s (.pointer none)):=rfl
theorem zkF:za6 P ty (.pointer none) = .p (.s (.pointer none)):=rfl
theorem zmL {t:TypeId}:zdw P t=zkb (P.underlying t):=rfl
theorem zkG {e:TypeId}:zkb (some (.slice e))=true:=rfl
theorem zkH {t:TypeId} (h:zeC P t=true):zx P .eql t (.p (.s (.pointer none))) (.p (.s (.pointer none)))=some (.p (bo true)):=by
 simp only [zx,yV,h];rfl
theorem zpV:y5 G env []=[]:=rfl
theorem zmM {i:Nat} {r:List (Nat × Operand)}:y5 G env ((i,x) :: r)=(i,yd G env x) :: y5 G env r:=rfl
theorem zum:zbc G env []=[]:=rfl
theorem zpW {r:List Operand}:zbc G env (x :: r)=yd G env x :: zbc G env r:=rfl
theorem zEF {v:PV}:(AV.p v).weak = .p v.weak:=rfl
theorem zCx {a v sz:Nat} {xs:List PV}:(AV.sl a v sz xs).weak = .p (.sl false sz xs):=rfl
theorem zyi {b off len sz:Nat}:(AV.ref b off len sz).weak = .ref b off len sz:=rfl
theorem zCy {b len sz:Nat}:(AV.vr b len sz).weak = .vr b len sz:=rfl
theorem zCz {b k off:Nat}:(AV.vp b k off).weak = .vp b k off:=rfl
theorem vec?_vec {cs:List AV}:(AB.vec cs).vec? = some cs:=rfl
theorem vec?_cells {cs:List AV}:(AB.cells cs).vec? = none:=rfl
theorem vec?_tail {v:Nat}:(AB.tail v).vec? = none:=rfl
theorem zyj {b off:Nat}:(AV.ptr b off).weak = .ptr b off:=rfl
theorem zCA {sz i sub:Nat} {xs:List PV}:(AV.ip sz xs i sub).weak = .ip sz xs i sub:=rfl
theorem zyk {f:FuncId} {a c:List AV}:(AV.clo f a c).weak = .clo f a c:=rfl
theorem zyl {fl:Bool} {sz:Nat} {xs:List PV}:(PV.sl fl sz xs).weak = .sl false sz xs:=rfl
theorem zun {fl:Bool} {sz:Nat} {xs:List PV}:(PV.sl fl sz xs).weak1 = .sl false sz xs:=rfl
theorem zuo {xs:List PV}:(PV.agg xs).weak = .agg (xs.map PV.weak1):=rfl
theorem zkI {f:FuncId} {args:List AV}:yj [] f args=args.map AV.weak:=rfl
end steps

attribute [go_sem ↓] put_some
attribute [go_sem] zCy zCz vec?_vec vec?_cells vec?_tail
attribute [go_sem] zpw zpB zky zx8 zxT ztT ztU zkr ziM zxU ztV ztW zpx zms zks zkt ztX zxW zt1 zt2 ziN zhx zt3 zxX zt4 zt5 zt7 zmv zpE ziO zx4 zmx zpF zgH zt8 zpG ziP zpH zt9 zku zeK zgI ziQ zgJ zhz zpI zhA zpM zhB zpN zkv zue zpO zhD zuf zkw zkx builtin_len builtin_append builtin_copy builtin_min builtin_max zCu zyd zCv zCw zug zye zpP zpQ zpz zyg zpT zuj zmE zyh zpU zuk zmF zmG zkA zhF zmH zmI zkB zhG zgL zmJ zx6 zCo zCp zCq zua zCr zub zx7 zuc zud zpJ zpK z_new z_set zpL zul zkC zmK zkD zkE zkF zkH zmL zkG zyf zpR zuh zmA zmB zkz zhE zgK zmC zmD zui zpS zpV zmM zum zpW zEF zCx zyi zyj zCA zyk zyl zun zuo zkI





attribute [go_sem] ztv zxI ztw zpb ztx zpc zpd zxJ zr9 zxK zty zxL ztz ztA ztB zxM ztC zpe ztD zpf zpg zxN zCj zxO ztE zxP ztF ztG ztH zxQ ztI zph ztJ zpi zpj ztK zxR ztL zpk ztM zpl zpm ztN zxS ztO zpn ztP zpo zpp zCk zED zCl zCm zCn zpq ztQ zpr ztR zps zhu zbS zdH zl1 zl2 zl3 zl4 zl5 zl6 zl7 zl8 zl9 zma zmb zgE zgF zpt zmc zmd zme zmf zmg zmh zmi zmj zmk zml zmm zmn zmo zpu ztS zmp zmq zpv zmr zkp zkq zhv zhw

theorem zpX {P:Program} {e:TypeId} {k:IntKind} {n:Int}:zoS P e (.int k) (.p (i64 n))=(match zU P e with
 | some [p]=>if 0≤n∧n*P.bytesOf e≤140737488355328∧n≤140737488355328∧P.cellsOf e=1∧p.cells.length=1∧p.isAgg=false then some (List.replicate n.toNat p) else none
 | _=>none):=rfl
attribute [go_sem] true_and and_true if_true if_false ite_true ite_false List.getElem?_cons_zero List.getElem?_cons_succ Option.getD_some Option.map_some Option.map_none Option.bind_some zgA implies_true zpC zmt zxY zxZ zx0 zx1 zGx zGy zGz zGA zk zb zy f_set_ne' zpD zhy trunc_new' trunc_set' zx2 n_new' n_set' zfa zcg zfO zbM zbN zhd zt6 zmu zhc zhg zZ zx9 zEE zCs zya zCt zyb zyc zdk zdA zlN ze4 zxz zpX zjj zam zaB z8 zbt ztk zts List.map_cons List.map_nil List.map_replicate List.length_cons List.length_nil List.length_map List.length_replicate List.length_append List.cons_append List.nil_append List.append_nil List.singleton_append Bool.not_true Bool.not_false Bool.and_true Bool.true_and Bool.and_false Bool.false_and Bool.or_true Bool.true_or Bool.or_false Bool.false_or Bool.false_eq_true Option.isSome_some Option.isSome_none Option.isNone_none Option.isNone_some Nat.add_zero Nat.zero_add Nat.mul_one Nat.one_mul Nat.sub_zero Int.toNat_natCast Int.toNat_zero Int.natCast_nonneg






end Go.AL

namespace Go.AL
open Go

theorem ARun.iter {C:Cx} {k:List Item} {env:Env} {H:Hp} {R:AV → Hp → Prop} {c:Code} {S:Type} (I:S → Env → Hp → Prop) (μ:S → Nat) (s0:S) (h0:I s0 env H)
 (round : ∀ s env H,I s env H → (∀ s' env' H',I s' env' H' → μ s' < μ s → ARun C (.inLoop c :: k) env' H' R) → ARun C (.code c :: .inLoop c :: k) env H R) :
 ARun C (.code (.loop c) :: k) env H R:=by
 have key : ∀ n s env H,μ s=n → I s env H → ARun C (.inLoop c :: k) env H R:=by
  intro n
  induction n using Nat.strongRecOn with
  | _ n ih =>
   intro s env H hn hI;exact .inLoop (round s env H hI fun s' env' H' hI' hlt=>ih (μ s') (hn ▸ hlt) s' env' H' rfl hI')
 exact .loop (key _ s0 env H rfl h0)

theorem ARun.count {C:Cx} {k:List Item} {env:Env} {H:Hp} {R:AV → Hp → Prop} {c:Code} (I:Nat → Env → Hp → Prop) (a n:Nat) (ha:a≤n) (h0:I a env H)
 (last : ∀ env H,I n env H → ARun C (.code c :: .inLoop c :: k) env H R)
 (round : ∀ i env H,a≤i → i < n → I i env H → (∀ env' H',I (i+1) env' H' → ARun C (.inLoop c :: k) env' H' R) → ARun C (.code c :: .inLoop c :: k) env H R) :
 ARun C (.code (.loop c) :: k) env H R :=
 .iter (S:=Nat) (fun i env H=>a≤i∧i≤n∧I i env H) (fun i=>n - i) a ⟨Nat.le_refl _,ha,h0⟩ fun i env H ⟨h1,h2,h3⟩ ih=>by
  by_cases h:i=n
  · subst h;exact last env H h3
  · exact round i env H h1 (by omega) h3 fun env' H' h'=>ih (i+1) env' H' ⟨by omega,by omega,h'⟩ (by omega)

theorem ARun.own {C:Cx} {todo:List Item} {env:Env} {H:Hp} {R:AV → Hp → Prop} (t:Nat) {sz:Nat} {xs:List PV} (ht:env t = .p (.sl true sz xs))
 (h:ARun C todo (env.put (some t) (.sl H.n 0 sz xs)) (H.new (.tail 0)) R):ARun C todo env H R:=by
 intro σ w a b cs m h1 hpre
 obtain⟨hr,hev⟩:=zaa hpre.rel (w':=w) (Nat.le_refl _) (fun _ _=>rfl) rfl rfl none (fun _ _ _ hh=>by cases hh)
 have h4:=hpre.fr.mono hev
 have hf:RelF C.nt m (σ.withT H.n none) (H.new (.tail 0)) w (env.put (some t) (.sl H.n 0 sz xs)) a:=by
  refine⟨h4.defers,h4.size,fun i => ?_⟩
  simp only [Env.put];by_cases hi:i=t
  · subst hi;rw [if_pos rfl];have hs:=hpre.fr.slot i;rw [ht] at hs
    generalize a.tmps.getD i undef=v at hs
    cases hs with | p hp =>
    have hp':RelP w (Stable (σ.withT H.n none) (H.new (.tail 0))) (.sl true sz xs) v:=by
     have:=(RelV.p hp).mono hev
     cases this;assumption
    refine .sl ?_ ⟨by simp [Hp.n_new],fun k0 d hk0 => ?_⟩
    · cases hp' with
      | emp _ _ a cap h hc=>exact .emp _ _ a cap (by simp) hc
      | sl _ _ _ g off cap f hfl hcap hsz hrd hc=>exact .sl false _ _ g off cap f (by simp) hcap hsz hrd hc
    · simp [Hp.f_new] at hk0
      refine⟨by omega,fun _ => .inl ?_⟩
      cases hp' with
      | emp _ _ a cap h0 hc=>exact⟨a,0,by rw [h0 rfl],by simp [Gh.withT]⟩
      | sl _ _ _ g off cap f hfl hcap hsz hrd hc=>exact⟨some ⟨g,off,none⟩,xs.length,by rw [hfl rfl],by simp [Gh.withT]⟩
  · rw [if_neg hi];exact h4.slot i
 obtain⟨r,H',σ',v,w',M,q,st,q1,q2,q3,q5⟩:=h _ w a b cs m (h1.mono hpre.n0 hev.c hpre.lt) (hpre.go hr hf hev)
 exact⟨r,H',σ',v,w',M,q,st,q1,q2,q3,hev.transM q5 hpre.n0 hpre.m⟩

def nth {α:Type} [Inhabited α] (l:List α) (i:Nat):α:=(l[i]?).getD default

section nth
variable {α:Type} [Inhabited α]
theorem zsc {l:List α} {i:Nat} (h:i < l.length):l[i]? = some (nth l i):=by simp [nth,h]
theorem zbU {l:List α} {i j:Nat} {x:α} (h:i=j) (hi:i < l.length):nth (l.set i x) j=x:=by subst h;simp [nth,hi]
theorem zbV {l:List α} {i j:Nat} {x:α} (h:i≠j):nth (l.set i x) j=nth l j:=by simp [nth,List.getElem?_set_ne h]
theorem zw {x:α} {l:List α}:nth (x :: l) 0=x:=rfl
theorem zv {l m:List α} {i:Nat} (h:i < l.length):nth (l++m) i=nth l i:=by simp [nth,List.getElem?_append_left h]
theorem zm {l m:List α} {i:Nat} (h:l.length≤i):nth (l++m) i=nth m (i - l.length):=by simp [nth,List.getElem?_append_right h]
theorem ziR {n i:Nat} {x:α} (h:i < n):nth (List.replicate n x) i=x:=by simp [nth,h]
theorem zfb {β:Type} [Inhabited β] {f:α → β} {l:List α} {i:Nat} (h:i < l.length):nth (l.map f) i=f (nth l i):=by simp [nth,h]
theorem zfc {l m:List α} (hl:l.length=m.length) (h : ∀ i,i < l.length → nth l i=nth m i):l=m:=by
 refine List.ext_getElem? fun i => ?_
 by_cases hi:i < l.length
 · rw [zsc hi,zsc (by omega),h i hi]
 · rw [List.getElem?_eq_none (by omega),List.getElem?_eq_none (by omega)]
end nth

def pl {α:Type} (f:α → PV) (l:List α):List PV:=l.map f
def cl {α:Type} (f:α → PV) (l:List α):List AV:=l.map fun x => .p (f x)

section rows
variable {α:Type} {f:α → PV} {l m:List α} {i n:Nat} {x:α}
theorem zad:(pl f l).length=l.length:=by simp [pl]
theorem zcn:(cl f l).length=l.length:=by simp [cl]
theorem zEG [Inhabited α] (h:i < l.length):(pl f l)[i]? = some (f (nth l i)):=by simp [pl,nth,h]
theorem zym [Inhabited α] (h:i < l.length):(cl f l)[i]? = some (.p (f (nth l i))):=by simp [cl,nth,h]
theorem zEH:(cl f l).set i (.p (f x))=cl f (l.set i x):=by simp [cl,List.map_set]
theorem zfd:(pl f l).map AV.p=cl f l:=by simp [pl,cl]
theorem zsd:(pl f l).take n=pl f (l.take n):=by simp [pl,List.map_take]
theorem zse:(pl f l).drop n=pl f (l.drop n):=by simp [pl,List.map_drop]
theorem yn:pl f l++pl f m=pl f (l++m):=by simp [pl]
theorem zej:cl f l++cl f m=cl f (l++m):=by simp [cl]
theorem zEI:pl f l++[f x]=pl f (l++[x]):=by simp [pl]
theorem zfT:pl f []=[]:=rfl
theorem pl_replicate:pl f (List.replicate n x)=List.replicate n (f x):=by simp [pl]
theorem cl_replicate:cl f (List.replicate n x)=List.replicate n (.p (f x)):=by simp [cl]
theorem zEJ:List.replicate n (AV.p (f x))=cl f (List.replicate n x):=cl_replicate.symm
theorem zEK:List.replicate n (f x)=pl f (List.replicate n x):=pl_replicate.symm
theorem zpY:(pl f l).isEmpty=l.isEmpty:=by cases l<;>rfl
theorem zsf (h : ∀ x,(f x).weak=f x):(pl f l).map PV.weak=pl f l:=by simp [pl,Function.comp_def,h]
theorem zkJ (h : ∀ x,(f x).cells=[f x]):flat (pl f l)=pl f l:=by
 unfold flat pl
 induction l with
 | nil=>rfl
 | cons a l ih=>simp [h,ih]
end rows

theorem zEL (i n:Nat):((i:Int) - (no_index (OfNat.ofNat n):Int)).toNat=i - OfNat.ofNat n:=by show ((i:Int) - (n:Int)).toNat=i - n;omega
theorem zyn {P:Program} {t:Nat} {env:Env} {H:Hp}:ze7 P [.tmp t] env H=some (env t):=rfl
theorem zup {P:Program} {env:Env} {H:Hp}:ze7 P [] env H=some (.tup []):=rfl
theorem zuq {P:Program} {a:Nat} {t:TypeId} {env:Env} {H:Hp}:ze7 P [.cell a t] env H=zcg P H t (env a):=by
 simp only [ze7,zci,zei]
 cases zcg P H t (env a)<;>rfl
theorem zGC {n:Nat} {x:PV}:(AV.p x).out n=some (.p x.weak):=rfl
theorem zEM {n a v sz:Nat} {xs:List PV}:(AV.sl a v sz xs).out n=some (.p (.sl false sz xs)):=rfl
theorem zyo {n:Nat}:(AV.tup []).out n=some (.tup []):=rfl
theorem zyp:decide True=true:=by simp
theorem zur:decide False=false:=by simp
theorem zHc {α:Type} {c:Prop} [Decidable c] {x y:α} (h:c):(if c then x else y)=x:=if_pos h
theorem zHd {α:Type} {c:Prop} [Decidable c] {x y:α} (h : ¬c):(if c then x else y)=y:=if_neg h
theorem zaM {n:Nat} {H:Hp} {x:AB} (h:Bel n H) (hn:n≤H.n):Bel n (H.new x):=(Bel.new hn).2 h
theorem za8 {n b:Nat} {H:Hp} {x:AB} (h:Bel n H) (hn:n≤b):Bel n (H.set b x):=(Bel.set_hi hn).2 h
theorem zpZ {α:Type} {f:α → PV} {l:List α} {n b:Nat} {H:Hp} (h:Bel n H):Bel n (H.set b (.cells (cl f l))):=h.set_cells fun x hx=>by
 simp only [cl,List.mem_map] at hx
 obtain⟨a,_,rfl⟩:=hx
 exact .p _
theorem zmN {α:Type} {l:List α} {n:Nat} (h:n≤l.length):(l.take n).length=n:=List.length_take_of_le h
theorem zyq {n:Int}:AV.p (.s (.int .i64 n)) = .p (i64 n):=rfl
theorem zus {xs:List PV}:(PV.agg xs).cells=xs:=rfl
theorem zut {xs:List PV}:(PV.agg xs).isAgg=true:=rfl
theorem isAggV_agg {xs:List PV}:(AV.p (.agg xs)).isAggV=true:=rfl
theorem set_set' {H:Hp} {b:Nat} {x y:AB}:(H.set b x).set b y=H.set b y:=by
 cases H with | mk f n wf z =>
 simp only [Hp.set,Hp.mk.injEq,and_true]
 funext c
 by_cases hc:c=b∧b < n
 · simp [hc]
 · simp [hc]
theorem zCB:pvs? []=some []:=rfl
theorem zyr {x:PV} {xs:List AV}:pvs? (.p x :: xs)=(pvs? xs).map (x :: ·):=by
 simp only [pvs?,AV.pv?]
 cases pvs? xs<;>rfl
theorem zys {fl:Bool} {sz:Nat} {xs:List PV}:(PV.sl fl sz xs).cells=[.sl fl sz xs]:=rfl
theorem zGD:(false == false)=true:=rfl
theorem zGE:(false == true)=false:=rfl
theorem zGF:(true == false)=false:=rfl
theorem zGG:(true == true)=true:=rfl
theorem ziS:(true=false)=False:=by simp
theorem take_one {α:Type} [Inhabited α] {l:List α} {i:Nat} (h:i < l.length):l.take i++[nth l i]=l.take (i+1):=by
 rw [List.take_succ_eq_append_getElem h];simp [nth,h]





theorem zuu {cs:List AV} {o:Nat} {x:AV}:setAt cs o [x]=cs.set o x:=rfl
theorem zmO {cs xs:List AV} (h:xs.length=cs.length):setAt cs 0 xs=xs:=by rw [za9 _ _ _ (by omega)];simp [h]
theorem zp0 {α:Type} {l:List α} {n:Nat} (h:l.length≤n):l.take n=l:=List.take_of_length_le h
theorem zuv {α:Type} {l:List α}:l.drop 0=l:=rfl
theorem zyt (n:Nat):((no_index (OfNat.ofNat n:Nat):Nat):Int)=(OfNat.ofNat n:Int):=rfl
theorem zuw {p:Nat → Option (Nat × Nat)} {cs:List AV}:yA p cs []=some cs:=rfl
theorem zp1 {l:List Bool}:(pl bo l).map PV.weak=pl bo l:=zsf fun _=>zr9 _
theorem zfe {l:List (BitVec 64)}:flat (pl zg l)=pl zg l:=zkJ fun _=>rfl
theorem zff {l:List Int}:flat (pl i64 l)=pl i64 l:=zkJ fun _=>rfl
theorem zkK {l:List Bool}:flat (pl bo l)=pl bo l:=zkJ fun _=>rfl
attribute [go_sem] zfe zff zkK
attribute [go_sem] zGD zGE zGF zGG ziS take_one and_self List.getElem?_toArray List.range_zero List.cons.injEq zCB zyr zys List.all_cons List.all_nil set_set' false_implies true_implies zyq zus zut isAggV_agg true_or or_true false_or or_false false_and and_false not_true_eq_false not_false_eq_true zmN List.length_drop Nat.add_sub_cancel_left
attribute [go_sem] zp1 zyp zur zHc zHd zyn zup zuq zGC zEM zyo zuw zuu zmO zp0 zuv zyt Int.natCast_add Int.natCast_mul zcn zad zym zEG zEH zfd zEI yn zej zsd zse zEJ zEK List.length_set zpY zEL
end Go.AL

namespace Go.AL
open Go

section
variable {C:Cx} {k:List Item} {env:Env} {H:Hp} {R:AV → Hp → Prop} {ops:Array Oper} {rest:List Oper}

theorem AOps.one {o:Oper} (hg:o.guard=none) {x:AV} {H':Hp} (hs:ze C.P C.G o.op o.type env H = .val x H') (hd:zA C.nt o.dst=true) (h:AOps C ops rest k (env.put o.dst x) H' R):AOps C ops (o :: rest) k env H R :=
 .of_op true (by rw [hg];rfl) fun σ w a m hpre K Q hK=>aOp1.wp (K:=fun y H2=>y=x∧H2=H') (by unfold aOp1;rw [hs];exact⟨hd,rfl,rfl⟩) hpre.rel hpre.fr fun y v H2 σ' w' ⟨e1,e2⟩ q1 q2 q3 q4=>by
  subst e1 e2;exact hK _ v _ σ' w' h q1 q2 q3 q4

end
theorem RelV.low {σ σ':Gh} {H H':Hp} {w w':World} {n0 m:Nat} (h:EvM n0 m σ H w σ' H' w') {x:AV} {v:Value} (r:RelV σ H w x v):BelowN n0 x → RelV σ' H' w' x v:=by
 induction r with
 | p hp=>exact fun _ => .p (hp.mono h.cell)
 | sl hp ht =>
  intro hb
  cases hb with | sl _ _ _ _ hb =>
  refine .sl (hp.mono h.cell) ⟨Nat.lt_of_lt_of_le hb h.hn,fun k' d' hk' => ?_⟩
  obtain⟨k0,d0,e0,l0,q0⟩:=h.t _ hb k' d' hk'
  obtain⟨l1,q1⟩:=ht.2 k0 d0 e0
  refine⟨Nat.le_trans l1 l0,fun hkk => ?_⟩
  rw [q0 (by omega)];exact q1 (by omega)
 | ref a h0 _ hcap ha=>intro hb;cases hb with | ref _ _ _ _ hb=>exact .ref a h0 (Nat.lt_of_lt_of_le hb h.hn) hcap (fun hl=>by rw [h.c _ hb];exact ha hl)
 | ptr _=>intro hb;cases hb with | ptr _ _ hb=>rw [←h.c _ hb];exact .ptr (Nat.lt_of_lt_of_le hb h.hn)
 | ip hp hi hs=>exact fun _ => .ip (hp.mono h.cell) hi hs
 | clo fs cs hf hc _ _ ih1 ih2=>intro hb;cases hb with | clo _ _ _ h1 h2=>exact .clo fs cs hf hc (fun i x v a b=>ih1 i x v a b (h1 i x a)) (fun i x v a b=>ih2 i x v a b (h2 i x a))
 | tup vs hl _ ih=>intro hb;cases hb with | tup _ h=>exact .tup vs hl (fun i x v a b=>ih i x v a b (h i x a))
 | agg vs hl h1 _ ih=>intro hb;cases hb with | agg _ h=>exact .agg vs hl h1 (fun i x v a b=>ih i x v a b (h i x a))
 | yld _=>intro hb;cases hb with | yld _ hb=>rw [←h.c _ hb];exact .yld (Nat.lt_of_lt_of_le hb h.hn)
 | mp _=>intro hb;cases hb with | mp _ hb=>rw [←h.c _ hb];exact .mp (Nat.lt_of_lt_of_le hb h.hn)
 | vr q =>
  intro hb
  cases hb with | vr _ _ _ hb =>
  obtain⟨_,a,cap,rfl,q1,q2⟩:=q
  refine .vr ⟨Nat.lt_of_lt_of_le hb h.hn,a,cap,rfl,q1,fun k' d' hk' => ?_⟩
  obtain⟨k0,d0,e0,l0,q0⟩:=h.t _ hb k' d' hk'
  obtain⟨l1,q1⟩:=q2 k0 d0 e0
  refine⟨Nat.le_trans l1 l0,fun hkk => ?_⟩
  rw [q0 (by omega)];exact q1 (by omega)
 | vp a q =>
  intro hb
  cases hb with | vp _ _ _ hb =>
  refine .vp a ⟨Nat.lt_of_lt_of_le hb h.hn,fun k' d' hk' => ?_⟩
  obtain⟨k0,d0,e0,l0,q0⟩:=h.t _ hb k' d' hk'
  obtain⟨l1,q1⟩:=q.2 k0 d0 e0
  refine⟨Nat.le_trans l1 l0,fun hkk => ?_⟩
  rw [q0 (by omega)];exact q1 (by omega)
 | top v=>exact fun _ => .top v

theorem zkL {G:Globs} {σ:Gh} {H:Hp} {w:World} (hr:Rel G σ H w) {n0 α k:Nat} (hb:Bel n0 H) (hα:H.f α=some (.tail k)) (hge:n0≤α) :
 Rel G (σ.withT n0 (σ.t α)) ((H.trunc n0).new (.tail 0)) w∧Ev n0 σ H w (σ.withT n0 (σ.t α)) ((H.trunc n0).new (.tail 0)) w:=by
 have hold : ∀ b,b < n0 → (σ.withT n0 (σ.t α)).t b=σ.t b:=fun b hb=>by simp [Gh.withT,Nat.ne_of_lt hb]
 have hnew:(σ.withT n0 (σ.t α)).t n0=σ.t α:=by simp [Gh.withT]
 have fcells : ∀ b x,((H.trunc n0).new (.tail 0)).f b=some (.cells x) → H.f b=some (.cells x)∧b < n0:=by
  intro b x h;rw [Hp.f_new] at h;split at h
  · cases h
  · rw [Hp.f_trunc] at h;split at h
    · exact⟨h,by assumption⟩
    · cases h
 have ftail : ∀ b k' d,((H.trunc n0).new (.tail 0)).f b=some (.tl k' d) → (b=n0∧k'=0∧d=none) ∨ (H.f b=some (.tl k' d)∧b < n0):=by
  intro b x d h;rw [Hp.f_new] at h;split at h
  · rename_i hh;cases h;exact .inl ⟨hh,rfl,rfl⟩
  · rw [Hp.f_trunc] at h;split at h
    · exact .inr ⟨h,by assumption⟩
    · cases h
 have fobj : ∀ b vs S,((H.trunc n0).new (.tail 0)).f b=some (.obj vs S) → H.f b=some (.obj vs S)∧b < n0:=by
  intro b vs S h;rw [Hp.f_new] at h;split at h
  · cases h
  · rw [Hp.f_trunc] at h;split at h
    · exact⟨h,by assumption⟩
    · cases h
 have hev:Ev n0 σ H w (σ.withT n0 (σ.t α)) ((H.trunc n0).new (.tail 0)) w:=by
  refine⟨fun g o v h1 h2=>⟨⟨fun b x h=>h1.1 b x (fcells _ _ h).1,fun b k' d o' s h ht => ?_⟩,h2⟩,fun _ _=>rfl,by simp [Hp.n_new,Hp.n_trunc],fun b hb k' d hk => ?_,Nat.le_refl _,
   fun g hg hf=>⟨rfl,fun b x h=>hf.1 b x (fcells _ _ h).1,fun b k' d o s h => ?_,fun b vs S h=>hf.3 b vs S (fobj _ _ _ h).1⟩,rfl,rfl⟩
  · rcases ftail b k' d h with ⟨rfl,rfl,rfl⟩ | ⟨h,hlt⟩
    · rw [hnew] at ht;exact h1.2 α k _ o' s hα ht
    · rw [hold b hlt] at ht;exact h1.2 b k' d o' s h ht
  · rcases ftail b k' d hk with ⟨rfl,_⟩ | ⟨h,hlt⟩
    · omega
    · exact⟨k',d,h,Nat.le_refl _,fun _=>hold b hb⟩
  · rcases ftail b k' d h with ⟨rfl,rfl,rfl⟩ | ⟨h,hlt⟩
    · rw [hnew];exact hf.2 α k _ o s hα
    · rw [hold b hlt];exact hf.2 b k' d o s h
 refine⟨⟨fun b x h => ?_,fun b k' d g o s h ht => ?_,fun b k' cs h => ?_,fun b1 b2 x y h1 h2=>hr.cc b1 b2 x y (fcells _ _ h1).1 (fcells _ _ h2).1,fun b1 b2 x k' d g o s h1 h2 ht => ?_,fun b1 b2 k1 d1 k2 d2 g o s o' s' h1 h2 ht ht' => ?_,fun g sz xs h=>(hr.glob g sz xs h).low hev (.ip _ _ _ _),fun b vs S h => ?_,fun b b' vs vs' S S' h h'=>hr.oo b b' vs vs' S S' (fobj _ _ _ h).1 (fobj _ _ _ h').1,fun r m h=>(hr.gm r m h).of rfl (hev.blk r (hr.gm r m h).lt (hr.gm r m h).2.1).2 fun x v hx q=>q.low hev (hx _),fun g sz xs h=>(hr.z g sz xs h).of rfl (hev.blk g (hr.z g sz xs h).lt (hr.z g sz xs h).2.1).2 fun q=>q.low hev (.ip _ _ _ _)⟩,hev⟩
 · obtain⟨h,hlt⟩:=fcells _ _ h
   obtain⟨c,e,q1,q2,q3⟩:=hr.cells b x h
   exact⟨c,e,q1,q2,fun i y hy=>let ⟨v,a,q⟩:=q3 i y hy;⟨v,a,q.1.low hev (hb b _ hlt h y (List.mem_of_getElem? hy)),q.2⟩⟩
 · rcases ftail b k' d h with ⟨rfl,rfl,rfl⟩ | ⟨h,hlt⟩
   · rw [hnew] at ht;exact hr.tail α k _ g o s hα ht
   · rw [hold b hlt] at ht;exact hr.tail b k' d g o s h ht
 · rcases ftail b k' _ h with ⟨rfl,_,hd⟩ | ⟨h,hlt⟩
   · cases hd
   · rw [hold b hlt]
     obtain⟨q0,q1,q2⟩:=hr.vec b k' cs h
     refine⟨q0,q1,fun g o s hg => ?_⟩
     obtain⟨p0,p1,p2⟩:=q2 g o s hg
     exact⟨p0,p1,fun i x hx=>let ⟨v,a,b'⟩:=p2 i x hx;⟨v,a,b'.1.low hev (hb b _ hlt h x (List.mem_of_getElem? hx)),b'.2⟩⟩
 · have h1':=(fcells _ _ h1).1
   rcases ftail b2 k' d h2 with ⟨rfl,rfl,rfl⟩ | ⟨h,hlt⟩
   · rw [hnew] at ht;exact hr.ct b1 α x k _ g o s h1' hα ht
   · rw [hold b2 hlt] at ht;exact hr.ct b1 b2 x k' d g o s h1' h ht
 · rcases ftail b1 k1 d1 h1 with ⟨rfl,rfl,rfl⟩ | ⟨p1,l1⟩<;>rcases ftail b2 k2 d2 h2 with ⟨rfl,rfl,rfl⟩ | ⟨p2,l2⟩
   · rfl
   · rw [hnew] at ht;rw [hold b2 l2] at ht'
     have:=hr.tt α b2 k _ k2 _ g o s o' s' hα p2 ht ht';omega
   · rw [hnew] at ht';rw [hold b1 l1] at ht
     have:=hr.tt b1 α k1 _ k _ g o s o' s' p1 hα ht ht';omega
   · rw [hold b1 l1] at ht;rw [hold b2 l2] at ht';exact hr.tt b1 b2 k1 _ k2 _ g o s o' s' p1 p2 ht ht'
 · obtain⟨h,hlt⟩:=fobj _ _ _ h
   obtain⟨o,us,q1,q2,q3,q4⟩:=hr.objs b vs S h
   exact⟨o,us,q1,q2,⟨q3.1,fun i x v a b'=>(q3.2 i x v a b').low hev (hb b _ hlt h x (List.mem_of_getElem? a))⟩,q4⟩

section ret
variable {C:Cx} {k:List Item} {env:Env} {H:Hp} {R:AV → Hp → Prop}

theorem ARun.retOwn {fn:Func} {α v sz:Nat} {xs:List PV} (hfn:C.P.funcs[C.fid]? = some fn) {rs:List ResultVar} (hrs:fn.results.toList=rs) (hx:ze7 C.P rs env H=some (.sl α v sz xs)) (hα:H.f α=some (.tail v)) (hge:C.n0≤α) (hb:Bel C.n0 H)
 (hR:R (.sl C.n0 0 sz xs) ((H.trunc C.n0).new (.tail 0))) (hro:C.round=none:=by rfl):ARun C (.code .ret :: k) env H R:=by
 refine .leave hro hfn hrs hx _ (fun _ _ _ _ h=>stepR_ret h) _ _ hR fun σ w u h1 h2 _ => ?_
 obtain⟨q1,q3⟩:=zkL h1 hb hα hge
 refine⟨_,q1,?_,q3⟩
 cases h2 with | sl hp ht =>
 refine .sl (hp.mono q3.cell) ⟨by simp [Hp.n_new,Hp.n_trunc],fun k0 d hk0 => ?_⟩
 have e0:k0=0:=by simp [Hp.f_new,Hp.n_trunc] at hk0;omega
 subst e0
 refine⟨Nat.le_refl _,fun _ => ?_⟩
 have:=(ht.2 v _ hα).2 rfl
 simpa [Gh.withT] using this
end ret
end Go.AL

namespace Go.AL
open Go




section states
variable {G:Globs} {σ:Gh} {H:Hp} {w:World}

end states

def zHI (nt:Nat) (env:Env):List AV:=(List.range nt).map env

def zfg:List Nat → List AV → Env → Env
 | p :: ps,x :: xs,e=>zfg ps xs (e.put (some p) x)
 | _,_,e=>e

def zHe (nt:Nat) (env:Env) (ps:List Nat) (args:List AV):Env:=zfg ps args fun i=>if i < nt then env i else .tup []



section rounds
variable {C:Cx} {k:List Item} {env:Env} {H:Hp} {R:AV → Hp → Prop} {l:Nat} {vs:List AV} {L:LoopState → Option Code → OS}




end rounds

section stmt
variable {C:Cx} {k:List Item} {env:Env} {H:Hp} {R:AV → Hp → Prop}


theorem RelVs.app {σ:Gh} {H:Hp} {w:World} {xs ys:List AV} {us vs:Array Value} (h1:RelVs σ H w xs us) (h2:RelVs σ H w ys vs):RelVs σ H w (xs++ys) (us++vs):=by
 refine⟨by simp [h1.1,h2.1],fun i x v e1 e2 => ?_⟩
 by_cases hi:i < us.size
 · rw [List.getElem?_append_left (by rw [←h1.1];exact hi)] at e1;rw [Array.getElem?_append_left hi] at e2;exact h1.2 i x v e1 e2
 · rw [List.getElem?_append_right (by rw [←h1.1];omega)] at e1;rw [Array.getElem?_append_right (by omega)] at e2;rw [←h1.1] at e1;exact h2.2 _ x v e1 e2

end stmt

section kinds
variable {fl:Bool} {sz n a v b off len i sub:Nat} {xs:List PV} {f:FuncId} {x y:List AV}
theorem zp2:zh (.p (.sl fl sz xs))=some [.p (.sl fl sz xs)]:=rfl
theorem zux:zh (.sl a v sz xs)=some [.sl a v sz xs]:=rfl
theorem zp3:zh (.ref b off len sz)=some [.ref b off len sz]:=rfl
theorem zp4:zh (.ptr b off)=some [.ptr b off]:=rfl
theorem zuy:zh (.ip sz xs i sub)=some [.ip sz xs i sub]:=rfl
theorem zp5:zh (.clo f x y)=some [.clo f x y]:=rfl
theorem zp6:zh (.yld b)=some [.yld b]:=rfl
theorem zyu:(PV.sl fl sz xs).isAgg=false:=rfl
theorem zuz:zbt false [.p (.sl fl sz xs)]=some (.sl fl sz xs):=rfl
end kinds
attribute [go_sem] zp2 zux zp3 zp4 zuy zp5 zp6 zyu zuz



def app (H:Hp) (T:List AB):Hp:=T.foldl Hp.new H

section app
variable {H:Hp} {b c:Nat} {x:AB} {T:List AB}
theorem zCC:app H []=H:=rfl
theorem zbg:app H (x :: T)=app (H.new x) T:=rfl
theorem app_n':(app H T).n=H.n+T.length:=by
 induction T generalizing H with
 | nil=>rfl
 | cons y T ih=>rw [zbg,ih,n_new',List.length_cons];omega
theorem zyv:(app H T).z=H.z:=by
 induction T generalizing H with
 | nil=>rfl
 | cons y T ih=>rw [zbg,ih];rfl
theorem zfh (h:b < H.n):(app H T).f b=H.f b:=by
 induction T generalizing H with
 | nil=>rfl
 | cons y T ih=>rw [zbg,ih (by rw [n_new'];omega),zb (by omega)]
theorem zsg (h:b < H.n):(app H T).set b x=app (H.set b x) T:=by
 induction T generalizing H with
 | nil=>rfl
 | cons y T ih=>rw [zbg,ih (by rw [n_new'];omega),zhy h,zbg]
theorem zjq (h:b≤H.n):(app H T).trunc b=H.trunc b:=by
 induction T generalizing H with
 | nil=>rfl
 | cons y T ih=>rw [zbg,ih (by rw [n_new'];omega),trunc_new' h]
theorem yv {S:List AB}:app (app H T) S=app H (T++S):=by simp [app]
end app

def zEN (nt:Nat) (env:Env):Env:=fun i=>if i < nt then env i else .tup []
theorem zyw {nt:Nat} {env:Env} {ps:List Nat} {args:List AV}:zHe nt env ps args=zfg ps args (zEN nt env):=rfl
theorem zkM {p:Nat} {ps:List Nat} {x:AV} {xs:List AV} {e:Env}:zfg (p :: ps) (x :: xs) e=zfg ps xs (e.put (some p) x):=rfl
attribute [go_sem] zfh zsg zjq app_n' zyw zkM

theorem BelowN.mono {n m:Nat} (h:n≤m) {x:AV} (r:BelowN n x):BelowN m x:=by
 induction r with
 | p x=>exact .p x
 | sl a v sz xs h1=>exact .sl _ _ _ _ (by omega)
 | ref b off len sz h1=>exact .ref _ _ _ _ (by omega)
 | ptr b off h1=>exact .ptr _ _ (by omega)
 | ip sz xs i sub=>exact .ip _ _ _ _
 | clo fn a c _ _ ih1 ih2=>exact .clo _ _ _ ih1 ih2
 | tup xs _ ih=>exact .tup _ ih
 | agg xs _ ih=>exact .agg _ ih
 | yld b h1=>exact .yld _ (by omega)
 | mp b h1=>exact .mp _ (by omega)
 | vr b _ _ h1=>exact .vr _ _ _ (by omega)
 | vp b _ _ h1=>exact .vp _ _ _ (by omega)
 | top=>exact .top

section bel
variable {n m b:Nat} {H:Hp} {x:AB} {α:Type} {f:α → PV} {l:List α} {T:List AB}
end bel

end Go.AL

namespace Go.AL
open Go

theorem ARun.ghost {C:Cx} {todo:List Item} {env env':Env} {H H':Hp} {R:AV → Hp → Prop}
 (hg : ∀ σ w a m,Pre C σ H w env a m → ∃ σ',Rel C.G σ' H' w∧(∀ i,RelV σ' H' w (env' i) (a.tmps.getD i undef))∧Ev H.n σ H w σ' H' w) (h:ARun C todo env' H' R):ARun C todo env H R:=by
 intro σ w a b cs m h1 hpre
 obtain⟨σ',hr,hs,hev⟩:=hg σ w a m hpre
 have h4:=hpre.fr.mono hev
 obtain⟨r,H2,σ2,v,w2,M,q,st,q1,q2,q3,q5⟩:=h σ' w a b cs m (h1.mono hpre.n0 hev.c hpre.lt) (hpre.go hr ⟨h4.defers,h4.size,hs⟩ hev)
 exact⟨r,H2,σ2,v,w2,M,q,st,q1,q2,q3,hev.transM q5 hpre.n0 hpre.m⟩

section states
variable {G:Globs} {σ:Gh} {H:Hp} {w:World}

theorem yX (hr:Rel G σ H w) (b:Nat):Rel G σ (H.set b .dead) w∧Ev H.n σ H w σ (H.set b .dead) w:=by
 have hf : ∀ b' x,x ≠ .dead → (H.set b .dead).f b'=some x → H.f b'=some x:=by
  intro b' x hx h;rw [Hp.f_set] at h;split at h
  · cases h;exact absurd rfl hx
  · exact h
 have fc : ∀ b' x,(H.set b .dead).f b'=some (.cells x) → H.f b'=some (.cells x):=fun b' x h=>hf b' _ (by simp) h
 have ft : ∀ b' k d,(H.set b .dead).f b'=some (.tl k d) → H.f b'=some (.tl k d):=fun b' x d h=>hf b' _ (by simp) h
 have fo : ∀ b' vs S,(H.set b .dead).f b'=some (.obj vs S) → H.f b'=some (.obj vs S):=fun b' x _ h=>hf b' _ (by simp) h
 have hev:Ev H.n σ H w σ (H.set b .dead) w :=
  ⟨fun g o v h1 h2=>⟨⟨fun b' x h=>h1.1 b' x (fc _ _ h),fun b' k d o2 s h=>h1.2 b' k d o2 s (ft _ _ _ h)⟩,h2⟩,fun _ _=>rfl,Nat.le_refl _,fun b' _ k d hk=>⟨k,d,ft b' k d hk,Nat.le_refl _,fun _=>rfl⟩,Nat.le_refl _,
   fun g _ hg=>⟨rfl,fun b' x h=>hg.1 b' x (fc _ _ h),fun b' k d o2 s h=>hg.2 b' k d o2 s (ft _ _ _ h),fun b' vs S h=>hg.3 b' vs S (fo _ _ _ h)⟩,rfl,rfl⟩
 refine⟨⟨fun b' x h => ?_,fun b' k d g o s h ht=>hr.tail b' k d g o s (ft _ _ _ h) ht,hr.vec_keep hev (fun b' k ds h=>⟨ft _ _ _ h,rfl⟩) (fun _ _ _ _ _ _ _ _ _=>rfl),fun b1 b2 x y h1 h2=>hr.cc b1 b2 x y (fc _ _ h1) (fc _ _ h2),fun b1 b2 x k d g o s h1 h2=>hr.ct b1 b2 x k d g o s (fc _ _ h1) (ft _ _ _ h2),
  fun b1 b2 k d k' d' g o s o' s' h1 h2=>hr.tt b1 b2 k d k' d' g o s o' s' (ft _ _ _ h1) (ft _ _ _ h2),hr.glob_mono hev,fun b' vs S h => ?_,fun b1 b2 v1 v2 S1 S2 h1 h2=>hr.oo b1 b2 v1 v2 S1 S2 (fo _ _ _ h1) (fo _ _ _ h2),hr.gm_mono hev,hr.z_mono hev rfl⟩,hev⟩
 · obtain⟨c,e,q1,q2,q3⟩:=hr.cells b' x (fc _ _ h)
   exact⟨c,e,q1,q2,fun i y hy=>let ⟨v,p,q⟩:=q3 i y hy;⟨v,p,q.mono hev⟩⟩
 · obtain⟨o,us,q1,q2,q3,q4⟩:=hr.objs b' vs S (fo _ _ _ h)
   exact⟨o,us,q1,q2,q3.mono hev,q4⟩

theorem zgj (hr:Rel G σ H w) {b:Nat} {cs:List AV} (hb:H.f b=some (.cells cs)) (o:Nat):Stable σ (H.set b .dead) (σ.c b) o:=by
 have hf : ∀ b' x,x ≠ .dead → (H.set b .dead).f b'=some x → b'≠b∧H.f b'=some x:=by
  intro b' x hx h;rw [Hp.f_set] at h;split at h
  · cases h;exact absurd rfl hx
  · rename_i hh
    exact⟨fun e=>hh ⟨e,Hp.lt hb⟩,h⟩
 refine⟨fun b' x h e => ?_,fun b' k d o2 s h ht => ?_⟩
 · obtain⟨h1,h2⟩:=hf b' _ (by simp) h
   exact h1 (hr.cc b' b x cs h2 hb e)
 · obtain⟨h1,h2⟩:=hf b' _ (by simp) h
   exact absurd rfl (hr.ct b b' cs k _ _ o2 s hb h2 ht)

theorem zeL (hr:Rel G σ H w) {b:Nat} {ps:List PV} (hb:H.f b=some (.cells (ps.map .p))) : ∃ f:Nat → Value,∀ k y,ps[k]? = some y →
 Stable σ (H.set b .dead) (σ.c b) k∧w.cell? ⟨σ.c b,k,none⟩=some (f k)∧(f k).oneCell'=true∧RelP w (Stable σ (H.set b .dead)) y (f k):=by
 obtain⟨c,e,q1,q2,q3⟩:=hr.cells b _ hb
 obtain⟨_,hev⟩:=yX hr b
 refine⟨fun k=>(c[k]?).getD undef,fun k y hy => ?_⟩
 obtain⟨v,p1,p2⟩:=q3 k (.p y) (by simp [hy])
 refine⟨zgj hr hb k,by simp [World.cell?,q1,p1],by simpa [p1] using p2.2,?_⟩
 have:=p2.1.mono hev
 cases this with | p hp=>simpa [p1] using hp
end states

theorem zfU : ∀ {ps:List PV},(∀ y∈ps,y.cells=[y]) → flat ps=ps
 | [],_=>rfl
 | a :: ps,h=>by show a.cells++flat ps=_;rw [h a (by simp),zfU (fun y hy=>h y (by simp [hy]))];rfl

section freeze
variable {C:Cx} {todo:List Item} {env:Env} {H:Hp} {R:AV → Hp → Prop} {α:Type} {f:α → PV} {l:List α}


theorem ARun.frzS (t:Nat) {b off len:Nat} (ht:env t = .ref b off len 1) (hb:H.f b=some (.cells (cl f l))) (hf : ∀ x,(f x).cells=[f x]) (hl:off+len≤l.length)
 (h:ARun C todo (env.put (some t) (.p (.sl false 1 (pl f ((l.drop off).take len))))) (H.set b .dead) R):ARun C todo env H R :=
 .ghost (fun σ w a m hpre=>by
  rw [←zfd] at hb
  obtain⟨r1,e1⟩:=yX hpre.rel b
  obtain⟨F,hF⟩:=zeL hpre.rel hb
  refine⟨σ,r1,fun i => ?_,e1⟩
  simp only [Env.put];by_cases hi:i=t
  · subst hi;rw [if_pos rfl];have hs:=hpre.fr.slot i;rw [ht] at hs
    generalize a.tmps.getD i undef=v at hs
    cases hs with | ref ad h0 hbn hcap ha =>
    obtain⟨g,o,rfl⟩:=h0
    have hlen:(pl f ((l.drop off).take len)).length=len:=by rw [zad,List.length_take,List.length_drop];omega
    have hget : ∀ k,k < len → ∃ y,(pl f l)[off+k]? = some y∧(pl f ((l.drop off).take len))[k]? = some y:=fun k hk=>by
     refine⟨_,List.getElem?_eq_getElem (by rw [zad];omega),?_⟩
     rw [←zsd,←zse,List.getElem?_take_of_lt hk,List.getElem?_drop];exact List.getElem?_eq_getElem _
    have hone : ∀ y∈pl f ((l.drop off).take len),y.cells=[y]:=fun y hy=>by
     simp only [pl,List.mem_map] at hy
     obtain⟨x,_,rfl⟩:=hy
     exact hf x
    have key:=RelP.sl (w:=w) (S:=Stable σ (H.set b .dead)) false 1 (pl f ((l.drop off).take len)) g o _ (fun k=>F (off+k)) (by simp) ⟨by rw [hlen];exact hcap.1,hcap.2⟩ (fun y hy=>by rw [hone y hy];rfl)
     (fun k hk=>by
      rw [hlen,Nat.mul_one] at hk
      obtain⟨y,hy,_⟩:=hget k hk
      obtain⟨p1,p2,p3,_⟩:=hF _ y hy
      have:=ha (by omega)
      cases this
      exact⟨zgj hpre.rel hb _,p2,p3⟩)
     (fun k y hy=>by
      rw [zfU hone] at hy;have hk:=(List.getElem?_eq_some_iff.1 hy).1;rw [hlen] at hk
      obtain⟨y',h1,h2⟩:=hget k hk
      rw [h2] at hy;cases hy
      exact (hF _ _ h1).2.2.2)
    rw [hlen] at key;exact .p key
  · rw [if_neg hi];exact (hpre.fr.slot i).mono e1) h

end freeze


def sb (s:ByteArray) (n:Nat):BitVec 8:=(s.data.toList.getD n 0).toBitVec






end Go.AL

namespace Go.AL
open Go Go.ChangeShapes Go.WideShapes Go.ChangeAt Go.RowKit

section post
variable {H:Type} {enc:TypeId × Value → H} {P:Program}

theorem zeq {W W':World} {sp:Nat → Bool} (hl:laidOutB P=true) : ∀ {ts:List TypeId} {vs:List Value} {ds:List (DataW H)} {ps:List MemPlace},(∀ t∈ts,P.readableRec t=true∧t < P.types.size) →
 DataW.TrodAll enc P W 0 (fun _=>true) true ts vs ds ps → (∀ p∈ps,W.sameAt W' p) → (∀ p∈ps,sp p.block=true) → DataW.TrodAll enc P W' 0 sp true ts vs ds ps
 | [],vs,ds,ps,_,h,_,_=>by
  obtain⟨rfl,rfl,rfl⟩:=trodAll_nil h
  exact trodAll_mk0
 | t :: ts,vs,ds,ps,hr,h,h1,h2=>by
  obtain⟨v,vs',d,ds',p,q,rfl,rfl,rfl,h3,h4⟩:=trodAll_cons h
  exact trodAll_cons_mk (WideElems.Trod_stays hl (hr t (by simp)).1 (hr t (by simp)).2 h3 (fun x hx=>h1 x (by simp [hx])) (fun x hx=>h2 x (by simp [hx])))
   (zeq hl (fun u hu=>hr u (by simp [hu])) h4 (fun x hx=>h1 x (by simp [hx])) (fun x hx=>h2 x (by simp [hx])))

theorem zhH {f:Func} {s:ChangeSpec} {W W':World} {args:Array Value} {ds gs:List (DataW H)} {before:List MemPlace} {tb:TypeId} (hl:laidOutB P=true) (hr : ∀ t∈f.params.toList,P.readableRec t=true∧t < P.types.size)
 (hv0:s.vars=[]) (hW:DataW.Whole enc P f.params.toList s.vars false W args.toList ds gs before) (hfn:s.fn H ds = { results:=[.lit (.bool true)],args:=ds })
 (hrt:f.resultTypes = #[tb]) (htb:P.underlying tb=some .bool) (hblk : ∀ g,g < W.heap.size → W'.heap[g]? = W.heap[g]?) (hos:W'.os=W.os) (hout:W'.output=W.output) :
 s.post enc P f false true false false W args (.bool true) W':=by
 have hlt:=hW.lt;have hW0:=hW
 obtain⟨p,q,hA,hV,hbe,hz,hn⟩:=hW
 rw [hv0] at hV
 obtain⟨rfl,rfl⟩:=trodVars_none hV
 rw [List.append_nil] at hbe;subst hbe
 have hsame : ∀ x∈before,W.sameAt W' x:=fun x hx=>by
  have h1:=hblk x.block (hlt x hx)
  cases x with
  | cell b off=>simp only [MemPlace.block] at h1;simp [World.sameAt,World.cell?,h1]
  | map b=>simp only [MemPlace.block] at h1;simpa [World.sameAt] using h1
 refine⟨ds,[],before,[],before,[],hW0,?_,?_,?_,?_,fun h=>by cases h⟩
 · rw [List.append_nil,hfn,hrt];exact trodAll_cons_mk (shut_bool htb true) trodAll_mk0
 · rw [List.append_nil,hfn]
   exact zeq hl hr hA hsame fun x hx=>by simpa using hlt x hx
 · rw [List.append_nil,hfn,hv0];exact rfl
 · refine⟨hos,hout,fun i hi => ?_⟩
   rw [hblk i hi]
   cases hw:W.heap[i]? with
   | none=>rfl
   | some o=>cases o<;>simp
end post


def H0:Hp:=⟨fun _=>none,0,fun _ _=>rfl,fun _=>none⟩
def σ0:Gh:=⟨fun _=>0,fun _=>none⟩

theorem zHf {G:Globs} {W:World} (hG : ∀ g sz xs,G g=some (sz,xs) → RelV σ0 H0 W (.ip sz xs 0 0) (.pointer (some ⟨g,0,none⟩))) (hM : ∀ r m,G.map r=some m → GMap σ0 H0 W r m):Rel G σ0 H0 W :=
 ⟨fun _ _ h=>(by cases h),fun _ _ _ _ _ _ h=>(by cases h),fun _ _ _ h=>(by cases h),fun _ _ _ _ h=>(by cases h),fun _ _ _ _ _ _ _ _ h=>(by cases h),fun _ _ _ _ _ _ _ _ _ _ _ h=>(by cases h),hG,fun _ _ _ h=>(by cases h),fun _ _ _ _ _ _ h=>(by cases h),hM,fun _ _ _ h=>(by cases h)⟩

theorem zsh (g o:Nat):Stable σ0 H0 g o:=⟨fun _ _ h=>(by cases h),fun _ _ _ _ _ h=>(by cases h)⟩
theorem zEh (g:Nat):Free σ0 H0 g:=⟨fun _ _ h=>(by cases h),fun _ _ _ _ _ h=>(by cases h),fun _ _ _ h=>(by cases h)⟩

theorem zfV {P:Program} {G:Globs} {f:FuncId} {args:List AV} {W:World} {vs:Array Value} (h:ACall P G f args H0 fun r _=>r = .p (bo true)) (hr:Rel G σ0 H0 W) (hv:RelVs σ0 H0 W args vs) :
 Calls P f vs W fun e W'=>e = .returned (.bool true)∧(∀ g,g < W.heap.size → W'.heap[g]? = W.heap[g]?)∧W'.os=W.os∧W'.output=W.output:=by
 refine (h σ0 W vs hr hv).mono ?_
 rintro e W' ⟨r,H',σ',v,rfl,rfl,hrel,hrv,hev⟩
 cases hrv.bool_inv
 exact⟨rfl,fun g hg=>(hev.blk g hg (zEh g)).1,hev.os,hev.out⟩


section read
variable {H:Type} {enc:TypeId × Value → H} {P:Program} {W:World} {sp:Nat → Bool} {held:Bool}


end read
end Go.AL
