/- Proofs. -/
import Derived.Test.YthaoifcebimkfaaGreatDoorPkE1
import Derived.Maps.Keyed
import Derived.DeepKeys4
import Derived.LaidEqlPtr
import Derived.Laws.Externs
import Derived.DeepKeys
import Derived.OrdersIn
import Derived.Laws.Cover3
import Derived.RangeFuncRecord
import Derived.Lib.SlBytesConst
import Derived.Carry
import Derived.OpenShut
import Derived.Lib.LaidTab
import Derived.Deep.DeepHandedRow
import Derived.ProofKit
set_option linter.unusedSectionVars false
set_option linter.unusedSimpArgs false
set_option linter.unusedVariables false
namespace Go.AL
open Go

def zcS:List PV → Option (List Value)
 | []=>some []
 | .s v :: xs=>(zcS xs).map (v :: ·)
 | _=>none

theorem zdU {w:World} {S:Nat → Nat → Prop} : ∀ {xs:List PV} {a vs:List Value},zcS xs=some a → vs.length=xs.length → (∀ (i:Nat) x v,xs[i]? = some x → vs[i]? = some v → RelP w S x v) → vs=a
 | [],a,vs,h,hl,_=>by simp only [zcS,Option.some.injEq] at h;subst h;simpa using hl
 | x :: xs,a,vs,h,hl,hr=>by
  cases x<;>simp only [zcS,Option.map_eq_some_iff] at h
  case s v =>
   obtain⟨a',h',rfl⟩:=h
   cases vs with
   | nil=>simp at hl
   | cons u us =>
    have h0:=hr 0 _ _ rfl rfl;cases h0;exact congrArg _ (zdU h' (by simpa using hl) (fun i x v e1 e2=>hr (i+1) x v (by simpa using e1) (by simpa using e2)))
  all_goals cases h


section states
variable {G:Globs} {σ:Gh} {H:Hp} {w:World}

theorem zbW (hr:Rel G σ H w) {b:Nat} {vs vs':List AV} {S S':OS} {o o':Obj} {us:Array Value} (hb:H.f b=some (.obj vs S)) (hw:w.heap[σ.c b]? = some o) (ho:zeM o=true) (hus:RelVs σ H w vs' us) (ho':zeM o'=true) (hS:S' us o') :
 Rel G σ (H.set b (.obj vs' S')) (w.putObj (σ.c b) o')∧Ev H.n σ H w σ (H.set b (.obj vs' S')) (w.putObj (σ.c b) o'):=by
 have hbn:=Hp.lt hb;have hlt:σ.c b < w.heap.size:=zcP hw
 have hother : ∀ g,g≠σ.c b → (w.putObj (σ.c b) o').heap[g]? = w.heap[g]? := fun g hg=>World.putObj_heap_other hg
 have fcells : ∀ b' x,(H.set b (.obj vs' S')).f b'=some (.cells x) → H.f b'=some (.cells x):=by
  intro b' x h;rw [Hp.f_set] at h;split at h
  · cases h
  · exact h
 have ftail : ∀ b' k d,(H.set b (.obj vs' S')).f b'=some (.tl k d) → H.f b'=some (.tl k d):=by
  intro b' x d h;rw [Hp.f_set] at h;split at h
  · cases h
  · exact h
 have fobj : ∀ b' vs1 T,(H.set b (.obj vs' S')).f b'=some (.obj vs1 T) → ∃ vs'' T',H.f b'=some (.obj vs'' T'):=by
  intro b' vs1 T h;rw [Hp.f_set] at h;split at h
  · rename_i hh;rw [hh.1];exact⟨_,_,hb⟩
  · exact⟨_,_,h⟩
 have hcell : ∀ g o1 v,w.cell? ⟨g,o1,none⟩=some v → (w.putObj (σ.c b) o').cell? ⟨g,o1,none⟩=some v:=by
  intro g o1 v h;by_cases hg:g=σ.c b
  · subst hg
    cases o<;>first | (simp [World.cell?,hw] at h;done) | cases ho
  · simpa [World.cell?,hother g hg] using h
 have hev:Ev H.n σ H w σ (H.set b (.obj vs' S')) (w.putObj (σ.c b) o'):=by
  refine⟨fun g o1 v h1 h2=>⟨⟨fun b' x h=>h1.1 b' x (fcells _ _ h),fun b' k d o2 s h=>h1.2 b' k d o2 s (ftail _ _ _ h)⟩,hcell g o1 v h2⟩,fun _ _=>rfl,Nat.le_refl _,fun b' _ k d hk=>⟨k,d,ftail b' k d hk,Nat.le_refl _,fun _=>rfl⟩,by simp,
   fun g hg hf=>⟨hother g (Ne.symm (hf.3 b vs S hb)),fun b' x h=>hf.1 b' x (fcells _ _ h),fun b' k d o2 s h=>hf.2 b' k d o2 s (ftail _ _ _ h),fun b' vs' T h=>let ⟨_,_,h'⟩:=fobj _ _ _ h;hf.3 b' _ _ h'⟩,rfl,rfl⟩
 have hne : ∀ b' x,H.f b'=some (.cells x) → σ.c b'≠σ.c b:=fun b' x h e=>by
  obtain⟨c,ee,q1,_⟩:=hr.cells b' x h
  rw [e,hw] at q1;cases q1;cases ho
 have hneT : ∀ b' k d g o2 s,H.f b'=some (.tl k d) → σ.t b'=some (g,o2,s) → g≠σ.c b:=fun b' k d g o2 s h ht e=>by
  obtain⟨c,ee,q1,_⟩:=hr.tail b' k d g o2 s h ht
  rw [e,hw] at q1;cases q1;cases ho
 refine⟨⟨fun b' x h => ?_,fun b' k d g o2 s h ht => ?_,hr.vec_keep hev (fun b' k ds h=>⟨ftail _ _ _ h,rfl⟩) (fun b' k ds g o2 s _ h ht=>hother g (hneT b' k _ g o2 s h ht)),fun b1 b2 x y h1 h2=>hr.cc b1 b2 x y (fcells _ _ h1) (fcells _ _ h2),fun b1 b2 x k d g o2 s h1 h2=>hr.ct b1 b2 x k d g o2 s (fcells _ _ h1) (ftail _ _ _ h2),
  fun b1 b2 k d k' d' g o2 s o3 s' h1 h2=>hr.tt b1 b2 k d k' d' g o2 s o3 s' (ftail _ _ _ h1) (ftail _ _ _ h2),hr.glob_mono hev,fun b' vs' T h => ?_,fun b1 b2 v1 v2 T1 T2 h1 h2 he => ?_,hr.gm_mono hev,hr.z_mono hev rfl⟩,hev⟩
 · obtain⟨c,ee,q1,q2,q3⟩:=hr.cells b' x (fcells _ _ h)
   exact⟨c,ee,(hother _ (hne b' x (fcells _ _ h))).trans q1,q2,fun i y hy=>let ⟨v,a,b⟩:=q3 i y hy;⟨v,a,b.mono hev⟩⟩
 · obtain⟨c,ee,q1,q2⟩:=hr.tail b' k d g o2 s (ftail _ _ _ h) ht
   exact⟨c,ee,(hother g (hneT b' k d g o2 s (ftail _ _ _ h) ht)).trans q1,q2⟩
 · by_cases hbb:b'=b
   · subst hbb;rw [Hp.f_set_self H _ _ hbn] at h;cases h
     exact⟨o',us,World.putObj_heap_same hlt,ho',hus.mono hev,hS⟩
   · rw [Hp.f_set_ne H _ _ _ hbb] at h
     obtain⟨o1,us1,q1,q2,q3,q4⟩:=hr.objs b' vs' T h
     exact⟨o1,us1,(hother _ (fun e=>hbb (hr.oo b' b _ _ _ _ h hb e))).trans q1,q2,q3.mono hev,q4⟩
 · obtain⟨_,_,h1'⟩:=fobj _ _ _ h1
   obtain⟨_,_,h2'⟩:=fobj _ _ _ h2
   exact hr.oo b1 b2 _ _ _ _ h1' h2' he

theorem znE (hr:Rel G σ H w) (o:Obj) (ho:zeM o=true) (vs:List AV) (us:Array Value) (S:OS) (hus:RelVs σ H w vs us) (hS:S us o) :
 Rel G (σ.withC H.n w.heap.size) (H.new (.obj vs S)) (w.alloc o)∧Ev H.n σ H w (σ.withC H.n w.heap.size) (H.new (.obj vs S)) (w.alloc o):=by
 have hold : ∀ b,b < H.n → (σ.withC H.n w.heap.size).c b=σ.c b:=fun b hb=>by simp [Gh.withC,Nat.ne_of_lt hb]
 have hnew:(σ.withC H.n w.heap.size).c H.n=w.heap.size:=by simp [Gh.withC]
 have fcells : ∀ b x,(H.new (.obj vs S)).f b=some (.cells x) → H.f b=some (.cells x):=by
  intro b x h;rw [Hp.f_new] at h;split at h
  · cases h
  · exact h
 have ftail : ∀ b k d,(H.new (.obj vs S)).f b=some (.tl k d) → H.f b=some (.tl k d):=by
  intro b x d h;rw [Hp.f_new] at h;split at h
  · cases h
  · exact h
 have fobj : ∀ b vs' T,(H.new (.obj vs S)).f b=some (.obj vs' T) → (b=H.n∧vs'=vs∧T=S) ∨ H.f b=some (.obj vs' T):=by
  intro b vs' T h;rw [Hp.f_new] at h;split at h
  · rename_i hh;cases h;exact .inl ⟨hh,rfl,rfl⟩
  · exact .inr h
 have hev:Ev H.n σ H w (σ.withC H.n w.heap.size) (H.new (.obj vs S)) (w.alloc o):=by
  refine⟨fun g o1 v h1 h2 => ?_,hold,by simp [Hp.n_new],fun b hb k d hk=>⟨k,d,ftail b k d hk,Nat.le_refl _,fun _=>rfl⟩,by simp,fun g hg hf=>⟨heap_alloc_old w _ hg,?_,?_,?_⟩,rfl,rfl⟩
  · have hlt:g < w.heap.size:=World.block_lt_of_cell? (a:=⟨g,o1,none⟩) w h2
    refine⟨⟨fun b x h => ?_,fun b k d o2 s h ht=>h1.2 b k d o2 s (ftail _ _ _ h) ht⟩,by rw [World.cell?_alloc_lt (a:=⟨g,o1,none⟩) w _ hlt];exact h2⟩
    have h:=fcells _ _ h;rw [hold b (Hp.lt h)];exact h1.1 b x h
  · intro b x h;have h:=fcells _ _ h;rw [hold b (Hp.lt h)];exact hf.1 b x h
  · exact fun b k d o2 s h ht=>hf.2 b k d o2 s (ftail _ _ _ h) ht
  · intro b vs' T h
    rcases fobj b vs' T h with ⟨rfl,_,_⟩ | h
    · rw [hnew];omega
    · rw [hold b (Hp.lt h)];exact hf.3 b vs' T h
 refine⟨⟨fun b x h => ?_,fun b k d g o2 s h ht => ?_,hr.vec_keep hev (fun b k ds h=>⟨ftail _ _ _ h,rfl⟩) (fun b k ds g o2 s _ h ht=>heap_alloc_old w _ (hr.t_lt h ht)),fun b1 b2 x y h1 h2 he => ?_,fun b1 b2 x k d g o2 s h1 h2 ht => ?_,
  fun b1 b2 k d k' d' g o2 s o3 s' h1 h2=>hr.tt b1 b2 k d k' d' g o2 s o3 s' (ftail _ _ _ h1) (ftail _ _ _ h2),hr.glob_mono hev,fun b vs' T h => ?_,fun b1 b2 v1 v2 T1 T2 h1 h2 he => ?_,hr.gm_mono hev,hr.z_mono hev rfl⟩,hev⟩
 · have h:=fcells _ _ h
   obtain⟨c,ee,q1,q2,q3⟩:=hr.cells b x h
   exact⟨c,ee,by rw [hold b (Hp.lt h),heap_alloc_old w _ (hr.c_lt h)];exact q1,q2,fun i y hy=>let ⟨v,a,b⟩:=q3 i y hy;⟨v,a,b.mono hev⟩⟩
 · have h:=ftail _ _ _ h
   obtain⟨c,ee,q1,q2⟩:=hr.tail b k d g o2 s h ht
   exact⟨c,ee,by rw [heap_alloc_old w _ (hr.t_lt h ht)];exact q1,q2⟩
 · have h1:=fcells _ _ h1;have h2:=fcells _ _ h2;rw [hold b1 (Hp.lt h1),hold b2 (Hp.lt h2)] at he;exact hr.cc b1 b2 x y h1 h2 he
 · have h1:=fcells _ _ h1;rw [hold b1 (Hp.lt h1)];exact hr.ct b1 b2 x k d g o2 s h1 (ftail _ _ _ h2) ht
 · rcases fobj b vs' T h with ⟨rfl,rfl,rfl⟩ | h
   · exact⟨o,us,by rw [hnew];exact heap_alloc_new w _,ho,hus.mono hev,hS⟩
   · obtain⟨o1,us1,q1,q2,q3,q4⟩:=hr.objs b vs' T h
     exact⟨o1,us1,by rw [hold b (Hp.lt h),heap_alloc_old w _ (hr.o_lt h)];exact q1,q2,q3.mono hev,q4⟩
 · rcases fobj b1 v1 T1 h1 with ⟨p1,_,_⟩ | p1<;>rcases fobj b2 v2 T2 h2 with ⟨p2,_,_⟩ | p2
   · rw [p1,p2]
   · rw [p1,hnew,hold b2 (Hp.lt p2)] at he
     have:=hr.o_lt p2;omega
   · rw [p2,hnew,hold b1 (Hp.lt p1)] at he
     have:=hr.o_lt p1;omega
   · rw [hold b1 (Hp.lt p1),hold b2 (Hp.lt p2)] at he;exact hr.oo b1 b2 _ _ _ _ p1 p2 he
end states

def zgI (P:Program) (k:TypeId):Bool :=
 match P.underlying k with
 | some (.int _) | some .bool | some .string=>true
 | some (.array _ _) | some (.struct _)=>decide (k < P.types.size) && P.keyTypeAt 9999 k && laidOutB P
 | _=>false

theorem zer {P:Program} {k:TypeId} (h:zgI P k=true):Maps.Keyed P k:=by
 unfold zgI at h;split at h
 · rename_i q hq;exact Maps.int_keyed hq
 · rename_i hq;exact Maps.bool_keyed hq
 · rename_i hq;exact .of_law (WideMaps.string_law hq)
 · rename_i hq;simp only [Bool.and_eq_true,decide_eq_true_eq] at h;exact .of_law (deep_law_laid h.2 (by omega) h.1.1 h.1.2 (by rw [hq]))
 · rename_i hq;simp only [Bool.and_eq_true,decide_eq_true_eq] at h;exact .of_law (deep_law_laid h.2 (by omega) h.1.1 h.1.2 (by rw [hq]))
 · cases h

def PV.val? : PV → Option Value
 | .s v=>some v
 | .agg xs=>(zcS xs).map fun vs => .agg vs.toArray
 | _=>none
def AV.key? : AV → Option Value
 | .p x=>x.val?
 | _=>none

theorem AV.key?_rel {σ H w} {x:AV} {kv v:Value} (h:x.key? = some kv) (r:RelV σ H w x v):v=kv:=by
 cases x<;>simp only [AV.key?] at h<;>try cases h
 rename_i x
 cases r with | p r =>
 cases r with
 | s v h1=>simpa [PV.val?] using h
 | agg xs vs hl h1 hh =>
  simp only [PV.val?,Option.map_eq_some_iff] at h
  obtain⟨us,h2,rfl⟩:=h
  have:=zdU (w:=w) (vs:=vs.toList) h2 (by simp [hl]) (fun i x v a b=>hh i x v a (by simpa using b))
  rw [←this]
 | emp=>simp [PV.val?] at h
 | sl=>simp [PV.val?] at h

def AB.map? : AB → Option (List (Value × AV))
 | .obj vals S=>S.ks.map fun ks=>ks.zip vals
 | _=>none

theorem map?_mapB (m:List (Value × AV)):(AB.mapB m).map? = some m:=by
 simp only [AB.mapB,AB.map?,zfF,Option.map_some,Option.some.injEq];rw [List.zip_map']
 simp

def zdl (P:Program) (kt:TypeId) (ks:List Value):Bool:=ks.all fun k=>(keyOf P kt k).isSome

def zc7 (P:Program) (kt:TypeId) (a b:Value):Bool :=
 match keyOf P kt a,keyOf P kt b with
 | some x,some y=>x.sameKey y
 | _,_=>false

theorem zes {P:Program} {kt:TypeId} (K:Maps.Keyed P kt) {a:Value} {l:Lit} (h:keyOf P kt a=some l):zc7 P kt a a=true:=by
 simp only [zc7,h];exact WideAt.sameKey_self (K.key h)
theorem zcC {P:Program} {kt:TypeId} (K:Maps.Keyed P kt) {a b:Value} (h:zc7 P kt a b=true):a=b:=by
 unfold zc7 at h;split at h
 · rename_i x y hx hy;obtain rfl:=WideAt.sameKey_eq h;exact K.inj hx hy
 · cases h

def zc8 (P:Program) (kt:TypeId) (kv:Value):List (Value × AV) → Option AV
 | []=>none
 | (k,v) :: m=>if zc7 P kt k kv=true then some v else zc8 P kt kv m

def zf1 (P:Program) (kt:TypeId) (kv:Value) (x:AV):List (Value × AV) → List (Value × AV)
 | []=>[(kv,x)]
 | (k,v) :: m=>if zc7 P kt k kv=true then (k,x) :: m else (k,v) :: zf1 P kt kv x m

section find
variable {P:Program} {kt:TypeId} {kv:Value} {l:Lit} (K:Maps.Keyed P kt) (hkv:keyOf P kt kv=some l)
include K hkv

theorem ziE {x:AV} : ∀ {m:List (Value × AV)} {j:Nat},(∀ p∈m,(keyOf P kt p.1).isSome=true) → (m.map (·.1)).Nodup → m[j]? = some (kv,x) → zc8 P kt kv m=some x
 | [],j,_,_,h=>by simp at h
 | (k,v) :: m,0,_,_,h=>by
  simp only [List.getElem?_cons_zero,Option.some.injEq,Prod.mk.injEq] at h
  obtain⟨rfl,rfl⟩:=h
  simp [zc8,zes K hkv]
 | (k,v) :: m,j+1,hok,hnd,h=>by
  simp only [List.getElem?_cons_succ] at h;simp only [List.map_cons,List.nodup_cons] at hnd
  have hne : ¬ zc7 P kt k kv=true:=fun e=>hnd.1 (by
   obtain rfl:=zcC K e
   exact List.mem_map.2 ⟨(k,x),List.mem_of_getElem? h,rfl⟩)
  rw [zc8,if_neg hne];exact ziE (fun p hp=>hok p (by simp [hp])) hnd.2 h

theorem zgJ : ∀ {m:List (Value × AV)},(∀ p∈m,p.1≠kv) → zc8 P kt kv m=none
 | [],_=>rfl
 | (k,v) :: m,h=>by
  have hne : ¬ zc7 P kt k kv=true:=fun e=>h (k,v) (by simp) (zcC K e)
  rw [zc8,if_neg hne]
  exact zgJ fun p hp=>h p (by simp [hp])

theorem zkL {x y:AV} : ∀ {m:List (Value × AV)} {j:Nat},(m.map (·.1)).Nodup → m[j]? = some (kv,y) → zf1 P kt kv x m=m.modify j (fun _=>(kv,x))
 | [],j,_,h=>by simp at h
 | (k,v) :: m,0,_,h=>by
  simp only [List.getElem?_cons_zero,Option.some.injEq,Prod.mk.injEq] at h
  obtain⟨rfl,rfl⟩:=h
  simp [zf1,zes K hkv]
 | (k,v) :: m,j+1,hnd,h=>by
  simp only [List.getElem?_cons_succ] at h;simp only [List.map_cons,List.nodup_cons] at hnd
  have hne : ¬ zc7 P kt k kv=true:=fun e=>hnd.1 (by
   obtain rfl:=zcC K e
   exact List.mem_map.2 ⟨(k,y),List.mem_of_getElem? h,rfl⟩)
  rw [zf1,if_neg hne,zkL hnd.2 h]
  simp

theorem ziF {x:AV} : ∀ {m:List (Value × AV)},(∀ p∈m,p.1≠kv) → zf1 P kt kv x m=m++[(kv,x)]
 | [],_=>rfl
 | (k,v) :: m,h=>by
  have hne : ¬ zc7 P kt k kv=true:=fun e=>h (k,v) (by simp) (zcC K e)
  rw [zf1,if_neg hne,ziF fun p hp=>h p (by simp [hp])];rfl
end find

def za7 (P:Program) (t:TypeId):Option AV :=
 match (P.info? t).bind (·.zero),zJ P t with
 | some (.agg _),some ps=>some (.p (.agg ps))
 | some _,some [p]=>some (.p p)
 | _,_=>none

theorem zcT {P:Program} {σ:Gh} {H:Hp} {w:World} {t:TypeId} {x:AV} (h:za7 P t=some x) : ∃ v,(zeroValue t).run P w = .ok v w∧RelV σ H w x v:=by
 unfold za7 at h;split at h
 · rename_i cs ps hz hps;cases h
   obtain⟨z,h1,h2,h3,h4⟩:=yC (w:=w) (S:=Stable σ H) hps
   rw [hz] at h2;cases h2
   refine⟨_,h1,.p (.agg ps cs h3 (fun i v hv => ?_) (fun i p v hp hv=>(h4 i p v hp hv).1))⟩
   have hlt:i < ps.length:=by rw [←h3];exact (Array.getElem?_eq_some_iff.1 hv).1
   exact (h4 i ps[i] v (by simp) hv).2
 · rename_i v p hne hz hps;cases h
   obtain⟨z,h1,h2,h3,h4⟩:=yC (w:=w) (S:=Stable σ H) hps
   rw [hz] at h2;cases h2
   refine⟨_,h1,.p ?_⟩
   have hc:v.cells = #[v]:=by
    cases v with
    | agg cs=>exact absurd rfl (hne cs)
    | _=>rfl
   exact (h4 0 p v rfl (by rw [hc];rfl)).1
 · cases h

def zbD (P:Program) (gm:Nat → Option (List (Value × AV))) (H:Hp) (t:TypeId) (x ix:AV) (ok:Bool):Option AV :=
 match P.underlying t with
 | some (.map kt et) =>
  match (match x with | .mp b=>(H.f b).bind AB.map? | .p (.s (.map none))=>some [] | .p (.s (.map (some r)))=>gm r | _=>none),ix.key? with
  | some m,some kv =>
   if zgI P kt∧zdl P kt (kv :: m.map (·.1)) then
    match zc8 P kt kv m,za7 P et with
    | some v,some _=>some (if ok then .tup [v,.p (.s (.bool true))] else v)
    | none,some z=>some (if ok then .tup [z,.p (.s (.bool false))] else z)
    | _,_=>none
   else none
  | _,_=>none
 | _=>none

def zdV (P:Program) (H:Hp) (t:TypeId) (x ix y:AV):Option Hp :=
 match P.underlying t,x with
 | some (.map kt _),.mp b =>
  match (H.f b).bind AB.map?,ix.key? with
  | some m,some kv=>if zgI P kt∧zdl P kt (kv :: m.map (·.1)) then some (H.set b (.mapB (zf1 P kt kv y m))) else none
  | _,_=>none
 | _,_=>none

section runs
variable {P:Program} {G:Globs} {σ:Gh} {H:Hp} {w:World}

theorem zgj (hr:Rel G σ H w) {b:Nat} {m:List (Value × AV)} (hb:(H.f b).bind AB.map? = some m) :
 ∃ vs S es clock,H.f b=some (.obj vs S)∧w.heap[σ.c b]? = some (.map es clock)∧es.toList.map (·.key)=m.map (·.1)∧(m.map (·.1)).Nodup∧(es.toList.map (·.born)).Nodup∧(∀ e∈es.toList,e.born < clock) ∧
  es.size=m.length ∧ ∀ (j:Nat) e p,es[j]? = some e → m[j]? = some p → e.key=p.1∧RelV σ H w p.2 e.val:=by
 cases hf:H.f b with
 | none=>simp [hf] at hb
 | some x =>
  rw [hf] at hb
  cases x with
  | obj vs S =>
   simp only [Option.bind_some,AB.map?,Option.map_eq_some_iff] at hb
   obtain⟨ks,hks,rfl⟩:=hb
   obtain⟨o,us,h1,h2,h3,h4⟩:=hr.objs b vs S hf
   obtain⟨es,clock,rfl,e1,e2,e3,e4,e5⟩:=S.map ks hks us o h4
   have hl1:ks.length=es.size:=by rw [←e1];simp
   have hl2:vs.length=es.size:=by rw [←h3.1,←Array.length_toList,←e2];simp
   have hm1:(ks.zip vs).map (·.1)=ks:=List.map_fst_zip (by omega)
   refine⟨vs,S,es,clock,rfl,h1,by rw [hm1,e1],by rw [hm1];exact e3,e4,e5,by simp;omega,fun j e p hj hp => ?_⟩
   rw [List.getElem?_zip_eq_some] at hp
   have hk:(es.toList.map (·.key))[j]? = some e.key:=by simp [hj]
   have hv:(es.toList.map (·.val))[j]? = some e.val:=by simp [hj]
   rw [e1,hp.1] at hk;rw [e2] at hv
   exact⟨(Option.some.inj hk).symm,h3.2 j p.2 e.val hp.2 (by simpa using hv)⟩
  | _=>simp [AB.map?] at hb

theorem zkM (hr:Rel G σ H w) {t:TypeId} {x ix y:AV} {ok:Bool} {vx vi:Value} (h:zbD P G.map H t x ix ok=some y) (hx:RelV σ H w x vx) (hi:RelV σ H w ix vi) :
 ∃ v,(Instr.lookup t vx vi ok).run P w = .ok v w∧RelV σ H w y v:=by
 unfold zbD at h;split at h
 case h_2=>cases h
 rename_i kt et hu;split at h
 case h_2=>cases h
 rename_i m kv hm hkv;obtain rfl:=AV.key?_rel hkv hi;split at h
 case isFalse=>cases h
 rename_i hc
 obtain⟨hkt,hok⟩:=hc
 have K:=zer hkt;simp only [zdl,List.all_cons,Bool.and_eq_true,List.all_eq_true,List.mem_map] at hok
 obtain⟨hk0,hks⟩:=hok
 obtain⟨lk,hlk⟩:=Option.isSome_iff_exists.1 hk0
 -- the entries
 have hes : ∃ es:Array MapEntry,((vx = .map none∧es = #[]) ∨ ∃ r clock,vx = .map (some r)∧w.heap[r]? = some (.map es clock))∧(m.map (·.1)).Nodup∧es.size=m.length ∧ ∀ (j:Nat) e p,es[j]? = some e → m[j]? = some p → e.key=p.1∧RelV σ H w p.2 e.val:=by
  split at hm
  · rename_i b
    cases hx with | mp hb =>
    obtain⟨vs,S,es,clock,_,h1,_,h3,_,_,h6,h7⟩:=zgj hr hm
    exact⟨es,.inr ⟨_,clock,rfl,h1⟩,h3,h6,h7⟩
  · cases hm
    obtain rfl:vx = .map none:=by cases hx with | p hp=>cases hp;rfl
    exact⟨#[],.inl ⟨rfl,rfl⟩,by simp,by simp,by simp⟩
  · rename_i r
    obtain rfl:vx = .map (some r):=by cases hx with | p hp=>cases hp;rfl
    obtain⟨⟨es,clock,h1,h2,h3,h4⟩,_⟩:=hr.gm r m hm
    exact⟨es,.inr ⟨r,clock,rfl,h1⟩,h3,h2,h4⟩
  · cases hm
 obtain⟨es,he,hnd,hsz,hent⟩:=hes
 have hkeys : ∀ e∈es.toList,∃ l,keyOf P kt e.key=some l:=fun e hmem=>by
  obtain⟨j,hj⟩:=List.getElem?_of_mem hmem
  have hlt:j < m.length:=by rw [←hsz];simpa using (List.getElem?_eq_some_iff.1 hj).1
  have hp:m[j]? = some m[j]:=by simp [hlt]
  obtain⟨h1,_⟩:=hent j e m[j] (by simpa using hj) hp
  rw [h1];exact Option.isSome_iff_exists.1 (hks _ ⟨m[j],List.mem_of_getElem? hp,rfl⟩)
 have hchk:=K.check w es.isEmpty hlk
 have hrun : ∀ q:Option (Nat × Value),(Instr.findKey kt vi es.toList).run P w = .ok q w → (Instr.lookup t vx vi ok).run P w =
  ((do let (v,ok') ←(match q with | some (_,v)=>pure (v,true) | none=>do pure (←zeroValue et,false):Sem (Value × Bool));pure (if ok then .tuple #[v,.bool ok'] else v):Sem Value).run P w):=fun q hfind=>by
  unfold Instr.lookup
  rcases he with ⟨rfl,rfl⟩ | ⟨r,clock,rfl,hw⟩
  · cases q<;>simp only [Sem.run_bind,run_underlying hu,Result.andThen_ok,Sem.run_pure,hchk,hfind]<;>cases (zeroValue et).run P w<;>simp [Result.andThen]
  · cases q<;>simp only [Sem.run_bind,run_underlying hu,Result.andThen_ok,Sem.run_pure,MapKept.run_getObj_map hw,hchk,hfind]<;>cases (zeroValue et).run P w<;>simp [Result.andThen]
 rcases K.find w hlk es.toList hkeys with ⟨hfind,hne⟩ | ⟨j,e,hfind,hj,hkey⟩
 · have hmiss:zc8 P kt vi m=none:=zgJ K hlk fun p hp e=>by
    obtain⟨j,hj⟩:=List.getElem?_of_mem hp
    have hlt:j < es.size:=by rw [hsz];exact (List.getElem?_eq_some_iff.1 hj).1
    obtain⟨h1,_⟩:=hent j es[j] p (by simp) hj
    exact hne es[j] (by simp) (h1.trans e)
   rw [hmiss] at h;split at h
   · rename_i h1 _;cases h1
   · rename_i z _ hz
     obtain⟨v,hv,hzv⟩:=zcT (σ:=σ) (H:=H) (w:=w) hz
     rw [hrun _ hfind];cases h
     refine⟨if ok then .tuple #[v,.bool false] else v,by simp [hv],?_⟩
     cases ok
     · exact hzv
     · refine .tup _ (by simp) fun i x v' h1 h2 => ?_
       rcases i with _ | _ | i
       · simp at h1 h2;subst h1;subst h2;exact hzv
       · simp at h1 h2;subst h1;subst h2;exact .p (.s _ rfl)
       · simp at h1
   · cases h
 · have hj':es[j]? = some e:=by simpa using hj
   have hlt:j < m.length:=by rw [←hsz];exact (Array.getElem?_eq_some_iff.1 hj').1
   have hp:m[j]? = some m[j]:=by simp [hlt]
   obtain⟨h1,h2⟩:=hent j e m[j] hj' hp
   have hhit:zc8 P kt vi m=some m[j].2:=ziE K hlk (fun p hp=>hks _ ⟨p,hp,rfl⟩) hnd (by rw [hp,←hkey,h1]);rw [hhit] at h;split at h
   · rename_i v _ h3 _;cases h3;rw [hrun _ hfind];cases h
     refine⟨if ok then .tuple #[e.val,.bool true] else e.val,by simp,?_⟩
     cases ok
     · exact h2
     · refine .tup _ (by simp) fun i x v' h1 h2' => ?_
       rcases i with _ | _ | i
       · simp at h1 h2';subst h1;subst h2';exact h2
       · simp at h1 h2';subst h1;subst h2';exact .p (.s _ rfl)
       · simp at h1
   · rename_i h3 _;cases h3
   · cases h

theorem zkN (hr:Rel G σ H w) {t:TypeId} {x ix y:AV} {H':Hp} {vx vi vy:Value} (h:zdV P H t x ix y=some H') (hx:RelV σ H w x vx) (hi:RelV σ H w ix vi) (hy:RelV σ H w y vy) :
 ∃ w',(Instr.mapUpdate t vx vi vy).run P w = .ok () w'∧Rel G σ H' w'∧Ev H.n σ H w σ H' w':=by
 unfold zdV at h;split at h
 case h_2=>cases h
 rename_i kt et b hu;split at h
 case h_2=>cases h
 rename_i m kv hm hkv;obtain rfl:=AV.key?_rel hkv hi;split at h
 case isFalse=>cases h
 rename_i hc
 obtain⟨hkt,hok⟩:=hc
 cases h;have K:=zer hkt;simp only [zdl,List.all_cons,Bool.and_eq_true,List.all_eq_true,List.mem_map] at hok
 obtain⟨hk0,hks⟩:=hok
 obtain⟨lk,hlk⟩:=Option.isSome_iff_exists.1 hk0
 cases hx with | mp hbn =>
 obtain⟨vs,S,es,clock,hb,hw,hkk,hnd,hborn,hclk,hsz,hent⟩:=zgj hr hm
 have hkeys : ∀ e∈es.toList,∃ l,keyOf P kt e.key=some l:=fun e hmem=>by
  have:e.key∈m.map (·.1):=by rw [←hkk];exact List.mem_map.2 ⟨e,hmem,rfl⟩
  exact Option.isSome_iff_exists.1 (hks _ (by simpa using this))
 have hchk:=K.check w false hlk
 have hset : ∀ o,(setObj (σ.c b) o).run P w = .ok () (w.putObj (σ.c b) o):=fun o=>MapKept.run_setObj_map o hw
 have hvals : ∀ (j:Nat) p e,m[j]? = some p → es[j]? = some e → RelV σ H w p.2 e.val:=fun j p e h1 h2=>(hent j e p h2 h1).2
 rcases K.find w hlk es.toList hkeys with ⟨hfind,hne⟩ | ⟨j,e,hfind,hj,hkey⟩
 · have hput:zf1 P kt vi y m=m++[(vi,y)]:=ziF K hlk fun p hp e=>by
    have:p.1∈es.toList.map (·.key):=by rw [hkk];exact List.mem_map.2 ⟨p,hp,rfl⟩
    obtain⟨e',h1,h2⟩:=List.mem_map.1 this
    exact hne e' h1 (h2.trans e)
   refine⟨w.putObj (σ.c b) (.map (es.push { key:=vi,val:=vy,born:=clock }) (clock+1)),?_,?_⟩
   · unfold Instr.mapUpdate;simp [run_underlying hu,MapKept.run_getObj_map hw,hchk,hfind,hset]
   · rw [hput];refine zbW hr hb hw rfl (S':=zfF ((m++[(vi,y)]).map (·.1))) (o' := .map (es.push { key:=vi,val:=vy,born:=clock }) (clock+1)) (vs':=(m++[(vi,y)]).map (·.2)) (us:=(es.push { key:=vi,val:=vy,born:=clock }).map (·.val)) ⟨by simp [hsz],fun i x v h1 h2 => ?_⟩ rfl ?_
     · by_cases hi:i < m.length
       · have hp:m[i]? = some m[i]:=by simp [hi]
         have he:es[i]? = some es[i]:=by simp [hsz,hi]
         simp [List.getElem?_append_left,hi,hp] at h1;simp [Array.getElem?_push,hsz,Nat.ne_of_lt hi,he,hi] at h2;subst h1;subst h2;exact hvals i m[i] es[i] hp he
       · have:i=m.length:=by
          have:=(List.getElem?_eq_some_iff.1 h1).1
          simp at this;omega
         subst this;simp at h1;rw [Array.map_push,Array.getElem?_push,Array.size_map,if_pos hsz.symm] at h2;simp at h2;subst h1;subst h2;exact hy
     · refine⟨_,_,rfl,by simp [hkk],by simp,?_,?_,fun e he => ?_⟩
       · simp only [List.map_append,List.map_cons,List.map_nil];rw [List.nodup_append]
         refine⟨hnd,by simp,fun a ha b hb => ?_⟩
         simp only [List.mem_singleton] at hb;subst hb;rw [←hkk] at ha
         obtain⟨e',h1,h2⟩:=List.mem_map.1 ha
         exact fun h=>hne e' h1 (h2.trans h)
       · simp only [Array.toList_push,List.map_append,List.map_cons,List.map_nil];rw [List.nodup_append]
         refine⟨hborn,by simp,fun a ha b hb => ?_⟩
         simp only [List.mem_singleton] at hb;subst hb
         obtain⟨e',h1,h2⟩:=List.mem_map.1 ha
         have:=hclk e' h1
         omega
       · simp only [Array.toList_push,List.mem_append,List.mem_singleton] at he
         rcases he with he | rfl
         · exact Nat.lt_succ_of_lt (hclk e he)
         · exact Nat.lt_succ_self _
 · have hj':es[j]? = some e:=by simpa using hj
   have hjl:j < es.size:=(Array.getElem?_eq_some_iff.1 hj').1
   have hlt:j < m.length:=by omega
   have hp:m[j]? = some m[j]:=by simp [hlt]
   obtain⟨h1,h2⟩:=hent j e m[j] hj' hp
   have hput:zf1 P kt vi y m=m.modify j (fun _=>(vi,y)):=zkL K hlk (y:=m[j].2) hnd (by rw [hp,←hkey,h1]);have hst:=K.stays w hlk
   refine⟨w.putObj (σ.c b) (.map (es.modify j fun e => { e with key:=vi,val:=vy }) clock),?_,?_⟩
   · unfold Instr.mapUpdate;simp [run_underlying hu,MapKept.run_getObj_map hw,hchk,hfind,hset,hj',hkey,hst]
   · rw [hput]
     have hkeys':(es.modify j fun e => { e with key:=vi,val:=vy }).toList.map (·.key)=es.toList.map (·.key):=by
      apply List.ext_getElem?;intro i;simp only [List.getElem?_map,Array.getElem?_toList,Array.getElem?_modify];by_cases hij:j=i
      · subst hij;simp [hj',hkey]
      · simp [hij]
     have hborn':(es.modify j fun e => { e with key:=vi,val:=vy }).toList.map (·.born)=es.toList.map (·.born):=by
      apply List.ext_getElem?;intro i;simp only [List.getElem?_map,Array.getElem?_toList,Array.getElem?_modify];by_cases hij:j=i
      · subst hij;simp [hj']
      · simp [hij]
     have hm':(m.modify j fun _=>(vi,y)).map (·.1)=m.map (·.1):=by
      apply List.ext_getElem?;intro i;simp only [List.getElem?_map,List.getElem?_modify];by_cases hij:j=i
      · subst hij;simp [hp,←h1,hkey]
      · simp [hij]
     refine zbW hr hb hw rfl (S':=zfF ((m.modify j fun _=>(vi,y)).map (·.1))) (o' := .map (es.modify j fun e => { e with key:=vi,val:=vy }) clock) (vs':=(m.modify j fun _=>(vi,y)).map (·.2)) (us:=(es.modify j fun e => { e with key:=vi,val:=vy }).map (·.val)) ⟨by simp [hsz],fun i x v h3 h4 => ?_⟩ rfl ?_
     · simp only [List.getElem?_map,List.getElem?_modify,Array.getElem?_map,Array.getElem?_modify,Option.map_eq_some_iff] at h3 h4
       obtain⟨q,hq,rfl⟩:=h3
       obtain⟨f,hf,rfl⟩:=h4
       by_cases hij:j=i
       · subst hij;simp [hp] at hq;simp [hj'] at hf;subst hq;subst hf;exact hy
       · simp [hij] at hq hf;exact hvals i q f hq hf
     · exact⟨_,_,rfl,by rw [hkeys',hkk,hm'],by simp,by rw [hm'];exact hnd,by rw [hborn'];exact hborn,fun e' he'=>by
        have:e'.born∈es.toList.map (·.born):=by rw [←hborn'];exact List.mem_map.2 ⟨e',he',rfl⟩
        obtain⟨e2,h5,h6⟩:=List.mem_map.1 this
        rw [←h6];exact hclk e2 h5⟩

theorem zkO (hr:Rel G σ H w) {t:TypeId} :
 ∃ v w' σ',(Instr.makeMap t none).run P w = .ok v w'∧RelV σ' (H.new (.mapB [])) w' (.mp H.n) v∧Rel G σ' (H.new (.mapB [])) w'∧Ev H.n σ H w σ' (H.new (.mapB [])) w':=by
 obtain⟨h1,h2⟩:=znE hr (.map #[] 0) rfl [] #[] (zfF []) ⟨rfl,by simp⟩ ⟨#[],0,rfl,by simp,by simp,by simp,by simp,by simp⟩
 refine⟨.map (some w.heap.size),w.alloc (.map #[] 0),_,by simp [Instr.makeMap,newObj,Sem.run],?_,h1,h2⟩
 have:RelV (σ.withC H.n w.heap.size) (H.new (.mapB [])) (w.alloc (.map #[] 0)) (.mp H.n) (.map (some ((σ.withC H.n w.heap.size).c H.n))) := .mp (by simp [Hp.n_new])
 simpa [Gh.withC] using this
end runs

end Go.AL

namespace Go.AL
open Go

abbrev ptA (g o:Nat):Value := .pointer (some ⟨g,o,none⟩)
abbrev ptv (g:Nat):Value:=ptA g 0
abbrev ptq (g o:Nat):PV := .s (ptA g o)
abbrev ptp (g:Nat):PV:=ptq g 0
def zgK (H:Hp) (x:AV):AV :=
 match x with
 | .p (.s (.pointer (some ⟨g,o,none⟩)))=>match H.z g with | some (sz,xs)=>if o < xs.length*sz then .ip sz xs (o / sz) (o % sz) else .top | none => .top
 | x=>x
theorem zvW {G:Globs} {σ:Gh} {H:Hp} {w:World} (hr:Rel G σ H w) {x:AV} {v:Value} (h:RelV σ H w x v):RelV σ H w (zgK H x) v:=by
 unfold zgK
 split
 · rename_i g o
   cases h with | p h =>
   cases h
   split
   · rename_i sz xs hz
     split
     · rename_i hlt;have h1:=(hr.z g sz xs hz).2.2
       generalize hv:(Value.pointer (some ⟨g,0,none⟩))=v at h1
       cases h1 with | @ip _ _ _ _ g' off cap hp hi hs =>
       simp only [Value.pointer.injEq,Option.some.injEq,Addr.mk.injEq,and_true] at hv
       obtain⟨rfl,ho⟩:=hv
       have:off=0:=by omega
       subst this
       have hpos:0 < sz:=by omega
       have h2:RelV σ H w (.ip sz xs (o / sz) (o % sz)) (.pointer (some ⟨g,0+o / sz*sz+o % sz,none⟩)) := .ip hp (Nat.div_lt_of_lt_mul (by rw [Nat.mul_comm];exact hlt)) (Nat.mod_lt _ hpos)
       rwa [Nat.zero_add,Nat.div_add_mod'] at h2
     · exact .top _
   · exact .top _
 · exact h

def zED (w:World) (p:Bool) (v:Value):Prop :=
 match p with
 | true => ∃ g c e,v=ptv g∧w.heap[g]? = some (.cells c e (0,0))
 | false => ∃ n,v = .int .i64 n
def RowK (w:World):List Bool → List Value → Prop
 | [],[]=>True
 | p :: ps,v :: vs=>zED w p v∧RowK w ps vs
 | _,_=>False
def zqL (H:Hp) (p:Bool) (v:Value):Prop :=
 match p with
 | true => ∃ g,v=ptv g∧H.z g≠none
 | false => ∃ n,v = .int .i64 n
def RowZ (H:Hp):List Bool → List Value → Prop
 | [],[]=>True
 | p :: ps,v :: vs=>zqL H p v∧RowZ H ps vs
 | _,_=>False
theorem RowZ.k {G:Globs} {σ:Gh} {H:Hp} {w:World} (hr:Rel G σ H w) : ∀ {sh:List Bool} {vs:List Value},RowZ H sh vs → RowK w sh vs
 | [],[],_=>trivial
 | p :: sh,v :: vs,⟨h1,h2⟩=>⟨by
  cases p with
  | false=>exact h1
  | true =>
   obtain⟨g,rfl,hz⟩:=h1
   cases h:H.z g with
   | none=>exact absurd h hz
   | some q =>
    obtain⟨⟨c,e,hc⟩,_⟩:=hr.z g q.1 q.2 h
    exact⟨g,c,e,rfl,hc⟩,RowZ.k hr h2⟩

structure PKeys (P:Program) (kt:TypeId) (sh:List Bool):Prop where
 st : ∃ fs,P.underlying kt=some (.struct fs)
 check : ∀ (w:World) (em:Bool) (vs:List Value),RowK w sh vs → (Instr.checkKey em 10000 kt (.agg vs.toArray)).run P w = .ok () w
 eq : ∀ (w:World) (xs ys:List Value),RowK w sh xs → RowK w sh ys → ∃ r:Bool,(Op.equal kt (.agg xs.toArray) (.agg ys.toArray)).run P w = .ok r w∧(r=true ↔ xs=ys)

def zgL (H:Hp) (sh:List Bool) (v:Value):Prop := ∃ vs:List Value,v = .agg vs.toArray∧RowZ H sh vs
open Classical in
noncomputable def zdm (kv:Value):List (Value × AV) → Option AV
 | []=>none
 | (k,v) :: m=>if k=kv then some v else zdm kv m
open Classical in
noncomputable def zfk (kv:Value) (x:AV):List (Value × AV) → List (Value × AV)
 | []=>[(kv,x)]
 | (k,v) :: m=>if k=kv then (k,x) :: m else (k,v) :: zfk kv x m
def zkP (P:Program) (H:Hp) (kt:TypeId) (kv:Value) (m:List (Value × AV)):Prop := ∃ sh,PKeys P kt sh∧zgL H sh kv ∧ ∀ e∈m,zgL H sh e.1

open Classical in
noncomputable def zaO (P:Program) (H:Hp) (t:TypeId) (x ix:AV) (ok:Bool):Option AV :=
 match P.underlying t,x,ix.key? with
 | some (.map kt et),.mp b,some kv =>
  match (H.f b).bind AB.map? with
  | some m =>
   if zkP P H kt kv m then
    match zdm kv m,za7 P et with
    | some v,some _=>some (if ok then .tup [v,.p (.s (.bool true))] else v)
    | none,some z=>some (if ok then .tup [z,.p (.s (.bool false))] else z)
    | _,_=>none
   else none
  | none=>none
 | _,_,_=>none
open Classical in
noncomputable def zdn (P:Program) (H:Hp) (t:TypeId) (x ix y:AV):Option Hp :=
 match P.underlying t,x,ix.key? with
 | some (.map kt et),.mp b,some kv =>
  match (H.f b).bind AB.map? with
  | some m=>if zkP P H kt kv m then some (H.set b (.mapB (zfk kv y m))) else none
  | none=>none
 | _,_,_=>none

section rel
variable {P:Program} {G:Globs} {σ:Gh} {H:Hp} {w:World}

theorem zgM {fs:Array Field} {k:Value} {e:MapEntry} {es:List MapEntry} {i:Nat}:Instr.findNow (.struct fs) k (e :: es) i=none:=by
 simp [Instr.findNow,Instr.sameNow]

theorem zgN (hr:Rel G σ H w) {kt:TypeId} {sh:List Bool} (K:PKeys P kt sh) {kv:Value} (hk:zgL H sh kv) : ∀ (es:List MapEntry) (m:List (Value × AV)) (i:Nat),es.map (·.key)=m.map (·.1) → (∀ e∈m,zgL H sh e.1) →
 ((Instr.findAsking kt kv es i).run P w = .ok none w∧zdm kv m=none∧(∀ y,zfk kv y m=m++[(kv,y)]) ∧ ∀ e∈es,e.key≠kv) ∨
 ∃ j e p,(Instr.findAsking kt kv es i).run P w = .ok (some (i+j,e.val)) w∧es[j]? = some e∧m[j]? = some p∧e.key=kv∧zdm kv m=some p.2 ∧ ∀ y,zfk kv y m=m.set j (kv,y)
 | [],m,i,h,_=>by
  have:m=[]:=by simpa using h.symm
  subst this;exact .inl ⟨by simp [Instr.findAsking],rfl,fun _=>rfl,by simp⟩
 | e :: es,m,i,h,ho=>by
  cases m with
  | nil=>simp at h
  | cons p m =>
   simp only [List.map_cons,List.cons.injEq] at h
   obtain⟨h1,h2⟩:=h
   obtain⟨xs,rfl,hx⟩:=hk
   obtain⟨ys,hy1,hy⟩:=ho p (by simp)
   obtain⟨r,hrun,hiff⟩:=K.eq w _ _ (hx.k hr) (hy.k hr)
   rw [←hy1] at hrun
   have hv:(r=true ↔ p.1=Value.agg xs.toArray):=by
    rw [hiff,hy1];constructor
    · intro e;rw [e]
    · intro e;simpa using e.symm
   cases r with
   | true =>
    have e1:=hv.1 rfl;refine .inr ⟨0,e,p,?_,rfl,rfl,h1.trans e1,?_,fun y => ?_⟩
    · simp [Instr.findAsking,h1,hrun]
    · obtain⟨pk,pv⟩:=p;simp only at e1;simp [zdm,e1]
    · obtain⟨pk,pv⟩:=p;simp only at e1;simp [zfk,e1]
   | false =>
    have e1 : ¬ p.1=Value.agg xs.toArray:=fun x=>by have:=hv.2 x;simp at this
    rcases zgN hr K ⟨xs,rfl,hx⟩ es m (i+1) h2 (fun q hq=>ho q (by simp [hq])) with ⟨a1,a2,a3,a4⟩ | ⟨j,e',p',a1,a2,a3,a4,a5,a6⟩
    · refine .inl ⟨?_,?_,fun y => ?_,fun e' he => ?_⟩
      · simp [Instr.findAsking,h1,hrun,a1]
      · obtain⟨pk,pv⟩:=p;simp only at e1;simp [zdm,e1,a2]
      · obtain⟨pk,pv⟩:=p;simp only at e1;simp [zfk,e1,a3]
      · simp only [List.mem_cons] at he
        rcases he with rfl | he
        · rw [h1];exact e1
        · exact a4 e' he
    · refine .inr ⟨j+1,e',p',?_,a2,a3,a4,?_,fun y => ?_⟩
      · simp [Instr.findAsking,h1,hrun,a1,Nat.add_comm,Nat.add_left_comm]
      · obtain⟨pk,pv⟩:=p;simp only at e1;simp [zdm,e1,a5]
      · obtain⟨pk,pv⟩:=p;simp only at e1;simp [zfk,e1,a6]

theorem run_findKey (hr:Rel G σ H w) {kt:TypeId} {sh:List Bool} (K:PKeys P kt sh) {kv:Value} (hk:zgL H sh kv) {es:List MapEntry} {m:List (Value × AV)} (h:es.map (·.key)=m.map (·.1)) (hN : ∀ e∈m,zgL H sh e.1) :
 ((Instr.findKey kt kv es).run P w = .ok none w∧zdm kv m=none∧(∀ y,zfk kv y m=m++[(kv,y)]) ∧ ∀ e∈es,e.key≠kv) ∨
 ∃ j e p,(Instr.findKey kt kv es).run P w = .ok (some (j,e.val)) w∧es[j]? = some e∧m[j]? = some p∧e.key=kv∧zdm kv m=some p.2 ∧ ∀ y,zfk kv y m=m.set j (kv,y):=by
 obtain⟨fs,hfs⟩:=K.st
 cases es with
 | nil =>
  have:m=[]:=by simpa using h.symm
  subst this;exact .inl ⟨by simp [Instr.findKey,run_underlying hfs,Instr.findNow],rfl,fun _=>rfl,by simp⟩
 | cons e es =>
  have hrun:(Instr.findKey kt kv (e :: es)).run P w=(Instr.findAsking kt kv (e :: es)).run P w:=by
   simp [Instr.findKey,run_underlying hfs,zgM]
  rw [hrun]
  rcases zgN hr K hk (e :: es) m 0 h hN with a | ⟨j,e',p',a1,a2⟩
  · exact .inl a
  · exact .inr ⟨j,e',p',by simpa using a1,a2⟩

theorem znF (hr:Rel G σ H w) {t:TypeId} {x y ix:AV} {ok:Bool} {vx vi:Value} (h:zaO P H t x ix ok=some y) (hx:RelV σ H w x vx) (hi:RelV σ H w ix vi) :
 ∃ v,(Instr.lookup t vx vi ok).run P w = .ok v w∧RelV σ H w y v:=by
 unfold zaO at h;split at h
 case h_2=>cases h
 rename_i kt et b kv hu hkv;obtain rfl:=AV.key?_rel hkv hi;split at h
 case h_2=>cases h
 rename_i m hm;split at h
 case isFalse=>cases h
 rename_i hc
 obtain⟨sh,K,hk,hN⟩:=hc
 cases hx with | mp hb =>
 obtain⟨vs,S,es,clock,_,hw,hE,_,_,_,hsz,hent⟩:=zgj hr hm
 obtain⟨cs,hcs,hrz⟩:=hk
 have hchk:=K.check w es.isEmpty _ (hrz.k hr);rw [←hcs] at hchk
 rcases run_findKey hr K ⟨cs,hcs,hrz⟩ hE hN with ⟨hf,h2,_⟩ | ⟨j,e,p,hf,hj,hp,hpk,h2,_⟩
 · rw [h2] at h;split at h
   · rename_i h3 _;cases h3
   · rename_i z _ hz
     obtain⟨v,hv1,hv2⟩:=zcT (σ:=σ) (H:=H) (w:=w) hz
     cases h
     refine⟨if ok then .tuple #[v,.bool false] else v,?_,?_⟩
     · unfold Instr.lookup;simp only [Sem.run_bind,run_underlying hu,Result.andThen_ok,Sem.run_pure,MapKept.run_getObj_map hw,hchk,hf,hv1]
     · cases ok
       · exact hv2
       · refine .tup _ (by simp) fun i x v' h1 h2' => ?_
         rcases i with _ | _ | i
         · simp at h1 h2';subst h1;subst h2';exact hv2
         · simp at h1 h2';subst h1;subst h2';exact .p (.s _ rfl)
         · simp at h1
   · cases h
 · obtain⟨q1,q2⟩:=hent j e p (by simpa using hj) hp
   rw [h2] at h;split at h
   · rename_i v _ h3 _;cases h3;cases h
     refine⟨if ok then .tuple #[e.val,.bool true] else e.val,?_,?_⟩
     · unfold Instr.lookup;simp only [Sem.run_bind,run_underlying hu,Result.andThen_ok,Sem.run_pure,MapKept.run_getObj_map hw,hchk,hf]
     · cases ok
       · exact q2
       · refine .tup _ (by simp) fun i x v' h1 h2' => ?_
         rcases i with _ | _ | i
         · simp at h1 h2';subst h1;subst h2';exact q2
         · simp at h1 h2';subst h1;subst h2';exact .p (.s _ rfl)
         · simp at h1
   · rename_i h3 _;cases h3
   · cases h

theorem zgO : ∀ {sh:List Bool} {vs:List Value},RowZ H sh vs → ∀ n,(vs.zip vs).all (fun (x,y)=>Instr.sameBits n x y)=true
 | [],[],_,_=>rfl
 | p :: sh,v :: vs,⟨h1,h2⟩,n=>by
  simp only [List.zip_cons_cons,List.all_cons,zgO h2 n,Bool.and_true]
  cases p with
  | false=>obtain⟨m,rfl⟩:=h1;cases n<;>simp [Instr.sameBits]
  | true=>obtain⟨g,rfl,_⟩:=h1;cases n<;>simp [Instr.sameBits,ptA]

theorem zrQ (hr:Rel G σ H w) {t:TypeId} {x y ix:AV} {H':Hp} {vx vi vy:Value} (h:zdn P H t x ix y=some H') (hx:RelV σ H w x vx) (hi:RelV σ H w ix vi) (hy:RelV σ H w y vy) :
 ∃ w',(Instr.mapUpdate t vx vi vy).run P w = .ok () w'∧Rel G σ H' w'∧Ev H.n σ H w σ H' w':=by
 unfold zdn at h;split at h
 case h_2=>cases h
 rename_i kt et b kv hu hkv;obtain rfl:=AV.key?_rel hkv hi;split at h
 case h_2=>cases h
 rename_i m hm;split at h
 case isFalse=>cases h
 rename_i hc
 obtain⟨sh,K,hk,hN⟩:=hc
 cases h
 cases hx with | mp hb =>
 obtain⟨vs,S,es,clock,hf0,hw,hkk,hnd,hborn,hclk,hsz,hent⟩:=zgj hr hm
 obtain⟨cs,hcs,hrz⟩:=hk
 have hchk:=K.check w false _ (hrz.k hr);rw [←hcs] at hchk
 have hset : ∀ o,(setObj (σ.c b) o).run P w = .ok () (w.putObj (σ.c b) o):=fun o=>MapKept.run_setObj_map o hw
 rcases run_findKey hr K ⟨cs,hcs,hrz⟩ hkk hN with ⟨hfind,_,hput,hne⟩ | ⟨j,e,p,hfind,hj,hp,hkey,_,hput⟩
 · refine⟨w.putObj (σ.c b) (.map (es.push { key:=vi,val:=vy,born:=clock }) (clock+1)),?_,?_⟩
   · unfold Instr.mapUpdate;simp [run_underlying hu,MapKept.run_getObj_map hw,hchk,hfind,hset]
   · rw [hput];refine zbW hr hf0 hw rfl (S':=zfF ((m++[(vi,y)]).map (·.1))) (o' := .map (es.push { key:=vi,val:=vy,born:=clock }) (clock+1)) (vs':=(m++[(vi,y)]).map (·.2)) (us:=(es.push { key:=vi,val:=vy,born:=clock }).map (·.val)) ⟨by simp [hsz],fun i x v h1 h2 => ?_⟩ rfl ?_
     · by_cases hi:i < m.length
       · have hp:m[i]? = some m[i]:=by simp [hi]
         have he:es[i]? = some es[i]:=by simp [hsz,hi]
         simp [List.getElem?_append_left,hi,hp] at h1;simp [Array.getElem?_push,hsz,Nat.ne_of_lt hi,he,hi] at h2;subst h1;subst h2;exact (hent i es[i] m[i] he hp).2
       · have:i=m.length:=by
          have:=(List.getElem?_eq_some_iff.1 h1).1
          simp at this;omega
         subst this;simp at h1;rw [Array.map_push,Array.getElem?_push,Array.size_map,if_pos hsz.symm] at h2;simp at h2;subst h1;subst h2;exact hy
     · refine⟨_,_,rfl,by simp [hkk],by simp,?_,?_,fun e he => ?_⟩
       · simp only [List.map_append,List.map_cons,List.map_nil];rw [List.nodup_append]
         refine⟨hnd,by simp,fun a ha b hb => ?_⟩
         simp only [List.mem_singleton] at hb;subst hb;rw [←hkk] at ha
         obtain⟨e',h1,h2⟩:=List.mem_map.1 ha
         exact fun h=>hne e' h1 (h2.trans h)
       · simp only [Array.toList_push,List.map_append,List.map_cons,List.map_nil];rw [List.nodup_append]
         refine⟨hborn,by simp,fun a ha b hb => ?_⟩
         simp only [List.mem_singleton] at hb;subst hb
         obtain⟨e',h1,h2⟩:=List.mem_map.1 ha
         have:=hclk e' h1
         omega
       · simp only [Array.toList_push,List.mem_append,List.mem_singleton] at he
         rcases he with he | rfl
         · exact Nat.lt_succ_of_lt (hclk e he)
         · exact Nat.lt_succ_self _
 · have hj':es[j]? = some e:=by simpa using hj
   have hjl:j < es.size:=(Array.getElem?_eq_some_iff.1 hj').1
   obtain⟨h1,h2⟩:=hent j e p hj' hp
   have hst:(Instr.keyThatStays vi vi).run P w = .ok vi w:=by
    have:Instr.sameBits 10000 vi vi=true:=by
     rw [hcs,show 10000=9999+1 from rfl,Instr.sameBits];simp only [BEq.rfl,Bool.true_and];exact zgO hrz 9999
    simp [Instr.keyThatStays,this]
   refine⟨w.putObj (σ.c b) (.map (es.modify j fun e => { e with key:=vi,val:=vy }) clock),?_,?_⟩
   · unfold Instr.mapUpdate;simp [run_underlying hu,MapKept.run_getObj_map hw,hchk,hfind,hset,hj',hkey,hst]
   · rw [hput]
     have hkeys':(es.modify j fun e => { e with key:=vi,val:=vy }).toList.map (·.key)=es.toList.map (·.key):=by
      apply List.ext_getElem?;intro i;simp only [List.getElem?_map,Array.getElem?_toList,Array.getElem?_modify];by_cases hij:j=i
      · subst hij;simp [hj',hkey]
      · simp [hij]
     have hborn':(es.modify j fun e => { e with key:=vi,val:=vy }).toList.map (·.born)=es.toList.map (·.born):=by
      apply List.ext_getElem?;intro i;simp only [List.getElem?_map,Array.getElem?_toList,Array.getElem?_modify];by_cases hij:j=i
      · subst hij;simp [hj']
      · simp [hij]
     have hjm:j < m.length:=(List.getElem?_eq_some_iff.1 hp).1
     have hm':(m.set j (vi,y)).map (·.1)=m.map (·.1):=by
      apply List.ext_getElem?;intro i;simp only [List.getElem?_map,List.getElem?_set];by_cases hij:j=i
      · subst hij
        have e0:m[j]=p:=by simpa [hjm] using hp
        simp [hjm,e0,←h1,hkey]
      · simp [hij]
     refine zbW hr hf0 hw rfl (S':=zfF ((m.set j (vi,y)).map (·.1))) (o' := .map (es.modify j fun e => { e with key:=vi,val:=vy }) clock) (vs':=(m.set j (vi,y)).map (·.2)) (us:=(es.modify j fun e => { e with key:=vi,val:=vy }).map (·.val)) ⟨by simp [hsz],fun i x v h3 h4 => ?_⟩ rfl ?_
     · simp only [List.getElem?_map,List.getElem?_set,Array.getElem?_map,Array.getElem?_modify,Option.map_eq_some_iff] at h3 h4
       obtain⟨q,hq,rfl⟩:=h3
       obtain⟨f,hf,rfl⟩:=h4
       by_cases hij:j=i
       · subst hij;simp [hjm] at hq;simp [hj'] at hf;subst hq;subst hf;exact hy
       · simp [hij] at hq hf;exact (hent i f q hf hq).2
     · exact⟨_,_,rfl,by rw [hkeys',hkk,hm'],by simp,by rw [hm'];exact hnd,by rw [hborn'];exact hborn,fun e' he'=>by
        have:e'.born∈es.toList.map (·.born):=by rw [←hborn'];exact List.mem_map.2 ⟨e',he',rfl⟩
        obtain⟨e2,h5,h6⟩:=List.mem_map.1 this
        rw [←h6];exact hclk e2 h5⟩
end rel

def zAy (P:Program) (d:Option TypeDesc):Bool :=
 match d with
 | some (.struct fs)=>fs.any fun f=>match P.underlying f.type with | some (.pointer _)=>true | _=>false
 | _=>false
def zAz (P:Program) (d:Option TypeDesc):Bool :=
 match d with
 | some (.map kt _)=>zAy P (P.underlying kt)
 | _=>false
def zbE (P:Program) (t:TypeId):Bool:=zAz P (P.underlying t)
noncomputable def zaP (P:Program) (gm:Nat → Option (List (Value × AV))) (H:Hp) (t:TypeId) (x ix:AV) (ok:Bool):Option AV :=
 if zbE P t=true then zaO P H t x ix ok else zbD P gm H t x ix ok
noncomputable def zbm (P:Program) (H:Hp) (t:TypeId) (x ix y:AV):Option Hp :=
 if zbE P t=true then zdn P H t x ix y else zdV P H t x ix y
theorem zkQ {P:Program} {gm:Nat → Option (List (Value × AV))} {H:Hp} {t:TypeId} {x ix:AV} {ok:Bool}:zaP P gm H t x ix ok=if zbE P t=true then zaO P H t x ix ok else zbD P gm H t x ix ok:=rfl
theorem zkR {P:Program} {H:Hp} {t:TypeId} {x ix y:AV}:zbm P H t x ix y=if zbE P t=true then zdn P H t x ix y else zdV P H t x ix y:=rfl
theorem zjp {P:Program} {G:Globs} {σ:Gh} {H:Hp} {w:World} (hr:Rel G σ H w) {t:TypeId} {x ix y:AV} {ok:Bool} {vx vi:Value} (h:zaP P G.map H t x ix ok=some y) (hx:RelV σ H w x vx) (hi:RelV σ H w ix vi) :
 ∃ v,(Instr.lookup t vx vi ok).run P w = .ok v w∧RelV σ H w y v:=by
 unfold zaP at h;split at h
 · exact znF hr h hx hi
 · exact zkM hr h hx hi
theorem zeR {P:Program} {G:Globs} {σ:Gh} {H:Hp} {w:World} (hr:Rel G σ H w) {t:TypeId} {x ix y:AV} {H':Hp} {vx vi vy:Value} (h:zbm P H t x ix y=some H') (hx:RelV σ H w x vx) (hi:RelV σ H w ix vi) (hy:RelV σ H w y vy) :
 ∃ w',(Instr.mapUpdate t vx vi vy).run P w = .ok () w'∧Rel G σ H' w'∧Ev H.n σ H w σ H' w':=by
 unfold zbm at h;split at h
 · exact zrQ hr h hx hi hy
 · exact zkN hr h hx hi hy
end Go.AL

namespace Go.AL
open Go

def zgk (P:Program) (f:FuncId):Option String :=
  match P.funcs[f]? with
  | some fn => if fn.body.isNone && fn.origin == "" then some fn.name else none
  | none=>none

def zjq:List AV → Option (List Int)
 | []=>some []
 | .p (.s (.int .u64 n)) :: xs=>(zjq xs).map (n :: ·)
 | _=>none

def zh0 (nm:String) (args:List AV):Option AV :=
  match zjq args with
  | some [x,y,c] =>
    if 0≤x∧0≤y∧0≤c∧c≤1 then
      if nm = "math/bits.Add64" then some (.tup [.p (.s (.int .u64 ((x.toNat + y.toNat + c.toNat) % 2 ^ 64 : Nat))), .p (.s (.int .u64 ((x.toNat + y.toNat + c.toNat) / 2 ^ 64 : Nat)))])
      else if nm = "math/bits.Sub64" then some (.tup [.p (.s (.int .u64 ((x.toNat + 2 ^ 64 - y.toNat - c.toNat) % 2 ^ 64 : Nat))), .p (.s (.int .u64 (if x.toNat < y.toNat + c.toNat then 1 else 0 : Nat)))])
      else none
    else none
  | _=>none

theorem zkS {σ H w} : ∀ {args:List AV} {ns:List Int} {vs:Array Value},zjq args=some ns → RelVs σ H w args vs → vs.toList=ns.map (Value.int .u64)
 | [],ns,vs,h,hv=>by
  simp only [zjq,Option.some.injEq] at h;subst h
  have:=hv.1
  simp at this;simp [this]
 | x :: xs,ns,vs,h,hv=>by
  obtain⟨l⟩:=vs
  cases l with
  | nil=>have:=hv.1;simp at this
  | cons v vs =>
   cases x with
   | p x =>
    cases x with
    | s u =>
     cases u with
     | int k n =>
      cases k<;>simp only [zjq,Option.map_eq_some_iff] at h<;>try cases h
      rename_i ms hms
      obtain⟨hms,rfl⟩:=hms
      have h0:=hv.2 0 _ v rfl rfl;have ht:=zkS (vs:=⟨vs⟩) hms ⟨by simpa using hv.1,fun i x v a b=>hv.2 (i+1) x v (by simpa using a) (by simpa using b)⟩;simp only at ht
      cases h0 with | p h0 =>
      cases h0;simp [ht]
     | _=>simp [zjq] at h
    | _=>simp [zjq] at h
   | _=>simp [zjq] at h

theorem znG {fn : Func} (h : fn.name = "math/bits.Add64") : Extern.find fn = some (fun args => do
    let (x, y, c) ← Extern.MathBitsCarry.three "Add64" args
    pure (Extern.MathBitsCarry.pair ((x+y+c) % Extern.MathBitsCarry.m64) ((x+y+c) / Extern.MathBitsCarry.m64))):=by
  unfold Extern.find;rw [h]
  kernel_rfl
theorem znH {fn : Func} (h : fn.name = "math/bits.Sub64") : Extern.find fn = some (fun args => do
    let (x, y, b) ← Extern.MathBitsCarry.three "Sub64" args
    pure (Extern.MathBitsCarry.pair ((x+Extern.MathBitsCarry.m64 - y - b) % Extern.MathBitsCarry.m64) (if x < y+b then 1 else 0))):=by
  unfold Extern.find;rw [h]
  kernel_rfl
theorem zvX (nm:String) (x y c:Value):Extern.MathBitsCarry.three nm #[x,y,c]=(do
    let c:=(←asInt c).toNat
    if c > 1 then unsupported (.noEntry ("extern/math/bits." ++ nm ++ ": a carry that is neither 0 nor 1"))
    pure ((←asInt x).toNat,(←asInt y).toNat,c)):=rfl

theorem ziG {P:Program} {w:World} (nm:String) {k1 k2 k3:IntKind} (x y c:Int) (hc : ¬ 1 < c.toNat):(Extern.MathBitsCarry.three nm #[.int k1 x,.int k2 y,.int k3 c]).run P w = .ok (x.toNat,y.toNat,c.toNat) w:=by
 rw [zvX];simp only [asInt,asIntOf,Sem.run_bind,Sem.run_pure,Result.andThen_ok,gt_iff_lt,hc,if_false]

theorem ziH {fn : Func} (n : String) (h : fn.name = n) (ho : fn.origin = "") (h1 : (Extern.allNextRows.lookup n).isNone = true) : Extern.findNext fn = none := by
  unfold Extern.findNext;rw [h,ho]
  have h2 : (Extern.allNextRows.lookup "").isNone = true := by kernel_rfl
  simp only [Option.isNone_iff_eq_none] at h1 h2;simp [h1,h2]

theorem zAA {P:Program} {σ:Gh} {H:Hp} {w:World} {f:FuncId} {nm:String} {args:List AV} {y:AV} {vs:Array Value} (hn:zgk P f=some nm) (h:zh0 nm args=some y) (hv:RelVs σ H w args vs) :
 ∃ v,(callFunc f vs).run P w = .ok (.value v) w∧RelV σ H w y v:=by
 unfold zgk at hn;split at hn
 case h_2=>cases hn
 rename_i fn hf;split at hn
 case isFalse=>cases hn
 rename_i hc;cases hn;simp only [Bool.and_eq_true,beq_iff_eq] at hc
 obtain⟨hb,ho⟩:=hc
 unfold zh0 at h;split at h
 case h_2=>cases h
 rename_i x y' c hu;have hl:=zkS hu hv
 obtain rfl:vs = #[.int .u64 x,.int .u64 y',.int .u64 c]:=by
  apply Array.ext'
  simpa using hl
 split at h
 case isFalse=>cases h
 rename_i hr
 have hc1 : ¬ 1 < c.toNat:=by omega
 split at h
 · rename_i he;cases h;have hr:=run_callFunc_extern hf (by rw [he];decide) hb (ziH _ he ho (by kernel_rfl)) (znG he) #[.int .u64 x,.int .u64 y',.int .u64 c] w
   refine⟨.tuple #[.int .u64 ((x.toNat+y'.toNat+c.toNat) % 2 ^ 64:Nat),.int .u64 ((x.toNat+y'.toNat+c.toNat) / 2 ^ 64:Nat)],?_,.tup _ rfl fun i x v h1 h2 => ?_⟩
   · rw [hr];simp only [Sem.run_bind,ziG _ _ _ _ hc1,Result.andThen_ok,Sem.run_pure];rfl
   · rcases i with _ | _ | i
     · simp at h1 h2;subst h1;subst h2;exact .p (.s _ rfl)
     · simp at h1 h2;subst h1;subst h2;exact .p (.s _ rfl)
     · simp at h1
 · split at h
   case isFalse=>cases h
   rename_i he;cases h;have hr:=run_callFunc_extern hf (by rw [he];decide) hb (ziH _ he ho (by kernel_rfl)) (znH he) #[.int .u64 x,.int .u64 y',.int .u64 c] w
   refine⟨.tuple #[.int .u64 ((x.toNat+2 ^ 64 - y'.toNat - c.toNat) % 2 ^ 64:Nat),.int .u64 (if x.toNat < y'.toNat+c.toNat then 1 else 0:Nat)],?_,.tup _ rfl fun i x v h1 h2 => ?_⟩
   · rw [hr];simp only [Sem.run_bind,ziG _ _ _ _ hc1,Result.andThen_ok,Sem.run_pure];rfl
   · rcases i with _ | _ | i
     · simp at h1 h2;subst h1;subst h2;exact .p (.s _ rfl)
     · simp at h1 h2;subst h1;subst h2;exact .p (.s _ rfl)
     · simp at h1

end Go.AL

namespace Go.AL
open Go

inductive SRes where
 | val (x:AV) (H:Hp)
 | unit (H:Hp)
 | call (f:FuncId) (args:List AV)
 | yield (b:Nat) (args:List AV)
 | fail

def vH (x:Option AV) (H:Hp):SRes:=match x with | some x => .val x H | none => .fail
def vHH (x:Option (AV × Hp)):SRes:=match x with | some (x,H) => .val x H | none => .fail
def uH (x:Option Hp):SRes:=match x with | some H => .unit H | none => .fail

def zaB (P:Program) (t:TypeId) (v:Value):AV :=
 match v with
 | .slice a l c=>if a.isNone && l == 0 && c == 0 then (match P.underlying t with | some (.slice e) => .p (.sl true (P.cellsOf e) []) | _ => .p (.sl true 0 [])) else .p (.s (.slice a l c))
 | v=>yr v

def za3 (P:Program) (G:Globs) (env:Env) (t:TypeId) (x:Operand):AV :=
 match x with
 | .const v=>zaB P t v
 | x=>yg G env x

theorem zdo {σ:Gh} {H:Hp} {w:World} {u v:Value} (h:RelV σ H w (.p (.s u)) v):v=u:=by
 cases h with | p h=>cases h;rfl

def zbF (v:Value):AV:=match v with | .slice none 0 0 => .p (.s (.slice none 0 0)) | v=>yr v
def zbe (P:Program) (t:TypeId) (v:Value):AV:=match v with | .slice none 0 0 => .p (.s (.slice none 0 0)) | v=>zaB P t v
def zgP (G:Globs) (env:Env) (x:Operand):AV:=match x with | .const v=>zbF v | x=>yg G env x
def zjr (P:Program) (G:Globs) (env:Env) (t:TypeId) (x:Operand):AV:=match x with | .const v=>zbe P t v | x=>za3 P G env t x

def yV (P:Program) (G:Globs) (env:Env):List Operand → List TypeId → List AV
 | [],_=>[]
 | x :: xs,[]=>yg G env x :: yV P G env xs []
 | x :: xs,t :: ts=>zjr P G env t x :: yV P G env xs ts

def yW (G:Globs) (env:Env):List (Nat × Operand) → List (Nat × AV)
 | []=>[]
 | (i,x) :: r=>(i,yg G env x) :: yW G env r

def zbn (G:Globs) (env:Env):List Operand → List AV
 | []=>[]
 | x :: r=>yg G env x :: zbn G env r

def enters (P : Program) (f : FuncId) : Bool := match P.funcs[f]? with | some fn => fn.body.isSome && !(fn.name == "runtime.NumGoroutine") | none => false

open Classical in
noncomputable def ziI (P:Program) (t:TypeId) (xs ys:List PV):Option Bool :=
 if P.keyTypeAt 64 t && !P.eqGuardType P.depth t && yj P t then
  match zcS xs,zcS ys with
  | some a,some b=>match P.keyLits 64 t a,P.keyLits 64 t b with
   | some la,some lb=>some (decide (la=lb))
   | _,_=>none
  | _,_=>none
 else none

theorem zfJ {P:Program} {t:TypeId} {d:Nat} {cs:List Value} {l:List Lit} (ht:yj P t=true) (h:P.keyLits d t cs=some l):cs.length=P.cellsOf t∧((∃ n e,P.underlying t=some (.array n e)) ∨ ∃ fs,P.underlying t=some (.struct fs)):=by
 cases d with
 | zero=>simp [Program.keyLits] at h
 | succ d =>
  unfold yj at ht;split at ht
  case h_2=>cases ht
  rename_i k hk
  cases k<;>simp [yd] at ht
  · rename_i n e;unfold Program.keyLits at h;simp only [hk] at h;split at h
    · rename_i hl;exact⟨hl,.inl ⟨n,e,hk⟩⟩
    · cases h
  · rename_i fs;unfold Program.keyLits at h;simp only [hk] at h;split at h
    · rename_i hl;exact⟨hl.1,.inr ⟨fs,hk⟩⟩
    · cases h

open Classical in
theorem zrR {P:Program} {t:TypeId} {xs ys:List PV} {r:Bool} {w:World} {S:Nat → Nat → Prop} {vx vy:Value} (h:ziI P t xs ys=some r) (hx:RelP w S (.agg xs) vx) (hy:RelP w S (.agg ys) vy) (op:BinOp) (xo yo:Operand) :
 (eqGuard op t xo yo vx vy).run P w = .ok () w∧(Op.equal t vx vy).run P w = .ok r w∧(∃ vs,vx = .agg vs) ∧ ∃ us,vy = .agg us:=by
 cases hx with | agg _ vs hl _ hr =>
 cases hy with | agg _ us hl' _ hr' =>
 unfold ziI at h;split at h
 case isFalse=>cases h
 rename_i hc;simp only [Bool.and_eq_true,Bool.not_eq_true'] at hc
 obtain⟨⟨hk,hg⟩,ha⟩:=hc
 split at h
 case h_2=>cases h
 rename_i a b e1 e2;split at h
 case h_2=>cases h
 rename_i la lb f1 f2;cases h;have q1:vs.toList=a:=zdU e1 (by simpa using hl) (fun i x v e e'=>hr i x v e (by simpa using e'));have q2:us.toList=b:=zdU e2 (by simpa using hl') (fun i x v e e'=>hr' i x v e (by simpa using e'))
 obtain⟨g1,g2⟩:=zfJ ha f1
 obtain⟨g3,_⟩:=zfJ ha f2
 have fm : ∀ {ws:Array Value},ws.size=P.cellsOf t → (Value.agg ws).formed P t=true:=fun hs=>by
  rcases g2 with ⟨n,e,hu⟩ | ⟨fs,hu⟩<;>simp [Value.formed,hu,hs]
 have fx:=fm (ws:=vs) (by rw [←Array.length_toList,q1,g1]);have fy:=fm (ws:=us) (by rw [←Array.length_toList,q2,g3])
 refine⟨?_,?_,⟨vs,rfl⟩,us,rfl⟩
 · unfold eqGuard
   cases op<;>simp [hg]
 · obtain⟨r,hr,hiff⟩:=run_equalIn_deep 9936 64 t hk w 64 64 (.agg vs) (.agg us) la lb fx fy (by simpa [Value.cells,q1] using f1) (by simpa [Value.cells,q2] using f2)
   by_cases he:la=lb
   · rw [decide_eq_true he,←hiff.2 he];exact hr
   · cases r with
     | false=>rw [decide_eq_false he];exact hr
     | true=>exact absurd (hiff.1 rfl) he

def znI:AV → Bool
 | .p (.sl _ _ (_ :: _))=>true
 | .sl _ _ _ (_ :: _)=>true
 | .ref .. => true
 | .vr _ (_+1) _=>true
 | _=>false

theorem znJ {σ:Gh} {H:Hp} {w:World} {x:AV} {v:Value} (h:znI x=true) (hr:RelV σ H w x v) : ∃ a l c,v = .slice (some a) l c:=by
 unfold znI at h;split at h
 · cases hr with | p hr=>cases hr;exact⟨_,_,_,rfl⟩
 · cases hr with | sl hr _=>cases hr;exact⟨_,_,_,rfl⟩
 · cases hr;exact⟨_,_,_,rfl⟩
 · cases hr with | vr hr =>
   obtain⟨_,a,c,rfl,ha,_⟩:=hr
   have:=ha (by omega)
   cases a with
   | none=>cases this
   | some a=>exact⟨_,_,_,rfl⟩
 · cases h

noncomputable def zI (P:Program) (op:BinOp) (t:TypeId) (x y:AV):Option AV :=
 match x,y with
 | .p (.s a),.p (.s b)=>(zak P op t a b).map fun v => .p (.s v)
 | .p (.agg xs),.p (.agg ys)=>match op with
  | .eql=>(ziI P t xs ys).map fun r => .p (.s (.bool r))
  | .neq=>(ziI P t xs ys).map fun r => .p (.s (.bool !r))
  | _=>none
 | .clo _ _ _,.p (.s .nilFunc)=>if zgi P t then (match op with
  | .eql=>some (.p (.s (.bool false)))
  | .neq=>some (.p (.s (.bool true)))
  | _=>none) else none
 | .ptr _ _,.p (.s (.pointer none))=>if zen P t then (match op with
  | .eql=>some (.p (.s (.bool false)))
  | .neq=>some (.p (.s (.bool true)))
  | _=>none) else none
 | x,.p (.s (.slice none 0 0))=>if zdf P t && znI x then (match op with
  | .eql=>some (.p (.s (.bool false)))
  | .neq=>some (.p (.s (.bool true)))
  | _=>none) else none
 | _,_=>none

def aUn (op:UnOp) (x:AV):Option AV :=
 match x with
 | .p (.s a)=>(vUn op a).map fun v => .p (.s v)
 | _=>none

def zck (P:Program) (H:Hp) (s d:TypeId) (x:AV):Option AV :=
 match P.underlying s,P.underlying d with
 | some (.slice _),some .string=>zbP P H s d x
 | some .string,some (.slice _)=>zdT P s d x
 | _,_=>if (P.underlying s).isSome then (match x with | .p (.s a)=>(zfI P d a).map fun v => .p (.s v) | _=>none) else none

def zcl (big:Bool) (x y:AV):Option AV :=
 match x,y with
 | .p (.s (.int k a)),.p (.s (.int k' b))=>if k=k' then some (.p (.s (.int k (if big then max a b else min a b)))) else none
 | _,_=>none

def isIface (P:Program) (t:TypeId):Bool:=match P.underlying t with | some (.interface _) | none=>true | _=>false

def zrS (x:AV):Option AV :=
 match x with
 | .ptr b off=>some (.ptr b off)
 | .ip sz xs i sub=>some (.ip sz xs i sub)
 | .clo f a c=>some (.clo f a c)
 | .vp b k off=>some (.vp b k off)
 | .p (.s (.pointer (some a)))=>some (.p (.s (.pointer (some a))))
 | _=>none

def zvY (P:Program) (t:TypeId):Bool:=match P.underlying t with | some (.interface _) | none=>false | _=>true
def zgl (P:Program) (t:TypeId) (ok:Bool) (x:AV):Option AV :=
 if zvY P t && ok then
  match x with
  | .p (.s .nilIface)=>(za7 P t).map fun z => .tup [z,.p (.s (.bool false))]
  | .p (.s (.iface d (.int k n)))=>if d=t then some (.tup [.p (.s (.int k n)),.p (.s (.bool true))]) else (za7 P t).map fun z => .tup [z,.p (.s (.bool false))]
  | _=>none
 else none
theorem zgQ {σ:Gh} {H:Hp} {w:World} {x y:AV} {u v:Value} (h1:RelV σ H w x u) (h2:RelV σ H w y v):RelV σ H w (.tup [x,y]) (.tuple #[u,v]) :=
 .tup _ rfl fun i a b ha hb=>by
  match i with
  | 0=>simp at ha hb;subst ha;subst hb;exact h1
  | 1=>simp at ha hb;subst ha;subst hb;exact h2
  | _+2=>simp at ha
theorem zkT {P:Program} {σ:Gh} {H:Hp} {w:World} {t:TypeId} {ok:Bool} {x y:AV} {v:Value} (xt:TypeId) (h:zgl P t ok x=some y) (hx:RelV σ H w x v) : ∃ u,(Instr.typeAssert v xt t ok).run P w = .ok u w∧RelV σ H w y u:=by
 unfold zgl at h;split at h
 case isFalse=>cases h
 rename_i hc;simp only [Bool.and_eq_true] at hc
 obtain⟨hc,rfl⟩:=hc
 unfold zvY at hc
 cases hu:P.underlying t with
 | none=>simp [hu] at hc
 | some d =>
  rw [hu] at hc;split at h
  · have:=zdo hx
    subst this;simp only [Option.map_eq_some_iff] at h
    obtain⟨z,hz,rfl⟩:=h
    obtain⟨u,h1,h2⟩:=zcT (σ:=σ) (H:=H) (w:=w) hz
    refine⟨.tuple #[u,.bool false],?_,zgQ h2 (.p (.s _ rfl))⟩
    cases d<;>first | (simp at hc;done) | simp [Instr.typeAssert,run_underlying hu,h1]
  · have:=zdo hx
    subst this;split at h
    · rename_i e;subst e;cases h
      refine⟨_,?_,zgQ (.p (.s _ rfl)) (.p (.s _ rfl))⟩
      cases d<;>first | (simp at hc;done) | simp [Instr.typeAssert,run_underlying hu]
    · rename_i e;simp only [Option.map_eq_some_iff] at h
      obtain⟨z,hz,rfl⟩:=h
      obtain⟨u,h1,h2⟩:=zcT (σ:=σ) (H:=H) (w:=w) hz
      refine⟨.tuple #[u,.bool false],?_,zgQ h2 (.p (.s _ rfl))⟩
      cases d<;>first | (simp at hc;done) | simp [Instr.typeAssert,run_underlying hu,h1,e]
  · cases h

def zV (P:Program) (G:Globs) (env:Env) (H:Hp) (b:Builtin) (args:List Operand) (ts:List TypeId):SRes :=
 match b,args,ts with
 | .len,[x],[t]=>vH (zCY P t (yg G env x)) H
 | .append,[s,x],[t,u]=>vHH (zeO P H t u (za3 P G env t s) (za3 P G env u x))
 | .copy,[d,s],[t,_]=>vHH (zkJ P H t (yg G env d) (yg G env s))
 | .min,[x,y],_=>vH (zcl false (yg G env x) (yg G env y)) H
 | .max,[x,y],_=>vH (zcl true (yg G env x) (yg G env y)) H
 | _,_,_ => .fail

def zbX (P:Program) (fn:FuncId) (args:List AV) (H:Hp):SRes:=match zgk P fn with | some nm=>vH (zh0 nm args) H | none => .fail

def zaQ (P:Program) (G:Globs) (env:Env) (c:Call) (f:AV) (H:Hp):SRes :=
 match f with
 | .clo fn first captured=>if enters P fn then .call fn (first++yV P G env c.args.toList c.argTypes.toList++captured) else zbX P fn (first++yV P G env c.args.toList c.argTypes.toList++captured) H
 | .yld b => .yield b (yV P G env c.args.toList c.argTypes.toList)
 | _ => .fail

noncomputable def zf (P:Program) (G:Globs) (op:Op) (ty:TypeId) (env:Env) (H:Hp):SRes :=
 match op with
 | .move x => .val (za3 P G env ty x) H
 | .assign x => .val (za3 P G env ty x) H
 | .alloc t=>match zJ P t with | some ps => .val (.ptr H.n 0) (H.new (.cells (ps.map .p))) | none => .fail
 | .box _ x=>match zj (yg G env x) with | some cs => .val (.ptr H.n 0) (H.new (.cells cs)) | none => .fail
 | .build t parts=>vH (ya P t (yW G env parts.toList)) H
 | .buildSlice t n parts=>vHH (zaH P H t n (yW G env parts.toList))
 | .load t a=>vH (zcj P H t (zgK H (yg G env a))) H
 | .store t a x=>uH (zfj P H t (yg G env a) (za3 P G env t x))
 | .nilCheck x=>vH (zrS (yg G env x)) H
 | .binOp op t x y _=>vH (zI P op t (zgP G env x) (zgP G env y)) H
 | .unOp op _ x=>vH (aUn op (yg G env x)) H
 | .convert s d x=>vH (zck P H s d (yg G env x)) H
 | .makeInterface t x=>match yg G env x with | .p (.s v)=>if isIface P t then .fail else .val (.p (.s (.iface t v))) H | _ => .fail
 | .makeFunc fn first captured=>match fn with | .func f => .val (.clo f (zbn G env first.toList) (zbn G env captured.toList)) H | _ => .fail
 | .makeSlice t l c=>match l with | .const (.int _ 0)=>vHH (zdk P H t (yg G env l) (yg G env c)) | _=>vHH (zeP P H t (yg G env l) (yg G env c))
 | .slice t x lo hi mx=>vH (zgH P t (yg G env x) (lo.map (yg G env)) (hi.map (yg G env)) (mx.map (yg G env))) H
 | .fieldAddr s x f=>vH (zbT P s (yg G env x) f) H
 | .field s x f=>vH (zgD P s (yg G env x) f) H
 | .indexAddr t x i=>vH (zbS P t (yg G env x) (yg G env i)) H
 | .index t x i=>vH (zaE P t (yg G env x) (yg G env i)) H
 | .extract t i=>match yg G env t with | .tup xs=>vH xs[i]? H | _ => .fail
 | .pick c x y=>match yg G env c with | .p (.s (.bool b)) => .val (if b then za3 P G env ty x else za3 P G env ty y) H | _ => .fail
 | .call c=>match c.callee with
  | .value f=>zaQ P G env c (yg G env f) H
  | .builtin b=>zV P G env H b c.args.toList c.argTypes.toList
  | .invoke _ _ => .fail
 | .makeMap _ r=>match r with | none => .val (.mp H.n) (H.new (.mapB [])) | _ => .fail
 | .lookup t x i ok=>vH (zaP P G.map H t (yg G env x) (yg G env i) ok) H
 | .mapUpdate t x i y | .insert t x i y=>uH (zbm P H t (yg G env x) (yg G env i) (za3 P G env t y))
 | .typeAssert x _ t ok=>vH (zgl P t ok (yg G env x)) H
 | _ => .fail

section sound
variable {P:Program} {G:Globs} {σ:Gh} {H:Hp} {w:World} {env:Env} {nt m:Nat} {a:Act}

theorem zfK {t:TypeId} (v:Value):RelV σ H w (zaB P t v) v:=by
 cases v
 case slice ad l c =>
  simp only [zaB]
  split
  · rename_i h;simp only [Bool.and_eq_true,Option.isNone_iff_eq_none,beq_iff_eq] at h
    obtain⟨⟨rfl,rfl⟩,rfl⟩:=h
    split<;>exact .p (.nil true _)
  · exact .p (.s _ rfl)
 all_goals (unfold zaB;exact zel _)

theorem zaR (hr:Rel G σ H w) (hf:RelF nt m σ H w env a) (t:TypeId) (x:Operand):RelV σ H w (za3 P G env t x) (a.eval x):=by
 cases x with
 | const v=>exact zfK v
 | tmp t=>exact zu hr hf (.tmp t)
 | global g=>exact zu hr hf (.global g)
 | func f=>exact zu hr hf (.func f)

theorem zkU (hr:Rel G σ H w) (hf:RelF nt m σ H w env a) (x:Operand):RelV σ H w (zgP G env x) (a.eval x):=by
 cases x with
 | const v =>
  show RelV σ H w (zbF v) v
  unfold zbF
  split
  · exact .p (.s _ rfl)
  · exact zel _
 | tmp t=>exact zu hr hf (.tmp t)
 | global g=>exact zu hr hf (.global g)
 | func f=>exact zu hr hf (.func f)

theorem zvZ (hr:Rel G σ H w) (hf:RelF nt m σ H w env a) (t:TypeId) (x:Operand):RelV σ H w (zjr P G env t x) (a.eval x):=by
 cases x with
 | const v =>
  show RelV σ H w (zbe P t v) v
  unfold zbe
  split
  · exact .p (.s _ rfl)
  · exact zfK _
 | tmp t=>exact zu hr hf (.tmp t)
 | global g=>exact zu hr hf (.global g)
 | func f=>exact zu hr hf (.func f)

theorem zdW (hr:Rel G σ H w) (hf:RelF nt m σ H w env a) : ∀ (xs:List Operand) (ts:List TypeId),(yV P G env xs ts).length=xs.length ∧ ∀ (i:Nat) x v,(yV P G env xs ts)[i]? = some x → (xs.map a.eval)[i]? = some v → RelV σ H w x v
 | [],ts=>by simp [yV]
 | x :: xs,[]=>by
  obtain⟨h1,h2⟩:=zdW hr hf xs []
  refine⟨by simp [yV,h1],fun i y v hy hv => ?_⟩
  cases i with
  | zero=>simp [yV] at hy hv;subst hy;subst hv;exact zu hr hf x
  | succ i=>simp only [yV,List.getElem?_cons_succ,List.map_cons] at hy hv;exact h2 i y v hy hv
 | x :: xs,t :: ts=>by
  obtain⟨h1,h2⟩:=zdW hr hf xs ts
  refine⟨by simp [yV,h1],fun i y v hy hv => ?_⟩
  cases i with
  | zero=>simp [yV] at hy hv;subst hy;subst hv;exact zvZ hr hf t x
  | succ i=>simp only [yV,List.getElem?_cons_succ,List.map_cons] at hy hv;exact h2 i y v hy hv

theorem zbY (hr:Rel G σ H w) (hf:RelF nt m σ H w env a) : ∀ (ps:List (Nat × Operand)),(yW G env ps).length=ps.length ∧ ∀ (k:Nat) i x j v,(yW G env ps)[k]? = some (i,x) → (ps.map fun p=>(p.1,a.eval p.2))[k]? = some (j,v) → j=i∧RelV σ H w x v
 | []=>by simp [yW]
 | (i,x) :: ps=>by
  obtain⟨h1,h2⟩:=zbY hr hf ps
  refine⟨by simp [yW,h1],fun k i' y j v hy hv => ?_⟩
  cases k with
  | zero =>
   simp [yW] at hy hv
   obtain⟨rfl,rfl⟩:=hy
   obtain⟨rfl,rfl⟩:=hv
   exact⟨rfl,zu hr hf x⟩
  | succ k=>simp only [yW,List.getElem?_cons_succ,List.map_cons] at hy hv;exact h2 k i' y j v hy hv

theorem zfl (hr:Rel G σ H w) (hf:RelF nt m σ H w env a) : ∀ (xs:List Operand),(zbn G env xs).length=xs.length ∧ ∀ (i:Nat) x v,(zbn G env xs)[i]? = some x → (xs.map a.eval)[i]? = some v → RelV σ H w x v
 | []=>by simp [zbn]
 | x :: xs=>by
  obtain⟨h1,h2⟩:=zfl hr hf xs
  refine⟨by simp [zbn,h1],fun i y v hy hv => ?_⟩
  cases i with
  | zero=>simp [zbn] at hy hv;subst hy;subst hv;exact zu hr hf x
  | succ i=>simp only [zbn,List.getElem?_cons_succ,List.map_cons] at hy hv;exact h2 i y v hy hv

theorem zet (hr:Rel G σ H w) (hf:RelF nt m σ H w env a) (x:Option Operand):zeq σ H w (x.map (yg G env)) (x.map a.eval):=by
 cases x with
 | none=>trivial
 | some x=>exact zu hr hf x

theorem znK {f:FuncId} (h:enters P f=true) (vs:Array Value) (w:World):(callFunc f vs).run P w = .ok (.enter f vs) w:=by
  unfold enters at h;split at h
  case h_2=>cases h
  rename_i fn hf;simp only [Bool.and_eq_true,Bool.not_eq_true'] at h
  obtain⟨h1,h2⟩:=h
  have h3 : ¬ fn.body=none:=fun h=>by simp [h] at h1
  have h4 : ¬ fn.name = "runtime.NumGoroutine" := by simpa using h2
  simp [callFunc,hf,h3,h4]

def StepOK (P:Program) (G:Globs) (σ:Gh) (H:Hp) (w:World) (ex:Sem Next):SRes → Prop
 | .val x H' => ∃ v w' σ',ex.run P w = .ok (.value v) w'∧RelV σ' H' w' x v∧Rel G σ' H' w'∧Ev H.n σ H w σ' H' w'
 | .unit H' => ∃ w' σ',ex.run P w = .ok .skip w'∧Rel G σ' H' w'∧Ev H.n σ H w σ' H' w'
 | .call f args => ∃ vs,ex.run P w = .ok (.enter f vs) w∧RelVs σ H w args vs
 | .yield b args => ∃ vs,RelVs σ H w args vs ∧ ∀ f t x y,(Instr.yield (σ.c b) vs).run P w = .ok (.round (σ.c b) f t x y) w → ex.run P w = .ok (.round (σ.c b) f t x y) w
 | .fail=>True

theorem StepOK.read (hr:Rel G σ H w) {x:Option AV} {s:Sem Value} (h : ∀ y,x=some y → ∃ v,s.run P w = .ok v w∧RelV σ H w y v):StepOK P G σ H w (do pure (.value (←s))) (vH x H):=by
 cases x with
 | none=>trivial
 | some y =>
  obtain⟨v,h1,h2⟩:=h y rfl
  exact⟨v,w,σ,by simp [h1],h2,hr,Ev.refl (Nat.le_refl _)⟩

theorem StepOK.make {x:Option (AV × Hp)} {s:Sem Value} (h : ∀ y H',x=some (y,H') → ∃ v w' σ',s.run P w = .ok v w'∧RelV σ' H' w' y v∧Rel G σ' H' w'∧Ev H.n σ H w σ' H' w'):StepOK P G σ H w (do pure (.value (←s))) (vHH x):=by
 cases x with
 | none=>trivial
 | some y =>
  obtain⟨y,H'⟩:=y
  obtain⟨v,w',σ',h1,h2⟩:=h y H' rfl
  exact⟨v,w',σ',by simp [h1],h2⟩

theorem zgR {big:Bool} {X Y z:AV} {vx vy:Value} {ts:Array TypeId} {ty:TypeId} (h:zcl big X Y=some z) (h1:RelV σ H w X vx) (h2:RelV σ H w Y vy) :
 ∃ v,((if big then Builtin.max_ else Builtin.min_) ts ty #[vx,vy]).run P w = .ok v w∧RelV σ H w z v:=by
 unfold zcl at h;split at h
 case h_2=>cases h
 rename_i k i k' j;split at h
 case isFalse=>cases h
 rename_i hk;subst hk;cases h
 have h1':vx = .int k i:=by cases h1 with | p h=>cases h;rfl
 have h2':vy = .int k j:=by cases h2 with | p h=>cases h;rfl
 subst h1' h2'
 refine⟨.int k (if big then max i j else min i j),?_,.p (.s _ rfl)⟩
 cases big
 · simp [Builtin.min_,List.foldlM_cons,List.foldlM_nil,Builtin.min2];omega
 · simp [Builtin.max_,List.foldlM_cons,List.foldlM_nil,Builtin.max2];omega

theorem zh2 (hr:Rel G σ H w) (hf:RelF nt m σ H w env a) (b:Builtin) (args:Array Operand) (ts:Array TypeId) (ty:TypeId) (cs:Array Bool) :
 StepOK P G σ H w (builtin b ts ty cs (args.map a.eval)) (zV P G env H b args.toList ts.toList):=by
 unfold zV
 split
 · rename_i x t hx ht
   have hx':args = #[x]:=by simpa using congrArg List.toArray hx
   have ht':ts = #[t]:=by simpa using congrArg List.toArray ht
   subst hx';subst ht'
   exact .read hr fun y hy=>by simpa using zvV (ty:=ty) hy (zu hr hf x)
 · rename_i s x t u hx ht
   have hx':args = #[s,x]:=by simpa using congrArg List.toArray hx
   have ht':ts = #[t,u]:=by simpa using congrArg List.toArray ht
   subst hx';subst ht'
   exact .make fun y H' hy=>by simpa using zkI (ty:=ty) hr hy (zaR hr hf t s) (zaR hr hf u x)
 · rename_i d s t u hx ht
   have hx':args = #[d,s]:=by simpa using congrArg List.toArray hx
   have ht':ts = #[t,u]:=by simpa using congrArg List.toArray ht
   subst hx';subst ht'
   exact .make fun y H' hy=>by simpa using zrM (u:=u) (ty:=ty) hr hy (zu hr hf d) (zu hr hf s)
 · rename_i x y hx
   have hx':args = #[x,y]:=by simpa using congrArg List.toArray hx
   subst hx'
   refine .read hr fun z hz => ?_
   have h1:=zu hr hf x;have h2:=zu hr hf y
   generalize yg G env x=X at hz h1
   generalize yg G env y=Y at hz h2
   simp only [List.map_toArray,List.map_cons,List.map_nil]
   generalize a.eval x=vx at h1
   generalize a.eval y=vy at h2
   exact zgR (big:=false) (ts:=ts) (ty:=ty) hz h1 h2
 · rename_i x y hx
   have hx':args = #[x,y]:=by simpa using congrArg List.toArray hx
   subst hx'
   refine .read hr fun z hz => ?_
   have h1:=zu hr hf x;have h2:=zu hr hf y
   generalize yg G env x=X at hz h1
   generalize yg G env y=Y at hz h2
   simp only [List.map_toArray,List.map_cons,List.map_nil]
   generalize a.eval x=vx at h1
   generalize a.eval y=vy at h2
   exact zgR (big:=true) (ts:=ts) (ty:=ty) hz h1 h2
 · trivial

theorem zjs (hr:Rel G σ H w) (hf:RelF nt m σ H w env a) (o:Oper):StepOK P G σ H w (execOp a.eval o) (zf P G o.op o.type env H):=by
 obtain⟨dst,op,ty,pos,after,guard⟩:=o
 cases op<;>simp only [zf,execOp]<;>try trivial
 case move x=>exact⟨_,w,σ,rfl,zaR hr hf ty x,hr,Ev.refl (Nat.le_refl _)⟩
 case assign x=>exact⟨_,w,σ,rfl,zaR hr hf ty x,hr,Ev.refl (Nat.le_refl _)⟩
 case alloc t =>
  split
  · rename_i ps hps
    obtain⟨u,w',σ',h1,h2⟩:=zrI hr hps
    exact⟨u,w',σ',by simp [h1],h2⟩
  · trivial
 case box t x =>
  split
  · rename_i cs hcs
    obtain⟨u,w',σ',h1,h2⟩:=zAw (P:=P) (e:=t) hr hcs (zu hr hf x)
    exact⟨u,w',σ',by simp [h1],h2⟩
  · trivial
 case build t parts =>
  refine .read hr fun y hy => ?_
  obtain⟨h1,h2⟩:=zbY hr hf parts.toList
  exact znC hy (by simp [h1]) (fun k i x j v e1 e2=>h2 k i x j v e1 (by simpa using e2))
 case buildSlice t n parts =>
  refine .make fun y H' hy => ?_
  obtain⟨h1,h2⟩:=zbY hr hf parts.toList
  exact zf0 hr hy (by simp [h1]) (fun k i x j v e1 e2=>h2 k i x j v e1 (by simpa using e2))
 case load t x=>exact .read hr fun y hy=>ziy hr hy (zvW hr (zu hr hf x))
 case store t x y =>
  cases h:zfj P H t (yg G env x) (za3 P G env t y) with
  | none=>trivial
  | some H' =>
   obtain⟨w',σ',h1,h2,h3⟩:=zny hr h (zu hr hf x) (zaR hr hf t y)
   exact⟨w',σ',by simp [h1],h2,h3⟩
 case makeMap t r =>
  cases r with
  | some x=>trivial
  | none =>
   obtain⟨v,w',σ',h1,h2,h3,h4⟩:=zkO (P:=P) hr (t:=t)
   exact⟨v,w',σ',by simp [h1],h2,h3,h4⟩
 case lookup t x i ok=>exact .read hr fun y hy=>zjp hr hy (zu hr hf x) (zu hr hf i)
 case mapUpdate t x i y =>
  cases h:zbm P H t (yg G env x) (yg G env i) (za3 P G env t y) with
  | none=>trivial
  | some H' =>
   obtain⟨w',h1,h2,h3⟩:=zeR hr h (zu hr hf x) (zu hr hf i) (zaR hr hf t y)
   exact⟨w',σ,by simp [h1],h2,h3⟩
 case insert t x i y =>
  cases h:zbm P H t (yg G env x) (yg G env i) (za3 P G env t y) with
  | none=>trivial
  | some H' =>
   obtain⟨w',h1,h2,h3⟩:=zeR hr h (zu hr hf x) (zu hr hf i) (zaR hr hf t y)
   exact⟨w',σ,by simp [h1],h2,h3⟩
 case nilCheck x =>
  have hx:=zu hr hf x
  cases h:zrS (yg G env x) with
  | none=>trivial
  | some y =>
   unfold zrS at h;split at h<;>cases h
   · rename_i b off e;rw [e] at hx
     generalize a.eval x=v at hx ⊢
     cases hx with | ptr hb=>exact⟨_,w,σ,rfl,.ptr hb,hr,Ev.refl (Nat.le_refl _)⟩
   · rename_i sz xs i sub e;rw [e] at hx
     generalize a.eval x=v at hx ⊢
     cases hx with | ip hp hi hs=>exact⟨_,w,σ,rfl,.ip hp hi hs,hr,Ev.refl (Nat.le_refl _)⟩
   · rename_i f p c e;rw [e] at hx
     generalize a.eval x=v at hx ⊢
     cases hx with | clo fs cs q1 q2 q3 q4=>exact⟨_,w,σ,rfl,.clo fs cs q1 q2 q3 q4,hr,Ev.refl (Nat.le_refl _)⟩
   · rename_i b k off e;rw [e] at hx
     generalize a.eval x=v at hx ⊢
     cases hx with | vp ad q=>exact⟨_,w,σ,rfl,.vp ad q,hr,Ev.refl (Nat.le_refl _)⟩
   · rename_i ad e;rw [e] at hx
     generalize a.eval x=v at hx ⊢
     cases hx with | p hp =>
     cases hp
     exact⟨_,w,σ,rfl,.p (.s _ rfl),hr,Ev.refl (Nat.le_refl _)⟩
 case binOp op t x y t' =>
  refine .read hr fun z hz => ?_
  have h1:=zkU hr hf x;have h2:=zkU hr hf y;unfold zI at hz;split at hz
  case h_6=>cases hz
  case h_4 =>
   rename_i b off e1 e2;split at hz
   case isFalse=>cases hz
   rename_i hc
   obtain⟨_,hu⟩:=zgz hc
   rw [e1] at h1;rw [e2] at h2;have h2':a.eval y = .pointer none:=zdo h2
   generalize a.eval x=v1 at h1 ⊢
   cases h1 with | ptr hb =>
   rw [h2'];split at hz
   case h_3=>cases hz
   all_goals
    cases hz
    refine⟨_,?_,.p (.s _ rfl)⟩
    rw [Sem.run_bind,yi (by simp) (by simp),Result.andThen_ok];simp only [binOp];rw [Sem.run_bind,zeo hu];rfl
  case h_3 =>
   rename_i e1 e2;split at hz
   case isFalse=>cases hz
   rename_i hc
   obtain⟨_,_,_,hu⟩:=zfG hc
   rw [e1] at h1;rw [e2] at h2;have h2':a.eval y = .nilFunc:=zdo h2
   generalize a.eval x=v1 at h1 ⊢
   cases h1 with | clo fs cs q1 q2 q3 q4 =>
   rw [h2'];split at hz
   case h_3=>cases hz
   all_goals
    cases hz
    refine⟨_,?_,.p (.s _ rfl)⟩
    rw [Sem.run_bind,yi (by simp) (by simp),Result.andThen_ok];simp only [binOp];rw [Sem.run_bind,znv hu];rfl
  case h_5 =>
   rename_i x' e2 hn;split at hz
   case isFalse=>cases hz
   rename_i hc;simp only [Bool.and_eq_true] at hc
   obtain⟨e,hu⟩:=zeN hc.1
   obtain⟨ad,l,c,h1'⟩:=znJ hc.2 h1
   rw [e2] at h2;have h2':a.eval y = .slice none 0 0:=zdo h2;rw [h1',h2'];split at hz
   case h_3=>cases hz
   all_goals
    cases hz
    refine⟨_,?_,.p (.s _ rfl)⟩
    rw [Sem.run_bind,yi (by simp) (by simp),Result.andThen_ok];simp only [binOp];rw [Sem.run_bind,zdg hu];rfl
  case h_2 =>
   rename_i xs ys e1 e2;rw [e1] at h1;rw [e2] at h2
   cases h1 with | p h1 =>
   cases h2 with | p h2 =>
   split at hz
   case h_3=>cases hz
   all_goals
    simp only [Option.map_eq_some_iff] at hz
    obtain⟨r,hr1,rfl⟩:=hz
    refine⟨_,?_,.p (.s _ rfl)⟩
    rename_i hop
    obtain⟨q1,q2,⟨vs,q3⟩,us,q4⟩:=zrR hr1 h1 h2 _ x y
    rw [q3,q4] at q1 q2 ⊢;rw [Sem.run_bind,q1,Result.andThen_ok];simp only [binOp,Sem.run_bind,q2,Result.andThen_ok,Sem.run_pure]
  rename_i u v e1 e2;rw [e1] at h1;rw [e2] at h2
  have h1':a.eval x=u:=by cases h1 with | p h=>cases h;rfl
  have h2':a.eval y=v:=by cases h2 with | p h=>cases h;rfl
  cases hv:zak P op t u v with
  | none=>simp [hv] at hz
  | some r =>
   simp only [hv,Option.map_some,Option.some.injEq] at hz;subst hz;rw [h1',h2']
   refine⟨r,zvS hv x y w,.p (.s _ ?_)⟩
   unfold zak at hv;split at hv
   · split at hv
     · unfold zem at hv;split at hv;· cases hv
       · split at hv<;>cases hv<;>rfl
     · split at hv
       · unfold zbj at hv
         split at hv<;>first | (cases hv;rfl) | (split at hv<;>cases hv;rfl) | (cases hv)
       · cases hv
   · unfold zCX at hv
     split at hv<;>first | (cases hv;rfl) | (split at hv<;>cases hv;rfl) | (cases hv)
   · split at hv
     · split at hv<;>cases hv<;>rfl
     · cases hv
   · split at hv
     · split at hv<;>cases hv<;>rfl
     · cases hv
   · split at hv
     · split at hv<;>cases hv<;>rfl
     · cases hv
   · split at hv
     · split at hv<;>cases hv<;>rfl
     · cases hv
   · cases hv
 case unOp op t x =>
  refine .read hr fun z hz => ?_
  have h1:=zu hr hf x;unfold aUn at hz;split at hz
  case h_2=>cases hz
  rename_i u e1;rw [e1] at h1
  have h1':a.eval x=u:=by cases h1 with | p h=>cases h;rfl
  cases hv:vUn op u with
  | none=>simp [hv] at hz
  | some r =>
   simp only [hv,Option.map_some,Option.some.injEq] at hz;subst hz;rw [h1']
   refine⟨r,zAv hv w,.p (.s _ ?_)⟩
   unfold vUn at hv;split at hv<;>cases hv<;>rfl
 case convert s d x =>
  have h1:=zu hr hf x;unfold zck
  split
  · exact .read hr fun y hy=>zhY hr hy h1
  · cases h:zdT P s d (yg G env x) with
    | none=>trivial
    | some y =>
     obtain⟨v,w',q1,q2,q3,q4⟩:=zhZ hr h h1
     exact⟨v,w',σ,by simp [q1],q2,q3,q4⟩
  · refine .read hr fun z hz => ?_
    split at hz
    case isFalse=>cases hz
    rename_i hs;split at hz
    case h_2=>cases hz
    rename_i u e1;rw [e1] at h1
    have h1':a.eval x=u:=by cases h1 with | p h=>cases h;rfl
    cases hv:zfI P d u with
    | none=>simp [hv] at hz
    | some r =>
     simp only [hv,Option.map_some,Option.some.injEq] at hz;subst hz;rw [h1']
     refine⟨r,zrH hs hv w,.p (.s _ ?_)⟩
     unfold zfI at hv;split at hv<;>cases hv<;>rfl
 case makeInterface t x =>
  have h1:=zu hr hf x
  split
  · rename_i v e1
    split
    · trivial
    · rename_i hi;rw [e1] at h1
      have h1':a.eval x=v:=by cases h1 with | p h=>cases h;rfl
      unfold isIface at hi
      cases hu:P.underlying t with
      | none =>
       simp [hu] at hi
      | some d =>
       rw [hu] at hi
       refine⟨.iface t v,w,σ,?_,.p (.s _ rfl),hr,Ev.refl (Nat.le_refl _)⟩
       cases d<;>first | (simp at hi;done) | simp [Instr.makeInterface,run_underlying hu,h1']
  · trivial
 case typeAssert x xt t ok=>exact .read hr fun y hy=>zkT xt hy (zu hr hf x)
 case makeFunc fn first captured =>
  split
  · rename_i f
    obtain⟨l1,r1⟩:=zfl hr hf first.toList
    obtain⟨l2,r2⟩:=zfl hr hf captured.toList
    exact⟨.func (.func f) (first.map a.eval) (captured.map a.eval),w,σ,rfl,.clo _ _ (by simp [l1]) (by simp [l2]) (fun i x v e1 e2=>r1 i x v e1 (by simpa using e2)) (fun i x v e1 e2=>r2 i x v e1 (by simpa using e2)),hr,Ev.refl (Nat.le_refl _)⟩
  · trivial
 case makeSlice t l c =>
  split
  · exact .make fun y H' hy=>znA hr hy (zu hr hf _) (zu hr hf c)
  · exact .make fun y H' hy=>zrL hr hy (zu hr hf l) (zu hr hf c)
 case slice t x lo hi mx=>exact .read hr fun y hy=>znD hy (zu hr hf x) (zet hr hf lo) (zet hr hf hi) (zet hr hf mx)
 case fieldAddr s x f=>exact .read hr fun y hy=>zgB hy (zu hr hf x)
 case field s x f=>exact .read hr fun y hy=>znw hy (zu hr hf x)
 case indexAddr t x i=>exact .read hr fun y hy=>zgA hy (zu hr hf x) (zu hr hf i)
 case index t x i=>exact .read hr fun y hy=>znx hy (zu hr hf x) (zu hr hf i)
 case extract t i =>
  have h1:=zu hr hf t
  split
  · rename_i xs e1;rw [e1] at h1
    refine .read hr fun y hy => ?_
    generalize a.eval t=v at h1 ⊢
    cases h1 with | tup vs hl h =>
    have hlt:i < vs.size:=by rw [hl];exact (List.getElem?_eq_some_iff.1 hy).1
    exact⟨vs[i],by simp [Instr.extract,hlt],h i y _ hy (by simp)⟩
  · trivial
 case pick c x y =>
  have h1:=zu hr hf c
  split
  · rename_i b e1;rw [e1] at h1
    generalize hv:a.eval c=v at h1 ⊢
    cases h1.bool_inv
    cases b
    · exact⟨_,w,σ,rfl,zaR hr hf ty y,hr,Ev.refl (Nat.le_refl _)⟩
    · exact⟨_,w,σ,rfl,zaR hr hf ty x,hr,Ev.refl (Nat.le_refl _)⟩
  · trivial
 case call c =>
  obtain⟨callee,args,ts⟩:=c
  cases callee with
  | invoke r m=>trivial
  | builtin b=>exact zh2 hr hf b args ts ty _
  | value f =>
   have h1:=zu hr hf f;simp only [zaQ]
   split
   · rename_i fn first captured e1
     rw [e1] at h1
     obtain⟨l2,r2⟩:=zdW (P:=P) hr hf args.toList ts.toList
     generalize hv:a.eval f=v at h1
     cases h1 with | clo fs cs q1 q2 q3 q4 =>
     have hvs:RelVs σ H w (first++yV P G env args.toList ts.toList++captured) (fs++args.map a.eval++cs):=by
      refine⟨by simp [q1,q2,l2],fun i x v e1 e2 => ?_⟩
      rw [Array.getElem?_append] at e2;simp only [Array.size_append,Array.size_map] at e2;by_cases hi:i < fs.size+args.size
      · rw [if_pos hi] at e2;rw [List.getElem?_append_left (by simp [l2,←q1];exact hi)] at e1;rw [Array.getElem?_append] at e2;by_cases hi2:i < fs.size
        · rw [if_pos hi2] at e2;rw [List.getElem?_append_left (by omega)] at e1;exact q3 i x v e1 e2
        · rw [if_neg hi2] at e2;rw [List.getElem?_append_right (by omega)] at e1;rw [←q1] at e1;exact r2 _ x v e1 (by simpa using e2)
      · rw [if_neg hi] at e2;rw [List.getElem?_append_right (by simp [l2,←q1];omega)] at e1;simp only [List.length_append,l2,←q1,Array.length_toList] at e1;exact q4 _ x v e1 e2
     split
     · rename_i he
       refine⟨fs++args.map a.eval++cs,?_,hvs⟩
       simp only [resolve,hv,Deferred.ofValue,Sem.run_bind,Sem.run_pure,Result.andThen_ok,invoke];exact znK he _ w
     · unfold zbX
       split
       · rename_i nm hn
         cases hx:zh0 nm (first++yV P G env args.toList ts.toList++captured) with
         | none=>trivial
         | some y =>
          obtain⟨v,q5,q6⟩:=zAA hn hx hvs
          refine⟨v,w,σ,?_,q6,hr,Ev.refl (Nat.le_refl _)⟩
          simp only [resolve,hv,Deferred.ofValue,Sem.run_bind,Sem.run_pure,Result.andThen_ok,invoke];exact q5
       · trivial
   · rename_i b e1;rw [e1] at h1
     obtain⟨l2,r2⟩:=zdW (P:=P) hr hf args.toList ts.toList
     generalize hv:a.eval f=v at h1
     cases h1 with | yld hb =>
     refine⟨args.map a.eval,⟨by simp [l2],fun i x v e1 e2=>r2 i x v e1 (by simpa using e2)⟩,fun f' t x y hy => ?_⟩
     simp only [resolve,hv,Deferred.ofValue,Sem.run_bind,Sem.run_pure,Result.andThen_ok,invoke]
     simpa using hy
   · trivial
end sound

theorem zgS {P:Program} {G:Globs} {op:Op} {ty:TypeId} {env:Env} {H:Hp} (h:zf P G op ty env H ≠ .fail) : ∀ c,op ≠ .defer c:=by
 intro c e;subst e;exact h rfl

end Go.AL

namespace Go.AL
open Go

def zD (nt:Nat) (d:Option Nat):Bool:=match d with | some d=>decide (d < nt) | none=>true

def zF (nt:Nat) (ops:Array Oper) (g:Option (Nat × Bool)) (env:Env):Option Bool :=
 match g with
 | none=>some true
 | some (j,yS) =>
  match (ops[j]?).bind (·.dst) with
  | some d=>if d < nt then (match env d with | .p (.s (.bool t))=>some (t == yS) | .tup []=>some false | _=>none) else none
  | none=>none

def yl (raw:List Nat) (f:FuncId) (args:List AV):List AV:=if raw.contains f then args else args.map AV.weak

def sOp (C:Cx) (dst:Option Nat) (H:Hp) (K:AV → Hp → Prop):SRes → Prop
 | .val x H'=>zD C.nt dst=true∧K x H'
 | .unit H'=>dst=none∧K .top H'
 | .call f args=>zD C.nt dst=true∧ACall C.P C.G f (yl C.raw f args) H K
 | .yield b args=>zD C.nt dst=true∧AYield C.P C.G b (args.map AV.weak) H K
 | .fail=>False

def aOp1 (C:Cx) (o:Oper) (env:Env) (H:Hp) (K:AV → Hp → Prop):Prop:=sOp C o.dst H K (zf C.P C.G o.op o.type env H)

theorem sOp.mono {C:Cx} {dst H} {K K':AV → Hp → Prop} {r:SRes} (h:sOp C dst H K r) (hk : ∀ x H',K x H' → K' x H'):sOp C dst H K' r:=by
 cases r with
 | val x H'=>exact⟨h.1,hk _ _ h.2⟩
 | unit H'=>exact⟨h.1,hk _ _ h.2⟩
 | call f args=>exact⟨h.1,h.2.mono hk⟩
 | yield b args=>exact⟨h.1,h.2.mono hk⟩
 | fail=>exact h

theorem RelVs.weak {σ H w} {xs:List AV} {vs:Array Value} (h:RelVs σ H w xs vs):RelVs σ H w (xs.map AV.weak) vs :=
 ⟨by simpa using h.1,fun i x v hx hv=>by
  simp only [List.getElem?_map,Option.map_eq_some_iff] at hx
  obtain⟨y,hy,rfl⟩:=hx
  exact (h.2 i y v hy hv).weak⟩

theorem zjt {σ H w} {raw f} {xs:List AV} {vs:Array Value} (h:RelVs σ H w xs vs):RelVs σ H w (yl raw f xs) vs:=by
 unfold yl
 split
 · exact h
 · exact h.weak

section
variable {C:Cx} {k:List Item} {env:Env} {H:Hp} {R:AV → Hp → Prop} {ops:Array Oper} {o:Oper} {rest:List Oper}

theorem yX {nt:Nat} {d:Option Nat} (h:zD nt d=true) : ∀ i,d=some i → i < nt:=fun i hi=>by subst hi;simpa [zD] using h

theorem aOp1.wp {K:AV → Hp → Prop} (h:aOp1 C o env H K) {σ:Gh} {w:World} {a:Act} {m:Nat} {ro:Option Nat} (hr:Rel C.G σ H w) (hf:RelF C.nt m σ H w env a) {N:Act → World → Prop} {Q:Exit → Act → World → Prop}
 (hN : ∀ x v H' σ' w',K x H' → (∀ i,o.dst=some i → i < C.nt) → Rel C.G σ' H' w' → RelV σ' H' w' x v → Ev H.n σ H w σ' H' w' → N (a.put o.dst v) w'):o.wpIn { Fence.wide with round:=ro } 0 C.P a w N Q:=by
 have hs:=zjs (P:=C.P) hr hf o;unfold aOp1 at h;unfold Oper.wpIn
 refine⟨fun f _=>trivial,?_⟩
 have hsem:Oper.semAt ro a.eval o=execOp a.eval o:=Oper.semAt_eq _ _ _ (zgS (P:=C.P) (G:=C.G) (ty:=o.type) (env:=env) (H:=H) fun hh=>by rw [hh] at h;exact h)
 show o.uponIn _ _ _ _ _ _ ((Oper.semAt ro a.eval o).run C.P w)
 rw [hsem]
 generalize zf C.P C.G o.op o.type env H=r at h hs
 cases r with
 | val x H' =>
  obtain⟨v,w',σ',hrun,hv,hrel,hev⟩:=hs
  rw [hrun];exact hN x v H' σ' w' h.2 (yX h.1) hrel hv hev
 | unit H' =>
  obtain⟨w',σ',hrun,hrel,hev⟩:=hs
  rw [hrun];exact hN .top undef H' σ' w' h.2 (by simp [h.1]) hrel (.top _) hev
 | call f args =>
  obtain⟨vs,hrun,hvs⟩:=hs
  rw [hrun]
  refine⟨fun h=>(by cases h),(callsIn_wide (n:=0 - 1)).2 ((h.2 σ w vs hr (zjt hvs)).mono ?_)⟩
  rintro e w' ⟨x,H',σ',v,q,rfl,hrel,hv,hev⟩
  exact hN x v H' σ' w' q (yX h.1) hrel hv hev
 | yield b args =>
  obtain⟨vs,hvs,hrun⟩:=hs
  obtain⟨f,t,x,y,q1,q2⟩:=h.2 σ w vs hr hvs.weak
  rw [hrun _ _ _ _ q1]
  refine⟨fun h=>(by cases h),q2.mono ?_⟩
  rintro e w' ⟨x,H',σ',v,q,rfl,hrel,hv,hev⟩
  exact hN x v H' σ' w' q (yX h.1) hrel hv hev
 | fail=>exact h.elim

theorem zaS {σ:Gh} {w:World} {a:Act} {m:Nat} {g:Option (Nat × Bool)} {t:Bool} (h:zF C.nt ops g env=some t) (hf:RelF C.nt m σ H w env a) (hg:o.guard=g):Region.wanted o (yielded ops a.tmps)=t:=by
 subst hg;unfold zF at h;split at h
 · rename_i hg;cases h;simp [Region.wanted,hg]
 · rename_i j yS hg;split at h
   case h_2=>cases h
   rename_i d hd;split at h
   case isFalse=>cases h
   rename_i hlt;split at h
   case h_3=>cases h
   case h_2 =>
    rename_i he;cases h
    have hv : ∃ vs,a.tmps.getD d undef = .tuple vs:=by
     have:=hf.slot d
     rw [he] at this
     generalize a.tmps.getD d undef=v at this
     cases this with | tup vs _ _=>exact⟨vs,rfl⟩
    obtain⟨vs,hv⟩:=hv
    have hs:d < a.tmps.size:=by rw [hf.size];exact hlt
    have hv':a.tmps[d]? = some (.tuple vs):=by simpa [Array.getD_eq_getD_getElem?,hs] using hv
    simp only [Region.wanted,hg,yielded,hd,Option.bind_some,hv'];rfl
   rename_i b he;cases h;have hv:a.tmps.getD d undef = .bool b:=RelV.bool_inv (he ▸ hf.slot d)
   have hs:d < a.tmps.size:=by rw [hf.size];exact hlt
   have hv':a.tmps[d]? = some (.bool b):=by simpa [Array.getD_eq_getD_getElem?,hs] using hv
   simp only [Region.wanted,hg,yielded,hd,Option.bind_some,hv']
   cases b<;>cases yS<;>rfl

def YieldK (C:Cx) (ops:Array Oper) (b:Nat) (args:List AV) (dst:Option Nat) (rest:List Oper) (k:List Item) (env:Env) (H:Hp) (R:AV → Hp → Prop):Prop :=
 AYield C.P C.G b args H fun r H'=>AOps C ops rest k (env.put dst r) H' R

def CallK (C:Cx) (ops:Array Oper) (f:FuncId) (args:List AV) (dst:Option Nat) (rest:List Oper) (k:List Item) (env:Env) (H:Hp) (R:AV → Hp → Prop):Prop :=
 ACall C.P C.G f args H fun r H'=>AOps C ops rest k (env.put dst r) H' R

def zAB (C:Cx) (ops:Array Oper) (r:SRes) (dst:Option Nat) (rest:List Oper) (k:List Item) (env:Env) (H:Hp) (R:AV → Hp → Prop) (go:AV → Hp → Prop):Prop :=
 match r with
 | .val x H'=>zD C.nt dst=true∧go x H'
 | .unit H'=>dst=none∧go .top H'
 | .call f args=>zD C.nt dst=true∧CallK C ops f (yl C.raw f args) dst rest k env H R
 | .yield b args=>zD C.nt dst=true∧YieldK C ops b (args.map AV.weak) dst rest k env H R
 | .fail=>False

def zcD (C:Cx) (ops:Array Oper):List Oper → List Item → Env → Hp → (AV → Hp → Prop) → Prop
 | [],k,env,H,R=>ARun C k env H R
 | o :: rest,k,env,H,R =>
  match zF C.nt ops o.guard env with
  | some true=>zAB C ops (zf C.P C.G o.op o.type env H) o.dst rest k env H R (fun x H'=>zcD C ops rest k (env.put o.dst x) H' R)
  | some false=>zD C.nt o.dst=true∧zcD C ops rest k (env.put o.dst (.tup [])) H R
  | none=>False

theorem zcs {F:Fence} {n:Nat} (l:List Oper) {Q Q':Exit → Act → World → Prop} (hQ : ∀ e a w,Q e a w → Q' e a w) : ∀ a w,wpListIn F n C.P ops Q l a w → wpListIn F n C.P ops Q' l a w:=by
 induction l with
 | nil=>intro a w h;exact hQ _ _ _ h
 | cons o l ih =>
  intro a w h;unfold wpListIn at h ⊢
  split
  · rename_i hw;rw [if_pos hw] at h;unfold Oper.wpIn at *
    refine⟨h.1,?_⟩
    have h:=h.2
    generalize (o.semAt F.round a.eval).run C.P w=r at *
    have lets:LetsOut Q → LetsOut Q':=fun ⟨a0,w0,q⟩=>⟨a0,w0,hQ _ _ _ q⟩
    cases r with
    | ok x w' =>
     cases x<;>simp only [Oper.uponIn] at h ⊢ <;>
      first
       | exact ih _ _ h
       | exact⟨h.1,CallsIn.mono h.2 (fun e w'' he=>by cases e<;>first | exact ih _ _ he | exact hQ _ _ _ he | exact lets he)⟩
       | exact⟨h.1,RoundIn.mono h.2 (fun e w'' he=>by cases e<;>first | exact ih _ _ he | exact hQ _ _ _ he | exact lets he)⟩
       | exact⟨h.1,RowsIn.mono h.2 (fun _ _ he=>ih _ _ he)⟩
    | halt x w'=>cases x<;>simp only [Oper.uponIn] at h ⊢ <;> exact hQ _ _ _ h
  · rename_i hw;rw [if_neg hw] at h;exact⟨h.1,ih _ _ h.2⟩

theorem AOps.of_op {o:Oper} (t:Bool) (hw:zF C.nt ops o.guard env=some t)
 (h : ∀ σ w a m,Pre C σ H w env a m → ∀ (K:Act → World → Prop) (Q:Exit → Act → World → Prop),
  (∀ x v H' σ' w',AOps C ops rest k (env.put o.dst x) H' R → (∀ i,o.dst=some i → i < C.nt) → Rel C.G σ' H' w' → RelV σ' H' w' x v → Ev H.n σ H w σ' H' w' → K (a.put o.dst v) w') →
  if t then o.wpIn (Fr C σ) 0 C.P a w K Q else K (a.put o.dst undef) w):AOps C ops (o :: rest) k env H R:=by
 intro σ w a m hpre
 have key : ∀ x v H' σ' w',AOps C ops rest k (env.put o.dst x) H' R → (∀ i,o.dst=some i → i < C.nt) → Rel C.G σ' H' w' → RelV σ' H' w' x v → Ev H.n σ H w σ' H' w' →
  wpListIn (Fr C σ) 0 C.P ops (fun e a' w'=>e = .normal ∧ ∃ env' H' σ',ARun C k env' H' R∧Pre C σ' H' w' env' a' m∧Ev H.n σ H w σ' H' w') rest (a.put o.dst v) w':=by
  intro x v H' σ' w' hrest hd hrel hv hev;have hf':RelF C.nt m σ' H' w' (env.put o.dst x) (a.put o.dst v):=(hpre.fr.mono hev).put hd hv;have hpre':Pre C σ' H' w' (env.put o.dst x) (a.put o.dst v) m:=hpre.go hrel hf' hev;have h1:=hrest σ' w' (a.put o.dst v) m hpre'
  have hF:Fr C σ'=Fr C σ:=by simp only [Fr,round_eq hpre.n0 hev.c hpre.lt]
  rw [hF] at h1;refine zcs rest ?_ _ _ h1
  rintro e a' w2 ⟨rfl,env',H2,σ2,hr,hpre2,hev2⟩
  exact⟨rfl,env',H2,σ2,hr,hpre2,hev.trans (hev2.weaken hev.hn) (Nat.le_refl _)⟩
 have h1:=h σ w a m hpre _ (fun e a' w'=>e = .normal ∧ ∃ env' H' σ',ARun C k env' H' R∧Pre C σ' H' w' env' a' m∧Ev H.n σ H w σ' H' w') key;unfold wpListIn;have hwt:=zaS (o:=o) hw hpre.fr rfl
 cases t with
 | true=>rw [if_pos hwt];exact h1
 | false=>rw [if_neg (by rw [hwt];simp)];exact⟨fun f _=>trivial,h1⟩

theorem AOps.run : ∀ {l:List Oper} {env:Env} {H:Hp},zcD C ops l k env H R → AOps C ops l k env H R
 | [],env,H,h => .nil h
 | o :: rest,env,H,h=>by
  unfold zcD at h;split at h
  · rename_i hwa
    have h':aOp1 C o env H fun x H'=>AOps C ops rest k (env.put o.dst x) H' R:=by
     unfold aOp1;unfold zAB at h
     generalize zf C.P C.G o.op o.type env H=r at h
     cases r with
     | val x H'=>exact⟨h.1,AOps.run h.2⟩
     | unit H'=>exact⟨h.1,AOps.run h.2⟩
     | call f args=>exact⟨h.1,h.2⟩
     | yield b args=>exact⟨h.1,h.2⟩
     | fail=>exact h.elim
    exact .of_op true hwa fun σ w a m hpre K Q hK=>h'.wp hpre.rel hpre.fr hK
  · rename_i hwa
    exact .of_op false hwa fun σ w a m hpre K Q hK=>hK (.tup []) undef H σ w (AOps.run h.2) (yX h.1) hpre.rel (.tup #[] rfl (by simp)) (Ev.refl (Nat.le_refl _))
  · exact h.elim

theorem CallK.of {f:FuncId} {args:List AV} {dst:Option Nat} {r:AV} {H':Hp} (h : ∀ R:AV → Hp → Prop,R r H' → ACall C.P C.G f args H R) (hk:zcD C ops rest k (env.put dst r) H' R):CallK C ops f args dst rest k env H R :=
 h _ (AOps.run hk)

theorem CallK.ex {f:FuncId} {args:List AV} {dst:Option Nat} {S:AV → Hp → Prop} (h:ACall C.P C.G f args H S) (hk : ∀ r H',S r H' → zcD C ops rest k (env.put dst r) H' R):CallK C ops f args dst rest k env H R :=
 h.mono fun r H' q=>AOps.run (hk r H' q)

theorem YieldK.of {b:Nat} {args:List AV} {dst:Option Nat} {r:AV} {H':Hp} (h : ∀ R:AV → Hp → Prop,R r H' → AYield C.P C.G b args H R) (hk:zcD C ops rest k (env.put dst r) H' R):YieldK C ops b args dst rest k env H R :=
 h _ (AOps.run hk)

theorem ARun.text {id:Nat} {l:List Oper} (h:zcD C l.toArray l k env H R):ARun C (.code (.region id l.toArray false) :: k) env H R := .region (AOps.run h)


def zdX (P:Program) (env:Env) (H:Hp):ResultVar → Option AV
 | .tmp t=>some (env t)
 | .cell a t=>zcj P H t (env a)

def zcm (P:Program) (env:Env) (H:Hp):List ResultVar → Option (List AV)
 | []=>some []
 | r :: rs=>match zdX P env H r,zcm P env H rs with
  | some x,some xs=>some (x :: xs)
  | _,_=>none

def zeS (P:Program) (rs:List ResultVar) (env:Env) (H:Hp):Option AV :=
 match zcm P env H rs with
 | some [x]=>some x
 | some xs=>some (.tup xs)
 | none=>none

def zv0 (tmps:Array Value):ResultVar → Sem Value
 | .tmp t=>pure (tmps.getD t undef)
 | .cell a t=>do loadVar t (←asAddr (tmps.getD a undef))

theorem znL (fn:Func) (tmps:Array Value):results fn tmps=(do let vs ←fn.results.mapM (zv0 tmps);pure (if h:vs.size=1 then vs[0] else .tuple vs)):=by
 unfold results
 congr 1

theorem zkV {σ:Gh} {w:World} {a:Act} {nt m:Nat} (hr:Rel C.G σ H w) (hf:RelF nt m σ H w env a) {r:ResultVar} {x:AV} (h1:zdX C.P env H r=some x) :
 ∃ v,(zv0 a.tmps r).run C.P w = .ok v w∧RelV σ H w x v:=by
 cases r with
 | tmp t=>simp only [zdX,Option.some.injEq] at h1;subst h1;exact⟨_,rfl,hf.slot t⟩
 | cell ad t =>
  simp only [zdX] at h1
  obtain⟨v,hv,hx⟩:=ziy hr h1 (hf.slot ad)
  refine⟨v,?_,hx⟩
  have hptr : ∃ p,a.tmps.getD ad undef = .pointer (some p):=by
   have hs:=hf.slot ad
   generalize a.tmps.getD ad undef=u at hs ⊢
   generalize env ad=y at h1 hs
   unfold zcj at h1;split at h1
   case h_2=>cases h1
   split at h1
   · cases hs;exact⟨_,rfl⟩
   · cases hs;exact⟨_,rfl⟩
   · cases hs;exact⟨_,rfl⟩
   · cases h1
  obtain⟨p,hp⟩:=hptr
  rw [hp] at hv;simp only [zv0,hp];exact hv

theorem zfL {σ:Gh} {w:World} {a:Act} {nt m:Nat} (hr:Rel C.G σ H w) (hf:RelF nt m σ H w env a) : ∀ {rs:List ResultVar} {xs:List AV},zcm C.P env H rs=some xs →
 ∃ vs:List Value,(rs.mapM (zv0 a.tmps)).run C.P w = .ok vs w∧vs.length=xs.length ∧ ∀ (i:Nat) x v,xs[i]? = some x → vs[i]? = some v → RelV σ H w x v
 | [],xs,h=>by simp only [zcm,Option.some.injEq] at h;subst h;exact⟨[],by simp,rfl,by simp⟩
 | r :: rs,xs,h=>by
  simp only [zcm] at h;split at h
  case h_2=>cases h
  rename_i x ys h1 h2;cases h
  obtain⟨vs,q1,q2,q3⟩:=zfL hr hf h2
  obtain⟨v,hv,hx⟩:=zkV hr hf h1
  refine⟨v :: vs,?_,by simp [q2],fun i y u hy hu => ?_⟩
  · rw [List.mapM_cons];simp only [Sem.run_bind,hv,Result.andThen_ok,q1,Sem.run_pure]
  · cases i with
    | zero=>simp at hy hu;subst hy;subst hu;exact hx
    | succ i=>simp at hy hu;exact q3 i y u hy hu

theorem zv1 {fn:Func} {x:AV} {σ:Gh} {w:World} {a:Act} {nt m:Nat} (hr:Rel C.G σ H w) (hf:RelF nt m σ H w env a) (h:zeS C.P fn.results.toList env H=some x) :
 ∃ v,(results fn a.tmps).run C.P w = .ok v w∧RelV σ H w x v:=by
 unfold zeS at h
 cases hall:zcm C.P env H fn.results.toList with
 | none=>simp [hall] at h
 | some xs =>
  obtain⟨vs,q1,q2,q3⟩:=zfL hr hf hall
  have hm:(fn.results.mapM (zv0 a.tmps)).run C.P w = .ok vs.toArray w:=by
   rw [Array.mapM_eq_mapM_toList,Sem.run_map,q1,Result.andThen_ok]
  simp only [hall] at h;rw [znL,Sem.run_bind,hm,Result.andThen_ok];split at h
  · rename_i y hy;cases hy;cases h
    match vs,q2,q3 with
    | [v],_,q3=>exact⟨v,rfl,q3 0 _ v rfl rfl⟩
  · rename_i ys hne hy;cases hy;cases h
    refine⟨.tuple vs.toArray,?_,.tup _ (by simp [q2]) (fun i x v h1 h2=>q3 i x v h1 (by simpa using h2))⟩
    have : ¬ vs.toArray.size=1:=fun h1=>by
     simp only [List.size_toArray,q2] at h1
     match xs,h1,hne with
     | [z],_,hne=>exact hne z rfl
    simp only [this,dite_false,Sem.run_pure]
  · rename_i hy;cases hy

def AV.out (n0:Nat):AV → Option AV
 | .p x=>some (.p x.weak)
 | .sl _ _ sz xs=>some (.p (.sl false sz xs))
 | .tup xs=>match pvs? xs with | some ps=>some (.tup (ps.map fun p => .p p.weak)) | none=>none
 | .ptr b off=>if b < n0 then some (.ptr b off) else none
 | .ref b off len sz=>if b < n0 then some (.ref b off len sz) else none
 | .vr b len sz=>if b < n0 then some (.vr b len sz) else none
 | .mp b=>if b < n0 then some (.mp b) else none
 | _=>none

theorem TailOK.trunc {σ:Gh} {n0 α k sz:Nat} {v:Value} (h:TailOK σ H α k sz v) (hα:α < n0):TailOK σ (H.trunc n0) α k sz v :=
 ⟨hα,fun k0 d hk=>h.2 k0 d (by rwa [Hp.f_trunc,if_pos hα] at hk)⟩

theorem Stable.trunc {σ:Gh} {n0 g o:Nat} (h:Stable σ H g o):Stable σ (H.trunc n0) g o:=by
 have hf : ∀ b x,(H.trunc n0).f b=some x → H.f b=some x:=fun b x h=>by
  rw [Hp.f_trunc] at h;split at h
  · exact h
  · cases h
 exact⟨fun b cs hb=>h.1 b cs (hf _ _ hb),fun b v d o' s hb=>h.2 b v d o' s (hf _ _ hb)⟩

theorem RelV.trunc {σ:Gh} {w:World} {n0:Nat} {x:AV} {v:Value} (h:RelV σ H w x v):BelowN n0 x → RelV σ (H.trunc n0) w x v:=by
 have hp : ∀ {x:PV} {v:Value},RelP w (Stable σ H) x v → RelP w (Stable σ (H.trunc n0)) x v:=fun h=>h.mono fun g o v h1 h2=>⟨h1.trunc,h2⟩
 induction h with
 | p h=>exact fun _ => .p (hp h)
 | sl h ht=>intro hb;cases hb with | sl _ _ _ _ hb=>exact .sl (hp h) (ht.trunc hb)
 | ref a h0 _ hcap ha=>intro hb;cases hb with | ref _ _ _ _ hb=>exact .ref a h0 hb hcap ha
 | ptr _=>intro hb;cases hb with | ptr _ _ hb=>exact .ptr hb
 | ip h hi hs=>exact fun _ => .ip (hp h) hi hs
 | clo fs cs hf hc _ _ ih1 ih2=>intro hb;cases hb with | clo _ _ _ h1 h2=>exact .clo fs cs hf hc (fun i x v a b=>ih1 i x v a b (h1 i x a)) (fun i x v a b=>ih2 i x v a b (h2 i x a))
 | tup vs hl _ ih=>intro hb;cases hb with | tup _ h=>exact .tup vs hl (fun i x v a b=>ih i x v a b (h i x a))
 | agg vs hl h1 _ ih=>intro hb;cases hb with | agg _ h=>exact .agg vs hl h1 (fun i x v a b=>ih i x v a b (h i x a))
 | yld _=>intro hb;cases hb with | yld _ hb=>exact .yld hb
 | mp _=>intro hb;cases hb with | mp _ hb=>exact .mp hb
 | vr q =>
  intro hb
  cases hb with | vr _ _ _ hb =>
  obtain⟨_,a,cap,rfl,q1,q2⟩:=q
  exact .vr ⟨hb,a,cap,rfl,q1,fun k0 d hk=>q2 k0 d (by rwa [Hp.f_trunc,if_pos hb] at hk)⟩
 | vp a q =>
  intro hb
  cases hb with | vp _ _ _ hb =>
  exact .vp a ⟨hb,fun k0 d hk=>q.2 k0 d (by rwa [Hp.f_trunc,if_pos hb] at hk)⟩
 | top v=>exact fun _ => .top v

theorem zrT {σ:Gh} {w:World} {n0:Nat} (hr:Rel C.G σ H w) (hb:Bel n0 H):Rel C.G σ (H.trunc n0) w∧Ev n0 σ H w σ (H.trunc n0) w:=by
 have hf : ∀ b x,(H.trunc n0).f b=some x → H.f b=some x∧b < n0:=fun b x h=>by
  rw [Hp.f_trunc] at h;split at h
  · rename_i hb;exact⟨h,hb⟩
  · cases h
 have hev:Ev n0 σ H w σ (H.trunc n0) w:=⟨fun g o v h1 h2=>⟨h1.trunc,h2⟩,fun _ _=>rfl,Nat.le_refl _,fun b hb k d hk=>⟨k,d,(hf _ _ hk).1,Nat.le_refl _,fun _=>rfl⟩,Nat.le_refl _,
  fun g _ h=>⟨rfl,fun b cs hb=>h.1 b cs (hf _ _ hb).1,fun b v d o' s hb=>h.2 b v d o' s (hf _ _ hb).1,fun b vs S hb=>h.3 b vs S (hf _ _ hb).1⟩,rfl,rfl⟩
 refine⟨⟨fun b cs h => ?_,fun b k d g o s h=>hr.tail b k d g o s (hf _ _ h).1,fun b k cs h => ?_,fun b b' cs cs' h h'=>hr.cc b b' cs cs' (hf _ _ h).1 (hf _ _ h').1,fun b b' cs k d g o s h h'=>hr.ct b b' cs k d g o s (hf _ _ h).1 (hf _ _ h').1,
  fun b b' k d k' d' g o s o' s' h h'=>hr.tt b b' k d k' d' g o s o' s' (hf _ _ h).1 (hf _ _ h').1,fun g sz xs h=>(hr.glob g sz xs h).trunc (.ip _ _ _ _),fun b vs S h => ?_,fun b b' vs vs' S S' h h'=>hr.oo b b' vs vs' S S' (hf _ _ h).1 (hf _ _ h').1,fun r m h=>(hr.gm r m h).of rfl (hev.blk r (hr.gm r m h).lt (hr.gm r m h).2.1).2 fun x v hx q=>q.trunc (hx _),fun g sz xs h=>(hr.z g sz xs h).of rfl (hev.blk g (hr.z g sz xs h).lt (hr.z g sz xs h).2.1).2 fun q=>q.trunc (.ip _ _ _ _)⟩,hev⟩
 · obtain⟨h1,h2⟩:=hf _ _ h
   obtain⟨c,e,q1,q2,q3⟩:=hr.cells b cs h1
   exact⟨c,e,q1,q2,fun i x hx=>let ⟨v,a,b'⟩:=q3 i x hx;⟨v,a,b'.1.trunc (hb b _ h2 h1 x (List.mem_of_getElem? hx)),b'.2⟩⟩
 · obtain⟨h1,h2⟩:=hf _ _ h
   obtain⟨q0,q1,q2⟩:=hr.vec b k cs h1
   refine⟨q0,q1,fun g o s hg => ?_⟩
   obtain⟨p0,p1,p2⟩:=q2 g o s hg
   exact⟨p0,p1,fun i x hx=>let ⟨v,a,b'⟩:=p2 i x hx;⟨v,a,b'.1.trunc (hb b _ h2 h1 x (List.mem_of_getElem? hx)),b'.2⟩⟩
 · obtain⟨h1,h2⟩:=hf _ _ h
   obtain⟨o,us,q1,q2,q3,q4⟩:=hr.objs b vs S h1
   exact⟨o,us,q1,q2,⟨q3.1,fun i x v a b'=>(q3.2 i x v a b').trunc (hb b _ h2 h1 x (List.mem_of_getElem? a))⟩,q4⟩

theorem AV.out_rel {σ:Gh} {w:World} {n0:Nat} {x y:AV} {v:Value} (h:x.out n0=some y) (r:RelV σ H w x v):RelV σ (H.trunc n0) w y v:=by
 cases x with
 | p x=>simp only [AV.out,Option.some.injEq] at h;subst h;exact r.weak.trunc (.p _)
 | sl α k sz xs=>simp only [AV.out,Option.some.injEq] at h;subst h;exact r.weak.trunc (.p _)
 | ptr b off =>
  simp only [AV.out] at h;split at h
  · rename_i hb;cases h;exact r.trunc (.ptr _ _ hb)
  · cases h
 | ref b off len sz =>
  simp only [AV.out] at h;split at h
  · rename_i hb;cases h;exact r.trunc (.ref _ _ _ _ hb)
  · cases h
 | vr b len sz =>
  simp only [AV.out] at h;split at h
  · rename_i hb;cases h;exact r.trunc (.vr _ _ _ hb)
  · cases h
 | mp b =>
  simp only [AV.out] at h;split at h
  · rename_i hb;cases h;exact r.trunc (.mp _ hb)
  · cases h
 | tup xs =>
  simp only [AV.out] at h;split at h
  case h_2=>cases h
  rename_i ps hps;cases h
  obtain⟨hl,hg⟩:=pvs?_get hps
  cases r with | tup vs hvl hv =>
  refine .tup vs (by simp [hl,hvl]) fun i y v hy hv' => ?_
  simp only [List.getElem?_map,Option.map_eq_some_iff] at hy
  obtain⟨p,hp,rfl⟩:=hy
  obtain⟨a,ha,hap⟩:=hg i p hp
  exact RelV.trunc (.p (AV.pv?_rel hap (hv i a v ha hv')).weak) (.p _)
 | _=>simp [AV.out] at h

theorem zfM {P:Program} {G:Globs} {σ:Gh} : ∀ (ms:List Nat) (fr:Frame) (cs:List Frame) (w:World) {m:Nat},fr.mode = .returning → fr.defers=ms.map mark → ms.Nodup → (∀ r∈ms,m≤r∧w.heap[r]? = some (.deferred (some []))∧Free σ H r) → Rel G σ H w →
 ∃ w',Steps P (lone fr cs w) (lone { fr with defers:=[] } cs w')∧Rel G σ H w'∧(∀ n0,n0≤H.n → EvM n0 m σ H w σ H w')
 | [],fr,cs,w,m,hm,hd,_,_,hr=>⟨w,by
  have : { fr with defers:=[] }=fr:=by cases fr;simp only at hd;subst hd;rfl
  rw [this];exact .refl _ _,hr,fun n0 hn=>Ev.refl hn⟩
 | r :: ms,fr,cs,w,m,hm,hd,hnd,hms,hr=>by
  obtain⟨h1,h2,h3⟩:=hms r (by simp)
  have hlt:r < w.heap.size:=(Array.getElem?_eq_some_iff.1 h2).1
  have hother : ∀ g,g≠r → (w.putObj r (.deferred none)).heap[g]? = w.heap[g]? := fun g hg=>World.putObj_heap_other hg
  have hev : ∀ n0,n0≤H.n → EvM n0 m σ H w σ H (w.putObj r (.deferred none)):=fun n0 hn=>by
   refine⟨fun g o v q1 q2=>⟨q1,?_⟩,fun _ _=>rfl,hn,fun _ _ k d hk=>⟨k,d,hk,Nat.le_refl _,fun _=>rfl⟩,by simp,fun g hg hf=>⟨hother g (by omega),hf⟩,rfl,rfl⟩
   by_cases hgr:g=r
   · subst hgr;simp [World.cell?,h2] at q2
   · simpa [World.cell?,hother g hgr] using q2
  have hrel:Rel G σ H (w.putObj r (.deferred none)):=by
   have hev:=hev H.n (Nat.le_refl _)
   refine⟨fun b cs h => ?_,fun b k d g o s h ht => ?_,hr.vec_keep hev (fun _ _ _ h=>⟨h,rfl⟩) (fun b k cs g o s _ h ht=>hother g (fun hg=>h3.2 b k _ o s h (hg ▸ ht))),hr.cc,hr.ct,hr.tt,fun g sz xs h=>(hr.glob g sz xs h).mono hev,fun b vs S h => ?_,hr.oo,fun g m h=>(hr.gm g m h).of (hother g (fun e=>by obtain⟨⟨es,cl,q,_⟩,_⟩:=hr.gm g m h;rw [e,h2] at q;cases q)) (hr.gm g m h).2.1 fun x v _ q=>q.mono hev,fun g sz xs h=>(hr.z g sz xs h).of (hother g (fun e=>by obtain⟨⟨c,e',q⟩,_⟩:=hr.z g sz xs h;rw [e,h2] at q;cases q)) (hr.z g sz xs h).2.1 fun q=>q.mono hev⟩
   · obtain⟨c,e,p1,p2,p3⟩:=hr.cells b cs h
     exact⟨c,e,(hother _ (h3.1 b cs h)).trans p1,p2,fun i x hx=>let ⟨v,a,b⟩:=p3 i x hx;⟨v,a,b.mono hev⟩⟩
   · obtain⟨c,e,p1,p2⟩:=hr.tail b k d g o s h ht
     exact⟨c,e,(hother g (fun hg=>h3.2 b k d o s h (hg ▸ ht))).trans p1,p2⟩
   · obtain⟨o,us,p1,p2,p3,p4⟩:=hr.objs b vs S h
     exact⟨o,us,(hother _ (h3.3 b vs S h)).trans p1,p2,p3.mono hev,p4⟩
  have hs:=step_collected (P:=P) (fr:=fr) (cs:=cs) (w:=w) (d:=mark r) (r:=r) (ds:=ms.map mark) (by rw [hm];simp) hd rfl (run_takeDeferred h2);have hnd':=List.nodup_cons.1 hnd
  obtain⟨w',q1,q2,q3⟩:=zfM (P:=P) ms { fr with defers:=[]++ms.map mark } cs (w.putObj r (.deferred none)) (m:=m) hm rfl hnd'.2
   (fun g hg=>let ⟨p1,p2,p3⟩:=hms g (by simp [hg]);⟨p1,(hother g (fun e=>hnd'.1 (e ▸ hg))).trans p2,p3⟩) hrel
  exact⟨w',.head hs q1,q2,fun n0 hn=>(hev n0 hn).trans' (q3 n0 hn) (Nat.le_refl _) (Nat.le_refl _) (Nat.le_refl _)⟩

theorem ARun.leave {fn:Func} {x:AV} (hro:C.round=none) (hfn:C.P.funcs[C.fid]? = some fn) {rs:List ResultVar} (hrs:fn.results.toList=rs) (hx:zeS C.P rs env H=some x) (todo:List Item)
 (hstep : ∀ (b:Frame) (a:Act) cs w,b.roundOf=none → step C.P (lone (b.atR a todo) cs w) = .next (lone { b.atR a todo with mode := .returning } cs w))
 {R:AV → Hp → Prop} (y:AV) (H':Hp) (hR:R y H') (hrel : ∀ σ w v,Rel C.G σ H w → RelV σ H w x v → C.n0≤H.n → ∃ σ',Rel C.G σ' H' w∧RelV σ' H' w y v∧Ev C.n0 σ H w σ' H' w):ARun C todo env H R:=by
 intro σ w a b cs m hb hpre;subst hrs
 have hro':b.roundOf=none:=by rw [hb.ro,hro];rfl
 obtain⟨ms,d1,d2,d3⟩:=hpre.fr.defers
 obtain⟨w1,s1,r1,e1⟩:=zfM (P:=C.P) ms { b.atR a todo with mode := .returning } cs w (m:=m) rfl d1 d2 d3 hpre.rel
 have hf1:RelF C.nt 0 σ H w1 env { a with defers:=[] }:=⟨⟨[],rfl,List.nodup_nil,by simp⟩,hpre.fr.size,fun i=>(hpre.fr.slot i).mono (e1 H.n (Nat.le_refl _))⟩
 obtain⟨v,hv,hxv⟩:=zv1 r1 hf1 hx
 obtain⟨σ',q1,q2,q3⟩:=hrel σ w1 v r1 hxv hpre.n0
 refine⟨y,H',σ',v,w1,_,hR,.head (hstep b a cs w hro') s1,?_,q1,q2,(e1 C.n0 hpre.n0).trans' q3 (Nat.le_refl _) (Nat.le_refl _) (Nat.le_trans hpre.m (e1 C.n0 hpre.n0).size)⟩
 unfold Fin;rw [hro]
 exact⟨_,rfl,hb.fn,rfl,rfl,hb.kind,fn,by simpa [Frame.atR,hb.fn] using hfn,hv⟩

theorem ARun.ret {fn:Func} {x y:AV} (hfn:C.P.funcs[C.fid]? = some fn) {rs:List ResultVar} (hrs:fn.results.toList=rs) (hx:zeS C.P rs env H=some x) (hy:x.out C.n0=some y) (hb:Bel C.n0 H) (hR:R y (H.trunc C.n0)) (hro:C.round=none:=by rfl) :
 ARun C (.code .ret :: k) env H R :=
 .leave hro hfn hrs hx _ (fun _ _ _ _ h=>stepR_ret h) y _ hR fun σ w v h1 h2 _=>let ⟨a,b⟩:=zrT h1 hb;⟨σ,a,AV.out_rel hy h2,b⟩

theorem ARun.retKeep {fn:Func} {x:AV} (hfn:C.P.funcs[C.fid]? = some fn) {rs:List ResultVar} (hrs:fn.results.toList=rs) (hx:zeS C.P rs env H=some x) (hR:R x H) (hro:C.round=none:=by rfl):ARun C (.code .ret :: k) env H R :=
 .leave hro hfn hrs hx _ (fun _ _ _ _ h=>stepR_ret h) x _ hR fun σ _ _ h1 h2 hn=>⟨σ,h1,h2,Ev.refl hn⟩
end

end Go.AL

namespace Go.AL
open Go


section congr
variable {P:Program} {G:Globs} {env env':Env} {H:Hp}

theorem zq {x:Operand} (h : ∀ t,x = .tmp t → env t=env' t):yg G env x=yg G env' x:=by
 cases x with
 | tmp t=>exact h t rfl
 | _=>rfl

theorem yY {ty:TypeId} {x:Operand} (h : ∀ t,x = .tmp t → env t=env' t):za3 P G env ty x=za3 P G env' ty x:=by
 cases x with
 | tmp t=>exact h t rfl
 | _=>rfl

theorem zgT {x:Operand} (h : ∀ t,x = .tmp t → env t=env' t):zgP G env x=zgP G env' x:=by
 cases x with
 | tmp t=>exact h t rfl
 | _=>rfl

theorem znM {ty:TypeId} {x:Operand} (h : ∀ t,x = .tmp t → env t=env' t):zjr P G env ty x=zjr P G env' ty x:=by
 cases x with
 | tmp t=>exact h t rfl
 | _=>rfl

theorem zdp : ∀ (xs:List Operand) (ts:List TypeId),(∀ x∈xs,∀ t,x = .tmp t → env t=env' t) → yV P G env xs ts=yV P G env' xs ts
 | [],_,_=>rfl
 | x :: xs,[],h=>by simp only [yV];rw [zq (h x (by simp)),zdp xs [] (fun y hy=>h y (by simp [hy]))]
 | x :: xs,t :: ts,h=>by simp only [yV];rw [znM (h x (by simp)),zdp xs ts (fun y hy=>h y (by simp [hy]))]

theorem zcU : ∀ (ps:List (Nat × Operand)),(∀ x∈ps.map (·.2),∀ t,x = .tmp t → env t=env' t) → yW G env ps=yW G env' ps
 | [],_=>rfl
 | (i,x) :: ps,h=>by simp only [yW];rw [zq (h x (by simp)),zcU ps (fun y hy=>h y (by simp at hy ⊢;exact .inr hy))]

theorem zdq : ∀ (xs:List Operand),(∀ x∈xs,∀ t,x = .tmp t → env t=env' t) → zbn G env xs=zbn G env' xs
 | [],_=>rfl
 | x :: xs,h=>by simp only [zbn];rw [zq (h x (by simp)),zdq xs (fun y hy=>h y (by simp [hy]))]

theorem zeT {b:Builtin} {args:List Operand} {ts:List TypeId} (h : ∀ x∈args,∀ t,x = .tmp t → env t=env' t):zV P G env H b args ts=zV P G env' H b args ts:=by
 unfold zV
 split
 · rw [zq (h _ (by simp))]
 · rename_i s x t u;rw [yY (h s (by simp)),yY (h x (by simp))]
 · rename_i d s t u;rw [zq (h d (by simp)),zq (h s (by simp))]
 · rename_i x y;rw [zq (h x (by simp)),zq (h y (by simp))]
 · rename_i x y;rw [zq (h x (by simp)),zq (h y (by simp))]
 · rfl

theorem zeU {op:Op} {ty:TypeId} (h : ∀ x∈op.operands,∀ t,x = .tmp t → env t=env' t):zf P G op ty env H=zf P G op ty env' H:=by
 cases op<;>simp only [zf,Op.operands] at * <;> try rfl
 case move x=>rw [yY (h x (by simp))]
 case assign x=>rw [yY (h x (by simp))]
 case box t x=>rw [zq (h x (by simp))]
 case build t parts=>rw [zcU _ (fun x hx=>h x (by simpa using hx))]
 case buildSlice t n parts=>rw [zcU _ (fun x hx=>h x (by simpa using hx))]
 case load t x=>rw [zq (h x (by simp))]
 case store t x y=>rw [zq (h x (by simp)),yY (h y (by simp))]
 case nilCheck x=>rw [zq (h x (by simp))]
 case binOp op t x y t'=>rw [zgT (h x (by simp)),zgT (h y (by simp))]
 case unOp op t x=>rw [zq (h x (by simp))]
 case convert s d x=>rw [zq (h x (by simp))]
 case makeInterface t x=>rw [zq (h x (by simp))]
 case typeAssert x xt t ok=>rw [zq (h x (by simp))]
 case makeFunc fn first captured =>
  split
  · rw [zdq _ (fun x hx=>h x (by simp at hx ⊢;exact .inl hx)),zdq _ (fun x hx=>h x (by simp at hx ⊢;exact .inr hx))]
  · rfl
 case makeSlice t l c =>
  split
  · rw [zq (h c (by simp)),zq (h _ (by simp))]
  · rw [zq (h c (by simp)),zq (h l (by simp))]
 case slice t x lo hi mx =>
  have e1:yg G env x=yg G env' x:=zq (h x (by simp))
  have e2:lo.map (yg G env)=lo.map (yg G env'):=by
   cases lo with | none=>rfl | some y=>simp only [Option.map_some];rw [zq (h y (by simp))]
  have e3:hi.map (yg G env)=hi.map (yg G env'):=by
   cases hi with | none=>rfl | some y=>simp only [Option.map_some];rw [zq (h y (by simp))]
  have e4:mx.map (yg G env)=mx.map (yg G env'):=by
   cases mx with | none=>rfl | some y=>simp only [Option.map_some];rw [zq (h y (by simp))]
  rw [e1,e2,e3,e4]
 case lookup t x i ok=>rw [zq (h x (by simp)),zq (h i (by simp))]
 case mapUpdate t x i y=>rw [zq (h x (by simp)),zq (h i (by simp)),yY (h y (by simp))]
 case insert t x i y=>rw [zq (h x (by simp)),zq (h i (by simp)),yY (h y (by simp))]
 case fieldAddr s x f=>rw [zq (h x (by simp))]
 case field s x f=>rw [zq (h x (by simp))]
 case indexAddr t x i=>rw [zq (h x (by simp)),zq (h i (by simp))]
 case index t x i=>rw [zq (h x (by simp)),zq (h i (by simp))]
 case extract x i=>rw [zq (h x (by simp))]
 case pick c x y=>rw [zq (h c (by simp)),yY (h x (by simp)),yY (h y (by simp))]
 case call c =>
  obtain⟨callee,args,ts⟩:=c
  cases callee with
  | value f =>
   simp only [Call.operands] at h;simp only [zaQ];rw [zq (h f (by simp)),zdp _ _ (fun x hx=>h x (by simp at hx ⊢;exact .inr hx))]
  | builtin b =>
   simp only [Call.operands] at h;exact zeT (fun x hx=>h x (by simpa using hx))
  | invoke r m=>rfl
end congr


section any
variable {C:Cx} {ops:Array Oper} {q:Nat → Bool} {Q:Env → Hp → Prop}

def opA (C:Cx) (ops:Array Oper) (quiet:Bool) (i:Nat) (K:Env → Hp → Prop) (env:Env) (H:Hp):Prop :=
 match ops[i]? with
 | none=>K env H
 | some o =>
  match zF C.nt ops o.guard env with
  | some true=>if quiet then ∃ x,aOp1 C o env H (fun x' H'=>x'=x∧H'=H)∧K (env.put o.dst x) H else aOp1 C o env H (fun x H'=>K (env.put o.dst x) H')
  | some false=>zD C.nt o.dst=true∧K (env.put o.dst (.tup [])) H
  | none=>False

def zf2 (C:Cx) (ops:Array Oper) (q:Nat → Bool) (Q:Env → Hp → Prop):Nat → Array Bool → Env → Hp → Prop
 | 0,listed,env,H=>Region.ready .any ops listed=[]∧Q env H
 | fuel+1,listed,env,H=>(Region.ready .any ops listed=[] → Q env H) ∧
  ∀ i∈Region.ready .any ops listed,opA C ops (q i) i (zf2 C ops q Q fuel (listed.setIfInBounds i true)) env H

theorem zbo {quiet:Bool} {i:Nat} {K K':Env → Hp → Prop} {env:Env} {H:Hp} (hk : ∀ env H,K env H → K' env H) (h:opA C ops quiet i K env H):opA C ops quiet i K' env H:=by
 unfold opA at *
 split
 · rename_i ho;simp only [ho] at h;exact hk _ _ h
 · rename_i o ho;simp only [ho] at h
   split
   · rename_i hw;simp only [hw] at h
     split
     · rename_i hq;rw [if_pos hq] at h;obtain⟨x,h1,h2⟩:=h;exact⟨x,h1,hk _ _ h2⟩
     · rename_i hq;rw [if_neg hq] at h;exact sOp.mono h fun x H' hh=>hk _ _ hh
   · rename_i hw;simp only [hw] at h;exact⟨h.1,hk _ _ h.2⟩
   · rename_i hw;simp only [hw] at h

theorem yZ {n1 m:Nat} {ro:Option Nat} {R1:Exit → Act → World → Prop} : ∀ (fuel:Nat) (listed:Array Bool) (env:Env) (H:Hp) (σ:Gh) (w:World) (a:Act),zf2 C ops q Q fuel listed env H → Rel C.G σ H w → RelF C.nt m σ H w env a → n1≤H.n →
 (∀ env' H' σ' w' a',Q env' H' → Rel C.G σ' H' w' → RelF C.nt m σ' H' w' env' a' → Ev n1 σ H w σ' H' w' → R1 .normal a' w') → wpAnyIn { Fence.wide with round:=ro } 0 C.P .any ops R1 fuel listed a w
 | 0,listed,env,H,σ,w,a,h,hr,hf,hn,hR=>⟨h.1,hR env H σ w a h.2 hr hf (Ev.refl hn)⟩
 | fuel+1,listed,env,H,σ,w,a,h,hr,hf,hn,hR=>by
  refine⟨fun h0=>hR env H σ w a (h.1 h0) hr hf (Ev.refl hn),fun i hi => ?_⟩
  have hi':=h.2 i hi;unfold opA at hi';unfold wpOpIn;split at hi'
  · rename_i ho;simp only [ho];exact yZ fuel _ env H σ w a hi' hr hf hn hR
  · rename_i o ho;simp only [ho];split at hi'
    · rename_i hw;rw [if_pos (zaS hw hf rfl)]
      have h1:aOp1 C o env H (fun x H'=>zf2 C ops q Q fuel (listed.setIfInBounds i true) (env.put o.dst x) H'):=by
       split at hi'
       · obtain⟨x,h1,h2⟩:=hi'
         exact sOp.mono h1 fun x' H' hh=>by rw [hh.1,hh.2];exact h2
       · exact hi'
      refine h1.wp hr hf fun x v H' σ' w' hk hd hrel hv hev => ?_
      exact yZ fuel _ _ H' σ' w' _ hk hrel ((hf.mono hev).put hd hv) (Nat.le_trans hn hev.hn) fun env' H2 σ2 w2 a2 b1 b2 b3 b4=>hR env' H2 σ2 w2 a2 b1 b2 b3 (hev.trans b4 hn)
    · rename_i hw;rw [if_neg (by rw [zaS hw hf rfl];simp)]
      exact⟨fun f _=>trivial,yZ fuel _ _ H σ w _ hi'.2 hr (hf.put (yX hi'.1) (.tup #[] rfl (by simp))) hn hR⟩
    · exact hi'.elim

def YieldsA (C:Cx) (ops:Array Oper) (o:Oper) (env:Env) (H:Hp) (x:AV):Prop :=
 (zF C.nt ops o.guard env=some true∧aOp1 C o env H (fun x' H'=>x'=x∧H'=H)) ∨ (zF C.nt ops o.guard env=some false∧zD C.nt o.dst=true∧x = .tup [])

theorem YieldsA.opA {i:Nat} {o:Oper} {x:AV} {env:Env} {H:Hp} {K:Env → Hp → Prop} (hi:ops[i]? = some o) (hy:YieldsA C ops o env H x) (h:K (env.put o.dst x) H):opA C ops true i K env H:=by
 unfold Go.AL.opA;simp only [hi]
 rcases hy with ⟨hw,h1⟩ | ⟨hw,h1,rfl⟩
 · simp only [hw,if_true];exact⟨x,h1,h⟩
 · simp only [hw];exact⟨h1,h⟩

theorem put_ne {env:Env} {d:Option Nat} {x:AV} {t:Nat} (h : ∀ i,d=some i → i≠t):env.put d x t=env t:=by
 cases d with
 | none=>rfl
 | some i=>simp only [Env.put];rw [if_neg (Ne.symm (h i rfl))]

theorem put_comm {env:Env} {d e:Option Nat} {x y:AV} (h : ∀ i,d=some i → e≠some i):(env.put d x).put e y=(env.put e y).put d x:=by
 cases d with
 | none=>rfl
 | some i =>
  cases e with
  | none=>rfl
  | some j =>
   have:i≠j:=fun hh=>h i rfl (by rw [hh])
   funext t
   simp only [Env.put];by_cases h1:t=j
   · rw [if_pos h1,if_neg (by omega),if_pos h1]
   · rw [if_neg h1];by_cases h2:t=i
     · rw [if_pos h2,if_pos h2]
     · rw [if_neg h2,if_neg h2,if_neg h1]

theorem zbp {o:Oper} {env:Env} {d:Option Nat} {x:AV} (h : ∀ i,d=some i → i ∉ o.looksAt ops):zF C.nt ops o.guard (env.put d x)=zF C.nt ops o.guard env:=by
 unfold zF
 split
 · rfl
 · rename_i j yS hg
   cases hd:(ops[j]?).bind (·.dst) with
   | none=>rfl
   | some t =>
    have:env.put d x t=env t:=put_ne fun i hi heq=>h i hi (by subst heq;simp [Oper.looksAt,hg,hd])
    simp only [this]

theorem zcE {o:Oper} {env:Env} {H:Hp} {d:Option Nat} {x:AV} {K:AV → Hp → Prop} (h : ∀ i,d=some i → i ∉ o.looksAt ops):aOp1 C o (env.put d x) H K ↔ aOp1 C o env H K:=by
 unfold aOp1
 rw [zeU (env':=env) fun y hy t ht=>put_ne fun i hi heq=>h i hi (by
  subst heq;subst ht
  exact List.mem_append_left _ (List.mem_filterMap.2 ⟨.tmp i,by simpa using hy,rfl⟩))]

theorem YieldsA.put {o:Oper} {env:Env} {H:Hp} {x y:AV} {d:Option Nat} (h : ∀ i,d=some i → i ∉ o.looksAt ops) (hy:YieldsA C ops o env H x):YieldsA C ops o (env.put d y) H x:=by
 unfold YieldsA at *;rw [zbp h]
 rcases hy with ⟨h1,h2⟩ | h1
 · exact .inl ⟨h1,(zcE h).2 h2⟩
 · exact .inr h1

theorem zju {j:Nat} {oi oj:Oper} {x:AV} {env:Env} {H:Hp} {K:Env → Hp → Prop} (hj:ops[j]? = some oj) (hap:oi.apart ops oj=true) (hy:YieldsA C ops oi env H x) (h:opA C ops true j K (env.put oi.dst x) H) :
 opA C ops true j (fun env' H'=>YieldsA C ops oi env' H' x∧K (env'.put oi.dst x) H') env H:=by
 obtain⟨h1,h2,h3⟩:=Oper.apart_spec hap
 unfold opA at *;simp only [hj] at *;rw [zbp h1] at h
 split
 · rename_i hw;simp only [hw,if_true] at h ⊢
   obtain⟨y,q1,q2⟩:=h
   exact⟨y,(zcE h1).1 q1,hy.put h3,by rw [←put_comm h2];exact q2⟩
 · rename_i hw;simp only [hw] at h
   exact⟨h.1,hy.put h3,by rw [←put_comm h2];exact h.2⟩
 · rename_i hw;simp only [hw] at h

theorem znN {i:Nat} {oi:Oper} {x:AV} (hi:ops[i]? = some oi) (hqi:q i=true) (Wt:Nat → Prop) (hWt : ∀ j oj,ops[j]? = some oj → Wt j → ∃ e∈oj.after,Region.binds .any e=true∧(e.on=i ∨ Wt e.on)) : ∀ (fuel:Nat) (listed:Array Bool) (env:Env) (H:Hp),
 (∀ j,Wt j → listed.getD j true=false) →
 (∀ j oj,ops[j]? = some oj → j≠i → listed.getD j true=false → ¬Wt j → q j=true∧oi.apart ops oj=true) →
 i∈Region.ready .any ops listed → YieldsA C ops oi env H x → zf2 C ops q Q fuel (listed.setIfInBounds i true) (env.put oi.dst x) H → zf2 C ops q Q (fuel+1) listed env H:=by
 intro fuel
 induction fuel with
 | zero =>
  intro listed env H _ _ hr hy hh
  refine⟨fun h=>(by rw [h] at hr;cases hr),fun j hj => ?_⟩
  by_cases hji:j=i
  · subst hji;rw [hqi];exact hy.opA hi hh
  · have:=ready_mono hj hji
    rw [hh.1] at this
    cases this
 | succ fuel ih =>
  intro listed env H hun0 hfree hr hy hh
  refine⟨fun h=>(by rw [h] at hr;cases hr),fun j hj => ?_⟩
  by_cases hji:j=i
  · subst hji;rw [hqi];exact hy.opA hi hh
  · have h1:=hh.2 j (ready_mono hj hji)
    obtain⟨hjun,oj,hoj,hall⟩:=mem_ready.1 hj
    have hnot : ∀ e∈oj.after,Region.binds .any e=true → e.on≠i:=fun e he hb heq=>by
     have h1:=hall e he hb;have h0:=(mem_ready.1 hr).1;rw [heq] at h1
     rcases Nat.lt_or_ge i listed.size with h' | h'
     · simp [h'] at h0 h1;rw [h0] at h1;cases h1
     · simp [Array.getElem?_eq_none h'] at h1
    have hnw : ¬Wt j:=fun hw=>by
     obtain⟨e,he,hb,h | h⟩:=hWt j oj hoj hw
     · exact hnot e he hb h
     · have h1:=hall e he hb;have h0:=hun0 _ h
       rcases Nat.lt_or_ge e.on listed.size with h' | h'
       · simp [h'] at h0 h1;rw [h0] at h1;cases h1
       · simp [Array.getElem?_eq_none h'] at h1
    obtain⟨hqj,hap⟩:=hfree j oj hoj hji hjun hnw
    rw [hqj] at h1 ⊢;have h2:=zju hoj hap hy h1
    have hfree' : ∀ k ok,ops[k]? = some ok → k≠i → (listed.setIfInBounds j true).getD k true=false →
     ¬Wt k → q k=true∧oi.apart ops ok=true:=fun k ok hk hki hun hno=>by
     refine hfree k ok hk hki ?_ hno;by_cases hjk:j=k
     · subst hjk;exact hjun
     · rw [getD_set_ne true hjk] at hun;exact hun
    have hun' : ∀ k,Wt k → (listed.setIfInBounds j true).getD k true=false:=fun k hk=>by
     by_cases hjk:j=k
     · subst hjk;exact absurd hk hnw
     · rw [getD_set_ne true hjk];exact hun0 k hk
    refine zbo (fun env' H' h3=>ih (listed.setIfInBounds j true) env' H' hun' hfree' (ready_mono hr (Ne.symm hji)) h3.1 ?_) h2;rw [Array.setIfInBounds_comm _ _ hji];exact h3.2

def yR (ops:Array Oper) (listed:Array Bool) (i:Nat):Nat → Nat → Bool
 | 0,_=>false
 | f+1,j => !listed.getD j true && match ops[j]? with
  | some oj=>oj.after.any fun e=>Region.binds .any e && (e.on == i || yR ops listed i f e.on)
  | none=>false

def zcF (ops:Array Oper) (listed:Array Bool) (i:Nat):List Nat :=
 (List.range ops.size).foldl (fun acc j=>if !listed.getD j true && (match ops[j]? with
  | some oj=>oj.after.any fun e=>Region.binds .any e && (e.on == i || acc.contains e.on)
  | none=>false) then j :: acc else acc) []

theorem zbf {ops:Array Oper} {listed:Array Bool} {i j:Nat} (h:(zcF ops listed i).contains j=true) : ∃ f,yR ops listed i f j=true:=by
 have mono : ∀ f j,yR ops listed i f j=true → yR ops listed i (f+1) j=true:=by
  intro f
  induction f with
  | zero=>intro j h;cases h
  | succ f ih =>
   intro j h;unfold yR at h ⊢;simp only [Bool.and_eq_true] at h ⊢
   refine⟨h.1,?_⟩
   have h2:=h.2;split at h2
   · obtain⟨e,he,hb⟩:=Array.any_eq_true'.1 h2
     simp only [Bool.and_eq_true,Bool.or_eq_true] at hb;exact Array.any_eq_true'.2 ⟨e,he,by simp only [Bool.and_eq_true,Bool.or_eq_true];exact⟨hb.1,hb.2.imp id (ih _)⟩⟩
   · cases h2
 have key : ∀ (l:List Nat) (acc:List Nat),(∀ j∈acc,∃ f,yR ops listed i f j=true) → ∀ j∈l.foldl (fun acc j=>if !listed.getD j true && (match ops[j]? with
  | some oj=>oj.after.any fun e=>Region.binds .any e && (e.on == i || acc.contains e.on)
  | none=>false) then j :: acc else acc) acc,∃ f,yR ops listed i f j=true:=by
  intro l
  induction l with
  | nil=>exact fun acc h=>h
  | cons a l ih =>
   intro acc hacc;rw [List.foldl_cons];refine ih _ ?_
   by_cases hc:(!listed.getD a true && (match ops[a]? with
    | some oj=>oj.after.any fun e=>Region.binds .any e && (e.on == i || acc.contains e.on)
    | none=>false))=true
   · rw [if_pos hc];intro j hj
     rcases List.mem_cons.1 hj with rfl | hj
     · simp only [Bool.and_eq_true] at hc
       obtain⟨h1,h2⟩:=hc
       split at h2
       · rename_i oj hoj
         obtain⟨e,he,hb⟩:=Array.any_eq_true'.1 h2
         simp only [Bool.and_eq_true,Bool.or_eq_true] at hb
         rcases hb.2 with h3 | h3
         · refine⟨1,?_⟩
           unfold yR;simp only [Bool.and_eq_true]
           refine⟨h1,?_⟩
           simp only [hoj];exact Array.any_eq_true'.2 ⟨e,he,by simp only [Bool.and_eq_true,Bool.or_eq_true];exact⟨hb.1,.inl h3⟩⟩
         · obtain⟨f,hf⟩:=hacc e.on (by simpa using h3)
           refine⟨f+1,?_⟩
           unfold yR;simp only [Bool.and_eq_true]
           refine⟨h1,?_⟩
           simp only [hoj];exact Array.any_eq_true'.2 ⟨e,he,by simp only [Bool.and_eq_true,Bool.or_eq_true];exact⟨hb.1,.inr hf⟩⟩
       · cases h2
     · exact hacc j hj
   · rw [if_neg hc];exact hacc
 exact key _ [] (by simp) j (by simpa [zcF] using h)

def zv2 (q:Nat → Bool) (ops:Array Oper) (listed:Array Bool) (i:Nat):Bool :=
 match ops[i]? with
 | none=>false
 | some oi=>(List.range ops.size).all fun j=>j == i || listed.getD j true || match ops[j]? with
  | some oj=>oj.after.any (fun e=>Region.binds .any e && e.on == i) || (q j && oi.apart ops oj) || (zcF ops listed i).contains j
  | none=>true

def Waits (ops:Array Oper) (listed:Array Bool) (i j:Nat):Prop := ∃ f,yR ops listed i f j=true

theorem Waits.edge {i j:Nat} {oj:Oper} {listed:Array Bool} (hj:ops[j]? = some oj) (h:Waits ops listed i j) : ∃ e∈oj.after,Region.binds .any e=true∧(e.on=i ∨ Waits ops listed i e.on):=by
 obtain⟨f,h⟩:=h
 cases f with
 | zero=>cases h
 | succ f =>
  simp only [yR,hj,Bool.and_eq_true] at h
  obtain⟨e,he,hb⟩:=Array.any_eq_true'.1 h.2
  simp only [Bool.and_eq_true,Bool.or_eq_true,beq_iff_eq] at hb
  exact⟨e,he,hb.1,hb.2.imp id fun h=>⟨f,h⟩⟩

theorem Waits.unlisted {i j:Nat} {listed:Array Bool} (h:Waits ops listed i j):listed.getD j true=false:=by
 obtain⟨f,h⟩:=h
 cases f with
 | zero=>cases h
 | succ f=>simp only [yR,Bool.and_eq_true,Bool.not_eq_true'] at h;exact h.1

theorem znO {i:Nat} {oi:Oper} {listed:Array Bool} (hi:ops[i]? = some oi) (h:zv2 q ops listed i=true) (j:Nat) (oj:Oper)
 (hj:ops[j]? = some oj) (hne:j≠i) (hun:listed.getD j true=false) (hno : ¬Waits ops listed i j):q j=true∧oi.apart ops oj=true:=by
 simp only [zv2,hi,List.all_eq_true,List.mem_range] at h;have h1:=h j (Array.getElem?_eq_some_iff.1 hj).1;simp only [hj,Bool.or_eq_true,beq_iff_eq,hne,false_or,hun,Bool.false_eq_true,Bool.and_eq_true] at h1
 rcases h1 with (h1 | h1) | h1
 · refine absurd ⟨1,?_⟩ hno
   obtain⟨e,he,hb⟩:=Array.any_eq_true'.1 h1
   simp only [Bool.and_eq_true,beq_iff_eq] at hb;simp only [yR,hun,hj,Bool.not_false,Bool.true_and];exact Array.any_eq_true'.2 ⟨e,he,by simp [hb.1,hb.2]⟩
 · exact h1
 · exact absurd (zbf h1) hno

def zkW (q:Nat → Bool) (ops:Array Oper):Nat → Nat → Array Bool → Bool
 | 0,_,listed=>(Region.ready .any ops listed).isEmpty
 | fuel+1,k,listed=>(Region.ready .any ops listed).contains k && (if q k then zv2 q ops listed k else Region.ready .any ops listed == [k]) && zkW q ops fuel (k+1) (listed.setIfInBounds k true)

def zeV (C:Cx) (ops:Array Oper) (q:Nat → Bool) (Q:Env → Hp → Prop):Nat → List Oper → Env → Hp → Prop
 | _,[],env,H=>Q env H
 | k,_ :: l,env,H=>opA C ops (q k) k (zeV C ops q Q (k+1) l) env H

theorem zeW : ∀ (l:List Oper) (k:Nat) (listed:Array Bool) (env:Env) (H:Hp),(∀ j,l[j]? = ops[k+j]?) → zkW q ops l.length k listed=true → zeV C ops q Q k l env H → zf2 C ops q Q l.length listed env H
 | [],_,_,_,_,_,hB,h=>⟨by simpa [zkW] using hB,h⟩
 | o :: l,k,listed,env,H,hl,hB,h=>by
  have h0:ops[k]? = some o:=by simpa using (hl 0).symm
  have hl' : ∀ j,l[j]? = ops[k+1+j]? := fun j=>by have:=hl (j+1);simpa [Nat.add_assoc,Nat.add_comm 1 j] using this
  simp only [List.length_cons,zkW,Bool.and_eq_true] at hB
  obtain⟨⟨hr,hf⟩,hB'⟩:=hB
  simp only [zeV] at h;by_cases hq:q k=true
  · rw [if_pos hq] at hf;rw [hq] at h
    have : ∃ x,YieldsA C ops o env H x∧zeV C ops q Q (k+1) l (env.put o.dst x) H:=by
     unfold opA at h;simp only [h0] at h;split at h
     · rename_i hw;simp only [if_true] at h;obtain⟨x,h1,h2⟩:=h;exact⟨x,.inl ⟨hw,h1⟩,h2⟩
     · rename_i hw;exact⟨.tup [],.inr ⟨hw,h.1,rfl⟩,h.2⟩
     · exact h.elim
    obtain⟨x,hy,hK⟩:=this
    exact znN h0 hq (Waits ops listed k) (fun j oj hj hw=>hw.edge hj) l.length listed env H (fun j hw=>hw.unlisted) (znO h0 hf) (by simpa using hr) hy (zeW l (k+1) _ _ _ hl' hB' hK)
  · rw [if_neg hq] at hf
    have hrd:Region.ready .any ops listed=[k]:=by simpa using hf
    refine⟨fun h0=>(by rw [hrd] at h0;cases h0),fun i hi => ?_⟩
    rw [hrd] at hi;simp only [List.mem_singleton] at hi;subst hi;exact zbo (fun env' H' hh=>zeW l (i+1) _ _ _ hl' hB' hh) h
end any

section draw
variable {C:Cx} {k:List Item} {env:Env} {H:Hp} {R:AV → Hp → Prop}


theorem ARun.draw {id:Nat} {l:List Oper} (q:Nat → Bool) (hm:C.P.follows .mixedOrders=true) (hB:zkW q l.toArray l.length 0 (Array.replicate l.length false)=true)
 (h:zeV C l.toArray q (fun env' H'=>ARun C k env' H' R) 0 l env H):ARun C (.code (.region id l.toArray true) :: k) env H R :=
 .of_wp fun σ w a m hpre=>by
  obtain⟨g1,g2⟩:=zcy hpre.rel
  have:=zeW (C:=C) (ops:=l.toArray) (Q:=fun env' H'=>ARun C k env' H' R) l 0 (Array.replicate l.length false) env H (by simp) hB h
  refine wpIn_region_any hm ?_;rw [List.size_toArray]
  exact yZ (m:=m) l.length _ env H σ w.drew a this g1 (hpre.fr.mono g2) (Nat.le_refl _) fun env' H' σ' w' a' b1 b2 b3 b4=>⟨rfl,env',H',σ',b1,hpre.go b2 b3 (g2.trans b4 (Nat.le_refl _)),g2.trans b4 (Nat.le_refl _)⟩
end draw

end Go.AL

namespace Go.AL
open Go

def i64 (n:Int):PV := .s (.int .i64 n)
def bo (b:Bool):PV := .s (.bool b)
@[reducible] def str (s:ByteArray):PV := .s (.string s)
def b8 (x:BitVec 8):PV := .s (.int .u8 x.toNat)
def w16 (x:BitVec 16):PV := .s (.int .u16 x.toNat)
def w32 (x:BitVec 32):PV := .s (.int .u32 x.toNat)
def zh (x:BitVec 64):PV := .s (.int .u64 x.toNat)

theorem zdY {n:Int} (h1 : -9223372036854775808≤n) (h2:n≤9223372036854775807):IntKind.i64.wrap n=n:=by rw [IntKind.wrap_i64];omega


theorem zkX {w:Nat} (x:BitVec w):BitVec.ofInt w (x.toNat:Int)=x:=by simp


theorem zv3 {w:Nat} (x:BitVec w) (n:Nat):(x.toNat:Int).fdiv (2 ^ min n w)=((x >>> n).toNat:Int):=by
 have h:x.toNat / 2 ^ min n w=(x >>> n).toNat:=by
  rw [BitVec.toNat_ushiftRight,Nat.shiftRight_eq_div_pow]
  rcases Nat.le_total n w with h | h
  · rw [Nat.min_eq_left h]
  · rw [Nat.min_eq_right h,Nat.div_eq_of_lt x.isLt,Nat.div_eq_of_lt];exact Nat.lt_of_lt_of_le x.isLt (Nat.pow_le_pow_right (by omega) h)
 rw [Int.fdiv_eq_ediv_of_nonneg _ (Int.pow_nonneg (by decide)),←h]
 norm_cast

theorem zrU (n:Int):(i64 n).cells=[i64 n]:=rfl
theorem zv4 (n:Int):(i64 n).weak=i64 n:=rfl
theorem zrV (n:Int):(i64 n).weak1=i64 n:=rfl
theorem znR (n:Int):zj (.p (i64 n))=some [.p (i64 n)]:=rfl
theorem zrW (n:Int):(i64 n).isAgg=false:=rfl
theorem znS (n:Int):zbA false [.p (i64 n)]=some (i64 n):=rfl
theorem znT (n:Int):(AV.p (i64 n)).isAggV=false:=rfl
theorem zv5 (b:Bool):(bo b).cells=[bo b]:=rfl
theorem zqM (b:Bool):(bo b).weak=bo b:=rfl
theorem zv6 (b:Bool):(bo b).weak1=bo b:=rfl
theorem zrX (b:Bool):zj (.p (bo b))=some [.p (bo b)]:=rfl
theorem zv7 (b:Bool):(bo b).isAgg=false:=rfl
theorem zrY (b:Bool):zbA false [.p (bo b)]=some (bo b):=rfl
theorem zrZ (b:Bool):(AV.p (bo b)).isAggV=false:=rfl
theorem zr0 (s:ByteArray):(str s).cells=[str s]:=rfl
theorem zv8 (s:ByteArray):(str s).weak=str s:=rfl
theorem zr1 (s:ByteArray):(str s).weak1=str s:=rfl
theorem znU (s:ByteArray):zj (.p (str s))=some [.p (str s)]:=rfl
theorem zr2 (s:ByteArray):(str s).isAgg=false:=rfl
theorem znV (s:ByteArray):zbA false [.p (str s)]=some (str s):=rfl
theorem znW (s:ByteArray):(AV.p (str s)).isAggV=false:=rfl
theorem zv9 (x:BitVec 8):(b8 x).cells=[b8 x]:=rfl
theorem zAC (x:BitVec 8):(b8 x).weak=b8 x:=rfl
theorem zwa (x:BitVec 8):(b8 x).weak1=b8 x:=rfl
theorem zr3 (x:BitVec 8):zj (.p (b8 x))=some [.p (b8 x)]:=rfl
theorem zwb (x:BitVec 8):(b8 x).isAgg=false:=rfl
theorem zr4 (x:BitVec 8):zbA false [.p (b8 x)]=some (b8 x):=rfl
theorem zr5 (x:BitVec 8):(AV.p (b8 x)).isAggV=false:=rfl
theorem zr6 (x:BitVec 16):(w16 x).cells=[w16 x]:=rfl
theorem zwc (x:BitVec 16):(w16 x).weak=w16 x:=rfl
theorem zr7 (x:BitVec 16):(w16 x).weak1=w16 x:=rfl
theorem znX (x:BitVec 16):zj (.p (w16 x))=some [.p (w16 x)]:=rfl
theorem zr8 (x:BitVec 16):(w16 x).isAgg=false:=rfl
theorem znY (x:BitVec 16):zbA false [.p (w16 x)]=some (w16 x):=rfl
theorem znZ (x:BitVec 16):(AV.p (w16 x)).isAggV=false:=rfl
theorem zr9 (x:BitVec 32):(w32 x).cells=[w32 x]:=rfl
theorem zwd (x:BitVec 32):(w32 x).weak=w32 x:=rfl
theorem zsa (x:BitVec 32):(w32 x).weak1=w32 x:=rfl
theorem zn0 (x:BitVec 32):zj (.p (w32 x))=some [.p (w32 x)]:=rfl
theorem zsb (x:BitVec 32):(w32 x).isAgg=false:=rfl
theorem zn1 (x:BitVec 32):zbA false [.p (w32 x)]=some (w32 x):=rfl
theorem zn2 (x:BitVec 32):(AV.p (w32 x)).isAggV=false:=rfl
theorem zsc (x:BitVec 64):(zh x).cells=[zh x]:=rfl
theorem zwe (x:BitVec 64):(zh x).weak=zh x:=rfl
theorem zsd (x:BitVec 64):(zh x).weak1=zh x:=rfl
theorem zn3 (x:BitVec 64):zj (.p (zh x))=some [.p (zh x)]:=rfl
theorem zse (x:BitVec 64):(zh x).isAgg=false:=rfl
theorem zn4 (x:BitVec 64):zbA false [.p (zh x)]=some (zh x):=rfl
theorem zn5 (x:BitVec 64):(AV.p (zh x)).isAggV=false:=rfl
theorem zAD (n:Int):(AV.p (i64 n)).int? = some n:=rfl
theorem zC0 (x:BitVec 8):(AV.p (b8 x)).int? = some (x.toNat:Int):=rfl
theorem zAE (x:BitVec 16):(AV.p (w16 x)).int? = some (x.toNat:Int):=rfl
theorem zAF (x:BitVec 32):(AV.p (w32 x)).int? = some (x.toNat:Int):=rfl
theorem zAG (x:BitVec 64):(AV.p (zh x)).int? = some (x.toNat:Int):=rfl
theorem zn6 (n:Int):yr (.int .i64 n) = .p (i64 n):=rfl
theorem zsf (b:Bool):yr (.bool b) = .p (bo b):=rfl
theorem zn7 (s:ByteArray):yr (.string s) = .p (str s):=rfl
theorem zsg (n:Int) (h0:0≤n) (h1:n < 256):yr (.int .u8 n) = .p (b8 (BitVec.ofInt 8 n)):=by
 have:((BitVec.ofInt 8 n).toNat:Int)=n:=by rw [BitVec.toNat_ofInt];simp only [Int.reducePow,Nat.reducePow,Int.cast_ofNat_Int];omega
 unfold yr b8;rw [this]
theorem zn8 (n:Int) (h0:0≤n) (h1:n < 18446744073709551616):yr (.int .u64 n) = .p (zh (BitVec.ofInt 64 n)):=by
 have:((BitVec.ofInt 64 n).toNat:Int)=n:=by rw [BitVec.toNat_ofInt];simp only [Int.reducePow,Nat.reducePow,Int.cast_ofNat_Int];omega
 unfold yr zh;rw [this]
theorem zgU (P:Program) (t:TypeId) (x y:BitVec 8) (hy:y≠0#8):zI P .quo t (.p (b8 x)) (.p (b8 y))=some (.p (b8 (x / y))):=by
 simp only [zI,b8,zak,zP,zbj,Bool.false_eq_true,if_false,if_true,Option.map_some]
 have hn : ¬ ((y.toNat:Int)=0):=fun h=>hy (BitVec.eq_of_toNat_eq (by simpa using h))
 rw [if_neg hn]
 have h:IntKind.u8.wrap ((x.toNat:Int).tdiv y.toNat)=((x / y).toNat:Int):=by
  rw [IntKind.wrap_u8,Int.tdiv_eq_ediv_of_nonneg (by omega),BitVec.toNat_udiv];have h1:x.toNat / y.toNat≤x.toNat:=Nat.div_le_self _ _;have h2:=x.isLt;simp only [Nat.reducePow] at h2;rw [←Int.natCast_ediv]
  generalize x.toNat / y.toNat=q at *
  omega
 rw [h,Option.map_some]
theorem zgV (P:Program) (t:TypeId) (x y:BitVec 8) (hy:y≠0#8):zI P .rem t (.p (b8 x)) (.p (b8 y))=some (.p (b8 (x % y))):=by
 simp only [zI,b8,zak,zP,zbj,Bool.false_eq_true,if_false,if_true,Option.map_some]
 have hn : ¬ ((y.toNat:Int)=0):=fun h=>hy (BitVec.eq_of_toNat_eq (by simpa using h))
 rw [if_neg hn]
 have h:((x.toNat:Int).tmod y.toNat)=((x % y).toNat:Int):=by
  rw [Int.tmod_eq_emod_of_nonneg (by omega),BitVec.toNat_umod,Int.natCast_emod]
 rw [h,Option.map_some]
theorem zkY (P:Program) (t:TypeId) (x y:BitVec 64):zI P .add t (.p (zh x)) (.p (zh y))=some (.p (zh (x+y))):=by
 simp only [zI,zh,zak,zP,zbj,Bool.false_eq_true,if_false,if_true,Option.map_some]
 have h:((x.toNat:Int)+y.toNat) % 18446744073709551616=((x+y).toNat:Int):=by
  rw [BitVec.toNat_add];simp only [Nat.reducePow];omega
 rw [IntKind.wrap_u64,h]
theorem zkZ (P:Program) (t:TypeId) (x y:BitVec 64):zI P .sub t (.p (zh x)) (.p (zh y))=some (.p (zh (x - y))):=by
 simp only [zI,zh,zak,zP,zbj,Bool.false_eq_true,if_false,if_true,Option.map_some]
 have h:((x.toNat:Int) - y.toNat) % 18446744073709551616=((x - y).toNat:Int):=by
  rw [BitVec.toNat_sub];have:=x.isLt;have:=y.isLt;simp only [Nat.reducePow] at *;omega
 rw [IntKind.wrap_u64,h]
theorem zk0 (P:Program) (t:TypeId) (x y:BitVec 64):zI P .mul t (.p (zh x)) (.p (zh y))=some (.p (zh (x*y))):=by
 simp only [zI,zh,zak,zP,zbj,Bool.false_eq_true,if_false,if_true,Option.map_some]
 have h:((x.toNat:Int)*y.toNat) % 18446744073709551616=((x*y).toNat:Int):=by
  rw [BitVec.toNat_mul,Int.natCast_emod,Int.natCast_mul];rfl
 rw [IntKind.wrap_u64,h]
theorem zk1 (P:Program) (t:TypeId) (x y:BitVec 64):zI P .and t (.p (zh x)) (.p (zh y))=some (.p (zh (x &&& y))):=by
 simp only [zI,zh,zak,zP,zbj,Bool.false_eq_true,if_false,if_true,Option.map_some]
 have h:IntKind.u64.wrap (((x &&& y).toNat:Nat):Int)=(((x &&& y).toNat:Nat):Int):=by
  rw [IntKind.wrap_u64];have:=(x &&& y).isLt;simp only [Nat.reducePow] at this;omega
 have h1:BitVec.ofInt IntKind.u64.bits (x.toNat:Int)=x:=zkX x;have h2:BitVec.ofInt IntKind.u64.bits (y.toNat:Int)=y:=zkX y;rw [h1,h2];exact congrArg (fun n=>some (AV.p (PV.s (Value.int IntKind.u64 n)))) h
theorem zk2 (P:Program) (t:TypeId) (x y:BitVec 64):zI P .eql t (.p (zh x)) (.p (zh y))=some (.p (bo (x == y))):=by
 simp only [zI,zh,zak,zP,zbj,Bool.false_eq_true,if_false,if_true,Option.map_some]
 have h:((x.toNat:Int) == (y.toNat:Int))=(x == y):=by
  rw [Bool.eq_iff_iff];simp only [beq_iff_eq,Int.ofNat_inj];exact BitVec.toNat_inj
 simp only [bo,bne,h]
theorem zk3 (P:Program) (t:TypeId) (x y:BitVec 64):zI P .neq t (.p (zh x)) (.p (zh y))=some (.p (bo (x != y))):=by
 simp only [zI,zh,zak,zP,zbj,Bool.false_eq_true,if_false,if_true,Option.map_some]
 have h:((x.toNat:Int) == (y.toNat:Int))=(x == y):=by
  rw [Bool.eq_iff_iff];simp only [beq_iff_eq,Int.ofNat_inj];exact BitVec.toNat_inj
 simp only [bo,bne,h]
theorem zk4 (P:Program) (t:TypeId) (x y:BitVec 64):zI P .lss t (.p (zh x)) (.p (zh y))=some (.p (bo (decide (x < y)))):=by
 simp only [zI,zh,zak,zP,zbj,Bool.false_eq_true,if_false,if_true,Option.map_some];simp only [bo,BitVec.lt_def,BitVec.le_def,gt_iff_lt,ge_iff_le,Int.ofNat_lt,Int.ofNat_le]
theorem zk5 (P:Program) (t:TypeId) (x y:BitVec 64):zI P .gtr t (.p (zh x)) (.p (zh y))=some (.p (bo (decide (y < x)))):=by
 simp only [zI,zh,zak,zP,zbj,Bool.false_eq_true,if_false,if_true,Option.map_some];simp only [bo,BitVec.lt_def,BitVec.le_def,gt_iff_lt,ge_iff_le,Int.ofNat_lt,Int.ofNat_le]
theorem zk6 (P:Program) (t:TypeId) (x y:BitVec 64):zI P .geq t (.p (zh x)) (.p (zh y))=some (.p (bo (decide (y≤x)))):=by
 simp only [zI,zh,zak,zP,zbj,Bool.false_eq_true,if_false,if_true,Option.map_some];simp only [bo,BitVec.lt_def,BitVec.le_def,gt_iff_lt,ge_iff_le,Int.ofNat_lt,Int.ofNat_le]
theorem zf3 (P:Program) (t:TypeId) (x:BitVec 64) (n:Int) (hn:0≤n):zI P .shr t (.p (zh x)) (.p (i64 n))=some (.p (zh (x >>> n.toNat))):=by
 simp only [zI,zh,i64,zak,zP,zem,if_true];rw [if_neg (by omega)];simp only [Option.map_some]
 have:=zv3 x n.toNat
 exact congrArg (fun n=>some (AV.p (PV.s (Value.int IntKind.u64 n)))) this
theorem zf4 (P:Program) (t:TypeId) (x:BitVec 64) (y:BitVec 64):zI P .shr t (.p (zh x)) (.p (zh y))=some (.p (zh (x >>> y.toNat))):=by
 simp only [zI,zh,zh,zak,zP,zem,if_true];rw [if_neg (by omega)];simp only [Option.map_some];rw [Int.toNat_natCast]
 have:=zv3 x y.toNat
 exact congrArg (fun n=>some (AV.p (PV.s (Value.int IntKind.u64 n)))) this
theorem zn9 (x:BitVec 64):aUn .neg (.p (zh x))=some (.p (zh (-x))):=by
 simp only [aUn,zh,vUn,Option.map_some]
 have h:IntKind.u64.wrap (0 - (x.toNat:Int))=((-x).toNat:Int):=by
  rw [IntKind.wrap_u64,BitVec.toNat_neg];have:=x.isLt;simp only [Nat.reducePow] at *;omega
 rw [h]
theorem zk7 (P:Program) (t:TypeId) (x y:Int):zI P .add t (.p (i64 x)) (.p (i64 y))=some (.p (i64 (IntKind.i64.wrap (x+y)))):=by simp only [zI,i64,zak,zP,zbj,Bool.false_eq_true,if_false,if_true,Option.map_some,bo,gt_iff_lt,ge_iff_le]
theorem zk8 (P:Program) (t:TypeId) (x y:Int):zI P .sub t (.p (i64 x)) (.p (i64 y))=some (.p (i64 (IntKind.i64.wrap (x - y)))):=by simp only [zI,i64,zak,zP,zbj,Bool.false_eq_true,if_false,if_true,Option.map_some,bo,gt_iff_lt,ge_iff_le]
theorem zk9 (P:Program) (t:TypeId) (x y:Int):zI P .mul t (.p (i64 x)) (.p (i64 y))=some (.p (i64 (IntKind.i64.wrap (x*y)))):=by simp only [zI,i64,zak,zP,zbj,Bool.false_eq_true,if_false,if_true,Option.map_some,bo,gt_iff_lt,ge_iff_le]
theorem zla (P:Program) (t:TypeId) (x y:Int):zI P .eql t (.p (i64 x)) (.p (i64 y))=some (.p (bo (x == y))):=by simp only [zI,i64,zak,zP,zbj,Bool.false_eq_true,if_false,if_true,Option.map_some,bo,gt_iff_lt,ge_iff_le]
theorem zlb (P:Program) (t:TypeId) (x y:Int):zI P .neq t (.p (i64 x)) (.p (i64 y))=some (.p (bo (x != y))):=by simp only [zI,i64,zak,zP,zbj,Bool.false_eq_true,if_false,if_true,Option.map_some,bo,gt_iff_lt,ge_iff_le]
theorem zlc (P:Program) (t:TypeId) (x y:Int):zI P .lss t (.p (i64 x)) (.p (i64 y))=some (.p (bo (decide (x < y)))):=by simp only [zI,i64,zak,zP,zbj,Bool.false_eq_true,if_false,if_true,Option.map_some,bo,gt_iff_lt,ge_iff_le]
theorem zld (P:Program) (t:TypeId) (x y:Int):zI P .leq t (.p (i64 x)) (.p (i64 y))=some (.p (bo (decide (x≤y)))):=by simp only [zI,i64,zak,zP,zbj,Bool.false_eq_true,if_false,if_true,Option.map_some,bo,gt_iff_lt,ge_iff_le]
theorem zle (P:Program) (t:TypeId) (x y:Int):zI P .gtr t (.p (i64 x)) (.p (i64 y))=some (.p (bo (decide (y < x)))):=by simp only [zI,i64,zak,zP,zbj,Bool.false_eq_true,if_false,if_true,Option.map_some,bo,gt_iff_lt,ge_iff_le]
theorem zlf (P:Program) (t:TypeId) (x y:Int):zI P .geq t (.p (i64 x)) (.p (i64 y))=some (.p (bo (decide (y≤x)))):=by simp only [zI,i64,zak,zP,zbj,Bool.false_eq_true,if_false,if_true,Option.map_some,bo,gt_iff_lt,ge_iff_le]
theorem zlg (P:Program) (t:TypeId) (x y:Int) (hx:0≤x) (hy:0 < y) (hb:x≤9223372036854775807):zI P .quo t (.p (i64 x)) (.p (i64 y))=some (.p (i64 (x / y))):=by
 simp only [zI,i64,zak,zP,zbj,Bool.false_eq_true,if_false,if_true];rw [if_neg (by omega),Int.tdiv_eq_ediv_of_nonneg hx];have h1:x / y≤x:=Int.ediv_le_self _ hx;have h2:0≤x / y:=Int.ediv_nonneg hx (by omega);rw [zdY (by omega) (by omega),Option.map_some]
theorem zlh (P:Program) (t:TypeId) (x y:Int) (hx:0≤x) (hy:0 < y):zI P .rem t (.p (i64 x)) (.p (i64 y))=some (.p (i64 (x % y))):=by
 simp only [zI,i64,zak,zP,zbj,Bool.false_eq_true,if_false,if_true];rw [if_neg (by omega),Int.tmod_eq_emod_of_nonneg hx,Option.map_some]
theorem zli (P:Program) (t:TypeId) (x y:Int) (hy:0≤y) (h63:y≤63):zI P .shl t (.p (i64 x)) (.p (i64 y))=some (.p (i64 (IntKind.i64.wrap (x*2 ^ y.toNat)))):=by
 have hm:min y.toNat IntKind.i64.bits=y.toNat:=by simp only [IntKind.bits];omega
 simp only [zI,i64,zak,zP,zem,if_true,hm];rw [if_neg (by omega)];rfl
theorem zlj (P:Program) (t:TypeId) (x y:Int) (hy:0≤y) (h63:y≤63):zI P .shr t (.p (i64 x)) (.p (i64 y))=some (.p (i64 (x / 2 ^ y.toNat))):=by
 have hm:min y.toNat IntKind.i64.bits=y.toNat:=by simp only [IntKind.bits];omega
 simp only [zI,i64,zak,zP,zem,if_true,hm];rw [if_neg (by omega)];simp only [Option.map_some,Int.fdiv_eq_ediv_of_nonneg _ (Int.pow_nonneg (by decide:(0:Int)≤2))]
theorem zoa (x:Int):aUn .neg (.p (i64 x))=some (.p (i64 (IntKind.i64.wrap (0 - x)))):=rfl
theorem zsh (b:Bool):aUn .not (.p (bo b))=some (.p (bo (!b))):=rfl
theorem zlk (P:Program) (t:TypeId) (x y:ByteArray):zI P .eql t (.p (str x)) (.p (str y))=some (.p (bo (x.toList == y.toList))):=rfl
theorem zll (P:Program) (t:TypeId) (x y:ByteArray):zI P .neq t (.p (str x)) (.p (str y))=some (.p (bo (!(x.toList == y.toList)))):=rfl
theorem zob (P:Program) (t:TypeId) (x y:Bool) (h:isBool P t=true):zI P .neq t (.p (bo x)) (.p (bo y))=some (.p (bo (!(x == y)))):=by simp only [zI,bo,zak,h,if_true,Option.map_some]

def zcV (P:Program) (t:TypeId):Bool:=match P.underlying t with | some (.int _)=>true | _=>false
theorem zeu {P:Program} {t:TypeId} (h:zcV P t=true) : ∃ k,P.underlying t=some (.int k):=by
 unfold zcV at h;split at h
 · rename_i k hk;exact⟨k,hk⟩
 · cases h

theorem zlm (P:Program) (H:Hp) (s d:TypeId) (x:BitVec 8) (hs:zcV P s=true) (hd:P.underlying d=some (.int .i64)):zck P H s d (.p (b8 x))=some (.p (i64 (IntKind.i64.wrap x.toNat))):=by
 obtain⟨k,hk⟩:=zeu hs
 simp only [zck,hk,hd,Option.isSome_some,if_true,b8,zfI,Option.map_some,i64]
theorem zjv (P:Program) (H:Hp) (s d:TypeId) (x:BitVec 64) (hs:zcV P s=true) (hd:P.underlying d=some (.int .i64)):zck P H s d (.p (zh x))=some (.p (i64 (IntKind.i64.wrap x.toNat))):=by
 obtain⟨k,hk⟩:=zeu hs
 simp only [zck,hk,hd,Option.isSome_some,if_true,zh,zfI,Option.map_some,i64]
theorem zjw (P:Program) (H:Hp) (s d:TypeId) (x:Int) (hs:zcV P s=true) (hd:P.underlying d=some (.int .u64)):zck P H s d (.p (i64 x))=some (.p (zh (BitVec.ofInt 64 x))):=by
 obtain⟨k,hk⟩:=zeu hs
 have h:(x % 18446744073709551616)=((BitVec.ofInt 64 x).toNat:Int):=by rw [BitVec.toNat_ofInt];simp only [Nat.reducePow,Int.cast_ofNat_Int];omega
 simp only [zck,hk,hd,Option.isSome_some,if_true,i64,zfI,Option.map_some,IntKind.wrap_u64,h,zh]
theorem zgW (x y:Int):zcl false (.p (i64 x)) (.p (i64 y))=some (.p (i64 (min x y))):=rfl
theorem zgX (x y:Int):zcl true (.p (i64 x)) (.p (i64 y))=some (.p (i64 (max x y))):=rfl

end Go.AL

namespace Go.AL
open Go

def runT (C:Cx) (ops:Array Oper) (r:SRes) (dst:Option Nat) (rest:List Oper) (k:List Item) (env:Env) (H:Hp) (R:AV → Hp → Prop):Prop :=
 match r with
 | .val x H'=>zD C.nt dst=true∧zcD C ops rest k (env.put dst x) H' R
 | .unit H'=>dst=none∧zcD C ops rest k (env.put dst .top) H' R
 | .call f args=>zD C.nt dst=true∧CallK C ops f (yl C.raw f args) dst rest k env H R
 | .yield b args=>zD C.nt dst=true∧YieldK C ops b (args.map AV.weak) dst rest k env H R
 | .fail=>False

section text
variable {C:Cx} {ops:Array Oper} {op:Op} {dst:Option Nat} {rest:List Oper} {k:List Item} {env:Env} {H H':Hp} {R:AV → Hp → Prop} {ty:TypeId} {pos:String} {after:Array Edge} {x:AV} {f:FuncId} {args:List AV} {j:Nat} {yS:Bool}

theorem zwf:zcD C ops [] k env H R=ARun C k env H R:=rfl
theorem zsi:zcD C ops (⟨dst,op,ty,pos,after,none⟩ :: rest) k env H R=runT C ops (zf C.P C.G op ty env H) dst rest k env H R:=by
 unfold zcD runT zAB;simp only [zF]
 try (cases zf C.P C.G op ty env H<;>rfl)
def guarded (C:Cx) (ops:Array Oper) (w:Option Bool) (op:Op) (ty:TypeId) (dst:Option Nat) (rest:List Oper) (k:List Item) (env:Env) (H:Hp) (R:AV → Hp → Prop):Prop :=
 match w with
 | some true=>runT C ops (zf C.P C.G op ty env H) dst rest k env H R
 | some false=>zD C.nt dst=true∧zcD C ops rest k (env.put dst (.tup [])) H R
 | none=>False
theorem zsj:zcD C ops (⟨dst,op,ty,pos,after,some (j,yS)⟩ :: rest) k env H R=guarded C ops (zF C.nt ops (some (j,yS)) env) op ty dst rest k env H R:=by
 conv=>lhs;unfold zcD
 unfold guarded zAB;simp only
 cases zF C.nt ops (some (j,yS)) env with
 | none=>rfl
 | some t =>
  cases t
  · rfl
  · simp only [runT];try (cases zf C.P C.G op ty env H<;>rfl)
theorem zjx:guarded C ops (some true) op ty dst rest k env H R=runT C ops (zf C.P C.G op ty env H) dst rest k env H R:=rfl
theorem zh3:guarded C ops (some false) op ty dst rest k env H R=(zD C.nt dst=true∧zcD C ops rest k (env.put dst (.tup [])) H R):=rfl
theorem zwg:runT C ops (.val x H') dst rest k env H R=(zD C.nt dst=true∧zcD C ops rest k (env.put dst x) H' R):=rfl
theorem zsk:runT C ops (.unit H') none rest k env H R=zcD C ops rest k env H' R:=by simp [runT,Env.put]
theorem zsl:runT C ops (.call f args) dst rest k env H R=(zD C.nt dst=true∧CallK C ops f (yl C.raw f args) dst rest k env H R):=rfl
theorem zoc {b:Nat}:runT C ops (.yield b args) dst rest k env H R=(zD C.nt dst=true∧YieldK C ops b (args.map AV.weak) dst rest k env H R):=rfl
theorem zod {nt d:Nat}:(zD nt (some d)=true)=(d < nt):=by simp [zD]
theorem put_some {d i:Nat}:Env.put env (some d) x i=if i=d then x else env i:=rfl
theorem zln {i:Nat}:Env.put env none x i=env i:=rfl
end text

def guardOf (nt:Nat) (d:Option Nat) (env:Env) (yS:Bool):Option Bool :=
 match d with
 | some d=>if d < nt then (match env d with | .p (.s (.bool t))=>some (t == yS) | .tup []=>some false | _=>none) else none
 | none=>none
theorem zjy {nt:Nat} {ops:Array Oper} {j:Nat} {yS:Bool} {env:Env}:zF nt ops (some (j,yS)) env=guardOf nt ((ops[j]?).bind (·.dst)) env yS:=rfl
def zoe (x:AV) (yS:Bool):Option Bool:=match x with | .p (.s (.bool t))=>some (t == yS) | .tup []=>some false | _=>none
theorem zjz {nt d:Nat} {env:Env} {yS:Bool}:guardOf nt (some d) env yS=if d < nt then zoe (env d) yS else none:=rfl
theorem zsm {t yS:Bool}:zoe (.p (bo t)) yS=some (t == yS):=rfl
theorem zof {yS:Bool}:zoe (.tup []) yS=some false:=rfl

def zdr (C:Cx) (ops:Array Oper) (q:Nat → Bool) (n:Nat) (l:List Oper) (k:List Item) (env:Env) (H:Hp) (R:AV → Hp → Prop):Prop:=zeV C ops q (fun env' H'=>ARun C k env' H' R) n l env H

section draw
variable {C:Cx} {ops:Array Oper} {q:Nat → Bool} {quiet:Bool} {n:Nat} {op:Op} {dst:Option Nat} {rest:List Oper} {k:List Item} {env:Env} {H H':Hp} {R:AV → Hp → Prop} {ty:TypeId} {pos:String} {after:Array Edge} {x:AV} {f:FuncId} {args:List AV} {j:Nat} {yS:Bool}

theorem zwh {o:Oper} (hn:ops[n]? = some o) (hg:zF C.nt ops o.guard env=some true) {x:AV} {H':Hp} (hr:zf C.P C.G o.op o.type env H = .val x H') (hd:zD C.nt o.dst=true) (hq:q n=true → H'=H)
 (h:zdr C ops q (n+1) rest k (env.put o.dst x) H' R):zdr C ops q n (o :: rest) k env H R:=by
 unfold zdr zeV opA;simp only [hn,hg]
 cases hqn:q n with
 | true =>
  simp only [if_true]
  have:=hq hqn;subst this
  exact⟨x,by unfold aOp1;rw [hr];exact⟨hd,rfl,rfl⟩,h⟩
 | false =>
  simp only [Bool.false_eq_true,if_false];unfold aOp1;rw [hr]
  exact⟨hd,h⟩
theorem zsn {o:Oper} (hn:ops[n]? = some o) (hg:zF C.nt ops o.guard env=some true) {H':Hp} (hr:zf C.P C.G o.op o.type env H = .unit H') (hd:o.dst=none) (hq:q n=false)
 (h:zdr C ops q (n+1) rest k env H' R):zdr C ops q n (o :: rest) k env H R:=by
 unfold zdr zeV opA;simp only [hn,hg,hq,Bool.false_eq_true,if_false];unfold aOp1;rw [hr]
 exact⟨hd,by rw [hd];exact h⟩
theorem zso {o:Oper} (hn:ops[n]? = some o) (hg:zF C.nt ops o.guard env=some true) {f:FuncId} {args:List AV} (hr:zf C.P C.G o.op o.type env H = .call f args) (hd:zD C.nt o.dst=true)
 (h:if q n then ∃ x,ACall C.P C.G f (yl C.raw f args) H (fun x' H'=>x'=x∧H'=H)∧zdr C ops q (n+1) rest k (env.put o.dst x) H R
  else ACall C.P C.G f (yl C.raw f args) H (fun x H'=>zdr C ops q (n+1) rest k (env.put o.dst x) H' R)):zdr C ops q n (o :: rest) k env H R:=by
 unfold zdr zeV opA;simp only [hn,hg]
 cases hqn:q n with
 | true =>
  rw [hqn] at h;simp only [if_true] at h ⊢
  obtain⟨x,h2,h3⟩:=h
  exact⟨x,by unfold aOp1;rw [hr];exact⟨hd,h2⟩,h3⟩
 | false =>
  rw [hqn] at h;simp only [Bool.false_eq_true,if_false] at h ⊢;unfold aOp1;rw [hr]
  exact⟨hd,h⟩

theorem zog {o:Oper} (hn:ops[n]? = some o) (hg:zF C.nt ops o.guard env=some true) {b:Nat} {args:List AV} (hr:zf C.P C.G o.op o.type env H = .yield b args) (hd:zD C.nt o.dst=true) (hq:q n=false)
 (h:AYield C.P C.G b (args.map AV.weak) H (fun x H'=>zdr C ops q (n+1) rest k (env.put o.dst x) H' R)):zdr C ops q n (o :: rest) k env H R:=by
 unfold zdr zeV opA;simp only [hn,hg,hq,Bool.false_eq_true,if_false];unfold aOp1;rw [hr]
 exact⟨hd,h⟩
theorem zsp {o:Oper} (hn:ops[n]? = some o) (hg:zF C.nt ops o.guard env=some false) (hd:zD C.nt o.dst=true) (h:zdr C ops q (n+1) rest k (env.put o.dst (.tup [])) H R):zdr C ops q n (o :: rest) k env H R:=by
 unfold zdr zeV opA;simp only [hn,hg]
 exact⟨hd,h⟩

def zaj (C:Cx) (ops:Array Oper) (q:Nat → Bool):Nat → List Oper → List Item → Env → Hp → (AV → Hp → Prop) → Prop
 | _,[],k,env,H,R=>ARun C k env H R
 | n,o :: rest,k,env,H,R =>
  match zF C.nt ops o.guard env with
  | some true=>(match zf C.P C.G o.op o.type env H with
   | .val x H'=>zD C.nt o.dst=true∧(q n=true → H'=H)∧zaj C ops q (n+1) rest k (env.put o.dst x) H' R
   | .unit H'=>o.dst=none∧q n=false∧zaj C ops q (n+1) rest k env H' R
   | .call f args=>zD C.nt o.dst=true∧if q n then ∃ x,ACall C.P C.G f (yl C.raw f args) H (fun x' H'=>x'=x∧H'=H)∧zaj C ops q (n+1) rest k (env.put o.dst x) H R
    else ACall C.P C.G f (yl C.raw f args) H (fun x H'=>zaj C ops q (n+1) rest k (env.put o.dst x) H' R)
   | .yield b args=>zD C.nt o.dst=true∧q n=false∧AYield C.P C.G b (args.map AV.weak) H (fun x H'=>zaj C ops q (n+1) rest k (env.put o.dst x) H' R)
   | .fail=>False)
  | some false=>zD C.nt o.dst=true∧zaj C ops q (n+1) rest k (env.put o.dst (.tup [])) H R
  | none=>False

theorem yy : ∀ {l:List Oper} {n:Nat} {env:Env} {H:Hp},(∀ j,l[j]? = ops[n+j]?) → zaj C ops q n l k env H R → zdr C ops q n l k env H R
 | [],n,env,H,_,h=>h
 | o :: rest,n,env,H,hl,h=>by
  have h0:ops[n]? = some o:=by simpa using (hl 0).symm
  have hl' : ∀ j,rest[j]? = ops[n+1+j]? := fun j=>by have:=hl (j+1);simpa [Nat.add_assoc,Nat.add_comm 1 j] using this
  unfold zaj at h;split at h
  · rename_i hw
    cases hr:zf C.P C.G o.op o.type env H with
    | val x H'=>rw [hr] at h;exact zwh h0 hw hr h.1 h.2.1 (yy hl' h.2.2)
    | unit H'=>rw [hr] at h;exact zsn h0 hw hr h.1 h.2.1 (yy hl' h.2.2)
    | call f args =>
     rw [hr] at h;refine zso h0 hw hr h.1 ?_;have h2:=h.2;split at h2
     · rename_i hq;rw [if_pos hq];obtain⟨x,a,b⟩:=h2;exact⟨x,a,yy hl' b⟩
     · rename_i hq;rw [if_neg hq];exact h2.mono fun x H' b=>yy hl' b
    | yield b args =>
     rw [hr] at h;exact zog h0 hw hr h.1 h.2.1 (h.2.2.mono fun x H' b=>yy hl' b)
    | fail=>rw [hr] at h;exact h.elim
  · rename_i hw;exact zsp h0 hw h.1 (yy hl' h.2)
  · exact h.elim

def CallD (C:Cx) (ops:Array Oper) (q:Nat → Bool) (quiet:Bool) (f:FuncId) (args:List AV) (dst:Option Nat) (n:Nat) (rest:List Oper) (k:List Item) (env:Env) (H:Hp) (R:AV → Hp → Prop):Prop :=
 if quiet then ∃ x,ACall C.P C.G f args H (fun x' H'=>x'=x∧H'=H)∧zaj C ops q n rest k (env.put dst x) H R
 else ACall C.P C.G f args H (fun x H'=>zaj C ops q n rest k (env.put dst x) H' R)

def YieldD (C:Cx) (ops:Array Oper) (q:Nat → Bool) (b:Nat) (args:List AV) (dst:Option Nat) (n:Nat) (rest:List Oper) (k:List Item) (env:Env) (H:Hp) (R:AV → Hp → Prop):Prop :=
 AYield C.P C.G b args H (fun x H'=>zaj C ops q n rest k (env.put dst x) H' R)

def zf5 (C:Cx) (ops:Array Oper) (q:Nat → Bool) (r:SRes) (n:Nat) (dst:Option Nat) (rest:List Oper) (k:List Item) (env:Env) (H:Hp) (R:AV → Hp → Prop):Prop :=
 match r with
 | .val x H'=>zD C.nt dst=true∧(q n=true → H'=H)∧zaj C ops q (n+1) rest k (env.put dst x) H' R
 | .unit H'=>dst=none∧q n=false∧zaj C ops q (n+1) rest k env H' R
 | .call f args=>zD C.nt dst=true∧CallD C ops q (q n) f (yl C.raw f args) dst (n+1) rest k env H R
 | .yield b args=>zD C.nt dst=true∧q n=false∧YieldD C ops q b (args.map AV.weak) dst (n+1) rest k env H R
 | .fail=>False

theorem zwi:zaj C ops q n [] k env H R=ARun C k env H R:=rfl
theorem zsq:zaj C ops q n (⟨dst,op,ty,pos,after,none⟩ :: rest) k env H R=zf5 C ops q (zf C.P C.G op ty env H) n dst rest k env H R:=by
 conv=>lhs;unfold zaj
 simp only [zF];unfold zf5 CallD YieldD
 cases zf C.P C.G op ty env H<;>rfl
def zbZ (C:Cx) (ops:Array Oper) (q:Nat → Bool) (w:Option Bool) (op:Op) (ty:TypeId) (n:Nat) (dst:Option Nat) (rest:List Oper) (k:List Item) (env:Env) (H:Hp) (R:AV → Hp → Prop):Prop :=
 match w with
 | some true=>zf5 C ops q (zf C.P C.G op ty env H) n dst rest k env H R
 | some false=>zD C.nt dst=true∧zaj C ops q (n+1) rest k (env.put dst (.tup [])) H R
 | none=>False
theorem zsr:zaj C ops q n (⟨dst,op,ty,pos,after,some (j,yS)⟩ :: rest) k env H R=zbZ C ops q (zF C.nt ops (some (j,yS)) env) op ty n dst rest k env H R:=by
 conv=>lhs;unfold zaj
 unfold zbZ zf5 CallD YieldD
 cases zF C.nt ops (some (j,yS)) env with
 | none=>rfl
 | some b=>cases b<;>cases zf C.P C.G op ty env H<;>rfl
theorem zh4:zbZ C ops q (some true) op ty n dst rest k env H R=zf5 C ops q (zf C.P C.G op ty env H) n dst rest k env H R:=rfl
theorem zgY:zbZ C ops q (some false) op ty n dst rest k env H R=(zD C.nt dst=true∧zaj C ops q (n+1) rest k (env.put dst (.tup [])) H R):=rfl
theorem zwj:zf5 C ops q (.val x H') n dst rest k env H R=(zD C.nt dst=true∧(q n=true → H'=H)∧zaj C ops q (n+1) rest k (env.put dst x) H' R):=rfl
theorem zss:zf5 C ops q (.val x H) n dst rest k env H R=(zD C.nt dst=true∧zaj C ops q (n+1) rest k (env.put dst x) H R):=by simp [zf5]
theorem zst:zf5 C ops q (.unit H') n none rest k env H R=(q n=false∧zaj C ops q (n+1) rest k env H' R):=by simp [zf5]
theorem zsu:zf5 C ops q (.call f args) n dst rest k env H R=(zD C.nt dst=true∧CallD C ops q (q n) f (yl C.raw f args) dst (n+1) rest k env H R):=rfl

theorem zoh {b:Nat}:zf5 C ops q (.yield b args) n dst rest k env H R=(zD C.nt dst=true∧q n=false∧YieldD C ops q b (args.map AV.weak) dst (n+1) rest k env H R):=rfl

theorem YieldD.of {b:Nat} {args':List AV} {r:AV} {H':Hp} (h : ∀ R:AV → Hp → Prop,R r H' → AYield C.P C.G b args' H R) (hk:zaj C ops q n rest k (env.put dst r) H' R):YieldD C ops q b args' dst n rest k env H R :=
 h _ hk

theorem CallD.still {args':List AV} {r:AV} (h : ∀ R:AV → Hp → Prop,R r H → ACall C.P C.G f args' H R) (hk:zaj C ops q n rest k (env.put dst r) H R):CallD C ops q true f args' dst n rest k env H R:=by
 unfold CallD;rw [if_pos rfl]
 exact⟨r,h _ ⟨rfl,rfl⟩,hk⟩
theorem CallD.moves {args':List AV} {S:AV → Hp → Prop} (h:ACall C.P C.G f args' H S) (hk : ∀ r H',S r H' → zaj C ops q n rest k (env.put dst r) H' R):CallD C ops q false f args' dst n rest k env H R:=by
 unfold CallD;rw [if_neg (by simp)];exact h.mono hk

def zaT (loud:List Nat) (n:Nat):Bool := !loud.contains n

theorem ARun.open {id:Nat} {l:List Oper} (loud:List Nat) (hm:C.P.follows .mixedOrders=true) (hB:zkW (zaT loud) l.toArray l.length 0 (Array.replicate l.length false)=true)
 (h:zaj C l.toArray (zaT loud) 0 l k env H R):ARun C (.code (.region id l.toArray true) :: k) env H R :=
 .draw (zaT loud) hm hB (yy (by simp) h)
end draw

theorem zoi {n:Nat}:zaT [] n=true:=rfl
theorem zlo {m n:Nat} {l:List Nat}:zaT (m :: l) n=(!(n == m) && zaT l n):=by
 unfold zaT;rw [List.contains_cons]
 cases (n == m)<;>simp

section branch
variable {C:Cx} {k:List Item} {env:Env} {H:Hp} {R:AV → Hp → Prop} {x y:Code} {t:Nat}
theorem ARun.ifT (hc:env t = .p (bo true)) (h:ARun C (.code x :: k) env H R):ARun C (.code (.cond (.tmp t) x y) :: k) env H R:=ARun.cond (t:=true) hc h
theorem ARun.ifF (hc:env t = .p (bo false)) (h:ARun C (.code y :: k) env H R):ARun C (.code (.cond (.tmp t) x y) :: k) env H R:=ARun.cond (t:=false) hc h
theorem ARun.ifB {b:Bool} (hc:env t = .p (bo b)) (h1:b=true → ARun C (.code x :: k) env H R) (h2:b=false → ARun C (.code y :: k) env H R):ARun C (.code (.cond (.tmp t) x y) :: k) env H R:=by
 cases b
 · exact .ifF hc (h2 rfl)
 · exact .ifT hc (h1 rfl)
end branch

theorem zwk {a b:Int} (h:a < b):decide (a < b)=true:=decide_eq_true h
theorem zwl {a b:Int} (h:b≤a):decide (a < b)=false:=decide_eq_false (by omega)
theorem zwm {a b:Int} (h:a≤b):decide (a≤b)=true:=decide_eq_true h
theorem zwn {a b:Int} (h:b < a):decide (a≤b)=false:=decide_eq_false (by omega)
theorem zEE {a b:Int} (h:a=b):(a == b)=true:=by simp [h]
theorem zEF {a b:Int} (h:a≠b):(a == b)=false:=by simp [h]
theorem zEG {a b:Int} (h:a≠b):(a != b)=true:=by simp [h]
theorem zEH {a b:Int} (h:a=b):(a != b)=false:=by simp [h]

section heaps
variable {H:Hp} {x y:AB} {b c:Nat}
theorem n_new':(H.new x).n=H.n+1:=by rw [Hp.n_new]
theorem n_set':(H.set b x).n=H.n:=by rw [Hp.n_set]
theorem zm (h:b=H.n):(H.new x).f b=some x:=by simp [Hp.f_new,h]
theorem zc (h:b≠H.n):(H.new x).f b=H.f b:=by simp [Hp.f_new,h]
theorem zo (h:c=b) (hb:b < H.n):(H.set b x).f c=some x:=by simp [Hp.f_set,h,hb]
theorem f_set_ne' (h:c≠b):(H.set b x).f c=H.f c:=by simp [Hp.f_set,h]
theorem zoj (h:b=H.n):(H.new x).set b y=H.new y:=by subst h;exact Hp.set_new_self H x y
theorem zgZ (h:b < H.n):(H.new x).set b y=(H.set b y).new x:=Hp.set_new_old H x y b h
theorem trunc_new' (h:b≤H.n):(H.new x).trunc b=H.trunc b:=Hp.trunc_new H x b h
theorem trunc_set' (h:b≤c):(H.set c x).trunc b=H.trunc b:=Hp.trunc_set H x c b h
theorem zwo (h:b=H.n):H.trunc b=H:=by subst h;exact Hp.trunc_self H
end heaps

def zqN (P:Program) (d:Option TypeDesc) (x:AV) (ix:Option Int):Option AV :=
 match ix with
 | some n =>
  match d,x with
  | some (.array len e),x=>if 0≤n∧n.toNat < len∧0 < P.cellsOf e∧x.isAggV then zgC P e x (n.toNat*P.cellsOf e) else none
  | some .string,.p (.s (.string s))=>if 0≤n then (s[n.toNat]?).map fun b => .p (.s (.int .u8 b.toNat)) else none
  | _,_=>none
 | none=>none
theorem zsv {P:Program} {t:TypeId} {x ix:AV}:zaE P t x ix=zqN P (P.underlying t) x ix.int? := rfl
theorem zlp {P:Program} {len:Nat} {e:TypeId} {x:AV} {n:Int}:zqN P (some (.array len e)) x (some n)=if 0≤n∧n.toNat < len∧0 < P.cellsOf e∧x.isAggV then zgC P e x (n.toNat*P.cellsOf e) else none:=rfl

section steps
variable {P:Program} {G:Globs} {ty:TypeId} {env:Env} {H:Hp} {x y z:Operand}
theorem zsw:zf P G (.move x) ty env H = .val (za3 P G env ty x) H:=rfl
theorem zlq:zf P G (.assign x) ty env H = .val (za3 P G env ty x) H:=rfl
def zlr (ps:Option (List PV)) (H:Hp):SRes:=match ps with | some ps => .val (.ptr H.n 0) (H.new (.cells (ps.map .p))) | none => .fail
theorem zol {t:TypeId}:zf P G (.alloc t) ty env H=zlr (zJ P t) H:=rfl
theorem zh5 {ps:List PV}:zlr (some ps) H = .val (.ptr H.n 0) (H.new (.cells (ps.map .p))):=rfl
def zwp (cs:Option (List AV)) (H:Hp):SRes:=match cs with | some cs => .val (.ptr H.n 0) (H.new (.cells cs)) | none => .fail
theorem zwq {t:TypeId}:zf P G (.box t x) ty env H=zwp (zj (yg G env x)) H:=rfl
theorem zls {cs:List AV}:zwp (some cs) H = .val (.ptr H.n 0) (H.new (.cells cs)):=rfl
theorem zom {t:TypeId} {ps:Array (Nat × Operand)}:zf P G (.build t ps) ty env H=vH (ya P t (yW G env ps.toList)) H:=rfl
theorem zf6 {t:TypeId} {n:Nat} {ps:Array (Nat × Operand)}:zf P G (.buildSlice t n ps) ty env H=vHH (zaH P H t n (yW G env ps.toList)):=rfl
theorem zsx {t:TypeId}:zf P G (.load t x) ty env H=vH (zcj P H t (zgK H (yg G env x))) H:=rfl
theorem zon {t:TypeId}:zf P G (.store t x y) ty env H=uH (zfj P H t (yg G env x) (za3 P G env t y)):=rfl
theorem zh6:zf P G (.nilCheck x) ty env H=vH (zrS (yg G env x)) H:=rfl
theorem zoo {op:BinOp} {t t':TypeId}:zf P G (.binOp op t x y t') ty env H=vH (zI P op t (zgP G env x) (zgP G env y)) H:=rfl
theorem zsy {op:UnOp} {t:TypeId}:zf P G (.unOp op t x) ty env H=vH (aUn op (yg G env x)) H:=rfl
theorem zjA {s d:TypeId}:zf P G (.convert s d x) ty env H=vH (zck P H s d (yg G env x)) H:=rfl
def zwr (i:Bool) (t:TypeId) (x:AV) (H:Hp):SRes:=match x with | .p (.s v)=>if i then .fail else .val (.p (.s (.iface t v))) H | _ => .fail
theorem zev {t:TypeId}:zf P G (.makeInterface t x) ty env H=zwr (isIface P t) t (yg G env x) H:=rfl
theorem zf7 {xt t:TypeId} {ok:Bool}:zf P G (.typeAssert x xt t ok) ty env H=vH (zgl P t ok (yg G env x)) H:=rfl
theorem zh7 {f:FuncId} {a c:Array Operand}:zf P G (.makeFunc (.func f) a c) ty env H = .val (.clo f (zbn G env a.toList) (zbn G env c.toList)) H:=rfl
theorem zf8 {t:TypeId} {k:IntKind}:zf P G (.makeSlice t (.const (.int k 0)) y) ty env H=vHH (zdk P H t (yg G env (.const (.int k 0))) (yg G env y)):=rfl
theorem zg0 {t:TypeId} {n:Nat}:zf P G (.makeSlice t (.tmp n) y) ty env H=vHH (zeP P H t (env n) (yg G env y)):=rfl
theorem zop {t:TypeId} {lo hi mx:Option Operand}:zf P G (.slice t x lo hi mx) ty env H=vH (zgH P t (yg G env x) (lo.map (yg G env)) (hi.map (yg G env)) (mx.map (yg G env))) H:=rfl
theorem zg1 {s:TypeId} {f:Nat}:zf P G (.fieldAddr s x f) ty env H=vH (zbT P s (yg G env x) f) H:=rfl
theorem zws {b off:Nat}:zgK H (.ptr b off) = .ptr b off:=rfl
theorem zAH {sz i sub:Nat} {xs:List PV}:zgK H (.ip sz xs i sub) = .ip sz xs i sub:=rfl
theorem zAI {b k off:Nat}:zgK H (.vp b k off) = .vp b k off:=rfl
def zEI (o:Nat) (q:Option (Nat × List PV)):AV:=match q with | some (sz,xs)=>if o < xs.length*sz then .ip sz xs (o / sz) (o % sz) else .top | none => .top
theorem zAJ {g o:Nat}:zgK H (.p (ptq g o))=zEI o (H.z g):=rfl
theorem zsz {o sz:Nat} {xs:List PV}:zEI o (some (sz,xs))=if o < xs.length*sz then .ip sz xs (o / sz) (o % sz) else .top:=rfl
theorem zAK {g o:Nat}:zrS (.p (ptq g o))=some (.p (ptq g o)):=rfl
theorem zsA {g o:Nat}:(ptq g o).cells=[ptq g o]:=rfl
theorem zwt {g o:Nat}:(ptq g o).weak=ptq g o:=rfl
theorem zsB {g o:Nat}:(ptq g o).weak1=ptq g o:=rfl
theorem zsC {g o:Nat}:(ptq g o).isAgg=false:=rfl
theorem zoq {g o:Nat}:(AV.p (ptq g o)).isAggV=false:=rfl
theorem zor {g o:Nat}:zj (.p (ptq g o))=some [.p (ptq g o)]:=rfl
theorem z_new {x:AB}:(H.new x).z=H.z:=rfl
theorem z_set {b:Nat} {x:AB}:(H.set b x).z=H.z:=rfl
theorem zos {t:TypeId} {g o:Nat} (h:zen P t=true):zI P .eql t (.p (ptq g o)) (.p (.s (.pointer none)))=some (.p (bo false)):=by
 simp only [zI,ptq,ptA,zak,h];rfl
theorem zot {s:TypeId} {f:Nat}:zf P G (.field s x f) ty env H=vH (zgD P s (yg G env x) f) H:=rfl
theorem zg2 {t:TypeId}:zf P G (.indexAddr t x y) ty env H=vH (zbS P t (yg G env x) (yg G env y)) H:=rfl
theorem zou {t:TypeId}:zf P G (.index t x y) ty env H=vH (zaE P t (yg G env x) (yg G env y)) H:=rfl
def zg3 (x:AV) (i:Nat) (H:Hp):SRes:=match x with | .tup xs=>vH xs[i]? H | _ => .fail
theorem zjB {i:Nat}:zf P G (.extract x i) ty env H=zg3 (yg G env x) i H:=rfl
def zqO (b:AV) (x y:AV) (H:Hp):SRes:=match b with | .p (.s (.bool b)) => .val (if b then x else y) H | _ => .fail
theorem zsD:zf P G (.pick x y z) ty env H=zqO (yg G env x) (za3 P G env ty y) (za3 P G env ty z) H:=rfl
theorem zov {b:Bool} {u v:AV}:zqO (.p (bo b)) u v H = .val (if b=true then u else v) H:=rfl
theorem zg4 {xs:List AV} {i:Nat}:zg3 (.tup xs) i H=vH xs[i]? H:=rfl
theorem zsE {f:Operand} {a:Array Operand} {ts:Array TypeId}:zf P G (.call ⟨.value f,a,ts⟩) ty env H=zaQ P G env ⟨.value f,a,ts⟩ (yg G env f) H:=rfl
theorem zjC {b:Builtin} {a:Array Operand} {ts:Array TypeId}:zf P G (.call ⟨.builtin b,a,ts⟩) ty env H=zV P G env H b a.toList ts.toList:=rfl
theorem zjD {c:Call} {fn:FuncId} {a b:List AV}:zaQ P G env c (.clo fn a b) H=if enters P fn then .call fn (a++yV P G env c.args.toList c.argTypes.toList++b) else zbX P fn (a++yV P G env c.args.toList c.argTypes.toList++b) H:=rfl
theorem zlt {fn:FuncId} {nm:String} {args:List AV} (h:zgk P fn=some nm):zbX P fn args H=vH (zh0 nm args) H:=by rw [zbX,h]
theorem zjE {c:Call} {b:Nat}:zaQ P G env c (.yld b) H = .yield b (yV P G env c.args.toList c.argTypes.toList):=rfl
theorem zwu {b:Nat}:(AV.yld b).weak = .yld b:=rfl
def lenD (P:Program) (d:Option TypeDesc) (x:AV):Option AV :=
 match d with
 | some .string=>match x with | .p (.s (.string s))=>some (.p (.s (.int .i64 s.size))) | _=>none
 | some (.slice _) =>
  match x with
  | .p (.sl _ _ xs) | .sl _ _ _ xs=>some (.p (.s (.int .i64 xs.length)))
  | .ref _ _ len _=>some (.p (.s (.int .i64 len)))
  | .vr _ len _=>some (.p (.s (.int .i64 len)))
  | _=>none
 | some (.array n _)=>some (.p (.s (.int .i64 n)))
 | some (.pointer a)=>match P.underlying a with | some (.array n _)=>some (.p (.s (.int .i64 n))) | _=>none
 | _=>none
theorem zwv {s:ByteArray}:lenD P (some .string) (.p (str s))=some (.p (i64 s.size)):=rfl
theorem zC1 {e:TypeId} {b:Bool} {z:Nat} {xs:List PV}:lenD P (some (.slice e)) (.p (.sl b z xs))=some (.p (i64 xs.length)):=rfl
theorem zAL {e:TypeId} {a v z:Nat} {xs:List PV}:lenD P (some (.slice e)) (.sl a v z xs)=some (.p (i64 xs.length)):=rfl
theorem zww {e:TypeId} {b o l z:Nat}:lenD P (some (.slice e)) (.ref b o l z)=some (.p (i64 l)):=rfl
theorem zAM {e:TypeId} {b l z:Nat}:lenD P (some (.slice e)) (.vr b l z)=some (.p (i64 l)):=rfl
theorem zwx {n:Nat} {e:TypeId} {x:AV}:lenD P (some (.array n e)) x=some (.p (i64 n)):=rfl
theorem zwy {a:TypeId} {x:AV}:lenD P (some (.pointer a)) x=match P.underlying a with | some (.array n _)=>some (.p (.s (.int .i64 n))) | _=>none:=rfl
theorem builtin_len {t:TypeId}:zV P G env H .len [x] [t]=vH (lenD P (P.underlying t) (yg G env x)) H:=rfl
theorem builtin_append {t u:TypeId}:zV P G env H .append [x,y] [t,u]=vHH (zeO P H t u (za3 P G env t x) (za3 P G env u y)):=rfl
theorem builtin_copy {t u:TypeId}:zV P G env H .copy [x,y] [t,u]=vHH (zkJ P H t (yg G env x) (yg G env y)):=rfl
theorem builtin_min {ts:List TypeId}:zV P G env H .min [x,y] ts=vH (zcl false (yg G env x) (yg G env y)) H:=rfl
theorem builtin_max {ts:List TypeId}:zV P G env H .max [x,y] ts=vH (zcl true (yg G env x) (yg G env y)) H:=rfl
theorem zAN {v:AV}:vH (some v) H = .val v H:=rfl
theorem zwz {v:AV} {H':Hp}:vHH (some (v,H')) = .val v H':=rfl
theorem zAO {H':Hp}:uH (some H') = .unit H':=rfl
theorem zAP {t:Nat}:yg G env (.tmp t)=env t:=rfl
theorem zsF {v:Value}:yg G env (.const v)=yr v:=rfl
theorem zwA {f:FuncId}:yg G env (.func f) = .clo f [] []:=rfl
def zlu (g:Option (Nat × List PV)):AV:=match g with | some (sz,xs) => .ip sz xs 0 0 | none => .top
theorem zow {g:Nat}:yg G env (.global g)=zlu (G g):=rfl
theorem zox {sz:Nat} {xs:List PV}:zlu (some (sz,xs)) = .ip sz xs 0 0:=rfl
theorem zwB {t:Nat}:za3 P G env ty (.tmp t)=env t:=rfl
theorem zoy {v:Value}:za3 P G env ty (.const v)=zaB P ty v:=rfl
theorem zsG {f:FuncId}:za3 P G env ty (.func f) = .clo f [] []:=rfl
theorem zlv {g:Nat}:za3 P G env ty (.global g)=zlu (G g):=rfl
theorem zlw {k:IntKind} {n:Int}:zaB P ty (.int k n)=yr (.int k n):=rfl
theorem zjF {b:Bool}:zaB P ty (.bool b)=yr (.bool b):=rfl
theorem zg5 {s:ByteArray}:zaB P ty (.string s)=yr (.string s):=rfl
theorem zf9:zaB P ty .nilFunc = .p (.s .nilFunc):=rfl
def zCG (d:Option TypeDesc) (P:Program):AV:=match d with | some (.slice e) => .p (.sl true (P.cellsOf e) []) | _ => .p (.sl true 0 [])
theorem zlx:zaB P ty (.slice none 0 0)=zCG (P.underlying ty) P:=rfl
theorem zly {e:TypeId}:zCG (some (.slice e)) P = .p (.sl true (P.cellsOf e) []):=rfl
theorem zsH {ts:List TypeId}:yV P G env [] ts=[]:=rfl
theorem zoz {xs:List Operand} {t:TypeId} {ts:List TypeId}:yV P G env (x :: xs) (t :: ts)=zjr P G env t x :: yV P G env xs ts:=rfl
theorem zwC {t:Nat}:zgP G env (.tmp t)=env t:=rfl
theorem zoA {v:Value}:zgP G env (.const v)=zbF v:=rfl
theorem zsI {f:FuncId}:zgP G env (.func f) = .clo f [] []:=rfl
theorem zlz {g:Nat}:zgP G env (.global g)=zlu (G g):=rfl
theorem zwD {t:Nat}:zjr P G env ty (.tmp t)=env t:=rfl
theorem zoB {v:Value}:zjr P G env ty (.const v)=zbe P ty v:=rfl
theorem zsJ {f:FuncId}:zjr P G env ty (.func f) = .clo f [] []:=rfl
theorem zlA {g:Nat}:zjr P G env ty (.global g)=zlu (G g):=rfl
theorem zlB {k:IntKind} {n:Int}:zbF (.int k n)=yr (.int k n):=rfl
theorem zjG {b:Bool}:zbF (.bool b)=yr (.bool b):=rfl
theorem zg6 {s:ByteArray}:zbF (.string s)=yr (.string s):=rfl
theorem zlC:zbF (.slice none 0 0) = .p (.s (.slice none 0 0)):=rfl
theorem zlD {k:IntKind} {n:Int}:zbe P ty (.int k n)=yr (.int k n):=rfl
theorem zjH {b:Bool}:zbe P ty (.bool b)=yr (.bool b):=rfl
theorem zg7 {s:ByteArray}:zbe P ty (.string s)=yr (.string s):=rfl
theorem zga:zbe P ty .nilFunc = .p (.s .nilFunc):=rfl
theorem zlE:zbe P ty (.slice none 0 0) = .p (.s (.slice none 0 0)):=rfl
theorem zsK {t:TypeId}:zen P t=zAu (P.underlying t):=rfl
theorem zjI {e:TypeId}:zAu (some (.pointer e))=true:=rfl
theorem zlF:yr (.pointer none) = .p (.s (.pointer none)):=rfl
theorem zjJ:zbF (.pointer none) = .p (.s (.pointer none)):=rfl
theorem zjK:zaB P ty (.pointer none) = .p (.s (.pointer none)):=rfl
theorem zjL:zbe P ty (.pointer none) = .p (.s (.pointer none)):=rfl
theorem zlG {t:TypeId}:zdf P t=zjl (P.underlying t):=rfl
theorem zjM {e:TypeId}:zjl (some (.slice e))=true:=rfl
theorem zjN {t:TypeId} (h:zen P t=true):zI P .eql t (.p (.s (.pointer none))) (.p (.s (.pointer none)))=some (.p (bo true)):=by
 simp only [zI,zak,h];rfl
theorem zoC:yW G env []=[]:=rfl
theorem zlH {i:Nat} {r:List (Nat × Operand)}:yW G env ((i,x) :: r)=(i,yg G env x) :: yW G env r:=rfl
theorem zsL:zbn G env []=[]:=rfl
theorem zoD {r:List Operand}:zbn G env (x :: r)=yg G env x :: zbn G env r:=rfl
theorem zC2 {v:PV}:(AV.p v).weak = .p v.weak:=rfl
theorem zAQ {a v sz:Nat} {xs:List PV}:(AV.sl a v sz xs).weak = .p (.sl false sz xs):=rfl
theorem zwE {b off len sz:Nat}:(AV.ref b off len sz).weak = .ref b off len sz:=rfl
theorem zAR {b len sz:Nat}:(AV.vr b len sz).weak = .vr b len sz:=rfl
theorem zAS {b k off:Nat}:(AV.vp b k off).weak = .vp b k off:=rfl
theorem vec?_vec {cs:List AV}:(AB.vec cs).vec? = some cs:=rfl
theorem vec?_cells {cs:List AV}:(AB.cells cs).vec? = none:=rfl
theorem vec?_tail {v:Nat}:(AB.tail v).vec? = none:=rfl
theorem zwF {b off:Nat}:(AV.ptr b off).weak = .ptr b off:=rfl
theorem zAT {sz i sub:Nat} {xs:List PV}:(AV.ip sz xs i sub).weak = .ip sz xs i sub:=rfl
theorem zwG {f:FuncId} {a c:List AV}:(AV.clo f a c).weak = .clo f a c:=rfl
theorem zwH {fl:Bool} {sz:Nat} {xs:List PV}:(PV.sl fl sz xs).weak = .sl false sz xs:=rfl
theorem zsM {fl:Bool} {sz:Nat} {xs:List PV}:(PV.sl fl sz xs).weak1 = .sl false sz xs:=rfl
theorem zsN {xs:List PV}:(PV.agg xs).weak = .agg (xs.map PV.weak1):=rfl
theorem zjO {f:FuncId} {args:List AV}:yl [] f args=args.map AV.weak:=rfl
end steps

attribute [go_sem ↓] put_some
attribute [go_sem] zAR zAS vec?_vec vec?_cells vec?_tail
attribute [go_sem] zoc zoh zjE zwu zwf zsi zsj zjx zh3 zwg zsk zsl zod zln zjy zjz zsm zwi zsq zsr zh4 zgY zss zwj zst zsu zsw zlq zol zh5 zwq zls zom zf6 zsx zon zh6 zoo zsy zjA zev zf7 zh7 zf8 zg0 zop zg1 zot zg2 zou zjB zsD zov zg4 zsE zjC zjD builtin_len builtin_append builtin_copy builtin_min builtin_max zAN zwz zAO zAP zsF zwA zow zox zof zwC zoA zsI zlz zwD zoB zsJ zlA zlB zjG zg6 zlC zlD zjH zg7 zga zlE zws zAH zAI zAJ zsz zAK zsA zwt zsB zsC zoq zor z_new z_set zos zsK zjI zlF zjJ zjK zjL zjN zlG zjM zwB zoy zsG zlv zlw zjF zg5 zf9 zlx zly zsH zoz zoC zlH zsL zoD zC2 zAQ zwE zwF zAT zwG zwH zsM zsN zjO





attribute [go_sem] zrU zv4 zrV znR zrW znS znT zv5 zqM zv6 zrX zv7 zrY zrZ zr0 zv8 zr1 znU zr2 znV znW zv9 zAC zwa zr3 zwb zr4 zr5 zr6 zwc zr7 znX zr8 znY znZ zr9 zwd zsa zn0 zsb zn1 zn2 zsc zwe zsd zn3 zse zn4 zn5 zAD zC0 zAE zAF zAG zn6 zsf zn7 zsg zn8 zgU zgV zkY zkZ zk0 zk1 zk2 zk3 zk4 zk5 zk6 zf3 zf4 zn9 zk7 zk8 zk9 zla zlb zlc zld zle zlf zlg zlh zli zlj zoa zsh zlk zll zob zlm zjv zjw zgW zgX

theorem zoE {P:Program} {e:TypeId} {k:IntKind} {n:Int}:znz P e (.int k) (.p (i64 n))=(match zJ P e with
 | some [p]=>if 0≤n∧n*P.bytesOf e≤140737488355328∧n≤140737488355328∧P.cellsOf e=1∧p.cells.length=1∧p.isAgg=false then some (List.replicate n.toNat p) else none
 | _=>none):=rfl
attribute [go_sem] true_and and_true if_true if_false ite_true ite_false List.getElem?_cons_zero List.getElem?_cons_succ Option.getD_some Option.map_some Option.map_none Option.bind_some env0 implies_true zoi zlo zwk zwl zwm zwn zEE zEF zEG zEH zm zc zo f_set_ne' zoj zgZ trunc_new' trunc_set' zwo n_new' n_set' zdY zcj zfj zbS zbT zgD zsv zlp zgC zgH yb zwv zC1 zAL zww zAM zwx zwy zeP zdk zkJ zeO zvU zoE ziA zaw zaH yd zbA zrK zrS List.map_cons List.map_nil List.map_replicate List.length_cons List.length_nil List.length_map List.length_replicate List.length_append List.cons_append List.nil_append List.append_nil List.singleton_append Bool.not_true Bool.not_false Bool.and_true Bool.true_and Bool.and_false Bool.false_and Bool.or_true Bool.true_or Bool.or_false Bool.false_or Bool.false_eq_true Option.isSome_some Option.isSome_none Option.isNone_none Option.isNone_some Nat.add_zero Nat.zero_add Nat.mul_one Nat.one_mul Nat.sub_zero Int.toNat_natCast Int.toNat_zero Int.natCast_nonneg






end Go.AL

namespace Go.AL
open Go

theorem ARun.iter {C:Cx} {k:List Item} {env:Env} {H:Hp} {R:AV → Hp → Prop} {c:Code} {S:Type} (I:S → Env → Hp → Prop) (μ:S → Nat) (s0:S) (h0:I s0 env H)
 (round : ∀ s env H,I s env H → (∀ s' env' H',I s' env' H' → μ s' < μ s → ARun C (.inLoop c :: k) env' H' R) → ARun C (.code c :: .inLoop c :: k) env H R) :
 ARun C (.code (.loop c) :: k) env H R:=by
 have key : ∀ n s env H,μ s=n → I s env H → ARun C (.inLoop c :: k) env H R:=by
  intro n
  induction n using Nat.strongRecOn with
  | _ n ih =>
   intro s env H hn hI;exact .inLoop (round s env H hI fun s' env' H' hI' hlt=>ih (μ s') (hn ▸ hlt) s' env' H' rfl hI')
 exact .loop (key _ s0 env H rfl h0)

theorem ARun.count {C:Cx} {k:List Item} {env:Env} {H:Hp} {R:AV → Hp → Prop} {c:Code} (I:Nat → Env → Hp → Prop) (a n:Nat) (ha:a≤n) (h0:I a env H)
 (last : ∀ env H,I n env H → ARun C (.code c :: .inLoop c :: k) env H R)
 (round : ∀ i env H,a≤i → i < n → I i env H → (∀ env' H',I (i+1) env' H' → ARun C (.inLoop c :: k) env' H' R) → ARun C (.code c :: .inLoop c :: k) env H R) :
 ARun C (.code (.loop c) :: k) env H R :=
 .iter (S:=Nat) (fun i env H=>a≤i∧i≤n∧I i env H) (fun i=>n - i) a ⟨Nat.le_refl _,ha,h0⟩ fun i env H ⟨h1,h2,h3⟩ ih=>by
  by_cases h:i=n
  · subst h;exact last env H h3
  · exact round i env H h1 (by omega) h3 fun env' H' h'=>ih (i+1) env' H' ⟨by omega,by omega,h'⟩ (by omega)

theorem ARun.own {C:Cx} {todo:List Item} {env:Env} {H:Hp} {R:AV → Hp → Prop} (t:Nat) {sz:Nat} {xs:List PV} (ht:env t = .p (.sl true sz xs))
 (h:ARun C todo (env.put (some t) (.sl H.n 0 sz xs)) (H.new (.tail 0)) R):ARun C todo env H R:=by
 intro σ w a b cs m h1 hpre
 obtain⟨hr,hev⟩:=yU hpre.rel (w':=w) (Nat.le_refl _) (fun _ _=>rfl) rfl rfl none (fun _ _ _ hh=>by cases hh)
 have h4:=hpre.fr.mono hev
 have hf:RelF C.nt m (σ.withT H.n none) (H.new (.tail 0)) w (env.put (some t) (.sl H.n 0 sz xs)) a:=by
  refine⟨h4.defers,h4.size,fun i => ?_⟩
  simp only [Env.put];by_cases hi:i=t
  · subst hi;rw [if_pos rfl];have hs:=hpre.fr.slot i;rw [ht] at hs
    generalize a.tmps.getD i undef=v at hs
    cases hs with | p hp =>
    have hp':RelP w (Stable (σ.withT H.n none) (H.new (.tail 0))) (.sl true sz xs) v:=by
     have:=(RelV.p hp).mono hev
     cases this;assumption
    refine .sl ?_ ⟨by simp [Hp.n_new],fun k0 d hk0 => ?_⟩
    · cases hp' with
      | emp _ _ a cap h hc=>exact .emp _ _ a cap (by simp) hc
      | sl _ _ _ g off cap f hfl hcap hsz hrd hc=>exact .sl false _ _ g off cap f (by simp) hcap hsz hrd hc
    · simp [Hp.f_new] at hk0
      refine⟨by omega,fun _ => .inl ?_⟩
      cases hp' with
      | emp _ _ a cap h0 hc=>exact⟨a,0,by rw [h0 rfl],by simp [Gh.withT]⟩
      | sl _ _ _ g off cap f hfl hcap hsz hrd hc=>exact⟨some ⟨g,off,none⟩,xs.length,by rw [hfl rfl],by simp [Gh.withT]⟩
  · rw [if_neg hi];exact h4.slot i
 obtain⟨r,H',σ',v,w',M,q,st,q1,q2,q3,q5⟩:=h _ w a b cs m (h1.mono hpre.n0 hev.c hpre.lt) (hpre.go hr hf hev)
 exact⟨r,H',σ',v,w',M,q,st,q1,q2,q3,hev.transM q5 hpre.n0 hpre.m⟩

def nth {α:Type} [Inhabited α] (l:List α) (i:Nat):α:=(l[i]?).getD default

section nth
variable {α:Type} [Inhabited α]
theorem zY {x:α} {l:List α}:nth (x :: l) 0=x:=rfl
theorem z5 {l m:List α} {i:Nat} (h:i < l.length):nth (l++m) i=nth l i:=by simp [nth,List.getElem?_append_left h]
theorem z8 {l m:List α} {i:Nat} (h:l.length≤i):nth (l++m) i=nth m (i - l.length):=by simp [nth,List.getElem?_append_right h]
theorem zqP {β:Type} [Inhabited β] {f:α → β} {l:List α} {i:Nat} (h:i < l.length):nth (l.map f) i=f (nth l i):=by simp [nth,h]
end nth

def pl {α:Type} (f:α → PV) (l:List α):List PV:=l.map f
def cl {α:Type} (f:α → PV) (l:List α):List AV:=l.map fun x => .p (f x)

section rows
variable {α:Type} {f:α → PV} {l m:List α} {i n:Nat} {x:α}
theorem zct:(pl f l).length=l.length:=by simp [pl]
theorem zcu:(cl f l).length=l.length:=by simp [cl]
theorem zC3 [Inhabited α] (h:i < l.length):(pl f l)[i]? = some (f (nth l i)):=by simp [pl,nth,h]
theorem zwI [Inhabited α] (h:i < l.length):(cl f l)[i]? = some (.p (f (nth l i))):=by simp [cl,nth,h]
theorem zC4:(cl f l).set i (.p (f x))=cl f (l.set i x):=by simp [cl,List.map_set]
theorem zsO:(pl f l).map AV.p=cl f l:=by simp [pl,cl]
theorem zqQ:(pl f l).take n=pl f (l.take n):=by simp [pl,List.map_take]
theorem zqR:(pl f l).drop n=pl f (l.drop n):=by simp [pl,List.map_drop]
theorem ye:pl f l++pl f m=pl f (l++m):=by simp [pl]
theorem zdZ:cl f l++cl f m=cl f (l++m):=by simp [cl]
theorem zC5:pl f l++[f x]=pl f (l++[x]):=by simp [pl]
theorem za8:pl f []=[]:=rfl
theorem pl_replicate:pl f (List.replicate n x)=List.replicate n (f x):=by simp [pl]
theorem cl_replicate:cl f (List.replicate n x)=List.replicate n (.p (f x)):=by simp [cl]
theorem zC6:List.replicate n (AV.p (f x))=cl f (List.replicate n x):=cl_replicate.symm
theorem zC7:List.replicate n (f x)=pl f (List.replicate n x):=pl_replicate.symm
theorem zoF:(pl f l).isEmpty=l.isEmpty:=by cases l<;>rfl
theorem zqS (h : ∀ x,(f x).weak=f x):(pl f l).map PV.weak=pl f l:=by simp [pl,Function.comp_def,h]
theorem zAU (h : ∀ x,(f x).cells=[f x]):flat (pl f l)=pl f l:=by
 unfold flat pl
 induction l with
 | nil=>rfl
 | cons a l ih=>simp [h,ih]
end rows

theorem zwJ {P:Program} {t:Nat} {env:Env} {H:Hp}:zeS P [.tmp t] env H=some (env t):=rfl
theorem zsP {P:Program} {env:Env} {H:Hp}:zeS P [] env H=some (.tup []):=rfl
theorem zsQ {P:Program} {a:Nat} {t:TypeId} {env:Env} {H:Hp}:zeS P [.cell a t] env H=zcj P H t (env a):=by
 simp only [zeS,zcm,zdX]
 cases zcj P H t (env a)<;>rfl
theorem zEJ {n:Nat} {x:PV}:(AV.p x).out n=some (.p x.weak):=rfl
theorem zC8 {n a v sz:Nat} {xs:List PV}:(AV.sl a v sz xs).out n=some (.p (.sl false sz xs)):=rfl
theorem zwK {n:Nat}:(AV.tup []).out n=some (.tup []):=rfl
theorem zwL:decide True=true:=by simp
theorem zsR:decide False=false:=by simp
theorem zFf {α:Type} {c:Prop} [Decidable c] {x y:α} (h:c):(if c then x else y)=x:=if_pos h
theorem zFg {α:Type} {c:Prop} [Decidable c] {x y:α} (h : ¬c):(if c then x else y)=y:=if_neg h
theorem zaC {n:Nat} {H:Hp} {x:AB} (h:Bel n H) (hn:n≤H.n):Bel n (H.new x):=(Bel.new hn).2 h
theorem zaU {n b:Nat} {H:Hp} {x:AB} (h:Bel n H) (hn:n≤b):Bel n (H.set b x):=(Bel.set_hi hn).2 h
theorem zoG {α:Type} {f:α → PV} {l:List α} {n b:Nat} {H:Hp} (h:Bel n H):Bel n (H.set b (.cells (cl f l))):=h.set_cells fun x hx=>by
 simp only [cl,List.mem_map] at hx
 obtain⟨a,_,rfl⟩:=hx
 exact .p _
theorem zlI {α:Type} {l:List α} {n:Nat} (h:n≤l.length):(l.take n).length=n:=List.length_take_of_le h
theorem zwM {n:Int}:AV.p (.s (.int .i64 n)) = .p (i64 n):=rfl
theorem zsS {xs:List PV}:(PV.agg xs).cells=xs:=rfl
theorem zsT {xs:List PV}:(PV.agg xs).isAgg=true:=rfl
theorem isAggV_agg {xs:List PV}:(AV.p (.agg xs)).isAggV=true:=rfl
theorem set_set' {H:Hp} {b:Nat} {x y:AB}:(H.set b x).set b y=H.set b y:=by
 cases H with | mk f n wf z =>
 simp only [Hp.set,Hp.mk.injEq,and_true]
 funext c
 by_cases hc:c=b∧b < n
 · simp [hc]
 · simp [hc]
theorem zAV:pvs? []=some []:=rfl
theorem zwN {x:PV} {xs:List AV}:pvs? (.p x :: xs)=(pvs? xs).map (x :: ·):=by
 simp only [pvs?,AV.pv?]
 cases pvs? xs<;>rfl
theorem zwO {fl:Bool} {sz:Nat} {xs:List PV}:(PV.sl fl sz xs).cells=[.sl fl sz xs]:=rfl
theorem zEK:(false == false)=true:=rfl
theorem zEL:(false == true)=false:=rfl
theorem zEM:(true == false)=false:=rfl
theorem zEN:(true == true)=true:=rfl
theorem zh8:(true=false)=False:=by simp





theorem zsU {cs:List AV} {o:Nat} {x:AV}:setAt cs o [x]=cs.set o x:=rfl
theorem zlJ {cs xs:List AV} (h:xs.length=cs.length):setAt cs 0 xs=xs:=by rw [zbk _ _ _ (by omega)];simp [h]
theorem zoH {α:Type} {l:List α} {n:Nat} (h:l.length≤n):l.take n=l:=List.take_of_length_le h
theorem zsV {α:Type} {l:List α}:l.drop 0=l:=rfl
theorem zwP (n:Nat):((no_index (OfNat.ofNat n:Nat):Nat):Int)=(OfNat.ofNat n:Int):=rfl
theorem zsW {p:Nat → Option (Nat × Nat)} {cs:List AV}:yk p cs []=some cs:=rfl
theorem zoI {l:List Bool}:(pl bo l).map PV.weak=pl bo l:=zqS fun _=>zqM _
theorem zjP {l:List Bool}:flat (pl bo l)=pl bo l:=zAU fun _=>rfl
attribute [go_sem] zjP
attribute [go_sem] zEK zEL zEM zEN zh8 and_self List.getElem?_toArray List.range_zero List.cons.injEq zAV zwN zwO List.all_cons List.all_nil set_set' false_implies true_implies zwM zsS zsT isAggV_agg true_or or_true false_or or_false false_and and_false not_true_eq_false not_false_eq_true zlI List.length_drop Nat.add_sub_cancel_left
attribute [go_sem] zoI zwL zsR zFf zFg zwJ zsP zsQ zEJ zC8 zwK zsW zsU zlJ zoH zsV zwP Int.natCast_add Int.natCast_mul zcu zct zwI zC3 zC4 zsO zC5 ye zdZ zqQ zqR zC6 zC7 List.length_set zoF
end Go.AL

namespace Go.AL
open Go

section
variable {C:Cx} {k:List Item} {env:Env} {H:Hp} {R:AV → Hp → Prop} {ops:Array Oper} {rest:List Oper}

theorem AOps.one {o:Oper} (hg:o.guard=none) {x:AV} {H':Hp} (hs:zf C.P C.G o.op o.type env H = .val x H') (hd:zD C.nt o.dst=true) (h:AOps C ops rest k (env.put o.dst x) H' R):AOps C ops (o :: rest) k env H R :=
 .of_op true (by rw [hg];rfl) fun σ w a m hpre K Q hK=>aOp1.wp (K:=fun y H2=>y=x∧H2=H') (by unfold aOp1;rw [hs];exact⟨hd,rfl,rfl⟩) hpre.rel hpre.fr fun y v H2 σ' w' ⟨e1,e2⟩ q1 q2 q3 q4=>by
  subst e1 e2;exact hK _ v _ σ' w' h q1 q2 q3 q4

end
theorem RelV.low {σ σ':Gh} {H H':Hp} {w w':World} {n0 m:Nat} (h:EvM n0 m σ H w σ' H' w') {x:AV} {v:Value} (r:RelV σ H w x v):BelowN n0 x → RelV σ' H' w' x v:=by
 induction r with
 | p hp=>exact fun _ => .p (hp.mono h.cell)
 | sl hp ht =>
  intro hb
  cases hb with | sl _ _ _ _ hb =>
  refine .sl (hp.mono h.cell) ⟨Nat.lt_of_lt_of_le hb h.hn,fun k' d' hk' => ?_⟩
  obtain⟨k0,d0,e0,l0,q0⟩:=h.t _ hb k' d' hk'
  obtain⟨l1,q1⟩:=ht.2 k0 d0 e0
  refine⟨Nat.le_trans l1 l0,fun hkk => ?_⟩
  rw [q0 (by omega)];exact q1 (by omega)
 | ref a h0 _ hcap ha=>intro hb;cases hb with | ref _ _ _ _ hb=>exact .ref a h0 (Nat.lt_of_lt_of_le hb h.hn) hcap (fun hl=>by rw [h.c _ hb];exact ha hl)
 | ptr _=>intro hb;cases hb with | ptr _ _ hb=>rw [←h.c _ hb];exact .ptr (Nat.lt_of_lt_of_le hb h.hn)
 | ip hp hi hs=>exact fun _ => .ip (hp.mono h.cell) hi hs
 | clo fs cs hf hc _ _ ih1 ih2=>intro hb;cases hb with | clo _ _ _ h1 h2=>exact .clo fs cs hf hc (fun i x v a b=>ih1 i x v a b (h1 i x a)) (fun i x v a b=>ih2 i x v a b (h2 i x a))
 | tup vs hl _ ih=>intro hb;cases hb with | tup _ h=>exact .tup vs hl (fun i x v a b=>ih i x v a b (h i x a))
 | agg vs hl h1 _ ih=>intro hb;cases hb with | agg _ h=>exact .agg vs hl h1 (fun i x v a b=>ih i x v a b (h i x a))
 | yld _=>intro hb;cases hb with | yld _ hb=>rw [←h.c _ hb];exact .yld (Nat.lt_of_lt_of_le hb h.hn)
 | mp _=>intro hb;cases hb with | mp _ hb=>rw [←h.c _ hb];exact .mp (Nat.lt_of_lt_of_le hb h.hn)
 | vr q =>
  intro hb
  cases hb with | vr _ _ _ hb =>
  obtain⟨_,a,cap,rfl,q1,q2⟩:=q
  refine .vr ⟨Nat.lt_of_lt_of_le hb h.hn,a,cap,rfl,q1,fun k' d' hk' => ?_⟩
  obtain⟨k0,d0,e0,l0,q0⟩:=h.t _ hb k' d' hk'
  obtain⟨l1,q1⟩:=q2 k0 d0 e0
  refine⟨Nat.le_trans l1 l0,fun hkk => ?_⟩
  rw [q0 (by omega)];exact q1 (by omega)
 | vp a q =>
  intro hb
  cases hb with | vp _ _ _ hb =>
  refine .vp a ⟨Nat.lt_of_lt_of_le hb h.hn,fun k' d' hk' => ?_⟩
  obtain⟨k0,d0,e0,l0,q0⟩:=h.t _ hb k' d' hk'
  obtain⟨l1,q1⟩:=q.2 k0 d0 e0
  refine⟨Nat.le_trans l1 l0,fun hkk => ?_⟩
  rw [q0 (by omega)];exact q1 (by omega)
 | top v=>exact fun _ => .top v

theorem zjQ {G:Globs} {σ:Gh} {H:Hp} {w:World} (hr:Rel G σ H w) {n0 α k:Nat} (hb:Bel n0 H) (hα:H.f α=some (.tail k)) (hge:n0≤α) :
 Rel G (σ.withT n0 (σ.t α)) ((H.trunc n0).new (.tail 0)) w∧Ev n0 σ H w (σ.withT n0 (σ.t α)) ((H.trunc n0).new (.tail 0)) w:=by
 have hold : ∀ b,b < n0 → (σ.withT n0 (σ.t α)).t b=σ.t b:=fun b hb=>by simp [Gh.withT,Nat.ne_of_lt hb]
 have hnew:(σ.withT n0 (σ.t α)).t n0=σ.t α:=by simp [Gh.withT]
 have fcells : ∀ b x,((H.trunc n0).new (.tail 0)).f b=some (.cells x) → H.f b=some (.cells x)∧b < n0:=by
  intro b x h;rw [Hp.f_new] at h;split at h
  · cases h
  · rw [Hp.f_trunc] at h;split at h
    · exact⟨h,by assumption⟩
    · cases h
 have ftail : ∀ b k' d,((H.trunc n0).new (.tail 0)).f b=some (.tl k' d) → (b=n0∧k'=0∧d=none) ∨ (H.f b=some (.tl k' d)∧b < n0):=by
  intro b x d h;rw [Hp.f_new] at h;split at h
  · rename_i hh;cases h;exact .inl ⟨hh,rfl,rfl⟩
  · rw [Hp.f_trunc] at h;split at h
    · exact .inr ⟨h,by assumption⟩
    · cases h
 have fobj : ∀ b vs S,((H.trunc n0).new (.tail 0)).f b=some (.obj vs S) → H.f b=some (.obj vs S)∧b < n0:=by
  intro b vs S h;rw [Hp.f_new] at h;split at h
  · cases h
  · rw [Hp.f_trunc] at h;split at h
    · exact⟨h,by assumption⟩
    · cases h
 have hev:Ev n0 σ H w (σ.withT n0 (σ.t α)) ((H.trunc n0).new (.tail 0)) w:=by
  refine⟨fun g o v h1 h2=>⟨⟨fun b x h=>h1.1 b x (fcells _ _ h).1,fun b k' d o' s h ht => ?_⟩,h2⟩,fun _ _=>rfl,by simp [Hp.n_new,Hp.n_trunc],fun b hb k' d hk => ?_,Nat.le_refl _,
   fun g hg hf=>⟨rfl,fun b x h=>hf.1 b x (fcells _ _ h).1,fun b k' d o s h => ?_,fun b vs S h=>hf.3 b vs S (fobj _ _ _ h).1⟩,rfl,rfl⟩
  · rcases ftail b k' d h with ⟨rfl,rfl,rfl⟩ | ⟨h,hlt⟩
    · rw [hnew] at ht;exact h1.2 α k _ o' s hα ht
    · rw [hold b hlt] at ht;exact h1.2 b k' d o' s h ht
  · rcases ftail b k' d hk with ⟨rfl,_⟩ | ⟨h,hlt⟩
    · omega
    · exact⟨k',d,h,Nat.le_refl _,fun _=>hold b hb⟩
  · rcases ftail b k' d h with ⟨rfl,rfl,rfl⟩ | ⟨h,hlt⟩
    · rw [hnew];exact hf.2 α k _ o s hα
    · rw [hold b hlt];exact hf.2 b k' d o s h
 refine⟨⟨fun b x h => ?_,fun b k' d g o s h ht => ?_,fun b k' cs h => ?_,fun b1 b2 x y h1 h2=>hr.cc b1 b2 x y (fcells _ _ h1).1 (fcells _ _ h2).1,fun b1 b2 x k' d g o s h1 h2 ht => ?_,fun b1 b2 k1 d1 k2 d2 g o s o' s' h1 h2 ht ht' => ?_,fun g sz xs h=>(hr.glob g sz xs h).low hev (.ip _ _ _ _),fun b vs S h => ?_,fun b b' vs vs' S S' h h'=>hr.oo b b' vs vs' S S' (fobj _ _ _ h).1 (fobj _ _ _ h').1,fun r m h=>(hr.gm r m h).of rfl (hev.blk r (hr.gm r m h).lt (hr.gm r m h).2.1).2 fun x v hx q=>q.low hev (hx _),fun g sz xs h=>(hr.z g sz xs h).of rfl (hev.blk g (hr.z g sz xs h).lt (hr.z g sz xs h).2.1).2 fun q=>q.low hev (.ip _ _ _ _)⟩,hev⟩
 · obtain⟨h,hlt⟩:=fcells _ _ h
   obtain⟨c,e,q1,q2,q3⟩:=hr.cells b x h
   exact⟨c,e,q1,q2,fun i y hy=>let ⟨v,a,q⟩:=q3 i y hy;⟨v,a,q.1.low hev (hb b _ hlt h y (List.mem_of_getElem? hy)),q.2⟩⟩
 · rcases ftail b k' d h with ⟨rfl,rfl,rfl⟩ | ⟨h,hlt⟩
   · rw [hnew] at ht;exact hr.tail α k _ g o s hα ht
   · rw [hold b hlt] at ht;exact hr.tail b k' d g o s h ht
 · rcases ftail b k' _ h with ⟨rfl,_,hd⟩ | ⟨h,hlt⟩
   · cases hd
   · rw [hold b hlt]
     obtain⟨q0,q1,q2⟩:=hr.vec b k' cs h
     refine⟨q0,q1,fun g o s hg => ?_⟩
     obtain⟨p0,p1,p2⟩:=q2 g o s hg
     exact⟨p0,p1,fun i x hx=>let ⟨v,a,b'⟩:=p2 i x hx;⟨v,a,b'.1.low hev (hb b _ hlt h x (List.mem_of_getElem? hx)),b'.2⟩⟩
 · have h1':=(fcells _ _ h1).1
   rcases ftail b2 k' d h2 with ⟨rfl,rfl,rfl⟩ | ⟨h,hlt⟩
   · rw [hnew] at ht;exact hr.ct b1 α x k _ g o s h1' hα ht
   · rw [hold b2 hlt] at ht;exact hr.ct b1 b2 x k' d g o s h1' h ht
 · rcases ftail b1 k1 d1 h1 with ⟨rfl,rfl,rfl⟩ | ⟨p1,l1⟩<;>rcases ftail b2 k2 d2 h2 with ⟨rfl,rfl,rfl⟩ | ⟨p2,l2⟩
   · rfl
   · rw [hnew] at ht;rw [hold b2 l2] at ht'
     have:=hr.tt α b2 k _ k2 _ g o s o' s' hα p2 ht ht';omega
   · rw [hnew] at ht';rw [hold b1 l1] at ht
     have:=hr.tt b1 α k1 _ k _ g o s o' s' p1 hα ht ht';omega
   · rw [hold b1 l1] at ht;rw [hold b2 l2] at ht';exact hr.tt b1 b2 k1 _ k2 _ g o s o' s' p1 p2 ht ht'
 · obtain⟨h,hlt⟩:=fobj _ _ _ h
   obtain⟨o,us,q1,q2,q3,q4⟩:=hr.objs b vs S h
   exact⟨o,us,q1,q2,⟨q3.1,fun i x v a b'=>(q3.2 i x v a b').low hev (hb b _ hlt h x (List.mem_of_getElem? a))⟩,q4⟩

section ret
variable {C:Cx} {k:List Item} {env:Env} {H:Hp} {R:AV → Hp → Prop}

theorem ARun.retOwn {fn:Func} {α v sz:Nat} {xs:List PV} (hfn:C.P.funcs[C.fid]? = some fn) {rs:List ResultVar} (hrs:fn.results.toList=rs) (hx:zeS C.P rs env H=some (.sl α v sz xs)) (hα:H.f α=some (.tail v)) (hge:C.n0≤α) (hb:Bel C.n0 H)
 (hR:R (.sl C.n0 0 sz xs) ((H.trunc C.n0).new (.tail 0))) (hro:C.round=none:=by rfl):ARun C (.code .ret :: k) env H R:=by
 refine .leave hro hfn hrs hx _ (fun _ _ _ _ h=>stepR_ret h) _ _ hR fun σ w u h1 h2 _ => ?_
 obtain⟨q1,q3⟩:=zjQ h1 hb hα hge
 refine⟨_,q1,?_,q3⟩
 cases h2 with | sl hp ht =>
 refine .sl (hp.mono q3.cell) ⟨by simp [Hp.n_new,Hp.n_trunc],fun k0 d hk0 => ?_⟩
 have e0:k0=0:=by simp [Hp.f_new,Hp.n_trunc] at hk0;omega
 subst e0
 refine⟨Nat.le_refl _,fun _ => ?_⟩
 have:=(ht.2 v _ hα).2 rfl
 simpa [Gh.withT] using this
end ret
end Go.AL

namespace Go.AL
open Go




section states
variable {G:Globs} {σ:Gh} {H:Hp} {w:World}

end states

def zFJ (nt:Nat) (env:Env):List AV:=(List.range nt).map env

def zeX:List Nat → List AV → Env → Env
 | p :: ps,x :: xs,e=>zeX ps xs (e.put (some p) x)
 | _,_,e=>e

def zFh (nt:Nat) (env:Env) (ps:List Nat) (args:List AV):Env:=zeX ps args fun i=>if i < nt then env i else .tup []



section rounds
variable {C:Cx} {k:List Item} {env:Env} {H:Hp} {R:AV → Hp → Prop} {l:Nat} {vs:List AV} {L:LoopState → Option Code → OS}




end rounds

section stmt
variable {C:Cx} {k:List Item} {env:Env} {H:Hp} {R:AV → Hp → Prop}



end stmt

section kinds
variable {fl:Bool} {sz n a v b off len i sub:Nat} {xs:List PV} {f:FuncId} {x y:List AV}
theorem zoJ:zj (.p (.sl fl sz xs))=some [.p (.sl fl sz xs)]:=rfl
theorem zsX:zj (.sl a v sz xs)=some [.sl a v sz xs]:=rfl
theorem zoK:zj (.ref b off len sz)=some [.ref b off len sz]:=rfl
theorem zoL:zj (.ptr b off)=some [.ptr b off]:=rfl
theorem zsY:zj (.ip sz xs i sub)=some [.ip sz xs i sub]:=rfl
theorem zoM:zj (.clo f x y)=some [.clo f x y]:=rfl
theorem zoN:zj (.yld b)=some [.yld b]:=rfl
theorem zwQ:(PV.sl fl sz xs).isAgg=false:=rfl
theorem zsZ:zbA false [.p (.sl fl sz xs)]=some (.sl fl sz xs):=rfl
end kinds
attribute [go_sem] zoJ zsX zoK zoL zsY zoM zoN zwQ zsZ



def app (H:Hp) (T:List AB):Hp:=T.foldl Hp.new H

section app
variable {H:Hp} {b c:Nat} {x:AB} {T:List AB}
theorem zAW:app H []=H:=rfl
theorem zaV:app H (x :: T)=app (H.new x) T:=rfl
theorem app_n':(app H T).n=H.n+T.length:=by
 induction T generalizing H with
 | nil=>rfl
 | cons y T ih=>rw [zaV,ih,n_new',List.length_cons];omega
theorem zlK:(app H T).z=H.z:=by
 induction T generalizing H with
 | nil=>rfl
 | cons y T ih=>rw [zaV,ih];rfl
theorem zcn (h:b < H.n):(app H T).f b=H.f b:=by
 induction T generalizing H with
 | nil=>rfl
 | cons y T ih=>rw [zaV,ih (by rw [n_new'];omega),zc (by omega)]
theorem zjR (h:b < H.n):(app H T).set b x=app (H.set b x) T:=by
 induction T generalizing H with
 | nil=>rfl
 | cons y T ih=>rw [zaV,ih (by rw [n_new'];omega),zgZ h,zaV]
theorem zs0 (h:b≤H.n):(app H T).trunc b=H.trunc b:=by
 induction T generalizing H with
 | nil=>rfl
 | cons y T ih=>rw [zaV,ih (by rw [n_new'];omega),trunc_new' h]
theorem zAX:(H.new x)=app H [x]:=rfl
theorem yq {S:List AB}:app (app H T) S=app H (T++S):=by simp [app]
end app

def zC9 (nt:Nat) (env:Env):Env:=fun i=>if i < nt then env i else .tup []
theorem zwR {nt:Nat} {env:Env} {ps:List Nat} {args:List AV}:zFh nt env ps args=zeX ps args (zC9 nt env):=rfl
theorem zjS {p:Nat} {ps:List Nat} {x:AV} {xs:List AV} {e:Env}:zeX (p :: ps) (x :: xs) e=zeX ps xs (e.put (some p) x):=rfl
attribute [go_sem] zcn zjR zs0 app_n' zwR zjS

theorem BelowN.mono {n m:Nat} (h:n≤m) {x:AV} (r:BelowN n x):BelowN m x:=by
 induction r with
 | p x=>exact .p x
 | sl a v sz xs h1=>exact .sl _ _ _ _ (by omega)
 | ref b off len sz h1=>exact .ref _ _ _ _ (by omega)
 | ptr b off h1=>exact .ptr _ _ (by omega)
 | ip sz xs i sub=>exact .ip _ _ _ _
 | clo fn a c _ _ ih1 ih2=>exact .clo _ _ _ ih1 ih2
 | tup xs _ ih=>exact .tup _ ih
 | agg xs _ ih=>exact .agg _ ih
 | yld b h1=>exact .yld _ (by omega)
 | mp b h1=>exact .mp _ (by omega)
 | vr b _ _ h1=>exact .vr _ _ _ (by omega)
 | vp b _ _ h1=>exact .vp _ _ _ (by omega)
 | top=>exact .top

section bel
variable {n m b:Nat} {H:Hp} {x:AB} {α:Type} {f:α → PV} {l:List α} {T:List AB}
end bel

end Go.AL

namespace Go.AL
open Go

theorem ARun.ghost {C:Cx} {todo:List Item} {env env':Env} {H H':Hp} {R:AV → Hp → Prop}
 (hg : ∀ σ w a m,Pre C σ H w env a m → ∃ σ',Rel C.G σ' H' w∧(∀ i,RelV σ' H' w (env' i) (a.tmps.getD i undef))∧Ev H.n σ H w σ' H' w) (h:ARun C todo env' H' R):ARun C todo env H R:=by
 intro σ w a b cs m h1 hpre
 obtain⟨σ',hr,hs,hev⟩:=hg σ w a m hpre
 have h4:=hpre.fr.mono hev
 obtain⟨r,H2,σ2,v,w2,M,q,st,q1,q2,q3,q5⟩:=h σ' w a b cs m (h1.mono hpre.n0 hev.c hpre.lt) (hpre.go hr ⟨h4.defers,h4.size,hs⟩ hev)
 exact⟨r,H2,σ2,v,w2,M,q,st,q1,q2,q3,hev.transM q5 hpre.n0 hpre.m⟩

section states
variable {G:Globs} {σ:Gh} {H:Hp} {w:World}

theorem zax (hr:Rel G σ H w) (b:Nat):Rel G σ (H.set b .dead) w∧Ev H.n σ H w σ (H.set b .dead) w:=by
 have hf : ∀ b' x,x ≠ .dead → (H.set b .dead).f b'=some x → H.f b'=some x:=by
  intro b' x hx h;rw [Hp.f_set] at h;split at h
  · cases h;exact absurd rfl hx
  · exact h
 have fc : ∀ b' x,(H.set b .dead).f b'=some (.cells x) → H.f b'=some (.cells x):=fun b' x h=>hf b' _ (by simp) h
 have ft : ∀ b' k d,(H.set b .dead).f b'=some (.tl k d) → H.f b'=some (.tl k d):=fun b' x d h=>hf b' _ (by simp) h
 have fo : ∀ b' vs S,(H.set b .dead).f b'=some (.obj vs S) → H.f b'=some (.obj vs S):=fun b' x _ h=>hf b' _ (by simp) h
 have hev:Ev H.n σ H w σ (H.set b .dead) w :=
  ⟨fun g o v h1 h2=>⟨⟨fun b' x h=>h1.1 b' x (fc _ _ h),fun b' k d o2 s h=>h1.2 b' k d o2 s (ft _ _ _ h)⟩,h2⟩,fun _ _=>rfl,Nat.le_refl _,fun b' _ k d hk=>⟨k,d,ft b' k d hk,Nat.le_refl _,fun _=>rfl⟩,Nat.le_refl _,
   fun g _ hg=>⟨rfl,fun b' x h=>hg.1 b' x (fc _ _ h),fun b' k d o2 s h=>hg.2 b' k d o2 s (ft _ _ _ h),fun b' vs S h=>hg.3 b' vs S (fo _ _ _ h)⟩,rfl,rfl⟩
 refine⟨⟨fun b' x h => ?_,fun b' k d g o s h ht=>hr.tail b' k d g o s (ft _ _ _ h) ht,hr.vec_keep hev (fun b' k ds h=>⟨ft _ _ _ h,rfl⟩) (fun _ _ _ _ _ _ _ _ _=>rfl),fun b1 b2 x y h1 h2=>hr.cc b1 b2 x y (fc _ _ h1) (fc _ _ h2),fun b1 b2 x k d g o s h1 h2=>hr.ct b1 b2 x k d g o s (fc _ _ h1) (ft _ _ _ h2),
  fun b1 b2 k d k' d' g o s o' s' h1 h2=>hr.tt b1 b2 k d k' d' g o s o' s' (ft _ _ _ h1) (ft _ _ _ h2),hr.glob_mono hev,fun b' vs S h => ?_,fun b1 b2 v1 v2 S1 S2 h1 h2=>hr.oo b1 b2 v1 v2 S1 S2 (fo _ _ _ h1) (fo _ _ _ h2),hr.gm_mono hev,hr.z_mono hev rfl⟩,hev⟩
 · obtain⟨c,e,q1,q2,q3⟩:=hr.cells b' x (fc _ _ h)
   exact⟨c,e,q1,q2,fun i y hy=>let ⟨v,p,q⟩:=q3 i y hy;⟨v,p,q.mono hev⟩⟩
 · obtain⟨o,us,q1,q2,q3,q4⟩:=hr.objs b' vs S (fo _ _ _ h)
   exact⟨o,us,q1,q2,q3.mono hev,q4⟩

theorem zfN (hr:Rel G σ H w) {b:Nat} {cs:List AV} (hb:H.f b=some (.cells cs)) (o:Nat):Stable σ (H.set b .dead) (σ.c b) o:=by
 have hf : ∀ b' x,x ≠ .dead → (H.set b .dead).f b'=some x → b'≠b∧H.f b'=some x:=by
  intro b' x hx h;rw [Hp.f_set] at h;split at h
  · cases h;exact absurd rfl hx
  · rename_i hh
    exact⟨fun e=>hh ⟨e,Hp.lt hb⟩,h⟩
 refine⟨fun b' x h e => ?_,fun b' k d o2 s h ht => ?_⟩
 · obtain⟨h1,h2⟩:=hf b' _ (by simp) h
   exact h1 (hr.cc b' b x cs h2 hb e)
 · obtain⟨h1,h2⟩:=hf b' _ (by simp) h
   exact absurd rfl (hr.ct b b' cs k _ _ o2 s hb h2 ht)

theorem zew (hr:Rel G σ H w) {b:Nat} {ps:List PV} (hb:H.f b=some (.cells (ps.map .p))) : ∃ f:Nat → Value,∀ k y,ps[k]? = some y →
 Stable σ (H.set b .dead) (σ.c b) k∧w.cell? ⟨σ.c b,k,none⟩=some (f k)∧(f k).oneCell'=true∧RelP w (Stable σ (H.set b .dead)) y (f k):=by
 obtain⟨c,e,q1,q2,q3⟩:=hr.cells b _ hb
 obtain⟨_,hev⟩:=zax hr b
 refine⟨fun k=>(c[k]?).getD undef,fun k y hy => ?_⟩
 obtain⟨v,p1,p2⟩:=q3 k (.p y) (by simp [hy])
 refine⟨zfN hr hb k,by simp [World.cell?,q1,p1],by simpa [p1] using p2.2,?_⟩
 have:=p2.1.mono hev
 cases this with | p hp=>simpa [p1] using hp
end states

theorem zfm : ∀ {ps:List PV},(∀ y∈ps,y.cells=[y]) → flat ps=ps
 | [],_=>rfl
 | a :: ps,h=>by show a.cells++flat ps=_;rw [h a (by simp),zfm (fun y hy=>h y (by simp [hy]))];rfl

section freeze
variable {C:Cx} {todo:List Item} {env:Env} {H:Hp} {R:AV → Hp → Prop} {α:Type} {f:α → PV} {l:List α}


theorem ARun.frzS (t:Nat) {b off len:Nat} (ht:env t = .ref b off len 1) (hb:H.f b=some (.cells (cl f l))) (hf : ∀ x,(f x).cells=[f x]) (hl:off+len≤l.length)
 (h:ARun C todo (env.put (some t) (.p (.sl false 1 (pl f ((l.drop off).take len))))) (H.set b .dead) R):ARun C todo env H R :=
 .ghost (fun σ w a m hpre=>by
  rw [←zsO] at hb
  obtain⟨r1,e1⟩:=zax hpre.rel b
  obtain⟨F,hF⟩:=zew hpre.rel hb
  refine⟨σ,r1,fun i => ?_,e1⟩
  simp only [Env.put];by_cases hi:i=t
  · subst hi;rw [if_pos rfl];have hs:=hpre.fr.slot i;rw [ht] at hs
    generalize a.tmps.getD i undef=v at hs
    cases hs with | ref ad h0 hbn hcap ha =>
    obtain⟨g,o,rfl⟩:=h0
    have hlen:(pl f ((l.drop off).take len)).length=len:=by rw [zct,List.length_take,List.length_drop];omega
    have hget : ∀ k,k < len → ∃ y,(pl f l)[off+k]? = some y∧(pl f ((l.drop off).take len))[k]? = some y:=fun k hk=>by
     refine⟨_,List.getElem?_eq_getElem (by rw [zct];omega),?_⟩
     rw [←zqQ,←zqR,List.getElem?_take_of_lt hk,List.getElem?_drop];exact List.getElem?_eq_getElem _
    have hone : ∀ y∈pl f ((l.drop off).take len),y.cells=[y]:=fun y hy=>by
     simp only [pl,List.mem_map] at hy
     obtain⟨x,_,rfl⟩:=hy
     exact hf x
    have key:=RelP.sl (w:=w) (S:=Stable σ (H.set b .dead)) false 1 (pl f ((l.drop off).take len)) g o _ (fun k=>F (off+k)) (by simp) ⟨by rw [hlen];exact hcap.1,hcap.2⟩ (fun y hy=>by rw [hone y hy];rfl)
     (fun k hk=>by
      rw [hlen,Nat.mul_one] at hk
      obtain⟨y,hy,_⟩:=hget k hk
      obtain⟨p1,p2,p3,_⟩:=hF _ y hy
      have:=ha (by omega)
      cases this
      exact⟨zfN hpre.rel hb _,p2,p3⟩)
     (fun k y hy=>by
      rw [zfm hone] at hy;have hk:=(List.getElem?_eq_some_iff.1 hy).1;rw [hlen] at hk
      obtain⟨y',h1,h2⟩:=hget k hk
      rw [h2] at hy;cases hy
      exact (hF _ _ h1).2.2.2)
    rw [hlen] at key;exact .p key
  · rw [if_neg hi];exact (hpre.fr.slot i).mono e1) h

end freeze


def sb (s:ByteArray) (n:Nat):BitVec 8:=(s.data.toList.getD n 0).toBitVec






end Go.AL

namespace Go.AL
open Go Go.ChangeShapes Go.WideShapes Go.ChangeAt Go.RowKit

section post
variable {H:Type} {enc:TypeId × Value → H} {P:Program}

theorem zd9 {W W':World} {sp:Nat → Bool} (hl:laidOutB P=true) : ∀ {ts:List TypeId} {vs:List Value} {ds:List (DataW H)} {ps:List MemPlace},(∀ t∈ts,P.readableRec t=true∧t < P.types.size) →
 DataW.TrodAll enc P W 0 (fun _=>true) true ts vs ds ps → (∀ p∈ps,W.sameAt W' p) → (∀ p∈ps,sp p.block=true) → DataW.TrodAll enc P W' 0 sp true ts vs ds ps
 | [],vs,ds,ps,_,h,_,_=>by
  obtain⟨rfl,rfl,rfl⟩:=trodAll_nil h
  exact trodAll_mk0
 | t :: ts,vs,ds,ps,hr,h,h1,h2=>by
  obtain⟨v,vs',d,ds',p,q,rfl,rfl,rfl,h3,h4⟩:=trodAll_cons h
  exact trodAll_cons_mk (WideElems.Trod_stays hl (hr t (by simp)).1 (hr t (by simp)).2 h3 (fun x hx=>h1 x (by simp [hx])) (fun x hx=>h2 x (by simp [hx])))
   (zd9 hl (fun u hu=>hr u (by simp [hu])) h4 (fun x hx=>h1 x (by simp [hx])) (fun x hx=>h2 x (by simp [hx])))

theorem zwS {f:Func} {s:ChangeSpec} {W W':World} {args:Array Value} {ds gs:List (DataW H)} {before:List MemPlace} {tb:TypeId} (hl:laidOutB P=true) (hr : ∀ t∈f.params.toList,P.readableRec t=true∧t < P.types.size)
 (hv0:s.vars=[]) (hW:DataW.Whole enc P f.params.toList s.vars false W args.toList ds gs before) (hfn:s.fn H ds = { results:=[.lit (.bool true)],args:=ds })
 (hrt:f.resultTypes = #[tb]) (htb:P.underlying tb=some .bool) (hblk : ∀ g,g < W.heap.size → W'.heap[g]? = W.heap[g]?) (hos:W'.os=W.os) (hout:W'.output=W.output) :
 s.post enc P f false true false false W args (.bool true) W':=by
 have hlt:=hW.lt;have hW0:=hW
 obtain⟨p,q,hA,hV,hbe,hz,hn⟩:=hW
 rw [hv0] at hV
 obtain⟨rfl,rfl⟩:=trodVars_none hV
 rw [List.append_nil] at hbe;subst hbe
 have hsame : ∀ x∈before,W.sameAt W' x:=fun x hx=>by
  have h1:=hblk x.block (hlt x hx)
  cases x with
  | cell b off=>simp only [MemPlace.block] at h1;simp [World.sameAt,World.cell?,h1]
  | map b=>simp only [MemPlace.block] at h1;simpa [World.sameAt] using h1
 refine⟨ds,[],before,[],before,[],hW0,?_,?_,?_,?_,fun h=>by cases h⟩
 · rw [List.append_nil,hfn,hrt];exact trodAll_cons_mk (shut_bool htb true) trodAll_mk0
 · rw [List.append_nil,hfn]
   exact zd9 hl hr hA hsame fun x hx=>by simpa using hlt x hx
 · rw [List.append_nil,hfn,hv0];exact rfl
 · refine⟨hos,hout,fun i hi => ?_⟩
   rw [hblk i hi]
   cases hw:W.heap[i]? with
   | none=>rfl
   | some o=>cases o<;>simp
end post


def H0:Hp:=⟨fun _=>none,0,fun _ _=>rfl,fun _=>none⟩
def σ0:Gh:=⟨fun _=>0,fun _=>none⟩

theorem zFi {G:Globs} {W:World} (hG : ∀ g sz xs,G g=some (sz,xs) → RelV σ0 H0 W (.ip sz xs 0 0) (.pointer (some ⟨g,0,none⟩))) (hM : ∀ r m,G.map r=some m → GMap σ0 H0 W r m):Rel G σ0 H0 W :=
 ⟨fun _ _ h=>(by cases h),fun _ _ _ _ _ _ h=>(by cases h),fun _ _ _ h=>(by cases h),fun _ _ _ _ h=>(by cases h),fun _ _ _ _ _ _ _ _ h=>(by cases h),fun _ _ _ _ _ _ _ _ _ _ _ h=>(by cases h),hG,fun _ _ _ h=>(by cases h),fun _ _ _ _ _ _ h=>(by cases h),hM,fun _ _ _ h=>(by cases h)⟩

theorem zqT (g o:Nat):Stable σ0 H0 g o:=⟨fun _ _ h=>(by cases h),fun _ _ _ _ _ h=>(by cases h)⟩
theorem zCH (g:Nat):Free σ0 H0 g:=⟨fun _ _ h=>(by cases h),fun _ _ _ _ _ h=>(by cases h),fun _ _ _ h=>(by cases h)⟩

theorem zs1 {P:Program} {G:Globs} {f:FuncId} {args:List AV} {W:World} {vs:Array Value} (h:ACall P G f args H0 fun r _=>r = .p (bo true)) (hr:Rel G σ0 H0 W) (hv:RelVs σ0 H0 W args vs) :
 Calls P f vs W fun e W'=>e = .returned (.bool true)∧(∀ g,g < W.heap.size → W'.heap[g]? = W.heap[g]?)∧W'.os=W.os∧W'.output=W.output:=by
 refine (h σ0 W vs hr hv).mono ?_
 rintro e W' ⟨r,H',σ',v,rfl,rfl,hrel,hrv,hev⟩
 cases hrv.bool_inv
 exact⟨rfl,fun g hg=>(hev.blk g hg (zCH g)).1,hev.os,hev.out⟩


section read
variable {H:Type} {enc:TypeId × Value → H} {P:Program} {W:World} {sp:Nat → Bool} {held:Bool}


end read
end Go.AL
