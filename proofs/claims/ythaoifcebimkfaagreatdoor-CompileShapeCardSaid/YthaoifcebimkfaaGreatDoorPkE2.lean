/- Proofs. -/
import Derived.Test.YthaoifcebimkfaaGreatDoorPkE1
import Derived.Maps.Keyed
import Derived.DeepKeys4
import Derived.LaidEqlPtr
import Derived.Laws.Externs
import Derived.DeepKeys
import Derived.OrdersIn
import Derived.Laws.Cover3
import Derived.RangeFuncRecord
import Derived.Lib.SlBytesConst
import Derived.Carry
import Derived.OpenShut
import Derived.Lib.LaidTab
import Derived.Deep.DeepHandedRow
import Derived.ProofKit
set_option linter.unusedSectionVars false
set_option linter.unusedSimpArgs false
set_option linter.unusedVariables false
namespace Go.AL
open Go

def zca:List PV → Option (List Value)
 | []=>some []
 | .s v :: xs=>(zca xs).map (v :: ·)
 | _=>none

theorem zdd {w:World} {S:Nat → Nat → Prop} : ∀ {xs:List PV} {a vs:List Value},zca xs=some a → vs.length=xs.length → (∀ (i:Nat) x v,xs[i]? = some x → vs[i]? = some v → RelP w S x v) → vs=a
 | [],a,vs,h,hl,_=>by simp only [zca,Option.some.injEq] at h;subst h;simpa using hl
 | x :: xs,a,vs,h,hl,hr=>by
  cases x<;>simp only [zca,Option.map_eq_some_iff] at h
  case s v =>
   obtain⟨a',h',rfl⟩:=h
   cases vs with
   | nil=>simp at hl
   | cons u us =>
    have h0:=hr 0 _ _ rfl rfl;cases h0;exact congrArg _ (zdd h' (by simpa using hl) (fun i x v e1 e2=>hr (i+1) x v (by simpa using e1) (by simpa using e2)))
  all_goals cases h


section states
variable {G:Globs} {σ:Gh} {H:Hp} {w:World}

theorem zbj (hr:Rel G σ H w) {b:Nat} {vs vs':List AV} {S S':OS} {o o':Obj} {us:Array Value} (hb:H.f b=some (.obj vs S)) (hw:w.heap[σ.c b]? = some o) (ho:zdU o=true) (hus:RelVs σ H w vs' us) (ho':zdU o'=true) (hS:S' us o') :
 Rel G σ (H.set b (.obj vs' S')) (w.putObj (σ.c b) o')∧Ev H.n σ H w σ (H.set b (.obj vs' S')) (w.putObj (σ.c b) o'):=by
 have hbn:=Hp.lt hb;have hlt:σ.c b < w.heap.size:=zb4 hw
 have hother : ∀ g,g≠σ.c b → (w.putObj (σ.c b) o').heap[g]? = w.heap[g]? := fun g hg=>World.putObj_heap_other hg
 have fcells : ∀ b' x,(H.set b (.obj vs' S')).f b'=some (.cells x) → H.f b'=some (.cells x):=by
  intro b' x h;rw [Hp.f_set] at h;split at h
  · cases h
  · exact h
 have ftail : ∀ b' k d,(H.set b (.obj vs' S')).f b'=some (.tl k d) → H.f b'=some (.tl k d):=by
  intro b' x d h;rw [Hp.f_set] at h;split at h
  · cases h
  · exact h
 have fobj : ∀ b' vs1 T,(H.set b (.obj vs' S')).f b'=some (.obj vs1 T) → ∃ vs'' T',H.f b'=some (.obj vs'' T'):=by
  intro b' vs1 T h;rw [Hp.f_set] at h;split at h
  · rename_i hh;rw [hh.1];exact⟨_,_,hb⟩
  · exact⟨_,_,h⟩
 have hcell : ∀ g o1 v,w.cell? ⟨g,o1,none⟩=some v → (w.putObj (σ.c b) o').cell? ⟨g,o1,none⟩=some v:=by
  intro g o1 v h;by_cases hg:g=σ.c b
  · subst hg
    cases o<;>first | (simp [World.cell?,hw] at h;done) | cases ho
  · simpa [World.cell?,hother g hg] using h
 have hev:Ev H.n σ H w σ (H.set b (.obj vs' S')) (w.putObj (σ.c b) o'):=by
  refine⟨fun g o1 v h1 h2=>⟨⟨fun b' x h=>h1.1 b' x (fcells _ _ h),fun b' k d o2 s h=>h1.2 b' k d o2 s (ftail _ _ _ h)⟩,hcell g o1 v h2⟩,fun _ _=>rfl,Nat.le_refl _,fun b' _ k d hk=>⟨k,d,ftail b' k d hk,Nat.le_refl _,fun _=>rfl⟩,by simp,
   fun g hg hf=>⟨hother g (Ne.symm (hf.3 b vs S hb)),fun b' x h=>hf.1 b' x (fcells _ _ h),fun b' k d o2 s h=>hf.2 b' k d o2 s (ftail _ _ _ h),fun b' vs' T h=>let ⟨_,_,h'⟩:=fobj _ _ _ h;hf.3 b' _ _ h'⟩,rfl,rfl⟩
 have hne : ∀ b' x,H.f b'=some (.cells x) → σ.c b'≠σ.c b:=fun b' x h e=>by
  obtain⟨c,ee,q1,_⟩:=hr.cells b' x h
  rw [e,hw] at q1;cases q1;cases ho
 have hneT : ∀ b' k d g o2 s,H.f b'=some (.tl k d) → σ.t b'=some (g,o2,s) → g≠σ.c b:=fun b' k d g o2 s h ht e=>by
  obtain⟨c,ee,q1,_⟩:=hr.tail b' k d g o2 s h ht
  rw [e,hw] at q1;cases q1;cases ho
 refine⟨⟨fun b' x h => ?_,fun b' k d g o2 s h ht => ?_,hr.vec_keep hev (fun b' k ds h=>⟨ftail _ _ _ h,rfl⟩) (fun b' k ds g o2 s _ h ht=>hother g (hneT b' k _ g o2 s h ht)),fun b1 b2 x y h1 h2=>hr.cc b1 b2 x y (fcells _ _ h1) (fcells _ _ h2),fun b1 b2 x k d g o2 s h1 h2=>hr.ct b1 b2 x k d g o2 s (fcells _ _ h1) (ftail _ _ _ h2),
  fun b1 b2 k d k' d' g o2 s o3 s' h1 h2=>hr.tt b1 b2 k d k' d' g o2 s o3 s' (ftail _ _ _ h1) (ftail _ _ _ h2),hr.glob_mono hev,fun b' vs' T h => ?_,fun b1 b2 v1 v2 T1 T2 h1 h2 he => ?_,hr.gm_mono hev,hr.z_mono hev rfl⟩,hev⟩
 · obtain⟨c,ee,q1,q2,q3⟩:=hr.cells b' x (fcells _ _ h)
   exact⟨c,ee,(hother _ (hne b' x (fcells _ _ h))).trans q1,q2,fun i y hy=>let ⟨v,a,b⟩:=q3 i y hy;⟨v,a,b.mono hev⟩⟩
 · obtain⟨c,ee,q1,q2⟩:=hr.tail b' k d g o2 s (ftail _ _ _ h) ht
   exact⟨c,ee,(hother g (hneT b' k d g o2 s (ftail _ _ _ h) ht)).trans q1,q2⟩
 · by_cases hbb:b'=b
   · subst hbb;rw [Hp.f_set_self H _ _ hbn] at h;cases h
     exact⟨o',us,World.putObj_heap_same hlt,ho',hus.mono hev,hS⟩
   · rw [Hp.f_set_ne H _ _ _ hbb] at h
     obtain⟨o1,us1,q1,q2,q3,q4⟩:=hr.objs b' vs' T h
     exact⟨o1,us1,(hother _ (fun e=>hbb (hr.oo b' b _ _ _ _ h hb e))).trans q1,q2,q3.mono hev,q4⟩
 · obtain⟨_,_,h1'⟩:=fobj _ _ _ h1
   obtain⟨_,_,h2'⟩:=fobj _ _ _ h2
   exact hr.oo b1 b2 _ _ _ _ h1' h2' he

theorem zmw (hr:Rel G σ H w) (o:Obj) (ho:zdU o=true) (vs:List AV) (us:Array Value) (S:OS) (hus:RelVs σ H w vs us) (hS:S us o) :
 Rel G (σ.withC H.n w.heap.size) (H.new (.obj vs S)) (w.alloc o)∧Ev H.n σ H w (σ.withC H.n w.heap.size) (H.new (.obj vs S)) (w.alloc o):=by
 have hold : ∀ b,b < H.n → (σ.withC H.n w.heap.size).c b=σ.c b:=fun b hb=>by simp [Gh.withC,Nat.ne_of_lt hb]
 have hnew:(σ.withC H.n w.heap.size).c H.n=w.heap.size:=by simp [Gh.withC]
 have fcells : ∀ b x,(H.new (.obj vs S)).f b=some (.cells x) → H.f b=some (.cells x):=by
  intro b x h;rw [Hp.f_new] at h;split at h
  · cases h
  · exact h
 have ftail : ∀ b k d,(H.new (.obj vs S)).f b=some (.tl k d) → H.f b=some (.tl k d):=by
  intro b x d h;rw [Hp.f_new] at h;split at h
  · cases h
  · exact h
 have fobj : ∀ b vs' T,(H.new (.obj vs S)).f b=some (.obj vs' T) → (b=H.n∧vs'=vs∧T=S) ∨ H.f b=some (.obj vs' T):=by
  intro b vs' T h;rw [Hp.f_new] at h;split at h
  · rename_i hh;cases h;exact .inl ⟨hh,rfl,rfl⟩
  · exact .inr h
 have hev:Ev H.n σ H w (σ.withC H.n w.heap.size) (H.new (.obj vs S)) (w.alloc o):=by
  refine⟨fun g o1 v h1 h2 => ?_,hold,by simp [Hp.n_new],fun b hb k d hk=>⟨k,d,ftail b k d hk,Nat.le_refl _,fun _=>rfl⟩,by simp,fun g hg hf=>⟨heap_alloc_old w _ hg,?_,?_,?_⟩,rfl,rfl⟩
  · have hlt:g < w.heap.size:=World.block_lt_of_cell? (a:=⟨g,o1,none⟩) w h2
    refine⟨⟨fun b x h => ?_,fun b k d o2 s h ht=>h1.2 b k d o2 s (ftail _ _ _ h) ht⟩,by rw [World.cell?_alloc_lt (a:=⟨g,o1,none⟩) w _ hlt];exact h2⟩
    have h:=fcells _ _ h;rw [hold b (Hp.lt h)];exact h1.1 b x h
  · intro b x h;have h:=fcells _ _ h;rw [hold b (Hp.lt h)];exact hf.1 b x h
  · exact fun b k d o2 s h ht=>hf.2 b k d o2 s (ftail _ _ _ h) ht
  · intro b vs' T h
    rcases fobj b vs' T h with ⟨rfl,_,_⟩ | h
    · rw [hnew];omega
    · rw [hold b (Hp.lt h)];exact hf.3 b vs' T h
 refine⟨⟨fun b x h => ?_,fun b k d g o2 s h ht => ?_,hr.vec_keep hev (fun b k ds h=>⟨ftail _ _ _ h,rfl⟩) (fun b k ds g o2 s _ h ht=>heap_alloc_old w _ (hr.t_lt h ht)),fun b1 b2 x y h1 h2 he => ?_,fun b1 b2 x k d g o2 s h1 h2 ht => ?_,
  fun b1 b2 k d k' d' g o2 s o3 s' h1 h2=>hr.tt b1 b2 k d k' d' g o2 s o3 s' (ftail _ _ _ h1) (ftail _ _ _ h2),hr.glob_mono hev,fun b vs' T h => ?_,fun b1 b2 v1 v2 T1 T2 h1 h2 he => ?_,hr.gm_mono hev,hr.z_mono hev rfl⟩,hev⟩
 · have h:=fcells _ _ h
   obtain⟨c,ee,q1,q2,q3⟩:=hr.cells b x h
   exact⟨c,ee,by rw [hold b (Hp.lt h),heap_alloc_old w _ (hr.c_lt h)];exact q1,q2,fun i y hy=>let ⟨v,a,b⟩:=q3 i y hy;⟨v,a,b.mono hev⟩⟩
 · have h:=ftail _ _ _ h
   obtain⟨c,ee,q1,q2⟩:=hr.tail b k d g o2 s h ht
   exact⟨c,ee,by rw [heap_alloc_old w _ (hr.t_lt h ht)];exact q1,q2⟩
 · have h1:=fcells _ _ h1;have h2:=fcells _ _ h2;rw [hold b1 (Hp.lt h1),hold b2 (Hp.lt h2)] at he;exact hr.cc b1 b2 x y h1 h2 he
 · have h1:=fcells _ _ h1;rw [hold b1 (Hp.lt h1)];exact hr.ct b1 b2 x k d g o2 s h1 (ftail _ _ _ h2) ht
 · rcases fobj b vs' T h with ⟨rfl,rfl,rfl⟩ | h
   · exact⟨o,us,by rw [hnew];exact heap_alloc_new w _,ho,hus.mono hev,hS⟩
   · obtain⟨o1,us1,q1,q2,q3,q4⟩:=hr.objs b vs' T h
     exact⟨o1,us1,by rw [hold b (Hp.lt h),heap_alloc_old w _ (hr.o_lt h)];exact q1,q2,q3.mono hev,q4⟩
 · rcases fobj b1 v1 T1 h1 with ⟨p1,_,_⟩ | p1<;>rcases fobj b2 v2 T2 h2 with ⟨p2,_,_⟩ | p2
   · rw [p1,p2]
   · rw [p1,hnew,hold b2 (Hp.lt p2)] at he
     have:=hr.o_lt p2;omega
   · rw [p2,hnew,hold b1 (Hp.lt p1)] at he
     have:=hr.o_lt p1;omega
   · rw [hold b1 (Hp.lt p1),hold b2 (Hp.lt p2)] at he;exact hr.oo b1 b2 _ _ _ _ p1 p2 he
end states

def zfM (P:Program) (k:TypeId):Bool :=
 match P.underlying k with
 | some (.int _) | some .bool | some .string=>true
 | some (.array _ _) | some (.struct _)=>decide (k < P.types.size) && P.keyTypeAt 9999 k && laidOutB P
 | _=>false

theorem zdB {P:Program} {k:TypeId} (h:zfM P k=true):Maps.Keyed P k:=by
 unfold zfM at h;split at h
 · rename_i q hq;exact Maps.int_keyed hq
 · rename_i hq;exact Maps.bool_keyed hq
 · rename_i hq;exact .of_law (WideMaps.string_law hq)
 · rename_i hq;simp only [Bool.and_eq_true,decide_eq_true_eq] at h;exact .of_law (deep_law_laid h.2 (by omega) h.1.1 h.1.2 (by rw [hq]))
 · rename_i hq;simp only [Bool.and_eq_true,decide_eq_true_eq] at h;exact .of_law (deep_law_laid h.2 (by omega) h.1.1 h.1.2 (by rw [hq]))
 · cases h

def PV.val? : PV → Option Value
 | .s v=>some v
 | .agg xs=>(zca xs).map fun vs => .agg vs.toArray
 | _=>none
def AV.key? : AV → Option Value
 | .p x=>x.val?
 | _=>none

theorem AV.key?_rel {σ H w} {x:AV} {kv v:Value} (h:x.key? = some kv) (r:RelV σ H w x v):v=kv:=by
 cases x<;>simp only [AV.key?] at h<;>try cases h
 rename_i x
 cases r with | p r =>
 cases r with
 | s v h1=>simpa [PV.val?] using h
 | agg xs vs hl h1 hh =>
  simp only [PV.val?,Option.map_eq_some_iff] at h
  obtain⟨us,h2,rfl⟩:=h
  have:=zdd (w:=w) (vs:=vs.toList) h2 (by simp [hl]) (fun i x v a b=>hh i x v a (by simpa using b))
  rw [←this]
 | emp=>simp [PV.val?] at h
 | sl=>simp [PV.val?] at h

def AB.map? : AB → Option (List (Value × AV))
 | .obj vals S=>S.ks.map fun ks=>ks.zip vals
 | _=>none

theorem map?_mapB (m:List (Value × AV)):(AB.mapB m).map? = some m:=by
 simp only [AB.mapB,AB.map?,zeQ,Option.map_some,Option.some.injEq];rw [List.zip_map']
 simp

def zcI (P:Program) (kt:TypeId) (ks:List Value):Bool:=ks.all fun k=>(keyOf P kt k).isSome

def zcu (P:Program) (kt:TypeId) (a b:Value):Bool :=
 match keyOf P kt a,keyOf P kt b with
 | some x,some y=>x.sameKey y
 | _,_=>false

theorem zdC {P:Program} {kt:TypeId} (K:Maps.Keyed P kt) {a:Value} {l:Lit} (h:keyOf P kt a=some l):zcu P kt a a=true:=by
 simp only [zcu,h];exact WideAt.sameKey_self (K.key h)
theorem zbP {P:Program} {kt:TypeId} (K:Maps.Keyed P kt) {a b:Value} (h:zcu P kt a b=true):a=b:=by
 unfold zcu at h;split at h
 · rename_i x y hx hy;obtain rfl:=WideAt.sameKey_eq h;exact K.inj hx hy
 · cases h

def zcv (P:Program) (kt:TypeId) (kv:Value):List (Value × AV) → Option AV
 | []=>none
 | (k,v) :: m=>if zcu P kt k kv=true then some v else zcv P kt kv m

def zfb (P:Program) (kt:TypeId) (kv:Value) (x:AV):List (Value × AV) → List (Value × AV)
 | []=>[(kv,x)]
 | (k,v) :: m=>if zcu P kt k kv=true then (k,x) :: m else (k,v) :: zfb P kt kv x m

section find
variable {P:Program} {kt:TypeId} {kv:Value} {l:Lit} (K:Maps.Keyed P kt) (hkv:keyOf P kt kv=some l)
include K hkv

theorem zhB {x:AV} : ∀ {m:List (Value × AV)} {j:Nat},(∀ p∈m,(keyOf P kt p.1).isSome=true) → (m.map (·.1)).Nodup → m[j]? = some (kv,x) → zcv P kt kv m=some x
 | [],j,_,_,h=>by simp at h
 | (k,v) :: m,0,_,_,h=>by
  simp only [List.getElem?_cons_zero,Option.some.injEq,Prod.mk.injEq] at h
  obtain⟨rfl,rfl⟩:=h
  simp [zcv,zdC K hkv]
 | (k,v) :: m,j+1,hok,hnd,h=>by
  simp only [List.getElem?_cons_succ] at h;simp only [List.map_cons,List.nodup_cons] at hnd
  have hne : ¬ zcu P kt k kv=true:=fun e=>hnd.1 (by
   obtain rfl:=zbP K e
   exact List.mem_map.2 ⟨(k,x),List.mem_of_getElem? h,rfl⟩)
  rw [zcv,if_neg hne];exact zhB (fun p hp=>hok p (by simp [hp])) hnd.2 h

theorem zfN : ∀ {m:List (Value × AV)},(∀ p∈m,p.1≠kv) → zcv P kt kv m=none
 | [],_=>rfl
 | (k,v) :: m,h=>by
  have hne : ¬ zcu P kt k kv=true:=fun e=>h (k,v) (by simp) (zbP K e)
  rw [zcv,if_neg hne]
  exact zfN fun p hp=>h p (by simp [hp])

theorem zjG {x y:AV} : ∀ {m:List (Value × AV)} {j:Nat},(m.map (·.1)).Nodup → m[j]? = some (kv,y) → zfb P kt kv x m=m.modify j (fun _=>(kv,x))
 | [],j,_,h=>by simp at h
 | (k,v) :: m,0,_,h=>by
  simp only [List.getElem?_cons_zero,Option.some.injEq,Prod.mk.injEq] at h
  obtain⟨rfl,rfl⟩:=h
  simp [zfb,zdC K hkv]
 | (k,v) :: m,j+1,hnd,h=>by
  simp only [List.getElem?_cons_succ] at h;simp only [List.map_cons,List.nodup_cons] at hnd
  have hne : ¬ zcu P kt k kv=true:=fun e=>hnd.1 (by
   obtain rfl:=zbP K e
   exact List.mem_map.2 ⟨(k,y),List.mem_of_getElem? h,rfl⟩)
  rw [zfb,if_neg hne,zjG hnd.2 h]
  simp

theorem zhC {x:AV} : ∀ {m:List (Value × AV)},(∀ p∈m,p.1≠kv) → zfb P kt kv x m=m++[(kv,x)]
 | [],_=>rfl
 | (k,v) :: m,h=>by
  have hne : ¬ zcu P kt k kv=true:=fun e=>h (k,v) (by simp) (zbP K e)
  rw [zfb,if_neg hne,zhC fun p hp=>h p (by simp [hp])];rfl
end find

def zax (P:Program) (t:TypeId):Option AV :=
 match (P.info? t).bind (·.zero),zL P t with
 | some (.agg _),some ps=>some (.p (.agg ps))
 | some _,some [p]=>some (.p p)
 | _,_=>none

theorem zcb {P:Program} {σ:Gh} {H:Hp} {w:World} {t:TypeId} {x:AV} (h:zax P t=some x) : ∃ v,(zeroValue t).run P w = .ok v w∧RelV σ H w x v:=by
 unfold zax at h;split at h
 · rename_i cs ps hz hps;cases h
   obtain⟨z,h1,h2,h3,h4⟩:=yq (w:=w) (S:=Stable σ H) hps
   rw [hz] at h2;cases h2
   refine⟨_,h1,.p (.agg ps cs h3 (fun i v hv => ?_) (fun i p v hp hv=>(h4 i p v hp hv).1))⟩
   have hlt:i < ps.length:=by rw [←h3];exact (Array.getElem?_eq_some_iff.1 hv).1
   exact (h4 i ps[i] v (by simp) hv).2
 · rename_i v p hne hz hps;cases h
   obtain⟨z,h1,h2,h3,h4⟩:=yq (w:=w) (S:=Stable σ H) hps
   rw [hz] at h2;cases h2
   refine⟨_,h1,.p ?_⟩
   have hc:v.cells = #[v]:=by
    cases v with
    | agg cs=>exact absurd rfl (hne cs)
    | _=>rfl
   exact (h4 0 p v rfl (by rw [hc];rfl)).1
 · cases h

def za1 (P:Program) (gm:Nat → Option (List (Value × AV))) (H:Hp) (t:TypeId) (x ix:AV) (ok:Bool):Option AV :=
 match P.underlying t with
 | some (.map kt et) =>
  match (match x with | .mp b=>(H.f b).bind AB.map? | .p (.s (.map none))=>some [] | .p (.s (.map (some r)))=>gm r | _=>none),ix.key? with
  | some m,some kv =>
   if zfM P kt∧zcI P kt (kv :: m.map (·.1)) then
    match zcv P kt kv m,zax P et with
    | some v,some _=>some (if ok then .tup [v,.p (.s (.bool true))] else v)
    | none,some z=>some (if ok then .tup [z,.p (.s (.bool false))] else z)
    | _,_=>none
   else none
  | _,_=>none
 | _=>none

def zde (P:Program) (H:Hp) (t:TypeId) (x ix y:AV):Option Hp :=
 match P.underlying t,x with
 | some (.map kt _),.mp b =>
  match (H.f b).bind AB.map?,ix.key? with
  | some m,some kv=>if zfM P kt∧zcI P kt (kv :: m.map (·.1)) then some (H.set b (.mapB (zfb P kt kv y m))) else none
  | _,_=>none
 | _,_=>none

section runs
variable {P:Program} {G:Globs} {σ:Gh} {H:Hp} {w:World}

theorem zfr (hr:Rel G σ H w) {b:Nat} {m:List (Value × AV)} (hb:(H.f b).bind AB.map? = some m) :
 ∃ vs S es clock,H.f b=some (.obj vs S)∧w.heap[σ.c b]? = some (.map es clock)∧es.toList.map (·.key)=m.map (·.1)∧(m.map (·.1)).Nodup∧(es.toList.map (·.born)).Nodup∧(∀ e∈es.toList,e.born < clock) ∧
  es.size=m.length ∧ ∀ (j:Nat) e p,es[j]? = some e → m[j]? = some p → e.key=p.1∧RelV σ H w p.2 e.val:=by
 cases hf:H.f b with
 | none=>simp [hf] at hb
 | some x =>
  rw [hf] at hb
  cases x with
  | obj vs S =>
   simp only [Option.bind_some,AB.map?,Option.map_eq_some_iff] at hb
   obtain⟨ks,hks,rfl⟩:=hb
   obtain⟨o,us,h1,h2,h3,h4⟩:=hr.objs b vs S hf
   obtain⟨es,clock,rfl,e1,e2,e3,e4,e5⟩:=S.map ks hks us o h4
   have hl1:ks.length=es.size:=by rw [←e1];simp
   have hl2:vs.length=es.size:=by rw [←h3.1,←Array.length_toList,←e2];simp
   have hm1:(ks.zip vs).map (·.1)=ks:=List.map_fst_zip (by omega)
   refine⟨vs,S,es,clock,rfl,h1,by rw [hm1,e1],by rw [hm1];exact e3,e4,e5,by simp;omega,fun j e p hj hp => ?_⟩
   rw [List.getElem?_zip_eq_some] at hp
   have hk:(es.toList.map (·.key))[j]? = some e.key:=by simp [hj]
   have hv:(es.toList.map (·.val))[j]? = some e.val:=by simp [hj]
   rw [e1,hp.1] at hk;rw [e2] at hv
   exact⟨(Option.some.inj hk).symm,h3.2 j p.2 e.val hp.2 (by simpa using hv)⟩
  | _=>simp [AB.map?] at hb

theorem zjH (hr:Rel G σ H w) {t:TypeId} {x ix y:AV} {ok:Bool} {vx vi:Value} (h:za1 P G.map H t x ix ok=some y) (hx:RelV σ H w x vx) (hi:RelV σ H w ix vi) :
 ∃ v,(Instr.lookup t vx vi ok).run P w = .ok v w∧RelV σ H w y v:=by
 unfold za1 at h;split at h
 case h_2=>cases h
 rename_i kt et hu;split at h
 case h_2=>cases h
 rename_i m kv hm hkv;obtain rfl:=AV.key?_rel hkv hi;split at h
 case isFalse=>cases h
 rename_i hc
 obtain⟨hkt,hok⟩:=hc
 have K:=zdB hkt;simp only [zcI,List.all_cons,Bool.and_eq_true,List.all_eq_true,List.mem_map] at hok
 obtain⟨hk0,hks⟩:=hok
 obtain⟨lk,hlk⟩:=Option.isSome_iff_exists.1 hk0
 -- the entries
 have hes : ∃ es:Array MapEntry,((vx = .map none∧es = #[]) ∨ ∃ r clock,vx = .map (some r)∧w.heap[r]? = some (.map es clock))∧(m.map (·.1)).Nodup∧es.size=m.length ∧ ∀ (j:Nat) e p,es[j]? = some e → m[j]? = some p → e.key=p.1∧RelV σ H w p.2 e.val:=by
  split at hm
  · rename_i b
    cases hx with | mp hb =>
    obtain⟨vs,S,es,clock,_,h1,_,h3,_,_,h6,h7⟩:=zfr hr hm
    exact⟨es,.inr ⟨_,clock,rfl,h1⟩,h3,h6,h7⟩
  · cases hm
    obtain rfl:vx = .map none:=by cases hx with | p hp=>cases hp;rfl
    exact⟨#[],.inl ⟨rfl,rfl⟩,by simp,by simp,by simp⟩
  · rename_i r
    obtain rfl:vx = .map (some r):=by cases hx with | p hp=>cases hp;rfl
    obtain⟨⟨es,clock,h1,h2,h3,h4⟩,_⟩:=hr.gm r m hm
    exact⟨es,.inr ⟨r,clock,rfl,h1⟩,h3,h2,h4⟩
  · cases hm
 obtain⟨es,he,hnd,hsz,hent⟩:=hes
 have hkeys : ∀ e∈es.toList,∃ l,keyOf P kt e.key=some l:=fun e hmem=>by
  obtain⟨j,hj⟩:=List.getElem?_of_mem hmem
  have hlt:j < m.length:=by rw [←hsz];simpa using (List.getElem?_eq_some_iff.1 hj).1
  have hp:m[j]? = some m[j]:=by simp [hlt]
  obtain⟨h1,_⟩:=hent j e m[j] (by simpa using hj) hp
  rw [h1];exact Option.isSome_iff_exists.1 (hks _ ⟨m[j],List.mem_of_getElem? hp,rfl⟩)
 have hchk:=K.check w es.isEmpty hlk
 have hrun : ∀ q:Option (Nat × Value),(Instr.findKey kt vi es.toList).run P w = .ok q w → (Instr.lookup t vx vi ok).run P w =
  ((do let (v,ok') ←(match q with | some (_,v)=>pure (v,true) | none=>do pure (←zeroValue et,false):Sem (Value × Bool));pure (if ok then .tuple #[v,.bool ok'] else v):Sem Value).run P w):=fun q hfind=>by
  unfold Instr.lookup
  rcases he with ⟨rfl,rfl⟩ | ⟨r,clock,rfl,hw⟩
  · cases q<;>simp only [Sem.run_bind,run_underlying hu,Result.andThen_ok,Sem.run_pure,hchk,hfind]<;>cases (zeroValue et).run P w<;>simp [Result.andThen]
  · cases q<;>simp only [Sem.run_bind,run_underlying hu,Result.andThen_ok,Sem.run_pure,MapKept.run_getObj_map hw,hchk,hfind]<;>cases (zeroValue et).run P w<;>simp [Result.andThen]
 rcases K.find w hlk es.toList hkeys with ⟨hfind,hne⟩ | ⟨j,e,hfind,hj,hkey⟩
 · have hmiss:zcv P kt vi m=none:=zfN K hlk fun p hp e=>by
    obtain⟨j,hj⟩:=List.getElem?_of_mem hp
    have hlt:j < es.size:=by rw [hsz];exact (List.getElem?_eq_some_iff.1 hj).1
    obtain⟨h1,_⟩:=hent j es[j] p (by simp) hj
    exact hne es[j] (by simp) (h1.trans e)
   rw [hmiss] at h;split at h
   · rename_i h1 _;cases h1
   · rename_i z _ hz
     obtain⟨v,hv,hzv⟩:=zcb (σ:=σ) (H:=H) (w:=w) hz
     rw [hrun _ hfind];cases h
     refine⟨if ok then .tuple #[v,.bool false] else v,by simp [hv],?_⟩
     cases ok
     · exact hzv
     · refine .tup _ (by simp) fun i x v' h1 h2 => ?_
       rcases i with _ | _ | i
       · simp at h1 h2;subst h1;subst h2;exact hzv
       · simp at h1 h2;subst h1;subst h2;exact .p (.s _ rfl)
       · simp at h1
   · cases h
 · have hj':es[j]? = some e:=by simpa using hj
   have hlt:j < m.length:=by rw [←hsz];exact (Array.getElem?_eq_some_iff.1 hj').1
   have hp:m[j]? = some m[j]:=by simp [hlt]
   obtain⟨h1,h2⟩:=hent j e m[j] hj' hp
   have hhit:zcv P kt vi m=some m[j].2:=zhB K hlk (fun p hp=>hks _ ⟨p,hp,rfl⟩) hnd (by rw [hp,←hkey,h1]);rw [hhit] at h;split at h
   · rename_i v _ h3 _;cases h3;rw [hrun _ hfind];cases h
     refine⟨if ok then .tuple #[e.val,.bool true] else e.val,by simp,?_⟩
     cases ok
     · exact h2
     · refine .tup _ (by simp) fun i x v' h1 h2' => ?_
       rcases i with _ | _ | i
       · simp at h1 h2';subst h1;subst h2';exact h2
       · simp at h1 h2';subst h1;subst h2';exact .p (.s _ rfl)
       · simp at h1
   · rename_i h3 _;cases h3
   · cases h

theorem zjI (hr:Rel G σ H w) {t:TypeId} {x ix y:AV} {H':Hp} {vx vi vy:Value} (h:zde P H t x ix y=some H') (hx:RelV σ H w x vx) (hi:RelV σ H w ix vi) (hy:RelV σ H w y vy) :
 ∃ w',(Instr.mapUpdate t vx vi vy).run P w = .ok () w'∧Rel G σ H' w'∧Ev H.n σ H w σ H' w':=by
 unfold zde at h;split at h
 case h_2=>cases h
 rename_i kt et b hu;split at h
 case h_2=>cases h
 rename_i m kv hm hkv;obtain rfl:=AV.key?_rel hkv hi;split at h
 case isFalse=>cases h
 rename_i hc
 obtain⟨hkt,hok⟩:=hc
 cases h;have K:=zdB hkt;simp only [zcI,List.all_cons,Bool.and_eq_true,List.all_eq_true,List.mem_map] at hok
 obtain⟨hk0,hks⟩:=hok
 obtain⟨lk,hlk⟩:=Option.isSome_iff_exists.1 hk0
 cases hx with | mp hbn =>
 obtain⟨vs,S,es,clock,hb,hw,hkk,hnd,hborn,hclk,hsz,hent⟩:=zfr hr hm
 have hkeys : ∀ e∈es.toList,∃ l,keyOf P kt e.key=some l:=fun e hmem=>by
  have:e.key∈m.map (·.1):=by rw [←hkk];exact List.mem_map.2 ⟨e,hmem,rfl⟩
  exact Option.isSome_iff_exists.1 (hks _ (by simpa using this))
 have hchk:=K.check w false hlk
 have hset : ∀ o,(setObj (σ.c b) o).run P w = .ok () (w.putObj (σ.c b) o):=fun o=>MapKept.run_setObj_map o hw
 have hvals : ∀ (j:Nat) p e,m[j]? = some p → es[j]? = some e → RelV σ H w p.2 e.val:=fun j p e h1 h2=>(hent j e p h2 h1).2
 rcases K.find w hlk es.toList hkeys with ⟨hfind,hne⟩ | ⟨j,e,hfind,hj,hkey⟩
 · have hput:zfb P kt vi y m=m++[(vi,y)]:=zhC K hlk fun p hp e=>by
    have:p.1∈es.toList.map (·.key):=by rw [hkk];exact List.mem_map.2 ⟨p,hp,rfl⟩
    obtain⟨e',h1,h2⟩:=List.mem_map.1 this
    exact hne e' h1 (h2.trans e)
   refine⟨w.putObj (σ.c b) (.map (es.push { key:=vi,val:=vy,born:=clock }) (clock+1)),?_,?_⟩
   · unfold Instr.mapUpdate;simp [run_underlying hu,MapKept.run_getObj_map hw,hchk,hfind,hset]
   · rw [hput];refine zbj hr hb hw rfl (S':=zeQ ((m++[(vi,y)]).map (·.1))) (o' := .map (es.push { key:=vi,val:=vy,born:=clock }) (clock+1)) (vs':=(m++[(vi,y)]).map (·.2)) (us:=(es.push { key:=vi,val:=vy,born:=clock }).map (·.val)) ⟨by simp [hsz],fun i x v h1 h2 => ?_⟩ rfl ?_
     · by_cases hi:i < m.length
       · have hp:m[i]? = some m[i]:=by simp [hi]
         have he:es[i]? = some es[i]:=by simp [hsz,hi]
         simp [List.getElem?_append_left,hi,hp] at h1;simp [Array.getElem?_push,hsz,Nat.ne_of_lt hi,he,hi] at h2;subst h1;subst h2;exact hvals i m[i] es[i] hp he
       · have:i=m.length:=by
          have:=(List.getElem?_eq_some_iff.1 h1).1
          simp at this;omega
         subst this;simp at h1;rw [Array.map_push,Array.getElem?_push,Array.size_map,if_pos hsz.symm] at h2;simp at h2;subst h1;subst h2;exact hy
     · refine⟨_,_,rfl,by simp [hkk],by simp,?_,?_,fun e he => ?_⟩
       · simp only [List.map_append,List.map_cons,List.map_nil];rw [List.nodup_append]
         refine⟨hnd,by simp,fun a ha b hb => ?_⟩
         simp only [List.mem_singleton] at hb;subst hb;rw [←hkk] at ha
         obtain⟨e',h1,h2⟩:=List.mem_map.1 ha
         exact fun h=>hne e' h1 (h2.trans h)
       · simp only [Array.toList_push,List.map_append,List.map_cons,List.map_nil];rw [List.nodup_append]
         refine⟨hborn,by simp,fun a ha b hb => ?_⟩
         simp only [List.mem_singleton] at hb;subst hb
         obtain⟨e',h1,h2⟩:=List.mem_map.1 ha
         have:=hclk e' h1
         omega
       · simp only [Array.toList_push,List.mem_append,List.mem_singleton] at he
         rcases he with he | rfl
         · exact Nat.lt_succ_of_lt (hclk e he)
         · exact Nat.lt_succ_self _
 · have hj':es[j]? = some e:=by simpa using hj
   have hjl:j < es.size:=(Array.getElem?_eq_some_iff.1 hj').1
   have hlt:j < m.length:=by omega
   have hp:m[j]? = some m[j]:=by simp [hlt]
   obtain⟨h1,h2⟩:=hent j e m[j] hj' hp
   have hput:zfb P kt vi y m=m.modify j (fun _=>(vi,y)):=zjG K hlk (y:=m[j].2) hnd (by rw [hp,←hkey,h1]);have hst:=K.stays w hlk
   refine⟨w.putObj (σ.c b) (.map (es.modify j fun e => { e with key:=vi,val:=vy }) clock),?_,?_⟩
   · unfold Instr.mapUpdate;simp [run_underlying hu,MapKept.run_getObj_map hw,hchk,hfind,hset,hj',hkey,hst]
   · rw [hput]
     have hkeys':(es.modify j fun e => { e with key:=vi,val:=vy }).toList.map (·.key)=es.toList.map (·.key):=by
      apply List.ext_getElem?;intro i;simp only [List.getElem?_map,Array.getElem?_toList,Array.getElem?_modify];by_cases hij:j=i
      · subst hij;simp [hj',hkey]
      · simp [hij]
     have hborn':(es.modify j fun e => { e with key:=vi,val:=vy }).toList.map (·.born)=es.toList.map (·.born):=by
      apply List.ext_getElem?;intro i;simp only [List.getElem?_map,Array.getElem?_toList,Array.getElem?_modify];by_cases hij:j=i
      · subst hij;simp [hj']
      · simp [hij]
     have hm':(m.modify j fun _=>(vi,y)).map (·.1)=m.map (·.1):=by
      apply List.ext_getElem?;intro i;simp only [List.getElem?_map,List.getElem?_modify];by_cases hij:j=i
      · subst hij;simp [hp,←h1,hkey]
      · simp [hij]
     refine zbj hr hb hw rfl (S':=zeQ ((m.modify j fun _=>(vi,y)).map (·.1))) (o' := .map (es.modify j fun e => { e with key:=vi,val:=vy }) clock) (vs':=(m.modify j fun _=>(vi,y)).map (·.2)) (us:=(es.modify j fun e => { e with key:=vi,val:=vy }).map (·.val)) ⟨by simp [hsz],fun i x v h3 h4 => ?_⟩ rfl ?_
     · simp only [List.getElem?_map,List.getElem?_modify,Array.getElem?_map,Array.getElem?_modify,Option.map_eq_some_iff] at h3 h4
       obtain⟨q,hq,rfl⟩:=h3
       obtain⟨f,hf,rfl⟩:=h4
       by_cases hij:j=i
       · subst hij;simp [hp] at hq;simp [hj'] at hf;subst hq;subst hf;exact hy
       · simp [hij] at hq hf;exact hvals i q f hq hf
     · exact⟨_,_,rfl,by rw [hkeys',hkk,hm'],by simp,by rw [hm'];exact hnd,by rw [hborn'];exact hborn,fun e' he'=>by
        have:e'.born∈es.toList.map (·.born):=by rw [←hborn'];exact List.mem_map.2 ⟨e',he',rfl⟩
        obtain⟨e2,h5,h6⟩:=List.mem_map.1 this
        rw [←h6];exact hclk e2 h5⟩

theorem zjJ (hr:Rel G σ H w) {t:TypeId} :
 ∃ v w' σ',(Instr.makeMap t none).run P w = .ok v w'∧RelV σ' (H.new (.mapB [])) w' (.mp H.n) v∧Rel G σ' (H.new (.mapB [])) w'∧Ev H.n σ H w σ' (H.new (.mapB [])) w':=by
 obtain⟨h1,h2⟩:=zmw hr (.map #[] 0) rfl [] #[] (zeQ []) ⟨rfl,by simp⟩ ⟨#[],0,rfl,by simp,by simp,by simp,by simp,by simp⟩
 refine⟨.map (some w.heap.size),w.alloc (.map #[] 0),_,by simp [Instr.makeMap,newObj,Sem.run],?_,h1,h2⟩
 have:RelV (σ.withC H.n w.heap.size) (H.new (.mapB [])) (w.alloc (.map #[] 0)) (.mp H.n) (.map (some ((σ.withC H.n w.heap.size).c H.n))) := .mp (by simp [Hp.n_new])
 simpa [Gh.withC] using this
end runs

end Go.AL

namespace Go.AL
open Go

abbrev ptA (g o:Nat):Value := .pointer (some ⟨g,o,none⟩)
abbrev ptv (g:Nat):Value:=ptA g 0
abbrev ptq (g o:Nat):PV := .s (ptA g o)
abbrev ptp (g:Nat):PV:=ptq g 0
def zfO (H:Hp) (x:AV):AV :=
 match x with
 | .p (.s (.pointer (some ⟨g,o,none⟩)))=>match H.z g with | some (sz,xs)=>if o < xs.length*sz then .ip sz xs (o / sz) (o % sz) else .top | none => .top
 | x=>x
theorem zut {G:Globs} {σ:Gh} {H:Hp} {w:World} (hr:Rel G σ H w) {x:AV} {v:Value} (h:RelV σ H w x v):RelV σ H w (zfO H x) v:=by
 unfold zfO
 split
 · rename_i g o
   cases h with | p h =>
   cases h
   split
   · rename_i sz xs hz
     split
     · rename_i hlt;have h1:=(hr.z g sz xs hz).2.2
       generalize hv:(Value.pointer (some ⟨g,0,none⟩))=v at h1
       cases h1 with | @ip _ _ _ _ g' off cap hp hi hs =>
       simp only [Value.pointer.injEq,Option.some.injEq,Addr.mk.injEq,and_true] at hv
       obtain⟨rfl,ho⟩:=hv
       have:off=0:=by omega
       subst this
       have hpos:0 < sz:=by omega
       have h2:RelV σ H w (.ip sz xs (o / sz) (o % sz)) (.pointer (some ⟨g,0+o / sz*sz+o % sz,none⟩)) := .ip hp (Nat.div_lt_of_lt_mul (by rw [Nat.mul_comm];exact hlt)) (Nat.mod_lt _ hpos)
       rwa [Nat.zero_add,Nat.div_add_mod'] at h2
     · exact .top _
   · exact .top _
 · exact h

def zCD (w:World) (p:Bool) (v:Value):Prop :=
 match p with
 | true => ∃ g c e,v=ptv g∧w.heap[g]? = some (.cells c e (0,0))
 | false => ∃ n,v = .int .i64 n
def RowK (w:World):List Bool → List Value → Prop
 | [],[]=>True
 | p :: ps,v :: vs=>zCD w p v∧RowK w ps vs
 | _,_=>False
def zpv (H:Hp) (p:Bool) (v:Value):Prop :=
 match p with
 | true => ∃ g,v=ptv g∧H.z g≠none
 | false => ∃ n,v = .int .i64 n
def RowZ (H:Hp):List Bool → List Value → Prop
 | [],[]=>True
 | p :: ps,v :: vs=>zpv H p v∧RowZ H ps vs
 | _,_=>False
theorem RowZ.k {G:Globs} {σ:Gh} {H:Hp} {w:World} (hr:Rel G σ H w) : ∀ {sh:List Bool} {vs:List Value},RowZ H sh vs → RowK w sh vs
 | [],[],_=>trivial
 | p :: sh,v :: vs,⟨h1,h2⟩=>⟨by
  cases p with
  | false=>exact h1
  | true =>
   obtain⟨g,rfl,hz⟩:=h1
   cases h:H.z g with
   | none=>exact absurd h hz
   | some q =>
    obtain⟨⟨c,e,hc⟩,_⟩:=hr.z g q.1 q.2 h
    exact⟨g,c,e,rfl,hc⟩,RowZ.k hr h2⟩

structure PKeys (P:Program) (kt:TypeId) (sh:List Bool):Prop where
 st : ∃ fs,P.underlying kt=some (.struct fs)
 check : ∀ (w:World) (em:Bool) (vs:List Value),RowK w sh vs → (Instr.checkKey em 10000 kt (.agg vs.toArray)).run P w = .ok () w
 eq : ∀ (w:World) (xs ys:List Value),RowK w sh xs → RowK w sh ys → ∃ r:Bool,(Op.equal kt (.agg xs.toArray) (.agg ys.toArray)).run P w = .ok r w∧(r=true ↔ xs=ys)

def zfP (H:Hp) (sh:List Bool) (v:Value):Prop := ∃ vs:List Value,v = .agg vs.toArray∧RowZ H sh vs
open Classical in
noncomputable def zcJ (kv:Value):List (Value × AV) → Option AV
 | []=>none
 | (k,v) :: m=>if k=kv then some v else zcJ kv m
open Classical in
noncomputable def zey (kv:Value) (x:AV):List (Value × AV) → List (Value × AV)
 | []=>[(kv,x)]
 | (k,v) :: m=>if k=kv then (k,x) :: m else (k,v) :: zey kv x m
def zjK (P:Program) (H:Hp) (kt:TypeId) (kv:Value) (m:List (Value × AV)):Prop := ∃ sh,PKeys P kt sh∧zfP H sh kv ∧ ∀ e∈m,zfP H sh e.1

open Classical in
noncomputable def zaj (P:Program) (H:Hp) (t:TypeId) (x ix:AV) (ok:Bool):Option AV :=
 match P.underlying t,x,ix.key? with
 | some (.map kt et),.mp b,some kv =>
  match (H.f b).bind AB.map? with
  | some m =>
   if zjK P H kt kv m then
    match zcJ kv m,zax P et with
    | some v,some _=>some (if ok then .tup [v,.p (.s (.bool true))] else v)
    | none,some z=>some (if ok then .tup [z,.p (.s (.bool false))] else z)
    | _,_=>none
   else none
  | none=>none
 | _,_,_=>none
open Classical in
noncomputable def zcK (P:Program) (H:Hp) (t:TypeId) (x ix y:AV):Option Hp :=
 match P.underlying t,x,ix.key? with
 | some (.map kt et),.mp b,some kv =>
  match (H.f b).bind AB.map? with
  | some m=>if zjK P H kt kv m then some (H.set b (.mapB (zey kv y m))) else none
  | none=>none
 | _,_,_=>none

section rel
variable {P:Program} {G:Globs} {σ:Gh} {H:Hp} {w:World}

theorem zfQ {fs:Array Field} {k:Value} {e:MapEntry} {es:List MapEntry} {i:Nat}:Instr.findNow (.struct fs) k (e :: es) i=none:=by
 simp [Instr.findNow,Instr.sameNow]

theorem zfR (hr:Rel G σ H w) {kt:TypeId} {sh:List Bool} (K:PKeys P kt sh) {kv:Value} (hk:zfP H sh kv) : ∀ (es:List MapEntry) (m:List (Value × AV)) (i:Nat),es.map (·.key)=m.map (·.1) → (∀ e∈m,zfP H sh e.1) →
 ((Instr.findAsking kt kv es i).run P w = .ok none w∧zcJ kv m=none∧(∀ y,zey kv y m=m++[(kv,y)]) ∧ ∀ e∈es,e.key≠kv) ∨
 ∃ j e p,(Instr.findAsking kt kv es i).run P w = .ok (some (i+j,e.val)) w∧es[j]? = some e∧m[j]? = some p∧e.key=kv∧zcJ kv m=some p.2 ∧ ∀ y,zey kv y m=m.set j (kv,y)
 | [],m,i,h,_=>by
  have:m=[]:=by simpa using h.symm
  subst this;exact .inl ⟨by simp [Instr.findAsking],rfl,fun _=>rfl,by simp⟩
 | e :: es,m,i,h,ho=>by
  cases m with
  | nil=>simp at h
  | cons p m =>
   simp only [List.map_cons,List.cons.injEq] at h
   obtain⟨h1,h2⟩:=h
   obtain⟨xs,rfl,hx⟩:=hk
   obtain⟨ys,hy1,hy⟩:=ho p (by simp)
   obtain⟨r,hrun,hiff⟩:=K.eq w _ _ (hx.k hr) (hy.k hr)
   rw [←hy1] at hrun
   have hv:(r=true ↔ p.1=Value.agg xs.toArray):=by
    rw [hiff,hy1];constructor
    · intro e;rw [e]
    · intro e;simpa using e.symm
   cases r with
   | true =>
    have e1:=hv.1 rfl;refine .inr ⟨0,e,p,?_,rfl,rfl,h1.trans e1,?_,fun y => ?_⟩
    · simp [Instr.findAsking,h1,hrun]
    · obtain⟨pk,pv⟩:=p;simp only at e1;simp [zcJ,e1]
    · obtain⟨pk,pv⟩:=p;simp only at e1;simp [zey,e1]
   | false =>
    have e1 : ¬ p.1=Value.agg xs.toArray:=fun x=>by have:=hv.2 x;simp at this
    rcases zfR hr K ⟨xs,rfl,hx⟩ es m (i+1) h2 (fun q hq=>ho q (by simp [hq])) with ⟨a1,a2,a3,a4⟩ | ⟨j,e',p',a1,a2,a3,a4,a5,a6⟩
    · refine .inl ⟨?_,?_,fun y => ?_,fun e' he => ?_⟩
      · simp [Instr.findAsking,h1,hrun,a1]
      · obtain⟨pk,pv⟩:=p;simp only at e1;simp [zcJ,e1,a2]
      · obtain⟨pk,pv⟩:=p;simp only at e1;simp [zey,e1,a3]
      · simp only [List.mem_cons] at he
        rcases he with rfl | he
        · rw [h1];exact e1
        · exact a4 e' he
    · refine .inr ⟨j+1,e',p',?_,a2,a3,a4,?_,fun y => ?_⟩
      · simp [Instr.findAsking,h1,hrun,a1,Nat.add_comm,Nat.add_left_comm]
      · obtain⟨pk,pv⟩:=p;simp only at e1;simp [zcJ,e1,a5]
      · obtain⟨pk,pv⟩:=p;simp only at e1;simp [zey,e1,a6]

theorem run_findKey (hr:Rel G σ H w) {kt:TypeId} {sh:List Bool} (K:PKeys P kt sh) {kv:Value} (hk:zfP H sh kv) {es:List MapEntry} {m:List (Value × AV)} (h:es.map (·.key)=m.map (·.1)) (hN : ∀ e∈m,zfP H sh e.1) :
 ((Instr.findKey kt kv es).run P w = .ok none w∧zcJ kv m=none∧(∀ y,zey kv y m=m++[(kv,y)]) ∧ ∀ e∈es,e.key≠kv) ∨
 ∃ j e p,(Instr.findKey kt kv es).run P w = .ok (some (j,e.val)) w∧es[j]? = some e∧m[j]? = some p∧e.key=kv∧zcJ kv m=some p.2 ∧ ∀ y,zey kv y m=m.set j (kv,y):=by
 obtain⟨fs,hfs⟩:=K.st
 cases es with
 | nil =>
  have:m=[]:=by simpa using h.symm
  subst this;exact .inl ⟨by simp [Instr.findKey,run_underlying hfs,Instr.findNow],rfl,fun _=>rfl,by simp⟩
 | cons e es =>
  have hrun:(Instr.findKey kt kv (e :: es)).run P w=(Instr.findAsking kt kv (e :: es)).run P w:=by
   simp [Instr.findKey,run_underlying hfs,zfQ]
  rw [hrun]
  rcases zfR hr K hk (e :: es) m 0 h hN with a | ⟨j,e',p',a1,a2⟩
  · exact .inl a
  · exact .inr ⟨j,e',p',by simpa using a1,a2⟩

theorem zmx (hr:Rel G σ H w) {t:TypeId} {x y ix:AV} {ok:Bool} {vx vi:Value} (h:zaj P H t x ix ok=some y) (hx:RelV σ H w x vx) (hi:RelV σ H w ix vi) :
 ∃ v,(Instr.lookup t vx vi ok).run P w = .ok v w∧RelV σ H w y v:=by
 unfold zaj at h;split at h
 case h_2=>cases h
 rename_i kt et b kv hu hkv;obtain rfl:=AV.key?_rel hkv hi;split at h
 case h_2=>cases h
 rename_i m hm;split at h
 case isFalse=>cases h
 rename_i hc
 obtain⟨sh,K,hk,hN⟩:=hc
 cases hx with | mp hb =>
 obtain⟨vs,S,es,clock,_,hw,hE,_,_,_,hsz,hent⟩:=zfr hr hm
 obtain⟨cs,hcs,hrz⟩:=hk
 have hchk:=K.check w es.isEmpty _ (hrz.k hr);rw [←hcs] at hchk
 rcases run_findKey hr K ⟨cs,hcs,hrz⟩ hE hN with ⟨hf,h2,_⟩ | ⟨j,e,p,hf,hj,hp,hpk,h2,_⟩
 · rw [h2] at h;split at h
   · rename_i h3 _;cases h3
   · rename_i z _ hz
     obtain⟨v,hv1,hv2⟩:=zcb (σ:=σ) (H:=H) (w:=w) hz
     cases h
     refine⟨if ok then .tuple #[v,.bool false] else v,?_,?_⟩
     · unfold Instr.lookup;simp only [Sem.run_bind,run_underlying hu,Result.andThen_ok,Sem.run_pure,MapKept.run_getObj_map hw,hchk,hf,hv1]
     · cases ok
       · exact hv2
       · refine .tup _ (by simp) fun i x v' h1 h2' => ?_
         rcases i with _ | _ | i
         · simp at h1 h2';subst h1;subst h2';exact hv2
         · simp at h1 h2';subst h1;subst h2';exact .p (.s _ rfl)
         · simp at h1
   · cases h
 · obtain⟨q1,q2⟩:=hent j e p (by simpa using hj) hp
   rw [h2] at h;split at h
   · rename_i v _ h3 _;cases h3;cases h
     refine⟨if ok then .tuple #[e.val,.bool true] else e.val,?_,?_⟩
     · unfold Instr.lookup;simp only [Sem.run_bind,run_underlying hu,Result.andThen_ok,Sem.run_pure,MapKept.run_getObj_map hw,hchk,hf]
     · cases ok
       · exact q2
       · refine .tup _ (by simp) fun i x v' h1 h2' => ?_
         rcases i with _ | _ | i
         · simp at h1 h2';subst h1;subst h2';exact q2
         · simp at h1 h2';subst h1;subst h2';exact .p (.s _ rfl)
         · simp at h1
   · rename_i h3 _;cases h3
   · cases h

theorem zfS : ∀ {sh:List Bool} {vs:List Value},RowZ H sh vs → ∀ n,(vs.zip vs).all (fun (x,y)=>Instr.sameBits n x y)=true
 | [],[],_,_=>rfl
 | p :: sh,v :: vs,⟨h1,h2⟩,n=>by
  simp only [List.zip_cons_cons,List.all_cons,zfS h2 n,Bool.and_true]
  cases p with
  | false=>obtain⟨m,rfl⟩:=h1;cases n<;>simp [Instr.sameBits]
  | true=>obtain⟨g,rfl,_⟩:=h1;cases n<;>simp [Instr.sameBits,ptA]

theorem zqH (hr:Rel G σ H w) {t:TypeId} {x y ix:AV} {H':Hp} {vx vi vy:Value} (h:zcK P H t x ix y=some H') (hx:RelV σ H w x vx) (hi:RelV σ H w ix vi) (hy:RelV σ H w y vy) :
 ∃ w',(Instr.mapUpdate t vx vi vy).run P w = .ok () w'∧Rel G σ H' w'∧Ev H.n σ H w σ H' w':=by
 unfold zcK at h;split at h
 case h_2=>cases h
 rename_i kt et b kv hu hkv;obtain rfl:=AV.key?_rel hkv hi;split at h
 case h_2=>cases h
 rename_i m hm;split at h
 case isFalse=>cases h
 rename_i hc
 obtain⟨sh,K,hk,hN⟩:=hc
 cases h
 cases hx with | mp hb =>
 obtain⟨vs,S,es,clock,hf0,hw,hkk,hnd,hborn,hclk,hsz,hent⟩:=zfr hr hm
 obtain⟨cs,hcs,hrz⟩:=hk
 have hchk:=K.check w false _ (hrz.k hr);rw [←hcs] at hchk
 have hset : ∀ o,(setObj (σ.c b) o).run P w = .ok () (w.putObj (σ.c b) o):=fun o=>MapKept.run_setObj_map o hw
 rcases run_findKey hr K ⟨cs,hcs,hrz⟩ hkk hN with ⟨hfind,_,hput,hne⟩ | ⟨j,e,p,hfind,hj,hp,hkey,_,hput⟩
 · refine⟨w.putObj (σ.c b) (.map (es.push { key:=vi,val:=vy,born:=clock }) (clock+1)),?_,?_⟩
   · unfold Instr.mapUpdate;simp [run_underlying hu,MapKept.run_getObj_map hw,hchk,hfind,hset]
   · rw [hput];refine zbj hr hf0 hw rfl (S':=zeQ ((m++[(vi,y)]).map (·.1))) (o' := .map (es.push { key:=vi,val:=vy,born:=clock }) (clock+1)) (vs':=(m++[(vi,y)]).map (·.2)) (us:=(es.push { key:=vi,val:=vy,born:=clock }).map (·.val)) ⟨by simp [hsz],fun i x v h1 h2 => ?_⟩ rfl ?_
     · by_cases hi:i < m.length
       · have hp:m[i]? = some m[i]:=by simp [hi]
         have he:es[i]? = some es[i]:=by simp [hsz,hi]
         simp [List.getElem?_append_left,hi,hp] at h1;simp [Array.getElem?_push,hsz,Nat.ne_of_lt hi,he,hi] at h2;subst h1;subst h2;exact (hent i es[i] m[i] he hp).2
       · have:i=m.length:=by
          have:=(List.getElem?_eq_some_iff.1 h1).1
          simp at this;omega
         subst this;simp at h1;rw [Array.map_push,Array.getElem?_push,Array.size_map,if_pos hsz.symm] at h2;simp at h2;subst h1;subst h2;exact hy
     · refine⟨_,_,rfl,by simp [hkk],by simp,?_,?_,fun e he => ?_⟩
       · simp only [List.map_append,List.map_cons,List.map_nil];rw [List.nodup_append]
         refine⟨hnd,by simp,fun a ha b hb => ?_⟩
         simp only [List.mem_singleton] at hb;subst hb;rw [←hkk] at ha
         obtain⟨e',h1,h2⟩:=List.mem_map.1 ha
         exact fun h=>hne e' h1 (h2.trans h)
       · simp only [Array.toList_push,List.map_append,List.map_cons,List.map_nil];rw [List.nodup_append]
         refine⟨hborn,by simp,fun a ha b hb => ?_⟩
         simp only [List.mem_singleton] at hb;subst hb
         obtain⟨e',h1,h2⟩:=List.mem_map.1 ha
         have:=hclk e' h1
         omega
       · simp only [Array.toList_push,List.mem_append,List.mem_singleton] at he
         rcases he with he | rfl
         · exact Nat.lt_succ_of_lt (hclk e he)
         · exact Nat.lt_succ_self _
 · have hj':es[j]? = some e:=by simpa using hj
   have hjl:j < es.size:=(Array.getElem?_eq_some_iff.1 hj').1
   obtain⟨h1,h2⟩:=hent j e p hj' hp
   have hst:(Instr.keyThatStays vi vi).run P w = .ok vi w:=by
    have:Instr.sameBits 10000 vi vi=true:=by
     rw [hcs,show 10000=9999+1 from rfl,Instr.sameBits];simp only [BEq.rfl,Bool.true_and];exact zfS hrz 9999
    simp [Instr.keyThatStays,this]
   refine⟨w.putObj (σ.c b) (.map (es.modify j fun e => { e with key:=vi,val:=vy }) clock),?_,?_⟩
   · unfold Instr.mapUpdate;simp [run_underlying hu,MapKept.run_getObj_map hw,hchk,hfind,hset,hj',hkey,hst]
   · rw [hput]
     have hkeys':(es.modify j fun e => { e with key:=vi,val:=vy }).toList.map (·.key)=es.toList.map (·.key):=by
      apply List.ext_getElem?;intro i;simp only [List.getElem?_map,Array.getElem?_toList,Array.getElem?_modify];by_cases hij:j=i
      · subst hij;simp [hj',hkey]
      · simp [hij]
     have hborn':(es.modify j fun e => { e with key:=vi,val:=vy }).toList.map (·.born)=es.toList.map (·.born):=by
      apply List.ext_getElem?;intro i;simp only [List.getElem?_map,Array.getElem?_toList,Array.getElem?_modify];by_cases hij:j=i
      · subst hij;simp [hj']
      · simp [hij]
     have hjm:j < m.length:=(List.getElem?_eq_some_iff.1 hp).1
     have hm':(m.set j (vi,y)).map (·.1)=m.map (·.1):=by
      apply List.ext_getElem?;intro i;simp only [List.getElem?_map,List.getElem?_set];by_cases hij:j=i
      · subst hij
        have e0:m[j]=p:=by simpa [hjm] using hp
        simp [hjm,e0,←h1,hkey]
      · simp [hij]
     refine zbj hr hf0 hw rfl (S':=zeQ ((m.set j (vi,y)).map (·.1))) (o' := .map (es.modify j fun e => { e with key:=vi,val:=vy }) clock) (vs':=(m.set j (vi,y)).map (·.2)) (us:=(es.modify j fun e => { e with key:=vi,val:=vy }).map (·.val)) ⟨by simp [hsz],fun i x v h3 h4 => ?_⟩ rfl ?_
     · simp only [List.getElem?_map,List.getElem?_set,Array.getElem?_map,Array.getElem?_modify,Option.map_eq_some_iff] at h3 h4
       obtain⟨q,hq,rfl⟩:=h3
       obtain⟨f,hf,rfl⟩:=h4
       by_cases hij:j=i
       · subst hij;simp [hjm] at hq;simp [hj'] at hf;subst hq;subst hf;exact hy
       · simp [hij] at hq hf;exact (hent i f q hf hq).2
     · exact⟨_,_,rfl,by rw [hkeys',hkk,hm'],by simp,by rw [hm'];exact hnd,by rw [hborn'];exact hborn,fun e' he'=>by
        have:e'.born∈es.toList.map (·.born):=by rw [←hborn'];exact List.mem_map.2 ⟨e',he',rfl⟩
        obtain⟨e2,h5,h6⟩:=List.mem_map.1 this
        rw [←h6];exact hclk e2 h5⟩
end rel

def zyz (P:Program) (d:Option TypeDesc):Bool :=
 match d with
 | some (.struct fs)=>fs.any fun f=>match P.underlying f.type with | some (.pointer _)=>true | _=>false
 | _=>false
def zyA (P:Program) (d:Option TypeDesc):Bool :=
 match d with
 | some (.map kt _)=>zyz P (P.underlying kt)
 | _=>false
def za2 (P:Program) (t:TypeId):Bool:=zyA P (P.underlying t)
noncomputable def zak (P:Program) (gm:Nat → Option (List (Value × AV))) (H:Hp) (t:TypeId) (x ix:AV) (ok:Bool):Option AV :=
 if za2 P t=true then zaj P H t x ix ok else za1 P gm H t x ix ok
noncomputable def zaJ (P:Program) (H:Hp) (t:TypeId) (x ix y:AV):Option Hp :=
 if za2 P t=true then zcK P H t x ix y else zde P H t x ix y
theorem zjL {P:Program} {gm:Nat → Option (List (Value × AV))} {H:Hp} {t:TypeId} {x ix:AV} {ok:Bool}:zak P gm H t x ix ok=if za2 P t=true then zaj P H t x ix ok else za1 P gm H t x ix ok:=rfl
theorem zjM {P:Program} {H:Hp} {t:TypeId} {x ix y:AV}:zaJ P H t x ix y=if za2 P t=true then zcK P H t x ix y else zde P H t x ix y:=rfl
theorem zij {P:Program} {G:Globs} {σ:Gh} {H:Hp} {w:World} (hr:Rel G σ H w) {t:TypeId} {x ix y:AV} {ok:Bool} {vx vi:Value} (h:zak P G.map H t x ix ok=some y) (hx:RelV σ H w x vx) (hi:RelV σ H w ix vi) :
 ∃ v,(Instr.lookup t vx vi ok).run P w = .ok v w∧RelV σ H w y v:=by
 unfold zak at h;split at h
 · exact zmx hr h hx hi
 · exact zjH hr h hx hi
theorem zdZ {P:Program} {G:Globs} {σ:Gh} {H:Hp} {w:World} (hr:Rel G σ H w) {t:TypeId} {x ix y:AV} {H':Hp} {vx vi vy:Value} (h:zaJ P H t x ix y=some H') (hx:RelV σ H w x vx) (hi:RelV σ H w ix vi) (hy:RelV σ H w y vy) :
 ∃ w',(Instr.mapUpdate t vx vi vy).run P w = .ok () w'∧Rel G σ H' w'∧Ev H.n σ H w σ H' w':=by
 unfold zaJ at h;split at h
 · exact zqH hr h hx hi hy
 · exact zjI hr h hx hi hy
end Go.AL

namespace Go.AL
open Go

def zfs (P:Program) (f:FuncId):Option String :=
  match P.funcs[f]? with
  | some fn => if fn.body.isNone && fn.origin == "" then some fn.name else none
  | none=>none

def zik:List AV → Option (List Int)
 | []=>some []
 | .p (.s (.int .u64 n)) :: xs=>(zik xs).map (n :: ·)
 | _=>none

def zil (nm:String) (args:List AV):Option AV :=
  match zik args with
  | some [x,y,c] =>
    if 0≤x∧0≤y∧0≤c∧c≤1 then
      if nm = "math/bits.Add64" then some (.tup [.p (.s (.int .u64 ((x.toNat + y.toNat + c.toNat) % 2 ^ 64 : Nat))), .p (.s (.int .u64 ((x.toNat + y.toNat + c.toNat) / 2 ^ 64 : Nat)))])
      else if nm = "math/bits.Sub64" then some (.tup [.p (.s (.int .u64 ((x.toNat + 2 ^ 64 - y.toNat - c.toNat) % 2 ^ 64 : Nat))), .p (.s (.int .u64 (if x.toNat < y.toNat + c.toNat then 1 else 0 : Nat)))])
      else none
    else none
  | _=>none

theorem zjN {σ H w} : ∀ {args:List AV} {ns:List Int} {vs:Array Value},zik args=some ns → RelVs σ H w args vs → vs.toList=ns.map (Value.int .u64)
 | [],ns,vs,h,hv=>by
  simp only [zik,Option.some.injEq] at h;subst h
  have:=hv.1
  simp at this;simp [this]
 | x :: xs,ns,vs,h,hv=>by
  obtain⟨l⟩:=vs
  cases l with
  | nil=>have:=hv.1;simp at this
  | cons v vs =>
   cases x with
   | p x =>
    cases x with
    | s u =>
     cases u with
     | int k n =>
      cases k<;>simp only [zik,Option.map_eq_some_iff] at h<;>try cases h
      rename_i ms hms
      obtain⟨hms,rfl⟩:=hms
      have h0:=hv.2 0 _ v rfl rfl;have ht:=zjN (vs:=⟨vs⟩) hms ⟨by simpa using hv.1,fun i x v a b=>hv.2 (i+1) x v (by simpa using a) (by simpa using b)⟩;simp only at ht
      cases h0 with | p h0 =>
      cases h0;simp [ht]
     | _=>simp [zik] at h
    | _=>simp [zik] at h
   | _=>simp [zik] at h

theorem zmy {fn : Func} (h : fn.name = "math/bits.Add64") : Extern.find fn = some (fun args => do
    let (x, y, c) ← Extern.MathBitsCarry.three "Add64" args
    pure (Extern.MathBitsCarry.pair ((x+y+c) % Extern.MathBitsCarry.m64) ((x+y+c) / Extern.MathBitsCarry.m64))):=by
  unfold Extern.find;rw [h]
  kernel_rfl
theorem zmz {fn : Func} (h : fn.name = "math/bits.Sub64") : Extern.find fn = some (fun args => do
    let (x, y, b) ← Extern.MathBitsCarry.three "Sub64" args
    pure (Extern.MathBitsCarry.pair ((x+Extern.MathBitsCarry.m64 - y - b) % Extern.MathBitsCarry.m64) (if x < y+b then 1 else 0))):=by
  unfold Extern.find;rw [h]
  kernel_rfl
theorem zuu (nm:String) (x y c:Value):Extern.MathBitsCarry.three nm #[x,y,c]=(do
    let c:=(←asInt c).toNat
    if c > 1 then unsupported (.noEntry ("extern/math/bits." ++ nm ++ ": a carry that is neither 0 nor 1"))
    pure ((←asInt x).toNat,(←asInt y).toNat,c)):=rfl

theorem zhD {P:Program} {w:World} (nm:String) {k1 k2 k3:IntKind} (x y c:Int) (hc : ¬ 1 < c.toNat):(Extern.MathBitsCarry.three nm #[.int k1 x,.int k2 y,.int k3 c]).run P w = .ok (x.toNat,y.toNat,c.toNat) w:=by
 rw [zuu];simp only [asInt,asIntOf,Sem.run_bind,Sem.run_pure,Result.andThen_ok,gt_iff_lt,hc,if_false]

theorem zhE {fn : Func} (n : String) (h : fn.name = n) (ho : fn.origin = "") (h1 : (Extern.allNextRows.lookup n).isNone = true) : Extern.findNext fn = none := by
  unfold Extern.findNext;rw [h,ho]
  have h2 : (Extern.allNextRows.lookup "").isNone = true := by kernel_rfl
  simp only [Option.isNone_iff_eq_none] at h1 h2;simp [h1,h2]

theorem zyB {P:Program} {σ:Gh} {H:Hp} {w:World} {f:FuncId} {nm:String} {args:List AV} {y:AV} {vs:Array Value} (hn:zfs P f=some nm) (h:zil nm args=some y) (hv:RelVs σ H w args vs) :
 ∃ v,(callFunc f vs).run P w = .ok (.value v) w∧RelV σ H w y v:=by
 unfold zfs at hn;split at hn
 case h_2=>cases hn
 rename_i fn hf;split at hn
 case isFalse=>cases hn
 rename_i hc;cases hn;simp only [Bool.and_eq_true,beq_iff_eq] at hc
 obtain⟨hb,ho⟩:=hc
 unfold zil at h;split at h
 case h_2=>cases h
 rename_i x y' c hu;have hl:=zjN hu hv
 obtain rfl:vs = #[.int .u64 x,.int .u64 y',.int .u64 c]:=by
  apply Array.ext'
  simpa using hl
 split at h
 case isFalse=>cases h
 rename_i hr
 have hc1 : ¬ 1 < c.toNat:=by omega
 split at h
 · rename_i he;cases h;have hr:=run_callFunc_extern hf (by rw [he];decide) hb (zhE _ he ho (by kernel_rfl)) (zmy he) #[.int .u64 x,.int .u64 y',.int .u64 c] w
   refine⟨.tuple #[.int .u64 ((x.toNat+y'.toNat+c.toNat) % 2 ^ 64:Nat),.int .u64 ((x.toNat+y'.toNat+c.toNat) / 2 ^ 64:Nat)],?_,.tup _ rfl fun i x v h1 h2 => ?_⟩
   · rw [hr];simp only [Sem.run_bind,zhD _ _ _ _ hc1,Result.andThen_ok,Sem.run_pure];rfl
   · rcases i with _ | _ | i
     · simp at h1 h2;subst h1;subst h2;exact .p (.s _ rfl)
     · simp at h1 h2;subst h1;subst h2;exact .p (.s _ rfl)
     · simp at h1
 · split at h
   case isFalse=>cases h
   rename_i he;cases h;have hr:=run_callFunc_extern hf (by rw [he];decide) hb (zhE _ he ho (by kernel_rfl)) (zmz he) #[.int .u64 x,.int .u64 y',.int .u64 c] w
   refine⟨.tuple #[.int .u64 ((x.toNat+2 ^ 64 - y'.toNat - c.toNat) % 2 ^ 64:Nat),.int .u64 (if x.toNat < y'.toNat+c.toNat then 1 else 0:Nat)],?_,.tup _ rfl fun i x v h1 h2 => ?_⟩
   · rw [hr];simp only [Sem.run_bind,zhD _ _ _ _ hc1,Result.andThen_ok,Sem.run_pure];rfl
   · rcases i with _ | _ | i
     · simp at h1 h2;subst h1;subst h2;exact .p (.s _ rfl)
     · simp at h1 h2;subst h1;subst h2;exact .p (.s _ rfl)
     · simp at h1

end Go.AL

namespace Go.AL
open Go

inductive SRes where
 | val (x:AV) (H:Hp)
 | unit (H:Hp)
 | call (f:FuncId) (args:List AV)
 | yield (b:Nat) (args:List AV)
 | fail

def vH (x:Option AV) (H:Hp):SRes:=match x with | some x => .val x H | none => .fail
def vHH (x:Option (AV × Hp)):SRes:=match x with | some (x,H) => .val x H | none => .fail
def uH (x:Option Hp):SRes:=match x with | some H => .unit H | none => .fail

def y7 (P:Program) (t:TypeId) (v:Value):AV :=
 match v with
 | .slice a l c=>if a.isNone && l == 0 && c == 0 then (match P.underlying t with | some (.slice e) => .p (.sl true (P.cellsOf e) []) | _ => .p (.sl true 0 [])) else .p (.s (.slice a l c))
 | v=>yf v

def zau (P:Program) (G:Globs) (env:Env) (t:TypeId) (x:Operand):AV :=
 match x with
 | .const v=>y7 P t v
 | x=>zY G env x

theorem zcL {σ:Gh} {H:Hp} {w:World} {u v:Value} (h:RelV σ H w (.p (.s u)) v):v=u:=by
 cases h with | p h=>cases h;rfl

def za3 (v:Value):AV:=match v with | .slice none 0 0 => .p (.s (.slice none 0 0)) | v=>yf v
def zaE (P:Program) (t:TypeId) (v:Value):AV:=match v with | .slice none 0 0 => .p (.s (.slice none 0 0)) | v=>y7 P t v
def zfT (G:Globs) (env:Env) (x:Operand):AV:=match x with | .const v=>za3 v | x=>zY G env x
def zin (P:Program) (G:Globs) (env:Env) (t:TypeId) (x:Operand):AV:=match x with | .const v=>zaE P t v | x=>zau P G env t x

def yy (P:Program) (G:Globs) (env:Env):List Operand → List TypeId → List AV
 | [],_=>[]
 | x :: xs,[]=>zY G env x :: yy P G env xs []
 | x :: xs,t :: ts=>zin P G env t x :: yy P G env xs ts

def yM (G:Globs) (env:Env):List (Nat × Operand) → List (Nat × AV)
 | []=>[]
 | (i,x) :: r=>(i,zY G env x) :: yM G env r

def zaK (G:Globs) (env:Env):List Operand → List AV
 | []=>[]
 | x :: r=>zY G env x :: zaK G env r

def enters (P : Program) (f : FuncId) : Bool := match P.funcs[f]? with | some fn => fn.body.isSome && !(fn.name == "runtime.NumGoroutine") | none => false

open Classical in
noncomputable def zhF (P:Program) (t:TypeId) (xs ys:List PV):Option Bool :=
 if P.keyTypeAt 64 t && !P.eqGuardType P.depth t && yk P t then
  match zca xs,zca ys with
  | some a,some b=>match P.keyLits 64 t a,P.keyLits 64 t b with
   | some la,some lb=>some (decide (la=lb))
   | _,_=>none
  | _,_=>none
 else none

theorem zeT {P:Program} {t:TypeId} {d:Nat} {cs:List Value} {l:List Lit} (ht:yk P t=true) (h:P.keyLits d t cs=some l):cs.length=P.cellsOf t∧((∃ n e,P.underlying t=some (.array n e)) ∨ ∃ fs,P.underlying t=some (.struct fs)):=by
 cases d with
 | zero=>simp [Program.keyLits] at h
 | succ d =>
  unfold yk at ht;split at ht
  case h_2=>cases ht
  rename_i k hk
  cases k<;>simp [zW] at ht
  · rename_i n e;unfold Program.keyLits at h;simp only [hk] at h;split at h
    · rename_i hl;exact⟨hl,.inl ⟨n,e,hk⟩⟩
    · cases h
  · rename_i fs;unfold Program.keyLits at h;simp only [hk] at h;split at h
    · rename_i hl;exact⟨hl.1,.inr ⟨fs,hk⟩⟩
    · cases h

open Classical in
theorem zqI {P:Program} {t:TypeId} {xs ys:List PV} {r:Bool} {w:World} {S:Nat → Nat → Prop} {vx vy:Value} (h:zhF P t xs ys=some r) (hx:RelP w S (.agg xs) vx) (hy:RelP w S (.agg ys) vy) (op:BinOp) (xo yo:Operand) :
 (eqGuard op t xo yo vx vy).run P w = .ok () w∧(Op.equal t vx vy).run P w = .ok r w∧(∃ vs,vx = .agg vs) ∧ ∃ us,vy = .agg us:=by
 cases hx with | agg _ vs hl _ hr =>
 cases hy with | agg _ us hl' _ hr' =>
 unfold zhF at h;split at h
 case isFalse=>cases h
 rename_i hc;simp only [Bool.and_eq_true,Bool.not_eq_true'] at hc
 obtain⟨⟨hk,hg⟩,ha⟩:=hc
 split at h
 case h_2=>cases h
 rename_i a b e1 e2;split at h
 case h_2=>cases h
 rename_i la lb f1 f2;cases h;have q1:vs.toList=a:=zdd e1 (by simpa using hl) (fun i x v e e'=>hr i x v e (by simpa using e'));have q2:us.toList=b:=zdd e2 (by simpa using hl') (fun i x v e e'=>hr' i x v e (by simpa using e'))
 obtain⟨g1,g2⟩:=zeT ha f1
 obtain⟨g3,_⟩:=zeT ha f2
 have fm : ∀ {ws:Array Value},ws.size=P.cellsOf t → (Value.agg ws).formed P t=true:=fun hs=>by
  rcases g2 with ⟨n,e,hu⟩ | ⟨fs,hu⟩<;>simp [Value.formed,hu,hs]
 have fx:=fm (ws:=vs) (by rw [←Array.length_toList,q1,g1]);have fy:=fm (ws:=us) (by rw [←Array.length_toList,q2,g3])
 refine⟨?_,?_,⟨vs,rfl⟩,us,rfl⟩
 · unfold eqGuard
   cases op<;>simp [hg]
 · obtain⟨r,hr,hiff⟩:=run_equalIn_deep 9936 64 t hk w 64 64 (.agg vs) (.agg us) la lb fx fy (by simpa [Value.cells,q1] using f1) (by simpa [Value.cells,q2] using f2)
   by_cases he:la=lb
   · rw [decide_eq_true he,←hiff.2 he];exact hr
   · cases r with
     | false=>rw [decide_eq_false he];exact hr
     | true=>exact absurd (hiff.1 rfl) he

def zmA:AV → Bool
 | .p (.sl _ _ (_ :: _))=>true
 | .sl _ _ _ (_ :: _)=>true
 | .ref .. => true
 | .vr _ (_+1) _=>true
 | _=>false

theorem zmB {σ:Gh} {H:Hp} {w:World} {x:AV} {v:Value} (h:zmA x=true) (hr:RelV σ H w x v) : ∃ a l c,v = .slice (some a) l c:=by
 unfold zmA at h;split at h
 · cases hr with | p hr=>cases hr;exact⟨_,_,_,rfl⟩
 · cases hr with | sl hr _=>cases hr;exact⟨_,_,_,rfl⟩
 · cases hr;exact⟨_,_,_,rfl⟩
 · cases hr with | vr hr =>
   obtain⟨_,a,c,rfl,ha,_⟩:=hr
   have:=ha (by omega)
   cases a with
   | none=>cases this
   | some a=>exact⟨_,_,_,rfl⟩
 · cases h

noncomputable def zE (P:Program) (op:BinOp) (t:TypeId) (x y:AV):Option AV :=
 match x,y with
 | .p (.s a),.p (.s b)=>(yY P op t a b).map fun v => .p (.s v)
 | .p (.agg xs),.p (.agg ys)=>match op with
  | .eql=>(zhF P t xs ys).map fun r => .p (.s (.bool r))
  | .neq=>(zhF P t xs ys).map fun r => .p (.s (.bool !r))
  | _=>none
 | .clo _ _ _,.p (.s .nilFunc)=>if zfq P t then (match op with
  | .eql=>some (.p (.s (.bool false)))
  | .neq=>some (.p (.s (.bool true)))
  | _=>none) else none
 | .ptr _ _,.p (.s (.pointer none))=>if zdx P t then (match op with
  | .eql=>some (.p (.s (.bool false)))
  | .neq=>some (.p (.s (.bool true)))
  | _=>none) else none
 | x,.p (.s (.slice none 0 0))=>if zcC P t && zmA x then (match op with
  | .eql=>some (.p (.s (.bool false)))
  | .neq=>some (.p (.s (.bool true)))
  | _=>none) else none
 | _,_=>none

def aUn (op:UnOp) (x:AV):Option AV :=
 match x with
 | .p (.s a)=>(vUn op a).map fun v => .p (.s v)
 | _=>none

def zdm (P:Program) (H:Hp) (s d:TypeId) (x:AV):Option AV :=
 match P.underlying s,P.underlying d with
 | some (.slice _),some .string=>zbb P H s d x
 | some .string,some (.slice _)=>zdc P s d x
 | _,_=>if (P.underlying s).isSome then (match x with | .p (.s a)=>(zfE P d a).map fun v => .p (.s v) | _=>none) else none

def zbC (big:Bool) (x y:AV):Option AV :=
 match x,y with
 | .p (.s (.int k a)),.p (.s (.int k' b))=>if k=k' then some (.p (.s (.int k (if big then max a b else min a b)))) else none
 | _,_=>none

def isIface (P:Program) (t:TypeId):Bool:=match P.underlying t with | some (.interface _) | none=>true | _=>false

def zqJ (x:AV):Option AV :=
 match x with
 | .ptr b off=>some (.ptr b off)
 | .ip sz xs i sub=>some (.ip sz xs i sub)
 | .clo f a c=>some (.clo f a c)
 | .vp b k off=>some (.vp b k off)
 | .p (.s (.pointer (some a)))=>some (.p (.s (.pointer (some a))))
 | _=>none

def zuv (P:Program) (t:TypeId):Bool:=match P.underlying t with | some (.interface _) | none=>false | _=>true
def zft (P:Program) (t:TypeId) (ok:Bool) (x:AV):Option AV :=
 if zuv P t && ok then
  match x with
  | .p (.s .nilIface)=>(zax P t).map fun z => .tup [z,.p (.s (.bool false))]
  | .p (.s (.iface d (.int k n)))=>if d=t then some (.tup [.p (.s (.int k n)),.p (.s (.bool true))]) else (zax P t).map fun z => .tup [z,.p (.s (.bool false))]
  | _=>none
 else none
theorem zfU {σ:Gh} {H:Hp} {w:World} {x y:AV} {u v:Value} (h1:RelV σ H w x u) (h2:RelV σ H w y v):RelV σ H w (.tup [x,y]) (.tuple #[u,v]) :=
 .tup _ rfl fun i a b ha hb=>by
  match i with
  | 0=>simp at ha hb;subst ha;subst hb;exact h1
  | 1=>simp at ha hb;subst ha;subst hb;exact h2
  | _+2=>simp at ha
theorem zjO {P:Program} {σ:Gh} {H:Hp} {w:World} {t:TypeId} {ok:Bool} {x y:AV} {v:Value} (xt:TypeId) (h:zft P t ok x=some y) (hx:RelV σ H w x v) : ∃ u,(Instr.typeAssert v xt t ok).run P w = .ok u w∧RelV σ H w y u:=by
 unfold zft at h;split at h
 case isFalse=>cases h
 rename_i hc;simp only [Bool.and_eq_true] at hc
 obtain⟨hc,rfl⟩:=hc
 unfold zuv at hc
 cases hu:P.underlying t with
 | none=>simp [hu] at hc
 | some d =>
  rw [hu] at hc;split at h
  · have:=zcL hx
    subst this;simp only [Option.map_eq_some_iff] at h
    obtain⟨z,hz,rfl⟩:=h
    obtain⟨u,h1,h2⟩:=zcb (σ:=σ) (H:=H) (w:=w) hz
    refine⟨.tuple #[u,.bool false],?_,zfU h2 (.p (.s _ rfl))⟩
    cases d<;>first | (simp at hc;done) | simp [Instr.typeAssert,run_underlying hu,h1]
  · have:=zcL hx
    subst this;split at h
    · rename_i e;subst e;cases h
      refine⟨_,?_,zfU (.p (.s _ rfl)) (.p (.s _ rfl))⟩
      cases d<;>first | (simp at hc;done) | simp [Instr.typeAssert,run_underlying hu]
    · rename_i e;simp only [Option.map_eq_some_iff] at h
      obtain⟨z,hz,rfl⟩:=h
      obtain⟨u,h1,h2⟩:=zcb (σ:=σ) (H:=H) (w:=w) hz
      refine⟨.tuple #[u,.bool false],?_,zfU h2 (.p (.s _ rfl))⟩
      cases d<;>first | (simp at hc;done) | simp [Instr.typeAssert,run_underlying hu,h1,e]
  · cases h

def zO (P:Program) (G:Globs) (env:Env) (H:Hp) (b:Builtin) (args:List Operand) (ts:List TypeId):SRes :=
 match b,args,ts with
 | .len,[x],[t]=>vH (zAQ P t (zY G env x)) H
 | .append,[s,x],[t,u]=>vHH (zdW P H t u (zau P G env t s) (zau P G env u x))
 | .copy,[d,s],[t,_]=>vHH (zjE P H t (zY G env d) (zY G env s))
 | .min,[x,y],_=>vH (zbC false (zY G env x) (zY G env y)) H
 | .max,[x,y],_=>vH (zbC true (zY G env x) (zY G env y)) H
 | _,_,_ => .fail

def zcc (P:Program) (fn:FuncId) (args:List AV) (H:Hp):SRes:=match zfs P fn with | some nm=>vH (zil nm args) H | none => .fail

def zaL (P:Program) (G:Globs) (env:Env) (c:Call) (f:AV) (H:Hp):SRes :=
 match f with
 | .clo fn first captured=>if enters P fn then .call fn (first++yy P G env c.args.toList c.argTypes.toList++captured) else zcc P fn (first++yy P G env c.args.toList c.argTypes.toList++captured) H
 | .yld b => .yield b (yy P G env c.args.toList c.argTypes.toList)
 | _ => .fail

noncomputable def zc (P:Program) (G:Globs) (op:Op) (ty:TypeId) (env:Env) (H:Hp):SRes :=
 match op with
 | .move x => .val (zau P G env ty x) H
 | .assign x => .val (zau P G env ty x) H
 | .alloc t=>match zL P t with | some ps => .val (.ptr H.n 0) (H.new (.cells (ps.map .p))) | none => .fail
 | .box _ x=>match ze (zY G env x) with | some cs => .val (.ptr H.n 0) (H.new (.cells cs)) | none => .fail
 | .build t parts=>vH (zZ P t (yM G env parts.toList)) H
 | .buildSlice t n parts=>vHH (zae P H t n (yM G env parts.toList))
 | .load t a=>vH (zbB P H t (zfO H (zY G env a))) H
 | .store t a x=>uH (zew P H t (zY G env a) (zau P G env t x))
 | .nilCheck x=>vH (zqJ (zY G env x)) H
 | .binOp op t x y _=>vH (zE P op t (zfT G env x) (zfT G env y)) H
 | .unOp op _ x=>vH (aUn op (zY G env x)) H
 | .convert s d x=>vH (zdm P H s d (zY G env x)) H
 | .makeInterface t x=>match zY G env x with | .p (.s v)=>if isIface P t then .fail else .val (.p (.s (.iface t v))) H | _ => .fail
 | .makeFunc fn first captured=>match fn with | .func f => .val (.clo f (zaK G env first.toList) (zaK G env captured.toList)) H | _ => .fail
 | .makeSlice t l c=>match l with | .const (.int _ 0)=>vHH (zcH P H t (zY G env l) (zY G env c)) | _=>vHH (zdX P H t (zY G env l) (zY G env c))
 | .slice t x lo hi mx=>vH (zfL P t (zY G env x) (lo.map (zY G env)) (hi.map (zY G env)) (mx.map (zY G env))) H
 | .fieldAddr s x f=>vH (zbg P s (zY G env x) f) H
 | .field s x f=>vH (zfI P s (zY G env x) f) H
 | .indexAddr t x i=>vH (zbf P t (zY G env x) (zY G env i)) H
 | .index t x i=>vH (y9 P t (zY G env x) (zY G env i)) H
 | .extract t i=>match zY G env t with | .tup xs=>vH xs[i]? H | _ => .fail
 | .pick c x y=>match zY G env c with | .p (.s (.bool b)) => .val (if b then zau P G env ty x else zau P G env ty y) H | _ => .fail
 | .call c=>match c.callee with
  | .value f=>zaL P G env c (zY G env f) H
  | .builtin b=>zO P G env H b c.args.toList c.argTypes.toList
  | .invoke _ _ => .fail
 | .makeMap _ r=>match r with | none => .val (.mp H.n) (H.new (.mapB [])) | _ => .fail
 | .lookup t x i ok=>vH (zak P G.map H t (zY G env x) (zY G env i) ok) H
 | .mapUpdate t x i y | .insert t x i y=>uH (zaJ P H t (zY G env x) (zY G env i) (zau P G env t y))
 | .typeAssert x _ t ok=>vH (zft P t ok (zY G env x)) H
 | _ => .fail

section sound
variable {P:Program} {G:Globs} {σ:Gh} {H:Hp} {w:World} {env:Env} {nt m:Nat} {a:Act}

theorem zeU {t:TypeId} (v:Value):RelV σ H w (y7 P t v) v:=by
 cases v
 case slice ad l c =>
  simp only [y7]
  split
  · rename_i h;simp only [Bool.and_eq_true,Option.isNone_iff_eq_none,beq_iff_eq] at h
    obtain⟨⟨rfl,rfl⟩,rfl⟩:=h
    split<;>exact .p (.nil true _)
  · exact .p (.s _ rfl)
 all_goals (unfold y7;exact zdv _)

theorem zal (hr:Rel G σ H w) (hf:RelF nt m σ H w env a) (t:TypeId) (x:Operand):RelV σ H w (zau P G env t x) (a.eval x):=by
 cases x with
 | const v=>exact zeU v
 | tmp t=>exact zi hr hf (.tmp t)
 | global g=>exact zi hr hf (.global g)
 | func f=>exact zi hr hf (.func f)

theorem zjP (hr:Rel G σ H w) (hf:RelF nt m σ H w env a) (x:Operand):RelV σ H w (zfT G env x) (a.eval x):=by
 cases x with
 | const v =>
  show RelV σ H w (za3 v) v
  unfold za3
  split
  · exact .p (.s _ rfl)
  · exact zdv _
 | tmp t=>exact zi hr hf (.tmp t)
 | global g=>exact zi hr hf (.global g)
 | func f=>exact zi hr hf (.func f)

theorem zuw (hr:Rel G σ H w) (hf:RelF nt m σ H w env a) (t:TypeId) (x:Operand):RelV σ H w (zin P G env t x) (a.eval x):=by
 cases x with
 | const v =>
  show RelV σ H w (zaE P t v) v
  unfold zaE
  split
  · exact .p (.s _ rfl)
  · exact zeU _
 | tmp t=>exact zi hr hf (.tmp t)
 | global g=>exact zi hr hf (.global g)
 | func f=>exact zi hr hf (.func f)

theorem zdf (hr:Rel G σ H w) (hf:RelF nt m σ H w env a) : ∀ (xs:List Operand) (ts:List TypeId),(yy P G env xs ts).length=xs.length ∧ ∀ (i:Nat) x v,(yy P G env xs ts)[i]? = some x → (xs.map a.eval)[i]? = some v → RelV σ H w x v
 | [],ts=>by simp [yy]
 | x :: xs,[]=>by
  obtain⟨h1,h2⟩:=zdf hr hf xs []
  refine⟨by simp [yy,h1],fun i y v hy hv => ?_⟩
  cases i with
  | zero=>simp [yy] at hy hv;subst hy;subst hv;exact zi hr hf x
  | succ i=>simp only [yy,List.getElem?_cons_succ,List.map_cons] at hy hv;exact h2 i y v hy hv
 | x :: xs,t :: ts=>by
  obtain⟨h1,h2⟩:=zdf hr hf xs ts
  refine⟨by simp [yy,h1],fun i y v hy hv => ?_⟩
  cases i with
  | zero=>simp [yy] at hy hv;subst hy;subst hv;exact zuw hr hf t x
  | succ i=>simp only [yy,List.getElem?_cons_succ,List.map_cons] at hy hv;exact h2 i y v hy hv

theorem zdD (hr:Rel G σ H w) (hf:RelF nt m σ H w env a) : ∀ (ps:List (Nat × Operand)),(yM G env ps).length=ps.length ∧ ∀ (k:Nat) i x j v,(yM G env ps)[k]? = some (i,x) → (ps.map fun p=>(p.1,a.eval p.2))[k]? = some (j,v) → j=i∧RelV σ H w x v
 | []=>by simp [yM]
 | (i,x) :: ps=>by
  obtain⟨h1,h2⟩:=zdD hr hf ps
  refine⟨by simp [yM,h1],fun k i' y j v hy hv => ?_⟩
  cases k with
  | zero =>
   simp [yM] at hy hv
   obtain⟨rfl,rfl⟩:=hy
   obtain⟨rfl,rfl⟩:=hv
   exact⟨rfl,zi hr hf x⟩
  | succ k=>simp only [yM,List.getElem?_cons_succ,List.map_cons] at hy hv;exact h2 k i' y j v hy hv

theorem zez (hr:Rel G σ H w) (hf:RelF nt m σ H w env a) : ∀ (xs:List Operand),(zaK G env xs).length=xs.length ∧ ∀ (i:Nat) x v,(zaK G env xs)[i]? = some x → (xs.map a.eval)[i]? = some v → RelV σ H w x v
 | []=>by simp [zaK]
 | x :: xs=>by
  obtain⟨h1,h2⟩:=zez hr hf xs
  refine⟨by simp [zaK,h1],fun i y v hy hv => ?_⟩
  cases i with
  | zero=>simp [zaK] at hy hv;subst hy;subst hv;exact zi hr hf x
  | succ i=>simp only [zaK,List.getElem?_cons_succ,List.map_cons] at hy hv;exact h2 i y v hy hv

theorem zdE (hr:Rel G σ H w) (hf:RelF nt m σ H w env a) (x:Option Operand):zdA σ H w (x.map (zY G env)) (x.map a.eval):=by
 cases x with
 | none=>trivial
 | some x=>exact zi hr hf x

theorem zmC {f:FuncId} (h:enters P f=true) (vs:Array Value) (w:World):(callFunc f vs).run P w = .ok (.enter f vs) w:=by
  unfold enters at h;split at h
  case h_2=>cases h
  rename_i fn hf;simp only [Bool.and_eq_true,Bool.not_eq_true'] at h
  obtain⟨h1,h2⟩:=h
  have h3 : ¬ fn.body=none:=fun h=>by simp [h] at h1
  have h4 : ¬ fn.name = "runtime.NumGoroutine" := by simpa using h2
  simp [callFunc,hf,h3,h4]

def StepOK (P:Program) (G:Globs) (σ:Gh) (H:Hp) (w:World) (ex:Sem Next):SRes → Prop
 | .val x H' => ∃ v w' σ',ex.run P w = .ok (.value v) w'∧RelV σ' H' w' x v∧Rel G σ' H' w'∧Ev H.n σ H w σ' H' w'
 | .unit H' => ∃ w' σ',ex.run P w = .ok .skip w'∧Rel G σ' H' w'∧Ev H.n σ H w σ' H' w'
 | .call f args => ∃ vs,ex.run P w = .ok (.enter f vs) w∧RelVs σ H w args vs
 | .yield b args => ∃ vs,RelVs σ H w args vs ∧ ∀ f t x y,(Instr.yield (σ.c b) vs).run P w = .ok (.round (σ.c b) f t x y) w → ex.run P w = .ok (.round (σ.c b) f t x y) w
 | .fail=>True

theorem StepOK.read (hr:Rel G σ H w) {x:Option AV} {s:Sem Value} (h : ∀ y,x=some y → ∃ v,s.run P w = .ok v w∧RelV σ H w y v):StepOK P G σ H w (do pure (.value (←s))) (vH x H):=by
 cases x with
 | none=>trivial
 | some y =>
  obtain⟨v,h1,h2⟩:=h y rfl
  exact⟨v,w,σ,by simp [h1],h2,hr,Ev.refl (Nat.le_refl _)⟩

theorem StepOK.make {x:Option (AV × Hp)} {s:Sem Value} (h : ∀ y H',x=some (y,H') → ∃ v w' σ',s.run P w = .ok v w'∧RelV σ' H' w' y v∧Rel G σ' H' w'∧Ev H.n σ H w σ' H' w'):StepOK P G σ H w (do pure (.value (←s))) (vHH x):=by
 cases x with
 | none=>trivial
 | some y =>
  obtain⟨y,H'⟩:=y
  obtain⟨v,w',σ',h1,h2⟩:=h y H' rfl
  exact⟨v,w',σ',by simp [h1],h2⟩

theorem zfV {big:Bool} {X Y z:AV} {vx vy:Value} {ts:Array TypeId} {ty:TypeId} (h:zbC big X Y=some z) (h1:RelV σ H w X vx) (h2:RelV σ H w Y vy) :
 ∃ v,((if big then Builtin.max_ else Builtin.min_) ts ty #[vx,vy]).run P w = .ok v w∧RelV σ H w z v:=by
 unfold zbC at h;split at h
 case h_2=>cases h
 rename_i k i k' j;split at h
 case isFalse=>cases h
 rename_i hk;subst hk;cases h
 have h1':vx = .int k i:=by cases h1 with | p h=>cases h;rfl
 have h2':vy = .int k j:=by cases h2 with | p h=>cases h;rfl
 subst h1' h2'
 refine⟨.int k (if big then max i j else min i j),?_,.p (.s _ rfl)⟩
 cases big
 · simp [Builtin.min_,List.foldlM_cons,List.foldlM_nil,Builtin.min2];omega
 · simp [Builtin.max_,List.foldlM_cons,List.foldlM_nil,Builtin.max2];omega

theorem zg0 (hr:Rel G σ H w) (hf:RelF nt m σ H w env a) (b:Builtin) (args:Array Operand) (ts:Array TypeId) (ty:TypeId) (cs:Array Bool) :
 StepOK P G σ H w (builtin b ts ty cs (args.map a.eval)) (zO P G env H b args.toList ts.toList):=by
 unfold zO
 split
 · rename_i x t hx ht
   have hx':args = #[x]:=by simpa using congrArg List.toArray hx
   have ht':ts = #[t]:=by simpa using congrArg List.toArray ht
   subst hx';subst ht'
   exact .read hr fun y hy=>by simpa using zus (ty:=ty) hy (zi hr hf x)
 · rename_i s x t u hx ht
   have hx':args = #[s,x]:=by simpa using congrArg List.toArray hx
   have ht':ts = #[t,u]:=by simpa using congrArg List.toArray ht
   subst hx';subst ht'
   exact .make fun y H' hy=>by simpa using zjD (ty:=ty) hr hy (zal hr hf t s) (zal hr hf u x)
 · rename_i d s t u hx ht
   have hx':args = #[d,s]:=by simpa using congrArg List.toArray hx
   have ht':ts = #[t,u]:=by simpa using congrArg List.toArray ht
   subst hx';subst ht'
   exact .make fun y H' hy=>by simpa using zqD (u:=u) (ty:=ty) hr hy (zi hr hf d) (zi hr hf s)
 · rename_i x y hx
   have hx':args = #[x,y]:=by simpa using congrArg List.toArray hx
   subst hx'
   refine .read hr fun z hz => ?_
   have h1:=zi hr hf x;have h2:=zi hr hf y
   generalize zY G env x=X at hz h1
   generalize zY G env y=Y at hz h2
   simp only [List.map_toArray,List.map_cons,List.map_nil]
   generalize a.eval x=vx at h1
   generalize a.eval y=vy at h2
   exact zfV (big:=false) (ts:=ts) (ty:=ty) hz h1 h2
 · rename_i x y hx
   have hx':args = #[x,y]:=by simpa using congrArg List.toArray hx
   subst hx'
   refine .read hr fun z hz => ?_
   have h1:=zi hr hf x;have h2:=zi hr hf y
   generalize zY G env x=X at hz h1
   generalize zY G env y=Y at hz h2
   simp only [List.map_toArray,List.map_cons,List.map_nil]
   generalize a.eval x=vx at h1
   generalize a.eval y=vy at h2
   exact zfV (big:=true) (ts:=ts) (ty:=ty) hz h1 h2
 · trivial

theorem zio (hr:Rel G σ H w) (hf:RelF nt m σ H w env a) (o:Oper):StepOK P G σ H w (execOp a.eval o) (zc P G o.op o.type env H):=by
 obtain⟨dst,op,ty,pos,after,guard⟩:=o
 cases op<;>simp only [zc,execOp]<;>try trivial
 case move x=>exact⟨_,w,σ,rfl,zal hr hf ty x,hr,Ev.refl (Nat.le_refl _)⟩
 case assign x=>exact⟨_,w,σ,rfl,zal hr hf ty x,hr,Ev.refl (Nat.le_refl _)⟩
 case alloc t =>
  split
  · rename_i ps hps
    obtain⟨u,w',σ',h1,h2⟩:=zqz hr hps
    exact⟨u,w',σ',by simp [h1],h2⟩
  · trivial
 case box t x =>
  split
  · rename_i cs hcs
    obtain⟨u,w',σ',h1,h2⟩:=zyx (P:=P) (e:=t) hr hcs (zi hr hf x)
    exact⟨u,w',σ',by simp [h1],h2⟩
  · trivial
 case build t parts =>
  refine .read hr fun y hy => ?_
  obtain⟨h1,h2⟩:=zdD hr hf parts.toList
  exact zmu hy (by simp [h1]) (fun k i x j v e1 e2=>h2 k i x j v e1 (by simpa using e2))
 case buildSlice t n parts =>
  refine .make fun y H' hy => ?_
  obtain⟨h1,h2⟩:=zdD hr hf parts.toList
  exact zfa hr hy (by simp [h1]) (fun k i x j v e1 e2=>h2 k i x j v e1 (by simpa using e2))
 case load t x=>exact .read hr fun y hy=>zhv hr hy (zut hr (zi hr hf x))
 case store t x y =>
  cases h:zew P H t (zY G env x) (zau P G env t y) with
  | none=>trivial
  | some H' =>
   obtain⟨w',σ',h1,h2,h3⟩:=zmq hr h (zi hr hf x) (zal hr hf t y)
   exact⟨w',σ',by simp [h1],h2,h3⟩
 case makeMap t r =>
  cases r with
  | some x=>trivial
  | none =>
   obtain⟨v,w',σ',h1,h2,h3,h4⟩:=zjJ (P:=P) hr (t:=t)
   exact⟨v,w',σ',by simp [h1],h2,h3,h4⟩
 case lookup t x i ok=>exact .read hr fun y hy=>zij hr hy (zi hr hf x) (zi hr hf i)
 case mapUpdate t x i y =>
  cases h:zaJ P H t (zY G env x) (zY G env i) (zau P G env t y) with
  | none=>trivial
  | some H' =>
   obtain⟨w',h1,h2,h3⟩:=zdZ hr h (zi hr hf x) (zi hr hf i) (zal hr hf t y)
   exact⟨w',σ,by simp [h1],h2,h3⟩
 case insert t x i y =>
  cases h:zaJ P H t (zY G env x) (zY G env i) (zau P G env t y) with
  | none=>trivial
  | some H' =>
   obtain⟨w',h1,h2,h3⟩:=zdZ hr h (zi hr hf x) (zi hr hf i) (zal hr hf t y)
   exact⟨w',σ,by simp [h1],h2,h3⟩
 case nilCheck x =>
  have hx:=zi hr hf x
  cases h:zqJ (zY G env x) with
  | none=>trivial
  | some y =>
   unfold zqJ at h;split at h<;>cases h
   · rename_i b off e;rw [e] at hx
     generalize a.eval x=v at hx ⊢
     cases hx with | ptr hb=>exact⟨_,w,σ,rfl,.ptr hb,hr,Ev.refl (Nat.le_refl _)⟩
   · rename_i sz xs i sub e;rw [e] at hx
     generalize a.eval x=v at hx ⊢
     cases hx with | ip hp hi hs=>exact⟨_,w,σ,rfl,.ip hp hi hs,hr,Ev.refl (Nat.le_refl _)⟩
   · rename_i f p c e;rw [e] at hx
     generalize a.eval x=v at hx ⊢
     cases hx with | clo fs cs q1 q2 q3 q4=>exact⟨_,w,σ,rfl,.clo fs cs q1 q2 q3 q4,hr,Ev.refl (Nat.le_refl _)⟩
   · rename_i b k off e;rw [e] at hx
     generalize a.eval x=v at hx ⊢
     cases hx with | vp ad q=>exact⟨_,w,σ,rfl,.vp ad q,hr,Ev.refl (Nat.le_refl _)⟩
   · rename_i ad e;rw [e] at hx
     generalize a.eval x=v at hx ⊢
     cases hx with | p hp =>
     cases hp
     exact⟨_,w,σ,rfl,.p (.s _ rfl),hr,Ev.refl (Nat.le_refl _)⟩
 case binOp op t x y t' =>
  refine .read hr fun z hz => ?_
  have h1:=zjP hr hf x;have h2:=zjP hr hf y;unfold zE at hz;split at hz
  case h_6=>cases hz
  case h_4 =>
   rename_i b off e1 e2;split at hz
   case isFalse=>cases hz
   rename_i hc
   obtain⟨_,hu⟩:=zfD hc
   rw [e1] at h1;rw [e2] at h2;have h2':a.eval y = .pointer none:=zcL h2
   generalize a.eval x=v1 at h1 ⊢
   cases h1 with | ptr hb =>
   rw [h2'];split at hz
   case h_3=>cases hz
   all_goals
    cases hz
    refine⟨_,?_,.p (.s _ rfl)⟩
    rw [Sem.run_bind,z5 (by simp) (by simp),Result.andThen_ok];simp only [binOp];rw [Sem.run_bind,zdy hu];rfl
  case h_3 =>
   rename_i e1 e2;split at hz
   case isFalse=>cases hz
   rename_i hc
   obtain⟨_,_,_,hu⟩:=zeR hc
   rw [e1] at h1;rw [e2] at h2;have h2':a.eval y = .nilFunc:=zcL h2
   generalize a.eval x=v1 at h1 ⊢
   cases h1 with | clo fs cs q1 q2 q3 q4 =>
   rw [h2'];split at hz
   case h_3=>cases hz
   all_goals
    cases hz
    refine⟨_,?_,.p (.s _ rfl)⟩
    rw [Sem.run_bind,z5 (by simp) (by simp),Result.andThen_ok];simp only [binOp];rw [Sem.run_bind,zmn hu];rfl
  case h_5 =>
   rename_i x' e2 hn;split at hz
   case isFalse=>cases hz
   rename_i hc;simp only [Bool.and_eq_true] at hc
   obtain⟨e,hu⟩:=zdV hc.1
   obtain⟨ad,l,c,h1'⟩:=zmB hc.2 h1
   rw [e2] at h2;have h2':a.eval y = .slice none 0 0:=zcL h2;rw [h1',h2'];split at hz
   case h_3=>cases hz
   all_goals
    cases hz
    refine⟨_,?_,.p (.s _ rfl)⟩
    rw [Sem.run_bind,z5 (by simp) (by simp),Result.andThen_ok];simp only [binOp];rw [Sem.run_bind,zcD hu];rfl
  case h_2 =>
   rename_i xs ys e1 e2;rw [e1] at h1;rw [e2] at h2
   cases h1 with | p h1 =>
   cases h2 with | p h2 =>
   split at hz
   case h_3=>cases hz
   all_goals
    simp only [Option.map_eq_some_iff] at hz
    obtain⟨r,hr1,rfl⟩:=hz
    refine⟨_,?_,.p (.s _ rfl)⟩
    rename_i hop
    obtain⟨q1,q2,⟨vs,q3⟩,us,q4⟩:=zqI hr1 h1 h2 _ x y
    rw [q3,q4] at q1 q2 ⊢;rw [Sem.run_bind,q1,Result.andThen_ok];simp only [binOp,Sem.run_bind,q2,Result.andThen_ok,Sem.run_pure]
  rename_i u v e1 e2;rw [e1] at h1;rw [e2] at h2
  have h1':a.eval x=u:=by cases h1 with | p h=>cases h;rfl
  have h2':a.eval y=v:=by cases h2 with | p h=>cases h;rfl
  cases hv:yY P op t u v with
  | none=>simp [hv] at hz
  | some r =>
   simp only [hv,Option.map_some,Option.some.injEq] at hz;subst hz;rw [h1',h2']
   refine⟨r,zuo hv x y w,.p (.s _ ?_)⟩
   unfold yY at hv;split at hv
   · split at hv
     · unfold zdw at hv;split at hv;· cases hv
       · split at hv<;>cases hv<;>rfl
     · split at hv
       · unfold zbe at hv
         split at hv<;>first | (cases hv;rfl) | (split at hv<;>cases hv;rfl) | (cases hv)
       · cases hv
   · unfold zAP at hv
     split at hv<;>first | (cases hv;rfl) | (split at hv<;>cases hv;rfl) | (cases hv)
   · split at hv
     · split at hv<;>cases hv<;>rfl
     · cases hv
   · split at hv
     · split at hv<;>cases hv<;>rfl
     · cases hv
   · split at hv
     · split at hv<;>cases hv<;>rfl
     · cases hv
   · split at hv
     · split at hv<;>cases hv<;>rfl
     · cases hv
   · cases hv
 case unOp op t x =>
  refine .read hr fun z hz => ?_
  have h1:=zi hr hf x;unfold aUn at hz;split at hz
  case h_2=>cases hz
  rename_i u e1;rw [e1] at h1
  have h1':a.eval x=u:=by cases h1 with | p h=>cases h;rfl
  cases hv:vUn op u with
  | none=>simp [hv] at hz
  | some r =>
   simp only [hv,Option.map_some,Option.some.injEq] at hz;subst hz;rw [h1']
   refine⟨r,zyw hv w,.p (.s _ ?_)⟩
   unfold vUn at hv;split at hv<;>cases hv<;>rfl
 case convert s d x =>
  have h1:=zi hr hf x;unfold zdm
  split
  · exact .read hr fun y hy=>zgY hr hy h1
  · cases h:zdc P s d (zY G env x) with
    | none=>trivial
    | some y =>
     obtain⟨v,w',q1,q2,q3,q4⟩:=zgZ hr h h1
     exact⟨v,w',σ,by simp [q1],q2,q3,q4⟩
  · refine .read hr fun z hz => ?_
    split at hz
    case isFalse=>cases hz
    rename_i hs;split at hz
    case h_2=>cases hz
    rename_i u e1;rw [e1] at h1
    have h1':a.eval x=u:=by cases h1 with | p h=>cases h;rfl
    cases hv:zfE P d u with
    | none=>simp [hv] at hz
    | some r =>
     simp only [hv,Option.map_some,Option.some.injEq] at hz;subst hz;rw [h1']
     refine⟨r,zqy hs hv w,.p (.s _ ?_)⟩
     unfold zfE at hv;split at hv<;>cases hv<;>rfl
 case makeInterface t x =>
  have h1:=zi hr hf x
  split
  · rename_i v e1
    split
    · trivial
    · rename_i hi;rw [e1] at h1
      have h1':a.eval x=v:=by cases h1 with | p h=>cases h;rfl
      unfold isIface at hi
      cases hu:P.underlying t with
      | none =>
       simp [hu] at hi
      | some d =>
       rw [hu] at hi
       refine⟨.iface t v,w,σ,?_,.p (.s _ rfl),hr,Ev.refl (Nat.le_refl _)⟩
       cases d<;>first | (simp at hi;done) | simp [Instr.makeInterface,run_underlying hu,h1']
  · trivial
 case typeAssert x xt t ok=>exact .read hr fun y hy=>zjO xt hy (zi hr hf x)
 case makeFunc fn first captured =>
  split
  · rename_i f
    obtain⟨l1,r1⟩:=zez hr hf first.toList
    obtain⟨l2,r2⟩:=zez hr hf captured.toList
    exact⟨.func (.func f) (first.map a.eval) (captured.map a.eval),w,σ,rfl,.clo _ _ (by simp [l1]) (by simp [l2]) (fun i x v e1 e2=>r1 i x v e1 (by simpa using e2)) (fun i x v e1 e2=>r2 i x v e1 (by simpa using e2)),hr,Ev.refl (Nat.le_refl _)⟩
  · trivial
 case makeSlice t l c =>
  split
  · exact .make fun y H' hy=>zms hr hy (zi hr hf _) (zi hr hf c)
  · exact .make fun y H' hy=>zqC hr hy (zi hr hf l) (zi hr hf c)
 case slice t x lo hi mx=>exact .read hr fun y hy=>zmv hy (zi hr hf x) (zdE hr hf lo) (zdE hr hf hi) (zdE hr hf mx)
 case fieldAddr s x f=>exact .read hr fun y hy=>zfG hy (zi hr hf x)
 case field s x f=>exact .read hr fun y hy=>zmo hy (zi hr hf x)
 case indexAddr t x i=>exact .read hr fun y hy=>zfF hy (zi hr hf x) (zi hr hf i)
 case index t x i=>exact .read hr fun y hy=>zmp hy (zi hr hf x) (zi hr hf i)
 case extract t i =>
  have h1:=zi hr hf t
  split
  · rename_i xs e1;rw [e1] at h1
    refine .read hr fun y hy => ?_
    generalize a.eval t=v at h1 ⊢
    cases h1 with | tup vs hl h =>
    have hlt:i < vs.size:=by rw [hl];exact (List.getElem?_eq_some_iff.1 hy).1
    exact⟨vs[i],by simp [Instr.extract,hlt],h i y _ hy (by simp)⟩
  · trivial
 case pick c x y =>
  have h1:=zi hr hf c
  split
  · rename_i b e1;rw [e1] at h1
    generalize hv:a.eval c=v at h1 ⊢
    cases h1.bool_inv
    cases b
    · exact⟨_,w,σ,rfl,zal hr hf ty y,hr,Ev.refl (Nat.le_refl _)⟩
    · exact⟨_,w,σ,rfl,zal hr hf ty x,hr,Ev.refl (Nat.le_refl _)⟩
  · trivial
 case call c =>
  obtain⟨callee,args,ts⟩:=c
  cases callee with
  | invoke r m=>trivial
  | builtin b=>exact zg0 hr hf b args ts ty _
  | value f =>
   have h1:=zi hr hf f;simp only [zaL]
   split
   · rename_i fn first captured e1
     rw [e1] at h1
     obtain⟨l2,r2⟩:=zdf (P:=P) hr hf args.toList ts.toList
     generalize hv:a.eval f=v at h1
     cases h1 with | clo fs cs q1 q2 q3 q4 =>
     have hvs:RelVs σ H w (first++yy P G env args.toList ts.toList++captured) (fs++args.map a.eval++cs):=by
      refine⟨by simp [q1,q2,l2],fun i x v e1 e2 => ?_⟩
      rw [Array.getElem?_append] at e2;simp only [Array.size_append,Array.size_map] at e2;by_cases hi:i < fs.size+args.size
      · rw [if_pos hi] at e2;rw [List.getElem?_append_left (by simp [l2,←q1];exact hi)] at e1;rw [Array.getElem?_append] at e2;by_cases hi2:i < fs.size
        · rw [if_pos hi2] at e2;rw [List.getElem?_append_left (by omega)] at e1;exact q3 i x v e1 e2
        · rw [if_neg hi2] at e2;rw [List.getElem?_append_right (by omega)] at e1;rw [←q1] at e1;exact r2 _ x v e1 (by simpa using e2)
      · rw [if_neg hi] at e2;rw [List.getElem?_append_right (by simp [l2,←q1];omega)] at e1;simp only [List.length_append,l2,←q1,Array.length_toList] at e1;exact q4 _ x v e1 e2
     split
     · rename_i he
       refine⟨fs++args.map a.eval++cs,?_,hvs⟩
       simp only [resolve,hv,Deferred.ofValue,Sem.run_bind,Sem.run_pure,Result.andThen_ok,invoke];exact zmC he _ w
     · unfold zcc
       split
       · rename_i nm hn
         cases hx:zil nm (first++yy P G env args.toList ts.toList++captured) with
         | none=>trivial
         | some y =>
          obtain⟨v,q5,q6⟩:=zyB hn hx hvs
          refine⟨v,w,σ,?_,q6,hr,Ev.refl (Nat.le_refl _)⟩
          simp only [resolve,hv,Deferred.ofValue,Sem.run_bind,Sem.run_pure,Result.andThen_ok,invoke];exact q5
       · trivial
   · rename_i b e1;rw [e1] at h1
     obtain⟨l2,r2⟩:=zdf (P:=P) hr hf args.toList ts.toList
     generalize hv:a.eval f=v at h1
     cases h1 with | yld hb =>
     refine⟨args.map a.eval,⟨by simp [l2],fun i x v e1 e2=>r2 i x v e1 (by simpa using e2)⟩,fun f' t x y hy => ?_⟩
     simp only [resolve,hv,Deferred.ofValue,Sem.run_bind,Sem.run_pure,Result.andThen_ok,invoke]
     simpa using hy
   · trivial
end sound

theorem zfW {P:Program} {G:Globs} {op:Op} {ty:TypeId} {env:Env} {H:Hp} (h:zc P G op ty env H ≠ .fail) : ∀ c,op ≠ .defer c:=by
 intro c e;subst e;exact h rfl

end Go.AL

namespace Go.AL
open Go

def zv (nt:Nat) (d:Option Nat):Bool:=match d with | some d=>decide (d < nt) | none=>true

def zC (nt:Nat) (ops:Array Oper) (g:Option (Nat × Bool)) (env:Env):Option Bool :=
 match g with
 | none=>some true
 | some (j,yv) =>
  match (ops[j]?).bind (·.dst) with
  | some d=>if d < nt then (match env d with | .p (.s (.bool t))=>some (t == yv) | .tup []=>some false | _=>none) else none
  | none=>none

def z8 (raw:List Nat) (f:FuncId) (args:List AV):List AV:=if raw.contains f then args else args.map AV.weak

def sOp (C:Cx) (dst:Option Nat) (H:Hp) (K:AV → Hp → Prop):SRes → Prop
 | .val x H'=>zv C.nt dst=true∧K x H'
 | .unit H'=>dst=none∧K .top H'
 | .call f args=>zv C.nt dst=true∧ACall C.P C.G f (z8 C.raw f args) H K
 | .yield b args=>zv C.nt dst=true∧AYield C.P C.G b (args.map AV.weak) H K
 | .fail=>False

def aOp1 (C:Cx) (o:Oper) (env:Env) (H:Hp) (K:AV → Hp → Prop):Prop:=sOp C o.dst H K (zc C.P C.G o.op o.type env H)

theorem sOp.mono {C:Cx} {dst H} {K K':AV → Hp → Prop} {r:SRes} (h:sOp C dst H K r) (hk : ∀ x H',K x H' → K' x H'):sOp C dst H K' r:=by
 cases r with
 | val x H'=>exact⟨h.1,hk _ _ h.2⟩
 | unit H'=>exact⟨h.1,hk _ _ h.2⟩
 | call f args=>exact⟨h.1,h.2.mono hk⟩
 | yield b args=>exact⟨h.1,h.2.mono hk⟩
 | fail=>exact h

theorem RelVs.weak {σ H w} {xs:List AV} {vs:Array Value} (h:RelVs σ H w xs vs):RelVs σ H w (xs.map AV.weak) vs :=
 ⟨by simpa using h.1,fun i x v hx hv=>by
  simp only [List.getElem?_map,Option.map_eq_some_iff] at hx
  obtain⟨y,hy,rfl⟩:=hx
  exact (h.2 i y v hy hv).weak⟩

theorem ziq {σ H w} {raw f} {xs:List AV} {vs:Array Value} (h:RelVs σ H w xs vs):RelVs σ H w (z8 raw f xs) vs:=by
 unfold z8
 split
 · exact h
 · exact h.weak

section
variable {C:Cx} {k:List Item} {env:Env} {H:Hp} {R:AV → Hp → Prop} {ops:Array Oper} {o:Oper} {rest:List Oper}

theorem zbk {nt:Nat} {d:Option Nat} (h:zv nt d=true) : ∀ i,d=some i → i < nt:=fun i hi=>by subst hi;simpa [zv] using h

theorem aOp1.wp {K:AV → Hp → Prop} (h:aOp1 C o env H K) {σ:Gh} {w:World} {a:Act} {m:Nat} {ro:Option Nat} (hr:Rel C.G σ H w) (hf:RelF C.nt m σ H w env a) {N:Act → World → Prop} {Q:Exit → Act → World → Prop}
 (hN : ∀ x v H' σ' w',K x H' → (∀ i,o.dst=some i → i < C.nt) → Rel C.G σ' H' w' → RelV σ' H' w' x v → Ev H.n σ H w σ' H' w' → N (a.put o.dst v) w'):o.wpIn { Fence.wide with round:=ro } 0 C.P a w N Q:=by
 have hs:=zio (P:=C.P) hr hf o;unfold aOp1 at h;unfold Oper.wpIn
 refine⟨fun f _=>trivial,?_⟩
 have hsem:Oper.semAt ro a.eval o=execOp a.eval o:=Oper.semAt_eq _ _ _ (zfW (P:=C.P) (G:=C.G) (ty:=o.type) (env:=env) (H:=H) fun hh=>by rw [hh] at h;exact h)
 show o.uponIn _ _ _ _ _ _ ((Oper.semAt ro a.eval o).run C.P w)
 rw [hsem]
 generalize zc C.P C.G o.op o.type env H=r at h hs
 cases r with
 | val x H' =>
  obtain⟨v,w',σ',hrun,hv,hrel,hev⟩:=hs
  rw [hrun];exact hN x v H' σ' w' h.2 (zbk h.1) hrel hv hev
 | unit H' =>
  obtain⟨w',σ',hrun,hrel,hev⟩:=hs
  rw [hrun];exact hN .top undef H' σ' w' h.2 (by simp [h.1]) hrel (.top _) hev
 | call f args =>
  obtain⟨vs,hrun,hvs⟩:=hs
  rw [hrun]
  refine⟨fun h=>(by cases h),(callsIn_wide (n:=0 - 1)).2 ((h.2 σ w vs hr (ziq hvs)).mono ?_)⟩
  rintro e w' ⟨x,H',σ',v,q,rfl,hrel,hv,hev⟩
  exact hN x v H' σ' w' q (zbk h.1) hrel hv hev
 | yield b args =>
  obtain⟨vs,hvs,hrun⟩:=hs
  obtain⟨f,t,x,y,q1,q2⟩:=h.2 σ w vs hr hvs.weak
  rw [hrun _ _ _ _ q1]
  refine⟨fun h=>(by cases h),q2.mono ?_⟩
  rintro e w' ⟨x,H',σ',v,q,rfl,hrel,hv,hev⟩
  exact hN x v H' σ' w' q (zbk h.1) hrel hv hev
 | fail=>exact h.elim

theorem zcd {σ:Gh} {w:World} {a:Act} {m:Nat} {g:Option (Nat × Bool)} {t:Bool} (h:zC C.nt ops g env=some t) (hf:RelF C.nt m σ H w env a) (hg:o.guard=g):Region.wanted o (yielded ops a.tmps)=t:=by
 subst hg;unfold zC at h;split at h
 · rename_i hg;cases h;simp [Region.wanted,hg]
 · rename_i j yv hg;split at h
   case h_2=>cases h
   rename_i d hd;split at h
   case isFalse=>cases h
   rename_i hlt;split at h
   case h_3=>cases h
   case h_2 =>
    rename_i he;cases h
    have hv : ∃ vs,a.tmps.getD d undef = .tuple vs:=by
     have:=hf.slot d
     rw [he] at this
     generalize a.tmps.getD d undef=v at this
     cases this with | tup vs _ _=>exact⟨vs,rfl⟩
    obtain⟨vs,hv⟩:=hv
    have hs:d < a.tmps.size:=by rw [hf.size];exact hlt
    have hv':a.tmps[d]? = some (.tuple vs):=by simpa [Array.getD_eq_getD_getElem?,hs] using hv
    simp only [Region.wanted,hg,yielded,hd,Option.bind_some,hv'];rfl
   rename_i b he;cases h;have hv:a.tmps.getD d undef = .bool b:=RelV.bool_inv (he ▸ hf.slot d)
   have hs:d < a.tmps.size:=by rw [hf.size];exact hlt
   have hv':a.tmps[d]? = some (.bool b):=by simpa [Array.getD_eq_getD_getElem?,hs] using hv
   simp only [Region.wanted,hg,yielded,hd,Option.bind_some,hv']
   cases b<;>cases yv<;>rfl

def YieldK (C:Cx) (ops:Array Oper) (b:Nat) (args:List AV) (dst:Option Nat) (rest:List Oper) (k:List Item) (env:Env) (H:Hp) (R:AV → Hp → Prop):Prop :=
 AYield C.P C.G b args H fun r H'=>AOps C ops rest k (env.put dst r) H' R

def CallK (C:Cx) (ops:Array Oper) (f:FuncId) (args:List AV) (dst:Option Nat) (rest:List Oper) (k:List Item) (env:Env) (H:Hp) (R:AV → Hp → Prop):Prop :=
 ACall C.P C.G f args H fun r H'=>AOps C ops rest k (env.put dst r) H' R

def zyC (C:Cx) (ops:Array Oper) (r:SRes) (dst:Option Nat) (rest:List Oper) (k:List Item) (env:Env) (H:Hp) (R:AV → Hp → Prop) (go:AV → Hp → Prop):Prop :=
 match r with
 | .val x H'=>zv C.nt dst=true∧go x H'
 | .unit H'=>dst=none∧go .top H'
 | .call f args=>zv C.nt dst=true∧CallK C ops f (z8 C.raw f args) dst rest k env H R
 | .yield b args=>zv C.nt dst=true∧YieldK C ops b (args.map AV.weak) dst rest k env H R
 | .fail=>False

def zbQ (C:Cx) (ops:Array Oper):List Oper → List Item → Env → Hp → (AV → Hp → Prop) → Prop
 | [],k,env,H,R=>ARun C k env H R
 | o :: rest,k,env,H,R =>
  match zC C.nt ops o.guard env with
  | some true=>zyC C ops (zc C.P C.G o.op o.type env H) o.dst rest k env H R (fun x H'=>zbQ C ops rest k (env.put o.dst x) H' R)
  | some false=>zv C.nt o.dst=true∧zbQ C ops rest k (env.put o.dst (.tup [])) H R
  | none=>False

theorem zbJ {F:Fence} {n:Nat} (l:List Oper) {Q Q':Exit → Act → World → Prop} (hQ : ∀ e a w,Q e a w → Q' e a w) : ∀ a w,wpListIn F n C.P ops Q l a w → wpListIn F n C.P ops Q' l a w:=by
 induction l with
 | nil=>intro a w h;exact hQ _ _ _ h
 | cons o l ih =>
  intro a w h;unfold wpListIn at h ⊢
  split
  · rename_i hw;rw [if_pos hw] at h;unfold Oper.wpIn at *
    refine⟨h.1,?_⟩
    have h:=h.2
    generalize (o.semAt F.round a.eval).run C.P w=r at *
    have lets:LetsOut Q → LetsOut Q':=fun ⟨a0,w0,q⟩=>⟨a0,w0,hQ _ _ _ q⟩
    cases r with
    | ok x w' =>
     cases x<;>simp only [Oper.uponIn] at h ⊢ <;>
      first
       | exact ih _ _ h
       | exact⟨h.1,CallsIn.mono h.2 (fun e w'' he=>by cases e<;>first | exact ih _ _ he | exact hQ _ _ _ he | exact lets he)⟩
       | exact⟨h.1,RoundIn.mono h.2 (fun e w'' he=>by cases e<;>first | exact ih _ _ he | exact hQ _ _ _ he | exact lets he)⟩
       | exact⟨h.1,RowsIn.mono h.2 (fun _ _ he=>ih _ _ he)⟩
    | halt x w'=>cases x<;>simp only [Oper.uponIn] at h ⊢ <;> exact hQ _ _ _ h
  · rename_i hw;rw [if_neg hw] at h;exact⟨h.1,ih _ _ h.2⟩

theorem AOps.of_op {o:Oper} (t:Bool) (hw:zC C.nt ops o.guard env=some t)
 (h : ∀ σ w a m,Pre C σ H w env a m → ∀ (K:Act → World → Prop) (Q:Exit → Act → World → Prop),
  (∀ x v H' σ' w',AOps C ops rest k (env.put o.dst x) H' R → (∀ i,o.dst=some i → i < C.nt) → Rel C.G σ' H' w' → RelV σ' H' w' x v → Ev H.n σ H w σ' H' w' → K (a.put o.dst v) w') →
  if t then o.wpIn (Fr C σ) 0 C.P a w K Q else K (a.put o.dst undef) w):AOps C ops (o :: rest) k env H R:=by
 intro σ w a m hpre
 have key : ∀ x v H' σ' w',AOps C ops rest k (env.put o.dst x) H' R → (∀ i,o.dst=some i → i < C.nt) → Rel C.G σ' H' w' → RelV σ' H' w' x v → Ev H.n σ H w σ' H' w' →
  wpListIn (Fr C σ) 0 C.P ops (fun e a' w'=>e = .normal ∧ ∃ env' H' σ',ARun C k env' H' R∧Pre C σ' H' w' env' a' m∧Ev H.n σ H w σ' H' w') rest (a.put o.dst v) w':=by
  intro x v H' σ' w' hrest hd hrel hv hev;have hf':RelF C.nt m σ' H' w' (env.put o.dst x) (a.put o.dst v):=(hpre.fr.mono hev).put hd hv;have hpre':Pre C σ' H' w' (env.put o.dst x) (a.put o.dst v) m:=hpre.go hrel hf' hev;have h1:=hrest σ' w' (a.put o.dst v) m hpre'
  have hF:Fr C σ'=Fr C σ:=by simp only [Fr,round_eq hpre.n0 hev.c hpre.lt]
  rw [hF] at h1;refine zbJ rest ?_ _ _ h1
  rintro e a' w2 ⟨rfl,env',H2,σ2,hr,hpre2,hev2⟩
  exact⟨rfl,env',H2,σ2,hr,hpre2,hev.trans (hev2.weaken hev.hn) (Nat.le_refl _)⟩
 have h1:=h σ w a m hpre _ (fun e a' w'=>e = .normal ∧ ∃ env' H' σ',ARun C k env' H' R∧Pre C σ' H' w' env' a' m∧Ev H.n σ H w σ' H' w') key;unfold wpListIn;have hwt:=zcd (o:=o) hw hpre.fr rfl
 cases t with
 | true=>rw [if_pos hwt];exact h1
 | false=>rw [if_neg (by rw [hwt];simp)];exact⟨fun f _=>trivial,h1⟩

theorem AOps.run : ∀ {l:List Oper} {env:Env} {H:Hp},zbQ C ops l k env H R → AOps C ops l k env H R
 | [],env,H,h => .nil h
 | o :: rest,env,H,h=>by
  unfold zbQ at h;split at h
  · rename_i hwa
    have h':aOp1 C o env H fun x H'=>AOps C ops rest k (env.put o.dst x) H' R:=by
     unfold aOp1;unfold zyC at h
     generalize zc C.P C.G o.op o.type env H=r at h
     cases r with
     | val x H'=>exact⟨h.1,AOps.run h.2⟩
     | unit H'=>exact⟨h.1,AOps.run h.2⟩
     | call f args=>exact⟨h.1,h.2⟩
     | yield b args=>exact⟨h.1,h.2⟩
     | fail=>exact h.elim
    exact .of_op true hwa fun σ w a m hpre K Q hK=>h'.wp hpre.rel hpre.fr hK
  · rename_i hwa
    exact .of_op false hwa fun σ w a m hpre K Q hK=>hK (.tup []) undef H σ w (AOps.run h.2) (zbk h.1) hpre.rel (.tup #[] rfl (by simp)) (Ev.refl (Nat.le_refl _))
  · exact h.elim

theorem CallK.of {f:FuncId} {args:List AV} {dst:Option Nat} {r:AV} {H':Hp} (h : ∀ R:AV → Hp → Prop,R r H' → ACall C.P C.G f args H R) (hk:zbQ C ops rest k (env.put dst r) H' R):CallK C ops f args dst rest k env H R :=
 h _ (AOps.run hk)

theorem CallK.ex {f:FuncId} {args:List AV} {dst:Option Nat} {S:AV → Hp → Prop} (h:ACall C.P C.G f args H S) (hk : ∀ r H',S r H' → zbQ C ops rest k (env.put dst r) H' R):CallK C ops f args dst rest k env H R :=
 h.mono fun r H' q=>AOps.run (hk r H' q)

theorem YieldK.of {b:Nat} {args:List AV} {dst:Option Nat} {r:AV} {H':Hp} (h : ∀ R:AV → Hp → Prop,R r H' → AYield C.P C.G b args H R) (hk:zbQ C ops rest k (env.put dst r) H' R):YieldK C ops b args dst rest k env H R :=
 h _ (AOps.run hk)

theorem ARun.text {id:Nat} {l:List Oper} (h:zbQ C l.toArray l k env H R):ARun C (.code (.region id l.toArray false) :: k) env H R := .region (AOps.run h)


def zdg (P:Program) (env:Env) (H:Hp):ResultVar → Option AV
 | .tmp t=>some (env t)
 | .cell a t=>zbB P H t (env a)

def zbD (P:Program) (env:Env) (H:Hp):List ResultVar → Option (List AV)
 | []=>some []
 | r :: rs=>match zdg P env H r,zbD P env H rs with
  | some x,some xs=>some (x :: xs)
  | _,_=>none

def zd0 (P:Program) (rs:List ResultVar) (env:Env) (H:Hp):Option AV :=
 match zbD P env H rs with
 | some [x]=>some x
 | some xs=>some (.tup xs)
 | none=>none

def zux (tmps:Array Value):ResultVar → Sem Value
 | .tmp t=>pure (tmps.getD t undef)
 | .cell a t=>do loadVar t (←asAddr (tmps.getD a undef))

theorem zmD (fn:Func) (tmps:Array Value):results fn tmps=(do let vs ←fn.results.mapM (zux tmps);pure (if h:vs.size=1 then vs[0] else .tuple vs)):=by
 unfold results
 congr 1

theorem zjQ {σ:Gh} {w:World} {a:Act} {nt m:Nat} (hr:Rel C.G σ H w) (hf:RelF nt m σ H w env a) {r:ResultVar} {x:AV} (h1:zdg C.P env H r=some x) :
 ∃ v,(zux a.tmps r).run C.P w = .ok v w∧RelV σ H w x v:=by
 cases r with
 | tmp t=>simp only [zdg,Option.some.injEq] at h1;subst h1;exact⟨_,rfl,hf.slot t⟩
 | cell ad t =>
  simp only [zdg] at h1
  obtain⟨v,hv,hx⟩:=zhv hr h1 (hf.slot ad)
  refine⟨v,?_,hx⟩
  have hptr : ∃ p,a.tmps.getD ad undef = .pointer (some p):=by
   have hs:=hf.slot ad
   generalize a.tmps.getD ad undef=u at hs ⊢
   generalize env ad=y at h1 hs
   unfold zbB at h1;split at h1
   case h_2=>cases h1
   split at h1
   · cases hs;exact⟨_,rfl⟩
   · cases hs;exact⟨_,rfl⟩
   · cases hs;exact⟨_,rfl⟩
   · cases h1
  obtain⟨p,hp⟩:=hptr
  rw [hp] at hv;simp only [zux,hp];exact hv

theorem zeV {σ:Gh} {w:World} {a:Act} {nt m:Nat} (hr:Rel C.G σ H w) (hf:RelF nt m σ H w env a) : ∀ {rs:List ResultVar} {xs:List AV},zbD C.P env H rs=some xs →
 ∃ vs:List Value,(rs.mapM (zux a.tmps)).run C.P w = .ok vs w∧vs.length=xs.length ∧ ∀ (i:Nat) x v,xs[i]? = some x → vs[i]? = some v → RelV σ H w x v
 | [],xs,h=>by simp only [zbD,Option.some.injEq] at h;subst h;exact⟨[],by simp,rfl,by simp⟩
 | r :: rs,xs,h=>by
  simp only [zbD] at h;split at h
  case h_2=>cases h
  rename_i x ys h1 h2;cases h
  obtain⟨vs,q1,q2,q3⟩:=zeV hr hf h2
  obtain⟨v,hv,hx⟩:=zjQ hr hf h1
  refine⟨v :: vs,?_,by simp [q2],fun i y u hy hu => ?_⟩
  · rw [List.mapM_cons];simp only [Sem.run_bind,hv,Result.andThen_ok,q1,Sem.run_pure]
  · cases i with
    | zero=>simp at hy hu;subst hy;subst hu;exact hx
    | succ i=>simp at hy hu;exact q3 i y u hy hu

theorem zuy {fn:Func} {x:AV} {σ:Gh} {w:World} {a:Act} {nt m:Nat} (hr:Rel C.G σ H w) (hf:RelF nt m σ H w env a) (h:zd0 C.P fn.results.toList env H=some x) :
 ∃ v,(results fn a.tmps).run C.P w = .ok v w∧RelV σ H w x v:=by
 unfold zd0 at h
 cases hall:zbD C.P env H fn.results.toList with
 | none=>simp [hall] at h
 | some xs =>
  obtain⟨vs,q1,q2,q3⟩:=zeV hr hf hall
  have hm:(fn.results.mapM (zux a.tmps)).run C.P w = .ok vs.toArray w:=by
   rw [Array.mapM_eq_mapM_toList,Sem.run_map,q1,Result.andThen_ok]
  simp only [hall] at h;rw [zmD,Sem.run_bind,hm,Result.andThen_ok];split at h
  · rename_i y hy;cases hy;cases h
    match vs,q2,q3 with
    | [v],_,q3=>exact⟨v,rfl,q3 0 _ v rfl rfl⟩
  · rename_i ys hne hy;cases hy;cases h
    refine⟨.tuple vs.toArray,?_,.tup _ (by simp [q2]) (fun i x v h1 h2=>q3 i x v h1 (by simpa using h2))⟩
    have : ¬ vs.toArray.size=1:=fun h1=>by
     simp only [List.size_toArray,q2] at h1
     match xs,h1,hne with
     | [z],_,hne=>exact hne z rfl
    simp only [this,dite_false,Sem.run_pure]
  · rename_i hy;cases hy

def AV.out (n0:Nat):AV → Option AV
 | .p x=>some (.p x.weak)
 | .sl _ _ sz xs=>some (.p (.sl false sz xs))
 | .tup xs=>match pvs? xs with | some ps=>some (.tup (ps.map fun p => .p p.weak)) | none=>none
 | .ptr b off=>if b < n0 then some (.ptr b off) else none
 | .ref b off len sz=>if b < n0 then some (.ref b off len sz) else none
 | .vr b len sz=>if b < n0 then some (.vr b len sz) else none
 | .mp b=>if b < n0 then some (.mp b) else none
 | _=>none

theorem TailOK.trunc {σ:Gh} {n0 α k sz:Nat} {v:Value} (h:TailOK σ H α k sz v) (hα:α < n0):TailOK σ (H.trunc n0) α k sz v :=
 ⟨hα,fun k0 d hk=>h.2 k0 d (by rwa [Hp.f_trunc,if_pos hα] at hk)⟩

theorem Stable.trunc {σ:Gh} {n0 g o:Nat} (h:Stable σ H g o):Stable σ (H.trunc n0) g o:=by
 have hf : ∀ b x,(H.trunc n0).f b=some x → H.f b=some x:=fun b x h=>by
  rw [Hp.f_trunc] at h;split at h
  · exact h
  · cases h
 exact⟨fun b cs hb=>h.1 b cs (hf _ _ hb),fun b v d o' s hb=>h.2 b v d o' s (hf _ _ hb)⟩

theorem RelV.trunc {σ:Gh} {w:World} {n0:Nat} {x:AV} {v:Value} (h:RelV σ H w x v):BelowN n0 x → RelV σ (H.trunc n0) w x v:=by
 have hp : ∀ {x:PV} {v:Value},RelP w (Stable σ H) x v → RelP w (Stable σ (H.trunc n0)) x v:=fun h=>h.mono fun g o v h1 h2=>⟨h1.trunc,h2⟩
 induction h with
 | p h=>exact fun _ => .p (hp h)
 | sl h ht=>intro hb;cases hb with | sl _ _ _ _ hb=>exact .sl (hp h) (ht.trunc hb)
 | ref a h0 _ hcap ha=>intro hb;cases hb with | ref _ _ _ _ hb=>exact .ref a h0 hb hcap ha
 | ptr _=>intro hb;cases hb with | ptr _ _ hb=>exact .ptr hb
 | ip h hi hs=>exact fun _ => .ip (hp h) hi hs
 | clo fs cs hf hc _ _ ih1 ih2=>intro hb;cases hb with | clo _ _ _ h1 h2=>exact .clo fs cs hf hc (fun i x v a b=>ih1 i x v a b (h1 i x a)) (fun i x v a b=>ih2 i x v a b (h2 i x a))
 | tup vs hl _ ih=>intro hb;cases hb with | tup _ h=>exact .tup vs hl (fun i x v a b=>ih i x v a b (h i x a))
 | agg vs hl h1 _ ih=>intro hb;cases hb with | agg _ h=>exact .agg vs hl h1 (fun i x v a b=>ih i x v a b (h i x a))
 | yld _=>intro hb;cases hb with | yld _ hb=>exact .yld hb
 | mp _=>intro hb;cases hb with | mp _ hb=>exact .mp hb
 | vr q =>
  intro hb
  cases hb with | vr _ _ _ hb =>
  obtain⟨_,a,cap,rfl,q1,q2⟩:=q
  exact .vr ⟨hb,a,cap,rfl,q1,fun k0 d hk=>q2 k0 d (by rwa [Hp.f_trunc,if_pos hb] at hk)⟩
 | vp a q =>
  intro hb
  cases hb with | vp _ _ _ hb =>
  exact .vp a ⟨hb,fun k0 d hk=>q.2 k0 d (by rwa [Hp.f_trunc,if_pos hb] at hk)⟩
 | top v=>exact fun _ => .top v

theorem zqK {σ:Gh} {w:World} {n0:Nat} (hr:Rel C.G σ H w) (hb:Bel n0 H):Rel C.G σ (H.trunc n0) w∧Ev n0 σ H w σ (H.trunc n0) w:=by
 have hf : ∀ b x,(H.trunc n0).f b=some x → H.f b=some x∧b < n0:=fun b x h=>by
  rw [Hp.f_trunc] at h;split at h
  · rename_i hb;exact⟨h,hb⟩
  · cases h
 have hev:Ev n0 σ H w σ (H.trunc n0) w:=⟨fun g o v h1 h2=>⟨h1.trunc,h2⟩,fun _ _=>rfl,Nat.le_refl _,fun b hb k d hk=>⟨k,d,(hf _ _ hk).1,Nat.le_refl _,fun _=>rfl⟩,Nat.le_refl _,
  fun g _ h=>⟨rfl,fun b cs hb=>h.1 b cs (hf _ _ hb).1,fun b v d o' s hb=>h.2 b v d o' s (hf _ _ hb).1,fun b vs S hb=>h.3 b vs S (hf _ _ hb).1⟩,rfl,rfl⟩
 refine⟨⟨fun b cs h => ?_,fun b k d g o s h=>hr.tail b k d g o s (hf _ _ h).1,fun b k cs h => ?_,fun b b' cs cs' h h'=>hr.cc b b' cs cs' (hf _ _ h).1 (hf _ _ h').1,fun b b' cs k d g o s h h'=>hr.ct b b' cs k d g o s (hf _ _ h).1 (hf _ _ h').1,
  fun b b' k d k' d' g o s o' s' h h'=>hr.tt b b' k d k' d' g o s o' s' (hf _ _ h).1 (hf _ _ h').1,fun g sz xs h=>(hr.glob g sz xs h).trunc (.ip _ _ _ _),fun b vs S h => ?_,fun b b' vs vs' S S' h h'=>hr.oo b b' vs vs' S S' (hf _ _ h).1 (hf _ _ h').1,fun r m h=>(hr.gm r m h).of rfl (hev.blk r (hr.gm r m h).lt (hr.gm r m h).2.1).2 fun x v hx q=>q.trunc (hx _),fun g sz xs h=>(hr.z g sz xs h).of rfl (hev.blk g (hr.z g sz xs h).lt (hr.z g sz xs h).2.1).2 fun q=>q.trunc (.ip _ _ _ _)⟩,hev⟩
 · obtain⟨h1,h2⟩:=hf _ _ h
   obtain⟨c,e,q1,q2,q3⟩:=hr.cells b cs h1
   exact⟨c,e,q1,q2,fun i x hx=>let ⟨v,a,b'⟩:=q3 i x hx;⟨v,a,b'.1.trunc (hb b _ h2 h1 x (List.mem_of_getElem? hx)),b'.2⟩⟩
 · obtain⟨h1,h2⟩:=hf _ _ h
   obtain⟨q0,q1,q2⟩:=hr.vec b k cs h1
   refine⟨q0,q1,fun g o s hg => ?_⟩
   obtain⟨p0,p1,p2⟩:=q2 g o s hg
   exact⟨p0,p1,fun i x hx=>let ⟨v,a,b'⟩:=p2 i x hx;⟨v,a,b'.1.trunc (hb b _ h2 h1 x (List.mem_of_getElem? hx)),b'.2⟩⟩
 · obtain⟨h1,h2⟩:=hf _ _ h
   obtain⟨o,us,q1,q2,q3,q4⟩:=hr.objs b vs S h1
   exact⟨o,us,q1,q2,⟨q3.1,fun i x v a b'=>(q3.2 i x v a b').trunc (hb b _ h2 h1 x (List.mem_of_getElem? a))⟩,q4⟩

theorem AV.out_rel {σ:Gh} {w:World} {n0:Nat} {x y:AV} {v:Value} (h:x.out n0=some y) (r:RelV σ H w x v):RelV σ (H.trunc n0) w y v:=by
 cases x with
 | p x=>simp only [AV.out,Option.some.injEq] at h;subst h;exact r.weak.trunc (.p _)
 | sl α k sz xs=>simp only [AV.out,Option.some.injEq] at h;subst h;exact r.weak.trunc (.p _)
 | ptr b off =>
  simp only [AV.out] at h;split at h
  · rename_i hb;cases h;exact r.trunc (.ptr _ _ hb)
  · cases h
 | ref b off len sz =>
  simp only [AV.out] at h;split at h
  · rename_i hb;cases h;exact r.trunc (.ref _ _ _ _ hb)
  · cases h
 | vr b len sz =>
  simp only [AV.out] at h;split at h
  · rename_i hb;cases h;exact r.trunc (.vr _ _ _ hb)
  · cases h
 | mp b =>
  simp only [AV.out] at h;split at h
  · rename_i hb;cases h;exact r.trunc (.mp _ hb)
  · cases h
 | tup xs =>
  simp only [AV.out] at h;split at h
  case h_2=>cases h
  rename_i ps hps;cases h
  obtain⟨hl,hg⟩:=pvs?_get hps
  cases r with | tup vs hvl hv =>
  refine .tup vs (by simp [hl,hvl]) fun i y v hy hv' => ?_
  simp only [List.getElem?_map,Option.map_eq_some_iff] at hy
  obtain⟨p,hp,rfl⟩:=hy
  obtain⟨a,ha,hap⟩:=hg i p hp
  exact RelV.trunc (.p (AV.pv?_rel hap (hv i a v ha hv')).weak) (.p _)
 | _=>simp [AV.out] at h

theorem zeW {P:Program} {G:Globs} {σ:Gh} : ∀ (ms:List Nat) (fr:Frame) (cs:List Frame) (w:World) {m:Nat},fr.mode = .returning → fr.defers=ms.map mark → ms.Nodup → (∀ r∈ms,m≤r∧w.heap[r]? = some (.deferred (some []))∧Free σ H r) → Rel G σ H w →
 ∃ w',Steps P (lone fr cs w) (lone { fr with defers:=[] } cs w')∧Rel G σ H w'∧(∀ n0,n0≤H.n → EvM n0 m σ H w σ H w')
 | [],fr,cs,w,m,hm,hd,_,_,hr=>⟨w,by
  have : { fr with defers:=[] }=fr:=by cases fr;simp only at hd;subst hd;rfl
  rw [this];exact .refl _ _,hr,fun n0 hn=>Ev.refl hn⟩
 | r :: ms,fr,cs,w,m,hm,hd,hnd,hms,hr=>by
  obtain⟨h1,h2,h3⟩:=hms r (by simp)
  have hlt:r < w.heap.size:=(Array.getElem?_eq_some_iff.1 h2).1
  have hother : ∀ g,g≠r → (w.putObj r (.deferred none)).heap[g]? = w.heap[g]? := fun g hg=>World.putObj_heap_other hg
  have hev : ∀ n0,n0≤H.n → EvM n0 m σ H w σ H (w.putObj r (.deferred none)):=fun n0 hn=>by
   refine⟨fun g o v q1 q2=>⟨q1,?_⟩,fun _ _=>rfl,hn,fun _ _ k d hk=>⟨k,d,hk,Nat.le_refl _,fun _=>rfl⟩,by simp,fun g hg hf=>⟨hother g (by omega),hf⟩,rfl,rfl⟩
   by_cases hgr:g=r
   · subst hgr;simp [World.cell?,h2] at q2
   · simpa [World.cell?,hother g hgr] using q2
  have hrel:Rel G σ H (w.putObj r (.deferred none)):=by
   have hev:=hev H.n (Nat.le_refl _)
   refine⟨fun b cs h => ?_,fun b k d g o s h ht => ?_,hr.vec_keep hev (fun _ _ _ h=>⟨h,rfl⟩) (fun b k cs g o s _ h ht=>hother g (fun hg=>h3.2 b k _ o s h (hg ▸ ht))),hr.cc,hr.ct,hr.tt,fun g sz xs h=>(hr.glob g sz xs h).mono hev,fun b vs S h => ?_,hr.oo,fun g m h=>(hr.gm g m h).of (hother g (fun e=>by obtain⟨⟨es,cl,q,_⟩,_⟩:=hr.gm g m h;rw [e,h2] at q;cases q)) (hr.gm g m h).2.1 fun x v _ q=>q.mono hev,fun g sz xs h=>(hr.z g sz xs h).of (hother g (fun e=>by obtain⟨⟨c,e',q⟩,_⟩:=hr.z g sz xs h;rw [e,h2] at q;cases q)) (hr.z g sz xs h).2.1 fun q=>q.mono hev⟩
   · obtain⟨c,e,p1,p2,p3⟩:=hr.cells b cs h
     exact⟨c,e,(hother _ (h3.1 b cs h)).trans p1,p2,fun i x hx=>let ⟨v,a,b⟩:=p3 i x hx;⟨v,a,b.mono hev⟩⟩
   · obtain⟨c,e,p1,p2⟩:=hr.tail b k d g o s h ht
     exact⟨c,e,(hother g (fun hg=>h3.2 b k d o s h (hg ▸ ht))).trans p1,p2⟩
   · obtain⟨o,us,p1,p2,p3,p4⟩:=hr.objs b vs S h
     exact⟨o,us,(hother _ (h3.3 b vs S h)).trans p1,p2,p3.mono hev,p4⟩
  have hs:=step_collected (P:=P) (fr:=fr) (cs:=cs) (w:=w) (d:=mark r) (r:=r) (ds:=ms.map mark) (by rw [hm];simp) hd rfl (run_takeDeferred h2);have hnd':=List.nodup_cons.1 hnd
  obtain⟨w',q1,q2,q3⟩:=zeW (P:=P) ms { fr with defers:=[]++ms.map mark } cs (w.putObj r (.deferred none)) (m:=m) hm rfl hnd'.2
   (fun g hg=>let ⟨p1,p2,p3⟩:=hms g (by simp [hg]);⟨p1,(hother g (fun e=>hnd'.1 (e ▸ hg))).trans p2,p3⟩) hrel
  exact⟨w',.head hs q1,q2,fun n0 hn=>(hev n0 hn).trans' (q3 n0 hn) (Nat.le_refl _) (Nat.le_refl _) (Nat.le_refl _)⟩

theorem ARun.leave {fn:Func} {x:AV} (hro:C.round=none) (hfn:C.P.funcs[C.fid]? = some fn) {rs:List ResultVar} (hrs:fn.results.toList=rs) (hx:zd0 C.P rs env H=some x) (todo:List Item)
 (hstep : ∀ (b:Frame) (a:Act) cs w,b.roundOf=none → step C.P (lone (b.atR a todo) cs w) = .next (lone { b.atR a todo with mode := .returning } cs w))
 {R:AV → Hp → Prop} (y:AV) (H':Hp) (hR:R y H') (hrel : ∀ σ w v,Rel C.G σ H w → RelV σ H w x v → C.n0≤H.n → ∃ σ',Rel C.G σ' H' w∧RelV σ' H' w y v∧Ev C.n0 σ H w σ' H' w):ARun C todo env H R:=by
 intro σ w a b cs m hb hpre;subst hrs
 have hro':b.roundOf=none:=by rw [hb.ro,hro];rfl
 obtain⟨ms,d1,d2,d3⟩:=hpre.fr.defers
 obtain⟨w1,s1,r1,e1⟩:=zeW (P:=C.P) ms { b.atR a todo with mode := .returning } cs w (m:=m) rfl d1 d2 d3 hpre.rel
 have hf1:RelF C.nt 0 σ H w1 env { a with defers:=[] }:=⟨⟨[],rfl,List.nodup_nil,by simp⟩,hpre.fr.size,fun i=>(hpre.fr.slot i).mono (e1 H.n (Nat.le_refl _))⟩
 obtain⟨v,hv,hxv⟩:=zuy r1 hf1 hx
 obtain⟨σ',q1,q2,q3⟩:=hrel σ w1 v r1 hxv hpre.n0
 refine⟨y,H',σ',v,w1,_,hR,.head (hstep b a cs w hro') s1,?_,q1,q2,(e1 C.n0 hpre.n0).trans' q3 (Nat.le_refl _) (Nat.le_refl _) (Nat.le_trans hpre.m (e1 C.n0 hpre.n0).size)⟩
 unfold Fin;rw [hro]
 exact⟨_,rfl,hb.fn,rfl,rfl,hb.kind,fn,by simpa [Frame.atR,hb.fn] using hfn,hv⟩

theorem ARun.ret {fn:Func} {x y:AV} (hfn:C.P.funcs[C.fid]? = some fn) {rs:List ResultVar} (hrs:fn.results.toList=rs) (hx:zd0 C.P rs env H=some x) (hy:x.out C.n0=some y) (hb:Bel C.n0 H) (hR:R y (H.trunc C.n0)) (hro:C.round=none:=by rfl) :
 ARun C (.code .ret :: k) env H R :=
 .leave hro hfn hrs hx _ (fun _ _ _ _ h=>stepR_ret h) y _ hR fun σ w v h1 h2 _=>let ⟨a,b⟩:=zqK h1 hb;⟨σ,a,AV.out_rel hy h2,b⟩

theorem ARun.retKeep {fn:Func} {x:AV} (hfn:C.P.funcs[C.fid]? = some fn) {rs:List ResultVar} (hrs:fn.results.toList=rs) (hx:zd0 C.P rs env H=some x) (hR:R x H) (hro:C.round=none:=by rfl):ARun C (.code .ret :: k) env H R :=
 .leave hro hfn hrs hx _ (fun _ _ _ _ h=>stepR_ret h) x _ hR fun σ _ _ h1 h2 hn=>⟨σ,h1,h2,Ev.refl hn⟩
end

end Go.AL

namespace Go.AL
open Go


section congr
variable {P:Program} {G:Globs} {env env':Env} {H:Hp}

theorem zg {x:Operand} (h : ∀ t,x = .tmp t → env t=env' t):zY G env x=zY G env' x:=by
 cases x with
 | tmp t=>exact h t rfl
 | _=>rfl

theorem yA {ty:TypeId} {x:Operand} (h : ∀ t,x = .tmp t → env t=env' t):zau P G env ty x=zau P G env' ty x:=by
 cases x with
 | tmp t=>exact h t rfl
 | _=>rfl

theorem zfX {x:Operand} (h : ∀ t,x = .tmp t → env t=env' t):zfT G env x=zfT G env' x:=by
 cases x with
 | tmp t=>exact h t rfl
 | _=>rfl

theorem zmE {ty:TypeId} {x:Operand} (h : ∀ t,x = .tmp t → env t=env' t):zin P G env ty x=zin P G env' ty x:=by
 cases x with
 | tmp t=>exact h t rfl
 | _=>rfl

theorem zcM : ∀ (xs:List Operand) (ts:List TypeId),(∀ x∈xs,∀ t,x = .tmp t → env t=env' t) → yy P G env xs ts=yy P G env' xs ts
 | [],_,_=>rfl
 | x :: xs,[],h=>by simp only [yy];rw [zg (h x (by simp)),zcM xs [] (fun y hy=>h y (by simp [hy]))]
 | x :: xs,t :: ts,h=>by simp only [yy];rw [zmE (h x (by simp)),zcM xs ts (fun y hy=>h y (by simp [hy]))]

theorem zce : ∀ (ps:List (Nat × Operand)),(∀ x∈ps.map (·.2),∀ t,x = .tmp t → env t=env' t) → yM G env ps=yM G env' ps
 | [],_=>rfl
 | (i,x) :: ps,h=>by simp only [yM];rw [zg (h x (by simp)),zce ps (fun y hy=>h y (by simp at hy ⊢;exact .inr hy))]

theorem zcN : ∀ (xs:List Operand),(∀ x∈xs,∀ t,x = .tmp t → env t=env' t) → zaK G env xs=zaK G env' xs
 | [],_=>rfl
 | x :: xs,h=>by simp only [zaK];rw [zg (h x (by simp)),zcN xs (fun y hy=>h y (by simp [hy]))]

theorem zd1 {b:Builtin} {args:List Operand} {ts:List TypeId} (h : ∀ x∈args,∀ t,x = .tmp t → env t=env' t):zO P G env H b args ts=zO P G env' H b args ts:=by
 unfold zO
 split
 · rw [zg (h _ (by simp))]
 · rename_i s x t u;rw [yA (h s (by simp)),yA (h x (by simp))]
 · rename_i d s t u;rw [zg (h d (by simp)),zg (h s (by simp))]
 · rename_i x y;rw [zg (h x (by simp)),zg (h y (by simp))]
 · rename_i x y;rw [zg (h x (by simp)),zg (h y (by simp))]
 · rfl

theorem zir {op:Op} {ty:TypeId} (h : ∀ x∈op.operands,∀ t,x = .tmp t → env t=env' t):zc P G op ty env H=zc P G op ty env' H:=by
 cases op<;>simp only [zc,Op.operands] at * <;> try rfl
 case move x=>rw [yA (h x (by simp))]
 case assign x=>rw [yA (h x (by simp))]
 case box t x=>rw [zg (h x (by simp))]
 case build t parts=>rw [zce _ (fun x hx=>h x (by simpa using hx))]
 case buildSlice t n parts=>rw [zce _ (fun x hx=>h x (by simpa using hx))]
 case load t x=>rw [zg (h x (by simp))]
 case store t x y=>rw [zg (h x (by simp)),yA (h y (by simp))]
 case nilCheck x=>rw [zg (h x (by simp))]
 case binOp op t x y t'=>rw [zfX (h x (by simp)),zfX (h y (by simp))]
 case unOp op t x=>rw [zg (h x (by simp))]
 case convert s d x=>rw [zg (h x (by simp))]
 case makeInterface t x=>rw [zg (h x (by simp))]
 case typeAssert x xt t ok=>rw [zg (h x (by simp))]
 case makeFunc fn first captured =>
  split
  · rw [zcN _ (fun x hx=>h x (by simp at hx ⊢;exact .inl hx)),zcN _ (fun x hx=>h x (by simp at hx ⊢;exact .inr hx))]
  · rfl
 case makeSlice t l c =>
  split
  · rw [zg (h c (by simp)),zg (h _ (by simp))]
  · rw [zg (h c (by simp)),zg (h l (by simp))]
 case slice t x lo hi mx =>
  have e1:zY G env x=zY G env' x:=zg (h x (by simp))
  have e2:lo.map (zY G env)=lo.map (zY G env'):=by
   cases lo with | none=>rfl | some y=>simp only [Option.map_some];rw [zg (h y (by simp))]
  have e3:hi.map (zY G env)=hi.map (zY G env'):=by
   cases hi with | none=>rfl | some y=>simp only [Option.map_some];rw [zg (h y (by simp))]
  have e4:mx.map (zY G env)=mx.map (zY G env'):=by
   cases mx with | none=>rfl | some y=>simp only [Option.map_some];rw [zg (h y (by simp))]
  rw [e1,e2,e3,e4]
 case lookup t x i ok=>rw [zg (h x (by simp)),zg (h i (by simp))]
 case mapUpdate t x i y=>rw [zg (h x (by simp)),zg (h i (by simp)),yA (h y (by simp))]
 case insert t x i y=>rw [zg (h x (by simp)),zg (h i (by simp)),yA (h y (by simp))]
 case fieldAddr s x f=>rw [zg (h x (by simp))]
 case field s x f=>rw [zg (h x (by simp))]
 case indexAddr t x i=>rw [zg (h x (by simp)),zg (h i (by simp))]
 case index t x i=>rw [zg (h x (by simp)),zg (h i (by simp))]
 case extract x i=>rw [zg (h x (by simp))]
 case pick c x y=>rw [zg (h c (by simp)),yA (h x (by simp)),yA (h y (by simp))]
 case call c =>
  obtain⟨callee,args,ts⟩:=c
  cases callee with
  | value f =>
   simp only [Call.operands] at h;simp only [zaL];rw [zg (h f (by simp)),zcM _ _ (fun x hx=>h x (by simp at hx ⊢;exact .inr hx))]
  | builtin b =>
   simp only [Call.operands] at h;exact zd1 (fun x hx=>h x (by simpa using hx))
  | invoke r m=>rfl
end congr


section any
variable {C:Cx} {ops:Array Oper} {q:Nat → Bool} {Q:Env → Hp → Prop}

def opA (C:Cx) (ops:Array Oper) (quiet:Bool) (i:Nat) (K:Env → Hp → Prop) (env:Env) (H:Hp):Prop :=
 match ops[i]? with
 | none=>K env H
 | some o =>
  match zC C.nt ops o.guard env with
  | some true=>if quiet then ∃ x,aOp1 C o env H (fun x' H'=>x'=x∧H'=H)∧K (env.put o.dst x) H else aOp1 C o env H (fun x H'=>K (env.put o.dst x) H')
  | some false=>zv C.nt o.dst=true∧K (env.put o.dst (.tup [])) H
  | none=>False

def zfc (C:Cx) (ops:Array Oper) (q:Nat → Bool) (Q:Env → Hp → Prop):Nat → Array Bool → Env → Hp → Prop
 | 0,listed,env,H=>Region.ready .any ops listed=[]∧Q env H
 | fuel+1,listed,env,H=>(Region.ready .any ops listed=[] → Q env H) ∧
  ∀ i∈Region.ready .any ops listed,opA C ops (q i) i (zfc C ops q Q fuel (listed.setIfInBounds i true)) env H

theorem zaM {quiet:Bool} {i:Nat} {K K':Env → Hp → Prop} {env:Env} {H:Hp} (hk : ∀ env H,K env H → K' env H) (h:opA C ops quiet i K env H):opA C ops quiet i K' env H:=by
 unfold opA at *
 split
 · rename_i ho;simp only [ho] at h;exact hk _ _ h
 · rename_i o ho;simp only [ho] at h
   split
   · rename_i hw;simp only [hw] at h
     split
     · rename_i hq;rw [if_pos hq] at h;obtain⟨x,h1,h2⟩:=h;exact⟨x,h1,hk _ _ h2⟩
     · rename_i hq;rw [if_neg hq] at h;exact sOp.mono h fun x H' hh=>hk _ _ hh
   · rename_i hw;simp only [hw] at h;exact⟨h.1,hk _ _ h.2⟩
   · rename_i hw;simp only [hw] at h

theorem yN {n1 m:Nat} {ro:Option Nat} {R1:Exit → Act → World → Prop} : ∀ (fuel:Nat) (listed:Array Bool) (env:Env) (H:Hp) (σ:Gh) (w:World) (a:Act),zfc C ops q Q fuel listed env H → Rel C.G σ H w → RelF C.nt m σ H w env a → n1≤H.n →
 (∀ env' H' σ' w' a',Q env' H' → Rel C.G σ' H' w' → RelF C.nt m σ' H' w' env' a' → Ev n1 σ H w σ' H' w' → R1 .normal a' w') → wpAnyIn { Fence.wide with round:=ro } 0 C.P .any ops R1 fuel listed a w
 | 0,listed,env,H,σ,w,a,h,hr,hf,hn,hR=>⟨h.1,hR env H σ w a h.2 hr hf (Ev.refl hn)⟩
 | fuel+1,listed,env,H,σ,w,a,h,hr,hf,hn,hR=>by
  refine⟨fun h0=>hR env H σ w a (h.1 h0) hr hf (Ev.refl hn),fun i hi => ?_⟩
  have hi':=h.2 i hi;unfold opA at hi';unfold wpOpIn;split at hi'
  · rename_i ho;simp only [ho];exact yN fuel _ env H σ w a hi' hr hf hn hR
  · rename_i o ho;simp only [ho];split at hi'
    · rename_i hw;rw [if_pos (zcd hw hf rfl)]
      have h1:aOp1 C o env H (fun x H'=>zfc C ops q Q fuel (listed.setIfInBounds i true) (env.put o.dst x) H'):=by
       split at hi'
       · obtain⟨x,h1,h2⟩:=hi'
         exact sOp.mono h1 fun x' H' hh=>by rw [hh.1,hh.2];exact h2
       · exact hi'
      refine h1.wp hr hf fun x v H' σ' w' hk hd hrel hv hev => ?_
      exact yN fuel _ _ H' σ' w' _ hk hrel ((hf.mono hev).put hd hv) (Nat.le_trans hn hev.hn) fun env' H2 σ2 w2 a2 b1 b2 b3 b4=>hR env' H2 σ2 w2 a2 b1 b2 b3 (hev.trans b4 hn)
    · rename_i hw;rw [if_neg (by rw [zcd hw hf rfl];simp)]
      exact⟨fun f _=>trivial,yN fuel _ _ H σ w _ hi'.2 hr (hf.put (zbk hi'.1) (.tup #[] rfl (by simp))) hn hR⟩
    · exact hi'.elim

def YieldsA (C:Cx) (ops:Array Oper) (o:Oper) (env:Env) (H:Hp) (x:AV):Prop :=
 (zC C.nt ops o.guard env=some true∧aOp1 C o env H (fun x' H'=>x'=x∧H'=H)) ∨ (zC C.nt ops o.guard env=some false∧zv C.nt o.dst=true∧x = .tup [])

theorem YieldsA.opA {i:Nat} {o:Oper} {x:AV} {env:Env} {H:Hp} {K:Env → Hp → Prop} (hi:ops[i]? = some o) (hy:YieldsA C ops o env H x) (h:K (env.put o.dst x) H):opA C ops true i K env H:=by
 unfold Go.AL.opA;simp only [hi]
 rcases hy with ⟨hw,h1⟩ | ⟨hw,h1,rfl⟩
 · simp only [hw,if_true];exact⟨x,h1,h⟩
 · simp only [hw];exact⟨h1,h⟩

theorem put_ne {env:Env} {d:Option Nat} {x:AV} {t:Nat} (h : ∀ i,d=some i → i≠t):env.put d x t=env t:=by
 cases d with
 | none=>rfl
 | some i=>simp only [Env.put];rw [if_neg (Ne.symm (h i rfl))]

theorem put_comm {env:Env} {d e:Option Nat} {x y:AV} (h : ∀ i,d=some i → e≠some i):(env.put d x).put e y=(env.put e y).put d x:=by
 cases d with
 | none=>rfl
 | some i =>
  cases e with
  | none=>rfl
  | some j =>
   have:i≠j:=fun hh=>h i rfl (by rw [hh])
   funext t
   simp only [Env.put];by_cases h1:t=j
   · rw [if_pos h1,if_neg (by omega),if_pos h1]
   · rw [if_neg h1];by_cases h2:t=i
     · rw [if_pos h2,if_pos h2]
     · rw [if_neg h2,if_neg h2,if_neg h1]

theorem zaN {o:Oper} {env:Env} {d:Option Nat} {x:AV} (h : ∀ i,d=some i → i ∉ o.looksAt ops):zC C.nt ops o.guard (env.put d x)=zC C.nt ops o.guard env:=by
 unfold zC
 split
 · rfl
 · rename_i j yv hg
   cases hd:(ops[j]?).bind (·.dst) with
   | none=>rfl
   | some t =>
    have:env.put d x t=env t:=put_ne fun i hi heq=>h i hi (by subst heq;simp [Oper.looksAt,hg,hd])
    simp only [this]

theorem zbR {o:Oper} {env:Env} {H:Hp} {d:Option Nat} {x:AV} {K:AV → Hp → Prop} (h : ∀ i,d=some i → i ∉ o.looksAt ops):aOp1 C o (env.put d x) H K ↔ aOp1 C o env H K:=by
 unfold aOp1
 rw [zir (env':=env) fun y hy t ht=>put_ne fun i hi heq=>h i hi (by
  subst heq;subst ht
  exact List.mem_append_left _ (List.mem_filterMap.2 ⟨.tmp i,by simpa using hy,rfl⟩))]

theorem YieldsA.put {o:Oper} {env:Env} {H:Hp} {x y:AV} {d:Option Nat} (h : ∀ i,d=some i → i ∉ o.looksAt ops) (hy:YieldsA C ops o env H x):YieldsA C ops o (env.put d y) H x:=by
 unfold YieldsA at *;rw [zaN h]
 rcases hy with ⟨h1,h2⟩ | h1
 · exact .inl ⟨h1,(zbR h).2 h2⟩
 · exact .inr h1

theorem zis {j:Nat} {oi oj:Oper} {x:AV} {env:Env} {H:Hp} {K:Env → Hp → Prop} (hj:ops[j]? = some oj) (hap:oi.apart ops oj=true) (hy:YieldsA C ops oi env H x) (h:opA C ops true j K (env.put oi.dst x) H) :
 opA C ops true j (fun env' H'=>YieldsA C ops oi env' H' x∧K (env'.put oi.dst x) H') env H:=by
 obtain⟨h1,h2,h3⟩:=Oper.apart_spec hap
 unfold opA at *;simp only [hj] at *;rw [zaN h1] at h
 split
 · rename_i hw;simp only [hw,if_true] at h ⊢
   obtain⟨y,q1,q2⟩:=h
   exact⟨y,(zbR h1).1 q1,hy.put h3,by rw [←put_comm h2];exact q2⟩
 · rename_i hw;simp only [hw] at h
   exact⟨h.1,hy.put h3,by rw [←put_comm h2];exact h.2⟩
 · rename_i hw;simp only [hw] at h

theorem zmF {i:Nat} {oi:Oper} {x:AV} (hi:ops[i]? = some oi) (hqi:q i=true) (Wt:Nat → Prop) (hWt : ∀ j oj,ops[j]? = some oj → Wt j → ∃ e∈oj.after,Region.binds .any e=true∧(e.on=i ∨ Wt e.on)) : ∀ (fuel:Nat) (listed:Array Bool) (env:Env) (H:Hp),
 (∀ j,Wt j → listed.getD j true=false) →
 (∀ j oj,ops[j]? = some oj → j≠i → listed.getD j true=false → ¬Wt j → q j=true∧oi.apart ops oj=true) →
 i∈Region.ready .any ops listed → YieldsA C ops oi env H x → zfc C ops q Q fuel (listed.setIfInBounds i true) (env.put oi.dst x) H → zfc C ops q Q (fuel+1) listed env H:=by
 intro fuel
 induction fuel with
 | zero =>
  intro listed env H _ _ hr hy hh
  refine⟨fun h=>(by rw [h] at hr;cases hr),fun j hj => ?_⟩
  by_cases hji:j=i
  · subst hji;rw [hqi];exact hy.opA hi hh
  · have:=ready_mono hj hji
    rw [hh.1] at this
    cases this
 | succ fuel ih =>
  intro listed env H hun0 hfree hr hy hh
  refine⟨fun h=>(by rw [h] at hr;cases hr),fun j hj => ?_⟩
  by_cases hji:j=i
  · subst hji;rw [hqi];exact hy.opA hi hh
  · have h1:=hh.2 j (ready_mono hj hji)
    obtain⟨hjun,oj,hoj,hall⟩:=mem_ready.1 hj
    have hnot : ∀ e∈oj.after,Region.binds .any e=true → e.on≠i:=fun e he hb heq=>by
     have h1:=hall e he hb;have h0:=(mem_ready.1 hr).1;rw [heq] at h1
     rcases Nat.lt_or_ge i listed.size with h' | h'
     · simp [h'] at h0 h1;rw [h0] at h1;cases h1
     · simp [Array.getElem?_eq_none h'] at h1
    have hnw : ¬Wt j:=fun hw=>by
     obtain⟨e,he,hb,h | h⟩:=hWt j oj hoj hw
     · exact hnot e he hb h
     · have h1:=hall e he hb;have h0:=hun0 _ h
       rcases Nat.lt_or_ge e.on listed.size with h' | h'
       · simp [h'] at h0 h1;rw [h0] at h1;cases h1
       · simp [Array.getElem?_eq_none h'] at h1
    obtain⟨hqj,hap⟩:=hfree j oj hoj hji hjun hnw
    rw [hqj] at h1 ⊢;have h2:=zis hoj hap hy h1
    have hfree' : ∀ k ok,ops[k]? = some ok → k≠i → (listed.setIfInBounds j true).getD k true=false →
     ¬Wt k → q k=true∧oi.apart ops ok=true:=fun k ok hk hki hun hno=>by
     refine hfree k ok hk hki ?_ hno;by_cases hjk:j=k
     · subst hjk;exact hjun
     · rw [getD_set_ne true hjk] at hun;exact hun
    have hun' : ∀ k,Wt k → (listed.setIfInBounds j true).getD k true=false:=fun k hk=>by
     by_cases hjk:j=k
     · subst hjk;exact absurd hk hnw
     · rw [getD_set_ne true hjk];exact hun0 k hk
    refine zaM (fun env' H' h3=>ih (listed.setIfInBounds j true) env' H' hun' hfree' (ready_mono hr (Ne.symm hji)) h3.1 ?_) h2;rw [Array.setIfInBounds_comm _ _ hji];exact h3.2

def yn (ops:Array Oper) (listed:Array Bool) (i:Nat):Nat → Nat → Bool
 | 0,_=>false
 | f+1,j => !listed.getD j true && match ops[j]? with
  | some oj=>oj.after.any fun e=>Region.binds .any e && (e.on == i || yn ops listed i f e.on)
  | none=>false

def zbS (ops:Array Oper) (listed:Array Bool) (i:Nat):List Nat :=
 (List.range ops.size).foldl (fun acc j=>if !listed.getD j true && (match ops[j]? with
  | some oj=>oj.after.any fun e=>Region.binds .any e && (e.on == i || acc.contains e.on)
  | none=>false) then j :: acc else acc) []

theorem zaF {ops:Array Oper} {listed:Array Bool} {i j:Nat} (h:(zbS ops listed i).contains j=true) : ∃ f,yn ops listed i f j=true:=by
 have mono : ∀ f j,yn ops listed i f j=true → yn ops listed i (f+1) j=true:=by
  intro f
  induction f with
  | zero=>intro j h;cases h
  | succ f ih =>
   intro j h;unfold yn at h ⊢;simp only [Bool.and_eq_true] at h ⊢
   refine⟨h.1,?_⟩
   have h2:=h.2;split at h2
   · obtain⟨e,he,hb⟩:=Array.any_eq_true'.1 h2
     simp only [Bool.and_eq_true,Bool.or_eq_true] at hb;exact Array.any_eq_true'.2 ⟨e,he,by simp only [Bool.and_eq_true,Bool.or_eq_true];exact⟨hb.1,hb.2.imp id (ih _)⟩⟩
   · cases h2
 have key : ∀ (l:List Nat) (acc:List Nat),(∀ j∈acc,∃ f,yn ops listed i f j=true) → ∀ j∈l.foldl (fun acc j=>if !listed.getD j true && (match ops[j]? with
  | some oj=>oj.after.any fun e=>Region.binds .any e && (e.on == i || acc.contains e.on)
  | none=>false) then j :: acc else acc) acc,∃ f,yn ops listed i f j=true:=by
  intro l
  induction l with
  | nil=>exact fun acc h=>h
  | cons a l ih =>
   intro acc hacc;rw [List.foldl_cons];refine ih _ ?_
   by_cases hc:(!listed.getD a true && (match ops[a]? with
    | some oj=>oj.after.any fun e=>Region.binds .any e && (e.on == i || acc.contains e.on)
    | none=>false))=true
   · rw [if_pos hc];intro j hj
     rcases List.mem_cons.1 hj with rfl | hj
     · simp only [Bool.and_eq_true] at hc
       obtain⟨h1,h2⟩:=hc
       split at h2
       · rename_i oj hoj
         obtain⟨e,he,hb⟩:=Array.any_eq_true'.1 h2
         simp only [Bool.and_eq_true,Bool.or_eq_true] at hb
         rcases hb.2 with h3 | h3
         · refine⟨1,?_⟩
           unfold yn;simp only [Bool.and_eq_true]
           refine⟨h1,?_⟩
           simp only [hoj];exact Array.any_eq_true'.2 ⟨e,he,by simp only [Bool.and_eq_true,Bool.or_eq_true];exact⟨hb.1,.inl h3⟩⟩
         · obtain⟨f,hf⟩:=hacc e.on (by simpa using h3)
           refine⟨f+1,?_⟩
           unfold yn;simp only [Bool.and_eq_true]
           refine⟨h1,?_⟩
           simp only [hoj];exact Array.any_eq_true'.2 ⟨e,he,by simp only [Bool.and_eq_true,Bool.or_eq_true];exact⟨hb.1,.inr hf⟩⟩
       · cases h2
     · exact hacc j hj
   · rw [if_neg hc];exact hacc
 exact key _ [] (by simp) j (by simpa [zbS] using h)

def zuz (q:Nat → Bool) (ops:Array Oper) (listed:Array Bool) (i:Nat):Bool :=
 match ops[i]? with
 | none=>false
 | some oi=>(List.range ops.size).all fun j=>j == i || listed.getD j true || match ops[j]? with
  | some oj=>oj.after.any (fun e=>Region.binds .any e && e.on == i) || (q j && oi.apart ops oj) || (zbS ops listed i).contains j
  | none=>true

def Waits (ops:Array Oper) (listed:Array Bool) (i j:Nat):Prop := ∃ f,yn ops listed i f j=true

theorem Waits.edge {i j:Nat} {oj:Oper} {listed:Array Bool} (hj:ops[j]? = some oj) (h:Waits ops listed i j) : ∃ e∈oj.after,Region.binds .any e=true∧(e.on=i ∨ Waits ops listed i e.on):=by
 obtain⟨f,h⟩:=h
 cases f with
 | zero=>cases h
 | succ f =>
  simp only [yn,hj,Bool.and_eq_true] at h
  obtain⟨e,he,hb⟩:=Array.any_eq_true'.1 h.2
  simp only [Bool.and_eq_true,Bool.or_eq_true,beq_iff_eq] at hb
  exact⟨e,he,hb.1,hb.2.imp id fun h=>⟨f,h⟩⟩

theorem Waits.unlisted {i j:Nat} {listed:Array Bool} (h:Waits ops listed i j):listed.getD j true=false:=by
 obtain⟨f,h⟩:=h
 cases f with
 | zero=>cases h
 | succ f=>simp only [yn,Bool.and_eq_true,Bool.not_eq_true'] at h;exact h.1

theorem zmG {i:Nat} {oi:Oper} {listed:Array Bool} (hi:ops[i]? = some oi) (h:zuz q ops listed i=true) (j:Nat) (oj:Oper)
 (hj:ops[j]? = some oj) (hne:j≠i) (hun:listed.getD j true=false) (hno : ¬Waits ops listed i j):q j=true∧oi.apart ops oj=true:=by
 simp only [zuz,hi,List.all_eq_true,List.mem_range] at h;have h1:=h j (Array.getElem?_eq_some_iff.1 hj).1;simp only [hj,Bool.or_eq_true,beq_iff_eq,hne,false_or,hun,Bool.false_eq_true,Bool.and_eq_true] at h1
 rcases h1 with (h1 | h1) | h1
 · refine absurd ⟨1,?_⟩ hno
   obtain⟨e,he,hb⟩:=Array.any_eq_true'.1 h1
   simp only [Bool.and_eq_true,beq_iff_eq] at hb;simp only [yn,hun,hj,Bool.not_false,Bool.true_and];exact Array.any_eq_true'.2 ⟨e,he,by simp [hb.1,hb.2]⟩
 · exact h1
 · exact absurd (zaF h1) hno

def zqL (q:Nat → Bool) (ops:Array Oper):Nat → Nat → Array Bool → Bool
 | 0,_,listed=>(Region.ready .any ops listed).isEmpty
 | fuel+1,k,listed=>(Region.ready .any ops listed).contains k && (if q k then zuz q ops listed k else Region.ready .any ops listed == [k]) && zqL q ops fuel (k+1) (listed.setIfInBounds k true)

def zd2 (C:Cx) (ops:Array Oper) (q:Nat → Bool) (Q:Env → Hp → Prop):Nat → List Oper → Env → Hp → Prop
 | _,[],env,H=>Q env H
 | k,_ :: l,env,H=>opA C ops (q k) k (zd2 C ops q Q (k+1) l) env H

theorem zfY : ∀ (l:List Oper) (k:Nat) (listed:Array Bool) (env:Env) (H:Hp),(∀ j,l[j]? = ops[k+j]?) → zqL q ops l.length k listed=true → zd2 C ops q Q k l env H → zfc C ops q Q l.length listed env H
 | [],_,_,_,_,_,hB,h=>⟨by simpa [zqL] using hB,h⟩
 | o :: l,k,listed,env,H,hl,hB,h=>by
  have h0:ops[k]? = some o:=by simpa using (hl 0).symm
  have hl' : ∀ j,l[j]? = ops[k+1+j]? := fun j=>by have:=hl (j+1);simpa [Nat.add_assoc,Nat.add_comm 1 j] using this
  simp only [List.length_cons,zqL,Bool.and_eq_true] at hB
  obtain⟨⟨hr,hf⟩,hB'⟩:=hB
  simp only [zd2] at h;by_cases hq:q k=true
  · rw [if_pos hq] at hf;rw [hq] at h
    have : ∃ x,YieldsA C ops o env H x∧zd2 C ops q Q (k+1) l (env.put o.dst x) H:=by
     unfold opA at h;simp only [h0] at h;split at h
     · rename_i hw;simp only [if_true] at h;obtain⟨x,h1,h2⟩:=h;exact⟨x,.inl ⟨hw,h1⟩,h2⟩
     · rename_i hw;exact⟨.tup [],.inr ⟨hw,h.1,rfl⟩,h.2⟩
     · exact h.elim
    obtain⟨x,hy,hK⟩:=this
    exact zmF h0 hq (Waits ops listed k) (fun j oj hj hw=>hw.edge hj) l.length listed env H (fun j hw=>hw.unlisted) (zmG h0 hf) (by simpa using hr) hy (zfY l (k+1) _ _ _ hl' hB' hK)
  · rw [if_neg hq] at hf
    have hrd:Region.ready .any ops listed=[k]:=by simpa using hf
    refine⟨fun h0=>(by rw [hrd] at h0;cases h0),fun i hi => ?_⟩
    rw [hrd] at hi;simp only [List.mem_singleton] at hi;subst hi;exact zaM (fun env' H' hh=>zfY l (i+1) _ _ _ hl' hB' hh) h
end any

section draw
variable {C:Cx} {k:List Item} {env:Env} {H:Hp} {R:AV → Hp → Prop}


theorem ARun.draw {id:Nat} {l:List Oper} (q:Nat → Bool) (hm:C.P.follows .mixedOrders=true) (hB:zqL q l.toArray l.length 0 (Array.replicate l.length false)=true)
 (h:zd2 C l.toArray q (fun env' H'=>ARun C k env' H' R) 0 l env H):ARun C (.code (.region id l.toArray true) :: k) env H R :=
 .of_wp fun σ w a m hpre=>by
  obtain⟨g1,g2⟩:=zcA hpre.rel
  have:=zfY (C:=C) (ops:=l.toArray) (Q:=fun env' H'=>ARun C k env' H' R) l 0 (Array.replicate l.length false) env H (by simp) hB h
  refine wpIn_region_any hm ?_;rw [List.size_toArray]
  exact yN (m:=m) l.length _ env H σ w.drew a this g1 (hpre.fr.mono g2) (Nat.le_refl _) fun env' H' σ' w' a' b1 b2 b3 b4=>⟨rfl,env',H',σ',b1,hpre.go b2 b3 (g2.trans b4 (Nat.le_refl _)),g2.trans b4 (Nat.le_refl _)⟩
end draw

end Go.AL

namespace Go.AL
open Go

def i64 (n:Int):PV := .s (.int .i64 n)
def bo (b:Bool):PV := .s (.bool b)
@[reducible] def str (s:ByteArray):PV := .s (.string s)
def b8 (x:BitVec 8):PV := .s (.int .u8 x.toNat)
def w16 (x:BitVec 16):PV := .s (.int .u16 x.toNat)
def w32 (x:BitVec 32):PV := .s (.int .u32 x.toNat)
def zl (x:BitVec 64):PV := .s (.int .u64 x.toNat)

theorem zd3 {n:Int} (h1 : -9223372036854775808≤n) (h2:n≤9223372036854775807):IntKind.i64.wrap n=n:=by rw [IntKind.wrap_i64];omega


theorem zjR {w:Nat} (x:BitVec w):BitVec.ofInt w (x.toNat:Int)=x:=by simp


theorem zuA {w:Nat} (x:BitVec w) (n:Nat):(x.toNat:Int).fdiv (2 ^ min n w)=((x >>> n).toNat:Int):=by
 have h:x.toNat / 2 ^ min n w=(x >>> n).toNat:=by
  rw [BitVec.toNat_ushiftRight,Nat.shiftRight_eq_div_pow]
  rcases Nat.le_total n w with h | h
  · rw [Nat.min_eq_left h]
  · rw [Nat.min_eq_right h,Nat.div_eq_of_lt x.isLt,Nat.div_eq_of_lt];exact Nat.lt_of_lt_of_le x.isLt (Nat.pow_le_pow_right (by omega) h)
 rw [Int.fdiv_eq_ediv_of_nonneg _ (Int.pow_nonneg (by decide)),←h]
 norm_cast

theorem zqM (n:Int):(i64 n).cells=[i64 n]:=rfl
theorem zuB (n:Int):(i64 n).weak=i64 n:=rfl
theorem zqN (n:Int):(i64 n).weak1=i64 n:=rfl
theorem zmJ (n:Int):ze (.p (i64 n))=some [.p (i64 n)]:=rfl
theorem zqO (n:Int):(i64 n).isAgg=false:=rfl
theorem zmK (n:Int):zaY false [.p (i64 n)]=some (i64 n):=rfl
theorem zmL (n:Int):(AV.p (i64 n)).isAggV=false:=rfl
theorem zuC (b:Bool):(bo b).cells=[bo b]:=rfl
theorem zyD (b:Bool):(bo b).weak=bo b:=rfl
theorem zuD (b:Bool):(bo b).weak1=bo b:=rfl
theorem zqP (b:Bool):ze (.p (bo b))=some [.p (bo b)]:=rfl
theorem zuE (b:Bool):(bo b).isAgg=false:=rfl
theorem zqQ (b:Bool):zaY false [.p (bo b)]=some (bo b):=rfl
theorem zqR (b:Bool):(AV.p (bo b)).isAggV=false:=rfl
theorem zqS (s:ByteArray):(str s).cells=[str s]:=rfl
theorem zuF (s:ByteArray):(str s).weak=str s:=rfl
theorem zqT (s:ByteArray):(str s).weak1=str s:=rfl
theorem zmM (s:ByteArray):ze (.p (str s))=some [.p (str s)]:=rfl
theorem zqU (s:ByteArray):(str s).isAgg=false:=rfl
theorem zmN (s:ByteArray):zaY false [.p (str s)]=some (str s):=rfl
theorem zmO (s:ByteArray):(AV.p (str s)).isAggV=false:=rfl
theorem zuG (x:BitVec 8):(b8 x).cells=[b8 x]:=rfl
theorem zyE (x:BitVec 8):(b8 x).weak=b8 x:=rfl
theorem zuH (x:BitVec 8):(b8 x).weak1=b8 x:=rfl
theorem zqV (x:BitVec 8):ze (.p (b8 x))=some [.p (b8 x)]:=rfl
theorem zuI (x:BitVec 8):(b8 x).isAgg=false:=rfl
theorem zqW (x:BitVec 8):zaY false [.p (b8 x)]=some (b8 x):=rfl
theorem zqX (x:BitVec 8):(AV.p (b8 x)).isAggV=false:=rfl
theorem zqY (x:BitVec 16):(w16 x).cells=[w16 x]:=rfl
theorem zuJ (x:BitVec 16):(w16 x).weak=w16 x:=rfl
theorem zqZ (x:BitVec 16):(w16 x).weak1=w16 x:=rfl
theorem zmP (x:BitVec 16):ze (.p (w16 x))=some [.p (w16 x)]:=rfl
theorem zq0 (x:BitVec 16):(w16 x).isAgg=false:=rfl
theorem zmQ (x:BitVec 16):zaY false [.p (w16 x)]=some (w16 x):=rfl
theorem zmR (x:BitVec 16):(AV.p (w16 x)).isAggV=false:=rfl
theorem zq1 (x:BitVec 32):(w32 x).cells=[w32 x]:=rfl
theorem zuK (x:BitVec 32):(w32 x).weak=w32 x:=rfl
theorem zq2 (x:BitVec 32):(w32 x).weak1=w32 x:=rfl
theorem zmS (x:BitVec 32):ze (.p (w32 x))=some [.p (w32 x)]:=rfl
theorem zq3 (x:BitVec 32):(w32 x).isAgg=false:=rfl
theorem zmT (x:BitVec 32):zaY false [.p (w32 x)]=some (w32 x):=rfl
theorem zmU (x:BitVec 32):(AV.p (w32 x)).isAggV=false:=rfl
theorem zq4 (x:BitVec 64):(zl x).cells=[zl x]:=rfl
theorem zuL (x:BitVec 64):(zl x).weak=zl x:=rfl
theorem zq5 (x:BitVec 64):(zl x).weak1=zl x:=rfl
theorem zmV (x:BitVec 64):ze (.p (zl x))=some [.p (zl x)]:=rfl
theorem zq6 (x:BitVec 64):(zl x).isAgg=false:=rfl
theorem zmW (x:BitVec 64):zaY false [.p (zl x)]=some (zl x):=rfl
theorem zmX (x:BitVec 64):(AV.p (zl x)).isAggV=false:=rfl
theorem zyF (n:Int):(AV.p (i64 n)).int? = some n:=rfl
theorem zAS (x:BitVec 8):(AV.p (b8 x)).int? = some (x.toNat:Int):=rfl
theorem zyG (x:BitVec 16):(AV.p (w16 x)).int? = some (x.toNat:Int):=rfl
theorem zyH (x:BitVec 32):(AV.p (w32 x)).int? = some (x.toNat:Int):=rfl
theorem zyI (x:BitVec 64):(AV.p (zl x)).int? = some (x.toNat:Int):=rfl
theorem zmY (n:Int):yf (.int .i64 n) = .p (i64 n):=rfl
theorem zq7 (b:Bool):yf (.bool b) = .p (bo b):=rfl
theorem zmZ (s:ByteArray):yf (.string s) = .p (str s):=rfl
theorem zm0 (n:Int) (h0:0≤n) (h1:n < 18446744073709551616):yf (.int .u64 n) = .p (zl (BitVec.ofInt 64 n)):=by
 have:((BitVec.ofInt 64 n).toNat:Int)=n:=by rw [BitVec.toNat_ofInt];simp only [Int.reducePow,Nat.reducePow,Int.cast_ofNat_Int];omega
 unfold yf zl;rw [this]
theorem zjS (P:Program) (t:TypeId) (x y:BitVec 64):zE P .add t (.p (zl x)) (.p (zl y))=some (.p (zl (x+y))):=by
 simp only [zE,zl,yY,zM,zbe,Bool.false_eq_true,if_false,if_true,Option.map_some]
 have h:((x.toNat:Int)+y.toNat) % 18446744073709551616=((x+y).toNat:Int):=by
  rw [BitVec.toNat_add];simp only [Nat.reducePow];omega
 rw [IntKind.wrap_u64,h]
theorem zjT (P:Program) (t:TypeId) (x y:BitVec 64):zE P .sub t (.p (zl x)) (.p (zl y))=some (.p (zl (x - y))):=by
 simp only [zE,zl,yY,zM,zbe,Bool.false_eq_true,if_false,if_true,Option.map_some]
 have h:((x.toNat:Int) - y.toNat) % 18446744073709551616=((x - y).toNat:Int):=by
  rw [BitVec.toNat_sub];have:=x.isLt;have:=y.isLt;simp only [Nat.reducePow] at *;omega
 rw [IntKind.wrap_u64,h]
theorem zjU (P:Program) (t:TypeId) (x y:BitVec 64):zE P .mul t (.p (zl x)) (.p (zl y))=some (.p (zl (x*y))):=by
 simp only [zE,zl,yY,zM,zbe,Bool.false_eq_true,if_false,if_true,Option.map_some]
 have h:((x.toNat:Int)*y.toNat) % 18446744073709551616=((x*y).toNat:Int):=by
  rw [BitVec.toNat_mul,Int.natCast_emod,Int.natCast_mul];rfl
 rw [IntKind.wrap_u64,h]
theorem zjV (P:Program) (t:TypeId) (x y:BitVec 64):zE P .and t (.p (zl x)) (.p (zl y))=some (.p (zl (x &&& y))):=by
 simp only [zE,zl,yY,zM,zbe,Bool.false_eq_true,if_false,if_true,Option.map_some]
 have h:IntKind.u64.wrap (((x &&& y).toNat:Nat):Int)=(((x &&& y).toNat:Nat):Int):=by
  rw [IntKind.wrap_u64];have:=(x &&& y).isLt;simp only [Nat.reducePow] at this;omega
 have h1:BitVec.ofInt IntKind.u64.bits (x.toNat:Int)=x:=zjR x;have h2:BitVec.ofInt IntKind.u64.bits (y.toNat:Int)=y:=zjR y;rw [h1,h2];exact congrArg (fun n=>some (AV.p (PV.s (Value.int IntKind.u64 n)))) h
theorem zjW (P:Program) (t:TypeId) (x y:BitVec 64):zE P .eql t (.p (zl x)) (.p (zl y))=some (.p (bo (x == y))):=by
 simp only [zE,zl,yY,zM,zbe,Bool.false_eq_true,if_false,if_true,Option.map_some]
 have h:((x.toNat:Int) == (y.toNat:Int))=(x == y):=by
  rw [Bool.eq_iff_iff];simp only [beq_iff_eq,Int.ofNat_inj];exact BitVec.toNat_inj
 simp only [bo,bne,h]
theorem zjX (P:Program) (t:TypeId) (x y:BitVec 64):zE P .lss t (.p (zl x)) (.p (zl y))=some (.p (bo (decide (x < y)))):=by
 simp only [zE,zl,yY,zM,zbe,Bool.false_eq_true,if_false,if_true,Option.map_some];simp only [bo,BitVec.lt_def,BitVec.le_def,gt_iff_lt,ge_iff_le,Int.ofNat_lt,Int.ofNat_le]
theorem zjY (P:Program) (t:TypeId) (x y:BitVec 64):zE P .gtr t (.p (zl x)) (.p (zl y))=some (.p (bo (decide (y < x)))):=by
 simp only [zE,zl,yY,zM,zbe,Bool.false_eq_true,if_false,if_true,Option.map_some];simp only [bo,BitVec.lt_def,BitVec.le_def,gt_iff_lt,ge_iff_le,Int.ofNat_lt,Int.ofNat_le]
theorem zjZ (P:Program) (t:TypeId) (x y:BitVec 64):zE P .geq t (.p (zl x)) (.p (zl y))=some (.p (bo (decide (y≤x)))):=by
 simp only [zE,zl,yY,zM,zbe,Bool.false_eq_true,if_false,if_true,Option.map_some];simp only [bo,BitVec.lt_def,BitVec.le_def,gt_iff_lt,ge_iff_le,Int.ofNat_lt,Int.ofNat_le]
theorem zfd (P:Program) (t:TypeId) (x:BitVec 64) (n:Int) (hn:0≤n):zE P .shr t (.p (zl x)) (.p (i64 n))=some (.p (zl (x >>> n.toNat))):=by
 simp only [zE,zl,i64,yY,zM,zdw,if_true];rw [if_neg (by omega)];simp only [Option.map_some]
 have:=zuA x n.toNat
 exact congrArg (fun n=>some (AV.p (PV.s (Value.int IntKind.u64 n)))) this
theorem zfe (P:Program) (t:TypeId) (x:BitVec 64) (y:BitVec 64):zE P .shr t (.p (zl x)) (.p (zl y))=some (.p (zl (x >>> y.toNat))):=by
 simp only [zE,zl,zl,yY,zM,zdw,if_true];rw [if_neg (by omega)];simp only [Option.map_some];rw [Int.toNat_natCast]
 have:=zuA x y.toNat
 exact congrArg (fun n=>some (AV.p (PV.s (Value.int IntKind.u64 n)))) this
theorem zm1 (x:BitVec 64):aUn .neg (.p (zl x))=some (.p (zl (-x))):=by
 simp only [aUn,zl,vUn,Option.map_some]
 have h:IntKind.u64.wrap (0 - (x.toNat:Int))=((-x).toNat:Int):=by
  rw [IntKind.wrap_u64,BitVec.toNat_neg];have:=x.isLt;simp only [Nat.reducePow] at *;omega
 rw [h]
theorem zj0 (P:Program) (t:TypeId) (x y:Int):zE P .add t (.p (i64 x)) (.p (i64 y))=some (.p (i64 (IntKind.i64.wrap (x+y)))):=by simp only [zE,i64,yY,zM,zbe,Bool.false_eq_true,if_false,if_true,Option.map_some,bo,gt_iff_lt,ge_iff_le]
theorem zj1 (P:Program) (t:TypeId) (x y:Int):zE P .sub t (.p (i64 x)) (.p (i64 y))=some (.p (i64 (IntKind.i64.wrap (x - y)))):=by simp only [zE,i64,yY,zM,zbe,Bool.false_eq_true,if_false,if_true,Option.map_some,bo,gt_iff_lt,ge_iff_le]
theorem zj2 (P:Program) (t:TypeId) (x y:Int):zE P .mul t (.p (i64 x)) (.p (i64 y))=some (.p (i64 (IntKind.i64.wrap (x*y)))):=by simp only [zE,i64,yY,zM,zbe,Bool.false_eq_true,if_false,if_true,Option.map_some,bo,gt_iff_lt,ge_iff_le]
theorem zj3 (P:Program) (t:TypeId) (x y:Int):zE P .eql t (.p (i64 x)) (.p (i64 y))=some (.p (bo (x == y))):=by simp only [zE,i64,yY,zM,zbe,Bool.false_eq_true,if_false,if_true,Option.map_some,bo,gt_iff_lt,ge_iff_le]
theorem zj4 (P:Program) (t:TypeId) (x y:Int):zE P .neq t (.p (i64 x)) (.p (i64 y))=some (.p (bo (x != y))):=by simp only [zE,i64,yY,zM,zbe,Bool.false_eq_true,if_false,if_true,Option.map_some,bo,gt_iff_lt,ge_iff_le]
theorem zj5 (P:Program) (t:TypeId) (x y:Int):zE P .lss t (.p (i64 x)) (.p (i64 y))=some (.p (bo (decide (x < y)))):=by simp only [zE,i64,yY,zM,zbe,Bool.false_eq_true,if_false,if_true,Option.map_some,bo,gt_iff_lt,ge_iff_le]
theorem zj6 (P:Program) (t:TypeId) (x y:Int):zE P .leq t (.p (i64 x)) (.p (i64 y))=some (.p (bo (decide (x≤y)))):=by simp only [zE,i64,yY,zM,zbe,Bool.false_eq_true,if_false,if_true,Option.map_some,bo,gt_iff_lt,ge_iff_le]
theorem zj7 (P:Program) (t:TypeId) (x y:Int):zE P .gtr t (.p (i64 x)) (.p (i64 y))=some (.p (bo (decide (y < x)))):=by simp only [zE,i64,yY,zM,zbe,Bool.false_eq_true,if_false,if_true,Option.map_some,bo,gt_iff_lt,ge_iff_le]
theorem zj8 (P:Program) (t:TypeId) (x y:Int):zE P .geq t (.p (i64 x)) (.p (i64 y))=some (.p (bo (decide (y≤x)))):=by simp only [zE,i64,yY,zM,zbe,Bool.false_eq_true,if_false,if_true,Option.map_some,bo,gt_iff_lt,ge_iff_le]
theorem zj9 (P:Program) (t:TypeId) (x y:Int) (hx:0≤x) (hy:0 < y) (hb:x≤9223372036854775807):zE P .quo t (.p (i64 x)) (.p (i64 y))=some (.p (i64 (x / y))):=by
 simp only [zE,i64,yY,zM,zbe,Bool.false_eq_true,if_false,if_true];rw [if_neg (by omega),Int.tdiv_eq_ediv_of_nonneg hx];have h1:x / y≤x:=Int.ediv_le_self _ hx;have h2:0≤x / y:=Int.ediv_nonneg hx (by omega);rw [zd3 (by omega) (by omega),Option.map_some]
theorem zka (P:Program) (t:TypeId) (x y:Int) (hx:0≤x) (hy:0 < y):zE P .rem t (.p (i64 x)) (.p (i64 y))=some (.p (i64 (x % y))):=by
 simp only [zE,i64,yY,zM,zbe,Bool.false_eq_true,if_false,if_true];rw [if_neg (by omega),Int.tmod_eq_emod_of_nonneg hx,Option.map_some]
theorem zkb (P:Program) (t:TypeId) (x y:Int) (hy:0≤y) (h63:y≤63):zE P .shl t (.p (i64 x)) (.p (i64 y))=some (.p (i64 (IntKind.i64.wrap (x*2 ^ y.toNat)))):=by
 have hm:min y.toNat IntKind.i64.bits=y.toNat:=by simp only [IntKind.bits];omega
 simp only [zE,i64,yY,zM,zdw,if_true,hm];rw [if_neg (by omega)];rfl
theorem zkc (P:Program) (t:TypeId) (x y:Int) (hy:0≤y) (h63:y≤63):zE P .shr t (.p (i64 x)) (.p (i64 y))=some (.p (i64 (x / 2 ^ y.toNat))):=by
 have hm:min y.toNat IntKind.i64.bits=y.toNat:=by simp only [IntKind.bits];omega
 simp only [zE,i64,yY,zM,zdw,if_true,hm];rw [if_neg (by omega)];simp only [Option.map_some,Int.fdiv_eq_ediv_of_nonneg _ (Int.pow_nonneg (by decide:(0:Int)≤2))]
theorem zm2 (x:Int):aUn .neg (.p (i64 x))=some (.p (i64 (IntKind.i64.wrap (0 - x)))):=rfl
theorem zq8 (b:Bool):aUn .not (.p (bo b))=some (.p (bo (!b))):=rfl
theorem zkd (P:Program) (t:TypeId) (x y:ByteArray):zE P .eql t (.p (str x)) (.p (str y))=some (.p (bo (x.toList == y.toList))):=rfl
theorem zke (P:Program) (t:TypeId) (x y:ByteArray):zE P .neq t (.p (str x)) (.p (str y))=some (.p (bo (!(x.toList == y.toList)))):=rfl
theorem zm3 (P:Program) (t:TypeId) (x y:Bool) (h:isBool P t=true):zE P .neq t (.p (bo x)) (.p (bo y))=some (.p (bo (!(x == y)))):=by simp only [zE,bo,yY,h,if_true,Option.map_some]

def zdF (P:Program) (t:TypeId):Bool:=match P.underlying t with | some (.int _)=>true | _=>false
theorem zfZ {P:Program} {t:TypeId} (h:zdF P t=true) : ∃ k,P.underlying t=some (.int k):=by
 unfold zdF at h;split at h
 · rename_i k hk;exact⟨k,hk⟩
 · cases h

theorem zit (P:Program) (H:Hp) (s d:TypeId) (x:BitVec 64) (hs:zdF P s=true) (hd:P.underlying d=some (.int .i64)):zdm P H s d (.p (zl x))=some (.p (i64 (IntKind.i64.wrap x.toNat))):=by
 obtain⟨k,hk⟩:=zfZ hs
 simp only [zdm,hk,hd,Option.isSome_some,if_true,zl,zfE,Option.map_some,i64]
theorem ziu (P:Program) (H:Hp) (s d:TypeId) (x:Int) (hs:zdF P s=true) (hd:P.underlying d=some (.int .u64)):zdm P H s d (.p (i64 x))=some (.p (zl (BitVec.ofInt 64 x))):=by
 obtain⟨k,hk⟩:=zfZ hs
 have h:(x % 18446744073709551616)=((BitVec.ofInt 64 x).toNat:Int):=by rw [BitVec.toNat_ofInt];simp only [Nat.reducePow,Int.cast_ofNat_Int];omega
 simp only [zdm,hk,hd,Option.isSome_some,if_true,i64,zfE,Option.map_some,IntKind.wrap_u64,h,zl]
theorem zf0 (x y:Int):zbC false (.p (i64 x)) (.p (i64 y))=some (.p (i64 (min x y))):=rfl
theorem zf1 (x y:Int):zbC true (.p (i64 x)) (.p (i64 y))=some (.p (i64 (max x y))):=rfl

end Go.AL

namespace Go.AL
open Go

def runT (C:Cx) (ops:Array Oper) (r:SRes) (dst:Option Nat) (rest:List Oper) (k:List Item) (env:Env) (H:Hp) (R:AV → Hp → Prop):Prop :=
 match r with
 | .val x H'=>zv C.nt dst=true∧zbQ C ops rest k (env.put dst x) H' R
 | .unit H'=>dst=none∧zbQ C ops rest k (env.put dst .top) H' R
 | .call f args=>zv C.nt dst=true∧CallK C ops f (z8 C.raw f args) dst rest k env H R
 | .yield b args=>zv C.nt dst=true∧YieldK C ops b (args.map AV.weak) dst rest k env H R
 | .fail=>False

section text
variable {C:Cx} {ops:Array Oper} {op:Op} {dst:Option Nat} {rest:List Oper} {k:List Item} {env:Env} {H H':Hp} {R:AV → Hp → Prop} {ty:TypeId} {pos:String} {after:Array Edge} {x:AV} {f:FuncId} {args:List AV} {j:Nat} {yv:Bool}

theorem zuM:zbQ C ops [] k env H R=ARun C k env H R:=rfl
theorem zq9:zbQ C ops (⟨dst,op,ty,pos,after,none⟩ :: rest) k env H R=runT C ops (zc C.P C.G op ty env H) dst rest k env H R:=by
 unfold zbQ runT zyC;simp only [zC]
 try (cases zc C.P C.G op ty env H<;>rfl)
def guarded (C:Cx) (ops:Array Oper) (w:Option Bool) (op:Op) (ty:TypeId) (dst:Option Nat) (rest:List Oper) (k:List Item) (env:Env) (H:Hp) (R:AV → Hp → Prop):Prop :=
 match w with
 | some true=>runT C ops (zc C.P C.G op ty env H) dst rest k env H R
 | some false=>zv C.nt dst=true∧zbQ C ops rest k (env.put dst (.tup [])) H R
 | none=>False
theorem zra:zbQ C ops (⟨dst,op,ty,pos,after,some (j,yv)⟩ :: rest) k env H R=guarded C ops (zC C.nt ops (some (j,yv)) env) op ty dst rest k env H R:=by
 conv=>lhs;unfold zbQ
 unfold guarded zyC;simp only
 cases zC C.nt ops (some (j,yv)) env with
 | none=>rfl
 | some t =>
  cases t
  · rfl
  · simp only [runT];try (cases zc C.P C.G op ty env H<;>rfl)
theorem ziv:guarded C ops (some true) op ty dst rest k env H R=runT C ops (zc C.P C.G op ty env H) dst rest k env H R:=rfl
theorem zg1:guarded C ops (some false) op ty dst rest k env H R=(zv C.nt dst=true∧zbQ C ops rest k (env.put dst (.tup [])) H R):=rfl
theorem zuN:runT C ops (.val x H') dst rest k env H R=(zv C.nt dst=true∧zbQ C ops rest k (env.put dst x) H' R):=rfl
theorem zrb:runT C ops (.unit H') none rest k env H R=zbQ C ops rest k env H' R:=by simp [runT,Env.put]
theorem zrc:runT C ops (.call f args) dst rest k env H R=(zv C.nt dst=true∧CallK C ops f (z8 C.raw f args) dst rest k env H R):=rfl
theorem zm4 {b:Nat}:runT C ops (.yield b args) dst rest k env H R=(zv C.nt dst=true∧YieldK C ops b (args.map AV.weak) dst rest k env H R):=rfl
theorem zm5 {nt d:Nat}:(zv nt (some d)=true)=(d < nt):=by simp [zv]
theorem put_some {d i:Nat}:Env.put env (some d) x i=if i=d then x else env i:=rfl
theorem zkf {i:Nat}:Env.put env none x i=env i:=rfl
end text

def guardOf (nt:Nat) (d:Option Nat) (env:Env) (yv:Bool):Option Bool :=
 match d with
 | some d=>if d < nt then (match env d with | .p (.s (.bool t))=>some (t == yv) | .tup []=>some false | _=>none) else none
 | none=>none
theorem ziw {nt:Nat} {ops:Array Oper} {j:Nat} {yv:Bool} {env:Env}:zC nt ops (some (j,yv)) env=guardOf nt ((ops[j]?).bind (·.dst)) env yv:=rfl
def zm6 (x:AV) (yv:Bool):Option Bool:=match x with | .p (.s (.bool t))=>some (t == yv) | .tup []=>some false | _=>none
theorem zix {nt d:Nat} {env:Env} {yv:Bool}:guardOf nt (some d) env yv=if d < nt then zm6 (env d) yv else none:=rfl
theorem zrd {t yv:Bool}:zm6 (.p (bo t)) yv=some (t == yv):=rfl
theorem zm7 {yv:Bool}:zm6 (.tup []) yv=some false:=rfl

def zcO (C:Cx) (ops:Array Oper) (q:Nat → Bool) (n:Nat) (l:List Oper) (k:List Item) (env:Env) (H:Hp) (R:AV → Hp → Prop):Prop:=zd2 C ops q (fun env' H'=>ARun C k env' H' R) n l env H

section draw
variable {C:Cx} {ops:Array Oper} {q:Nat → Bool} {quiet:Bool} {n:Nat} {op:Op} {dst:Option Nat} {rest:List Oper} {k:List Item} {env:Env} {H H':Hp} {R:AV → Hp → Prop} {ty:TypeId} {pos:String} {after:Array Edge} {x:AV} {f:FuncId} {args:List AV} {j:Nat} {yv:Bool}

theorem zuO {o:Oper} (hn:ops[n]? = some o) (hg:zC C.nt ops o.guard env=some true) {x:AV} {H':Hp} (hr:zc C.P C.G o.op o.type env H = .val x H') (hd:zv C.nt o.dst=true) (hq:q n=true → H'=H)
 (h:zcO C ops q (n+1) rest k (env.put o.dst x) H' R):zcO C ops q n (o :: rest) k env H R:=by
 unfold zcO zd2 opA;simp only [hn,hg]
 cases hqn:q n with
 | true =>
  simp only [if_true]
  have:=hq hqn;subst this
  exact⟨x,by unfold aOp1;rw [hr];exact⟨hd,rfl,rfl⟩,h⟩
 | false =>
  simp only [Bool.false_eq_true,if_false];unfold aOp1;rw [hr]
  exact⟨hd,h⟩
theorem zre {o:Oper} (hn:ops[n]? = some o) (hg:zC C.nt ops o.guard env=some true) {H':Hp} (hr:zc C.P C.G o.op o.type env H = .unit H') (hd:o.dst=none) (hq:q n=false)
 (h:zcO C ops q (n+1) rest k env H' R):zcO C ops q n (o :: rest) k env H R:=by
 unfold zcO zd2 opA;simp only [hn,hg,hq,Bool.false_eq_true,if_false];unfold aOp1;rw [hr]
 exact⟨hd,by rw [hd];exact h⟩
theorem zrf {o:Oper} (hn:ops[n]? = some o) (hg:zC C.nt ops o.guard env=some true) {f:FuncId} {args:List AV} (hr:zc C.P C.G o.op o.type env H = .call f args) (hd:zv C.nt o.dst=true)
 (h:if q n then ∃ x,ACall C.P C.G f (z8 C.raw f args) H (fun x' H'=>x'=x∧H'=H)∧zcO C ops q (n+1) rest k (env.put o.dst x) H R
  else ACall C.P C.G f (z8 C.raw f args) H (fun x H'=>zcO C ops q (n+1) rest k (env.put o.dst x) H' R)):zcO C ops q n (o :: rest) k env H R:=by
 unfold zcO zd2 opA;simp only [hn,hg]
 cases hqn:q n with
 | true =>
  rw [hqn] at h;simp only [if_true] at h ⊢
  obtain⟨x,h2,h3⟩:=h
  exact⟨x,by unfold aOp1;rw [hr];exact⟨hd,h2⟩,h3⟩
 | false =>
  rw [hqn] at h;simp only [Bool.false_eq_true,if_false] at h ⊢;unfold aOp1;rw [hr]
  exact⟨hd,h⟩

theorem zm8 {o:Oper} (hn:ops[n]? = some o) (hg:zC C.nt ops o.guard env=some true) {b:Nat} {args:List AV} (hr:zc C.P C.G o.op o.type env H = .yield b args) (hd:zv C.nt o.dst=true) (hq:q n=false)
 (h:AYield C.P C.G b (args.map AV.weak) H (fun x H'=>zcO C ops q (n+1) rest k (env.put o.dst x) H' R)):zcO C ops q n (o :: rest) k env H R:=by
 unfold zcO zd2 opA;simp only [hn,hg,hq,Bool.false_eq_true,if_false];unfold aOp1;rw [hr]
 exact⟨hd,h⟩
theorem zrg {o:Oper} (hn:ops[n]? = some o) (hg:zC C.nt ops o.guard env=some false) (hd:zv C.nt o.dst=true) (h:zcO C ops q (n+1) rest k (env.put o.dst (.tup [])) H R):zcO C ops q n (o :: rest) k env H R:=by
 unfold zcO zd2 opA;simp only [hn,hg]
 exact⟨hd,h⟩

def zaa (C:Cx) (ops:Array Oper) (q:Nat → Bool):Nat → List Oper → List Item → Env → Hp → (AV → Hp → Prop) → Prop
 | _,[],k,env,H,R=>ARun C k env H R
 | n,o :: rest,k,env,H,R =>
  match zC C.nt ops o.guard env with
  | some true=>(match zc C.P C.G o.op o.type env H with
   | .val x H'=>zv C.nt o.dst=true∧(q n=true → H'=H)∧zaa C ops q (n+1) rest k (env.put o.dst x) H' R
   | .unit H'=>o.dst=none∧q n=false∧zaa C ops q (n+1) rest k env H' R
   | .call f args=>zv C.nt o.dst=true∧if q n then ∃ x,ACall C.P C.G f (z8 C.raw f args) H (fun x' H'=>x'=x∧H'=H)∧zaa C ops q (n+1) rest k (env.put o.dst x) H R
    else ACall C.P C.G f (z8 C.raw f args) H (fun x H'=>zaa C ops q (n+1) rest k (env.put o.dst x) H' R)
   | .yield b args=>zv C.nt o.dst=true∧q n=false∧AYield C.P C.G b (args.map AV.weak) H (fun x H'=>zaa C ops q (n+1) rest k (env.put o.dst x) H' R)
   | .fail=>False)
  | some false=>zv C.nt o.dst=true∧zaa C ops q (n+1) rest k (env.put o.dst (.tup [])) H R
  | none=>False

theorem yj : ∀ {l:List Oper} {n:Nat} {env:Env} {H:Hp},(∀ j,l[j]? = ops[n+j]?) → zaa C ops q n l k env H R → zcO C ops q n l k env H R
 | [],n,env,H,_,h=>h
 | o :: rest,n,env,H,hl,h=>by
  have h0:ops[n]? = some o:=by simpa using (hl 0).symm
  have hl' : ∀ j,rest[j]? = ops[n+1+j]? := fun j=>by have:=hl (j+1);simpa [Nat.add_assoc,Nat.add_comm 1 j] using this
  unfold zaa at h;split at h
  · rename_i hw
    cases hr:zc C.P C.G o.op o.type env H with
    | val x H'=>rw [hr] at h;exact zuO h0 hw hr h.1 h.2.1 (yj hl' h.2.2)
    | unit H'=>rw [hr] at h;exact zre h0 hw hr h.1 h.2.1 (yj hl' h.2.2)
    | call f args =>
     rw [hr] at h;refine zrf h0 hw hr h.1 ?_;have h2:=h.2;split at h2
     · rename_i hq;rw [if_pos hq];obtain⟨x,a,b⟩:=h2;exact⟨x,a,yj hl' b⟩
     · rename_i hq;rw [if_neg hq];exact h2.mono fun x H' b=>yj hl' b
    | yield b args =>
     rw [hr] at h;exact zm8 h0 hw hr h.1 h.2.1 (h.2.2.mono fun x H' b=>yj hl' b)
    | fail=>rw [hr] at h;exact h.elim
  · rename_i hw;exact zrg h0 hw h.1 (yj hl' h.2)
  · exact h.elim

def CallD (C:Cx) (ops:Array Oper) (q:Nat → Bool) (quiet:Bool) (f:FuncId) (args:List AV) (dst:Option Nat) (n:Nat) (rest:List Oper) (k:List Item) (env:Env) (H:Hp) (R:AV → Hp → Prop):Prop :=
 if quiet then ∃ x,ACall C.P C.G f args H (fun x' H'=>x'=x∧H'=H)∧zaa C ops q n rest k (env.put dst x) H R
 else ACall C.P C.G f args H (fun x H'=>zaa C ops q n rest k (env.put dst x) H' R)

def YieldD (C:Cx) (ops:Array Oper) (q:Nat → Bool) (b:Nat) (args:List AV) (dst:Option Nat) (n:Nat) (rest:List Oper) (k:List Item) (env:Env) (H:Hp) (R:AV → Hp → Prop):Prop :=
 AYield C.P C.G b args H (fun x H'=>zaa C ops q n rest k (env.put dst x) H' R)

def zff (C:Cx) (ops:Array Oper) (q:Nat → Bool) (r:SRes) (n:Nat) (dst:Option Nat) (rest:List Oper) (k:List Item) (env:Env) (H:Hp) (R:AV → Hp → Prop):Prop :=
 match r with
 | .val x H'=>zv C.nt dst=true∧(q n=true → H'=H)∧zaa C ops q (n+1) rest k (env.put dst x) H' R
 | .unit H'=>dst=none∧q n=false∧zaa C ops q (n+1) rest k env H' R
 | .call f args=>zv C.nt dst=true∧CallD C ops q (q n) f (z8 C.raw f args) dst (n+1) rest k env H R
 | .yield b args=>zv C.nt dst=true∧q n=false∧YieldD C ops q b (args.map AV.weak) dst (n+1) rest k env H R
 | .fail=>False

theorem zuP:zaa C ops q n [] k env H R=ARun C k env H R:=rfl
theorem zrh:zaa C ops q n (⟨dst,op,ty,pos,after,none⟩ :: rest) k env H R=zff C ops q (zc C.P C.G op ty env H) n dst rest k env H R:=by
 conv=>lhs;unfold zaa
 simp only [zC];unfold zff CallD YieldD
 cases zc C.P C.G op ty env H<;>rfl
def zd4 (C:Cx) (ops:Array Oper) (q:Nat → Bool) (w:Option Bool) (op:Op) (ty:TypeId) (n:Nat) (dst:Option Nat) (rest:List Oper) (k:List Item) (env:Env) (H:Hp) (R:AV → Hp → Prop):Prop :=
 match w with
 | some true=>zff C ops q (zc C.P C.G op ty env H) n dst rest k env H R
 | some false=>zv C.nt dst=true∧zaa C ops q (n+1) rest k (env.put dst (.tup [])) H R
 | none=>False
theorem zri:zaa C ops q n (⟨dst,op,ty,pos,after,some (j,yv)⟩ :: rest) k env H R=zd4 C ops q (zC C.nt ops (some (j,yv)) env) op ty n dst rest k env H R:=by
 conv=>lhs;unfold zaa
 unfold zd4 zff CallD YieldD
 cases zC C.nt ops (some (j,yv)) env with
 | none=>rfl
 | some b=>cases b<;>cases zc C.P C.G op ty env H<;>rfl
theorem zg2:zd4 C ops q (some true) op ty n dst rest k env H R=zff C ops q (zc C.P C.G op ty env H) n dst rest k env H R:=rfl
theorem zf2:zd4 C ops q (some false) op ty n dst rest k env H R=(zv C.nt dst=true∧zaa C ops q (n+1) rest k (env.put dst (.tup [])) H R):=rfl
theorem zuQ:zff C ops q (.val x H') n dst rest k env H R=(zv C.nt dst=true∧(q n=true → H'=H)∧zaa C ops q (n+1) rest k (env.put dst x) H' R):=rfl
theorem zrj:zff C ops q (.val x H) n dst rest k env H R=(zv C.nt dst=true∧zaa C ops q (n+1) rest k (env.put dst x) H R):=by simp [zff]
theorem zrk:zff C ops q (.unit H') n none rest k env H R=(q n=false∧zaa C ops q (n+1) rest k env H' R):=by simp [zff]
theorem zrl:zff C ops q (.call f args) n dst rest k env H R=(zv C.nt dst=true∧CallD C ops q (q n) f (z8 C.raw f args) dst (n+1) rest k env H R):=rfl

theorem zm9 {b:Nat}:zff C ops q (.yield b args) n dst rest k env H R=(zv C.nt dst=true∧q n=false∧YieldD C ops q b (args.map AV.weak) dst (n+1) rest k env H R):=rfl

theorem YieldD.of {b:Nat} {args':List AV} {r:AV} {H':Hp} (h : ∀ R:AV → Hp → Prop,R r H' → AYield C.P C.G b args' H R) (hk:zaa C ops q n rest k (env.put dst r) H' R):YieldD C ops q b args' dst n rest k env H R :=
 h _ hk

theorem CallD.still {args':List AV} {r:AV} (h : ∀ R:AV → Hp → Prop,R r H → ACall C.P C.G f args' H R) (hk:zaa C ops q n rest k (env.put dst r) H R):CallD C ops q true f args' dst n rest k env H R:=by
 unfold CallD;rw [if_pos rfl]
 exact⟨r,h _ ⟨rfl,rfl⟩,hk⟩
theorem CallD.moves {args':List AV} {S:AV → Hp → Prop} (h:ACall C.P C.G f args' H S) (hk : ∀ r H',S r H' → zaa C ops q n rest k (env.put dst r) H' R):CallD C ops q false f args' dst n rest k env H R:=by
 unfold CallD;rw [if_neg (by simp)];exact h.mono hk

def zcf (loud:List Nat) (n:Nat):Bool := !loud.contains n

theorem ARun.open {id:Nat} {l:List Oper} (loud:List Nat) (hm:C.P.follows .mixedOrders=true) (hB:zqL (zcf loud) l.toArray l.length 0 (Array.replicate l.length false)=true)
 (h:zaa C l.toArray (zcf loud) 0 l k env H R):ARun C (.code (.region id l.toArray true) :: k) env H R :=
 .draw (zcf loud) hm hB (yj (by simp) h)
end draw

theorem zna {n:Nat}:zcf [] n=true:=rfl
theorem zkg {m n:Nat} {l:List Nat}:zcf (m :: l) n=(!(n == m) && zcf l n):=by
 unfold zcf;rw [List.contains_cons]
 cases (n == m)<;>simp

section branch
variable {C:Cx} {k:List Item} {env:Env} {H:Hp} {R:AV → Hp → Prop} {x y:Code} {t:Nat}
theorem ARun.ifT (hc:env t = .p (bo true)) (h:ARun C (.code x :: k) env H R):ARun C (.code (.cond (.tmp t) x y) :: k) env H R:=ARun.cond (t:=true) hc h
theorem ARun.ifF (hc:env t = .p (bo false)) (h:ARun C (.code y :: k) env H R):ARun C (.code (.cond (.tmp t) x y) :: k) env H R:=ARun.cond (t:=false) hc h
theorem ARun.ifB {b:Bool} (hc:env t = .p (bo b)) (h1:b=true → ARun C (.code x :: k) env H R) (h2:b=false → ARun C (.code y :: k) env H R):ARun C (.code (.cond (.tmp t) x y) :: k) env H R:=by
 cases b
 · exact .ifF hc (h2 rfl)
 · exact .ifT hc (h1 rfl)
end branch

theorem zuR {a b:Int} (h:a < b):decide (a < b)=true:=decide_eq_true h
theorem zuS {a b:Int} (h:b≤a):decide (a < b)=false:=decide_eq_false (by omega)
theorem zuT {a b:Int} (h:a≤b):decide (a≤b)=true:=decide_eq_true h
theorem zuU {a b:Int} (h:b < a):decide (a≤b)=false:=decide_eq_false (by omega)
theorem zCE {a b:Int} (h:a=b):(a == b)=true:=by simp [h]
theorem zCF {a b:Int} (h:a≠b):(a == b)=false:=by simp [h]
theorem zCG {a b:Int} (h:a≠b):(a != b)=true:=by simp [h]
theorem zCH {a b:Int} (h:a=b):(a != b)=false:=by simp [h]

section heaps
variable {H:Hp} {x y:AB} {b c:Nat}
theorem n_new':(H.new x).n=H.n+1:=by rw [Hp.n_new]
theorem n_set':(H.set b x).n=H.n:=by rw [Hp.n_set]
theorem zu (h:b=H.n):(H.new x).f b=some x:=by simp [Hp.f_new,h]
theorem zb (h:b≠H.n):(H.new x).f b=H.f b:=by simp [Hp.f_new,h]
theorem zN (h:c=b) (hb:b < H.n):(H.set b x).f c=some x:=by simp [Hp.f_set,h,hb]
theorem f_set_ne' (h:c≠b):(H.set b x).f c=H.f c:=by simp [Hp.f_set,h]
theorem znb (h:b=H.n):(H.new x).set b y=H.new y:=by subst h;exact Hp.set_new_self H x y
theorem zf3 (h:b < H.n):(H.new x).set b y=(H.set b y).new x:=Hp.set_new_old H x y b h
theorem trunc_new' (h:b≤H.n):(H.new x).trunc b=H.trunc b:=Hp.trunc_new H x b h
theorem trunc_set' (h:b≤c):(H.set c x).trunc b=H.trunc b:=Hp.trunc_set H x c b h
theorem zuV (h:b=H.n):H.trunc b=H:=by subst h;exact Hp.trunc_self H
end heaps

def zpw (P:Program) (d:Option TypeDesc) (x:AV) (ix:Option Int):Option AV :=
 match ix with
 | some n =>
  match d,x with
  | some (.array len e),x=>if 0≤n∧n.toNat < len∧0 < P.cellsOf e∧x.isAggV then zfH P e x (n.toNat*P.cellsOf e) else none
  | some .string,.p (.s (.string s))=>if 0≤n then (s[n.toNat]?).map fun b => .p (.s (.int .u8 b.toNat)) else none
  | _,_=>none
 | none=>none
theorem zrm {P:Program} {t:TypeId} {x ix:AV}:y9 P t x ix=zpw P (P.underlying t) x ix.int? := rfl
theorem zkh {P:Program} {len:Nat} {e:TypeId} {x:AV} {n:Int}:zpw P (some (.array len e)) x (some n)=if 0≤n∧n.toNat < len∧0 < P.cellsOf e∧x.isAggV then zfH P e x (n.toNat*P.cellsOf e) else none:=rfl

section steps
variable {P:Program} {G:Globs} {ty:TypeId} {env:Env} {H:Hp} {x y z:Operand}
theorem zrn:zc P G (.move x) ty env H = .val (zau P G env ty x) H:=rfl
theorem zki:zc P G (.assign x) ty env H = .val (zau P G env ty x) H:=rfl
def zkj (ps:Option (List PV)) (H:Hp):SRes:=match ps with | some ps => .val (.ptr H.n 0) (H.new (.cells (ps.map .p))) | none => .fail
theorem znc {t:TypeId}:zc P G (.alloc t) ty env H=zkj (zL P t) H:=rfl
theorem zg3 {ps:List PV}:zkj (some ps) H = .val (.ptr H.n 0) (H.new (.cells (ps.map .p))):=rfl
def zuW (cs:Option (List AV)) (H:Hp):SRes:=match cs with | some cs => .val (.ptr H.n 0) (H.new (.cells cs)) | none => .fail
theorem zuX {t:TypeId}:zc P G (.box t x) ty env H=zuW (ze (zY G env x)) H:=rfl
theorem zkk {cs:List AV}:zuW (some cs) H = .val (.ptr H.n 0) (H.new (.cells cs)):=rfl
theorem znd {t:TypeId} {ps:Array (Nat × Operand)}:zc P G (.build t ps) ty env H=vH (zZ P t (yM G env ps.toList)) H:=rfl
theorem zfg {t:TypeId} {n:Nat} {ps:Array (Nat × Operand)}:zc P G (.buildSlice t n ps) ty env H=vHH (zae P H t n (yM G env ps.toList)):=rfl
theorem zro {t:TypeId}:zc P G (.load t x) ty env H=vH (zbB P H t (zfO H (zY G env x))) H:=rfl
theorem zne {t:TypeId}:zc P G (.store t x y) ty env H=uH (zew P H t (zY G env x) (zau P G env t y)):=rfl
theorem zg4:zc P G (.nilCheck x) ty env H=vH (zqJ (zY G env x)) H:=rfl
theorem znf {op:BinOp} {t t':TypeId}:zc P G (.binOp op t x y t') ty env H=vH (zE P op t (zfT G env x) (zfT G env y)) H:=rfl
theorem zrp {op:UnOp} {t:TypeId}:zc P G (.unOp op t x) ty env H=vH (aUn op (zY G env x)) H:=rfl
theorem ziy {s d:TypeId}:zc P G (.convert s d x) ty env H=vH (zdm P H s d (zY G env x)) H:=rfl
def zuY (i:Bool) (t:TypeId) (x:AV) (H:Hp):SRes:=match x with | .p (.s v)=>if i then .fail else .val (.p (.s (.iface t v))) H | _ => .fail
theorem zdG {t:TypeId}:zc P G (.makeInterface t x) ty env H=zuY (isIface P t) t (zY G env x) H:=rfl
theorem zfh {xt t:TypeId} {ok:Bool}:zc P G (.typeAssert x xt t ok) ty env H=vH (zft P t ok (zY G env x)) H:=rfl
theorem zg5 {f:FuncId} {a c:Array Operand}:zc P G (.makeFunc (.func f) a c) ty env H = .val (.clo f (zaK G env a.toList) (zaK G env c.toList)) H:=rfl
theorem zfi {t:TypeId} {k:IntKind}:zc P G (.makeSlice t (.const (.int k 0)) y) ty env H=vHH (zcH P H t (zY G env (.const (.int k 0))) (zY G env y)):=rfl
theorem zf4 {t:TypeId} {n:Nat}:zc P G (.makeSlice t (.tmp n) y) ty env H=vHH (zdX P H t (env n) (zY G env y)):=rfl
theorem zng {t:TypeId} {lo hi mx:Option Operand}:zc P G (.slice t x lo hi mx) ty env H=vH (zfL P t (zY G env x) (lo.map (zY G env)) (hi.map (zY G env)) (mx.map (zY G env))) H:=rfl
theorem zf5 {s:TypeId} {f:Nat}:zc P G (.fieldAddr s x f) ty env H=vH (zbg P s (zY G env x) f) H:=rfl
theorem zuZ {b off:Nat}:zfO H (.ptr b off) = .ptr b off:=rfl
theorem zyJ {sz i sub:Nat} {xs:List PV}:zfO H (.ip sz xs i sub) = .ip sz xs i sub:=rfl
theorem zyK {b k off:Nat}:zfO H (.vp b k off) = .vp b k off:=rfl
def zCI (o:Nat) (q:Option (Nat × List PV)):AV:=match q with | some (sz,xs)=>if o < xs.length*sz then .ip sz xs (o / sz) (o % sz) else .top | none => .top
theorem zyL {g o:Nat}:zfO H (.p (ptq g o))=zCI o (H.z g):=rfl
theorem zrq {o sz:Nat} {xs:List PV}:zCI o (some (sz,xs))=if o < xs.length*sz then .ip sz xs (o / sz) (o % sz) else .top:=rfl
theorem zyM {g o:Nat}:zqJ (.p (ptq g o))=some (.p (ptq g o)):=rfl
theorem zrr {g o:Nat}:(ptq g o).cells=[ptq g o]:=rfl
theorem zu0 {g o:Nat}:(ptq g o).weak=ptq g o:=rfl
theorem zrs {g o:Nat}:(ptq g o).weak1=ptq g o:=rfl
theorem zrt {g o:Nat}:(ptq g o).isAgg=false:=rfl
theorem znh {g o:Nat}:(AV.p (ptq g o)).isAggV=false:=rfl
theorem zni {g o:Nat}:ze (.p (ptq g o))=some [.p (ptq g o)]:=rfl
theorem z_new {x:AB}:(H.new x).z=H.z:=rfl
theorem z_set {b:Nat} {x:AB}:(H.set b x).z=H.z:=rfl
theorem znj {t:TypeId} {g o:Nat} (h:zdx P t=true):zE P .eql t (.p (ptq g o)) (.p (.s (.pointer none)))=some (.p (bo false)):=by
 simp only [zE,ptq,ptA,yY,h];rfl
theorem znk {s:TypeId} {f:Nat}:zc P G (.field s x f) ty env H=vH (zfI P s (zY G env x) f) H:=rfl
theorem zf6 {t:TypeId}:zc P G (.indexAddr t x y) ty env H=vH (zbf P t (zY G env x) (zY G env y)) H:=rfl
theorem znl {t:TypeId}:zc P G (.index t x y) ty env H=vH (y9 P t (zY G env x) (zY G env y)) H:=rfl
def zf7 (x:AV) (i:Nat) (H:Hp):SRes:=match x with | .tup xs=>vH xs[i]? H | _ => .fail
theorem ziz {i:Nat}:zc P G (.extract x i) ty env H=zf7 (zY G env x) i H:=rfl
def zpx (b:AV) (x y:AV) (H:Hp):SRes:=match b with | .p (.s (.bool b)) => .val (if b then x else y) H | _ => .fail
theorem zru:zc P G (.pick x y z) ty env H=zpx (zY G env x) (zau P G env ty y) (zau P G env ty z) H:=rfl
theorem znm {b:Bool} {u v:AV}:zpx (.p (bo b)) u v H = .val (if b=true then u else v) H:=rfl
theorem zf8 {xs:List AV} {i:Nat}:zf7 (.tup xs) i H=vH xs[i]? H:=rfl
theorem zrv {f:Operand} {a:Array Operand} {ts:Array TypeId}:zc P G (.call ⟨.value f,a,ts⟩) ty env H=zaL P G env ⟨.value f,a,ts⟩ (zY G env f) H:=rfl
theorem ziA {b:Builtin} {a:Array Operand} {ts:Array TypeId}:zc P G (.call ⟨.builtin b,a,ts⟩) ty env H=zO P G env H b a.toList ts.toList:=rfl
theorem ziB {c:Call} {fn:FuncId} {a b:List AV}:zaL P G env c (.clo fn a b) H=if enters P fn then .call fn (a++yy P G env c.args.toList c.argTypes.toList++b) else zcc P fn (a++yy P G env c.args.toList c.argTypes.toList++b) H:=rfl
theorem zkl {fn:FuncId} {nm:String} {args:List AV} (h:zfs P fn=some nm):zcc P fn args H=vH (zil nm args) H:=by rw [zcc,h]
theorem ziC {c:Call} {b:Nat}:zaL P G env c (.yld b) H = .yield b (yy P G env c.args.toList c.argTypes.toList):=rfl
theorem zu1 {b:Nat}:(AV.yld b).weak = .yld b:=rfl
def lenD (P:Program) (d:Option TypeDesc) (x:AV):Option AV :=
 match d with
 | some .string=>match x with | .p (.s (.string s))=>some (.p (.s (.int .i64 s.size))) | _=>none
 | some (.slice _) =>
  match x with
  | .p (.sl _ _ xs) | .sl _ _ _ xs=>some (.p (.s (.int .i64 xs.length)))
  | .ref _ _ len _=>some (.p (.s (.int .i64 len)))
  | .vr _ len _=>some (.p (.s (.int .i64 len)))
  | _=>none
 | some (.array n _)=>some (.p (.s (.int .i64 n)))
 | some (.pointer a)=>match P.underlying a with | some (.array n _)=>some (.p (.s (.int .i64 n))) | _=>none
 | _=>none
theorem zu2 {s:ByteArray}:lenD P (some .string) (.p (str s))=some (.p (i64 s.size)):=rfl
theorem zAT {e:TypeId} {b:Bool} {z:Nat} {xs:List PV}:lenD P (some (.slice e)) (.p (.sl b z xs))=some (.p (i64 xs.length)):=rfl
theorem zyN {e:TypeId} {a v z:Nat} {xs:List PV}:lenD P (some (.slice e)) (.sl a v z xs)=some (.p (i64 xs.length)):=rfl
theorem zu3 {e:TypeId} {b o l z:Nat}:lenD P (some (.slice e)) (.ref b o l z)=some (.p (i64 l)):=rfl
theorem zyO {e:TypeId} {b l z:Nat}:lenD P (some (.slice e)) (.vr b l z)=some (.p (i64 l)):=rfl
theorem zu4 {n:Nat} {e:TypeId} {x:AV}:lenD P (some (.array n e)) x=some (.p (i64 n)):=rfl
theorem zu5 {a:TypeId} {x:AV}:lenD P (some (.pointer a)) x=match P.underlying a with | some (.array n _)=>some (.p (.s (.int .i64 n))) | _=>none:=rfl
theorem builtin_len {t:TypeId}:zO P G env H .len [x] [t]=vH (lenD P (P.underlying t) (zY G env x)) H:=rfl
theorem builtin_append {t u:TypeId}:zO P G env H .append [x,y] [t,u]=vHH (zdW P H t u (zau P G env t x) (zau P G env u y)):=rfl
theorem builtin_copy {t u:TypeId}:zO P G env H .copy [x,y] [t,u]=vHH (zjE P H t (zY G env x) (zY G env y)):=rfl
theorem builtin_min {ts:List TypeId}:zO P G env H .min [x,y] ts=vH (zbC false (zY G env x) (zY G env y)) H:=rfl
theorem builtin_max {ts:List TypeId}:zO P G env H .max [x,y] ts=vH (zbC true (zY G env x) (zY G env y)) H:=rfl
theorem zyP {v:AV}:vH (some v) H = .val v H:=rfl
theorem zu6 {v:AV} {H':Hp}:vHH (some (v,H')) = .val v H':=rfl
theorem zyQ {H':Hp}:uH (some H') = .unit H':=rfl
theorem zyR {t:Nat}:zY G env (.tmp t)=env t:=rfl
theorem zrw {v:Value}:zY G env (.const v)=yf v:=rfl
theorem zu7 {f:FuncId}:zY G env (.func f) = .clo f [] []:=rfl
def zkm (g:Option (Nat × List PV)):AV:=match g with | some (sz,xs) => .ip sz xs 0 0 | none => .top
theorem znn {g:Nat}:zY G env (.global g)=zkm (G g):=rfl
theorem zno {sz:Nat} {xs:List PV}:zkm (some (sz,xs)) = .ip sz xs 0 0:=rfl
theorem zu8 {t:Nat}:zau P G env ty (.tmp t)=env t:=rfl
theorem znp {v:Value}:zau P G env ty (.const v)=y7 P ty v:=rfl
theorem zrx {f:FuncId}:zau P G env ty (.func f) = .clo f [] []:=rfl
theorem zkn {g:Nat}:zau P G env ty (.global g)=zkm (G g):=rfl
theorem zko {k:IntKind} {n:Int}:y7 P ty (.int k n)=yf (.int k n):=rfl
theorem ziD {b:Bool}:y7 P ty (.bool b)=yf (.bool b):=rfl
theorem zf9 {s:ByteArray}:y7 P ty (.string s)=yf (.string s):=rfl
theorem zfj:y7 P ty .nilFunc = .p (.s .nilFunc):=rfl
def zAx (d:Option TypeDesc) (P:Program):AV:=match d with | some (.slice e) => .p (.sl true (P.cellsOf e) []) | _ => .p (.sl true 0 [])
theorem zkp:y7 P ty (.slice none 0 0)=zAx (P.underlying ty) P:=rfl
theorem zkq {e:TypeId}:zAx (some (.slice e)) P = .p (.sl true (P.cellsOf e) []):=rfl
theorem zry {ts:List TypeId}:yy P G env [] ts=[]:=rfl
theorem znq {xs:List Operand} {t:TypeId} {ts:List TypeId}:yy P G env (x :: xs) (t :: ts)=zin P G env t x :: yy P G env xs ts:=rfl
theorem zu9 {t:Nat}:zfT G env (.tmp t)=env t:=rfl
theorem znr {v:Value}:zfT G env (.const v)=za3 v:=rfl
theorem zrz {f:FuncId}:zfT G env (.func f) = .clo f [] []:=rfl
theorem zkr {g:Nat}:zfT G env (.global g)=zkm (G g):=rfl
theorem zva {t:Nat}:zin P G env ty (.tmp t)=env t:=rfl
theorem zns {v:Value}:zin P G env ty (.const v)=zaE P ty v:=rfl
theorem zrA {f:FuncId}:zin P G env ty (.func f) = .clo f [] []:=rfl
theorem zks {g:Nat}:zin P G env ty (.global g)=zkm (G g):=rfl
theorem zkt {k:IntKind} {n:Int}:za3 (.int k n)=yf (.int k n):=rfl
theorem ziE {b:Bool}:za3 (.bool b)=yf (.bool b):=rfl
theorem zga {s:ByteArray}:za3 (.string s)=yf (.string s):=rfl
theorem zku:za3 (.slice none 0 0) = .p (.s (.slice none 0 0)):=rfl
theorem zkv {k:IntKind} {n:Int}:zaE P ty (.int k n)=yf (.int k n):=rfl
theorem ziF {b:Bool}:zaE P ty (.bool b)=yf (.bool b):=rfl
theorem zgb {s:ByteArray}:zaE P ty (.string s)=yf (.string s):=rfl
theorem zfk:zaE P ty .nilFunc = .p (.s .nilFunc):=rfl
theorem zkw:zaE P ty (.slice none 0 0) = .p (.s (.slice none 0 0)):=rfl
theorem zrB {t:TypeId}:zdx P t=zyv (P.underlying t):=rfl
theorem ziG {e:TypeId}:zyv (some (.pointer e))=true:=rfl
theorem zkx:yf (.pointer none) = .p (.s (.pointer none)):=rfl
theorem ziH:za3 (.pointer none) = .p (.s (.pointer none)):=rfl
theorem ziI:y7 P ty (.pointer none) = .p (.s (.pointer none)):=rfl
theorem ziJ:zaE P ty (.pointer none) = .p (.s (.pointer none)):=rfl
theorem zky {t:TypeId}:zcC P t=zif (P.underlying t):=rfl
theorem ziK {e:TypeId}:zif (some (.slice e))=true:=rfl
theorem ziL {t:TypeId} (h:zdx P t=true):zE P .eql t (.p (.s (.pointer none))) (.p (.s (.pointer none)))=some (.p (bo true)):=by
 simp only [zE,yY,h];rfl
theorem znt:yM G env []=[]:=rfl
theorem zkz {i:Nat} {r:List (Nat × Operand)}:yM G env ((i,x) :: r)=(i,zY G env x) :: yM G env r:=rfl
theorem zrC:zaK G env []=[]:=rfl
theorem znu {r:List Operand}:zaK G env (x :: r)=zY G env x :: zaK G env r:=rfl
theorem zAU {v:PV}:(AV.p v).weak = .p v.weak:=rfl
theorem zyS {a v sz:Nat} {xs:List PV}:(AV.sl a v sz xs).weak = .p (.sl false sz xs):=rfl
theorem zvb {b off len sz:Nat}:(AV.ref b off len sz).weak = .ref b off len sz:=rfl
theorem zyT {b len sz:Nat}:(AV.vr b len sz).weak = .vr b len sz:=rfl
theorem zyU {b k off:Nat}:(AV.vp b k off).weak = .vp b k off:=rfl
theorem vec?_vec {cs:List AV}:(AB.vec cs).vec? = some cs:=rfl
theorem vec?_cells {cs:List AV}:(AB.cells cs).vec? = none:=rfl
theorem vec?_tail {v:Nat}:(AB.tail v).vec? = none:=rfl
theorem zvc {b off:Nat}:(AV.ptr b off).weak = .ptr b off:=rfl
theorem zyV {sz i sub:Nat} {xs:List PV}:(AV.ip sz xs i sub).weak = .ip sz xs i sub:=rfl
theorem zvd {f:FuncId} {a c:List AV}:(AV.clo f a c).weak = .clo f a c:=rfl
theorem zve {fl:Bool} {sz:Nat} {xs:List PV}:(PV.sl fl sz xs).weak = .sl false sz xs:=rfl
theorem zrD {fl:Bool} {sz:Nat} {xs:List PV}:(PV.sl fl sz xs).weak1 = .sl false sz xs:=rfl
theorem zrE {xs:List PV}:(PV.agg xs).weak = .agg (xs.map PV.weak1):=rfl
theorem ziM {f:FuncId} {args:List AV}:z8 [] f args=args.map AV.weak:=rfl
end steps

attribute [go_sem ↓] put_some
attribute [go_sem] zyT zyU vec?_vec vec?_cells vec?_tail
attribute [go_sem] zm4 zm9 ziC zu1 zuM zq9 zra ziv zg1 zuN zrb zrc zm5 zkf ziw zix zrd zuP zrh zri zg2 zf2 zrj zuQ zrk zrl zrn zki znc zg3 zuX zkk znd zfg zro zne zg4 znf zrp ziy zdG zfh zg5 zfi zf4 zng zf5 znk zf6 znl ziz zru znm zf8 zrv ziA ziB builtin_len builtin_append builtin_copy builtin_min builtin_max zyP zu6 zyQ zyR zrw zu7 znn zno zm7 zu9 znr zrz zkr zva zns zrA zks zkt ziE zga zku zkv ziF zgb zfk zkw zuZ zyJ zyK zyL zrq zyM zrr zu0 zrs zrt znh zni z_new z_set znj zrB ziG zkx ziH ziI ziJ ziL zky ziK zu8 znp zrx zkn zko ziD zf9 zfj zkp zkq zry znq znt zkz zrC znu zAU zyS zvb zvc zyV zvd zve zrD zrE ziM





attribute [go_sem] zqM zuB zqN zmJ zqO zmK zmL zuC zyD zuD zqP zuE zqQ zqR zqS zuF zqT zmM zqU zmN zmO zuG zyE zuH zqV zuI zqW zqX zqY zuJ zqZ zmP zq0 zmQ zmR zq1 zuK zq2 zmS zq3 zmT zmU zq4 zuL zq5 zmV zq6 zmW zmX zyF zAS zyG zyH zyI zmY zq7 zmZ zm0 zjS zjT zjU zjV zjW zjX zjY zjZ zfd zfe zm1 zj0 zj1 zj2 zj3 zj4 zj5 zj6 zj7 zj8 zj9 zka zkb zkc zm2 zq8 zkd zke zm3 zit ziu zf0 zf1

theorem znv {P:Program} {e:TypeId} {k:IntKind} {n:Int}:zmr P e (.int k) (.p (i64 n))=(match zL P e with
 | some [p]=>if 0≤n∧n*P.bytesOf e≤140737488355328∧n≤140737488355328∧P.cellsOf e=1∧p.cells.length=1∧p.isAgg=false then some (List.replicate n.toNat p) else none
 | _=>none):=rfl
attribute [go_sem] true_and and_true if_true if_false ite_true ite_false List.getElem?_cons_zero List.getElem?_cons_succ Option.getD_some Option.map_some Option.map_none Option.bind_some ze9 implies_true zna zkg zuR zuS zuT zuU zCE zCF zCG zCH zu zb zN f_set_ne' znb zf3 trunc_new' trunc_set' zuV n_new' n_set' zd3 zbB zew zbf zbg zfI zrm zkh zfH zfL zV zu2 zAT zyN zu3 zyO zu4 zu5 zdX zcH zjE zdW zur znv zhx yU zae zW zaY zqB zqJ List.map_cons List.map_nil List.map_replicate List.length_cons List.length_nil List.length_map List.length_replicate List.length_append List.cons_append List.nil_append List.append_nil List.singleton_append Bool.not_true Bool.not_false Bool.and_true Bool.true_and Bool.and_false Bool.false_and Bool.or_true Bool.true_or Bool.or_false Bool.false_or Bool.false_eq_true Option.isSome_some Option.isSome_none Option.isNone_none Option.isNone_some Nat.add_zero Nat.zero_add Nat.mul_one Nat.one_mul Nat.sub_zero Int.toNat_natCast Int.toNat_zero Int.natCast_nonneg






end Go.AL

namespace Go.AL
open Go

theorem ARun.iter {C:Cx} {k:List Item} {env:Env} {H:Hp} {R:AV → Hp → Prop} {c:Code} {S:Type} (I:S → Env → Hp → Prop) (μ:S → Nat) (s0:S) (h0:I s0 env H)
 (round : ∀ s env H,I s env H → (∀ s' env' H',I s' env' H' → μ s' < μ s → ARun C (.inLoop c :: k) env' H' R) → ARun C (.code c :: .inLoop c :: k) env H R) :
 ARun C (.code (.loop c) :: k) env H R:=by
 have key : ∀ n s env H,μ s=n → I s env H → ARun C (.inLoop c :: k) env H R:=by
  intro n
  induction n using Nat.strongRecOn with
  | _ n ih =>
   intro s env H hn hI;exact .inLoop (round s env H hI fun s' env' H' hI' hlt=>ih (μ s') (hn ▸ hlt) s' env' H' rfl hI')
 exact .loop (key _ s0 env H rfl h0)

theorem ARun.count {C:Cx} {k:List Item} {env:Env} {H:Hp} {R:AV → Hp → Prop} {c:Code} (I:Nat → Env → Hp → Prop) (a n:Nat) (ha:a≤n) (h0:I a env H)
 (last : ∀ env H,I n env H → ARun C (.code c :: .inLoop c :: k) env H R)
 (round : ∀ i env H,a≤i → i < n → I i env H → (∀ env' H',I (i+1) env' H' → ARun C (.inLoop c :: k) env' H' R) → ARun C (.code c :: .inLoop c :: k) env H R) :
 ARun C (.code (.loop c) :: k) env H R :=
 .iter (S:=Nat) (fun i env H=>a≤i∧i≤n∧I i env H) (fun i=>n - i) a ⟨Nat.le_refl _,ha,h0⟩ fun i env H ⟨h1,h2,h3⟩ ih=>by
  by_cases h:i=n
  · subst h;exact last env H h3
  · exact round i env H h1 (by omega) h3 fun env' H' h'=>ih (i+1) env' H' ⟨by omega,by omega,h'⟩ (by omega)

theorem ARun.own {C:Cx} {todo:List Item} {env:Env} {H:Hp} {R:AV → Hp → Prop} (t:Nat) {sz:Nat} {xs:List PV} (ht:env t = .p (.sl true sz xs))
 (h:ARun C todo (env.put (some t) (.sl H.n 0 sz xs)) (H.new (.tail 0)) R):ARun C todo env H R:=by
 intro σ w a b cs m h1 hpre
 obtain⟨hr,hev⟩:=yK hpre.rel (w':=w) (Nat.le_refl _) (fun _ _=>rfl) rfl rfl none (fun _ _ _ hh=>by cases hh)
 have h4:=hpre.fr.mono hev
 have hf:RelF C.nt m (σ.withT H.n none) (H.new (.tail 0)) w (env.put (some t) (.sl H.n 0 sz xs)) a:=by
  refine⟨h4.defers,h4.size,fun i => ?_⟩
  simp only [Env.put];by_cases hi:i=t
  · subst hi;rw [if_pos rfl];have hs:=hpre.fr.slot i;rw [ht] at hs
    generalize a.tmps.getD i undef=v at hs
    cases hs with | p hp =>
    have hp':RelP w (Stable (σ.withT H.n none) (H.new (.tail 0))) (.sl true sz xs) v:=by
     have:=(RelV.p hp).mono hev
     cases this;assumption
    refine .sl ?_ ⟨by simp [Hp.n_new],fun k0 d hk0 => ?_⟩
    · cases hp' with
      | emp _ _ a cap h hc=>exact .emp _ _ a cap (by simp) hc
      | sl _ _ _ g off cap f hfl hcap hsz hrd hc=>exact .sl false _ _ g off cap f (by simp) hcap hsz hrd hc
    · simp [Hp.f_new] at hk0
      refine⟨by omega,fun _ => .inl ?_⟩
      cases hp' with
      | emp _ _ a cap h0 hc=>exact⟨a,0,by rw [h0 rfl],by simp [Gh.withT]⟩
      | sl _ _ _ g off cap f hfl hcap hsz hrd hc=>exact⟨some ⟨g,off,none⟩,xs.length,by rw [hfl rfl],by simp [Gh.withT]⟩
  · rw [if_neg hi];exact h4.slot i
 obtain⟨r,H',σ',v,w',M,q,st,q1,q2,q3,q5⟩:=h _ w a b cs m (h1.mono hpre.n0 hev.c hpre.lt) (hpre.go hr hf hev)
 exact⟨r,H',σ',v,w',M,q,st,q1,q2,q3,hev.transM q5 hpre.n0 hpre.m⟩

def nth {α:Type} [Inhabited α] (l:List α) (i:Nat):α:=(l[i]?).getD default

section nth
variable {α:Type} [Inhabited α]
theorem znw {l:List α} {i j:Nat} {x:α} (h:i=j) (hi:i < l.length):nth (l.set i x) j=x:=by subst h;simp [nth,hi]
theorem zx {x:α} {l:List α}:nth (x :: l) 0=x:=rfl
theorem zI {l m:List α} {i:Nat} (h:i < l.length):nth (l++m) i=nth l i:=by simp [nth,List.getElem?_append_left h]
theorem zA {l m:List α} {i:Nat} (h:l.length≤i):nth (l++m) i=nth m (i - l.length):=by simp [nth,List.getElem?_append_right h]
theorem zpy {β:Type} [Inhabited β] {f:α → β} {l:List α} {i:Nat} (h:i < l.length):nth (l.map f) i=f (nth l i):=by simp [nth,h]
end nth

def pl {α:Type} (f:α → PV) (l:List α):List PV:=l.map f
def cl {α:Type} (f:α → PV) (l:List α):List AV:=l.map fun x => .p (f x)

section rows
variable {α:Type} {f:α → PV} {l m:List α} {i n:Nat} {x:α}
theorem zgc:(pl f l).length=l.length:=by simp [pl]
theorem znx:(cl f l).length=l.length:=by simp [cl]
theorem zAV [Inhabited α] (h:i < l.length):(pl f l)[i]? = some (f (nth l i)):=by simp [pl,nth,h]
theorem zvf [Inhabited α] (h:i < l.length):(cl f l)[i]? = some (.p (f (nth l i))):=by simp [cl,nth,h]
theorem zAW:(cl f l).set i (.p (f x))=cl f (l.set i x):=by simp [cl,List.map_set]
theorem zCJ:(pl f l).map AV.p=cl f l:=by simp [pl,cl]
theorem zpz:(pl f l).take n=pl f (l.take n):=by simp [pl,List.map_take]
theorem zpA:(pl f l).drop n=pl f (l.drop n):=by simp [pl,List.map_drop]
theorem yr:pl f l++pl f m=pl f (l++m):=by simp [pl]
theorem zAX:pl f l++[f x]=pl f (l++[x]):=by simp [pl]
theorem zeA:pl f []=[]:=rfl
theorem pl_replicate:pl f (List.replicate n x)=List.replicate n (f x):=by simp [pl]
theorem cl_replicate:cl f (List.replicate n x)=List.replicate n (.p (f x)):=by simp [cl]
theorem zAY:List.replicate n (AV.p (f x))=cl f (List.replicate n x):=cl_replicate.symm
theorem zAZ:List.replicate n (f x)=pl f (List.replicate n x):=pl_replicate.symm
theorem zny:(pl f l).isEmpty=l.isEmpty:=by cases l<;>rfl
end rows

theorem zA0 (i n:Nat):((i:Int) - (no_index (OfNat.ofNat n):Int)).toNat=i - OfNat.ofNat n:=by show ((i:Int) - (n:Int)).toNat=i - n;omega
theorem zvg {P:Program} {t:Nat} {env:Env} {H:Hp}:zd0 P [.tmp t] env H=some (env t):=rfl
theorem zrF {P:Program} {env:Env} {H:Hp}:zd0 P [] env H=some (.tup []):=rfl
theorem zrG {P:Program} {a:Nat} {t:TypeId} {env:Env} {H:Hp}:zd0 P [.cell a t] env H=zbB P H t (env a):=by
 simp only [zd0,zbD,zdg]
 cases zbB P H t (env a)<;>rfl
theorem zCK {n:Nat} {x:PV}:(AV.p x).out n=some (.p x.weak):=rfl
theorem zA1 {n a v sz:Nat} {xs:List PV}:(AV.sl a v sz xs).out n=some (.p (.sl false sz xs)):=rfl
theorem zvh {n:Nat}:(AV.tup []).out n=some (.tup []):=rfl
theorem zvi:decide True=true:=by simp
theorem zrH:decide False=false:=by simp
theorem zDk {α:Type} {c:Prop} [Decidable c] {x y:α} (h:c):(if c then x else y)=x:=if_pos h
theorem zDl {α:Type} {c:Prop} [Decidable c] {x y:α} (h : ¬c):(if c then x else y)=y:=if_neg h
theorem zam {n:Nat} {H:Hp} {x:AB} (h:Bel n H) (hn:n≤H.n):Bel n (H.new x):=(Bel.new hn).2 h
theorem zaG {n b:Nat} {H:Hp} {x:AB} (h:Bel n H) (hn:n≤b):Bel n (H.set b x):=(Bel.set_hi hn).2 h
theorem znz {α:Type} {f:α → PV} {l:List α} {n b:Nat} {H:Hp} (h:Bel n H):Bel n (H.set b (.cells (cl f l))):=h.set_cells fun x hx=>by
 simp only [cl,List.mem_map] at hx
 obtain⟨a,_,rfl⟩:=hx
 exact .p _
theorem zkA {α:Type} {l:List α} {n:Nat} (h:n≤l.length):(l.take n).length=n:=List.length_take_of_le h
theorem zvj {n:Int}:AV.p (.s (.int .i64 n)) = .p (i64 n):=rfl
theorem zrI {xs:List PV}:(PV.agg xs).cells=xs:=rfl
theorem zrJ {xs:List PV}:(PV.agg xs).isAgg=true:=rfl
theorem isAggV_agg {xs:List PV}:(AV.p (.agg xs)).isAggV=true:=rfl
theorem set_set' {H:Hp} {b:Nat} {x y:AB}:(H.set b x).set b y=H.set b y:=by
 cases H with | mk f n wf z =>
 simp only [Hp.set,Hp.mk.injEq,and_true]
 funext c
 by_cases hc:c=b∧b < n
 · simp [hc]
 · simp [hc]
theorem zyW:pvs? []=some []:=rfl
theorem zvk {x:PV} {xs:List AV}:pvs? (.p x :: xs)=(pvs? xs).map (x :: ·):=by
 simp only [pvs?,AV.pv?]
 cases pvs? xs<;>rfl
theorem zvl {fl:Bool} {sz:Nat} {xs:List PV}:(PV.sl fl sz xs).cells=[.sl fl sz xs]:=rfl
theorem zCL:(false == false)=true:=rfl
theorem zCM:(false == true)=false:=rfl
theorem zCN:(true == false)=false:=rfl
theorem zCO:(true == true)=true:=rfl
theorem zg6:(true=false)=False:=by simp





theorem zrK {cs:List AV} {o:Nat} {x:AV}:setAt cs o [x]=cs.set o x:=rfl
theorem zkB {cs xs:List AV} (h:xs.length=cs.length):setAt cs 0 xs=xs:=by rw [zaH _ _ _ (by omega)];simp [h]
theorem znA {α:Type} {l:List α} {n:Nat} (h:l.length≤n):l.take n=l:=List.take_of_length_le h
theorem zrL {α:Type} {l:List α}:l.drop 0=l:=rfl
theorem zvm (n:Nat):((no_index (OfNat.ofNat n:Nat):Nat):Int)=(OfNat.ofNat n:Int):=rfl
theorem zrM {p:Nat → Option (Nat × Nat)} {cs:List AV}:yg p cs []=some cs:=rfl

attribute [go_sem] zCL zCM zCN zCO zg6 and_self List.getElem?_toArray List.range_zero List.cons.injEq zyW zvk zvl List.all_cons List.all_nil set_set' false_implies true_implies zvj zrI zrJ isAggV_agg true_or or_true false_or or_false false_and and_false not_true_eq_false not_false_eq_true zkA List.length_drop Nat.add_sub_cancel_left
attribute [go_sem] zvi zrH zDk zDl zvg zrF zrG zCK zA1 zvh zrM zrK zkB znA zrL zvm Int.natCast_add Int.natCast_mul znx zgc zvf zAV zAW zCJ zAX yr zpz zpA zAY zAZ List.length_set zny zA0
end Go.AL

namespace Go.AL
open Go

section
variable {C:Cx} {k:List Item} {env:Env} {H:Hp} {R:AV → Hp → Prop} {ops:Array Oper} {rest:List Oper}

theorem AOps.one {o:Oper} (hg:o.guard=none) {x:AV} {H':Hp} (hs:zc C.P C.G o.op o.type env H = .val x H') (hd:zv C.nt o.dst=true) (h:AOps C ops rest k (env.put o.dst x) H' R):AOps C ops (o :: rest) k env H R :=
 .of_op true (by rw [hg];rfl) fun σ w a m hpre K Q hK=>aOp1.wp (K:=fun y H2=>y=x∧H2=H') (by unfold aOp1;rw [hs];exact⟨hd,rfl,rfl⟩) hpre.rel hpre.fr fun y v H2 σ' w' ⟨e1,e2⟩ q1 q2 q3 q4=>by
  subst e1 e2;exact hK _ v _ σ' w' h q1 q2 q3 q4

end
theorem RelV.low {σ σ':Gh} {H H':Hp} {w w':World} {n0 m:Nat} (h:EvM n0 m σ H w σ' H' w') {x:AV} {v:Value} (r:RelV σ H w x v):BelowN n0 x → RelV σ' H' w' x v:=by
 induction r with
 | p hp=>exact fun _ => .p (hp.mono h.cell)
 | sl hp ht =>
  intro hb
  cases hb with | sl _ _ _ _ hb =>
  refine .sl (hp.mono h.cell) ⟨Nat.lt_of_lt_of_le hb h.hn,fun k' d' hk' => ?_⟩
  obtain⟨k0,d0,e0,l0,q0⟩:=h.t _ hb k' d' hk'
  obtain⟨l1,q1⟩:=ht.2 k0 d0 e0
  refine⟨Nat.le_trans l1 l0,fun hkk => ?_⟩
  rw [q0 (by omega)];exact q1 (by omega)
 | ref a h0 _ hcap ha=>intro hb;cases hb with | ref _ _ _ _ hb=>exact .ref a h0 (Nat.lt_of_lt_of_le hb h.hn) hcap (fun hl=>by rw [h.c _ hb];exact ha hl)
 | ptr _=>intro hb;cases hb with | ptr _ _ hb=>rw [←h.c _ hb];exact .ptr (Nat.lt_of_lt_of_le hb h.hn)
 | ip hp hi hs=>exact fun _ => .ip (hp.mono h.cell) hi hs
 | clo fs cs hf hc _ _ ih1 ih2=>intro hb;cases hb with | clo _ _ _ h1 h2=>exact .clo fs cs hf hc (fun i x v a b=>ih1 i x v a b (h1 i x a)) (fun i x v a b=>ih2 i x v a b (h2 i x a))
 | tup vs hl _ ih=>intro hb;cases hb with | tup _ h=>exact .tup vs hl (fun i x v a b=>ih i x v a b (h i x a))
 | agg vs hl h1 _ ih=>intro hb;cases hb with | agg _ h=>exact .agg vs hl h1 (fun i x v a b=>ih i x v a b (h i x a))
 | yld _=>intro hb;cases hb with | yld _ hb=>rw [←h.c _ hb];exact .yld (Nat.lt_of_lt_of_le hb h.hn)
 | mp _=>intro hb;cases hb with | mp _ hb=>rw [←h.c _ hb];exact .mp (Nat.lt_of_lt_of_le hb h.hn)
 | vr q =>
  intro hb
  cases hb with | vr _ _ _ hb =>
  obtain⟨_,a,cap,rfl,q1,q2⟩:=q
  refine .vr ⟨Nat.lt_of_lt_of_le hb h.hn,a,cap,rfl,q1,fun k' d' hk' => ?_⟩
  obtain⟨k0,d0,e0,l0,q0⟩:=h.t _ hb k' d' hk'
  obtain⟨l1,q1⟩:=q2 k0 d0 e0
  refine⟨Nat.le_trans l1 l0,fun hkk => ?_⟩
  rw [q0 (by omega)];exact q1 (by omega)
 | vp a q =>
  intro hb
  cases hb with | vp _ _ _ hb =>
  refine .vp a ⟨Nat.lt_of_lt_of_le hb h.hn,fun k' d' hk' => ?_⟩
  obtain⟨k0,d0,e0,l0,q0⟩:=h.t _ hb k' d' hk'
  obtain⟨l1,q1⟩:=q.2 k0 d0 e0
  refine⟨Nat.le_trans l1 l0,fun hkk => ?_⟩
  rw [q0 (by omega)];exact q1 (by omega)
 | top v=>exact fun _ => .top v

theorem ziN {G:Globs} {σ:Gh} {H:Hp} {w:World} (hr:Rel G σ H w) {n0 α k:Nat} (hb:Bel n0 H) (hα:H.f α=some (.tail k)) (hge:n0≤α) :
 Rel G (σ.withT n0 (σ.t α)) ((H.trunc n0).new (.tail 0)) w∧Ev n0 σ H w (σ.withT n0 (σ.t α)) ((H.trunc n0).new (.tail 0)) w:=by
 have hold : ∀ b,b < n0 → (σ.withT n0 (σ.t α)).t b=σ.t b:=fun b hb=>by simp [Gh.withT,Nat.ne_of_lt hb]
 have hnew:(σ.withT n0 (σ.t α)).t n0=σ.t α:=by simp [Gh.withT]
 have fcells : ∀ b x,((H.trunc n0).new (.tail 0)).f b=some (.cells x) → H.f b=some (.cells x)∧b < n0:=by
  intro b x h;rw [Hp.f_new] at h;split at h
  · cases h
  · rw [Hp.f_trunc] at h;split at h
    · exact⟨h,by assumption⟩
    · cases h
 have ftail : ∀ b k' d,((H.trunc n0).new (.tail 0)).f b=some (.tl k' d) → (b=n0∧k'=0∧d=none) ∨ (H.f b=some (.tl k' d)∧b < n0):=by
  intro b x d h;rw [Hp.f_new] at h;split at h
  · rename_i hh;cases h;exact .inl ⟨hh,rfl,rfl⟩
  · rw [Hp.f_trunc] at h;split at h
    · exact .inr ⟨h,by assumption⟩
    · cases h
 have fobj : ∀ b vs S,((H.trunc n0).new (.tail 0)).f b=some (.obj vs S) → H.f b=some (.obj vs S)∧b < n0:=by
  intro b vs S h;rw [Hp.f_new] at h;split at h
  · cases h
  · rw [Hp.f_trunc] at h;split at h
    · exact⟨h,by assumption⟩
    · cases h
 have hev:Ev n0 σ H w (σ.withT n0 (σ.t α)) ((H.trunc n0).new (.tail 0)) w:=by
  refine⟨fun g o v h1 h2=>⟨⟨fun b x h=>h1.1 b x (fcells _ _ h).1,fun b k' d o' s h ht => ?_⟩,h2⟩,fun _ _=>rfl,by simp [Hp.n_new,Hp.n_trunc],fun b hb k' d hk => ?_,Nat.le_refl _,
   fun g hg hf=>⟨rfl,fun b x h=>hf.1 b x (fcells _ _ h).1,fun b k' d o s h => ?_,fun b vs S h=>hf.3 b vs S (fobj _ _ _ h).1⟩,rfl,rfl⟩
  · rcases ftail b k' d h with ⟨rfl,rfl,rfl⟩ | ⟨h,hlt⟩
    · rw [hnew] at ht;exact h1.2 α k _ o' s hα ht
    · rw [hold b hlt] at ht;exact h1.2 b k' d o' s h ht
  · rcases ftail b k' d hk with ⟨rfl,_⟩ | ⟨h,hlt⟩
    · omega
    · exact⟨k',d,h,Nat.le_refl _,fun _=>hold b hb⟩
  · rcases ftail b k' d h with ⟨rfl,rfl,rfl⟩ | ⟨h,hlt⟩
    · rw [hnew];exact hf.2 α k _ o s hα
    · rw [hold b hlt];exact hf.2 b k' d o s h
 refine⟨⟨fun b x h => ?_,fun b k' d g o s h ht => ?_,fun b k' cs h => ?_,fun b1 b2 x y h1 h2=>hr.cc b1 b2 x y (fcells _ _ h1).1 (fcells _ _ h2).1,fun b1 b2 x k' d g o s h1 h2 ht => ?_,fun b1 b2 k1 d1 k2 d2 g o s o' s' h1 h2 ht ht' => ?_,fun g sz xs h=>(hr.glob g sz xs h).low hev (.ip _ _ _ _),fun b vs S h => ?_,fun b b' vs vs' S S' h h'=>hr.oo b b' vs vs' S S' (fobj _ _ _ h).1 (fobj _ _ _ h').1,fun r m h=>(hr.gm r m h).of rfl (hev.blk r (hr.gm r m h).lt (hr.gm r m h).2.1).2 fun x v hx q=>q.low hev (hx _),fun g sz xs h=>(hr.z g sz xs h).of rfl (hev.blk g (hr.z g sz xs h).lt (hr.z g sz xs h).2.1).2 fun q=>q.low hev (.ip _ _ _ _)⟩,hev⟩
 · obtain⟨h,hlt⟩:=fcells _ _ h
   obtain⟨c,e,q1,q2,q3⟩:=hr.cells b x h
   exact⟨c,e,q1,q2,fun i y hy=>let ⟨v,a,q⟩:=q3 i y hy;⟨v,a,q.1.low hev (hb b _ hlt h y (List.mem_of_getElem? hy)),q.2⟩⟩
 · rcases ftail b k' d h with ⟨rfl,rfl,rfl⟩ | ⟨h,hlt⟩
   · rw [hnew] at ht;exact hr.tail α k _ g o s hα ht
   · rw [hold b hlt] at ht;exact hr.tail b k' d g o s h ht
 · rcases ftail b k' _ h with ⟨rfl,_,hd⟩ | ⟨h,hlt⟩
   · cases hd
   · rw [hold b hlt]
     obtain⟨q0,q1,q2⟩:=hr.vec b k' cs h
     refine⟨q0,q1,fun g o s hg => ?_⟩
     obtain⟨p0,p1,p2⟩:=q2 g o s hg
     exact⟨p0,p1,fun i x hx=>let ⟨v,a,b'⟩:=p2 i x hx;⟨v,a,b'.1.low hev (hb b _ hlt h x (List.mem_of_getElem? hx)),b'.2⟩⟩
 · have h1':=(fcells _ _ h1).1
   rcases ftail b2 k' d h2 with ⟨rfl,rfl,rfl⟩ | ⟨h,hlt⟩
   · rw [hnew] at ht;exact hr.ct b1 α x k _ g o s h1' hα ht
   · rw [hold b2 hlt] at ht;exact hr.ct b1 b2 x k' d g o s h1' h ht
 · rcases ftail b1 k1 d1 h1 with ⟨rfl,rfl,rfl⟩ | ⟨p1,l1⟩<;>rcases ftail b2 k2 d2 h2 with ⟨rfl,rfl,rfl⟩ | ⟨p2,l2⟩
   · rfl
   · rw [hnew] at ht;rw [hold b2 l2] at ht'
     have:=hr.tt α b2 k _ k2 _ g o s o' s' hα p2 ht ht';omega
   · rw [hnew] at ht';rw [hold b1 l1] at ht
     have:=hr.tt b1 α k1 _ k _ g o s o' s' p1 hα ht ht';omega
   · rw [hold b1 l1] at ht;rw [hold b2 l2] at ht';exact hr.tt b1 b2 k1 _ k2 _ g o s o' s' p1 p2 ht ht'
 · obtain⟨h,hlt⟩:=fobj _ _ _ h
   obtain⟨o,us,q1,q2,q3,q4⟩:=hr.objs b vs S h
   exact⟨o,us,q1,q2,⟨q3.1,fun i x v a b'=>(q3.2 i x v a b').low hev (hb b _ hlt h x (List.mem_of_getElem? a))⟩,q4⟩

section ret
variable {C:Cx} {k:List Item} {env:Env} {H:Hp} {R:AV → Hp → Prop}

theorem ARun.retOwn {fn:Func} {α v sz:Nat} {xs:List PV} (hfn:C.P.funcs[C.fid]? = some fn) {rs:List ResultVar} (hrs:fn.results.toList=rs) (hx:zd0 C.P rs env H=some (.sl α v sz xs)) (hα:H.f α=some (.tail v)) (hge:C.n0≤α) (hb:Bel C.n0 H)
 (hR:R (.sl C.n0 0 sz xs) ((H.trunc C.n0).new (.tail 0))) (hro:C.round=none:=by rfl):ARun C (.code .ret :: k) env H R:=by
 refine .leave hro hfn hrs hx _ (fun _ _ _ _ h=>stepR_ret h) _ _ hR fun σ w u h1 h2 _ => ?_
 obtain⟨q1,q3⟩:=ziN h1 hb hα hge
 refine⟨_,q1,?_,q3⟩
 cases h2 with | sl hp ht =>
 refine .sl (hp.mono q3.cell) ⟨by simp [Hp.n_new,Hp.n_trunc],fun k0 d hk0 => ?_⟩
 have e0:k0=0:=by simp [Hp.f_new,Hp.n_trunc] at hk0;omega
 subst e0
 refine⟨Nat.le_refl _,fun _ => ?_⟩
 have:=(ht.2 v _ hα).2 rfl
 simpa [Gh.withT] using this
end ret
end Go.AL

namespace Go.AL
open Go




section states
variable {G:Globs} {σ:Gh} {H:Hp} {w:World}

end states

def zDP (nt:Nat) (env:Env):List AV:=(List.range nt).map env

def zd5:List Nat → List AV → Env → Env
 | p :: ps,x :: xs,e=>zd5 ps xs (e.put (some p) x)
 | _,_,e=>e

def zDm (nt:Nat) (env:Env) (ps:List Nat) (args:List AV):Env:=zd5 ps args fun i=>if i < nt then env i else .tup []



section rounds
variable {C:Cx} {k:List Item} {env:Env} {H:Hp} {R:AV → Hp → Prop} {l:Nat} {vs:List AV} {L:LoopState → Option Code → OS}




end rounds

section stmt
variable {C:Cx} {k:List Item} {env:Env} {H:Hp} {R:AV → Hp → Prop}


theorem RelVs.app {σ:Gh} {H:Hp} {w:World} {xs ys:List AV} {us vs:Array Value} (h1:RelVs σ H w xs us) (h2:RelVs σ H w ys vs):RelVs σ H w (xs++ys) (us++vs):=by
 refine⟨by simp [h1.1,h2.1],fun i x v e1 e2 => ?_⟩
 by_cases hi:i < us.size
 · rw [List.getElem?_append_left (by rw [←h1.1];exact hi)] at e1;rw [Array.getElem?_append_left hi] at e2;exact h1.2 i x v e1 e2
 · rw [List.getElem?_append_right (by rw [←h1.1];omega)] at e1;rw [Array.getElem?_append_right (by omega)] at e2;rw [←h1.1] at e1;exact h2.2 _ x v e1 e2

end stmt

section kinds
variable {fl:Bool} {sz n a v b off len i sub:Nat} {xs:List PV} {f:FuncId} {x y:List AV}
theorem znB:ze (.p (.sl fl sz xs))=some [.p (.sl fl sz xs)]:=rfl
theorem zrN:ze (.sl a v sz xs)=some [.sl a v sz xs]:=rfl
theorem znC:ze (.ref b off len sz)=some [.ref b off len sz]:=rfl
theorem znD:ze (.ptr b off)=some [.ptr b off]:=rfl
theorem zrO:ze (.ip sz xs i sub)=some [.ip sz xs i sub]:=rfl
theorem znE:ze (.clo f x y)=some [.clo f x y]:=rfl
theorem znF:ze (.yld b)=some [.yld b]:=rfl
theorem zvn:(PV.sl fl sz xs).isAgg=false:=rfl
theorem zrP:zaY false [.p (.sl fl sz xs)]=some (.sl fl sz xs):=rfl
end kinds
attribute [go_sem] znB zrN znC znD zrO znE znF zvn zrP



def app (H:Hp) (T:List AB):Hp:=T.foldl Hp.new H

section app
variable {H:Hp} {b c:Nat} {x:AB} {T:List AB}
theorem zyX:app H []=H:=rfl
theorem zaO:app H (x :: T)=app (H.new x) T:=rfl
theorem app_n':(app H T).n=H.n+T.length:=by
 induction T generalizing H with
 | nil=>rfl
 | cons y T ih=>rw [zaO,ih,n_new',List.length_cons];omega
theorem zvo:(app H T).z=H.z:=by
 induction T generalizing H with
 | nil=>rfl
 | cons y T ih=>rw [zaO,ih];rfl
theorem zd6 (h:b < H.n):(app H T).f b=H.f b:=by
 induction T generalizing H with
 | nil=>rfl
 | cons y T ih=>rw [zaO,ih (by rw [n_new'];omega),zb (by omega)]
theorem zpB (h:b < H.n):(app H T).set b x=app (H.set b x) T:=by
 induction T generalizing H with
 | nil=>rfl
 | cons y T ih=>rw [zaO,ih (by rw [n_new'];omega),zf3 h,zaO]
theorem zhG (h:b≤H.n):(app H T).trunc b=H.trunc b:=by
 induction T generalizing H with
 | nil=>rfl
 | cons y T ih=>rw [zaO,ih (by rw [n_new'];omega),trunc_new' h]
theorem yh {S:List AB}:app (app H T) S=app H (T++S):=by simp [app]
end app

def zA2 (nt:Nat) (env:Env):Env:=fun i=>if i < nt then env i else .tup []
theorem zvp {nt:Nat} {env:Env} {ps:List Nat} {args:List AV}:zDm nt env ps args=zd5 ps args (zA2 nt env):=rfl
theorem ziO {p:Nat} {ps:List Nat} {x:AV} {xs:List AV} {e:Env}:zd5 (p :: ps) (x :: xs) e=zd5 ps xs (e.put (some p) x):=rfl
attribute [go_sem] zd6 zpB zhG app_n' zvp ziO

theorem BelowN.mono {n m:Nat} (h:n≤m) {x:AV} (r:BelowN n x):BelowN m x:=by
 induction r with
 | p x=>exact .p x
 | sl a v sz xs h1=>exact .sl _ _ _ _ (by omega)
 | ref b off len sz h1=>exact .ref _ _ _ _ (by omega)
 | ptr b off h1=>exact .ptr _ _ (by omega)
 | ip sz xs i sub=>exact .ip _ _ _ _
 | clo fn a c _ _ ih1 ih2=>exact .clo _ _ _ ih1 ih2
 | tup xs _ ih=>exact .tup _ ih
 | agg xs _ ih=>exact .agg _ ih
 | yld b h1=>exact .yld _ (by omega)
 | mp b h1=>exact .mp _ (by omega)
 | vr b _ _ h1=>exact .vr _ _ _ (by omega)
 | vp b _ _ h1=>exact .vp _ _ _ (by omega)
 | top=>exact .top

section bel
variable {n m b:Nat} {H:Hp} {x:AB} {α:Type} {f:α → PV} {l:List α} {T:List AB}
end bel

end Go.AL

namespace Go.AL
open Go

theorem ARun.ghost {C:Cx} {todo:List Item} {env env':Env} {H H':Hp} {R:AV → Hp → Prop}
 (hg : ∀ σ w a m,Pre C σ H w env a m → ∃ σ',Rel C.G σ' H' w∧(∀ i,RelV σ' H' w (env' i) (a.tmps.getD i undef))∧Ev H.n σ H w σ' H' w) (h:ARun C todo env' H' R):ARun C todo env H R:=by
 intro σ w a b cs m h1 hpre
 obtain⟨σ',hr,hs,hev⟩:=hg σ w a m hpre
 have h4:=hpre.fr.mono hev
 obtain⟨r,H2,σ2,v,w2,M,q,st,q1,q2,q3,q5⟩:=h σ' w a b cs m (h1.mono hpre.n0 hev.c hpre.lt) (hpre.go hr ⟨h4.defers,h4.size,hs⟩ hev)
 exact⟨r,H2,σ2,v,w2,M,q,st,q1,q2,q3,hev.transM q5 hpre.n0 hpre.m⟩

section states
variable {G:Globs} {σ:Gh} {H:Hp} {w:World}

theorem zaP (hr:Rel G σ H w) (b:Nat):Rel G σ (H.set b .dead) w∧Ev H.n σ H w σ (H.set b .dead) w:=by
 have hf : ∀ b' x,x ≠ .dead → (H.set b .dead).f b'=some x → H.f b'=some x:=by
  intro b' x hx h;rw [Hp.f_set] at h;split at h
  · cases h;exact absurd rfl hx
  · exact h
 have fc : ∀ b' x,(H.set b .dead).f b'=some (.cells x) → H.f b'=some (.cells x):=fun b' x h=>hf b' _ (by simp) h
 have ft : ∀ b' k d,(H.set b .dead).f b'=some (.tl k d) → H.f b'=some (.tl k d):=fun b' x d h=>hf b' _ (by simp) h
 have fo : ∀ b' vs S,(H.set b .dead).f b'=some (.obj vs S) → H.f b'=some (.obj vs S):=fun b' x _ h=>hf b' _ (by simp) h
 have hev:Ev H.n σ H w σ (H.set b .dead) w :=
  ⟨fun g o v h1 h2=>⟨⟨fun b' x h=>h1.1 b' x (fc _ _ h),fun b' k d o2 s h=>h1.2 b' k d o2 s (ft _ _ _ h)⟩,h2⟩,fun _ _=>rfl,Nat.le_refl _,fun b' _ k d hk=>⟨k,d,ft b' k d hk,Nat.le_refl _,fun _=>rfl⟩,Nat.le_refl _,
   fun g _ hg=>⟨rfl,fun b' x h=>hg.1 b' x (fc _ _ h),fun b' k d o2 s h=>hg.2 b' k d o2 s (ft _ _ _ h),fun b' vs S h=>hg.3 b' vs S (fo _ _ _ h)⟩,rfl,rfl⟩
 refine⟨⟨fun b' x h => ?_,fun b' k d g o s h ht=>hr.tail b' k d g o s (ft _ _ _ h) ht,hr.vec_keep hev (fun b' k ds h=>⟨ft _ _ _ h,rfl⟩) (fun _ _ _ _ _ _ _ _ _=>rfl),fun b1 b2 x y h1 h2=>hr.cc b1 b2 x y (fc _ _ h1) (fc _ _ h2),fun b1 b2 x k d g o s h1 h2=>hr.ct b1 b2 x k d g o s (fc _ _ h1) (ft _ _ _ h2),
  fun b1 b2 k d k' d' g o s o' s' h1 h2=>hr.tt b1 b2 k d k' d' g o s o' s' (ft _ _ _ h1) (ft _ _ _ h2),hr.glob_mono hev,fun b' vs S h => ?_,fun b1 b2 v1 v2 S1 S2 h1 h2=>hr.oo b1 b2 v1 v2 S1 S2 (fo _ _ _ h1) (fo _ _ _ h2),hr.gm_mono hev,hr.z_mono hev rfl⟩,hev⟩
 · obtain⟨c,e,q1,q2,q3⟩:=hr.cells b' x (fc _ _ h)
   exact⟨c,e,q1,q2,fun i y hy=>let ⟨v,p,q⟩:=q3 i y hy;⟨v,p,q.mono hev⟩⟩
 · obtain⟨o,us,q1,q2,q3,q4⟩:=hr.objs b' vs S (fo _ _ _ h)
   exact⟨o,us,q1,q2,q3.mono hev,q4⟩

theorem zeX (hr:Rel G σ H w) {b:Nat} {cs:List AV} (hb:H.f b=some (.cells cs)) (o:Nat):Stable σ (H.set b .dead) (σ.c b) o:=by
 have hf : ∀ b' x,x ≠ .dead → (H.set b .dead).f b'=some x → b'≠b∧H.f b'=some x:=by
  intro b' x hx h;rw [Hp.f_set] at h;split at h
  · cases h;exact absurd rfl hx
  · rename_i hh
    exact⟨fun e=>hh ⟨e,Hp.lt hb⟩,h⟩
 refine⟨fun b' x h e => ?_,fun b' k d o2 s h ht => ?_⟩
 · obtain⟨h1,h2⟩:=hf b' _ (by simp) h
   exact h1 (hr.cc b' b x cs h2 hb e)
 · obtain⟨h1,h2⟩:=hf b' _ (by simp) h
   exact absurd rfl (hr.ct b b' cs k _ _ o2 s hb h2 ht)

theorem zdH (hr:Rel G σ H w) {b:Nat} {ps:List PV} (hb:H.f b=some (.cells (ps.map .p))) : ∃ f:Nat → Value,∀ k y,ps[k]? = some y →
 Stable σ (H.set b .dead) (σ.c b) k∧w.cell? ⟨σ.c b,k,none⟩=some (f k)∧(f k).oneCell'=true∧RelP w (Stable σ (H.set b .dead)) y (f k):=by
 obtain⟨c,e,q1,q2,q3⟩:=hr.cells b _ hb
 obtain⟨_,hev⟩:=zaP hr b
 refine⟨fun k=>(c[k]?).getD undef,fun k y hy => ?_⟩
 obtain⟨v,p1,p2⟩:=q3 k (.p y) (by simp [hy])
 refine⟨zeX hr hb k,by simp [World.cell?,q1,p1],by simpa [p1] using p2.2,?_⟩
 have:=p2.1.mono hev
 cases this with | p hp=>simpa [p1] using hp
end states

theorem zhH : ∀ {ps:List PV},(∀ y∈ps,y.cells=[y]) → flat ps=ps
 | [],_=>rfl
 | a :: ps,h=>by show a.cells++flat ps=_;rw [h a (by simp),zhH (fun y hy=>h y (by simp [hy]))];rfl

section freeze
variable {C:Cx} {todo:List Item} {env:Env} {H:Hp} {R:AV → Hp → Prop} {α:Type} {f:α → PV} {l:List α}


theorem ARun.frzS (t:Nat) {b off len:Nat} (ht:env t = .ref b off len 1) (hb:H.f b=some (.cells (cl f l))) (hf : ∀ x,(f x).cells=[f x]) (hl:off+len≤l.length)
 (h:ARun C todo (env.put (some t) (.p (.sl false 1 (pl f ((l.drop off).take len))))) (H.set b .dead) R):ARun C todo env H R :=
 .ghost (fun σ w a m hpre=>by
  rw [←zCJ] at hb
  obtain⟨r1,e1⟩:=zaP hpre.rel b
  obtain⟨F,hF⟩:=zdH hpre.rel hb
  refine⟨σ,r1,fun i => ?_,e1⟩
  simp only [Env.put];by_cases hi:i=t
  · subst hi;rw [if_pos rfl];have hs:=hpre.fr.slot i;rw [ht] at hs
    generalize a.tmps.getD i undef=v at hs
    cases hs with | ref ad h0 hbn hcap ha =>
    obtain⟨g,o,rfl⟩:=h0
    have hlen:(pl f ((l.drop off).take len)).length=len:=by rw [zgc,List.length_take,List.length_drop];omega
    have hget : ∀ k,k < len → ∃ y,(pl f l)[off+k]? = some y∧(pl f ((l.drop off).take len))[k]? = some y:=fun k hk=>by
     refine⟨_,List.getElem?_eq_getElem (by rw [zgc];omega),?_⟩
     rw [←zpz,←zpA,List.getElem?_take_of_lt hk,List.getElem?_drop];exact List.getElem?_eq_getElem _
    have hone : ∀ y∈pl f ((l.drop off).take len),y.cells=[y]:=fun y hy=>by
     simp only [pl,List.mem_map] at hy
     obtain⟨x,_,rfl⟩:=hy
     exact hf x
    have key:=RelP.sl (w:=w) (S:=Stable σ (H.set b .dead)) false 1 (pl f ((l.drop off).take len)) g o _ (fun k=>F (off+k)) (by simp) ⟨by rw [hlen];exact hcap.1,hcap.2⟩ (fun y hy=>by rw [hone y hy];rfl)
     (fun k hk=>by
      rw [hlen,Nat.mul_one] at hk
      obtain⟨y,hy,_⟩:=hget k hk
      obtain⟨p1,p2,p3,_⟩:=hF _ y hy
      have:=ha (by omega)
      cases this
      exact⟨zeX hpre.rel hb _,p2,p3⟩)
     (fun k y hy=>by
      rw [zhH hone] at hy;have hk:=(List.getElem?_eq_some_iff.1 hy).1;rw [hlen] at hk
      obtain⟨y',h1,h2⟩:=hget k hk
      rw [h2] at hy;cases hy
      exact (hF _ _ h1).2.2.2)
    rw [hlen] at key;exact .p key
  · rw [if_neg hi];exact (hpre.fr.slot i).mono e1) h

end freeze


def sb (s:ByteArray) (n:Nat):BitVec 8:=(s.data.toList.getD n 0).toBitVec






end Go.AL

namespace Go.AL
open Go Go.ChangeShapes Go.WideShapes Go.ChangeAt Go.RowKit

section post
variable {H:Type} {enc:TypeId × Value → H} {P:Program}

theorem zdn {W W':World} {sp:Nat → Bool} (hl:laidOutB P=true) : ∀ {ts:List TypeId} {vs:List Value} {ds:List (DataW H)} {ps:List MemPlace},(∀ t∈ts,P.readableRec t=true∧t < P.types.size) →
 DataW.TrodAll enc P W 0 (fun _=>true) true ts vs ds ps → (∀ p∈ps,W.sameAt W' p) → (∀ p∈ps,sp p.block=true) → DataW.TrodAll enc P W' 0 sp true ts vs ds ps
 | [],vs,ds,ps,_,h,_,_=>by
  obtain⟨rfl,rfl,rfl⟩:=trodAll_nil h
  exact trodAll_mk0
 | t :: ts,vs,ds,ps,hr,h,h1,h2=>by
  obtain⟨v,vs',d,ds',p,q,rfl,rfl,rfl,h3,h4⟩:=trodAll_cons h
  exact trodAll_cons_mk (WideElems.Trod_stays hl (hr t (by simp)).1 (hr t (by simp)).2 h3 (fun x hx=>h1 x (by simp [hx])) (fun x hx=>h2 x (by simp [hx])))
   (zdn hl (fun u hu=>hr u (by simp [hu])) h4 (fun x hx=>h1 x (by simp [hx])) (fun x hx=>h2 x (by simp [hx])))

theorem zvq {f:Func} {s:ChangeSpec} {W W':World} {args:Array Value} {ds gs:List (DataW H)} {before:List MemPlace} {tb:TypeId} (hl:laidOutB P=true) (hr : ∀ t∈f.params.toList,P.readableRec t=true∧t < P.types.size)
 (hv0:s.vars=[]) (hW:DataW.Whole enc P f.params.toList s.vars false W args.toList ds gs before) (hfn:s.fn H ds = { results:=[.lit (.bool true)],args:=ds })
 (hrt:f.resultTypes = #[tb]) (htb:P.underlying tb=some .bool) (hblk : ∀ g,g < W.heap.size → W'.heap[g]? = W.heap[g]?) (hos:W'.os=W.os) (hout:W'.output=W.output) :
 s.post enc P f false true false false W args (.bool true) W':=by
 have hlt:=hW.lt;have hW0:=hW
 obtain⟨p,q,hA,hV,hbe,hz,hn⟩:=hW
 rw [hv0] at hV
 obtain⟨rfl,rfl⟩:=trodVars_none hV
 rw [List.append_nil] at hbe;subst hbe
 have hsame : ∀ x∈before,W.sameAt W' x:=fun x hx=>by
  have h1:=hblk x.block (hlt x hx)
  cases x with
  | cell b off=>simp only [MemPlace.block] at h1;simp [World.sameAt,World.cell?,h1]
  | map b=>simp only [MemPlace.block] at h1;simpa [World.sameAt] using h1
 refine⟨ds,[],before,[],before,[],hW0,?_,?_,?_,?_,fun h=>by cases h⟩
 · rw [List.append_nil,hfn,hrt];exact trodAll_cons_mk (shut_bool htb true) trodAll_mk0
 · rw [List.append_nil,hfn]
   exact zdn hl hr hA hsame fun x hx=>by simpa using hlt x hx
 · rw [List.append_nil,hfn,hv0];exact rfl
 · refine⟨hos,hout,fun i hi => ?_⟩
   rw [hblk i hi]
   cases hw:W.heap[i]? with
   | none=>rfl
   | some o=>cases o<;>simp
end post


def H0:Hp:=⟨fun _=>none,0,fun _ _=>rfl,fun _=>none⟩
def σ0:Gh:=⟨fun _=>0,fun _=>none⟩

theorem zDn {G:Globs} {W:World} (hG : ∀ g sz xs,G g=some (sz,xs) → RelV σ0 H0 W (.ip sz xs 0 0) (.pointer (some ⟨g,0,none⟩))) (hM : ∀ r m,G.map r=some m → GMap σ0 H0 W r m):Rel G σ0 H0 W :=
 ⟨fun _ _ h=>(by cases h),fun _ _ _ _ _ _ h=>(by cases h),fun _ _ _ h=>(by cases h),fun _ _ _ _ h=>(by cases h),fun _ _ _ _ _ _ _ _ h=>(by cases h),fun _ _ _ _ _ _ _ _ _ _ _ h=>(by cases h),hG,fun _ _ _ h=>(by cases h),fun _ _ _ _ _ _ h=>(by cases h),hM,fun _ _ _ h=>(by cases h)⟩

theorem zpC (g o:Nat):Stable σ0 H0 g o:=⟨fun _ _ h=>(by cases h),fun _ _ _ _ _ h=>(by cases h)⟩
theorem zAy (g:Nat):Free σ0 H0 g:=⟨fun _ _ h=>(by cases h),fun _ _ _ _ _ h=>(by cases h),fun _ _ _ h=>(by cases h)⟩

theorem zrQ {P:Program} {G:Globs} {f:FuncId} {args:List AV} {W:World} {vs:Array Value} (h:ACall P G f args H0 fun r _=>r = .p (bo true)) (hr:Rel G σ0 H0 W) (hv:RelVs σ0 H0 W args vs) :
 Calls P f vs W fun e W'=>e = .returned (.bool true)∧(∀ g,g < W.heap.size → W'.heap[g]? = W.heap[g]?)∧W'.os=W.os∧W'.output=W.output:=by
 refine (h σ0 W vs hr hv).mono ?_
 rintro e W' ⟨r,H',σ',v,rfl,rfl,hrel,hrv,hev⟩
 cases hrv.bool_inv
 exact⟨rfl,fun g hg=>(hev.blk g hg (zAy g)).1,hev.os,hev.out⟩


section read
variable {H:Type} {enc:TypeId × Value → H} {P:Program} {W:World} {sp:Nat → Bool} {held:Bool}


end read
end Go.AL

namespace Go.AL
open Go Go.ChangeShapes Go.WideShapes Go.ChangeAt Go.RowKit

def zbE (b:Bool) (ys:List PV):PV:=if b then .agg ys else ys.headD (.agg [])

def zcP (P:Program):Nat → List Field → Option Nat
 | o,[]=>some o
 | o,f :: fs=>if f.offset=o then zcP P (o+P.cellsOf f.type) fs else none

def zbl (P:Program):Nat → TypeId → Bool
 | 0,_=>false
 | k+1,t=>match P.underlying t with
  | some .bool | some (.int _) | some .string=>true
  | some (.slice e)=>zbl P k e && (decide (0 < P.cellsOf e) && (yk P e || P.cellsOf e == 1))
  | some (.struct fs)=>fs.toList.all (fun f=>zbl P k f.type) && zcP P 0 fs.toList == some (P.cellsOf t)
  | some (.array n e)=>zbl P k e && n*P.cellsOf e == P.cellsOf t
  | _=>false

def ziP (R:TypeId → List PV → Prop) (P:Program):List Field → List PV → Prop
 | [],xs=>xs=[]
 | f :: fs,xs => ∃ ys zs,xs=ys++zs∧ys.length=P.cellsOf f.type∧R f.type ys∧ziP R P fs zs

def Reads (P:Program):Nat → TypeId → List PV → Prop
 | 0,_,_=>False
 | k+1,t,xs=>match P.underlying t with
  | some .bool => ∃ b,xs=[.s (.bool b)]
  | some (.int κ) => ∃ n,(Lit.int κ n).wf=true∧xs=[.s (.int κ n)]
  | some .string => ∃ s:ByteArray,s.size≤maxLen∧xs=[.s (.string s)]
  | some (.slice e) => ∃ yss:List (List PV),yss.length≤maxLen∧(∀ y∈yss,y.length=P.cellsOf e∧Reads P k e y)∧xs=[.sl false (P.cellsOf e) (yss.map (zbE (yk P e)))]
  | some (.struct fs)=>ziP (Reads P k) P fs.toList xs
  | some (.array n e) => ∃ yss:List (List PV),yss.length=n∧(∀ y∈yss,y.length=P.cellsOf e∧Reads P k e y)∧xs=yss.flatten
  | _=>False

def RowP (W:World) (xs:List PV) (cs:List Value):Prop :=
 xs.length=cs.length ∧ ∀ (i:Nat) x v,xs[i]? = some x → cs[i]? = some v → RelP W (Stable σ0 H0) x v∧v.oneCell'=true∧x.isAgg=false

section gen
variable {H:Type} {enc:TypeId × Value → H} {P:Program} {W:World} {sp:Nat → Bool} {held:Bool} {base:Nat}

theorem RowP.nil:RowP W [] []:=⟨rfl,fun i x v h=>by simp at h⟩
theorem RowP.one {x:PV} {v:Value} (h:RelP W (Stable σ0 H0) x v) (h1:v.oneCell'=true) (h2:x.isAgg=false):RowP W [x] [v] :=
 ⟨rfl,fun i y u hy hu=>by
  have hi:i < 1:=by simpa using (List.getElem?_eq_some_iff.1 hy).1
  have:i=0:=by omega
  subst this;simp at hy hu;subst hy;subst hu
  exact⟨h,h1,h2⟩⟩
theorem RowP.append {xs ys:List PV} {cs ds:List Value} (h:RowP W xs cs) (h':RowP W ys ds):RowP W (xs++ys) (cs++ds):=by
 refine⟨by simp [h.1,h'.1],fun i x v hx hv => ?_⟩
 by_cases hi:i < xs.length
 · rw [List.getElem?_append_left hi] at hx;rw [List.getElem?_append_left (by rw [←h.1];exact hi)] at hv;exact h.2 i x v hx hv
 · rw [List.getElem?_append_right (by omega)] at hx;rw [List.getElem?_append_right (by rw [←h.1];omega),←h.1] at hv;exact h'.2 _ x v hx hv

theorem zd7 {α β:Type} {f:α → Option β} : ∀ {l:List α} {ys:List β},l.mapM f=some ys → ys.length=l.length ∧ ∀ (i:Nat) x,l[i]? = some x → ∃ y,ys[i]? = some y∧f x=some y
 | [],ys,h=>by simp at h;subst h;exact⟨rfl,fun i x h=>by simp at h⟩
 | a :: l,ys,h=>by
  rw [List.mapM_cons] at h
  cases ha:f a with
  | none=>simp [ha] at h
  | some b =>
   cases hl:l.mapM f with
   | none=>simp [ha,hl] at h
   | some bs =>
    simp [ha,hl] at h;subst h
    obtain⟨h1,h2⟩:=zd7 hl
    refine⟨by simp [h1],fun i x hx => ?_⟩
    cases i with
    | zero=>simp at hx;subst hx;exact⟨b,rfl,ha⟩
    | succ i=>simp at hx;simpa using h2 i x hx

theorem list_of' {α:Type} {p:Nat → α → Prop} : ∀ (n:Nat),(∀ i,i < n → ∃ x,p i x) → ∃ l:List α,l.length=n ∧ ∀ (i:Nat) x,l[i]? = some x → p i x
 | 0,_=>⟨[],rfl,fun i x h=>by simp at h⟩
 | n+1,h=>by
  obtain⟨l,h1,h2⟩:=list_of' n fun i hi=>h i (by omega)
  obtain⟨x,hx⟩:=h n (by omega)
  refine⟨l++[x],by simp [h1],fun i y hy => ?_⟩
  by_cases hi:i < l.length
  · rw [List.getElem?_append_left hi] at hy;exact h2 i y hy
  · rw [List.getElem?_append_right (by omega)] at hy
    have hl:i - l.length < 1:=by have:=(List.getElem?_eq_some_iff.1 hy).1;simpa using this
    have:i=n:=by omega
    subst this;rw [h1,Nat.sub_self] at hy;simp at hy;subst hy;exact hx

theorem zbF {α:Type} {c:Nat} : ∀ {yss:List (List α)} {k:Nat} {z:α},(∀ y∈yss,y.length=c) → yss.flatten[k]? = some z → ∃ i j y,i < yss.length∧j < c∧k=i*c+j∧yss[i]? = some y∧y[j]? = some z
 | [],k,z,_,h=>by simp at h
 | y :: yss,k,z,hc,h=>by
  have hy:y.length=c:=hc y (by simp);rw [List.flatten_cons] at h;by_cases hk:k < c
  · rw [List.getElem?_append_left (by omega)] at h
    exact⟨0,k,y,by simp,hk,by omega,rfl,h⟩
  · rw [List.getElem?_append_right (by omega),hy] at h
    obtain⟨i,j,y',h1,h2,h3,h4,h5⟩:=zbF (fun y hy=>hc y (by simp [hy])) h
    exact⟨i+1,j,y',by simp;omega,h2,by rw [Nat.add_mul];omega,by simpa using h4,h5⟩

theorem zcQ {α:Type} {c:Nat} : ∀ {yss:List (List α)},(∀ y∈yss,y.length=c) → yss.flatten.length=yss.length*c
 | [],_=>by simp
 | y :: yss,hc=>by
  rw [List.flatten_cons,List.length_append,hc y (by simp),zcQ (fun y hy=>hc y (by simp [hy])),List.length_cons,Nat.add_mul];omega

theorem zkC {b:Bool} {y:List PV} (h:b=true ∨ (y.length=1 ∧ ∀ x∈y,x.isAgg=false)):(zbE b y).cells=y:=by
 rcases h with rfl | ⟨h1,h2⟩
 · rfl
 · cases b
   · match y,h1 with
     | [x],_ =>
      have:=h2 x (by simp)
      cases x<;>simp [PV.isAgg] at this<;>rfl
   · rfl

theorem cells?_get {a:Addr} {n:Nat} {cs:List Value} (h:W.cells? base a n=some cs):cs.length=n ∧ ∀ j,j < n → W.cell? (a.add j)=cs[j]? := by
 unfold World.cells? at h;split at h
 · obtain⟨h1,h2⟩:=zd7 h
   rw [List.length_range] at h1
   refine⟨h1,fun j hj => ?_⟩
   obtain⟨y,hy,hf⟩:=h2 j j (by simp [hj])
   rw [hy,hf]
 · cases h

theorem zrR {a:Addr} {v:Value} (h:W.cell? a=some v):a.spot=none:=by
 unfold World.cell? at h;split at h
 · split at h
   · cases h
   · rename_i hs;cases hx:a.spot<;>simp_all
 · cases h

theorem zhI : ∀ {fs:List Field} {o m:Nat},zcP P o fs=some m → o≤m
 | [],o,m,h=>by simp [zcP] at h;omega
 | f :: fs,o,m,h=>by
  simp only [zcP] at h;split at h
  · have:=zhI h;omega
  · cases h

theorem znG {e:TypeId} {k:Nat} {g off cap:Nat} {c:Nat} {b:Bool} {yss:List (List PV)} (hc:0 < c) (hb:b=true ∨ c=1) (hl:yss.length≤cap) (hcap:cap≤maxLen)
 (h : ∀ (i:Nat) y,yss[i]? = some y → ∃ cs,y.length=c∧(∀ j,j < c → W.cell? ⟨g,off+(i*c+j),none⟩=cs[j]?)∧RowP W y cs) :
 RelP W (Stable σ0 H0) (.sl false c (yss.map (zbE b))) (.slice (some ⟨g,off,none⟩) yss.length cap):=by
 have hlen : ∀ y∈yss,y.length=c:=fun y hy=>by
  obtain⟨i,hi⟩:=List.getElem?_of_mem hy
  obtain⟨cs,h1,_⟩:=h i y hi
  exact h1
 have hagg : ∀ y∈yss,∀ x∈y,x.isAgg=false:=fun y hy x hx=>by
  obtain⟨i,hi⟩:=List.getElem?_of_mem hy
  obtain⟨cs,h1,h2,h3⟩:=h i y hi
  obtain⟨j,hj⟩:=List.getElem?_of_mem hx
  have hjl:j < cs.length:=by rw [←h3.1];exact (List.getElem?_eq_some_iff.1 hj).1
  exact (h3.2 j x cs[j] hj (by simp [hjl])).2.2
 have hpk : ∀ y∈yss,(zbE b y).cells=y:=fun y hy=>zkC (by
  rcases hb with hb | hb
  · exact .inl hb
  · exact .inr ⟨by rw [hlen y hy,hb],hagg y hy⟩)
 have hflat:flat (yss.map (zbE b))=yss.flatten:=by
  unfold flat;rw [List.flatMap_map,←List.flatMap_id]
  have : ∀ l:List (List PV),(∀ y∈l,(zbE b y).cells=y) → l.flatMap (fun y=>(zbE b y).cells)=l.flatMap id:=by
   intro l
   induction l with
   | nil=>intro _;rfl
   | cons a l ih=>intro hl;rw [List.flatMap_cons,List.flatMap_cons,ih (fun y hy=>hl y (by simp [hy])),hl a (by simp)];rfl
  exact this yss hpk
 have key : ∀ q,q < yss.length*c → ∃ v,W.cell? ⟨g,off+q,none⟩=some v∧v.oneCell'=true:=fun q hq=>by
  have hq':q < yss.flatten.length:=by rw [zcQ hlen];exact hq
  obtain⟨i,j,y,h1,h2,h3,h4,h5⟩:=zbF hlen (List.getElem?_eq_getElem hq')
  obtain⟨cs,g1,g2,g3⟩:=h i y h4
  have hj:j < cs.length:=by rw [←g3.1,g1];exact h2
  have:=g2 j h2
  rw [List.getElem?_eq_getElem hj] at this
  exact⟨cs[j],by rw [h3];exact this,(g3.2 j _ _ h5 (List.getElem?_eq_getElem hj)).2.1⟩
 have:=RelP.sl (w:=W) (S:=Stable σ0 H0) false c (yss.map (zbE b)) g off cap (fun q=>(W.cell? ⟨g,off+q,none⟩).getD .nilFunc) (by simp) ⟨by simpa using hl,hcap⟩
  (fun x hx=>by
   obtain⟨y,hy,rfl⟩:=List.mem_map.1 hx
   rw [hpk y hy];exact hlen y hy)
  (fun q hq=>by
   rw [List.length_map] at hq
   obtain⟨v,h1,h2⟩:=key q hq
   rw [h1]
   exact⟨zpC _ _,rfl,h2⟩)
  (fun q z hz=>by
   rw [hflat] at hz
   obtain⟨i,j,y,h1,h2,h3,h4,h5⟩:=zbF hlen hz
   obtain⟨cs,g1,g2,g3⟩:=h i y h4
   have hj:j < cs.length:=by rw [←g3.1,g1];exact h2
   have:=g2 j h2
   rw [List.getElem?_eq_getElem hj] at this;rw [h3,this]
   exact (g3.2 j _ _ h5 (List.getElem?_eq_getElem hj)).1)
 rwa [List.length_map] at this

theorem zeY {k fuel:Nat} {cs:List Value} {m:Nat} (hm:cs.length=m)
 (ih : ∀ (t:TypeId) (cs:List Value) (d:DataW H) (ps:List MemPlace),zbl P k t=true → DataW.trod enc P W base sp held fuel t cs=some (d,ps) → ∃ xs,RowP W xs cs∧Reads P k t xs) :
 ∀ (fs:List Field) (o:Nat) (ys:List (DataW H × List MemPlace)),(fs.all fun f=>zbl P k f.type)=true → zcP P o fs=some m →
  (fs.mapM fun f=>DataW.trod enc P W base sp held fuel f.type ((cs.drop f.offset).take (P.cellsOf f.type)))=some ys → ∃ xs,RowP W xs (cs.drop o)∧ziP (Reads P k) P fs xs
 | [],o,ys,_,hc,_=>by
  simp only [zcP,Option.some.injEq] at hc
  exact⟨[],by rw [List.drop_of_length_le (by omega)];exact RowP.nil,rfl⟩
 | f :: fs,o,ys,hp,hc,h=>by
  simp only [List.all_cons,Bool.and_eq_true] at hp;simp only [zcP] at hc;split at hc
  · rename_i ho;have hle:=zhI hc;rw [List.mapM_cons] at h
    cases hf:DataW.trod enc P W base sp held fuel f.type ((cs.drop f.offset).take (P.cellsOf f.type)) with
    | none=>simp [hf] at h
    | some y =>
     cases hr:(fs.mapM fun f=>DataW.trod enc P W base sp held fuel f.type ((cs.drop f.offset).take (P.cellsOf f.type))) with
     | none=>simp [hf,hr] at h
     | some zs =>
      obtain⟨d,ps⟩:=y
      obtain⟨xs,h1,h2⟩:=ih _ _ _ _ hp.1 hf
      obtain⟨xs',h3,h4⟩:=zeY hm ih fs _ zs hp.2 hc hr
      rw [ho] at h1
      have hcat:cs.drop o=(cs.drop o).take (P.cellsOf f.type)++cs.drop (o+P.cellsOf f.type):=by
       rw [←List.drop_drop,List.take_append_drop]
      refine⟨xs++xs',by rw [hcat];exact h1.append h3,xs,xs',rfl,?_,h2,h4⟩
      rw [h1.1,List.length_take,List.length_drop];omega
  · cases hc

theorem zrS {k:Nat} {t:TypeId} {xs:List PV} (h:Reads P k t xs) (ha:yk P t=false):xs.length=1:=by
 cases k with
 | zero=>exact h.elim
 | succ k =>
  unfold Reads at h;unfold yk at ha;split at h
  · obtain⟨_,rfl⟩:=h;rfl
  · obtain⟨_,_,rfl⟩:=h;rfl
  · obtain⟨_,_,rfl⟩:=h;rfl
  · obtain⟨_,_,_,rfl⟩:=h;rfl
  · rename_i hu;rw [hu] at ha;simp [zW] at ha
  · rename_i hu;rw [hu] at ha;simp [zW] at ha
  · exact h.elim

theorem zcg : ∀ (k fuel:Nat) (t:TypeId) (cs:List Value) (d:DataW H) (ps:List MemPlace),zbl P k t=true → DataW.trod enc P W base sp held fuel t cs=some (d,ps) → ∃ xs,RowP W xs cs∧Reads P k t xs
 | 0,_,_,_,_,_,hp,_=>by simp [zbl] at hp
 | _+1,0,_,_,_,_,_,h=>by simp [DataW.trod] at h
 | k+1,fuel+1,t,cs,d,ps,hp,h=>by
  unfold zbl at hp;unfold Reads
  cases hu:P.underlying t with
  | none=>simp [hu] at hp
  | some desc =>
   rw [hu] at hp;unfold DataW.trod at h;rw [hu] at h
   cases desc<;>simp only [Bool.false_eq_true] at hp
   case bool =>
    split at h<;>first | (cases h;done) | skip
    all_goals (rename_i heq;cases heq)
    exact⟨_,RowP.one (.s _ rfl) rfl rfl,_,rfl⟩
   case int κ =>
    split at h<;>first | (cases h;done) | skip
    all_goals (rename_i heq;cases heq)
    split at h
    · rename_i hw
      obtain⟨rfl,hw⟩:=hw
      exact⟨_,RowP.one (.s _ rfl) rfl rfl,_,hw,rfl⟩
    · cases h
   case string =>
    split at h<;>first | (cases h;done) | skip
    all_goals (rename_i heq;cases heq)
    split at h
    · rename_i hw
      exact⟨_,RowP.one (.s _ rfl) rfl rfl,_,hw,rfl⟩
    · cases h
   case slice e =>
    simp only [Bool.and_eq_true,decide_eq_true_eq,Bool.or_eq_true,beq_iff_eq] at hp
    obtain⟨hp,hc,hb⟩:=hp
    split at h<;>first | (cases h;done) | skip
    all_goals (rename_i heq;cases heq)
    · exact⟨_,RowP.one (.nil false (P.cellsOf e)) rfl rfl,[],by simp,by simp,rfl⟩
    · rename_i a len cap;dsimp only at h;split at h
      · rename_i hcond
        obtain⟨hbase,hlc,hcm⟩:=hcond
        cases hm:(List.range len).mapM fun i=>(W.cells? base (a.add (i*P.cellsOf e)) (P.cellsOf e)).bind (DataW.trod enc P W base sp held fuel e) with
        | none=>rw [hm] at h;simp at h
        | some elems =>
         obtain⟨_,hget⟩:=zd7 hm
         have hel : ∀ i,i < len → ∃ y:List PV,∃ cs,W.cells? base (a.add (i*P.cellsOf e)) (P.cellsOf e)=some cs∧RowP W y cs∧Reads P k e y:=fun i hi=>by
          obtain⟨z,_,hz⟩:=hget i i (by simp [hi])
          cases hcs:W.cells? base (a.add (i*P.cellsOf e)) (P.cellsOf e) with
          | none=>rw [hcs] at hz;simp at hz
          | some cs =>
           rw [hcs] at hz;simp only [Option.bind_some] at hz
           obtain⟨zd,zp⟩:=z
           obtain⟨y,h1,h2⟩:=zcg k fuel e cs zd zp hp hz
           exact⟨y,cs,rfl,h1,h2⟩
         obtain⟨yss,hyl,hy⟩:=list_of' len hel
         have hspot:0 < len → a.spot=none:=fun hl=>by
          obtain⟨y,cs,hcs,_,_⟩:=hel 0 hl
          obtain⟨g1,g2⟩:=cells?_get hcs
          have:=g2 0 hc
          rw [List.getElem?_eq_getElem (by omega)] at this;simp only [Nat.zero_mul] at this;have hs:=zrR this
          simpa [Addr.add] using hs
         refine⟨[.sl false (P.cellsOf e) (yss.map (zbE (yk P e)))],RowP.one ?_ rfl rfl,yss,by omega,fun y hym => ?_,rfl⟩
         · rcases Nat.eq_zero_or_pos len with h0 | h0
           · subst h0
             have:yss=[]:=List.length_eq_zero_iff.1 hyl
             subst this;exact .emp _ _ _ _ (fun h=>by cases h) hcm
           · have hs:=hspot h0
             obtain⟨g,off,spot⟩:=a
             simp only at hs;subst hs
             have:=znG (W:=W) (g:=g) (off:=off) (cap:=cap) (c:=P.cellsOf e) (b:=yk P e) (yss:=yss) (e:=e) (k:=k) hc hb (by omega) hcm (fun i y hi=>by
              obtain⟨cs,h1,h2,h3⟩:=hy i y hi
              obtain⟨g1,g2⟩:=cells?_get h1
              refine⟨cs,by rw [h2.1,g1],fun j hj => ?_,h2⟩
              have:=g2 j hj
              rw [zy,zy,Nat.add_assoc] at this
              exact this)
             rwa [hyl] at this
         · obtain⟨i,hi⟩:=List.getElem?_of_mem hym
           obtain⟨cs,h1,h2,h3⟩:=hy i y hi
           obtain⟨g1,_⟩:=cells?_get h1
           exact⟨by rw [h2.1,g1],h3⟩
      · cases h
   case struct fs =>
    simp only [Bool.and_eq_true,beq_iff_eq] at hp;replace h:(if cs.length=P.cellsOf t then (fs.toList.mapM fun f=>DataW.trod enc P W base sp held fuel f.type ((cs.drop f.offset).take (P.cellsOf f.type))).map fun xs=>(.agg (xs.map (·.1)),xs.flatMap (·.2)) else none)=some (d,ps):=h;split at h
    · rename_i hl
      cases hm:(fs.toList.mapM fun f=>DataW.trod enc P W base sp held fuel f.type ((cs.drop f.offset).take (P.cellsOf f.type))) with
      | none=>rw [hm] at h;simp at h
      | some ys =>
       obtain⟨xs,h1,h2⟩:=zeY hl (fun t cs d ps=>zcg k fuel t cs d ps) fs.toList 0 ys hp.1 hp.2 hm
       exact⟨xs,h1,h2⟩
    · cases h
   case array n e =>
    simp only [Bool.and_eq_true,beq_iff_eq] at hp;replace h:(if cs.length=P.cellsOf t then ((List.range n).mapM fun i=>DataW.trod enc P W base sp held fuel e ((cs.drop (i*P.cellsOf e)).take (P.cellsOf e))).map fun xs=>(.agg (xs.map (·.1)),xs.flatMap (·.2)) else none)=some (d,ps):=h;split at h
    · rename_i hl
      cases hm:(List.range n).mapM fun i=>DataW.trod enc P W base sp held fuel e ((cs.drop (i*P.cellsOf e)).take (P.cellsOf e)) with
      | none=>rw [hm] at h;simp at h
      | some ys =>
       obtain⟨_,hget⟩:=zd7 hm
       have hel : ∀ i,i < n → ∃ y:List PV,RowP W y ((cs.drop (i*P.cellsOf e)).take (P.cellsOf e))∧Reads P k e y:=fun i hi=>by
        obtain⟨z,_,hz⟩:=hget i i (by simp [hi])
        obtain⟨zd,zp⟩:=z
        exact zcg k fuel e _ zd zp hp.1 hz
       obtain⟨yss,hyl,hy⟩:=list_of' n hel
       have hsub : ∀ i,i < n → i*P.cellsOf e+P.cellsOf e≤cs.length:=fun i hi=>by
        rw [hl,←hp.2]
        have:=Nat.mul_le_mul_right (P.cellsOf e) (show i+1≤n by omega)
        rw [Nat.add_mul] at this;omega
       have hlen : ∀ y∈yss,y.length=P.cellsOf e:=fun y hym=>by
        obtain⟨i,hi⟩:=List.getElem?_of_mem hym
        have hin:i < n:=by rw [←hyl];exact (List.getElem?_eq_some_iff.1 hi).1
        obtain⟨h1,_⟩:=hy i y hi
        rw [h1.1,List.length_take,List.length_drop]
        have:=hsub i hin
        omega
       refine⟨yss.flatten,⟨by rw [zcQ hlen,hyl,hl,hp.2],fun q x v hx hv => ?_⟩,yss,hyl,fun y hym=>⟨hlen y hym,?_⟩,rfl⟩
       · obtain⟨i,j,y,h1,h2,h3,h4,h5⟩:=zbF hlen hx
         obtain⟨g1,_⟩:=hy i y h4
         refine g1.2 j x v h5 ?_;rw [List.getElem?_take_of_lt h2,List.getElem?_drop,←h3];exact hv
       · obtain⟨i,hi⟩:=List.getElem?_of_mem hym
         exact (hy i y hi).2
    · cases h

theorem zvr {t:TypeId} {v:Value} {d:DataW H} {ps:List MemPlace} (k:Nat) (hp:zbl P k t=true) (hval:Value.okWide P W .any base t v) (h:DataW.Trod enc P W 0 (fun _=>true) true t v d ps) :
 ∃ xs,Reads P k t xs∧RelV σ0 H0 W (.p (zbE (yk P t) xs)) v:=by
 obtain⟨fuel,hf⟩:=h
 obtain⟨xs,h1,h2⟩:=zcg k fuel t _ d ps hp hf
 refine⟨xs,h2,.p ?_⟩
 cases hu:P.underlying t with
 | none=>cases k<;>simp [zbl,hu] at hp
 | some desc =>
  by_cases ha:zW desc=true
  · have hb:yk P t=true:=by simp [yk,hu,ha]
    rw [hb]
    have : ∃ cs,v = .agg cs:=by
     simp only [Value.okWide,hu] at hval
     cases desc<;>simp [zW] at ha
     all_goals obtain⟨cs,rfl,_⟩:=hval;exact⟨cs,rfl⟩
    obtain⟨cs,rfl⟩:=this
    have hcs:(Value.agg cs).cells.toList=cs.toList:=rfl;rw [hcs] at h1
    show RelP W _ (.agg xs) _
    refine .agg xs cs (by rw [h1.1];simp) (fun i u hu => ?_) fun i x u hx hu=>(h1.2 i x u hx (by simpa using hu)).1
    have hi:i < xs.length:=by rw [h1.1];simpa using (Array.getElem?_eq_some_iff.1 hu).1
    exact (h1.2 i xs[i] u (List.getElem?_eq_getElem hi) (by simpa using hu)).2.1
  · have hb:yk P t=false:=by simp only [yk,hu];simpa using ha
    rw [hb];have hl:=zrS h2 hb
    match xs,hl with
    | [x],_ =>
     have hcell:v.cells.toList=[v]:=by
      cases v with
      | agg cs =>
       exfalso
       simp only [Value.okWide,hu] at hval
       cases desc<;>simp [zW] at ha
       all_goals simp [Cell.okWide,Cell.ok,hu] at hval
       all_goals (cases k<;>simp [zbl,hu] at hp)
      | _=>rfl
     rw [hcell] at h1;exact (h1.2 0 x v rfl rfl).1
end gen

section typed
variable {P:Program} {k:Nat} {t e:TypeId} {xs:List PV}
theorem Reads.i64 (hu:P.underlying t=some (.int .i64)) (h:Reads P (k+1) t xs) : ∃ z:Int,-9223372036854775808≤z∧z≤9223372036854775807∧xs=[i64 z]:=by
 simp only [Reads,hu] at h
 obtain⟨n,hw,rfl⟩:=h
 simp only [Lit.wf,Bool.and_eq_true,decide_eq_true_eq] at hw
 have h1:IntKind.i64.min = -9223372036854775808:=by decide
 have h2:IntKind.i64.max=9223372036854775807:=by decide
 rw [h1,h2] at hw
 exact⟨n,hw.1,hw.2,rfl⟩
theorem wf_bits {κ:IntKind} {w:Nat} {n:Int} (h1:κ.min=0) (h2:κ.max=2 ^ w - 1) (h:(Lit.int κ n).wf=true):((BitVec.ofInt w n).toNat:Int)=n:=by
 simp only [Lit.wf,Bool.and_eq_true,decide_eq_true_eq] at h;rw [h1,h2] at h;rw [BitVec.toNat_ofInt]
 have hp:((2 ^ w:Nat):Int)=2 ^ w:=by simp
 have:n % (2 ^ w:Nat)=n:=Int.emod_eq_of_lt h.1 (by omega)
 rw [this];omega
theorem Reads.u8 (hu:P.underlying t=some (.int .u8)) (h:Reads P (k+1) t xs) : ∃ b:BitVec 8,xs=[b8 b]:=by
 simp only [Reads,hu] at h
 obtain⟨n,hw,rfl⟩:=h
 exact⟨BitVec.ofInt 8 n,by rw [b8,wf_bits (w:=8) (by decide) (by decide) hw]⟩
theorem Reads.u16 (hu:P.underlying t=some (.int .u16)) (h:Reads P (k+1) t xs) : ∃ b:BitVec 16,xs=[w16 b]:=by
 simp only [Reads,hu] at h
 obtain⟨n,hw,rfl⟩:=h
 exact⟨BitVec.ofInt 16 n,by rw [w16,wf_bits (w:=16) (by decide) (by decide) hw]⟩
theorem Reads.u32 (hu:P.underlying t=some (.int .u32)) (h:Reads P (k+1) t xs) : ∃ b:BitVec 32,xs=[w32 b]:=by
 simp only [Reads,hu] at h
 obtain⟨n,hw,rfl⟩:=h
 exact⟨BitVec.ofInt 32 n,by rw [w32,wf_bits (w:=32) (by decide) (by decide) hw]⟩
theorem Reads.u64 (hu:P.underlying t=some (.int .u64)) (h:Reads P (k+1) t xs) : ∃ b:BitVec 64,xs=[zl b]:=by
 simp only [Reads,hu] at h
 obtain⟨n,hw,rfl⟩:=h
 exact⟨BitVec.ofInt 64 n,by rw [zl,wf_bits (w:=64) (by decide) (by decide) hw]⟩

theorem zhJ {α:Type} {enc:α → PV} {Q:α → Prop} {b:Bool} : ∀ {yss:List (List PV)},(∀ y∈yss,∃ a,zbE b y=enc a∧Q a) → ∃ l:List α,l.length=yss.length∧yss.map (zbE b)=pl enc l ∧ ∀ a∈l,Q a
 | [],_=>⟨[],rfl,rfl,by simp⟩
 | y :: yss,h=>by
  obtain⟨a,ha,hq⟩:=h y (by simp)
  obtain⟨l,h1,h2,h3⟩:=zhJ (enc:=enc) (Q:=Q) (b:=b) (yss:=yss) fun y hy=>h y (by simp [hy])
  exact⟨a :: l,by simp [h1],by simp only [List.map_cons,pl,ha];rw [h2];rfl,fun x hx=>by rcases List.mem_cons.1 hx with rfl | hx;exact hq;exact h3 x hx⟩

theorem Reads.sl {α:Type} {c:Nat} {b:Bool} (enc:α → PV) (Q:α → Prop) (hu:P.underlying t=some (.slice e)) (hc:P.cellsOf e=c) (hb:yk P e=b) (h:Reads P (k+1) t xs) (he : ∀ y,Reads P k e y → ∃ a,zbE b y=enc a∧Q a) :
 ∃ l:List α,l.length≤9223372036854775807∧xs=[.sl false c (pl enc l)] ∧ ∀ a∈l,Q a:=by
 simp only [Reads,hu,hc,hb] at h
 obtain⟨yss,hl,hy,rfl⟩:=h
 obtain⟨l,h1,h2,h3⟩:=zhJ (enc:=enc) (Q:=Q) (b:=b) (yss:=yss) fun y hm=>he y (hy y hm).2
 unfold maxLen at hl
 exact⟨l,by omega,by rw [h2],h3⟩


theorem Reads.struct {fs:Array Field} (hu:P.underlying t=some (.struct fs)) (h:Reads P (k+1) t xs):ziP (Reads P k) P fs.toList xs:=by
 simp only [Reads,hu] at h;exact h

end typed
end Go.AL
