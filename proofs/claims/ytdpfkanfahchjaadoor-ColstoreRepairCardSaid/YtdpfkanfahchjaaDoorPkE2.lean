/-
  Maps: their making,looking up and writing,on abstract values: what they come to,and that the machine's do.
  Conditions: none;nothing here speaks of one program.
-/
import Derived.Test.YtdpfkanfahchjaaDoorPkE1
import Derived.Maps.Keyed
import Derived.DeepKeys4
import Derived.Laws.Externs
import Derived.DeepKeys
import Derived.OrdersIn
import Derived.Laws.Cover3
import Derived.RangeFuncRecord
import Derived.Lib.SlBytesConst
import Derived.Carry
import Derived.OpenShut
import Derived.Lib.LaidTab
import Derived.Deep.DeepHandedRow
import Derived.ProofKit
set_option linter.unusedSectionVars false
set_option linter.unusedSimpArgs false
set_option linter.unusedVariables false
namespace Go.AL
open Go

def zbC:List PV → Option (List Value)
 | []=>some []
 | .s v :: xs=>(zbC xs).map (v :: ·)
 | _=>none

theorem zct {w:World} {S:Nat → Nat → Prop} : ∀ {xs:List PV} {a vs:List Value},zbC xs=some a → vs.length=xs.length → (∀ (i:Nat) x v,xs[i]? = some x → vs[i]? = some v → RelP w S x v) → vs=a
 | [],a,vs,h,hl,_=>by simp only [zbC,Option.some.injEq] at h;subst h;simpa using hl
 | x :: xs,a,vs,h,hl,hr=>by
  cases x<;>simp only [zbC,Option.map_eq_some_iff] at h
  case s v =>
   obtain⟨a',h',rfl⟩:=h
   cases vs with
   | nil=>simp at hl
   | cons u us =>
    have h0:=hr 0 _ _ rfl rfl
    cases h0
    exact congrArg _ (zct h' (by simpa using hl) (fun i x v e1 e2=>hr (i+1) x v (by simpa using e1) (by simpa using e2)))
  all_goals cases h


section states
variable {G:Globs} {σ:Gh} {H:Hp} {w:World}

theorem zac (hr:Rel G σ H w) {b:Nat} {vs vs':List AV} {S S':OS} {o o':Obj} {us:Array Value} (hb:H.f b=some (.obj vs S)) (hw:w.heap[σ.c b]? = some o) (ho:zc7 o=true) (hus:RelVs σ H w vs' us) (ho':zc7 o'=true) (hS:S' us o') :
 Rel G σ (H.set b (.obj vs' S')) (w.putObj (σ.c b) o')∧Ev H.n σ H w σ (H.set b (.obj vs' S')) (w.putObj (σ.c b) o'):=by
 have hbn:=Hp.lt hb
 have hlt:σ.c b < w.heap.size:=yR hw
 have hother : ∀ g,g≠σ.c b → (w.putObj (σ.c b) o').heap[g]? = w.heap[g]? := fun g hg=>World.putObj_heap_other hg
 have fcells : ∀ b' x,(H.set b (.obj vs' S')).f b'=some (.cells x) → H.f b'=some (.cells x):=by
  intro b' x h
  rw [Hp.f_set] at h
  split at h
  · cases h
  · exact h
 have ftail : ∀ b' k d,(H.set b (.obj vs' S')).f b'=some (.tl k d) → H.f b'=some (.tl k d):=by
  intro b' x d h
  rw [Hp.f_set] at h
  split at h
  · cases h
  · exact h
 have fobj : ∀ b' vs1 T,(H.set b (.obj vs' S')).f b'=some (.obj vs1 T) → ∃ vs'' T',H.f b'=some (.obj vs'' T'):=by
  intro b' vs1 T h
  rw [Hp.f_set] at h
  split at h
  · rename_i hh;rw [hh.1];exact⟨_,_,hb⟩
  · exact⟨_,_,h⟩
 have hcell : ∀ g o1 v,w.cell? ⟨g,o1,none⟩=some v → (w.putObj (σ.c b) o').cell? ⟨g,o1,none⟩=some v:=by
  intro g o1 v h
  by_cases hg:g=σ.c b
  · subst hg
    cases o<;>first | (simp [World.cell?,hw] at h;done) | cases ho
  · simpa [World.cell?,hother g hg] using h
 have hev:Ev H.n σ H w σ (H.set b (.obj vs' S')) (w.putObj (σ.c b) o'):=by
  refine⟨fun g o1 v h1 h2=>⟨⟨fun b' x h=>h1.1 b' x (fcells _ _ h),fun b' k d o2 s h=>h1.2 b' k d o2 s (ftail _ _ _ h)⟩,hcell g o1 v h2⟩,fun _ _=>rfl,Nat.le_refl _,fun b' _ k d hk=>⟨k,d,ftail b' k d hk,Nat.le_refl _,fun _=>rfl⟩,by simp,
   fun g hg hf=>⟨hother g (Ne.symm (hf.3 b vs S hb)),fun b' x h=>hf.1 b' x (fcells _ _ h),fun b' k d o2 s h=>hf.2 b' k d o2 s (ftail _ _ _ h),fun b' vs' T h=>let ⟨_,_,h'⟩:=fobj _ _ _ h;hf.3 b' _ _ h'⟩,rfl,rfl⟩
 have hne : ∀ b' x,H.f b'=some (.cells x) → σ.c b'≠σ.c b:=fun b' x h e=>by
  obtain⟨c,ee,q1,_⟩:=hr.cells b' x h
  rw [e,hw] at q1;cases q1;cases ho
 have hneT : ∀ b' k d g o2 s,H.f b'=some (.tl k d) → σ.t b'=some (g,o2,s) → g≠σ.c b:=fun b' k d g o2 s h ht e=>by
  obtain⟨c,ee,q1,_⟩:=hr.tail b' k d g o2 s h ht
  rw [e,hw] at q1;cases q1;cases ho
 refine⟨⟨fun b' x h => ?_,fun b' k d g o2 s h ht => ?_,hr.vec_keep hev (fun b' k ds h=>⟨ftail _ _ _ h,rfl⟩) (fun b' k ds g o2 s _ h ht=>hother g (hneT b' k _ g o2 s h ht)),fun b1 b2 x y h1 h2=>hr.cc b1 b2 x y (fcells _ _ h1) (fcells _ _ h2),fun b1 b2 x k d g o2 s h1 h2=>hr.ct b1 b2 x k d g o2 s (fcells _ _ h1) (ftail _ _ _ h2),
  fun b1 b2 k d k' d' g o2 s o3 s' h1 h2=>hr.tt b1 b2 k d k' d' g o2 s o3 s' (ftail _ _ _ h1) (ftail _ _ _ h2),hr.glob_mono hev,fun b' vs' T h => ?_,fun b1 b2 v1 v2 T1 T2 h1 h2 he => ?_,hr.gm_mono hev⟩,hev⟩
 · obtain⟨c,ee,q1,q2,q3⟩:=hr.cells b' x (fcells _ _ h)
   exact⟨c,ee,(hother _ (hne b' x (fcells _ _ h))).trans q1,q2,fun i y hy=>let ⟨v,a,b⟩:=q3 i y hy;⟨v,a,b.mono hev⟩⟩
 · obtain⟨c,ee,q1,q2⟩:=hr.tail b' k d g o2 s (ftail _ _ _ h) ht
   exact⟨c,ee,(hother g (hneT b' k d g o2 s (ftail _ _ _ h) ht)).trans q1,q2⟩
 · by_cases hbb:b'=b
   · subst hbb
     rw [Hp.f_set_self H _ _ hbn] at h
     cases h
     exact⟨o',us,World.putObj_heap_same hlt,ho',hus.mono hev,hS⟩
   · rw [Hp.f_set_ne H _ _ _ hbb] at h
     obtain⟨o1,us1,q1,q2,q3,q4⟩:=hr.objs b' vs' T h
     exact⟨o1,us1,(hother _ (fun e=>hbb (hr.oo b' b _ _ _ _ h hb e))).trans q1,q2,q3.mono hev,q4⟩
 · obtain⟨_,_,h1'⟩:=fobj _ _ _ h1
   obtain⟨_,_,h2'⟩:=fobj _ _ _ h2
   exact hr.oo b1 b2 _ _ _ _ h1' h2' he

theorem zeQ (hr:Rel G σ H w) (o:Obj) (ho:zc7 o=true) (vs:List AV) (us:Array Value) (S:OS) (hus:RelVs σ H w vs us) (hS:S us o) :
 Rel G (σ.withC H.n w.heap.size) (H.new (.obj vs S)) (w.alloc o)∧Ev H.n σ H w (σ.withC H.n w.heap.size) (H.new (.obj vs S)) (w.alloc o):=by
 have hold : ∀ b,b < H.n → (σ.withC H.n w.heap.size).c b=σ.c b:=fun b hb=>by simp [Gh.withC,Nat.ne_of_lt hb]
 have hnew:(σ.withC H.n w.heap.size).c H.n=w.heap.size:=by simp [Gh.withC]
 have fcells : ∀ b x,(H.new (.obj vs S)).f b=some (.cells x) → H.f b=some (.cells x):=by
  intro b x h
  rw [Hp.f_new] at h
  split at h
  · cases h
  · exact h
 have ftail : ∀ b k d,(H.new (.obj vs S)).f b=some (.tl k d) → H.f b=some (.tl k d):=by
  intro b x d h
  rw [Hp.f_new] at h
  split at h
  · cases h
  · exact h
 have fobj : ∀ b vs' T,(H.new (.obj vs S)).f b=some (.obj vs' T) → (b=H.n∧vs'=vs∧T=S) ∨ H.f b=some (.obj vs' T):=by
  intro b vs' T h
  rw [Hp.f_new] at h
  split at h
  · rename_i hh;cases h;exact .inl ⟨hh,rfl,rfl⟩
  · exact .inr h
 have hev:Ev H.n σ H w (σ.withC H.n w.heap.size) (H.new (.obj vs S)) (w.alloc o):=by
  refine⟨fun g o1 v h1 h2 => ?_,hold,by simp [Hp.n_new],fun b hb k d hk=>⟨k,d,ftail b k d hk,Nat.le_refl _,fun _=>rfl⟩,by simp,fun g hg hf=>⟨heap_alloc_old w _ hg,?_,?_,?_⟩,rfl,rfl⟩
  · have hlt:g < w.heap.size:=World.block_lt_of_cell? (a:=⟨g,o1,none⟩) w h2
    refine⟨⟨fun b x h => ?_,fun b k d o2 s h ht=>h1.2 b k d o2 s (ftail _ _ _ h) ht⟩,by rw [World.cell?_alloc_lt (a:=⟨g,o1,none⟩) w _ hlt];exact h2⟩
    have h:=fcells _ _ h
    rw [hold b (Hp.lt h)];exact h1.1 b x h
  · intro b x h
    have h:=fcells _ _ h
    rw [hold b (Hp.lt h)];exact hf.1 b x h
  · exact fun b k d o2 s h ht=>hf.2 b k d o2 s (ftail _ _ _ h) ht
  · intro b vs' T h
    rcases fobj b vs' T h with ⟨rfl,_,_⟩ | h
    · rw [hnew];omega
    · rw [hold b (Hp.lt h)];exact hf.3 b vs' T h
 refine⟨⟨fun b x h => ?_,fun b k d g o2 s h ht => ?_,hr.vec_keep hev (fun b k ds h=>⟨ftail _ _ _ h,rfl⟩) (fun b k ds g o2 s _ h ht=>heap_alloc_old w _ (hr.t_lt h ht)),fun b1 b2 x y h1 h2 he => ?_,fun b1 b2 x k d g o2 s h1 h2 ht => ?_,
  fun b1 b2 k d k' d' g o2 s o3 s' h1 h2=>hr.tt b1 b2 k d k' d' g o2 s o3 s' (ftail _ _ _ h1) (ftail _ _ _ h2),hr.glob_mono hev,fun b vs' T h => ?_,fun b1 b2 v1 v2 T1 T2 h1 h2 he => ?_,hr.gm_mono hev⟩,hev⟩
 · have h:=fcells _ _ h
   obtain⟨c,ee,q1,q2,q3⟩:=hr.cells b x h
   exact⟨c,ee,by rw [hold b (Hp.lt h),heap_alloc_old w _ (hr.c_lt h)];exact q1,q2,fun i y hy=>let ⟨v,a,b⟩:=q3 i y hy;⟨v,a,b.mono hev⟩⟩
 · have h:=ftail _ _ _ h
   obtain⟨c,ee,q1,q2⟩:=hr.tail b k d g o2 s h ht
   exact⟨c,ee,by rw [heap_alloc_old w _ (hr.t_lt h ht)];exact q1,q2⟩
 · have h1:=fcells _ _ h1
   have h2:=fcells _ _ h2
   rw [hold b1 (Hp.lt h1),hold b2 (Hp.lt h2)] at he
   exact hr.cc b1 b2 x y h1 h2 he
 · have h1:=fcells _ _ h1
   rw [hold b1 (Hp.lt h1)];exact hr.ct b1 b2 x k d g o2 s h1 (ftail _ _ _ h2) ht
 · rcases fobj b vs' T h with ⟨rfl,rfl,rfl⟩ | h
   · exact⟨o,us,by rw [hnew];exact heap_alloc_new w _,ho,hus.mono hev,hS⟩
   · obtain⟨o1,us1,q1,q2,q3,q4⟩:=hr.objs b vs' T h
     exact⟨o1,us1,by rw [hold b (Hp.lt h),heap_alloc_old w _ (hr.o_lt h)];exact q1,q2,q3.mono hev,q4⟩
 · rcases fobj b1 v1 T1 h1 with ⟨p1,_,_⟩ | p1<;>rcases fobj b2 v2 T2 h2 with ⟨p2,_,_⟩ | p2
   · rw [p1,p2]
   · rw [p1,hnew,hold b2 (Hp.lt p2)] at he
     have:=hr.o_lt p2;omega
   · rw [p2,hnew,hold b1 (Hp.lt p1)] at he
     have:=hr.o_lt p1;omega
   · rw [hold b1 (Hp.lt p1),hold b2 (Hp.lt p2)] at he
     exact hr.oo b1 b2 _ _ _ _ p1 p2 he
end states

def zeR (P:Program) (k:TypeId):Bool :=
 match P.underlying k with
 | some (.int _) | some .bool | some .string=>true
 | some (.array _ _) | some (.struct _)=>decide (k < P.types.size) && P.keyTypeAt 9999 k && laidOutB P
 | _=>false

theorem zcQ {P:Program} {k:TypeId} (h:zeR P k=true):Maps.Keyed P k:=by
 unfold zeR at h
 split at h
 · rename_i q hq;exact Maps.int_keyed hq
 · rename_i hq;exact Maps.bool_keyed hq
 · rename_i hq;exact .of_law (WideMaps.string_law hq)
 · rename_i hq
   simp only [Bool.and_eq_true,decide_eq_true_eq] at h
   exact .of_law (deep_law_laid h.2 (by omega) h.1.1 h.1.2 (by rw [hq]))
 · rename_i hq
   simp only [Bool.and_eq_true,decide_eq_true_eq] at h
   exact .of_law (deep_law_laid h.2 (by omega) h.1.1 h.1.2 (by rw [hq]))
 · cases h

def PV.val? : PV → Option Value
 | .s v=>some v
 | .agg xs=>(zbC xs).map fun vs => .agg vs.toArray
 | _=>none
def AV.key? : AV → Option Value
 | .p x=>x.val?
 | _=>none

theorem AV.key?_rel {σ H w} {x:AV} {kv v:Value} (h:x.key? = some kv) (r:RelV σ H w x v):v=kv:=by
 cases x<;>simp only [AV.key?] at h<;>try cases h
 rename_i x
 cases r with | p r =>
 cases r with
 | s v h1=>simpa [PV.val?] using h
 | agg xs vs hl h1 hh =>
  simp only [PV.val?,Option.map_eq_some_iff] at h
  obtain⟨us,h2,rfl⟩:=h
  have:=zct (w:=w) (vs:=vs.toList) h2 (by simp [hl]) (fun i x v a b=>hh i x v a (by simpa using b))
  rw [←this]
 | emp=>simp [PV.val?] at h
 | sl=>simp [PV.val?] at h

def AB.map? : AB → Option (List (Value × AV))
 | .obj vals S=>S.ks.map fun ks=>ks.zip vals
 | _=>none

theorem map?_mapB (m:List (Value × AV)):(AB.mapB m).map? = some m:=by
 simp only [AB.mapB,AB.map?,zh2,Option.map_some,Option.some.injEq]
 rw [List.zip_map']
 simp

def zb6 (P:Program) (kt:TypeId) (ks:List Value):Bool:=ks.all fun k=>(keyOf P kt k).isSome

def zbR (P:Program) (kt:TypeId) (a b:Value):Bool :=
 match keyOf P kt a,keyOf P kt b with
 | some x,some y=>x.sameKey y
 | _,_=>false

theorem zcR {P:Program} {kt:TypeId} (K:Maps.Keyed P kt) {a:Value} {l:Lit} (h:keyOf P kt a=some l):zbR P kt a a=true:=by
 simp only [zbR,h];exact WideAt.sameKey_self (K.key h)
theorem zbn {P:Program} {kt:TypeId} (K:Maps.Keyed P kt) {a b:Value} (h:zbR P kt a b=true):a=b:=by
 unfold zbR at h
 split at h
 · rename_i x y hx hy
   obtain rfl:=WideAt.sameKey_eq h
   exact K.inj hx hy
 · cases h

def zbS (P:Program) (kt:TypeId) (kv:Value):List (Value × AV) → Option AV
 | []=>none
 | (k,v) :: m=>if zbR P kt k kv=true then some v else zbS P kt kv m

def zef (P:Program) (kt:TypeId) (kv:Value) (x:AV):List (Value × AV) → List (Value × AV)
 | []=>[(kv,x)]
 | (k,v) :: m=>if zbR P kt k kv=true then (k,x) :: m else (k,v) :: zef P kt kv x m

section find
variable {P:Program} {kt:TypeId} {kv:Value} {l:Lit} (K:Maps.Keyed P kt) (hkv:keyOf P kt kv=some l)
include K hkv

theorem zgo {x:AV} : ∀ {m:List (Value × AV)} {j:Nat},(∀ p∈m,(keyOf P kt p.1).isSome=true) → (m.map (·.1)).Nodup → m[j]? = some (kv,x) → zbS P kt kv m=some x
 | [],j,_,_,h=>by simp at h
 | (k,v) :: m,0,_,_,h=>by
  simp only [List.getElem?_cons_zero,Option.some.injEq,Prod.mk.injEq] at h
  obtain⟨rfl,rfl⟩:=h
  simp [zbS,zcR K hkv]
 | (k,v) :: m,j+1,hok,hnd,h=>by
  simp only [List.getElem?_cons_succ] at h
  simp only [List.map_cons,List.nodup_cons] at hnd
  have hne : ¬ zbR P kt k kv=true:=fun e=>hnd.1 (by
   obtain rfl:=zbn K e
   exact List.mem_map.2 ⟨(k,x),List.mem_of_getElem? h,rfl⟩)
  rw [zbS,if_neg hne]
  exact zgo (fun p hp=>hok p (by simp [hp])) hnd.2 h

theorem zeS : ∀ {m:List (Value × AV)},(∀ p∈m,p.1≠kv) → zbS P kt kv m=none
 | [],_=>rfl
 | (k,v) :: m,h=>by
  have hne : ¬ zbR P kt k kv=true:=fun e=>h (k,v) (by simp) (zbn K e)
  rw [zbS,if_neg hne]
  exact zeS fun p hp=>h p (by simp [hp])

theorem zia {x y:AV} : ∀ {m:List (Value × AV)} {j:Nat},(m.map (·.1)).Nodup → m[j]? = some (kv,y) → zef P kt kv x m=m.modify j (fun _=>(kv,x))
 | [],j,_,h=>by simp at h
 | (k,v) :: m,0,_,h=>by
  simp only [List.getElem?_cons_zero,Option.some.injEq,Prod.mk.injEq] at h
  obtain⟨rfl,rfl⟩:=h
  simp [zef,zcR K hkv]
 | (k,v) :: m,j+1,hnd,h=>by
  simp only [List.getElem?_cons_succ] at h
  simp only [List.map_cons,List.nodup_cons] at hnd
  have hne : ¬ zbR P kt k kv=true:=fun e=>hnd.1 (by
   obtain rfl:=zbn K e
   exact List.mem_map.2 ⟨(k,y),List.mem_of_getElem? h,rfl⟩)
  rw [zef,if_neg hne,zia hnd.2 h]
  simp

theorem zgp {x:AV} : ∀ {m:List (Value × AV)},(∀ p∈m,p.1≠kv) → zef P kt kv x m=m++[(kv,x)]
 | [],_=>rfl
 | (k,v) :: m,h=>by
  have hne : ¬ zbR P kt k kv=true:=fun e=>h (k,v) (by simp) (zbn K e)
  rw [zef,if_neg hne,zgp fun p hp=>h p (by simp [hp])]
  rfl
end find

def zb7 (P:Program) (t:TypeId):Option AV :=
 match (P.info? t).bind (·.zero),zB P t with
 | some (.agg _),some ps=>some (.p (.agg ps))
 | some _,some [p]=>some (.p p)
 | _,_=>none

theorem zcS {P:Program} {σ:Gh} {H:Hp} {w:World} {t:TypeId} {x:AV} (h:zb7 P t=some x) : ∃ v,(zeroValue t).run P w = .ok v w∧RelV σ H w x v:=by
 unfold zb7 at h
 split at h
 · rename_i cs ps hz hps
   cases h
   obtain⟨z,h1,h2,h3,h4⟩:=zS (w:=w) (S:=Stable σ H) hps
   rw [hz] at h2
   cases h2
   refine⟨_,h1,.p (.agg ps cs h3 (fun i v hv => ?_) (fun i p v hp hv=>(h4 i p v hp hv).1))⟩
   have hlt:i < ps.length:=by rw [←h3];exact (Array.getElem?_eq_some_iff.1 hv).1
   exact (h4 i ps[i] v (by simp) hv).2
 · rename_i v p hne hz hps
   cases h
   obtain⟨z,h1,h2,h3,h4⟩:=zS (w:=w) (S:=Stable σ H) hps
   rw [hz] at h2
   cases h2
   refine⟨_,h1,.p ?_⟩
   have hc:v.cells = #[v]:=by
    cases v with
    | agg cs=>exact absurd rfl (hne cs)
    | _=>rfl
   exact (h4 0 p v rfl (by rw [hc];rfl)).1
 · cases h

def zcu (P:Program) (gm:Nat → Option (List (Value × AV))) (H:Hp) (t:TypeId) (x ix:AV) (ok:Bool):Option AV :=
 match P.underlying t with
 | some (.map kt et) =>
  match (match x with | .mp b=>(H.f b).bind AB.map? | .p (.s (.map none))=>some [] | .p (.s (.map (some r)))=>gm r | _=>none),ix.key? with
  | some m,some kv =>
   if zeR P kt∧zb6 P kt (kv :: m.map (·.1)) then
    match zbS P kt kv m,zb7 P et with
    | some v,some _=>some (if ok then .tup [v,.p (.s (.bool true))] else v)
    | none,some z=>some (if ok then .tup [z,.p (.s (.bool false))] else z)
    | _,_=>none
   else none
  | _,_=>none
 | _=>none

def zaz (P:Program) (H:Hp) (t:TypeId) (x ix y:AV):Option Hp :=
 match P.underlying t,x with
 | some (.map kt _),.mp b =>
  match (H.f b).bind AB.map?,ix.key? with
  | some m,some kv=>if zeR P kt∧zb6 P kt (kv :: m.map (·.1)) then some (H.set b (.mapB (zef P kt kv y m))) else none
  | _,_=>none
 | _,_=>none

section runs
variable {P:Program} {G:Globs} {σ:Gh} {H:Hp} {w:World}

theorem zmi (hr:Rel G σ H w) {b:Nat} {m:List (Value × AV)} (hb:(H.f b).bind AB.map? = some m) :
 ∃ vs S es clock,H.f b=some (.obj vs S)∧w.heap[σ.c b]? = some (.map es clock)∧es.toList.map (·.key)=m.map (·.1)∧(m.map (·.1)).Nodup∧(es.toList.map (·.born)).Nodup∧(∀ e∈es.toList,e.born < clock) ∧
  es.size=m.length ∧ ∀ (j:Nat) e p,es[j]? = some e → m[j]? = some p → e.key=p.1∧RelV σ H w p.2 e.val:=by
 cases hf:H.f b with
 | none=>simp [hf] at hb
 | some x =>
  rw [hf] at hb
  cases x with
  | obj vs S =>
   simp only [Option.bind_some,AB.map?,Option.map_eq_some_iff] at hb
   obtain⟨ks,hks,rfl⟩:=hb
   obtain⟨o,us,h1,h2,h3,h4⟩:=hr.objs b vs S hf
   obtain⟨es,clock,rfl,e1,e2,e3,e4,e5⟩:=S.map ks hks us o h4
   have hl1:ks.length=es.size:=by rw [←e1];simp
   have hl2:vs.length=es.size:=by rw [←h3.1,←Array.length_toList,←e2];simp
   have hm1:(ks.zip vs).map (·.1)=ks:=List.map_fst_zip (by omega)
   refine⟨vs,S,es,clock,rfl,h1,by rw [hm1,e1],by rw [hm1];exact e3,e4,e5,by simp;omega,fun j e p hj hp => ?_⟩
   rw [List.getElem?_zip_eq_some] at hp
   have hk:(es.toList.map (·.key))[j]? = some e.key:=by simp [hj]
   have hv:(es.toList.map (·.val))[j]? = some e.val:=by simp [hj]
   rw [e1,hp.1] at hk
   rw [e2] at hv
   exact⟨(Option.some.inj hk).symm,h3.2 j p.2 e.val hp.2 (by simpa using hv)⟩
  | _=>simp [AB.map?] at hb

theorem zib (hr:Rel G σ H w) {t:TypeId} {x ix y:AV} {ok:Bool} {vx vi:Value} (h:zcu P G.map H t x ix ok=some y) (hx:RelV σ H w x vx) (hi:RelV σ H w ix vi) :
 ∃ v,(Instr.lookup t vx vi ok).run P w = .ok v w∧RelV σ H w y v:=by
 unfold zcu at h
 split at h
 case h_2=>cases h
 rename_i kt et hu
 split at h
 case h_2=>cases h
 rename_i m kv hm hkv
 obtain rfl:=AV.key?_rel hkv hi
 split at h
 case isFalse=>cases h
 rename_i hc
 obtain⟨hkt,hok⟩:=hc
 have K:=zcQ hkt
 simp only [zb6,List.all_cons,Bool.and_eq_true,List.all_eq_true,List.mem_map] at hok
 obtain⟨hk0,hks⟩:=hok
 obtain⟨lk,hlk⟩:=Option.isSome_iff_exists.1 hk0
 -- the entries
 have hes : ∃ es:Array MapEntry,((vx = .map none∧es = #[]) ∨ ∃ r clock,vx = .map (some r)∧w.heap[r]? = some (.map es clock))∧(m.map (·.1)).Nodup∧es.size=m.length ∧ ∀ (j:Nat) e p,es[j]? = some e → m[j]? = some p → e.key=p.1∧RelV σ H w p.2 e.val:=by
  split at hm
  · rename_i b
    cases hx with | mp hb =>
    obtain⟨vs,S,es,clock,_,h1,_,h3,_,_,h6,h7⟩:=zmi hr hm
    exact⟨es,.inr ⟨_,clock,rfl,h1⟩,h3,h6,h7⟩
  · cases hm
    obtain rfl:vx = .map none:=by cases hx with | p hp=>cases hp;rfl
    exact⟨#[],.inl ⟨rfl,rfl⟩,by simp,by simp,by simp⟩
  · rename_i r
    obtain rfl:vx = .map (some r):=by cases hx with | p hp=>cases hp;rfl
    obtain⟨⟨es,clock,h1,h2,h3,h4⟩,_⟩:=hr.gm r m hm
    exact⟨es,.inr ⟨r,clock,rfl,h1⟩,h3,h2,h4⟩
  · cases hm
 obtain⟨es,he,hnd,hsz,hent⟩:=hes
 have hkeys : ∀ e∈es.toList,∃ l,keyOf P kt e.key=some l:=fun e hmem=>by
  obtain⟨j,hj⟩:=List.getElem?_of_mem hmem
  have hlt:j < m.length:=by rw [←hsz];simpa using (List.getElem?_eq_some_iff.1 hj).1
  have hp:m[j]? = some m[j]:=by simp [hlt]
  obtain⟨h1,_⟩:=hent j e m[j] (by simpa using hj) hp
  rw [h1]
  exact Option.isSome_iff_exists.1 (hks _ ⟨m[j],List.mem_of_getElem? hp,rfl⟩)
 have hchk:=K.check w es.isEmpty hlk
 have hrun : ∀ q:Option (Nat × Value),(Instr.findKey kt vi es.toList).run P w = .ok q w → (Instr.lookup t vx vi ok).run P w =
  ((do let (v,ok') ←(match q with | some (_,v)=>pure (v,true) | none=>do pure (←zeroValue et,false):Sem (Value × Bool));pure (if ok then .tuple #[v,.bool ok'] else v):Sem Value).run P w):=fun q hfind=>by
  unfold Instr.lookup
  rcases he with ⟨rfl,rfl⟩ | ⟨r,clock,rfl,hw⟩
  · cases q<;>simp only [Sem.run_bind,run_underlying hu,Result.andThen_ok,Sem.run_pure,hchk,hfind]<;>cases (zeroValue et).run P w<;>simp [Result.andThen]
  · cases q<;>simp only [Sem.run_bind,run_underlying hu,Result.andThen_ok,Sem.run_pure,MapKept.run_getObj_map hw,hchk,hfind]<;>cases (zeroValue et).run P w<;>simp [Result.andThen]
 rcases K.find w hlk es.toList hkeys with ⟨hfind,hne⟩ | ⟨j,e,hfind,hj,hkey⟩
 · have hmiss:zbS P kt vi m=none:=zeS K hlk fun p hp e=>by
    obtain⟨j,hj⟩:=List.getElem?_of_mem hp
    have hlt:j < es.size:=by rw [hsz];exact (List.getElem?_eq_some_iff.1 hj).1
    obtain⟨h1,_⟩:=hent j es[j] p (by simp) hj
    exact hne es[j] (by simp) (h1.trans e)
   rw [hmiss] at h
   split at h
   · rename_i h1 _;cases h1
   · rename_i z _ hz
     obtain⟨v,hv,hzv⟩:=zcS (σ:=σ) (H:=H) (w:=w) hz
     rw [hrun _ hfind]
     cases h
     refine⟨if ok then .tuple #[v,.bool false] else v,by simp [hv],?_⟩
     cases ok
     · exact hzv
     · refine .tup _ (by simp) fun i x v' h1 h2 => ?_
       rcases i with _ | _ | i
       · simp at h1 h2;subst h1;subst h2;exact hzv
       · simp at h1 h2;subst h1;subst h2;exact .p (.s _ rfl)
       · simp at h1
   · cases h
 · have hj':es[j]? = some e:=by simpa using hj
   have hlt:j < m.length:=by rw [←hsz];exact (Array.getElem?_eq_some_iff.1 hj').1
   have hp:m[j]? = some m[j]:=by simp [hlt]
   obtain⟨h1,h2⟩:=hent j e m[j] hj' hp
   have hhit:zbS P kt vi m=some m[j].2:=zgo K hlk (fun p hp=>hks _ ⟨p,hp,rfl⟩) hnd (by rw [hp,←hkey,h1])
   rw [hhit] at h
   split at h
   · rename_i v _ h3 _
     cases h3
     rw [hrun _ hfind]
     cases h
     refine⟨if ok then .tuple #[e.val,.bool true] else e.val,by simp,?_⟩
     cases ok
     · exact h2
     · refine .tup _ (by simp) fun i x v' h1 h2' => ?_
       rcases i with _ | _ | i
       · simp at h1 h2';subst h1;subst h2';exact h2
       · simp at h1 h2';subst h1;subst h2';exact .p (.s _ rfl)
       · simp at h1
   · rename_i h3 _;cases h3
   · cases h

theorem zd1 (hr:Rel G σ H w) {t:TypeId} {x ix y:AV} {H':Hp} {vx vi vy:Value} (h:zaz P H t x ix y=some H') (hx:RelV σ H w x vx) (hi:RelV σ H w ix vi) (hy:RelV σ H w y vy) :
 ∃ w',(Instr.mapUpdate t vx vi vy).run P w = .ok () w'∧Rel G σ H' w'∧Ev H.n σ H w σ H' w':=by
 unfold zaz at h
 split at h
 case h_2=>cases h
 rename_i kt et b hu
 split at h
 case h_2=>cases h
 rename_i m kv hm hkv
 obtain rfl:=AV.key?_rel hkv hi
 split at h
 case isFalse=>cases h
 rename_i hc
 obtain⟨hkt,hok⟩:=hc
 cases h
 have K:=zcQ hkt
 simp only [zb6,List.all_cons,Bool.and_eq_true,List.all_eq_true,List.mem_map] at hok
 obtain⟨hk0,hks⟩:=hok
 obtain⟨lk,hlk⟩:=Option.isSome_iff_exists.1 hk0
 cases hx with | mp hbn =>
 obtain⟨vs,S,es,clock,hb,hw,hkk,hnd,hborn,hclk,hsz,hent⟩:=zmi hr hm
 have hkeys : ∀ e∈es.toList,∃ l,keyOf P kt e.key=some l:=fun e hmem=>by
  have:e.key∈m.map (·.1):=by rw [←hkk];exact List.mem_map.2 ⟨e,hmem,rfl⟩
  exact Option.isSome_iff_exists.1 (hks _ (by simpa using this))
 have hchk:=K.check w false hlk
 have hset : ∀ o,(setObj (σ.c b) o).run P w = .ok () (w.putObj (σ.c b) o):=fun o=>MapKept.run_setObj_map o hw
 have hvals : ∀ (j:Nat) p e,m[j]? = some p → es[j]? = some e → RelV σ H w p.2 e.val:=fun j p e h1 h2=>(hent j e p h2 h1).2
 rcases K.find w hlk es.toList hkeys with ⟨hfind,hne⟩ | ⟨j,e,hfind,hj,hkey⟩
 · have hput:zef P kt vi y m=m++[(vi,y)]:=zgp K hlk fun p hp e=>by
    have:p.1∈es.toList.map (·.key):=by rw [hkk];exact List.mem_map.2 ⟨p,hp,rfl⟩
    obtain⟨e',h1,h2⟩:=List.mem_map.1 this
    exact hne e' h1 (h2.trans e)
   refine⟨w.putObj (σ.c b) (.map (es.push { key:=vi,val:=vy,born:=clock }) (clock+1)),?_,?_⟩
   · unfold Instr.mapUpdate
     simp [run_underlying hu,MapKept.run_getObj_map hw,hchk,hfind,hset]
   · rw [hput]
     refine zac hr hb hw rfl (S':=zh2 ((m++[(vi,y)]).map (·.1))) (o' := .map (es.push { key:=vi,val:=vy,born:=clock }) (clock+1)) (vs':=(m++[(vi,y)]).map (·.2)) (us:=(es.push { key:=vi,val:=vy,born:=clock }).map (·.val)) ⟨by simp [hsz],fun i x v h1 h2 => ?_⟩ rfl ?_
     · by_cases hi:i < m.length
       · have hp:m[i]? = some m[i]:=by simp [hi]
         have he:es[i]? = some es[i]:=by simp [hsz,hi]
         simp [List.getElem?_append_left,hi,hp] at h1
         simp [Array.getElem?_push,hsz,Nat.ne_of_lt hi,he,hi] at h2
         subst h1;subst h2
         exact hvals i m[i] es[i] hp he
       · have:i=m.length:=by
          have:=(List.getElem?_eq_some_iff.1 h1).1
          simp at this;omega
         subst this
         simp at h1
         rw [Array.map_push,Array.getElem?_push,Array.size_map,if_pos hsz.symm] at h2
         simp at h2
         subst h1;subst h2
         exact hy
     · refine⟨_,_,rfl,by simp [hkk],by simp,?_,?_,fun e he => ?_⟩
       · simp only [List.map_append,List.map_cons,List.map_nil]
         rw [List.nodup_append]
         refine⟨hnd,by simp,fun a ha b hb => ?_⟩
         simp only [List.mem_singleton] at hb
         subst hb
         rw [←hkk] at ha
         obtain⟨e',h1,h2⟩:=List.mem_map.1 ha
         exact fun h=>hne e' h1 (h2.trans h)
       · simp only [Array.toList_push,List.map_append,List.map_cons,List.map_nil]
         rw [List.nodup_append]
         refine⟨hborn,by simp,fun a ha b hb => ?_⟩
         simp only [List.mem_singleton] at hb
         subst hb
         obtain⟨e',h1,h2⟩:=List.mem_map.1 ha
         have:=hclk e' h1
         omega
       · simp only [Array.toList_push,List.mem_append,List.mem_singleton] at he
         rcases he with he | rfl
         · exact Nat.lt_succ_of_lt (hclk e he)
         · exact Nat.lt_succ_self _
 · have hj':es[j]? = some e:=by simpa using hj
   have hjl:j < es.size:=(Array.getElem?_eq_some_iff.1 hj').1
   have hlt:j < m.length:=by omega
   have hp:m[j]? = some m[j]:=by simp [hlt]
   obtain⟨h1,h2⟩:=hent j e m[j] hj' hp
   have hput:zef P kt vi y m=m.modify j (fun _=>(vi,y)):=zia K hlk (y:=m[j].2) hnd (by rw [hp,←hkey,h1])
   have hst:=K.stays w hlk
   refine⟨w.putObj (σ.c b) (.map (es.modify j fun e => { e with key:=vi,val:=vy }) clock),?_,?_⟩
   · unfold Instr.mapUpdate
     simp [run_underlying hu,MapKept.run_getObj_map hw,hchk,hfind,hset,hj',hkey,hst]
   · rw [hput]
     have hkeys':(es.modify j fun e => { e with key:=vi,val:=vy }).toList.map (·.key)=es.toList.map (·.key):=by
      apply List.ext_getElem?
      intro i
      simp only [List.getElem?_map,Array.getElem?_toList,Array.getElem?_modify]
      by_cases hij:j=i
      · subst hij;simp [hj',hkey]
      · simp [hij]
     have hborn':(es.modify j fun e => { e with key:=vi,val:=vy }).toList.map (·.born)=es.toList.map (·.born):=by
      apply List.ext_getElem?
      intro i
      simp only [List.getElem?_map,Array.getElem?_toList,Array.getElem?_modify]
      by_cases hij:j=i
      · subst hij;simp [hj']
      · simp [hij]
     have hm':(m.modify j fun _=>(vi,y)).map (·.1)=m.map (·.1):=by
      apply List.ext_getElem?
      intro i
      simp only [List.getElem?_map,List.getElem?_modify]
      by_cases hij:j=i
      · subst hij;simp [hp,←h1,hkey]
      · simp [hij]
     refine zac hr hb hw rfl (S':=zh2 ((m.modify j fun _=>(vi,y)).map (·.1))) (o' := .map (es.modify j fun e => { e with key:=vi,val:=vy }) clock) (vs':=(m.modify j fun _=>(vi,y)).map (·.2)) (us:=(es.modify j fun e => { e with key:=vi,val:=vy }).map (·.val)) ⟨by simp [hsz],fun i x v h3 h4 => ?_⟩ rfl ?_
     · simp only [List.getElem?_map,List.getElem?_modify,Array.getElem?_map,Array.getElem?_modify,Option.map_eq_some_iff] at h3 h4
       obtain⟨q,hq,rfl⟩:=h3
       obtain⟨f,hf,rfl⟩:=h4
       by_cases hij:j=i
       · subst hij
         simp [hp] at hq
         simp [hj'] at hf
         subst hq;subst hf
         exact hy
       · simp [hij] at hq hf
         exact hvals i q f hq hf
     · exact⟨_,_,rfl,by rw [hkeys',hkk,hm'],by simp,by rw [hm'];exact hnd,by rw [hborn'];exact hborn,fun e' he'=>by
        have:e'.born∈es.toList.map (·.born):=by rw [←hborn'];exact List.mem_map.2 ⟨e',he',rfl⟩
        obtain⟨e2,h5,h6⟩:=List.mem_map.1 this
        rw [←h6];exact hclk e2 h5⟩

theorem zic (hr:Rel G σ H w) {t:TypeId} :
 ∃ v w' σ',(Instr.makeMap t none).run P w = .ok v w'∧RelV σ' (H.new (.mapB [])) w' (.mp H.n) v∧Rel G σ' (H.new (.mapB [])) w'∧Ev H.n σ H w σ' (H.new (.mapB [])) w':=by
 obtain⟨h1,h2⟩:=zeQ hr (.map #[] 0) rfl [] #[] (zh2 []) ⟨rfl,by simp⟩ ⟨#[],0,rfl,by simp,by simp,by simp,by simp,by simp⟩
 refine⟨.map (some w.heap.size),w.alloc (.map #[] 0),_,by simp [Instr.makeMap,newObj,Sem.run],?_,h1,h2⟩
 have:RelV (σ.withC H.n w.heap.size) (H.new (.mapB [])) (w.alloc (.map #[] 0)) (.mp H.n) (.map (some ((σ.withC H.n w.heap.size).c H.n))) := .mp (by simp [Hp.n_new])
 simpa [Gh.withC] using this
end runs

end Go.AL

/-
  Functions of Go's library that have no body here: what they come to on numbers.
  Conditions: none;nothing here speaks of one program.
-/
namespace Go.AL
open Go

def zbD (P:Program) (f:FuncId):Option String :=
  match P.funcs[f]? with
  | some fn => if fn.body.isNone && fn.origin == "" then some fn.name else none
  | none=>none

def zid:List AV → Option (List Int)
 | []=>some []
 | .p (.s (.int .u64 n)) :: xs=>(zid xs).map (n :: ·)
 | _=>none

def zni (nm:String) (args:List AV):Option AV :=
  match zid args with
  | some [x,y,c] =>
    if 0≤x∧0≤y∧0≤c∧c≤1 then
      if nm = "math/bits.Add64" then some (.tup [.p (.s (.int .u64 ((x.toNat + y.toNat + c.toNat) % 2 ^ 64 : Nat))), .p (.s (.int .u64 ((x.toNat + y.toNat + c.toNat) / 2 ^ 64 : Nat)))])
      else if nm = "math/bits.Sub64" then some (.tup [.p (.s (.int .u64 ((x.toNat + 2 ^ 64 - y.toNat - c.toNat) % 2 ^ 64 : Nat))), .p (.s (.int .u64 (if x.toNat < y.toNat + c.toNat then 1 else 0 : Nat)))])
      else none
    else none
  | _=>none

theorem zie {σ H w} : ∀ {args:List AV} {ns:List Int} {vs:Array Value},zid args=some ns → RelVs σ H w args vs → vs.toList=ns.map (Value.int .u64)
 | [],ns,vs,h,hv=>by
  simp only [zid,Option.some.injEq] at h
  subst h
  have:=hv.1
  simp at this
  simp [this]
 | x :: xs,ns,vs,h,hv=>by
  obtain⟨l⟩:=vs
  cases l with
  | nil=>have:=hv.1;simp at this
  | cons v vs =>
   cases x with
   | p x =>
    cases x with
    | s u =>
     cases u with
     | int k n =>
      cases k<;>simp only [zid,Option.map_eq_some_iff] at h<;>try cases h
      rename_i ms hms
      obtain⟨hms,rfl⟩:=hms
      have h0:=hv.2 0 _ v rfl rfl
      have ht:=zie (vs:=⟨vs⟩) hms ⟨by simpa using hv.1,fun i x v a b=>hv.2 (i+1) x v (by simpa using a) (by simpa using b)⟩
      simp only at ht
      cases h0 with | p h0 =>
      cases h0
      simp [ht]
     | _=>simp [zid] at h
    | _=>simp [zid] at h
   | _=>simp [zid] at h

theorem zkh {fn : Func} (h : fn.name = "math/bits.Add64") : Extern.find fn = some (fun args => do
    let (x, y, c) ← Extern.MathBitsCarry.three "Add64" args
    pure (Extern.MathBitsCarry.pair ((x+y+c) % Extern.MathBitsCarry.m64) ((x+y+c) / Extern.MathBitsCarry.m64))):=by
  unfold Extern.find
  rw [h]
  kernel_rfl
theorem zki {fn : Func} (h : fn.name = "math/bits.Sub64") : Extern.find fn = some (fun args => do
    let (x, y, b) ← Extern.MathBitsCarry.three "Sub64" args
    pure (Extern.MathBitsCarry.pair ((x+Extern.MathBitsCarry.m64 - y - b) % Extern.MathBitsCarry.m64) (if x < y+b then 1 else 0))):=by
  unfold Extern.find
  rw [h]
  kernel_rfl
theorem zpa (nm:String) (x y c:Value):Extern.MathBitsCarry.three nm #[x,y,c]=(do
    let c:=(←asInt c).toNat
    if c > 1 then unsupported (.noEntry ("extern/math/bits." ++ nm ++ ": a carry that is neither 0 nor 1"))
    pure ((←asInt x).toNat,(←asInt y).toNat,c)):=rfl

theorem zgq {P:Program} {w:World} (nm:String) {k1 k2 k3:IntKind} (x y c:Int) (hc : ¬ 1 < c.toNat):(Extern.MathBitsCarry.three nm #[.int k1 x,.int k2 y,.int k3 c]).run P w = .ok (x.toNat,y.toNat,c.toNat) w:=by
 rw [zpa]
 simp only [asInt,asIntOf,Sem.run_bind,Sem.run_pure,Result.andThen_ok,gt_iff_lt,hc,if_false]

theorem zdH {fn : Func} (n : String) (h : fn.name = n) (ho : fn.origin = "") (h1 : (Extern.allNextRows.lookup n).isNone = true) : Extern.findNext fn = none := by
  unfold Extern.findNext
  rw [h,ho]
  have h2 : (Extern.allNextRows.lookup "").isNone = true := by kernel_rfl
  simp only [Option.isNone_iff_eq_none] at h1 h2
  simp [h1,h2]

theorem zsi {P:Program} {σ:Gh} {H:Hp} {w:World} {f:FuncId} {nm:String} {args:List AV} {y:AV} {vs:Array Value} (hn:zbD P f=some nm) (h:zni nm args=some y) (hv:RelVs σ H w args vs) :
 ∃ v,(callFunc f vs).run P w = .ok (.value v) w∧RelV σ H w y v:=by
 unfold zbD at hn
 split at hn
 case h_2=>cases hn
 rename_i fn hf
 split at hn
 case isFalse=>cases hn
 rename_i hc
 cases hn
 simp only [Bool.and_eq_true,beq_iff_eq] at hc
 obtain⟨hb,ho⟩:=hc
 unfold zni at h
 split at h
 case h_2=>cases h
 rename_i x y' c hu
 have hl:=zie hu hv
 obtain rfl:vs = #[.int .u64 x,.int .u64 y',.int .u64 c]:=by
  apply Array.ext'
  simpa using hl
 split at h
 case isFalse=>cases h
 rename_i hr
 have hc1 : ¬ 1 < c.toNat:=by omega
 split at h
 · rename_i he
   cases h
   have hr:=run_callFunc_extern hf (by rw [he];decide) hb (zdH _ he ho (by kernel_rfl)) (zkh he) #[.int .u64 x,.int .u64 y',.int .u64 c] w
   refine⟨.tuple #[.int .u64 ((x.toNat+y'.toNat+c.toNat) % 2 ^ 64:Nat),.int .u64 ((x.toNat+y'.toNat+c.toNat) / 2 ^ 64:Nat)],?_,.tup _ rfl fun i x v h1 h2 => ?_⟩
   · rw [hr]
     simp only [Sem.run_bind,zgq _ _ _ _ hc1,Result.andThen_ok,Sem.run_pure]
     rfl
   · rcases i with _ | _ | i
     · simp at h1 h2;subst h1;subst h2;exact .p (.s _ rfl)
     · simp at h1 h2;subst h1;subst h2;exact .p (.s _ rfl)
     · simp at h1
 · split at h
   case isFalse=>cases h
   rename_i he
   cases h
   have hr:=run_callFunc_extern hf (by rw [he];decide) hb (zdH _ he ho (by kernel_rfl)) (zki he) #[.int .u64 x,.int .u64 y',.int .u64 c] w
   refine⟨.tuple #[.int .u64 ((x.toNat+2 ^ 64 - y'.toNat - c.toNat) % 2 ^ 64:Nat),.int .u64 (if x.toNat < y'.toNat+c.toNat then 1 else 0:Nat)],?_,.tup _ rfl fun i x v h1 h2 => ?_⟩
   · rw [hr]
     simp only [Sem.run_bind,zgq _ _ _ _ hc1,Result.andThen_ok,Sem.run_pure]
     rfl
   · rcases i with _ | _ | i
     · simp at h1 h2;subst h1;subst h2;exact .p (.s _ rfl)
     · simp at h1 h2;subst h1;subst h2;exact .p (.s _ rfl)
     · simp at h1

end Go.AL

/-
  One operation's step on abstract values,a region's operations in the text's order,calls and returns.
  Conditions: none;nothing here speaks of one program.
-/
namespace Go.AL
open Go

inductive SRes where
 | val (x:AV) (H:Hp)
 | unit (H:Hp)
 | call (f:FuncId) (args:List AV)
 | yield (b:Nat) (args:List AV)
 | fail

def vH (x:Option AV) (H:Hp):SRes:=match x with | some x => .val x H | none => .fail
def vHH (x:Option (AV × Hp)):SRes:=match x with | some (x,H) => .val x H | none => .fail
def uH (x:Option Hp):SRes:=match x with | some H => .unit H | none => .fail

def yT (P:Program) (t:TypeId) (v:Value):AV :=
 match v with
 | .slice a l c=>if a.isNone && l == 0 && c == 0 then (match P.underlying t with | some (.slice e) => .p (.sl true (P.cellsOf e) []) | _ => .p (.sl true 0 [])) else .p (.s (.slice a l c))
 | v=>zI v

def y4 (P:Program) (G:Globs) (env:Env) (t:TypeId) (x:Operand):AV :=
 match x with
 | .const v=>yT P t v
 | x=>zD G env x

theorem zdc {σ:Gh} {H:Hp} {w:World} {u v:Value} (h:RelV σ H w (.p (.s u)) v):v=u:=by
 cases h with | p h=>cases h;rfl

def zaA (v:Value):AV:=match v with | .slice none 0 0 => .p (.s (.slice none 0 0)) | v=>zI v
def zaB (P:Program) (t:TypeId) (v:Value):AV:=match v with | .slice none 0 0 => .p (.s (.slice none 0 0)) | v=>yT P t v
def zeT (G:Globs) (env:Env) (x:Operand):AV:=match x with | .const v=>zaA v | x=>zD G env x
def zg0 (P:Program) (G:Globs) (env:Env) (t:TypeId) (x:Operand):AV:=match x with | .const v=>zaB P t v | x=>y4 P G env t x

def z6 (P:Program) (G:Globs) (env:Env):List Operand → List TypeId → List AV
 | [],_=>[]
 | x :: xs,[]=>zD G env x :: z6 P G env xs []
 | x :: xs,t :: ts=>zg0 P G env t x :: z6 P G env xs ts

def yk (G:Globs) (env:Env):List (Nat × Operand) → List (Nat × AV)
 | []=>[]
 | (i,x) :: r=>(i,zD G env x) :: yk G env r

def zam (G:Globs) (env:Env):List Operand → List AV
 | []=>[]
 | x :: r=>zD G env x :: zam G env r

def enters (P : Program) (f : FuncId) : Bool := match P.funcs[f]? with | some fn => fn.body.isSome && !(fn.name == "runtime.NumGoroutine") | none => false

open Classical in
noncomputable def zb8 (P:Program) (t:TypeId) (xs ys:List PV):Option Bool :=
 if P.keyTypeAt 64 t && !P.eqGuardType P.depth t && zJ P t then
  match zbC xs,zbC ys with
  | some a,some b=>match P.keyLits 64 t a,P.keyLits 64 t b with
   | some la,some lb=>some (decide (la=lb))
   | _,_=>none
  | _,_=>none
 else none

theorem zd2 {P:Program} {t:TypeId} {d:Nat} {cs:List Value} {l:List Lit} (ht:zJ P t=true) (h:P.keyLits d t cs=some l):cs.length=P.cellsOf t∧((∃ n e,P.underlying t=some (.array n e)) ∨ ∃ fs,P.underlying t=some (.struct fs)):=by
 cases d with
 | zero=>simp [Program.keyLits] at h
 | succ d =>
  unfold zJ at ht
  split at ht
  case h_2=>cases ht
  rename_i k hk
  cases k<;>simp [zE] at ht
  · rename_i n e
    unfold Program.keyLits at h
    simp only [hk] at h
    split at h
    · rename_i hl;exact⟨hl,.inl ⟨n,e,hk⟩⟩
    · cases h
  · rename_i fs
    unfold Program.keyLits at h
    simp only [hk] at h
    split at h
    · rename_i hl;exact⟨hl.1,.inr ⟨fs,hk⟩⟩
    · cases h

open Classical in
theorem znj {P:Program} {t:TypeId} {xs ys:List PV} {r:Bool} {w:World} {S:Nat → Nat → Prop} {vx vy:Value} (h:zb8 P t xs ys=some r) (hx:RelP w S (.agg xs) vx) (hy:RelP w S (.agg ys) vy) (op:BinOp) (xo yo:Operand) :
 (eqGuard op t xo yo vx vy).run P w = .ok () w∧(Op.equal t vx vy).run P w = .ok r w∧(∃ vs,vx = .agg vs) ∧ ∃ us,vy = .agg us:=by
 cases hx with | agg _ vs hl _ hr =>
 cases hy with | agg _ us hl' _ hr' =>
 unfold zb8 at h
 split at h
 case isFalse=>cases h
 rename_i hc
 simp only [Bool.and_eq_true,Bool.not_eq_true'] at hc
 obtain⟨⟨hk,hg⟩,ha⟩:=hc
 split at h
 case h_2=>cases h
 rename_i a b e1 e2
 split at h
 case h_2=>cases h
 rename_i la lb f1 f2
 cases h
 have q1:vs.toList=a:=zct e1 (by simpa using hl) (fun i x v e e'=>hr i x v e (by simpa using e'))
 have q2:us.toList=b:=zct e2 (by simpa using hl') (fun i x v e e'=>hr' i x v e (by simpa using e'))
 obtain⟨g1,g2⟩:=zd2 ha f1
 obtain⟨g3,_⟩:=zd2 ha f2
 have fm : ∀ {ws:Array Value},ws.size=P.cellsOf t → (Value.agg ws).formed P t=true:=fun hs=>by
  rcases g2 with ⟨n,e,hu⟩ | ⟨fs,hu⟩<;>simp [Value.formed,hu,hs]
 have fx:=fm (ws:=vs) (by rw [←Array.length_toList,q1,g1])
 have fy:=fm (ws:=us) (by rw [←Array.length_toList,q2,g3])
 refine⟨?_,?_,⟨vs,rfl⟩,us,rfl⟩
 · unfold eqGuard
   cases op<;>simp [hg]
 · obtain⟨r,hr,hiff⟩:=run_equalIn_deep 9936 64 t hk w 64 64 (.agg vs) (.agg us) la lb fx fy (by simpa [Value.cells,q1] using f1) (by simpa [Value.cells,q2] using f2)
   by_cases he:la=lb
   · rw [decide_eq_true he,←hiff.2 he];exact hr
   · cases r with
     | false=>rw [decide_eq_false he];exact hr
     | true=>exact absurd (hiff.1 rfl) he

def zkj:AV → Bool
 | .p (.sl _ _ (_ :: _))=>true
 | .sl _ _ _ (_ :: _)=>true
 | .ref .. => true
 | .vr _ (_+1) _=>true
 | _=>false

theorem zkk {σ:Gh} {H:Hp} {w:World} {x:AV} {v:Value} (h:zkj x=true) (hr:RelV σ H w x v) : ∃ a l c,v = .slice (some a) l c:=by
 unfold zkj at h
 split at h
 · cases hr with | p hr=>cases hr;exact⟨_,_,_,rfl⟩
 · cases hr with | sl hr _=>cases hr;exact⟨_,_,_,rfl⟩
 · cases hr;exact⟨_,_,_,rfl⟩
 · cases hr with | vr hr =>
   obtain⟨_,a,c,rfl,ha,_⟩:=hr
   have:=ha (by omega)
   cases a with
   | none=>cases this
   | some a=>exact⟨_,_,_,rfl⟩
 · cases h

noncomputable def zo (P:Program) (op:BinOp) (t:TypeId) (x y:AV):Option AV :=
 match x,y with
 | .p (.s a),.p (.s b)=>(yq P op t a b).map fun v => .p (.s v)
 | .p (.agg xs),.p (.agg ys)=>match op with
  | .eql=>(zb8 P t xs ys).map fun r => .p (.s (.bool r))
  | .neq=>(zb8 P t xs ys).map fun r => .p (.s (.bool !r))
  | _=>none
 | .clo _ _ _,.p (.s .nilFunc)=>if zbz P t then (match op with
  | .eql=>some (.p (.s (.bool false)))
  | .neq=>some (.p (.s (.bool true)))
  | _=>none) else none
 | x,.p (.s (.slice none 0 0))=>if zb0 P t && zkj x then (match op with
  | .eql=>some (.p (.s (.bool false)))
  | .neq=>some (.p (.s (.bool true)))
  | _=>none) else none
 | _,_=>none

def aUn (op:UnOp) (x:AV):Option AV :=
 match x with
 | .p (.s a)=>(vUn op a).map fun v => .p (.s v)
 | _=>none

def yn (P:Program) (H:Hp) (s d:TypeId) (x:AV):Option AV :=
 match P.underlying s,P.underlying d with
 | some (.slice _),some .string=>zab P H s d x
 | some .string,some (.slice _)=>zcs P s d x
 | _,_=>if (P.underlying s).isSome then (match x with | .p (.s a)=>(zbl P d a).map fun v => .p (.s v) | _=>none) else none

def za4 (big:Bool) (x y:AV):Option AV :=
 match x,y with
 | .p (.s (.int k a)),.p (.s (.int k' b))=>if k=k' then some (.p (.s (.int k (if big then max a b else min a b)))) else none
 | _,_=>none

def isIface (P:Program) (t:TypeId):Bool:=match P.underlying t with | some (.interface _) | none=>true | _=>false

def zpb (x:AV):Option AV :=
 match x with
 | .ptr b off=>some (.ptr b off)
 | .ip sz xs i sub=>some (.ip sz xs i sub)
 | .clo f a c=>some (.clo f a c)
 | .vp b k off=>some (.vp b k off)
 | _=>none

def zpc (P:Program) (t:TypeId):Bool:=match P.underlying t with | some (.interface _) | none=>false | _=>true
def zet (P:Program) (t:TypeId) (ok:Bool) (x:AV):Option AV :=
 if zpc P t && ok then
  match x with
  | .p (.s .nilIface)=>(zb7 P t).map fun z => .tup [z,.p (.s (.bool false))]
  | .p (.s (.iface d (.int k n)))=>if d=t then some (.tup [.p (.s (.int k n)),.p (.s (.bool true))]) else (zb7 P t).map fun z => .tup [z,.p (.s (.bool false))]
  | _=>none
 else none
theorem zeU {σ:Gh} {H:Hp} {w:World} {x y:AV} {u v:Value} (h1:RelV σ H w x u) (h2:RelV σ H w y v):RelV σ H w (.tup [x,y]) (.tuple #[u,v]) :=
 .tup _ rfl fun i a b ha hb=>by
  match i with
  | 0=>simp at ha hb;subst ha;subst hb;exact h1
  | 1=>simp at ha hb;subst ha;subst hb;exact h2
  | _+2=>simp at ha
theorem zif {P:Program} {σ:Gh} {H:Hp} {w:World} {t:TypeId} {ok:Bool} {x y:AV} {v:Value} (xt:TypeId) (h:zet P t ok x=some y) (hx:RelV σ H w x v) : ∃ u,(Instr.typeAssert v xt t ok).run P w = .ok u w∧RelV σ H w y u:=by
 unfold zet at h
 split at h
 case isFalse=>cases h
 rename_i hc
 simp only [Bool.and_eq_true] at hc
 obtain⟨hc,rfl⟩:=hc
 unfold zpc at hc
 cases hu:P.underlying t with
 | none=>simp [hu] at hc
 | some d =>
  rw [hu] at hc
  split at h
  · have:=zdc hx
    subst this
    simp only [Option.map_eq_some_iff] at h
    obtain⟨z,hz,rfl⟩:=h
    obtain⟨u,h1,h2⟩:=zcS (σ:=σ) (H:=H) (w:=w) hz
    refine⟨.tuple #[u,.bool false],?_,zeU h2 (.p (.s _ rfl))⟩
    cases d<;>first | (simp at hc;done) | simp [Instr.typeAssert,run_underlying hu,h1]
  · have:=zdc hx
    subst this
    split at h
    · rename_i e
      subst e
      cases h
      refine⟨_,?_,zeU (.p (.s _ rfl)) (.p (.s _ rfl))⟩
      cases d<;>first | (simp at hc;done) | simp [Instr.typeAssert,run_underlying hu]
    · rename_i e
      simp only [Option.map_eq_some_iff] at h
      obtain⟨z,hz,rfl⟩:=h
      obtain⟨u,h1,h2⟩:=zcS (σ:=σ) (H:=H) (w:=w) hz
      refine⟨.tuple #[u,.bool false],?_,zeU h2 (.p (.s _ rfl))⟩
      cases d<;>first | (simp at hc;done) | simp [Instr.typeAssert,run_underlying hu,h1,e]
  · cases h

def zx (P:Program) (G:Globs) (env:Env) (H:Hp) (b:Builtin) (args:List Operand) (ts:List TypeId):SRes :=
 match b,args,ts with
 | .len,[x],[t]=>vH (ztJ P t (zD G env x)) H
 | .append,[s,x],[t,u]=>vHH (zda P H t u (y4 P G env t s) (y4 P G env u x))
 | .copy,[d,s],[t,_]=>vHH (zh8 P H t (zD G env d) (zD G env s))
 | .min,[x,y],_=>vH (za4 false (zD G env x) (zD G env y)) H
 | .max,[x,y],_=>vH (za4 true (zD G env x) (zD G env y)) H
 | _,_,_ => .fail

def zb9 (P:Program) (fn:FuncId) (args:List AV) (H:Hp):SRes:=match zbD P fn with | some nm=>vH (zni nm args) H | none => .fail

def yU (P:Program) (G:Globs) (env:Env) (c:Call) (f:AV) (H:Hp):SRes :=
 match f with
 | .clo fn first captured=>if enters P fn then .call fn (first++z6 P G env c.args.toList c.argTypes.toList++captured) else zb9 P fn (first++z6 P G env c.args.toList c.argTypes.toList++captured) H
 | .yld b => .yield b (z6 P G env c.args.toList c.argTypes.toList)
 | _ => .fail

noncomputable def zc (P:Program) (G:Globs) (op:Op) (ty:TypeId) (env:Env) (H:Hp):SRes :=
 match op with
 | .move x => .val (y4 P G env ty x) H
 | .assign x => .val (y4 P G env ty x) H
 | .alloc t=>match zB P t with | some ps => .val (.ptr H.n 0) (H.new (.cells (ps.map .p))) | none => .fail
 | .box _ x=>match zf (zD G env x) with | some cs => .val (.ptr H.n 0) (H.new (.cells cs)) | none => .fail
 | .build t parts=>vH (yv P t (yk G env parts.toList)) H
 | .buildSlice t n parts=>vHH (yN P H t n (yk G env parts.toList))
 | .load t a=>vH (zax P H t (zD G env a)) H
 | .store t a x=>uH (zb2 P H t (zD G env a) (y4 P G env t x))
 | .nilCheck x=>vH (zpb (zD G env x)) H
 | .binOp op t x y _=>vH (zo P op t (zeT G env x) (zeT G env y)) H
 | .unOp op _ x=>vH (aUn op (zD G env x)) H
 | .convert s d x=>vH (yn P H s d (zD G env x)) H
 | .makeInterface t x=>match zD G env x with | .p (.s v)=>if isIface P t then .fail else .val (.p (.s (.iface t v))) H | _ => .fail
 | .makeFunc fn first captured=>match fn with | .func f => .val (.clo f (zam G env first.toList) (zam G env captured.toList)) H | _ => .fail
 | .makeSlice t l c=>match l with | .const (.int _ 0)=>vHH (zb5 P H t (zD G env l) (zD G env c)) | _=>vHH (zd0 P H t (zD G env l) (zD G env c))
 | .slice t x lo hi mx=>vH (zeP P t (zD G env x) (lo.map (zD G env)) (hi.map (zD G env)) (mx.map (zD G env))) H
 | .fieldAddr s x f=>vH (zaO P s (zD G env x) f) H
 | .field s x f=>vH (zeM P s (zD G env x) f) H
 | .indexAddr t x i=>vH (zaN P t (zD G env x) (zD G env i)) H
 | .index t x i=>vH (yK P t (zD G env x) (zD G env i)) H
 | .extract t i=>match zD G env t with | .tup xs=>vH xs[i]? H | _ => .fail
 | .pick c x y=>match zD G env c with | .p (.s (.bool b)) => .val (if b then y4 P G env ty x else y4 P G env ty y) H | _ => .fail
 | .call c=>match c.callee with
  | .value f=>yU P G env c (zD G env f) H
  | .builtin b=>zx P G env H b c.args.toList c.argTypes.toList
  | .invoke _ _ => .fail
 | .makeMap _ r=>match r with | none => .val (.mp H.n) (H.new (.mapB [])) | _ => .fail
 | .lookup t x i ok=>vH (zcu P G.map H t (zD G env x) (zD G env i) ok) H
 | .mapUpdate t x i y | .insert t x i y=>uH (zaz P H t (zD G env x) (zD G env i) (y4 P G env t y))
 | .typeAssert x _ t ok=>vH (zet P t ok (zD G env x)) H
 | _ => .fail

section sound
variable {P:Program} {G:Globs} {σ:Gh} {H:Hp} {w:World} {env:Env} {nt m:Nat} {a:Act}

theorem zd3 {t:TypeId} (v:Value):RelV σ H w (yT P t v) v:=by
 cases v
 case slice ad l c =>
  simp only [yT]
  split
  · rename_i h
    simp only [Bool.and_eq_true,Option.isNone_iff_eq_none,beq_iff_eq] at h
    obtain⟨⟨rfl,rfl⟩,rfl⟩:=h
    split<;>exact .p (.nil true _)
  · exact .p (.s _ rfl)
 all_goals (unfold yT;exact zcN _)

theorem yV (hr:Rel G σ H w) (hf:RelF nt m σ H w env a) (t:TypeId) (x:Operand):RelV σ H w (y4 P G env t x) (a.eval x):=by
 cases x with
 | const v=>exact zd3 v
 | tmp t=>exact zi hr hf (.tmp t)
 | global g=>exact zi hr hf (.global g)
 | func f=>exact zi hr hf (.func f)

theorem zig (hr:Rel G σ H w) (hf:RelF nt m σ H w env a) (x:Operand):RelV σ H w (zeT G env x) (a.eval x):=by
 cases x with
 | const v =>
  show RelV σ H w (zaA v) v
  unfold zaA
  split
  · exact .p (.s _ rfl)
  · exact zcN _
 | tmp t=>exact zi hr hf (.tmp t)
 | global g=>exact zi hr hf (.global g)
 | func f=>exact zi hr hf (.func f)

theorem zpd (hr:Rel G σ H w) (hf:RelF nt m σ H w env a) (t:TypeId) (x:Operand):RelV σ H w (zg0 P G env t x) (a.eval x):=by
 cases x with
 | const v =>
  show RelV σ H w (zaB P t v) v
  unfold zaB
  split
  · exact .p (.s _ rfl)
  · exact zd3 _
 | tmp t=>exact zi hr hf (.tmp t)
 | global g=>exact zi hr hf (.global g)
 | func f=>exact zi hr hf (.func f)

theorem zbo (hr:Rel G σ H w) (hf:RelF nt m σ H w env a) : ∀ (xs:List Operand) (ts:List TypeId),(z6 P G env xs ts).length=xs.length ∧ ∀ (i:Nat) x v,(z6 P G env xs ts)[i]? = some x → (xs.map a.eval)[i]? = some v → RelV σ H w x v
 | [],ts=>by simp [z6]
 | x :: xs,[]=>by
  obtain⟨h1,h2⟩:=zbo hr hf xs []
  refine⟨by simp [z6,h1],fun i y v hy hv => ?_⟩
  cases i with
  | zero=>simp [z6] at hy hv;subst hy;subst hv;exact zi hr hf x
  | succ i=>simp only [z6,List.getElem?_cons_succ,List.map_cons] at hy hv;exact h2 i y v hy hv
 | x :: xs,t :: ts=>by
  obtain⟨h1,h2⟩:=zbo hr hf xs ts
  refine⟨by simp [z6,h1],fun i y v hy hv => ?_⟩
  cases i with
  | zero=>simp [z6] at hy hv;subst hy;subst hv;exact zpd hr hf t x
  | succ i=>simp only [z6,List.getElem?_cons_succ,List.map_cons] at hy hv;exact h2 i y v hy hv

theorem zbE (hr:Rel G σ H w) (hf:RelF nt m σ H w env a) : ∀ (ps:List (Nat × Operand)),(yk G env ps).length=ps.length ∧ ∀ (k:Nat) i x j v,(yk G env ps)[k]? = some (i,x) → (ps.map fun p=>(p.1,a.eval p.2))[k]? = some (j,v) → j=i∧RelV σ H w x v
 | []=>by simp [yk]
 | (i,x) :: ps=>by
  obtain⟨h1,h2⟩:=zbE hr hf ps
  refine⟨by simp [yk,h1],fun k i' y j v hy hv => ?_⟩
  cases k with
  | zero =>
   simp [yk] at hy hv
   obtain⟨rfl,rfl⟩:=hy
   obtain⟨rfl,rfl⟩:=hv
   exact⟨rfl,zi hr hf x⟩
  | succ k=>simp only [yk,List.getElem?_cons_succ,List.map_cons] at hy hv;exact h2 k i' y j v hy hv

theorem zdI (hr:Rel G σ H w) (hf:RelF nt m σ H w env a) : ∀ (xs:List Operand),(zam G env xs).length=xs.length ∧ ∀ (i:Nat) x v,(zam G env xs)[i]? = some x → (xs.map a.eval)[i]? = some v → RelV σ H w x v
 | []=>by simp [zam]
 | x :: xs=>by
  obtain⟨h1,h2⟩:=zdI hr hf xs
  refine⟨by simp [zam,h1],fun i y v hy hv => ?_⟩
  cases i with
  | zero=>simp [zam] at hy hv;subst hy;subst hv;exact zi hr hf x
  | succ i=>simp only [zam,List.getElem?_cons_succ,List.map_cons] at hy hv;exact h2 i y v hy hv

theorem zcT (hr:Rel G σ H w) (hf:RelF nt m σ H w env a) (x:Option Operand):zcP σ H w (x.map (zD G env)) (x.map a.eval):=by
 cases x with
 | none=>trivial
 | some x=>exact zi hr hf x

theorem zeV {f:FuncId} (h:enters P f=true) (vs:Array Value) (w:World):(callFunc f vs).run P w = .ok (.enter f vs) w:=by
  unfold enters at h
  split at h
  case h_2=>cases h
  rename_i fn hf
  simp only [Bool.and_eq_true,Bool.not_eq_true'] at h
  obtain⟨h1,h2⟩:=h
  have h3 : ¬ fn.body=none:=fun h=>by simp [h] at h1
  have h4 : ¬ fn.name = "runtime.NumGoroutine" := by simpa using h2
  simp [callFunc,hf,h3,h4]

def StepOK (P:Program) (G:Globs) (σ:Gh) (H:Hp) (w:World) (ex:Sem Next):SRes → Prop
 | .val x H' => ∃ v w' σ',ex.run P w = .ok (.value v) w'∧RelV σ' H' w' x v∧Rel G σ' H' w'∧Ev H.n σ H w σ' H' w'
 | .unit H' => ∃ w' σ',ex.run P w = .ok .skip w'∧Rel G σ' H' w'∧Ev H.n σ H w σ' H' w'
 | .call f args => ∃ vs,ex.run P w = .ok (.enter f vs) w∧RelVs σ H w args vs
 | .yield b args => ∃ vs,RelVs σ H w args vs ∧ ∀ f t x y,(Instr.yield (σ.c b) vs).run P w = .ok (.round (σ.c b) f t x y) w → ex.run P w = .ok (.round (σ.c b) f t x y) w
 | .fail=>True

theorem StepOK.read (hr:Rel G σ H w) {x:Option AV} {s:Sem Value} (h : ∀ y,x=some y → ∃ v,s.run P w = .ok v w∧RelV σ H w y v):StepOK P G σ H w (do pure (.value (←s))) (vH x H):=by
 cases x with
 | none=>trivial
 | some y =>
  obtain⟨v,h1,h2⟩:=h y rfl
  exact⟨v,w,σ,by simp [h1],h2,hr,Ev.refl (Nat.le_refl _)⟩

theorem StepOK.make {x:Option (AV × Hp)} {s:Sem Value} (h : ∀ y H',x=some (y,H') → ∃ v w' σ',s.run P w = .ok v w'∧RelV σ' H' w' y v∧Rel G σ' H' w'∧Ev H.n σ H w σ' H' w'):StepOK P G σ H w (do pure (.value (←s))) (vHH x):=by
 cases x with
 | none=>trivial
 | some y =>
  obtain⟨y,H'⟩:=y
  obtain⟨v,w',σ',h1,h2⟩:=h y H' rfl
  exact⟨v,w',σ',by simp [h1],h2⟩

theorem zeW {big:Bool} {X Y z:AV} {vx vy:Value} {ts:Array TypeId} {ty:TypeId} (h:za4 big X Y=some z) (h1:RelV σ H w X vx) (h2:RelV σ H w Y vy) :
 ∃ v,((if big then Builtin.max_ else Builtin.min_) ts ty #[vx,vy]).run P w = .ok v w∧RelV σ H w z v:=by
 unfold za4 at h
 split at h
 case h_2=>cases h
 rename_i k i k' j
 split at h
 case isFalse=>cases h
 rename_i hk;subst hk
 cases h
 have h1':vx = .int k i:=by cases h1 with | p h=>cases h;rfl
 have h2':vy = .int k j:=by cases h2 with | p h=>cases h;rfl
 subst h1' h2'
 refine⟨.int k (if big then max i j else min i j),?_,.p (.s _ rfl)⟩
 cases big
 · simp [Builtin.min_,List.foldlM_cons,List.foldlM_nil,Builtin.min2]
   omega
 · simp [Builtin.max_,List.foldlM_cons,List.foldlM_nil,Builtin.max2]
   omega

theorem zfW (hr:Rel G σ H w) (hf:RelF nt m σ H w env a) (b:Builtin) (args:Array Operand) (ts:Array TypeId) (ty:TypeId) (cs:Array Bool) :
 StepOK P G σ H w (builtin b ts ty cs (args.map a.eval)) (zx P G env H b args.toList ts.toList):=by
 unfold zx
 split
 · rename_i x t hx ht
   have hx':args = #[x]:=by simpa using congrArg List.toArray hx
   have ht':ts = #[t]:=by simpa using congrArg List.toArray ht
   subst hx';subst ht'
   exact .read hr fun y hy=>by simpa using zo9 (ty:=ty) hy (zi hr hf x)
 · rename_i s x t u hx ht
   have hx':args = #[s,x]:=by simpa using congrArg List.toArray hx
   have ht':ts = #[t,u]:=by simpa using congrArg List.toArray ht
   subst hx';subst ht'
   exact .make fun y H' hy=>by simpa using zh7 (ty:=ty) hr hy (yV hr hf t s) (yV hr hf u x)
 · rename_i d s t u hx ht
   have hx':args = #[d,s]:=by simpa using congrArg List.toArray hx
   have ht':ts = #[t,u]:=by simpa using congrArg List.toArray ht
   subst hx';subst ht'
   exact .make fun y H' hy=>by simpa using zne (u:=u) (ty:=ty) hr hy (zi hr hf d) (zi hr hf s)
 · rename_i x y hx
   have hx':args = #[x,y]:=by simpa using congrArg List.toArray hx
   subst hx'
   refine .read hr fun z hz => ?_
   have h1:=zi hr hf x
   have h2:=zi hr hf y
   generalize zD G env x=X at hz h1
   generalize zD G env y=Y at hz h2
   simp only [List.map_toArray,List.map_cons,List.map_nil]
   generalize a.eval x=vx at h1
   generalize a.eval y=vy at h2
   exact zeW (big:=false) (ts:=ts) (ty:=ty) hz h1 h2
 · rename_i x y hx
   have hx':args = #[x,y]:=by simpa using congrArg List.toArray hx
   subst hx'
   refine .read hr fun z hz => ?_
   have h1:=zi hr hf x
   have h2:=zi hr hf y
   generalize zD G env x=X at hz h1
   generalize zD G env y=Y at hz h2
   simp only [List.map_toArray,List.map_cons,List.map_nil]
   generalize a.eval x=vx at h1
   generalize a.eval y=vy at h2
   exact zeW (big:=true) (ts:=ts) (ty:=ty) hz h1 h2
 · trivial

theorem zg1 (hr:Rel G σ H w) (hf:RelF nt m σ H w env a) (o:Oper):StepOK P G σ H w (execOp a.eval o) (zc P G o.op o.type env H):=by
 obtain⟨dst,op,ty,pos,after,guard⟩:=o
 cases op<;>simp only [zc,execOp]<;>try trivial
 case move x=>exact⟨_,w,σ,rfl,yV hr hf ty x,hr,Ev.refl (Nat.le_refl _)⟩
 case assign x=>exact⟨_,w,σ,rfl,yV hr hf ty x,hr,Ev.refl (Nat.le_refl _)⟩
 case alloc t =>
  split
  · rename_i ps hps
    obtain⟨u,w',σ',h1,h2⟩:=zna hr hps
    exact⟨u,w',σ',by simp [h1],h2⟩
  · trivial
 case box t x =>
  split
  · rename_i cs hcs
    obtain⟨u,w',σ',h1,h2⟩:=zsg (P:=P) (e:=t) hr hcs (zi hr hf x)
    exact⟨u,w',σ',by simp [h1],h2⟩
  · trivial
 case build t parts =>
  refine .read hr fun y hy => ?_
  obtain⟨h1,h2⟩:=zbE hr hf parts.toList
  exact zkf hy (by simp [h1]) (fun k i x j v e1 e2=>h2 k i x j v e1 (by simpa using e2))
 case buildSlice t n parts =>
  refine .make fun y H' hy => ?_
  obtain⟨h1,h2⟩:=zbE hr hf parts.toList
  exact zee hr hy (by simp [h1]) (fun k i x j v e1 e2=>h2 k i x j v e1 (by simpa using e2))
 case load t x=>exact .read hr fun y hy=>zgi hr hy (zi hr hf x)
 case store t x y =>
  cases h:zb2 P H t (zD G env x) (y4 P G env t y) with
  | none=>trivial
  | some H' =>
   obtain⟨w',σ',h1,h2,h3⟩:=zkb hr h (zi hr hf x) (yV hr hf t y)
   exact⟨w',σ',by simp [h1],h2,h3⟩
 case makeMap t r =>
  cases r with
  | some x=>trivial
  | none =>
   obtain⟨v,w',σ',h1,h2,h3,h4⟩:=zic (P:=P) hr (t:=t)
   exact⟨v,w',σ',by simp [h1],h2,h3,h4⟩
 case lookup t x i ok=>exact .read hr fun y hy=>zib hr hy (zi hr hf x) (zi hr hf i)
 case mapUpdate t x i y =>
  cases h:zaz P H t (zD G env x) (zD G env i) (y4 P G env t y) with
  | none=>trivial
  | some H' =>
   obtain⟨w',h1,h2,h3⟩:=zd1 hr h (zi hr hf x) (zi hr hf i) (yV hr hf t y)
   exact⟨w',σ,by simp [h1],h2,h3⟩
 case insert t x i y =>
  cases h:zaz P H t (zD G env x) (zD G env i) (y4 P G env t y) with
  | none=>trivial
  | some H' =>
   obtain⟨w',h1,h2,h3⟩:=zd1 hr h (zi hr hf x) (zi hr hf i) (yV hr hf t y)
   exact⟨w',σ,by simp [h1],h2,h3⟩
 case nilCheck x =>
  have hx:=zi hr hf x
  cases h:zpb (zD G env x) with
  | none=>trivial
  | some y =>
   unfold zpb at h
   split at h<;>cases h
   · rename_i b off e
     rw [e] at hx
     generalize a.eval x=v at hx ⊢
     cases hx with | ptr hb=>exact⟨_,w,σ,rfl,.ptr hb,hr,Ev.refl (Nat.le_refl _)⟩
   · rename_i sz xs i sub e
     rw [e] at hx
     generalize a.eval x=v at hx ⊢
     cases hx with | ip hp hi hs=>exact⟨_,w,σ,rfl,.ip hp hi hs,hr,Ev.refl (Nat.le_refl _)⟩
   · rename_i f p c e
     rw [e] at hx
     generalize a.eval x=v at hx ⊢
     cases hx with | clo fs cs q1 q2 q3 q4=>exact⟨_,w,σ,rfl,.clo fs cs q1 q2 q3 q4,hr,Ev.refl (Nat.le_refl _)⟩
   · rename_i b k off e
     rw [e] at hx
     generalize a.eval x=v at hx ⊢
     cases hx with | vp ad q=>exact⟨_,w,σ,rfl,.vp ad q,hr,Ev.refl (Nat.le_refl _)⟩
 case binOp op t x y t' =>
  refine .read hr fun z hz => ?_
  have h1:=zig hr hf x
  have h2:=zig hr hf y
  unfold zo at hz
  split at hz
  case h_5=>cases hz
  case h_3 =>
   rename_i e1 e2
   split at hz
   case isFalse=>cases hz
   rename_i hc
   obtain⟨_,_,_,hu⟩:=zdY hc
   rw [e1] at h1
   rw [e2] at h2
   have h2':a.eval y = .nilFunc:=zdc h2
   generalize a.eval x=v1 at h1 ⊢
   cases h1 with | clo fs cs q1 q2 q3 q4 =>
   rw [h2']
   split at hz
   case h_3=>cases hz
   all_goals
    cases hz
    refine⟨_,?_,.p (.s _ rfl)⟩
    rw [Sem.run_bind,zF (by simp) (by simp),Result.andThen_ok]
    simp only [binOp]
    rw [Sem.run_bind,zj8 hu]
    rfl
  case h_4 =>
   rename_i x' e2 hn
   split at hz
   case isFalse=>cases hz
   rename_i hc
   simp only [Bool.and_eq_true] at hc
   obtain⟨e,hu⟩:=zc9 hc.1
   obtain⟨ad,l,c,h1'⟩:=zkk hc.2 h1
   rw [e2] at h2
   have h2':a.eval y = .slice none 0 0:=zdc h2
   rw [h1',h2']
   split at hz
   case h_3=>cases hz
   all_goals
    cases hz
    refine⟨_,?_,.p (.s _ rfl)⟩
    rw [Sem.run_bind,zF (by simp) (by simp),Result.andThen_ok]
    simp only [binOp]
    rw [Sem.run_bind,zb1 hu]
    rfl
  case h_2 =>
   rename_i xs ys e1 e2
   rw [e1] at h1;rw [e2] at h2
   cases h1 with | p h1 =>
   cases h2 with | p h2 =>
   split at hz
   case h_3=>cases hz
   all_goals
    simp only [Option.map_eq_some_iff] at hz
    obtain⟨r,hr1,rfl⟩:=hz
    refine⟨_,?_,.p (.s _ rfl)⟩
    rename_i hop
    obtain⟨q1,q2,⟨vs,q3⟩,us,q4⟩:=znj hr1 h1 h2 _ x y
    rw [q3,q4] at q1 q2 ⊢
    rw [Sem.run_bind,q1,Result.andThen_ok]
    simp only [binOp,Sem.run_bind,q2,Result.andThen_ok,Sem.run_pure]
  rename_i u v e1 e2
  rw [e1] at h1;rw [e2] at h2
  have h1':a.eval x=u:=by cases h1 with | p h=>cases h;rfl
  have h2':a.eval y=v:=by cases h2 with | p h=>cases h;rfl
  cases hv:yq P op t u v with
  | none=>simp [hv] at hz
  | some r =>
   simp only [hv,Option.map_some,Option.some.injEq] at hz
   subst hz
   rw [h1',h2']
   refine⟨r,zo6 hv x y w,.p (.s _ ?_)⟩
   unfold yq at hv
   split at hv
   · split at hv
     · unfold zby at hv;split at hv;· cases hv
       · split at hv<;>cases hv<;>rfl
     · split at hv
       · unfold zaj at hv
         split at hv<;>first | (cases hv;rfl) | (split at hv<;>cases hv;rfl) | (cases hv)
       · cases hv
   · unfold ztI at hv
     split at hv<;>first | (cases hv;rfl) | (split at hv<;>cases hv;rfl) | (cases hv)
   · split at hv
     · split at hv<;>cases hv<;>rfl
     · cases hv
   · split at hv
     · split at hv<;>cases hv<;>rfl
     · cases hv
   · split at hv
     · split at hv<;>cases hv<;>rfl
     · cases hv
   · cases hv
 case unOp op t x =>
  refine .read hr fun z hz => ?_
  have h1:=zi hr hf x
  unfold aUn at hz
  split at hz
  case h_2=>cases hz
  rename_i u e1
  rw [e1] at h1
  have h1':a.eval x=u:=by cases h1 with | p h=>cases h;rfl
  cases hv:vUn op u with
  | none=>simp [hv] at hz
  | some r =>
   simp only [hv,Option.map_some,Option.some.injEq] at hz
   subst hz
   rw [h1']
   refine⟨r,zsf hv w,.p (.s _ ?_)⟩
   unfold vUn at hv
   split at hv<;>cases hv<;>rfl
 case convert s d x =>
  have h1:=zi hr hf x
  unfold yn
  split
  · exact .read hr fun y hy=>zfU hr hy h1
  · cases h:zcs P s d (zD G env x) with
    | none=>trivial
    | some y =>
     obtain⟨v,w',q1,q2,q3,q4⟩:=zfV hr h h1
     exact⟨v,w',σ,by simp [q1],q2,q3,q4⟩
  · refine .read hr fun z hz => ?_
    split at hz
    case isFalse=>cases hz
    rename_i hs
    split at hz
    case h_2=>cases hz
    rename_i u e1
    rw [e1] at h1
    have h1':a.eval x=u:=by cases h1 with | p h=>cases h;rfl
    cases hv:zbl P d u with
    | none=>simp [hv] at hz
    | some r =>
     simp only [hv,Option.map_some,Option.some.injEq] at hz
     subst hz
     rw [h1']
     refine⟨r,zm9 hs hv w,.p (.s _ ?_)⟩
     unfold zbl at hv
     split at hv<;>cases hv<;>rfl
 case makeInterface t x =>
  have h1:=zi hr hf x
  split
  · rename_i v e1
    split
    · trivial
    · rename_i hi
      rw [e1] at h1
      have h1':a.eval x=v:=by cases h1 with | p h=>cases h;rfl
      unfold isIface at hi
      cases hu:P.underlying t with
      | none =>
       simp [hu] at hi
      | some d =>
       rw [hu] at hi
       refine⟨.iface t v,w,σ,?_,.p (.s _ rfl),hr,Ev.refl (Nat.le_refl _)⟩
       cases d<;>first | (simp at hi;done) | simp [Instr.makeInterface,run_underlying hu,h1']
  · trivial
 case typeAssert x xt t ok=>exact .read hr fun y hy=>zif xt hy (zi hr hf x)
 case makeFunc fn first captured =>
  split
  · rename_i f
    obtain⟨l1,r1⟩:=zdI hr hf first.toList
    obtain⟨l2,r2⟩:=zdI hr hf captured.toList
    exact⟨.func (.func f) (first.map a.eval) (captured.map a.eval),w,σ,rfl,.clo _ _ (by simp [l1]) (by simp [l2]) (fun i x v e1 e2=>r1 i x v e1 (by simpa using e2)) (fun i x v e1 e2=>r2 i x v e1 (by simpa using e2)),hr,Ev.refl (Nat.le_refl _)⟩
  · trivial
 case makeSlice t l c =>
  split
  · exact .make fun y H' hy=>zkd hr hy (zi hr hf _) (zi hr hf c)
  · exact .make fun y H' hy=>znd hr hy (zi hr hf l) (zi hr hf c)
 case slice t x lo hi mx=>exact .read hr fun y hy=>zkg hy (zi hr hf x) (zcT hr hf lo) (zcT hr hf hi) (zcT hr hf mx)
 case fieldAddr s x f=>exact .read hr fun y hy=>zeK hy (zi hr hf x)
 case field s x f=>exact .read hr fun y hy=>zj9 hy (zi hr hf x)
 case indexAddr t x i=>exact .read hr fun y hy=>zeJ hy (zi hr hf x) (zi hr hf i)
 case index t x i=>exact .read hr fun y hy=>zka hy (zi hr hf x) (zi hr hf i)
 case extract t i =>
  have h1:=zi hr hf t
  split
  · rename_i xs e1
    rw [e1] at h1
    refine .read hr fun y hy => ?_
    generalize a.eval t=v at h1 ⊢
    cases h1 with | tup vs hl h =>
    have hlt:i < vs.size:=by rw [hl];exact (List.getElem?_eq_some_iff.1 hy).1
    exact⟨vs[i],by simp [Instr.extract,hlt],h i y _ hy (by simp)⟩
  · trivial
 case pick c x y =>
  have h1:=zi hr hf c
  split
  · rename_i b e1
    rw [e1] at h1
    generalize hv:a.eval c=v at h1 ⊢
    cases h1.bool_inv
    cases b
    · exact⟨_,w,σ,rfl,yV hr hf ty y,hr,Ev.refl (Nat.le_refl _)⟩
    · exact⟨_,w,σ,rfl,yV hr hf ty x,hr,Ev.refl (Nat.le_refl _)⟩
  · trivial
 case call c =>
  obtain⟨callee,args,ts⟩:=c
  cases callee with
  | invoke r m=>trivial
  | builtin b=>exact zfW hr hf b args ts ty _
  | value f =>
   have h1:=zi hr hf f
   simp only [yU]
   split
   · rename_i fn first captured e1
     rw [e1] at h1
     obtain⟨l2,r2⟩:=zbo (P:=P) hr hf args.toList ts.toList
     generalize hv:a.eval f=v at h1
     cases h1 with | clo fs cs q1 q2 q3 q4 =>
     have hvs:RelVs σ H w (first++z6 P G env args.toList ts.toList++captured) (fs++args.map a.eval++cs):=by
      refine⟨by simp [q1,q2,l2],fun i x v e1 e2 => ?_⟩
      rw [Array.getElem?_append] at e2
      simp only [Array.size_append,Array.size_map] at e2
      by_cases hi:i < fs.size+args.size
      · rw [if_pos hi] at e2
        rw [List.getElem?_append_left (by simp [l2,←q1];exact hi)] at e1
        rw [Array.getElem?_append] at e2
        by_cases hi2:i < fs.size
        · rw [if_pos hi2] at e2
          rw [List.getElem?_append_left (by omega)] at e1
          exact q3 i x v e1 e2
        · rw [if_neg hi2] at e2
          rw [List.getElem?_append_right (by omega)] at e1
          rw [←q1] at e1
          exact r2 _ x v e1 (by simpa using e2)
      · rw [if_neg hi] at e2
        rw [List.getElem?_append_right (by simp [l2,←q1];omega)] at e1
        simp only [List.length_append,l2,←q1,Array.length_toList] at e1
        exact q4 _ x v e1 e2
     split
     · rename_i he
       refine⟨fs++args.map a.eval++cs,?_,hvs⟩
       simp only [resolve,hv,Deferred.ofValue,Sem.run_bind,Sem.run_pure,Result.andThen_ok,invoke]
       exact zeV he _ w
     · unfold zb9
       split
       · rename_i nm hn
         cases hx:zni nm (first++z6 P G env args.toList ts.toList++captured) with
         | none=>trivial
         | some y =>
          obtain⟨v,q5,q6⟩:=zsi hn hx hvs
          refine⟨v,w,σ,?_,q6,hr,Ev.refl (Nat.le_refl _)⟩
          simp only [resolve,hv,Deferred.ofValue,Sem.run_bind,Sem.run_pure,Result.andThen_ok,invoke]
          exact q5
       · trivial
   · rename_i b e1
     rw [e1] at h1
     obtain⟨l2,r2⟩:=zbo (P:=P) hr hf args.toList ts.toList
     generalize hv:a.eval f=v at h1
     cases h1 with | yld hb =>
     refine⟨args.map a.eval,⟨by simp [l2],fun i x v e1 e2=>r2 i x v e1 (by simpa using e2)⟩,fun f' t x y hy => ?_⟩
     simp only [resolve,hv,Deferred.ofValue,Sem.run_bind,Sem.run_pure,Result.andThen_ok,invoke]
     simpa using hy
   · trivial
end sound

theorem zeX {P:Program} {G:Globs} {op:Op} {ty:TypeId} {env:Env} {H:Hp} (h:zc P G op ty env H ≠ .fail) : ∀ c,op ≠ .defer c:=by
 intro c e
 subst e
 exact h rfl

end Go.AL

/-
  A region's operations run on abstract values,in the text's order and where the order is open;calls;returns.
  Conditions: none;nothing here speaks of one program.
-/
namespace Go.AL
open Go

def zn (nt:Nat) (d:Option Nat):Bool:=match d with | some d=>decide (d < nt) | none=>true

def zk (nt:Nat) (ops:Array Oper) (g:Option (Nat × Bool)) (env:Env):Option Bool :=
 match g with
 | none=>some true
 | some (j,want) =>
  match (ops[j]?).bind (·.dst) with
  | some d=>if d < nt then (match env d with | .p (.s (.bool t))=>some (t == want) | .tup []=>some false | _=>none) else none
  | none=>none

def zz (raw:List Nat) (f:FuncId) (args:List AV):List AV:=if raw.contains f then args else args.map AV.weak

def sOp (C:Cx) (dst:Option Nat) (H:Hp) (K:AV → Hp → Prop):SRes → Prop
 | .val x H'=>zn C.nt dst=true∧K x H'
 | .unit H'=>dst=none∧K .top H'
 | .call f args=>zn C.nt dst=true∧ACall C.P C.G f (zz C.raw f args) H K
 | .yield b args=>zn C.nt dst=true∧AYield C.P C.G b (args.map AV.weak) H K
 | .fail=>False

def aOp1 (C:Cx) (o:Oper) (env:Env) (H:Hp) (K:AV → Hp → Prop):Prop:=sOp C o.dst H K (zc C.P C.G o.op o.type env H)

theorem sOp.mono {C:Cx} {dst H} {K K':AV → Hp → Prop} {r:SRes} (h:sOp C dst H K r) (hk : ∀ x H',K x H' → K' x H'):sOp C dst H K' r:=by
 cases r with
 | val x H'=>exact⟨h.1,hk _ _ h.2⟩
 | unit H'=>exact⟨h.1,hk _ _ h.2⟩
 | call f args=>exact⟨h.1,h.2.mono hk⟩
 | yield b args=>exact⟨h.1,h.2.mono hk⟩
 | fail=>exact h

theorem RelVs.weak {σ H w} {xs:List AV} {vs:Array Value} (h:RelVs σ H w xs vs):RelVs σ H w (xs.map AV.weak) vs :=
 ⟨by simpa using h.1,fun i x v hx hv=>by
  simp only [List.getElem?_map,Option.map_eq_some_iff] at hx
  obtain⟨y,hy,rfl⟩:=hx
  exact (h.2 i y v hy hv).weak⟩

theorem zg2 {σ H w} {raw f} {xs:List AV} {vs:Array Value} (h:RelVs σ H w xs vs):RelVs σ H w (zz raw f xs) vs:=by
 unfold zz
 split
 · exact h
 · exact h.weak

section
variable {C:Cx} {k:List Item} {env:Env} {H:Hp} {R:AV → Hp → Prop} {ops:Array Oper} {o:Oper} {rest:List Oper}

theorem zL {nt:Nat} {d:Option Nat} (h:zn nt d=true) : ∀ i,d=some i → i < nt:=fun i hi=>by subst hi;simpa [zn] using h

theorem aOp1.wp {K:AV → Hp → Prop} (h:aOp1 C o env H K) {σ:Gh} {w:World} {a:Act} {m:Nat} {ro:Option Nat} (hr:Rel C.G σ H w) (hf:RelF C.nt m σ H w env a) {N:Act → World → Prop} {Q:Exit → Act → World → Prop}
 (hN : ∀ x v H' σ' w',K x H' → (∀ i,o.dst=some i → i < C.nt) → Rel C.G σ' H' w' → RelV σ' H' w' x v → Ev H.n σ H w σ' H' w' → N (a.put o.dst v) w'):o.wpIn { Fence.wide with round:=ro } 0 C.P a w N Q:=by
 have hs:=zg1 (P:=C.P) hr hf o
 unfold aOp1 at h
 unfold Oper.wpIn
 refine⟨fun f _=>trivial,?_⟩
 have hsem:Oper.semAt ro a.eval o=execOp a.eval o:=Oper.semAt_eq _ _ _ (zeX (P:=C.P) (G:=C.G) (ty:=o.type) (env:=env) (H:=H) fun hh=>by rw [hh] at h;exact h)
 show o.uponIn _ _ _ _ _ _ ((Oper.semAt ro a.eval o).run C.P w)
 rw [hsem]
 generalize zc C.P C.G o.op o.type env H=r at h hs
 cases r with
 | val x H' =>
  obtain⟨v,w',σ',hrun,hv,hrel,hev⟩:=hs
  rw [hrun]
  exact hN x v H' σ' w' h.2 (zL h.1) hrel hv hev
 | unit H' =>
  obtain⟨w',σ',hrun,hrel,hev⟩:=hs
  rw [hrun]
  exact hN .top undef H' σ' w' h.2 (by simp [h.1]) hrel (.top _) hev
 | call f args =>
  obtain⟨vs,hrun,hvs⟩:=hs
  rw [hrun]
  refine⟨fun h=>(by cases h),(callsIn_wide (n:=0 - 1)).2 ((h.2 σ w vs hr (zg2 hvs)).mono ?_)⟩
  rintro e w' ⟨x,H',σ',v,q,rfl,hrel,hv,hev⟩
  exact hN x v H' σ' w' q (zL h.1) hrel hv hev
 | yield b args =>
  obtain⟨vs,hvs,hrun⟩:=hs
  obtain⟨f,t,x,y,q1,q2⟩:=h.2 σ w vs hr hvs.weak
  rw [hrun _ _ _ _ q1]
  refine⟨fun h=>(by cases h),q2.mono ?_⟩
  rintro e w' ⟨x,H',σ',v,q,rfl,hrel,hv,hev⟩
  exact hN x v H' σ' w' q (zL h.1) hrel hv hev
 | fail=>exact h.elim

theorem ye {σ:Gh} {w:World} {a:Act} {m:Nat} {g:Option (Nat × Bool)} {t:Bool} (h:zk C.nt ops g env=some t) (hf:RelF C.nt m σ H w env a) (hg:o.guard=g):Region.wanted o (yielded ops a.tmps)=t:=by
 subst hg
 unfold zk at h
 split at h
 · rename_i hg;cases h;simp [Region.wanted,hg]
 · rename_i j want hg
   split at h
   case h_2=>cases h
   rename_i d hd
   split at h
   case isFalse=>cases h
   rename_i hlt
   split at h
   case h_3=>cases h
   case h_2 =>
    rename_i he
    cases h
    have hv : ∃ vs,a.tmps.getD d undef = .tuple vs:=by
     have:=hf.slot d
     rw [he] at this
     generalize a.tmps.getD d undef=v at this
     cases this with | tup vs _ _=>exact⟨vs,rfl⟩
    obtain⟨vs,hv⟩:=hv
    have hs:d < a.tmps.size:=by rw [hf.size];exact hlt
    have hv':a.tmps[d]? = some (.tuple vs):=by simpa [Array.getD_eq_getD_getElem?,hs] using hv
    simp only [Region.wanted,hg,yielded,hd,Option.bind_some,hv']
    rfl
   rename_i b he
   cases h
   have hv:a.tmps.getD d undef = .bool b:=RelV.bool_inv (he ▸ hf.slot d)
   have hs:d < a.tmps.size:=by rw [hf.size];exact hlt
   have hv':a.tmps[d]? = some (.bool b):=by simpa [Array.getD_eq_getD_getElem?,hs] using hv
   simp only [Region.wanted,hg,yielded,hd,Option.bind_some,hv']
   cases b<;>cases want<;>rfl

def YieldK (C:Cx) (ops:Array Oper) (b:Nat) (args:List AV) (dst:Option Nat) (rest:List Oper) (k:List Item) (env:Env) (H:Hp) (R:AV → Hp → Prop):Prop :=
 AYield C.P C.G b args H fun r H'=>AOps C ops rest k (env.put dst r) H' R

def CallK (C:Cx) (ops:Array Oper) (f:FuncId) (args:List AV) (dst:Option Nat) (rest:List Oper) (k:List Item) (env:Env) (H:Hp) (R:AV → Hp → Prop):Prop :=
 ACall C.P C.G f args H fun r H'=>AOps C ops rest k (env.put dst r) H' R

def zsj (C:Cx) (ops:Array Oper) (r:SRes) (dst:Option Nat) (rest:List Oper) (k:List Item) (env:Env) (H:Hp) (R:AV → Hp → Prop) (go:AV → Hp → Prop):Prop :=
 match r with
 | .val x H'=>zn C.nt dst=true∧go x H'
 | .unit H'=>dst=none∧go .top H'
 | .call f args=>zn C.nt dst=true∧CallK C ops f (zz C.raw f args) dst rest k env H R
 | .yield b args=>zn C.nt dst=true∧YieldK C ops b (args.map AV.weak) dst rest k env H R
 | .fail=>False

def zbF (C:Cx) (ops:Array Oper):List Oper → List Item → Env → Hp → (AV → Hp → Prop) → Prop
 | [],k,env,H,R=>ARun C k env H R
 | o :: rest,k,env,H,R =>
  match zk C.nt ops o.guard env with
  | some true=>zsj C ops (zc C.P C.G o.op o.type env H) o.dst rest k env H R (fun x H'=>zbF C ops rest k (env.put o.dst x) H' R)
  | some false=>zn C.nt o.dst=true∧zbF C ops rest k (env.put o.dst (.tup [])) H R
  | none=>False

theorem zcH {F:Fence} {n:Nat} (l:List Oper) {Q Q':Exit → Act → World → Prop} (hQ : ∀ e a w,Q e a w → Q' e a w) : ∀ a w,wpListIn F n C.P ops Q l a w → wpListIn F n C.P ops Q' l a w:=by
 induction l with
 | nil=>intro a w h;exact hQ _ _ _ h
 | cons o l ih =>
  intro a w h
  unfold wpListIn at h ⊢
  split
  · rename_i hw;rw [if_pos hw] at h
    unfold Oper.wpIn at *
    refine⟨h.1,?_⟩
    have h:=h.2
    generalize (o.semAt F.round a.eval).run C.P w=r at *
    have lets:LetsOut Q → LetsOut Q':=fun ⟨a0,w0,q⟩=>⟨a0,w0,hQ _ _ _ q⟩
    cases r with
    | ok x w' =>
     cases x<;>simp only [Oper.uponIn] at h ⊢ <;>
      first
       | exact ih _ _ h
       | exact⟨h.1,CallsIn.mono h.2 (fun e w'' he=>by cases e<;>first | exact ih _ _ he | exact hQ _ _ _ he | exact lets he)⟩
       | exact⟨h.1,RoundIn.mono h.2 (fun e w'' he=>by cases e<;>first | exact ih _ _ he | exact hQ _ _ _ he | exact lets he)⟩
       | exact⟨h.1,RowsIn.mono h.2 (fun _ _ he=>ih _ _ he)⟩
    | halt x w'=>cases x<;>simp only [Oper.uponIn] at h ⊢ <;> exact hQ _ _ _ h
  · rename_i hw;rw [if_neg hw] at h;exact⟨h.1,ih _ _ h.2⟩

theorem AOps.of_op {o:Oper} (t:Bool) (hw:zk C.nt ops o.guard env=some t)
 (h : ∀ σ w a m,Pre C σ H w env a m → ∀ (K:Act → World → Prop) (Q:Exit → Act → World → Prop),
  (∀ x v H' σ' w',AOps C ops rest k (env.put o.dst x) H' R → (∀ i,o.dst=some i → i < C.nt) → Rel C.G σ' H' w' → RelV σ' H' w' x v → Ev H.n σ H w σ' H' w' → K (a.put o.dst v) w') →
  if t then o.wpIn (Fr C σ) 0 C.P a w K Q else K (a.put o.dst undef) w):AOps C ops (o :: rest) k env H R:=by
 intro σ w a m hpre
 have key : ∀ x v H' σ' w',AOps C ops rest k (env.put o.dst x) H' R → (∀ i,o.dst=some i → i < C.nt) → Rel C.G σ' H' w' → RelV σ' H' w' x v → Ev H.n σ H w σ' H' w' →
  wpListIn (Fr C σ) 0 C.P ops (fun e a' w'=>e = .normal ∧ ∃ env' H' σ',ARun C k env' H' R∧Pre C σ' H' w' env' a' m∧Ev H.n σ H w σ' H' w') rest (a.put o.dst v) w':=by
  intro x v H' σ' w' hrest hd hrel hv hev
  have hf':RelF C.nt m σ' H' w' (env.put o.dst x) (a.put o.dst v):=(hpre.fr.mono hev).put hd hv
  have hpre':Pre C σ' H' w' (env.put o.dst x) (a.put o.dst v) m:=hpre.go hrel hf' hev
  have h1:=hrest σ' w' (a.put o.dst v) m hpre'
  have hF:Fr C σ'=Fr C σ:=by simp only [Fr,round_eq hpre.n0 hev.c hpre.lt]
  rw [hF] at h1
  refine zcH rest ?_ _ _ h1
  rintro e a' w2 ⟨rfl,env',H2,σ2,hr,hpre2,hev2⟩
  exact⟨rfl,env',H2,σ2,hr,hpre2,hev.trans (hev2.weaken hev.hn) (Nat.le_refl _)⟩
 have h1:=h σ w a m hpre _ (fun e a' w'=>e = .normal ∧ ∃ env' H' σ',ARun C k env' H' R∧Pre C σ' H' w' env' a' m∧Ev H.n σ H w σ' H' w') key
 unfold wpListIn
 have hwt:=ye (o:=o) hw hpre.fr rfl
 cases t with
 | true=>rw [if_pos hwt];exact h1
 | false=>rw [if_neg (by rw [hwt];simp)];exact⟨fun f _=>trivial,h1⟩

theorem AOps.run : ∀ {l:List Oper} {env:Env} {H:Hp},zbF C ops l k env H R → AOps C ops l k env H R
 | [],env,H,h => .nil h
 | o :: rest,env,H,h=>by
  unfold zbF at h
  split at h
  · rename_i hwa
    have h':aOp1 C o env H fun x H'=>AOps C ops rest k (env.put o.dst x) H' R:=by
     unfold aOp1
     unfold zsj at h
     generalize zc C.P C.G o.op o.type env H=r at h
     cases r with
     | val x H'=>exact⟨h.1,AOps.run h.2⟩
     | unit H'=>exact⟨h.1,AOps.run h.2⟩
     | call f args=>exact⟨h.1,h.2⟩
     | yield b args=>exact⟨h.1,h.2⟩
     | fail=>exact h.elim
    exact .of_op true hwa fun σ w a m hpre K Q hK=>h'.wp hpre.rel hpre.fr hK
  · rename_i hwa
    exact .of_op false hwa fun σ w a m hpre K Q hK=>hK (.tup []) undef H σ w (AOps.run h.2) (zL h.1) hpre.rel (.tup #[] rfl (by simp)) (Ev.refl (Nat.le_refl _))
  · exact h.elim

theorem CallK.of {f:FuncId} {args:List AV} {dst:Option Nat} {r:AV} {H':Hp} (h : ∀ R:AV → Hp → Prop,R r H' → ACall C.P C.G f args H R) (hk:zbF C ops rest k (env.put dst r) H' R):CallK C ops f args dst rest k env H R :=
 h _ (AOps.run hk)

theorem CallK.ex {f:FuncId} {args:List AV} {dst:Option Nat} {S:AV → Hp → Prop} (h:ACall C.P C.G f args H S) (hk : ∀ r H',S r H' → zbF C ops rest k (env.put dst r) H' R):CallK C ops f args dst rest k env H R :=
 h.mono fun r H' q=>AOps.run (hk r H' q)

theorem YieldK.of {b:Nat} {args:List AV} {dst:Option Nat} {r:AV} {H':Hp} (h : ∀ R:AV → Hp → Prop,R r H' → AYield C.P C.G b args H R) (hk:zbF C ops rest k (env.put dst r) H' R):YieldK C ops b args dst rest k env H R :=
 h _ (AOps.run hk)

theorem ARun.text {id:Nat} {l:List Oper} (h:zbF C l.toArray l k env H R):ARun C (.code (.region id l.toArray false) :: k) env H R := .region (AOps.run h)

/-! ### Returns -/

def zbG (P:Program) (env:Env) (H:Hp):ResultVar → Option AV
 | .tmp t=>some (env t)
 | .cell a t=>zax P H t (env a)

def zaC (P:Program) (env:Env) (H:Hp):List ResultVar → Option (List AV)
 | []=>some []
 | r :: rs=>match zbG P env H r,zaC P env H rs with
  | some x,some xs=>some (x :: xs)
  | _,_=>none

def zcE (P:Program) (rs:List ResultVar) (env:Env) (H:Hp):Option AV :=
 match zaC P env H rs with
 | some [x]=>some x
 | some xs=>some (.tup xs)
 | none=>none

def zpe (tmps:Array Value):ResultVar → Sem Value
 | .tmp t=>pure (tmps.getD t undef)
 | .cell a t=>do loadVar t (←asAddr (tmps.getD a undef))

theorem zkl (fn:Func) (tmps:Array Value):results fn tmps=(do let vs ←fn.results.mapM (zpe tmps);pure (if h:vs.size=1 then vs[0] else .tuple vs)):=by
 unfold results
 congr 1

theorem zih {σ:Gh} {w:World} {a:Act} {nt m:Nat} (hr:Rel C.G σ H w) (hf:RelF nt m σ H w env a) {r:ResultVar} {x:AV} (h1:zbG C.P env H r=some x) :
 ∃ v,(zpe a.tmps r).run C.P w = .ok v w∧RelV σ H w x v:=by
 cases r with
 | tmp t=>simp only [zbG,Option.some.injEq] at h1;subst h1;exact⟨_,rfl,hf.slot t⟩
 | cell ad t =>
  simp only [zbG] at h1
  obtain⟨v,hv,hx⟩:=zgi hr h1 (hf.slot ad)
  refine⟨v,?_,hx⟩
  have hptr : ∃ p,a.tmps.getD ad undef = .pointer (some p):=by
   have hs:=hf.slot ad
   generalize a.tmps.getD ad undef=u at hs ⊢
   generalize env ad=y at h1 hs
   unfold zax at h1
   split at h1
   case h_2=>cases h1
   split at h1
   · cases hs;exact⟨_,rfl⟩
   · cases hs;exact⟨_,rfl⟩
   · cases hs;exact⟨_,rfl⟩
   · cases h1
  obtain⟨p,hp⟩:=hptr
  rw [hp] at hv
  simp only [zpe,hp]
  exact hv

theorem zd4 {σ:Gh} {w:World} {a:Act} {nt m:Nat} (hr:Rel C.G σ H w) (hf:RelF nt m σ H w env a) : ∀ {rs:List ResultVar} {xs:List AV},zaC C.P env H rs=some xs →
 ∃ vs:List Value,(rs.mapM (zpe a.tmps)).run C.P w = .ok vs w∧vs.length=xs.length ∧ ∀ (i:Nat) x v,xs[i]? = some x → vs[i]? = some v → RelV σ H w x v
 | [],xs,h=>by simp only [zaC,Option.some.injEq] at h;subst h;exact⟨[],by simp,rfl,by simp⟩
 | r :: rs,xs,h=>by
  simp only [zaC] at h
  split at h
  case h_2=>cases h
  rename_i x ys h1 h2
  cases h
  obtain⟨vs,q1,q2,q3⟩:=zd4 hr hf h2
  obtain⟨v,hv,hx⟩:=zih hr hf h1
  refine⟨v :: vs,?_,by simp [q2],fun i y u hy hu => ?_⟩
  · rw [List.mapM_cons]
    simp only [Sem.run_bind,hv,Result.andThen_ok,q1,Sem.run_pure]
  · cases i with
    | zero=>simp at hy hu;subst hy;subst hu;exact hx
    | succ i=>simp at hy hu;exact q3 i y u hy hu

theorem zpf {fn:Func} {x:AV} {σ:Gh} {w:World} {a:Act} {nt m:Nat} (hr:Rel C.G σ H w) (hf:RelF nt m σ H w env a) (h:zcE C.P fn.results.toList env H=some x) :
 ∃ v,(results fn a.tmps).run C.P w = .ok v w∧RelV σ H w x v:=by
 unfold zcE at h
 cases hall:zaC C.P env H fn.results.toList with
 | none=>simp [hall] at h
 | some xs =>
  obtain⟨vs,q1,q2,q3⟩:=zd4 hr hf hall
  have hm:(fn.results.mapM (zpe a.tmps)).run C.P w = .ok vs.toArray w:=by
   rw [Array.mapM_eq_mapM_toList,Sem.run_map,q1,Result.andThen_ok]
  simp only [hall] at h
  rw [zkl,Sem.run_bind,hm,Result.andThen_ok]
  split at h
  · rename_i y hy
    cases hy
    cases h
    match vs,q2,q3 with
    | [v],_,q3=>exact⟨v,rfl,q3 0 _ v rfl rfl⟩
  · rename_i ys hne hy
    cases hy
    cases h
    refine⟨.tuple vs.toArray,?_,.tup _ (by simp [q2]) (fun i x v h1 h2=>q3 i x v h1 (by simpa using h2))⟩
    have : ¬ vs.toArray.size=1:=fun h1=>by
     simp only [List.size_toArray,q2] at h1
     match xs,h1,hne with
     | [z],_,hne=>exact hne z rfl
    simp only [this,dite_false,Sem.run_pure]
  · rename_i hy;cases hy

def AV.out (n0:Nat):AV → Option AV
 | .p x=>some (.p x.weak)
 | .sl _ _ sz xs=>some (.p (.sl false sz xs))
 | .tup xs=>match pvs? xs with | some ps=>some (.tup (ps.map fun p => .p p.weak)) | none=>none
 | .ptr b off=>if b < n0 then some (.ptr b off) else none
 | .ref b off len sz=>if b < n0 then some (.ref b off len sz) else none
 | .vr b len sz=>if b < n0 then some (.vr b len sz) else none
 | .mp b=>if b < n0 then some (.mp b) else none
 | _=>none

theorem TailOK.trunc {σ:Gh} {n0 α k sz:Nat} {v:Value} (h:TailOK σ H α k sz v) (hα:α < n0):TailOK σ (H.trunc n0) α k sz v :=
 ⟨hα,fun k0 d hk=>h.2 k0 d (by rwa [Hp.f_trunc,if_pos hα] at hk)⟩

theorem Stable.trunc {σ:Gh} {n0 g o:Nat} (h:Stable σ H g o):Stable σ (H.trunc n0) g o:=by
 have hf : ∀ b x,(H.trunc n0).f b=some x → H.f b=some x:=fun b x h=>by
  rw [Hp.f_trunc] at h
  split at h
  · exact h
  · cases h
 exact⟨fun b cs hb=>h.1 b cs (hf _ _ hb),fun b v d o' s hb=>h.2 b v d o' s (hf _ _ hb)⟩

theorem RelV.trunc {σ:Gh} {w:World} {n0:Nat} {x:AV} {v:Value} (h:RelV σ H w x v):BelowN n0 x → RelV σ (H.trunc n0) w x v:=by
 have hp : ∀ {x:PV} {v:Value},RelP w (Stable σ H) x v → RelP w (Stable σ (H.trunc n0)) x v:=fun h=>h.mono fun g o v h1 h2=>⟨h1.trunc,h2⟩
 induction h with
 | p h=>exact fun _ => .p (hp h)
 | sl h ht=>intro hb;cases hb with | sl _ _ _ _ hb=>exact .sl (hp h) (ht.trunc hb)
 | ref a h0 _ hcap ha=>intro hb;cases hb with | ref _ _ _ _ hb=>exact .ref a h0 hb hcap ha
 | ptr _=>intro hb;cases hb with | ptr _ _ hb=>exact .ptr hb
 | ip h hi hs=>exact fun _ => .ip (hp h) hi hs
 | clo fs cs hf hc _ _ ih1 ih2=>intro hb;cases hb with | clo _ _ _ h1 h2=>exact .clo fs cs hf hc (fun i x v a b=>ih1 i x v a b (h1 i x a)) (fun i x v a b=>ih2 i x v a b (h2 i x a))
 | tup vs hl _ ih=>intro hb;cases hb with | tup _ h=>exact .tup vs hl (fun i x v a b=>ih i x v a b (h i x a))
 | agg vs hl h1 _ ih=>intro hb;cases hb with | agg _ h=>exact .agg vs hl h1 (fun i x v a b=>ih i x v a b (h i x a))
 | yld _=>intro hb;cases hb with | yld _ hb=>exact .yld hb
 | mp _=>intro hb;cases hb with | mp _ hb=>exact .mp hb
 | vr q =>
  intro hb
  cases hb with | vr _ _ _ hb =>
  obtain⟨_,a,cap,rfl,q1,q2⟩:=q
  exact .vr ⟨hb,a,cap,rfl,q1,fun k0 d hk=>q2 k0 d (by rwa [Hp.f_trunc,if_pos hb] at hk)⟩
 | vp a q =>
  intro hb
  cases hb with | vp _ _ _ hb =>
  exact .vp a ⟨hb,fun k0 d hk=>q.2 k0 d (by rwa [Hp.f_trunc,if_pos hb] at hk)⟩
 | top v=>exact fun _ => .top v

theorem zcv {σ:Gh} {w:World} {n0:Nat} (hr:Rel C.G σ H w) (hb:Bel n0 H):Rel C.G σ (H.trunc n0) w∧Ev n0 σ H w σ (H.trunc n0) w:=by
 have hf : ∀ b x,(H.trunc n0).f b=some x → H.f b=some x∧b < n0:=fun b x h=>by
  rw [Hp.f_trunc] at h
  split at h
  · rename_i hb;exact⟨h,hb⟩
  · cases h
 have hev:Ev n0 σ H w σ (H.trunc n0) w:=⟨fun g o v h1 h2=>⟨h1.trunc,h2⟩,fun _ _=>rfl,Nat.le_refl _,fun b hb k d hk=>⟨k,d,(hf _ _ hk).1,Nat.le_refl _,fun _=>rfl⟩,Nat.le_refl _,
  fun g _ h=>⟨rfl,fun b cs hb=>h.1 b cs (hf _ _ hb).1,fun b v d o' s hb=>h.2 b v d o' s (hf _ _ hb).1,fun b vs S hb=>h.3 b vs S (hf _ _ hb).1⟩,rfl,rfl⟩
 refine⟨⟨fun b cs h => ?_,fun b k d g o s h=>hr.tail b k d g o s (hf _ _ h).1,fun b k cs h => ?_,fun b b' cs cs' h h'=>hr.cc b b' cs cs' (hf _ _ h).1 (hf _ _ h').1,fun b b' cs k d g o s h h'=>hr.ct b b' cs k d g o s (hf _ _ h).1 (hf _ _ h').1,
  fun b b' k d k' d' g o s o' s' h h'=>hr.tt b b' k d k' d' g o s o' s' (hf _ _ h).1 (hf _ _ h').1,fun g sz xs h=>(hr.glob g sz xs h).trunc (.ip _ _ _ _),fun b vs S h => ?_,fun b b' vs vs' S S' h h'=>hr.oo b b' vs vs' S S' (hf _ _ h).1 (hf _ _ h').1,fun r m h=>(hr.gm r m h).of rfl (hev.blk r (hr.gm r m h).lt (hr.gm r m h).2.1).2 fun x v hx q=>q.trunc (hx _)⟩,hev⟩
 · obtain⟨h1,h2⟩:=hf _ _ h
   obtain⟨c,e,q1,q2,q3⟩:=hr.cells b cs h1
   exact⟨c,e,q1,q2,fun i x hx=>let ⟨v,a,b'⟩:=q3 i x hx;⟨v,a,b'.1.trunc (hb b _ h2 h1 x (List.mem_of_getElem? hx)),b'.2⟩⟩
 · obtain⟨h1,h2⟩:=hf _ _ h
   obtain⟨q0,q1,q2⟩:=hr.vec b k cs h1
   refine⟨q0,q1,fun g o s hg => ?_⟩
   obtain⟨p0,p1,p2⟩:=q2 g o s hg
   exact⟨p0,p1,fun i x hx=>let ⟨v,a,b'⟩:=p2 i x hx;⟨v,a,b'.1.trunc (hb b _ h2 h1 x (List.mem_of_getElem? hx)),b'.2⟩⟩
 · obtain⟨h1,h2⟩:=hf _ _ h
   obtain⟨o,us,q1,q2,q3,q4⟩:=hr.objs b vs S h1
   exact⟨o,us,q1,q2,⟨q3.1,fun i x v a b'=>(q3.2 i x v a b').trunc (hb b _ h2 h1 x (List.mem_of_getElem? a))⟩,q4⟩

theorem AV.out_rel {σ:Gh} {w:World} {n0:Nat} {x y:AV} {v:Value} (h:x.out n0=some y) (r:RelV σ H w x v):RelV σ (H.trunc n0) w y v:=by
 cases x with
 | p x=>simp only [AV.out,Option.some.injEq] at h;subst h;exact r.weak.trunc (.p _)
 | sl α k sz xs=>simp only [AV.out,Option.some.injEq] at h;subst h;exact r.weak.trunc (.p _)
 | ptr b off =>
  simp only [AV.out] at h
  split at h
  · rename_i hb;cases h;exact r.trunc (.ptr _ _ hb)
  · cases h
 | ref b off len sz =>
  simp only [AV.out] at h
  split at h
  · rename_i hb;cases h;exact r.trunc (.ref _ _ _ _ hb)
  · cases h
 | vr b len sz =>
  simp only [AV.out] at h
  split at h
  · rename_i hb;cases h;exact r.trunc (.vr _ _ _ hb)
  · cases h
 | mp b =>
  simp only [AV.out] at h
  split at h
  · rename_i hb;cases h;exact r.trunc (.mp _ hb)
  · cases h
 | tup xs =>
  simp only [AV.out] at h
  split at h
  case h_2=>cases h
  rename_i ps hps
  cases h
  obtain⟨hl,hg⟩:=pvs?_get hps
  cases r with | tup vs hvl hv =>
  refine .tup vs (by simp [hl,hvl]) fun i y v hy hv' => ?_
  simp only [List.getElem?_map,Option.map_eq_some_iff] at hy
  obtain⟨p,hp,rfl⟩:=hy
  obtain⟨a,ha,hap⟩:=hg i p hp
  exact RelV.trunc (.p (AV.pv?_rel hap (hv i a v ha hv')).weak) (.p _)
 | _=>simp [AV.out] at h

theorem zd5 {P:Program} {G:Globs} {σ:Gh} : ∀ (ms:List Nat) (fr:Frame) (cs:List Frame) (w:World) {m:Nat},fr.mode = .returning → fr.defers=ms.map mark → ms.Nodup → (∀ r∈ms,m≤r∧w.heap[r]? = some (.deferred (some []))∧Free σ H r) → Rel G σ H w →
 ∃ w',Steps P (lone fr cs w) (lone { fr with defers:=[] } cs w')∧Rel G σ H w'∧(∀ n0,n0≤H.n → EvM n0 m σ H w σ H w')
 | [],fr,cs,w,m,hm,hd,_,_,hr=>⟨w,by
  have : { fr with defers:=[] }=fr:=by cases fr;simp only at hd;subst hd;rfl
  rw [this];exact .refl _ _,hr,fun n0 hn=>Ev.refl hn⟩
 | r :: ms,fr,cs,w,m,hm,hd,hnd,hms,hr=>by
  obtain⟨h1,h2,h3⟩:=hms r (by simp)
  have hlt:r < w.heap.size:=(Array.getElem?_eq_some_iff.1 h2).1
  have hother : ∀ g,g≠r → (w.putObj r (.deferred none)).heap[g]? = w.heap[g]? := fun g hg=>World.putObj_heap_other hg
  have hev : ∀ n0,n0≤H.n → EvM n0 m σ H w σ H (w.putObj r (.deferred none)):=fun n0 hn=>by
   refine⟨fun g o v q1 q2=>⟨q1,?_⟩,fun _ _=>rfl,hn,fun _ _ k d hk=>⟨k,d,hk,Nat.le_refl _,fun _=>rfl⟩,by simp,fun g hg hf=>⟨hother g (by omega),hf⟩,rfl,rfl⟩
   by_cases hgr:g=r
   · subst hgr;simp [World.cell?,h2] at q2
   · simpa [World.cell?,hother g hgr] using q2
  have hrel:Rel G σ H (w.putObj r (.deferred none)):=by
   have hev:=hev H.n (Nat.le_refl _)
   refine⟨fun b cs h => ?_,fun b k d g o s h ht => ?_,hr.vec_keep hev (fun _ _ _ h=>⟨h,rfl⟩) (fun b k cs g o s _ h ht=>hother g (fun hg=>h3.2 b k _ o s h (hg ▸ ht))),hr.cc,hr.ct,hr.tt,fun g sz xs h=>(hr.glob g sz xs h).mono hev,fun b vs S h => ?_,hr.oo,fun g m h=>(hr.gm g m h).of (hother g (fun e=>by obtain⟨⟨es,cl,q,_⟩,_⟩:=hr.gm g m h;rw [e,h2] at q;cases q)) (hr.gm g m h).2.1 fun x v _ q=>q.mono hev⟩
   · obtain⟨c,e,p1,p2,p3⟩:=hr.cells b cs h
     exact⟨c,e,(hother _ (h3.1 b cs h)).trans p1,p2,fun i x hx=>let ⟨v,a,b⟩:=p3 i x hx;⟨v,a,b.mono hev⟩⟩
   · obtain⟨c,e,p1,p2⟩:=hr.tail b k d g o s h ht
     exact⟨c,e,(hother g (fun hg=>h3.2 b k d o s h (hg ▸ ht))).trans p1,p2⟩
   · obtain⟨o,us,p1,p2,p3,p4⟩:=hr.objs b vs S h
     exact⟨o,us,(hother _ (h3.3 b vs S h)).trans p1,p2,p3.mono hev,p4⟩
  have hs:=step_collected (P:=P) (fr:=fr) (cs:=cs) (w:=w) (d:=mark r) (r:=r) (ds:=ms.map mark) (by rw [hm];simp) hd rfl (run_takeDeferred h2)
  have hnd':=List.nodup_cons.1 hnd
  obtain⟨w',q1,q2,q3⟩:=zd5 (P:=P) ms { fr with defers:=[]++ms.map mark } cs (w.putObj r (.deferred none)) (m:=m) hm rfl hnd'.2
   (fun g hg=>let ⟨p1,p2,p3⟩:=hms g (by simp [hg]);⟨p1,(hother g (fun e=>hnd'.1 (e ▸ hg))).trans p2,p3⟩) hrel
  exact⟨w',.head hs q1,q2,fun n0 hn=>(hev n0 hn).trans' (q3 n0 hn) (Nat.le_refl _) (Nat.le_refl _) (Nat.le_refl _)⟩

theorem ARun.leave {fn:Func} {x:AV} (hro:C.round=none) (hfn:C.P.funcs[C.fid]? = some fn) {rs:List ResultVar} (hrs:fn.results.toList=rs) (hx:zcE C.P rs env H=some x) (todo:List Item)
 (hstep : ∀ (b:Frame) (a:Act) cs w,b.roundOf=none → step C.P (lone (b.atR a todo) cs w) = .next (lone { b.atR a todo with mode := .returning } cs w))
 {R:AV → Hp → Prop} (y:AV) (H':Hp) (hR:R y H') (hrel : ∀ σ w v,Rel C.G σ H w → RelV σ H w x v → C.n0≤H.n → ∃ σ',Rel C.G σ' H' w∧RelV σ' H' w y v∧Ev C.n0 σ H w σ' H' w):ARun C todo env H R:=by
 intro σ w a b cs m hb hpre
 subst hrs
 have hro':b.roundOf=none:=by rw [hb.ro,hro];rfl
 obtain⟨ms,d1,d2,d3⟩:=hpre.fr.defers
 obtain⟨w1,s1,r1,e1⟩:=zd5 (P:=C.P) ms { b.atR a todo with mode := .returning } cs w (m:=m) rfl d1 d2 d3 hpre.rel
 have hf1:RelF C.nt 0 σ H w1 env { a with defers:=[] }:=⟨⟨[],rfl,List.nodup_nil,by simp⟩,hpre.fr.size,fun i=>(hpre.fr.slot i).mono (e1 H.n (Nat.le_refl _))⟩
 obtain⟨v,hv,hxv⟩:=zpf r1 hf1 hx
 obtain⟨σ',q1,q2,q3⟩:=hrel σ w1 v r1 hxv hpre.n0
 refine⟨y,H',σ',v,w1,_,hR,.head (hstep b a cs w hro') s1,?_,q1,q2,(e1 C.n0 hpre.n0).trans' q3 (Nat.le_refl _) (Nat.le_refl _) (Nat.le_trans hpre.m (e1 C.n0 hpre.n0).size)⟩
 unfold Fin
 rw [hro]
 exact⟨_,rfl,hb.fn,rfl,rfl,hb.kind,fn,by simpa [Frame.atR,hb.fn] using hfn,hv⟩

theorem ARun.ret {fn:Func} {x y:AV} (hfn:C.P.funcs[C.fid]? = some fn) {rs:List ResultVar} (hrs:fn.results.toList=rs) (hx:zcE C.P rs env H=some x) (hy:x.out C.n0=some y) (hb:Bel C.n0 H) (hR:R y (H.trunc C.n0)) (hro:C.round=none:=by rfl) :
 ARun C (.code .ret :: k) env H R :=
 .leave hro hfn hrs hx _ (fun _ _ _ _ h=>stepR_ret h) y _ hR fun σ w v h1 h2 _=>let ⟨a,b⟩:=zcv h1 hb;⟨σ,a,AV.out_rel hy h2,b⟩
theorem ARun.fin {fn:Func} {x y:AV} (hfn:C.P.funcs[C.fid]? = some fn) {rs:List ResultVar} (hrs:fn.results.toList=rs) (hx:zcE C.P rs env H=some x) (hy:x.out C.n0=some y) (hb:Bel C.n0 H) (hR:R y (H.trunc C.n0)) (hro:C.round=none:=by rfl) :
 ARun C [] env H R :=
 .leave hro hfn hrs hx _ (fun _ _ _ _ h=>stepR_end h) y _ hR fun σ w v h1 h2 _=>let ⟨a,b⟩:=zcv h1 hb;⟨σ,a,AV.out_rel hy h2,b⟩

theorem ARun.retKeep {fn:Func} {x:AV} (hfn:C.P.funcs[C.fid]? = some fn) {rs:List ResultVar} (hrs:fn.results.toList=rs) (hx:zcE C.P rs env H=some x) (hR:R x H) (hro:C.round=none:=by rfl):ARun C (.code .ret :: k) env H R :=
 .leave hro hfn hrs hx _ (fun _ _ _ _ h=>stepR_ret h) x _ hR fun σ _ _ h1 h2 hn=>⟨σ,h1,h2,Ev.refl hn⟩
end

end Go.AL

/-
  A region whose order is open: one run in the text's order serves every order,if each operation that changes the heap is alone when its turn comes.
  Conditions: none;nothing here speaks of one program.
-/
namespace Go.AL
open Go


section congr
variable {P:Program} {G:Globs} {env env':Env} {H:Hp}

theorem zh {x:Operand} (h : ∀ t,x = .tmp t → env t=env' t):zD G env x=zD G env' x:=by
 cases x with
 | tmp t=>exact h t rfl
 | _=>rfl

theorem yf {ty:TypeId} {x:Operand} (h : ∀ t,x = .tmp t → env t=env' t):y4 P G env ty x=y4 P G env' ty x:=by
 cases x with
 | tmp t=>exact h t rfl
 | _=>rfl

theorem zeY {x:Operand} (h : ∀ t,x = .tmp t → env t=env' t):zeT G env x=zeT G env' x:=by
 cases x with
 | tmp t=>exact h t rfl
 | _=>rfl

theorem zkm {ty:TypeId} {x:Operand} (h : ∀ t,x = .tmp t → env t=env' t):zg0 P G env ty x=zg0 P G env' ty x:=by
 cases x with
 | tmp t=>exact h t rfl
 | _=>rfl

theorem zca : ∀ (xs:List Operand) (ts:List TypeId),(∀ x∈xs,∀ t,x = .tmp t → env t=env' t) → z6 P G env xs ts=z6 P G env' xs ts
 | [],_,_=>rfl
 | x :: xs,[],h=>by simp only [z6];rw [zh (h x (by simp)),zca xs [] (fun y hy=>h y (by simp [hy]))]
 | x :: xs,t :: ts,h=>by simp only [z6];rw [zkm (h x (by simp)),zca xs ts (fun y hy=>h y (by simp [hy]))]

theorem zbH : ∀ (ps:List (Nat × Operand)),(∀ x∈ps.map (·.2),∀ t,x = .tmp t → env t=env' t) → yk G env ps=yk G env' ps
 | [],_=>rfl
 | (i,x) :: ps,h=>by simp only [yk];rw [zh (h x (by simp)),zbH ps (fun y hy=>h y (by simp at hy ⊢;exact .inr hy))]

theorem zcb : ∀ (xs:List Operand),(∀ x∈xs,∀ t,x = .tmp t → env t=env' t) → zam G env xs=zam G env' xs
 | [],_=>rfl
 | x :: xs,h=>by simp only [zam];rw [zh (h x (by simp)),zcb xs (fun y hy=>h y (by simp [hy]))]

theorem zdd {b:Builtin} {args:List Operand} {ts:List TypeId} (h : ∀ x∈args,∀ t,x = .tmp t → env t=env' t):zx P G env H b args ts=zx P G env' H b args ts:=by
 unfold zx
 split
 · rw [zh (h _ (by simp))]
 · rename_i s x t u;rw [yf (h s (by simp)),yf (h x (by simp))]
 · rename_i d s t u;rw [zh (h d (by simp)),zh (h s (by simp))]
 · rename_i x y;rw [zh (h x (by simp)),zh (h y (by simp))]
 · rename_i x y;rw [zh (h x (by simp)),zh (h y (by simp))]
 · rfl

theorem zbI {op:Op} {ty:TypeId} (h : ∀ x∈op.operands,∀ t,x = .tmp t → env t=env' t):zc P G op ty env H=zc P G op ty env' H:=by
 cases op<;>simp only [zc,Op.operands] at * <;> try rfl
 case move x=>rw [yf (h x (by simp))]
 case assign x=>rw [yf (h x (by simp))]
 case box t x=>rw [zh (h x (by simp))]
 case build t parts=>rw [zbH _ (fun x hx=>h x (by simpa using hx))]
 case buildSlice t n parts=>rw [zbH _ (fun x hx=>h x (by simpa using hx))]
 case load t x=>rw [zh (h x (by simp))]
 case store t x y=>rw [zh (h x (by simp)),yf (h y (by simp))]
 case nilCheck x=>rw [zh (h x (by simp))]
 case binOp op t x y t'=>rw [zeY (h x (by simp)),zeY (h y (by simp))]
 case unOp op t x=>rw [zh (h x (by simp))]
 case convert s d x=>rw [zh (h x (by simp))]
 case makeInterface t x=>rw [zh (h x (by simp))]
 case typeAssert x xt t ok=>rw [zh (h x (by simp))]
 case makeFunc fn first captured =>
  split
  · rw [zcb _ (fun x hx=>h x (by simp at hx ⊢;exact .inl hx)),zcb _ (fun x hx=>h x (by simp at hx ⊢;exact .inr hx))]
  · rfl
 case makeSlice t l c =>
  split
  · rw [zh (h c (by simp)),zh (h _ (by simp))]
  · rw [zh (h c (by simp)),zh (h l (by simp))]
 case slice t x lo hi mx =>
  have e1:zD G env x=zD G env' x:=zh (h x (by simp))
  have e2:lo.map (zD G env)=lo.map (zD G env'):=by
   cases lo with | none=>rfl | some y=>simp only [Option.map_some];rw [zh (h y (by simp))]
  have e3:hi.map (zD G env)=hi.map (zD G env'):=by
   cases hi with | none=>rfl | some y=>simp only [Option.map_some];rw [zh (h y (by simp))]
  have e4:mx.map (zD G env)=mx.map (zD G env'):=by
   cases mx with | none=>rfl | some y=>simp only [Option.map_some];rw [zh (h y (by simp))]
  rw [e1,e2,e3,e4]
 case lookup t x i ok=>rw [zh (h x (by simp)),zh (h i (by simp))]
 case mapUpdate t x i y=>rw [zh (h x (by simp)),zh (h i (by simp)),yf (h y (by simp))]
 case insert t x i y=>rw [zh (h x (by simp)),zh (h i (by simp)),yf (h y (by simp))]
 case fieldAddr s x f=>rw [zh (h x (by simp))]
 case field s x f=>rw [zh (h x (by simp))]
 case indexAddr t x i=>rw [zh (h x (by simp)),zh (h i (by simp))]
 case index t x i=>rw [zh (h x (by simp)),zh (h i (by simp))]
 case extract x i=>rw [zh (h x (by simp))]
 case pick c x y=>rw [zh (h c (by simp)),yf (h x (by simp)),yf (h y (by simp))]
 case call c =>
  obtain⟨callee,args,ts⟩:=c
  cases callee with
  | value f =>
   simp only [Call.operands] at h
   simp only [yU]
   rw [zh (h f (by simp)),zca _ _ (fun x hx=>h x (by simp at hx ⊢;exact .inr hx))]
  | builtin b =>
   simp only [Call.operands] at h
   exact zdd (fun x hx=>h x (by simpa using hx))
  | invoke r m=>rfl
end congr


section any
variable {C:Cx} {ops:Array Oper} {q:Nat → Bool} {Q:Env → Hp → Prop}

def opA (C:Cx) (ops:Array Oper) (quiet:Bool) (i:Nat) (K:Env → Hp → Prop) (env:Env) (H:Hp):Prop :=
 match ops[i]? with
 | none=>K env H
 | some o =>
  match zk C.nt ops o.guard env with
  | some true=>if quiet then ∃ x,aOp1 C o env H (fun x' H'=>x'=x∧H'=H)∧K (env.put o.dst x) H else aOp1 C o env H (fun x H'=>K (env.put o.dst x) H')
  | some false=>zn C.nt o.dst=true∧K (env.put o.dst (.tup [])) H
  | none=>False

def zcc (C:Cx) (ops:Array Oper) (q:Nat → Bool) (Q:Env → Hp → Prop):Nat → Array Bool → Env → Hp → Prop
 | 0,listed,env,H=>Region.ready .any ops listed=[]∧Q env H
 | fuel+1,listed,env,H=>(Region.ready .any ops listed=[] → Q env H) ∧
  ∀ i∈Region.ready .any ops listed,opA C ops (q i) i (zcc C ops q Q fuel (listed.setIfInBounds i true)) env H

theorem yI {quiet:Bool} {i:Nat} {K K':Env → Hp → Prop} {env:Env} {H:Hp} (hk : ∀ env H,K env H → K' env H) (h:opA C ops quiet i K env H):opA C ops quiet i K' env H:=by
 unfold opA at *
 split
 · rename_i ho;simp only [ho] at h;exact hk _ _ h
 · rename_i o ho
   simp only [ho] at h
   split
   · rename_i hw
     simp only [hw] at h
     split
     · rename_i hq;rw [if_pos hq] at h;obtain⟨x,h1,h2⟩:=h;exact⟨x,h1,hk _ _ h2⟩
     · rename_i hq;rw [if_neg hq] at h;exact sOp.mono h fun x H' hh=>hk _ _ hh
   · rename_i hw;simp only [hw] at h;exact⟨h.1,hk _ _ h.2⟩
   · rename_i hw;simp only [hw] at h

theorem zW {n1 m:Nat} {ro:Option Nat} {R1:Exit → Act → World → Prop} : ∀ (fuel:Nat) (listed:Array Bool) (env:Env) (H:Hp) (σ:Gh) (w:World) (a:Act),zcc C ops q Q fuel listed env H → Rel C.G σ H w → RelF C.nt m σ H w env a → n1≤H.n →
 (∀ env' H' σ' w' a',Q env' H' → Rel C.G σ' H' w' → RelF C.nt m σ' H' w' env' a' → Ev n1 σ H w σ' H' w' → R1 .normal a' w') → wpAnyIn { Fence.wide with round:=ro } 0 C.P .any ops R1 fuel listed a w
 | 0,listed,env,H,σ,w,a,h,hr,hf,hn,hR=>⟨h.1,hR env H σ w a h.2 hr hf (Ev.refl hn)⟩
 | fuel+1,listed,env,H,σ,w,a,h,hr,hf,hn,hR=>by
  refine⟨fun h0=>hR env H σ w a (h.1 h0) hr hf (Ev.refl hn),fun i hi => ?_⟩
  have hi':=h.2 i hi
  unfold opA at hi'
  unfold wpOpIn
  split at hi'
  · rename_i ho
    simp only [ho]
    exact zW fuel _ env H σ w a hi' hr hf hn hR
  · rename_i o ho
    simp only [ho]
    split at hi'
    · rename_i hw
      rw [if_pos (ye hw hf rfl)]
      have h1:aOp1 C o env H (fun x H'=>zcc C ops q Q fuel (listed.setIfInBounds i true) (env.put o.dst x) H'):=by
       split at hi'
       · obtain⟨x,h1,h2⟩:=hi'
         exact sOp.mono h1 fun x' H' hh=>by rw [hh.1,hh.2];exact h2
       · exact hi'
      refine h1.wp hr hf fun x v H' σ' w' hk hd hrel hv hev => ?_
      exact zW fuel _ _ H' σ' w' _ hk hrel ((hf.mono hev).put hd hv) (Nat.le_trans hn hev.hn) fun env' H2 σ2 w2 a2 b1 b2 b3 b4=>hR env' H2 σ2 w2 a2 b1 b2 b3 (hev.trans b4 hn)
    · rename_i hw
      rw [if_neg (by rw [ye hw hf rfl];simp)]
      exact⟨fun f _=>trivial,zW fuel _ _ H σ w _ hi'.2 hr (hf.put (zL hi'.1) (.tup #[] rfl (by simp))) hn hR⟩
    · exact hi'.elim

def YieldsA (C:Cx) (ops:Array Oper) (o:Oper) (env:Env) (H:Hp) (x:AV):Prop :=
 (zk C.nt ops o.guard env=some true∧aOp1 C o env H (fun x' H'=>x'=x∧H'=H)) ∨ (zk C.nt ops o.guard env=some false∧zn C.nt o.dst=true∧x = .tup [])

theorem YieldsA.opA {i:Nat} {o:Oper} {x:AV} {env:Env} {H:Hp} {K:Env → Hp → Prop} (hi:ops[i]? = some o) (hy:YieldsA C ops o env H x) (h:K (env.put o.dst x) H):opA C ops true i K env H:=by
 unfold Go.AL.opA
 simp only [hi]
 rcases hy with ⟨hw,h1⟩ | ⟨hw,h1,rfl⟩
 · simp only [hw,if_true];exact⟨x,h1,h⟩
 · simp only [hw];exact⟨h1,h⟩

theorem zcU {env:Env} {d:Option Nat} {x:AV} {t:Nat} (h : ∀ i,d=some i → i≠t):env.put d x t=env t:=by
 cases d with
 | none=>rfl
 | some i=>simp only [Env.put];rw [if_neg (Ne.symm (h i rfl))]

theorem put_comm {env:Env} {d e:Option Nat} {x y:AV} (h : ∀ i,d=some i → e≠some i):(env.put d x).put e y=(env.put e y).put d x:=by
 cases d with
 | none=>rfl
 | some i =>
  cases e with
  | none=>rfl
  | some j =>
   have:i≠j:=fun hh=>h i rfl (by rw [hh])
   funext t
   simp only [Env.put]
   by_cases h1:t=j
   · rw [if_pos h1,if_neg (by omega),if_pos h1]
   · rw [if_neg h1];by_cases h2:t=i
     · rw [if_pos h2,if_pos h2]
     · rw [if_neg h2,if_neg h2,if_neg h1]

theorem za5 {o:Oper} {env:Env} {d:Option Nat} {x:AV} (h : ∀ i,d=some i → i ∉ o.looksAt ops):zk C.nt ops o.guard (env.put d x)=zk C.nt ops o.guard env:=by
 unfold zk
 split
 · rfl
 · rename_i j want hg
   cases hd:(ops[j]?).bind (·.dst) with
   | none=>rfl
   | some t =>
    have:env.put d x t=env t:=zcU fun i hi heq=>h i hi (by subst heq;simp [Oper.looksAt,hg,hd])
    simp only [this]

theorem zde {o:Oper} {env:Env} {H:Hp} {d:Option Nat} {x:AV} {K:AV → Hp → Prop} (h : ∀ i,d=some i → i ∉ o.looksAt ops):aOp1 C o (env.put d x) H K ↔ aOp1 C o env H K:=by
 unfold aOp1
 rw [zbI (env':=env) fun y hy t ht=>zcU fun i hi heq=>h i hi (by
  subst heq;subst ht
  exact List.mem_append_left _ (List.mem_filterMap.2 ⟨.tmp i,by simpa using hy,rfl⟩))]

theorem YieldsA.put {o:Oper} {env:Env} {H:Hp} {x y:AV} {d:Option Nat} (h : ∀ i,d=some i → i ∉ o.looksAt ops) (hy:YieldsA C ops o env H x):YieldsA C ops o (env.put d y) H x:=by
 unfold YieldsA at *
 rw [za5 h]
 rcases hy with ⟨h1,h2⟩ | h1
 · exact .inl ⟨h1,(zde h).2 h2⟩
 · exact .inr h1

theorem zg3 {j:Nat} {oi oj:Oper} {x:AV} {env:Env} {H:Hp} {K:Env → Hp → Prop} (hj:ops[j]? = some oj) (hap:oi.apart ops oj=true) (hy:YieldsA C ops oi env H x) (h:opA C ops true j K (env.put oi.dst x) H) :
 opA C ops true j (fun env' H'=>YieldsA C ops oi env' H' x∧K (env'.put oi.dst x) H') env H:=by
 obtain⟨h1,h2,h3⟩:=Oper.apart_spec hap
 unfold opA at *
 simp only [hj] at *
 rw [za5 h1] at h
 split
 · rename_i hw
   simp only [hw,if_true] at h ⊢
   obtain⟨y,q1,q2⟩:=h
   exact⟨y,(zde h1).1 q1,hy.put h3,by rw [←put_comm h2];exact q2⟩
 · rename_i hw
   simp only [hw] at h
   exact⟨h.1,hy.put h3,by rw [←put_comm h2];exact h.2⟩
 · rename_i hw;simp only [hw] at h

theorem zkn {i:Nat} {oi:Oper} {x:AV} (hi:ops[i]? = some oi) (hqi:q i=true) (Wt:Nat → Prop) (hWt : ∀ j oj,ops[j]? = some oj → Wt j → ∃ e∈oj.after,Region.binds .any e=true∧(e.on=i ∨ Wt e.on)) : ∀ (fuel:Nat) (listed:Array Bool) (env:Env) (H:Hp),
 (∀ j,Wt j → listed.getD j true=false) →
 (∀ j oj,ops[j]? = some oj → j≠i → listed.getD j true=false → ¬Wt j → q j=true∧oi.apart ops oj=true) →
 i∈Region.ready .any ops listed → YieldsA C ops oi env H x → zcc C ops q Q fuel (listed.setIfInBounds i true) (env.put oi.dst x) H → zcc C ops q Q (fuel+1) listed env H:=by
 intro fuel
 induction fuel with
 | zero =>
  intro listed env H _ _ hr hy hh
  refine⟨fun h=>(by rw [h] at hr;cases hr),fun j hj => ?_⟩
  by_cases hji:j=i
  · subst hji;rw [hqi];exact hy.opA hi hh
  · have:=ready_mono hj hji
    rw [hh.1] at this
    cases this
 | succ fuel ih =>
  intro listed env H hun0 hfree hr hy hh
  refine⟨fun h=>(by rw [h] at hr;cases hr),fun j hj => ?_⟩
  by_cases hji:j=i
  · subst hji;rw [hqi];exact hy.opA hi hh
  · have h1:=hh.2 j (ready_mono hj hji)
    obtain⟨hjun,oj,hoj,hall⟩:=mem_ready.1 hj
    have hnot : ∀ e∈oj.after,Region.binds .any e=true → e.on≠i:=fun e he hb heq=>by
     have h1:=hall e he hb
     have h0:=(mem_ready.1 hr).1
     rw [heq] at h1
     rcases Nat.lt_or_ge i listed.size with h' | h'
     · simp [h'] at h0 h1;rw [h0] at h1;cases h1
     · simp [Array.getElem?_eq_none h'] at h1
    have hnw : ¬Wt j:=fun hw=>by
     obtain⟨e,he,hb,h | h⟩:=hWt j oj hoj hw
     · exact hnot e he hb h
     · have h1:=hall e he hb
       have h0:=hun0 _ h
       rcases Nat.lt_or_ge e.on listed.size with h' | h'
       · simp [h'] at h0 h1;rw [h0] at h1;cases h1
       · simp [Array.getElem?_eq_none h'] at h1
    obtain⟨hqj,hap⟩:=hfree j oj hoj hji hjun hnw
    rw [hqj] at h1 ⊢
    have h2:=zg3 hoj hap hy h1
    have hfree' : ∀ k ok,ops[k]? = some ok → k≠i → (listed.setIfInBounds j true).getD k true=false →
     ¬Wt k → q k=true∧oi.apart ops ok=true:=fun k ok hk hki hun hno=>by
     refine hfree k ok hk hki ?_ hno
     by_cases hjk:j=k
     · subst hjk;exact hjun
     · rw [getD_set_ne true hjk] at hun;exact hun
    have hun' : ∀ k,Wt k → (listed.setIfInBounds j true).getD k true=false:=fun k hk=>by
     by_cases hjk:j=k
     · subst hjk;exact absurd hk hnw
     · rw [getD_set_ne true hjk];exact hun0 k hk
    refine yI (fun env' H' h3=>ih (listed.setIfInBounds j true) env' H' hun' hfree' (ready_mono hr (Ne.symm hji)) h3.1 ?_) h2
    rw [Array.setIfInBounds_comm _ _ hji]
    exact h3.2

def yg (ops:Array Oper) (listed:Array Bool) (i:Nat):Nat → Nat → Bool
 | 0,_=>false
 | f+1,j => !listed.getD j true && match ops[j]? with
  | some oj=>oj.after.any fun e=>Region.binds .any e && (e.on == i || yg ops listed i f e.on)
  | none=>false

def zcd (ops:Array Oper) (listed:Array Bool) (i:Nat):List Nat :=
 (List.range ops.size).foldl (fun acc j=>if !listed.getD j true && (match ops[j]? with
  | some oj=>oj.after.any fun e=>Region.binds .any e && (e.on == i || acc.contains e.on)
  | none=>false) then j :: acc else acc) []

theorem zbg {ops:Array Oper} {listed:Array Bool} {i j:Nat} (h:(zcd ops listed i).contains j=true) : ∃ f,yg ops listed i f j=true:=by
 have mono : ∀ f j,yg ops listed i f j=true → yg ops listed i (f+1) j=true:=by
  intro f
  induction f with
  | zero=>intro j h;cases h
  | succ f ih =>
   intro j h
   unfold yg at h ⊢
   simp only [Bool.and_eq_true] at h ⊢
   refine⟨h.1,?_⟩
   have h2:=h.2
   split at h2
   · obtain⟨e,he,hb⟩:=Array.any_eq_true'.1 h2
     simp only [Bool.and_eq_true,Bool.or_eq_true] at hb
     exact Array.any_eq_true'.2 ⟨e,he,by simp only [Bool.and_eq_true,Bool.or_eq_true];exact⟨hb.1,hb.2.imp id (ih _)⟩⟩
   · cases h2
 have key : ∀ (l:List Nat) (acc:List Nat),(∀ j∈acc,∃ f,yg ops listed i f j=true) → ∀ j∈l.foldl (fun acc j=>if !listed.getD j true && (match ops[j]? with
  | some oj=>oj.after.any fun e=>Region.binds .any e && (e.on == i || acc.contains e.on)
  | none=>false) then j :: acc else acc) acc,∃ f,yg ops listed i f j=true:=by
  intro l
  induction l with
  | nil=>exact fun acc h=>h
  | cons a l ih =>
   intro acc hacc
   rw [List.foldl_cons]
   refine ih _ ?_
   by_cases hc:(!listed.getD a true && (match ops[a]? with
    | some oj=>oj.after.any fun e=>Region.binds .any e && (e.on == i || acc.contains e.on)
    | none=>false))=true
   · rw [if_pos hc]
     intro j hj
     rcases List.mem_cons.1 hj with rfl | hj
     · simp only [Bool.and_eq_true] at hc
       obtain⟨h1,h2⟩:=hc
       split at h2
       · rename_i oj hoj
         obtain⟨e,he,hb⟩:=Array.any_eq_true'.1 h2
         simp only [Bool.and_eq_true,Bool.or_eq_true] at hb
         rcases hb.2 with h3 | h3
         · refine⟨1,?_⟩
           unfold yg
           simp only [Bool.and_eq_true]
           refine⟨h1,?_⟩
           simp only [hoj]
           exact Array.any_eq_true'.2 ⟨e,he,by simp only [Bool.and_eq_true,Bool.or_eq_true];exact⟨hb.1,.inl h3⟩⟩
         · obtain⟨f,hf⟩:=hacc e.on (by simpa using h3)
           refine⟨f+1,?_⟩
           unfold yg
           simp only [Bool.and_eq_true]
           refine⟨h1,?_⟩
           simp only [hoj]
           exact Array.any_eq_true'.2 ⟨e,he,by simp only [Bool.and_eq_true,Bool.or_eq_true];exact⟨hb.1,.inr hf⟩⟩
       · cases h2
     · exact hacc j hj
   · rw [if_neg hc]
     exact hacc
 exact key _ [] (by simp) j (by simpa [zcd] using h)

def zpg (q:Nat → Bool) (ops:Array Oper) (listed:Array Bool) (i:Nat):Bool :=
 match ops[i]? with
 | none=>false
 | some oi=>(List.range ops.size).all fun j=>j == i || listed.getD j true || match ops[j]? with
  | some oj=>oj.after.any (fun e=>Region.binds .any e && e.on == i) || (q j && oi.apart ops oj) || (zcd ops listed i).contains j
  | none=>true

def Waits (ops:Array Oper) (listed:Array Bool) (i j:Nat):Prop := ∃ f,yg ops listed i f j=true

theorem Waits.edge {i j:Nat} {oj:Oper} {listed:Array Bool} (hj:ops[j]? = some oj) (h:Waits ops listed i j) : ∃ e∈oj.after,Region.binds .any e=true∧(e.on=i ∨ Waits ops listed i e.on):=by
 obtain⟨f,h⟩:=h
 cases f with
 | zero=>cases h
 | succ f =>
  simp only [yg,hj,Bool.and_eq_true] at h
  obtain⟨e,he,hb⟩:=Array.any_eq_true'.1 h.2
  simp only [Bool.and_eq_true,Bool.or_eq_true,beq_iff_eq] at hb
  exact⟨e,he,hb.1,hb.2.imp id fun h=>⟨f,h⟩⟩

theorem Waits.unlisted {i j:Nat} {listed:Array Bool} (h:Waits ops listed i j):listed.getD j true=false:=by
 obtain⟨f,h⟩:=h
 cases f with
 | zero=>cases h
 | succ f=>simp only [yg,Bool.and_eq_true,Bool.not_eq_true'] at h;exact h.1

theorem zko {i:Nat} {oi:Oper} {listed:Array Bool} (hi:ops[i]? = some oi) (h:zpg q ops listed i=true) (j:Nat) (oj:Oper)
 (hj:ops[j]? = some oj) (hne:j≠i) (hun:listed.getD j true=false) (hno : ¬Waits ops listed i j):q j=true∧oi.apart ops oj=true:=by
 simp only [zpg,hi,List.all_eq_true,List.mem_range] at h
 have h1:=h j (Array.getElem?_eq_some_iff.1 hj).1
 simp only [hj,Bool.or_eq_true,beq_iff_eq,hne,false_or,hun,Bool.false_eq_true,Bool.and_eq_true] at h1
 rcases h1 with (h1 | h1) | h1
 · refine absurd ⟨1,?_⟩ hno
   obtain⟨e,he,hb⟩:=Array.any_eq_true'.1 h1
   simp only [Bool.and_eq_true,beq_iff_eq] at hb
   simp only [yg,hun,hj,Bool.not_false,Bool.true_and]
   exact Array.any_eq_true'.2 ⟨e,he,by simp [hb.1,hb.2]⟩
 · exact h1
 · exact absurd (zbg h1) hno

def zii (q:Nat → Bool) (ops:Array Oper):Nat → Nat → Array Bool → Bool
 | 0,_,listed=>(Region.ready .any ops listed).isEmpty
 | fuel+1,k,listed=>(Region.ready .any ops listed).contains k && (if q k then zpg q ops listed k else Region.ready .any ops listed == [k]) && zii q ops fuel (k+1) (listed.setIfInBounds k true)

def zcF (C:Cx) (ops:Array Oper) (q:Nat → Bool) (Q:Env → Hp → Prop):Nat → List Oper → Env → Hp → Prop
 | _,[],env,H=>Q env H
 | k,_ :: l,env,H=>opA C ops (q k) k (zcF C ops q Q (k+1) l) env H

theorem zce : ∀ (l:List Oper) (k:Nat) (listed:Array Bool) (env:Env) (H:Hp),(∀ j,l[j]? = ops[k+j]?) → zii q ops l.length k listed=true → zcF C ops q Q k l env H → zcc C ops q Q l.length listed env H
 | [],_,_,_,_,_,hB,h=>⟨by simpa [zii] using hB,h⟩
 | o :: l,k,listed,env,H,hl,hB,h=>by
  have h0:ops[k]? = some o:=by simpa using (hl 0).symm
  have hl' : ∀ j,l[j]? = ops[k+1+j]? := fun j=>by have:=hl (j+1);simpa [Nat.add_assoc,Nat.add_comm 1 j] using this
  simp only [List.length_cons,zii,Bool.and_eq_true] at hB
  obtain⟨⟨hr,hf⟩,hB'⟩:=hB
  simp only [zcF] at h
  by_cases hq:q k=true
  · rw [if_pos hq] at hf
    rw [hq] at h
    have : ∃ x,YieldsA C ops o env H x∧zcF C ops q Q (k+1) l (env.put o.dst x) H:=by
     unfold opA at h
     simp only [h0] at h
     split at h
     · rename_i hw;simp only [if_true] at h;obtain⟨x,h1,h2⟩:=h;exact⟨x,.inl ⟨hw,h1⟩,h2⟩
     · rename_i hw;exact⟨.tup [],.inr ⟨hw,h.1,rfl⟩,h.2⟩
     · exact h.elim
    obtain⟨x,hy,hK⟩:=this
    exact zkn h0 hq (Waits ops listed k) (fun j oj hj hw=>hw.edge hj) l.length listed env H (fun j hw=>hw.unlisted) (zko h0 hf) (by simpa using hr) hy (zce l (k+1) _ _ _ hl' hB' hK)
  · rw [if_neg hq] at hf
    have hrd:Region.ready .any ops listed=[k]:=by simpa using hf
    refine⟨fun h0=>(by rw [hrd] at h0;cases h0),fun i hi => ?_⟩
    rw [hrd] at hi
    simp only [List.mem_singleton] at hi
    subst hi
    exact yI (fun env' H' hh=>zce l (i+1) _ _ _ hl' hB' hh) h
end any

section draw
variable {C:Cx} {k:List Item} {env:Env} {H:Hp} {R:AV → Hp → Prop}


theorem ARun.draw {id:Nat} {l:List Oper} (q:Nat → Bool) (hm:C.P.follows .mixedOrders=true) (hB:zii q l.toArray l.length 0 (Array.replicate l.length false)=true)
 (h:zcF C l.toArray q (fun env' H'=>ARun C k env' H' R) 0 l env H):ARun C (.code (.region id l.toArray true) :: k) env H R :=
 .of_wp fun σ w a m hpre=>by
  obtain⟨g1,g2⟩:=zaM hpre.rel
  have:=zce (C:=C) (ops:=l.toArray) (Q:=fun env' H'=>ARun C k env' H' R) l 0 (Array.replicate l.length false) env H (by simp) hB h
  refine wpIn_region_any hm ?_
  rw [List.size_toArray]
  exact zW (m:=m) l.length _ env H σ w.drew a this g1 (hpre.fr.mono g2) (Nat.le_refl _) fun env' H' σ' w' a' b1 b2 b3 b4=>⟨rfl,env',H',σ',b1,hpre.go b2 b3 (g2.trans b4 (Nat.le_refl _)),g2.trans b4 (Nat.le_refl _)⟩
end draw

end Go.AL

/-
  Numbers,bools and strings as typed data,and the rules by which simp runs operations on them.
  Conditions: none;nothing here speaks of one program. Written by gen_engn.py.
-/
namespace Go.AL
open Go

def i64 (n:Int):PV := .s (.int .i64 n)
def bo (b:Bool):PV := .s (.bool b)
@[reducible] def str (s:ByteArray):PV := .s (.string s)
def b8 (x:BitVec 8):PV := .s (.int .u8 x.toNat)
def w16 (x:BitVec 16):PV := .s (.int .u16 x.toNat)
def zG (x:BitVec 32):PV := .s (.int .u32 x.toNat)
def yG (x:BitVec 64):PV := .s (.int .u64 x.toNat)

theorem zaD {n:Int} (h1 : -9223372036854775808≤n) (h2:n≤9223372036854775807):IntKind.i64.wrap n=n:=by rw [IntKind.wrap_i64];omega


theorem yW {w:Nat} (x:BitVec w):BitVec.ofInt w (x.toNat:Int)=x:=by simp

theorem ztL {w:Nat} (x:BitVec w) (n:Nat):((x.toNat:Int)*2 ^ min n w) % 2 ^ w=((x <<< n).toNat:Int):=by
 have h:(x.toNat*2 ^ min n w) % 2 ^ w=(x <<< n).toNat:=by
  rw [BitVec.toNat_shiftLeft,Nat.shiftLeft_eq]
  rcases Nat.le_total n w with h | h
  · rw [Nat.min_eq_left h]
  · rw [Nat.min_eq_right h,Nat.mul_mod_left]
    obtain⟨d,rfl⟩:=Nat.exists_eq_add_of_le h
    rw [Nat.pow_add,←Nat.mul_assoc,Nat.mul_right_comm,Nat.mul_mod_left]
 exact_mod_cast h

theorem zg4 {w:Nat} (x:BitVec w) (n:Nat):(x.toNat:Int).fdiv (2 ^ min n w)=((x >>> n).toNat:Int):=by
 have h:x.toNat / 2 ^ min n w=(x >>> n).toNat:=by
  rw [BitVec.toNat_ushiftRight,Nat.shiftRight_eq_div_pow]
  rcases Nat.le_total n w with h | h
  · rw [Nat.min_eq_left h]
  · rw [Nat.min_eq_right h,Nat.div_eq_of_lt x.isLt,Nat.div_eq_of_lt]
    exact Nat.lt_of_lt_of_le x.isLt (Nat.pow_le_pow_right (by omega) h)
 rw [Int.fdiv_eq_ediv_of_nonneg _ (Int.pow_nonneg (by decide)),←h]
 norm_cast

theorem znk (n:Int):(i64 n).cells=[i64 n]:=rfl
theorem zph (n:Int):(i64 n).weak=i64 n:=rfl
theorem znl (n:Int):(i64 n).weak1=i64 n:=rfl
theorem zkp (n:Int):zf (.p (i64 n))=some [.p (i64 n)]:=rfl
theorem znm (n:Int):(i64 n).isAgg=false:=rfl
theorem zkq (n:Int):zaa false [.p (i64 n)]=some (i64 n):=rfl
theorem zkr (n:Int):(AV.p (i64 n)).isAggV=false:=rfl
theorem zpi (b:Bool):(bo b).cells=[bo b]:=rfl
theorem zmj (b:Bool):(bo b).weak=bo b:=rfl
theorem zpj (b:Bool):(bo b).weak1=bo b:=rfl
theorem znn (b:Bool):zf (.p (bo b))=some [.p (bo b)]:=rfl
theorem zpk (b:Bool):(bo b).isAgg=false:=rfl
theorem zno (b:Bool):zaa false [.p (bo b)]=some (bo b):=rfl
theorem znp (b:Bool):(AV.p (bo b)).isAggV=false:=rfl
theorem znq (s:ByteArray):(str s).cells=[str s]:=rfl
theorem zpl (s:ByteArray):(str s).weak=str s:=rfl
theorem znr (s:ByteArray):(str s).weak1=str s:=rfl
theorem zks (s:ByteArray):zf (.p (str s))=some [.p (str s)]:=rfl
theorem zns (s:ByteArray):(str s).isAgg=false:=rfl
theorem zkt (s:ByteArray):zaa false [.p (str s)]=some (str s):=rfl
theorem zku (s:ByteArray):(AV.p (str s)).isAggV=false:=rfl
theorem cells_b8 (x:BitVec 8):(b8 x).cells=[b8 x]:=rfl
theorem zmk (x:BitVec 8):(b8 x).weak=b8 x:=rfl
theorem zij (x:BitVec 8):(b8 x).weak1=b8 x:=rfl
theorem znt (x:BitVec 8):zf (.p (b8 x))=some [.p (b8 x)]:=rfl
theorem zpm (x:BitVec 8):(b8 x).isAgg=false:=rfl
theorem znu (x:BitVec 8):zaa false [.p (b8 x)]=some (b8 x):=rfl
theorem znv (x:BitVec 8):(AV.p (b8 x)).isAggV=false:=rfl
theorem znw (x:BitVec 16):(w16 x).cells=[w16 x]:=rfl
theorem zpn (x:BitVec 16):(w16 x).weak=w16 x:=rfl
theorem znx (x:BitVec 16):(w16 x).weak1=w16 x:=rfl
theorem zkv (x:BitVec 16):zf (.p (w16 x))=some [.p (w16 x)]:=rfl
theorem zny (x:BitVec 16):(w16 x).isAgg=false:=rfl
theorem zkw (x:BitVec 16):zaa false [.p (w16 x)]=some (w16 x):=rfl
theorem zkx (x:BitVec 16):(AV.p (w16 x)).isAggV=false:=rfl
theorem znz (x:BitVec 32):(zG x).cells=[zG x]:=rfl
theorem zpo (x:BitVec 32):(zG x).weak=zG x:=rfl
theorem zgs (x:BitVec 32):(zG x).weak1=zG x:=rfl
theorem zky (x:BitVec 32):zf (.p (zG x))=some [.p (zG x)]:=rfl
theorem znA (x:BitVec 32):(zG x).isAgg=false:=rfl
theorem zkz (x:BitVec 32):zaa false [.p (zG x)]=some (zG x):=rfl
theorem zkA (x:BitVec 32):(AV.p (zG x)).isAggV=false:=rfl
theorem znB (x:BitVec 64):(yG x).cells=[yG x]:=rfl
theorem zpp (x:BitVec 64):(yG x).weak=yG x:=rfl
theorem znC (x:BitVec 64):(yG x).weak1=yG x:=rfl
theorem zkB (x:BitVec 64):zf (.p (yG x))=some [.p (yG x)]:=rfl
theorem znD (x:BitVec 64):(yG x).isAgg=false:=rfl
theorem zkC (x:BitVec 64):zaa false [.p (yG x)]=some (yG x):=rfl
theorem zkD (x:BitVec 64):(AV.p (yG x)).isAggV=false:=rfl
theorem zsk (n:Int):(AV.p (i64 n)).int? = some n:=rfl
theorem ztM (x:BitVec 8):(AV.p (b8 x)).int? = some (x.toNat:Int):=rfl
theorem zsl (x:BitVec 16):(AV.p (w16 x)).int? = some (x.toNat:Int):=rfl
theorem zsm (x:BitVec 32):(AV.p (zG x)).int? = some (x.toNat:Int):=rfl
theorem zsn (x:BitVec 64):(AV.p (yG x)).int? = some (x.toNat:Int):=rfl
theorem zkE (n:Int):zI (.int .i64 n) = .p (i64 n):=rfl
theorem znE (b:Bool):zI (.bool b) = .p (bo b):=rfl
theorem zkF (s:ByteArray):zI (.string s) = .p (str s):=rfl
theorem znF (n:Int) (h0:0≤n) (h1:n < 256):zI (.int .u8 n) = .p (b8 (BitVec.ofInt 8 n)):=by
 have:((BitVec.ofInt 8 n).toNat:Int)=n:=by rw [BitVec.toNat_ofInt];simp only [Int.reducePow,Nat.reducePow,Int.cast_ofNat_Int];omega
 unfold zI b8;rw [this]
theorem zkG (n:Int) (h0:0≤n) (h1:n < 4294967296):zI (.int .u32 n) = .p (zG (BitVec.ofInt 32 n)):=by
 have:((BitVec.ofInt 32 n).toNat:Int)=n:=by rw [BitVec.toNat_ofInt];simp only [Int.reducePow,Nat.reducePow,Int.cast_ofNat_Int];omega
 unfold zI zG;rw [this]
theorem zkH (n:Int) (h0:0≤n) (h1:n < 18446744073709551616):zI (.int .u64 n) = .p (yG (BitVec.ofInt 64 n)):=by
 have:((BitVec.ofInt 64 n).toNat:Int)=n:=by rw [BitVec.toNat_ofInt];simp only [Int.reducePow,Nat.reducePow,Int.cast_ofNat_Int];omega
 unfold zI yG;rw [this]
theorem zkI (P:Program) (t:TypeId) (x y:BitVec 8):zo P .eql t (.p (b8 x)) (.p (b8 y))=some (.p (bo (x == y))):=by
 simp only [zo,b8,yq,zt,zaj,Bool.false_eq_true,if_false,if_true,Option.map_some]
 have h:((x.toNat:Int) == (y.toNat:Int))=(x == y):=by
  rw [Bool.eq_iff_iff];simp only [beq_iff_eq,Int.ofNat_inj];exact BitVec.toNat_inj
 simp only [bo,bne,h]
theorem zeZ (P:Program) (t:TypeId) (x y:BitVec 8) (hy:y≠0#8):zo P .quo t (.p (b8 x)) (.p (b8 y))=some (.p (b8 (x / y))):=by
 simp only [zo,b8,yq,zt,zaj,Bool.false_eq_true,if_false,if_true,Option.map_some]
 have hn : ¬ ((y.toNat:Int)=0):=fun h=>hy (BitVec.eq_of_toNat_eq (by simpa using h))
 rw [if_neg hn]
 have h:IntKind.u8.wrap ((x.toNat:Int).tdiv y.toNat)=((x / y).toNat:Int):=by
  rw [IntKind.wrap_u8,Int.tdiv_eq_ediv_of_nonneg (by omega),BitVec.toNat_udiv]
  have h1:x.toNat / y.toNat≤x.toNat:=Nat.div_le_self _ _
  have h2:=x.isLt
  simp only [Nat.reducePow] at h2
  rw [←Int.natCast_ediv]
  generalize x.toNat / y.toNat=q at *
  omega
 rw [h,Option.map_some]
theorem zcV (P:Program) (t:TypeId) (x y:BitVec 8) (hy:y≠0#8):zo P .rem t (.p (b8 x)) (.p (b8 y))=some (.p (b8 (x % y))):=by
 simp only [zo,b8,yq,zt,zaj,Bool.false_eq_true,if_false,if_true,Option.map_some]
 have hn : ¬ ((y.toNat:Int)=0):=fun h=>hy (BitVec.eq_of_toNat_eq (by simpa using h))
 rw [if_neg hn]
 have h:((x.toNat:Int).tmod y.toNat)=((x % y).toNat:Int):=by
  rw [Int.tmod_eq_emod_of_nonneg (by omega),BitVec.toNat_umod,Int.natCast_emod]
 rw [h,Option.map_some]
theorem zik (P:Program) (t:TypeId) (x y:BitVec 32):zo P .add t (.p (zG x)) (.p (zG y))=some (.p (zG (x+y))):=by
 simp only [zo,zG,yq,zt,zaj,Bool.false_eq_true,if_false,if_true,Option.map_some]
 have h:((x.toNat:Int)+y.toNat) % 4294967296=((x+y).toNat:Int):=by
  rw [BitVec.toNat_add];simp only [Nat.reducePow];omega
 rw [IntKind.wrap_u32',h]
theorem zil (P:Program) (t:TypeId) (x y:BitVec 32):zo P .and t (.p (zG x)) (.p (zG y))=some (.p (zG (x &&& y))):=by
 simp only [zo,zG,yq,zt,zaj,Bool.false_eq_true,if_false,if_true,Option.map_some]
 have h:IntKind.u32.wrap (((x &&& y).toNat:Nat):Int)=(((x &&& y).toNat:Nat):Int):=by
  rw [IntKind.wrap_u32'];have:=(x &&& y).isLt;simp only [Nat.reducePow] at this;omega
 have h1:BitVec.ofInt IntKind.u32.bits (x.toNat:Int)=x:=yW x
 have h2:BitVec.ofInt IntKind.u32.bits (y.toNat:Int)=y:=yW y
 rw [h1,h2]
 exact congrArg (fun n=>some (AV.p (PV.s (Value.int IntKind.u32 n)))) h
theorem zkJ (P:Program) (t:TypeId) (x y:BitVec 32):zo P .or t (.p (zG x)) (.p (zG y))=some (.p (zG (x ||| y))):=by
 simp only [zo,zG,yq,zt,zaj,Bool.false_eq_true,if_false,if_true,Option.map_some]
 have h:IntKind.u32.wrap (((x ||| y).toNat:Nat):Int)=(((x ||| y).toNat:Nat):Int):=by
  rw [IntKind.wrap_u32'];have:=(x ||| y).isLt;simp only [Nat.reducePow] at this;omega
 have h1:BitVec.ofInt IntKind.u32.bits (x.toNat:Int)=x:=yW x
 have h2:BitVec.ofInt IntKind.u32.bits (y.toNat:Int)=y:=yW y
 rw [h1,h2]
 exact congrArg (fun n=>some (AV.p (PV.s (Value.int IntKind.u32 n)))) h
theorem zim (P:Program) (t:TypeId) (x y:BitVec 32):zo P .xor t (.p (zG x)) (.p (zG y))=some (.p (zG (x ^^^ y))):=by
 simp only [zo,zG,yq,zt,zaj,Bool.false_eq_true,if_false,if_true,Option.map_some]
 have h:IntKind.u32.wrap (((x ^^^ y).toNat:Nat):Int)=(((x ^^^ y).toNat:Nat):Int):=by
  rw [IntKind.wrap_u32'];have:=(x ^^^ y).isLt;simp only [Nat.reducePow] at this;omega
 have h1:BitVec.ofInt IntKind.u32.bits (x.toNat:Int)=x:=yW x
 have h2:BitVec.ofInt IntKind.u32.bits (y.toNat:Int)=y:=yW y
 rw [h1,h2]
 exact congrArg (fun n=>some (AV.p (PV.s (Value.int IntKind.u32 n)))) h
theorem zeh (P:Program) (t:TypeId) (x:BitVec 32) (n:Int) (hn:0≤n):zo P .shr t (.p (zG x)) (.p (i64 n))=some (.p (zG (x >>> n.toNat))):=by
 simp only [zo,zG,i64,yq,zt,zby,if_true]
 rw [if_neg (by omega)]
 simp only [Option.map_some]
 have:=zg4 x n.toNat
 exact congrArg (fun n=>some (AV.p (PV.s (Value.int IntKind.u32 n)))) this
theorem zei (P:Program) (t:TypeId) (x:BitVec 32) (y:BitVec 64):zo P .shl t (.p (zG x)) (.p (yG y))=some (.p (zG (x <<< y.toNat))):=by
 simp only [zo,zG,yG,yq,zt,zby,if_true]
 rw [if_neg (by omega)]
 simp only [Option.map_some]
 rw [Int.toNat_natCast]
 have:=ztL x y.toNat
 rw [IntKind.wrap_u32']
 exact congrArg (fun n=>some (AV.p (PV.s (Value.int IntKind.u32 n)))) this
theorem zej (P:Program) (t:TypeId) (x:BitVec 32) (y:BitVec 64):zo P .shr t (.p (zG x)) (.p (yG y))=some (.p (zG (x >>> y.toNat))):=by
 simp only [zo,zG,yG,yq,zt,zby,if_true]
 rw [if_neg (by omega)]
 simp only [Option.map_some]
 rw [Int.toNat_natCast]
 have:=zg4 x y.toNat
 exact congrArg (fun n=>some (AV.p (PV.s (Value.int IntKind.u32 n)))) this
theorem zkK (x:BitVec 32):aUn .xor (.p (zG x))=some (.p (zG (~~~x))):=by
 have h1:BitVec.ofInt IntKind.u32.bits (x.toNat:Int)=x:=yW x
 have h2:BitVec.ofInt IntKind.u32.bits (if IntKind.u32.signed then -1 else IntKind.u32.max)=BitVec.allOnes 32:=by rfl
 simp only [aUn,zG,vUn,Option.map_some,h1,h2]
 have h:IntKind.u32.wrap (((BitVec.allOnes 32 ^^^ x).toNat:Nat):Int)=((~~~x).toNat:Int):=by
  rw [BitVec.allOnes_xor]
  rw [IntKind.wrap_u32'];have:=(~~~x).isLt;simp only [Nat.reducePow] at this;omega
 exact congrArg (fun n=>some (AV.p (PV.s (Value.int IntKind.u32 n)))) h
theorem zin (P:Program) (t:TypeId) (x y:BitVec 64):zo P .add t (.p (yG x)) (.p (yG y))=some (.p (yG (x+y))):=by
 simp only [zo,yG,yq,zt,zaj,Bool.false_eq_true,if_false,if_true,Option.map_some]
 have h:((x.toNat:Int)+y.toNat) % 18446744073709551616=((x+y).toNat:Int):=by
  rw [BitVec.toNat_add];simp only [Nat.reducePow];omega
 rw [IntKind.wrap_u64,h]
theorem zio (P:Program) (t:TypeId) (x y:BitVec 64):zo P .sub t (.p (yG x)) (.p (yG y))=some (.p (yG (x - y))):=by
 simp only [zo,yG,yq,zt,zaj,Bool.false_eq_true,if_false,if_true,Option.map_some]
 have h:((x.toNat:Int) - y.toNat) % 18446744073709551616=((x - y).toNat:Int):=by
  rw [BitVec.toNat_sub];have:=x.isLt;have:=y.isLt;simp only [Nat.reducePow] at *;omega
 rw [IntKind.wrap_u64,h]
theorem ziq (P:Program) (t:TypeId) (x y:BitVec 64):zo P .mul t (.p (yG x)) (.p (yG y))=some (.p (yG (x*y))):=by
 simp only [zo,yG,yq,zt,zaj,Bool.false_eq_true,if_false,if_true,Option.map_some]
 have h:((x.toNat:Int)*y.toNat) % 18446744073709551616=((x*y).toNat:Int):=by
  rw [BitVec.toNat_mul,Int.natCast_emod,Int.natCast_mul];rfl
 rw [IntKind.wrap_u64,h]
theorem zir (P:Program) (t:TypeId) (x y:BitVec 64):zo P .and t (.p (yG x)) (.p (yG y))=some (.p (yG (x &&& y))):=by
 simp only [zo,yG,yq,zt,zaj,Bool.false_eq_true,if_false,if_true,Option.map_some]
 have h:IntKind.u64.wrap (((x &&& y).toNat:Nat):Int)=(((x &&& y).toNat:Nat):Int):=by
  rw [IntKind.wrap_u64];have:=(x &&& y).isLt;simp only [Nat.reducePow] at this;omega
 have h1:BitVec.ofInt IntKind.u64.bits (x.toNat:Int)=x:=yW x
 have h2:BitVec.ofInt IntKind.u64.bits (y.toNat:Int)=y:=yW y
 rw [h1,h2]
 exact congrArg (fun n=>some (AV.p (PV.s (Value.int IntKind.u64 n)))) h
theorem zis (P:Program) (t:TypeId) (x y:BitVec 64):zo P .gtr t (.p (yG x)) (.p (yG y))=some (.p (bo (decide (y < x)))):=by
 simp only [zo,yG,yq,zt,zaj,Bool.false_eq_true,if_false,if_true,Option.map_some]
 simp only [bo,BitVec.lt_def,BitVec.le_def,gt_iff_lt,ge_iff_le,Int.ofNat_lt,Int.ofNat_le]
theorem zek (P:Program) (t:TypeId) (x:BitVec 64) (n:Int) (hn:0≤n):zo P .shr t (.p (yG x)) (.p (i64 n))=some (.p (yG (x >>> n.toNat))):=by
 simp only [zo,yG,i64,yq,zt,zby,if_true]
 rw [if_neg (by omega)]
 simp only [Option.map_some]
 have:=zg4 x n.toNat
 exact congrArg (fun n=>some (AV.p (PV.s (Value.int IntKind.u64 n)))) this
theorem zel (P:Program) (t:TypeId) (x:BitVec 64) (y:BitVec 64):zo P .shr t (.p (yG x)) (.p (yG y))=some (.p (yG (x >>> y.toNat))):=by
 simp only [zo,yG,yG,yq,zt,zby,if_true]
 rw [if_neg (by omega)]
 simp only [Option.map_some]
 rw [Int.toNat_natCast]
 have:=zg4 x y.toNat
 exact congrArg (fun n=>some (AV.p (PV.s (Value.int IntKind.u64 n)))) this
theorem zit (P:Program) (t:TypeId) (x y:Int):zo P .add t (.p (i64 x)) (.p (i64 y))=some (.p (i64 (IntKind.i64.wrap (x+y)))):=by simp only [zo,i64,yq,zt,zaj,Bool.false_eq_true,if_false,if_true,Option.map_some,bo,gt_iff_lt,ge_iff_le]
theorem ziu (P:Program) (t:TypeId) (x y:Int):zo P .sub t (.p (i64 x)) (.p (i64 y))=some (.p (i64 (IntKind.i64.wrap (x - y)))):=by simp only [zo,i64,yq,zt,zaj,Bool.false_eq_true,if_false,if_true,Option.map_some,bo,gt_iff_lt,ge_iff_le]
theorem ziv (P:Program) (t:TypeId) (x y:Int):zo P .mul t (.p (i64 x)) (.p (i64 y))=some (.p (i64 (IntKind.i64.wrap (x*y)))):=by simp only [zo,i64,yq,zt,zaj,Bool.false_eq_true,if_false,if_true,Option.map_some,bo,gt_iff_lt,ge_iff_le]
theorem ziw (P:Program) (t:TypeId) (x y:Int):zo P .eql t (.p (i64 x)) (.p (i64 y))=some (.p (bo (x == y))):=by simp only [zo,i64,yq,zt,zaj,Bool.false_eq_true,if_false,if_true,Option.map_some,bo,gt_iff_lt,ge_iff_le]
theorem zix (P:Program) (t:TypeId) (x y:Int):zo P .neq t (.p (i64 x)) (.p (i64 y))=some (.p (bo (x != y))):=by simp only [zo,i64,yq,zt,zaj,Bool.false_eq_true,if_false,if_true,Option.map_some,bo,gt_iff_lt,ge_iff_le]
theorem ziy (P:Program) (t:TypeId) (x y:Int):zo P .lss t (.p (i64 x)) (.p (i64 y))=some (.p (bo (decide (x < y)))):=by simp only [zo,i64,yq,zt,zaj,Bool.false_eq_true,if_false,if_true,Option.map_some,bo,gt_iff_lt,ge_iff_le]
theorem ziz (P:Program) (t:TypeId) (x y:Int):zo P .leq t (.p (i64 x)) (.p (i64 y))=some (.p (bo (decide (x≤y)))):=by simp only [zo,i64,yq,zt,zaj,Bool.false_eq_true,if_false,if_true,Option.map_some,bo,gt_iff_lt,ge_iff_le]
theorem ziA (P:Program) (t:TypeId) (x y:Int):zo P .gtr t (.p (i64 x)) (.p (i64 y))=some (.p (bo (decide (y < x)))):=by simp only [zo,i64,yq,zt,zaj,Bool.false_eq_true,if_false,if_true,Option.map_some,bo,gt_iff_lt,ge_iff_le]
theorem ziB (P:Program) (t:TypeId) (x y:Int):zo P .geq t (.p (i64 x)) (.p (i64 y))=some (.p (bo (decide (y≤x)))):=by simp only [zo,i64,yq,zt,zaj,Bool.false_eq_true,if_false,if_true,Option.map_some,bo,gt_iff_lt,ge_iff_le]
theorem ziC (P:Program) (t:TypeId) (x y:Int) (hx:0≤x) (hy:0 < y) (hb:x≤9223372036854775807):zo P .quo t (.p (i64 x)) (.p (i64 y))=some (.p (i64 (x / y))):=by
 simp only [zo,i64,yq,zt,zaj,Bool.false_eq_true,if_false,if_true]
 rw [if_neg (by omega),Int.tdiv_eq_ediv_of_nonneg hx]
 have h1:x / y≤x:=Int.ediv_le_self _ hx
 have h2:0≤x / y:=Int.ediv_nonneg hx (by omega)
 rw [zaD (by omega) (by omega),Option.map_some]
theorem ziD (P:Program) (t:TypeId) (x y:Int) (hx:0≤x) (hy:0 < y):zo P .rem t (.p (i64 x)) (.p (i64 y))=some (.p (i64 (x % y))):=by
 simp only [zo,i64,yq,zt,zaj,Bool.false_eq_true,if_false,if_true]
 rw [if_neg (by omega),Int.tmod_eq_emod_of_nonneg hx,Option.map_some]
theorem zd6 (P:Program) (t:TypeId) (x y:Int) (hy:0≤y) (h63:y≤63):zo P .shl t (.p (i64 x)) (.p (i64 y))=some (.p (i64 (IntKind.i64.wrap (x*2 ^ y.toNat)))):=by
 have hm:min y.toNat IntKind.i64.bits=y.toNat:=by simp only [IntKind.bits];omega
 simp only [zo,i64,yq,zt,zby,if_true,hm]
 rw [if_neg (by omega)];rfl
theorem zkL (x:Int):aUn .neg (.p (i64 x))=some (.p (i64 (IntKind.i64.wrap (0 - x)))):=rfl
theorem znG (b:Bool):aUn .not (.p (bo b))=some (.p (bo (!b))):=rfl
theorem ziE (P:Program) (t:TypeId) (x y:ByteArray):zo P .eql t (.p (str x)) (.p (str y))=some (.p (bo (x.toList == y.toList))):=rfl
theorem ziF (P:Program) (t:TypeId) (x y:ByteArray):zo P .neq t (.p (str x)) (.p (str y))=some (.p (bo (!(x.toList == y.toList)))):=rfl
theorem zkM (P:Program) (t:TypeId) (x y:Bool) (h:isBool P t=true):zo P .neq t (.p (bo x)) (.p (bo y))=some (.p (bo (!(x == y)))):=by simp only [zo,bo,yq,h,if_true,Option.map_some]

def yF (P:Program) (t:TypeId):Bool:=match P.underlying t with | some (.int _)=>true | _=>false
theorem yw {P:Program} {t:TypeId} (h:yF P t=true) : ∃ k,P.underlying t=some (.int k):=by
 unfold yF at h
 split at h
 · rename_i k hk;exact⟨k,hk⟩
 · cases h

theorem ziG (P:Program) (H:Hp) (s d:TypeId) (x:BitVec 8) (hs:yF P s=true) (hd:P.underlying d=some (.int .u32)):yn P H s d (.p (b8 x))=some (.p (zG (x.setWidth 32))):=by
 obtain⟨k,hk⟩:=yw hs
 have h:((x.toNat:Int) % 4294967296)=((x.setWidth 32).toNat:Int):=by rw [BitVec.toNat_setWidth];simp only [Nat.reducePow];omega
 simp only [yn,hk,hd,Option.isSome_some,if_true,b8,zbl,Option.map_some,IntKind.wrap_u32',h,zG]
theorem ziH (P:Program) (H:Hp) (s d:TypeId) (x:BitVec 8) (hs:yF P s=true) (hd:P.underlying d=some (.int .i64)):yn P H s d (.p (b8 x))=some (.p (i64 (IntKind.i64.wrap x.toNat))):=by
 obtain⟨k,hk⟩:=yw hs
 simp only [yn,hk,hd,Option.isSome_some,if_true,b8,zbl,Option.map_some,i64]
theorem zg5 (P:Program) (H:Hp) (s d:TypeId) (x:BitVec 16) (hs:yF P s=true) (hd:P.underlying d=some (.int .i64)):yn P H s d (.p (w16 x))=some (.p (i64 (IntKind.i64.wrap x.toNat))):=by
 obtain⟨k,hk⟩:=yw hs
 simp only [yn,hk,hd,Option.isSome_some,if_true,w16,zbl,Option.map_some,i64]
theorem ziI (P:Program) (H:Hp) (s d:TypeId) (x:BitVec 32) (hs:yF P s=true) (hd:P.underlying d=some (.int .u8)):yn P H s d (.p (zG x))=some (.p (b8 (x.setWidth 8))):=by
 obtain⟨k,hk⟩:=yw hs
 have h:((x.toNat:Int) % 256)=((x.setWidth 8).toNat:Int):=by rw [BitVec.toNat_setWidth];simp only [Nat.reducePow];omega
 simp only [yn,hk,hd,Option.isSome_some,if_true,zG,zbl,Option.map_some,IntKind.wrap_u8,h,b8]
theorem ziJ (P:Program) (H:Hp) (s d:TypeId) (x:BitVec 64) (hs:yF P s=true) (hd:P.underlying d=some (.int .u8)):yn P H s d (.p (yG x))=some (.p (b8 (x.setWidth 8))):=by
 obtain⟨k,hk⟩:=yw hs
 have h:((x.toNat:Int) % 256)=((x.setWidth 8).toNat:Int):=by rw [BitVec.toNat_setWidth];simp only [Nat.reducePow];omega
 simp only [yn,hk,hd,Option.isSome_some,if_true,yG,zbl,Option.map_some,IntKind.wrap_u8,h,b8]
theorem zg6 (P:Program) (H:Hp) (s d:TypeId) (x:BitVec 64) (hs:yF P s=true) (hd:P.underlying d=some (.int .i64)):yn P H s d (.p (yG x))=some (.p (i64 (IntKind.i64.wrap x.toNat))):=by
 obtain⟨k,hk⟩:=yw hs
 simp only [yn,hk,hd,Option.isSome_some,if_true,yG,zbl,Option.map_some,i64]
theorem ziK (P:Program) (H:Hp) (s d:TypeId) (x:Int) (hs:yF P s=true) (hd:P.underlying d=some (.int .u8)):yn P H s d (.p (i64 x))=some (.p (b8 (BitVec.ofInt 8 x))):=by
 obtain⟨k,hk⟩:=yw hs
 have h:(x % 256)=((BitVec.ofInt 8 x).toNat:Int):=by rw [BitVec.toNat_ofInt];simp only [Nat.reducePow,Int.cast_ofNat_Int];omega
 simp only [yn,hk,hd,Option.isSome_some,if_true,i64,zbl,Option.map_some,IntKind.wrap_u8,h,b8]
theorem zg7 (P:Program) (H:Hp) (s d:TypeId) (x:Int) (hs:yF P s=true) (hd:P.underlying d=some (.int .u64)):yn P H s d (.p (i64 x))=some (.p (yG (BitVec.ofInt 64 x))):=by
 obtain⟨k,hk⟩:=yw hs
 have h:(x % 18446744073709551616)=((BitVec.ofInt 64 x).toNat:Int):=by rw [BitVec.toNat_ofInt];simp only [Nat.reducePow,Int.cast_ofNat_Int];omega
 simp only [yn,hk,hd,Option.isSome_some,if_true,i64,zbl,Option.map_some,IntKind.wrap_u64,h,yG]
theorem ze0 (x y:Int):za4 false (.p (i64 x)) (.p (i64 y))=some (.p (i64 (min x y))):=rfl
theorem ze1 (x y:Int):za4 true (.p (i64 x)) (.p (i64 y))=some (.p (i64 (max x y))):=rfl

end Go.AL

/-
  The rules by which simp runs a region on abstract values.
  Conditions: none;nothing here speaks of one program.
-/
namespace Go.AL
open Go

def runT (C:Cx) (ops:Array Oper) (r:SRes) (dst:Option Nat) (rest:List Oper) (k:List Item) (env:Env) (H:Hp) (R:AV → Hp → Prop):Prop :=
 match r with
 | .val x H'=>zn C.nt dst=true∧zbF C ops rest k (env.put dst x) H' R
 | .unit H'=>dst=none∧zbF C ops rest k (env.put dst .top) H' R
 | .call f args=>zn C.nt dst=true∧CallK C ops f (zz C.raw f args) dst rest k env H R
 | .yield b args=>zn C.nt dst=true∧YieldK C ops b (args.map AV.weak) dst rest k env H R
 | .fail=>False

section text
variable {C:Cx} {ops:Array Oper} {op:Op} {dst:Option Nat} {rest:List Oper} {k:List Item} {env:Env} {H H':Hp} {R:AV → Hp → Prop} {ty:TypeId} {pos:String} {after:Array Edge} {x:AV} {f:FuncId} {args:List AV} {j:Nat} {want:Bool}

theorem zpq:zbF C ops [] k env H R=ARun C k env H R:=rfl
theorem znH:zbF C ops (⟨dst,op,ty,pos,after,none⟩ :: rest) k env H R=runT C ops (zc C.P C.G op ty env H) dst rest k env H R:=by
 unfold zbF runT zsj
 simp only [zk]
 try (cases zc C.P C.G op ty env H<;>rfl)
def guarded (C:Cx) (ops:Array Oper) (w:Option Bool) (op:Op) (ty:TypeId) (dst:Option Nat) (rest:List Oper) (k:List Item) (env:Env) (H:Hp) (R:AV → Hp → Prop):Prop :=
 match w with
 | some true=>runT C ops (zc C.P C.G op ty env H) dst rest k env H R
 | some false=>zn C.nt dst=true∧zbF C ops rest k (env.put dst (.tup [])) H R
 | none=>False
theorem znI:zbF C ops (⟨dst,op,ty,pos,after,some (j,want)⟩ :: rest) k env H R=guarded C ops (zk C.nt ops (some (j,want)) env) op ty dst rest k env H R:=by
 conv=>lhs;unfold zbF
 unfold guarded zsj
 simp only
 cases zk C.nt ops (some (j,want)) env with
 | none=>rfl
 | some t =>
  cases t
  · rfl
  · simp only [runT];try (cases zc C.P C.G op ty env H<;>rfl)
theorem zg8:guarded C ops (some true) op ty dst rest k env H R=runT C ops (zc C.P C.G op ty env H) dst rest k env H R:=rfl
theorem zfX:guarded C ops (some false) op ty dst rest k env H R=(zn C.nt dst=true∧zbF C ops rest k (env.put dst (.tup [])) H R):=rfl
theorem zpr:runT C ops (.val x H') dst rest k env H R=(zn C.nt dst=true∧zbF C ops rest k (env.put dst x) H' R):=rfl
theorem znJ:runT C ops (.unit H') none rest k env H R=zbF C ops rest k env H' R:=by simp [runT,Env.put]
theorem znK:runT C ops (.call f args) dst rest k env H R=(zn C.nt dst=true∧CallK C ops f (zz C.raw f args) dst rest k env H R):=rfl
theorem zkN {b:Nat}:runT C ops (.yield b args) dst rest k env H R=(zn C.nt dst=true∧YieldK C ops b (args.map AV.weak) dst rest k env H R):=rfl
theorem zkO {nt d:Nat}:(zn nt (some d)=true)=(d < nt):=by simp [zn]
theorem put_some {d i:Nat}:Env.put env (some d) x i=if i=d then x else env i:=rfl
theorem ziL {i:Nat}:Env.put env none x i=env i:=rfl
end text

def guardOf (nt:Nat) (d:Option Nat) (env:Env) (want:Bool):Option Bool :=
 match d with
 | some d=>if d < nt then (match env d with | .p (.s (.bool t))=>some (t == want) | .tup []=>some false | _=>none) else none
 | none=>none
theorem zg9 {nt:Nat} {ops:Array Oper} {j:Nat} {want:Bool} {env:Env}:zk nt ops (some (j,want)) env=guardOf nt ((ops[j]?).bind (·.dst)) env want:=rfl
def zkP (x:AV) (want:Bool):Option Bool:=match x with | .p (.s (.bool t))=>some (t == want) | .tup []=>some false | _=>none
theorem zha {nt d:Nat} {env:Env} {want:Bool}:guardOf nt (some d) env want=if d < nt then zkP (env d) want else none:=rfl
theorem znL {t want:Bool}:zkP (.p (bo t)) want=some (t == want):=rfl
theorem zkQ {want:Bool}:zkP (.tup []) want=some false:=rfl

def zcf (C:Cx) (ops:Array Oper) (q:Nat → Bool) (n:Nat) (l:List Oper) (k:List Item) (env:Env) (H:Hp) (R:AV → Hp → Prop):Prop:=zcF C ops q (fun env' H'=>ARun C k env' H' R) n l env H

section draw
variable {C:Cx} {ops:Array Oper} {q:Nat → Bool} {quiet:Bool} {n:Nat} {op:Op} {dst:Option Nat} {rest:List Oper} {k:List Item} {env:Env} {H H':Hp} {R:AV → Hp → Prop} {ty:TypeId} {pos:String} {after:Array Edge} {x:AV} {f:FuncId} {args:List AV} {j:Nat} {want:Bool}

theorem zps {o:Oper} (hn:ops[n]? = some o) (hg:zk C.nt ops o.guard env=some true) {x:AV} {H':Hp} (hr:zc C.P C.G o.op o.type env H = .val x H') (hd:zn C.nt o.dst=true) (hq:q n=true → H'=H)
 (h:zcf C ops q (n+1) rest k (env.put o.dst x) H' R):zcf C ops q n (o :: rest) k env H R:=by
 unfold zcf zcF opA
 simp only [hn,hg]
 cases hqn:q n with
 | true =>
  simp only [if_true]
  have:=hq hqn;subst this
  exact⟨x,by unfold aOp1;rw [hr];exact⟨hd,rfl,rfl⟩,h⟩
 | false =>
  simp only [Bool.false_eq_true,if_false]
  unfold aOp1;rw [hr]
  exact⟨hd,h⟩
theorem znM {o:Oper} (hn:ops[n]? = some o) (hg:zk C.nt ops o.guard env=some true) {H':Hp} (hr:zc C.P C.G o.op o.type env H = .unit H') (hd:o.dst=none) (hq:q n=false)
 (h:zcf C ops q (n+1) rest k env H' R):zcf C ops q n (o :: rest) k env H R:=by
 unfold zcf zcF opA
 simp only [hn,hg,hq,Bool.false_eq_true,if_false]
 unfold aOp1;rw [hr]
 exact⟨hd,by rw [hd];exact h⟩
theorem znN {o:Oper} (hn:ops[n]? = some o) (hg:zk C.nt ops o.guard env=some true) {f:FuncId} {args:List AV} (hr:zc C.P C.G o.op o.type env H = .call f args) (hd:zn C.nt o.dst=true)
 (h:if q n then ∃ x,ACall C.P C.G f (zz C.raw f args) H (fun x' H'=>x'=x∧H'=H)∧zcf C ops q (n+1) rest k (env.put o.dst x) H R
  else ACall C.P C.G f (zz C.raw f args) H (fun x H'=>zcf C ops q (n+1) rest k (env.put o.dst x) H' R)):zcf C ops q n (o :: rest) k env H R:=by
 unfold zcf zcF opA
 simp only [hn,hg]
 cases hqn:q n with
 | true =>
  rw [hqn] at h
  simp only [if_true] at h ⊢
  obtain⟨x,h2,h3⟩:=h
  exact⟨x,by unfold aOp1;rw [hr];exact⟨hd,h2⟩,h3⟩
 | false =>
  rw [hqn] at h
  simp only [Bool.false_eq_true,if_false] at h ⊢
  unfold aOp1;rw [hr]
  exact⟨hd,h⟩

theorem zkR {o:Oper} (hn:ops[n]? = some o) (hg:zk C.nt ops o.guard env=some true) {b:Nat} {args:List AV} (hr:zc C.P C.G o.op o.type env H = .yield b args) (hd:zn C.nt o.dst=true) (hq:q n=false)
 (h:AYield C.P C.G b (args.map AV.weak) H (fun x H'=>zcf C ops q (n+1) rest k (env.put o.dst x) H' R)):zcf C ops q n (o :: rest) k env H R:=by
 unfold zcf zcF opA
 simp only [hn,hg,hq,Bool.false_eq_true,if_false]
 unfold aOp1;rw [hr]
 exact⟨hd,h⟩
theorem znO {o:Oper} (hn:ops[n]? = some o) (hg:zk C.nt ops o.guard env=some false) (hd:zn C.nt o.dst=true) (h:zcf C ops q (n+1) rest k (env.put o.dst (.tup [])) H R):zcf C ops q n (o :: rest) k env H R:=by
 unfold zcf zcF opA
 simp only [hn,hg]
 exact⟨hd,h⟩

def zU (C:Cx) (ops:Array Oper) (q:Nat → Bool):Nat → List Oper → List Item → Env → Hp → (AV → Hp → Prop) → Prop
 | _,[],k,env,H,R=>ARun C k env H R
 | n,o :: rest,k,env,H,R =>
  match zk C.nt ops o.guard env with
  | some true=>(match zc C.P C.G o.op o.type env H with
   | .val x H'=>zn C.nt o.dst=true∧(q n=true → H'=H)∧zU C ops q (n+1) rest k (env.put o.dst x) H' R
   | .unit H'=>o.dst=none∧q n=false∧zU C ops q (n+1) rest k env H' R
   | .call f args=>zn C.nt o.dst=true∧if q n then ∃ x,ACall C.P C.G f (zz C.raw f args) H (fun x' H'=>x'=x∧H'=H)∧zU C ops q (n+1) rest k (env.put o.dst x) H R
    else ACall C.P C.G f (zz C.raw f args) H (fun x H'=>zU C ops q (n+1) rest k (env.put o.dst x) H' R)
   | .yield b args=>zn C.nt o.dst=true∧q n=false∧AYield C.P C.G b (args.map AV.weak) H (fun x H'=>zU C ops q (n+1) rest k (env.put o.dst x) H' R)
   | .fail=>False)
  | some false=>zn C.nt o.dst=true∧zU C ops q (n+1) rest k (env.put o.dst (.tup [])) H R
  | none=>False

theorem zC : ∀ {l:List Oper} {n:Nat} {env:Env} {H:Hp},(∀ j,l[j]? = ops[n+j]?) → zU C ops q n l k env H R → zcf C ops q n l k env H R
 | [],n,env,H,_,h=>h
 | o :: rest,n,env,H,hl,h=>by
  have h0:ops[n]? = some o:=by simpa using (hl 0).symm
  have hl' : ∀ j,rest[j]? = ops[n+1+j]? := fun j=>by have:=hl (j+1);simpa [Nat.add_assoc,Nat.add_comm 1 j] using this
  unfold zU at h
  split at h
  · rename_i hw
    cases hr:zc C.P C.G o.op o.type env H with
    | val x H'=>rw [hr] at h;exact zps h0 hw hr h.1 h.2.1 (zC hl' h.2.2)
    | unit H'=>rw [hr] at h;exact znM h0 hw hr h.1 h.2.1 (zC hl' h.2.2)
    | call f args =>
     rw [hr] at h
     refine znN h0 hw hr h.1 ?_
     have h2:=h.2
     split at h2
     · rename_i hq;rw [if_pos hq];obtain⟨x,a,b⟩:=h2;exact⟨x,a,zC hl' b⟩
     · rename_i hq;rw [if_neg hq];exact h2.mono fun x H' b=>zC hl' b
    | yield b args =>
     rw [hr] at h
     exact zkR h0 hw hr h.1 h.2.1 (h.2.2.mono fun x H' b=>zC hl' b)
    | fail=>rw [hr] at h;exact h.elim
  · rename_i hw;exact znO h0 hw h.1 (zC hl' h.2)
  · exact h.elim

def CallD (C:Cx) (ops:Array Oper) (q:Nat → Bool) (quiet:Bool) (f:FuncId) (args:List AV) (dst:Option Nat) (n:Nat) (rest:List Oper) (k:List Item) (env:Env) (H:Hp) (R:AV → Hp → Prop):Prop :=
 if quiet then ∃ x,ACall C.P C.G f args H (fun x' H'=>x'=x∧H'=H)∧zU C ops q n rest k (env.put dst x) H R
 else ACall C.P C.G f args H (fun x H'=>zU C ops q n rest k (env.put dst x) H' R)

def YieldD (C:Cx) (ops:Array Oper) (q:Nat → Bool) (b:Nat) (args:List AV) (dst:Option Nat) (n:Nat) (rest:List Oper) (k:List Item) (env:Env) (H:Hp) (R:AV → Hp → Prop):Prop :=
 AYield C.P C.G b args H (fun x H'=>zU C ops q n rest k (env.put dst x) H' R)

def zem (C:Cx) (ops:Array Oper) (q:Nat → Bool) (r:SRes) (n:Nat) (dst:Option Nat) (rest:List Oper) (k:List Item) (env:Env) (H:Hp) (R:AV → Hp → Prop):Prop :=
 match r with
 | .val x H'=>zn C.nt dst=true∧(q n=true → H'=H)∧zU C ops q (n+1) rest k (env.put dst x) H' R
 | .unit H'=>dst=none∧q n=false∧zU C ops q (n+1) rest k env H' R
 | .call f args=>zn C.nt dst=true∧CallD C ops q (q n) f (zz C.raw f args) dst (n+1) rest k env H R
 | .yield b args=>zn C.nt dst=true∧q n=false∧YieldD C ops q b (args.map AV.weak) dst (n+1) rest k env H R
 | .fail=>False

theorem zpt:zU C ops q n [] k env H R=ARun C k env H R:=rfl
theorem znP:zU C ops q n (⟨dst,op,ty,pos,after,none⟩ :: rest) k env H R=zem C ops q (zc C.P C.G op ty env H) n dst rest k env H R:=by
 conv=>lhs;unfold zU
 simp only [zk]
 unfold zem CallD YieldD
 cases zc C.P C.G op ty env H<;>rfl
def zaQ (C:Cx) (ops:Array Oper) (q:Nat → Bool) (w:Option Bool) (op:Op) (ty:TypeId) (n:Nat) (dst:Option Nat) (rest:List Oper) (k:List Item) (env:Env) (H:Hp) (R:AV → Hp → Prop):Prop :=
 match w with
 | some true=>zem C ops q (zc C.P C.G op ty env H) n dst rest k env H R
 | some false=>zn C.nt dst=true∧zU C ops q (n+1) rest k (env.put dst (.tup [])) H R
 | none=>False
theorem znQ:zU C ops q n (⟨dst,op,ty,pos,after,some (j,want)⟩ :: rest) k env H R=zaQ C ops q (zk C.nt ops (some (j,want)) env) op ty n dst rest k env H R:=by
 conv=>lhs;unfold zU
 unfold zaQ zem CallD YieldD
 cases zk C.nt ops (some (j,want)) env with
 | none=>rfl
 | some b=>cases b<;>cases zc C.P C.G op ty env H<;>rfl
theorem zfY:zaQ C ops q (some true) op ty n dst rest k env H R=zem C ops q (zc C.P C.G op ty env H) n dst rest k env H R:=rfl
theorem ze2:zaQ C ops q (some false) op ty n dst rest k env H R=(zn C.nt dst=true∧zU C ops q (n+1) rest k (env.put dst (.tup [])) H R):=rfl
theorem zpu:zem C ops q (.val x H') n dst rest k env H R=(zn C.nt dst=true∧(q n=true → H'=H)∧zU C ops q (n+1) rest k (env.put dst x) H' R):=rfl
theorem znR:zem C ops q (.val x H) n dst rest k env H R=(zn C.nt dst=true∧zU C ops q (n+1) rest k (env.put dst x) H R):=by simp [zem]
theorem znS:zem C ops q (.unit H') n none rest k env H R=(q n=false∧zU C ops q (n+1) rest k env H' R):=by simp [zem]
theorem znT:zem C ops q (.call f args) n dst rest k env H R=(zn C.nt dst=true∧CallD C ops q (q n) f (zz C.raw f args) dst (n+1) rest k env H R):=rfl

theorem zkS {b:Nat}:zem C ops q (.yield b args) n dst rest k env H R=(zn C.nt dst=true∧q n=false∧YieldD C ops q b (args.map AV.weak) dst (n+1) rest k env H R):=rfl

theorem YieldD.of {b:Nat} {args':List AV} {r:AV} {H':Hp} (h : ∀ R:AV → Hp → Prop,R r H' → AYield C.P C.G b args' H R) (hk:zU C ops q n rest k (env.put dst r) H' R):YieldD C ops q b args' dst n rest k env H R :=
 h _ hk

theorem CallD.still {args':List AV} {r:AV} (h : ∀ R:AV → Hp → Prop,R r H → ACall C.P C.G f args' H R) (hk:zU C ops q n rest k (env.put dst r) H R):CallD C ops q true f args' dst n rest k env H R:=by
 unfold CallD
 rw [if_pos rfl]
 exact⟨r,h _ ⟨rfl,rfl⟩,hk⟩
theorem CallD.moves {args':List AV} {S:AV → Hp → Prop} (h:ACall C.P C.G f args' H S) (hk : ∀ r H',S r H' → zU C ops q n rest k (env.put dst r) H' R):CallD C ops q false f args' dst n rest k env H R:=by
 unfold CallD
 rw [if_neg (by simp)]
 exact h.mono hk

def zM (loud:List Nat) (n:Nat):Bool := !loud.contains n

theorem ARun.open {id:Nat} {l:List Oper} (loud:List Nat) (hm:C.P.follows .mixedOrders=true) (hB:zii (zM loud) l.toArray l.length 0 (Array.replicate l.length false)=true)
 (h:zU C l.toArray (zM loud) 0 l k env H R):ARun C (.code (.region id l.toArray true) :: k) env H R :=
 .draw (zM loud) hm hB (zC (by simp) h)
end draw

theorem zcW {n:Nat}:zM [] n=true:=rfl
theorem ziM {m n:Nat} {l:List Nat}:zM (m :: l) n=(!(n == m) && zM l n):=by
 unfold zM
 rw [List.contains_cons]
 cases (n == m)<;>simp

section branch
variable {C:Cx} {k:List Item} {env:Env} {H:Hp} {R:AV → Hp → Prop} {x y:Code} {t:Nat}
theorem ARun.ifT (hc:env t = .p (bo true)) (h:ARun C (.code x :: k) env H R):ARun C (.code (.cond (.tmp t) x y) :: k) env H R:=ARun.cond (t:=true) hc h
theorem ARun.ifF (hc:env t = .p (bo false)) (h:ARun C (.code y :: k) env H R):ARun C (.code (.cond (.tmp t) x y) :: k) env H R:=ARun.cond (t:=false) hc h
end branch

theorem zpv {a b:Int} (h:a < b):decide (a < b)=true:=decide_eq_true h
theorem zpw {a b:Int} (h:b≤a):decide (a < b)=false:=decide_eq_false (by omega)
theorem zpx {a b:Int} (h:a≤b):decide (a≤b)=true:=decide_eq_true h
theorem zpy {a b:Int} (h:b < a):decide (a≤b)=false:=decide_eq_false (by omega)
theorem zvb {a b:Int} (h:a=b):(a == b)=true:=by simp [h]
theorem zvc {a b:Int} (h:a≠b):(a == b)=false:=by simp [h]
theorem zvd {a b:Int} (h:a≠b):(a != b)=true:=by simp [h]
theorem zve {a b:Int} (h:a=b):(a != b)=false:=by simp [h]

section heaps
variable {H:Hp} {x y:AB} {b c:Nat}
theorem n_new':(H.new x).n=H.n+1:=by rw [Hp.n_new]
theorem n_set':(H.set b x).n=H.n:=by rw [Hp.n_set]
theorem ziN (h:b=H.n):(H.new x).f b=some x:=by simp [Hp.f_new,h]
theorem ziO (h:b≠H.n):(H.new x).f b=H.f b:=by simp [Hp.f_new,h]
theorem zpz (h:c=b) (hb:b < H.n):(H.set b x).f c=some x:=by simp [Hp.f_set,h,hb]
theorem f_set_ne' (h:c≠b):(H.set b x).f c=H.f c:=by simp [Hp.f_set,h]
theorem ze3 (h:b=H.n):(H.new x).set b y=H.new y:=by subst h;exact Hp.set_new_self H x y
theorem ze4 (h:b < H.n):(H.new x).set b y=(H.set b y).new x:=Hp.set_new_old H x y b h
theorem trunc_new' (h:b≤H.n):(H.new x).trunc b=H.trunc b:=Hp.trunc_new H x b h
theorem trunc_set' (h:b≤c):(H.set c x).trunc b=H.trunc b:=Hp.trunc_set H x c b h
theorem ziP (h:b=H.n):H.trunc b=H:=by subst h;exact Hp.trunc_self H
end heaps

def zml (P:Program) (d:Option TypeDesc) (x:AV) (ix:Option Int):Option AV :=
 match ix with
 | some n =>
  match d,x with
  | some (.array len e),x=>if 0≤n∧n.toNat < len∧0 < P.cellsOf e∧x.isAggV then zeL P e x (n.toNat*P.cellsOf e) else none
  | some .string,.p (.s (.string s))=>if 0≤n then (s[n.toNat]?).map fun b => .p (.s (.int .u8 b.toNat)) else none
  | _,_=>none
 | none=>none
theorem znU {P:Program} {t:TypeId} {x ix:AV}:yK P t x ix=zml P (P.underlying t) x ix.int? := rfl
theorem ziQ {P:Program} {len:Nat} {e:TypeId} {x:AV} {n:Int}:zml P (some (.array len e)) x (some n)=if 0≤n∧n.toNat < len∧0 < P.cellsOf e∧x.isAggV then zeL P e x (n.toNat*P.cellsOf e) else none:=rfl

section steps
variable {P:Program} {G:Globs} {ty:TypeId} {env:Env} {H:Hp} {x y z:Operand}
theorem znV:zc P G (.move x) ty env H = .val (y4 P G env ty x) H:=rfl
theorem ziR:zc P G (.assign x) ty env H = .val (y4 P G env ty x) H:=rfl
def ziS (ps:Option (List PV)) (H:Hp):SRes:=match ps with | some ps => .val (.ptr H.n 0) (H.new (.cells (ps.map .p))) | none => .fail
theorem zkT {t:TypeId}:zc P G (.alloc t) ty env H=ziS (zB P t) H:=rfl
theorem zfZ {ps:List PV}:ziS (some ps) H = .val (.ptr H.n 0) (H.new (.cells (ps.map .p))):=rfl
def zpA (cs:Option (List AV)) (H:Hp):SRes:=match cs with | some cs => .val (.ptr H.n 0) (H.new (.cells cs)) | none => .fail
theorem zpB {t:TypeId}:zc P G (.box t x) ty env H=zpA (zf (zD G env x)) H:=rfl
theorem ziT {cs:List AV}:zpA (some cs) H = .val (.ptr H.n 0) (H.new (.cells cs)):=rfl
theorem zkU {t:TypeId} {ps:Array (Nat × Operand)}:zc P G (.build t ps) ty env H=vH (yv P t (yk G env ps.toList)) H:=rfl
theorem zen {t:TypeId} {n:Nat} {ps:Array (Nat × Operand)}:zc P G (.buildSlice t n ps) ty env H=vHH (yN P H t n (yk G env ps.toList)):=rfl
theorem znW {t:TypeId}:zc P G (.load t x) ty env H=vH (zax P H t (zD G env x)) H:=rfl
theorem zkV {t:TypeId}:zc P G (.store t x y) ty env H=uH (zb2 P H t (zD G env x) (y4 P G env t y)):=rfl
theorem zf0:zc P G (.nilCheck x) ty env H=vH (zpb (zD G env x)) H:=rfl
theorem zkW {op:BinOp} {t t':TypeId}:zc P G (.binOp op t x y t') ty env H=vH (zo P op t (zeT G env x) (zeT G env y)) H:=rfl
theorem znX {op:UnOp} {t:TypeId}:zc P G (.unOp op t x) ty env H=vH (aUn op (zD G env x)) H:=rfl
theorem zhb {s d:TypeId}:zc P G (.convert s d x) ty env H=vH (yn P H s d (zD G env x)) H:=rfl
def zpC (i:Bool) (t:TypeId) (x:AV) (H:Hp):SRes:=match x with | .p (.s v)=>if i then .fail else .val (.p (.s (.iface t v))) H | _ => .fail
theorem zcX {t:TypeId}:zc P G (.makeInterface t x) ty env H=zpC (isIface P t) t (zD G env x) H:=rfl
theorem zeo {xt t:TypeId} {ok:Bool}:zc P G (.typeAssert x xt t ok) ty env H=vH (zet P t ok (zD G env x)) H:=rfl
theorem zf1 {f:FuncId} {a c:Array Operand}:zc P G (.makeFunc (.func f) a c) ty env H = .val (.clo f (zam G env a.toList) (zam G env c.toList)) H:=rfl
theorem zep {t:TypeId} {k:IntKind}:zc P G (.makeSlice t (.const (.int k 0)) y) ty env H=vHH (zb5 P H t (zD G env (.const (.int k 0))) (zD G env y)):=rfl
theorem ze5 {t:TypeId} {n:Nat}:zc P G (.makeSlice t (.tmp n) y) ty env H=vHH (zd0 P H t (env n) (zD G env y)):=rfl
theorem zkX {t:TypeId} {lo hi mx:Option Operand}:zc P G (.slice t x lo hi mx) ty env H=vH (zeP P t (zD G env x) (lo.map (zD G env)) (hi.map (zD G env)) (mx.map (zD G env))) H:=rfl
theorem ze6 {s:TypeId} {f:Nat}:zc P G (.fieldAddr s x f) ty env H=vH (zaO P s (zD G env x) f) H:=rfl
theorem zkY {s:TypeId} {f:Nat}:zc P G (.field s x f) ty env H=vH (zeM P s (zD G env x) f) H:=rfl
theorem ze7 {t:TypeId}:zc P G (.indexAddr t x y) ty env H=vH (zaN P t (zD G env x) (zD G env y)) H:=rfl
theorem zkZ {t:TypeId}:zc P G (.index t x y) ty env H=vH (yK P t (zD G env x) (zD G env y)) H:=rfl
def ze8 (x:AV) (i:Nat) (H:Hp):SRes:=match x with | .tup xs=>vH xs[i]? H | _ => .fail
theorem zhc {i:Nat}:zc P G (.extract x i) ty env H=ze8 (zD G env x) i H:=rfl
def zmm (b:AV) (x y:AV) (H:Hp):SRes:=match b with | .p (.s (.bool b)) => .val (if b then x else y) H | _ => .fail
theorem znY:zc P G (.pick x y z) ty env H=zmm (zD G env x) (y4 P G env ty y) (y4 P G env ty z) H:=rfl
theorem zk0 {b:Bool} {u v:AV}:zmm (.p (bo b)) u v H = .val (if b=true then u else v) H:=rfl
theorem ze9 {xs:List AV} {i:Nat}:ze8 (.tup xs) i H=vH xs[i]? H:=rfl
theorem znZ {f:Operand} {a:Array Operand} {ts:Array TypeId}:zc P G (.call ⟨.value f,a,ts⟩) ty env H=yU P G env ⟨.value f,a,ts⟩ (zD G env f) H:=rfl
theorem zhd {b:Builtin} {a:Array Operand} {ts:Array TypeId}:zc P G (.call ⟨.builtin b,a,ts⟩) ty env H=zx P G env H b a.toList ts.toList:=rfl
theorem zhe {c:Call} {fn:FuncId} {a b:List AV}:yU P G env c (.clo fn a b) H=if enters P fn then .call fn (a++z6 P G env c.args.toList c.argTypes.toList++b) else zb9 P fn (a++z6 P G env c.args.toList c.argTypes.toList++b) H:=rfl
theorem zhf {c:Call} {b:Nat}:yU P G env c (.yld b) H = .yield b (z6 P G env c.args.toList c.argTypes.toList):=rfl
theorem zpD {b:Nat}:(AV.yld b).weak = .yld b:=rfl
def lenD (P:Program) (d:Option TypeDesc) (x:AV):Option AV :=
 match d with
 | some .string=>match x with | .p (.s (.string s))=>some (.p (.s (.int .i64 s.size))) | _=>none
 | some (.slice _) =>
  match x with
  | .p (.sl _ _ xs) | .sl _ _ _ xs=>some (.p (.s (.int .i64 xs.length)))
  | .ref _ _ len _=>some (.p (.s (.int .i64 len)))
  | .vr _ len _=>some (.p (.s (.int .i64 len)))
  | _=>none
 | some (.array n _)=>some (.p (.s (.int .i64 n)))
 | some (.pointer a)=>match P.underlying a with | some (.array n _)=>some (.p (.s (.int .i64 n))) | _=>none
 | _=>none
theorem zpE {s:ByteArray}:lenD P (some .string) (.p (str s))=some (.p (i64 s.size)):=rfl
theorem ztN {e:TypeId} {b:Bool} {z:Nat} {xs:List PV}:lenD P (some (.slice e)) (.p (.sl b z xs))=some (.p (i64 xs.length)):=rfl
theorem zso {e:TypeId} {a v z:Nat} {xs:List PV}:lenD P (some (.slice e)) (.sl a v z xs)=some (.p (i64 xs.length)):=rfl
theorem zpF {e:TypeId} {b o l z:Nat}:lenD P (some (.slice e)) (.ref b o l z)=some (.p (i64 l)):=rfl
theorem zsp {e:TypeId} {b l z:Nat}:lenD P (some (.slice e)) (.vr b l z)=some (.p (i64 l)):=rfl
theorem zpG {n:Nat} {e:TypeId} {x:AV}:lenD P (some (.array n e)) x=some (.p (i64 n)):=rfl
theorem zpH {a:TypeId} {x:AV}:lenD P (some (.pointer a)) x=match P.underlying a with | some (.array n _)=>some (.p (.s (.int .i64 n))) | _=>none:=rfl
theorem builtin_len {t:TypeId}:zx P G env H .len [x] [t]=vH (lenD P (P.underlying t) (zD G env x)) H:=rfl
theorem builtin_append {t u:TypeId}:zx P G env H .append [x,y] [t,u]=vHH (zda P H t u (y4 P G env t x) (y4 P G env u y)):=rfl
theorem builtin_copy {t u:TypeId}:zx P G env H .copy [x,y] [t,u]=vHH (zh8 P H t (zD G env x) (zD G env y)):=rfl
theorem builtin_min {ts:List TypeId}:zx P G env H .min [x,y] ts=vH (za4 false (zD G env x) (zD G env y)) H:=rfl
theorem builtin_max {ts:List TypeId}:zx P G env H .max [x,y] ts=vH (za4 true (zD G env x) (zD G env y)) H:=rfl
theorem zsq {v:AV}:vH (some v) H = .val v H:=rfl
theorem zpI {v:AV} {H':Hp}:vHH (some (v,H')) = .val v H':=rfl
theorem zsr {H':Hp}:uH (some H') = .unit H':=rfl
theorem zhg {t:Nat}:zD G env (.tmp t)=env t:=rfl
theorem zn0 {v:Value}:zD G env (.const v)=zI v:=rfl
theorem zpJ {f:FuncId}:zD G env (.func f) = .clo f [] []:=rfl
def ziU (g:Option (Nat × List PV)):AV:=match g with | some (sz,xs) => .ip sz xs 0 0 | none => .top
theorem zk1 {g:Nat}:zD G env (.global g)=ziU (G g):=rfl
theorem zk2 {sz:Nat} {xs:List PV}:ziU (some (sz,xs)) = .ip sz xs 0 0:=rfl
theorem zfa {t:Nat}:y4 P G env ty (.tmp t)=env t:=rfl
theorem zk3 {v:Value}:y4 P G env ty (.const v)=yT P ty v:=rfl
theorem zn1 {f:FuncId}:y4 P G env ty (.func f) = .clo f [] []:=rfl
theorem ziV {g:Nat}:y4 P G env ty (.global g)=ziU (G g):=rfl
theorem ziW {k:IntKind} {n:Int}:yT P ty (.int k n)=zI (.int k n):=rfl
theorem zhh {b:Bool}:yT P ty (.bool b)=zI (.bool b):=rfl
theorem zfb {s:ByteArray}:yT P ty (.string s)=zI (.string s):=rfl
theorem zeq:yT P ty .nilFunc = .p (.s .nilFunc):=rfl
def ztz (d:Option TypeDesc) (P:Program):AV:=match d with | some (.slice e) => .p (.sl true (P.cellsOf e) []) | _ => .p (.sl true 0 [])
theorem ziX:yT P ty (.slice none 0 0)=ztz (P.underlying ty) P:=rfl
theorem ziY {e:TypeId}:ztz (some (.slice e)) P = .p (.sl true (P.cellsOf e) []):=rfl
theorem zn2 {ts:List TypeId}:z6 P G env [] ts=[]:=rfl
theorem zk4 {xs:List Operand} {t:TypeId} {ts:List TypeId}:z6 P G env (x :: xs) (t :: ts)=zg0 P G env t x :: z6 P G env xs ts:=rfl
theorem zpK {t:Nat}:zeT G env (.tmp t)=env t:=rfl
theorem zk5 {v:Value}:zeT G env (.const v)=zaA v:=rfl
theorem zn3 {f:FuncId}:zeT G env (.func f) = .clo f [] []:=rfl
theorem ziZ {g:Nat}:zeT G env (.global g)=ziU (G g):=rfl
theorem zpL {t:Nat}:zg0 P G env ty (.tmp t)=env t:=rfl
theorem zk6 {v:Value}:zg0 P G env ty (.const v)=zaB P ty v:=rfl
theorem zn4 {f:FuncId}:zg0 P G env ty (.func f) = .clo f [] []:=rfl
theorem zi0 {g:Nat}:zg0 P G env ty (.global g)=ziU (G g):=rfl
theorem zi1 {k:IntKind} {n:Int}:zaA (.int k n)=zI (.int k n):=rfl
theorem zhi {b:Bool}:zaA (.bool b)=zI (.bool b):=rfl
theorem zfc {s:ByteArray}:zaA (.string s)=zI (.string s):=rfl
theorem zi2:zaA (.slice none 0 0) = .p (.s (.slice none 0 0)):=rfl
theorem zi3 {k:IntKind} {n:Int}:zaB P ty (.int k n)=zI (.int k n):=rfl
theorem zhj {b:Bool}:zaB P ty (.bool b)=zI (.bool b):=rfl
theorem zfd {s:ByteArray}:zaB P ty (.string s)=zI (.string s):=rfl
theorem zer:zaB P ty .nilFunc = .p (.s .nilFunc):=rfl
theorem zi4:zaB P ty (.slice none 0 0) = .p (.s (.slice none 0 0)):=rfl
theorem zi5 {t:TypeId}:zb0 P t=zgV (P.underlying t):=rfl
theorem zhk {e:TypeId}:zgV (some (.slice e))=true:=rfl
theorem zdf {t:TypeId} {f:FuncId} {as cs:List AV} (h:zbz P t=true):zo P .eql t (.clo f as cs) (.p (.s .nilFunc))=some (.p (bo false)):=by
 simp only [zo,h];rfl
theorem zf2 {t:TypeId} (h:zbz P t=true):zo P .eql t (.p (.s .nilFunc)) (.p (.s .nilFunc))=some (.p (bo true)):=by
 simp only [zo,yq,h];rfl
theorem zk7:yk G env []=[]:=rfl
theorem zi6 {i:Nat} {r:List (Nat × Operand)}:yk G env ((i,x) :: r)=(i,zD G env x) :: yk G env r:=rfl
theorem zn5:zam G env []=[]:=rfl
theorem zk8 {r:List Operand}:zam G env (x :: r)=zD G env x :: zam G env r:=rfl
theorem ztO {v:PV}:(AV.p v).weak = .p v.weak:=rfl
theorem zss {a v sz:Nat} {xs:List PV}:(AV.sl a v sz xs).weak = .p (.sl false sz xs):=rfl
theorem zpM {b off len sz:Nat}:(AV.ref b off len sz).weak = .ref b off len sz:=rfl
theorem zst {b len sz:Nat}:(AV.vr b len sz).weak = .vr b len sz:=rfl
theorem zsu {b k off:Nat}:(AV.vp b k off).weak = .vp b k off:=rfl
theorem vec?_vec {cs:List AV}:(AB.vec cs).vec? = some cs:=rfl
theorem vec?_cells {cs:List AV}:(AB.cells cs).vec? = none:=rfl
theorem vec?_tail {v:Nat}:(AB.tail v).vec? = none:=rfl
theorem zpN {b off:Nat}:(AV.ptr b off).weak = .ptr b off:=rfl
theorem zsv {sz i sub:Nat} {xs:List PV}:(AV.ip sz xs i sub).weak = .ip sz xs i sub:=rfl
theorem zpO {f:FuncId} {a c:List AV}:(AV.clo f a c).weak = .clo f a c:=rfl
theorem zpP {fl:Bool} {sz:Nat} {xs:List PV}:(PV.sl fl sz xs).weak = .sl false sz xs:=rfl
theorem zn6 {fl:Bool} {sz:Nat} {xs:List PV}:(PV.sl fl sz xs).weak1 = .sl false sz xs:=rfl
theorem zn7 {xs:List PV}:(PV.agg xs).weak = .agg (xs.map PV.weak1):=rfl
theorem zhl {f:FuncId} {args:List AV}:zz [] f args=args.map AV.weak:=rfl
end steps

attribute [go_sem ↓] put_some
attribute [go_sem] zst zsu vec?_vec vec?_cells vec?_tail
attribute [go_sem] zkN zkS zhf zpD zpq znH znI zg8 zfX zpr znJ znK zkO ziL zg9 zha znL zpt znP znQ zfY ze2 znR zpu znS znT znV ziR zkT zfZ zpB ziT zkU zen znW zkV zf0 zkW znX zhb zcX zeo zf1 zep ze5 zkX ze6 zkY ze7 zkZ zhc znY zk0 ze9 znZ zhd zhe builtin_len builtin_append builtin_copy builtin_min builtin_max zsq zpI zsr zhg zn0 zpJ zk1 zk2 zkQ zpK zk5 zn3 ziZ zpL zk6 zn4 zi0 zi1 zhi zfc zi2 zi3 zhj zfd zer zi4 zi5 zhk zfa zk3 zn1 ziV ziW zhh zfb zeq ziX ziY zn2 zk4 zk7 zi6 zn5 zk8 ztO zss zpM zpN zsv zpO zpP zn6 zn7 zhl





attribute [go_sem] znk zph znl zkp znm zkq zkr zpi zmj zpj znn zpk zno znp znq zpl znr zks zns zkt zku cells_b8 zmk zij znt zpm znu znv znw zpn znx zkv zny zkw zkx znz zpo zgs zky znA zkz zkA znB zpp znC zkB znD zkC zkD zsk ztM zsl zsm zsn zkE znE zkF znF zkG zkH zkI zeZ zcV zik zil zkJ zim zeh zei zej zkK zin zio ziq zir zis zek zel zit ziu ziv ziw zix ziy ziz ziA ziB ziC ziD zd6 zkL znG ziE ziF zkM ziG ziH zg5 ziI ziJ zg6 ziK zg7 ze0 ze1

theorem zk9 {P:Program} {e:TypeId} {k:IntKind} {n:Int}:zkc P e (.int k) (.p (i64 n))=(match zB P e with
 | some [p]=>if 0≤n∧n*P.bytesOf e≤140737488355328∧n≤140737488355328∧P.cellsOf e=1∧p.cells.length=1∧p.isAgg=false then some (List.replicate n.toNat p) else none
 | _=>none):=rfl
attribute [go_sem] true_and and_true if_true if_false ite_true ite_false List.getElem?_cons_zero List.getElem?_cons_succ Option.getD_some Option.map_some Option.map_none Option.bind_some yH implies_true zcW ziM zpv zpw zpx zpy zvb zvc zvd zve ziN ziO zpz f_set_ne' ze3 ze4 trunc_new' trunc_set' ziP n_new' n_set' zaD zax zb2 zaN zaO zeM znU ziQ zeL zeP zA zpE ztN zso zpF zsp zpG zpH zd0 zb5 zh8 zda zo8 zk9 zgk yu yN zE zaa znc zpb List.map_cons List.map_nil List.map_replicate List.length_cons List.length_nil List.length_map List.length_replicate List.length_append List.cons_append List.nil_append List.append_nil List.singleton_append Bool.not_true Bool.not_false Bool.and_true Bool.true_and Bool.and_false Bool.false_and Bool.or_true Bool.true_or Bool.or_false Bool.false_or Bool.false_eq_true Option.isSome_some Option.isSome_none Option.isNone_none Option.isNone_some Nat.add_zero Nat.zero_add Nat.mul_one Nat.one_mul Nat.sub_zero Int.toNat_natCast Int.toNat_zero Int.natCast_nonneg






end Go.AL

/-
  Rows of encoded things: reading,writing and slicing them;loops by a state;small numbers.
  Conditions: none;nothing here speaks of one program.
-/
namespace Go.AL
open Go

theorem ARun.iter {C:Cx} {k:List Item} {env:Env} {H:Hp} {R:AV → Hp → Prop} {c:Code} {S:Type} (I:S → Env → Hp → Prop) (μ:S → Nat) (s0:S) (h0:I s0 env H)
 (round : ∀ s env H,I s env H → (∀ s' env' H',I s' env' H' → μ s' < μ s → ARun C (.inLoop c :: k) env' H' R) → ARun C (.code c :: .inLoop c :: k) env H R) :
 ARun C (.code (.loop c) :: k) env H R:=by
 have key : ∀ n s env H,μ s=n → I s env H → ARun C (.inLoop c :: k) env H R:=by
  intro n
  induction n using Nat.strongRecOn with
  | _ n ih =>
   intro s env H hn hI
   exact .inLoop (round s env H hI fun s' env' H' hI' hlt=>ih (μ s') (hn ▸ hlt) s' env' H' rfl hI')
 exact .loop (key _ s0 env H rfl h0)

theorem ARun.count {C:Cx} {k:List Item} {env:Env} {H:Hp} {R:AV → Hp → Prop} {c:Code} (I:Nat → Env → Hp → Prop) (a n:Nat) (ha:a≤n) (h0:I a env H)
 (last : ∀ env H,I n env H → ARun C (.code c :: .inLoop c :: k) env H R)
 (round : ∀ i env H,a≤i → i < n → I i env H → (∀ env' H',I (i+1) env' H' → ARun C (.inLoop c :: k) env' H' R) → ARun C (.code c :: .inLoop c :: k) env H R) :
 ARun C (.code (.loop c) :: k) env H R :=
 .iter (S:=Nat) (fun i env H=>a≤i∧i≤n∧I i env H) (fun i=>n - i) a ⟨Nat.le_refl _,ha,h0⟩ fun i env H ⟨h1,h2,h3⟩ ih=>by
  by_cases h:i=n
  · subst h;exact last env H h3
  · exact round i env H h1 (by omega) h3 fun env' H' h'=>ih (i+1) env' H' ⟨by omega,by omega,h'⟩ (by omega)

theorem ARun.own {C:Cx} {todo:List Item} {env:Env} {H:Hp} {R:AV → Hp → Prop} (t:Nat) {sz:Nat} {xs:List PV} (ht:env t = .p (.sl true sz xs))
 (h:ARun C todo (env.put (some t) (.sl H.n 0 sz xs)) (H.new (.tail 0)) R):ARun C todo env H R:=by
 intro σ w a b cs m h1 hpre
 obtain⟨hr,hev⟩:=yM hpre.rel (w':=w) (Nat.le_refl _) (fun _ _=>rfl) rfl rfl none (fun _ _ _ hh=>by cases hh)
 have h4:=hpre.fr.mono hev
 have hf:RelF C.nt m (σ.withT H.n none) (H.new (.tail 0)) w (env.put (some t) (.sl H.n 0 sz xs)) a:=by
  refine⟨h4.defers,h4.size,fun i => ?_⟩
  simp only [Env.put]
  by_cases hi:i=t
  · subst hi
    rw [if_pos rfl]
    have hs:=hpre.fr.slot i
    rw [ht] at hs
    generalize a.tmps.getD i undef=v at hs
    cases hs with | p hp =>
    have hp':RelP w (Stable (σ.withT H.n none) (H.new (.tail 0))) (.sl true sz xs) v:=by
     have:=(RelV.p hp).mono hev
     cases this;assumption
    refine .sl ?_ ⟨by simp [Hp.n_new],fun k0 d hk0 => ?_⟩
    · cases hp' with
      | emp _ _ a cap h hc=>exact .emp _ _ a cap (by simp) hc
      | sl _ _ _ g off cap f hfl hcap hsz hrd hc=>exact .sl false _ _ g off cap f (by simp) hcap hsz hrd hc
    · simp [Hp.f_new] at hk0
      refine⟨by omega,fun _ => .inl ?_⟩
      cases hp' with
      | emp _ _ a cap h0 hc=>exact⟨a,0,by rw [h0 rfl],by simp [Gh.withT]⟩
      | sl _ _ _ g off cap f hfl hcap hsz hrd hc=>exact⟨some ⟨g,off,none⟩,xs.length,by rw [hfl rfl],by simp [Gh.withT]⟩
  · rw [if_neg hi];exact h4.slot i
 obtain⟨r,H',σ',v,w',M,q,st,q1,q2,q3,q5⟩:=h _ w a b cs m (h1.mono hpre.n0 hev.c hpre.lt) (hpre.go hr hf hev)
 exact⟨r,H',σ',v,w',M,q,st,q1,q2,q3,hev.transM q5 hpre.n0 hpre.m⟩

def nth {α:Type} [Inhabited α] (l:List α) (i:Nat):α:=(l[i]?).getD default

section nth
variable {α:Type} [Inhabited α]
theorem zeu {l:List α} {i:Nat} (h:i < l.length):l[i]? = some (nth l i):=by simp [nth,h]
theorem zfe {l:List α} {i j:Nat} {x:α} (h:i=j) (hi:i < l.length):nth (l.set i x) j=x:=by subst h;simp [nth,hi]
theorem zff {l:List α} {i j:Nat} {x:α} (h:i≠j):nth (l.set i x) j=nth l j:=by simp [nth,List.getElem?_set_ne h]
theorem zcI {x:α} {l:List α}:nth (x :: l) 0=x:=rfl
theorem zP {x:α} {l:List α} {i:Nat}:nth (x :: l) (i+1)=nth l i:=by simp [nth]
theorem zhm {l m:List α} {i:Nat} (h:i < l.length):nth (l++m) i=nth l i:=by simp [nth,List.getElem?_append_left h]
theorem zpQ {l:List α} {n i:Nat}:nth (l.drop n) i=nth l (n+i):=by simp [nth]
theorem zpR {l:List α} {n i:Nat} (h:i < n):nth (l.take n) i=nth l i:=by simp [nth,h]
theorem zcJ {n i:Nat} {x:α} (h:i < n):nth (List.replicate n x) i=x:=by simp [nth,h]
theorem zev {l m:List α} (hl:l.length=m.length) (h : ∀ i,i < l.length → nth l i=nth m i):l=m:=by
 refine List.ext_getElem? fun i => ?_
 by_cases hi:i < l.length
 · rw [zeu hi,zeu (by omega),h i hi]
 · rw [List.getElem?_eq_none (by omega),List.getElem?_eq_none (by omega)]
end nth

def pl {α:Type} (f:α → PV) (l:List α):List PV:=l.map f
def cl {α:Type} (f:α → PV) (l:List α):List AV:=l.map fun x => .p (f x)

section rows
variable {α:Type} {f:α → PV} {l m:List α} {i n:Nat} {x:α}
theorem zat:(pl f l).length=l.length:=by simp [pl]
theorem zaR:(cl f l).length=l.length:=by simp [cl]
theorem ztP [Inhabited α] (h:i < l.length):(pl f l)[i]? = some (f (nth l i)):=by simp [pl,nth,h]
theorem ztQ [Inhabited α] (h:i < l.length):(cl f l)[i]? = some (.p (f (nth l i))):=by simp [cl,nth,h]
theorem ztR:(cl f l).set i (.p (f x))=cl f (l.set i x):=by simp [cl,List.map_set]
theorem zi7:(pl f l).map AV.p=cl f l:=by simp [pl,cl]
theorem zmn:(pl f l).take n=pl f (l.take n):=by simp [pl,List.map_take]
theorem zmo:(pl f l).drop n=pl f (l.drop n):=by simp [pl,List.map_drop]
theorem zn8:pl f l++pl f m=pl f (l++m):=by simp [pl]
theorem zn9:cl f l++cl f m=cl f (l++m):=by simp [cl]
theorem ztS:pl f l++[f x]=pl f (l++[x]):=by simp [pl]
theorem ztT {y:α}:pl f l++[f x,f y]=pl f (l++[x,y]):=by simp [pl]
theorem pl_replicate:pl f (List.replicate n x)=List.replicate n (f x):=by simp [pl]
theorem ztU:List.replicate n (f x)=pl f (List.replicate n x):=pl_replicate.symm
theorem zla:(pl f l).isEmpty=l.isEmpty:=by cases l<;>rfl
theorem ztV:pvs? (cl f l)=some (pl f l):=by
 induction l with
 | nil=>rfl
 | cons a l ih=>simp only [cl,pl,List.map_cons] at ih ⊢;simp [pvs?,AV.pv?,ih]
theorem zpS:zO (cl f l) = .p (.agg (pl f l)):=by unfold zO;rw [ztV]
theorem zoa:zf (.p (.agg (pl f l)))=some (cl f l):=by simp [zf,zi7]
theorem zdg (h : ∀ x,(f x).weak=f x):(pl f l).map PV.weak=pl f l:=by simp [pl,Function.comp_def,h]
theorem zi8 (h : ∀ x,(f x).weak1=f x):(pl f l).map PV.weak1=pl f l:=by simp [pl,Function.comp_def,h]
theorem zew (h : ∀ x,(f x).cells=[f x]):flat (pl f l)=pl f l:=by
 unfold flat pl
 induction l with
 | nil=>rfl
 | cons a l ih=>simp [h,ih]
theorem zpT (h:i+m.length≤l.length):setAt (cl f l) i (cl f m)=cl f (l.take i++m++l.drop (i+m.length)):=by
 rw [yt _ _ _ (by simpa [zaR] using h)]
 simp [cl]
theorem za6 (hf : ∀ x,∀ b,zaa b [.p (f x)]=if b then some (.agg [f x]) else some (f x)) : ∀ {n:Nat} {l:List α},n≤l.length → z5 false 1 n (cl f l)=some (pl f (l.take n))
 | 0,_,_=>by simp [z5,pl]
 | n+1,[],h=>by simp at h
 | n+1,a :: l,h=>by
  have:=za6 hf (n:=n) (l:=l) (by simpa using h)
  simp only [cl,List.map_cons] at this ⊢
  simp [z5,hf,this,pl]
end rows

theorem ztW (i n:Nat):((i:Int) - (no_index (OfNat.ofNat n):Int)).toNat=i - OfNat.ofNat n:=by show ((i:Int) - (n:Int)).toNat=i - n;omega
theorem ztX (i n:Nat):((i:Int)+(no_index (OfNat.ofNat n):Int)).toNat=i+OfNat.ofNat n:=by show ((i:Int)+(n:Int)).toNat=i+n;omega
theorem ztY (i n:Nat):((no_index (OfNat.ofNat n):Int)*(i:Int)).toNat=OfNat.ofNat n*i:=by show ((n:Int)*(i:Int)).toNat=n*i;rw [←Int.natCast_mul];omega
theorem zlb (i n m:Nat):((no_index (OfNat.ofNat n):Int)*(i:Int)+(no_index (OfNat.ofNat m):Int)).toNat=OfNat.ofNat n*i+OfNat.ofNat m:=by show ((n:Int)*(i:Int)+(m:Int)).toNat=n*i+m;rw [←Int.natCast_mul];omega
theorem tn_mul_add' (i n m:Nat):((no_index (OfNat.ofNat n):Int)*(i:Int)+(m:Int)).toNat=OfNat.ofNat n*i+m:=by show ((n:Int)*(i:Int)+(m:Int)).toNat=n*i+m;rw [←Int.natCast_mul];omega
theorem zpU {P:Program} {t:Nat} {env:Env} {H:Hp}:zcE P [.tmp t] env H=some (env t):=rfl
theorem zob {P:Program} {env:Env} {H:Hp}:zcE P [] env H=some (.tup []):=rfl
theorem zoc {P:Program} {a:Nat} {t:TypeId} {env:Env} {H:Hp}:zcE P [.cell a t] env H=zax P H t (env a):=by
 simp only [zcE,zaC,zbG]
 cases zax P H t (env a)<;>rfl
theorem zvf {n:Nat} {x:PV}:(AV.p x).out n=some (.p x.weak):=rfl
theorem ztZ {n a v sz:Nat} {xs:List PV}:(AV.sl a v sz xs).out n=some (.p (.sl false sz xs)):=rfl
theorem zpV {n:Nat}:(AV.tup []).out n=some (.tup []):=rfl
theorem zpW:decide True=true:=by simp
theorem zod:decide False=false:=by simp
theorem zvJ {α:Type} {c:Prop} [Decidable c] {x y:α} (h:c):(if c then x else y)=x:=if_pos h
theorem zbJ {n:Nat} {H:Hp} {x:AB} (h:Bel n H) (hn:n≤H.n):Bel n (H.new x):=(Bel.new hn).2 h
theorem zbK {n b:Nat} {H:Hp} {x:AB} (h:Bel n H) (hn:n≤b):Bel n (H.set b x):=(Bel.set_hi hn).2 h
theorem zad {α:Type} {f:α → PV} {l:List α} {n b:Nat} {H:Hp} (h:Bel n H):Bel n (H.set b (.cells (cl f l))):=h.set_cells fun x hx=>by
 simp only [cl,List.mem_map] at hx
 obtain⟨a,_,rfl⟩:=hx
 exact .p _
theorem zi9 {α:Type} {l:List α} {n:Nat} (h:n≤l.length):(l.take n).length=n:=List.length_take_of_le h
theorem zpX {n:Int}:AV.p (.s (.int .i64 n)) = .p (i64 n):=rfl
theorem zoe {xs:List PV}:(PV.agg xs).cells=xs:=rfl
theorem zof {xs:List PV}:(PV.agg xs).isAgg=true:=rfl
theorem zlc {xs:List PV}:(AV.p (.agg xs)).isAggV=true:=rfl
theorem set_same {H:Hp} {b:Nat} {x:AB} (h:H.f b=some x):H.set b x=H:=by
 cases H with | mk f n wf =>
 simp only [Hp.set,Hp.mk.injEq,and_true]
 funext c
 by_cases hc:c=b∧b < n
 · rw [if_pos hc,hc.1];exact h.symm
 · rw [if_neg hc]
theorem set_set' {H:Hp} {b:Nat} {x y:AB}:(H.set b x).set b y=H.set b y:=by
 cases H with | mk f n wf =>
 simp only [Hp.set,Hp.mk.injEq,and_true]
 funext c
 by_cases hc:c=b∧b < n
 · simp [hc]
 · simp [hc]
theorem zsw:pvs? []=some []:=rfl
theorem zpY {x:PV} {xs:List AV}:pvs? (.p x :: xs)=(pvs? xs).map (x :: ·):=by
 simp only [pvs?,AV.pv?]
 cases pvs? xs<;>rfl
theorem zpZ {fl:Bool} {sz:Nat} {xs:List PV}:(PV.sl fl sz xs).cells=[.sl fl sz xs]:=rfl
theorem zvg:(false == false)=true:=rfl
theorem zvh:(false == true)=false:=rfl
theorem zvi:(true == false)=false:=rfl
theorem zvj:(true == true)=true:=rfl
theorem take_one {α:Type} [Inhabited α] {l:List α} {i:Nat} (h:i < l.length):l.take i++[nth l i]=l.take (i+1):=by
 rw [List.take_succ_eq_append_getElem h]
 simp [nth,h]



theorem zcY {α:Type} (z:α → Value) : ∀ (l:List α),zbC (l.map fun x=>PV.s (z x))=some (l.map z)
 | []=>rfl
 | x :: l=>by simp [zbC,zcY z l]


theorem zog {cs:List AV} {o:Nat} {x:AV}:setAt cs o [x]=cs.set o x:=rfl
theorem zja {cs xs:List AV} (h:xs.length=cs.length):setAt cs 0 xs=xs:=by rw [yt _ _ _ (by omega)];simp [h]
theorem zld {α:Type} {l:List α} {n:Nat} (h:l.length≤n):l.take n=l:=List.take_of_length_le h
theorem zoh {α:Type} {l:List α}:l.drop 0=l:=rfl
theorem zp0 (n:Nat):((no_index (OfNat.ofNat n:Nat):Nat):Int)=(OfNat.ofNat n:Int):=rfl
theorem zoi {p:Nat → Option (Nat × Nat)} {cs:List AV}:yE p cs []=some cs:=rfl
theorem zjb {l:List (BitVec 8)}:(pl b8 l).map PV.weak1=pl b8 l:=zi8 fun _=>zij _
theorem zle {l:List (BitVec 8)}:(pl b8 l).map PV.weak=pl b8 l:=zdg fun _=>zmk _
theorem zhn {l:List (BitVec 32)}:(pl zG l).map PV.weak1=pl zG l:=zi8 fun _=>zgs _
theorem zlf {l:List Bool}:(pl bo l).map PV.weak=pl bo l:=zdg fun _=>zmj _
theorem zjc {n:Nat} {l:List (BitVec 8)} (h:n≤l.length):z5 false 1 n (cl b8 l)=some (pl b8 (l.take n)):=za6 (fun x b=>by cases b<;>rfl) h
theorem zsx {l:List (BitVec 8)}:flat (pl b8 l)=pl b8 l:=zew fun _=>rfl
theorem zho {n:Nat} {l:List (BitVec 32)} (h:n≤l.length):z5 false 1 n (cl zG l)=some (pl zG (l.take n)):=za6 (fun x b=>by cases b<;>rfl) h
theorem zp1 {l:List (BitVec 32)}:flat (pl zG l)=pl zG l:=zew fun _=>rfl
theorem zjd {n:Nat} {l:List Bool} (h:n≤l.length):z5 false 1 n (cl bo l)=some (pl bo (l.take n)):=za6 (fun x b=>by cases b<;>rfl) h
theorem zhp {l:List Bool}:flat (pl bo l)=pl bo l:=zew fun _=>rfl
attribute [go_sem] zjc zsx zho zp1 zjd zhp zpT
attribute [go_sem] zvg zvh zvi zvj take_one and_self List.getElem?_toArray List.range_zero List.cons.injEq zsw zpY zpZ List.all_cons List.all_nil set_set' false_implies true_implies zpX zoe zof zlc true_or or_true false_or or_false false_and and_false not_true_eq_false not_false_eq_true zi9 List.length_drop Nat.add_sub_cancel_left
attribute [go_sem] zjb zle zhn zlf zpW zod zvJ zpU zob zoc zvf ztZ zpV zoi zog zja zld zoh zp0 Int.natCast_add Int.natCast_mul zaR zat ztQ ztP ztR zi7 zpS zoa ztS ztT zn8 zn9 zmn zmo ztU List.length_set zla ztW ztX ztY zlb tn_mul_add'
end Go.AL

/-
  A slice compared with nil.
  Conditions: none;nothing here speaks of one program.
-/
namespace Go.AL
open Go

section
variable {C:Cx} {k:List Item} {env:Env} {H:Hp} {R:AV → Hp → Prop} {ops:Array Oper} {rest:List Oper}

theorem AOps.one {o:Oper} (hg:o.guard=none) {x:AV} {H':Hp} (hs:zc C.P C.G o.op o.type env H = .val x H') (hd:zn C.nt o.dst=true) (h:AOps C ops rest k (env.put o.dst x) H' R):AOps C ops (o :: rest) k env H R :=
 .of_op true (by rw [hg];rfl) fun σ w a m hpre K Q hK=>aOp1.wp (K:=fun y H2=>y=x∧H2=H') (by unfold aOp1;rw [hs];exact⟨hd,rfl,rfl⟩) hpre.rel hpre.fr fun y v H2 σ' w' ⟨e1,e2⟩ q1 q2 q3 q4=>by
  subst e1 e2;exact hK _ v _ σ' w' h q1 q2 q3 q4

theorem AOps.isNil {dst:Option Nat} {t t' ty:TypeId} {pos:String} {after:Array Edge} {x:Operand} {e:TypeId} (hu:C.P.underlying t=some (.slice e)) {fl:Bool} {sz:Nat} {xs:List PV} (hx:zD C.G env x = .p (.sl fl sz xs)) (hd:zn C.nt dst=true)
 (h : ∀ b:Bool,(b=true → xs=[]) → AOps C ops rest k (env.put dst (.p (bo b))) H R) :
 AOps C ops (⟨dst,.binOp .eql t x (.const (.slice none 0 0)) t',ty,pos,after,none⟩ :: rest) k env H R:=by
 refine .of_op true rfl fun σ w a m hpre K Q hK => ?_
 have hr:=zi hpre.rel hpre.fr x
 rw [hx] at hr
 have key : ∀ (ad:Option Addr) (l c:Nat),a.eval x = .slice ad l c → (ad.isNone=true → xs=[]) →
  (⟨dst,.binOp .eql t x (.const (.slice none 0 0)) t',ty,pos,after,none⟩:Oper).wpIn (Fr C σ) 0 C.P a w K Q:=by
  intro ad l c hv hn
  unfold Oper.wpIn
  refine⟨fun f _=>trivial,?_⟩
  have hsem:Oper.semAt (Fr C σ).round a.eval ⟨dst,.binOp .eql t x (.const (.slice none 0 0)) t',ty,pos,after,none⟩=execOp a.eval ⟨dst,.binOp .eql t x (.const (.slice none 0 0)) t',ty,pos,after,none⟩:=Oper.semAt_eq _ _ _ (fun c h=>by cases h)
  rw [hsem]
  have he:(execOp a.eval ⟨dst,.binOp .eql t x (.const (.slice none 0 0)) t',ty,pos,after,none⟩).run C.P w = .ok (.value (.bool ad.isNone)) w:=by
   have hc:a.eval (.const (.slice none 0 0)) = .slice none 0 0:=rfl
   simp only [execOp,hv,hc]
   have hg:=zF (P:=C.P) (w:=w) (op := .eql) (t:=t) (xo:=x) (yo := .const (.slice none 0 0)) (a := .slice ad l c) (b := .slice none 0 0) (by simp) (by simp)
   simp only [Sem.run_bind,hg,Result.andThen_ok,binOp,run_equal_slice_nil w t e ad l c hu,Sem.run_pure]
  rw [he]
  exact hK (.p (bo ad.isNone)) (.bool ad.isNone) H σ w (h ad.isNone hn) (zL hd) hpre.rel (.p (.s _ rfl)) (Ev.refl (Nat.le_refl _))
 generalize hv:a.eval x=v at hr
 cases hr with | p hp =>
 cases hp with
 | emp _ _ a cap=>exact key a 0 cap hv fun _=>rfl
 | sl _ _ _ g off cap f=>exact key (some ⟨g,off,none⟩) xs.length cap hv fun hh=>by cases hh
end
theorem RelV.low {σ σ':Gh} {H H':Hp} {w w':World} {n0 m:Nat} (h:EvM n0 m σ H w σ' H' w') {x:AV} {v:Value} (r:RelV σ H w x v):BelowN n0 x → RelV σ' H' w' x v:=by
 induction r with
 | p hp=>exact fun _ => .p (hp.mono h.cell)
 | sl hp ht =>
  intro hb
  cases hb with | sl _ _ _ _ hb =>
  refine .sl (hp.mono h.cell) ⟨Nat.lt_of_lt_of_le hb h.hn,fun k' d' hk' => ?_⟩
  obtain⟨k0,d0,e0,l0,q0⟩:=h.t _ hb k' d' hk'
  obtain⟨l1,q1⟩:=ht.2 k0 d0 e0
  refine⟨Nat.le_trans l1 l0,fun hkk => ?_⟩
  rw [q0 (by omega)]
  exact q1 (by omega)
 | ref a h0 _ hcap ha=>intro hb;cases hb with | ref _ _ _ _ hb=>exact .ref a h0 (Nat.lt_of_lt_of_le hb h.hn) hcap (fun hl=>by rw [h.c _ hb];exact ha hl)
 | ptr _=>intro hb;cases hb with | ptr _ _ hb=>rw [←h.c _ hb];exact .ptr (Nat.lt_of_lt_of_le hb h.hn)
 | ip hp hi hs=>exact fun _ => .ip (hp.mono h.cell) hi hs
 | clo fs cs hf hc _ _ ih1 ih2=>intro hb;cases hb with | clo _ _ _ h1 h2=>exact .clo fs cs hf hc (fun i x v a b=>ih1 i x v a b (h1 i x a)) (fun i x v a b=>ih2 i x v a b (h2 i x a))
 | tup vs hl _ ih=>intro hb;cases hb with | tup _ h=>exact .tup vs hl (fun i x v a b=>ih i x v a b (h i x a))
 | agg vs hl h1 _ ih=>intro hb;cases hb with | agg _ h=>exact .agg vs hl h1 (fun i x v a b=>ih i x v a b (h i x a))
 | yld _=>intro hb;cases hb with | yld _ hb=>rw [←h.c _ hb];exact .yld (Nat.lt_of_lt_of_le hb h.hn)
 | mp _=>intro hb;cases hb with | mp _ hb=>rw [←h.c _ hb];exact .mp (Nat.lt_of_lt_of_le hb h.hn)
 | vr q =>
  intro hb
  cases hb with | vr _ _ _ hb =>
  obtain⟨_,a,cap,rfl,q1,q2⟩:=q
  refine .vr ⟨Nat.lt_of_lt_of_le hb h.hn,a,cap,rfl,q1,fun k' d' hk' => ?_⟩
  obtain⟨k0,d0,e0,l0,q0⟩:=h.t _ hb k' d' hk'
  obtain⟨l1,q1⟩:=q2 k0 d0 e0
  refine⟨Nat.le_trans l1 l0,fun hkk => ?_⟩
  rw [q0 (by omega)]
  exact q1 (by omega)
 | vp a q =>
  intro hb
  cases hb with | vp _ _ _ hb =>
  refine .vp a ⟨Nat.lt_of_lt_of_le hb h.hn,fun k' d' hk' => ?_⟩
  obtain⟨k0,d0,e0,l0,q0⟩:=h.t _ hb k' d' hk'
  obtain⟨l1,q1⟩:=q.2 k0 d0 e0
  refine⟨Nat.le_trans l1 l0,fun hkk => ?_⟩
  rw [q0 (by omega)]
  exact q1 (by omega)
 | top v=>exact fun _ => .top v

theorem zhq {G:Globs} {σ:Gh} {H:Hp} {w:World} (hr:Rel G σ H w) {n0 α k:Nat} (hb:Bel n0 H) (hα:H.f α=some (.tail k)) (hge:n0≤α) :
 Rel G (σ.withT n0 (σ.t α)) ((H.trunc n0).new (.tail 0)) w∧Ev n0 σ H w (σ.withT n0 (σ.t α)) ((H.trunc n0).new (.tail 0)) w:=by
 have hold : ∀ b,b < n0 → (σ.withT n0 (σ.t α)).t b=σ.t b:=fun b hb=>by simp [Gh.withT,Nat.ne_of_lt hb]
 have hnew:(σ.withT n0 (σ.t α)).t n0=σ.t α:=by simp [Gh.withT]
 have fcells : ∀ b x,((H.trunc n0).new (.tail 0)).f b=some (.cells x) → H.f b=some (.cells x)∧b < n0:=by
  intro b x h
  rw [Hp.f_new] at h
  split at h
  · cases h
  · rw [Hp.f_trunc] at h
    split at h
    · exact⟨h,by assumption⟩
    · cases h
 have ftail : ∀ b k' d,((H.trunc n0).new (.tail 0)).f b=some (.tl k' d) → (b=n0∧k'=0∧d=none) ∨ (H.f b=some (.tl k' d)∧b < n0):=by
  intro b x d h
  rw [Hp.f_new] at h
  split at h
  · rename_i hh;cases h;exact .inl ⟨hh,rfl,rfl⟩
  · rw [Hp.f_trunc] at h
    split at h
    · exact .inr ⟨h,by assumption⟩
    · cases h
 have fobj : ∀ b vs S,((H.trunc n0).new (.tail 0)).f b=some (.obj vs S) → H.f b=some (.obj vs S)∧b < n0:=by
  intro b vs S h
  rw [Hp.f_new] at h
  split at h
  · cases h
  · rw [Hp.f_trunc] at h
    split at h
    · exact⟨h,by assumption⟩
    · cases h
 have hev:Ev n0 σ H w (σ.withT n0 (σ.t α)) ((H.trunc n0).new (.tail 0)) w:=by
  refine⟨fun g o v h1 h2=>⟨⟨fun b x h=>h1.1 b x (fcells _ _ h).1,fun b k' d o' s h ht => ?_⟩,h2⟩,fun _ _=>rfl,by simp [Hp.n_new,Hp.n_trunc],fun b hb k' d hk => ?_,Nat.le_refl _,
   fun g hg hf=>⟨rfl,fun b x h=>hf.1 b x (fcells _ _ h).1,fun b k' d o s h => ?_,fun b vs S h=>hf.3 b vs S (fobj _ _ _ h).1⟩,rfl,rfl⟩
  · rcases ftail b k' d h with ⟨rfl,rfl,rfl⟩ | ⟨h,hlt⟩
    · rw [hnew] at ht;exact h1.2 α k _ o' s hα ht
    · rw [hold b hlt] at ht;exact h1.2 b k' d o' s h ht
  · rcases ftail b k' d hk with ⟨rfl,_⟩ | ⟨h,hlt⟩
    · omega
    · exact⟨k',d,h,Nat.le_refl _,fun _=>hold b hb⟩
  · rcases ftail b k' d h with ⟨rfl,rfl,rfl⟩ | ⟨h,hlt⟩
    · rw [hnew];exact hf.2 α k _ o s hα
    · rw [hold b hlt];exact hf.2 b k' d o s h
 refine⟨⟨fun b x h => ?_,fun b k' d g o s h ht => ?_,fun b k' cs h => ?_,fun b1 b2 x y h1 h2=>hr.cc b1 b2 x y (fcells _ _ h1).1 (fcells _ _ h2).1,fun b1 b2 x k' d g o s h1 h2 ht => ?_,fun b1 b2 k1 d1 k2 d2 g o s o' s' h1 h2 ht ht' => ?_,fun g sz xs h=>(hr.glob g sz xs h).low hev (.ip _ _ _ _),fun b vs S h => ?_,fun b b' vs vs' S S' h h'=>hr.oo b b' vs vs' S S' (fobj _ _ _ h).1 (fobj _ _ _ h').1,fun r m h=>(hr.gm r m h).of rfl (hev.blk r (hr.gm r m h).lt (hr.gm r m h).2.1).2 fun x v hx q=>q.low hev (hx _)⟩,hev⟩
 · obtain⟨h,hlt⟩:=fcells _ _ h
   obtain⟨c,e,q1,q2,q3⟩:=hr.cells b x h
   exact⟨c,e,q1,q2,fun i y hy=>let ⟨v,a,q⟩:=q3 i y hy;⟨v,a,q.1.low hev (hb b _ hlt h y (List.mem_of_getElem? hy)),q.2⟩⟩
 · rcases ftail b k' d h with ⟨rfl,rfl,rfl⟩ | ⟨h,hlt⟩
   · rw [hnew] at ht;exact hr.tail α k _ g o s hα ht
   · rw [hold b hlt] at ht;exact hr.tail b k' d g o s h ht
 · rcases ftail b k' _ h with ⟨rfl,_,hd⟩ | ⟨h,hlt⟩
   · cases hd
   · rw [hold b hlt]
     obtain⟨q0,q1,q2⟩:=hr.vec b k' cs h
     refine⟨q0,q1,fun g o s hg => ?_⟩
     obtain⟨p0,p1,p2⟩:=q2 g o s hg
     exact⟨p0,p1,fun i x hx=>let ⟨v,a,b'⟩:=p2 i x hx;⟨v,a,b'.1.low hev (hb b _ hlt h x (List.mem_of_getElem? hx)),b'.2⟩⟩
 · have h1':=(fcells _ _ h1).1
   rcases ftail b2 k' d h2 with ⟨rfl,rfl,rfl⟩ | ⟨h,hlt⟩
   · rw [hnew] at ht;exact hr.ct b1 α x k _ g o s h1' hα ht
   · rw [hold b2 hlt] at ht;exact hr.ct b1 b2 x k' d g o s h1' h ht
 · rcases ftail b1 k1 d1 h1 with ⟨rfl,rfl,rfl⟩ | ⟨p1,l1⟩<;>rcases ftail b2 k2 d2 h2 with ⟨rfl,rfl,rfl⟩ | ⟨p2,l2⟩
   · rfl
   · rw [hnew] at ht;rw [hold b2 l2] at ht'
     have:=hr.tt α b2 k _ k2 _ g o s o' s' hα p2 ht ht';omega
   · rw [hnew] at ht';rw [hold b1 l1] at ht
     have:=hr.tt b1 α k1 _ k _ g o s o' s' p1 hα ht ht';omega
   · rw [hold b1 l1] at ht;rw [hold b2 l2] at ht'
     exact hr.tt b1 b2 k1 _ k2 _ g o s o' s' p1 p2 ht ht'
 · obtain⟨h,hlt⟩:=fobj _ _ _ h
   obtain⟨o,us,q1,q2,q3,q4⟩:=hr.objs b vs S h
   exact⟨o,us,q1,q2,⟨q3.1,fun i x v a b'=>(q3.2 i x v a b').low hev (hb b _ hlt h x (List.mem_of_getElem? a))⟩,q4⟩

section ret
variable {C:Cx} {k:List Item} {env:Env} {H:Hp} {R:AV → Hp → Prop}

theorem ARun.retOwn {fn:Func} {α v sz:Nat} {xs:List PV} (hfn:C.P.funcs[C.fid]? = some fn) {rs:List ResultVar} (hrs:fn.results.toList=rs) (hx:zcE C.P rs env H=some (.sl α v sz xs)) (hα:H.f α=some (.tail v)) (hge:C.n0≤α) (hb:Bel C.n0 H)
 (hR:R (.sl C.n0 0 sz xs) ((H.trunc C.n0).new (.tail 0))) (hro:C.round=none:=by rfl):ARun C (.code .ret :: k) env H R:=by
 refine .leave hro hfn hrs hx _ (fun _ _ _ _ h=>stepR_ret h) _ _ hR fun σ w u h1 h2 _ => ?_
 obtain⟨q1,q3⟩:=zhq h1 hb hα hge
 refine⟨_,q1,?_,q3⟩
 cases h2 with | sl hp ht =>
 refine .sl (hp.mono q3.cell) ⟨by simp [Hp.n_new,Hp.n_trunc],fun k0 d hk0 => ?_⟩
 have e0:k0=0:=by simp [Hp.f_new,Hp.n_trunc] at hk0;omega
 subst e0
 refine⟨Nat.le_refl _,fun _ => ?_⟩
 have:=(ht.2 v _ hα).2 rfl
 simpa [Gh.withT] using this
end ret
end Go.AL

/-
  Loops over a function: the loop's record,the calls of its yield function,the rounds,the statement.
  Conditions: none;nothing here speaks of one program.
-/
namespace Go.AL
open Go

def zcg (fn:FuncId) (ps:Array Tmp) (assign body:Code) (st:LoopState) (pend:Option Code):OS :=
 ⟨fun us o => ∃ d,o = .loop { state:=st,pending:=pend,fn,tmps:=us,params:=ps,assign,body,defers:=d },none,fun _ h=>by cases h⟩

def LoopL (L:LoopState → Option Code → OS):Prop := ∃ fn ps assign body,L=zcg fn ps assign body

theorem LoopL.inv {L:LoopState → Option Code → OS} (h:LoopL L) {st:LoopState} {pend:Option Code} {us:Array Value} {o:Obj} (ho:L st pend us o) :
 ∃ r:Loop,o = .loop r∧r.state=st∧r.pending=pend ∧ ∀ st' pend',L st' pend' us (.loop { r with state:=st',pending:=pend' }):=by
 obtain⟨fn,ps,x,y,rfl⟩:=h
 obtain⟨d,rfl⟩:=ho
 exact⟨_,rfl,rfl,rfl,fun st' pend'=>⟨d,rfl⟩⟩

section states
variable {G:Globs} {σ:Gh} {H:Hp} {w:World}

end states

def y8 (nt:Nat) (env:Env):List AV:=(List.range nt).map env

def putArgs:List Nat → List AV → Env → Env
 | p :: ps,x :: xs,e=>putArgs ps xs (e.put (some p) x)
 | _,_,e=>e

def zt0 (nt:Nat) (env:Env) (ps:List Nat) (args:List AV):Env:=putArgs ps args fun i=>if i < nt then env i else .tup []

theorem RelF.putArgs {nt m:Nat} {σ:Gh} {H:Hp} {w:World} : ∀ {ps:List Nat} {args:List AV} {vs:List Value} {env:Env} {tmps:Array Value},RelF nt m σ H w env { tmps,defers:=[] } → (∀ p∈ps,p < nt) → vs.length=args.length → (∀ (i:Nat) x v,args[i]? = some x → vs[i]? = some v → RelV σ H w x v) →
 RelF nt m σ H w (putArgs ps args env) { tmps:=(ps.zip vs).foldl (fun t x=>t.setIfInBounds x.1 x.2) tmps,defers:=[] }
 | [],args,vs,env,tmps,hf,_,_,_=>hf
 | p :: ps,[],vs,env,tmps,hf,_,hl,_=>by
  have:vs=[]:=by simpa using hl
  subst this;exact hf
 | p :: ps,x :: args,[],env,tmps,hf,_,hl,_=>by simp at hl
 | p :: ps,x :: args,v :: vs,env,tmps,hf,hp,hl,hr=>by
  have h1:RelF nt m σ H w (env.put (some p) x) { tmps:=tmps.setIfInBounds p v,defers:=[] }:=hf.put (d:=some p) (fun i hi=>by cases hi;exact hp p (by simp)) (hr 0 x v rfl rfl)
  exact RelF.putArgs (ps:=ps) h1 (fun q hq=>hp q (by simp [hq])) (by simpa using hl) (fun i x v a b=>hr (i+1) x v (by simpa using a) (by simpa using b))

theorem AYield.of_round {P:Program} {G:Globs} {b:Nat} {H:Hp} {R:AV → Hp → Prop} {fn:FuncId} {ps:List Nat} {assign body:Code} {nt:Nat} {env:Env} {args:List AV} {raw:List Nat}
 (hb:H.f b=some (.obj (y8 nt env) (zcg fn ps.toArray assign body .ready none))) (hps : ∀ p∈ps,p < nt) (hl:args.length=ps.length)
 (h:ARun ⟨P,G,fn,nt,H.n,raw,some b⟩ [.code assign,.beginRound,.code body] (zt0 nt env ps args) H R):AYield P G b args H R:=by
 intro σ w vs hr hvs
 obtain⟨o,us,q1,q2,q3,d,rfl⟩:=hr.objs b _ _ hb
 refine⟨_,_,_,_,run_yield q1 (by simpa [hl] using hvs.1),trivial,fun c cs _ => ?_⟩
 have hus:us.size=nt:=by simpa [y8] using q3.1
 let fr:Frame := { (default:Frame) with fn:=fn,kind := .normal,roundOf:=some (σ.c b) }
 have hzip:((ps.toArray.zip vs).foldl (fun tmps (t,a)=>tmps.setIfInBounds t a) us)=(ps.zip vs.toList).foldl (fun t x=>t.setIfInBounds x.1 x.2) us:=by
  rw [←Array.foldl_toList]
  simp [Array.toList_zip]
 have h0:Frame.round (σ.c b) fn ((ps.zip vs.toList).foldl (fun t x=>t.setIfInBounds x.1 x.2) us) assign body .normal=fr.atR { tmps:=(ps.zip vs.toList).foldl (fun t x=>t.setIfInBounds x.1 x.2) us,defers:=[] } [.code assign,.beginRound,.code body]:=by
  simp [Frame.round,Frame.atR,fr]
 have hF0:RelF nt w.heap.size σ H w (fun i=>if i < nt then env i else .tup []) { tmps:=us,defers:=[] }:=by
  refine⟨⟨[],rfl,List.nodup_nil,by simp⟩,hus,fun i => ?_⟩
  simp only
  split
  · rename_i hi
    have h2:=q3.2 i (env i) us[i] (by simp [y8,hi]) (by simp)
    simpa [Array.getD_eq_getD_getElem?,hus,hi] using h2
  · rename_i hi
    have:us.getD i undef=undef:=by simp [Array.getD_eq_getD_getElem?,Array.getElem?_eq_none (by omega:us.size≤i)]
    rw [this];exact .tup #[] rfl (by simp)
 have hF:=hF0.putArgs (ps:=ps) (args:=args) (vs:=vs.toList) hps (by simpa using hvs.1) (fun i x v e1 e2=>hvs.2 i x v e1 (by simpa using e2))
 obtain⟨r,H',σ',v,w',M,q,hst,⟨c1,cs1,hcs,rfl⟩,hrel',hv,hev⟩:=h σ w _ fr (c :: cs) w.heap.size ⟨rfl,rfl,rfl,fun _=>by simp⟩ ⟨hr,hF,Nat.le_refl _,Nat.le_refl _,fun l hl=>by cases hl;exact Hp.lt hb⟩
 cases hcs
 refine⟨.returned v,w',⟨r,H',σ',v,q,rfl,hrel',hv,hev⟩,?_⟩
 rw [hzip,h0]
 exact stepsIn_wide.2 hst

section rounds
variable {C:Cx} {k:List Item} {env:Env} {H:Hp} {R:AV → Hp → Prop} {l:Nat} {vs:List AV} {L:LoopState → Option Code → OS}

theorem ARun.beginRound (hro:C.round=some l) (hL:LoopL L) (hl:H.f l=some (.obj vs (L .ready none))) (h:ARun C k env (H.set l (.obj vs (L .busy none))) R):ARun C (.beginRound :: k) env H R:=by
 intro σ w a b cs m hb hpre
 obtain⟨o,us,q1,q2,q3,q4⟩:=hpre.rel.objs l _ _ hl
 obtain⟨r,rfl,hst,hp,hall⟩:=hL.inv q4
 have hrun:=run_beginRound (P:=C.P) q1 hst
 have e:({ r with state := .busy }:Loop) = { r with state := .busy,pending:=none }:=by cases r;simp only at hp;subst hp;rfl
 obtain⟨r1,e1⟩:=zac hpre.rel hl q1 q2 q3 (o' := .loop { r with state := .busy }) rfl (by rw [e];exact hall .busy none)
 have hro':b.roundOf=some (σ.c l):=by rw [hb.ro,hro];rfl
 obtain⟨r',H',σ',v,w',M,q,st,q1',q2',q3',q5⟩:=h σ _ a b cs m hb (hpre.go r1 (hpre.fr.mono e1) e1)
 exact⟨r',H',σ',v,w',M,q,.head (stepR_beginRound hro' hrun) st,q1',q2',q3',e1.transM q5 hpre.n0 hpre.m⟩

theorem ARun.roundOver (hro:C.round=some l) (hL:LoopL L) (hl:H.f l=some (.obj vs (L .busy none))) (hb:Bel C.n0 H) (jump:Option Code) (todo:List Item)
 (hR:R (.p (bo jump.isNone)) ((H.set l (.obj vs (L (if jump.isNone then .ready else .done) jump))).trunc C.n0))
 (hs : ∀ (b:Frame) (a:Act) (c:Frame) cs w v w' g,b.roundOf=some g → b.kind = .normal → (Instr.endRound g jump).run C.P w = .ok v w' → step C.P (lone (b.atR a todo) (c :: cs) w) = .next (lone (c.finish v) cs w')):ARun C todo env H R:=by
 intro σ w a b cs m hbase hpre
 obtain⟨o,us,q1,q2,q3,q4⟩:=hpre.rel.objs l _ _ hl
 obtain⟨r,rfl,hst,hp,hall⟩:=hL.inv q4
 have hrun:=run_endRound (P:=C.P) jump q1
 obtain⟨r1,e1⟩:=zac hpre.rel hl q1 q2 q3 (o' := .loop { r with state:=if jump.isNone then .ready else .done,pending:=jump }) rfl (hall _ _)
 have hb':Bel C.n0 (H.set l (.obj vs (L (if jump.isNone then .ready else .done) jump))):=fun b' x hlt hf y hy=>by
  rw [Hp.f_set] at hf
  split at hf
  · rename_i hh
    cases hf
    exact hb l _ (hh.1 ▸ hlt) hl y hy
  · exact hb b' x hlt hf y hy
 obtain⟨r2,e2⟩:=zcv r1 hb'
 have hro':b.roundOf=some (σ.c l):=by rw [hbase.ro,hro];rfl
 have hcs:=hbase.cs (by rw [hro];rfl)
 cases cs with
 | nil=>exact absurd rfl hcs
 | cons c cs =>
  refine⟨_,_,σ,.bool jump.isNone,_,lone (c.finish (.bool jump.isNone)) cs (w.putObj (σ.c l) (.loop { r with state:=if jump.isNone then .ready else .done,pending:=jump })),hR,.one (hs b a c cs w _ _ _ hro' hbase.kind hrun),?_,r2,.p (.s _ rfl),e1.transM (e2.lower (Nat.le_trans hpre.m e1.size)) hpre.n0 hpre.m⟩
  unfold Fin
  rw [hro]
  exact⟨c,cs,rfl,rfl⟩

theorem ARun.roundEnd (hro:C.round=some l) (hL:LoopL L) (hl:H.f l=some (.obj vs (L .busy none))) (hb:Bel C.n0 H) (hR:R (.p (bo true)) ((H.set l (.obj vs (L .ready none))).trunc C.n0)):ARun C [] env H R :=
 .roundOver hro hL hl hb none [] hR fun _ _ _ _ _ _ _ _ h1 h2 h3=>stepR_round_end h1 h2 h3

theorem ARun.roundOverK (hro:C.round=some l) (hL:LoopL L) (hl:H.f l=some (.obj vs (L .busy none))) (jump:Option Code) (todo:List Item)
 (hR:R (.p (bo jump.isNone)) (H.set l (.obj vs (L (if jump.isNone then .ready else .done) jump))))
 (hs : ∀ (b:Frame) (a:Act) (c:Frame) cs w v w' g,b.roundOf=some g → b.kind = .normal → (Instr.endRound g jump).run C.P w = .ok v w' → step C.P (lone (b.atR a todo) (c :: cs) w) = .next (lone (c.finish v) cs w')):ARun C todo env H R:=by
 intro σ w a b cs m hbase hpre
 obtain⟨o,us,q1,q2,q3,q4⟩:=hpre.rel.objs l _ _ hl
 obtain⟨r,rfl,hst,hp,hall⟩:=hL.inv q4
 have hrun:=run_endRound (P:=C.P) jump q1
 obtain⟨r1,e1⟩:=zac hpre.rel hl q1 q2 q3 (o' := .loop { r with state:=if jump.isNone then .ready else .done,pending:=jump }) rfl (hall _ _)
 have hro':b.roundOf=some (σ.c l):=by rw [hbase.ro,hro];rfl
 have hcs:=hbase.cs (by rw [hro];rfl)
 cases cs with
 | nil=>exact absurd rfl hcs
 | cons c cs =>
  refine⟨_,_,σ,.bool jump.isNone,_,lone (c.finish (.bool jump.isNone)) cs (w.putObj (σ.c l) (.loop { r with state:=if jump.isNone then .ready else .done,pending:=jump })),hR,.one (hs b a c cs w _ _ _ hro' hbase.kind hrun),?_,r1,.p (.s _ rfl),(e1.weaken hpre.n0).lower hpre.m⟩
  unfold Fin
  rw [hro]
  exact⟨c,cs,rfl,rfl⟩
theorem ARun.roundEndK (hro:C.round=some l) (hL:LoopL L) (hl:H.f l=some (.obj vs (L .busy none))) (hR:R (.p (bo true)) (H.set l (.obj vs (L .ready none)))):ARun C [] env H R :=
 .roundOverK hro hL hl none [] hR fun _ _ _ _ _ _ _ _ h1 h2 h3=>stepR_round_end h1 h2 h3
end rounds

section stmt
variable {C:Cx} {k:List Item} {env:Env} {H:Hp} {R:AV → Hp → Prop}

def zdh (C:Cx) (L:LoopState → Option Code → OS) (vs:List AV) (k:List Item) (env:Env) (H:Hp) (R:AV → Hp → Prop) (H2:Hp):Prop :=
 Bel H.n H2∧((H2.f H.n=some (.obj vs (L .ready none))∧ARun C k env (H2.trunc H.n) R) ∨
  ∃ j,H2.f H.n=some (.obj vs (L .done (some j)))∧ARun C (.code j :: k) env (H2.trunc H.n) R)

theorem RelVs.app {σ:Gh} {H:Hp} {w:World} {xs ys:List AV} {us vs:Array Value} (h1:RelVs σ H w xs us) (h2:RelVs σ H w ys vs):RelVs σ H w (xs++ys) (us++vs):=by
 refine⟨by simp [h1.1,h2.1],fun i x v e1 e2 => ?_⟩
 by_cases hi:i < us.size
 · rw [List.getElem?_append_left (by rw [←h1.1];exact hi)] at e1
   rw [Array.getElem?_append_left hi] at e2
   exact h1.2 i x v e1 e2
 · rw [List.getElem?_append_right (by rw [←h1.1];omega)] at e1
   rw [Array.getElem?_append_right (by omega)] at e2
   rw [←h1.1] at e1
   exact h2.2 _ x v e1 e2

theorem ARun.rangeFunc {g:Operand} {ps:List Nat} {assign body:Code} {f:FuncId} {first captured:List AV} (hro:C.round=none) (hg:zD C.G env g = .clo f first captured) (he:enters C.P f=true) (hps : ∀ p∈ps,p < C.nt)
 (h : ∀ (L:LoopState → Option Code → OS) (vs:List AV),LoopL L → (∀ y∈vs,BelowN H.n y) →
  (∀ (args:List AV) (H1:Hp) (K:AV → Hp → Prop),args.length=ps.length → H1.f H.n=some (.obj vs (L .ready none)) →
   (Bel H1.n H1 → ARun ⟨C.P,C.G,C.fid,C.nt,H1.n,C.raw,some H.n⟩ [.code assign,.beginRound,.code body] (zt0 C.nt env ps args) H1 K) → AYield C.P C.G H.n args H1 K) →
  ACall C.P C.G f (first++[.yld H.n]++captured) (H.new (.obj vs (L .ready none))) fun _ H2=>zdh C L vs k env H R H2) :
 ARun C (.code (.rangeFunc g ps.toArray assign body) :: k) env H R:=by
 intro σ w a b cs m hb hpre
 have h:=h (zcg C.fid ps.toArray assign body) (y8 C.nt env) ⟨_,_,_,_,rfl⟩ (fun y hy=>by
  simp only [y8,List.mem_map] at hy
  obtain⟨i,_,rfl⟩:=hy
  exact (hpre.fr.slot i).belowN) fun args H1 K h1 h2 h3 σ w vs hr hvs=>AYield.of_round (raw:=C.raw) h2 hps h1 (h3 hr.bel) σ w vs hr hvs
 have hro':b.roundOf=none:=by rw [hb.ro,hro];rfl
 obtain⟨r1,e1⟩:=zgh hpre.rel (.deferred (some []))
 have hf1:=hpre.fr.mono e1
 have hus:RelVs σ H (w.alloc (.deferred (some []))) (y8 C.nt env) a.tmps:=⟨by simp [y8,hpre.fr.size],fun i x v e1 e2=>by
  simp only [y8,List.getElem?_map,Option.map_eq_some_iff] at e1
  obtain⟨j,hj,rfl⟩:=e1
  have hji:j=i:=by
   have:=List.getElem?_eq_some_iff.1 hj
   simpa using this.2.symm
  subst hji
  have:=hf1.slot j
  simpa [Array.getD_eq_getD_getElem?,e2] using this⟩
 obtain⟨r2,e2⟩:=zeQ r1 (.loop { state := .ready,pending:=none,fn:=C.fid,tmps:=a.tmps,params:=ps.toArray,assign,body,defers:=w.heap.size }) rfl (y8 C.nt env) a.tmps (zcg C.fid ps.toArray assign body .ready none) hus ⟨_,rfl⟩
 have e12:=e1.trans e2 (Nat.le_refl _)
 generalize hw2:(w.alloc (.deferred (some []))).alloc (.loop { state := .ready,pending:=none,fn:=C.fid,tmps:=a.tmps,params:=ps.toArray,assign,body,defers:=w.heap.size })=w2 at r2 e2 e12
 have hsz:(w.alloc (.deferred (some []))).heap.size=w.heap.size+1:=by simp
 have henter:(Instr.enterLoop b.fn a.tmps ps.toArray assign body b.roundOf).run C.P w = .ok (w.heap.size+1,[{ target := .collected w.heap.size,args := #[] }]) w2:=by
  rw [hro',run_enterLoop_outer,hb.fn,←hw2]
 rw [hsz] at r2 e2 e12
 -- the call
 have hgv:=zi hpre.rel hpre.fr g
 rw [hg] at hgv
 generalize hv:a.eval g=gv at hgv
 have hgv2:=hgv.mono e12
 cases hgv2 with | clo fs css c1 c2 c3 c4 =>
 have hargs:RelVs (σ.withC H.n (w.heap.size+1)) (H.new (.obj (y8 C.nt env) (zcg C.fid ps.toArray assign body .ready none))) w2 (first++[.yld H.n]++captured) (fs ++ #[.func (.yield (w.heap.size+1)) #[] #[]]++css):=by
  refine RelVs.app (RelVs.app ⟨c1,c3⟩ ⟨rfl,fun i x v e1 e2 => ?_⟩) ⟨c2,c4⟩
  have hi:i=0:=by
   have:=(List.getElem?_eq_some_iff.1 e1).1
   simp at this;omega
  subst hi
  simp at e1 e2
  subst e1;subst e2
  have:(σ.withC H.n (w.heap.size+1)).c H.n=w.heap.size+1:=by simp [Gh.withC]
  have hh:=RelV.yld (σ:=σ.withC H.n (w.heap.size+1)) (H:=H.new (.obj (y8 C.nt env) (zcg C.fid ps.toArray assign body .ready none))) (w:=w2) (b:=H.n) (by simp [Hp.n_new])
  rwa [this] at hh
 have hres:(resolve a.eval (rangeCall g (w.heap.size+1)) 0).run C.P w2 = .ok { target := .fn (.func f) css,args:=fs ++ #[.func (.yield (w.heap.size+1)) #[] #[]] } w2:=by
  have hc:a.eval (.const (.func (.yield (w.heap.size+1)) #[] #[])) = .func (.yield (w.heap.size+1)) #[] #[]:=rfl
  simp [resolve,hv,hc,Deferred.ofValue]
 have hinv:(invoke (.fn (.func f) css) (fs ++ #[.func (.yield (w.heap.size+1)) #[] #[]])).run C.P w2 = .ok (.enter f (fs ++ #[.func (.yield (w.heap.size+1)) #[] #[]]++css)) w2:=by
  simp only [invoke]
  exact zeV he _ w2
 have hstep:=stepR_rangeFunc (P:=C.P) (b:=b) (a:=a) (k:=k) (cs:=cs) (w:=w) henter hres hinv
 obtain⟨e,w3,fr,⟨rv,H3,σ3,v3,⟨hbel,hend⟩,rfl,r3,hv3,e3⟩,hst3,hfn3,hlv3⟩:=h (σ.withC H.n (w.heap.size+1)) w2 _ r2 hargs (b.atR { a with defers:=[{ target := .collected w.heap.size,args := #[] }]++a.defers } (.inRangeFunc (w.heap.size+1) :: k) :: cs)
 have hback:=step_leave_returned (P:=C.P) (c:=b.atR { a with defers:=[{ target := .collected w.heap.size,args := #[] }]++a.defers } (.inRangeFunc (w.heap.size+1) :: k)) (cs:=cs) hlv3
 rw [finish_atR_inRangeFunc] at hback
 have hlt3:H.n < (H.new (.obj (y8 C.nt env) (zcg C.fid ps.toArray assign body .ready none))).n:=by simp [Hp.n_new]
 have hc3:σ3.c H.n=w.heap.size+1:=by rw [e3.c _ hlt3];simp [Gh.withC]
 have e13:Ev H.n σ H w σ3 H3 w3:=e12.trans (e3.weaken (by simp [Hp.n_new])) (Nat.le_refl _)
 -- the mark's block
 have hfree0:Free σ H w.heap.size:=⟨fun b' cs' h'=>by have:=hpre.rel.c_lt h';omega,fun b' k' d o s h' ht=>by have:=hpre.rel.t_lt h' ht;omega,fun b' vs' S h'=>by have:=hpre.rel.o_lt h';omega⟩
 have hmark2:w2.heap[w.heap.size]? = some (.deferred (some []))∧Free (σ.withC H.n (w.heap.size+1)) (H.new (.obj (y8 C.nt env) (zcg C.fid ps.toArray assign body .ready none))) w.heap.size:=by
  have:=e2.blk w.heap.size (by omega) hfree0
  exact⟨this.1.trans (World.alloc_heap_new w _),this.2⟩
 have hmark3:=e3.blk w.heap.size (yR hmark2.1) hmark2.2
 have key : ∀ st pend,H3.f H.n=some (.obj (y8 C.nt env) (zcg C.fid ps.toArray assign body st pend)) → st ≠ .busy → ARun C ((pend.map Item.code).toList++k) env (H3.trunc H.n) R →
  ∃ r H' σ' v w' M,R r H'∧Steps C.P (lone (b.atR a (.code (.rangeFunc g ps.toArray assign body) :: k)) cs w) M∧Fin C cs w' v M∧Rel C.G σ' H' w'∧RelV σ' H' w' r v∧EvM C.n0 m σ H w σ' H' w':=by
  intro st pend hf hst hrun
  obtain⟨o,us,q1,q2,q3,d,rfl⟩:=r3.objs H.n _ _ hf
  rw [hc3] at q1
  have hel:=run_endLoop (P:=C.P) q1 hst
  obtain⟨r4,e4⟩:=zac r3 hf (by rw [hc3];exact q1) q2 q3 (S':=zcg C.fid ps.toArray assign body .exhausted pend) (o' := .loop { state := .exhausted,pending:=pend,fn:=C.fid,tmps:=us,params:=ps.toArray,assign,body,defers:=d }) rfl ⟨d,rfl⟩
  rw [hc3] at r4 e4
  generalize hw4:w3.putObj (w.heap.size+1) (.loop { state := .exhausted,pending:=pend,fn:=C.fid,tmps:=us,params:=ps.toArray,assign,body,defers:=d })=w4 at r4 e4
  have hbel4:Bel H.n (H3.set H.n (.obj (y8 C.nt env) (zcg C.fid ps.toArray assign body .exhausted pend))):=(Bel.set_hi (Nat.le_refl _)).2 hbel
  obtain⟨r5,e5⟩:=zcv r4 hbel4
  rw [Hp.trunc_set _ _ _ _ (Nat.le_refl _)] at r5 e5
  have e15:Ev H.n σ H w σ3 (H3.trunc H.n) w4:=(e13.trans (e4.weaken e13.hn) (Nat.le_refl _)).trans e5 (Nat.le_refl _)
  have hmark4:=e4.blk w.heap.size (yR (hmark3.1.trans hmark2.1)) hmark3.2
  have hmark5:=e5.blk w.heap.size (yR (hmark4.1.trans (hmark3.1.trans hmark2.1))) hmark4.2
  have hfr:=hpre.fr.mono e15
  have hfr':RelF C.nt m σ3 (H3.trunc H.n) w4 env { a with defers:=mark w.heap.size :: a.defers }:=by
   obtain⟨ms,d1,d2,d3⟩:=hfr.defers
   obtain⟨ms0,f1,f2,f3⟩:=hpre.fr.defers
   have hms:ms=ms0:=by
    have:=d1.symm.trans f1
    exact (List.map_inj_right (fun x y hxy=>by simpa [mark] using hxy)).1 this
   subst hms
   refine⟨⟨w.heap.size :: ms,by simp [d1],List.nodup_cons.2 ⟨fun hmem => ?_,d2⟩,fun r hr => ?_⟩,hfr.size,hfr.slot⟩
   · have:=yR (f3 _ hmem).2.1;omega
   · rcases List.mem_cons.1 hr with rfl | hr
     · exact⟨hpre.m,hmark5.1.trans (hmark4.1.trans (hmark3.1.trans hmark2.1)),hmark5.2⟩
     · exact d3 r hr
  obtain⟨r',H',σ',v',w',M,q,st',p1,p2,p3,p5⟩:=hrun σ3 w4 _ b cs m (hb.mono hpre.n0 e15.c hpre.lt) (hpre.go r5 hfr' e15)
  refine⟨r',H',σ',v',w',M,q,?_,p1,p2,p3,e15.transM p5 hpre.n0 hpre.m⟩
  refine .head hstep (Steps.trans hst3 (.head hback (.head (stepR_endRangeFunc (hel.trans (by rw [hw4]))) st')))
 rcases hend with ⟨hf,hrun⟩ | ⟨j,hf,hrun⟩
 · exact key .ready none hf (by simp) hrun
 · exact key .done (some j) hf (by simp) hrun
end stmt

section kinds
variable {fl:Bool} {sz n a v b off len i sub:Nat} {xs:List PV} {f:FuncId} {x y:List AV}
theorem zlg:zf (.p (.sl fl sz xs))=some [.p (.sl fl sz xs)]:=rfl
theorem zoj:zf (.sl a v sz xs)=some [.sl a v sz xs]:=rfl
theorem zlh:zf (.ref b off len sz)=some [.ref b off len sz]:=rfl
theorem zli:zf (.ptr b off)=some [.ptr b off]:=rfl
theorem zok:zf (.ip sz xs i sub)=some [.ip sz xs i sub]:=rfl
theorem zlj:zf (.clo f x y)=some [.clo f x y]:=rfl
theorem zlk:zf (.yld b)=some [.yld b]:=rfl
theorem zp2:(PV.sl fl sz xs).isAgg=false:=rfl
theorem zol:zaa false [.p (.sl fl sz xs)]=some (.sl fl sz xs):=rfl
theorem zje (h:xs.length=n):(PV.agg xs).aggOf 0 n = .agg xs:=by
 subst h
 simp [PV.aggOf,PV.isAgg,PV.cells]
end kinds
attribute [go_sem] zlg zoj zlh zli zok zlj zlk zp2 zol zje

theorem zsy {a b:Int} (h:a=b):AV.p (i64 a)=AV.p (i64 b):=by rw [h]

/-! ### Heaps with blocks on top; the slots of a round; what rows hold -/

def app (H:Hp) (T:List AB):Hp:=T.foldl Hp.new H

section app
variable {H:Hp} {b c:Nat} {x:AB} {T:List AB}
theorem zex:app H []=H:=rfl
theorem z7:app H (x :: T)=app (H.new x) T:=rfl
theorem app_n':(app H T).n=H.n+T.length:=by
 induction T generalizing H with
 | nil=>rfl
 | cons y T ih=>rw [z7,ih,n_new',List.length_cons];omega
theorem zbT (h:b < H.n):(app H T).f b=H.f b:=by
 induction T generalizing H with
 | nil=>rfl
 | cons y T ih=>rw [z7,ih (by rw [n_new'];omega),ziO (by omega)]
theorem zmp (h:b < H.n):(app H T).set b x=app (H.set b x) T:=by
 induction T generalizing H with
 | nil=>rfl
 | cons y T ih=>rw [z7,ih (by rw [n_new'];omega),ze4 h,z7]
theorem zbp (h:b≤H.n):(app H T).trunc b=H.trunc b:=by
 induction T generalizing H with
 | nil=>rfl
 | cons y T ih=>rw [z7,ih (by rw [n_new'];omega),trunc_new' h]
theorem zmq:(H.new x)=app H [x]:=rfl
theorem zdi {S:List AB}:app (app H T) S=app H (T++S):=by simp [app]
end app

def zll (nt:Nat) (env:Env):Env:=fun i=>if i < nt then env i else .tup []
theorem zom {nt i:Nat} {env:Env} (h:i < nt):zll nt env i=env i:=by simp [zll,h]
theorem zp3 {nt:Nat} {env:Env} {ps:List Nat} {args:List AV}:zt0 nt env ps args=putArgs ps args (zll nt env):=rfl
theorem zjf {xs:List AV} {e:Env}:putArgs [] xs e=e:=by cases xs<;>rfl
theorem zhr {p:Nat} {ps:List Nat} {x:AV} {xs:List AV} {e:Env}:putArgs (p :: ps) (x :: xs) e=putArgs ps xs (e.put (some p) x):=rfl
attribute [go_sem] zbT zmp zbp app_n' zom zp3 zjf zhr

theorem BelowN.mono {n m:Nat} (h:n≤m) {x:AV} (r:BelowN n x):BelowN m x:=by
 induction r with
 | p x=>exact .p x
 | sl a v sz xs h1=>exact .sl _ _ _ _ (by omega)
 | ref b off len sz h1=>exact .ref _ _ _ _ (by omega)
 | ptr b off h1=>exact .ptr _ _ (by omega)
 | ip sz xs i sub=>exact .ip _ _ _ _
 | clo fn a c _ _ ih1 ih2=>exact .clo _ _ _ ih1 ih2
 | tup xs _ ih=>exact .tup _ ih
 | agg xs _ ih=>exact .agg _ ih
 | yld b h1=>exact .yld _ (by omega)
 | mp b h1=>exact .mp _ (by omega)
 | vr b _ _ h1=>exact .vr _ _ _ (by omega)
 | vp b _ _ h1=>exact .vp _ _ _ (by omega)
 | top=>exact .top

section bel
variable {n m b:Nat} {H:Hp} {x:AB} {α:Type} {f:α → PV} {l:List α} {T:List AB}
theorem zfg (h:Bel m H) (hm:H.n≤m) (hn:m≤n):Bel n H:=fun b x _ hf y hy=>(h b x (Nat.lt_of_lt_of_le (Hp.lt hf) hm) hf y hy).mono hn
theorem zaI (h:Bel H.n H) (hn:H.n≤n):Bel n H:=zfg h (Nat.le_refl _) hn
theorem zaS (h:Bel n H) (hx : ∀ y∈x.vals,BelowN n y):Bel n (H.new x):=fun b z hb hf y hy=>by
 rw [Hp.f_new] at hf
 split at hf
 · cases hf;exact hx y hy
 · exact h b z hb hf y hy
theorem zbq (h:Bel n H):Bel n (H.new (.cells (cl f l))):=zaS h fun y hy=>by
 simp only [AB.vals,cl,List.mem_map] at hy
 obtain⟨a,_,rfl⟩:=hy
 exact .p _
theorem yX {z:PV} (h:Bel n H):Bel n (H.new (.cells [.p z])):=zaS h fun y hy=>by
 simp only [AB.vals,List.mem_singleton] at hy
 subst hy;exact .p _
theorem zbr {k:Nat} (h:Bel n H):Bel n (H.new (.tail k)):=zaS h fun y hy=>by simp [AB.vals] at hy
theorem yY {vs:List AV} {S:OS} (hv : ∀ y∈vs,BelowN m y) (h:Bel n H) (hm:m≤n):Bel n (H.new (.obj vs S)):=zaS h fun y hy=>(hv y hy).mono hm
theorem zaT (h:Bel n H) (hx : ∀ y∈x.vals,BelowN n y):Bel n (H.set b x):=fun c z hb hf y hy=>by
 rw [Hp.f_set] at hf
 split at hf
 · cases hf;exact hx y hy
 · exact h c z hb hf y hy
theorem zbs {z:PV} (h:Bel n H):Bel n (H.set b (.cells [.p z])):=zaT h fun y hy=>by
 simp only [AB.vals,List.mem_singleton] at hy
 subst hy;exact .p _
theorem yZ {k:Nat} (h:Bel n H):Bel n (H.set b (.tail k)):=zaT h fun y hy=>by simp [AB.vals] at hy
end bel

end Go.AL

/-
  Rows that are written no more become plain data.
  Conditions: none;nothing here speaks of one program.
-/
namespace Go.AL
open Go

theorem ARun.ghost {C:Cx} {todo:List Item} {env env':Env} {H H':Hp} {R:AV → Hp → Prop}
 (hg : ∀ σ w a m,Pre C σ H w env a m → ∃ σ',Rel C.G σ' H' w∧(∀ i,RelV σ' H' w (env' i) (a.tmps.getD i undef))∧Ev H.n σ H w σ' H' w) (h:ARun C todo env' H' R):ARun C todo env H R:=by
 intro σ w a b cs m h1 hpre
 obtain⟨σ',hr,hs,hev⟩:=hg σ w a m hpre
 have h4:=hpre.fr.mono hev
 obtain⟨r,H2,σ2,v,w2,M,q,st,q1,q2,q3,q5⟩:=h σ' w a b cs m (h1.mono hpre.n0 hev.c hpre.lt) (hpre.go hr ⟨h4.defers,h4.size,hs⟩ hev)
 exact⟨r,H2,σ2,v,w2,M,q,st,q1,q2,q3,hev.transM q5 hpre.n0 hpre.m⟩

section states
variable {G:Globs} {σ:Gh} {H:Hp} {w:World}

theorem zaU (hr:Rel G σ H w) (b:Nat):Rel G σ (H.set b .dead) w∧Ev H.n σ H w σ (H.set b .dead) w:=by
 have hf : ∀ b' x,x ≠ .dead → (H.set b .dead).f b'=some x → H.f b'=some x:=by
  intro b' x hx h
  rw [Hp.f_set] at h
  split at h
  · cases h;exact absurd rfl hx
  · exact h
 have fc : ∀ b' x,(H.set b .dead).f b'=some (.cells x) → H.f b'=some (.cells x):=fun b' x h=>hf b' _ (by simp) h
 have ft : ∀ b' k d,(H.set b .dead).f b'=some (.tl k d) → H.f b'=some (.tl k d):=fun b' x d h=>hf b' _ (by simp) h
 have fo : ∀ b' vs S,(H.set b .dead).f b'=some (.obj vs S) → H.f b'=some (.obj vs S):=fun b' x _ h=>hf b' _ (by simp) h
 have hev:Ev H.n σ H w σ (H.set b .dead) w :=
  ⟨fun g o v h1 h2=>⟨⟨fun b' x h=>h1.1 b' x (fc _ _ h),fun b' k d o2 s h=>h1.2 b' k d o2 s (ft _ _ _ h)⟩,h2⟩,fun _ _=>rfl,Nat.le_refl _,fun b' _ k d hk=>⟨k,d,ft b' k d hk,Nat.le_refl _,fun _=>rfl⟩,Nat.le_refl _,
   fun g _ hg=>⟨rfl,fun b' x h=>hg.1 b' x (fc _ _ h),fun b' k d o2 s h=>hg.2 b' k d o2 s (ft _ _ _ h),fun b' vs S h=>hg.3 b' vs S (fo _ _ _ h)⟩,rfl,rfl⟩
 refine⟨⟨fun b' x h => ?_,fun b' k d g o s h ht=>hr.tail b' k d g o s (ft _ _ _ h) ht,hr.vec_keep hev (fun b' k ds h=>⟨ft _ _ _ h,rfl⟩) (fun _ _ _ _ _ _ _ _ _=>rfl),fun b1 b2 x y h1 h2=>hr.cc b1 b2 x y (fc _ _ h1) (fc _ _ h2),fun b1 b2 x k d g o s h1 h2=>hr.ct b1 b2 x k d g o s (fc _ _ h1) (ft _ _ _ h2),
  fun b1 b2 k d k' d' g o s o' s' h1 h2=>hr.tt b1 b2 k d k' d' g o s o' s' (ft _ _ _ h1) (ft _ _ _ h2),hr.glob_mono hev,fun b' vs S h => ?_,fun b1 b2 v1 v2 S1 S2 h1 h2=>hr.oo b1 b2 v1 v2 S1 S2 (fo _ _ _ h1) (fo _ _ _ h2),hr.gm_mono hev⟩,hev⟩
 · obtain⟨c,e,q1,q2,q3⟩:=hr.cells b' x (fc _ _ h)
   exact⟨c,e,q1,q2,fun i y hy=>let ⟨v,p,q⟩:=q3 i y hy;⟨v,p,q.mono hev⟩⟩
 · obtain⟨o,us,q1,q2,q3,q4⟩:=hr.objs b' vs S (fo _ _ _ h)
   exact⟨o,us,q1,q2,q3.mono hev,q4⟩

theorem zd7 (hr:Rel G σ H w) {b:Nat} {cs:List AV} (hb:H.f b=some (.cells cs)) (o:Nat):Stable σ (H.set b .dead) (σ.c b) o:=by
 have hf : ∀ b' x,x ≠ .dead → (H.set b .dead).f b'=some x → b'≠b∧H.f b'=some x:=by
  intro b' x hx h
  rw [Hp.f_set] at h
  split at h
  · cases h;exact absurd rfl hx
  · rename_i hh
    exact⟨fun e=>hh ⟨e,Hp.lt hb⟩,h⟩
 refine⟨fun b' x h e => ?_,fun b' k d o2 s h ht => ?_⟩
 · obtain⟨h1,h2⟩:=hf b' _ (by simp) h
   exact h1 (hr.cc b' b x cs h2 hb e)
 · obtain⟨h1,h2⟩:=hf b' _ (by simp) h
   exact absurd rfl (hr.ct b b' cs k _ _ o2 s hb h2 ht)

theorem zcZ (hr:Rel G σ H w) {b:Nat} {ps:List PV} (hb:H.f b=some (.cells (ps.map .p))) : ∃ f:Nat → Value,∀ k y,ps[k]? = some y →
 Stable σ (H.set b .dead) (σ.c b) k∧w.cell? ⟨σ.c b,k,none⟩=some (f k)∧(f k).oneCell'=true∧RelP w (Stable σ (H.set b .dead)) y (f k):=by
 obtain⟨c,e,q1,q2,q3⟩:=hr.cells b _ hb
 obtain⟨_,hev⟩:=zaU hr b
 refine⟨fun k=>(c[k]?).getD undef,fun k y hy => ?_⟩
 obtain⟨v,p1,p2⟩:=q3 k (.p y) (by simp [hy])
 refine⟨zd7 hr hb k,by simp [World.cell?,q1,p1],by simpa [p1] using p2.2,?_⟩
 have:=p2.1.mono hev
 cases this with | p hp=>simpa [p1] using hp
end states

theorem zgt : ∀ {ps:List PV},(∀ y∈ps,y.cells=[y]) → flat ps=ps
 | [],_=>rfl
 | a :: ps,h=>by show a.cells++flat ps=_;rw [h a (by simp),zgt (fun y hy=>h y (by simp [hy]))];rfl

section freeze
variable {C:Cx} {todo:List Item} {env:Env} {H:Hp} {R:AV → Hp → Prop} {α:Type} {f:α → PV} {l:List α}

theorem ARun.frzP (t:Nat) {b:Nat} (ht:env t = .ptr b 0) (hb:H.f b=some (.cells (cl f l))) (_hf : ∀ x,(f x).cells=[f x]) (hl:0 < l.length)
 (h:ARun C todo (env.put (some t) (.ip l.length [.agg (pl f l)] 0 0)) (H.set b .dead) R):ARun C todo env H R :=
 .ghost (fun σ w a m hpre=>by
  rw [←zi7] at hb
  obtain⟨r1,e1⟩:=zaU hpre.rel b
  obtain⟨F,hF⟩:=zcZ hpre.rel hb
  refine⟨σ,r1,fun i => ?_,e1⟩
  simp only [Env.put]
  by_cases hi:i=t
  · subst hi
    rw [if_pos rfl]
    have hs:=hpre.fr.slot i
    rw [ht] at hs
    generalize a.tmps.getD i undef=v at hs
    cases hs with | ptr hbn =>
    have hlen:(pl f l).length=l.length:=zat
    have hget : ∀ k,k < l.length → ∃ y,(pl f l)[k]? = some y:=fun k hk=>⟨_,List.getElem?_eq_getElem (by rw [hlen];exact hk)⟩
    have:=RelV.ip (σ:=σ) (H:=H.set b .dead) (w:=w) (sz:=l.length) (xs:=[.agg (pl f l)]) (i:=0) (sub:=0) (g:=σ.c b) (off:=0) (cap:=1)
     (.sl false _ _ _ 0 1 F (by simp) ⟨by simp,by unfold maxLen;omega⟩ (fun x hx=>by simp only [List.mem_singleton] at hx;subst hx;exact hlen)
      (fun k hk=>by
       simp only [List.length_singleton,Nat.one_mul] at hk
       obtain⟨y,hy⟩:=hget k hk
       obtain⟨p1,p2,p3,_⟩:=hF k y hy
       rw [Nat.zero_add];exact⟨p1,p2,p3⟩)
      (fun k y hy=>by
       have:flat [PV.agg (pl f l)]=pl f l:=by simp [flat,PV.cells]
       rw [this] at hy
       exact (hF k y hy).2.2.2)) (by simp) hl
    simpa using this
  · rw [if_neg hi];exact (hpre.fr.slot i).mono e1) h

theorem ARun.frzS (t:Nat) {b off len:Nat} (ht:env t = .ref b off len 1) (hb:H.f b=some (.cells (cl f l))) (hf : ∀ x,(f x).cells=[f x]) (hl:off+len≤l.length)
 (h:ARun C todo (env.put (some t) (.p (.sl false 1 (pl f ((l.drop off).take len))))) (H.set b .dead) R):ARun C todo env H R :=
 .ghost (fun σ w a m hpre=>by
  rw [←zi7] at hb
  obtain⟨r1,e1⟩:=zaU hpre.rel b
  obtain⟨F,hF⟩:=zcZ hpre.rel hb
  refine⟨σ,r1,fun i => ?_,e1⟩
  simp only [Env.put]
  by_cases hi:i=t
  · subst hi
    rw [if_pos rfl]
    have hs:=hpre.fr.slot i
    rw [ht] at hs
    generalize a.tmps.getD i undef=v at hs
    cases hs with | ref ad h0 hbn hcap ha =>
    obtain⟨g,o,rfl⟩:=h0
    have hlen:(pl f ((l.drop off).take len)).length=len:=by rw [zat,List.length_take,List.length_drop];omega
    have hget : ∀ k,k < len → ∃ y,(pl f l)[off+k]? = some y∧(pl f ((l.drop off).take len))[k]? = some y:=fun k hk=>by
     refine⟨_,List.getElem?_eq_getElem (by rw [zat];omega),?_⟩
     rw [←zmn,←zmo,List.getElem?_take_of_lt hk,List.getElem?_drop]
     exact List.getElem?_eq_getElem _
    have hone : ∀ y∈pl f ((l.drop off).take len),y.cells=[y]:=fun y hy=>by
     simp only [pl,List.mem_map] at hy
     obtain⟨x,_,rfl⟩:=hy
     exact hf x
    have key:=RelP.sl (w:=w) (S:=Stable σ (H.set b .dead)) false 1 (pl f ((l.drop off).take len)) g o _ (fun k=>F (off+k)) (by simp) ⟨by rw [hlen];exact hcap.1,hcap.2⟩ (fun y hy=>by rw [hone y hy];rfl)
     (fun k hk=>by
      rw [hlen,Nat.mul_one] at hk
      obtain⟨y,hy,_⟩:=hget k hk
      obtain⟨p1,p2,p3,_⟩:=hF _ y hy
      have:=ha (by omega)
      cases this
      exact⟨zd7 hpre.rel hb _,p2,p3⟩)
     (fun k y hy=>by
      rw [zgt hone] at hy
      have hk:=(List.getElem?_eq_some_iff.1 hy).1
      rw [hlen] at hk
      obtain⟨y',h1,h2⟩:=hget k hk
      rw [h2] at hy;cases hy
      exact (hF _ _ h1).2.2.2)
    rw [hlen] at key
    exact .p key
  · rw [if_neg hi];exact (hpre.fr.slot i).mono e1) h

theorem zbt {n b:Nat} (h:Bel n H):Bel n (H.set b .dead):=zaT h fun y hy=>by simp [AB.vals] at hy
theorem zbu {n:Nat} (h:Bel n H):Bel n (H.new .dead):=zaS h fun y hy=>by simp [AB.vals] at hy
end freeze

/-! ### Bytes and strings -/

def bytesOf (l:List (BitVec 8)):ByteArray:=⟨(l.map fun x=>UInt8.ofBitVec x).toArray⟩

def zdj (P:Program) (t:TypeId):Bool:=match P.underlying t with | some (.slice e)=>(match P.underlying e with | some (.int .u8)=>P.cellsOf e == 1 | _=>false) | _=>false
theorem zhs {P:Program} {t:TypeId} (h:zdj P t=true) : ∃ e,P.underlying t=some (.slice e)∧P.underlying e=some (.int .u8)∧P.cellsOf e=1:=by
 unfold zdj at h
 split at h
 · rename_i e hu
   split at h
   · rename_i hv;exact⟨e,hu,hv,by simpa using h⟩
   · cases h
 · cases h

theorem zlm (l:List (BitVec 8)):yz (pl b8 l)=some (l.map fun x=>UInt8.ofBitVec x):=by
 induction l with
 | nil=>rfl
 | cons a l ih =>
  have ha:=a.isLt
  simp only [pl,List.map_cons,b8] at ih ⊢
  simp [yz,ih]

theorem yx {P:Program} {H:Hp} {s d:TypeId} {fl:Bool} {l:List (BitVec 8)} (hs:zdj P s=true) (hd:P.underlying d=some .string):yn P H s d (.p (.sl fl 1 (pl b8 l)))=some (.p (str (bytesOf l))):=by
 obtain⟨e,h1,h2,h3⟩:=zhs hs
 simp only [yn,h1,hd,zab,h2,h3,if_true,yu,true_or,zlm,Option.map_some]
 rfl


attribute [go_sem] yx
end Go.AL

/-
  From the runs on abstract values to a row's statement: what a law's call leaves,what its arguments read as.
  Conditions: none;nothing here speaks of one program.
-/
namespace Go.AL
open Go Go.ChangeShapes Go.WideShapes Go.ChangeAt Go.RowKit

section post
variable {H:Type} {enc:TypeId × Value → H} {P:Program}

theorem zcK {W W':World} {sp:Nat → Bool} (hl:laidOutB P=true) : ∀ {ts:List TypeId} {vs:List Value} {ds:List (DataW H)} {ps:List MemPlace},(∀ t∈ts,P.readableRec t=true∧t < P.types.size) →
 DataW.TrodAll enc P W 0 (fun _=>true) true ts vs ds ps → (∀ p∈ps,W.sameAt W' p) → (∀ p∈ps,sp p.block=true) → DataW.TrodAll enc P W' 0 sp true ts vs ds ps
 | [],vs,ds,ps,_,h,_,_=>by
  obtain⟨rfl,rfl,rfl⟩:=trodAll_nil h
  exact trodAll_mk0
 | t :: ts,vs,ds,ps,hr,h,h1,h2=>by
  obtain⟨v,vs',d,ds',p,q,rfl,rfl,rfl,h3,h4⟩:=trodAll_cons h
  exact trodAll_cons_mk (WideElems.Trod_stays hl (hr t (by simp)).1 (hr t (by simp)).2 h3 (fun x hx=>h1 x (by simp [hx])) (fun x hx=>h2 x (by simp [hx])))
   (zcK hl (fun u hu=>hr u (by simp [hu])) h4 (fun x hx=>h1 x (by simp [hx])) (fun x hx=>h2 x (by simp [hx])))

theorem zp4 {f:Func} {s:ChangeSpec} {W W':World} {args:Array Value} {ds gs:List (DataW H)} {before:List MemPlace} {tb:TypeId} (hl:laidOutB P=true) (hr : ∀ t∈f.params.toList,P.readableRec t=true∧t < P.types.size)
 (hv0:s.vars=[]) (hW:DataW.Whole enc P f.params.toList s.vars false W args.toList ds gs before) (hfn:s.fn H ds = { results:=[.lit (.bool true)],args:=ds })
 (hrt:f.resultTypes = #[tb]) (htb:P.underlying tb=some .bool) (hblk : ∀ g,g < W.heap.size → W'.heap[g]? = W.heap[g]?) (hos:W'.os=W.os) (hout:W'.output=W.output) :
 s.post enc P f false true false false W args (.bool true) W':=by
 have hlt:=hW.lt
 have hW0:=hW
 obtain⟨p,q,hA,hV,hbe,hz,hn⟩:=hW
 rw [hv0] at hV
 obtain⟨rfl,rfl⟩:=trodVars_none hV
 rw [List.append_nil] at hbe
 subst hbe
 have hsame : ∀ x∈before,W.sameAt W' x:=fun x hx=>by
  have h1:=hblk x.block (hlt x hx)
  cases x with
  | cell b off=>simp only [MemPlace.block] at h1;simp [World.sameAt,World.cell?,h1]
  | map b=>simp only [MemPlace.block] at h1;simpa [World.sameAt] using h1
 refine⟨ds,[],before,[],before,[],hW0,?_,?_,?_,?_,fun h=>by cases h⟩
 · rw [List.append_nil,hfn,hrt]
   exact trodAll_cons_mk (shut_bool htb true) trodAll_mk0
 · rw [List.append_nil,hfn]
   exact zcK hl hr hA hsame fun x hx=>by simpa using hlt x hx
 · rw [List.append_nil,hfn,hv0]
   exact rfl
 · refine⟨hos,hout,fun i hi => ?_⟩
   rw [hblk i hi]
   cases hw:W.heap[i]? with
   | none=>rfl
   | some o=>cases o<;>simp
end post

/-! ### The start of a law's run -/

def H0:Hp:=⟨fun _=>none,0,fun _ _=>rfl⟩
def σ0:Gh:=⟨fun _=>0,fun _=>none⟩

theorem zvK {G:Globs} {W:World} (hG : ∀ g sz xs,G g=some (sz,xs) → RelV σ0 H0 W (.ip sz xs 0 0) (.pointer (some ⟨g,0,none⟩))) (hM : ∀ r m,G.map r=some m → GMap σ0 H0 W r m):Rel G σ0 H0 W :=
 ⟨fun _ _ h=>(by cases h),fun _ _ _ _ _ _ h=>(by cases h),fun _ _ _ h=>(by cases h),fun _ _ _ _ h=>(by cases h),fun _ _ _ _ _ _ _ _ h=>(by cases h),fun _ _ _ _ _ _ _ _ _ _ _ h=>(by cases h),hG,fun _ _ _ h=>(by cases h),fun _ _ _ _ _ _ h=>(by cases h),hM⟩

theorem zmr (g o:Nat):Stable σ0 H0 g o:=⟨fun _ _ h=>(by cases h),fun _ _ _ _ _ h=>(by cases h)⟩
theorem zvk (g:Nat):Free σ0 H0 g:=⟨fun _ _ h=>(by cases h),fun _ _ _ _ _ h=>(by cases h),fun _ _ _ h=>(by cases h)⟩

theorem zon {P:Program} {G:Globs} {f:FuncId} {args:List AV} {W:World} {vs:Array Value} (h:ACall P G f args H0 fun r _=>r = .p (bo true)) (hr:Rel G σ0 H0 W) (hv:RelVs σ0 H0 W args vs) :
 Calls P f vs W fun e W'=>e = .returned (.bool true)∧(∀ g,g < W.heap.size → W'.heap[g]? = W.heap[g]?)∧W'.os=W.os∧W'.output=W.output:=by
 refine (h σ0 W vs hr hv).mono ?_
 rintro e W' ⟨r,H',σ',v,rfl,rfl,hrel,hrv,hev⟩
 cases hrv.bool_inv
 exact⟨rfl,fun g hg=>(hev.blk g hg (zvk g)).1,hev.os,hev.out⟩

theorem zfh {P:Program} {W:World} {name:String} {g:Nat} {l:List (BitVec 32)} {zs:List Int} (h:Lib.TabIs P W name .u32 zs) (hg:P.globalNamed name=some g) (hz:zs=l.map fun x=>(x.toNat:Int)) (hl:0 < l.length) :
 RelV σ0 H0 W (.ip l.length [.agg (pl zG l)] 0 0) (.pointer (some ⟨g,0,none⟩)):=by
 subst hz
 have hcell : ∀ i,i < l.length → W.cell? ⟨g,i,none⟩=some (.int .u32 ((l[i]?).getD 0).toNat):=fun i hi=>by
  have:=h.cell hg i (by simpa using hi)
  rw [this]
  simp [List.getD,hi]
 have:=RelV.ip (σ:=σ0) (H:=H0) (w:=W) (sz:=l.length) (xs:=[.agg (pl zG l)]) (i:=0) (sub:=0) (g:=g) (off:=0) (cap:=1)
  (.sl false _ _ _ 0 1 (fun k => .int .u32 ((l[k]?).getD 0).toNat) (by simp) ⟨by simp,by unfold maxLen;omega⟩ (fun x hx=>by simp only [List.mem_singleton] at hx;subst hx;exact zat)
   (fun k hk=>by
    simp only [List.length_singleton,Nat.one_mul] at hk
    rw [Nat.zero_add]
    exact⟨zmr _ _,hcell k hk,rfl⟩)
   (fun k y hy=>by
    have:flat [PV.agg (pl zG l)]=pl zG l:=by simp [flat,PV.cells]
    rw [this] at hy
    simp only [pl,List.getElem?_map,Option.map_eq_some_iff] at hy
    obtain⟨x,hx,rfl⟩:=hy
    rw [hx]
    exact .s _ rfl)) (by simp) hl
 simpa using this

/-! ### What arguments read as -/
section read
variable {H:Type} {enc:TypeId × Value → H} {P:Program} {W:World} {sp:Nat → Bool} {held:Bool}


end read
end Go.AL
