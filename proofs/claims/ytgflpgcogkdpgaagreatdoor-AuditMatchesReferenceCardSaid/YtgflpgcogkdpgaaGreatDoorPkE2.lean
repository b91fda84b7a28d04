/-
  Maps: their making,looking up and writing,on abstract values: what they come to,and that the machine's do.
  Conditions: none;nothing here speaks of one program.
-/
import Derived.Test.YtgflpgcogkdpgaaGreatDoorPkE1
import Derived.Maps.Keyed
import Derived.DeepKeys4
import Derived.Laws.Externs
import Derived.DeepKeys
import Derived.OrdersIn
import Derived.Laws.Cover3
import Derived.RangeFuncRecord
import Derived.Lib.SlBytesConst
import Derived.Carry
import Derived.OpenShut
import Derived.Lib.LaidTab
import Derived.Deep.DeepHandedRow
import Derived.ProofKit
set_option linter.unusedSectionVars false
set_option linter.unusedSimpArgs false
set_option linter.unusedVariables false
namespace Go.AL
open Go

def zaE:List PV → Option (List Value)
 | []=>some []
 | .s v :: xs=>(zaE xs).map (v :: ·)
 | _=>none

theorem zdo {w:World} {S:Nat → Nat → Prop} : ∀ {xs:List PV} {a vs:List Value},zaE xs=some a → vs.length=xs.length → (∀ (i:Nat) x v,xs[i]? = some x → vs[i]? = some v → RelP w S x v) → vs=a
 | [],a,vs,h,hl,_=>by simp only [zaE,Option.some.injEq] at h;subst h;simpa using hl
 | x :: xs,a,vs,h,hl,hr=>by
  cases x<;>simp only [zaE,Option.map_eq_some_iff] at h
  case s v =>
   obtain⟨a',h',rfl⟩:=h
   cases vs with
   | nil=>simp at hl
   | cons u us =>
    have h0:=hr 0 _ _ rfl rfl
    cases h0
    exact congrArg _ (zdo h' (by simpa using hl) (fun i x v e1 e2=>hr (i+1) x v (by simpa using e1) (by simpa using e2)))
  all_goals cases h


section states
variable {G:Globs} {σ:Gh} {H:Hp} {w:World}

theorem zbB (hr:Rel G σ H w) {b:Nat} {vs vs':List AV} {S S':OS} {o o':Obj} {us:Array Value} (hb:H.f b=some (.obj vs S)) (hw:w.heap[σ.c b]? = some o) (ho:zd2 o=true) (hus:RelVs σ H w vs' us) (ho':zd2 o'=true) (hS:S' us o') :
 Rel G σ (H.set b (.obj vs' S')) (w.putObj (σ.c b) o')∧Ev H.n σ H w σ (H.set b (.obj vs' S')) (w.putObj (σ.c b) o'):=by
 have hbn:=Hp.lt hb
 have hlt:σ.c b < w.heap.size:=zaC hw
 have hother : ∀ g,g≠σ.c b → (w.putObj (σ.c b) o').heap[g]? = w.heap[g]? := fun g hg=>World.putObj_heap_other hg
 have fcells : ∀ b' x,(H.set b (.obj vs' S')).f b'=some (.cells x) → H.f b'=some (.cells x):=by
  intro b' x h
  rw [Hp.f_set] at h
  split at h
  · cases h
  · exact h
 have ftail : ∀ b' k d,(H.set b (.obj vs' S')).f b'=some (.tl k d) → H.f b'=some (.tl k d):=by
  intro b' x d h
  rw [Hp.f_set] at h
  split at h
  · cases h
  · exact h
 have fobj : ∀ b' vs1 T,(H.set b (.obj vs' S')).f b'=some (.obj vs1 T) → ∃ vs'' T',H.f b'=some (.obj vs'' T'):=by
  intro b' vs1 T h
  rw [Hp.f_set] at h
  split at h
  · rename_i hh;rw [hh.1];exact⟨_,_,hb⟩
  · exact⟨_,_,h⟩
 have hcell : ∀ g o1 v,w.cell? ⟨g,o1,none⟩=some v → (w.putObj (σ.c b) o').cell? ⟨g,o1,none⟩=some v:=by
  intro g o1 v h
  by_cases hg:g=σ.c b
  · subst hg
    cases o<;>first | (simp [World.cell?,hw] at h;done) | cases ho
  · simpa [World.cell?,hother g hg] using h
 have hev:Ev H.n σ H w σ (H.set b (.obj vs' S')) (w.putObj (σ.c b) o'):=by
  refine⟨fun g o1 v h1 h2=>⟨⟨fun b' x h=>h1.1 b' x (fcells _ _ h),fun b' k d o2 s h=>h1.2 b' k d o2 s (ftail _ _ _ h)⟩,hcell g o1 v h2⟩,fun _ _=>rfl,Nat.le_refl _,fun b' _ k d hk=>⟨k,d,ftail b' k d hk,Nat.le_refl _,fun _=>rfl⟩,by simp,
   fun g hg hf=>⟨hother g (Ne.symm (hf.3 b vs S hb)),fun b' x h=>hf.1 b' x (fcells _ _ h),fun b' k d o2 s h=>hf.2 b' k d o2 s (ftail _ _ _ h),fun b' vs' T h=>let ⟨_,_,h'⟩:=fobj _ _ _ h;hf.3 b' _ _ h'⟩,rfl,rfl⟩
 have hne : ∀ b' x,H.f b'=some (.cells x) → σ.c b'≠σ.c b:=fun b' x h e=>by
  obtain⟨c,ee,q1,_⟩:=hr.cells b' x h
  rw [e,hw] at q1;cases q1;cases ho
 have hneT : ∀ b' k d g o2 s,H.f b'=some (.tl k d) → σ.t b'=some (g,o2,s) → g≠σ.c b:=fun b' k d g o2 s h ht e=>by
  obtain⟨c,ee,q1,_⟩:=hr.tail b' k d g o2 s h ht
  rw [e,hw] at q1;cases q1;cases ho
 refine⟨⟨fun b' x h => ?_,fun b' k d g o2 s h ht => ?_,hr.vec_keep hev (fun b' k ds h=>⟨ftail _ _ _ h,rfl⟩) (fun b' k ds g o2 s _ h ht=>hother g (hneT b' k _ g o2 s h ht)),fun b1 b2 x y h1 h2=>hr.cc b1 b2 x y (fcells _ _ h1) (fcells _ _ h2),fun b1 b2 x k d g o2 s h1 h2=>hr.ct b1 b2 x k d g o2 s (fcells _ _ h1) (ftail _ _ _ h2),
  fun b1 b2 k d k' d' g o2 s o3 s' h1 h2=>hr.tt b1 b2 k d k' d' g o2 s o3 s' (ftail _ _ _ h1) (ftail _ _ _ h2),hr.glob_mono hev,fun b' vs' T h => ?_,fun b1 b2 v1 v2 T1 T2 h1 h2 he => ?_,hr.gm_mono hev⟩,hev⟩
 · obtain⟨c,ee,q1,q2,q3⟩:=hr.cells b' x (fcells _ _ h)
   exact⟨c,ee,(hother _ (hne b' x (fcells _ _ h))).trans q1,q2,fun i y hy=>let ⟨v,a,b⟩:=q3 i y hy;⟨v,a,b.mono hev⟩⟩
 · obtain⟨c,ee,q1,q2⟩:=hr.tail b' k d g o2 s (ftail _ _ _ h) ht
   exact⟨c,ee,(hother g (hneT b' k d g o2 s (ftail _ _ _ h) ht)).trans q1,q2⟩
 · by_cases hbb:b'=b
   · subst hbb
     rw [Hp.f_set_self H _ _ hbn] at h
     cases h
     exact⟨o',us,World.putObj_heap_same hlt,ho',hus.mono hev,hS⟩
   · rw [Hp.f_set_ne H _ _ _ hbb] at h
     obtain⟨o1,us1,q1,q2,q3,q4⟩:=hr.objs b' vs' T h
     exact⟨o1,us1,(hother _ (fun e=>hbb (hr.oo b' b _ _ _ _ h hb e))).trans q1,q2,q3.mono hev,q4⟩
 · obtain⟨_,_,h1'⟩:=fobj _ _ _ h1
   obtain⟨_,_,h2'⟩:=fobj _ _ _ h2
   exact hr.oo b1 b2 _ _ _ _ h1' h2' he

theorem zfV (hr:Rel G σ H w) (o:Obj) (ho:zd2 o=true) (vs:List AV) (us:Array Value) (S:OS) (hus:RelVs σ H w vs us) (hS:S us o) :
 Rel G (σ.withC H.n w.heap.size) (H.new (.obj vs S)) (w.alloc o)∧Ev H.n σ H w (σ.withC H.n w.heap.size) (H.new (.obj vs S)) (w.alloc o):=by
 have hold : ∀ b,b < H.n → (σ.withC H.n w.heap.size).c b=σ.c b:=fun b hb=>by simp [Gh.withC,Nat.ne_of_lt hb]
 have hnew:(σ.withC H.n w.heap.size).c H.n=w.heap.size:=by simp [Gh.withC]
 have fcells : ∀ b x,(H.new (.obj vs S)).f b=some (.cells x) → H.f b=some (.cells x):=by
  intro b x h
  rw [Hp.f_new] at h
  split at h
  · cases h
  · exact h
 have ftail : ∀ b k d,(H.new (.obj vs S)).f b=some (.tl k d) → H.f b=some (.tl k d):=by
  intro b x d h
  rw [Hp.f_new] at h
  split at h
  · cases h
  · exact h
 have fobj : ∀ b vs' T,(H.new (.obj vs S)).f b=some (.obj vs' T) → (b=H.n∧vs'=vs∧T=S) ∨ H.f b=some (.obj vs' T):=by
  intro b vs' T h
  rw [Hp.f_new] at h
  split at h
  · rename_i hh;cases h;exact .inl ⟨hh,rfl,rfl⟩
  · exact .inr h
 have hev:Ev H.n σ H w (σ.withC H.n w.heap.size) (H.new (.obj vs S)) (w.alloc o):=by
  refine⟨fun g o1 v h1 h2 => ?_,hold,by simp [Hp.n_new],fun b hb k d hk=>⟨k,d,ftail b k d hk,Nat.le_refl _,fun _=>rfl⟩,by simp,fun g hg hf=>⟨heap_alloc_old w _ hg,?_,?_,?_⟩,rfl,rfl⟩
  · have hlt:g < w.heap.size:=World.block_lt_of_cell? (a:=⟨g,o1,none⟩) w h2
    refine⟨⟨fun b x h => ?_,fun b k d o2 s h ht=>h1.2 b k d o2 s (ftail _ _ _ h) ht⟩,by rw [World.cell?_alloc_lt (a:=⟨g,o1,none⟩) w _ hlt];exact h2⟩
    have h:=fcells _ _ h
    rw [hold b (Hp.lt h)];exact h1.1 b x h
  · intro b x h
    have h:=fcells _ _ h
    rw [hold b (Hp.lt h)];exact hf.1 b x h
  · exact fun b k d o2 s h ht=>hf.2 b k d o2 s (ftail _ _ _ h) ht
  · intro b vs' T h
    rcases fobj b vs' T h with ⟨rfl,_,_⟩ | h
    · rw [hnew];omega
    · rw [hold b (Hp.lt h)];exact hf.3 b vs' T h
 refine⟨⟨fun b x h => ?_,fun b k d g o2 s h ht => ?_,hr.vec_keep hev (fun b k ds h=>⟨ftail _ _ _ h,rfl⟩) (fun b k ds g o2 s _ h ht=>heap_alloc_old w _ (hr.t_lt h ht)),fun b1 b2 x y h1 h2 he => ?_,fun b1 b2 x k d g o2 s h1 h2 ht => ?_,
  fun b1 b2 k d k' d' g o2 s o3 s' h1 h2=>hr.tt b1 b2 k d k' d' g o2 s o3 s' (ftail _ _ _ h1) (ftail _ _ _ h2),hr.glob_mono hev,fun b vs' T h => ?_,fun b1 b2 v1 v2 T1 T2 h1 h2 he => ?_,hr.gm_mono hev⟩,hev⟩
 · have h:=fcells _ _ h
   obtain⟨c,ee,q1,q2,q3⟩:=hr.cells b x h
   exact⟨c,ee,by rw [hold b (Hp.lt h),heap_alloc_old w _ (hr.c_lt h)];exact q1,q2,fun i y hy=>let ⟨v,a,b⟩:=q3 i y hy;⟨v,a,b.mono hev⟩⟩
 · have h:=ftail _ _ _ h
   obtain⟨c,ee,q1,q2⟩:=hr.tail b k d g o2 s h ht
   exact⟨c,ee,by rw [heap_alloc_old w _ (hr.t_lt h ht)];exact q1,q2⟩
 · have h1:=fcells _ _ h1
   have h2:=fcells _ _ h2
   rw [hold b1 (Hp.lt h1),hold b2 (Hp.lt h2)] at he
   exact hr.cc b1 b2 x y h1 h2 he
 · have h1:=fcells _ _ h1
   rw [hold b1 (Hp.lt h1)];exact hr.ct b1 b2 x k d g o2 s h1 (ftail _ _ _ h2) ht
 · rcases fobj b vs' T h with ⟨rfl,rfl,rfl⟩ | h
   · exact⟨o,us,by rw [hnew];exact heap_alloc_new w _,ho,hus.mono hev,hS⟩
   · obtain⟨o1,us1,q1,q2,q3,q4⟩:=hr.objs b vs' T h
     exact⟨o1,us1,by rw [hold b (Hp.lt h),heap_alloc_old w _ (hr.o_lt h)];exact q1,q2,q3.mono hev,q4⟩
 · rcases fobj b1 v1 T1 h1 with ⟨p1,_,_⟩ | p1<;>rcases fobj b2 v2 T2 h2 with ⟨p2,_,_⟩ | p2
   · rw [p1,p2]
   · rw [p1,hnew,hold b2 (Hp.lt p2)] at he
     have:=hr.o_lt p2;omega
   · rw [p2,hnew,hold b1 (Hp.lt p1)] at he
     have:=hr.o_lt p1;omega
   · rw [hold b1 (Hp.lt p1),hold b2 (Hp.lt p2)] at he
     exact hr.oo b1 b2 _ _ _ _ p1 p2 he
end states

def zeG (P:Program) (k:TypeId):Bool :=
 match P.underlying k with
 | some (.int _) | some .bool | some .string=>true
 | some (.array _ _) | some (.struct _)=>decide (k < P.types.size) && P.keyTypeAt 9999 k && laidOutB P
 | _=>false

theorem zdM {P:Program} {k:TypeId} (h:zeG P k=true):Maps.Keyed P k:=by
 unfold zeG at h
 split at h
 · rename_i q hq;exact Maps.int_keyed hq
 · rename_i hq;exact Maps.bool_keyed hq
 · rename_i hq;exact .of_law (WideMaps.string_law hq)
 · rename_i hq
   simp only [Bool.and_eq_true,decide_eq_true_eq] at h
   exact .of_law (deep_law_laid h.2 (by omega) h.1.1 h.1.2 (by rw [hq]))
 · rename_i hq
   simp only [Bool.and_eq_true,decide_eq_true_eq] at h
   exact .of_law (deep_law_laid h.2 (by omega) h.1.1 h.1.2 (by rw [hq]))
 · cases h

def PV.val? : PV → Option Value
 | .s v=>some v
 | .agg xs=>(zaE xs).map fun vs => .agg vs.toArray
 | _=>none
def AV.key? : AV → Option Value
 | .p x=>x.val?
 | _=>none

theorem AV.key?_rel {σ H w} {x:AV} {kv v:Value} (h:x.key? = some kv) (r:RelV σ H w x v):v=kv:=by
 cases x<;>simp only [AV.key?] at h<;>try cases h
 rename_i x
 cases r with | p r =>
 cases r with
 | s v h1=>simpa [PV.val?] using h
 | agg xs vs hl h1 hh =>
  simp only [PV.val?,Option.map_eq_some_iff] at h
  obtain⟨us,h2,rfl⟩:=h
  have:=zdo (w:=w) (vs:=vs.toList) h2 (by simp [hl]) (fun i x v a b=>hh i x v a (by simpa using b))
  rw [←this]
 | emp=>simp [PV.val?] at h
 | sl=>simp [PV.val?] at h

def AB.map? : AB → Option (List (Value × AV))
 | .obj vals S=>S.ks.map fun ks=>ks.zip vals
 | _=>none

theorem map?_mapB (m:List (Value × AV)):(AB.mapB m).map? = some m:=by
 simp only [AB.mapB,AB.map?,zjB,Option.map_some,Option.some.injEq]
 rw [List.zip_map']
 simp

def zcU (P:Program) (kt:TypeId) (ks:List Value):Bool:=ks.all fun k=>(keyOf P kt k).isSome

def zcF (P:Program) (kt:TypeId) (a b:Value):Bool :=
 match keyOf P kt a,keyOf P kt b with
 | some x,some y=>x.sameKey y
 | _,_=>false

theorem zdN {P:Program} {kt:TypeId} (K:Maps.Keyed P kt) {a:Value} {l:Lit} (h:keyOf P kt a=some l):zcF P kt a a=true:=by
 simp only [zcF,h];exact WideAt.sameKey_self (K.key h)
theorem zce {P:Program} {kt:TypeId} (K:Maps.Keyed P kt) {a b:Value} (h:zcF P kt a b=true):a=b:=by
 unfold zcF at h
 split at h
 · rename_i x y hx hy
   obtain rfl:=WideAt.sameKey_eq h
   exact K.inj hx hy
 · cases h

def zcG (P:Program) (kt:TypeId) (kv:Value):List (Value × AV) → Option AV
 | []=>none
 | (k,v) :: m=>if zcF P kt k kv=true then some v else zcG P kt kv m

def zfi (P:Program) (kt:TypeId) (kv:Value) (x:AV):List (Value × AV) → List (Value × AV)
 | []=>[(kv,x)]
 | (k,v) :: m=>if zcF P kt k kv=true then (k,x) :: m else (k,v) :: zfi P kt kv x m

section find
variable {P:Program} {kt:TypeId} {kv:Value} {l:Lit} (K:Maps.Keyed P kt) (hkv:keyOf P kt kv=some l)
include K hkv

theorem zhP {x:AV} : ∀ {m:List (Value × AV)} {j:Nat},(∀ p∈m,(keyOf P kt p.1).isSome=true) → (m.map (·.1)).Nodup → m[j]? = some (kv,x) → zcG P kt kv m=some x
 | [],j,_,_,h=>by simp at h
 | (k,v) :: m,0,_,_,h=>by
  simp only [List.getElem?_cons_zero,Option.some.injEq,Prod.mk.injEq] at h
  obtain⟨rfl,rfl⟩:=h
  simp [zcG,zdN K hkv]
 | (k,v) :: m,j+1,hok,hnd,h=>by
  simp only [List.getElem?_cons_succ] at h
  simp only [List.map_cons,List.nodup_cons] at hnd
  have hne : ¬ zcF P kt k kv=true:=fun e=>hnd.1 (by
   obtain rfl:=zce K e
   exact List.mem_map.2 ⟨(k,x),List.mem_of_getElem? h,rfl⟩)
  rw [zcG,if_neg hne]
  exact zhP (fun p hp=>hok p (by simp [hp])) hnd.2 h

theorem zfW : ∀ {m:List (Value × AV)},(∀ p∈m,p.1≠kv) → zcG P kt kv m=none
 | [],_=>rfl
 | (k,v) :: m,h=>by
  have hne : ¬ zcF P kt k kv=true:=fun e=>h (k,v) (by simp) (zce K e)
  rw [zcG,if_neg hne]
  exact zfW fun p hp=>h p (by simp [hp])

theorem zjK {x y:AV} : ∀ {m:List (Value × AV)} {j:Nat},(m.map (·.1)).Nodup → m[j]? = some (kv,y) → zfi P kt kv x m=m.modify j (fun _=>(kv,x))
 | [],j,_,h=>by simp at h
 | (k,v) :: m,0,_,h=>by
  simp only [List.getElem?_cons_zero,Option.some.injEq,Prod.mk.injEq] at h
  obtain⟨rfl,rfl⟩:=h
  simp [zfi,zdN K hkv]
 | (k,v) :: m,j+1,hnd,h=>by
  simp only [List.getElem?_cons_succ] at h
  simp only [List.map_cons,List.nodup_cons] at hnd
  have hne : ¬ zcF P kt k kv=true:=fun e=>hnd.1 (by
   obtain rfl:=zce K e
   exact List.mem_map.2 ⟨(k,y),List.mem_of_getElem? h,rfl⟩)
  rw [zfi,if_neg hne,zjK hnd.2 h]
  simp

theorem zhQ {x:AV} : ∀ {m:List (Value × AV)},(∀ p∈m,p.1≠kv) → zfi P kt kv x m=m++[(kv,x)]
 | [],_=>rfl
 | (k,v) :: m,h=>by
  have hne : ¬ zcF P kt k kv=true:=fun e=>h (k,v) (by simp) (zce K e)
  rw [zfi,if_neg hne,zhQ fun p hp=>h p (by simp [hp])]
  rfl
end find

def zb1 (P:Program) (t:TypeId):Option AV :=
 match (P.info? t).bind (·.zero),zI P t with
 | some (.agg _),some ps=>some (.p (.agg ps))
 | some _,some [p]=>some (.p p)
 | _,_=>none

theorem zdO {P:Program} {σ:Gh} {H:Hp} {w:World} {t:TypeId} {x:AV} (h:zb1 P t=some x) : ∃ v,(zeroValue t).run P w = .ok v w∧RelV σ H w x v:=by
 unfold zb1 at h
 split at h
 · rename_i cs ps hz hps
   cases h
   obtain⟨z,h1,h2,h3,h4⟩:=yE (w:=w) (S:=Stable σ H) hps
   rw [hz] at h2
   cases h2
   refine⟨_,h1,.p (.agg ps cs h3 (fun i v hv => ?_) (fun i p v hp hv=>(h4 i p v hp hv).1))⟩
   have hlt:i < ps.length:=by rw [←h3];exact (Array.getElem?_eq_some_iff.1 hv).1
   exact (h4 i ps[i] v (by simp) hv).2
 · rename_i v p hne hz hps
   cases h
   obtain⟨z,h1,h2,h3,h4⟩:=yE (w:=w) (S:=Stable σ H) hps
   rw [hz] at h2
   cases h2
   refine⟨_,h1,.p ?_⟩
   have hc:v.cells = #[v]:=by
    cases v with
    | agg cs=>exact absurd rfl (hne cs)
    | _=>rfl
   exact (h4 0 p v rfl (by rw [hc];rfl)).1
 · cases h

def zdp (P:Program) (gm:Nat → Option (List (Value × AV))) (H:Hp) (t:TypeId) (x ix:AV) (ok:Bool):Option AV :=
 match P.underlying t with
 | some (.map kt et) =>
  match (match x with | .mp b=>(H.f b).bind AB.map? | .p (.s (.map none))=>some [] | .p (.s (.map (some r)))=>gm r | _=>none),ix.key? with
  | some m,some kv =>
   if zeG P kt∧zcU P kt (kv :: m.map (·.1)) then
    match zcG P kt kv m,zb1 P et with
    | some v,some _=>some (if ok then .tup [v,.p (.s (.bool true))] else v)
    | none,some z=>some (if ok then .tup [z,.p (.s (.bool false))] else z)
    | _,_=>none
   else none
  | _,_=>none
 | _=>none

def zbT (P:Program) (H:Hp) (t:TypeId) (x ix y:AV):Option Hp :=
 match P.underlying t,x with
 | some (.map kt _),.mp b =>
  match (H.f b).bind AB.map?,ix.key? with
  | some m,some kv=>if zeG P kt∧zcU P kt (kv :: m.map (·.1)) then some (H.set b (.mapB (zfi P kt kv y m))) else none
  | _,_=>none
 | _,_=>none

section runs
variable {P:Program} {G:Globs} {σ:Gh} {H:Hp} {w:World}

theorem zoS (hr:Rel G σ H w) {b:Nat} {m:List (Value × AV)} (hb:(H.f b).bind AB.map? = some m) :
 ∃ vs S es clock,H.f b=some (.obj vs S)∧w.heap[σ.c b]? = some (.map es clock)∧es.toList.map (·.key)=m.map (·.1)∧(m.map (·.1)).Nodup∧(es.toList.map (·.born)).Nodup∧(∀ e∈es.toList,e.born < clock) ∧
  es.size=m.length ∧ ∀ (j:Nat) e p,es[j]? = some e → m[j]? = some p → e.key=p.1∧RelV σ H w p.2 e.val:=by
 cases hf:H.f b with
 | none=>simp [hf] at hb
 | some x =>
  rw [hf] at hb
  cases x with
  | obj vs S =>
   simp only [Option.bind_some,AB.map?,Option.map_eq_some_iff] at hb
   obtain⟨ks,hks,rfl⟩:=hb
   obtain⟨o,us,h1,h2,h3,h4⟩:=hr.objs b vs S hf
   obtain⟨es,clock,rfl,e1,e2,e3,e4,e5⟩:=S.map ks hks us o h4
   have hl1:ks.length=es.size:=by rw [←e1];simp
   have hl2:vs.length=es.size:=by rw [←h3.1,←Array.length_toList,←e2];simp
   have hm1:(ks.zip vs).map (·.1)=ks:=List.map_fst_zip (by omega)
   refine⟨vs,S,es,clock,rfl,h1,by rw [hm1,e1],by rw [hm1];exact e3,e4,e5,by simp;omega,fun j e p hj hp => ?_⟩
   rw [List.getElem?_zip_eq_some] at hp
   have hk:(es.toList.map (·.key))[j]? = some e.key:=by simp [hj]
   have hv:(es.toList.map (·.val))[j]? = some e.val:=by simp [hj]
   rw [e1,hp.1] at hk
   rw [e2] at hv
   exact⟨(Option.some.inj hk).symm,h3.2 j p.2 e.val hp.2 (by simpa using hv)⟩
  | _=>simp [AB.map?] at hb

theorem zjL (hr:Rel G σ H w) {t:TypeId} {x ix y:AV} {ok:Bool} {vx vi:Value} (h:zdp P G.map H t x ix ok=some y) (hx:RelV σ H w x vx) (hi:RelV σ H w ix vi) :
 ∃ v,(Instr.lookup t vx vi ok).run P w = .ok v w∧RelV σ H w y v:=by
 unfold zdp at h
 split at h
 case h_2=>cases h
 rename_i kt et hu
 split at h
 case h_2=>cases h
 rename_i m kv hm hkv
 obtain rfl:=AV.key?_rel hkv hi
 split at h
 case isFalse=>cases h
 rename_i hc
 obtain⟨hkt,hok⟩:=hc
 have K:=zdM hkt
 simp only [zcU,List.all_cons,Bool.and_eq_true,List.all_eq_true,List.mem_map] at hok
 obtain⟨hk0,hks⟩:=hok
 obtain⟨lk,hlk⟩:=Option.isSome_iff_exists.1 hk0
 -- the entries
 have hes : ∃ es:Array MapEntry,((vx = .map none∧es = #[]) ∨ ∃ r clock,vx = .map (some r)∧w.heap[r]? = some (.map es clock))∧(m.map (·.1)).Nodup∧es.size=m.length ∧ ∀ (j:Nat) e p,es[j]? = some e → m[j]? = some p → e.key=p.1∧RelV σ H w p.2 e.val:=by
  split at hm
  · rename_i b
    cases hx with | mp hb =>
    obtain⟨vs,S,es,clock,_,h1,_,h3,_,_,h6,h7⟩:=zoS hr hm
    exact⟨es,.inr ⟨_,clock,rfl,h1⟩,h3,h6,h7⟩
  · cases hm
    obtain rfl:vx = .map none:=by cases hx with | p hp=>cases hp;rfl
    exact⟨#[],.inl ⟨rfl,rfl⟩,by simp,by simp,by simp⟩
  · rename_i r
    obtain rfl:vx = .map (some r):=by cases hx with | p hp=>cases hp;rfl
    obtain⟨⟨es,clock,h1,h2,h3,h4⟩,_⟩:=hr.gm r m hm
    exact⟨es,.inr ⟨r,clock,rfl,h1⟩,h3,h2,h4⟩
  · cases hm
 obtain⟨es,he,hnd,hsz,hent⟩:=hes
 have hkeys : ∀ e∈es.toList,∃ l,keyOf P kt e.key=some l:=fun e hmem=>by
  obtain⟨j,hj⟩:=List.getElem?_of_mem hmem
  have hlt:j < m.length:=by rw [←hsz];simpa using (List.getElem?_eq_some_iff.1 hj).1
  have hp:m[j]? = some m[j]:=by simp [hlt]
  obtain⟨h1,_⟩:=hent j e m[j] (by simpa using hj) hp
  rw [h1]
  exact Option.isSome_iff_exists.1 (hks _ ⟨m[j],List.mem_of_getElem? hp,rfl⟩)
 have hchk:=K.check w es.isEmpty hlk
 have hrun : ∀ q:Option (Nat × Value),(Instr.findKey kt vi es.toList).run P w = .ok q w → (Instr.lookup t vx vi ok).run P w =
  ((do let (v,ok') ←(match q with | some (_,v)=>pure (v,true) | none=>do pure (←zeroValue et,false):Sem (Value × Bool));pure (if ok then .tuple #[v,.bool ok'] else v):Sem Value).run P w):=fun q hfind=>by
  unfold Instr.lookup
  rcases he with ⟨rfl,rfl⟩ | ⟨r,clock,rfl,hw⟩
  · cases q<;>simp only [Sem.run_bind,run_underlying hu,Result.andThen_ok,Sem.run_pure,hchk,hfind]<;>cases (zeroValue et).run P w<;>simp [Result.andThen]
  · cases q<;>simp only [Sem.run_bind,run_underlying hu,Result.andThen_ok,Sem.run_pure,MapKept.run_getObj_map hw,hchk,hfind]<;>cases (zeroValue et).run P w<;>simp [Result.andThen]
 rcases K.find w hlk es.toList hkeys with ⟨hfind,hne⟩ | ⟨j,e,hfind,hj,hkey⟩
 · have hmiss:zcG P kt vi m=none:=zfW K hlk fun p hp e=>by
    obtain⟨j,hj⟩:=List.getElem?_of_mem hp
    have hlt:j < es.size:=by rw [hsz];exact (List.getElem?_eq_some_iff.1 hj).1
    obtain⟨h1,_⟩:=hent j es[j] p (by simp) hj
    exact hne es[j] (by simp) (h1.trans e)
   rw [hmiss] at h
   split at h
   · rename_i h1 _;cases h1
   · rename_i z _ hz
     obtain⟨v,hv,hzv⟩:=zdO (σ:=σ) (H:=H) (w:=w) hz
     rw [hrun _ hfind]
     cases h
     refine⟨if ok then .tuple #[v,.bool false] else v,by simp [hv],?_⟩
     cases ok
     · exact hzv
     · refine .tup _ (by simp) fun i x v' h1 h2 => ?_
       rcases i with _ | _ | i
       · simp at h1 h2;subst h1;subst h2;exact hzv
       · simp at h1 h2;subst h1;subst h2;exact .p (.s _ rfl)
       · simp at h1
   · cases h
 · have hj':es[j]? = some e:=by simpa using hj
   have hlt:j < m.length:=by rw [←hsz];exact (Array.getElem?_eq_some_iff.1 hj').1
   have hp:m[j]? = some m[j]:=by simp [hlt]
   obtain⟨h1,h2⟩:=hent j e m[j] hj' hp
   have hhit:zcG P kt vi m=some m[j].2:=zhP K hlk (fun p hp=>hks _ ⟨p,hp,rfl⟩) hnd (by rw [hp,←hkey,h1])
   rw [hhit] at h
   split at h
   · rename_i v _ h3 _
     cases h3
     rw [hrun _ hfind]
     cases h
     refine⟨if ok then .tuple #[e.val,.bool true] else e.val,by simp,?_⟩
     cases ok
     · exact h2
     · refine .tup _ (by simp) fun i x v' h1 h2' => ?_
       rcases i with _ | _ | i
       · simp at h1 h2';subst h1;subst h2';exact h2
       · simp at h1 h2';subst h1;subst h2';exact .p (.s _ rfl)
       · simp at h1
   · rename_i h3 _;cases h3
   · cases h

theorem zeW (hr:Rel G σ H w) {t:TypeId} {x ix y:AV} {H':Hp} {vx vi vy:Value} (h:zbT P H t x ix y=some H') (hx:RelV σ H w x vx) (hi:RelV σ H w ix vi) (hy:RelV σ H w y vy) :
 ∃ w',(Instr.mapUpdate t vx vi vy).run P w = .ok () w'∧Rel G σ H' w'∧Ev H.n σ H w σ H' w':=by
 unfold zbT at h
 split at h
 case h_2=>cases h
 rename_i kt et b hu
 split at h
 case h_2=>cases h
 rename_i m kv hm hkv
 obtain rfl:=AV.key?_rel hkv hi
 split at h
 case isFalse=>cases h
 rename_i hc
 obtain⟨hkt,hok⟩:=hc
 cases h
 have K:=zdM hkt
 simp only [zcU,List.all_cons,Bool.and_eq_true,List.all_eq_true,List.mem_map] at hok
 obtain⟨hk0,hks⟩:=hok
 obtain⟨lk,hlk⟩:=Option.isSome_iff_exists.1 hk0
 cases hx with | mp hbn =>
 obtain⟨vs,S,es,clock,hb,hw,hkk,hnd,hborn,hclk,hsz,hent⟩:=zoS hr hm
 have hkeys : ∀ e∈es.toList,∃ l,keyOf P kt e.key=some l:=fun e hmem=>by
  have:e.key∈m.map (·.1):=by rw [←hkk];exact List.mem_map.2 ⟨e,hmem,rfl⟩
  exact Option.isSome_iff_exists.1 (hks _ (by simpa using this))
 have hchk:=K.check w false hlk
 have hset : ∀ o,(setObj (σ.c b) o).run P w = .ok () (w.putObj (σ.c b) o):=fun o=>MapKept.run_setObj_map o hw
 have hvals : ∀ (j:Nat) p e,m[j]? = some p → es[j]? = some e → RelV σ H w p.2 e.val:=fun j p e h1 h2=>(hent j e p h2 h1).2
 rcases K.find w hlk es.toList hkeys with ⟨hfind,hne⟩ | ⟨j,e,hfind,hj,hkey⟩
 · have hput:zfi P kt vi y m=m++[(vi,y)]:=zhQ K hlk fun p hp e=>by
    have:p.1∈es.toList.map (·.key):=by rw [hkk];exact List.mem_map.2 ⟨p,hp,rfl⟩
    obtain⟨e',h1,h2⟩:=List.mem_map.1 this
    exact hne e' h1 (h2.trans e)
   refine⟨w.putObj (σ.c b) (.map (es.push { key:=vi,val:=vy,born:=clock }) (clock+1)),?_,?_⟩
   · unfold Instr.mapUpdate
     simp [run_underlying hu,MapKept.run_getObj_map hw,hchk,hfind,hset]
   · rw [hput]
     refine zbB hr hb hw rfl (S':=zjB ((m++[(vi,y)]).map (·.1))) (o' := .map (es.push { key:=vi,val:=vy,born:=clock }) (clock+1)) (vs':=(m++[(vi,y)]).map (·.2)) (us:=(es.push { key:=vi,val:=vy,born:=clock }).map (·.val)) ⟨by simp [hsz],fun i x v h1 h2 => ?_⟩ rfl ?_
     · by_cases hi:i < m.length
       · have hp:m[i]? = some m[i]:=by simp [hi]
         have he:es[i]? = some es[i]:=by simp [hsz,hi]
         simp [List.getElem?_append_left,hi,hp] at h1
         simp [Array.getElem?_push,hsz,Nat.ne_of_lt hi,he,hi] at h2
         subst h1;subst h2
         exact hvals i m[i] es[i] hp he
       · have:i=m.length:=by
          have:=(List.getElem?_eq_some_iff.1 h1).1
          simp at this;omega
         subst this
         simp at h1
         rw [Array.map_push,Array.getElem?_push,Array.size_map,if_pos hsz.symm] at h2
         simp at h2
         subst h1;subst h2
         exact hy
     · refine⟨_,_,rfl,by simp [hkk],by simp,?_,?_,fun e he => ?_⟩
       · simp only [List.map_append,List.map_cons,List.map_nil]
         rw [List.nodup_append]
         refine⟨hnd,by simp,fun a ha b hb => ?_⟩
         simp only [List.mem_singleton] at hb
         subst hb
         rw [←hkk] at ha
         obtain⟨e',h1,h2⟩:=List.mem_map.1 ha
         exact fun h=>hne e' h1 (h2.trans h)
       · simp only [Array.toList_push,List.map_append,List.map_cons,List.map_nil]
         rw [List.nodup_append]
         refine⟨hborn,by simp,fun a ha b hb => ?_⟩
         simp only [List.mem_singleton] at hb
         subst hb
         obtain⟨e',h1,h2⟩:=List.mem_map.1 ha
         have:=hclk e' h1
         omega
       · simp only [Array.toList_push,List.mem_append,List.mem_singleton] at he
         rcases he with he | rfl
         · exact Nat.lt_succ_of_lt (hclk e he)
         · exact Nat.lt_succ_self _
 · have hj':es[j]? = some e:=by simpa using hj
   have hjl:j < es.size:=(Array.getElem?_eq_some_iff.1 hj').1
   have hlt:j < m.length:=by omega
   have hp:m[j]? = some m[j]:=by simp [hlt]
   obtain⟨h1,h2⟩:=hent j e m[j] hj' hp
   have hput:zfi P kt vi y m=m.modify j (fun _=>(vi,y)):=zjK K hlk (y:=m[j].2) hnd (by rw [hp,←hkey,h1])
   have hst:=K.stays w hlk
   refine⟨w.putObj (σ.c b) (.map (es.modify j fun e => { e with key:=vi,val:=vy }) clock),?_,?_⟩
   · unfold Instr.mapUpdate
     simp [run_underlying hu,MapKept.run_getObj_map hw,hchk,hfind,hset,hj',hkey,hst]
   · rw [hput]
     have hkeys':(es.modify j fun e => { e with key:=vi,val:=vy }).toList.map (·.key)=es.toList.map (·.key):=by
      apply List.ext_getElem?
      intro i
      simp only [List.getElem?_map,Array.getElem?_toList,Array.getElem?_modify]
      by_cases hij:j=i
      · subst hij;simp [hj',hkey]
      · simp [hij]
     have hborn':(es.modify j fun e => { e with key:=vi,val:=vy }).toList.map (·.born)=es.toList.map (·.born):=by
      apply List.ext_getElem?
      intro i
      simp only [List.getElem?_map,Array.getElem?_toList,Array.getElem?_modify]
      by_cases hij:j=i
      · subst hij;simp [hj']
      · simp [hij]
     have hm':(m.modify j fun _=>(vi,y)).map (·.1)=m.map (·.1):=by
      apply List.ext_getElem?
      intro i
      simp only [List.getElem?_map,List.getElem?_modify]
      by_cases hij:j=i
      · subst hij;simp [hp,←h1,hkey]
      · simp [hij]
     refine zbB hr hb hw rfl (S':=zjB ((m.modify j fun _=>(vi,y)).map (·.1))) (o' := .map (es.modify j fun e => { e with key:=vi,val:=vy }) clock) (vs':=(m.modify j fun _=>(vi,y)).map (·.2)) (us:=(es.modify j fun e => { e with key:=vi,val:=vy }).map (·.val)) ⟨by simp [hsz],fun i x v h3 h4 => ?_⟩ rfl ?_
     · simp only [List.getElem?_map,List.getElem?_modify,Array.getElem?_map,Array.getElem?_modify,Option.map_eq_some_iff] at h3 h4
       obtain⟨q,hq,rfl⟩:=h3
       obtain⟨f,hf,rfl⟩:=h4
       by_cases hij:j=i
       · subst hij
         simp [hp] at hq
         simp [hj'] at hf
         subst hq;subst hf
         exact hy
       · simp [hij] at hq hf
         exact hvals i q f hq hf
     · exact⟨_,_,rfl,by rw [hkeys',hkk,hm'],by simp,by rw [hm'];exact hnd,by rw [hborn'];exact hborn,fun e' he'=>by
        have:e'.born∈es.toList.map (·.born):=by rw [←hborn'];exact List.mem_map.2 ⟨e',he',rfl⟩
        obtain⟨e2,h5,h6⟩:=List.mem_map.1 this
        rw [←h6];exact hclk e2 h5⟩

theorem zjM (hr:Rel G σ H w) {t:TypeId} :
 ∃ v w' σ',(Instr.makeMap t none).run P w = .ok v w'∧RelV σ' (H.new (.mapB [])) w' (.mp H.n) v∧Rel G σ' (H.new (.mapB [])) w'∧Ev H.n σ H w σ' (H.new (.mapB [])) w':=by
 obtain⟨h1,h2⟩:=zfV hr (.map #[] 0) rfl [] #[] (zjB []) ⟨rfl,by simp⟩ ⟨#[],0,rfl,by simp,by simp,by simp,by simp,by simp⟩
 refine⟨.map (some w.heap.size),w.alloc (.map #[] 0),_,by simp [Instr.makeMap,newObj,Sem.run],?_,h1,h2⟩
 have:RelV (σ.withC H.n w.heap.size) (H.new (.mapB [])) (w.alloc (.map #[] 0)) (.mp H.n) (.map (some ((σ.withC H.n w.heap.size).c H.n))) := .mp (by simp [Hp.n_new])
 simpa [Gh.withC] using this
end runs

end Go.AL

/-
  Functions of Go's library that have no body here: what they come to on numbers.
  Conditions: none;nothing here speaks of one program.
-/
namespace Go.AL
open Go

def ziw (P:Program) (f:FuncId):Option String :=
  match P.funcs[f]? with
  | some fn => if fn.body.isNone && fn.origin == "" then some fn.name else none
  | none=>none

def zjN:List AV → Option (List Int)
 | []=>some []
 | .p (.s (.int .u64 n)) :: xs=>(zjN xs).map (n :: ·)
 | _=>none

def zp9 (nm:String) (args:List AV):Option AV :=
  match zjN args with
  | some [x,y,c] =>
    if 0≤x∧0≤y∧0≤c∧c≤1 then
      if nm = "math/bits.Add64" then some (.tup [.p (.s (.int .u64 ((x.toNat + y.toNat + c.toNat) % 2 ^ 64 : Nat))), .p (.s (.int .u64 ((x.toNat + y.toNat + c.toNat) / 2 ^ 64 : Nat)))])
      else if nm = "math/bits.Sub64" then some (.tup [.p (.s (.int .u64 ((x.toNat + 2 ^ 64 - y.toNat - c.toNat) % 2 ^ 64 : Nat))), .p (.s (.int .u64 (if x.toNat < y.toNat + c.toNat then 1 else 0 : Nat)))])
      else none
    else none
  | _=>none

theorem zjO {σ H w} : ∀ {args:List AV} {ns:List Int} {vs:Array Value},zjN args=some ns → RelVs σ H w args vs → vs.toList=ns.map (Value.int .u64)
 | [],ns,vs,h,hv=>by
  simp only [zjN,Option.some.injEq] at h
  subst h
  have:=hv.1
  simp at this
  simp [this]
 | x :: xs,ns,vs,h,hv=>by
  obtain⟨l⟩:=vs
  cases l with
  | nil=>have:=hv.1;simp at this
  | cons v vs =>
   cases x with
   | p x =>
    cases x with
    | s u =>
     cases u with
     | int k n =>
      cases k<;>simp only [zjN,Option.map_eq_some_iff] at h<;>try cases h
      rename_i ms hms
      obtain⟨hms,rfl⟩:=hms
      have h0:=hv.2 0 _ v rfl rfl
      have ht:=zjO (vs:=⟨vs⟩) hms ⟨by simpa using hv.1,fun i x v a b=>hv.2 (i+1) x v (by simpa using a) (by simpa using b)⟩
      simp only at ht
      cases h0 with | p h0 =>
      cases h0
      simp [ht]
     | _=>simp [zjN] at h
    | _=>simp [zjN] at h
   | _=>simp [zjN] at h

theorem zmj {fn : Func} (h : fn.name = "math/bits.Add64") : Extern.find fn = some (fun args => do
    let (x, y, c) ← Extern.MathBitsCarry.three "Add64" args
    pure (Extern.MathBitsCarry.pair ((x+y+c) % Extern.MathBitsCarry.m64) ((x+y+c) / Extern.MathBitsCarry.m64))):=by
  unfold Extern.find
  rw [h]
  kernel_rfl
theorem zmk {fn : Func} (h : fn.name = "math/bits.Sub64") : Extern.find fn = some (fun args => do
    let (x, y, b) ← Extern.MathBitsCarry.three "Sub64" args
    pure (Extern.MathBitsCarry.pair ((x+Extern.MathBitsCarry.m64 - y - b) % Extern.MathBitsCarry.m64) (if x < y+b then 1 else 0))):=by
  unfold Extern.find
  rw [h]
  kernel_rfl
theorem zsq (nm:String) (x y c:Value):Extern.MathBitsCarry.three nm #[x,y,c]=(do
    let c:=(←asInt c).toNat
    if c > 1 then unsupported (.noEntry ("extern/math/bits." ++ nm ++ ": a carry that is neither 0 nor 1"))
    pure ((←asInt x).toNat,(←asInt y).toNat,c)):=rfl

theorem zhR {P:Program} {w:World} (nm:String) {k1 k2 k3:IntKind} (x y c:Int) (hc : ¬ 1 < c.toNat):(Extern.MathBitsCarry.three nm #[.int k1 x,.int k2 y,.int k3 c]).run P w = .ok (x.toNat,y.toNat,c.toNat) w:=by
 rw [zsq]
 simp only [asInt,asIntOf,Sem.run_bind,Sem.run_pure,Result.andThen_ok,gt_iff_lt,hc,if_false]

theorem zhS {fn : Func} (n : String) (h : fn.name = n) (ho : fn.origin = "") (h1 : (Extern.allNextRows.lookup n).isNone = true) : Extern.findNext fn = none := by
  unfold Extern.findNext
  rw [h,ho]
  have h2 : (Extern.allNextRows.lookup "").isNone = true := by kernel_rfl
  simp only [Option.isNone_iff_eq_none] at h1 h2
  simp [h1,h2]

theorem zwX {P:Program} {σ:Gh} {H:Hp} {w:World} {f:FuncId} {nm:String} {args:List AV} {y:AV} {vs:Array Value} (hn:ziw P f=some nm) (h:zp9 nm args=some y) (hv:RelVs σ H w args vs) :
 ∃ v,(callFunc f vs).run P w = .ok (.value v) w∧RelV σ H w y v:=by
 unfold ziw at hn
 split at hn
 case h_2=>cases hn
 rename_i fn hf
 split at hn
 case isFalse=>cases hn
 rename_i hc
 cases hn
 simp only [Bool.and_eq_true,beq_iff_eq] at hc
 obtain⟨hb,ho⟩:=hc
 unfold zp9 at h
 split at h
 case h_2=>cases h
 rename_i x y' c hu
 have hl:=zjO hu hv
 obtain rfl:vs = #[.int .u64 x,.int .u64 y',.int .u64 c]:=by
  apply Array.ext'
  simpa using hl
 split at h
 case isFalse=>cases h
 rename_i hr
 have hc1 : ¬ 1 < c.toNat:=by omega
 split at h
 · rename_i he
   cases h
   have hr:=run_callFunc_extern hf (by rw [he];decide) hb (zhS _ he ho (by kernel_rfl)) (zmj he) #[.int .u64 x,.int .u64 y',.int .u64 c] w
   refine⟨.tuple #[.int .u64 ((x.toNat+y'.toNat+c.toNat) % 2 ^ 64:Nat),.int .u64 ((x.toNat+y'.toNat+c.toNat) / 2 ^ 64:Nat)],?_,.tup _ rfl fun i x v h1 h2 => ?_⟩
   · rw [hr]
     simp only [Sem.run_bind,zhR _ _ _ _ hc1,Result.andThen_ok,Sem.run_pure]
     rfl
   · rcases i with _ | _ | i
     · simp at h1 h2;subst h1;subst h2;exact .p (.s _ rfl)
     · simp at h1 h2;subst h1;subst h2;exact .p (.s _ rfl)
     · simp at h1
 · split at h
   case isFalse=>cases h
   rename_i he
   cases h
   have hr:=run_callFunc_extern hf (by rw [he];decide) hb (zhS _ he ho (by kernel_rfl)) (zmk he) #[.int .u64 x,.int .u64 y',.int .u64 c] w
   refine⟨.tuple #[.int .u64 ((x.toNat+2 ^ 64 - y'.toNat - c.toNat) % 2 ^ 64:Nat),.int .u64 (if x.toNat < y'.toNat+c.toNat then 1 else 0:Nat)],?_,.tup _ rfl fun i x v h1 h2 => ?_⟩
   · rw [hr]
     simp only [Sem.run_bind,zhR _ _ _ _ hc1,Result.andThen_ok,Sem.run_pure]
     rfl
   · rcases i with _ | _ | i
     · simp at h1 h2;subst h1;subst h2;exact .p (.s _ rfl)
     · simp at h1 h2;subst h1;subst h2;exact .p (.s _ rfl)
     · simp at h1

end Go.AL

/-
  One operation's step on abstract values,a region's operations in the text's order,calls and returns.
  Conditions: none;nothing here speaks of one program.
-/
namespace Go.AL
open Go

inductive SRes where
 | val (x:AV) (H:Hp)
 | unit (H:Hp)
 | call (f:FuncId) (args:List AV)
 | yield (b:Nat) (args:List AV)
 | fail

def vH (x:Option AV) (H:Hp):SRes:=match x with | some x => .val x H | none => .fail
def vHH (x:Option (AV × Hp)):SRes:=match x with | some (x,H) => .val x H | none => .fail
def uH (x:Option Hp):SRes:=match x with | some H => .unit H | none => .fail

def zaF (P:Program) (t:TypeId) (v:Value):AV :=
 match v with
 | .slice a l c=>if a.isNone && l == 0 && c == 0 then (match P.underlying t with | some (.slice e) => .p (.sl true (P.cellsOf e) []) | _ => .p (.sl true 0 [])) else .p (.s (.slice a l c))
 | v=>ye v

def zaN (P:Program) (G:Globs) (env:Env) (t:TypeId) (x:Operand):AV :=
 match x with
 | .const v=>zaF P t v
 | x=>yg G env x

theorem zcV {σ:Gh} {H:Hp} {w:World} {u v:Value} (h:RelV σ H w (.p (.s u)) v):v=u:=by
 cases h with | p h=>cases h;rfl

def zbU (v:Value):AV:=match v with | .slice none 0 0 => .p (.s (.slice none 0 0)) | v=>ye v
def zbo (P:Program) (t:TypeId) (v:Value):AV:=match v with | .slice none 0 0 => .p (.s (.slice none 0 0)) | v=>zaF P t v
def zfX (G:Globs) (env:Env) (x:Operand):AV:=match x with | .const v=>zbU v | x=>yg G env x
def zix (P:Program) (G:Globs) (env:Env) (t:TypeId) (x:Operand):AV:=match x with | .const v=>zbo P t v | x=>zaN P G env t x

def yM (P:Program) (G:Globs) (env:Env):List Operand → List TypeId → List AV
 | [],_=>[]
 | x :: xs,[]=>yg G env x :: yM P G env xs []
 | x :: xs,t :: ts=>zix P G env t x :: yM P G env xs ts

def yX (G:Globs) (env:Env):List (Nat × Operand) → List (Nat × AV)
 | []=>[]
 | (i,x) :: r=>(i,yg G env x) :: yX G env r

def zaW (G:Globs) (env:Env):List Operand → List AV
 | []=>[]
 | x :: r=>yg G env x :: zaW G env r

def enters (P : Program) (f : FuncId) : Bool := match P.funcs[f]? with | some fn => fn.body.isSome && !(fn.name == "runtime.NumGoroutine") | none => false

open Classical in
noncomputable def zcH (P:Program) (t:TypeId) (xs ys:List PV):Option Bool :=
 if P.keyTypeAt 64 t && !P.eqGuardType P.depth t && z8 P t then
  match zaE xs,zaE ys with
  | some a,some b=>match P.keyLits 64 t a,P.keyLits 64 t b with
   | some la,some lb=>some (decide (la=lb))
   | _,_=>none
  | _,_=>none
 else none

theorem zeX {P:Program} {t:TypeId} {d:Nat} {cs:List Value} {l:List Lit} (ht:z8 P t=true) (h:P.keyLits d t cs=some l):cs.length=P.cellsOf t∧((∃ n e,P.underlying t=some (.array n e)) ∨ ∃ fs,P.underlying t=some (.struct fs)):=by
 cases d with
 | zero=>simp [Program.keyLits] at h
 | succ d =>
  unfold z8 at ht
  split at ht
  case h_2=>cases ht
  rename_i k hk
  cases k<;>simp [yf] at ht
  · rename_i n e
    unfold Program.keyLits at h
    simp only [hk] at h
    split at h
    · rename_i hl;exact⟨hl,.inl ⟨n,e,hk⟩⟩
    · cases h
  · rename_i fs
    unfold Program.keyLits at h
    simp only [hk] at h
    split at h
    · rename_i hl;exact⟨hl.1,.inr ⟨fs,hk⟩⟩
    · cases h

open Classical in
theorem zqa {P:Program} {t:TypeId} {xs ys:List PV} {r:Bool} {w:World} {S:Nat → Nat → Prop} {vx vy:Value} (h:zcH P t xs ys=some r) (hx:RelP w S (.agg xs) vx) (hy:RelP w S (.agg ys) vy) (op:BinOp) (xo yo:Operand) :
 (eqGuard op t xo yo vx vy).run P w = .ok () w∧(Op.equal t vx vy).run P w = .ok r w∧(∃ vs,vx = .agg vs) ∧ ∃ us,vy = .agg us:=by
 cases hx with | agg _ vs hl _ hr =>
 cases hy with | agg _ us hl' _ hr' =>
 unfold zcH at h
 split at h
 case isFalse=>cases h
 rename_i hc
 simp only [Bool.and_eq_true,Bool.not_eq_true'] at hc
 obtain⟨⟨hk,hg⟩,ha⟩:=hc
 split at h
 case h_2=>cases h
 rename_i a b e1 e2
 split at h
 case h_2=>cases h
 rename_i la lb f1 f2
 cases h
 have q1:vs.toList=a:=zdo e1 (by simpa using hl) (fun i x v e e'=>hr i x v e (by simpa using e'))
 have q2:us.toList=b:=zdo e2 (by simpa using hl') (fun i x v e e'=>hr' i x v e (by simpa using e'))
 obtain⟨g1,g2⟩:=zeX ha f1
 obtain⟨g3,_⟩:=zeX ha f2
 have fm : ∀ {ws:Array Value},ws.size=P.cellsOf t → (Value.agg ws).formed P t=true:=fun hs=>by
  rcases g2 with ⟨n,e,hu⟩ | ⟨fs,hu⟩<;>simp [Value.formed,hu,hs]
 have fx:=fm (ws:=vs) (by rw [←Array.length_toList,q1,g1])
 have fy:=fm (ws:=us) (by rw [←Array.length_toList,q2,g3])
 refine⟨?_,?_,⟨vs,rfl⟩,us,rfl⟩
 · unfold eqGuard
   cases op<;>simp [hg]
 · obtain⟨r,hr,hiff⟩:=run_equalIn_deep 9936 64 t hk w 64 64 (.agg vs) (.agg us) la lb fx fy (by simpa [Value.cells,q1] using f1) (by simpa [Value.cells,q2] using f2)
   by_cases he:la=lb
   · rw [decide_eq_true he,←hiff.2 he];exact hr
   · cases r with
     | false=>rw [decide_eq_false he];exact hr
     | true=>exact absurd (hiff.1 rfl) he

def ziy:AV → Bool
 | .p (.sl _ _ (_ :: _))=>true
 | .sl _ _ _ (_ :: _)=>true
 | .ref .. => true
 | .vr _ (_+1) _=>true
 | _=>false

theorem zml {σ:Gh} {H:Hp} {w:World} {x:AV} {v:Value} (h:ziy x=true) (hr:RelV σ H w x v) : ∃ a l c,v = .slice (some a) l c:=by
 unfold ziy at h
 split at h
 · cases hr with | p hr=>cases hr;exact⟨_,_,_,rfl⟩
 · cases hr with | sl hr _=>cases hr;exact⟨_,_,_,rfl⟩
 · cases hr;exact⟨_,_,_,rfl⟩
 · cases hr with | vr hr =>
   obtain⟨_,a,c,rfl,ha,_⟩:=hr
   have:=ha (by omega)
   cases a with
   | none=>cases this
   | some a=>exact⟨_,_,_,rfl⟩
 · cases h

noncomputable def zt (P:Program) (op:BinOp) (t:TypeId) (x y:AV):Option AV :=
 match x,y with
 | .p (.s a),.p (.s b)=>(yr P op t a b).map fun v => .p (.s v)
 | .p (.agg xs),.p (.agg ys)=>match op with
  | .eql=>(zcH P t xs ys).map fun r => .p (.s (.bool r))
  | .neq=>(zcH P t xs ys).map fun r => .p (.s (.bool !r))
  | _=>none
 | x,.p (.s (.slice none 0 0))=>if zbw P t && ziy x then (match op with
  | .eql=>some (.p (.s (.bool false)))
  | .neq=>some (.p (.s (.bool true)))
  | _=>none) else none
 | _,_=>none

def aUn (op:UnOp) (x:AV):Option AV :=
 match x with
 | .p (.s a)=>(vUn op a).map fun v => .p (.s v)
 | _=>none

def yN (P:Program) (H:Hp) (s d:TypeId) (x:AV):Option AV :=
 match P.underlying s,P.underlying d with
 | some (.slice _),some .string=>zaM P H s d x
 | some .string,some (.slice _)=>zcd P s d x
 | _,_=>if (P.underlying s).isSome then (match x with | .p (.s a)=>(zcb P d a).map fun v => .p (.s v) | _=>none) else none

def zbV (big:Bool) (x y:AV):Option AV :=
 match x,y with
 | .p (.s (.int k a)),.p (.s (.int k' b))=>if k=k' then some (.p (.s (.int k (if big then max a b else min a b)))) else none
 | _,_=>none

def isIface (P:Program) (t:TypeId):Bool:=match P.underlying t with | some (.interface _) | none=>true | _=>false

def zsr (x:AV):Option AV :=
 match x with
 | .ptr b off=>some (.ptr b off)
 | .ip sz xs i sub=>some (.ip sz xs i sub)
 | .clo f a c=>some (.clo f a c)
 | .vp b k off=>some (.vp b k off)
 | _=>none

def zmm (P:Program) (t:TypeId):Bool:=match P.underlying t with | some (.interface _) | none=>false | _=>true
def zdq (P:Program) (t:TypeId) (ok:Bool) (x:AV):Option AV :=
 if zmm P t && ok then
  match x with
  | .p (.s .nilIface)=>(zb1 P t).map fun z => .tup [z,.p (.s (.bool false))]
  | .p (.s (.iface d (.int k n)))=>if d=t then some (.tup [.p (.s (.int k n)),.p (.s (.bool true))]) else (zb1 P t).map fun z => .tup [z,.p (.s (.bool false))]
  | _=>none
 else none
theorem zfY {σ:Gh} {H:Hp} {w:World} {x y:AV} {u v:Value} (h1:RelV σ H w x u) (h2:RelV σ H w y v):RelV σ H w (.tup [x,y]) (.tuple #[u,v]) :=
 .tup _ rfl fun i a b ha hb=>by
  match i with
  | 0=>simp at ha hb;subst ha;subst hb;exact h1
  | 1=>simp at ha hb;subst ha;subst hb;exact h2
  | _+2=>simp at ha
theorem zjP {P:Program} {σ:Gh} {H:Hp} {w:World} {t:TypeId} {ok:Bool} {x y:AV} {v:Value} (xt:TypeId) (h:zdq P t ok x=some y) (hx:RelV σ H w x v) : ∃ u,(Instr.typeAssert v xt t ok).run P w = .ok u w∧RelV σ H w y u:=by
 unfold zdq at h
 split at h
 case isFalse=>cases h
 rename_i hc
 simp only [Bool.and_eq_true] at hc
 obtain⟨hc,rfl⟩:=hc
 unfold zmm at hc
 cases hu:P.underlying t with
 | none=>simp [hu] at hc
 | some d =>
  rw [hu] at hc
  split at h
  · have:=zcV hx
    subst this
    simp only [Option.map_eq_some_iff] at h
    obtain⟨z,hz,rfl⟩:=h
    obtain⟨u,h1,h2⟩:=zdO (σ:=σ) (H:=H) (w:=w) hz
    refine⟨.tuple #[u,.bool false],?_,zfY h2 (.p (.s _ rfl))⟩
    cases d<;>first | (simp at hc;done) | simp [Instr.typeAssert,run_underlying hu,h1]
  · have:=zcV hx
    subst this
    split at h
    · rename_i e
      subst e
      cases h
      refine⟨_,?_,zfY (.p (.s _ rfl)) (.p (.s _ rfl))⟩
      cases d<;>first | (simp at hc;done) | simp [Instr.typeAssert,run_underlying hu]
    · rename_i e
      simp only [Option.map_eq_some_iff] at h
      obtain⟨z,hz,rfl⟩:=h
      obtain⟨u,h1,h2⟩:=zdO (σ:=σ) (H:=H) (w:=w) hz
      refine⟨.tuple #[u,.bool false],?_,zfY h2 (.p (.s _ rfl))⟩
      cases d<;>first | (simp at hc;done) | simp [Instr.typeAssert,run_underlying hu,h1,e]
  · cases h

def zK (P:Program) (G:Globs) (env:Env) (H:Hp) (b:Builtin) (args:List Operand) (ts:List TypeId):SRes :=
 match b,args,ts with
 | .len,[x],[t]=>vH (zzR P t (yg G env x)) H
 | .append,[s,x],[t,u]=>vHH (zd5 P H t u (zaN P G env t s) (zaN P G env u x))
 | .copy,[d,s],[t,_]=>vHH (zjI P H t (yg G env d) (yg G env s))
 | .min,[x,y],_=>vH (zbV false (yg G env x) (yg G env y)) H
 | .max,[x,y],_=>vH (zbV true (yg G env x) (yg G env y)) H
 | _,_,_ => .fail

def zcW (P:Program) (fn:FuncId) (args:List AV) (H:Hp):SRes:=match ziw P fn with | some nm=>vH (zp9 nm args) H | none => .fail

def zaX (P:Program) (G:Globs) (env:Env) (c:Call) (f:AV) (H:Hp):SRes :=
 match f with
 | .clo fn first captured=>if enters P fn then .call fn (first++yM P G env c.args.toList c.argTypes.toList++captured) else zcW P fn (first++yM P G env c.args.toList c.argTypes.toList++captured) H
 | .yld b => .yield b (yM P G env c.args.toList c.argTypes.toList)
 | _ => .fail

noncomputable def zj (P:Program) (G:Globs) (op:Op) (ty:TypeId) (env:Env) (H:Hp):SRes :=
 match op with
 | .move x => .val (zaN P G env ty x) H
 | .assign x => .val (zaN P G env ty x) H
 | .alloc t=>match zI P t with | some ps => .val (.ptr H.n 0) (H.new (.cells (ps.map .p))) | none => .fail
 | .box _ x=>match zi (yg G env x) with | some cs => .val (.ptr H.n 0) (H.new (.cells cs)) | none => .fail
 | .build t parts=>vH (yi P t (yX G env parts.toList)) H
 | .buildSlice t n parts=>vHH (zaz P H t n (yX G env parts.toList))
 | .load t a=>vH (zay P H t (yg G env a)) H
 | .store t a x=>uH (zcR P H t (yg G env a) (zaN P G env t x))
 | .nilCheck x=>vH (zsr (yg G env x)) H
 | .binOp op t x y _=>vH (zt P op t (zfX G env x) (zfX G env y)) H
 | .unOp op _ x=>vH (aUn op (yg G env x)) H
 | .convert s d x=>vH (yN P H s d (yg G env x)) H
 | .makeInterface t x=>match yg G env x with | .p (.s v)=>if isIface P t then .fail else .val (.p (.s (.iface t v))) H | _ => .fail
 | .makeFunc fn first captured=>match fn with | .func f => .val (.clo f (zaW G env first.toList) (zaW G env captured.toList)) H | _ => .fail
 | .makeSlice t l c=>match l with | .const (.int _ 0)=>vHH (zfR P H t (yg G env l) (yg G env c)) | _=>vHH (zjH P H t (yg G env l) (yg G env c))
 | .slice t x lo hi mx=>vH (zfU P t (yg G env x) (lo.map (yg G env)) (hi.map (yg G env)) (mx.map (yg G env))) H
 | .fieldAddr s x f=>vH (zby P s (yg G env x) f) H
 | .field s x f=>vH (zfO P s (yg G env x) f) H
 | .indexAddr t x i=>vH (zbx P t (yg G env x) (yg G env i)) H
 | .index t x i=>vH (zfP P t (yg G env x) (yg G env i)) H
 | .extract t i=>match yg G env t with | .tup xs=>vH xs[i]? H | _ => .fail
 | .pick c x y=>match yg G env c with | .p (.s (.bool b)) => .val (if b then zaN P G env ty x else zaN P G env ty y) H | _ => .fail
 | .call c=>match c.callee with
  | .value f=>zaX P G env c (yg G env f) H
  | .builtin b=>zK P G env H b c.args.toList c.argTypes.toList
  | .invoke _ _ => .fail
 | .makeMap _ r=>match r with | none => .val (.mp H.n) (H.new (.mapB [])) | _ => .fail
 | .lookup t x i ok=>vH (zdp P G.map H t (yg G env x) (yg G env i) ok) H
 | .mapUpdate t x i y | .insert t x i y=>uH (zbT P H t (yg G env x) (yg G env i) (zaN P G env t y))
 | .typeAssert x _ t ok=>vH (zdq P t ok (yg G env x)) H
 | _ => .fail

section sound
variable {P:Program} {G:Globs} {σ:Gh} {H:Hp} {w:World} {env:Env} {nt m:Nat} {a:Act}

theorem zeY {t:TypeId} (v:Value):RelV σ H w (zaF P t v) v:=by
 cases v
 case slice ad l c =>
  simp only [zaF]
  split
  · rename_i h
    simp only [Bool.and_eq_true,Option.isNone_iff_eq_none,beq_iff_eq] at h
    obtain⟨⟨rfl,rfl⟩,rfl⟩:=h
    split<;>exact .p (.nil true _)
  · exact .p (.s _ rfl)
 all_goals (unfold zaF;exact zdI _)

theorem zaG (hr:Rel G σ H w) (hf:RelF nt m σ H w env a) (t:TypeId) (x:Operand):RelV σ H w (zaN P G env t x) (a.eval x):=by
 cases x with
 | const v=>exact zeY v
 | tmp t=>exact zo hr hf (.tmp t)
 | global g=>exact zo hr hf (.global g)
 | func f=>exact zo hr hf (.func f)

theorem zjQ (hr:Rel G σ H w) (hf:RelF nt m σ H w env a) (x:Operand):RelV σ H w (zfX G env x) (a.eval x):=by
 cases x with
 | const v =>
  show RelV σ H w (zbU v) v
  unfold zbU
  split
  · exact .p (.s _ rfl)
  · exact zdI _
 | tmp t=>exact zo hr hf (.tmp t)
 | global g=>exact zo hr hf (.global g)
 | func f=>exact zo hr hf (.func f)

theorem zss (hr:Rel G σ H w) (hf:RelF nt m σ H w env a) (t:TypeId) (x:Operand):RelV σ H w (zix P G env t x) (a.eval x):=by
 cases x with
 | const v =>
  show RelV σ H w (zbo P t v) v
  unfold zbo
  split
  · exact .p (.s _ rfl)
  · exact zeY _
 | tmp t=>exact zo hr hf (.tmp t)
 | global g=>exact zo hr hf (.global g)
 | func f=>exact zo hr hf (.func f)

theorem zdr (hr:Rel G σ H w) (hf:RelF nt m σ H w env a) : ∀ (xs:List Operand) (ts:List TypeId),(yM P G env xs ts).length=xs.length ∧ ∀ (i:Nat) x v,(yM P G env xs ts)[i]? = some x → (xs.map a.eval)[i]? = some v → RelV σ H w x v
 | [],ts=>by simp [yM]
 | x :: xs,[]=>by
  obtain⟨h1,h2⟩:=zdr hr hf xs []
  refine⟨by simp [yM,h1],fun i y v hy hv => ?_⟩
  cases i with
  | zero=>simp [yM] at hy hv;subst hy;subst hv;exact zo hr hf x
  | succ i=>simp only [yM,List.getElem?_cons_succ,List.map_cons] at hy hv;exact h2 i y v hy hv
 | x :: xs,t :: ts=>by
  obtain⟨h1,h2⟩:=zdr hr hf xs ts
  refine⟨by simp [yM,h1],fun i y v hy hv => ?_⟩
  cases i with
  | zero=>simp [yM] at hy hv;subst hy;subst hv;exact zss hr hf t x
  | succ i=>simp only [yM,List.getElem?_cons_succ,List.map_cons] at hy hv;exact h2 i y v hy hv

theorem zcq (hr:Rel G σ H w) (hf:RelF nt m σ H w env a) : ∀ (ps:List (Nat × Operand)),(yX G env ps).length=ps.length ∧ ∀ (k:Nat) i x j v,(yX G env ps)[k]? = some (i,x) → (ps.map fun p=>(p.1,a.eval p.2))[k]? = some (j,v) → j=i∧RelV σ H w x v
 | []=>by simp [yX]
 | (i,x) :: ps=>by
  obtain⟨h1,h2⟩:=zcq hr hf ps
  refine⟨by simp [yX,h1],fun k i' y j v hy hv => ?_⟩
  cases k with
  | zero =>
   simp [yX] at hy hv
   obtain⟨rfl,rfl⟩:=hy
   obtain⟨rfl,rfl⟩:=hv
   exact⟨rfl,zo hr hf x⟩
  | succ k=>simp only [yX,List.getElem?_cons_succ,List.map_cons] at hy hv;exact h2 k i' y j v hy hv

theorem zeH (hr:Rel G σ H w) (hf:RelF nt m σ H w env a) : ∀ (xs:List Operand),(zaW G env xs).length=xs.length ∧ ∀ (i:Nat) x v,(zaW G env xs)[i]? = some x → (xs.map a.eval)[i]? = some v → RelV σ H w x v
 | []=>by simp [zaW]
 | x :: xs=>by
  obtain⟨h1,h2⟩:=zeH hr hf xs
  refine⟨by simp [zaW,h1],fun i y v hy hv => ?_⟩
  cases i with
  | zero=>simp [zaW] at hy hv;subst hy;subst hv;exact zo hr hf x
  | succ i=>simp only [zaW,List.getElem?_cons_succ,List.map_cons] at hy hv;exact h2 i y v hy hv

theorem zdP (hr:Rel G σ H w) (hf:RelF nt m σ H w env a) (x:Option Operand):zdL σ H w (x.map (yg G env)) (x.map a.eval):=by
 cases x with
 | none=>trivial
 | some x=>exact zo hr hf x

theorem zfZ {f:FuncId} (h:enters P f=true) (vs:Array Value) (w:World):(callFunc f vs).run P w = .ok (.enter f vs) w:=by
  unfold enters at h
  split at h
  case h_2=>cases h
  rename_i fn hf
  simp only [Bool.and_eq_true,Bool.not_eq_true'] at h
  obtain⟨h1,h2⟩:=h
  have h3 : ¬ fn.body=none:=fun h=>by simp [h] at h1
  have h4 : ¬ fn.name = "runtime.NumGoroutine" := by simpa using h2
  simp [callFunc,hf,h3,h4]

def StepOK (P:Program) (G:Globs) (σ:Gh) (H:Hp) (w:World) (ex:Sem Next):SRes → Prop
 | .val x H' => ∃ v w' σ',ex.run P w = .ok (.value v) w'∧RelV σ' H' w' x v∧Rel G σ' H' w'∧Ev H.n σ H w σ' H' w'
 | .unit H' => ∃ w' σ',ex.run P w = .ok .skip w'∧Rel G σ' H' w'∧Ev H.n σ H w σ' H' w'
 | .call f args => ∃ vs,ex.run P w = .ok (.enter f vs) w∧RelVs σ H w args vs
 | .yield b args => ∃ vs,RelVs σ H w args vs ∧ ∀ f t x y,(Instr.yield (σ.c b) vs).run P w = .ok (.round (σ.c b) f t x y) w → ex.run P w = .ok (.round (σ.c b) f t x y) w
 | .fail=>True

theorem StepOK.read (hr:Rel G σ H w) {x:Option AV} {s:Sem Value} (h : ∀ y,x=some y → ∃ v,s.run P w = .ok v w∧RelV σ H w y v):StepOK P G σ H w (do pure (.value (←s))) (vH x H):=by
 cases x with
 | none=>trivial
 | some y =>
  obtain⟨v,h1,h2⟩:=h y rfl
  exact⟨v,w,σ,by simp [h1],h2,hr,Ev.refl (Nat.le_refl _)⟩

theorem StepOK.make {x:Option (AV × Hp)} {s:Sem Value} (h : ∀ y H',x=some (y,H') → ∃ v w' σ',s.run P w = .ok v w'∧RelV σ' H' w' y v∧Rel G σ' H' w'∧Ev H.n σ H w σ' H' w'):StepOK P G σ H w (do pure (.value (←s))) (vHH x):=by
 cases x with
 | none=>trivial
 | some y =>
  obtain⟨y,H'⟩:=y
  obtain⟨v,w',σ',h1,h2⟩:=h y H' rfl
  exact⟨v,w',σ',by simp [h1],h2⟩

theorem zf0 {big:Bool} {X Y z:AV} {vx vy:Value} {ts:Array TypeId} {ty:TypeId} (h:zbV big X Y=some z) (h1:RelV σ H w X vx) (h2:RelV σ H w Y vy) :
 ∃ v,((if big then Builtin.max_ else Builtin.min_) ts ty #[vx,vy]).run P w = .ok v w∧RelV σ H w z v:=by
 unfold zbV at h
 split at h
 case h_2=>cases h
 rename_i k i k' j
 split at h
 case isFalse=>cases h
 rename_i hk;subst hk
 cases h
 have h1':vx = .int k i:=by cases h1 with | p h=>cases h;rfl
 have h2':vy = .int k j:=by cases h2 with | p h=>cases h;rfl
 subst h1' h2'
 refine⟨.int k (if big then max i j else min i j),?_,.p (.s _ rfl)⟩
 cases big
 · simp [Builtin.min_,List.foldlM_cons,List.foldlM_nil,Builtin.min2]
   omega
 · simp [Builtin.max_,List.foldlM_cons,List.foldlM_nil,Builtin.max2]
   omega

theorem zhh (hr:Rel G σ H w) (hf:RelF nt m σ H w env a) (b:Builtin) (args:Array Operand) (ts:Array TypeId) (ty:TypeId) (cs:Array Bool) :
 StepOK P G σ H w (builtin b ts ty cs (args.map a.eval)) (zK P G env H b args.toList ts.toList):=by
 unfold zK
 split
 · rename_i x t hx ht
   have hx':args = #[x]:=by simpa using congrArg List.toArray hx
   have ht':ts = #[t]:=by simpa using congrArg List.toArray ht
   subst hx';subst ht'
   exact .read hr fun y hy=>by simpa using zsp (ty:=ty) hy (zo hr hf x)
 · rename_i s x t u hx ht
   have hx':args = #[s,x]:=by simpa using congrArg List.toArray hx
   have ht':ts = #[t,u]:=by simpa using congrArg List.toArray ht
   subst hx';subst ht'
   exact .make fun y H' hy=>by simpa using zjG (ty:=ty) hr hy (zaG hr hf t s) (zaG hr hf u x)
 · rename_i d s t u hx ht
   have hx':args = #[d,s]:=by simpa using congrArg List.toArray hx
   have ht':ts = #[t,u]:=by simpa using congrArg List.toArray ht
   subst hx';subst ht'
   exact .make fun y H' hy=>by simpa using zp5 (u:=u) (ty:=ty) hr hy (zo hr hf d) (zo hr hf s)
 · rename_i x y hx
   have hx':args = #[x,y]:=by simpa using congrArg List.toArray hx
   subst hx'
   refine .read hr fun z hz => ?_
   have h1:=zo hr hf x
   have h2:=zo hr hf y
   generalize yg G env x=X at hz h1
   generalize yg G env y=Y at hz h2
   simp only [List.map_toArray,List.map_cons,List.map_nil]
   generalize a.eval x=vx at h1
   generalize a.eval y=vy at h2
   exact zf0 (big:=false) (ts:=ts) (ty:=ty) hz h1 h2
 · rename_i x y hx
   have hx':args = #[x,y]:=by simpa using congrArg List.toArray hx
   subst hx'
   refine .read hr fun z hz => ?_
   have h1:=zo hr hf x
   have h2:=zo hr hf y
   generalize yg G env x=X at hz h1
   generalize yg G env y=Y at hz h2
   simp only [List.map_toArray,List.map_cons,List.map_nil]
   generalize a.eval x=vx at h1
   generalize a.eval y=vy at h2
   exact zf0 (big:=true) (ts:=ts) (ty:=ty) hz h1 h2
 · trivial

theorem ziz (hr:Rel G σ H w) (hf:RelF nt m σ H w env a) (o:Oper):StepOK P G σ H w (execOp a.eval o) (zj P G o.op o.type env H):=by
 obtain⟨dst,op,ty,pos,after,guard⟩:=o
 cases op<;>simp only [zj,execOp]<;>try trivial
 case move x=>exact⟨_,w,σ,rfl,zaG hr hf ty x,hr,Ev.refl (Nat.le_refl _)⟩
 case assign x=>exact⟨_,w,σ,rfl,zaG hr hf ty x,hr,Ev.refl (Nat.le_refl _)⟩
 case alloc t =>
  split
  · rename_i ps hps
    obtain⟨u,w',σ',h1,h2⟩:=zp1 hr hps
    exact⟨u,w',σ',by simp [h1],h2⟩
  · trivial
 case box t x =>
  split
  · rename_i cs hcs
    obtain⟨u,w',σ',h1,h2⟩:=zwV (P:=P) (e:=t) hr hcs (zo hr hf x)
    exact⟨u,w',σ',by simp [h1],h2⟩
  · trivial
 case build t parts =>
  refine .read hr fun y hy => ?_
  obtain⟨h1,h2⟩:=zcq hr hf parts.toList
  exact zmh hy (by simp [h1]) (fun k i x j v e1 e2=>h2 k i x j v e1 (by simpa using e2))
 case buildSlice t n parts =>
  refine .make fun y H' hy => ?_
  obtain⟨h1,h2⟩:=zcq hr hf parts.toList
  exact zfh hr hy (by simp [h1]) (fun k i x j v e1 e2=>h2 k i x j v e1 (by simpa using e2))
 case load t x=>exact .read hr fun y hy=>zhK hr hy (zo hr hf x)
 case store t x y =>
  cases h:zcR P H t (yg G env x) (zaN P G env t y) with
  | none=>trivial
  | some H' =>
   obtain⟨w',σ',h1,h2,h3⟩:=zmd hr h (zo hr hf x) (zaG hr hf t y)
   exact⟨w',σ',by simp [h1],h2,h3⟩
 case makeMap t r =>
  cases r with
  | some x=>trivial
  | none =>
   obtain⟨v,w',σ',h1,h2,h3,h4⟩:=zjM (P:=P) hr (t:=t)
   exact⟨v,w',σ',by simp [h1],h2,h3,h4⟩
 case lookup t x i ok=>exact .read hr fun y hy=>zjL hr hy (zo hr hf x) (zo hr hf i)
 case mapUpdate t x i y =>
  cases h:zbT P H t (yg G env x) (yg G env i) (zaN P G env t y) with
  | none=>trivial
  | some H' =>
   obtain⟨w',h1,h2,h3⟩:=zeW hr h (zo hr hf x) (zo hr hf i) (zaG hr hf t y)
   exact⟨w',σ,by simp [h1],h2,h3⟩
 case insert t x i y =>
  cases h:zbT P H t (yg G env x) (yg G env i) (zaN P G env t y) with
  | none=>trivial
  | some H' =>
   obtain⟨w',h1,h2,h3⟩:=zeW hr h (zo hr hf x) (zo hr hf i) (zaG hr hf t y)
   exact⟨w',σ,by simp [h1],h2,h3⟩
 case nilCheck x =>
  have hx:=zo hr hf x
  cases h:zsr (yg G env x) with
  | none=>trivial
  | some y =>
   unfold zsr at h
   split at h<;>cases h
   · rename_i b off e
     rw [e] at hx
     generalize a.eval x=v at hx ⊢
     cases hx with | ptr hb=>exact⟨_,w,σ,rfl,.ptr hb,hr,Ev.refl (Nat.le_refl _)⟩
   · rename_i sz xs i sub e
     rw [e] at hx
     generalize a.eval x=v at hx ⊢
     cases hx with | ip hp hi hs=>exact⟨_,w,σ,rfl,.ip hp hi hs,hr,Ev.refl (Nat.le_refl _)⟩
   · rename_i f p c e
     rw [e] at hx
     generalize a.eval x=v at hx ⊢
     cases hx with | clo fs cs q1 q2 q3 q4=>exact⟨_,w,σ,rfl,.clo fs cs q1 q2 q3 q4,hr,Ev.refl (Nat.le_refl _)⟩
   · rename_i b k off e
     rw [e] at hx
     generalize a.eval x=v at hx ⊢
     cases hx with | vp ad q=>exact⟨_,w,σ,rfl,.vp ad q,hr,Ev.refl (Nat.le_refl _)⟩
 case binOp op t x y t' =>
  refine .read hr fun z hz => ?_
  have h1:=zjQ hr hf x
  have h2:=zjQ hr hf y
  unfold zt at hz
  split at hz
  case h_4=>cases hz
  case h_3 =>
   rename_i x' e2 hn
   split at hz
   case isFalse=>cases hz
   rename_i hc
   simp only [Bool.and_eq_true] at hc
   obtain⟨e,hu⟩:=zd4 hc.1
   obtain⟨ad,l,c,h1'⟩:=zml hc.2 h1
   rw [e2] at h2
   have h2':a.eval y = .slice none 0 0:=zcV h2
   rw [h1',h2']
   split at hz
   case h_3=>cases hz
   all_goals
    cases hz
    refine⟨_,?_,.p (.s _ rfl)⟩
    rw [Sem.run_bind,yV (by simp) (by simp),Result.andThen_ok]
    simp only [binOp]
    rw [Sem.run_bind,zcQ hu]
    rfl
  case h_2 =>
   rename_i xs ys e1 e2
   rw [e1] at h1;rw [e2] at h2
   cases h1 with | p h1 =>
   cases h2 with | p h2 =>
   split at hz
   case h_3=>cases hz
   all_goals
    simp only [Option.map_eq_some_iff] at hz
    obtain⟨r,hr1,rfl⟩:=hz
    refine⟨_,?_,.p (.s _ rfl)⟩
    rename_i hop
    obtain⟨q1,q2,⟨vs,q3⟩,us,q4⟩:=zqa hr1 h1 h2 _ x y
    rw [q3,q4] at q1 q2 ⊢
    rw [Sem.run_bind,q1,Result.andThen_ok]
    simp only [binOp,Sem.run_bind,q2,Result.andThen_ok,Sem.run_pure]
  rename_i u v e1 e2
  rw [e1] at h1;rw [e2] at h2
  have h1':a.eval x=u:=by cases h1 with | p h=>cases h;rfl
  have h2':a.eval y=v:=by cases h2 with | p h=>cases h;rfl
  cases hv:yr P op t u v with
  | none=>simp [hv] at hz
  | some r =>
   simp only [hv,Option.map_some,Option.some.injEq] at hz
   subst hz
   rw [h1',h2']
   refine⟨r,zsn hv x y w,.p (.s _ ?_)⟩
   unfold yr at hv
   split at hv
   · split at hv
     · unfold zaK at hv;split at hv;· cases hv
       · split at hv<;>cases hv<;>rfl
     · split at hv
       · unfold zaj at hv
         split at hv<;>first | (cases hv;rfl) | (split at hv<;>cases hv;rfl) | (cases hv)
       · cases hv
   · unfold zzQ at hv
     split at hv<;>first | (cases hv;rfl) | (split at hv<;>cases hv;rfl) | (cases hv)
   · split at hv
     · split at hv<;>cases hv<;>rfl
     · cases hv
   · split at hv
     · split at hv<;>cases hv<;>rfl
     · cases hv
   · cases hv
 case unOp op t x =>
  refine .read hr fun z hz => ?_
  have h1:=zo hr hf x
  unfold aUn at hz
  split at hz
  case h_2=>cases hz
  rename_i u e1
  rw [e1] at h1
  have h1':a.eval x=u:=by cases h1 with | p h=>cases h;rfl
  cases hv:vUn op u with
  | none=>simp [hv] at hz
  | some r =>
   simp only [hv,Option.map_some,Option.some.injEq] at hz
   subst hz
   rw [h1']
   refine⟨r,zwU hv w,.p (.s _ ?_)⟩
   unfold vUn at hv
   split at hv<;>cases hv<;>rfl
 case convert s d x =>
  have h1:=zo hr hf x
  unfold yN
  split
  · exact .read hr fun y hy=>zhf hr hy h1
  · cases h:zcd P s d (yg G env x) with
    | none=>trivial
    | some y =>
     obtain⟨v,w',q1,q2,q3,q4⟩:=zhg hr h h1
     exact⟨v,w',σ,by simp [q1],q2,q3,q4⟩
  · refine .read hr fun z hz => ?_
    split at hz
    case isFalse=>cases hz
    rename_i hs
    split at hz
    case h_2=>cases hz
    rename_i u e1
    rw [e1] at h1
    have h1':a.eval x=u:=by cases h1 with | p h=>cases h;rfl
    cases hv:zcb P d u with
    | none=>simp [hv] at hz
    | some r =>
     simp only [hv,Option.map_some,Option.some.injEq] at hz
     subst hz
     rw [h1']
     refine⟨r,zp0 hs hv w,.p (.s _ ?_)⟩
     unfold zcb at hv
     split at hv<;>cases hv<;>rfl
 case makeInterface t x =>
  have h1:=zo hr hf x
  split
  · rename_i v e1
    split
    · trivial
    · rename_i hi
      rw [e1] at h1
      have h1':a.eval x=v:=by cases h1 with | p h=>cases h;rfl
      unfold isIface at hi
      cases hu:P.underlying t with
      | none =>
       simp [hu] at hi
      | some d =>
       rw [hu] at hi
       refine⟨.iface t v,w,σ,?_,.p (.s _ rfl),hr,Ev.refl (Nat.le_refl _)⟩
       cases d<;>first | (simp at hi;done) | simp [Instr.makeInterface,run_underlying hu,h1']
  · trivial
 case typeAssert x xt t ok=>exact .read hr fun y hy=>zjP xt hy (zo hr hf x)
 case makeFunc fn first captured =>
  split
  · rename_i f
    obtain⟨l1,r1⟩:=zeH hr hf first.toList
    obtain⟨l2,r2⟩:=zeH hr hf captured.toList
    exact⟨.func (.func f) (first.map a.eval) (captured.map a.eval),w,σ,rfl,.clo _ _ (by simp [l1]) (by simp [l2]) (fun i x v e1 e2=>r1 i x v e1 (by simpa using e2)) (fun i x v e1 e2=>r2 i x v e1 (by simpa using e2)),hr,Ev.refl (Nat.le_refl _)⟩
  · trivial
 case makeSlice t l c =>
  split
  · exact .make fun y H' hy=>zmf hr hy (zo hr hf _) (zo hr hf c)
  · exact .make fun y H' hy=>zp4 hr hy (zo hr hf l) (zo hr hf c)
 case slice t x lo hi mx=>exact .read hr fun y hy=>zmi hy (zo hr hf x) (zdP hr hf lo) (zdP hr hf hi) (zdP hr hf mx)
 case fieldAddr s x f=>exact .read hr fun y hy=>zfM hy (zo hr hf x)
 case field s x f=>exact .read hr fun y hy=>zmb hy (zo hr hf x)
 case indexAddr t x i=>exact .read hr fun y hy=>zfL hy (zo hr hf x) (zo hr hf i)
 case index t x i=>exact .read hr fun y hy=>zmc hy (zo hr hf x) (zo hr hf i)
 case extract t i =>
  have h1:=zo hr hf t
  split
  · rename_i xs e1
    rw [e1] at h1
    refine .read hr fun y hy => ?_
    generalize a.eval t=v at h1 ⊢
    cases h1 with | tup vs hl h =>
    have hlt:i < vs.size:=by rw [hl];exact (List.getElem?_eq_some_iff.1 hy).1
    exact⟨vs[i],by simp [Instr.extract,hlt],h i y _ hy (by simp)⟩
  · trivial
 case pick c x y =>
  have h1:=zo hr hf c
  split
  · rename_i b e1
    rw [e1] at h1
    generalize hv:a.eval c=v at h1 ⊢
    cases h1.bool_inv
    cases b
    · exact⟨_,w,σ,rfl,zaG hr hf ty y,hr,Ev.refl (Nat.le_refl _)⟩
    · exact⟨_,w,σ,rfl,zaG hr hf ty x,hr,Ev.refl (Nat.le_refl _)⟩
  · trivial
 case call c =>
  obtain⟨callee,args,ts⟩:=c
  cases callee with
  | invoke r m=>trivial
  | builtin b=>exact zhh hr hf b args ts ty _
  | value f =>
   have h1:=zo hr hf f
   simp only [zaX]
   split
   · rename_i fn first captured e1
     rw [e1] at h1
     obtain⟨l2,r2⟩:=zdr (P:=P) hr hf args.toList ts.toList
     generalize hv:a.eval f=v at h1
     cases h1 with | clo fs cs q1 q2 q3 q4 =>
     have hvs:RelVs σ H w (first++yM P G env args.toList ts.toList++captured) (fs++args.map a.eval++cs):=by
      refine⟨by simp [q1,q2,l2],fun i x v e1 e2 => ?_⟩
      rw [Array.getElem?_append] at e2
      simp only [Array.size_append,Array.size_map] at e2
      by_cases hi:i < fs.size+args.size
      · rw [if_pos hi] at e2
        rw [List.getElem?_append_left (by simp [l2,←q1];exact hi)] at e1
        rw [Array.getElem?_append] at e2
        by_cases hi2:i < fs.size
        · rw [if_pos hi2] at e2
          rw [List.getElem?_append_left (by omega)] at e1
          exact q3 i x v e1 e2
        · rw [if_neg hi2] at e2
          rw [List.getElem?_append_right (by omega)] at e1
          rw [←q1] at e1
          exact r2 _ x v e1 (by simpa using e2)
      · rw [if_neg hi] at e2
        rw [List.getElem?_append_right (by simp [l2,←q1];omega)] at e1
        simp only [List.length_append,l2,←q1,Array.length_toList] at e1
        exact q4 _ x v e1 e2
     split
     · rename_i he
       refine⟨fs++args.map a.eval++cs,?_,hvs⟩
       simp only [resolve,hv,Deferred.ofValue,Sem.run_bind,Sem.run_pure,Result.andThen_ok,invoke]
       exact zfZ he _ w
     · unfold zcW
       split
       · rename_i nm hn
         cases hx:zp9 nm (first++yM P G env args.toList ts.toList++captured) with
         | none=>trivial
         | some y =>
          obtain⟨v,q5,q6⟩:=zwX hn hx hvs
          refine⟨v,w,σ,?_,q6,hr,Ev.refl (Nat.le_refl _)⟩
          simp only [resolve,hv,Deferred.ofValue,Sem.run_bind,Sem.run_pure,Result.andThen_ok,invoke]
          exact q5
       · trivial
   · rename_i b e1
     rw [e1] at h1
     obtain⟨l2,r2⟩:=zdr (P:=P) hr hf args.toList ts.toList
     generalize hv:a.eval f=v at h1
     cases h1 with | yld hb =>
     refine⟨args.map a.eval,⟨by simp [l2],fun i x v e1 e2=>r2 i x v e1 (by simpa using e2)⟩,fun f' t x y hy => ?_⟩
     simp only [resolve,hv,Deferred.ofValue,Sem.run_bind,Sem.run_pure,Result.andThen_ok,invoke]
     simpa using hy
   · trivial
end sound

theorem zf1 {P:Program} {G:Globs} {op:Op} {ty:TypeId} {env:Env} {H:Hp} (h:zj P G op ty env H ≠ .fail) : ∀ c,op ≠ .defer c:=by
 intro c e
 subst e
 exact h rfl

end Go.AL

/-
  A region's operations run on abstract values,in the text's order and where the order is open;calls;returns.
  Conditions: none;nothing here speaks of one program.
-/
namespace Go.AL
open Go

def zy (nt:Nat) (d:Option Nat):Bool:=match d with | some d=>decide (d < nt) | none=>true

def zx (nt:Nat) (ops:Array Oper) (g:Option (Nat × Bool)) (env:Env):Option Bool :=
 match g with
 | none=>some true
 | some (j,want) =>
  match (ops[j]?).bind (·.dst) with
  | some d=>if d < nt then (match env d with | .p (.s (.bool t))=>some (t == want) | .tup []=>some false | _=>none) else none
  | none=>none

def zR (raw:List Nat) (f:FuncId) (args:List AV):List AV:=if raw.contains f then args else args.map AV.weak

def sOp (C:Cx) (dst:Option Nat) (H:Hp) (K:AV → Hp → Prop):SRes → Prop
 | .val x H'=>zy C.nt dst=true∧K x H'
 | .unit H'=>dst=none∧K .top H'
 | .call f args=>zy C.nt dst=true∧ACall C.P C.G f (zR C.raw f args) H K
 | .yield b args=>zy C.nt dst=true∧AYield C.P C.G b (args.map AV.weak) H K
 | .fail=>False

def aOp1 (C:Cx) (o:Oper) (env:Env) (H:Hp) (K:AV → Hp → Prop):Prop:=sOp C o.dst H K (zj C.P C.G o.op o.type env H)

theorem sOp.mono {C:Cx} {dst H} {K K':AV → Hp → Prop} {r:SRes} (h:sOp C dst H K r) (hk : ∀ x H',K x H' → K' x H'):sOp C dst H K' r:=by
 cases r with
 | val x H'=>exact⟨h.1,hk _ _ h.2⟩
 | unit H'=>exact⟨h.1,hk _ _ h.2⟩
 | call f args=>exact⟨h.1,h.2.mono hk⟩
 | yield b args=>exact⟨h.1,h.2.mono hk⟩
 | fail=>exact h

theorem RelVs.weak {σ H w} {xs:List AV} {vs:Array Value} (h:RelVs σ H w xs vs):RelVs σ H w (xs.map AV.weak) vs :=
 ⟨by simpa using h.1,fun i x v hx hv=>by
  simp only [List.getElem?_map,Option.map_eq_some_iff] at hx
  obtain⟨y,hy,rfl⟩:=hx
  exact (h.2 i y v hy hv).weak⟩

theorem ziA {σ H w} {raw f} {xs:List AV} {vs:Array Value} (h:RelVs σ H w xs vs):RelVs σ H w (zR raw f xs) vs:=by
 unfold zR
 split
 · exact h
 · exact h.weak

section
variable {C:Cx} {k:List Item} {env:Env} {H:Hp} {R:AV → Hp → Prop} {ops:Array Oper} {o:Oper} {rest:List Oper}

theorem yB {nt:Nat} {d:Option Nat} (h:zy nt d=true) : ∀ i,d=some i → i < nt:=fun i hi=>by subst hi;simpa [zy] using h

theorem aOp1.wp {K:AV → Hp → Prop} (h:aOp1 C o env H K) {σ:Gh} {w:World} {a:Act} {m:Nat} {ro:Option Nat} (hr:Rel C.G σ H w) (hf:RelF C.nt m σ H w env a) {N:Act → World → Prop} {Q:Exit → Act → World → Prop}
 (hN : ∀ x v H' σ' w',K x H' → (∀ i,o.dst=some i → i < C.nt) → Rel C.G σ' H' w' → RelV σ' H' w' x v → Ev H.n σ H w σ' H' w' → N (a.put o.dst v) w'):o.wpIn { Fence.wide with round:=ro } 0 C.P a w N Q:=by
 have hs:=ziz (P:=C.P) hr hf o
 unfold aOp1 at h
 unfold Oper.wpIn
 refine⟨fun f _=>trivial,?_⟩
 have hsem:Oper.semAt ro a.eval o=execOp a.eval o:=Oper.semAt_eq _ _ _ (zf1 (P:=C.P) (G:=C.G) (ty:=o.type) (env:=env) (H:=H) fun hh=>by rw [hh] at h;exact h)
 show o.uponIn _ _ _ _ _ _ ((Oper.semAt ro a.eval o).run C.P w)
 rw [hsem]
 generalize zj C.P C.G o.op o.type env H=r at h hs
 cases r with
 | val x H' =>
  obtain⟨v,w',σ',hrun,hv,hrel,hev⟩:=hs
  rw [hrun]
  exact hN x v H' σ' w' h.2 (yB h.1) hrel hv hev
 | unit H' =>
  obtain⟨w',σ',hrun,hrel,hev⟩:=hs
  rw [hrun]
  exact hN .top undef H' σ' w' h.2 (by simp [h.1]) hrel (.top _) hev
 | call f args =>
  obtain⟨vs,hrun,hvs⟩:=hs
  rw [hrun]
  refine⟨fun h=>(by cases h),(callsIn_wide (n:=0 - 1)).2 ((h.2 σ w vs hr (ziA hvs)).mono ?_)⟩
  rintro e w' ⟨x,H',σ',v,q,rfl,hrel,hv,hev⟩
  exact hN x v H' σ' w' q (yB h.1) hrel hv hev
 | yield b args =>
  obtain⟨vs,hvs,hrun⟩:=hs
  obtain⟨f,t,x,y,q1,q2⟩:=h.2 σ w vs hr hvs.weak
  rw [hrun _ _ _ _ q1]
  refine⟨fun h=>(by cases h),q2.mono ?_⟩
  rintro e w' ⟨x,H',σ',v,q,rfl,hrel,hv,hev⟩
  exact hN x v H' σ' w' q (yB h.1) hrel hv hev
 | fail=>exact h.elim

theorem yO {σ:Gh} {w:World} {a:Act} {m:Nat} {g:Option (Nat × Bool)} {t:Bool} (h:zx C.nt ops g env=some t) (hf:RelF C.nt m σ H w env a) (hg:o.guard=g):Region.wanted o (yielded ops a.tmps)=t:=by
 subst hg
 unfold zx at h
 split at h
 · rename_i hg;cases h;simp [Region.wanted,hg]
 · rename_i j want hg
   split at h
   case h_2=>cases h
   rename_i d hd
   split at h
   case isFalse=>cases h
   rename_i hlt
   split at h
   case h_3=>cases h
   case h_2 =>
    rename_i he
    cases h
    have hv : ∃ vs,a.tmps.getD d undef = .tuple vs:=by
     have:=hf.slot d
     rw [he] at this
     generalize a.tmps.getD d undef=v at this
     cases this with | tup vs _ _=>exact⟨vs,rfl⟩
    obtain⟨vs,hv⟩:=hv
    have hs:d < a.tmps.size:=by rw [hf.size];exact hlt
    have hv':a.tmps[d]? = some (.tuple vs):=by simpa [Array.getD_eq_getD_getElem?,hs] using hv
    simp only [Region.wanted,hg,yielded,hd,Option.bind_some,hv']
    rfl
   rename_i b he
   cases h
   have hv:a.tmps.getD d undef = .bool b:=RelV.bool_inv (he ▸ hf.slot d)
   have hs:d < a.tmps.size:=by rw [hf.size];exact hlt
   have hv':a.tmps[d]? = some (.bool b):=by simpa [Array.getD_eq_getD_getElem?,hs] using hv
   simp only [Region.wanted,hg,yielded,hd,Option.bind_some,hv']
   cases b<;>cases want<;>rfl

def YieldK (C:Cx) (ops:Array Oper) (b:Nat) (args:List AV) (dst:Option Nat) (rest:List Oper) (k:List Item) (env:Env) (H:Hp) (R:AV → Hp → Prop):Prop :=
 AYield C.P C.G b args H fun r H'=>AOps C ops rest k (env.put dst r) H' R

def CallK (C:Cx) (ops:Array Oper) (f:FuncId) (args:List AV) (dst:Option Nat) (rest:List Oper) (k:List Item) (env:Env) (H:Hp) (R:AV → Hp → Prop):Prop :=
 ACall C.P C.G f args H fun r H'=>AOps C ops rest k (env.put dst r) H' R

def zwY (C:Cx) (ops:Array Oper) (r:SRes) (dst:Option Nat) (rest:List Oper) (k:List Item) (env:Env) (H:Hp) (R:AV → Hp → Prop) (go:AV → Hp → Prop):Prop :=
 match r with
 | .val x H'=>zy C.nt dst=true∧go x H'
 | .unit H'=>dst=none∧go .top H'
 | .call f args=>zy C.nt dst=true∧CallK C ops f (zR C.raw f args) dst rest k env H R
 | .yield b args=>zy C.nt dst=true∧YieldK C ops b (args.map AV.weak) dst rest k env H R
 | .fail=>False

def zcr (C:Cx) (ops:Array Oper):List Oper → List Item → Env → Hp → (AV → Hp → Prop) → Prop
 | [],k,env,H,R=>ARun C k env H R
 | o :: rest,k,env,H,R =>
  match zx C.nt ops o.guard env with
  | some true=>zwY C ops (zj C.P C.G o.op o.type env H) o.dst rest k env H R (fun x H'=>zcr C ops rest k (env.put o.dst x) H' R)
  | some false=>zy C.nt o.dst=true∧zcr C ops rest k (env.put o.dst (.tup [])) H R
  | none=>False

theorem zdC {F:Fence} {n:Nat} (l:List Oper) {Q Q':Exit → Act → World → Prop} (hQ : ∀ e a w,Q e a w → Q' e a w) : ∀ a w,wpListIn F n C.P ops Q l a w → wpListIn F n C.P ops Q' l a w:=by
 induction l with
 | nil=>intro a w h;exact hQ _ _ _ h
 | cons o l ih =>
  intro a w h
  unfold wpListIn at h ⊢
  split
  · rename_i hw;rw [if_pos hw] at h
    unfold Oper.wpIn at *
    refine⟨h.1,?_⟩
    have h:=h.2
    generalize (o.semAt F.round a.eval).run C.P w=r at *
    have lets:LetsOut Q → LetsOut Q':=fun ⟨a0,w0,q⟩=>⟨a0,w0,hQ _ _ _ q⟩
    cases r with
    | ok x w' =>
     cases x<;>simp only [Oper.uponIn] at h ⊢ <;>
      first
       | exact ih _ _ h
       | exact⟨h.1,CallsIn.mono h.2 (fun e w'' he=>by cases e<;>first | exact ih _ _ he | exact hQ _ _ _ he | exact lets he)⟩
       | exact⟨h.1,RoundIn.mono h.2 (fun e w'' he=>by cases e<;>first | exact ih _ _ he | exact hQ _ _ _ he | exact lets he)⟩
       | exact⟨h.1,RowsIn.mono h.2 (fun _ _ he=>ih _ _ he)⟩
    | halt x w'=>cases x<;>simp only [Oper.uponIn] at h ⊢ <;> exact hQ _ _ _ h
  · rename_i hw;rw [if_neg hw] at h;exact⟨h.1,ih _ _ h.2⟩

theorem AOps.of_op {o:Oper} (t:Bool) (hw:zx C.nt ops o.guard env=some t)
 (h : ∀ σ w a m,Pre C σ H w env a m → ∀ (K:Act → World → Prop) (Q:Exit → Act → World → Prop),
  (∀ x v H' σ' w',AOps C ops rest k (env.put o.dst x) H' R → (∀ i,o.dst=some i → i < C.nt) → Rel C.G σ' H' w' → RelV σ' H' w' x v → Ev H.n σ H w σ' H' w' → K (a.put o.dst v) w') →
  if t then o.wpIn (Fr C σ) 0 C.P a w K Q else K (a.put o.dst undef) w):AOps C ops (o :: rest) k env H R:=by
 intro σ w a m hpre
 have key : ∀ x v H' σ' w',AOps C ops rest k (env.put o.dst x) H' R → (∀ i,o.dst=some i → i < C.nt) → Rel C.G σ' H' w' → RelV σ' H' w' x v → Ev H.n σ H w σ' H' w' →
  wpListIn (Fr C σ) 0 C.P ops (fun e a' w'=>e = .normal ∧ ∃ env' H' σ',ARun C k env' H' R∧Pre C σ' H' w' env' a' m∧Ev H.n σ H w σ' H' w') rest (a.put o.dst v) w':=by
  intro x v H' σ' w' hrest hd hrel hv hev
  have hf':RelF C.nt m σ' H' w' (env.put o.dst x) (a.put o.dst v):=(hpre.fr.mono hev).put hd hv
  have hpre':Pre C σ' H' w' (env.put o.dst x) (a.put o.dst v) m:=hpre.go hrel hf' hev
  have h1:=hrest σ' w' (a.put o.dst v) m hpre'
  have hF:Fr C σ'=Fr C σ:=by simp only [Fr,round_eq hpre.n0 hev.c hpre.lt]
  rw [hF] at h1
  refine zdC rest ?_ _ _ h1
  rintro e a' w2 ⟨rfl,env',H2,σ2,hr,hpre2,hev2⟩
  exact⟨rfl,env',H2,σ2,hr,hpre2,hev.trans (hev2.weaken hev.hn) (Nat.le_refl _)⟩
 have h1:=h σ w a m hpre _ (fun e a' w'=>e = .normal ∧ ∃ env' H' σ',ARun C k env' H' R∧Pre C σ' H' w' env' a' m∧Ev H.n σ H w σ' H' w') key
 unfold wpListIn
 have hwt:=yO (o:=o) hw hpre.fr rfl
 cases t with
 | true=>rw [if_pos hwt];exact h1
 | false=>rw [if_neg (by rw [hwt];simp)];exact⟨fun f _=>trivial,h1⟩

theorem AOps.run : ∀ {l:List Oper} {env:Env} {H:Hp},zcr C ops l k env H R → AOps C ops l k env H R
 | [],env,H,h => .nil h
 | o :: rest,env,H,h=>by
  unfold zcr at h
  split at h
  · rename_i hwa
    have h':aOp1 C o env H fun x H'=>AOps C ops rest k (env.put o.dst x) H' R:=by
     unfold aOp1
     unfold zwY at h
     generalize zj C.P C.G o.op o.type env H=r at h
     cases r with
     | val x H'=>exact⟨h.1,AOps.run h.2⟩
     | unit H'=>exact⟨h.1,AOps.run h.2⟩
     | call f args=>exact⟨h.1,h.2⟩
     | yield b args=>exact⟨h.1,h.2⟩
     | fail=>exact h.elim
    exact .of_op true hwa fun σ w a m hpre K Q hK=>h'.wp hpre.rel hpre.fr hK
  · rename_i hwa
    exact .of_op false hwa fun σ w a m hpre K Q hK=>hK (.tup []) undef H σ w (AOps.run h.2) (yB h.1) hpre.rel (.tup #[] rfl (by simp)) (Ev.refl (Nat.le_refl _))
  · exact h.elim

theorem CallK.of {f:FuncId} {args:List AV} {dst:Option Nat} {r:AV} {H':Hp} (h : ∀ R:AV → Hp → Prop,R r H' → ACall C.P C.G f args H R) (hk:zcr C ops rest k (env.put dst r) H' R):CallK C ops f args dst rest k env H R :=
 h _ (AOps.run hk)

theorem CallK.ex {f:FuncId} {args:List AV} {dst:Option Nat} {S:AV → Hp → Prop} (h:ACall C.P C.G f args H S) (hk : ∀ r H',S r H' → zcr C ops rest k (env.put dst r) H' R):CallK C ops f args dst rest k env H R :=
 h.mono fun r H' q=>AOps.run (hk r H' q)

theorem YieldK.of {b:Nat} {args:List AV} {dst:Option Nat} {r:AV} {H':Hp} (h : ∀ R:AV → Hp → Prop,R r H' → AYield C.P C.G b args H R) (hk:zcr C ops rest k (env.put dst r) H' R):YieldK C ops b args dst rest k env H R :=
 h _ (AOps.run hk)

theorem ARun.text {id:Nat} {l:List Oper} (h:zcr C l.toArray l k env H R):ARun C (.code (.region id l.toArray false) :: k) env H R := .region (AOps.run h)

/-! ### Returns -/

def zbW (P:Program) (env:Env) (H:Hp):ResultVar → Option AV
 | .tmp t=>some (env t)
 | .cell a t=>zay P H t (env a)

def zaQ (P:Program) (env:Env) (H:Hp):List ResultVar → Option (List AV)
 | []=>some []
 | r :: rs=>match zbW P env H r,zaQ P env H rs with
  | some x,some xs=>some (x :: xs)
  | _,_=>none

def zcM (P:Program) (rs:List ResultVar) (env:Env) (H:Hp):Option AV :=
 match zaQ P env H rs with
 | some [x]=>some x
 | some xs=>some (.tup xs)
 | none=>none

def zst (tmps:Array Value):ResultVar → Sem Value
 | .tmp t=>pure (tmps.getD t undef)
 | .cell a t=>do loadVar t (←asAddr (tmps.getD a undef))

theorem zmn (fn:Func) (tmps:Array Value):results fn tmps=(do let vs ←fn.results.mapM (zst tmps);pure (if h:vs.size=1 then vs[0] else .tuple vs)):=by
 unfold results
 congr 1

theorem zjR {σ:Gh} {w:World} {a:Act} {nt m:Nat} (hr:Rel C.G σ H w) (hf:RelF nt m σ H w env a) {r:ResultVar} {x:AV} (h1:zbW C.P env H r=some x) :
 ∃ v,(zst a.tmps r).run C.P w = .ok v w∧RelV σ H w x v:=by
 cases r with
 | tmp t=>simp only [zbW,Option.some.injEq] at h1;subst h1;exact⟨_,rfl,hf.slot t⟩
 | cell ad t =>
  simp only [zbW] at h1
  obtain⟨v,hv,hx⟩:=zhK hr h1 (hf.slot ad)
  refine⟨v,?_,hx⟩
  have hptr : ∃ p,a.tmps.getD ad undef = .pointer (some p):=by
   have hs:=hf.slot ad
   generalize a.tmps.getD ad undef=u at hs ⊢
   generalize env ad=y at h1 hs
   unfold zay at h1
   split at h1
   case h_2=>cases h1
   split at h1
   · cases hs;exact⟨_,rfl⟩
   · cases hs;exact⟨_,rfl⟩
   · cases hs;exact⟨_,rfl⟩
   · cases h1
  obtain⟨p,hp⟩:=hptr
  rw [hp] at hv
  simp only [zst,hp]
  exact hv

theorem zeZ {σ:Gh} {w:World} {a:Act} {nt m:Nat} (hr:Rel C.G σ H w) (hf:RelF nt m σ H w env a) : ∀ {rs:List ResultVar} {xs:List AV},zaQ C.P env H rs=some xs →
 ∃ vs:List Value,(rs.mapM (zst a.tmps)).run C.P w = .ok vs w∧vs.length=xs.length ∧ ∀ (i:Nat) x v,xs[i]? = some x → vs[i]? = some v → RelV σ H w x v
 | [],xs,h=>by simp only [zaQ,Option.some.injEq] at h;subst h;exact⟨[],by simp,rfl,by simp⟩
 | r :: rs,xs,h=>by
  simp only [zaQ] at h
  split at h
  case h_2=>cases h
  rename_i x ys h1 h2
  cases h
  obtain⟨vs,q1,q2,q3⟩:=zeZ hr hf h2
  obtain⟨v,hv,hx⟩:=zjR hr hf h1
  refine⟨v :: vs,?_,by simp [q2],fun i y u hy hu => ?_⟩
  · rw [List.mapM_cons]
    simp only [Sem.run_bind,hv,Result.andThen_ok,q1,Sem.run_pure]
  · cases i with
    | zero=>simp at hy hu;subst hy;subst hu;exact hx
    | succ i=>simp at hy hu;exact q3 i y u hy hu

theorem zsu {fn:Func} {x:AV} {σ:Gh} {w:World} {a:Act} {nt m:Nat} (hr:Rel C.G σ H w) (hf:RelF nt m σ H w env a) (h:zcM C.P fn.results.toList env H=some x) :
 ∃ v,(results fn a.tmps).run C.P w = .ok v w∧RelV σ H w x v:=by
 unfold zcM at h
 cases hall:zaQ C.P env H fn.results.toList with
 | none=>simp [hall] at h
 | some xs =>
  obtain⟨vs,q1,q2,q3⟩:=zeZ hr hf hall
  have hm:(fn.results.mapM (zst a.tmps)).run C.P w = .ok vs.toArray w:=by
   rw [Array.mapM_eq_mapM_toList,Sem.run_map,q1,Result.andThen_ok]
  simp only [hall] at h
  rw [zmn,Sem.run_bind,hm,Result.andThen_ok]
  split at h
  · rename_i y hy
    cases hy
    cases h
    match vs,q2,q3 with
    | [v],_,q3=>exact⟨v,rfl,q3 0 _ v rfl rfl⟩
  · rename_i ys hne hy
    cases hy
    cases h
    refine⟨.tuple vs.toArray,?_,.tup _ (by simp [q2]) (fun i x v h1 h2=>q3 i x v h1 (by simpa using h2))⟩
    have : ¬ vs.toArray.size=1:=fun h1=>by
     simp only [List.size_toArray,q2] at h1
     match xs,h1,hne with
     | [z],_,hne=>exact hne z rfl
    simp only [this,dite_false,Sem.run_pure]
  · rename_i hy;cases hy

def AV.out (n0:Nat):AV → Option AV
 | .p x=>some (.p x.weak)
 | .sl _ _ sz xs=>some (.p (.sl false sz xs))
 | .tup xs=>match pvs? xs with | some ps=>some (.tup (ps.map fun p => .p p.weak)) | none=>none
 | .ptr b off=>if b < n0 then some (.ptr b off) else none
 | .ref b off len sz=>if b < n0 then some (.ref b off len sz) else none
 | .vr b len sz=>if b < n0 then some (.vr b len sz) else none
 | .mp b=>if b < n0 then some (.mp b) else none
 | _=>none

theorem TailOK.trunc {σ:Gh} {n0 α k sz:Nat} {v:Value} (h:TailOK σ H α k sz v) (hα:α < n0):TailOK σ (H.trunc n0) α k sz v :=
 ⟨hα,fun k0 d hk=>h.2 k0 d (by rwa [Hp.f_trunc,if_pos hα] at hk)⟩

theorem Stable.trunc {σ:Gh} {n0 g o:Nat} (h:Stable σ H g o):Stable σ (H.trunc n0) g o:=by
 have hf : ∀ b x,(H.trunc n0).f b=some x → H.f b=some x:=fun b x h=>by
  rw [Hp.f_trunc] at h
  split at h
  · exact h
  · cases h
 exact⟨fun b cs hb=>h.1 b cs (hf _ _ hb),fun b v d o' s hb=>h.2 b v d o' s (hf _ _ hb)⟩

theorem RelV.trunc {σ:Gh} {w:World} {n0:Nat} {x:AV} {v:Value} (h:RelV σ H w x v):BelowN n0 x → RelV σ (H.trunc n0) w x v:=by
 have hp : ∀ {x:PV} {v:Value},RelP w (Stable σ H) x v → RelP w (Stable σ (H.trunc n0)) x v:=fun h=>h.mono fun g o v h1 h2=>⟨h1.trunc,h2⟩
 induction h with
 | p h=>exact fun _ => .p (hp h)
 | sl h ht=>intro hb;cases hb with | sl _ _ _ _ hb=>exact .sl (hp h) (ht.trunc hb)
 | ref a h0 _ hcap ha=>intro hb;cases hb with | ref _ _ _ _ hb=>exact .ref a h0 hb hcap ha
 | ptr _=>intro hb;cases hb with | ptr _ _ hb=>exact .ptr hb
 | ip h hi hs=>exact fun _ => .ip (hp h) hi hs
 | clo fs cs hf hc _ _ ih1 ih2=>intro hb;cases hb with | clo _ _ _ h1 h2=>exact .clo fs cs hf hc (fun i x v a b=>ih1 i x v a b (h1 i x a)) (fun i x v a b=>ih2 i x v a b (h2 i x a))
 | tup vs hl _ ih=>intro hb;cases hb with | tup _ h=>exact .tup vs hl (fun i x v a b=>ih i x v a b (h i x a))
 | agg vs hl h1 _ ih=>intro hb;cases hb with | agg _ h=>exact .agg vs hl h1 (fun i x v a b=>ih i x v a b (h i x a))
 | yld _=>intro hb;cases hb with | yld _ hb=>exact .yld hb
 | mp _=>intro hb;cases hb with | mp _ hb=>exact .mp hb
 | vr q =>
  intro hb
  cases hb with | vr _ _ _ hb =>
  obtain⟨_,a,cap,rfl,q1,q2⟩:=q
  exact .vr ⟨hb,a,cap,rfl,q1,fun k0 d hk=>q2 k0 d (by rwa [Hp.f_trunc,if_pos hb] at hk)⟩
 | vp a q =>
  intro hb
  cases hb with | vp _ _ _ hb =>
  exact .vp a ⟨hb,fun k0 d hk=>q.2 k0 d (by rwa [Hp.f_trunc,if_pos hb] at hk)⟩
 | top v=>exact fun _ => .top v

theorem zeI {σ:Gh} {w:World} {n0:Nat} (hr:Rel C.G σ H w) (hb:Bel n0 H):Rel C.G σ (H.trunc n0) w∧Ev n0 σ H w σ (H.trunc n0) w:=by
 have hf : ∀ b x,(H.trunc n0).f b=some x → H.f b=some x∧b < n0:=fun b x h=>by
  rw [Hp.f_trunc] at h
  split at h
  · rename_i hb;exact⟨h,hb⟩
  · cases h
 have hev:Ev n0 σ H w σ (H.trunc n0) w:=⟨fun g o v h1 h2=>⟨h1.trunc,h2⟩,fun _ _=>rfl,Nat.le_refl _,fun b hb k d hk=>⟨k,d,(hf _ _ hk).1,Nat.le_refl _,fun _=>rfl⟩,Nat.le_refl _,
  fun g _ h=>⟨rfl,fun b cs hb=>h.1 b cs (hf _ _ hb).1,fun b v d o' s hb=>h.2 b v d o' s (hf _ _ hb).1,fun b vs S hb=>h.3 b vs S (hf _ _ hb).1⟩,rfl,rfl⟩
 refine⟨⟨fun b cs h => ?_,fun b k d g o s h=>hr.tail b k d g o s (hf _ _ h).1,fun b k cs h => ?_,fun b b' cs cs' h h'=>hr.cc b b' cs cs' (hf _ _ h).1 (hf _ _ h').1,fun b b' cs k d g o s h h'=>hr.ct b b' cs k d g o s (hf _ _ h).1 (hf _ _ h').1,
  fun b b' k d k' d' g o s o' s' h h'=>hr.tt b b' k d k' d' g o s o' s' (hf _ _ h).1 (hf _ _ h').1,fun g sz xs h=>(hr.glob g sz xs h).trunc (.ip _ _ _ _),fun b vs S h => ?_,fun b b' vs vs' S S' h h'=>hr.oo b b' vs vs' S S' (hf _ _ h).1 (hf _ _ h').1,fun r m h=>(hr.gm r m h).of rfl (hev.blk r (hr.gm r m h).lt (hr.gm r m h).2.1).2 fun x v hx q=>q.trunc (hx _)⟩,hev⟩
 · obtain⟨h1,h2⟩:=hf _ _ h
   obtain⟨c,e,q1,q2,q3⟩:=hr.cells b cs h1
   exact⟨c,e,q1,q2,fun i x hx=>let ⟨v,a,b'⟩:=q3 i x hx;⟨v,a,b'.1.trunc (hb b _ h2 h1 x (List.mem_of_getElem? hx)),b'.2⟩⟩
 · obtain⟨h1,h2⟩:=hf _ _ h
   obtain⟨q0,q1,q2⟩:=hr.vec b k cs h1
   refine⟨q0,q1,fun g o s hg => ?_⟩
   obtain⟨p0,p1,p2⟩:=q2 g o s hg
   exact⟨p0,p1,fun i x hx=>let ⟨v,a,b'⟩:=p2 i x hx;⟨v,a,b'.1.trunc (hb b _ h2 h1 x (List.mem_of_getElem? hx)),b'.2⟩⟩
 · obtain⟨h1,h2⟩:=hf _ _ h
   obtain⟨o,us,q1,q2,q3,q4⟩:=hr.objs b vs S h1
   exact⟨o,us,q1,q2,⟨q3.1,fun i x v a b'=>(q3.2 i x v a b').trunc (hb b _ h2 h1 x (List.mem_of_getElem? a))⟩,q4⟩

theorem AV.out_rel {σ:Gh} {w:World} {n0:Nat} {x y:AV} {v:Value} (h:x.out n0=some y) (r:RelV σ H w x v):RelV σ (H.trunc n0) w y v:=by
 cases x with
 | p x=>simp only [AV.out,Option.some.injEq] at h;subst h;exact r.weak.trunc (.p _)
 | sl α k sz xs=>simp only [AV.out,Option.some.injEq] at h;subst h;exact r.weak.trunc (.p _)
 | ptr b off =>
  simp only [AV.out] at h
  split at h
  · rename_i hb;cases h;exact r.trunc (.ptr _ _ hb)
  · cases h
 | ref b off len sz =>
  simp only [AV.out] at h
  split at h
  · rename_i hb;cases h;exact r.trunc (.ref _ _ _ _ hb)
  · cases h
 | vr b len sz =>
  simp only [AV.out] at h
  split at h
  · rename_i hb;cases h;exact r.trunc (.vr _ _ _ hb)
  · cases h
 | mp b =>
  simp only [AV.out] at h
  split at h
  · rename_i hb;cases h;exact r.trunc (.mp _ hb)
  · cases h
 | tup xs =>
  simp only [AV.out] at h
  split at h
  case h_2=>cases h
  rename_i ps hps
  cases h
  obtain⟨hl,hg⟩:=pvs?_get hps
  cases r with | tup vs hvl hv =>
  refine .tup vs (by simp [hl,hvl]) fun i y v hy hv' => ?_
  simp only [List.getElem?_map,Option.map_eq_some_iff] at hy
  obtain⟨p,hp,rfl⟩:=hy
  obtain⟨a,ha,hap⟩:=hg i p hp
  exact RelV.trunc (.p (AV.pv?_rel hap (hv i a v ha hv')).weak) (.p _)
 | _=>simp [AV.out] at h

theorem ze0 {P:Program} {G:Globs} {σ:Gh} : ∀ (ms:List Nat) (fr:Frame) (cs:List Frame) (w:World) {m:Nat},fr.mode = .returning → fr.defers=ms.map mark → ms.Nodup → (∀ r∈ms,m≤r∧w.heap[r]? = some (.deferred (some []))∧Free σ H r) → Rel G σ H w →
 ∃ w',Steps P (lone fr cs w) (lone { fr with defers:=[] } cs w')∧Rel G σ H w'∧(∀ n0,n0≤H.n → EvM n0 m σ H w σ H w')
 | [],fr,cs,w,m,hm,hd,_,_,hr=>⟨w,by
  have : { fr with defers:=[] }=fr:=by cases fr;simp only at hd;subst hd;rfl
  rw [this];exact .refl _ _,hr,fun n0 hn=>Ev.refl hn⟩
 | r :: ms,fr,cs,w,m,hm,hd,hnd,hms,hr=>by
  obtain⟨h1,h2,h3⟩:=hms r (by simp)
  have hlt:r < w.heap.size:=(Array.getElem?_eq_some_iff.1 h2).1
  have hother : ∀ g,g≠r → (w.putObj r (.deferred none)).heap[g]? = w.heap[g]? := fun g hg=>World.putObj_heap_other hg
  have hev : ∀ n0,n0≤H.n → EvM n0 m σ H w σ H (w.putObj r (.deferred none)):=fun n0 hn=>by
   refine⟨fun g o v q1 q2=>⟨q1,?_⟩,fun _ _=>rfl,hn,fun _ _ k d hk=>⟨k,d,hk,Nat.le_refl _,fun _=>rfl⟩,by simp,fun g hg hf=>⟨hother g (by omega),hf⟩,rfl,rfl⟩
   by_cases hgr:g=r
   · subst hgr;simp [World.cell?,h2] at q2
   · simpa [World.cell?,hother g hgr] using q2
  have hrel:Rel G σ H (w.putObj r (.deferred none)):=by
   have hev:=hev H.n (Nat.le_refl _)
   refine⟨fun b cs h => ?_,fun b k d g o s h ht => ?_,hr.vec_keep hev (fun _ _ _ h=>⟨h,rfl⟩) (fun b k cs g o s _ h ht=>hother g (fun hg=>h3.2 b k _ o s h (hg ▸ ht))),hr.cc,hr.ct,hr.tt,fun g sz xs h=>(hr.glob g sz xs h).mono hev,fun b vs S h => ?_,hr.oo,fun g m h=>(hr.gm g m h).of (hother g (fun e=>by obtain⟨⟨es,cl,q,_⟩,_⟩:=hr.gm g m h;rw [e,h2] at q;cases q)) (hr.gm g m h).2.1 fun x v _ q=>q.mono hev⟩
   · obtain⟨c,e,p1,p2,p3⟩:=hr.cells b cs h
     exact⟨c,e,(hother _ (h3.1 b cs h)).trans p1,p2,fun i x hx=>let ⟨v,a,b⟩:=p3 i x hx;⟨v,a,b.mono hev⟩⟩
   · obtain⟨c,e,p1,p2⟩:=hr.tail b k d g o s h ht
     exact⟨c,e,(hother g (fun hg=>h3.2 b k d o s h (hg ▸ ht))).trans p1,p2⟩
   · obtain⟨o,us,p1,p2,p3,p4⟩:=hr.objs b vs S h
     exact⟨o,us,(hother _ (h3.3 b vs S h)).trans p1,p2,p3.mono hev,p4⟩
  have hs:=step_collected (P:=P) (fr:=fr) (cs:=cs) (w:=w) (d:=mark r) (r:=r) (ds:=ms.map mark) (by rw [hm];simp) hd rfl (run_takeDeferred h2)
  have hnd':=List.nodup_cons.1 hnd
  obtain⟨w',q1,q2,q3⟩:=ze0 (P:=P) ms { fr with defers:=[]++ms.map mark } cs (w.putObj r (.deferred none)) (m:=m) hm rfl hnd'.2
   (fun g hg=>let ⟨p1,p2,p3⟩:=hms g (by simp [hg]);⟨p1,(hother g (fun e=>hnd'.1 (e ▸ hg))).trans p2,p3⟩) hrel
  exact⟨w',.head hs q1,q2,fun n0 hn=>(hev n0 hn).trans' (q3 n0 hn) (Nat.le_refl _) (Nat.le_refl _) (Nat.le_refl _)⟩

theorem ARun.leave {fn:Func} {x:AV} (hro:C.round=none) (hfn:C.P.funcs[C.fid]? = some fn) {rs:List ResultVar} (hrs:fn.results.toList=rs) (hx:zcM C.P rs env H=some x) (todo:List Item)
 (hstep : ∀ (b:Frame) (a:Act) cs w,b.roundOf=none → step C.P (lone (b.atR a todo) cs w) = .next (lone { b.atR a todo with mode := .returning } cs w))
 {R:AV → Hp → Prop} (y:AV) (H':Hp) (hR:R y H') (hrel : ∀ σ w v,Rel C.G σ H w → RelV σ H w x v → C.n0≤H.n → ∃ σ',Rel C.G σ' H' w∧RelV σ' H' w y v∧Ev C.n0 σ H w σ' H' w):ARun C todo env H R:=by
 intro σ w a b cs m hb hpre
 subst hrs
 have hro':b.roundOf=none:=by rw [hb.ro,hro];rfl
 obtain⟨ms,d1,d2,d3⟩:=hpre.fr.defers
 obtain⟨w1,s1,r1,e1⟩:=ze0 (P:=C.P) ms { b.atR a todo with mode := .returning } cs w (m:=m) rfl d1 d2 d3 hpre.rel
 have hf1:RelF C.nt 0 σ H w1 env { a with defers:=[] }:=⟨⟨[],rfl,List.nodup_nil,by simp⟩,hpre.fr.size,fun i=>(hpre.fr.slot i).mono (e1 H.n (Nat.le_refl _))⟩
 obtain⟨v,hv,hxv⟩:=zsu r1 hf1 hx
 obtain⟨σ',q1,q2,q3⟩:=hrel σ w1 v r1 hxv hpre.n0
 refine⟨y,H',σ',v,w1,_,hR,.head (hstep b a cs w hro') s1,?_,q1,q2,(e1 C.n0 hpre.n0).trans' q3 (Nat.le_refl _) (Nat.le_refl _) (Nat.le_trans hpre.m (e1 C.n0 hpre.n0).size)⟩
 unfold Fin
 rw [hro]
 exact⟨_,rfl,hb.fn,rfl,rfl,hb.kind,fn,by simpa [Frame.atR,hb.fn] using hfn,hv⟩

theorem ARun.ret {fn:Func} {x y:AV} (hfn:C.P.funcs[C.fid]? = some fn) {rs:List ResultVar} (hrs:fn.results.toList=rs) (hx:zcM C.P rs env H=some x) (hy:x.out C.n0=some y) (hb:Bel C.n0 H) (hR:R y (H.trunc C.n0)) (hro:C.round=none:=by rfl) :
 ARun C (.code .ret :: k) env H R :=
 .leave hro hfn hrs hx _ (fun _ _ _ _ h=>stepR_ret h) y _ hR fun σ w v h1 h2 _=>let ⟨a,b⟩:=zeI h1 hb;⟨σ,a,AV.out_rel hy h2,b⟩
theorem ARun.fin {fn:Func} {x y:AV} (hfn:C.P.funcs[C.fid]? = some fn) {rs:List ResultVar} (hrs:fn.results.toList=rs) (hx:zcM C.P rs env H=some x) (hy:x.out C.n0=some y) (hb:Bel C.n0 H) (hR:R y (H.trunc C.n0)) (hro:C.round=none:=by rfl) :
 ARun C [] env H R :=
 .leave hro hfn hrs hx _ (fun _ _ _ _ h=>stepR_end h) y _ hR fun σ w v h1 h2 _=>let ⟨a,b⟩:=zeI h1 hb;⟨σ,a,AV.out_rel hy h2,b⟩

theorem ARun.retKeep {fn:Func} {x:AV} (hfn:C.P.funcs[C.fid]? = some fn) {rs:List ResultVar} (hrs:fn.results.toList=rs) (hx:zcM C.P rs env H=some x) (hR:R x H) (hro:C.round=none:=by rfl):ARun C (.code .ret :: k) env H R :=
 .leave hro hfn hrs hx _ (fun _ _ _ _ h=>stepR_ret h) x _ hR fun σ _ _ h1 h2 hn=>⟨σ,h1,h2,Ev.refl hn⟩
end

end Go.AL

/-
  A region whose order is open: one run in the text's order serves every order,if each operation that changes the heap is alone when its turn comes.
  Conditions: none;nothing here speaks of one program.
-/
namespace Go.AL
open Go


section congr
variable {P:Program} {G:Globs} {env env':Env} {H:Hp}

theorem zl {x:Operand} (h : ∀ t,x = .tmp t → env t=env' t):yg G env x=yg G env' x:=by
 cases x with
 | tmp t=>exact h t rfl
 | _=>rfl

theorem yP {ty:TypeId} {x:Operand} (h : ∀ t,x = .tmp t → env t=env' t):zaN P G env ty x=zaN P G env' ty x:=by
 cases x with
 | tmp t=>exact h t rfl
 | _=>rfl

theorem zf2 {x:Operand} (h : ∀ t,x = .tmp t → env t=env' t):zfX G env x=zfX G env' x:=by
 cases x with
 | tmp t=>exact h t rfl
 | _=>rfl

theorem zmo {ty:TypeId} {x:Operand} (h : ∀ t,x = .tmp t → env t=env' t):zix P G env ty x=zix P G env' ty x:=by
 cases x with
 | tmp t=>exact h t rfl
 | _=>rfl

theorem zcX : ∀ (xs:List Operand) (ts:List TypeId),(∀ x∈xs,∀ t,x = .tmp t → env t=env' t) → yM P G env xs ts=yM P G env' xs ts
 | [],_,_=>rfl
 | x :: xs,[],h=>by simp only [yM];rw [zl (h x (by simp)),zcX xs [] (fun y hy=>h y (by simp [hy]))]
 | x :: xs,t :: ts,h=>by simp only [yM];rw [zmo (h x (by simp)),zcX xs ts (fun y hy=>h y (by simp [hy]))]

theorem zcs : ∀ (ps:List (Nat × Operand)),(∀ x∈ps.map (·.2),∀ t,x = .tmp t → env t=env' t) → yX G env ps=yX G env' ps
 | [],_=>rfl
 | (i,x) :: ps,h=>by simp only [yX];rw [zl (h x (by simp)),zcs ps (fun y hy=>h y (by simp at hy ⊢;exact .inr hy))]

theorem zcY : ∀ (xs:List Operand),(∀ x∈xs,∀ t,x = .tmp t → env t=env' t) → zaW G env xs=zaW G env' xs
 | [],_=>rfl
 | x :: xs,h=>by simp only [zaW];rw [zl (h x (by simp)),zcY xs (fun y hy=>h y (by simp [hy]))]

theorem zd8 {b:Builtin} {args:List Operand} {ts:List TypeId} (h : ∀ x∈args,∀ t,x = .tmp t → env t=env' t):zK P G env H b args ts=zK P G env' H b args ts:=by
 unfold zK
 split
 · rw [zl (h _ (by simp))]
 · rename_i s x t u;rw [yP (h s (by simp)),yP (h x (by simp))]
 · rename_i d s t u;rw [zl (h d (by simp)),zl (h s (by simp))]
 · rename_i x y;rw [zl (h x (by simp)),zl (h y (by simp))]
 · rename_i x y;rw [zl (h x (by simp)),zl (h y (by simp))]
 · rfl

theorem zd9 {op:Op} {ty:TypeId} (h : ∀ x∈op.operands,∀ t,x = .tmp t → env t=env' t):zj P G op ty env H=zj P G op ty env' H:=by
 cases op<;>simp only [zj,Op.operands] at * <;> try rfl
 case move x=>rw [yP (h x (by simp))]
 case assign x=>rw [yP (h x (by simp))]
 case box t x=>rw [zl (h x (by simp))]
 case build t parts=>rw [zcs _ (fun x hx=>h x (by simpa using hx))]
 case buildSlice t n parts=>rw [zcs _ (fun x hx=>h x (by simpa using hx))]
 case load t x=>rw [zl (h x (by simp))]
 case store t x y=>rw [zl (h x (by simp)),yP (h y (by simp))]
 case nilCheck x=>rw [zl (h x (by simp))]
 case binOp op t x y t'=>rw [zf2 (h x (by simp)),zf2 (h y (by simp))]
 case unOp op t x=>rw [zl (h x (by simp))]
 case convert s d x=>rw [zl (h x (by simp))]
 case makeInterface t x=>rw [zl (h x (by simp))]
 case typeAssert x xt t ok=>rw [zl (h x (by simp))]
 case makeFunc fn first captured =>
  split
  · rw [zcY _ (fun x hx=>h x (by simp at hx ⊢;exact .inl hx)),zcY _ (fun x hx=>h x (by simp at hx ⊢;exact .inr hx))]
  · rfl
 case makeSlice t l c =>
  split
  · rw [zl (h c (by simp)),zl (h _ (by simp))]
  · rw [zl (h c (by simp)),zl (h l (by simp))]
 case slice t x lo hi mx =>
  have e1:yg G env x=yg G env' x:=zl (h x (by simp))
  have e2:lo.map (yg G env)=lo.map (yg G env'):=by
   cases lo with | none=>rfl | some y=>simp only [Option.map_some];rw [zl (h y (by simp))]
  have e3:hi.map (yg G env)=hi.map (yg G env'):=by
   cases hi with | none=>rfl | some y=>simp only [Option.map_some];rw [zl (h y (by simp))]
  have e4:mx.map (yg G env)=mx.map (yg G env'):=by
   cases mx with | none=>rfl | some y=>simp only [Option.map_some];rw [zl (h y (by simp))]
  rw [e1,e2,e3,e4]
 case lookup t x i ok=>rw [zl (h x (by simp)),zl (h i (by simp))]
 case mapUpdate t x i y=>rw [zl (h x (by simp)),zl (h i (by simp)),yP (h y (by simp))]
 case insert t x i y=>rw [zl (h x (by simp)),zl (h i (by simp)),yP (h y (by simp))]
 case fieldAddr s x f=>rw [zl (h x (by simp))]
 case field s x f=>rw [zl (h x (by simp))]
 case indexAddr t x i=>rw [zl (h x (by simp)),zl (h i (by simp))]
 case index t x i=>rw [zl (h x (by simp)),zl (h i (by simp))]
 case extract x i=>rw [zl (h x (by simp))]
 case pick c x y=>rw [zl (h c (by simp)),yP (h x (by simp)),yP (h y (by simp))]
 case call c =>
  obtain⟨callee,args,ts⟩:=c
  cases callee with
  | value f =>
   simp only [Call.operands] at h
   simp only [zaX]
   rw [zl (h f (by simp)),zcX _ _ (fun x hx=>h x (by simp at hx ⊢;exact .inr hx))]
  | builtin b =>
   simp only [Call.operands] at h
   exact zd8 (fun x hx=>h x (by simpa using hx))
  | invoke r m=>rfl
end congr


section any
variable {C:Cx} {ops:Array Oper} {q:Nat → Bool} {Q:Env → Hp → Prop}

def opA (C:Cx) (ops:Array Oper) (quiet:Bool) (i:Nat) (K:Env → Hp → Prop) (env:Env) (H:Hp):Prop :=
 match ops[i]? with
 | none=>K env H
 | some o =>
  match zx C.nt ops o.guard env with
  | some true=>if quiet then ∃ x,aOp1 C o env H (fun x' H'=>x'=x∧H'=H)∧K (env.put o.dst x) H else aOp1 C o env H (fun x H'=>K (env.put o.dst x) H')
  | some false=>zy C.nt o.dst=true∧K (env.put o.dst (.tup [])) H
  | none=>False

def zmp (C:Cx) (ops:Array Oper) (q:Nat → Bool) (Q:Env → Hp → Prop):Nat → Array Bool → Env → Hp → Prop
 | 0,listed,env,H=>Region.ready .any ops listed=[]∧Q env H
 | fuel+1,listed,env,H=>(Region.ready .any ops listed=[] → Q env H) ∧
  ∀ i∈Region.ready .any ops listed,opA C ops (q i) i (zmp C ops q Q fuel (listed.setIfInBounds i true)) env H

theorem zf3 {quiet:Bool} {i:Nat} {K K':Env → Hp → Prop} {env:Env} {H:Hp} (hk : ∀ env H,K env H → K' env H) (h:opA C ops quiet i K env H):opA C ops quiet i K' env H:=by
 unfold opA at *
 split
 · rename_i ho;simp only [ho] at h;exact hk _ _ h
 · rename_i o ho
   simp only [ho] at h
   split
   · rename_i hw
     simp only [hw] at h
     split
     · rename_i hq;rw [if_pos hq] at h;obtain⟨x,h1,h2⟩:=h;exact⟨x,h1,hk _ _ h2⟩
     · rename_i hq;rw [if_neg hq] at h;exact sOp.mono h fun x H' hh=>hk _ _ hh
   · rename_i hw;simp only [hw] at h;exact⟨h.1,hk _ _ h.2⟩
   · rename_i hw;simp only [hw] at h

theorem zat {n1 m:Nat} {ro:Option Nat} {R1:Exit → Act → World → Prop} : ∀ (fuel:Nat) (listed:Array Bool) (env:Env) (H:Hp) (σ:Gh) (w:World) (a:Act),zmp C ops q Q fuel listed env H → Rel C.G σ H w → RelF C.nt m σ H w env a → n1≤H.n →
 (∀ env' H' σ' w' a',Q env' H' → Rel C.G σ' H' w' → RelF C.nt m σ' H' w' env' a' → Ev n1 σ H w σ' H' w' → R1 .normal a' w') → wpAnyIn { Fence.wide with round:=ro } 0 C.P .any ops R1 fuel listed a w
 | 0,listed,env,H,σ,w,a,h,hr,hf,hn,hR=>⟨h.1,hR env H σ w a h.2 hr hf (Ev.refl hn)⟩
 | fuel+1,listed,env,H,σ,w,a,h,hr,hf,hn,hR=>by
  refine⟨fun h0=>hR env H σ w a (h.1 h0) hr hf (Ev.refl hn),fun i hi => ?_⟩
  have hi':=h.2 i hi
  unfold opA at hi'
  unfold wpOpIn
  split at hi'
  · rename_i ho
    simp only [ho]
    exact zat fuel _ env H σ w a hi' hr hf hn hR
  · rename_i o ho
    simp only [ho]
    split at hi'
    · rename_i hw
      rw [if_pos (yO hw hf rfl)]
      have h1:aOp1 C o env H (fun x H'=>zmp C ops q Q fuel (listed.setIfInBounds i true) (env.put o.dst x) H'):=by
       split at hi'
       · obtain⟨x,h1,h2⟩:=hi'
         exact sOp.mono h1 fun x' H' hh=>by rw [hh.1,hh.2];exact h2
       · exact hi'
      refine h1.wp hr hf fun x v H' σ' w' hk hd hrel hv hev => ?_
      exact zat fuel _ _ H' σ' w' _ hk hrel ((hf.mono hev).put hd hv) (Nat.le_trans hn hev.hn) fun env' H2 σ2 w2 a2 b1 b2 b3 b4=>hR env' H2 σ2 w2 a2 b1 b2 b3 (hev.trans b4 hn)
    · rename_i hw
      rw [if_neg (by rw [yO hw hf rfl];simp)]
      exact⟨fun f _=>trivial,zat fuel _ _ H σ w _ hi'.2 hr (hf.put (yB hi'.1) (.tup #[] rfl (by simp))) hn hR⟩
    · exact hi'.elim

def YieldsA (C:Cx) (ops:Array Oper) (o:Oper) (env:Env) (H:Hp) (x:AV):Prop :=
 (zx C.nt ops o.guard env=some true∧aOp1 C o env H (fun x' H'=>x'=x∧H'=H)) ∨ (zx C.nt ops o.guard env=some false∧zy C.nt o.dst=true∧x = .tup [])

theorem YieldsA.opA {i:Nat} {o:Oper} {x:AV} {env:Env} {H:Hp} {K:Env → Hp → Prop} (hi:ops[i]? = some o) (hy:YieldsA C ops o env H x) (h:K (env.put o.dst x) H):opA C ops true i K env H:=by
 unfold Go.AL.opA
 simp only [hi]
 rcases hy with ⟨hw,h1⟩ | ⟨hw,h1,rfl⟩
 · simp only [hw,if_true];exact⟨x,h1,h⟩
 · simp only [hw];exact⟨h1,h⟩

theorem zeJ {env:Env} {d:Option Nat} {x:AV} {t:Nat} (h : ∀ i,d=some i → i≠t):env.put d x t=env t:=by
 cases d with
 | none=>rfl
 | some i=>simp only [Env.put];rw [if_neg (Ne.symm (h i rfl))]

theorem put_comm {env:Env} {d e:Option Nat} {x y:AV} (h : ∀ i,d=some i → e≠some i):(env.put d x).put e y=(env.put e y).put d x:=by
 cases d with
 | none=>rfl
 | some i =>
  cases e with
  | none=>rfl
  | some j =>
   have:i≠j:=fun hh=>h i rfl (by rw [hh])
   funext t
   simp only [Env.put]
   by_cases h1:t=j
   · rw [if_pos h1,if_neg (by omega),if_pos h1]
   · rw [if_neg h1];by_cases h2:t=i
     · rw [if_pos h2,if_pos h2]
     · rw [if_neg h2,if_neg h2,if_neg h1]

theorem ze1 {o:Oper} {env:Env} {d:Option Nat} {x:AV} (h : ∀ i,d=some i → i ∉ o.looksAt ops):zx C.nt ops o.guard (env.put d x)=zx C.nt ops o.guard env:=by
 unfold zx
 split
 · rfl
 · rename_i j want hg
   cases hd:(ops[j]?).bind (·.dst) with
   | none=>rfl
   | some t =>
    have:env.put d x t=env t:=zeJ fun i hi heq=>h i hi (by subst heq;simp [Oper.looksAt,hg,hd])
    simp only [this]

theorem zjS {o:Oper} {env:Env} {H:Hp} {d:Option Nat} {x:AV} {K:AV → Hp → Prop} (h : ∀ i,d=some i → i ∉ o.looksAt ops):aOp1 C o (env.put d x) H K ↔ aOp1 C o env H K:=by
 unfold aOp1
 rw [zd9 (env':=env) fun y hy t ht=>zeJ fun i hi heq=>h i hi (by
  subst heq;subst ht
  exact List.mem_append_left _ (List.mem_filterMap.2 ⟨.tmp i,by simpa using hy,rfl⟩))]

theorem YieldsA.put {o:Oper} {env:Env} {H:Hp} {x y:AV} {d:Option Nat} (h : ∀ i,d=some i → i ∉ o.looksAt ops) (hy:YieldsA C ops o env H x):YieldsA C ops o (env.put d y) H x:=by
 unfold YieldsA at *
 rw [ze1 h]
 rcases hy with ⟨h1,h2⟩ | h1
 · exact .inl ⟨h1,(zjS h).2 h2⟩
 · exact .inr h1

theorem zwZ {j:Nat} {oi oj:Oper} {x:AV} {env:Env} {H:Hp} {K:Env → Hp → Prop} (hj:ops[j]? = some oj) (hap:oi.apart ops oj=true) (hy:YieldsA C ops oi env H x) (h:opA C ops true j K (env.put oi.dst x) H) :
 opA C ops true j (fun env' H'=>YieldsA C ops oi env' H' x∧K (env'.put oi.dst x) H') env H:=by
 obtain⟨h1,h2,h3⟩:=Oper.apart_spec hap
 unfold opA at *
 simp only [hj] at *
 rw [ze1 h1] at h
 split
 · rename_i hw
   simp only [hw,if_true] at h ⊢
   obtain⟨y,q1,q2⟩:=h
   exact⟨y,(zjS h1).1 q1,hy.put h3,by rw [←put_comm h2];exact q2⟩
 · rename_i hw
   simp only [hw] at h
   exact⟨h.1,hy.put h3,by rw [←put_comm h2];exact h.2⟩
 · rename_i hw;simp only [hw] at h

theorem zmq {i:Nat} {oi:Oper} {x:AV} (hi:ops[i]? = some oi) (hqi:q i=true) (Wt:Nat → Prop) (hWt : ∀ j oj,ops[j]? = some oj → Wt j → ∃ e∈oj.after,Region.binds .any e=true∧(e.on=i ∨ Wt e.on)) : ∀ (fuel:Nat) (listed:Array Bool) (env:Env) (H:Hp),
 (∀ j,Wt j → listed.getD j true=false) →
 (∀ j oj,ops[j]? = some oj → j≠i → listed.getD j true=false → ¬Wt j → q j=true∧oi.apart ops oj=true) →
 i∈Region.ready .any ops listed → YieldsA C ops oi env H x → zmp C ops q Q fuel (listed.setIfInBounds i true) (env.put oi.dst x) H → zmp C ops q Q (fuel+1) listed env H:=by
 intro fuel
 induction fuel with
 | zero =>
  intro listed env H _ _ hr hy hh
  refine⟨fun h=>(by rw [h] at hr;cases hr),fun j hj => ?_⟩
  by_cases hji:j=i
  · subst hji;rw [hqi];exact hy.opA hi hh
  · have:=ready_mono hj hji
    rw [hh.1] at this
    cases this
 | succ fuel ih =>
  intro listed env H hun0 hfree hr hy hh
  refine⟨fun h=>(by rw [h] at hr;cases hr),fun j hj => ?_⟩
  by_cases hji:j=i
  · subst hji;rw [hqi];exact hy.opA hi hh
  · have h1:=hh.2 j (ready_mono hj hji)
    obtain⟨hjun,oj,hoj,hall⟩:=mem_ready.1 hj
    have hnot : ∀ e∈oj.after,Region.binds .any e=true → e.on≠i:=fun e he hb heq=>by
     have h1:=hall e he hb
     have h0:=(mem_ready.1 hr).1
     rw [heq] at h1
     rcases Nat.lt_or_ge i listed.size with h' | h'
     · simp [h'] at h0 h1;rw [h0] at h1;cases h1
     · simp [Array.getElem?_eq_none h'] at h1
    have hnw : ¬Wt j:=fun hw=>by
     obtain⟨e,he,hb,h | h⟩:=hWt j oj hoj hw
     · exact hnot e he hb h
     · have h1:=hall e he hb
       have h0:=hun0 _ h
       rcases Nat.lt_or_ge e.on listed.size with h' | h'
       · simp [h'] at h0 h1;rw [h0] at h1;cases h1
       · simp [Array.getElem?_eq_none h'] at h1
    obtain⟨hqj,hap⟩:=hfree j oj hoj hji hjun hnw
    rw [hqj] at h1 ⊢
    have h2:=zwZ hoj hap hy h1
    have hfree' : ∀ k ok,ops[k]? = some ok → k≠i → (listed.setIfInBounds j true).getD k true=false →
     ¬Wt k → q k=true∧oi.apart ops ok=true:=fun k ok hk hki hun hno=>by
     refine hfree k ok hk hki ?_ hno
     by_cases hjk:j=k
     · subst hjk;exact hjun
     · rw [getD_set_ne true hjk] at hun;exact hun
    have hun' : ∀ k,Wt k → (listed.setIfInBounds j true).getD k true=false:=fun k hk=>by
     by_cases hjk:j=k
     · subst hjk;exact absurd hk hnw
     · rw [getD_set_ne true hjk];exact hun0 k hk
    refine zf3 (fun env' H' h3=>ih (listed.setIfInBounds j true) env' H' hun' hfree' (ready_mono hr (Ne.symm hji)) h3.1 ?_) h2
    rw [Array.setIfInBounds_comm _ _ hji]
    exact h3.2

def zaf (ops:Array Oper) (listed:Array Bool) (i:Nat):Nat → Nat → Bool
 | 0,_=>false
 | f+1,j => !listed.getD j true && match ops[j]? with
  | some oj=>oj.after.any fun e=>Region.binds .any e && (e.on == i || zaf ops listed i f e.on)
  | none=>false

def zf4 (ops:Array Oper) (listed:Array Bool) (i:Nat):List Nat :=
 (List.range ops.size).foldl (fun acc j=>if !listed.getD j true && (match ops[j]? with
  | some oj=>oj.after.any fun e=>Region.binds .any e && (e.on == i || acc.contains e.on)
  | none=>false) then j :: acc else acc) []

theorem zhi {ops:Array Oper} {listed:Array Bool} {i j:Nat} (h:(zf4 ops listed i).contains j=true) : ∃ f,zaf ops listed i f j=true:=by
 have mono : ∀ f j,zaf ops listed i f j=true → zaf ops listed i (f+1) j=true:=by
  intro f
  induction f with
  | zero=>intro j h;cases h
  | succ f ih =>
   intro j h
   unfold zaf at h ⊢
   simp only [Bool.and_eq_true] at h ⊢
   refine⟨h.1,?_⟩
   have h2:=h.2
   split at h2
   · obtain⟨e,he,hb⟩:=Array.any_eq_true'.1 h2
     simp only [Bool.and_eq_true,Bool.or_eq_true] at hb
     exact Array.any_eq_true'.2 ⟨e,he,by simp only [Bool.and_eq_true,Bool.or_eq_true];exact⟨hb.1,hb.2.imp id (ih _)⟩⟩
   · cases h2
 have key : ∀ (l:List Nat) (acc:List Nat),(∀ j∈acc,∃ f,zaf ops listed i f j=true) → ∀ j∈l.foldl (fun acc j=>if !listed.getD j true && (match ops[j]? with
  | some oj=>oj.after.any fun e=>Region.binds .any e && (e.on == i || acc.contains e.on)
  | none=>false) then j :: acc else acc) acc,∃ f,zaf ops listed i f j=true:=by
  intro l
  induction l with
  | nil=>exact fun acc h=>h
  | cons a l ih =>
   intro acc hacc
   rw [List.foldl_cons]
   refine ih _ ?_
   by_cases hc:(!listed.getD a true && (match ops[a]? with
    | some oj=>oj.after.any fun e=>Region.binds .any e && (e.on == i || acc.contains e.on)
    | none=>false))=true
   · rw [if_pos hc]
     intro j hj
     rcases List.mem_cons.1 hj with rfl | hj
     · simp only [Bool.and_eq_true] at hc
       obtain⟨h1,h2⟩:=hc
       split at h2
       · rename_i oj hoj
         obtain⟨e,he,hb⟩:=Array.any_eq_true'.1 h2
         simp only [Bool.and_eq_true,Bool.or_eq_true] at hb
         rcases hb.2 with h3 | h3
         · refine⟨1,?_⟩
           unfold zaf
           simp only [Bool.and_eq_true]
           refine⟨h1,?_⟩
           simp only [hoj]
           exact Array.any_eq_true'.2 ⟨e,he,by simp only [Bool.and_eq_true,Bool.or_eq_true];exact⟨hb.1,.inl h3⟩⟩
         · obtain⟨f,hf⟩:=hacc e.on (by simpa using h3)
           refine⟨f+1,?_⟩
           unfold zaf
           simp only [Bool.and_eq_true]
           refine⟨h1,?_⟩
           simp only [hoj]
           exact Array.any_eq_true'.2 ⟨e,he,by simp only [Bool.and_eq_true,Bool.or_eq_true];exact⟨hb.1,.inr hf⟩⟩
       · cases h2
     · exact hacc j hj
   · rw [if_neg hc]
     exact hacc
 exact key _ [] (by simp) j (by simpa [zf4] using h)

def zsv (q:Nat → Bool) (ops:Array Oper) (listed:Array Bool) (i:Nat):Bool :=
 match ops[i]? with
 | none=>false
 | some oi=>(List.range ops.size).all fun j=>j == i || listed.getD j true || match ops[j]? with
  | some oj=>oj.after.any (fun e=>Region.binds .any e && e.on == i) || (q j && oi.apart ops oj) || (zf4 ops listed i).contains j
  | none=>true

def Waits (ops:Array Oper) (listed:Array Bool) (i j:Nat):Prop := ∃ f,zaf ops listed i f j=true

theorem Waits.edge {i j:Nat} {oj:Oper} {listed:Array Bool} (hj:ops[j]? = some oj) (h:Waits ops listed i j) : ∃ e∈oj.after,Region.binds .any e=true∧(e.on=i ∨ Waits ops listed i e.on):=by
 obtain⟨f,h⟩:=h
 cases f with
 | zero=>cases h
 | succ f =>
  simp only [zaf,hj,Bool.and_eq_true] at h
  obtain⟨e,he,hb⟩:=Array.any_eq_true'.1 h.2
  simp only [Bool.and_eq_true,Bool.or_eq_true,beq_iff_eq] at hb
  exact⟨e,he,hb.1,hb.2.imp id fun h=>⟨f,h⟩⟩

theorem Waits.unlisted {i j:Nat} {listed:Array Bool} (h:Waits ops listed i j):listed.getD j true=false:=by
 obtain⟨f,h⟩:=h
 cases f with
 | zero=>cases h
 | succ f=>simp only [zaf,Bool.and_eq_true,Bool.not_eq_true'] at h;exact h.1

theorem zmr {i:Nat} {oi:Oper} {listed:Array Bool} (hi:ops[i]? = some oi) (h:zsv q ops listed i=true) (j:Nat) (oj:Oper)
 (hj:ops[j]? = some oj) (hne:j≠i) (hun:listed.getD j true=false) (hno : ¬Waits ops listed i j):q j=true∧oi.apart ops oj=true:=by
 simp only [zsv,hi,List.all_eq_true,List.mem_range] at h
 have h1:=h j (Array.getElem?_eq_some_iff.1 hj).1
 simp only [hj,Bool.or_eq_true,beq_iff_eq,hne,false_or,hun,Bool.false_eq_true,Bool.and_eq_true] at h1
 rcases h1 with (h1 | h1) | h1
 · refine absurd ⟨1,?_⟩ hno
   obtain⟨e,he,hb⟩:=Array.any_eq_true'.1 h1
   simp only [Bool.and_eq_true,beq_iff_eq] at hb
   simp only [zaf,hun,hj,Bool.not_false,Bool.true_and]
   exact Array.any_eq_true'.2 ⟨e,he,by simp [hb.1,hb.2]⟩
 · exact h1
 · exact absurd (zhi h1) hno

def zjT (q:Nat → Bool) (ops:Array Oper):Nat → Nat → Array Bool → Bool
 | 0,_,listed=>(Region.ready .any ops listed).isEmpty
 | fuel+1,k,listed=>(Region.ready .any ops listed).contains k && (if q k then zsv q ops listed k else Region.ready .any ops listed == [k]) && zjT q ops fuel (k+1) (listed.setIfInBounds k true)

def zf5 (C:Cx) (ops:Array Oper) (q:Nat → Bool) (Q:Env → Hp → Prop):Nat → List Oper → Env → Hp → Prop
 | _,[],env,H=>Q env H
 | k,_ :: l,env,H=>opA C ops (q k) k (zf5 C ops q Q (k+1) l) env H

theorem zcZ : ∀ (l:List Oper) (k:Nat) (listed:Array Bool) (env:Env) (H:Hp),(∀ j,l[j]? = ops[k+j]?) → zjT q ops l.length k listed=true → zf5 C ops q Q k l env H → zmp C ops q Q l.length listed env H
 | [],_,_,_,_,_,hB,h=>⟨by simpa [zjT] using hB,h⟩
 | o :: l,k,listed,env,H,hl,hB,h=>by
  have h0:ops[k]? = some o:=by simpa using (hl 0).symm
  have hl' : ∀ j,l[j]? = ops[k+1+j]? := fun j=>by have:=hl (j+1);simpa [Nat.add_assoc,Nat.add_comm 1 j] using this
  simp only [List.length_cons,zjT,Bool.and_eq_true] at hB
  obtain⟨⟨hr,hf⟩,hB'⟩:=hB
  simp only [zf5] at h
  by_cases hq:q k=true
  · rw [if_pos hq] at hf
    rw [hq] at h
    have : ∃ x,YieldsA C ops o env H x∧zf5 C ops q Q (k+1) l (env.put o.dst x) H:=by
     unfold opA at h
     simp only [h0] at h
     split at h
     · rename_i hw;simp only [if_true] at h;obtain⟨x,h1,h2⟩:=h;exact⟨x,.inl ⟨hw,h1⟩,h2⟩
     · rename_i hw;exact⟨.tup [],.inr ⟨hw,h.1,rfl⟩,h.2⟩
     · exact h.elim
    obtain⟨x,hy,hK⟩:=this
    exact zmq h0 hq (Waits ops listed k) (fun j oj hj hw=>hw.edge hj) l.length listed env H (fun j hw=>hw.unlisted) (zmr h0 hf) (by simpa using hr) hy (zcZ l (k+1) _ _ _ hl' hB' hK)
  · rw [if_neg hq] at hf
    have hrd:Region.ready .any ops listed=[k]:=by simpa using hf
    refine⟨fun h0=>(by rw [hrd] at h0;cases h0),fun i hi => ?_⟩
    rw [hrd] at hi
    simp only [List.mem_singleton] at hi
    subst hi
    exact zf3 (fun env' H' hh=>zcZ l (i+1) _ _ _ hl' hB' hh) h
end any

section draw
variable {C:Cx} {k:List Item} {env:Env} {H:Hp} {R:AV → Hp → Prop}


theorem ARun.draw {id:Nat} {l:List Oper} (q:Nat → Bool) (hm:C.P.follows .mixedOrders=true) (hB:zjT q l.toArray l.length 0 (Array.replicate l.length false)=true)
 (h:zf5 C l.toArray q (fun env' H'=>ARun C k env' H' R) 0 l env H):ARun C (.code (.region id l.toArray true) :: k) env H R :=
 .of_wp fun σ w a m hpre=>by
  obtain⟨g1,g2⟩:=zd3 hpre.rel
  have:=zcZ (C:=C) (ops:=l.toArray) (Q:=fun env' H'=>ARun C k env' H' R) l 0 (Array.replicate l.length false) env H (by simp) hB h
  refine wpIn_region_any hm ?_
  rw [List.size_toArray]
  exact zat (m:=m) l.length _ env H σ w.drew a this g1 (hpre.fr.mono g2) (Nat.le_refl _) fun env' H' σ' w' a' b1 b2 b3 b4=>⟨rfl,env',H',σ',b1,hpre.go b2 b3 (g2.trans b4 (Nat.le_refl _)),g2.trans b4 (Nat.le_refl _)⟩
end draw

end Go.AL

/-
  Numbers,bools and strings as typed data,and the rules by which simp runs operations on them.
  Conditions: none;nothing here speaks of one program. Written by gen_engn.py.
-/
namespace Go.AL
open Go

def i64 (n:Int):PV := .s (.int .i64 n)
def bo (b:Bool):PV := .s (.bool b)
@[reducible] def str (s:ByteArray):PV := .s (.string s)
def b8 (x:BitVec 8):PV := .s (.int .u8 x.toNat)
def w16 (x:BitVec 16):PV := .s (.int .u16 x.toNat)
def zN (x:BitVec 32):PV := .s (.int .u32 x.toNat)
def zw (x:BitVec 64):PV := .s (.int .u64 x.toNat)

theorem zea {n:Int} (h1 : -9223372036854775808≤n) (h2:n≤9223372036854775807):IntKind.i64.wrap n=n:=by rw [IntKind.wrap_i64];omega


theorem yG {w:Nat} (x:BitVec w):BitVec.ofInt w (x.toNat:Int)=x:=by simp

theorem ziB {w:Nat} (x:BitVec w) (n:Nat):((x.toNat:Int)*2 ^ min n w) % 2 ^ w=((x <<< n).toNat:Int):=by
 have h:(x.toNat*2 ^ min n w) % 2 ^ w=(x <<< n).toNat:=by
  rw [BitVec.toNat_shiftLeft,Nat.shiftLeft_eq]
  rcases Nat.le_total n w with h | h
  · rw [Nat.min_eq_left h]
  · rw [Nat.min_eq_right h,Nat.mul_mod_left]
    obtain⟨d,rfl⟩:=Nat.exists_eq_add_of_le h
    rw [Nat.pow_add,←Nat.mul_assoc,Nat.mul_right_comm,Nat.mul_mod_left]
 exact_mod_cast h

theorem zf6 {w:Nat} (x:BitVec w) (n:Nat):(x.toNat:Int).fdiv (2 ^ min n w)=((x >>> n).toNat:Int):=by
 have h:x.toNat / 2 ^ min n w=(x >>> n).toNat:=by
  rw [BitVec.toNat_ushiftRight,Nat.shiftRight_eq_div_pow]
  rcases Nat.le_total n w with h | h
  · rw [Nat.min_eq_left h]
  · rw [Nat.min_eq_right h,Nat.div_eq_of_lt x.isLt,Nat.div_eq_of_lt]
    exact Nat.lt_of_lt_of_le x.isLt (Nat.pow_le_pow_right (by omega) h)
 rw [Int.fdiv_eq_ediv_of_nonneg _ (Int.pow_nonneg (by decide)),←h]
 norm_cast

theorem zqb (n:Int):(i64 n).cells=[i64 n]:=rfl
theorem zsw (n:Int):(i64 n).weak=i64 n:=rfl
theorem zqc (n:Int):(i64 n).weak1=i64 n:=rfl
theorem zmt (n:Int):zi (.p (i64 n))=some [.p (i64 n)]:=rfl
theorem zqd (n:Int):(i64 n).isAgg=false:=rfl
theorem zmu (n:Int):zaL false [.p (i64 n)]=some (i64 n):=rfl
theorem zmv (n:Int):(AV.p (i64 n)).isAggV=false:=rfl
theorem zsx (b:Bool):(bo b).cells=[bo b]:=rfl
theorem zw0 (b:Bool):(bo b).weak=bo b:=rfl
theorem zsy (b:Bool):(bo b).weak1=bo b:=rfl
theorem zqe (b:Bool):zi (.p (bo b))=some [.p (bo b)]:=rfl
theorem zsz (b:Bool):(bo b).isAgg=false:=rfl
theorem zqf (b:Bool):zaL false [.p (bo b)]=some (bo b):=rfl
theorem zqg (b:Bool):(AV.p (bo b)).isAggV=false:=rfl
theorem zqh (s:ByteArray):(str s).cells=[str s]:=rfl
theorem zsA (s:ByteArray):(str s).weak=str s:=rfl
theorem zqi (s:ByteArray):(str s).weak1=str s:=rfl
theorem zmw (s:ByteArray):zi (.p (str s))=some [.p (str s)]:=rfl
theorem zqj (s:ByteArray):(str s).isAgg=false:=rfl
theorem zmx (s:ByteArray):zaL false [.p (str s)]=some (str s):=rfl
theorem zmy (s:ByteArray):(AV.p (str s)).isAggV=false:=rfl
theorem zsB (x:BitVec 8):(b8 x).cells=[b8 x]:=rfl
theorem zw1 (x:BitVec 8):(b8 x).weak=b8 x:=rfl
theorem zjU (x:BitVec 8):(b8 x).weak1=b8 x:=rfl
theorem zqk (x:BitVec 8):zi (.p (b8 x))=some [.p (b8 x)]:=rfl
theorem zsC (x:BitVec 8):(b8 x).isAgg=false:=rfl
theorem zql (x:BitVec 8):zaL false [.p (b8 x)]=some (b8 x):=rfl
theorem zqm (x:BitVec 8):(AV.p (b8 x)).isAggV=false:=rfl
theorem zqn (x:BitVec 16):(w16 x).cells=[w16 x]:=rfl
theorem zsD (x:BitVec 16):(w16 x).weak=w16 x:=rfl
theorem zqo (x:BitVec 16):(w16 x).weak1=w16 x:=rfl
theorem zmz (x:BitVec 16):zi (.p (w16 x))=some [.p (w16 x)]:=rfl
theorem zqp (x:BitVec 16):(w16 x).isAgg=false:=rfl
theorem zmA (x:BitVec 16):zaL false [.p (w16 x)]=some (w16 x):=rfl
theorem zmB (x:BitVec 16):(AV.p (w16 x)).isAggV=false:=rfl
theorem zqq (x:BitVec 32):(zN x).cells=[zN x]:=rfl
theorem zsE (x:BitVec 32):(zN x).weak=zN x:=rfl
theorem zhT (x:BitVec 32):(zN x).weak1=zN x:=rfl
theorem zmC (x:BitVec 32):zi (.p (zN x))=some [.p (zN x)]:=rfl
theorem zqr (x:BitVec 32):(zN x).isAgg=false:=rfl
theorem zmD (x:BitVec 32):zaL false [.p (zN x)]=some (zN x):=rfl
theorem zmE (x:BitVec 32):(AV.p (zN x)).isAggV=false:=rfl
theorem zqs (x:BitVec 64):(zw x).cells=[zw x]:=rfl
theorem zsF (x:BitVec 64):(zw x).weak=zw x:=rfl
theorem zqt (x:BitVec 64):(zw x).weak1=zw x:=rfl
theorem zmF (x:BitVec 64):zi (.p (zw x))=some [.p (zw x)]:=rfl
theorem zqu (x:BitVec 64):(zw x).isAgg=false:=rfl
theorem zmG (x:BitVec 64):zaL false [.p (zw x)]=some (zw x):=rfl
theorem zmH (x:BitVec 64):(AV.p (zw x)).isAggV=false:=rfl
theorem zw2 (n:Int):(AV.p (i64 n)).int? = some n:=rfl
theorem zzT (x:BitVec 8):(AV.p (b8 x)).int? = some (x.toNat:Int):=rfl
theorem zw3 (x:BitVec 16):(AV.p (w16 x)).int? = some (x.toNat:Int):=rfl
theorem zw4 (x:BitVec 32):(AV.p (zN x)).int? = some (x.toNat:Int):=rfl
theorem zw5 (x:BitVec 64):(AV.p (zw x)).int? = some (x.toNat:Int):=rfl
theorem zmI (n:Int):ye (.int .i64 n) = .p (i64 n):=rfl
theorem zqv (b:Bool):ye (.bool b) = .p (bo b):=rfl
theorem zmJ (s:ByteArray):ye (.string s) = .p (str s):=rfl
theorem zqw (n:Int) (h0:0≤n) (h1:n < 256):ye (.int .u8 n) = .p (b8 (BitVec.ofInt 8 n)):=by
 have:((BitVec.ofInt 8 n).toNat:Int)=n:=by rw [BitVec.toNat_ofInt];simp only [Int.reducePow,Nat.reducePow,Int.cast_ofNat_Int];omega
 unfold ye b8;rw [this]
theorem zmK (n:Int) (h0:0≤n) (h1:n < 4294967296):ye (.int .u32 n) = .p (zN (BitVec.ofInt 32 n)):=by
 have:((BitVec.ofInt 32 n).toNat:Int)=n:=by rw [BitVec.toNat_ofInt];simp only [Int.reducePow,Nat.reducePow,Int.cast_ofNat_Int];omega
 unfold ye zN;rw [this]
theorem zmL (n:Int) (h0:0≤n) (h1:n < 18446744073709551616):ye (.int .u64 n) = .p (zw (BitVec.ofInt 64 n)):=by
 have:((BitVec.ofInt 64 n).toNat:Int)=n:=by rw [BitVec.toNat_ofInt];simp only [Int.reducePow,Nat.reducePow,Int.cast_ofNat_Int];omega
 unfold ye zw;rw [this]
theorem zmM (P:Program) (t:TypeId) (x y:BitVec 8):zt P .and t (.p (b8 x)) (.p (b8 y))=some (.p (b8 (x &&& y))):=by
 simp only [zt,b8,yr,zr,zaj,Bool.false_eq_true,if_false,if_true,Option.map_some]
 have h:IntKind.u8.wrap (((x &&& y).toNat:Nat):Int)=(((x &&& y).toNat:Nat):Int):=by
  rw [IntKind.wrap_u8];have:=(x &&& y).isLt;simp only [Nat.reducePow] at this;omega
 have h1:BitVec.ofInt IntKind.u8.bits (x.toNat:Int)=x:=yG x
 have h2:BitVec.ofInt IntKind.u8.bits (y.toNat:Int)=y:=yG y
 rw [h1,h2]
 exact congrArg (fun n=>some (AV.p (PV.s (Value.int IntKind.u8 n)))) h
theorem zmN (P:Program) (t:TypeId) (x y:BitVec 8):zt P .eql t (.p (b8 x)) (.p (b8 y))=some (.p (bo (x == y))):=by
 simp only [zt,b8,yr,zr,zaj,Bool.false_eq_true,if_false,if_true,Option.map_some]
 have h:((x.toNat:Int) == (y.toNat:Int))=(x == y):=by
  rw [Bool.eq_iff_iff];simp only [beq_iff_eq,Int.ofNat_inj];exact BitVec.toNat_inj
 simp only [bo,bne,h]
theorem zmO (P:Program) (t:TypeId) (x y:BitVec 8):zt P .neq t (.p (b8 x)) (.p (b8 y))=some (.p (bo (x != y))):=by
 simp only [zt,b8,yr,zr,zaj,Bool.false_eq_true,if_false,if_true,Option.map_some]
 have h:((x.toNat:Int) == (y.toNat:Int))=(x == y):=by
  rw [Bool.eq_iff_iff];simp only [beq_iff_eq,Int.ofNat_inj];exact BitVec.toNat_inj
 simp only [bo,bne,h]
theorem zmP (P:Program) (t:TypeId) (x y:BitVec 8):zt P .gtr t (.p (b8 x)) (.p (b8 y))=some (.p (bo (decide (y < x)))):=by
 simp only [zt,b8,yr,zr,zaj,Bool.false_eq_true,if_false,if_true,Option.map_some]
 simp only [bo,BitVec.lt_def,BitVec.le_def,gt_iff_lt,ge_iff_le,Int.ofNat_lt,Int.ofNat_le]
theorem zf7 (P:Program) (t:TypeId) (x y:BitVec 8) (hy:y≠0#8):zt P .rem t (.p (b8 x)) (.p (b8 y))=some (.p (b8 (x % y))):=by
 simp only [zt,b8,yr,zr,zaj,Bool.false_eq_true,if_false,if_true,Option.map_some]
 have hn : ¬ ((y.toNat:Int)=0):=fun h=>hy (BitVec.eq_of_toNat_eq (by simpa using h))
 rw [if_neg hn]
 have h:((x.toNat:Int).tmod y.toNat)=((x % y).toNat:Int):=by
  rw [Int.tmod_eq_emod_of_nonneg (by omega),BitVec.toNat_umod,Int.natCast_emod]
 rw [h,Option.map_some]
theorem zf8 (P:Program) (t:TypeId) (x:BitVec 8) (n:Int) (hn:0≤n):zt P .shr t (.p (b8 x)) (.p (i64 n))=some (.p (b8 (x >>> n.toNat))):=by
 simp only [zt,b8,i64,yr,zr,zaK,if_true]
 rw [if_neg (by omega)]
 simp only [Option.map_some]
 have:=zf6 x n.toNat
 exact congrArg (fun n=>some (AV.p (PV.s (Value.int IntKind.u8 n)))) this
theorem zjV (P:Program) (t:TypeId) (x y:BitVec 32):zt P .add t (.p (zN x)) (.p (zN y))=some (.p (zN (x+y))):=by
 simp only [zt,zN,yr,zr,zaj,Bool.false_eq_true,if_false,if_true,Option.map_some]
 have h:((x.toNat:Int)+y.toNat) % 4294967296=((x+y).toNat:Int):=by
  rw [BitVec.toNat_add];simp only [Nat.reducePow];omega
 rw [IntKind.wrap_u32',h]
theorem zjW (P:Program) (t:TypeId) (x y:BitVec 32):zt P .sub t (.p (zN x)) (.p (zN y))=some (.p (zN (x - y))):=by
 simp only [zt,zN,yr,zr,zaj,Bool.false_eq_true,if_false,if_true,Option.map_some]
 have h:((x.toNat:Int) - y.toNat) % 4294967296=((x - y).toNat:Int):=by
  rw [BitVec.toNat_sub];have:=x.isLt;have:=y.isLt;simp only [Nat.reducePow] at *;omega
 rw [IntKind.wrap_u32',h]
theorem zjX (P:Program) (t:TypeId) (x y:BitVec 32):zt P .mul t (.p (zN x)) (.p (zN y))=some (.p (zN (x*y))):=by
 simp only [zt,zN,yr,zr,zaj,Bool.false_eq_true,if_false,if_true,Option.map_some]
 have h:((x.toNat:Int)*y.toNat) % 4294967296=((x*y).toNat:Int):=by
  rw [BitVec.toNat_mul,Int.natCast_emod,Int.natCast_mul];rfl
 rw [IntKind.wrap_u32',h]
theorem zjY (P:Program) (t:TypeId) (x y:BitVec 32):zt P .and t (.p (zN x)) (.p (zN y))=some (.p (zN (x &&& y))):=by
 simp only [zt,zN,yr,zr,zaj,Bool.false_eq_true,if_false,if_true,Option.map_some]
 have h:IntKind.u32.wrap (((x &&& y).toNat:Nat):Int)=(((x &&& y).toNat:Nat):Int):=by
  rw [IntKind.wrap_u32'];have:=(x &&& y).isLt;simp only [Nat.reducePow] at this;omega
 have h1:BitVec.ofInt IntKind.u32.bits (x.toNat:Int)=x:=yG x
 have h2:BitVec.ofInt IntKind.u32.bits (y.toNat:Int)=y:=yG y
 rw [h1,h2]
 exact congrArg (fun n=>some (AV.p (PV.s (Value.int IntKind.u32 n)))) h
theorem zmQ (P:Program) (t:TypeId) (x y:BitVec 32):zt P .or t (.p (zN x)) (.p (zN y))=some (.p (zN (x ||| y))):=by
 simp only [zt,zN,yr,zr,zaj,Bool.false_eq_true,if_false,if_true,Option.map_some]
 have h:IntKind.u32.wrap (((x ||| y).toNat:Nat):Int)=(((x ||| y).toNat:Nat):Int):=by
  rw [IntKind.wrap_u32'];have:=(x ||| y).isLt;simp only [Nat.reducePow] at this;omega
 have h1:BitVec.ofInt IntKind.u32.bits (x.toNat:Int)=x:=yG x
 have h2:BitVec.ofInt IntKind.u32.bits (y.toNat:Int)=y:=yG y
 rw [h1,h2]
 exact congrArg (fun n=>some (AV.p (PV.s (Value.int IntKind.u32 n)))) h
theorem zjZ (P:Program) (t:TypeId) (x y:BitVec 32):zt P .xor t (.p (zN x)) (.p (zN y))=some (.p (zN (x ^^^ y))):=by
 simp only [zt,zN,yr,zr,zaj,Bool.false_eq_true,if_false,if_true,Option.map_some]
 have h:IntKind.u32.wrap (((x ^^^ y).toNat:Nat):Int)=(((x ^^^ y).toNat:Nat):Int):=by
  rw [IntKind.wrap_u32'];have:=(x ^^^ y).isLt;simp only [Nat.reducePow] at this;omega
 have h1:BitVec.ofInt IntKind.u32.bits (x.toNat:Int)=x:=yG x
 have h2:BitVec.ofInt IntKind.u32.bits (y.toNat:Int)=y:=yG y
 rw [h1,h2]
 exact congrArg (fun n=>some (AV.p (PV.s (Value.int IntKind.u32 n)))) h
theorem zfj (P:Program) (t:TypeId) (x:BitVec 32) (n:Int) (hn:0≤n):zt P .shl t (.p (zN x)) (.p (i64 n))=some (.p (zN (x <<< n.toNat))):=by
 simp only [zt,zN,i64,yr,zr,zaK,if_true]
 rw [if_neg (by omega)]
 simp only [Option.map_some]
 have:=ziB x n.toNat
 rw [IntKind.wrap_u32']
 exact congrArg (fun n=>some (AV.p (PV.s (Value.int IntKind.u32 n)))) this
theorem zfk (P:Program) (t:TypeId) (x:BitVec 32) (n:Int) (hn:0≤n):zt P .shr t (.p (zN x)) (.p (i64 n))=some (.p (zN (x >>> n.toNat))):=by
 simp only [zt,zN,i64,yr,zr,zaK,if_true]
 rw [if_neg (by omega)]
 simp only [Option.map_some]
 have:=zf6 x n.toNat
 exact congrArg (fun n=>some (AV.p (PV.s (Value.int IntKind.u32 n)))) this
theorem zfl (P:Program) (t:TypeId) (x:BitVec 32) (y:BitVec 64):zt P .shl t (.p (zN x)) (.p (zw y))=some (.p (zN (x <<< y.toNat))):=by
 simp only [zt,zN,zw,yr,zr,zaK,if_true]
 rw [if_neg (by omega)]
 simp only [Option.map_some]
 rw [Int.toNat_natCast]
 have:=ziB x y.toNat
 rw [IntKind.wrap_u32']
 exact congrArg (fun n=>some (AV.p (PV.s (Value.int IntKind.u32 n)))) this
theorem zfm (P:Program) (t:TypeId) (x:BitVec 32) (y:BitVec 64):zt P .shr t (.p (zN x)) (.p (zw y))=some (.p (zN (x >>> y.toNat))):=by
 simp only [zt,zN,zw,yr,zr,zaK,if_true]
 rw [if_neg (by omega)]
 simp only [Option.map_some]
 rw [Int.toNat_natCast]
 have:=zf6 x y.toNat
 exact congrArg (fun n=>some (AV.p (PV.s (Value.int IntKind.u32 n)))) this
theorem zmR (x:BitVec 32):aUn .xor (.p (zN x))=some (.p (zN (~~~x))):=by
 have h1:BitVec.ofInt IntKind.u32.bits (x.toNat:Int)=x:=yG x
 have h2:BitVec.ofInt IntKind.u32.bits (if IntKind.u32.signed then -1 else IntKind.u32.max)=BitVec.allOnes 32:=by rfl
 simp only [aUn,zN,vUn,Option.map_some,h1,h2]
 have h:IntKind.u32.wrap (((BitVec.allOnes 32 ^^^ x).toNat:Nat):Int)=((~~~x).toNat:Int):=by
  rw [BitVec.allOnes_xor]
  rw [IntKind.wrap_u32'];have:=(~~~x).isLt;simp only [Nat.reducePow] at this;omega
 exact congrArg (fun n=>some (AV.p (PV.s (Value.int IntKind.u32 n)))) h
theorem zj0 (P:Program) (t:TypeId) (x y:BitVec 64):zt P .add t (.p (zw x)) (.p (zw y))=some (.p (zw (x+y))):=by
 simp only [zt,zw,yr,zr,zaj,Bool.false_eq_true,if_false,if_true,Option.map_some]
 have h:((x.toNat:Int)+y.toNat) % 18446744073709551616=((x+y).toNat:Int):=by
  rw [BitVec.toNat_add];simp only [Nat.reducePow];omega
 rw [IntKind.wrap_u64,h]
theorem zj1 (P:Program) (t:TypeId) (x y:BitVec 64):zt P .sub t (.p (zw x)) (.p (zw y))=some (.p (zw (x - y))):=by
 simp only [zt,zw,yr,zr,zaj,Bool.false_eq_true,if_false,if_true,Option.map_some]
 have h:((x.toNat:Int) - y.toNat) % 18446744073709551616=((x - y).toNat:Int):=by
  rw [BitVec.toNat_sub];have:=x.isLt;have:=y.isLt;simp only [Nat.reducePow] at *;omega
 rw [IntKind.wrap_u64,h]
theorem zj2 (P:Program) (t:TypeId) (x y:BitVec 64):zt P .mul t (.p (zw x)) (.p (zw y))=some (.p (zw (x*y))):=by
 simp only [zt,zw,yr,zr,zaj,Bool.false_eq_true,if_false,if_true,Option.map_some]
 have h:((x.toNat:Int)*y.toNat) % 18446744073709551616=((x*y).toNat:Int):=by
  rw [BitVec.toNat_mul,Int.natCast_emod,Int.natCast_mul];rfl
 rw [IntKind.wrap_u64,h]
theorem zj3 (P:Program) (t:TypeId) (x y:BitVec 64):zt P .and t (.p (zw x)) (.p (zw y))=some (.p (zw (x &&& y))):=by
 simp only [zt,zw,yr,zr,zaj,Bool.false_eq_true,if_false,if_true,Option.map_some]
 have h:IntKind.u64.wrap (((x &&& y).toNat:Nat):Int)=(((x &&& y).toNat:Nat):Int):=by
  rw [IntKind.wrap_u64];have:=(x &&& y).isLt;simp only [Nat.reducePow] at this;omega
 have h1:BitVec.ofInt IntKind.u64.bits (x.toNat:Int)=x:=yG x
 have h2:BitVec.ofInt IntKind.u64.bits (y.toNat:Int)=y:=yG y
 rw [h1,h2]
 exact congrArg (fun n=>some (AV.p (PV.s (Value.int IntKind.u64 n)))) h
theorem zmS (P:Program) (t:TypeId) (x y:BitVec 64):zt P .or t (.p (zw x)) (.p (zw y))=some (.p (zw (x ||| y))):=by
 simp only [zt,zw,yr,zr,zaj,Bool.false_eq_true,if_false,if_true,Option.map_some]
 have h:IntKind.u64.wrap (((x ||| y).toNat:Nat):Int)=(((x ||| y).toNat:Nat):Int):=by
  rw [IntKind.wrap_u64];have:=(x ||| y).isLt;simp only [Nat.reducePow] at this;omega
 have h1:BitVec.ofInt IntKind.u64.bits (x.toNat:Int)=x:=yG x
 have h2:BitVec.ofInt IntKind.u64.bits (y.toNat:Int)=y:=yG y
 rw [h1,h2]
 exact congrArg (fun n=>some (AV.p (PV.s (Value.int IntKind.u64 n)))) h
theorem zj4 (P:Program) (t:TypeId) (x y:BitVec 64):zt P .lss t (.p (zw x)) (.p (zw y))=some (.p (bo (decide (x < y)))):=by
 simp only [zt,zw,yr,zr,zaj,Bool.false_eq_true,if_false,if_true,Option.map_some]
 simp only [bo,BitVec.lt_def,BitVec.le_def,gt_iff_lt,ge_iff_le,Int.ofNat_lt,Int.ofNat_le]
theorem zj5 (P:Program) (t:TypeId) (x y:BitVec 64) (hy:y≠0#64):zt P .rem t (.p (zw x)) (.p (zw y))=some (.p (zw (x % y))):=by
 simp only [zt,zw,yr,zr,zaj,Bool.false_eq_true,if_false,if_true,Option.map_some]
 have hn : ¬ ((y.toNat:Int)=0):=fun h=>hy (BitVec.eq_of_toNat_eq (by simpa using h))
 rw [if_neg hn]
 have h:((x.toNat:Int).tmod y.toNat)=((x % y).toNat:Int):=by
  rw [Int.tmod_eq_emod_of_nonneg (by omega),BitVec.toNat_umod,Int.natCast_emod]
 rw [h,Option.map_some]
theorem zfn (P:Program) (t:TypeId) (x:BitVec 64) (n:Int) (hn:0≤n):zt P .shl t (.p (zw x)) (.p (i64 n))=some (.p (zw (x <<< n.toNat))):=by
 simp only [zt,zw,i64,yr,zr,zaK,if_true]
 rw [if_neg (by omega)]
 simp only [Option.map_some]
 have:=ziB x n.toNat
 rw [IntKind.wrap_u64]
 exact congrArg (fun n=>some (AV.p (PV.s (Value.int IntKind.u64 n)))) this
theorem zfo (P:Program) (t:TypeId) (x:BitVec 64) (n:Int) (hn:0≤n):zt P .shr t (.p (zw x)) (.p (i64 n))=some (.p (zw (x >>> n.toNat))):=by
 simp only [zt,zw,i64,yr,zr,zaK,if_true]
 rw [if_neg (by omega)]
 simp only [Option.map_some]
 have:=zf6 x n.toNat
 exact congrArg (fun n=>some (AV.p (PV.s (Value.int IntKind.u64 n)))) this
theorem zfp (P:Program) (t:TypeId) (x:BitVec 64) (y:BitVec 64):zt P .shl t (.p (zw x)) (.p (zw y))=some (.p (zw (x <<< y.toNat))):=by
 simp only [zt,zw,zw,yr,zr,zaK,if_true]
 rw [if_neg (by omega)]
 simp only [Option.map_some]
 rw [Int.toNat_natCast]
 have:=ziB x y.toNat
 rw [IntKind.wrap_u64]
 exact congrArg (fun n=>some (AV.p (PV.s (Value.int IntKind.u64 n)))) this
theorem zfq (P:Program) (t:TypeId) (x:BitVec 64) (y:BitVec 64):zt P .shr t (.p (zw x)) (.p (zw y))=some (.p (zw (x >>> y.toNat))):=by
 simp only [zt,zw,zw,yr,zr,zaK,if_true]
 rw [if_neg (by omega)]
 simp only [Option.map_some]
 rw [Int.toNat_natCast]
 have:=zf6 x y.toNat
 exact congrArg (fun n=>some (AV.p (PV.s (Value.int IntKind.u64 n)))) this
theorem zj6 (P:Program) (t:TypeId) (x y:Int):zt P .add t (.p (i64 x)) (.p (i64 y))=some (.p (i64 (IntKind.i64.wrap (x+y)))):=by simp only [zt,i64,yr,zr,zaj,Bool.false_eq_true,if_false,if_true,Option.map_some,bo,gt_iff_lt,ge_iff_le]
theorem zj7 (P:Program) (t:TypeId) (x y:Int):zt P .sub t (.p (i64 x)) (.p (i64 y))=some (.p (i64 (IntKind.i64.wrap (x - y)))):=by simp only [zt,i64,yr,zr,zaj,Bool.false_eq_true,if_false,if_true,Option.map_some,bo,gt_iff_lt,ge_iff_le]
theorem zj8 (P:Program) (t:TypeId) (x y:Int):zt P .mul t (.p (i64 x)) (.p (i64 y))=some (.p (i64 (IntKind.i64.wrap (x*y)))):=by simp only [zt,i64,yr,zr,zaj,Bool.false_eq_true,if_false,if_true,Option.map_some,bo,gt_iff_lt,ge_iff_le]
theorem zj9 (P:Program) (t:TypeId) (x y:Int):zt P .eql t (.p (i64 x)) (.p (i64 y))=some (.p (bo (x == y))):=by simp only [zt,i64,yr,zr,zaj,Bool.false_eq_true,if_false,if_true,Option.map_some,bo,gt_iff_lt,ge_iff_le]
theorem zka (P:Program) (t:TypeId) (x y:Int):zt P .neq t (.p (i64 x)) (.p (i64 y))=some (.p (bo (x != y))):=by simp only [zt,i64,yr,zr,zaj,Bool.false_eq_true,if_false,if_true,Option.map_some,bo,gt_iff_lt,ge_iff_le]
theorem zkb (P:Program) (t:TypeId) (x y:Int):zt P .lss t (.p (i64 x)) (.p (i64 y))=some (.p (bo (decide (x < y)))):=by simp only [zt,i64,yr,zr,zaj,Bool.false_eq_true,if_false,if_true,Option.map_some,bo,gt_iff_lt,ge_iff_le]
theorem zkc (P:Program) (t:TypeId) (x y:Int):zt P .leq t (.p (i64 x)) (.p (i64 y))=some (.p (bo (decide (x≤y)))):=by simp only [zt,i64,yr,zr,zaj,Bool.false_eq_true,if_false,if_true,Option.map_some,bo,gt_iff_lt,ge_iff_le]
theorem zkd (P:Program) (t:TypeId) (x y:Int):zt P .gtr t (.p (i64 x)) (.p (i64 y))=some (.p (bo (decide (y < x)))):=by simp only [zt,i64,yr,zr,zaj,Bool.false_eq_true,if_false,if_true,Option.map_some,bo,gt_iff_lt,ge_iff_le]
theorem zke (P:Program) (t:TypeId) (x y:Int):zt P .geq t (.p (i64 x)) (.p (i64 y))=some (.p (bo (decide (y≤x)))):=by simp only [zt,i64,yr,zr,zaj,Bool.false_eq_true,if_false,if_true,Option.map_some,bo,gt_iff_lt,ge_iff_le]
theorem zkf (P:Program) (t:TypeId) (x y:Int) (hx:0≤x) (hy:0 < y) (hb:x≤9223372036854775807):zt P .quo t (.p (i64 x)) (.p (i64 y))=some (.p (i64 (x / y))):=by
 simp only [zt,i64,yr,zr,zaj,Bool.false_eq_true,if_false,if_true]
 rw [if_neg (by omega),Int.tdiv_eq_ediv_of_nonneg hx]
 have h1:x / y≤x:=Int.ediv_le_self _ hx
 have h2:0≤x / y:=Int.ediv_nonneg hx (by omega)
 rw [zea (by omega) (by omega),Option.map_some]
theorem zkg (P:Program) (t:TypeId) (x y:Int) (hx:0≤x) (hy:0 < y):zt P .rem t (.p (i64 x)) (.p (i64 y))=some (.p (i64 (x % y))):=by
 simp only [zt,i64,yr,zr,zaj,Bool.false_eq_true,if_false,if_true]
 rw [if_neg (by omega),Int.tmod_eq_emod_of_nonneg hx,Option.map_some]
theorem zkh (P:Program) (t:TypeId) (x y:Int) (hy:0≤y) (h63:y≤63):zt P .shl t (.p (i64 x)) (.p (i64 y))=some (.p (i64 (IntKind.i64.wrap (x*2 ^ y.toNat)))):=by
 have hm:min y.toNat IntKind.i64.bits=y.toNat:=by simp only [IntKind.bits];omega
 simp only [zt,i64,yr,zr,zaK,if_true,hm]
 rw [if_neg (by omega)];rfl
theorem zmT (x:Int):aUn .neg (.p (i64 x))=some (.p (i64 (IntKind.i64.wrap (0 - x)))):=rfl
theorem zqx (b:Bool):aUn .not (.p (bo b))=some (.p (bo (!b))):=rfl
theorem zki (P:Program) (t:TypeId) (x y:ByteArray):zt P .eql t (.p (str x)) (.p (str y))=some (.p (bo (x.toList == y.toList))):=rfl
theorem zkj (P:Program) (t:TypeId) (x y:ByteArray):zt P .neq t (.p (str x)) (.p (str y))=some (.p (bo (!(x.toList == y.toList)))):=rfl
theorem zmU (P:Program) (t:TypeId) (x y:Bool) (h:isBool P t=true):zt P .eql t (.p (bo x)) (.p (bo y))=some (.p (bo (x == y))):=by simp only [zt,bo,yr,h,if_true,Option.map_some]

def zau (P:Program) (t:TypeId):Bool:=match P.underlying t with | some (.int _)=>true | _=>false
theorem zac {P:Program} {t:TypeId} (h:zau P t=true) : ∃ k,P.underlying t=some (.int k):=by
 unfold zau at h
 split at h
 · rename_i k hk;exact⟨k,hk⟩
 · cases h

theorem zkk (P:Program) (H:Hp) (s d:TypeId) (x:BitVec 8) (hs:zau P s=true) (hd:P.underlying d=some (.int .u32)):yN P H s d (.p (b8 x))=some (.p (zN (x.setWidth 32))):=by
 obtain⟨k,hk⟩:=zac hs
 have h:((x.toNat:Int) % 4294967296)=((x.setWidth 32).toNat:Int):=by rw [BitVec.toNat_setWidth];simp only [Nat.reducePow];omega
 simp only [yN,hk,hd,Option.isSome_some,if_true,b8,zcb,Option.map_some,IntKind.wrap_u32',h,zN]
theorem zkl (P:Program) (H:Hp) (s d:TypeId) (x:BitVec 8) (hs:zau P s=true) (hd:P.underlying d=some (.int .u64)):yN P H s d (.p (b8 x))=some (.p (zw (x.setWidth 64))):=by
 obtain⟨k,hk⟩:=zac hs
 have h:((x.toNat:Int) % 18446744073709551616)=((x.setWidth 64).toNat:Int):=by rw [BitVec.toNat_setWidth];simp only [Nat.reducePow];omega
 simp only [yN,hk,hd,Option.isSome_some,if_true,b8,zcb,Option.map_some,IntKind.wrap_u64,h,zw]
theorem zkm (P:Program) (H:Hp) (s d:TypeId) (x:BitVec 8) (hs:zau P s=true) (hd:P.underlying d=some (.int .i64)):yN P H s d (.p (b8 x))=some (.p (i64 (IntKind.i64.wrap x.toNat))):=by
 obtain⟨k,hk⟩:=zac hs
 simp only [yN,hk,hd,Option.isSome_some,if_true,b8,zcb,Option.map_some,i64]
theorem zkn (P:Program) (H:Hp) (s d:TypeId) (x:BitVec 32) (hs:zau P s=true) (hd:P.underlying d=some (.int .u8)):yN P H s d (.p (zN x))=some (.p (b8 (x.setWidth 8))):=by
 obtain⟨k,hk⟩:=zac hs
 have h:((x.toNat:Int) % 256)=((x.setWidth 8).toNat:Int):=by rw [BitVec.toNat_setWidth];simp only [Nat.reducePow];omega
 simp only [yN,hk,hd,Option.isSome_some,if_true,zN,zcb,Option.map_some,IntKind.wrap_u8,h,b8]
theorem zko (P:Program) (H:Hp) (s d:TypeId) (x:BitVec 64) (hs:zau P s=true) (hd:P.underlying d=some (.int .u8)):yN P H s d (.p (zw x))=some (.p (b8 (x.setWidth 8))):=by
 obtain⟨k,hk⟩:=zac hs
 have h:((x.toNat:Int) % 256)=((x.setWidth 8).toNat:Int):=by rw [BitVec.toNat_setWidth];simp only [Nat.reducePow];omega
 simp only [yN,hk,hd,Option.isSome_some,if_true,zw,zcb,Option.map_some,IntKind.wrap_u8,h,b8]
theorem ziC (P:Program) (H:Hp) (s d:TypeId) (x:BitVec 64) (hs:zau P s=true) (hd:P.underlying d=some (.int .i64)):yN P H s d (.p (zw x))=some (.p (i64 (IntKind.i64.wrap x.toNat))):=by
 obtain⟨k,hk⟩:=zac hs
 simp only [yN,hk,hd,Option.isSome_some,if_true,zw,zcb,Option.map_some,i64]
theorem zkp (P:Program) (H:Hp) (s d:TypeId) (x:Int) (hs:zau P s=true) (hd:P.underlying d=some (.int .u8)):yN P H s d (.p (i64 x))=some (.p (b8 (BitVec.ofInt 8 x))):=by
 obtain⟨k,hk⟩:=zac hs
 have h:(x % 256)=((BitVec.ofInt 8 x).toNat:Int):=by rw [BitVec.toNat_ofInt];simp only [Nat.reducePow,Int.cast_ofNat_Int];omega
 simp only [yN,hk,hd,Option.isSome_some,if_true,i64,zcb,Option.map_some,IntKind.wrap_u8,h,b8]
theorem ziD (P:Program) (H:Hp) (s d:TypeId) (x:Int) (hs:zau P s=true) (hd:P.underlying d=some (.int .u64)):yN P H s d (.p (i64 x))=some (.p (zw (BitVec.ofInt 64 x))):=by
 obtain⟨k,hk⟩:=zac hs
 have h:(x % 18446744073709551616)=((BitVec.ofInt 64 x).toNat:Int):=by rw [BitVec.toNat_ofInt];simp only [Nat.reducePow,Int.cast_ofNat_Int];omega
 simp only [yN,hk,hd,Option.isSome_some,if_true,i64,zcb,Option.map_some,IntKind.wrap_u64,h,zw]
theorem zf9 (x y:Int):zbV false (.p (i64 x)) (.p (i64 y))=some (.p (i64 (min x y))):=rfl
theorem zga (x y:Int):zbV true (.p (i64 x)) (.p (i64 y))=some (.p (i64 (max x y))):=rfl

end Go.AL

/-
  The rules by which simp runs a region on abstract values.
  Conditions: none;nothing here speaks of one program.
-/
namespace Go.AL
open Go

def runT (C:Cx) (ops:Array Oper) (r:SRes) (dst:Option Nat) (rest:List Oper) (k:List Item) (env:Env) (H:Hp) (R:AV → Hp → Prop):Prop :=
 match r with
 | .val x H'=>zy C.nt dst=true∧zcr C ops rest k (env.put dst x) H' R
 | .unit H'=>dst=none∧zcr C ops rest k (env.put dst .top) H' R
 | .call f args=>zy C.nt dst=true∧CallK C ops f (zR C.raw f args) dst rest k env H R
 | .yield b args=>zy C.nt dst=true∧YieldK C ops b (args.map AV.weak) dst rest k env H R
 | .fail=>False

section text
variable {C:Cx} {ops:Array Oper} {op:Op} {dst:Option Nat} {rest:List Oper} {k:List Item} {env:Env} {H H':Hp} {R:AV → Hp → Prop} {ty:TypeId} {pos:String} {after:Array Edge} {x:AV} {f:FuncId} {args:List AV} {j:Nat} {want:Bool}

theorem zsG:zcr C ops [] k env H R=ARun C k env H R:=rfl
theorem zqy:zcr C ops (⟨dst,op,ty,pos,after,none⟩ :: rest) k env H R=runT C ops (zj C.P C.G op ty env H) dst rest k env H R:=by
 unfold zcr runT zwY
 simp only [zx]
 try (cases zj C.P C.G op ty env H<;>rfl)
def guarded (C:Cx) (ops:Array Oper) (w:Option Bool) (op:Op) (ty:TypeId) (dst:Option Nat) (rest:List Oper) (k:List Item) (env:Env) (H:Hp) (R:AV → Hp → Prop):Prop :=
 match w with
 | some true=>runT C ops (zj C.P C.G op ty env H) dst rest k env H R
 | some false=>zy C.nt dst=true∧zcr C ops rest k (env.put dst (.tup [])) H R
 | none=>False
theorem zqz:zcr C ops (⟨dst,op,ty,pos,after,some (j,want)⟩ :: rest) k env H R=guarded C ops (zx C.nt ops (some (j,want)) env) op ty dst rest k env H R:=by
 conv=>lhs;unfold zcr
 unfold guarded zwY
 simp only
 cases zx C.nt ops (some (j,want)) env with
 | none=>rfl
 | some t =>
  cases t
  · rfl
  · simp only [runT];try (cases zj C.P C.G op ty env H<;>rfl)
theorem ziE:guarded C ops (some true) op ty dst rest k env H R=runT C ops (zj C.P C.G op ty env H) dst rest k env H R:=rfl
theorem zhj:guarded C ops (some false) op ty dst rest k env H R=(zy C.nt dst=true∧zcr C ops rest k (env.put dst (.tup [])) H R):=rfl
theorem zsH:runT C ops (.val x H') dst rest k env H R=(zy C.nt dst=true∧zcr C ops rest k (env.put dst x) H' R):=rfl
theorem zqA:runT C ops (.unit H') none rest k env H R=zcr C ops rest k env H' R:=by simp [runT,Env.put]
theorem zqB:runT C ops (.call f args) dst rest k env H R=(zy C.nt dst=true∧CallK C ops f (zR C.raw f args) dst rest k env H R):=rfl
theorem zmV {b:Nat}:runT C ops (.yield b args) dst rest k env H R=(zy C.nt dst=true∧YieldK C ops b (args.map AV.weak) dst rest k env H R):=rfl
theorem zmW {nt d:Nat}:(zy nt (some d)=true)=(d < nt):=by simp [zy]
theorem put_some {d i:Nat}:Env.put env (some d) x i=if i=d then x else env i:=rfl
theorem zkq {i:Nat}:Env.put env none x i=env i:=rfl
end text

def guardOf (nt:Nat) (d:Option Nat) (env:Env) (want:Bool):Option Bool :=
 match d with
 | some d=>if d < nt then (match env d with | .p (.s (.bool t))=>some (t == want) | .tup []=>some false | _=>none) else none
 | none=>none
theorem ziF {nt:Nat} {ops:Array Oper} {j:Nat} {want:Bool} {env:Env}:zx nt ops (some (j,want)) env=guardOf nt ((ops[j]?).bind (·.dst)) env want:=rfl
def zmX (x:AV) (want:Bool):Option Bool:=match x with | .p (.s (.bool t))=>some (t == want) | .tup []=>some false | _=>none
theorem ziG {nt d:Nat} {env:Env} {want:Bool}:guardOf nt (some d) env want=if d < nt then zmX (env d) want else none:=rfl
theorem zqC {t want:Bool}:zmX (.p (bo t)) want=some (t == want):=rfl
theorem zmY {want:Bool}:zmX (.tup []) want=some false:=rfl

def zc0 (C:Cx) (ops:Array Oper) (q:Nat → Bool) (n:Nat) (l:List Oper) (k:List Item) (env:Env) (H:Hp) (R:AV → Hp → Prop):Prop:=zf5 C ops q (fun env' H'=>ARun C k env' H' R) n l env H

section draw
variable {C:Cx} {ops:Array Oper} {q:Nat → Bool} {quiet:Bool} {n:Nat} {op:Op} {dst:Option Nat} {rest:List Oper} {k:List Item} {env:Env} {H H':Hp} {R:AV → Hp → Prop} {ty:TypeId} {pos:String} {after:Array Edge} {x:AV} {f:FuncId} {args:List AV} {j:Nat} {want:Bool}

theorem zsI {o:Oper} (hn:ops[n]? = some o) (hg:zx C.nt ops o.guard env=some true) {x:AV} {H':Hp} (hr:zj C.P C.G o.op o.type env H = .val x H') (hd:zy C.nt o.dst=true) (hq:q n=true → H'=H)
 (h:zc0 C ops q (n+1) rest k (env.put o.dst x) H' R):zc0 C ops q n (o :: rest) k env H R:=by
 unfold zc0 zf5 opA
 simp only [hn,hg]
 cases hqn:q n with
 | true =>
  simp only [if_true]
  have:=hq hqn;subst this
  exact⟨x,by unfold aOp1;rw [hr];exact⟨hd,rfl,rfl⟩,h⟩
 | false =>
  simp only [Bool.false_eq_true,if_false]
  unfold aOp1;rw [hr]
  exact⟨hd,h⟩
theorem zqD {o:Oper} (hn:ops[n]? = some o) (hg:zx C.nt ops o.guard env=some true) {H':Hp} (hr:zj C.P C.G o.op o.type env H = .unit H') (hd:o.dst=none) (hq:q n=false)
 (h:zc0 C ops q (n+1) rest k env H' R):zc0 C ops q n (o :: rest) k env H R:=by
 unfold zc0 zf5 opA
 simp only [hn,hg,hq,Bool.false_eq_true,if_false]
 unfold aOp1;rw [hr]
 exact⟨hd,by rw [hd];exact h⟩
theorem zqE {o:Oper} (hn:ops[n]? = some o) (hg:zx C.nt ops o.guard env=some true) {f:FuncId} {args:List AV} (hr:zj C.P C.G o.op o.type env H = .call f args) (hd:zy C.nt o.dst=true)
 (h:if q n then ∃ x,ACall C.P C.G f (zR C.raw f args) H (fun x' H'=>x'=x∧H'=H)∧zc0 C ops q (n+1) rest k (env.put o.dst x) H R
  else ACall C.P C.G f (zR C.raw f args) H (fun x H'=>zc0 C ops q (n+1) rest k (env.put o.dst x) H' R)):zc0 C ops q n (o :: rest) k env H R:=by
 unfold zc0 zf5 opA
 simp only [hn,hg]
 cases hqn:q n with
 | true =>
  rw [hqn] at h
  simp only [if_true] at h ⊢
  obtain⟨x,h2,h3⟩:=h
  exact⟨x,by unfold aOp1;rw [hr];exact⟨hd,h2⟩,h3⟩
 | false =>
  rw [hqn] at h
  simp only [Bool.false_eq_true,if_false] at h ⊢
  unfold aOp1;rw [hr]
  exact⟨hd,h⟩

theorem zmZ {o:Oper} (hn:ops[n]? = some o) (hg:zx C.nt ops o.guard env=some true) {b:Nat} {args:List AV} (hr:zj C.P C.G o.op o.type env H = .yield b args) (hd:zy C.nt o.dst=true) (hq:q n=false)
 (h:AYield C.P C.G b (args.map AV.weak) H (fun x H'=>zc0 C ops q (n+1) rest k (env.put o.dst x) H' R)):zc0 C ops q n (o :: rest) k env H R:=by
 unfold zc0 zf5 opA
 simp only [hn,hg,hq,Bool.false_eq_true,if_false]
 unfold aOp1;rw [hr]
 exact⟨hd,h⟩
theorem zqF {o:Oper} (hn:ops[n]? = some o) (hg:zx C.nt ops o.guard env=some false) (hd:zy C.nt o.dst=true) (h:zc0 C ops q (n+1) rest k (env.put o.dst (.tup [])) H R):zc0 C ops q n (o :: rest) k env H R:=by
 unfold zc0 zf5 opA
 simp only [hn,hg]
 exact⟨hd,h⟩

def yQ (C:Cx) (ops:Array Oper) (q:Nat → Bool):Nat → List Oper → List Item → Env → Hp → (AV → Hp → Prop) → Prop
 | _,[],k,env,H,R=>ARun C k env H R
 | n,o :: rest,k,env,H,R =>
  match zx C.nt ops o.guard env with
  | some true=>(match zj C.P C.G o.op o.type env H with
   | .val x H'=>zy C.nt o.dst=true∧(q n=true → H'=H)∧yQ C ops q (n+1) rest k (env.put o.dst x) H' R
   | .unit H'=>o.dst=none∧q n=false∧yQ C ops q (n+1) rest k env H' R
   | .call f args=>zy C.nt o.dst=true∧if q n then ∃ x,ACall C.P C.G f (zR C.raw f args) H (fun x' H'=>x'=x∧H'=H)∧yQ C ops q (n+1) rest k (env.put o.dst x) H R
    else ACall C.P C.G f (zR C.raw f args) H (fun x H'=>yQ C ops q (n+1) rest k (env.put o.dst x) H' R)
   | .yield b args=>zy C.nt o.dst=true∧q n=false∧AYield C.P C.G b (args.map AV.weak) H (fun x H'=>yQ C ops q (n+1) rest k (env.put o.dst x) H' R)
   | .fail=>False)
  | some false=>zy C.nt o.dst=true∧yQ C ops q (n+1) rest k (env.put o.dst (.tup [])) H R
  | none=>False

theorem yn : ∀ {l:List Oper} {n:Nat} {env:Env} {H:Hp},(∀ j,l[j]? = ops[n+j]?) → yQ C ops q n l k env H R → zc0 C ops q n l k env H R
 | [],n,env,H,_,h=>h
 | o :: rest,n,env,H,hl,h=>by
  have h0:ops[n]? = some o:=by simpa using (hl 0).symm
  have hl' : ∀ j,rest[j]? = ops[n+1+j]? := fun j=>by have:=hl (j+1);simpa [Nat.add_assoc,Nat.add_comm 1 j] using this
  unfold yQ at h
  split at h
  · rename_i hw
    cases hr:zj C.P C.G o.op o.type env H with
    | val x H'=>rw [hr] at h;exact zsI h0 hw hr h.1 h.2.1 (yn hl' h.2.2)
    | unit H'=>rw [hr] at h;exact zqD h0 hw hr h.1 h.2.1 (yn hl' h.2.2)
    | call f args =>
     rw [hr] at h
     refine zqE h0 hw hr h.1 ?_
     have h2:=h.2
     split at h2
     · rename_i hq;rw [if_pos hq];obtain⟨x,a,b⟩:=h2;exact⟨x,a,yn hl' b⟩
     · rename_i hq;rw [if_neg hq];exact h2.mono fun x H' b=>yn hl' b
    | yield b args =>
     rw [hr] at h
     exact zmZ h0 hw hr h.1 h.2.1 (h.2.2.mono fun x H' b=>yn hl' b)
    | fail=>rw [hr] at h;exact h.elim
  · rename_i hw;exact zqF h0 hw h.1 (yn hl' h.2)
  · exact h.elim

def CallD (C:Cx) (ops:Array Oper) (q:Nat → Bool) (quiet:Bool) (f:FuncId) (args:List AV) (dst:Option Nat) (n:Nat) (rest:List Oper) (k:List Item) (env:Env) (H:Hp) (R:AV → Hp → Prop):Prop :=
 if quiet then ∃ x,ACall C.P C.G f args H (fun x' H'=>x'=x∧H'=H)∧yQ C ops q n rest k (env.put dst x) H R
 else ACall C.P C.G f args H (fun x H'=>yQ C ops q n rest k (env.put dst x) H' R)

def YieldD (C:Cx) (ops:Array Oper) (q:Nat → Bool) (b:Nat) (args:List AV) (dst:Option Nat) (n:Nat) (rest:List Oper) (k:List Item) (env:Env) (H:Hp) (R:AV → Hp → Prop):Prop :=
 AYield C.P C.G b args H (fun x H'=>yQ C ops q n rest k (env.put dst x) H' R)

def zfr (C:Cx) (ops:Array Oper) (q:Nat → Bool) (r:SRes) (n:Nat) (dst:Option Nat) (rest:List Oper) (k:List Item) (env:Env) (H:Hp) (R:AV → Hp → Prop):Prop :=
 match r with
 | .val x H'=>zy C.nt dst=true∧(q n=true → H'=H)∧yQ C ops q (n+1) rest k (env.put dst x) H' R
 | .unit H'=>dst=none∧q n=false∧yQ C ops q (n+1) rest k env H' R
 | .call f args=>zy C.nt dst=true∧CallD C ops q (q n) f (zR C.raw f args) dst (n+1) rest k env H R
 | .yield b args=>zy C.nt dst=true∧q n=false∧YieldD C ops q b (args.map AV.weak) dst (n+1) rest k env H R
 | .fail=>False

theorem zsJ:yQ C ops q n [] k env H R=ARun C k env H R:=rfl
theorem zqG:yQ C ops q n (⟨dst,op,ty,pos,after,none⟩ :: rest) k env H R=zfr C ops q (zj C.P C.G op ty env H) n dst rest k env H R:=by
 conv=>lhs;unfold yQ
 simp only [zx]
 unfold zfr CallD YieldD
 cases zj C.P C.G op ty env H<;>rfl
def zbC (C:Cx) (ops:Array Oper) (q:Nat → Bool) (w:Option Bool) (op:Op) (ty:TypeId) (n:Nat) (dst:Option Nat) (rest:List Oper) (k:List Item) (env:Env) (H:Hp) (R:AV → Hp → Prop):Prop :=
 match w with
 | some true=>zfr C ops q (zj C.P C.G op ty env H) n dst rest k env H R
 | some false=>zy C.nt dst=true∧yQ C ops q (n+1) rest k (env.put dst (.tup [])) H R
 | none=>False
theorem zqH:yQ C ops q n (⟨dst,op,ty,pos,after,some (j,want)⟩ :: rest) k env H R=zbC C ops q (zx C.nt ops (some (j,want)) env) op ty n dst rest k env H R:=by
 conv=>lhs;unfold yQ
 unfold zbC zfr CallD YieldD
 cases zx C.nt ops (some (j,want)) env with
 | none=>rfl
 | some b=>cases b<;>cases zj C.P C.G op ty env H<;>rfl
theorem zhk:zbC C ops q (some true) op ty n dst rest k env H R=zfr C ops q (zj C.P C.G op ty env H) n dst rest k env H R:=rfl
theorem zgb:zbC C ops q (some false) op ty n dst rest k env H R=(zy C.nt dst=true∧yQ C ops q (n+1) rest k (env.put dst (.tup [])) H R):=rfl
theorem zsK:zfr C ops q (.val x H') n dst rest k env H R=(zy C.nt dst=true∧(q n=true → H'=H)∧yQ C ops q (n+1) rest k (env.put dst x) H' R):=rfl
theorem zqI:zfr C ops q (.val x H) n dst rest k env H R=(zy C.nt dst=true∧yQ C ops q (n+1) rest k (env.put dst x) H R):=by simp [zfr]
theorem zqJ:zfr C ops q (.unit H') n none rest k env H R=(q n=false∧yQ C ops q (n+1) rest k env H' R):=by simp [zfr]
theorem zqK:zfr C ops q (.call f args) n dst rest k env H R=(zy C.nt dst=true∧CallD C ops q (q n) f (zR C.raw f args) dst (n+1) rest k env H R):=rfl

theorem zm0 {b:Nat}:zfr C ops q (.yield b args) n dst rest k env H R=(zy C.nt dst=true∧q n=false∧YieldD C ops q b (args.map AV.weak) dst (n+1) rest k env H R):=rfl

theorem YieldD.of {b:Nat} {args':List AV} {r:AV} {H':Hp} (h : ∀ R:AV → Hp → Prop,R r H' → AYield C.P C.G b args' H R) (hk:yQ C ops q n rest k (env.put dst r) H' R):YieldD C ops q b args' dst n rest k env H R :=
 h _ hk

theorem CallD.still {args':List AV} {r:AV} (h : ∀ R:AV → Hp → Prop,R r H → ACall C.P C.G f args' H R) (hk:yQ C ops q n rest k (env.put dst r) H R):CallD C ops q true f args' dst n rest k env H R:=by
 unfold CallD
 rw [if_pos rfl]
 exact⟨r,h _ ⟨rfl,rfl⟩,hk⟩
theorem CallD.moves {args':List AV} {S:AV → Hp → Prop} (h:ACall C.P C.G f args' H S) (hk : ∀ r H',S r H' → yQ C ops q n rest k (env.put dst r) H' R):CallD C ops q false f args' dst n rest k env H R:=by
 unfold CallD
 rw [if_neg (by simp)]
 exact h.mono hk

def zaO (loud:List Nat) (n:Nat):Bool := !loud.contains n

theorem ARun.open {id:Nat} {l:List Oper} (loud:List Nat) (hm:C.P.follows .mixedOrders=true) (hB:zjT (zaO loud) l.toArray l.length 0 (Array.replicate l.length false)=true)
 (h:yQ C l.toArray (zaO loud) 0 l k env H R):ARun C (.code (.region id l.toArray true) :: k) env H R :=
 .draw (zaO loud) hm hB (yn (by simp) h)
end draw

theorem zm1 {n:Nat}:zaO [] n=true:=rfl
theorem zkr {m n:Nat} {l:List Nat}:zaO (m :: l) n=(!(n == m) && zaO l n):=by
 unfold zaO
 rw [List.contains_cons]
 cases (n == m)<;>simp

section branch
variable {C:Cx} {k:List Item} {env:Env} {H:Hp} {R:AV → Hp → Prop} {x y:Code} {t:Nat}
theorem ARun.ifT (hc:env t = .p (bo true)) (h:ARun C (.code x :: k) env H R):ARun C (.code (.cond (.tmp t) x y) :: k) env H R:=ARun.cond (t:=true) hc h
theorem ARun.ifF (hc:env t = .p (bo false)) (h:ARun C (.code y :: k) env H R):ARun C (.code (.cond (.tmp t) x y) :: k) env H R:=ARun.cond (t:=false) hc h
theorem ARun.ifB {b:Bool} (hc:env t = .p (bo b)) (h1:b=true → ARun C (.code x :: k) env H R) (h2:b=false → ARun C (.code y :: k) env H R):ARun C (.code (.cond (.tmp t) x y) :: k) env H R:=by
 cases b
 · exact .ifF hc (h2 rfl)
 · exact .ifT hc (h1 rfl)
end branch

theorem zsL {a b:Int} (h:a < b):decide (a < b)=true:=decide_eq_true h
theorem zsM {a b:Int} (h:b≤a):decide (a < b)=false:=decide_eq_false (by omega)
theorem zsN {a b:Int} (h:a≤b):decide (a≤b)=true:=decide_eq_true h
theorem zsO {a b:Int} (h:b < a):decide (a≤b)=false:=decide_eq_false (by omega)
theorem zB1 {a b:Int} (h:a=b):(a == b)=true:=by simp [h]
theorem zB2 {a b:Int} (h:a≠b):(a == b)=false:=by simp [h]
theorem zB3 {a b:Int} (h:a≠b):(a != b)=true:=by simp [h]
theorem zB4 {a b:Int} (h:a=b):(a != b)=false:=by simp [h]

section heaps
variable {H:Hp} {x y:AB} {b c:Nat}
theorem n_new':(H.new x).n=H.n+1:=by rw [Hp.n_new]
theorem n_set':(H.set b x).n=H.n:=by rw [Hp.n_set]
theorem zks (h:b=H.n):(H.new x).f b=some x:=by simp [Hp.f_new,h]
theorem zkt (h:b≠H.n):(H.new x).f b=H.f b:=by simp [Hp.f_new,h]
theorem zsP (h:c=b) (hb:b < H.n):(H.set b x).f c=some x:=by simp [Hp.f_set,h,hb]
theorem f_set_ne' (h:c≠b):(H.set b x).f c=H.f c:=by simp [Hp.f_set,h]
theorem zgc (h:b=H.n):(H.new x).set b y=H.new y:=by subst h;exact Hp.set_new_self H x y
theorem zgd (h:b < H.n):(H.new x).set b y=(H.set b y).new x:=Hp.set_new_old H x y b h
theorem trunc_new' (h:b≤H.n):(H.new x).trunc b=H.trunc b:=Hp.trunc_new H x b h
theorem trunc_set' (h:b≤c):(H.set c x).trunc b=H.trunc b:=Hp.trunc_set H x c b h
theorem zeb (h:b=H.n):H.trunc b=H:=by subst h;exact Hp.trunc_self H
end heaps

def zoT (P:Program) (d:Option TypeDesc) (x:AV) (ix:Option Int):Option AV :=
 match ix with
 | some n =>
  match d,x with
  | some (.array len e),x=>if 0≤n∧n.toNat < len∧0 < P.cellsOf e∧x.isAggV then zfN P e x (n.toNat*P.cellsOf e) else none
  | some .string,.p (.s (.string s))=>if 0≤n then (s[n.toNat]?).map fun b => .p (.s (.int .u8 b.toNat)) else none
  | _,_=>none
 | none=>none
theorem zqL {P:Program} {t:TypeId} {x ix:AV}:zfP P t x ix=zoT P (P.underlying t) x ix.int? := rfl
theorem zku {P:Program} {len:Nat} {e:TypeId} {x:AV} {n:Int}:zoT P (some (.array len e)) x (some n)=if 0≤n∧n.toNat < len∧0 < P.cellsOf e∧x.isAggV then zfN P e x (n.toNat*P.cellsOf e) else none:=rfl

section steps
variable {P:Program} {G:Globs} {ty:TypeId} {env:Env} {H:Hp} {x y z:Operand}
theorem zqM:zj P G (.move x) ty env H = .val (zaN P G env ty x) H:=rfl
theorem zkv:zj P G (.assign x) ty env H = .val (zaN P G env ty x) H:=rfl
def zkw (ps:Option (List PV)) (H:Hp):SRes:=match ps with | some ps => .val (.ptr H.n 0) (H.new (.cells (ps.map .p))) | none => .fail
theorem zm2 {t:TypeId}:zj P G (.alloc t) ty env H=zkw (zI P t) H:=rfl
theorem zhl {ps:List PV}:zkw (some ps) H = .val (.ptr H.n 0) (H.new (.cells (ps.map .p))):=rfl
def zsQ (cs:Option (List AV)) (H:Hp):SRes:=match cs with | some cs => .val (.ptr H.n 0) (H.new (.cells cs)) | none => .fail
theorem zsR {t:TypeId}:zj P G (.box t x) ty env H=zsQ (zi (yg G env x)) H:=rfl
theorem zkx {cs:List AV}:zsQ (some cs) H = .val (.ptr H.n 0) (H.new (.cells cs)):=rfl
theorem zm3 {t:TypeId} {ps:Array (Nat × Operand)}:zj P G (.build t ps) ty env H=vH (yi P t (yX G env ps.toList)) H:=rfl
theorem zfs {t:TypeId} {n:Nat} {ps:Array (Nat × Operand)}:zj P G (.buildSlice t n ps) ty env H=vHH (zaz P H t n (yX G env ps.toList)):=rfl
theorem zqN {t:TypeId}:zj P G (.load t x) ty env H=vH (zay P H t (yg G env x)) H:=rfl
theorem zm4 {t:TypeId}:zj P G (.store t x y) ty env H=uH (zcR P H t (yg G env x) (zaN P G env t y)):=rfl
theorem zhm:zj P G (.nilCheck x) ty env H=vH (zsr (yg G env x)) H:=rfl
theorem zm5 {op:BinOp} {t t':TypeId}:zj P G (.binOp op t x y t') ty env H=vH (zt P op t (zfX G env x) (zfX G env y)) H:=rfl
theorem zqO {op:UnOp} {t:TypeId}:zj P G (.unOp op t x) ty env H=vH (aUn op (yg G env x)) H:=rfl
theorem ziH {s d:TypeId}:zj P G (.convert s d x) ty env H=vH (yN P H s d (yg G env x)) H:=rfl
def zky (i:Bool) (t:TypeId) (x:AV) (H:Hp):SRes:=match x with | .p (.s v)=>if i then .fail else .val (.p (.s (.iface t v))) H | _ => .fail
theorem zdQ {t:TypeId}:zj P G (.makeInterface t x) ty env H=zky (isIface P t) t (yg G env x) H:=rfl
theorem zft {xt t:TypeId} {ok:Bool}:zj P G (.typeAssert x xt t ok) ty env H=vH (zdq P t ok (yg G env x)) H:=rfl
theorem zhn {f:FuncId} {a c:Array Operand}:zj P G (.makeFunc (.func f) a c) ty env H = .val (.clo f (zaW G env a.toList) (zaW G env c.toList)) H:=rfl
theorem zfu {t:TypeId} {k:IntKind}:zj P G (.makeSlice t (.const (.int k 0)) y) ty env H=vHH (zfR P H t (yg G env (.const (.int k 0))) (yg G env y)):=rfl
theorem zge {t:TypeId} {n:Nat}:zj P G (.makeSlice t (.tmp n) y) ty env H=vHH (zjH P H t (env n) (yg G env y)):=rfl
theorem zm6 {t:TypeId} {lo hi mx:Option Operand}:zj P G (.slice t x lo hi mx) ty env H=vH (zfU P t (yg G env x) (lo.map (yg G env)) (hi.map (yg G env)) (mx.map (yg G env))) H:=rfl
theorem zgf {s:TypeId} {f:Nat}:zj P G (.fieldAddr s x f) ty env H=vH (zby P s (yg G env x) f) H:=rfl
theorem zm7 {s:TypeId} {f:Nat}:zj P G (.field s x f) ty env H=vH (zfO P s (yg G env x) f) H:=rfl
theorem zgg {t:TypeId}:zj P G (.indexAddr t x y) ty env H=vH (zbx P t (yg G env x) (yg G env y)) H:=rfl
theorem zm8 {t:TypeId}:zj P G (.index t x y) ty env H=vH (zfP P t (yg G env x) (yg G env y)) H:=rfl
def zgh (x:AV) (i:Nat) (H:Hp):SRes:=match x with | .tup xs=>vH xs[i]? H | _ => .fail
theorem ziI {i:Nat}:zj P G (.extract x i) ty env H=zgh (yg G env x) i H:=rfl
def zoU (b:AV) (x y:AV) (H:Hp):SRes:=match b with | .p (.s (.bool b)) => .val (if b then x else y) H | _ => .fail
theorem zqP:zj P G (.pick x y z) ty env H=zoU (yg G env x) (zaN P G env ty y) (zaN P G env ty z) H:=rfl
theorem zm9 {b:Bool} {u v:AV}:zoU (.p (bo b)) u v H = .val (if b=true then u else v) H:=rfl
theorem zgi {xs:List AV} {i:Nat}:zgh (.tup xs) i H=vH xs[i]? H:=rfl
theorem zqQ {f:Operand} {a:Array Operand} {ts:Array TypeId}:zj P G (.call ⟨.value f,a,ts⟩) ty env H=zaX P G env ⟨.value f,a,ts⟩ (yg G env f) H:=rfl
theorem ziJ {b:Builtin} {a:Array Operand} {ts:Array TypeId}:zj P G (.call ⟨.builtin b,a,ts⟩) ty env H=zK P G env H b a.toList ts.toList:=rfl
theorem ziK {c:Call} {fn:FuncId} {a b:List AV}:zaX P G env c (.clo fn a b) H=if enters P fn then .call fn (a++yM P G env c.args.toList c.argTypes.toList++b) else zcW P fn (a++yM P G env c.args.toList c.argTypes.toList++b) H:=rfl
theorem ziL {c:Call} {b:Nat}:zaX P G env c (.yld b) H = .yield b (yM P G env c.args.toList c.argTypes.toList):=rfl
theorem zsS {b:Nat}:(AV.yld b).weak = .yld b:=rfl
def lenD (P:Program) (d:Option TypeDesc) (x:AV):Option AV :=
 match d with
 | some .string=>match x with | .p (.s (.string s))=>some (.p (.s (.int .i64 s.size))) | _=>none
 | some (.slice _) =>
  match x with
  | .p (.sl _ _ xs) | .sl _ _ _ xs=>some (.p (.s (.int .i64 xs.length)))
  | .ref _ _ len _=>some (.p (.s (.int .i64 len)))
  | .vr _ len _=>some (.p (.s (.int .i64 len)))
  | _=>none
 | some (.array n _)=>some (.p (.s (.int .i64 n)))
 | some (.pointer a)=>match P.underlying a with | some (.array n _)=>some (.p (.s (.int .i64 n))) | _=>none
 | _=>none
theorem zsT {s:ByteArray}:lenD P (some .string) (.p (str s))=some (.p (i64 s.size)):=rfl
theorem zzU {e:TypeId} {b:Bool} {z:Nat} {xs:List PV}:lenD P (some (.slice e)) (.p (.sl b z xs))=some (.p (i64 xs.length)):=rfl
theorem zw6 {e:TypeId} {a v z:Nat} {xs:List PV}:lenD P (some (.slice e)) (.sl a v z xs)=some (.p (i64 xs.length)):=rfl
theorem zsU {e:TypeId} {b o l z:Nat}:lenD P (some (.slice e)) (.ref b o l z)=some (.p (i64 l)):=rfl
theorem zw7 {e:TypeId} {b l z:Nat}:lenD P (some (.slice e)) (.vr b l z)=some (.p (i64 l)):=rfl
theorem zsV {n:Nat} {e:TypeId} {x:AV}:lenD P (some (.array n e)) x=some (.p (i64 n)):=rfl
theorem zsW {a:TypeId} {x:AV}:lenD P (some (.pointer a)) x=match P.underlying a with | some (.array n _)=>some (.p (.s (.int .i64 n))) | _=>none:=rfl
theorem builtin_len {t:TypeId}:zK P G env H .len [x] [t]=vH (lenD P (P.underlying t) (yg G env x)) H:=rfl
theorem builtin_append {t u:TypeId}:zK P G env H .append [x,y] [t,u]=vHH (zd5 P H t u (zaN P G env t x) (zaN P G env u y)):=rfl
theorem builtin_copy {t u:TypeId}:zK P G env H .copy [x,y] [t,u]=vHH (zjI P H t (yg G env x) (yg G env y)):=rfl
theorem builtin_min {ts:List TypeId}:zK P G env H .min [x,y] ts=vH (zbV false (yg G env x) (yg G env y)) H:=rfl
theorem builtin_max {ts:List TypeId}:zK P G env H .max [x,y] ts=vH (zbV true (yg G env x) (yg G env y)) H:=rfl
theorem zw8 {v:AV}:vH (some v) H = .val v H:=rfl
theorem zsX {v:AV} {H':Hp}:vHH (some (v,H')) = .val v H':=rfl
theorem zw9 {H':Hp}:uH (some H') = .unit H':=rfl
theorem ziM {t:Nat}:yg G env (.tmp t)=env t:=rfl
theorem zqR {v:Value}:yg G env (.const v)=ye v:=rfl
theorem zsY {f:FuncId}:yg G env (.func f) = .clo f [] []:=rfl
def zkz (g:Option (Nat × List PV)):AV:=match g with | some (sz,xs) => .ip sz xs 0 0 | none => .top
theorem zna {g:Nat}:yg G env (.global g)=zkz (G g):=rfl
theorem znb {sz:Nat} {xs:List PV}:zkz (some (sz,xs)) = .ip sz xs 0 0:=rfl
theorem zgj {t:Nat}:zaN P G env ty (.tmp t)=env t:=rfl
theorem znc {v:Value}:zaN P G env ty (.const v)=zaF P ty v:=rfl
theorem zqS {f:FuncId}:zaN P G env ty (.func f) = .clo f [] []:=rfl
theorem zkA {g:Nat}:zaN P G env ty (.global g)=zkz (G g):=rfl
theorem zkB {k:IntKind} {n:Int}:zaF P ty (.int k n)=ye (.int k n):=rfl
theorem ziN {b:Bool}:zaF P ty (.bool b)=ye (.bool b):=rfl
theorem zgk {s:ByteArray}:zaF P ty (.string s)=ye (.string s):=rfl
theorem zfv:zaF P ty .nilFunc = .p (.s .nilFunc):=rfl
def zzn (d:Option TypeDesc) (P:Program):AV:=match d with | some (.slice e) => .p (.sl true (P.cellsOf e) []) | _ => .p (.sl true 0 [])
theorem zkC:zaF P ty (.slice none 0 0)=zzn (P.underlying ty) P:=rfl
theorem zkD {e:TypeId}:zzn (some (.slice e)) P = .p (.sl true (P.cellsOf e) []):=rfl
theorem zqT {ts:List TypeId}:yM P G env [] ts=[]:=rfl
theorem znd {xs:List Operand} {t:TypeId} {ts:List TypeId}:yM P G env (x :: xs) (t :: ts)=zix P G env t x :: yM P G env xs ts:=rfl
theorem zsZ {t:Nat}:zfX G env (.tmp t)=env t:=rfl
theorem zne {v:Value}:zfX G env (.const v)=zbU v:=rfl
theorem zqU {f:FuncId}:zfX G env (.func f) = .clo f [] []:=rfl
theorem zkE {g:Nat}:zfX G env (.global g)=zkz (G g):=rfl
theorem zs0 {t:Nat}:zix P G env ty (.tmp t)=env t:=rfl
theorem znf {v:Value}:zix P G env ty (.const v)=zbo P ty v:=rfl
theorem zqV {f:FuncId}:zix P G env ty (.func f) = .clo f [] []:=rfl
theorem zkF {g:Nat}:zix P G env ty (.global g)=zkz (G g):=rfl
theorem zkG {k:IntKind} {n:Int}:zbU (.int k n)=ye (.int k n):=rfl
theorem ziO {b:Bool}:zbU (.bool b)=ye (.bool b):=rfl
theorem zgl {s:ByteArray}:zbU (.string s)=ye (.string s):=rfl
theorem zkH:zbU (.slice none 0 0) = .p (.s (.slice none 0 0)):=rfl
theorem zkI {k:IntKind} {n:Int}:zbo P ty (.int k n)=ye (.int k n):=rfl
theorem ziP {b:Bool}:zbo P ty (.bool b)=ye (.bool b):=rfl
theorem zgm {s:ByteArray}:zbo P ty (.string s)=ye (.string s):=rfl
theorem zfw:zbo P ty .nilFunc = .p (.s .nilFunc):=rfl
theorem zkJ:zbo P ty (.slice none 0 0) = .p (.s (.slice none 0 0)):=rfl
theorem zkK {t:TypeId}:zbw P t=zis (P.underlying t):=rfl
theorem ziQ {e:TypeId}:zis (some (.slice e))=true:=rfl
theorem ziR {t:TypeId} (h:zbw P t=true):zt P .eql t (.p (.s (.slice none 0 0))) (.p (.s (.slice none 0 0)))=some (.p (bo true)):=by
 simp only [zt,yr,h];rfl
theorem ziS {t:TypeId} {f:Bool} {sz:Nat} {l:List PV} (h:zbw P t=true) (hl:0 < l.length):zt P .eql t (.p (.sl f sz l)) (.p (.s (.slice none 0 0)))=some (.p (bo false)):=by
 cases l with
 | nil=>simp at hl
 | cons a l=>simp only [zt,h,ziy];rfl
theorem zng:yX G env []=[]:=rfl
theorem zkL {i:Nat} {r:List (Nat × Operand)}:yX G env ((i,x) :: r)=(i,yg G env x) :: yX G env r:=rfl
theorem zqW:zaW G env []=[]:=rfl
theorem znh {r:List Operand}:zaW G env (x :: r)=yg G env x :: zaW G env r:=rfl
theorem zzV {v:PV}:(AV.p v).weak = .p v.weak:=rfl
theorem zxa {a v sz:Nat} {xs:List PV}:(AV.sl a v sz xs).weak = .p (.sl false sz xs):=rfl
theorem zs1 {b off len sz:Nat}:(AV.ref b off len sz).weak = .ref b off len sz:=rfl
theorem zxb {b len sz:Nat}:(AV.vr b len sz).weak = .vr b len sz:=rfl
theorem zxc {b k off:Nat}:(AV.vp b k off).weak = .vp b k off:=rfl
theorem vec?_vec {cs:List AV}:(AB.vec cs).vec? = some cs:=rfl
theorem vec?_cells {cs:List AV}:(AB.cells cs).vec? = none:=rfl
theorem vec?_tail {v:Nat}:(AB.tail v).vec? = none:=rfl
theorem zs2 {b off:Nat}:(AV.ptr b off).weak = .ptr b off:=rfl
theorem zxd {sz i sub:Nat} {xs:List PV}:(AV.ip sz xs i sub).weak = .ip sz xs i sub:=rfl
theorem zs3 {f:FuncId} {a c:List AV}:(AV.clo f a c).weak = .clo f a c:=rfl
theorem zs4 {fl:Bool} {sz:Nat} {xs:List PV}:(PV.sl fl sz xs).weak = .sl false sz xs:=rfl
theorem zqX {fl:Bool} {sz:Nat} {xs:List PV}:(PV.sl fl sz xs).weak1 = .sl false sz xs:=rfl
theorem zqY {xs:List PV}:(PV.agg xs).weak = .agg (xs.map PV.weak1):=rfl
theorem ziT {f:FuncId} {args:List AV}:zR [] f args=args.map AV.weak:=rfl
end steps

attribute [go_sem ↓] put_some
attribute [go_sem] zxb zxc vec?_vec vec?_cells vec?_tail
attribute [go_sem] zmV zm0 ziL zsS zsG zqy zqz ziE zhj zsH zqA zqB zmW zkq ziF ziG zqC zsJ zqG zqH zhk zgb zqI zsK zqJ zqK zqM zkv zm2 zhl zsR zkx zm3 zfs zqN zm4 zhm zm5 zqO ziH zdQ zft zhn zfu zge zm6 zgf zm7 zgg zm8 ziI zqP zm9 zgi zqQ ziJ ziK builtin_len builtin_append builtin_copy builtin_min builtin_max zw8 zsX zw9 ziM zqR zsY zna znb zmY zsZ zne zqU zkE zs0 znf zqV zkF zkG ziO zgl zkH zkI ziP zgm zfw zkJ zkK ziQ ziR ziS zgj znc zqS zkA zkB ziN zgk zfv zkC zkD zqT znd zng zkL zqW znh zzV zxa zs1 zs2 zxd zs3 zs4 zqX zqY ziT





attribute [go_sem] zqb zsw zqc zmt zqd zmu zmv zsx zw0 zsy zqe zsz zqf zqg zqh zsA zqi zmw zqj zmx zmy zsB zw1 zjU zqk zsC zql zqm zqn zsD zqo zmz zqp zmA zmB zqq zsE zhT zmC zqr zmD zmE zqs zsF zqt zmF zqu zmG zmH zw2 zzT zw3 zw4 zw5 zmI zqv zmJ zqw zmK zmL zmM zmN zmO zmP zf7 zf8 zjV zjW zjX zjY zmQ zjZ zfj zfk zfl zfm zmR zj0 zj1 zj2 zj3 zmS zj4 zj5 zfn zfo zfp zfq zj6 zj7 zj8 zj9 zka zkb zkc zkd zke zkf zkg zkh zmT zqx zki zkj zmU zkk zkl zkm zkn zko ziC zkp ziD zf9 zga

attribute [go_sem] true_and and_true if_true if_false ite_true ite_false List.getElem?_cons_zero List.getElem?_cons_succ Option.getD_some Option.map_some Option.map_none Option.bind_some zan implies_true zm1 zkr zsL zsM zsN zsO zB1 zB2 zB3 zB4 zks zkt zsP f_set_ne' zgc zgd trunc_new' trunc_set' zeb n_new' n_set' zea zay zcR zbx zby zfO zqL zku zfN zfU zW zsT zzU zw6 zsU zw7 zsV zsW zjH zfR zjI zd5 zfQ yW zaz yf zaL zp3 zsr List.map_cons List.map_nil List.map_replicate List.length_cons List.length_nil List.length_map List.length_replicate List.length_append List.cons_append List.nil_append List.append_nil List.singleton_append Bool.not_true Bool.not_false Bool.and_true Bool.true_and Bool.and_false Bool.false_and Bool.or_true Bool.true_or Bool.or_false Bool.false_or Bool.false_eq_true Option.isSome_some Option.isSome_none Option.isNone_none Option.isNone_some Nat.add_zero Nat.zero_add Nat.mul_one Nat.one_mul Nat.sub_zero Int.toNat_natCast Int.toNat_zero Int.natCast_nonneg






end Go.AL

/-
  Rows of encoded things: reading,writing and slicing them;loops by a state;small numbers.
  Conditions: none;nothing here speaks of one program.
-/
namespace Go.AL
open Go

theorem ARun.iter {C:Cx} {k:List Item} {env:Env} {H:Hp} {R:AV → Hp → Prop} {c:Code} {S:Type} (I:S → Env → Hp → Prop) (μ:S → Nat) (s0:S) (h0:I s0 env H)
 (round : ∀ s env H,I s env H → (∀ s' env' H',I s' env' H' → μ s' < μ s → ARun C (.inLoop c :: k) env' H' R) → ARun C (.code c :: .inLoop c :: k) env H R) :
 ARun C (.code (.loop c) :: k) env H R:=by
 have key : ∀ n s env H,μ s=n → I s env H → ARun C (.inLoop c :: k) env H R:=by
  intro n
  induction n using Nat.strongRecOn with
  | _ n ih =>
   intro s env H hn hI
   exact .inLoop (round s env H hI fun s' env' H' hI' hlt=>ih (μ s') (hn ▸ hlt) s' env' H' rfl hI')
 exact .loop (key _ s0 env H rfl h0)

theorem ARun.count {C:Cx} {k:List Item} {env:Env} {H:Hp} {R:AV → Hp → Prop} {c:Code} (I:Nat → Env → Hp → Prop) (a n:Nat) (ha:a≤n) (h0:I a env H)
 (last : ∀ env H,I n env H → ARun C (.code c :: .inLoop c :: k) env H R)
 (round : ∀ i env H,a≤i → i < n → I i env H → (∀ env' H',I (i+1) env' H' → ARun C (.inLoop c :: k) env' H' R) → ARun C (.code c :: .inLoop c :: k) env H R) :
 ARun C (.code (.loop c) :: k) env H R :=
 .iter (S:=Nat) (fun i env H=>a≤i∧i≤n∧I i env H) (fun i=>n - i) a ⟨Nat.le_refl _,ha,h0⟩ fun i env H ⟨h1,h2,h3⟩ ih=>by
  by_cases h:i=n
  · subst h;exact last env H h3
  · exact round i env H h1 (by omega) h3 fun env' H' h'=>ih (i+1) env' H' ⟨by omega,by omega,h'⟩ (by omega)

theorem ARun.own {C:Cx} {todo:List Item} {env:Env} {H:Hp} {R:AV → Hp → Prop} (t:Nat) {sz:Nat} {xs:List PV} (ht:env t = .p (.sl true sz xs))
 (h:ARun C todo (env.put (some t) (.sl H.n 0 sz xs)) (H.new (.tail 0)) R):ARun C todo env H R:=by
 intro σ w a b cs m h1 hpre
 obtain⟨hr,hev⟩:=zax hpre.rel (w':=w) (Nat.le_refl _) (fun _ _=>rfl) rfl rfl none (fun _ _ _ hh=>by cases hh)
 have h4:=hpre.fr.mono hev
 have hf:RelF C.nt m (σ.withT H.n none) (H.new (.tail 0)) w (env.put (some t) (.sl H.n 0 sz xs)) a:=by
  refine⟨h4.defers,h4.size,fun i => ?_⟩
  simp only [Env.put]
  by_cases hi:i=t
  · subst hi
    rw [if_pos rfl]
    have hs:=hpre.fr.slot i
    rw [ht] at hs
    generalize a.tmps.getD i undef=v at hs
    cases hs with | p hp =>
    have hp':RelP w (Stable (σ.withT H.n none) (H.new (.tail 0))) (.sl true sz xs) v:=by
     have:=(RelV.p hp).mono hev
     cases this;assumption
    refine .sl ?_ ⟨by simp [Hp.n_new],fun k0 d hk0 => ?_⟩
    · cases hp' with
      | emp _ _ a cap h hc=>exact .emp _ _ a cap (by simp) hc
      | sl _ _ _ g off cap f hfl hcap hsz hrd hc=>exact .sl false _ _ g off cap f (by simp) hcap hsz hrd hc
    · simp [Hp.f_new] at hk0
      refine⟨by omega,fun _ => .inl ?_⟩
      cases hp' with
      | emp _ _ a cap h0 hc=>exact⟨a,0,by rw [h0 rfl],by simp [Gh.withT]⟩
      | sl _ _ _ g off cap f hfl hcap hsz hrd hc=>exact⟨some ⟨g,off,none⟩,xs.length,by rw [hfl rfl],by simp [Gh.withT]⟩
  · rw [if_neg hi];exact h4.slot i
 obtain⟨r,H',σ',v,w',M,q,st,q1,q2,q3,q5⟩:=h _ w a b cs m (h1.mono hpre.n0 hev.c hpre.lt) (hpre.go hr hf hev)
 exact⟨r,H',σ',v,w',M,q,st,q1,q2,q3,hev.transM q5 hpre.n0 hpre.m⟩

def nth {α:Type} [Inhabited α] (l:List α) (i:Nat):α:=(l[i]?).getD default

section nth
variable {α:Type} [Inhabited α]
theorem zfA {l:List α} {i:Nat} (h:i < l.length):l[i]? = some (nth l i):=by simp [nth,h]
theorem zgn {l:List α} {i j:Nat} {x:α} (h:i=j) (hi:i < l.length):nth (l.set i x) j=x:=by subst h;simp [nth,hi]
theorem zgo {l:List α} {i j:Nat} {x:α} (h:i≠j):nth (l.set i x) j=nth l j:=by simp [nth,List.getElem?_set_ne h]
theorem zho {x:α} {l:List α}:nth (x :: l) 0=x:=rfl
theorem zaH {l m:List α} {i:Nat} (h:i < l.length):nth (l++m) i=nth l i:=by simp [nth,List.getElem?_append_left h]
theorem zct {l m:List α} {i:Nat} (h:l.length≤i):nth (l++m) i=nth m (i - l.length):=by simp [nth,List.getElem?_append_right h]
theorem nth_drop {l:List α} {n i:Nat}:nth (l.drop n) i=nth l (n+i):=by simp [nth]
theorem zec {l:List α} {n i:Nat} (h:i < n):nth (l.take n) i=nth l i:=by simp [nth,h]
theorem zhp {n i:Nat} {x:α} (h:i < n):nth (List.replicate n x) i=x:=by simp [nth,h]
theorem zfB {l m:List α} (hl:l.length=m.length) (h : ∀ i,i < l.length → nth l i=nth m i):l=m:=by
 refine List.ext_getElem? fun i => ?_
 by_cases hi:i < l.length
 · rw [zfA hi,zfA (by omega),h i hi]
 · rw [List.getElem?_eq_none (by omega),List.getElem?_eq_none (by omega)]
end nth

def pl {α:Type} (f:α → PV) (l:List α):List PV:=l.map f
def cl {α:Type} (f:α → PV) (l:List α):List AV:=l.map fun x => .p (f x)

section rows
variable {α:Type} {f:α → PV} {l m:List α} {i n:Nat} {x:α}
theorem zb2:(pl f l).length=l.length:=by simp [pl]
theorem zak:(cl f l).length=l.length:=by simp [cl]
theorem zzW [Inhabited α] (h:i < l.length):(pl f l)[i]? = some (f (nth l i)):=by simp [pl,nth,h]
theorem zzX [Inhabited α] (h:i < l.length):(cl f l)[i]? = some (.p (f (nth l i))):=by simp [cl,nth,h]
theorem zzY:(cl f l).set i (.p (f x))=cl f (l.set i x):=by simp [cl,List.map_set]
theorem zni:(pl f l).map AV.p=cl f l:=by simp [pl,cl]
theorem zoV:(pl f l).take n=pl f (l.take n):=by simp [pl,List.map_take]
theorem zoW:(pl f l).drop n=pl f (l.drop n):=by simp [pl,List.map_drop]
theorem zqZ:pl f l++pl f m=pl f (l++m):=by simp [pl]
theorem zzZ:pl f l++[f x]=pl f (l++[x]):=by simp [pl]
theorem pl_replicate:pl f (List.replicate n x)=List.replicate n (f x):=by simp [pl]
theorem zz0:List.replicate n (f x)=pl f (List.replicate n x):=pl_replicate.symm
theorem znj:(pl f l).isEmpty=l.isEmpty:=by cases l<;>rfl
theorem zz1:pvs? (cl f l)=some (pl f l):=by
 induction l with
 | nil=>rfl
 | cons a l ih=>simp only [cl,pl,List.map_cons] at ih ⊢;simp [pvs?,AV.pv?,ih]
theorem zs5:zq (cl f l) = .p (.agg (pl f l)):=by unfold zq;rw [zz1]
theorem zq0:zi (.p (.agg (pl f l)))=some (cl f l):=by simp [zi,zni]
theorem zed (h : ∀ x,(f x).weak1=f x):(pl f l).map PV.weak1=pl f l:=by simp [pl,Function.comp_def,h]
theorem zoX (h : ∀ x,(f x).cells=[f x]):flat (pl f l)=pl f l:=by
 unfold flat pl
 induction l with
 | nil=>rfl
 | cons a l ih=>simp [h,ih]
theorem zs6 (h:i+m.length≤l.length):setAt (cl f l) i (cl f m)=cl f (l.take i++m++l.drop (i+m.length)):=by
 rw [yd _ _ _ (by simpa [zak] using h)]
 simp [cl]
theorem zc1 (hf : ∀ x,∀ b,zaL b [.p (f x)]=if b then some (.agg [f x]) else some (f x)) : ∀ {n:Nat} {l:List α},n≤l.length → yt false 1 n (cl f l)=some (pl f (l.take n))
 | 0,_,_=>by simp [yt,pl]
 | n+1,[],h=>by simp at h
 | n+1,a :: l,h=>by
  have:=zc1 hf (n:=n) (l:=l) (by simpa using h)
  simp only [cl,List.map_cons] at this ⊢
  simp [yt,hf,this,pl]
end rows

theorem zz2 (i n:Nat):((i:Int) - (no_index (OfNat.ofNat n):Int)).toNat=i - OfNat.ofNat n:=by show ((i:Int) - (n:Int)).toNat=i - n;omega
theorem zz3 (i n:Nat):((no_index (OfNat.ofNat n):Int)*(i:Int)).toNat=OfNat.ofNat n*i:=by show ((n:Int)*(i:Int)).toNat=n*i;rw [←Int.natCast_mul];omega
theorem znk (i n m:Nat):((no_index (OfNat.ofNat n):Int)*(i:Int)+(no_index (OfNat.ofNat m):Int)).toNat=OfNat.ofNat n*i+OfNat.ofNat m:=by show ((n:Int)*(i:Int)+(m:Int)).toNat=n*i+m;rw [←Int.natCast_mul];omega
theorem tn_mul_add' (i n m:Nat):((no_index (OfNat.ofNat n):Int)*(i:Int)+(m:Int)).toNat=OfNat.ofNat n*i+m:=by show ((n:Int)*(i:Int)+(m:Int)).toNat=n*i+m;rw [←Int.natCast_mul];omega
theorem zz4 (i n:Nat):((i:Int) / (no_index (OfNat.ofNat n):Int)).toNat=i / OfNat.ofNat n:=by show ((i:Int) / (n:Int)).toNat=i / n;rw [←Int.natCast_ediv];exact Int.toNat_natCast _
theorem zs7 {P:Program} {t:Nat} {env:Env} {H:Hp}:zcM P [.tmp t] env H=some (env t):=rfl
theorem zq1 {P:Program} {env:Env} {H:Hp}:zcM P [] env H=some (.tup []):=rfl
theorem zq2 {P:Program} {a:Nat} {t:TypeId} {env:Env} {H:Hp}:zcM P [.cell a t] env H=zay P H t (env a):=by
 simp only [zcM,zaQ,zbW]
 cases zay P H t (env a)<;>rfl
theorem zB5 {n:Nat} {x:PV}:(AV.p x).out n=some (.p x.weak):=rfl
theorem zz5 {n a v sz:Nat} {xs:List PV}:(AV.sl a v sz xs).out n=some (.p (.sl false sz xs)):=rfl
theorem zs8 {n:Nat}:(AV.tup []).out n=some (.tup []):=rfl
theorem zs9:decide True=true:=by simp
theorem zq3:decide False=false:=by simp
theorem zDZ {α:Type} {c:Prop} [Decidable c] {x y:α} (h:c):(if c then x else y)=x:=if_pos h
theorem zv {n:Nat} {H:Hp} {x:AB} (h:Bel n H) (hn:n≤H.n):Bel n (H.new x):=(Bel.new hn).2 h
theorem zaR {n b:Nat} {H:Hp} {x:AB} (h:Bel n H) (hn:n≤b):Bel n (H.set b x):=(Bel.set_hi hn).2 h
theorem yY {α:Type} {f:α → PV} {l:List α} {n b:Nat} {H:Hp} (h:Bel n H):Bel n (H.set b (.cells (cl f l))):=h.set_cells fun x hx=>by
 simp only [cl,List.mem_map] at hx
 obtain⟨a,_,rfl⟩:=hx
 exact .p _
theorem zkM {α:Type} {l:List α} {n:Nat} (h:n≤l.length):(l.take n).length=n:=List.length_take_of_le h
theorem zta {n:Int}:AV.p (.s (.int .i64 n)) = .p (i64 n):=rfl
theorem zq4 {xs:List PV}:(PV.agg xs).cells=xs:=rfl
theorem zq5 {xs:List PV}:(PV.agg xs).isAgg=true:=rfl
theorem isAggV_agg {xs:List PV}:(AV.p (.agg xs)).isAggV=true:=rfl
theorem set_same {H:Hp} {b:Nat} {x:AB} (h:H.f b=some x):H.set b x=H:=by
 cases H with | mk f n wf =>
 simp only [Hp.set,Hp.mk.injEq,and_true]
 funext c
 by_cases hc:c=b∧b < n
 · rw [if_pos hc,hc.1];exact h.symm
 · rw [if_neg hc]
theorem set_set' {H:Hp} {b:Nat} {x y:AB}:(H.set b x).set b y=H.set b y:=by
 cases H with | mk f n wf =>
 simp only [Hp.set,Hp.mk.injEq,and_true]
 funext c
 by_cases hc:c=b∧b < n
 · simp [hc]
 · simp [hc]
theorem zxe:pvs? []=some []:=rfl
theorem ztb {x:PV} {xs:List AV}:pvs? (.p x :: xs)=(pvs? xs).map (x :: ·):=by
 simp only [pvs?,AV.pv?]
 cases pvs? xs<;>rfl
theorem ztc {fl:Bool} {sz:Nat} {xs:List PV}:(PV.sl fl sz xs).cells=[.sl fl sz xs]:=rfl
theorem zB6:(false == false)=true:=rfl
theorem zB7:(false == true)=false:=rfl
theorem zB8:(true == false)=false:=rfl
theorem zB9:(true == true)=true:=rfl
theorem take_one {α:Type} [Inhabited α] {l:List α} {i:Nat} (h:i < l.length):l.take i++[nth l i]=l.take (i+1):=by
 rw [List.take_succ_eq_append_getElem h]
 simp [nth,h]
def zee (P:Program) (t:TypeId) (k:IntKind) (n:Nat):Bool :=
 match P.underlying t with
 | some (.array m e)=>(match P.underlying e with | some (.int k')=>k' == k | _=>false) && m == n && P.cellsOf e == 1 && P.cellsOf t == n && P.keyTypeAt 64 t && !P.eqGuardType P.depth t && z8 P t
 | _=>false

theorem mapM_flat {α:Type} (g:Nat → Option (List α)) (h:Nat → α) : ∀ (l:List Nat),(∀ i∈l,g i=some [h i]) → (l.mapM g).map List.flatten=some (l.map h)
 | [],_=>rfl
 | i :: l,hg=>by
  have ih:=mapM_flat g h l (fun j hj=>hg j (by simp [hj]))
  simp only [List.mapM_cons,hg i (by simp)]
  cases hm:l.mapM g with
  | none=>simp [hm] at ih
  | some ls =>
   simp only [hm,Option.map_some,Option.some.injEq] at ih
   simp [ih]

theorem zef {α:Type} [Inhabited α] {P:Program} {t:TypeId} {k:IntKind} (z:α → Int) (hz : ∀ x,(Lit.int k (z x)).wf=true) (l:List α) (h:zee P t k l.length=true) :
 P.keyLits 64 t (l.map fun x=>Value.int k (z x))=some (l.map fun x=>Lit.int k (z x)):=by
 unfold zee at h
 split at h
 case h_2=>cases h
 rename_i m e hu
 simp only [Bool.and_eq_true,beq_iff_eq] at h
 obtain⟨⟨⟨⟨⟨⟨h1,h2⟩,h3⟩,h4⟩,_⟩,_⟩,_⟩:=h
 split at h1
 case h_2=>cases h1
 rename_i k' hk
 have hk':k'=k:=by simpa using h1
 subst hk' h2
 unfold Program.keyLits
 simp only [hu,List.length_map,h4,if_true]
 have hm:=mapM_flat (fun i=>P.keyLits 63 e (((l.map fun x=>Value.int k' (z x)).drop (i*P.cellsOf e)).take (P.cellsOf e))) (fun i=>Lit.int k' (z (nth l i))) (List.range l.length) (fun i hi=>by
  have hi':i < l.length:=List.mem_range.1 hi
  have e1:((l.map fun x=>Value.int k' (z x)).drop (i*P.cellsOf e)).take (P.cellsOf e)=[Value.int k' (z (nth l i))]:=by
   rw [h3,Nat.mul_one,List.take_one]
   simp [nth,hi']
  simp only [e1]
  unfold Program.keyLits
  simp [hk,hz])
 rw [hm]
 congr 1
 refine List.ext_getElem? fun i => ?_
 by_cases hi:i < l.length
 · simp [hi,nth]
 · simp [Nat.le_of_not_lt hi]

theorem zcu {α:Type} (z:α → Value) : ∀ (l:List α),zaE (l.map fun x=>PV.s (z x))=some (l.map z)
 | []=>rfl
 | x :: l=>by simp [zaE,zcu z l]

theorem znl {α:Type} [Inhabited α] {P:Program} {t:TypeId} {k:IntKind} (z:α → Int) (hz : ∀ x,(Lit.int k (z x)).wf=true) (hi : ∀ x y,z x=z y → x=y) [DecidableEq α] (a b:List α) (h:zee P t k a.length=true) (hb:b.length=a.length) :
 zcH P t (a.map fun x=>PV.s (.int k (z x))) (b.map fun x=>PV.s (.int k (z x)))=some (decide (a=b)):=by
 have hb':zee P t k b.length=true:=by rw [hb];exact h
 have h2:=h
 unfold zee at h2
 split at h2
 case h_2=>cases h2
 simp only [Bool.and_eq_true,Bool.not_eq_true'] at h2
 obtain⟨⟨⟨_,h5⟩,h6⟩,h7⟩:=h2
 unfold zcH
 rw [zcu,zcu,if_pos (by simp [h5,h6,h7])]
 simp only [zef z hz a h,zef z hz b hb',Option.some.injEq,decide_eq_decide]
 constructor
 · intro e
   refine zfB hb.symm fun i hi' => ?_
   have:=congrArg (fun l:List Lit=>l[i]?) e
   simp only [List.getElem?_map,zfA hi',zfA (show i < b.length by omega),Option.map_some,Option.some.injEq,Lit.int.injEq,true_and] at this
   exact hi _ _ this
 · intro e;rw [e]

theorem zzo {P:Program} {t:TypeId} {a b:List (BitVec 8)} (h:zee P t .u8 a.length=true) (hb:b.length=a.length):zt P .eql t (.p (.agg (pl b8 a))) (.p (.agg (pl b8 b)))=some (.p (bo (decide (a=b)))):=by
 have:=znl (P:=P) (t:=t) (k := .u8) (fun x:BitVec 8=>(x.toNat:Int)) (fun x=>by have:=x.isLt;simp only [Lit.wf,Bool.and_eq_true,decide_eq_true_eq];exact⟨by show (0:Int)≤_;omega,by show _≤(255:Int);omega⟩) (fun x y e=>BitVec.eq_of_toNat_eq (by omega)) a b h hb
 show (zcH P t (a.map b8) (b.map b8)).map _=_
 have e1:(b8:BitVec 8 → PV)=fun x=>PV.s (.int .u8 x.toNat):=rfl
 rw [e1,this]
 rfl
theorem zq6 {cs:List AV} {o:Nat} {x:AV}:setAt cs o [x]=cs.set o x:=rfl
theorem zH {cs xs:List AV} (h:xs.length=cs.length):setAt cs 0 xs=xs:=by rw [yd _ _ _ (by omega)];simp [h]
theorem znm {α:Type} {l:List α} {n:Nat} (h:l.length≤n):l.take n=l:=List.take_of_length_le h
theorem zq7 {α:Type} {l:List α}:l.drop 0=l:=rfl
theorem ztd (n:Nat):((no_index (OfNat.ofNat n:Nat):Nat):Int)=(OfNat.ofNat n:Int):=rfl
theorem zq8 {p:Nat → Option (Nat × Nat)} {cs:List AV}:yj p cs []=some cs:=rfl
theorem zkN {l:List (BitVec 8)}:(pl b8 l).map PV.weak1=pl b8 l:=zed fun _=>zjU _
theorem ziU {l:List (BitVec 32)}:(pl zN l).map PV.weak1=pl zN l:=zed fun _=>zhT _
theorem zkO {n:Nat} {l:List (BitVec 8)} (h:n≤l.length):yt false 1 n (cl b8 l)=some (pl b8 (l.take n)):=zc1 (fun x b=>by cases b<;>rfl) h
theorem zxf {l:List (BitVec 8)}:flat (pl b8 l)=pl b8 l:=zoX fun _=>rfl
theorem ziV {n:Nat} {l:List (BitVec 32)} (h:n≤l.length):yt false 1 n (cl zN l)=some (pl zN (l.take n)):=zc1 (fun x b=>by cases b<;>rfl) h
theorem zte {l:List (BitVec 32)}:flat (pl zN l)=pl zN l:=zoX fun _=>rfl
attribute [go_sem] zkO zxf ziV zte zs6
attribute [go_sem] zzo zB6 zB7 zB8 zB9 take_one and_self List.getElem?_toArray List.range_zero List.cons.injEq zxe ztb ztc List.all_cons List.all_nil set_set' false_implies true_implies zta zq4 zq5 isAggV_agg true_or or_true false_or or_false false_and and_false not_true_eq_false not_false_eq_true zkM List.length_drop Nat.add_sub_cancel_left
attribute [go_sem] zkN ziU zs9 zq3 zDZ zs7 zq1 zq2 zB5 zz5 zs8 zq8 zq6 zH znm zq7 ztd Int.natCast_add Int.natCast_mul zak zb2 zzX zzW zzY zni zs5 zq0 zzZ zqZ zoV zoW zz0 List.length_set znj zz2 zz3 znk tn_mul_add' zz4
end Go.AL

/-
  A slice compared with nil.
  Conditions: none;nothing here speaks of one program.
-/
namespace Go.AL
open Go

section
variable {C:Cx} {k:List Item} {env:Env} {H:Hp} {R:AV → Hp → Prop} {ops:Array Oper} {rest:List Oper}

theorem AOps.one {o:Oper} (hg:o.guard=none) {x:AV} {H':Hp} (hs:zj C.P C.G o.op o.type env H = .val x H') (hd:zy C.nt o.dst=true) (h:AOps C ops rest k (env.put o.dst x) H' R):AOps C ops (o :: rest) k env H R :=
 .of_op true (by rw [hg];rfl) fun σ w a m hpre K Q hK=>aOp1.wp (K:=fun y H2=>y=x∧H2=H') (by unfold aOp1;rw [hs];exact⟨hd,rfl,rfl⟩) hpre.rel hpre.fr fun y v H2 σ' w' ⟨e1,e2⟩ q1 q2 q3 q4=>by
  subst e1 e2;exact hK _ v _ σ' w' h q1 q2 q3 q4

theorem AOps.isNil {dst:Option Nat} {t t' ty:TypeId} {pos:String} {after:Array Edge} {x:Operand} {e:TypeId} (hu:C.P.underlying t=some (.slice e)) {fl:Bool} {sz:Nat} {xs:List PV} (hx:yg C.G env x = .p (.sl fl sz xs)) (hd:zy C.nt dst=true)
 (h : ∀ b:Bool,(b=true → xs=[]) → AOps C ops rest k (env.put dst (.p (bo b))) H R) :
 AOps C ops (⟨dst,.binOp .eql t x (.const (.slice none 0 0)) t',ty,pos,after,none⟩ :: rest) k env H R:=by
 refine .of_op true rfl fun σ w a m hpre K Q hK => ?_
 have hr:=zo hpre.rel hpre.fr x
 rw [hx] at hr
 have key : ∀ (ad:Option Addr) (l c:Nat),a.eval x = .slice ad l c → (ad.isNone=true → xs=[]) →
  (⟨dst,.binOp .eql t x (.const (.slice none 0 0)) t',ty,pos,after,none⟩:Oper).wpIn (Fr C σ) 0 C.P a w K Q:=by
  intro ad l c hv hn
  unfold Oper.wpIn
  refine⟨fun f _=>trivial,?_⟩
  have hsem:Oper.semAt (Fr C σ).round a.eval ⟨dst,.binOp .eql t x (.const (.slice none 0 0)) t',ty,pos,after,none⟩=execOp a.eval ⟨dst,.binOp .eql t x (.const (.slice none 0 0)) t',ty,pos,after,none⟩:=Oper.semAt_eq _ _ _ (fun c h=>by cases h)
  rw [hsem]
  have he:(execOp a.eval ⟨dst,.binOp .eql t x (.const (.slice none 0 0)) t',ty,pos,after,none⟩).run C.P w = .ok (.value (.bool ad.isNone)) w:=by
   have hc:a.eval (.const (.slice none 0 0)) = .slice none 0 0:=rfl
   simp only [execOp,hv,hc]
   have hg:=yV (P:=C.P) (w:=w) (op := .eql) (t:=t) (xo:=x) (yo := .const (.slice none 0 0)) (a := .slice ad l c) (b := .slice none 0 0) (by simp) (by simp)
   simp only [Sem.run_bind,hg,Result.andThen_ok,binOp,run_equal_slice_nil w t e ad l c hu,Sem.run_pure]
  rw [he]
  exact hK (.p (bo ad.isNone)) (.bool ad.isNone) H σ w (h ad.isNone hn) (yB hd) hpre.rel (.p (.s _ rfl)) (Ev.refl (Nat.le_refl _))
 generalize hv:a.eval x=v at hr
 cases hr with | p hp =>
 cases hp with
 | emp _ _ a cap=>exact key a 0 cap hv fun _=>rfl
 | sl _ _ _ g off cap f=>exact key (some ⟨g,off,none⟩) xs.length cap hv fun hh=>by cases hh
end
theorem RelV.low {σ σ':Gh} {H H':Hp} {w w':World} {n0 m:Nat} (h:EvM n0 m σ H w σ' H' w') {x:AV} {v:Value} (r:RelV σ H w x v):BelowN n0 x → RelV σ' H' w' x v:=by
 induction r with
 | p hp=>exact fun _ => .p (hp.mono h.cell)
 | sl hp ht =>
  intro hb
  cases hb with | sl _ _ _ _ hb =>
  refine .sl (hp.mono h.cell) ⟨Nat.lt_of_lt_of_le hb h.hn,fun k' d' hk' => ?_⟩
  obtain⟨k0,d0,e0,l0,q0⟩:=h.t _ hb k' d' hk'
  obtain⟨l1,q1⟩:=ht.2 k0 d0 e0
  refine⟨Nat.le_trans l1 l0,fun hkk => ?_⟩
  rw [q0 (by omega)]
  exact q1 (by omega)
 | ref a h0 _ hcap ha=>intro hb;cases hb with | ref _ _ _ _ hb=>exact .ref a h0 (Nat.lt_of_lt_of_le hb h.hn) hcap (fun hl=>by rw [h.c _ hb];exact ha hl)
 | ptr _=>intro hb;cases hb with | ptr _ _ hb=>rw [←h.c _ hb];exact .ptr (Nat.lt_of_lt_of_le hb h.hn)
 | ip hp hi hs=>exact fun _ => .ip (hp.mono h.cell) hi hs
 | clo fs cs hf hc _ _ ih1 ih2=>intro hb;cases hb with | clo _ _ _ h1 h2=>exact .clo fs cs hf hc (fun i x v a b=>ih1 i x v a b (h1 i x a)) (fun i x v a b=>ih2 i x v a b (h2 i x a))
 | tup vs hl _ ih=>intro hb;cases hb with | tup _ h=>exact .tup vs hl (fun i x v a b=>ih i x v a b (h i x a))
 | agg vs hl h1 _ ih=>intro hb;cases hb with | agg _ h=>exact .agg vs hl h1 (fun i x v a b=>ih i x v a b (h i x a))
 | yld _=>intro hb;cases hb with | yld _ hb=>rw [←h.c _ hb];exact .yld (Nat.lt_of_lt_of_le hb h.hn)
 | mp _=>intro hb;cases hb with | mp _ hb=>rw [←h.c _ hb];exact .mp (Nat.lt_of_lt_of_le hb h.hn)
 | vr q =>
  intro hb
  cases hb with | vr _ _ _ hb =>
  obtain⟨_,a,cap,rfl,q1,q2⟩:=q
  refine .vr ⟨Nat.lt_of_lt_of_le hb h.hn,a,cap,rfl,q1,fun k' d' hk' => ?_⟩
  obtain⟨k0,d0,e0,l0,q0⟩:=h.t _ hb k' d' hk'
  obtain⟨l1,q1⟩:=q2 k0 d0 e0
  refine⟨Nat.le_trans l1 l0,fun hkk => ?_⟩
  rw [q0 (by omega)]
  exact q1 (by omega)
 | vp a q =>
  intro hb
  cases hb with | vp _ _ _ hb =>
  refine .vp a ⟨Nat.lt_of_lt_of_le hb h.hn,fun k' d' hk' => ?_⟩
  obtain⟨k0,d0,e0,l0,q0⟩:=h.t _ hb k' d' hk'
  obtain⟨l1,q1⟩:=q.2 k0 d0 e0
  refine⟨Nat.le_trans l1 l0,fun hkk => ?_⟩
  rw [q0 (by omega)]
  exact q1 (by omega)
 | top v=>exact fun _ => .top v

theorem ziW {G:Globs} {σ:Gh} {H:Hp} {w:World} (hr:Rel G σ H w) {n0 α k:Nat} (hb:Bel n0 H) (hα:H.f α=some (.tail k)) (hge:n0≤α) :
 Rel G (σ.withT n0 (σ.t α)) ((H.trunc n0).new (.tail 0)) w∧Ev n0 σ H w (σ.withT n0 (σ.t α)) ((H.trunc n0).new (.tail 0)) w:=by
 have hold : ∀ b,b < n0 → (σ.withT n0 (σ.t α)).t b=σ.t b:=fun b hb=>by simp [Gh.withT,Nat.ne_of_lt hb]
 have hnew:(σ.withT n0 (σ.t α)).t n0=σ.t α:=by simp [Gh.withT]
 have fcells : ∀ b x,((H.trunc n0).new (.tail 0)).f b=some (.cells x) → H.f b=some (.cells x)∧b < n0:=by
  intro b x h
  rw [Hp.f_new] at h
  split at h
  · cases h
  · rw [Hp.f_trunc] at h
    split at h
    · exact⟨h,by assumption⟩
    · cases h
 have ftail : ∀ b k' d,((H.trunc n0).new (.tail 0)).f b=some (.tl k' d) → (b=n0∧k'=0∧d=none) ∨ (H.f b=some (.tl k' d)∧b < n0):=by
  intro b x d h
  rw [Hp.f_new] at h
  split at h
  · rename_i hh;cases h;exact .inl ⟨hh,rfl,rfl⟩
  · rw [Hp.f_trunc] at h
    split at h
    · exact .inr ⟨h,by assumption⟩
    · cases h
 have fobj : ∀ b vs S,((H.trunc n0).new (.tail 0)).f b=some (.obj vs S) → H.f b=some (.obj vs S)∧b < n0:=by
  intro b vs S h
  rw [Hp.f_new] at h
  split at h
  · cases h
  · rw [Hp.f_trunc] at h
    split at h
    · exact⟨h,by assumption⟩
    · cases h
 have hev:Ev n0 σ H w (σ.withT n0 (σ.t α)) ((H.trunc n0).new (.tail 0)) w:=by
  refine⟨fun g o v h1 h2=>⟨⟨fun b x h=>h1.1 b x (fcells _ _ h).1,fun b k' d o' s h ht => ?_⟩,h2⟩,fun _ _=>rfl,by simp [Hp.n_new,Hp.n_trunc],fun b hb k' d hk => ?_,Nat.le_refl _,
   fun g hg hf=>⟨rfl,fun b x h=>hf.1 b x (fcells _ _ h).1,fun b k' d o s h => ?_,fun b vs S h=>hf.3 b vs S (fobj _ _ _ h).1⟩,rfl,rfl⟩
  · rcases ftail b k' d h with ⟨rfl,rfl,rfl⟩ | ⟨h,hlt⟩
    · rw [hnew] at ht;exact h1.2 α k _ o' s hα ht
    · rw [hold b hlt] at ht;exact h1.2 b k' d o' s h ht
  · rcases ftail b k' d hk with ⟨rfl,_⟩ | ⟨h,hlt⟩
    · omega
    · exact⟨k',d,h,Nat.le_refl _,fun _=>hold b hb⟩
  · rcases ftail b k' d h with ⟨rfl,rfl,rfl⟩ | ⟨h,hlt⟩
    · rw [hnew];exact hf.2 α k _ o s hα
    · rw [hold b hlt];exact hf.2 b k' d o s h
 refine⟨⟨fun b x h => ?_,fun b k' d g o s h ht => ?_,fun b k' cs h => ?_,fun b1 b2 x y h1 h2=>hr.cc b1 b2 x y (fcells _ _ h1).1 (fcells _ _ h2).1,fun b1 b2 x k' d g o s h1 h2 ht => ?_,fun b1 b2 k1 d1 k2 d2 g o s o' s' h1 h2 ht ht' => ?_,fun g sz xs h=>(hr.glob g sz xs h).low hev (.ip _ _ _ _),fun b vs S h => ?_,fun b b' vs vs' S S' h h'=>hr.oo b b' vs vs' S S' (fobj _ _ _ h).1 (fobj _ _ _ h').1,fun r m h=>(hr.gm r m h).of rfl (hev.blk r (hr.gm r m h).lt (hr.gm r m h).2.1).2 fun x v hx q=>q.low hev (hx _)⟩,hev⟩
 · obtain⟨h,hlt⟩:=fcells _ _ h
   obtain⟨c,e,q1,q2,q3⟩:=hr.cells b x h
   exact⟨c,e,q1,q2,fun i y hy=>let ⟨v,a,q⟩:=q3 i y hy;⟨v,a,q.1.low hev (hb b _ hlt h y (List.mem_of_getElem? hy)),q.2⟩⟩
 · rcases ftail b k' d h with ⟨rfl,rfl,rfl⟩ | ⟨h,hlt⟩
   · rw [hnew] at ht;exact hr.tail α k _ g o s hα ht
   · rw [hold b hlt] at ht;exact hr.tail b k' d g o s h ht
 · rcases ftail b k' _ h with ⟨rfl,_,hd⟩ | ⟨h,hlt⟩
   · cases hd
   · rw [hold b hlt]
     obtain⟨q0,q1,q2⟩:=hr.vec b k' cs h
     refine⟨q0,q1,fun g o s hg => ?_⟩
     obtain⟨p0,p1,p2⟩:=q2 g o s hg
     exact⟨p0,p1,fun i x hx=>let ⟨v,a,b'⟩:=p2 i x hx;⟨v,a,b'.1.low hev (hb b _ hlt h x (List.mem_of_getElem? hx)),b'.2⟩⟩
 · have h1':=(fcells _ _ h1).1
   rcases ftail b2 k' d h2 with ⟨rfl,rfl,rfl⟩ | ⟨h,hlt⟩
   · rw [hnew] at ht;exact hr.ct b1 α x k _ g o s h1' hα ht
   · rw [hold b2 hlt] at ht;exact hr.ct b1 b2 x k' d g o s h1' h ht
 · rcases ftail b1 k1 d1 h1 with ⟨rfl,rfl,rfl⟩ | ⟨p1,l1⟩<;>rcases ftail b2 k2 d2 h2 with ⟨rfl,rfl,rfl⟩ | ⟨p2,l2⟩
   · rfl
   · rw [hnew] at ht;rw [hold b2 l2] at ht'
     have:=hr.tt α b2 k _ k2 _ g o s o' s' hα p2 ht ht';omega
   · rw [hnew] at ht';rw [hold b1 l1] at ht
     have:=hr.tt b1 α k1 _ k _ g o s o' s' p1 hα ht ht';omega
   · rw [hold b1 l1] at ht;rw [hold b2 l2] at ht'
     exact hr.tt b1 b2 k1 _ k2 _ g o s o' s' p1 p2 ht ht'
 · obtain⟨h,hlt⟩:=fobj _ _ _ h
   obtain⟨o,us,q1,q2,q3,q4⟩:=hr.objs b vs S h
   exact⟨o,us,q1,q2,⟨q3.1,fun i x v a b'=>(q3.2 i x v a b').low hev (hb b _ hlt h x (List.mem_of_getElem? a))⟩,q4⟩

section ret
variable {C:Cx} {k:List Item} {env:Env} {H:Hp} {R:AV → Hp → Prop}

theorem ARun.retOwn {fn:Func} {α v sz:Nat} {xs:List PV} (hfn:C.P.funcs[C.fid]? = some fn) {rs:List ResultVar} (hrs:fn.results.toList=rs) (hx:zcM C.P rs env H=some (.sl α v sz xs)) (hα:H.f α=some (.tail v)) (hge:C.n0≤α) (hb:Bel C.n0 H)
 (hR:R (.sl C.n0 0 sz xs) ((H.trunc C.n0).new (.tail 0))) (hro:C.round=none:=by rfl):ARun C (.code .ret :: k) env H R:=by
 refine .leave hro hfn hrs hx _ (fun _ _ _ _ h=>stepR_ret h) _ _ hR fun σ w u h1 h2 _ => ?_
 obtain⟨q1,q3⟩:=ziW h1 hb hα hge
 refine⟨_,q1,?_,q3⟩
 cases h2 with | sl hp ht =>
 refine .sl (hp.mono q3.cell) ⟨by simp [Hp.n_new,Hp.n_trunc],fun k0 d hk0 => ?_⟩
 have e0:k0=0:=by simp [Hp.f_new,Hp.n_trunc] at hk0;omega
 subst e0
 refine⟨Nat.le_refl _,fun _ => ?_⟩
 have:=(ht.2 v _ hα).2 rfl
 simpa [Gh.withT] using this
end ret
end Go.AL

/-
  Loops over a function: the loop's record,the calls of its yield function,the rounds,the statement.
  Conditions: none;nothing here speaks of one program.
-/
namespace Go.AL
open Go

def zc2 (fn:FuncId) (ps:Array Tmp) (assign body:Code) (st:LoopState) (pend:Option Code):OS :=
 ⟨fun us o => ∃ d,o = .loop { state:=st,pending:=pend,fn,tmps:=us,params:=ps,assign,body,defers:=d },none,fun _ h=>by cases h⟩

def LoopL (L:LoopState → Option Code → OS):Prop := ∃ fn ps assign body,L=zc2 fn ps assign body

theorem LoopL.inv {L:LoopState → Option Code → OS} (h:LoopL L) {st:LoopState} {pend:Option Code} {us:Array Value} {o:Obj} (ho:L st pend us o) :
 ∃ r:Loop,o = .loop r∧r.state=st∧r.pending=pend ∧ ∀ st' pend',L st' pend' us (.loop { r with state:=st',pending:=pend' }):=by
 obtain⟨fn,ps,x,y,rfl⟩:=h
 obtain⟨d,rfl⟩:=ho
 exact⟨_,rfl,rfl,rfl,fun st' pend'=>⟨d,rfl⟩⟩

section states
variable {G:Globs} {σ:Gh} {H:Hp} {w:World}

end states

def zaJ (nt:Nat) (env:Env):List AV:=(List.range nt).map env

def putArgs:List Nat → List AV → Env → Env
 | p :: ps,x :: xs,e=>putArgs ps xs (e.put (some p) x)
 | _,_,e=>e

def zz6 (nt:Nat) (env:Env) (ps:List Nat) (args:List AV):Env:=putArgs ps args fun i=>if i < nt then env i else .tup []

theorem RelF.putArgs {nt m:Nat} {σ:Gh} {H:Hp} {w:World} : ∀ {ps:List Nat} {args:List AV} {vs:List Value} {env:Env} {tmps:Array Value},RelF nt m σ H w env { tmps,defers:=[] } → (∀ p∈ps,p < nt) → vs.length=args.length → (∀ (i:Nat) x v,args[i]? = some x → vs[i]? = some v → RelV σ H w x v) →
 RelF nt m σ H w (putArgs ps args env) { tmps:=(ps.zip vs).foldl (fun t x=>t.setIfInBounds x.1 x.2) tmps,defers:=[] }
 | [],args,vs,env,tmps,hf,_,_,_=>hf
 | p :: ps,[],vs,env,tmps,hf,_,hl,_=>by
  have:vs=[]:=by simpa using hl
  subst this;exact hf
 | p :: ps,x :: args,[],env,tmps,hf,_,hl,_=>by simp at hl
 | p :: ps,x :: args,v :: vs,env,tmps,hf,hp,hl,hr=>by
  have h1:RelF nt m σ H w (env.put (some p) x) { tmps:=tmps.setIfInBounds p v,defers:=[] }:=hf.put (d:=some p) (fun i hi=>by cases hi;exact hp p (by simp)) (hr 0 x v rfl rfl)
  exact RelF.putArgs (ps:=ps) h1 (fun q hq=>hp q (by simp [hq])) (by simpa using hl) (fun i x v a b=>hr (i+1) x v (by simpa using a) (by simpa using b))

theorem AYield.of_round {P:Program} {G:Globs} {b:Nat} {H:Hp} {R:AV → Hp → Prop} {fn:FuncId} {ps:List Nat} {assign body:Code} {nt:Nat} {env:Env} {args:List AV} {raw:List Nat}
 (hb:H.f b=some (.obj (zaJ nt env) (zc2 fn ps.toArray assign body .ready none))) (hps : ∀ p∈ps,p < nt) (hl:args.length=ps.length)
 (h:ARun ⟨P,G,fn,nt,H.n,raw,some b⟩ [.code assign,.beginRound,.code body] (zz6 nt env ps args) H R):AYield P G b args H R:=by
 intro σ w vs hr hvs
 obtain⟨o,us,q1,q2,q3,d,rfl⟩:=hr.objs b _ _ hb
 refine⟨_,_,_,_,run_yield q1 (by simpa [hl] using hvs.1),trivial,fun c cs _ => ?_⟩
 have hus:us.size=nt:=by simpa [zaJ] using q3.1
 let fr:Frame := { (default:Frame) with fn:=fn,kind := .normal,roundOf:=some (σ.c b) }
 have hzip:((ps.toArray.zip vs).foldl (fun tmps (t,a)=>tmps.setIfInBounds t a) us)=(ps.zip vs.toList).foldl (fun t x=>t.setIfInBounds x.1 x.2) us:=by
  rw [←Array.foldl_toList]
  simp [Array.toList_zip]
 have h0:Frame.round (σ.c b) fn ((ps.zip vs.toList).foldl (fun t x=>t.setIfInBounds x.1 x.2) us) assign body .normal=fr.atR { tmps:=(ps.zip vs.toList).foldl (fun t x=>t.setIfInBounds x.1 x.2) us,defers:=[] } [.code assign,.beginRound,.code body]:=by
  simp [Frame.round,Frame.atR,fr]
 have hF0:RelF nt w.heap.size σ H w (fun i=>if i < nt then env i else .tup []) { tmps:=us,defers:=[] }:=by
  refine⟨⟨[],rfl,List.nodup_nil,by simp⟩,hus,fun i => ?_⟩
  simp only
  split
  · rename_i hi
    have h2:=q3.2 i (env i) us[i] (by simp [zaJ,hi]) (by simp)
    simpa [Array.getD_eq_getD_getElem?,hus,hi] using h2
  · rename_i hi
    have:us.getD i undef=undef:=by simp [Array.getD_eq_getD_getElem?,Array.getElem?_eq_none (by omega:us.size≤i)]
    rw [this];exact .tup #[] rfl (by simp)
 have hF:=hF0.putArgs (ps:=ps) (args:=args) (vs:=vs.toList) hps (by simpa using hvs.1) (fun i x v e1 e2=>hvs.2 i x v e1 (by simpa using e2))
 obtain⟨r,H',σ',v,w',M,q,hst,⟨c1,cs1,hcs,rfl⟩,hrel',hv,hev⟩:=h σ w _ fr (c :: cs) w.heap.size ⟨rfl,rfl,rfl,fun _=>by simp⟩ ⟨hr,hF,Nat.le_refl _,Nat.le_refl _,fun l hl=>by cases hl;exact Hp.lt hb⟩
 cases hcs
 refine⟨.returned v,w',⟨r,H',σ',v,q,rfl,hrel',hv,hev⟩,?_⟩
 rw [hzip,h0]
 exact stepsIn_wide.2 hst

section rounds
variable {C:Cx} {k:List Item} {env:Env} {H:Hp} {R:AV → Hp → Prop} {l:Nat} {vs:List AV} {L:LoopState → Option Code → OS}

theorem ARun.beginRound (hro:C.round=some l) (hL:LoopL L) (hl:H.f l=some (.obj vs (L .ready none))) (h:ARun C k env (H.set l (.obj vs (L .busy none))) R):ARun C (.beginRound :: k) env H R:=by
 intro σ w a b cs m hb hpre
 obtain⟨o,us,q1,q2,q3,q4⟩:=hpre.rel.objs l _ _ hl
 obtain⟨r,rfl,hst,hp,hall⟩:=hL.inv q4
 have hrun:=run_beginRound (P:=C.P) q1 hst
 have e:({ r with state := .busy }:Loop) = { r with state := .busy,pending:=none }:=by cases r;simp only at hp;subst hp;rfl
 obtain⟨r1,e1⟩:=zbB hpre.rel hl q1 q2 q3 (o' := .loop { r with state := .busy }) rfl (by rw [e];exact hall .busy none)
 have hro':b.roundOf=some (σ.c l):=by rw [hb.ro,hro];rfl
 obtain⟨r',H',σ',v,w',M,q,st,q1',q2',q3',q5⟩:=h σ _ a b cs m hb (hpre.go r1 (hpre.fr.mono e1) e1)
 exact⟨r',H',σ',v,w',M,q,.head (stepR_beginRound hro' hrun) st,q1',q2',q3',e1.transM q5 hpre.n0 hpre.m⟩



theorem ARun.roundOverK (hro:C.round=some l) (hL:LoopL L) (hl:H.f l=some (.obj vs (L .busy none))) (jump:Option Code) (todo:List Item)
 (hR:R (.p (bo jump.isNone)) (H.set l (.obj vs (L (if jump.isNone then .ready else .done) jump))))
 (hs : ∀ (b:Frame) (a:Act) (c:Frame) cs w v w' g,b.roundOf=some g → b.kind = .normal → (Instr.endRound g jump).run C.P w = .ok v w' → step C.P (lone (b.atR a todo) (c :: cs) w) = .next (lone (c.finish v) cs w')):ARun C todo env H R:=by
 intro σ w a b cs m hbase hpre
 obtain⟨o,us,q1,q2,q3,q4⟩:=hpre.rel.objs l _ _ hl
 obtain⟨r,rfl,hst,hp,hall⟩:=hL.inv q4
 have hrun:=run_endRound (P:=C.P) jump q1
 obtain⟨r1,e1⟩:=zbB hpre.rel hl q1 q2 q3 (o' := .loop { r with state:=if jump.isNone then .ready else .done,pending:=jump }) rfl (hall _ _)
 have hro':b.roundOf=some (σ.c l):=by rw [hbase.ro,hro];rfl
 have hcs:=hbase.cs (by rw [hro];rfl)
 cases cs with
 | nil=>exact absurd rfl hcs
 | cons c cs =>
  refine⟨_,_,σ,.bool jump.isNone,_,lone (c.finish (.bool jump.isNone)) cs (w.putObj (σ.c l) (.loop { r with state:=if jump.isNone then .ready else .done,pending:=jump })),hR,.one (hs b a c cs w _ _ _ hro' hbase.kind hrun),?_,r1,.p (.s _ rfl),(e1.weaken hpre.n0).lower hpre.m⟩
  unfold Fin
  rw [hro]
  exact⟨c,cs,rfl,rfl⟩
theorem ARun.roundEndK (hro:C.round=some l) (hL:LoopL L) (hl:H.f l=some (.obj vs (L .busy none))) (hR:R (.p (bo true)) (H.set l (.obj vs (L .ready none)))):ARun C [] env H R :=
 .roundOverK hro hL hl none [] hR fun _ _ _ _ _ _ _ _ h1 h2 h3=>stepR_round_end h1 h2 h3
end rounds

section stmt
variable {C:Cx} {k:List Item} {env:Env} {H:Hp} {R:AV → Hp → Prop}

def zeg (C:Cx) (L:LoopState → Option Code → OS) (vs:List AV) (k:List Item) (env:Env) (H:Hp) (R:AV → Hp → Prop) (H2:Hp):Prop :=
 Bel H.n H2∧((H2.f H.n=some (.obj vs (L .ready none))∧ARun C k env (H2.trunc H.n) R) ∨
  ∃ j,H2.f H.n=some (.obj vs (L .done (some j)))∧ARun C (.code j :: k) env (H2.trunc H.n) R)

theorem RelVs.app {σ:Gh} {H:Hp} {w:World} {xs ys:List AV} {us vs:Array Value} (h1:RelVs σ H w xs us) (h2:RelVs σ H w ys vs):RelVs σ H w (xs++ys) (us++vs):=by
 refine⟨by simp [h1.1,h2.1],fun i x v e1 e2 => ?_⟩
 by_cases hi:i < us.size
 · rw [List.getElem?_append_left (by rw [←h1.1];exact hi)] at e1
   rw [Array.getElem?_append_left hi] at e2
   exact h1.2 i x v e1 e2
 · rw [List.getElem?_append_right (by rw [←h1.1];omega)] at e1
   rw [Array.getElem?_append_right (by omega)] at e2
   rw [←h1.1] at e1
   exact h2.2 _ x v e1 e2

theorem ARun.rangeFunc {g:Operand} {ps:List Nat} {assign body:Code} {f:FuncId} {first captured:List AV} (hro:C.round=none) (hg:yg C.G env g = .clo f first captured) (he:enters C.P f=true) (hps : ∀ p∈ps,p < C.nt)
 (h : ∀ (L:LoopState → Option Code → OS) (vs:List AV),LoopL L → (∀ y∈vs,BelowN H.n y) →
  (∀ (args:List AV) (H1:Hp) (K:AV → Hp → Prop),args.length=ps.length → H1.f H.n=some (.obj vs (L .ready none)) →
   (Bel H1.n H1 → ARun ⟨C.P,C.G,C.fid,C.nt,H1.n,C.raw,some H.n⟩ [.code assign,.beginRound,.code body] (zz6 C.nt env ps args) H1 K) → AYield C.P C.G H.n args H1 K) →
  ACall C.P C.G f (first++[.yld H.n]++captured) (H.new (.obj vs (L .ready none))) fun _ H2=>zeg C L vs k env H R H2) :
 ARun C (.code (.rangeFunc g ps.toArray assign body) :: k) env H R:=by
 intro σ w a b cs m hb hpre
 have h:=h (zc2 C.fid ps.toArray assign body) (zaJ C.nt env) ⟨_,_,_,_,rfl⟩ (fun y hy=>by
  simp only [zaJ,List.mem_map] at hy
  obtain⟨i,_,rfl⟩:=hy
  exact (hpre.fr.slot i).belowN) fun args H1 K h1 h2 h3 σ w vs hr hvs=>AYield.of_round (raw:=C.raw) h2 hps h1 (h3 hr.bel) σ w vs hr hvs
 have hro':b.roundOf=none:=by rw [hb.ro,hro];rfl
 obtain⟨r1,e1⟩:=zhJ hpre.rel (.deferred (some []))
 have hf1:=hpre.fr.mono e1
 have hus:RelVs σ H (w.alloc (.deferred (some []))) (zaJ C.nt env) a.tmps:=⟨by simp [zaJ,hpre.fr.size],fun i x v e1 e2=>by
  simp only [zaJ,List.getElem?_map,Option.map_eq_some_iff] at e1
  obtain⟨j,hj,rfl⟩:=e1
  have hji:j=i:=by
   have:=List.getElem?_eq_some_iff.1 hj
   simpa using this.2.symm
  subst hji
  have:=hf1.slot j
  simpa [Array.getD_eq_getD_getElem?,e2] using this⟩
 obtain⟨r2,e2⟩:=zfV r1 (.loop { state := .ready,pending:=none,fn:=C.fid,tmps:=a.tmps,params:=ps.toArray,assign,body,defers:=w.heap.size }) rfl (zaJ C.nt env) a.tmps (zc2 C.fid ps.toArray assign body .ready none) hus ⟨_,rfl⟩
 have e12:=e1.trans e2 (Nat.le_refl _)
 generalize hw2:(w.alloc (.deferred (some []))).alloc (.loop { state := .ready,pending:=none,fn:=C.fid,tmps:=a.tmps,params:=ps.toArray,assign,body,defers:=w.heap.size })=w2 at r2 e2 e12
 have hsz:(w.alloc (.deferred (some []))).heap.size=w.heap.size+1:=by simp
 have henter:(Instr.enterLoop b.fn a.tmps ps.toArray assign body b.roundOf).run C.P w = .ok (w.heap.size+1,[{ target := .collected w.heap.size,args := #[] }]) w2:=by
  rw [hro',run_enterLoop_outer,hb.fn,←hw2]
 rw [hsz] at r2 e2 e12
 -- the call
 have hgv:=zo hpre.rel hpre.fr g
 rw [hg] at hgv
 generalize hv:a.eval g=gv at hgv
 have hgv2:=hgv.mono e12
 cases hgv2 with | clo fs css c1 c2 c3 c4 =>
 have hargs:RelVs (σ.withC H.n (w.heap.size+1)) (H.new (.obj (zaJ C.nt env) (zc2 C.fid ps.toArray assign body .ready none))) w2 (first++[.yld H.n]++captured) (fs ++ #[.func (.yield (w.heap.size+1)) #[] #[]]++css):=by
  refine RelVs.app (RelVs.app ⟨c1,c3⟩ ⟨rfl,fun i x v e1 e2 => ?_⟩) ⟨c2,c4⟩
  have hi:i=0:=by
   have:=(List.getElem?_eq_some_iff.1 e1).1
   simp at this;omega
  subst hi
  simp at e1 e2
  subst e1;subst e2
  have:(σ.withC H.n (w.heap.size+1)).c H.n=w.heap.size+1:=by simp [Gh.withC]
  have hh:=RelV.yld (σ:=σ.withC H.n (w.heap.size+1)) (H:=H.new (.obj (zaJ C.nt env) (zc2 C.fid ps.toArray assign body .ready none))) (w:=w2) (b:=H.n) (by simp [Hp.n_new])
  rwa [this] at hh
 have hres:(resolve a.eval (rangeCall g (w.heap.size+1)) 0).run C.P w2 = .ok { target := .fn (.func f) css,args:=fs ++ #[.func (.yield (w.heap.size+1)) #[] #[]] } w2:=by
  have hc:a.eval (.const (.func (.yield (w.heap.size+1)) #[] #[])) = .func (.yield (w.heap.size+1)) #[] #[]:=rfl
  simp [resolve,hv,hc,Deferred.ofValue]
 have hinv:(invoke (.fn (.func f) css) (fs ++ #[.func (.yield (w.heap.size+1)) #[] #[]])).run C.P w2 = .ok (.enter f (fs ++ #[.func (.yield (w.heap.size+1)) #[] #[]]++css)) w2:=by
  simp only [invoke]
  exact zfZ he _ w2
 have hstep:=stepR_rangeFunc (P:=C.P) (b:=b) (a:=a) (k:=k) (cs:=cs) (w:=w) henter hres hinv
 obtain⟨e,w3,fr,⟨rv,H3,σ3,v3,⟨hbel,hend⟩,rfl,r3,hv3,e3⟩,hst3,hfn3,hlv3⟩:=h (σ.withC H.n (w.heap.size+1)) w2 _ r2 hargs (b.atR { a with defers:=[{ target := .collected w.heap.size,args := #[] }]++a.defers } (.inRangeFunc (w.heap.size+1) :: k) :: cs)
 have hback:=step_leave_returned (P:=C.P) (c:=b.atR { a with defers:=[{ target := .collected w.heap.size,args := #[] }]++a.defers } (.inRangeFunc (w.heap.size+1) :: k)) (cs:=cs) hlv3
 rw [finish_atR_inRangeFunc] at hback
 have hlt3:H.n < (H.new (.obj (zaJ C.nt env) (zc2 C.fid ps.toArray assign body .ready none))).n:=by simp [Hp.n_new]
 have hc3:σ3.c H.n=w.heap.size+1:=by rw [e3.c _ hlt3];simp [Gh.withC]
 have e13:Ev H.n σ H w σ3 H3 w3:=e12.trans (e3.weaken (by simp [Hp.n_new])) (Nat.le_refl _)
 -- the mark's block
 have hfree0:Free σ H w.heap.size:=⟨fun b' cs' h'=>by have:=hpre.rel.c_lt h';omega,fun b' k' d o s h' ht=>by have:=hpre.rel.t_lt h' ht;omega,fun b' vs' S h'=>by have:=hpre.rel.o_lt h';omega⟩
 have hmark2:w2.heap[w.heap.size]? = some (.deferred (some []))∧Free (σ.withC H.n (w.heap.size+1)) (H.new (.obj (zaJ C.nt env) (zc2 C.fid ps.toArray assign body .ready none))) w.heap.size:=by
  have:=e2.blk w.heap.size (by omega) hfree0
  exact⟨this.1.trans (World.alloc_heap_new w _),this.2⟩
 have hmark3:=e3.blk w.heap.size (zaC hmark2.1) hmark2.2
 have key : ∀ st pend,H3.f H.n=some (.obj (zaJ C.nt env) (zc2 C.fid ps.toArray assign body st pend)) → st ≠ .busy → ARun C ((pend.map Item.code).toList++k) env (H3.trunc H.n) R →
  ∃ r H' σ' v w' M,R r H'∧Steps C.P (lone (b.atR a (.code (.rangeFunc g ps.toArray assign body) :: k)) cs w) M∧Fin C cs w' v M∧Rel C.G σ' H' w'∧RelV σ' H' w' r v∧EvM C.n0 m σ H w σ' H' w':=by
  intro st pend hf hst hrun
  obtain⟨o,us,q1,q2,q3,d,rfl⟩:=r3.objs H.n _ _ hf
  rw [hc3] at q1
  have hel:=run_endLoop (P:=C.P) q1 hst
  obtain⟨r4,e4⟩:=zbB r3 hf (by rw [hc3];exact q1) q2 q3 (S':=zc2 C.fid ps.toArray assign body .exhausted pend) (o' := .loop { state := .exhausted,pending:=pend,fn:=C.fid,tmps:=us,params:=ps.toArray,assign,body,defers:=d }) rfl ⟨d,rfl⟩
  rw [hc3] at r4 e4
  generalize hw4:w3.putObj (w.heap.size+1) (.loop { state := .exhausted,pending:=pend,fn:=C.fid,tmps:=us,params:=ps.toArray,assign,body,defers:=d })=w4 at r4 e4
  have hbel4:Bel H.n (H3.set H.n (.obj (zaJ C.nt env) (zc2 C.fid ps.toArray assign body .exhausted pend))):=(Bel.set_hi (Nat.le_refl _)).2 hbel
  obtain⟨r5,e5⟩:=zeI r4 hbel4
  rw [Hp.trunc_set _ _ _ _ (Nat.le_refl _)] at r5 e5
  have e15:Ev H.n σ H w σ3 (H3.trunc H.n) w4:=(e13.trans (e4.weaken e13.hn) (Nat.le_refl _)).trans e5 (Nat.le_refl _)
  have hmark4:=e4.blk w.heap.size (zaC (hmark3.1.trans hmark2.1)) hmark3.2
  have hmark5:=e5.blk w.heap.size (zaC (hmark4.1.trans (hmark3.1.trans hmark2.1))) hmark4.2
  have hfr:=hpre.fr.mono e15
  have hfr':RelF C.nt m σ3 (H3.trunc H.n) w4 env { a with defers:=mark w.heap.size :: a.defers }:=by
   obtain⟨ms,d1,d2,d3⟩:=hfr.defers
   obtain⟨ms0,f1,f2,f3⟩:=hpre.fr.defers
   have hms:ms=ms0:=by
    have:=d1.symm.trans f1
    exact (List.map_inj_right (fun x y hxy=>by simpa [mark] using hxy)).1 this
   subst hms
   refine⟨⟨w.heap.size :: ms,by simp [d1],List.nodup_cons.2 ⟨fun hmem => ?_,d2⟩,fun r hr => ?_⟩,hfr.size,hfr.slot⟩
   · have:=zaC (f3 _ hmem).2.1;omega
   · rcases List.mem_cons.1 hr with rfl | hr
     · exact⟨hpre.m,hmark5.1.trans (hmark4.1.trans (hmark3.1.trans hmark2.1)),hmark5.2⟩
     · exact d3 r hr
  obtain⟨r',H',σ',v',w',M,q,st',p1,p2,p3,p5⟩:=hrun σ3 w4 _ b cs m (hb.mono hpre.n0 e15.c hpre.lt) (hpre.go r5 hfr' e15)
  refine⟨r',H',σ',v',w',M,q,?_,p1,p2,p3,e15.transM p5 hpre.n0 hpre.m⟩
  refine .head hstep (Steps.trans hst3 (.head hback (.head (stepR_endRangeFunc (hel.trans (by rw [hw4]))) st')))
 rcases hend with ⟨hf,hrun⟩ | ⟨j,hf,hrun⟩
 · exact key .ready none hf (by simp) hrun
 · exact key .done (some j) hf (by simp) hrun
end stmt

section kinds
variable {fl:Bool} {sz n a v b off len i sub:Nat} {xs:List PV} {f:FuncId} {x y:List AV}
theorem znn:zi (.p (.sl fl sz xs))=some [.p (.sl fl sz xs)]:=rfl
theorem zq9:zi (.sl a v sz xs)=some [.sl a v sz xs]:=rfl
theorem zno:zi (.ref b off len sz)=some [.ref b off len sz]:=rfl
theorem znp:zi (.ptr b off)=some [.ptr b off]:=rfl
theorem zra:zi (.ip sz xs i sub)=some [.ip sz xs i sub]:=rfl
theorem znq:zi (.clo f x y)=some [.clo f x y]:=rfl
theorem znr:zi (.yld b)=some [.yld b]:=rfl
theorem ztf:(PV.sl fl sz xs).isAgg=false:=rfl
theorem zrb:zaL false [.p (.sl fl sz xs)]=some (.sl fl sz xs):=rfl
theorem zkP (h:xs.length=n):(PV.agg xs).aggOf 0 n = .agg xs:=by
 subst h
 simp [PV.aggOf,PV.isAgg,PV.cells]
end kinds
attribute [go_sem] znn zq9 zno znp zra znq znr ztf zrb zkP

theorem zxg {a b:Int} (h:a=b):AV.p (i64 a)=AV.p (i64 b):=by rw [h]

/-! ### Heaps with blocks on top; the slots of a round; what rows hold -/

def app (H:Hp) (T:List AB):Hp:=T.foldl Hp.new H

section app
variable {H:Hp} {b c:Nat} {x:AB} {T:List AB}
theorem zaS:app H []=H:=rfl
theorem zY:app H (x :: T)=app (H.new x) T:=rfl
theorem app_n':(app H T).n=H.n+T.length:=by
 induction T generalizing H with
 | nil=>rfl
 | cons y T ih=>rw [zY,ih,n_new',List.length_cons];omega
theorem zgp (h:b < H.n):(app H T).f b=H.f b:=by
 induction T generalizing H with
 | nil=>rfl
 | cons y T ih=>rw [zY,ih (by rw [n_new'];omega),zkt (by omega)]
theorem zds (h:b < H.n):(app H T).set b x=app (H.set b x) T:=by
 induction T generalizing H with
 | nil=>rfl
 | cons y T ih=>rw [zY,ih (by rw [n_new'];omega),zgd h,zY]
theorem zhU (h:b≤H.n):(app H T).trunc b=H.trunc b:=by
 induction T generalizing H with
 | nil=>rfl
 | cons y T ih=>rw [zY,ih (by rw [n_new'];omega),trunc_new' h]
theorem zoY:(H.new x)=app H [x]:=rfl
theorem zO {S:List AB}:app (app H T) S=app H (T++S):=by simp [app]
end app

def zns (nt:Nat) (env:Env):Env:=fun i=>if i < nt then env i else .tup []
theorem zrc {nt i:Nat} {env:Env} (h:i < nt):zns nt env i=env i:=by simp [zns,h]
theorem ztg {nt:Nat} {env:Env} {ps:List Nat} {args:List AV}:zz6 nt env ps args=putArgs ps args (zns nt env):=rfl
theorem zkQ {xs:List AV} {e:Env}:putArgs [] xs e=e:=by cases xs<;>rfl
theorem ziX {p:Nat} {ps:List Nat} {x:AV} {xs:List AV} {e:Env}:putArgs (p :: ps) (x :: xs) e=putArgs ps xs (e.put (some p) x):=rfl
attribute [go_sem] zgp zds zhU app_n' zrc ztg zkQ ziX

theorem BelowN.mono {n m:Nat} (h:n≤m) {x:AV} (r:BelowN n x):BelowN m x:=by
 induction r with
 | p x=>exact .p x
 | sl a v sz xs h1=>exact .sl _ _ _ _ (by omega)
 | ref b off len sz h1=>exact .ref _ _ _ _ (by omega)
 | ptr b off h1=>exact .ptr _ _ (by omega)
 | ip sz xs i sub=>exact .ip _ _ _ _
 | clo fn a c _ _ ih1 ih2=>exact .clo _ _ _ ih1 ih2
 | tup xs _ ih=>exact .tup _ ih
 | agg xs _ ih=>exact .agg _ ih
 | yld b h1=>exact .yld _ (by omega)
 | mp b h1=>exact .mp _ (by omega)
 | vr b _ _ h1=>exact .vr _ _ _ (by omega)
 | vp b _ _ h1=>exact .vp _ _ _ (by omega)
 | top=>exact .top

section bel
variable {n m b:Nat} {H:Hp} {x:AB} {α:Type} {f:α → PV} {l:List α} {T:List AB}
theorem zth (h:Bel m H) (hm:H.n≤m) (hn:m≤n):Bel n H:=fun b x _ hf y hy=>(h b x (Nat.lt_of_lt_of_le (Hp.lt hf) hm) hf y hy).mono hn
theorem yI (h:Bel H.n H) (hn:H.n≤n):Bel n H:=zth h (Nat.le_refl _) hn
theorem yu (h:Bel n H) (hx : ∀ y∈x.vals,BelowN n y):Bel n (H.new x):=fun b z hb hf y hy=>by
 rw [Hp.f_new] at hf
 split at hf
 · cases hf;exact hx y hy
 · exact h b z hb hf y hy
theorem zaY (h:Bel n H):Bel n (H.new (.cells (cl f l))):=yu h fun y hy=>by
 simp only [AB.vals,cl,List.mem_map] at hy
 obtain⟨a,_,rfl⟩:=hy
 exact .p _
theorem zaZ {z:PV} (h:Bel n H):Bel n (H.new (.cells [.p z])):=yu h fun y hy=>by
 simp only [AB.vals,List.mem_singleton] at hy
 subst hy;exact .p _
theorem za0 {k:Nat} (h:Bel n H):Bel n (H.new (.tail k)):=yu h fun y hy=>by simp [AB.vals] at hy
theorem za1 {vs:List AV} {S:OS} (hv : ∀ y∈vs,BelowN m y) (h:Bel n H) (hm:m≤n):Bel n (H.new (.obj vs S)):=yu h fun y hy=>(hv y hy).mono hm
theorem zbD (h:Bel n H) (hx : ∀ y∈x.vals,BelowN n y):Bel n (H.set b x):=fun c z hb hf y hy=>by
 rw [Hp.f_set] at hf
 split at hf
 · cases hf;exact hx y hy
 · exact h c z hb hf y hy
theorem za2 {z:PV} (h:Bel n H):Bel n (H.set b (.cells [.p z])):=zbD h fun y hy=>by
 simp only [AB.vals,List.mem_singleton] at hy
 subst hy;exact .p _
theorem za3 {k:Nat} (h:Bel n H):Bel n (H.set b (.tail k)):=zbD h fun y hy=>by simp [AB.vals] at hy
end bel

end Go.AL

/-
  Rows that are written no more become plain data.
  Conditions: none;nothing here speaks of one program.
-/
namespace Go.AL
open Go

theorem ARun.ghost {C:Cx} {todo:List Item} {env env':Env} {H H':Hp} {R:AV → Hp → Prop}
 (hg : ∀ σ w a m,Pre C σ H w env a m → ∃ σ',Rel C.G σ' H' w∧(∀ i,RelV σ' H' w (env' i) (a.tmps.getD i undef))∧Ev H.n σ H w σ' H' w) (h:ARun C todo env' H' R):ARun C todo env H R:=by
 intro σ w a b cs m h1 hpre
 obtain⟨σ',hr,hs,hev⟩:=hg σ w a m hpre
 have h4:=hpre.fr.mono hev
 obtain⟨r,H2,σ2,v,w2,M,q,st,q1,q2,q3,q5⟩:=h σ' w a b cs m (h1.mono hpre.n0 hev.c hpre.lt) (hpre.go hr ⟨h4.defers,h4.size,hs⟩ hev)
 exact⟨r,H2,σ2,v,w2,M,q,st,q1,q2,q3,hev.transM q5 hpre.n0 hpre.m⟩

section states
variable {G:Globs} {σ:Gh} {H:Hp} {w:World}

theorem zeh (hr:Rel G σ H w) (b:Nat):Rel G σ (H.set b .dead) w∧Ev H.n σ H w σ (H.set b .dead) w:=by
 have hf : ∀ b' x,x ≠ .dead → (H.set b .dead).f b'=some x → H.f b'=some x:=by
  intro b' x hx h
  rw [Hp.f_set] at h
  split at h
  · cases h;exact absurd rfl hx
  · exact h
 have fc : ∀ b' x,(H.set b .dead).f b'=some (.cells x) → H.f b'=some (.cells x):=fun b' x h=>hf b' _ (by simp) h
 have ft : ∀ b' k d,(H.set b .dead).f b'=some (.tl k d) → H.f b'=some (.tl k d):=fun b' x d h=>hf b' _ (by simp) h
 have fo : ∀ b' vs S,(H.set b .dead).f b'=some (.obj vs S) → H.f b'=some (.obj vs S):=fun b' x _ h=>hf b' _ (by simp) h
 have hev:Ev H.n σ H w σ (H.set b .dead) w :=
  ⟨fun g o v h1 h2=>⟨⟨fun b' x h=>h1.1 b' x (fc _ _ h),fun b' k d o2 s h=>h1.2 b' k d o2 s (ft _ _ _ h)⟩,h2⟩,fun _ _=>rfl,Nat.le_refl _,fun b' _ k d hk=>⟨k,d,ft b' k d hk,Nat.le_refl _,fun _=>rfl⟩,Nat.le_refl _,
   fun g _ hg=>⟨rfl,fun b' x h=>hg.1 b' x (fc _ _ h),fun b' k d o2 s h=>hg.2 b' k d o2 s (ft _ _ _ h),fun b' vs S h=>hg.3 b' vs S (fo _ _ _ h)⟩,rfl,rfl⟩
 refine⟨⟨fun b' x h => ?_,fun b' k d g o s h ht=>hr.tail b' k d g o s (ft _ _ _ h) ht,hr.vec_keep hev (fun b' k ds h=>⟨ft _ _ _ h,rfl⟩) (fun _ _ _ _ _ _ _ _ _=>rfl),fun b1 b2 x y h1 h2=>hr.cc b1 b2 x y (fc _ _ h1) (fc _ _ h2),fun b1 b2 x k d g o s h1 h2=>hr.ct b1 b2 x k d g o s (fc _ _ h1) (ft _ _ _ h2),
  fun b1 b2 k d k' d' g o s o' s' h1 h2=>hr.tt b1 b2 k d k' d' g o s o' s' (ft _ _ _ h1) (ft _ _ _ h2),hr.glob_mono hev,fun b' vs S h => ?_,fun b1 b2 v1 v2 S1 S2 h1 h2=>hr.oo b1 b2 v1 v2 S1 S2 (fo _ _ _ h1) (fo _ _ _ h2),hr.gm_mono hev⟩,hev⟩
 · obtain⟨c,e,q1,q2,q3⟩:=hr.cells b' x (fc _ _ h)
   exact⟨c,e,q1,q2,fun i y hy=>let ⟨v,p,q⟩:=q3 i y hy;⟨v,p,q.mono hev⟩⟩
 · obtain⟨o,us,q1,q2,q3,q4⟩:=hr.objs b' vs S (fo _ _ _ h)
   exact⟨o,us,q1,q2,q3.mono hev,q4⟩

theorem ze2 (hr:Rel G σ H w) {b:Nat} {cs:List AV} (hb:H.f b=some (.cells cs)) (o:Nat):Stable σ (H.set b .dead) (σ.c b) o:=by
 have hf : ∀ b' x,x ≠ .dead → (H.set b .dead).f b'=some x → b'≠b∧H.f b'=some x:=by
  intro b' x hx h
  rw [Hp.f_set] at h
  split at h
  · cases h;exact absurd rfl hx
  · rename_i hh
    exact⟨fun e=>hh ⟨e,Hp.lt hb⟩,h⟩
 refine⟨fun b' x h e => ?_,fun b' k d o2 s h ht => ?_⟩
 · obtain⟨h1,h2⟩:=hf b' _ (by simp) h
   exact h1 (hr.cc b' b x cs h2 hb e)
 · obtain⟨h1,h2⟩:=hf b' _ (by simp) h
   exact absurd rfl (hr.ct b b' cs k _ _ o2 s hb h2 ht)

theorem zgq (hr:Rel G σ H w) {b:Nat} {ps:List PV} (hb:H.f b=some (.cells (ps.map .p))) : ∃ f:Nat → Value,∀ k y,ps[k]? = some y →
 Stable σ (H.set b .dead) (σ.c b) k∧w.cell? ⟨σ.c b,k,none⟩=some (f k)∧(f k).oneCell'=true∧RelP w (Stable σ (H.set b .dead)) y (f k):=by
 obtain⟨c,e,q1,q2,q3⟩:=hr.cells b _ hb
 obtain⟨_,hev⟩:=zeh hr b
 refine⟨fun k=>(c[k]?).getD undef,fun k y hy => ?_⟩
 obtain⟨v,p1,p2⟩:=q3 k (.p y) (by simp [hy])
 refine⟨ze2 hr hb k,by simp [World.cell?,q1,p1],by simpa [p1] using p2.2,?_⟩
 have:=p2.1.mono hev
 cases this with | p hp=>simpa [p1] using hp
end states

theorem zhV : ∀ {ps:List PV},(∀ y∈ps,y.cells=[y]) → flat ps=ps
 | [],_=>rfl
 | a :: ps,h=>by show a.cells++flat ps=_;rw [h a (by simp),zhV (fun y hy=>h y (by simp [hy]))];rfl

section freeze
variable {C:Cx} {todo:List Item} {env:Env} {H:Hp} {R:AV → Hp → Prop} {α:Type} {f:α → PV} {l:List α}

theorem ARun.frzP (t:Nat) {b:Nat} (ht:env t = .ptr b 0) (hb:H.f b=some (.cells (cl f l))) (_hf : ∀ x,(f x).cells=[f x]) (hl:0 < l.length)
 (h:ARun C todo (env.put (some t) (.ip l.length [.agg (pl f l)] 0 0)) (H.set b .dead) R):ARun C todo env H R :=
 .ghost (fun σ w a m hpre=>by
  rw [←zni] at hb
  obtain⟨r1,e1⟩:=zeh hpre.rel b
  obtain⟨F,hF⟩:=zgq hpre.rel hb
  refine⟨σ,r1,fun i => ?_,e1⟩
  simp only [Env.put]
  by_cases hi:i=t
  · subst hi
    rw [if_pos rfl]
    have hs:=hpre.fr.slot i
    rw [ht] at hs
    generalize a.tmps.getD i undef=v at hs
    cases hs with | ptr hbn =>
    have hlen:(pl f l).length=l.length:=zb2
    have hget : ∀ k,k < l.length → ∃ y,(pl f l)[k]? = some y:=fun k hk=>⟨_,List.getElem?_eq_getElem (by rw [hlen];exact hk)⟩
    have:=RelV.ip (σ:=σ) (H:=H.set b .dead) (w:=w) (sz:=l.length) (xs:=[.agg (pl f l)]) (i:=0) (sub:=0) (g:=σ.c b) (off:=0) (cap:=1)
     (.sl false _ _ _ 0 1 F (by simp) ⟨by simp,by unfold maxLen;omega⟩ (fun x hx=>by simp only [List.mem_singleton] at hx;subst hx;exact hlen)
      (fun k hk=>by
       simp only [List.length_singleton,Nat.one_mul] at hk
       obtain⟨y,hy⟩:=hget k hk
       obtain⟨p1,p2,p3,_⟩:=hF k y hy
       rw [Nat.zero_add];exact⟨p1,p2,p3⟩)
      (fun k y hy=>by
       have:flat [PV.agg (pl f l)]=pl f l:=by simp [flat,PV.cells]
       rw [this] at hy
       exact (hF k y hy).2.2.2)) (by simp) hl
    simpa using this
  · rw [if_neg hi];exact (hpre.fr.slot i).mono e1) h

theorem ARun.frzS (t:Nat) {b off len:Nat} (ht:env t = .ref b off len 1) (hb:H.f b=some (.cells (cl f l))) (hf : ∀ x,(f x).cells=[f x]) (hl:off+len≤l.length)
 (h:ARun C todo (env.put (some t) (.p (.sl false 1 (pl f ((l.drop off).take len))))) (H.set b .dead) R):ARun C todo env H R :=
 .ghost (fun σ w a m hpre=>by
  rw [←zni] at hb
  obtain⟨r1,e1⟩:=zeh hpre.rel b
  obtain⟨F,hF⟩:=zgq hpre.rel hb
  refine⟨σ,r1,fun i => ?_,e1⟩
  simp only [Env.put]
  by_cases hi:i=t
  · subst hi
    rw [if_pos rfl]
    have hs:=hpre.fr.slot i
    rw [ht] at hs
    generalize a.tmps.getD i undef=v at hs
    cases hs with | ref ad h0 hbn hcap ha =>
    obtain⟨g,o,rfl⟩:=h0
    have hlen:(pl f ((l.drop off).take len)).length=len:=by rw [zb2,List.length_take,List.length_drop];omega
    have hget : ∀ k,k < len → ∃ y,(pl f l)[off+k]? = some y∧(pl f ((l.drop off).take len))[k]? = some y:=fun k hk=>by
     refine⟨_,List.getElem?_eq_getElem (by rw [zb2];omega),?_⟩
     rw [←zoV,←zoW,List.getElem?_take_of_lt hk,List.getElem?_drop]
     exact List.getElem?_eq_getElem _
    have hone : ∀ y∈pl f ((l.drop off).take len),y.cells=[y]:=fun y hy=>by
     simp only [pl,List.mem_map] at hy
     obtain⟨x,_,rfl⟩:=hy
     exact hf x
    have key:=RelP.sl (w:=w) (S:=Stable σ (H.set b .dead)) false 1 (pl f ((l.drop off).take len)) g o _ (fun k=>F (off+k)) (by simp) ⟨by rw [hlen];exact hcap.1,hcap.2⟩ (fun y hy=>by rw [hone y hy];rfl)
     (fun k hk=>by
      rw [hlen,Nat.mul_one] at hk
      obtain⟨y,hy,_⟩:=hget k hk
      obtain⟨p1,p2,p3,_⟩:=hF _ y hy
      have:=ha (by omega)
      cases this
      exact⟨ze2 hpre.rel hb _,p2,p3⟩)
     (fun k y hy=>by
      rw [zhV hone] at hy
      have hk:=(List.getElem?_eq_some_iff.1 hy).1
      rw [hlen] at hk
      obtain⟨y',h1,h2⟩:=hget k hk
      rw [h2] at hy;cases hy
      exact (hF _ _ h1).2.2.2)
    rw [hlen] at key
    exact .p key
  · rw [if_neg hi];exact (hpre.fr.slot i).mono e1) h

theorem za4 {n b:Nat} (h:Bel n H):Bel n (H.set b .dead):=zbD h fun y hy=>by simp [AB.vals] at hy
theorem za5 {n:Nat} (h:Bel n H):Bel n (H.new .dead):=yu h fun y hy=>by simp [AB.vals] at hy
end freeze

/-! ### Bytes and strings -/

def bytesOf (l:List (BitVec 8)):ByteArray:=⟨(l.map fun x=>UInt8.ofBitVec x).toArray⟩

def zc3 (P:Program) (t:TypeId):Bool:=match P.underlying t with | some (.slice e)=>(match P.underlying e with | some (.int .u8)=>P.cellsOf e == 1 | _=>false) | _=>false
theorem zei {P:Program} {t:TypeId} (h:zc3 P t=true) : ∃ e,P.underlying t=some (.slice e)∧P.underlying e=some (.int .u8)∧P.cellsOf e=1:=by
 unfold zc3 at h
 split at h
 · rename_i e hu
   split at h
   · rename_i hv;exact⟨e,hu,hv,by simpa using h⟩
   · cases h
 · cases h

theorem znt (l:List (BitVec 8)):zae (pl b8 l)=some (l.map fun x=>UInt8.ofBitVec x):=by
 induction l with
 | nil=>rfl
 | cons a l ih =>
  have ha:=a.isLt
  simp only [pl,List.map_cons,b8] at ih ⊢
  simp [zae,ih]

theorem zaI {P:Program} {H:Hp} {s d:TypeId} {fl:Bool} {l:List (BitVec 8)} (hs:zc3 P s=true) (hd:P.underlying d=some .string):yN P H s d (.p (.sl fl 1 (pl b8 l)))=some (.p (str (bytesOf l))):=by
 obtain⟨e,h1,h2,h3⟩:=zei hs
 simp only [yN,h1,hd,zaM,h2,h3,if_true,yW,true_or,znt,Option.map_some]
 rfl


attribute [go_sem] zaI
end Go.AL

/-
  From the runs on abstract values to a row's statement: what a law's call leaves,what its arguments read as.
  Conditions: none;nothing here speaks of one program.
-/
namespace Go.AL
open Go Go.ChangeShapes Go.WideShapes Go.ChangeAt Go.RowKit

section post
variable {H:Type} {enc:TypeId × Value → H} {P:Program}

theorem zdD {W W':World} {sp:Nat → Bool} (hl:laidOutB P=true) : ∀ {ts:List TypeId} {vs:List Value} {ds:List (DataW H)} {ps:List MemPlace},(∀ t∈ts,P.readableRec t=true∧t < P.types.size) →
 DataW.TrodAll enc P W 0 (fun _=>true) true ts vs ds ps → (∀ p∈ps,W.sameAt W' p) → (∀ p∈ps,sp p.block=true) → DataW.TrodAll enc P W' 0 sp true ts vs ds ps
 | [],vs,ds,ps,_,h,_,_=>by
  obtain⟨rfl,rfl,rfl⟩:=trodAll_nil h
  exact trodAll_mk0
 | t :: ts,vs,ds,ps,hr,h,h1,h2=>by
  obtain⟨v,vs',d,ds',p,q,rfl,rfl,rfl,h3,h4⟩:=trodAll_cons h
  exact trodAll_cons_mk (WideElems.Trod_stays hl (hr t (by simp)).1 (hr t (by simp)).2 h3 (fun x hx=>h1 x (by simp [hx])) (fun x hx=>h2 x (by simp [hx])))
   (zdD hl (fun u hu=>hr u (by simp [hu])) h4 (fun x hx=>h1 x (by simp [hx])) (fun x hx=>h2 x (by simp [hx])))

theorem zkR {f:Func} {s:ChangeSpec} {W W':World} {args:Array Value} {ds gs:List (DataW H)} {before:List MemPlace} {tb:TypeId} (hl:laidOutB P=true) (hr : ∀ t∈f.params.toList,P.readableRec t=true∧t < P.types.size)
 (hv0:s.vars=[]) (hW:DataW.Whole enc P f.params.toList s.vars false W args.toList ds gs before) (hfn:s.fn H ds = { results:=[.lit (.bool true)],args:=ds })
 (hrt:f.resultTypes = #[tb]) (htb:P.underlying tb=some .bool) (hblk : ∀ g,g < W.heap.size → W'.heap[g]? = W.heap[g]?) (hos:W'.os=W.os) (hout:W'.output=W.output) :
 s.post enc P f false true false false W args (.bool true) W':=by
 have hlt:=hW.lt
 have hW0:=hW
 obtain⟨p,q,hA,hV,hbe,hz,hn⟩:=hW
 rw [hv0] at hV
 obtain⟨rfl,rfl⟩:=trodVars_none hV
 rw [List.append_nil] at hbe
 subst hbe
 have hsame : ∀ x∈before,W.sameAt W' x:=fun x hx=>by
  have h1:=hblk x.block (hlt x hx)
  cases x with
  | cell b off=>simp only [MemPlace.block] at h1;simp [World.sameAt,World.cell?,h1]
  | map b=>simp only [MemPlace.block] at h1;simpa [World.sameAt] using h1
 refine⟨ds,[],before,[],before,[],hW0,?_,?_,?_,?_,fun h=>by cases h⟩
 · rw [List.append_nil,hfn,hrt]
   exact trodAll_cons_mk (shut_bool htb true) trodAll_mk0
 · rw [List.append_nil,hfn]
   exact zdD hl hr hA hsame fun x hx=>by simpa using hlt x hx
 · rw [List.append_nil,hfn,hv0]
   exact rfl
 · refine⟨hos,hout,fun i hi => ?_⟩
   rw [hblk i hi]
   cases hw:W.heap[i]? with
   | none=>rfl
   | some o=>cases o<;>simp
end post

/-! ### The start of a law's run -/

def H0:Hp:=⟨fun _=>none,0,fun _ _=>rfl⟩
def σ0:Gh:=⟨fun _=>0,fun _=>none⟩

theorem zD0 {G:Globs} {W:World} (hG : ∀ g sz xs,G g=some (sz,xs) → RelV σ0 H0 W (.ip sz xs 0 0) (.pointer (some ⟨g,0,none⟩))) (hM : ∀ r m,G.map r=some m → GMap σ0 H0 W r m):Rel G σ0 H0 W :=
 ⟨fun _ _ h=>(by cases h),fun _ _ _ _ _ _ h=>(by cases h),fun _ _ _ h=>(by cases h),fun _ _ _ _ h=>(by cases h),fun _ _ _ _ _ _ _ _ h=>(by cases h),fun _ _ _ _ _ _ _ _ _ _ _ h=>(by cases h),hG,fun _ _ _ h=>(by cases h),fun _ _ _ _ _ _ h=>(by cases h),hM⟩

theorem ziY (g o:Nat):Stable σ0 H0 g o:=⟨fun _ _ h=>(by cases h),fun _ _ _ _ _ h=>(by cases h)⟩
theorem zzp (g:Nat):Free σ0 H0 g:=⟨fun _ _ h=>(by cases h),fun _ _ _ _ _ h=>(by cases h),fun _ _ _ h=>(by cases h)⟩

theorem zhW {P:Program} {G:Globs} {f:FuncId} {args:List AV} {W:World} {vs:Array Value} (h:ACall P G f args H0 fun r _=>r = .p (bo true)) (hr:Rel G σ0 H0 W) (hv:RelVs σ0 H0 W args vs) :
 Calls P f vs W fun e W'=>e = .returned (.bool true)∧(∀ g,g < W.heap.size → W'.heap[g]? = W.heap[g]?)∧W'.os=W.os∧W'.output=W.output:=by
 refine (h σ0 W vs hr hv).mono ?_
 rintro e W' ⟨r,H',σ',v,rfl,rfl,hrel,hrv,hev⟩
 cases hrv.bool_inv
 exact⟨rfl,fun g hg=>(hev.blk g hg (zzp g)).1,hev.os,hev.out⟩

theorem zgr {P:Program} {W:World} {name:String} {g:Nat} {l:List (BitVec 32)} {zs:List Int} (h:Lib.TabIs P W name .u32 zs) (hg:P.globalNamed name=some g) (hz:zs=l.map fun x=>(x.toNat:Int)) (hl:0 < l.length) :
 RelV σ0 H0 W (.ip l.length [.agg (pl zN l)] 0 0) (.pointer (some ⟨g,0,none⟩)):=by
 subst hz
 have hcell : ∀ i,i < l.length → W.cell? ⟨g,i,none⟩=some (.int .u32 ((l[i]?).getD 0).toNat):=fun i hi=>by
  have:=h.cell hg i (by simpa using hi)
  rw [this]
  simp [List.getD,hi]
 have:=RelV.ip (σ:=σ0) (H:=H0) (w:=W) (sz:=l.length) (xs:=[.agg (pl zN l)]) (i:=0) (sub:=0) (g:=g) (off:=0) (cap:=1)
  (.sl false _ _ _ 0 1 (fun k => .int .u32 ((l[k]?).getD 0).toNat) (by simp) ⟨by simp,by unfold maxLen;omega⟩ (fun x hx=>by simp only [List.mem_singleton] at hx;subst hx;exact zb2)
   (fun k hk=>by
    simp only [List.length_singleton,Nat.one_mul] at hk
    rw [Nat.zero_add]
    exact⟨ziY _ _,hcell k hk,rfl⟩)
   (fun k y hy=>by
    have:flat [PV.agg (pl zN l)]=pl zN l:=by simp [flat,PV.cells]
    rw [this] at hy
    simp only [pl,List.getElem?_map,Option.map_eq_some_iff] at hy
    obtain⟨x,hx,rfl⟩:=hy
    rw [hx]
    exact .s _ rfl)) (by simp) hl
 simpa using this

/-! ### What arguments read as -/
section read
variable {H:Type} {enc:TypeId × Value → H} {P:Program} {W:World} {sp:Nat → Bool} {held:Bool}


end read
end Go.AL
