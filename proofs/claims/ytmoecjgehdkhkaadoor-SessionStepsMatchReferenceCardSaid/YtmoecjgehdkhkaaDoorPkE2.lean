/-
  Maps: their making,looking up and writing,on abstract values: what they come to,and that the machine's do.
  Conditions: none;nothing here speaks of one program.
-/
import Derived.Test.YtmoecjgehdkhkaaDoorPkE1
import Derived.Maps.Keyed
import Derived.DeepKeys4
import Derived.Laws.Externs
import Derived.DeepKeys
import Derived.OrdersIn
set_option linter.unusedSectionVars false
set_option linter.unusedSimpArgs false
set_option linter.unusedVariables false
namespace Go.AL
open Go

def zbG:List PV → Option (List Value)
 | []=>some []
 | .s v :: xs=>(zbG xs).map (v :: ·)
 | _=>none

theorem zc4 {w:World} {S:Nat → Nat → Prop} : ∀ {xs:List PV} {a vs:List Value},zbG xs=some a → vs.length=xs.length → (∀ (i:Nat) x v,xs[i]? = some x → vs[i]? = some v → RelP w S x v) → vs=a
 | [],a,vs,h,hl,_=>by simp only [zbG,Option.some.injEq] at h;subst h;simpa using hl
 | x :: xs,a,vs,h,hl,hr=>by
  cases x<;>simp only [zbG,Option.map_eq_some_iff] at h
  case s v =>
   obtain⟨a',h',rfl⟩:=h
   cases vs with
   | nil=>simp at hl
   | cons u us =>
    have h0:=hr 0 _ _ rfl rfl
    cases h0
    exact congrArg _ (zc4 h' (by simpa using hl) (fun i x v e1 e2=>hr (i+1) x v (by simpa using e1) (by simpa using e2)))
  all_goals cases h


section states
variable {G:Globs} {σ:Gh} {H:Hp} {w:World}

theorem zbH (hr:Rel G σ H w) {b:Nat} {vs vs':List AV} {S S':OS} {o o':Obj} {us:Array Value} (hb:H.f b=some (.obj vs S)) (hw:w.heap[σ.c b]? = some o) (ho:zdx o=true) (hus:RelVs σ H w vs' us) (ho':zdx o'=true) (hS:S' us o') :
 Rel G σ (H.set b (.obj vs' S')) (w.putObj (σ.c b) o')∧Ev H.n σ H w σ (H.set b (.obj vs' S')) (w.putObj (σ.c b) o'):=by
 have hbn:=Hp.lt hb
 have hlt:σ.c b < w.heap.size:=zaH hw
 have hother : ∀ g,g≠σ.c b → (w.putObj (σ.c b) o').heap[g]? = w.heap[g]? := fun g hg=>World.putObj_heap_other hg
 have fcells : ∀ b' x,(H.set b (.obj vs' S')).f b'=some (.cells x) → H.f b'=some (.cells x):=by
  intro b' x h
  rw [Hp.f_set] at h
  split at h
  · cases h
  · exact h
 have ftail : ∀ b' k d,(H.set b (.obj vs' S')).f b'=some (.tl k d) → H.f b'=some (.tl k d):=by
  intro b' x d h
  rw [Hp.f_set] at h
  split at h
  · cases h
  · exact h
 have fobj : ∀ b' vs1 T,(H.set b (.obj vs' S')).f b'=some (.obj vs1 T) → ∃ vs'' T',H.f b'=some (.obj vs'' T'):=by
  intro b' vs1 T h
  rw [Hp.f_set] at h
  split at h
  · rename_i hh;rw [hh.1];exact⟨_,_,hb⟩
  · exact⟨_,_,h⟩
 have hcell : ∀ g o1 v,w.cell? ⟨g,o1,none⟩=some v → (w.putObj (σ.c b) o').cell? ⟨g,o1,none⟩=some v:=by
  intro g o1 v h
  by_cases hg:g=σ.c b
  · subst hg
    cases o<;>first | (simp [World.cell?,hw] at h;done) | cases ho
  · simpa [World.cell?,hother g hg] using h
 have hev:Ev H.n σ H w σ (H.set b (.obj vs' S')) (w.putObj (σ.c b) o'):=by
  refine⟨fun g o1 v h1 h2=>⟨⟨fun b' x h=>h1.1 b' x (fcells _ _ h),fun b' k d o2 s h=>h1.2 b' k d o2 s (ftail _ _ _ h)⟩,hcell g o1 v h2⟩,fun _ _=>rfl,Nat.le_refl _,fun b' _ k d hk=>⟨k,d,ftail b' k d hk,Nat.le_refl _,fun _=>rfl⟩,by simp,
   fun g hg hf=>⟨hother g (Ne.symm (hf.3 b vs S hb)),fun b' x h=>hf.1 b' x (fcells _ _ h),fun b' k d o2 s h=>hf.2 b' k d o2 s (ftail _ _ _ h),fun b' vs' T h=>let ⟨_,_,h'⟩:=fobj _ _ _ h;hf.3 b' _ _ h'⟩,rfl,rfl⟩
 have hne : ∀ b' x,H.f b'=some (.cells x) → σ.c b'≠σ.c b:=fun b' x h e=>by
  obtain⟨c,ee,q1,_⟩:=hr.cells b' x h
  rw [e,hw] at q1;cases q1;cases ho
 have hneT : ∀ b' k d g o2 s,H.f b'=some (.tl k d) → σ.t b'=some (g,o2,s) → g≠σ.c b:=fun b' k d g o2 s h ht e=>by
  obtain⟨c,ee,q1,_⟩:=hr.tail b' k d g o2 s h ht
  rw [e,hw] at q1;cases q1;cases ho
 refine⟨⟨fun b' x h => ?_,fun b' k d g o2 s h ht => ?_,hr.vec_keep hev (fun b' k ds h=>⟨ftail _ _ _ h,rfl⟩) (fun b' k ds g o2 s _ h ht=>hother g (hneT b' k _ g o2 s h ht)),fun b1 b2 x y h1 h2=>hr.cc b1 b2 x y (fcells _ _ h1) (fcells _ _ h2),fun b1 b2 x k d g o2 s h1 h2=>hr.ct b1 b2 x k d g o2 s (fcells _ _ h1) (ftail _ _ _ h2),
  fun b1 b2 k d k' d' g o2 s o3 s' h1 h2=>hr.tt b1 b2 k d k' d' g o2 s o3 s' (ftail _ _ _ h1) (ftail _ _ _ h2),hr.glob_mono hev,fun b' vs' T h => ?_,fun b1 b2 v1 v2 T1 T2 h1 h2 he => ?_,hr.gm_mono hev⟩,hev⟩
 · obtain⟨c,ee,q1,q2,q3⟩:=hr.cells b' x (fcells _ _ h)
   exact⟨c,ee,(hother _ (hne b' x (fcells _ _ h))).trans q1,q2,fun i y hy=>let ⟨v,a,b⟩:=q3 i y hy;⟨v,a,b.mono hev⟩⟩
 · obtain⟨c,ee,q1,q2⟩:=hr.tail b' k d g o2 s (ftail _ _ _ h) ht
   exact⟨c,ee,(hother g (hneT b' k d g o2 s (ftail _ _ _ h) ht)).trans q1,q2⟩
 · by_cases hbb:b'=b
   · subst hbb
     rw [Hp.f_set_self H _ _ hbn] at h
     cases h
     exact⟨o',us,World.putObj_heap_same hlt,ho',hus.mono hev,hS⟩
   · rw [Hp.f_set_ne H _ _ _ hbb] at h
     obtain⟨o1,us1,q1,q2,q3,q4⟩:=hr.objs b' vs' T h
     exact⟨o1,us1,(hother _ (fun e=>hbb (hr.oo b' b _ _ _ _ h hb e))).trans q1,q2,q3.mono hev,q4⟩
 · obtain⟨_,_,h1'⟩:=fobj _ _ _ h1
   obtain⟨_,_,h2'⟩:=fobj _ _ _ h2
   exact hr.oo b1 b2 _ _ _ _ h1' h2' he

theorem zfq (hr:Rel G σ H w) (o:Obj) (ho:zdx o=true) (vs:List AV) (us:Array Value) (S:OS) (hus:RelVs σ H w vs us) (hS:S us o) :
 Rel G (σ.withC H.n w.heap.size) (H.new (.obj vs S)) (w.alloc o)∧Ev H.n σ H w (σ.withC H.n w.heap.size) (H.new (.obj vs S)) (w.alloc o):=by
 have hold : ∀ b,b < H.n → (σ.withC H.n w.heap.size).c b=σ.c b:=fun b hb=>by simp [Gh.withC,Nat.ne_of_lt hb]
 have hnew:(σ.withC H.n w.heap.size).c H.n=w.heap.size:=by simp [Gh.withC]
 have fcells : ∀ b x,(H.new (.obj vs S)).f b=some (.cells x) → H.f b=some (.cells x):=by
  intro b x h
  rw [Hp.f_new] at h
  split at h
  · cases h
  · exact h
 have ftail : ∀ b k d,(H.new (.obj vs S)).f b=some (.tl k d) → H.f b=some (.tl k d):=by
  intro b x d h
  rw [Hp.f_new] at h
  split at h
  · cases h
  · exact h
 have fobj : ∀ b vs' T,(H.new (.obj vs S)).f b=some (.obj vs' T) → (b=H.n∧vs'=vs∧T=S) ∨ H.f b=some (.obj vs' T):=by
  intro b vs' T h
  rw [Hp.f_new] at h
  split at h
  · rename_i hh;cases h;exact .inl ⟨hh,rfl,rfl⟩
  · exact .inr h
 have hev:Ev H.n σ H w (σ.withC H.n w.heap.size) (H.new (.obj vs S)) (w.alloc o):=by
  refine⟨fun g o1 v h1 h2 => ?_,hold,by simp [Hp.n_new],fun b hb k d hk=>⟨k,d,ftail b k d hk,Nat.le_refl _,fun _=>rfl⟩,by simp,fun g hg hf=>⟨heap_alloc_old w _ hg,?_,?_,?_⟩,rfl,rfl⟩
  · have hlt:g < w.heap.size:=World.block_lt_of_cell? (a:=⟨g,o1,none⟩) w h2
    refine⟨⟨fun b x h => ?_,fun b k d o2 s h ht=>h1.2 b k d o2 s (ftail _ _ _ h) ht⟩,by rw [World.cell?_alloc_lt (a:=⟨g,o1,none⟩) w _ hlt];exact h2⟩
    have h:=fcells _ _ h
    rw [hold b (Hp.lt h)];exact h1.1 b x h
  · intro b x h
    have h:=fcells _ _ h
    rw [hold b (Hp.lt h)];exact hf.1 b x h
  · exact fun b k d o2 s h ht=>hf.2 b k d o2 s (ftail _ _ _ h) ht
  · intro b vs' T h
    rcases fobj b vs' T h with ⟨rfl,_,_⟩ | h
    · rw [hnew];omega
    · rw [hold b (Hp.lt h)];exact hf.3 b vs' T h
 refine⟨⟨fun b x h => ?_,fun b k d g o2 s h ht => ?_,hr.vec_keep hev (fun b k ds h=>⟨ftail _ _ _ h,rfl⟩) (fun b k ds g o2 s _ h ht=>heap_alloc_old w _ (hr.t_lt h ht)),fun b1 b2 x y h1 h2 he => ?_,fun b1 b2 x k d g o2 s h1 h2 ht => ?_,
  fun b1 b2 k d k' d' g o2 s o3 s' h1 h2=>hr.tt b1 b2 k d k' d' g o2 s o3 s' (ftail _ _ _ h1) (ftail _ _ _ h2),hr.glob_mono hev,fun b vs' T h => ?_,fun b1 b2 v1 v2 T1 T2 h1 h2 he => ?_,hr.gm_mono hev⟩,hev⟩
 · have h:=fcells _ _ h
   obtain⟨c,ee,q1,q2,q3⟩:=hr.cells b x h
   exact⟨c,ee,by rw [hold b (Hp.lt h),heap_alloc_old w _ (hr.c_lt h)];exact q1,q2,fun i y hy=>let ⟨v,a,b⟩:=q3 i y hy;⟨v,a,b.mono hev⟩⟩
 · have h:=ftail _ _ _ h
   obtain⟨c,ee,q1,q2⟩:=hr.tail b k d g o2 s h ht
   exact⟨c,ee,by rw [heap_alloc_old w _ (hr.t_lt h ht)];exact q1,q2⟩
 · have h1:=fcells _ _ h1
   have h2:=fcells _ _ h2
   rw [hold b1 (Hp.lt h1),hold b2 (Hp.lt h2)] at he
   exact hr.cc b1 b2 x y h1 h2 he
 · have h1:=fcells _ _ h1
   rw [hold b1 (Hp.lt h1)];exact hr.ct b1 b2 x k d g o2 s h1 (ftail _ _ _ h2) ht
 · rcases fobj b vs' T h with ⟨rfl,rfl,rfl⟩ | h
   · exact⟨o,us,by rw [hnew];exact heap_alloc_new w _,ho,hus.mono hev,hS⟩
   · obtain⟨o1,us1,q1,q2,q3,q4⟩:=hr.objs b vs' T h
     exact⟨o1,us1,by rw [hold b (Hp.lt h),heap_alloc_old w _ (hr.o_lt h)];exact q1,q2,q3.mono hev,q4⟩
 · rcases fobj b1 v1 T1 h1 with ⟨p1,_,_⟩ | p1<;>rcases fobj b2 v2 T2 h2 with ⟨p2,_,_⟩ | p2
   · rw [p1,p2]
   · rw [p1,hnew,hold b2 (Hp.lt p2)] at he
     have:=hr.o_lt p2;omega
   · rw [p2,hnew,hold b1 (Hp.lt p1)] at he
     have:=hr.o_lt p1;omega
   · rw [hold b1 (Hp.lt p1),hold b2 (Hp.lt p2)] at he
     exact hr.oo b1 b2 _ _ _ _ p1 p2 he
end states

def zfr (P:Program) (k:TypeId):Bool :=
 match P.underlying k with
 | some (.int _) | some .bool | some .string=>true
 | some (.array _ _) | some (.struct _)=>decide (k < P.types.size) && P.keyTypeAt 9999 k && laidOutB P
 | _=>false

theorem zdl {P:Program} {k:TypeId} (h:zfr P k=true):Maps.Keyed P k:=by
 unfold zfr at h
 split at h
 · rename_i q hq;exact Maps.int_keyed hq
 · rename_i hq;exact Maps.bool_keyed hq
 · rename_i hq;exact .of_law (WideMaps.string_law hq)
 · rename_i hq
   simp only [Bool.and_eq_true,decide_eq_true_eq] at h
   exact .of_law (deep_law_laid h.2 (by omega) h.1.1 h.1.2 (by rw [hq]))
 · rename_i hq
   simp only [Bool.and_eq_true,decide_eq_true_eq] at h
   exact .of_law (deep_law_laid h.2 (by omega) h.1.1 h.1.2 (by rw [hq]))
 · cases h

def PV.val? : PV → Option Value
 | .s v=>some v
 | .agg xs=>(zbG xs).map fun vs => .agg vs.toArray
 | _=>none
def AV.key? : AV → Option Value
 | .p x=>x.val?
 | _=>none

theorem AV.key?_rel {σ H w} {x:AV} {kv v:Value} (h:x.key? = some kv) (r:RelV σ H w x v):v=kv:=by
 cases x<;>simp only [AV.key?] at h<;>try cases h
 rename_i x
 cases r with | p r =>
 cases r with
 | s v h1=>simpa [PV.val?] using h
 | agg xs vs hl h1 hh =>
  simp only [PV.val?,Option.map_eq_some_iff] at h
  obtain⟨us,h2,rfl⟩:=h
  have:=zc4 (w:=w) (vs:=vs.toList) h2 (by simp [hl]) (fun i x v a b=>hh i x v a (by simpa using b))
  rw [←this]
 | emp=>simp [PV.val?] at h
 | sl=>simp [PV.val?] at h

def AB.map? : AB → Option (List (Value × AV))
 | .obj vals S=>S.ks.map fun ks=>ks.zip vals
 | _=>none

theorem map?_mapB (m:List (Value × AV)):(AB.mapB m).map? = some m:=by
 simp only [AB.mapB,AB.map?,zjj,Option.map_some,Option.some.injEq]
 rw [List.zip_map']
 simp

def zcL (P:Program) (kt:TypeId) (ks:List Value):Bool:=ks.all fun k=>(keyOf P kt k).isSome

def zcw (P:Program) (kt:TypeId) (a b:Value):Bool :=
 match keyOf P kt a,keyOf P kt b with
 | some x,some y=>x.sameKey y
 | _,_=>false

theorem zdm {P:Program} {kt:TypeId} (K:Maps.Keyed P kt) {a:Value} {l:Lit} (h:keyOf P kt a=some l):zcw P kt a a=true:=by
 simp only [zcw,h];exact WideAt.sameKey_self (K.key h)
theorem zb9 {P:Program} {kt:TypeId} (K:Maps.Keyed P kt) {a b:Value} (h:zcw P kt a b=true):a=b:=by
 unfold zcw at h
 split at h
 · rename_i x y hx hy
   obtain rfl:=WideAt.sameKey_eq h
   exact K.inj hx hy
 · cases h

def zcx (P:Program) (kt:TypeId) (kv:Value):List (Value × AV) → Option AV
 | []=>none
 | (k,v) :: m=>if zcw P kt k kv=true then some v else zcx P kt kv m

def zeB (P:Program) (kt:TypeId) (kv:Value) (x:AV):List (Value × AV) → List (Value × AV)
 | []=>[(kv,x)]
 | (k,v) :: m=>if zcw P kt k kv=true then (k,x) :: m else (k,v) :: zeB P kt kv x m

section find
variable {P:Program} {kt:TypeId} {kv:Value} {l:Lit} (K:Maps.Keyed P kt) (hkv:keyOf P kt kv=some l)
include K hkv

theorem zhp {x:AV} : ∀ {m:List (Value × AV)} {j:Nat},(∀ p∈m,(keyOf P kt p.1).isSome=true) → (m.map (·.1)).Nodup → m[j]? = some (kv,x) → zcx P kt kv m=some x
 | [],j,_,_,h=>by simp at h
 | (k,v) :: m,0,_,_,h=>by
  simp only [List.getElem?_cons_zero,Option.some.injEq,Prod.mk.injEq] at h
  obtain⟨rfl,rfl⟩:=h
  simp [zcx,zdm K hkv]
 | (k,v) :: m,j+1,hok,hnd,h=>by
  simp only [List.getElem?_cons_succ] at h
  simp only [List.map_cons,List.nodup_cons] at hnd
  have hne : ¬ zcw P kt k kv=true:=fun e=>hnd.1 (by
   obtain rfl:=zb9 K e
   exact List.mem_map.2 ⟨(k,x),List.mem_of_getElem? h,rfl⟩)
  rw [zcx,if_neg hne]
  exact zhp (fun p hp=>hok p (by simp [hp])) hnd.2 h

theorem zfs : ∀ {m:List (Value × AV)},(∀ p∈m,p.1≠kv) → zcx P kt kv m=none
 | [],_=>rfl
 | (k,v) :: m,h=>by
  have hne : ¬ zcw P kt k kv=true:=fun e=>h (k,v) (by simp) (zb9 K e)
  rw [zcx,if_neg hne]
  exact zfs fun p hp=>h p (by simp [hp])

theorem zjs {x y:AV} : ∀ {m:List (Value × AV)} {j:Nat},(m.map (·.1)).Nodup → m[j]? = some (kv,y) → zeB P kt kv x m=m.modify j (fun _=>(kv,x))
 | [],j,_,h=>by simp at h
 | (k,v) :: m,0,_,h=>by
  simp only [List.getElem?_cons_zero,Option.some.injEq,Prod.mk.injEq] at h
  obtain⟨rfl,rfl⟩:=h
  simp [zeB,zdm K hkv]
 | (k,v) :: m,j+1,hnd,h=>by
  simp only [List.getElem?_cons_succ] at h
  simp only [List.map_cons,List.nodup_cons] at hnd
  have hne : ¬ zcw P kt k kv=true:=fun e=>hnd.1 (by
   obtain rfl:=zb9 K e
   exact List.mem_map.2 ⟨(k,y),List.mem_of_getElem? h,rfl⟩)
  rw [zeB,if_neg hne,zjs hnd.2 h]
  simp

theorem zhq {x:AV} : ∀ {m:List (Value × AV)},(∀ p∈m,p.1≠kv) → zeB P kt kv x m=m++[(kv,x)]
 | [],_=>rfl
 | (k,v) :: m,h=>by
  have hne : ¬ zcw P kt k kv=true:=fun e=>h (k,v) (by simp) (zb9 K e)
  rw [zeB,if_neg hne,zhq fun p hp=>h p (by simp [hp])]
  rfl
end find

def zdn (P:Program) (t:TypeId):Option AV :=
 match (P.info? t).bind (·.zero),zj P t with
 | some (.agg _),some ps=>some (.p (.agg ps))
 | some _,some [p]=>some (.p p)
 | _,_=>none

theorem zmt {P:Program} {σ:Gh} {H:Hp} {w:World} {t:TypeId} {x:AV} (h:zdn P t=some x) : ∃ v,(zeroValue t).run P w = .ok v w∧RelV σ H w x v:=by
 unfold zdn at h
 split at h
 · rename_i cs ps hz hps
   cases h
   obtain⟨z,h1,h2,h3,h4⟩:=zac (w:=w) (S:=Stable σ H) hps
   rw [hz] at h2
   cases h2
   refine⟨_,h1,.p (.agg ps cs h3 (fun i v hv => ?_) (fun i p v hp hv=>(h4 i p v hp hv).1))⟩
   have hlt:i < ps.length:=by rw [←h3];exact (Array.getElem?_eq_some_iff.1 hv).1
   exact (h4 i ps[i] v (by simp) hv).2
 · rename_i v p hne hz hps
   cases h
   obtain⟨z,h1,h2,h3,h4⟩:=zac (w:=w) (S:=Stable σ H) hps
   rw [hz] at h2
   cases h2
   refine⟨_,h1,.p ?_⟩
   have hc:v.cells = #[v]:=by
    cases v with
    | agg cs=>exact absurd rfl (hne cs)
    | _=>rfl
   exact (h4 0 p v rfl (by rw [hc];rfl)).1
 · cases h

def zc5 (P:Program) (gm:Nat → Option (List (Value × AV))) (H:Hp) (t:TypeId) (x ix:AV) (ok:Bool):Option AV :=
 match P.underlying t with
 | some (.map kt et) =>
  match (match x with | .mp b=>(H.f b).bind AB.map? | .p (.s (.map none))=>some [] | .p (.s (.map (some r)))=>gm r | _=>none),ix.key? with
  | some m,some kv =>
   if zfr P kt∧zcL P kt (kv :: m.map (·.1)) then
    match zcx P kt kv m,zdn P et with
    | some v,some _=>some (if ok then .tup [v,.p (.s (.bool true))] else v)
    | none,some z=>some (if ok then .tup [z,.p (.s (.bool false))] else z)
    | _,_=>none
   else none
  | _,_=>none
 | _=>none

def zbU (P:Program) (H:Hp) (t:TypeId) (x ix y:AV):Option Hp :=
 match P.underlying t,x with
 | some (.map kt _),.mp b =>
  match (H.f b).bind AB.map?,ix.key? with
  | some m,some kv=>if zfr P kt∧zcL P kt (kv :: m.map (·.1)) then some (H.set b (.mapB (zeB P kt kv y m))) else none
  | _,_=>none
 | _,_=>none

section runs
variable {P:Program} {G:Globs} {σ:Gh} {H:Hp} {w:World}

theorem zpI (hr:Rel G σ H w) {b:Nat} {m:List (Value × AV)} (hb:(H.f b).bind AB.map? = some m) :
 ∃ vs S es clock,H.f b=some (.obj vs S)∧w.heap[σ.c b]? = some (.map es clock)∧es.toList.map (·.key)=m.map (·.1)∧(m.map (·.1)).Nodup∧(es.toList.map (·.born)).Nodup∧(∀ e∈es.toList,e.born < clock) ∧
  es.size=m.length ∧ ∀ (j:Nat) e p,es[j]? = some e → m[j]? = some p → e.key=p.1∧RelV σ H w p.2 e.val:=by
 cases hf:H.f b with
 | none=>simp [hf] at hb
 | some x =>
  rw [hf] at hb
  cases x with
  | obj vs S =>
   simp only [Option.bind_some,AB.map?,Option.map_eq_some_iff] at hb
   obtain⟨ks,hks,rfl⟩:=hb
   obtain⟨o,us,h1,h2,h3,h4⟩:=hr.objs b vs S hf
   obtain⟨es,clock,rfl,e1,e2,e3,e4,e5⟩:=S.map ks hks us o h4
   have hl1:ks.length=es.size:=by rw [←e1];simp
   have hl2:vs.length=es.size:=by rw [←h3.1,←Array.length_toList,←e2];simp
   have hm1:(ks.zip vs).map (·.1)=ks:=List.map_fst_zip (by omega)
   refine⟨vs,S,es,clock,rfl,h1,by rw [hm1,e1],by rw [hm1];exact e3,e4,e5,by simp;omega,fun j e p hj hp => ?_⟩
   rw [List.getElem?_zip_eq_some] at hp
   have hk:(es.toList.map (·.key))[j]? = some e.key:=by simp [hj]
   have hv:(es.toList.map (·.val))[j]? = some e.val:=by simp [hj]
   rw [e1,hp.1] at hk
   rw [e2] at hv
   exact⟨(Option.some.inj hk).symm,h3.2 j p.2 e.val hp.2 (by simpa using hv)⟩
  | _=>simp [AB.map?] at hb

theorem zjt (hr:Rel G σ H w) {t:TypeId} {x ix y:AV} {ok:Bool} {vx vi:Value} (h:zc5 P G.map H t x ix ok=some y) (hx:RelV σ H w x vx) (hi:RelV σ H w ix vi) :
 ∃ v,(Instr.lookup t vx vi ok).run P w = .ok v w∧RelV σ H w y v:=by
 unfold zc5 at h
 split at h
 case h_2=>cases h
 rename_i kt et hu
 split at h
 case h_2=>cases h
 rename_i m kv hm hkv
 obtain rfl:=AV.key?_rel hkv hi
 split at h
 case isFalse=>cases h
 rename_i hc
 obtain⟨hkt,hok⟩:=hc
 have K:=zdl hkt
 simp only [zcL,List.all_cons,Bool.and_eq_true,List.all_eq_true,List.mem_map] at hok
 obtain⟨hk0,hks⟩:=hok
 obtain⟨lk,hlk⟩:=Option.isSome_iff_exists.1 hk0
 -- the entries
 have hes : ∃ es:Array MapEntry,((vx = .map none∧es = #[]) ∨ ∃ r clock,vx = .map (some r)∧w.heap[r]? = some (.map es clock))∧(m.map (·.1)).Nodup∧es.size=m.length ∧ ∀ (j:Nat) e p,es[j]? = some e → m[j]? = some p → e.key=p.1∧RelV σ H w p.2 e.val:=by
  split at hm
  · rename_i b
    cases hx with | mp hb =>
    obtain⟨vs,S,es,clock,_,h1,_,h3,_,_,h6,h7⟩:=zpI hr hm
    exact⟨es,.inr ⟨_,clock,rfl,h1⟩,h3,h6,h7⟩
  · cases hm
    obtain rfl:vx = .map none:=by cases hx with | p hp=>cases hp;rfl
    exact⟨#[],.inl ⟨rfl,rfl⟩,by simp,by simp,by simp⟩
  · rename_i r
    obtain rfl:vx = .map (some r):=by cases hx with | p hp=>cases hp;rfl
    obtain⟨⟨es,clock,h1,h2,h3,h4⟩,_⟩:=hr.gm r m hm
    exact⟨es,.inr ⟨r,clock,rfl,h1⟩,h3,h2,h4⟩
  · cases hm
 obtain⟨es,he,hnd,hsz,hent⟩:=hes
 have hkeys : ∀ e∈es.toList,∃ l,keyOf P kt e.key=some l:=fun e hmem=>by
  obtain⟨j,hj⟩:=List.getElem?_of_mem hmem
  have hlt:j < m.length:=by rw [←hsz];simpa using (List.getElem?_eq_some_iff.1 hj).1
  have hp:m[j]? = some m[j]:=by simp [hlt]
  obtain⟨h1,_⟩:=hent j e m[j] (by simpa using hj) hp
  rw [h1]
  exact Option.isSome_iff_exists.1 (hks _ ⟨m[j],List.mem_of_getElem? hp,rfl⟩)
 have hchk:=K.check w es.isEmpty hlk
 have hrun : ∀ q:Option (Nat × Value),(Instr.findKey kt vi es.toList).run P w = .ok q w → (Instr.lookup t vx vi ok).run P w =
  ((do let (v,ok') ←(match q with | some (_,v)=>pure (v,true) | none=>do pure (←zeroValue et,false):Sem (Value × Bool));pure (if ok then .tuple #[v,.bool ok'] else v):Sem Value).run P w):=fun q hfind=>by
  unfold Instr.lookup
  rcases he with ⟨rfl,rfl⟩ | ⟨r,clock,rfl,hw⟩
  · cases q<;>simp only [Sem.run_bind,run_underlying hu,Result.andThen_ok,Sem.run_pure,hchk,hfind]<;>cases (zeroValue et).run P w<;>simp [Result.andThen]
  · cases q<;>simp only [Sem.run_bind,run_underlying hu,Result.andThen_ok,Sem.run_pure,MapKept.run_getObj_map hw,hchk,hfind]<;>cases (zeroValue et).run P w<;>simp [Result.andThen]
 rcases K.find w hlk es.toList hkeys with ⟨hfind,hne⟩ | ⟨j,e,hfind,hj,hkey⟩
 · have hmiss:zcx P kt vi m=none:=zfs K hlk fun p hp e=>by
    obtain⟨j,hj⟩:=List.getElem?_of_mem hp
    have hlt:j < es.size:=by rw [hsz];exact (List.getElem?_eq_some_iff.1 hj).1
    obtain⟨h1,_⟩:=hent j es[j] p (by simp) hj
    exact hne es[j] (by simp) (h1.trans e)
   rw [hmiss] at h
   split at h
   · rename_i h1 _;cases h1
   · rename_i z _ hz
     obtain⟨v,hv,hzv⟩:=zmt (σ:=σ) (H:=H) (w:=w) hz
     rw [hrun _ hfind]
     cases h
     refine⟨if ok then .tuple #[v,.bool false] else v,by simp [hv],?_⟩
     cases ok
     · exact hzv
     · refine .tup _ (by simp) fun i x v' h1 h2 => ?_
       rcases i with _ | _ | i
       · simp at h1 h2;subst h1;subst h2;exact hzv
       · simp at h1 h2;subst h1;subst h2;exact .p (.s _ rfl)
       · simp at h1
   · cases h
 · have hj':es[j]? = some e:=by simpa using hj
   have hlt:j < m.length:=by rw [←hsz];exact (Array.getElem?_eq_some_iff.1 hj').1
   have hp:m[j]? = some m[j]:=by simp [hlt]
   obtain⟨h1,h2⟩:=hent j e m[j] hj' hp
   have hhit:zcx P kt vi m=some m[j].2:=zhp K hlk (fun p hp=>hks _ ⟨p,hp,rfl⟩) hnd (by rw [hp,←hkey,h1])
   rw [hhit] at h
   split at h
   · rename_i v _ h3 _
     cases h3
     rw [hrun _ hfind]
     cases h
     refine⟨if ok then .tuple #[e.val,.bool true] else e.val,by simp,?_⟩
     cases ok
     · exact h2
     · refine .tup _ (by simp) fun i x v' h1 h2' => ?_
       rcases i with _ | _ | i
       · simp at h1 h2';subst h1;subst h2';exact h2
       · simp at h1 h2';subst h1;subst h2';exact .p (.s _ rfl)
       · simp at h1
   · rename_i h3 _;cases h3
   · cases h

theorem zef (hr:Rel G σ H w) {t:TypeId} {x ix y:AV} {H':Hp} {vx vi vy:Value} (h:zbU P H t x ix y=some H') (hx:RelV σ H w x vx) (hi:RelV σ H w ix vi) (hy:RelV σ H w y vy) :
 ∃ w',(Instr.mapUpdate t vx vi vy).run P w = .ok () w'∧Rel G σ H' w'∧Ev H.n σ H w σ H' w':=by
 unfold zbU at h
 split at h
 case h_2=>cases h
 rename_i kt et b hu
 split at h
 case h_2=>cases h
 rename_i m kv hm hkv
 obtain rfl:=AV.key?_rel hkv hi
 split at h
 case isFalse=>cases h
 rename_i hc
 obtain⟨hkt,hok⟩:=hc
 cases h
 have K:=zdl hkt
 simp only [zcL,List.all_cons,Bool.and_eq_true,List.all_eq_true,List.mem_map] at hok
 obtain⟨hk0,hks⟩:=hok
 obtain⟨lk,hlk⟩:=Option.isSome_iff_exists.1 hk0
 cases hx with | mp hbn =>
 obtain⟨vs,S,es,clock,hb,hw,hkk,hnd,hborn,hclk,hsz,hent⟩:=zpI hr hm
 have hkeys : ∀ e∈es.toList,∃ l,keyOf P kt e.key=some l:=fun e hmem=>by
  have:e.key∈m.map (·.1):=by rw [←hkk];exact List.mem_map.2 ⟨e,hmem,rfl⟩
  exact Option.isSome_iff_exists.1 (hks _ (by simpa using this))
 have hchk:=K.check w false hlk
 have hset : ∀ o,(setObj (σ.c b) o).run P w = .ok () (w.putObj (σ.c b) o):=fun o=>MapKept.run_setObj_map o hw
 have hvals : ∀ (j:Nat) p e,m[j]? = some p → es[j]? = some e → RelV σ H w p.2 e.val:=fun j p e h1 h2=>(hent j e p h2 h1).2
 rcases K.find w hlk es.toList hkeys with ⟨hfind,hne⟩ | ⟨j,e,hfind,hj,hkey⟩
 · have hput:zeB P kt vi y m=m++[(vi,y)]:=zhq K hlk fun p hp e=>by
    have:p.1∈es.toList.map (·.key):=by rw [hkk];exact List.mem_map.2 ⟨p,hp,rfl⟩
    obtain⟨e',h1,h2⟩:=List.mem_map.1 this
    exact hne e' h1 (h2.trans e)
   refine⟨w.putObj (σ.c b) (.map (es.push { key:=vi,val:=vy,born:=clock }) (clock+1)),?_,?_⟩
   · unfold Instr.mapUpdate
     simp [run_underlying hu,MapKept.run_getObj_map hw,hchk,hfind,hset]
   · rw [hput]
     refine zbH hr hb hw rfl (S':=zjj ((m++[(vi,y)]).map (·.1))) (o' := .map (es.push { key:=vi,val:=vy,born:=clock }) (clock+1)) (vs':=(m++[(vi,y)]).map (·.2)) (us:=(es.push { key:=vi,val:=vy,born:=clock }).map (·.val)) ⟨by simp [hsz],fun i x v h1 h2 => ?_⟩ rfl ?_
     · by_cases hi:i < m.length
       · have hp:m[i]? = some m[i]:=by simp [hi]
         have he:es[i]? = some es[i]:=by simp [hsz,hi]
         simp [List.getElem?_append_left,hi,hp] at h1
         simp [Array.getElem?_push,hsz,Nat.ne_of_lt hi,he,hi] at h2
         subst h1;subst h2
         exact hvals i m[i] es[i] hp he
       · have:i=m.length:=by
          have:=(List.getElem?_eq_some_iff.1 h1).1
          simp at this;omega
         subst this
         simp at h1
         rw [Array.map_push,Array.getElem?_push,Array.size_map,if_pos hsz.symm] at h2
         simp at h2
         subst h1;subst h2
         exact hy
     · refine⟨_,_,rfl,by simp [hkk],by simp,?_,?_,fun e he => ?_⟩
       · simp only [List.map_append,List.map_cons,List.map_nil]
         rw [List.nodup_append]
         refine⟨hnd,by simp,fun a ha b hb => ?_⟩
         simp only [List.mem_singleton] at hb
         subst hb
         rw [←hkk] at ha
         obtain⟨e',h1,h2⟩:=List.mem_map.1 ha
         exact fun h=>hne e' h1 (h2.trans h)
       · simp only [Array.toList_push,List.map_append,List.map_cons,List.map_nil]
         rw [List.nodup_append]
         refine⟨hborn,by simp,fun a ha b hb => ?_⟩
         simp only [List.mem_singleton] at hb
         subst hb
         obtain⟨e',h1,h2⟩:=List.mem_map.1 ha
         have:=hclk e' h1
         omega
       · simp only [Array.toList_push,List.mem_append,List.mem_singleton] at he
         rcases he with he | rfl
         · exact Nat.lt_succ_of_lt (hclk e he)
         · exact Nat.lt_succ_self _
 · have hj':es[j]? = some e:=by simpa using hj
   have hjl:j < es.size:=(Array.getElem?_eq_some_iff.1 hj').1
   have hlt:j < m.length:=by omega
   have hp:m[j]? = some m[j]:=by simp [hlt]
   obtain⟨h1,h2⟩:=hent j e m[j] hj' hp
   have hput:zeB P kt vi y m=m.modify j (fun _=>(vi,y)):=zjs K hlk (y:=m[j].2) hnd (by rw [hp,←hkey,h1])
   have hst:=K.stays w hlk
   refine⟨w.putObj (σ.c b) (.map (es.modify j fun e => { e with key:=vi,val:=vy }) clock),?_,?_⟩
   · unfold Instr.mapUpdate
     simp [run_underlying hu,MapKept.run_getObj_map hw,hchk,hfind,hset,hj',hkey,hst]
   · rw [hput]
     have hkeys':(es.modify j fun e => { e with key:=vi,val:=vy }).toList.map (·.key)=es.toList.map (·.key):=by
      apply List.ext_getElem?
      intro i
      simp only [List.getElem?_map,Array.getElem?_toList,Array.getElem?_modify]
      by_cases hij:j=i
      · subst hij;simp [hj',hkey]
      · simp [hij]
     have hborn':(es.modify j fun e => { e with key:=vi,val:=vy }).toList.map (·.born)=es.toList.map (·.born):=by
      apply List.ext_getElem?
      intro i
      simp only [List.getElem?_map,Array.getElem?_toList,Array.getElem?_modify]
      by_cases hij:j=i
      · subst hij;simp [hj']
      · simp [hij]
     have hm':(m.modify j fun _=>(vi,y)).map (·.1)=m.map (·.1):=by
      apply List.ext_getElem?
      intro i
      simp only [List.getElem?_map,List.getElem?_modify]
      by_cases hij:j=i
      · subst hij;simp [hp,←h1,hkey]
      · simp [hij]
     refine zbH hr hb hw rfl (S':=zjj ((m.modify j fun _=>(vi,y)).map (·.1))) (o' := .map (es.modify j fun e => { e with key:=vi,val:=vy }) clock) (vs':=(m.modify j fun _=>(vi,y)).map (·.2)) (us:=(es.modify j fun e => { e with key:=vi,val:=vy }).map (·.val)) ⟨by simp [hsz],fun i x v h3 h4 => ?_⟩ rfl ?_
     · simp only [List.getElem?_map,List.getElem?_modify,Array.getElem?_map,Array.getElem?_modify,Option.map_eq_some_iff] at h3 h4
       obtain⟨q,hq,rfl⟩:=h3
       obtain⟨f,hf,rfl⟩:=h4
       by_cases hij:j=i
       · subst hij
         simp [hp] at hq
         simp [hj'] at hf
         subst hq;subst hf
         exact hy
       · simp [hij] at hq hf
         exact hvals i q f hq hf
     · exact⟨_,_,rfl,by rw [hkeys',hkk,hm'],by simp,by rw [hm'];exact hnd,by rw [hborn'];exact hborn,fun e' he'=>by
        have:e'.born∈es.toList.map (·.born):=by rw [←hborn'];exact List.mem_map.2 ⟨e',he',rfl⟩
        obtain⟨e2,h5,h6⟩:=List.mem_map.1 this
        rw [←h6];exact hclk e2 h5⟩

theorem zju (hr:Rel G σ H w) {t:TypeId} :
 ∃ v w' σ',(Instr.makeMap t none).run P w = .ok v w'∧RelV σ' (H.new (.mapB [])) w' (.mp H.n) v∧Rel G σ' (H.new (.mapB [])) w'∧Ev H.n σ H w σ' (H.new (.mapB [])) w':=by
 obtain⟨h1,h2⟩:=zfq hr (.map #[] 0) rfl [] #[] (zjj []) ⟨rfl,by simp⟩ ⟨#[],0,rfl,by simp,by simp,by simp,by simp,by simp⟩
 refine⟨.map (some w.heap.size),w.alloc (.map #[] 0),_,by simp [Instr.makeMap,newObj,Sem.run],?_,h1,h2⟩
 have:RelV (σ.withC H.n w.heap.size) (H.new (.mapB [])) (w.alloc (.map #[] 0)) (.mp H.n) (.map (some ((σ.withC H.n w.heap.size).c H.n))) := .mp (by simp [Hp.n_new])
 simpa [Gh.withC] using this
end runs

end Go.AL

/-
  Functions of Go's library that have no body here: what they come to on numbers.
  Conditions: none;nothing here speaks of one program.
-/
namespace Go.AL
open Go

def ze8 (P:Program) (f:FuncId):Option String :=
  match P.funcs[f]? with
  | some fn => if fn.body.isNone && fn.origin == "" then some fn.name else none
  | none=>none

def zgQ:List AV → Option (List Int)
 | []=>some []
 | .p (.s (.int .u64 n)) :: xs=>(zgQ xs).map (n :: ·)
 | _=>none

def zaG (nm:String) (args:List AV):Option AV :=
  match zgQ args with
  | some [x,y,c] =>
    if 0≤x∧0≤y∧0≤c∧c≤1 then
      if nm = "math/bits.Add64" then some (.tup [.p (.s (.int .u64 ((x.toNat + y.toNat + c.toNat) % 2 ^ 64 : Nat))), .p (.s (.int .u64 ((x.toNat + y.toNat + c.toNat) / 2 ^ 64 : Nat)))])
      else if nm = "math/bits.Sub64" then some (.tup [.p (.s (.int .u64 ((x.toNat + 2 ^ 64 - y.toNat - c.toNat) % 2 ^ 64 : Nat))), .p (.s (.int .u64 (if x.toNat < y.toNat + c.toNat then 1 else 0 : Nat)))])
      else none
    else none
  | _=>none

theorem zjv {σ H w} : ∀ {args:List AV} {ns:List Int} {vs:Array Value},zgQ args=some ns → RelVs σ H w args vs → vs.toList=ns.map (Value.int .u64)
 | [],ns,vs,h,hv=>by
  simp only [zgQ,Option.some.injEq] at h
  subst h
  have:=hv.1
  simp at this
  simp [this]
 | x :: xs,ns,vs,h,hv=>by
  obtain⟨l⟩:=vs
  cases l with
  | nil=>have:=hv.1;simp at this
  | cons v vs =>
   cases x with
   | p x =>
    cases x with
    | s u =>
     cases u with
     | int k n =>
      cases k<;>simp only [zgQ,Option.map_eq_some_iff] at h<;>try cases h
      rename_i ms hms
      obtain⟨hms,rfl⟩:=hms
      have h0:=hv.2 0 _ v rfl rfl
      have ht:=zjv (vs:=⟨vs⟩) hms ⟨by simpa using hv.1,fun i x v a b=>hv.2 (i+1) x v (by simpa using a) (by simpa using b)⟩
      simp only at ht
      cases h0 with | p h0 =>
      cases h0
      simp [ht]
     | _=>simp [zgQ] at h
    | _=>simp [zgQ] at h
   | _=>simp [zgQ] at h

theorem zmu {fn : Func} (h : fn.name = "math/bits.Add64") : Extern.find fn = some (fun args => do
    let (x, y, c) ← Extern.MathBitsCarry.three "Add64" args
    pure (Extern.MathBitsCarry.pair ((x+y+c) % Extern.MathBitsCarry.m64) ((x+y+c) / Extern.MathBitsCarry.m64))):=by
  unfold Extern.find
  rw [h]
  kernel_rfl
theorem zmv {fn : Func} (h : fn.name = "math/bits.Sub64") : Extern.find fn = some (fun args => do
    let (x, y, b) ← Extern.MathBitsCarry.three "Sub64" args
    pure (Extern.MathBitsCarry.pair ((x+Extern.MathBitsCarry.m64 - y - b) % Extern.MathBitsCarry.m64) (if x < y+b then 1 else 0))):=by
  unfold Extern.find
  rw [h]
  kernel_rfl
theorem zul (nm:String) (x y c:Value):Extern.MathBitsCarry.three nm #[x,y,c]=(do
    let c:=(←asInt c).toNat
    if c > 1 then unsupported (.noEntry ("extern/math/bits." ++ nm ++ ": a carry that is neither 0 nor 1"))
    pure ((←asInt x).toNat,(←asInt y).toNat,c)):=rfl

theorem zhr {P:Program} {w:World} (nm:String) {k1 k2 k3:IntKind} (x y c:Int) (hc : ¬ 1 < c.toNat):(Extern.MathBitsCarry.three nm #[.int k1 x,.int k2 y,.int k3 c]).run P w = .ok (x.toNat,y.toNat,c.toNat) w:=by
 rw [zul]
 simp only [asInt,asIntOf,Sem.run_bind,Sem.run_pure,Result.andThen_ok,gt_iff_lt,hc,if_false]

theorem zhs {fn : Func} (n : String) (h : fn.name = n) (ho : fn.origin = "") (h1 : (Extern.allNextRows.lookup n).isNone = true) : Extern.findNext fn = none := by
  unfold Extern.findNext
  rw [h,ho]
  have h2 : (Extern.allNextRows.lookup "").isNone = true := by kernel_rfl
  simp only [Option.isNone_iff_eq_none] at h1 h2
  simp [h1,h2]

theorem zBx {P:Program} {σ:Gh} {H:Hp} {w:World} {f:FuncId} {nm:String} {args:List AV} {y:AV} {vs:Array Value} (hn:ze8 P f=some nm) (h:zaG nm args=some y) (hv:RelVs σ H w args vs) :
 ∃ v,(callFunc f vs).run P w = .ok (.value v) w∧RelV σ H w y v:=by
 unfold ze8 at hn
 split at hn
 case h_2=>cases hn
 rename_i fn hf
 split at hn
 case isFalse=>cases hn
 rename_i hc
 cases hn
 simp only [Bool.and_eq_true,beq_iff_eq] at hc
 obtain⟨hb,ho⟩:=hc
 unfold zaG at h
 split at h
 case h_2=>cases h
 rename_i x y' c hu
 have hl:=zjv hu hv
 obtain rfl:vs = #[.int .u64 x,.int .u64 y',.int .u64 c]:=by
  apply Array.ext'
  simpa using hl
 split at h
 case isFalse=>cases h
 rename_i hr
 have hc1 : ¬ 1 < c.toNat:=by omega
 split at h
 · rename_i he
   cases h
   have hr:=run_callFunc_extern hf (by rw [he];decide) hb (zhs _ he ho (by kernel_rfl)) (zmu he) #[.int .u64 x,.int .u64 y',.int .u64 c] w
   refine⟨.tuple #[.int .u64 ((x.toNat+y'.toNat+c.toNat) % 2 ^ 64:Nat),.int .u64 ((x.toNat+y'.toNat+c.toNat) / 2 ^ 64:Nat)],?_,.tup _ rfl fun i x v h1 h2 => ?_⟩
   · rw [hr]
     simp only [Sem.run_bind,zhr _ _ _ _ hc1,Result.andThen_ok,Sem.run_pure]
     rfl
   · rcases i with _ | _ | i
     · simp at h1 h2;subst h1;subst h2;exact .p (.s _ rfl)
     · simp at h1 h2;subst h1;subst h2;exact .p (.s _ rfl)
     · simp at h1
 · split at h
   case isFalse=>cases h
   rename_i he
   cases h
   have hr:=run_callFunc_extern hf (by rw [he];decide) hb (zhs _ he ho (by kernel_rfl)) (zmv he) #[.int .u64 x,.int .u64 y',.int .u64 c] w
   refine⟨.tuple #[.int .u64 ((x.toNat+2 ^ 64 - y'.toNat - c.toNat) % 2 ^ 64:Nat),.int .u64 (if x.toNat < y'.toNat+c.toNat then 1 else 0:Nat)],?_,.tup _ rfl fun i x v h1 h2 => ?_⟩
   · rw [hr]
     simp only [Sem.run_bind,zhr _ _ _ _ hc1,Result.andThen_ok,Sem.run_pure]
     rfl
   · rcases i with _ | _ | i
     · simp at h1 h2;subst h1;subst h2;exact .p (.s _ rfl)
     · simp at h1 h2;subst h1;subst h2;exact .p (.s _ rfl)
     · simp at h1

end Go.AL

/-
  One operation's step on abstract values,a region's operations in the text's order,calls and returns.
  Conditions: none;nothing here speaks of one program.
-/
namespace Go.AL
open Go

inductive SRes where
 | val (x:AV) (H:Hp)
 | unit (H:Hp)
 | call (f:FuncId) (args:List AV)
 | yield (b:Nat) (args:List AV)
 | fail

def vH (x:Option AV) (H:Hp):SRes:=match x with | some x => .val x H | none => .fail
def vHH (x:Option (AV × Hp)):SRes:=match x with | some (x,H) => .val x H | none => .fail
def uH (x:Option Hp):SRes:=match x with | some H => .unit H | none => .fail

def zaK (P:Program) (t:TypeId) (v:Value):AV :=
 match v with
 | .slice a l c=>if a.isNone && l == 0 && c == 0 then (match P.underlying t with | some (.slice e) => .p (.sl true (P.cellsOf e) []) | _ => .p (.sl true 0 [])) else .p (.s (.slice a l c))
 | v=>yu v

def zaV (P:Program) (G:Globs) (env:Env) (t:TypeId) (x:Operand):AV :=
 match x with
 | .const v=>zaK P t v
 | x=>yB G env x

theorem zum {σ:Gh} {H:Hp} {w:World} {u v:Value} (h:RelV σ H w (.p (.s u)) v):v=u:=by
 cases h with | p h=>cases h;rfl

def zbV (v:Value):AV:=match v with | .slice none 0 0 => .p (.s (.slice none 0 0)) | v=>yu v
def zbp (P:Program) (t:TypeId) (v:Value):AV:=match v with | .slice none 0 0 => .p (.s (.slice none 0 0)) | v=>zaK P t v
def zft (G:Globs) (env:Env) (x:Operand):AV:=match x with | .const v=>zbV v | x=>yB G env x
def zhZ (P:Program) (G:Globs) (env:Env) (t:TypeId) (x:Operand):AV:=match x with | .const v=>zbp P t v | x=>zaV P G env t x

def yV (P:Program) (G:Globs) (env:Env):List Operand → List TypeId → List AV
 | [],_=>[]
 | x :: xs,[]=>yB G env x :: yV P G env xs []
 | x :: xs,t :: ts=>zhZ P G env t x :: yV P G env xs ts

def zad (G:Globs) (env:Env):List (Nat × Operand) → List (Nat × AV)
 | []=>[]
 | (i,x) :: r=>(i,yB G env x) :: zad G env r

def za3 (G:Globs) (env:Env):List Operand → List AV
 | []=>[]
 | x :: r=>yB G env x :: za3 G env r

def enters (P : Program) (f : FuncId) : Bool := match P.funcs[f]? with | some fn => fn.body.isSome && !(fn.name == "runtime.NumGoroutine") | none => false

open Classical in
noncomputable def zcy (P:Program) (t:TypeId) (xs ys:List PV):Option Bool :=
 if P.keyTypeAt 64 t && !P.eqGuardType P.depth t && zg P t then
  match zbG xs,zbG ys with
  | some a,some b=>match P.keyLits 64 t a,P.keyLits 64 t b with
   | some la,some lb=>some (decide (la=lb))
   | _,_=>none
  | _,_=>none
 else none

theorem zeg {P:Program} {t:TypeId} {d:Nat} {cs:List Value} {l:List Lit} (ht:zg P t=true) (h:P.keyLits d t cs=some l):cs.length=P.cellsOf t∧((∃ n e,P.underlying t=some (.array n e)) ∨ ∃ fs,P.underlying t=some (.struct fs)):=by
 cases d with
 | zero=>simp [Program.keyLits] at h
 | succ d =>
  unfold zg at ht
  split at ht
  case h_2=>cases ht
  rename_i k hk
  cases k<;>simp [yx] at ht
  · rename_i n e
    unfold Program.keyLits at h
    simp only [hk] at h
    split at h
    · rename_i hl;exact⟨hl,.inl ⟨n,e,hk⟩⟩
    · cases h
  · rename_i fs
    unfold Program.keyLits at h
    simp only [hk] at h
    split at h
    · rename_i hl;exact⟨hl.1,.inr ⟨fs,hk⟩⟩
    · cases h

open Classical in
theorem zq2 {P:Program} {t:TypeId} {xs ys:List PV} {r:Bool} {w:World} {S:Nat → Nat → Prop} {vx vy:Value} (h:zcy P t xs ys=some r) (hx:RelP w S (.agg xs) vx) (hy:RelP w S (.agg ys) vy) (op:BinOp) (xo yo:Operand) :
 (eqGuard op t xo yo vx vy).run P w = .ok () w∧(Op.equal t vx vy).run P w = .ok r w∧(∃ vs,vx = .agg vs) ∧ ∃ us,vy = .agg us:=by
 cases hx with | agg _ vs hl _ hr =>
 cases hy with | agg _ us hl' _ hr' =>
 unfold zcy at h
 split at h
 case isFalse=>cases h
 rename_i hc
 simp only [Bool.and_eq_true,Bool.not_eq_true'] at hc
 obtain⟨⟨hk,hg⟩,ha⟩:=hc
 split at h
 case h_2=>cases h
 rename_i a b e1 e2
 split at h
 case h_2=>cases h
 rename_i la lb f1 f2
 cases h
 have q1:vs.toList=a:=zc4 e1 (by simpa using hl) (fun i x v e e'=>hr i x v e (by simpa using e'))
 have q2:us.toList=b:=zc4 e2 (by simpa using hl') (fun i x v e e'=>hr' i x v e (by simpa using e'))
 obtain⟨g1,g2⟩:=zeg ha f1
 obtain⟨g3,_⟩:=zeg ha f2
 have fm : ∀ {ws:Array Value},ws.size=P.cellsOf t → (Value.agg ws).formed P t=true:=fun hs=>by
  rcases g2 with ⟨n,e,hu⟩ | ⟨fs,hu⟩<;>simp [Value.formed,hu,hs]
 have fx:=fm (ws:=vs) (by rw [←Array.length_toList,q1,g1])
 have fy:=fm (ws:=us) (by rw [←Array.length_toList,q2,g3])
 refine⟨?_,?_,⟨vs,rfl⟩,us,rfl⟩
 · unfold eqGuard
   cases op<;>simp [hg]
 · obtain⟨r,hr,hiff⟩:=run_equalIn_deep 9936 64 t hk w 64 64 (.agg vs) (.agg us) la lb fx fy (by simpa [Value.cells,q1] using f1) (by simpa [Value.cells,q2] using f2)
   by_cases he:la=lb
   · rw [decide_eq_true he,←hiff.2 he];exact hr
   · cases r with
     | false=>rw [decide_eq_false he];exact hr
     | true=>exact absurd (hiff.1 rfl) he

def zfu:AV → Bool
 | .p (.sl _ _ (_ :: _))=>true
 | .sl _ _ _ (_ :: _)=>true
 | .ref .. => true
 | .vr _ (_+1) _=>true
 | _=>false

theorem zmw {σ:Gh} {H:Hp} {w:World} {x:AV} {v:Value} (h:zfu x=true) (hr:RelV σ H w x v) : ∃ a l c,v = .slice (some a) l c:=by
 unfold zfu at h
 split at h
 · cases hr with | p hr=>cases hr;exact⟨_,_,_,rfl⟩
 · cases hr with | sl hr _=>cases hr;exact⟨_,_,_,rfl⟩
 · cases hr;exact⟨_,_,_,rfl⟩
 · cases hr with | vr hr =>
   obtain⟨_,a,c,rfl,ha,_⟩:=hr
   have:=ha (by omega)
   cases a with
   | none=>cases this
   | some a=>exact⟨_,_,_,rfl⟩
 · cases h

noncomputable def zi (P:Program) (op:BinOp) (t:TypeId) (x y:AV):Option AV :=
 match x,y with
 | .p (.s a),.p (.s b)=>(zB P op t a b).map fun v => .p (.s v)
 | .p (.agg xs),.p (.agg ys)=>match op with
  | .eql=>(zcy P t xs ys).map fun r => .p (.s (.bool r))
  | .neq=>(zcy P t xs ys).map fun r => .p (.s (.bool !r))
  | _=>none
 | x,.p (.s (.slice none 0 0))=>if zaI P t && zfu x then (match op with
  | .eql=>some (.p (.s (.bool false)))
  | .neq=>some (.p (.s (.bool true)))
  | _=>none) else none
 | _,_=>none

def aUn (op:UnOp) (x:AV):Option AV :=
 match x with
 | .p (.s a)=>(vUn op a).map fun v => .p (.s v)
 | _=>none

def zO (P:Program) (H:Hp) (s d:TypeId) (x:AV):Option AV :=
 match P.underlying s,P.underlying d with
 | some (.slice _),some .string=>zaC P H s d x
 | some .string,some (.slice _)=>zb8 P s d x
 | _,_=>if (P.underlying s).isSome then (match x with | .p (.s a)=>(yI P d a).map fun v => .p (.s v) | _=>none) else none

def zbq (big:Bool) (x y:AV):Option AV :=
 match x,y with
 | .p (.s (.int k a)),.p (.s (.int k' b))=>if k=k' then some (.p (.s (.int k (if big then max a b else min a b)))) else none
 | _,_=>none

def isIface (P:Program) (t:TypeId):Bool:=match P.underlying t with | some (.interface _) | none=>true | _=>false

def zun (x:AV):Option AV :=
 match x with
 | .ptr b off=>some (.ptr b off)
 | .ip sz xs i sub=>some (.ip sz xs i sub)
 | .clo f a c=>some (.clo f a c)
 | .vp b k off=>some (.vp b k off)
 | _=>none

def yi (P:Program) (G:Globs) (env:Env) (H:Hp) (b:Builtin) (args:List Operand) (ts:List TypeId):SRes :=
 match b,args,ts with
 | .len,[x],[t]=>vH (zKv P t (yB G env x)) H
 | .append,[s,x],[t,u]=>vHH (zdA P H t u (zaV P G env t s) (zaV P G env u x))
 | .copy,[d,s],[t,_]=>vHH (zjq P H t (yB G env d) (yB G env s))
 | .min,[x,y],_=>vH (zbq false (yB G env x) (yB G env y)) H
 | .max,[x,y],_=>vH (zbq true (yB G env x) (yB G env y)) H
 | _,_,_ => .fail

def yr (P:Program) (fn:FuncId) (args:List AV) (H:Hp):SRes:=match ze8 P fn with | some nm=>vH (zaG nm args) H | none => .fail

def za4 (P:Program) (G:Globs) (env:Env) (c:Call) (f:AV) (H:Hp):SRes :=
 match f with
 | .clo fn first captured=>if enters P fn then .call fn (first++yV P G env c.args.toList c.argTypes.toList++captured) else yr P fn (first++yV P G env c.args.toList c.argTypes.toList++captured) H
 | .yld b => .yield b (yV P G env c.args.toList c.argTypes.toList)
 | _ => .fail

noncomputable def zq (P:Program) (G:Globs) (op:Op) (ty:TypeId) (env:Env) (H:Hp):SRes :=
 match op with
 | .move x => .val (zaV P G env ty x) H
 | .assign x => .val (zaV P G env ty x) H
 | .alloc t=>match zj P t with | some ps => .val (.ptr H.n 0) (H.new (.cells (ps.map .p))) | none => .fail
 | .box _ x=>match zo (yB G env x) with | some cs => .val (.ptr H.n 0) (H.new (.cells cs)) | none => .fail
 | .build t parts=>vH (zX P t (zad G env parts.toList)) H
 | .buildSlice t n parts=>vHH (zaB P H t n (zad G env parts.toList))
 | .load t a=>vH (zaA P H t (yB G env a)) H
 | .store t a x=>uH (zcI P H t (yB G env a) (zaV P G env t x))
 | .nilCheck x=>vH (zun (yB G env x)) H
 | .binOp op t x y _=>vH (zi P op t (zft G env x) (zft G env y)) H
 | .unOp op _ x=>vH (aUn op (yB G env x)) H
 | .convert s d x=>vH (zO P H s d (yB G env x)) H
 | .makeInterface t x=>match yB G env x with | .p (.s v)=>if isIface P t then .fail else .val (.p (.s (.iface t v))) H | _ => .fail
 | .makeFunc fn first captured=>match fn with | .func f => .val (.clo f (za3 G env first.toList) (za3 G env captured.toList)) H | _ => .fail
 | .makeSlice t l c=>match l with | .const (.int _ 0)=>vHH (zfm P H t (yB G env l) (yB G env c)) | _=>vHH (zjp P H t (yB G env l) (yB G env c))
 | .slice t x lo hi mx=>vH (zfp P t (yB G env x) (lo.map (yB G env)) (hi.map (yB G env)) (mx.map (yB G env))) H
 | .fieldAddr s x f=>vH (zbD P s (yB G env x) f) H
 | .field s x f=>vH (zfj P s (yB G env x) f) H
 | .indexAddr t x i=>vH (zbC P t (yB G env x) (yB G env i)) H
 | .index t x i=>vH (zfk P t (yB G env x) (yB G env i)) H
 | .extract t i=>match yB G env t with | .tup xs=>vH xs[i]? H | _ => .fail
 | .pick c x y=>match yB G env c with | .p (.s (.bool b)) => .val (if b then zaV P G env ty x else zaV P G env ty y) H | _ => .fail
 | .call c=>match c.callee with
  | .value f=>za4 P G env c (yB G env f) H
  | .builtin b=>yi P G env H b c.args.toList c.argTypes.toList
  | .invoke _ _ => .fail
 | .makeMap _ r=>match r with | none => .val (.mp H.n) (H.new (.mapB [])) | _ => .fail
 | .lookup t x i ok=>vH (zc5 P G.map H t (yB G env x) (yB G env i) ok) H
 | .mapUpdate t x i y | .insert t x i y=>uH (zbU P H t (yB G env x) (yB G env i) (zaV P G env t y))
 | _ => .fail

section sound
variable {P:Program} {G:Globs} {σ:Gh} {H:Hp} {w:World} {env:Env} {nt m:Nat} {a:Act}

theorem zeh {t:TypeId} (v:Value):RelV σ H w (zaK P t v) v:=by
 cases v
 case slice ad l c =>
  simp only [zaK]
  split
  · rename_i h
    simp only [Bool.and_eq_true,Option.isNone_iff_eq_none,beq_iff_eq] at h
    obtain⟨⟨rfl,rfl⟩,rfl⟩:=h
    split<;>exact .p (.nil true _)
  · exact .p (.s _ rfl)
 all_goals (unfold zaK;exact zdi _)

theorem zaL (hr:Rel G σ H w) (hf:RelF nt m σ H w env a) (t:TypeId) (x:Operand):RelV σ H w (zaV P G env t x) (a.eval x):=by
 cases x with
 | const v=>exact zeh v
 | tmp t=>exact zy hr hf (.tmp t)
 | global g=>exact zy hr hf (.global g)
 | func f=>exact zy hr hf (.func f)

theorem zjw (hr:Rel G σ H w) (hf:RelF nt m σ H w env a) (x:Operand):RelV σ H w (zft G env x) (a.eval x):=by
 cases x with
 | const v =>
  show RelV σ H w (zbV v) v
  unfold zbV
  split
  · exact .p (.s _ rfl)
  · exact zdi _
 | tmp t=>exact zy hr hf (.tmp t)
 | global g=>exact zy hr hf (.global g)
 | func f=>exact zy hr hf (.func f)

theorem zuo (hr:Rel G σ H w) (hf:RelF nt m σ H w env a) (t:TypeId) (x:Operand):RelV σ H w (zhZ P G env t x) (a.eval x):=by
 cases x with
 | const v =>
  show RelV σ H w (zbp P t v) v
  unfold zbp
  split
  · exact .p (.s _ rfl)
  · exact zeh _
 | tmp t=>exact zy hr hf (.tmp t)
 | global g=>exact zy hr hf (.global g)
 | func f=>exact zy hr hf (.func f)

theorem zc6 (hr:Rel G σ H w) (hf:RelF nt m σ H w env a) : ∀ (xs:List Operand) (ts:List TypeId),(yV P G env xs ts).length=xs.length ∧ ∀ (i:Nat) x v,(yV P G env xs ts)[i]? = some x → (xs.map a.eval)[i]? = some v → RelV σ H w x v
 | [],ts=>by simp [yV]
 | x :: xs,[]=>by
  obtain⟨h1,h2⟩:=zc6 hr hf xs []
  refine⟨by simp [yV,h1],fun i y v hy hv => ?_⟩
  cases i with
  | zero=>simp [yV] at hy hv;subst hy;subst hv;exact zy hr hf x
  | succ i=>simp only [yV,List.getElem?_cons_succ,List.map_cons] at hy hv;exact h2 i y v hy hv
 | x :: xs,t :: ts=>by
  obtain⟨h1,h2⟩:=zc6 hr hf xs ts
  refine⟨by simp [yV,h1],fun i y v hy hv => ?_⟩
  cases i with
  | zero=>simp [yV] at hy hv;subst hy;subst hv;exact zuo hr hf t x
  | succ i=>simp only [yV,List.getElem?_cons_succ,List.map_cons] at hy hv;exact h2 i y v hy hv

theorem zcj (hr:Rel G σ H w) (hf:RelF nt m σ H w env a) : ∀ (ps:List (Nat × Operand)),(zad G env ps).length=ps.length ∧ ∀ (k:Nat) i x j v,(zad G env ps)[k]? = some (i,x) → (ps.map fun p=>(p.1,a.eval p.2))[k]? = some (j,v) → j=i∧RelV σ H w x v
 | []=>by simp [zad]
 | (i,x) :: ps=>by
  obtain⟨h1,h2⟩:=zcj hr hf ps
  refine⟨by simp [zad,h1],fun k i' y j v hy hv => ?_⟩
  cases k with
  | zero =>
   simp [zad] at hy hv
   obtain⟨rfl,rfl⟩:=hy
   obtain⟨rfl,rfl⟩:=hv
   exact⟨rfl,zy hr hf x⟩
  | succ k=>simp only [zad,List.getElem?_cons_succ,List.map_cons] at hy hv;exact h2 k i' y j v hy hv

theorem zd3 (hr:Rel G σ H w) (hf:RelF nt m σ H w env a) : ∀ (xs:List Operand),(za3 G env xs).length=xs.length ∧ ∀ (i:Nat) x v,(za3 G env xs)[i]? = some x → (xs.map a.eval)[i]? = some v → RelV σ H w x v
 | []=>by simp [za3]
 | x :: xs=>by
  obtain⟨h1,h2⟩:=zd3 hr hf xs
  refine⟨by simp [za3,h1],fun i y v hy hv => ?_⟩
  cases i with
  | zero=>simp [za3] at hy hv;subst hy;subst hv;exact zy hr hf x
  | succ i=>simp only [za3,List.getElem?_cons_succ,List.map_cons] at hy hv;exact h2 i y v hy hv

theorem zdo (hr:Rel G σ H w) (hf:RelF nt m σ H w env a) (x:Option Operand):zdk σ H w (x.map (yB G env)) (x.map a.eval):=by
 cases x with
 | none=>trivial
 | some x=>exact zy hr hf x

theorem zfv {f:FuncId} (h:enters P f=true) (vs:Array Value) (w:World):(callFunc f vs).run P w = .ok (.enter f vs) w:=by
  unfold enters at h
  split at h
  case h_2=>cases h
  rename_i fn hf
  simp only [Bool.and_eq_true,Bool.not_eq_true'] at h
  obtain⟨h1,h2⟩:=h
  have h3 : ¬ fn.body=none:=fun h=>by simp [h] at h1
  have h4 : ¬ fn.name = "runtime.NumGoroutine" := by simpa using h2
  simp [callFunc,hf,h3,h4]

def StepOK (P:Program) (G:Globs) (σ:Gh) (H:Hp) (w:World) (ex:Sem Next):SRes → Prop
 | .val x H' => ∃ v w' σ',ex.run P w = .ok (.value v) w'∧RelV σ' H' w' x v∧Rel G σ' H' w'∧Ev H.n σ H w σ' H' w'
 | .unit H' => ∃ w' σ',ex.run P w = .ok .skip w'∧Rel G σ' H' w'∧Ev H.n σ H w σ' H' w'
 | .call f args => ∃ vs,ex.run P w = .ok (.enter f vs) w∧RelVs σ H w args vs
 | .yield b args => ∃ vs,RelVs σ H w args vs ∧ ∀ f t x y,(Instr.yield (σ.c b) vs).run P w = .ok (.round (σ.c b) f t x y) w → ex.run P w = .ok (.round (σ.c b) f t x y) w
 | .fail=>True

theorem StepOK.read (hr:Rel G σ H w) {x:Option AV} {s:Sem Value} (h : ∀ y,x=some y → ∃ v,s.run P w = .ok v w∧RelV σ H w y v):StepOK P G σ H w (do pure (.value (←s))) (vH x H):=by
 cases x with
 | none=>trivial
 | some y =>
  obtain⟨v,h1,h2⟩:=h y rfl
  exact⟨v,w,σ,by simp [h1],h2,hr,Ev.refl (Nat.le_refl _)⟩

theorem StepOK.make {x:Option (AV × Hp)} {s:Sem Value} (h : ∀ y H',x=some (y,H') → ∃ v w' σ',s.run P w = .ok v w'∧RelV σ' H' w' y v∧Rel G σ' H' w'∧Ev H.n σ H w σ' H' w'):StepOK P G σ H w (do pure (.value (←s))) (vHH x):=by
 cases x with
 | none=>trivial
 | some y =>
  obtain⟨y,H'⟩:=y
  obtain⟨v,w',σ',h1,h2⟩:=h y H' rfl
  exact⟨v,w',σ',by simp [h1],h2⟩

theorem zfw {big:Bool} {X Y z:AV} {vx vy:Value} {ts:Array TypeId} {ty:TypeId} (h:zbq big X Y=some z) (h1:RelV σ H w X vx) (h2:RelV σ H w Y vy) :
 ∃ v,((if big then Builtin.max_ else Builtin.min_) ts ty #[vx,vy]).run P w = .ok v w∧RelV σ H w z v:=by
 unfold zbq at h
 split at h
 case h_2=>cases h
 rename_i k i k' j
 split at h
 case isFalse=>cases h
 rename_i hk;subst hk
 cases h
 have h1':vx = .int k i:=by cases h1 with | p h=>cases h;rfl
 have h2':vy = .int k j:=by cases h2 with | p h=>cases h;rfl
 subst h1' h2'
 refine⟨.int k (if big then max i j else min i j),?_,.p (.s _ rfl)⟩
 cases big
 · simp [Builtin.min_,List.foldlM_cons,List.foldlM_nil,Builtin.min2]
   omega
 · simp [Builtin.max_,List.foldlM_cons,List.foldlM_nil,Builtin.max2]
   omega

theorem zgS (hr:Rel G σ H w) (hf:RelF nt m σ H w env a) (b:Builtin) (args:Array Operand) (ts:Array TypeId) (ty:TypeId) (cs:Array Bool) :
 StepOK P G σ H w (builtin b ts ty cs (args.map a.eval)) (yi P G env H b args.toList ts.toList):=by
 unfold yi
 split
 · rename_i x t hx ht
   have hx':args = #[x]:=by simpa using congrArg List.toArray hx
   have ht':ts = #[t]:=by simpa using congrArg List.toArray ht
   subst hx';subst ht'
   exact .read hr fun y hy=>by simpa using zuk (ty:=ty) hy (zy hr hf x)
 · rename_i s x t u hx ht
   have hx':args = #[s,x]:=by simpa using congrArg List.toArray hx
   have ht':ts = #[t,u]:=by simpa using congrArg List.toArray ht
   subst hx';subst ht'
   exact .make fun y H' hy=>by simpa using zjo (ty:=ty) hr hy (zaL hr hf t s) (zaL hr hf u x)
 · rename_i d s t u hx ht
   have hx':args = #[d,s]:=by simpa using congrArg List.toArray hx
   have ht':ts = #[t,u]:=by simpa using congrArg List.toArray ht
   subst hx';subst ht'
   exact .make fun y H' hy=>by simpa using zqY (u:=u) (ty:=ty) hr hy (zy hr hf d) (zy hr hf s)
 · rename_i x y hx
   have hx':args = #[x,y]:=by simpa using congrArg List.toArray hx
   subst hx'
   refine .read hr fun z hz => ?_
   have h1:=zy hr hf x
   have h2:=zy hr hf y
   generalize yB G env x=X at hz h1
   generalize yB G env y=Y at hz h2
   simp only [List.map_toArray,List.map_cons,List.map_nil]
   generalize a.eval x=vx at h1
   generalize a.eval y=vy at h2
   exact zfw (big:=false) (ts:=ts) (ty:=ty) hz h1 h2
 · rename_i x y hx
   have hx':args = #[x,y]:=by simpa using congrArg List.toArray hx
   subst hx'
   refine .read hr fun z hz => ?_
   have h1:=zy hr hf x
   have h2:=zy hr hf y
   generalize yB G env x=X at hz h1
   generalize yB G env y=Y at hz h2
   simp only [List.map_toArray,List.map_cons,List.map_nil]
   generalize a.eval x=vx at h1
   generalize a.eval y=vy at h2
   exact zfw (big:=true) (ts:=ts) (ty:=ty) hz h1 h2
 · trivial

theorem zh0 (hr:Rel G σ H w) (hf:RelF nt m σ H w env a) (o:Oper):StepOK P G σ H w (execOp a.eval o) (zq P G o.op o.type env H):=by
 obtain⟨dst,op,ty,pos,after,guard⟩:=o
 cases op<;>simp only [zq,execOp]<;>try trivial
 case move x=>exact⟨_,w,σ,rfl,zaL hr hf ty x,hr,Ev.refl (Nat.le_refl _)⟩
 case assign x=>exact⟨_,w,σ,rfl,zaL hr hf ty x,hr,Ev.refl (Nat.le_refl _)⟩
 case alloc t =>
  split
  · rename_i ps hps
    obtain⟨u,w',σ',h1,h2⟩:=zqU hr hps
    exact⟨u,w',σ',by simp [h1],h2⟩
  · trivial
 case box t x =>
  split
  · rename_i cs hcs
    obtain⟨u,w',σ',h1,h2⟩:=zBv (P:=P) (e:=t) hr hcs (zy hr hf x)
    exact⟨u,w',σ',by simp [h1],h2⟩
  · trivial
 case build t parts =>
  refine .read hr fun y hy => ?_
  obtain⟨h1,h2⟩:=zcj hr hf parts.toList
  exact zmr hy (by simp [h1]) (fun k i x j v e1 e2=>h2 k i x j v e1 (by simpa using e2))
 case buildSlice t n parts =>
  refine .make fun y H' hy => ?_
  obtain⟨h1,h2⟩:=zcj hr hf parts.toList
  exact zeA hr hy (by simp [h1]) (fun k i x j v e1 e2=>h2 k i x j v e1 (by simpa using e2))
 case load t x=>exact .read hr fun y hy=>zhk hr hy (zy hr hf x)
 case store t x y =>
  cases h:zcI P H t (yB G env x) (zaV P G env t y) with
  | none=>trivial
  | some H' =>
   obtain⟨w',σ',h1,h2,h3⟩:=zmn hr h (zy hr hf x) (zaL hr hf t y)
   exact⟨w',σ',by simp [h1],h2,h3⟩
 case makeMap t r =>
  cases r with
  | some x=>trivial
  | none =>
   obtain⟨v,w',σ',h1,h2,h3,h4⟩:=zju (P:=P) hr (t:=t)
   exact⟨v,w',σ',by simp [h1],h2,h3,h4⟩
 case lookup t x i ok=>exact .read hr fun y hy=>zjt hr hy (zy hr hf x) (zy hr hf i)
 case mapUpdate t x i y =>
  cases h:zbU P H t (yB G env x) (yB G env i) (zaV P G env t y) with
  | none=>trivial
  | some H' =>
   obtain⟨w',h1,h2,h3⟩:=zef hr h (zy hr hf x) (zy hr hf i) (zaL hr hf t y)
   exact⟨w',σ,by simp [h1],h2,h3⟩
 case insert t x i y =>
  cases h:zbU P H t (yB G env x) (yB G env i) (zaV P G env t y) with
  | none=>trivial
  | some H' =>
   obtain⟨w',h1,h2,h3⟩:=zef hr h (zy hr hf x) (zy hr hf i) (zaL hr hf t y)
   exact⟨w',σ,by simp [h1],h2,h3⟩
 case nilCheck x =>
  have hx:=zy hr hf x
  cases h:zun (yB G env x) with
  | none=>trivial
  | some y =>
   unfold zun at h
   split at h<;>cases h
   · rename_i b off e
     rw [e] at hx
     generalize a.eval x=v at hx ⊢
     cases hx with | ptr hb=>exact⟨_,w,σ,rfl,.ptr hb,hr,Ev.refl (Nat.le_refl _)⟩
   · rename_i sz xs i sub e
     rw [e] at hx
     generalize a.eval x=v at hx ⊢
     cases hx with | ip hp hi hs=>exact⟨_,w,σ,rfl,.ip hp hi hs,hr,Ev.refl (Nat.le_refl _)⟩
   · rename_i f p c e
     rw [e] at hx
     generalize a.eval x=v at hx ⊢
     cases hx with | clo fs cs q1 q2 q3 q4=>exact⟨_,w,σ,rfl,.clo fs cs q1 q2 q3 q4,hr,Ev.refl (Nat.le_refl _)⟩
   · rename_i b k off e
     rw [e] at hx
     generalize a.eval x=v at hx ⊢
     cases hx with | vp ad q=>exact⟨_,w,σ,rfl,.vp ad q,hr,Ev.refl (Nat.le_refl _)⟩
 case binOp op t x y t' =>
  refine .read hr fun z hz => ?_
  have h1:=zjw hr hf x
  have h2:=zjw hr hf y
  unfold zi at hz
  split at hz
  case h_4=>cases hz
  case h_3 =>
   rename_i x' e2 hn
   split at hz
   case isFalse=>cases hz
   rename_i hc
   simp only [Bool.and_eq_true] at hc
   obtain⟨e,hu⟩:=zdz hc.1
   obtain⟨ad,l,c,h1'⟩:=zmw hc.2 h1
   rw [e2] at h2
   have h2':a.eval y = .slice none 0 0:=zum h2
   rw [h1',h2']
   split at hz
   case h_3=>cases hz
   all_goals
    cases hz
    refine⟨_,?_,.p (.s _ rfl)⟩
    rw [Sem.run_bind,zab (by simp) (by simp),Result.andThen_ok]
    simp only [binOp]
    rw [Sem.run_bind,zcH hu]
    rfl
  case h_2 =>
   rename_i xs ys e1 e2
   rw [e1] at h1;rw [e2] at h2
   cases h1 with | p h1 =>
   cases h2 with | p h2 =>
   split at hz
   case h_3=>cases hz
   all_goals
    simp only [Option.map_eq_some_iff] at hz
    obtain⟨r,hr1,rfl⟩:=hz
    refine⟨_,?_,.p (.s _ rfl)⟩
    rename_i hop
    obtain⟨q1,q2,⟨vs,q3⟩,us,q4⟩:=zq2 hr1 h1 h2 _ x y
    rw [q3,q4] at q1 q2 ⊢
    rw [Sem.run_bind,q1,Result.andThen_ok]
    simp only [binOp,Sem.run_bind,q2,Result.andThen_ok,Sem.run_pure]
  rename_i u v e1 e2
  rw [e1] at h1;rw [e2] at h2
  have h1':a.eval x=u:=by cases h1 with | p h=>cases h;rfl
  have h2':a.eval y=v:=by cases h2 with | p h=>cases h;rfl
  cases hv:zB P op t u v with
  | none=>simp [hv] at hz
  | some r =>
   simp only [hv,Option.map_some,Option.some.injEq] at hz
   subst hz
   rw [h1',h2']
   refine⟨r,zui hv x y w,.p (.s _ ?_)⟩
   unfold zB at hv
   split at hv
   · split at hv
     · unfold zS at hv;split at hv;· cases hv
       · split at hv<;>cases hv<;>rfl
     · split at hv
       · unfold yc at hv
         split at hv<;>first | (cases hv;rfl) | (split at hv<;>cases hv;rfl) | (cases hv)
       · cases hv
   · unfold zBt at hv
     split at hv<;>first | (cases hv;rfl) | (split at hv<;>cases hv;rfl) | (cases hv)
   · split at hv
     · split at hv<;>cases hv<;>rfl
     · cases hv
   · split at hv
     · split at hv<;>cases hv<;>rfl
     · cases hv
   · cases hv
 case unOp op t x =>
  refine .read hr fun z hz => ?_
  have h1:=zy hr hf x
  unfold aUn at hz
  split at hz
  case h_2=>cases hz
  rename_i u e1
  rw [e1] at h1
  have h1':a.eval x=u:=by cases h1 with | p h=>cases h;rfl
  cases hv:vUn op u with
  | none=>simp [hv] at hz
  | some r =>
   simp only [hv,Option.map_some,Option.some.injEq] at hz
   subst hz
   rw [h1']
   refine⟨r,zBu hv w,.p (.s _ ?_)⟩
   unfold vUn at hv
   split at hv<;>cases hv<;>rfl
 case convert s d x =>
  have h1:=zy hr hf x
  unfold zO
  split
  · exact .read hr fun y hy=>zgO hr hy h1
  · cases h:zb8 P s d (yB G env x) with
    | none=>trivial
    | some y =>
     obtain⟨v,w',q1,q2,q3,q4⟩:=zgP hr h h1
     exact⟨v,w',σ,by simp [q1],q2,q3,q4⟩
  · refine .read hr fun z hz => ?_
    split at hz
    case isFalse=>cases hz
    rename_i hs
    split at hz
    case h_2=>cases hz
    rename_i u e1
    rw [e1] at h1
    have h1':a.eval x=u:=by cases h1 with | p h=>cases h;rfl
    cases hv:yI P d u with
    | none=>simp [hv] at hz
    | some r =>
     simp only [hv,Option.map_some,Option.some.injEq] at hz
     subst hz
     rw [h1']
     refine⟨r,zqT hs hv w,.p (.s _ ?_)⟩
     unfold yI at hv
     split at hv<;>cases hv<;>rfl
 case makeInterface t x =>
  have h1:=zy hr hf x
  split
  · rename_i v e1
    split
    · trivial
    · rename_i hi
      rw [e1] at h1
      have h1':a.eval x=v:=by cases h1 with | p h=>cases h;rfl
      unfold isIface at hi
      cases hu:P.underlying t with
      | none =>
       simp [hu] at hi
      | some d =>
       rw [hu] at hi
       refine⟨.iface t v,w,σ,?_,.p (.s _ rfl),hr,Ev.refl (Nat.le_refl _)⟩
       cases d<;>first | (simp at hi;done) | simp [Instr.makeInterface,run_underlying hu,h1']
  · trivial
 case makeFunc fn first captured =>
  split
  · rename_i f
    obtain⟨l1,r1⟩:=zd3 hr hf first.toList
    obtain⟨l2,r2⟩:=zd3 hr hf captured.toList
    exact⟨.func (.func f) (first.map a.eval) (captured.map a.eval),w,σ,rfl,.clo _ _ (by simp [l1]) (by simp [l2]) (fun i x v e1 e2=>r1 i x v e1 (by simpa using e2)) (fun i x v e1 e2=>r2 i x v e1 (by simpa using e2)),hr,Ev.refl (Nat.le_refl _)⟩
  · trivial
 case makeSlice t l c =>
  split
  · exact .make fun y H' hy=>zmp hr hy (zy hr hf _) (zy hr hf c)
  · exact .make fun y H' hy=>zqX hr hy (zy hr hf l) (zy hr hf c)
 case slice t x lo hi mx=>exact .read hr fun y hy=>zms hy (zy hr hf x) (zdo hr hf lo) (zdo hr hf hi) (zdo hr hf mx)
 case fieldAddr s x f=>exact .read hr fun y hy=>zfh hy (zy hr hf x)
 case field s x f=>exact .read hr fun y hy=>zml hy (zy hr hf x)
 case indexAddr t x i=>exact .read hr fun y hy=>zfg hy (zy hr hf x) (zy hr hf i)
 case index t x i=>exact .read hr fun y hy=>zmm hy (zy hr hf x) (zy hr hf i)
 case extract t i =>
  have h1:=zy hr hf t
  split
  · rename_i xs e1
    rw [e1] at h1
    refine .read hr fun y hy => ?_
    generalize a.eval t=v at h1 ⊢
    cases h1 with | tup vs hl h =>
    have hlt:i < vs.size:=by rw [hl];exact (List.getElem?_eq_some_iff.1 hy).1
    exact⟨vs[i],by simp [Instr.extract,hlt],h i y _ hy (by simp)⟩
  · trivial
 case pick c x y =>
  have h1:=zy hr hf c
  split
  · rename_i b e1
    rw [e1] at h1
    generalize hv:a.eval c=v at h1 ⊢
    cases h1.bool_inv
    cases b
    · exact⟨_,w,σ,rfl,zaL hr hf ty y,hr,Ev.refl (Nat.le_refl _)⟩
    · exact⟨_,w,σ,rfl,zaL hr hf ty x,hr,Ev.refl (Nat.le_refl _)⟩
  · trivial
 case call c =>
  obtain⟨callee,args,ts⟩:=c
  cases callee with
  | invoke r m=>trivial
  | builtin b=>exact zgS hr hf b args ts ty _
  | value f =>
   have h1:=zy hr hf f
   simp only [za4]
   split
   · rename_i fn first captured e1
     rw [e1] at h1
     obtain⟨l2,r2⟩:=zc6 (P:=P) hr hf args.toList ts.toList
     generalize hv:a.eval f=v at h1
     cases h1 with | clo fs cs q1 q2 q3 q4 =>
     have hvs:RelVs σ H w (first++yV P G env args.toList ts.toList++captured) (fs++args.map a.eval++cs):=by
      refine⟨by simp [q1,q2,l2],fun i x v e1 e2 => ?_⟩
      rw [Array.getElem?_append] at e2
      simp only [Array.size_append,Array.size_map] at e2
      by_cases hi:i < fs.size+args.size
      · rw [if_pos hi] at e2
        rw [List.getElem?_append_left (by simp [l2,←q1];exact hi)] at e1
        rw [Array.getElem?_append] at e2
        by_cases hi2:i < fs.size
        · rw [if_pos hi2] at e2
          rw [List.getElem?_append_left (by omega)] at e1
          exact q3 i x v e1 e2
        · rw [if_neg hi2] at e2
          rw [List.getElem?_append_right (by omega)] at e1
          rw [←q1] at e1
          exact r2 _ x v e1 (by simpa using e2)
      · rw [if_neg hi] at e2
        rw [List.getElem?_append_right (by simp [l2,←q1];omega)] at e1
        simp only [List.length_append,l2,←q1,Array.length_toList] at e1
        exact q4 _ x v e1 e2
     split
     · rename_i he
       refine⟨fs++args.map a.eval++cs,?_,hvs⟩
       simp only [resolve,hv,Deferred.ofValue,Sem.run_bind,Sem.run_pure,Result.andThen_ok,invoke]
       exact zfv he _ w
     · unfold yr
       split
       · rename_i nm hn
         cases hx:zaG nm (first++yV P G env args.toList ts.toList++captured) with
         | none=>trivial
         | some y =>
          obtain⟨v,q5,q6⟩:=zBx hn hx hvs
          refine⟨v,w,σ,?_,q6,hr,Ev.refl (Nat.le_refl _)⟩
          simp only [resolve,hv,Deferred.ofValue,Sem.run_bind,Sem.run_pure,Result.andThen_ok,invoke]
          exact q5
       · trivial
   · rename_i b e1
     rw [e1] at h1
     obtain⟨l2,r2⟩:=zc6 (P:=P) hr hf args.toList ts.toList
     generalize hv:a.eval f=v at h1
     cases h1 with | yld hb =>
     refine⟨args.map a.eval,⟨by simp [l2],fun i x v e1 e2=>r2 i x v e1 (by simpa using e2)⟩,fun f' t x y hy => ?_⟩
     simp only [resolve,hv,Deferred.ofValue,Sem.run_bind,Sem.run_pure,Result.andThen_ok,invoke]
     simpa using hy
   · trivial
end sound

theorem zfx {P:Program} {G:Globs} {op:Op} {ty:TypeId} {env:Env} {H:Hp} (h:zq P G op ty env H ≠ .fail) : ∀ c,op ≠ .defer c:=by
 intro c e
 subst e
 exact h rfl

end Go.AL

/-
  A region's operations run on abstract values,in the text's order and where the order is open;calls;returns.
  Conditions: none;nothing here speaks of one program.
-/
namespace Go.AL
open Go

def zQ (nt:Nat) (d:Option Nat):Bool:=match d with | some d=>decide (d < nt) | none=>true

def zR (nt:Nat) (ops:Array Oper) (g:Option (Nat × Bool)) (env:Env):Option Bool :=
 match g with
 | none=>some true
 | some (j,want) =>
  match (ops[j]?).bind (·.dst) with
  | some d=>if d < nt then (match env d with | .p (.s (.bool t))=>some (t == want) | .tup []=>some false | _=>none) else none
  | none=>none

def yk (raw:List Nat) (f:FuncId) (args:List AV):List AV:=if raw.contains f then args else args.map AV.weak

def sOp (C:Cx) (dst:Option Nat) (H:Hp) (K:AV → Hp → Prop):SRes → Prop
 | .val x H'=>zQ C.nt dst=true∧K x H'
 | .unit H'=>dst=none∧K .top H'
 | .call f args=>zQ C.nt dst=true∧ACall C.P C.G f (yk C.raw f args) H K
 | .yield b args=>zQ C.nt dst=true∧AYield C.P C.G b (args.map AV.weak) H K
 | .fail=>False

def aOp1 (C:Cx) (o:Oper) (env:Env) (H:Hp) (K:AV → Hp → Prop):Prop:=sOp C o.dst H K (zq C.P C.G o.op o.type env H)

theorem sOp.mono {C:Cx} {dst H} {K K':AV → Hp → Prop} {r:SRes} (h:sOp C dst H K r) (hk : ∀ x H',K x H' → K' x H'):sOp C dst H K' r:=by
 cases r with
 | val x H'=>exact⟨h.1,hk _ _ h.2⟩
 | unit H'=>exact⟨h.1,hk _ _ h.2⟩
 | call f args=>exact⟨h.1,h.2.mono hk⟩
 | yield b args=>exact⟨h.1,h.2.mono hk⟩
 | fail=>exact h

theorem RelVs.weak {σ H w} {xs:List AV} {vs:Array Value} (h:RelVs σ H w xs vs):RelVs σ H w (xs.map AV.weak) vs :=
 ⟨by simpa using h.1,fun i x v hx hv=>by
  simp only [List.getElem?_map,Option.map_eq_some_iff] at hx
  obtain⟨y,hy,rfl⟩:=hx
  exact (h.2 i y v hy hv).weak⟩

theorem zh1 {σ H w} {raw f} {xs:List AV} {vs:Array Value} (h:RelVs σ H w xs vs):RelVs σ H w (yk raw f xs) vs:=by
 unfold yk
 split
 · exact h
 · exact h.weak

section
variable {C:Cx} {k:List Item} {env:Env} {H:Hp} {R:AV → Hp → Prop} {ops:Array Oper} {o:Oper} {rest:List Oper}

theorem yM {nt:Nat} {d:Option Nat} (h:zQ nt d=true) : ∀ i,d=some i → i < nt:=fun i hi=>by subst hi;simpa [zQ] using h

theorem aOp1.wp {K:AV → Hp → Prop} (h:aOp1 C o env H K) {σ:Gh} {w:World} {a:Act} {m:Nat} {ro:Option Nat} (hr:Rel C.G σ H w) (hf:RelF C.nt m σ H w env a) {N:Act → World → Prop} {Q:Exit → Act → World → Prop}
 (hN : ∀ x v H' σ' w',K x H' → (∀ i,o.dst=some i → i < C.nt) → Rel C.G σ' H' w' → RelV σ' H' w' x v → Ev H.n σ H w σ' H' w' → N (a.put o.dst v) w'):o.wpIn { Fence.wide with round:=ro } 0 C.P a w N Q:=by
 have hs:=zh0 (P:=C.P) hr hf o
 unfold aOp1 at h
 unfold Oper.wpIn
 refine⟨fun f _=>trivial,?_⟩
 have hsem:Oper.semAt ro a.eval o=execOp a.eval o:=Oper.semAt_eq _ _ _ (zfx (P:=C.P) (G:=C.G) (ty:=o.type) (env:=env) (H:=H) fun hh=>by rw [hh] at h;exact h)
 show o.uponIn _ _ _ _ _ _ ((Oper.semAt ro a.eval o).run C.P w)
 rw [hsem]
 generalize zq C.P C.G o.op o.type env H=r at h hs
 cases r with
 | val x H' =>
  obtain⟨v,w',σ',hrun,hv,hrel,hev⟩:=hs
  rw [hrun]
  exact hN x v H' σ' w' h.2 (yM h.1) hrel hv hev
 | unit H' =>
  obtain⟨w',σ',hrun,hrel,hev⟩:=hs
  rw [hrun]
  exact hN .top undef H' σ' w' h.2 (by simp [h.1]) hrel (.top _) hev
 | call f args =>
  obtain⟨vs,hrun,hvs⟩:=hs
  rw [hrun]
  refine⟨fun h=>(by cases h),(callsIn_wide (n:=0 - 1)).2 ((h.2 σ w vs hr (zh1 hvs)).mono ?_)⟩
  rintro e w' ⟨x,H',σ',v,q,rfl,hrel,hv,hev⟩
  exact hN x v H' σ' w' q (yM h.1) hrel hv hev
 | yield b args =>
  obtain⟨vs,hvs,hrun⟩:=hs
  obtain⟨f,t,x,y,q1,q2⟩:=h.2 σ w vs hr hvs.weak
  rw [hrun _ _ _ _ q1]
  refine⟨fun h=>(by cases h),q2.mono ?_⟩
  rintro e w' ⟨x,H',σ',v,q,rfl,hrel,hv,hev⟩
  exact hN x v H' σ' w' q (yM h.1) hrel hv hev
 | fail=>exact h.elim

theorem yY {σ:Gh} {w:World} {a:Act} {m:Nat} {g:Option (Nat × Bool)} {t:Bool} (h:zR C.nt ops g env=some t) (hf:RelF C.nt m σ H w env a) (hg:o.guard=g):Region.wanted o (yielded ops a.tmps)=t:=by
 subst hg
 unfold zR at h
 split at h
 · rename_i hg;cases h;simp [Region.wanted,hg]
 · rename_i j want hg
   split at h
   case h_2=>cases h
   rename_i d hd
   split at h
   case isFalse=>cases h
   rename_i hlt
   split at h
   case h_3=>cases h
   case h_2 =>
    rename_i he
    cases h
    have hv : ∃ vs,a.tmps.getD d undef = .tuple vs:=by
     have:=hf.slot d
     rw [he] at this
     generalize a.tmps.getD d undef=v at this
     cases this with | tup vs _ _=>exact⟨vs,rfl⟩
    obtain⟨vs,hv⟩:=hv
    have hs:d < a.tmps.size:=by rw [hf.size];exact hlt
    have hv':a.tmps[d]? = some (.tuple vs):=by simpa [Array.getD_eq_getD_getElem?,hs] using hv
    simp only [Region.wanted,hg,yielded,hd,Option.bind_some,hv']
    rfl
   rename_i b he
   cases h
   have hv:a.tmps.getD d undef = .bool b:=RelV.bool_inv (he ▸ hf.slot d)
   have hs:d < a.tmps.size:=by rw [hf.size];exact hlt
   have hv':a.tmps[d]? = some (.bool b):=by simpa [Array.getD_eq_getD_getElem?,hs] using hv
   simp only [Region.wanted,hg,yielded,hd,Option.bind_some,hv']
   cases b<;>cases want<;>rfl

def YieldK (C:Cx) (ops:Array Oper) (b:Nat) (args:List AV) (dst:Option Nat) (rest:List Oper) (k:List Item) (env:Env) (H:Hp) (R:AV → Hp → Prop):Prop :=
 AYield C.P C.G b args H fun r H'=>AOps C ops rest k (env.put dst r) H' R

def CallK (C:Cx) (ops:Array Oper) (f:FuncId) (args:List AV) (dst:Option Nat) (rest:List Oper) (k:List Item) (env:Env) (H:Hp) (R:AV → Hp → Prop):Prop :=
 ACall C.P C.G f args H fun r H'=>AOps C ops rest k (env.put dst r) H' R

def zBy (C:Cx) (ops:Array Oper) (r:SRes) (dst:Option Nat) (rest:List Oper) (k:List Item) (env:Env) (H:Hp) (R:AV → Hp → Prop) (go:AV → Hp → Prop):Prop :=
 match r with
 | .val x H'=>zQ C.nt dst=true∧go x H'
 | .unit H'=>dst=none∧go .top H'
 | .call f args=>zQ C.nt dst=true∧CallK C ops f (yk C.raw f args) dst rest k env H R
 | .yield b args=>zQ C.nt dst=true∧YieldK C ops b (args.map AV.weak) dst rest k env H R
 | .fail=>False

def zck (C:Cx) (ops:Array Oper):List Oper → List Item → Env → Hp → (AV → Hp → Prop) → Prop
 | [],k,env,H,R=>ARun C k env H R
 | o :: rest,k,env,H,R =>
  match zR C.nt ops o.guard env with
  | some true=>zBy C ops (zq C.P C.G o.op o.type env H) o.dst rest k env H R (fun x H'=>zck C ops rest k (env.put o.dst x) H' R)
  | some false=>zQ C.nt o.dst=true∧zck C ops rest k (env.put o.dst (.tup [])) H R
  | none=>False

theorem zdd {F:Fence} {n:Nat} (l:List Oper) {Q Q':Exit → Act → World → Prop} (hQ : ∀ e a w,Q e a w → Q' e a w) : ∀ a w,wpListIn F n C.P ops Q l a w → wpListIn F n C.P ops Q' l a w:=by
 induction l with
 | nil=>intro a w h;exact hQ _ _ _ h
 | cons o l ih =>
  intro a w h
  unfold wpListIn at h ⊢
  split
  · rename_i hw;rw [if_pos hw] at h
    unfold Oper.wpIn at *
    refine⟨h.1,?_⟩
    have h:=h.2
    generalize (o.semAt F.round a.eval).run C.P w=r at *
    have lets:LetsOut Q → LetsOut Q':=fun ⟨a0,w0,q⟩=>⟨a0,w0,hQ _ _ _ q⟩
    cases r with
    | ok x w' =>
     cases x<;>simp only [Oper.uponIn] at h ⊢ <;>
      first
       | exact ih _ _ h
       | exact⟨h.1,CallsIn.mono h.2 (fun e w'' he=>by cases e<;>first | exact ih _ _ he | exact hQ _ _ _ he | exact lets he)⟩
       | exact⟨h.1,RoundIn.mono h.2 (fun e w'' he=>by cases e<;>first | exact ih _ _ he | exact hQ _ _ _ he | exact lets he)⟩
       | exact⟨h.1,RowsIn.mono h.2 (fun _ _ he=>ih _ _ he)⟩
    | halt x w'=>cases x<;>simp only [Oper.uponIn] at h ⊢ <;> exact hQ _ _ _ h
  · rename_i hw;rw [if_neg hw] at h;exact⟨h.1,ih _ _ h.2⟩

theorem AOps.of_op {o:Oper} (t:Bool) (hw:zR C.nt ops o.guard env=some t)
 (h : ∀ σ w a m,Pre C σ H w env a m → ∀ (K:Act → World → Prop) (Q:Exit → Act → World → Prop),
  (∀ x v H' σ' w',AOps C ops rest k (env.put o.dst x) H' R → (∀ i,o.dst=some i → i < C.nt) → Rel C.G σ' H' w' → RelV σ' H' w' x v → Ev H.n σ H w σ' H' w' → K (a.put o.dst v) w') →
  if t then o.wpIn (Fr C σ) 0 C.P a w K Q else K (a.put o.dst undef) w):AOps C ops (o :: rest) k env H R:=by
 intro σ w a m hpre
 have key : ∀ x v H' σ' w',AOps C ops rest k (env.put o.dst x) H' R → (∀ i,o.dst=some i → i < C.nt) → Rel C.G σ' H' w' → RelV σ' H' w' x v → Ev H.n σ H w σ' H' w' →
  wpListIn (Fr C σ) 0 C.P ops (fun e a' w'=>e = .normal ∧ ∃ env' H' σ',ARun C k env' H' R∧Pre C σ' H' w' env' a' m∧Ev H.n σ H w σ' H' w') rest (a.put o.dst v) w':=by
  intro x v H' σ' w' hrest hd hrel hv hev
  have hf':RelF C.nt m σ' H' w' (env.put o.dst x) (a.put o.dst v):=(hpre.fr.mono hev).put hd hv
  have hpre':Pre C σ' H' w' (env.put o.dst x) (a.put o.dst v) m:=hpre.go hrel hf' hev
  have h1:=hrest σ' w' (a.put o.dst v) m hpre'
  have hF:Fr C σ'=Fr C σ:=by simp only [Fr,round_eq hpre.n0 hev.c hpre.lt]
  rw [hF] at h1
  refine zdd rest ?_ _ _ h1
  rintro e a' w2 ⟨rfl,env',H2,σ2,hr,hpre2,hev2⟩
  exact⟨rfl,env',H2,σ2,hr,hpre2,hev.trans (hev2.weaken hev.hn) (Nat.le_refl _)⟩
 have h1:=h σ w a m hpre _ (fun e a' w'=>e = .normal ∧ ∃ env' H' σ',ARun C k env' H' R∧Pre C σ' H' w' env' a' m∧Ev H.n σ H w σ' H' w') key
 unfold wpListIn
 have hwt:=yY (o:=o) hw hpre.fr rfl
 cases t with
 | true=>rw [if_pos hwt];exact h1
 | false=>rw [if_neg (by rw [hwt];simp)];exact⟨fun f _=>trivial,h1⟩

theorem AOps.run : ∀ {l:List Oper} {env:Env} {H:Hp},zck C ops l k env H R → AOps C ops l k env H R
 | [],env,H,h => .nil h
 | o :: rest,env,H,h=>by
  unfold zck at h
  split at h
  · rename_i hwa
    have h':aOp1 C o env H fun x H'=>AOps C ops rest k (env.put o.dst x) H' R:=by
     unfold aOp1
     unfold zBy at h
     generalize zq C.P C.G o.op o.type env H=r at h
     cases r with
     | val x H'=>exact⟨h.1,AOps.run h.2⟩
     | unit H'=>exact⟨h.1,AOps.run h.2⟩
     | call f args=>exact⟨h.1,h.2⟩
     | yield b args=>exact⟨h.1,h.2⟩
     | fail=>exact h.elim
    exact .of_op true hwa fun σ w a m hpre K Q hK=>h'.wp hpre.rel hpre.fr hK
  · rename_i hwa
    exact .of_op false hwa fun σ w a m hpre K Q hK=>hK (.tup []) undef H σ w (AOps.run h.2) (yM h.1) hpre.rel (.tup #[] rfl (by simp)) (Ev.refl (Nat.le_refl _))
  · exact h.elim

theorem CallK.of {f:FuncId} {args:List AV} {dst:Option Nat} {r:AV} {H':Hp} (h : ∀ R:AV → Hp → Prop,R r H' → ACall C.P C.G f args H R) (hk:zck C ops rest k (env.put dst r) H' R):CallK C ops f args dst rest k env H R :=
 h _ (AOps.run hk)

theorem CallK.ex {f:FuncId} {args:List AV} {dst:Option Nat} {S:AV → Hp → Prop} (h:ACall C.P C.G f args H S) (hk : ∀ r H',S r H' → zck C ops rest k (env.put dst r) H' R):CallK C ops f args dst rest k env H R :=
 h.mono fun r H' q=>AOps.run (hk r H' q)

theorem YieldK.of {b:Nat} {args:List AV} {dst:Option Nat} {r:AV} {H':Hp} (h : ∀ R:AV → Hp → Prop,R r H' → AYield C.P C.G b args H R) (hk:zck C ops rest k (env.put dst r) H' R):YieldK C ops b args dst rest k env H R :=
 h _ (AOps.run hk)

theorem ARun.text {id:Nat} {l:List Oper} (h:zck C l.toArray l k env H R):ARun C (.code (.region id l.toArray false) :: k) env H R := .region (AOps.run h)

/-! ### Returns -/

def zbW (P:Program) (env:Env) (H:Hp):ResultVar → Option AV
 | .tmp t=>some (env t)
 | .cell a t=>zaA P H t (env a)

def zaZ (P:Program) (env:Env) (H:Hp):List ResultVar → Option (List AV)
 | []=>some []
 | r :: rs=>match zbW P env H r,zaZ P env H rs with
  | some x,some xs=>some (x :: xs)
  | _,_=>none

def zcC (P:Program) (rs:List ResultVar) (env:Env) (H:Hp):Option AV :=
 match zaZ P env H rs with
 | some [x]=>some x
 | some xs=>some (.tup xs)
 | none=>none

def zup (tmps:Array Value):ResultVar → Sem Value
 | .tmp t=>pure (tmps.getD t undef)
 | .cell a t=>do loadVar t (←asAddr (tmps.getD a undef))

theorem zmx (fn:Func) (tmps:Array Value):results fn tmps=(do let vs ←fn.results.mapM (zup tmps);pure (if h:vs.size=1 then vs[0] else .tuple vs)):=by
 unfold results
 congr 1

theorem zjx {σ:Gh} {w:World} {a:Act} {nt m:Nat} (hr:Rel C.G σ H w) (hf:RelF nt m σ H w env a) {r:ResultVar} {x:AV} (h1:zbW C.P env H r=some x) :
 ∃ v,(zup a.tmps r).run C.P w = .ok v w∧RelV σ H w x v:=by
 cases r with
 | tmp t=>simp only [zbW,Option.some.injEq] at h1;subst h1;exact⟨_,rfl,hf.slot t⟩
 | cell ad t =>
  simp only [zbW] at h1
  obtain⟨v,hv,hx⟩:=zhk hr h1 (hf.slot ad)
  refine⟨v,?_,hx⟩
  have hptr : ∃ p,a.tmps.getD ad undef = .pointer (some p):=by
   have hs:=hf.slot ad
   generalize a.tmps.getD ad undef=u at hs ⊢
   generalize env ad=y at h1 hs
   unfold zaA at h1
   split at h1
   case h_2=>cases h1
   split at h1
   · cases hs;exact⟨_,rfl⟩
   · cases hs;exact⟨_,rfl⟩
   · cases hs;exact⟨_,rfl⟩
   · cases h1
  obtain⟨p,hp⟩:=hptr
  rw [hp] at hv
  simp only [zup,hp]
  exact hv

theorem zei {σ:Gh} {w:World} {a:Act} {nt m:Nat} (hr:Rel C.G σ H w) (hf:RelF nt m σ H w env a) : ∀ {rs:List ResultVar} {xs:List AV},zaZ C.P env H rs=some xs →
 ∃ vs:List Value,(rs.mapM (zup a.tmps)).run C.P w = .ok vs w∧vs.length=xs.length ∧ ∀ (i:Nat) x v,xs[i]? = some x → vs[i]? = some v → RelV σ H w x v
 | [],xs,h=>by simp only [zaZ,Option.some.injEq] at h;subst h;exact⟨[],by simp,rfl,by simp⟩
 | r :: rs,xs,h=>by
  simp only [zaZ] at h
  split at h
  case h_2=>cases h
  rename_i x ys h1 h2
  cases h
  obtain⟨vs,q1,q2,q3⟩:=zei hr hf h2
  obtain⟨v,hv,hx⟩:=zjx hr hf h1
  refine⟨v :: vs,?_,by simp [q2],fun i y u hy hu => ?_⟩
  · rw [List.mapM_cons]
    simp only [Sem.run_bind,hv,Result.andThen_ok,q1,Sem.run_pure]
  · cases i with
    | zero=>simp at hy hu;subst hy;subst hu;exact hx
    | succ i=>simp at hy hu;exact q3 i y u hy hu

theorem zuq {fn:Func} {x:AV} {σ:Gh} {w:World} {a:Act} {nt m:Nat} (hr:Rel C.G σ H w) (hf:RelF nt m σ H w env a) (h:zcC C.P fn.results.toList env H=some x) :
 ∃ v,(results fn a.tmps).run C.P w = .ok v w∧RelV σ H w x v:=by
 unfold zcC at h
 cases hall:zaZ C.P env H fn.results.toList with
 | none=>simp [hall] at h
 | some xs =>
  obtain⟨vs,q1,q2,q3⟩:=zei hr hf hall
  have hm:(fn.results.mapM (zup a.tmps)).run C.P w = .ok vs.toArray w:=by
   rw [Array.mapM_eq_mapM_toList,Sem.run_map,q1,Result.andThen_ok]
  simp only [hall] at h
  rw [zmx,Sem.run_bind,hm,Result.andThen_ok]
  split at h
  · rename_i y hy
    cases hy
    cases h
    match vs,q2,q3 with
    | [v],_,q3=>exact⟨v,rfl,q3 0 _ v rfl rfl⟩
  · rename_i ys hne hy
    cases hy
    cases h
    refine⟨.tuple vs.toArray,?_,.tup _ (by simp [q2]) (fun i x v h1 h2=>q3 i x v h1 (by simpa using h2))⟩
    have : ¬ vs.toArray.size=1:=fun h1=>by
     simp only [List.size_toArray,q2] at h1
     match xs,h1,hne with
     | [z],_,hne=>exact hne z rfl
    simp only [this,dite_false,Sem.run_pure]
  · rename_i hy;cases hy

def AV.out (n0:Nat):AV → Option AV
 | .p x=>some (.p x.weak)
 | .sl _ _ sz xs=>some (.p (.sl false sz xs))
 | .tup xs=>match pvs? xs with | some ps=>some (.tup (ps.map fun p => .p p.weak)) | none=>none
 | .ptr b off=>if b < n0 then some (.ptr b off) else none
 | .ref b off len sz=>if b < n0 then some (.ref b off len sz) else none
 | .vr b len sz=>if b < n0 then some (.vr b len sz) else none
 | .mp b=>if b < n0 then some (.mp b) else none
 | _=>none

theorem TailOK.trunc {σ:Gh} {n0 α k sz:Nat} {v:Value} (h:TailOK σ H α k sz v) (hα:α < n0):TailOK σ (H.trunc n0) α k sz v :=
 ⟨hα,fun k0 d hk=>h.2 k0 d (by rwa [Hp.f_trunc,if_pos hα] at hk)⟩

theorem Stable.trunc {σ:Gh} {n0 g o:Nat} (h:Stable σ H g o):Stable σ (H.trunc n0) g o:=by
 have hf : ∀ b x,(H.trunc n0).f b=some x → H.f b=some x:=fun b x h=>by
  rw [Hp.f_trunc] at h
  split at h
  · exact h
  · cases h
 exact⟨fun b cs hb=>h.1 b cs (hf _ _ hb),fun b v d o' s hb=>h.2 b v d o' s (hf _ _ hb)⟩

theorem RelV.trunc {σ:Gh} {w:World} {n0:Nat} {x:AV} {v:Value} (h:RelV σ H w x v):BelowN n0 x → RelV σ (H.trunc n0) w x v:=by
 have hp : ∀ {x:PV} {v:Value},RelP w (Stable σ H) x v → RelP w (Stable σ (H.trunc n0)) x v:=fun h=>h.mono fun g o v h1 h2=>⟨h1.trunc,h2⟩
 induction h with
 | p h=>exact fun _ => .p (hp h)
 | sl h ht=>intro hb;cases hb with | sl _ _ _ _ hb=>exact .sl (hp h) (ht.trunc hb)
 | ref a h0 _ hcap ha=>intro hb;cases hb with | ref _ _ _ _ hb=>exact .ref a h0 hb hcap ha
 | ptr _=>intro hb;cases hb with | ptr _ _ hb=>exact .ptr hb
 | ip h hi hs=>exact fun _ => .ip (hp h) hi hs
 | clo fs cs hf hc _ _ ih1 ih2=>intro hb;cases hb with | clo _ _ _ h1 h2=>exact .clo fs cs hf hc (fun i x v a b=>ih1 i x v a b (h1 i x a)) (fun i x v a b=>ih2 i x v a b (h2 i x a))
 | tup vs hl _ ih=>intro hb;cases hb with | tup _ h=>exact .tup vs hl (fun i x v a b=>ih i x v a b (h i x a))
 | agg vs hl h1 _ ih=>intro hb;cases hb with | agg _ h=>exact .agg vs hl h1 (fun i x v a b=>ih i x v a b (h i x a))
 | yld _=>intro hb;cases hb with | yld _ hb=>exact .yld hb
 | mp _=>intro hb;cases hb with | mp _ hb=>exact .mp hb
 | vr q =>
  intro hb
  cases hb with | vr _ _ _ hb =>
  obtain⟨_,a,cap,rfl,q1,q2⟩:=q
  exact .vr ⟨hb,a,cap,rfl,q1,fun k0 d hk=>q2 k0 d (by rwa [Hp.f_trunc,if_pos hb] at hk)⟩
 | vp a q =>
  intro hb
  cases hb with | vp _ _ _ hb =>
  exact .vp a ⟨hb,fun k0 d hk=>q.2 k0 d (by rwa [Hp.f_trunc,if_pos hb] at hk)⟩
 | top v=>exact fun _ => .top v

theorem zd4 {σ:Gh} {w:World} {n0:Nat} (hr:Rel C.G σ H w) (hb:Bel n0 H):Rel C.G σ (H.trunc n0) w∧Ev n0 σ H w σ (H.trunc n0) w:=by
 have hf : ∀ b x,(H.trunc n0).f b=some x → H.f b=some x∧b < n0:=fun b x h=>by
  rw [Hp.f_trunc] at h
  split at h
  · rename_i hb;exact⟨h,hb⟩
  · cases h
 have hev:Ev n0 σ H w σ (H.trunc n0) w:=⟨fun g o v h1 h2=>⟨h1.trunc,h2⟩,fun _ _=>rfl,Nat.le_refl _,fun b hb k d hk=>⟨k,d,(hf _ _ hk).1,Nat.le_refl _,fun _=>rfl⟩,Nat.le_refl _,
  fun g _ h=>⟨rfl,fun b cs hb=>h.1 b cs (hf _ _ hb).1,fun b v d o' s hb=>h.2 b v d o' s (hf _ _ hb).1,fun b vs S hb=>h.3 b vs S (hf _ _ hb).1⟩,rfl,rfl⟩
 refine⟨⟨fun b cs h => ?_,fun b k d g o s h=>hr.tail b k d g o s (hf _ _ h).1,fun b k cs h => ?_,fun b b' cs cs' h h'=>hr.cc b b' cs cs' (hf _ _ h).1 (hf _ _ h').1,fun b b' cs k d g o s h h'=>hr.ct b b' cs k d g o s (hf _ _ h).1 (hf _ _ h').1,
  fun b b' k d k' d' g o s o' s' h h'=>hr.tt b b' k d k' d' g o s o' s' (hf _ _ h).1 (hf _ _ h').1,fun g sz xs h=>(hr.glob g sz xs h).trunc (.ip _ _ _ _),fun b vs S h => ?_,fun b b' vs vs' S S' h h'=>hr.oo b b' vs vs' S S' (hf _ _ h).1 (hf _ _ h').1,fun r m h=>(hr.gm r m h).of rfl (hev.blk r (hr.gm r m h).lt (hr.gm r m h).2.1).2 fun x v hx q=>q.trunc (hx _)⟩,hev⟩
 · obtain⟨h1,h2⟩:=hf _ _ h
   obtain⟨c,e,q1,q2,q3⟩:=hr.cells b cs h1
   exact⟨c,e,q1,q2,fun i x hx=>let ⟨v,a,b'⟩:=q3 i x hx;⟨v,a,b'.1.trunc (hb b _ h2 h1 x (List.mem_of_getElem? hx)),b'.2⟩⟩
 · obtain⟨h1,h2⟩:=hf _ _ h
   obtain⟨q0,q1,q2⟩:=hr.vec b k cs h1
   refine⟨q0,q1,fun g o s hg => ?_⟩
   obtain⟨p0,p1,p2⟩:=q2 g o s hg
   exact⟨p0,p1,fun i x hx=>let ⟨v,a,b'⟩:=p2 i x hx;⟨v,a,b'.1.trunc (hb b _ h2 h1 x (List.mem_of_getElem? hx)),b'.2⟩⟩
 · obtain⟨h1,h2⟩:=hf _ _ h
   obtain⟨o,us,q1,q2,q3,q4⟩:=hr.objs b vs S h1
   exact⟨o,us,q1,q2,⟨q3.1,fun i x v a b'=>(q3.2 i x v a b').trunc (hb b _ h2 h1 x (List.mem_of_getElem? a))⟩,q4⟩

theorem AV.out_rel {σ:Gh} {w:World} {n0:Nat} {x y:AV} {v:Value} (h:x.out n0=some y) (r:RelV σ H w x v):RelV σ (H.trunc n0) w y v:=by
 cases x with
 | p x=>simp only [AV.out,Option.some.injEq] at h;subst h;exact r.weak.trunc (.p _)
 | sl α k sz xs=>simp only [AV.out,Option.some.injEq] at h;subst h;exact r.weak.trunc (.p _)
 | ptr b off =>
  simp only [AV.out] at h
  split at h
  · rename_i hb;cases h;exact r.trunc (.ptr _ _ hb)
  · cases h
 | ref b off len sz =>
  simp only [AV.out] at h
  split at h
  · rename_i hb;cases h;exact r.trunc (.ref _ _ _ _ hb)
  · cases h
 | vr b len sz =>
  simp only [AV.out] at h
  split at h
  · rename_i hb;cases h;exact r.trunc (.vr _ _ _ hb)
  · cases h
 | mp b =>
  simp only [AV.out] at h
  split at h
  · rename_i hb;cases h;exact r.trunc (.mp _ hb)
  · cases h
 | tup xs =>
  simp only [AV.out] at h
  split at h
  case h_2=>cases h
  rename_i ps hps
  cases h
  obtain⟨hl,hg⟩:=pvs?_get hps
  cases r with | tup vs hvl hv =>
  refine .tup vs (by simp [hl,hvl]) fun i y v hy hv' => ?_
  simp only [List.getElem?_map,Option.map_eq_some_iff] at hy
  obtain⟨p,hp,rfl⟩:=hy
  obtain⟨a,ha,hap⟩:=hg i p hp
  exact RelV.trunc (.p (AV.pv?_rel hap (hv i a v ha hv')).weak) (.p _)
 | _=>simp [AV.out] at h

theorem zej {P:Program} {G:Globs} {σ:Gh} : ∀ (ms:List Nat) (fr:Frame) (cs:List Frame) (w:World) {m:Nat},fr.mode = .returning → fr.defers=ms.map mark → ms.Nodup → (∀ r∈ms,m≤r∧w.heap[r]? = some (.deferred (some []))∧Free σ H r) → Rel G σ H w →
 ∃ w',Steps P (lone fr cs w) (lone { fr with defers:=[] } cs w')∧Rel G σ H w'∧(∀ n0,n0≤H.n → EvM n0 m σ H w σ H w')
 | [],fr,cs,w,m,hm,hd,_,_,hr=>⟨w,by
  have : { fr with defers:=[] }=fr:=by cases fr;simp only at hd;subst hd;rfl
  rw [this];exact .refl _ _,hr,fun n0 hn=>Ev.refl hn⟩
 | r :: ms,fr,cs,w,m,hm,hd,hnd,hms,hr=>by
  obtain⟨h1,h2,h3⟩:=hms r (by simp)
  have hlt:r < w.heap.size:=(Array.getElem?_eq_some_iff.1 h2).1
  have hother : ∀ g,g≠r → (w.putObj r (.deferred none)).heap[g]? = w.heap[g]? := fun g hg=>World.putObj_heap_other hg
  have hev : ∀ n0,n0≤H.n → EvM n0 m σ H w σ H (w.putObj r (.deferred none)):=fun n0 hn=>by
   refine⟨fun g o v q1 q2=>⟨q1,?_⟩,fun _ _=>rfl,hn,fun _ _ k d hk=>⟨k,d,hk,Nat.le_refl _,fun _=>rfl⟩,by simp,fun g hg hf=>⟨hother g (by omega),hf⟩,rfl,rfl⟩
   by_cases hgr:g=r
   · subst hgr;simp [World.cell?,h2] at q2
   · simpa [World.cell?,hother g hgr] using q2
  have hrel:Rel G σ H (w.putObj r (.deferred none)):=by
   have hev:=hev H.n (Nat.le_refl _)
   refine⟨fun b cs h => ?_,fun b k d g o s h ht => ?_,hr.vec_keep hev (fun _ _ _ h=>⟨h,rfl⟩) (fun b k cs g o s _ h ht=>hother g (fun hg=>h3.2 b k _ o s h (hg ▸ ht))),hr.cc,hr.ct,hr.tt,fun g sz xs h=>(hr.glob g sz xs h).mono hev,fun b vs S h => ?_,hr.oo,fun g m h=>(hr.gm g m h).of (hother g (fun e=>by obtain⟨⟨es,cl,q,_⟩,_⟩:=hr.gm g m h;rw [e,h2] at q;cases q)) (hr.gm g m h).2.1 fun x v _ q=>q.mono hev⟩
   · obtain⟨c,e,p1,p2,p3⟩:=hr.cells b cs h
     exact⟨c,e,(hother _ (h3.1 b cs h)).trans p1,p2,fun i x hx=>let ⟨v,a,b⟩:=p3 i x hx;⟨v,a,b.mono hev⟩⟩
   · obtain⟨c,e,p1,p2⟩:=hr.tail b k d g o s h ht
     exact⟨c,e,(hother g (fun hg=>h3.2 b k d o s h (hg ▸ ht))).trans p1,p2⟩
   · obtain⟨o,us,p1,p2,p3,p4⟩:=hr.objs b vs S h
     exact⟨o,us,(hother _ (h3.3 b vs S h)).trans p1,p2,p3.mono hev,p4⟩
  have hs:=step_collected (P:=P) (fr:=fr) (cs:=cs) (w:=w) (d:=mark r) (r:=r) (ds:=ms.map mark) (by rw [hm];simp) hd rfl (run_takeDeferred h2)
  have hnd':=List.nodup_cons.1 hnd
  obtain⟨w',q1,q2,q3⟩:=zej (P:=P) ms { fr with defers:=[]++ms.map mark } cs (w.putObj r (.deferred none)) (m:=m) hm rfl hnd'.2
   (fun g hg=>let ⟨p1,p2,p3⟩:=hms g (by simp [hg]);⟨p1,(hother g (fun e=>hnd'.1 (e ▸ hg))).trans p2,p3⟩) hrel
  exact⟨w',.head hs q1,q2,fun n0 hn=>(hev n0 hn).trans' (q3 n0 hn) (Nat.le_refl _) (Nat.le_refl _) (Nat.le_refl _)⟩

theorem ARun.leave {fn:Func} {x:AV} (hro:C.round=none) (hfn:C.P.funcs[C.fid]? = some fn) {rs:List ResultVar} (hrs:fn.results.toList=rs) (hx:zcC C.P rs env H=some x) (todo:List Item)
 (hstep : ∀ (b:Frame) (a:Act) cs w,b.roundOf=none → step C.P (lone (b.atR a todo) cs w) = .next (lone { b.atR a todo with mode := .returning } cs w))
 {R:AV → Hp → Prop} (y:AV) (H':Hp) (hR:R y H') (hrel : ∀ σ w v,Rel C.G σ H w → RelV σ H w x v → C.n0≤H.n → ∃ σ',Rel C.G σ' H' w∧RelV σ' H' w y v∧Ev C.n0 σ H w σ' H' w):ARun C todo env H R:=by
 intro σ w a b cs m hb hpre
 subst hrs
 have hro':b.roundOf=none:=by rw [hb.ro,hro];rfl
 obtain⟨ms,d1,d2,d3⟩:=hpre.fr.defers
 obtain⟨w1,s1,r1,e1⟩:=zej (P:=C.P) ms { b.atR a todo with mode := .returning } cs w (m:=m) rfl d1 d2 d3 hpre.rel
 have hf1:RelF C.nt 0 σ H w1 env { a with defers:=[] }:=⟨⟨[],rfl,List.nodup_nil,by simp⟩,hpre.fr.size,fun i=>(hpre.fr.slot i).mono (e1 H.n (Nat.le_refl _))⟩
 obtain⟨v,hv,hxv⟩:=zuq r1 hf1 hx
 obtain⟨σ',q1,q2,q3⟩:=hrel σ w1 v r1 hxv hpre.n0
 refine⟨y,H',σ',v,w1,_,hR,.head (hstep b a cs w hro') s1,?_,q1,q2,(e1 C.n0 hpre.n0).trans' q3 (Nat.le_refl _) (Nat.le_refl _) (Nat.le_trans hpre.m (e1 C.n0 hpre.n0).size)⟩
 unfold Fin
 rw [hro]
 exact⟨_,rfl,hb.fn,rfl,rfl,hb.kind,fn,by simpa [Frame.atR,hb.fn] using hfn,hv⟩

theorem ARun.ret {fn:Func} {x y:AV} (hfn:C.P.funcs[C.fid]? = some fn) {rs:List ResultVar} (hrs:fn.results.toList=rs) (hx:zcC C.P rs env H=some x) (hy:x.out C.n0=some y) (hb:Bel C.n0 H) (hR:R y (H.trunc C.n0)) (hro:C.round=none:=by rfl) :
 ARun C (.code .ret :: k) env H R :=
 .leave hro hfn hrs hx _ (fun _ _ _ _ h=>stepR_ret h) y _ hR fun σ w v h1 h2 _=>let ⟨a,b⟩:=zd4 h1 hb;⟨σ,a,AV.out_rel hy h2,b⟩
theorem ARun.fin {fn:Func} {x y:AV} (hfn:C.P.funcs[C.fid]? = some fn) {rs:List ResultVar} (hrs:fn.results.toList=rs) (hx:zcC C.P rs env H=some x) (hy:x.out C.n0=some y) (hb:Bel C.n0 H) (hR:R y (H.trunc C.n0)) (hro:C.round=none:=by rfl) :
 ARun C [] env H R :=
 .leave hro hfn hrs hx _ (fun _ _ _ _ h=>stepR_end h) y _ hR fun σ w v h1 h2 _=>let ⟨a,b⟩:=zd4 h1 hb;⟨σ,a,AV.out_rel hy h2,b⟩

theorem ARun.retKeep {fn:Func} {x:AV} (hfn:C.P.funcs[C.fid]? = some fn) {rs:List ResultVar} (hrs:fn.results.toList=rs) (hx:zcC C.P rs env H=some x) (hR:R x H) (hro:C.round=none:=by rfl):ARun C (.code .ret :: k) env H R :=
 .leave hro hfn hrs hx _ (fun _ _ _ _ h=>stepR_ret h) x _ hR fun σ _ _ h1 h2 hn=>⟨σ,h1,h2,Ev.refl hn⟩
end

end Go.AL

/-
  A region whose order is open: one run in the text's order serves every order,if each operation that changes the heap is alone when its turn comes.
  Conditions: none;nothing here speaks of one program.
-/
namespace Go.AL
open Go


section congr
variable {P:Program} {G:Globs} {env env':Env} {H:Hp}

theorem zu {x:Operand} (h : ∀ t,x = .tmp t → env t=env' t):yB G env x=yB G env' x:=by
 cases x with
 | tmp t=>exact h t rfl
 | _=>rfl

theorem yZ {ty:TypeId} {x:Operand} (h : ∀ t,x = .tmp t → env t=env' t):zaV P G env ty x=zaV P G env' ty x:=by
 cases x with
 | tmp t=>exact h t rfl
 | _=>rfl

theorem zfy {x:Operand} (h : ∀ t,x = .tmp t → env t=env' t):zft G env x=zft G env' x:=by
 cases x with
 | tmp t=>exact h t rfl
 | _=>rfl

theorem zmy {ty:TypeId} {x:Operand} (h : ∀ t,x = .tmp t → env t=env' t):zhZ P G env ty x=zhZ P G env' ty x:=by
 cases x with
 | tmp t=>exact h t rfl
 | _=>rfl

theorem zcM : ∀ (xs:List Operand) (ts:List TypeId),(∀ x∈xs,∀ t,x = .tmp t → env t=env' t) → yV P G env xs ts=yV P G env' xs ts
 | [],_,_=>rfl
 | x :: xs,[],h=>by simp only [yV];rw [zu (h x (by simp)),zcM xs [] (fun y hy=>h y (by simp [hy]))]
 | x :: xs,t :: ts,h=>by simp only [yV];rw [zmy (h x (by simp)),zcM xs ts (fun y hy=>h y (by simp [hy]))]

theorem zcl : ∀ (ps:List (Nat × Operand)),(∀ x∈ps.map (·.2),∀ t,x = .tmp t → env t=env' t) → zad G env ps=zad G env' ps
 | [],_=>rfl
 | (i,x) :: ps,h=>by simp only [zad];rw [zu (h x (by simp)),zcl ps (fun y hy=>h y (by simp at hy ⊢;exact .inr hy))]

theorem zcN : ∀ (xs:List Operand),(∀ x∈xs,∀ t,x = .tmp t → env t=env' t) → za3 G env xs=za3 G env' xs
 | [],_=>rfl
 | x :: xs,h=>by simp only [za3];rw [zu (h x (by simp)),zcN xs (fun y hy=>h y (by simp [hy]))]

theorem zdD {b:Builtin} {args:List Operand} {ts:List TypeId} (h : ∀ x∈args,∀ t,x = .tmp t → env t=env' t):yi P G env H b args ts=yi P G env' H b args ts:=by
 unfold yi
 split
 · rw [zu (h _ (by simp))]
 · rename_i s x t u;rw [yZ (h s (by simp)),yZ (h x (by simp))]
 · rename_i d s t u;rw [zu (h d (by simp)),zu (h s (by simp))]
 · rename_i x y;rw [zu (h x (by simp)),zu (h y (by simp))]
 · rename_i x y;rw [zu (h x (by simp)),zu (h y (by simp))]
 · rfl

theorem zdE {op:Op} {ty:TypeId} (h : ∀ x∈op.operands,∀ t,x = .tmp t → env t=env' t):zq P G op ty env H=zq P G op ty env' H:=by
 cases op<;>simp only [zq,Op.operands] at * <;> try rfl
 case move x=>rw [yZ (h x (by simp))]
 case assign x=>rw [yZ (h x (by simp))]
 case box t x=>rw [zu (h x (by simp))]
 case build t parts=>rw [zcl _ (fun x hx=>h x (by simpa using hx))]
 case buildSlice t n parts=>rw [zcl _ (fun x hx=>h x (by simpa using hx))]
 case load t x=>rw [zu (h x (by simp))]
 case store t x y=>rw [zu (h x (by simp)),yZ (h y (by simp))]
 case nilCheck x=>rw [zu (h x (by simp))]
 case binOp op t x y t'=>rw [zfy (h x (by simp)),zfy (h y (by simp))]
 case unOp op t x=>rw [zu (h x (by simp))]
 case convert s d x=>rw [zu (h x (by simp))]
 case makeInterface t x=>rw [zu (h x (by simp))]
 case makeFunc fn first captured =>
  split
  · rw [zcN _ (fun x hx=>h x (by simp at hx ⊢;exact .inl hx)),zcN _ (fun x hx=>h x (by simp at hx ⊢;exact .inr hx))]
  · rfl
 case makeSlice t l c =>
  split
  · rw [zu (h c (by simp)),zu (h _ (by simp))]
  · rw [zu (h c (by simp)),zu (h l (by simp))]
 case slice t x lo hi mx =>
  have e1:yB G env x=yB G env' x:=zu (h x (by simp))
  have e2:lo.map (yB G env)=lo.map (yB G env'):=by
   cases lo with | none=>rfl | some y=>simp only [Option.map_some];rw [zu (h y (by simp))]
  have e3:hi.map (yB G env)=hi.map (yB G env'):=by
   cases hi with | none=>rfl | some y=>simp only [Option.map_some];rw [zu (h y (by simp))]
  have e4:mx.map (yB G env)=mx.map (yB G env'):=by
   cases mx with | none=>rfl | some y=>simp only [Option.map_some];rw [zu (h y (by simp))]
  rw [e1,e2,e3,e4]
 case lookup t x i ok=>rw [zu (h x (by simp)),zu (h i (by simp))]
 case mapUpdate t x i y=>rw [zu (h x (by simp)),zu (h i (by simp)),yZ (h y (by simp))]
 case insert t x i y=>rw [zu (h x (by simp)),zu (h i (by simp)),yZ (h y (by simp))]
 case fieldAddr s x f=>rw [zu (h x (by simp))]
 case field s x f=>rw [zu (h x (by simp))]
 case indexAddr t x i=>rw [zu (h x (by simp)),zu (h i (by simp))]
 case index t x i=>rw [zu (h x (by simp)),zu (h i (by simp))]
 case extract x i=>rw [zu (h x (by simp))]
 case pick c x y=>rw [zu (h c (by simp)),yZ (h x (by simp)),yZ (h y (by simp))]
 case call c =>
  obtain⟨callee,args,ts⟩:=c
  cases callee with
  | value f =>
   simp only [Call.operands] at h
   simp only [za4]
   rw [zu (h f (by simp)),zcM _ _ (fun x hx=>h x (by simp at hx ⊢;exact .inr hx))]
  | builtin b =>
   simp only [Call.operands] at h
   exact zdD (fun x hx=>h x (by simpa using hx))
  | invoke r m=>rfl
end congr


section any
variable {C:Cx} {ops:Array Oper} {q:Nat → Bool} {Q:Env → Hp → Prop}

def opA (C:Cx) (ops:Array Oper) (quiet:Bool) (i:Nat) (K:Env → Hp → Prop) (env:Env) (H:Hp):Prop :=
 match ops[i]? with
 | none=>K env H
 | some o =>
  match zR C.nt ops o.guard env with
  | some true=>if quiet then ∃ x,aOp1 C o env H (fun x' H'=>x'=x∧H'=H)∧K (env.put o.dst x) H else aOp1 C o env H (fun x H'=>K (env.put o.dst x) H')
  | some false=>zQ C.nt o.dst=true∧K (env.put o.dst (.tup [])) H
  | none=>False

def zjy (C:Cx) (ops:Array Oper) (q:Nat → Bool) (Q:Env → Hp → Prop):Nat → Array Bool → Env → Hp → Prop
 | 0,listed,env,H=>Region.ready .any ops listed=[]∧Q env H
 | fuel+1,listed,env,H=>(Region.ready .any ops listed=[] → Q env H) ∧
  ∀ i∈Region.ready .any ops listed,opA C ops (q i) i (zjy C ops q Q fuel (listed.setIfInBounds i true)) env H

theorem zfz {quiet:Bool} {i:Nat} {K K':Env → Hp → Prop} {env:Env} {H:Hp} (hk : ∀ env H,K env H → K' env H) (h:opA C ops quiet i K env H):opA C ops quiet i K' env H:=by
 unfold opA at *
 split
 · rename_i ho;simp only [ho] at h;exact hk _ _ h
 · rename_i o ho
   simp only [ho] at h
   split
   · rename_i hw
     simp only [hw] at h
     split
     · rename_i hq;rw [if_pos hq] at h;obtain⟨x,h1,h2⟩:=h;exact⟨x,h1,hk _ _ h2⟩
     · rename_i hq;rw [if_neg hq] at h;exact sOp.mono h fun x H' hh=>hk _ _ hh
   · rename_i hw;simp only [hw] at h;exact⟨h.1,hk _ _ h.2⟩
   · rename_i hw;simp only [hw] at h

theorem zak {n1 m:Nat} {ro:Option Nat} {R1:Exit → Act → World → Prop} : ∀ (fuel:Nat) (listed:Array Bool) (env:Env) (H:Hp) (σ:Gh) (w:World) (a:Act),zjy C ops q Q fuel listed env H → Rel C.G σ H w → RelF C.nt m σ H w env a → n1≤H.n →
 (∀ env' H' σ' w' a',Q env' H' → Rel C.G σ' H' w' → RelF C.nt m σ' H' w' env' a' → Ev n1 σ H w σ' H' w' → R1 .normal a' w') → wpAnyIn { Fence.wide with round:=ro } 0 C.P .any ops R1 fuel listed a w
 | 0,listed,env,H,σ,w,a,h,hr,hf,hn,hR=>⟨h.1,hR env H σ w a h.2 hr hf (Ev.refl hn)⟩
 | fuel+1,listed,env,H,σ,w,a,h,hr,hf,hn,hR=>by
  refine⟨fun h0=>hR env H σ w a (h.1 h0) hr hf (Ev.refl hn),fun i hi => ?_⟩
  have hi':=h.2 i hi
  unfold opA at hi'
  unfold wpOpIn
  split at hi'
  · rename_i ho
    simp only [ho]
    exact zak fuel _ env H σ w a hi' hr hf hn hR
  · rename_i o ho
    simp only [ho]
    split at hi'
    · rename_i hw
      rw [if_pos (yY hw hf rfl)]
      have h1:aOp1 C o env H (fun x H'=>zjy C ops q Q fuel (listed.setIfInBounds i true) (env.put o.dst x) H'):=by
       split at hi'
       · obtain⟨x,h1,h2⟩:=hi'
         exact sOp.mono h1 fun x' H' hh=>by rw [hh.1,hh.2];exact h2
       · exact hi'
      refine h1.wp hr hf fun x v H' σ' w' hk hd hrel hv hev => ?_
      exact zak fuel _ _ H' σ' w' _ hk hrel ((hf.mono hev).put hd hv) (Nat.le_trans hn hev.hn) fun env' H2 σ2 w2 a2 b1 b2 b3 b4=>hR env' H2 σ2 w2 a2 b1 b2 b3 (hev.trans b4 hn)
    · rename_i hw
      rw [if_neg (by rw [yY hw hf rfl];simp)]
      exact⟨fun f _=>trivial,zak fuel _ _ H σ w _ hi'.2 hr (hf.put (yM hi'.1) (.tup #[] rfl (by simp))) hn hR⟩
    · exact hi'.elim

def YieldsA (C:Cx) (ops:Array Oper) (o:Oper) (env:Env) (H:Hp) (x:AV):Prop :=
 (zR C.nt ops o.guard env=some true∧aOp1 C o env H (fun x' H'=>x'=x∧H'=H)) ∨ (zR C.nt ops o.guard env=some false∧zQ C.nt o.dst=true∧x = .tup [])

theorem YieldsA.opA {i:Nat} {o:Oper} {x:AV} {env:Env} {H:Hp} {K:Env → Hp → Prop} (hi:ops[i]? = some o) (hy:YieldsA C ops o env H x) (h:K (env.put o.dst x) H):opA C ops true i K env H:=by
 unfold Go.AL.opA
 simp only [hi]
 rcases hy with ⟨hw,h1⟩ | ⟨hw,h1,rfl⟩
 · simp only [hw,if_true];exact⟨x,h1,h⟩
 · simp only [hw];exact⟨h1,h⟩

theorem zd5 {env:Env} {d:Option Nat} {x:AV} {t:Nat} (h : ∀ i,d=some i → i≠t):env.put d x t=env t:=by
 cases d with
 | none=>rfl
 | some i=>simp only [Env.put];rw [if_neg (Ne.symm (h i rfl))]

theorem put_comm {env:Env} {d e:Option Nat} {x y:AV} (h : ∀ i,d=some i → e≠some i):(env.put d x).put e y=(env.put e y).put d x:=by
 cases d with
 | none=>rfl
 | some i =>
  cases e with
  | none=>rfl
  | some j =>
   have:i≠j:=fun hh=>h i rfl (by rw [hh])
   funext t
   simp only [Env.put]
   by_cases h1:t=j
   · rw [if_pos h1,if_neg (by omega),if_pos h1]
   · rw [if_neg h1];by_cases h2:t=i
     · rw [if_pos h2,if_pos h2]
     · rw [if_neg h2,if_neg h2,if_neg h1]

theorem zek {o:Oper} {env:Env} {d:Option Nat} {x:AV} (h : ∀ i,d=some i → i ∉ o.looksAt ops):zR C.nt ops o.guard (env.put d x)=zR C.nt ops o.guard env:=by
 unfold zR
 split
 · rfl
 · rename_i j want hg
   cases hd:(ops[j]?).bind (·.dst) with
   | none=>rfl
   | some t =>
    have:env.put d x t=env t:=zd5 fun i hi heq=>h i hi (by subst heq;simp [Oper.looksAt,hg,hd])
    simp only [this]

theorem zjz {o:Oper} {env:Env} {H:Hp} {d:Option Nat} {x:AV} {K:AV → Hp → Prop} (h : ∀ i,d=some i → i ∉ o.looksAt ops):aOp1 C o (env.put d x) H K ↔ aOp1 C o env H K:=by
 unfold aOp1
 rw [zdE (env':=env) fun y hy t ht=>zd5 fun i hi heq=>h i hi (by
  subst heq;subst ht
  exact List.mem_append_left _ (List.mem_filterMap.2 ⟨.tmp i,by simpa using hy,rfl⟩))]

theorem YieldsA.put {o:Oper} {env:Env} {H:Hp} {x y:AV} {d:Option Nat} (h : ∀ i,d=some i → i ∉ o.looksAt ops) (hy:YieldsA C ops o env H x):YieldsA C ops o (env.put d y) H x:=by
 unfold YieldsA at *
 rw [zek h]
 rcases hy with ⟨h1,h2⟩ | h1
 · exact .inl ⟨h1,(zjz h).2 h2⟩
 · exact .inr h1

theorem zBz {j:Nat} {oi oj:Oper} {x:AV} {env:Env} {H:Hp} {K:Env → Hp → Prop} (hj:ops[j]? = some oj) (hap:oi.apart ops oj=true) (hy:YieldsA C ops oi env H x) (h:opA C ops true j K (env.put oi.dst x) H) :
 opA C ops true j (fun env' H'=>YieldsA C ops oi env' H' x∧K (env'.put oi.dst x) H') env H:=by
 obtain⟨h1,h2,h3⟩:=Oper.apart_spec hap
 unfold opA at *
 simp only [hj] at *
 rw [zek h1] at h
 split
 · rename_i hw
   simp only [hw,if_true] at h ⊢
   obtain⟨y,q1,q2⟩:=h
   exact⟨y,(zjz h1).1 q1,hy.put h3,by rw [←put_comm h2];exact q2⟩
 · rename_i hw
   simp only [hw] at h
   exact⟨h.1,hy.put h3,by rw [←put_comm h2];exact h.2⟩
 · rename_i hw;simp only [hw] at h

theorem zfA {i:Nat} {oi:Oper} {x:AV} (hi:ops[i]? = some oi) (hqi:q i=true) (Wt:Nat → Prop) (hWt : ∀ j oj,ops[j]? = some oj → Wt j → ∃ e∈oj.after,Region.binds .any e=true∧(e.on=i ∨ Wt e.on)) : ∀ (fuel:Nat) (listed:Array Bool) (env:Env) (H:Hp),
 (∀ j,Wt j → listed.getD j true=false) →
 (∀ j oj,ops[j]? = some oj → j≠i → listed.getD j true=false → ¬Wt j → q j=true∧oi.apart ops oj=true) →
 i∈Region.ready .any ops listed → YieldsA C ops oi env H x → zjy C ops q Q fuel (listed.setIfInBounds i true) (env.put oi.dst x) H → zjy C ops q Q (fuel+1) listed env H:=by
 intro fuel
 induction fuel with
 | zero =>
  intro listed env H _ _ hr hy hh
  refine⟨fun h=>(by rw [h] at hr;cases hr),fun j hj => ?_⟩
  by_cases hji:j=i
  · subst hji;rw [hqi];exact hy.opA hi hh
  · have:=ready_mono hj hji
    rw [hh.1] at this
    cases this
 | succ fuel ih =>
  intro listed env H hun0 hfree hr hy hh
  refine⟨fun h=>(by rw [h] at hr;cases hr),fun j hj => ?_⟩
  by_cases hji:j=i
  · subst hji;rw [hqi];exact hy.opA hi hh
  · have h1:=hh.2 j (ready_mono hj hji)
    obtain⟨hjun,oj,hoj,hall⟩:=mem_ready.1 hj
    have hnot : ∀ e∈oj.after,Region.binds .any e=true → e.on≠i:=fun e he hb heq=>by
     have h1:=hall e he hb
     have h0:=(mem_ready.1 hr).1
     rw [heq] at h1
     rcases Nat.lt_or_ge i listed.size with h' | h'
     · simp [h'] at h0 h1;rw [h0] at h1;cases h1
     · simp [Array.getElem?_eq_none h'] at h1
    have hnw : ¬Wt j:=fun hw=>by
     obtain⟨e,he,hb,h | h⟩:=hWt j oj hoj hw
     · exact hnot e he hb h
     · have h1:=hall e he hb
       have h0:=hun0 _ h
       rcases Nat.lt_or_ge e.on listed.size with h' | h'
       · simp [h'] at h0 h1;rw [h0] at h1;cases h1
       · simp [Array.getElem?_eq_none h'] at h1
    obtain⟨hqj,hap⟩:=hfree j oj hoj hji hjun hnw
    rw [hqj] at h1 ⊢
    have h2:=zBz hoj hap hy h1
    have hfree' : ∀ k ok,ops[k]? = some ok → k≠i → (listed.setIfInBounds j true).getD k true=false →
     ¬Wt k → q k=true∧oi.apart ops ok=true:=fun k ok hk hki hun hno=>by
     refine hfree k ok hk hki ?_ hno
     by_cases hjk:j=k
     · subst hjk;exact hjun
     · rw [getD_set_ne true hjk] at hun;exact hun
    have hun' : ∀ k,Wt k → (listed.setIfInBounds j true).getD k true=false:=fun k hk=>by
     by_cases hjk:j=k
     · subst hjk;exact absurd hk hnw
     · rw [getD_set_ne true hjk];exact hun0 k hk
    refine zfz (fun env' H' h3=>ih (listed.setIfInBounds j true) env' H' hun' hfree' (ready_mono hr (Ne.symm hji)) h3.1 ?_) h2
    rw [Array.setIfInBounds_comm _ _ hji]
    exact h3.2

def y8 (ops:Array Oper) (listed:Array Bool) (i:Nat):Nat → Nat → Bool
 | 0,_=>false
 | f+1,j => !listed.getD j true && match ops[j]? with
  | some oj=>oj.after.any fun e=>Region.binds .any e && (e.on == i || y8 ops listed i f e.on)
  | none=>false

def zfB (ops:Array Oper) (listed:Array Bool) (i:Nat):List Nat :=
 (List.range ops.size).foldl (fun acc j=>if !listed.getD j true && (match ops[j]? with
  | some oj=>oj.after.any fun e=>Region.binds .any e && (e.on == i || acc.contains e.on)
  | none=>false) then j :: acc else acc) []

theorem zgT {ops:Array Oper} {listed:Array Bool} {i j:Nat} (h:(zfB ops listed i).contains j=true) : ∃ f,y8 ops listed i f j=true:=by
 have mono : ∀ f j,y8 ops listed i f j=true → y8 ops listed i (f+1) j=true:=by
  intro f
  induction f with
  | zero=>intro j h;cases h
  | succ f ih =>
   intro j h
   unfold y8 at h ⊢
   simp only [Bool.and_eq_true] at h ⊢
   refine⟨h.1,?_⟩
   have h2:=h.2
   split at h2
   · obtain⟨e,he,hb⟩:=Array.any_eq_true'.1 h2
     simp only [Bool.and_eq_true,Bool.or_eq_true] at hb
     exact Array.any_eq_true'.2 ⟨e,he,by simp only [Bool.and_eq_true,Bool.or_eq_true];exact⟨hb.1,hb.2.imp id (ih _)⟩⟩
   · cases h2
 have key : ∀ (l:List Nat) (acc:List Nat),(∀ j∈acc,∃ f,y8 ops listed i f j=true) → ∀ j∈l.foldl (fun acc j=>if !listed.getD j true && (match ops[j]? with
  | some oj=>oj.after.any fun e=>Region.binds .any e && (e.on == i || acc.contains e.on)
  | none=>false) then j :: acc else acc) acc,∃ f,y8 ops listed i f j=true:=by
  intro l
  induction l with
  | nil=>exact fun acc h=>h
  | cons a l ih =>
   intro acc hacc
   rw [List.foldl_cons]
   refine ih _ ?_
   by_cases hc:(!listed.getD a true && (match ops[a]? with
    | some oj=>oj.after.any fun e=>Region.binds .any e && (e.on == i || acc.contains e.on)
    | none=>false))=true
   · rw [if_pos hc]
     intro j hj
     rcases List.mem_cons.1 hj with rfl | hj
     · simp only [Bool.and_eq_true] at hc
       obtain⟨h1,h2⟩:=hc
       split at h2
       · rename_i oj hoj
         obtain⟨e,he,hb⟩:=Array.any_eq_true'.1 h2
         simp only [Bool.and_eq_true,Bool.or_eq_true] at hb
         rcases hb.2 with h3 | h3
         · refine⟨1,?_⟩
           unfold y8
           simp only [Bool.and_eq_true]
           refine⟨h1,?_⟩
           simp only [hoj]
           exact Array.any_eq_true'.2 ⟨e,he,by simp only [Bool.and_eq_true,Bool.or_eq_true];exact⟨hb.1,.inl h3⟩⟩
         · obtain⟨f,hf⟩:=hacc e.on (by simpa using h3)
           refine⟨f+1,?_⟩
           unfold y8
           simp only [Bool.and_eq_true]
           refine⟨h1,?_⟩
           simp only [hoj]
           exact Array.any_eq_true'.2 ⟨e,he,by simp only [Bool.and_eq_true,Bool.or_eq_true];exact⟨hb.1,.inr hf⟩⟩
       · cases h2
     · exact hacc j hj
   · rw [if_neg hc]
     exact hacc
 exact key _ [] (by simp) j (by simpa [zfB] using h)

def zur (q:Nat → Bool) (ops:Array Oper) (listed:Array Bool) (i:Nat):Bool :=
 match ops[i]? with
 | none=>false
 | some oi=>(List.range ops.size).all fun j=>j == i || listed.getD j true || match ops[j]? with
  | some oj=>oj.after.any (fun e=>Region.binds .any e && e.on == i) || (q j && oi.apart ops oj) || (zfB ops listed i).contains j
  | none=>true

def Waits (ops:Array Oper) (listed:Array Bool) (i j:Nat):Prop := ∃ f,y8 ops listed i f j=true

theorem Waits.edge {i j:Nat} {oj:Oper} {listed:Array Bool} (hj:ops[j]? = some oj) (h:Waits ops listed i j) : ∃ e∈oj.after,Region.binds .any e=true∧(e.on=i ∨ Waits ops listed i e.on):=by
 obtain⟨f,h⟩:=h
 cases f with
 | zero=>cases h
 | succ f =>
  simp only [y8,hj,Bool.and_eq_true] at h
  obtain⟨e,he,hb⟩:=Array.any_eq_true'.1 h.2
  simp only [Bool.and_eq_true,Bool.or_eq_true,beq_iff_eq] at hb
  exact⟨e,he,hb.1,hb.2.imp id fun h=>⟨f,h⟩⟩

theorem Waits.unlisted {i j:Nat} {listed:Array Bool} (h:Waits ops listed i j):listed.getD j true=false:=by
 obtain⟨f,h⟩:=h
 cases f with
 | zero=>cases h
 | succ f=>simp only [y8,Bool.and_eq_true,Bool.not_eq_true'] at h;exact h.1

theorem zmz {i:Nat} {oi:Oper} {listed:Array Bool} (hi:ops[i]? = some oi) (h:zur q ops listed i=true) (j:Nat) (oj:Oper)
 (hj:ops[j]? = some oj) (hne:j≠i) (hun:listed.getD j true=false) (hno : ¬Waits ops listed i j):q j=true∧oi.apart ops oj=true:=by
 simp only [zur,hi,List.all_eq_true,List.mem_range] at h
 have h1:=h j (Array.getElem?_eq_some_iff.1 hj).1
 simp only [hj,Bool.or_eq_true,beq_iff_eq,hne,false_or,hun,Bool.false_eq_true,Bool.and_eq_true] at h1
 rcases h1 with (h1 | h1) | h1
 · refine absurd ⟨1,?_⟩ hno
   obtain⟨e,he,hb⟩:=Array.any_eq_true'.1 h1
   simp only [Bool.and_eq_true,beq_iff_eq] at hb
   simp only [y8,hun,hj,Bool.not_false,Bool.true_and]
   exact Array.any_eq_true'.2 ⟨e,he,by simp [hb.1,hb.2]⟩
 · exact h1
 · exact absurd (zgT h1) hno

def zjA (q:Nat → Bool) (ops:Array Oper):Nat → Nat → Array Bool → Bool
 | 0,_,listed=>(Region.ready .any ops listed).isEmpty
 | fuel+1,k,listed=>(Region.ready .any ops listed).contains k && (if q k then zur q ops listed k else Region.ready .any ops listed == [k]) && zjA q ops fuel (k+1) (listed.setIfInBounds k true)

def zdF (C:Cx) (ops:Array Oper) (q:Nat → Bool) (Q:Env → Hp → Prop):Nat → List Oper → Env → Hp → Prop
 | _,[],env,H=>Q env H
 | k,_ :: l,env,H=>opA C ops (q k) k (zdF C ops q Q (k+1) l) env H

theorem zcO : ∀ (l:List Oper) (k:Nat) (listed:Array Bool) (env:Env) (H:Hp),(∀ j,l[j]? = ops[k+j]?) → zjA q ops l.length k listed=true → zdF C ops q Q k l env H → zjy C ops q Q l.length listed env H
 | [],_,_,_,_,_,hB,h=>⟨by simpa [zjA] using hB,h⟩
 | o :: l,k,listed,env,H,hl,hB,h=>by
  have h0:ops[k]? = some o:=by simpa using (hl 0).symm
  have hl' : ∀ j,l[j]? = ops[k+1+j]? := fun j=>by have:=hl (j+1);simpa [Nat.add_assoc,Nat.add_comm 1 j] using this
  simp only [List.length_cons,zjA,Bool.and_eq_true] at hB
  obtain⟨⟨hr,hf⟩,hB'⟩:=hB
  simp only [zdF] at h
  by_cases hq:q k=true
  · rw [if_pos hq] at hf
    rw [hq] at h
    have : ∃ x,YieldsA C ops o env H x∧zdF C ops q Q (k+1) l (env.put o.dst x) H:=by
     unfold opA at h
     simp only [h0] at h
     split at h
     · rename_i hw;simp only [if_true] at h;obtain⟨x,h1,h2⟩:=h;exact⟨x,.inl ⟨hw,h1⟩,h2⟩
     · rename_i hw;exact⟨.tup [],.inr ⟨hw,h.1,rfl⟩,h.2⟩
     · exact h.elim
    obtain⟨x,hy,hK⟩:=this
    exact zfA h0 hq (Waits ops listed k) (fun j oj hj hw=>hw.edge hj) l.length listed env H (fun j hw=>hw.unlisted) (zmz h0 hf) (by simpa using hr) hy (zcO l (k+1) _ _ _ hl' hB' hK)
  · rw [if_neg hq] at hf
    have hrd:Region.ready .any ops listed=[k]:=by simpa using hf
    refine⟨fun h0=>(by rw [hrd] at h0;cases h0),fun i hi => ?_⟩
    rw [hrd] at hi
    simp only [List.mem_singleton] at hi
    subst hi
    exact zfz (fun env' H' hh=>zcO l (i+1) _ _ _ hl' hB' hh) h
end any

section draw
variable {C:Cx} {k:List Item} {env:Env} {H:Hp} {R:AV → Hp → Prop}


theorem ARun.draw {id:Nat} {l:List Oper} (q:Nat → Bool) (hm:C.P.follows .mixedOrders=true) (hB:zjA q l.toArray l.length 0 (Array.replicate l.length false)=true)
 (h:zdF C l.toArray q (fun env' H'=>ARun C k env' H' R) 0 l env H):ARun C (.code (.region id l.toArray true) :: k) env H R :=
 .of_wp fun σ w a m hpre=>by
  obtain⟨g1,g2⟩:=zcF hpre.rel
  have:=zcO (C:=C) (ops:=l.toArray) (Q:=fun env' H'=>ARun C k env' H' R) l 0 (Array.replicate l.length false) env H (by simp) hB h
  refine wpIn_region_any hm ?_
  rw [List.size_toArray]
  exact zak (m:=m) l.length _ env H σ w.drew a this g1 (hpre.fr.mono g2) (Nat.le_refl _) fun env' H' σ' w' a' b1 b2 b3 b4=>⟨rfl,env',H',σ',b1,hpre.go b2 b3 (g2.trans b4 (Nat.le_refl _)),g2.trans b4 (Nat.le_refl _)⟩
end draw

end Go.AL

/-
  Numbers,bools and strings as typed data,and the rules by which simp runs operations on them.
  Conditions: none;nothing here speaks of one program. Written by gen_engn.py.
-/
namespace Go.AL
open Go

def i64 (n:Int):PV := .s (.int .i64 n)
def bo (b:Bool):PV := .s (.bool b)
@[reducible] def str (s:ByteArray):PV := .s (.string s)
def b8 (x:BitVec 8):PV := .s (.int .u8 x.toNat)
def yd (x:BitVec 16):PV := .s (.int .u16 x.toNat)
def zC (x:BitVec 32):PV := .s (.int .u32 x.toNat)
def zw (x:BitVec 64):PV := .s (.int .u64 x.toNat)

theorem ze9 {n:Int} (h1 : -9223372036854775808≤n) (h2:n≤9223372036854775807):IntKind.i64.wrap n=n:=by rw [IntKind.wrap_i64];omega


theorem zE {w:Nat} (x:BitVec w):BitVec.ofInt w (x.toNat:Int)=x:=by simp

theorem yR {w:Nat} (x:BitVec w) (n:Nat):((x.toNat:Int)*2 ^ min n w) % 2 ^ w=((x <<< n).toNat:Int):=by
 have h:(x.toNat*2 ^ min n w) % 2 ^ w=(x <<< n).toNat:=by
  rw [BitVec.toNat_shiftLeft,Nat.shiftLeft_eq]
  rcases Nat.le_total n w with h | h
  · rw [Nat.min_eq_left h]
  · rw [Nat.min_eq_right h,Nat.mul_mod_left]
    obtain⟨d,rfl⟩:=Nat.exists_eq_add_of_le h
    rw [Nat.pow_add,←Nat.mul_assoc,Nat.mul_right_comm,Nat.mul_mod_left]
 exact_mod_cast h

theorem yS {w:Nat} (x:BitVec w) (n:Nat):(x.toNat:Int).fdiv (2 ^ min n w)=((x >>> n).toNat:Int):=by
 have h:x.toNat / 2 ^ min n w=(x >>> n).toNat:=by
  rw [BitVec.toNat_ushiftRight,Nat.shiftRight_eq_div_pow]
  rcases Nat.le_total n w with h | h
  · rw [Nat.min_eq_left h]
  · rw [Nat.min_eq_right h,Nat.div_eq_of_lt x.isLt,Nat.div_eq_of_lt]
    exact Nat.lt_of_lt_of_le x.isLt (Nat.pow_le_pow_right (by omega) h)
 rw [Int.fdiv_eq_ediv_of_nonneg _ (Int.pow_nonneg (by decide)),←h]
 norm_cast

theorem zq3 (n:Int):(i64 n).cells=[i64 n]:=rfl
theorem zjB (n:Int):(i64 n).weak=i64 n:=rfl
theorem zht (n:Int):(i64 n).weak1=i64 n:=rfl
theorem zmA (n:Int):zo (.p (i64 n))=some [.p (i64 n)]:=rfl
theorem zq4 (n:Int):(i64 n).isAgg=false:=rfl
theorem zmB (n:Int):zaU false [.p (i64 n)]=some (i64 n):=rfl
theorem zmC (n:Int):(AV.p (i64 n)).isAggV=false:=rfl
theorem zus (b:Bool):(bo b).cells=[bo b]:=rfl
theorem zpJ (b:Bool):(bo b).weak=bo b:=rfl
theorem zjC (b:Bool):(bo b).weak1=bo b:=rfl
theorem zq5 (b:Bool):zo (.p (bo b))=some [.p (bo b)]:=rfl
theorem zut (b:Bool):(bo b).isAgg=false:=rfl
theorem zq6 (b:Bool):zaU false [.p (bo b)]=some (bo b):=rfl
theorem zq7 (b:Bool):(AV.p (bo b)).isAggV=false:=rfl
theorem zq8 (s:ByteArray):(str s).cells=[str s]:=rfl
theorem zuu (s:ByteArray):(str s).weak=str s:=rfl
theorem zq9 (s:ByteArray):(str s).weak1=str s:=rfl
theorem zmD (s:ByteArray):zo (.p (str s))=some [.p (str s)]:=rfl
theorem zra (s:ByteArray):(str s).isAgg=false:=rfl
theorem zmE (s:ByteArray):zaU false [.p (str s)]=some (str s):=rfl
theorem zmF (s:ByteArray):(AV.p (str s)).isAggV=false:=rfl
theorem zuv (x:BitVec 8):(b8 x).cells=[b8 x]:=rfl
theorem zpK (x:BitVec 8):(b8 x).weak=b8 x:=rfl
theorem zjD (x:BitVec 8):(b8 x).weak1=b8 x:=rfl
theorem zrb (x:BitVec 8):zo (.p (b8 x))=some [.p (b8 x)]:=rfl
theorem zuw (x:BitVec 8):(b8 x).isAgg=false:=rfl
theorem zrc (x:BitVec 8):zaU false [.p (b8 x)]=some (b8 x):=rfl
theorem zrd (x:BitVec 8):(AV.p (b8 x)).isAggV=false:=rfl
theorem zre (x:BitVec 16):(yd x).cells=[yd x]:=rfl
theorem zjE (x:BitVec 16):(yd x).weak=yd x:=rfl
theorem zhu (x:BitVec 16):(yd x).weak1=yd x:=rfl
theorem zmG (x:BitVec 16):zo (.p (yd x))=some [.p (yd x)]:=rfl
theorem zrf (x:BitVec 16):(yd x).isAgg=false:=rfl
theorem zmH (x:BitVec 16):zaU false [.p (yd x)]=some (yd x):=rfl
theorem zmI (x:BitVec 16):(AV.p (yd x)).isAggV=false:=rfl
theorem zrg (x:BitVec 32):(zC x).cells=[zC x]:=rfl
theorem zjF (x:BitVec 32):(zC x).weak=zC x:=rfl
theorem zhv (x:BitVec 32):(zC x).weak1=zC x:=rfl
theorem zmJ (x:BitVec 32):zo (.p (zC x))=some [.p (zC x)]:=rfl
theorem zrh (x:BitVec 32):(zC x).isAgg=false:=rfl
theorem zmK (x:BitVec 32):zaU false [.p (zC x)]=some (zC x):=rfl
theorem zmL (x:BitVec 32):(AV.p (zC x)).isAggV=false:=rfl
theorem zri (x:BitVec 64):(zw x).cells=[zw x]:=rfl
theorem zjG (x:BitVec 64):(zw x).weak=zw x:=rfl
theorem zhw (x:BitVec 64):(zw x).weak1=zw x:=rfl
theorem zmM (x:BitVec 64):zo (.p (zw x))=some [.p (zw x)]:=rfl
theorem zrj (x:BitVec 64):(zw x).isAgg=false:=rfl
theorem zmN (x:BitVec 64):zaU false [.p (zw x)]=some (zw x):=rfl
theorem zmO (x:BitVec 64):(AV.p (zw x)).isAggV=false:=rfl
theorem zBA (n:Int):(AV.p (i64 n)).int? = some n:=rfl
theorem zKw (x:BitVec 8):(AV.p (b8 x)).int? = some (x.toNat:Int):=rfl
theorem zBB (x:BitVec 16):(AV.p (yd x)).int? = some (x.toNat:Int):=rfl
theorem zBC (x:BitVec 32):(AV.p (zC x)).int? = some (x.toNat:Int):=rfl
theorem zBD (x:BitVec 64):(AV.p (zw x)).int? = some (x.toNat:Int):=rfl
theorem zmP (n:Int):yu (.int .i64 n) = .p (i64 n):=rfl
theorem zrk (b:Bool):yu (.bool b) = .p (bo b):=rfl
theorem zmQ (s:ByteArray):yu (.string s) = .p (str s):=rfl
theorem zrl (n:Int) (h0:0≤n) (h1:n < 256):yu (.int .u8 n) = .p (b8 (BitVec.ofInt 8 n)):=by
 have:((BitVec.ofInt 8 n).toNat:Int)=n:=by rw [BitVec.toNat_ofInt];simp only [Int.reducePow,Nat.reducePow,Int.cast_ofNat_Int];omega
 unfold yu b8;rw [this]
theorem zmR (n:Int) (h0:0≤n) (h1:n < 65536):yu (.int .u16 n) = .p (yd (BitVec.ofInt 16 n)):=by
 have:((BitVec.ofInt 16 n).toNat:Int)=n:=by rw [BitVec.toNat_ofInt];simp only [Int.reducePow,Nat.reducePow,Int.cast_ofNat_Int];omega
 unfold yu yd;rw [this]
theorem zmS (n:Int) (h0:0≤n) (h1:n < 4294967296):yu (.int .u32 n) = .p (zC (BitVec.ofInt 32 n)):=by
 have:((BitVec.ofInt 32 n).toNat:Int)=n:=by rw [BitVec.toNat_ofInt];simp only [Int.reducePow,Nat.reducePow,Int.cast_ofNat_Int];omega
 unfold yu zC;rw [this]
theorem zmT (n:Int) (h0:0≤n) (h1:n < 18446744073709551616):yu (.int .u64 n) = .p (zw (BitVec.ofInt 64 n)):=by
 have:((BitVec.ofInt 64 n).toNat:Int)=n:=by rw [BitVec.toNat_ofInt];simp only [Int.reducePow,Nat.reducePow,Int.cast_ofNat_Int];omega
 unfold yu zw;rw [this]
theorem zmU (P:Program) (t:TypeId) (x y:BitVec 8):zi P .add t (.p (b8 x)) (.p (b8 y))=some (.p (b8 (x+y))):=by
 simp only [zi,b8,zB,zh,yc,Bool.false_eq_true,if_false,if_true,Option.map_some]
 have h:((x.toNat:Int)+y.toNat) % 256=((x+y).toNat:Int):=by
  rw [BitVec.toNat_add];simp only [Nat.reducePow];omega
 rw [IntKind.wrap_u8,h]
theorem zmV (P:Program) (t:TypeId) (x y:BitVec 8):zi P .sub t (.p (b8 x)) (.p (b8 y))=some (.p (b8 (x - y))):=by
 simp only [zi,b8,zB,zh,yc,Bool.false_eq_true,if_false,if_true,Option.map_some]
 have h:((x.toNat:Int) - y.toNat) % 256=((x - y).toNat:Int):=by
  rw [BitVec.toNat_sub];have:=x.isLt;have:=y.isLt;simp only [Nat.reducePow] at *;omega
 rw [IntKind.wrap_u8,h]
theorem zmW (P:Program) (t:TypeId) (x y:BitVec 8):zi P .mul t (.p (b8 x)) (.p (b8 y))=some (.p (b8 (x*y))):=by
 simp only [zi,b8,zB,zh,yc,Bool.false_eq_true,if_false,if_true,Option.map_some]
 have h:((x.toNat:Int)*y.toNat) % 256=((x*y).toNat:Int):=by
  rw [BitVec.toNat_mul,Int.natCast_emod,Int.natCast_mul];rfl
 rw [IntKind.wrap_u8,h]
theorem zmX (P:Program) (t:TypeId) (x y:BitVec 8):zi P .and t (.p (b8 x)) (.p (b8 y))=some (.p (b8 (x &&& y))):=by
 simp only [zi,b8,zB,zh,yc,Bool.false_eq_true,if_false,if_true,Option.map_some]
 have h:IntKind.u8.wrap (((x &&& y).toNat:Nat):Int)=(((x &&& y).toNat:Nat):Int):=by
  rw [IntKind.wrap_u8];have:=(x &&& y).isLt;simp only [Nat.reducePow] at this;omega
 have h1:BitVec.ofInt IntKind.u8.bits (x.toNat:Int)=x:=zE x
 have h2:BitVec.ofInt IntKind.u8.bits (y.toNat:Int)=y:=zE y
 rw [h1,h2]
 exact congrArg (fun n=>some (AV.p (PV.s (Value.int IntKind.u8 n)))) h
theorem zrm (P:Program) (t:TypeId) (x y:BitVec 8):zi P .or t (.p (b8 x)) (.p (b8 y))=some (.p (b8 (x ||| y))):=by
 simp only [zi,b8,zB,zh,yc,Bool.false_eq_true,if_false,if_true,Option.map_some]
 have h:IntKind.u8.wrap (((x ||| y).toNat:Nat):Int)=(((x ||| y).toNat:Nat):Int):=by
  rw [IntKind.wrap_u8];have:=(x ||| y).isLt;simp only [Nat.reducePow] at this;omega
 have h1:BitVec.ofInt IntKind.u8.bits (x.toNat:Int)=x:=zE x
 have h2:BitVec.ofInt IntKind.u8.bits (y.toNat:Int)=y:=zE y
 rw [h1,h2]
 exact congrArg (fun n=>some (AV.p (PV.s (Value.int IntKind.u8 n)))) h
theorem zmY (P:Program) (t:TypeId) (x y:BitVec 8):zi P .xor t (.p (b8 x)) (.p (b8 y))=some (.p (b8 (x ^^^ y))):=by
 simp only [zi,b8,zB,zh,yc,Bool.false_eq_true,if_false,if_true,Option.map_some]
 have h:IntKind.u8.wrap (((x ^^^ y).toNat:Nat):Int)=(((x ^^^ y).toNat:Nat):Int):=by
  rw [IntKind.wrap_u8];have:=(x ^^^ y).isLt;simp only [Nat.reducePow] at this;omega
 have h1:BitVec.ofInt IntKind.u8.bits (x.toNat:Int)=x:=zE x
 have h2:BitVec.ofInt IntKind.u8.bits (y.toNat:Int)=y:=zE y
 rw [h1,h2]
 exact congrArg (fun n=>some (AV.p (PV.s (Value.int IntKind.u8 n)))) h
theorem zgU (P:Program) (t:TypeId) (x y:BitVec 8):zi P .andNot t (.p (b8 x)) (.p (b8 y))=some (.p (b8 (x &&& ~~~y))):=by
 simp only [zi,b8,zB,zh,yc,Bool.false_eq_true,if_false,if_true,Option.map_some]
 have h:IntKind.u8.wrap (((x &&& ~~~y).toNat:Nat):Int)=(((x &&& ~~~y).toNat:Nat):Int):=by
  rw [IntKind.wrap_u8];have:=(x &&& ~~~y).isLt;simp only [Nat.reducePow] at this;omega
 have h1:BitVec.ofInt IntKind.u8.bits (x.toNat:Int)=x:=zE x
 have h2:BitVec.ofInt IntKind.u8.bits (y.toNat:Int)=y:=zE y
 rw [h1,h2]
 exact congrArg (fun n=>some (AV.p (PV.s (Value.int IntKind.u8 n)))) h
theorem zmZ (P:Program) (t:TypeId) (x y:BitVec 8):zi P .eql t (.p (b8 x)) (.p (b8 y))=some (.p (bo (x == y))):=by
 simp only [zi,b8,zB,zh,yc,Bool.false_eq_true,if_false,if_true,Option.map_some]
 have h:((x.toNat:Int) == (y.toNat:Int))=(x == y):=by
  rw [Bool.eq_iff_iff];simp only [beq_iff_eq,Int.ofNat_inj];exact BitVec.toNat_inj
 simp only [bo,bne,h]
theorem zm0 (P:Program) (t:TypeId) (x y:BitVec 8):zi P .neq t (.p (b8 x)) (.p (b8 y))=some (.p (bo (x != y))):=by
 simp only [zi,b8,zB,zh,yc,Bool.false_eq_true,if_false,if_true,Option.map_some]
 have h:((x.toNat:Int) == (y.toNat:Int))=(x == y):=by
  rw [Bool.eq_iff_iff];simp only [beq_iff_eq,Int.ofNat_inj];exact BitVec.toNat_inj
 simp only [bo,bne,h]
theorem zm1 (P:Program) (t:TypeId) (x y:BitVec 8):zi P .lss t (.p (b8 x)) (.p (b8 y))=some (.p (bo (decide (x < y)))):=by
 simp only [zi,b8,zB,zh,yc,Bool.false_eq_true,if_false,if_true,Option.map_some]
 simp only [bo,BitVec.lt_def,BitVec.le_def,gt_iff_lt,ge_iff_le,Int.ofNat_lt,Int.ofNat_le]
theorem zm2 (P:Program) (t:TypeId) (x y:BitVec 8):zi P .leq t (.p (b8 x)) (.p (b8 y))=some (.p (bo (decide (x≤y)))):=by
 simp only [zi,b8,zB,zh,yc,Bool.false_eq_true,if_false,if_true,Option.map_some]
 simp only [bo,BitVec.lt_def,BitVec.le_def,gt_iff_lt,ge_iff_le,Int.ofNat_lt,Int.ofNat_le]
theorem zm3 (P:Program) (t:TypeId) (x y:BitVec 8):zi P .gtr t (.p (b8 x)) (.p (b8 y))=some (.p (bo (decide (y < x)))):=by
 simp only [zi,b8,zB,zh,yc,Bool.false_eq_true,if_false,if_true,Option.map_some]
 simp only [bo,BitVec.lt_def,BitVec.le_def,gt_iff_lt,ge_iff_le,Int.ofNat_lt,Int.ofNat_le]
theorem zm4 (P:Program) (t:TypeId) (x y:BitVec 8):zi P .geq t (.p (b8 x)) (.p (b8 y))=some (.p (bo (decide (y≤x)))):=by
 simp only [zi,b8,zB,zh,yc,Bool.false_eq_true,if_false,if_true,Option.map_some]
 simp only [bo,BitVec.lt_def,BitVec.le_def,gt_iff_lt,ge_iff_le,Int.ofNat_lt,Int.ofNat_le]
theorem zm5 (P:Program) (t:TypeId) (x y:BitVec 8) (hy:y≠0#8):zi P .quo t (.p (b8 x)) (.p (b8 y))=some (.p (b8 (x / y))):=by
 simp only [zi,b8,zB,zh,yc,Bool.false_eq_true,if_false,if_true,Option.map_some]
 have hn : ¬ ((y.toNat:Int)=0):=fun h=>hy (BitVec.eq_of_toNat_eq (by simpa using h))
 rw [if_neg hn]
 have h:IntKind.u8.wrap ((x.toNat:Int).tdiv y.toNat)=((x / y).toNat:Int):=by
  rw [IntKind.wrap_u8,Int.tdiv_eq_ediv_of_nonneg (by omega),BitVec.toNat_udiv]
  have h1:x.toNat / y.toNat≤x.toNat:=Nat.div_le_self _ _
  have h2:=x.isLt
  simp only [Nat.reducePow] at h2
  rw [←Int.natCast_ediv]
  generalize x.toNat / y.toNat=q at *
  omega
 rw [h,Option.map_some]
theorem zm6 (P:Program) (t:TypeId) (x y:BitVec 8) (hy:y≠0#8):zi P .rem t (.p (b8 x)) (.p (b8 y))=some (.p (b8 (x % y))):=by
 simp only [zi,b8,zB,zh,yc,Bool.false_eq_true,if_false,if_true,Option.map_some]
 have hn : ¬ ((y.toNat:Int)=0):=fun h=>hy (BitVec.eq_of_toNat_eq (by simpa using h))
 rw [if_neg hn]
 have h:((x.toNat:Int).tmod y.toNat)=((x % y).toNat:Int):=by
  rw [Int.tmod_eq_emod_of_nonneg (by omega),BitVec.toNat_umod,Int.natCast_emod]
 rw [h,Option.map_some]
theorem zfC (P:Program) (t:TypeId) (x:BitVec 8) (n:Int) (hn:0≤n):zi P .shl t (.p (b8 x)) (.p (i64 n))=some (.p (b8 (x <<< n.toNat))):=by
 simp only [zi,b8,i64,zB,zh,zS,if_true]
 rw [if_neg (by omega)]
 simp only [Option.map_some]
 have:=yR x n.toNat
 rw [IntKind.wrap_u8]
 exact congrArg (fun n=>some (AV.p (PV.s (Value.int IntKind.u8 n)))) this
theorem zfD (P:Program) (t:TypeId) (x:BitVec 8) (n:Int) (hn:0≤n):zi P .shr t (.p (b8 x)) (.p (i64 n))=some (.p (b8 (x >>> n.toNat))):=by
 simp only [zi,b8,i64,zB,zh,zS,if_true]
 rw [if_neg (by omega)]
 simp only [Option.map_some]
 have:=yS x n.toNat
 exact congrArg (fun n=>some (AV.p (PV.s (Value.int IntKind.u8 n)))) this
theorem zgV (P:Program) (t:TypeId) (x:BitVec 8) (y:BitVec 8):zi P .shl t (.p (b8 x)) (.p (b8 y))=some (.p (b8 (x <<< y.toNat))):=by
 simp only [zi,b8,b8,zB,zh,zS,if_true]
 rw [if_neg (by omega)]
 simp only [Option.map_some]
 rw [Int.toNat_natCast]
 have:=yR x y.toNat
 rw [IntKind.wrap_u8]
 exact congrArg (fun n=>some (AV.p (PV.s (Value.int IntKind.u8 n)))) this
theorem zgW (P:Program) (t:TypeId) (x:BitVec 8) (y:BitVec 8):zi P .shr t (.p (b8 x)) (.p (b8 y))=some (.p (b8 (x >>> y.toNat))):=by
 simp only [zi,b8,b8,zB,zh,zS,if_true]
 rw [if_neg (by omega)]
 simp only [Option.map_some]
 rw [Int.toNat_natCast]
 have:=yS x y.toNat
 exact congrArg (fun n=>some (AV.p (PV.s (Value.int IntKind.u8 n)))) this
theorem zfE (P:Program) (t:TypeId) (x:BitVec 8) (y:BitVec 16):zi P .shl t (.p (b8 x)) (.p (yd y))=some (.p (b8 (x <<< y.toNat))):=by
 simp only [zi,b8,yd,zB,zh,zS,if_true]
 rw [if_neg (by omega)]
 simp only [Option.map_some]
 rw [Int.toNat_natCast]
 have:=yR x y.toNat
 rw [IntKind.wrap_u8]
 exact congrArg (fun n=>some (AV.p (PV.s (Value.int IntKind.u8 n)))) this
theorem zfF (P:Program) (t:TypeId) (x:BitVec 8) (y:BitVec 16):zi P .shr t (.p (b8 x)) (.p (yd y))=some (.p (b8 (x >>> y.toNat))):=by
 simp only [zi,b8,yd,zB,zh,zS,if_true]
 rw [if_neg (by omega)]
 simp only [Option.map_some]
 rw [Int.toNat_natCast]
 have:=yS x y.toNat
 exact congrArg (fun n=>some (AV.p (PV.s (Value.int IntKind.u8 n)))) this
theorem zfG (P:Program) (t:TypeId) (x:BitVec 8) (y:BitVec 32):zi P .shl t (.p (b8 x)) (.p (zC y))=some (.p (b8 (x <<< y.toNat))):=by
 simp only [zi,b8,zC,zB,zh,zS,if_true]
 rw [if_neg (by omega)]
 simp only [Option.map_some]
 rw [Int.toNat_natCast]
 have:=yR x y.toNat
 rw [IntKind.wrap_u8]
 exact congrArg (fun n=>some (AV.p (PV.s (Value.int IntKind.u8 n)))) this
theorem zfH (P:Program) (t:TypeId) (x:BitVec 8) (y:BitVec 32):zi P .shr t (.p (b8 x)) (.p (zC y))=some (.p (b8 (x >>> y.toNat))):=by
 simp only [zi,b8,zC,zB,zh,zS,if_true]
 rw [if_neg (by omega)]
 simp only [Option.map_some]
 rw [Int.toNat_natCast]
 have:=yS x y.toNat
 exact congrArg (fun n=>some (AV.p (PV.s (Value.int IntKind.u8 n)))) this
theorem zfI (P:Program) (t:TypeId) (x:BitVec 8) (y:BitVec 64):zi P .shl t (.p (b8 x)) (.p (zw y))=some (.p (b8 (x <<< y.toNat))):=by
 simp only [zi,b8,zw,zB,zh,zS,if_true]
 rw [if_neg (by omega)]
 simp only [Option.map_some]
 rw [Int.toNat_natCast]
 have:=yR x y.toNat
 rw [IntKind.wrap_u8]
 exact congrArg (fun n=>some (AV.p (PV.s (Value.int IntKind.u8 n)))) this
theorem zfJ (P:Program) (t:TypeId) (x:BitVec 8) (y:BitVec 64):zi P .shr t (.p (b8 x)) (.p (zw y))=some (.p (b8 (x >>> y.toNat))):=by
 simp only [zi,b8,zw,zB,zh,zS,if_true]
 rw [if_neg (by omega)]
 simp only [Option.map_some]
 rw [Int.toNat_natCast]
 have:=yS x y.toNat
 exact congrArg (fun n=>some (AV.p (PV.s (Value.int IntKind.u8 n)))) this
theorem zrn (x:BitVec 8):aUn .xor (.p (b8 x))=some (.p (b8 (~~~x))):=by
 have h1:BitVec.ofInt IntKind.u8.bits (x.toNat:Int)=x:=zE x
 have h2:BitVec.ofInt IntKind.u8.bits (if IntKind.u8.signed then -1 else IntKind.u8.max)=BitVec.allOnes 8:=by rfl
 simp only [aUn,b8,vUn,Option.map_some,h1,h2]
 have h:IntKind.u8.wrap (((BitVec.allOnes 8 ^^^ x).toNat:Nat):Int)=((~~~x).toNat:Int):=by
  rw [BitVec.allOnes_xor]
  rw [IntKind.wrap_u8];have:=(~~~x).isLt;simp only [Nat.reducePow] at this;omega
 exact congrArg (fun n=>some (AV.p (PV.s (Value.int IntKind.u8 n)))) h
theorem zro (x:BitVec 8):aUn .neg (.p (b8 x))=some (.p (b8 (-x))):=by
 simp only [aUn,b8,vUn,Option.map_some]
 have h:IntKind.u8.wrap (0 - (x.toNat:Int))=((-x).toNat:Int):=by
  rw [IntKind.wrap_u8,BitVec.toNat_neg];have:=x.isLt;simp only [Nat.reducePow] at *;omega
 rw [h]
theorem zjH (P:Program) (t:TypeId) (x y:BitVec 16):zi P .add t (.p (yd x)) (.p (yd y))=some (.p (yd (x+y))):=by
 simp only [zi,yd,zB,zh,yc,Bool.false_eq_true,if_false,if_true,Option.map_some]
 have h:((x.toNat:Int)+y.toNat) % 65536=((x+y).toNat:Int):=by
  rw [BitVec.toNat_add];simp only [Nat.reducePow];omega
 rw [IntKind.wrap_u16,h]
theorem zjI (P:Program) (t:TypeId) (x y:BitVec 16):zi P .sub t (.p (yd x)) (.p (yd y))=some (.p (yd (x - y))):=by
 simp only [zi,yd,zB,zh,yc,Bool.false_eq_true,if_false,if_true,Option.map_some]
 have h:((x.toNat:Int) - y.toNat) % 65536=((x - y).toNat:Int):=by
  rw [BitVec.toNat_sub];have:=x.isLt;have:=y.isLt;simp only [Nat.reducePow] at *;omega
 rw [IntKind.wrap_u16,h]
theorem zjJ (P:Program) (t:TypeId) (x y:BitVec 16):zi P .mul t (.p (yd x)) (.p (yd y))=some (.p (yd (x*y))):=by
 simp only [zi,yd,zB,zh,yc,Bool.false_eq_true,if_false,if_true,Option.map_some]
 have h:((x.toNat:Int)*y.toNat) % 65536=((x*y).toNat:Int):=by
  rw [BitVec.toNat_mul,Int.natCast_emod,Int.natCast_mul];rfl
 rw [IntKind.wrap_u16,h]
theorem zjK (P:Program) (t:TypeId) (x y:BitVec 16):zi P .and t (.p (yd x)) (.p (yd y))=some (.p (yd (x &&& y))):=by
 simp only [zi,yd,zB,zh,yc,Bool.false_eq_true,if_false,if_true,Option.map_some]
 have h:IntKind.u16.wrap (((x &&& y).toNat:Nat):Int)=(((x &&& y).toNat:Nat):Int):=by
  rw [IntKind.wrap_u16];have:=(x &&& y).isLt;simp only [Nat.reducePow] at this;omega
 have h1:BitVec.ofInt IntKind.u16.bits (x.toNat:Int)=x:=zE x
 have h2:BitVec.ofInt IntKind.u16.bits (y.toNat:Int)=y:=zE y
 rw [h1,h2]
 exact congrArg (fun n=>some (AV.p (PV.s (Value.int IntKind.u16 n)))) h
theorem zm7 (P:Program) (t:TypeId) (x y:BitVec 16):zi P .or t (.p (yd x)) (.p (yd y))=some (.p (yd (x ||| y))):=by
 simp only [zi,yd,zB,zh,yc,Bool.false_eq_true,if_false,if_true,Option.map_some]
 have h:IntKind.u16.wrap (((x ||| y).toNat:Nat):Int)=(((x ||| y).toNat:Nat):Int):=by
  rw [IntKind.wrap_u16];have:=(x ||| y).isLt;simp only [Nat.reducePow] at this;omega
 have h1:BitVec.ofInt IntKind.u16.bits (x.toNat:Int)=x:=zE x
 have h2:BitVec.ofInt IntKind.u16.bits (y.toNat:Int)=y:=zE y
 rw [h1,h2]
 exact congrArg (fun n=>some (AV.p (PV.s (Value.int IntKind.u16 n)))) h
theorem zjL (P:Program) (t:TypeId) (x y:BitVec 16):zi P .xor t (.p (yd x)) (.p (yd y))=some (.p (yd (x ^^^ y))):=by
 simp only [zi,yd,zB,zh,yc,Bool.false_eq_true,if_false,if_true,Option.map_some]
 have h:IntKind.u16.wrap (((x ^^^ y).toNat:Nat):Int)=(((x ^^^ y).toNat:Nat):Int):=by
  rw [IntKind.wrap_u16];have:=(x ^^^ y).isLt;simp only [Nat.reducePow] at this;omega
 have h1:BitVec.ofInt IntKind.u16.bits (x.toNat:Int)=x:=zE x
 have h2:BitVec.ofInt IntKind.u16.bits (y.toNat:Int)=y:=zE y
 rw [h1,h2]
 exact congrArg (fun n=>some (AV.p (PV.s (Value.int IntKind.u16 n)))) h
theorem zfK (P:Program) (t:TypeId) (x y:BitVec 16):zi P .andNot t (.p (yd x)) (.p (yd y))=some (.p (yd (x &&& ~~~y))):=by
 simp only [zi,yd,zB,zh,yc,Bool.false_eq_true,if_false,if_true,Option.map_some]
 have h:IntKind.u16.wrap (((x &&& ~~~y).toNat:Nat):Int)=(((x &&& ~~~y).toNat:Nat):Int):=by
  rw [IntKind.wrap_u16];have:=(x &&& ~~~y).isLt;simp only [Nat.reducePow] at this;omega
 have h1:BitVec.ofInt IntKind.u16.bits (x.toNat:Int)=x:=zE x
 have h2:BitVec.ofInt IntKind.u16.bits (y.toNat:Int)=y:=zE y
 rw [h1,h2]
 exact congrArg (fun n=>some (AV.p (PV.s (Value.int IntKind.u16 n)))) h
theorem zjM (P:Program) (t:TypeId) (x y:BitVec 16):zi P .eql t (.p (yd x)) (.p (yd y))=some (.p (bo (x == y))):=by
 simp only [zi,yd,zB,zh,yc,Bool.false_eq_true,if_false,if_true,Option.map_some]
 have h:((x.toNat:Int) == (y.toNat:Int))=(x == y):=by
  rw [Bool.eq_iff_iff];simp only [beq_iff_eq,Int.ofNat_inj];exact BitVec.toNat_inj
 simp only [bo,bne,h]
theorem zjN (P:Program) (t:TypeId) (x y:BitVec 16):zi P .neq t (.p (yd x)) (.p (yd y))=some (.p (bo (x != y))):=by
 simp only [zi,yd,zB,zh,yc,Bool.false_eq_true,if_false,if_true,Option.map_some]
 have h:((x.toNat:Int) == (y.toNat:Int))=(x == y):=by
  rw [Bool.eq_iff_iff];simp only [beq_iff_eq,Int.ofNat_inj];exact BitVec.toNat_inj
 simp only [bo,bne,h]
theorem zjO (P:Program) (t:TypeId) (x y:BitVec 16):zi P .lss t (.p (yd x)) (.p (yd y))=some (.p (bo (decide (x < y)))):=by
 simp only [zi,yd,zB,zh,yc,Bool.false_eq_true,if_false,if_true,Option.map_some]
 simp only [bo,BitVec.lt_def,BitVec.le_def,gt_iff_lt,ge_iff_le,Int.ofNat_lt,Int.ofNat_le]
theorem zjP (P:Program) (t:TypeId) (x y:BitVec 16):zi P .leq t (.p (yd x)) (.p (yd y))=some (.p (bo (decide (x≤y)))):=by
 simp only [zi,yd,zB,zh,yc,Bool.false_eq_true,if_false,if_true,Option.map_some]
 simp only [bo,BitVec.lt_def,BitVec.le_def,gt_iff_lt,ge_iff_le,Int.ofNat_lt,Int.ofNat_le]
theorem zjQ (P:Program) (t:TypeId) (x y:BitVec 16):zi P .gtr t (.p (yd x)) (.p (yd y))=some (.p (bo (decide (y < x)))):=by
 simp only [zi,yd,zB,zh,yc,Bool.false_eq_true,if_false,if_true,Option.map_some]
 simp only [bo,BitVec.lt_def,BitVec.le_def,gt_iff_lt,ge_iff_le,Int.ofNat_lt,Int.ofNat_le]
theorem zjR (P:Program) (t:TypeId) (x y:BitVec 16):zi P .geq t (.p (yd x)) (.p (yd y))=some (.p (bo (decide (y≤x)))):=by
 simp only [zi,yd,zB,zh,yc,Bool.false_eq_true,if_false,if_true,Option.map_some]
 simp only [bo,BitVec.lt_def,BitVec.le_def,gt_iff_lt,ge_iff_le,Int.ofNat_lt,Int.ofNat_le]
theorem zjS (P:Program) (t:TypeId) (x y:BitVec 16) (hy:y≠0#16):zi P .quo t (.p (yd x)) (.p (yd y))=some (.p (yd (x / y))):=by
 simp only [zi,yd,zB,zh,yc,Bool.false_eq_true,if_false,if_true,Option.map_some]
 have hn : ¬ ((y.toNat:Int)=0):=fun h=>hy (BitVec.eq_of_toNat_eq (by simpa using h))
 rw [if_neg hn]
 have h:IntKind.u16.wrap ((x.toNat:Int).tdiv y.toNat)=((x / y).toNat:Int):=by
  rw [IntKind.wrap_u16,Int.tdiv_eq_ediv_of_nonneg (by omega),BitVec.toNat_udiv]
  have h1:x.toNat / y.toNat≤x.toNat:=Nat.div_le_self _ _
  have h2:=x.isLt
  simp only [Nat.reducePow] at h2
  rw [←Int.natCast_ediv]
  generalize x.toNat / y.toNat=q at *
  omega
 rw [h,Option.map_some]
theorem zjT (P:Program) (t:TypeId) (x y:BitVec 16) (hy:y≠0#16):zi P .rem t (.p (yd x)) (.p (yd y))=some (.p (yd (x % y))):=by
 simp only [zi,yd,zB,zh,yc,Bool.false_eq_true,if_false,if_true,Option.map_some]
 have hn : ¬ ((y.toNat:Int)=0):=fun h=>hy (BitVec.eq_of_toNat_eq (by simpa using h))
 rw [if_neg hn]
 have h:((x.toNat:Int).tmod y.toNat)=((x % y).toNat:Int):=by
  rw [Int.tmod_eq_emod_of_nonneg (by omega),BitVec.toNat_umod,Int.natCast_emod]
 rw [h,Option.map_some]
theorem zeC (P:Program) (t:TypeId) (x:BitVec 16) (n:Int) (hn:0≤n):zi P .shl t (.p (yd x)) (.p (i64 n))=some (.p (yd (x <<< n.toNat))):=by
 simp only [zi,yd,i64,zB,zh,zS,if_true]
 rw [if_neg (by omega)]
 simp only [Option.map_some]
 have:=yR x n.toNat
 rw [IntKind.wrap_u16]
 exact congrArg (fun n=>some (AV.p (PV.s (Value.int IntKind.u16 n)))) this
theorem zeD (P:Program) (t:TypeId) (x:BitVec 16) (n:Int) (hn:0≤n):zi P .shr t (.p (yd x)) (.p (i64 n))=some (.p (yd (x >>> n.toNat))):=by
 simp only [zi,yd,i64,zB,zh,zS,if_true]
 rw [if_neg (by omega)]
 simp only [Option.map_some]
 have:=yS x n.toNat
 exact congrArg (fun n=>some (AV.p (PV.s (Value.int IntKind.u16 n)))) this
theorem zfL (P:Program) (t:TypeId) (x:BitVec 16) (y:BitVec 8):zi P .shl t (.p (yd x)) (.p (b8 y))=some (.p (yd (x <<< y.toNat))):=by
 simp only [zi,yd,b8,zB,zh,zS,if_true]
 rw [if_neg (by omega)]
 simp only [Option.map_some]
 rw [Int.toNat_natCast]
 have:=yR x y.toNat
 rw [IntKind.wrap_u16]
 exact congrArg (fun n=>some (AV.p (PV.s (Value.int IntKind.u16 n)))) this
theorem zfM (P:Program) (t:TypeId) (x:BitVec 16) (y:BitVec 8):zi P .shr t (.p (yd x)) (.p (b8 y))=some (.p (yd (x >>> y.toNat))):=by
 simp only [zi,yd,b8,zB,zh,zS,if_true]
 rw [if_neg (by omega)]
 simp only [Option.map_some]
 rw [Int.toNat_natCast]
 have:=yS x y.toNat
 exact congrArg (fun n=>some (AV.p (PV.s (Value.int IntKind.u16 n)))) this
theorem zeE (P:Program) (t:TypeId) (x:BitVec 16) (y:BitVec 16):zi P .shl t (.p (yd x)) (.p (yd y))=some (.p (yd (x <<< y.toNat))):=by
 simp only [zi,yd,yd,zB,zh,zS,if_true]
 rw [if_neg (by omega)]
 simp only [Option.map_some]
 rw [Int.toNat_natCast]
 have:=yR x y.toNat
 rw [IntKind.wrap_u16]
 exact congrArg (fun n=>some (AV.p (PV.s (Value.int IntKind.u16 n)))) this
theorem zeF (P:Program) (t:TypeId) (x:BitVec 16) (y:BitVec 16):zi P .shr t (.p (yd x)) (.p (yd y))=some (.p (yd (x >>> y.toNat))):=by
 simp only [zi,yd,yd,zB,zh,zS,if_true]
 rw [if_neg (by omega)]
 simp only [Option.map_some]
 rw [Int.toNat_natCast]
 have:=yS x y.toNat
 exact congrArg (fun n=>some (AV.p (PV.s (Value.int IntKind.u16 n)))) this
theorem zeG (P:Program) (t:TypeId) (x:BitVec 16) (y:BitVec 32):zi P .shl t (.p (yd x)) (.p (zC y))=some (.p (yd (x <<< y.toNat))):=by
 simp only [zi,yd,zC,zB,zh,zS,if_true]
 rw [if_neg (by omega)]
 simp only [Option.map_some]
 rw [Int.toNat_natCast]
 have:=yR x y.toNat
 rw [IntKind.wrap_u16]
 exact congrArg (fun n=>some (AV.p (PV.s (Value.int IntKind.u16 n)))) this
theorem zeH (P:Program) (t:TypeId) (x:BitVec 16) (y:BitVec 32):zi P .shr t (.p (yd x)) (.p (zC y))=some (.p (yd (x >>> y.toNat))):=by
 simp only [zi,yd,zC,zB,zh,zS,if_true]
 rw [if_neg (by omega)]
 simp only [Option.map_some]
 rw [Int.toNat_natCast]
 have:=yS x y.toNat
 exact congrArg (fun n=>some (AV.p (PV.s (Value.int IntKind.u16 n)))) this
theorem zeI (P:Program) (t:TypeId) (x:BitVec 16) (y:BitVec 64):zi P .shl t (.p (yd x)) (.p (zw y))=some (.p (yd (x <<< y.toNat))):=by
 simp only [zi,yd,zw,zB,zh,zS,if_true]
 rw [if_neg (by omega)]
 simp only [Option.map_some]
 rw [Int.toNat_natCast]
 have:=yR x y.toNat
 rw [IntKind.wrap_u16]
 exact congrArg (fun n=>some (AV.p (PV.s (Value.int IntKind.u16 n)))) this
theorem zeJ (P:Program) (t:TypeId) (x:BitVec 16) (y:BitVec 64):zi P .shr t (.p (yd x)) (.p (zw y))=some (.p (yd (x >>> y.toNat))):=by
 simp only [zi,yd,zw,zB,zh,zS,if_true]
 rw [if_neg (by omega)]
 simp only [Option.map_some]
 rw [Int.toNat_natCast]
 have:=yS x y.toNat
 exact congrArg (fun n=>some (AV.p (PV.s (Value.int IntKind.u16 n)))) this
theorem zm8 (x:BitVec 16):aUn .xor (.p (yd x))=some (.p (yd (~~~x))):=by
 have h1:BitVec.ofInt IntKind.u16.bits (x.toNat:Int)=x:=zE x
 have h2:BitVec.ofInt IntKind.u16.bits (if IntKind.u16.signed then -1 else IntKind.u16.max)=BitVec.allOnes 16:=by rfl
 simp only [aUn,yd,vUn,Option.map_some,h1,h2]
 have h:IntKind.u16.wrap (((BitVec.allOnes 16 ^^^ x).toNat:Nat):Int)=((~~~x).toNat:Int):=by
  rw [BitVec.allOnes_xor]
  rw [IntKind.wrap_u16];have:=(~~~x).isLt;simp only [Nat.reducePow] at this;omega
 exact congrArg (fun n=>some (AV.p (PV.s (Value.int IntKind.u16 n)))) h
theorem zm9 (x:BitVec 16):aUn .neg (.p (yd x))=some (.p (yd (-x))):=by
 simp only [aUn,yd,vUn,Option.map_some]
 have h:IntKind.u16.wrap (0 - (x.toNat:Int))=((-x).toNat:Int):=by
  rw [IntKind.wrap_u16,BitVec.toNat_neg];have:=x.isLt;simp only [Nat.reducePow] at *;omega
 rw [h]
theorem zjU (P:Program) (t:TypeId) (x y:BitVec 32):zi P .add t (.p (zC x)) (.p (zC y))=some (.p (zC (x+y))):=by
 simp only [zi,zC,zB,zh,yc,Bool.false_eq_true,if_false,if_true,Option.map_some]
 have h:((x.toNat:Int)+y.toNat) % 4294967296=((x+y).toNat:Int):=by
  rw [BitVec.toNat_add];simp only [Nat.reducePow];omega
 rw [IntKind.wrap_u32',h]
theorem zjV (P:Program) (t:TypeId) (x y:BitVec 32):zi P .sub t (.p (zC x)) (.p (zC y))=some (.p (zC (x - y))):=by
 simp only [zi,zC,zB,zh,yc,Bool.false_eq_true,if_false,if_true,Option.map_some]
 have h:((x.toNat:Int) - y.toNat) % 4294967296=((x - y).toNat:Int):=by
  rw [BitVec.toNat_sub];have:=x.isLt;have:=y.isLt;simp only [Nat.reducePow] at *;omega
 rw [IntKind.wrap_u32',h]
theorem zjW (P:Program) (t:TypeId) (x y:BitVec 32):zi P .mul t (.p (zC x)) (.p (zC y))=some (.p (zC (x*y))):=by
 simp only [zi,zC,zB,zh,yc,Bool.false_eq_true,if_false,if_true,Option.map_some]
 have h:((x.toNat:Int)*y.toNat) % 4294967296=((x*y).toNat:Int):=by
  rw [BitVec.toNat_mul,Int.natCast_emod,Int.natCast_mul];rfl
 rw [IntKind.wrap_u32',h]
theorem zjX (P:Program) (t:TypeId) (x y:BitVec 32):zi P .and t (.p (zC x)) (.p (zC y))=some (.p (zC (x &&& y))):=by
 simp only [zi,zC,zB,zh,yc,Bool.false_eq_true,if_false,if_true,Option.map_some]
 have h:IntKind.u32.wrap (((x &&& y).toNat:Nat):Int)=(((x &&& y).toNat:Nat):Int):=by
  rw [IntKind.wrap_u32'];have:=(x &&& y).isLt;simp only [Nat.reducePow] at this;omega
 have h1:BitVec.ofInt IntKind.u32.bits (x.toNat:Int)=x:=zE x
 have h2:BitVec.ofInt IntKind.u32.bits (y.toNat:Int)=y:=zE y
 rw [h1,h2]
 exact congrArg (fun n=>some (AV.p (PV.s (Value.int IntKind.u32 n)))) h
theorem zna (P:Program) (t:TypeId) (x y:BitVec 32):zi P .or t (.p (zC x)) (.p (zC y))=some (.p (zC (x ||| y))):=by
 simp only [zi,zC,zB,zh,yc,Bool.false_eq_true,if_false,if_true,Option.map_some]
 have h:IntKind.u32.wrap (((x ||| y).toNat:Nat):Int)=(((x ||| y).toNat:Nat):Int):=by
  rw [IntKind.wrap_u32'];have:=(x ||| y).isLt;simp only [Nat.reducePow] at this;omega
 have h1:BitVec.ofInt IntKind.u32.bits (x.toNat:Int)=x:=zE x
 have h2:BitVec.ofInt IntKind.u32.bits (y.toNat:Int)=y:=zE y
 rw [h1,h2]
 exact congrArg (fun n=>some (AV.p (PV.s (Value.int IntKind.u32 n)))) h
theorem zjY (P:Program) (t:TypeId) (x y:BitVec 32):zi P .xor t (.p (zC x)) (.p (zC y))=some (.p (zC (x ^^^ y))):=by
 simp only [zi,zC,zB,zh,yc,Bool.false_eq_true,if_false,if_true,Option.map_some]
 have h:IntKind.u32.wrap (((x ^^^ y).toNat:Nat):Int)=(((x ^^^ y).toNat:Nat):Int):=by
  rw [IntKind.wrap_u32'];have:=(x ^^^ y).isLt;simp only [Nat.reducePow] at this;omega
 have h1:BitVec.ofInt IntKind.u32.bits (x.toNat:Int)=x:=zE x
 have h2:BitVec.ofInt IntKind.u32.bits (y.toNat:Int)=y:=zE y
 rw [h1,h2]
 exact congrArg (fun n=>some (AV.p (PV.s (Value.int IntKind.u32 n)))) h
theorem zfN (P:Program) (t:TypeId) (x y:BitVec 32):zi P .andNot t (.p (zC x)) (.p (zC y))=some (.p (zC (x &&& ~~~y))):=by
 simp only [zi,zC,zB,zh,yc,Bool.false_eq_true,if_false,if_true,Option.map_some]
 have h:IntKind.u32.wrap (((x &&& ~~~y).toNat:Nat):Int)=(((x &&& ~~~y).toNat:Nat):Int):=by
  rw [IntKind.wrap_u32'];have:=(x &&& ~~~y).isLt;simp only [Nat.reducePow] at this;omega
 have h1:BitVec.ofInt IntKind.u32.bits (x.toNat:Int)=x:=zE x
 have h2:BitVec.ofInt IntKind.u32.bits (y.toNat:Int)=y:=zE y
 rw [h1,h2]
 exact congrArg (fun n=>some (AV.p (PV.s (Value.int IntKind.u32 n)))) h
theorem zjZ (P:Program) (t:TypeId) (x y:BitVec 32):zi P .eql t (.p (zC x)) (.p (zC y))=some (.p (bo (x == y))):=by
 simp only [zi,zC,zB,zh,yc,Bool.false_eq_true,if_false,if_true,Option.map_some]
 have h:((x.toNat:Int) == (y.toNat:Int))=(x == y):=by
  rw [Bool.eq_iff_iff];simp only [beq_iff_eq,Int.ofNat_inj];exact BitVec.toNat_inj
 simp only [bo,bne,h]
theorem zj0 (P:Program) (t:TypeId) (x y:BitVec 32):zi P .neq t (.p (zC x)) (.p (zC y))=some (.p (bo (x != y))):=by
 simp only [zi,zC,zB,zh,yc,Bool.false_eq_true,if_false,if_true,Option.map_some]
 have h:((x.toNat:Int) == (y.toNat:Int))=(x == y):=by
  rw [Bool.eq_iff_iff];simp only [beq_iff_eq,Int.ofNat_inj];exact BitVec.toNat_inj
 simp only [bo,bne,h]
theorem zj1 (P:Program) (t:TypeId) (x y:BitVec 32):zi P .lss t (.p (zC x)) (.p (zC y))=some (.p (bo (decide (x < y)))):=by
 simp only [zi,zC,zB,zh,yc,Bool.false_eq_true,if_false,if_true,Option.map_some]
 simp only [bo,BitVec.lt_def,BitVec.le_def,gt_iff_lt,ge_iff_le,Int.ofNat_lt,Int.ofNat_le]
theorem zj2 (P:Program) (t:TypeId) (x y:BitVec 32):zi P .leq t (.p (zC x)) (.p (zC y))=some (.p (bo (decide (x≤y)))):=by
 simp only [zi,zC,zB,zh,yc,Bool.false_eq_true,if_false,if_true,Option.map_some]
 simp only [bo,BitVec.lt_def,BitVec.le_def,gt_iff_lt,ge_iff_le,Int.ofNat_lt,Int.ofNat_le]
theorem zj3 (P:Program) (t:TypeId) (x y:BitVec 32):zi P .gtr t (.p (zC x)) (.p (zC y))=some (.p (bo (decide (y < x)))):=by
 simp only [zi,zC,zB,zh,yc,Bool.false_eq_true,if_false,if_true,Option.map_some]
 simp only [bo,BitVec.lt_def,BitVec.le_def,gt_iff_lt,ge_iff_le,Int.ofNat_lt,Int.ofNat_le]
theorem zj4 (P:Program) (t:TypeId) (x y:BitVec 32):zi P .geq t (.p (zC x)) (.p (zC y))=some (.p (bo (decide (y≤x)))):=by
 simp only [zi,zC,zB,zh,yc,Bool.false_eq_true,if_false,if_true,Option.map_some]
 simp only [bo,BitVec.lt_def,BitVec.le_def,gt_iff_lt,ge_iff_le,Int.ofNat_lt,Int.ofNat_le]
theorem zj5 (P:Program) (t:TypeId) (x y:BitVec 32) (hy:y≠0#32):zi P .quo t (.p (zC x)) (.p (zC y))=some (.p (zC (x / y))):=by
 simp only [zi,zC,zB,zh,yc,Bool.false_eq_true,if_false,if_true,Option.map_some]
 have hn : ¬ ((y.toNat:Int)=0):=fun h=>hy (BitVec.eq_of_toNat_eq (by simpa using h))
 rw [if_neg hn]
 have h:IntKind.u32.wrap ((x.toNat:Int).tdiv y.toNat)=((x / y).toNat:Int):=by
  rw [IntKind.wrap_u32',Int.tdiv_eq_ediv_of_nonneg (by omega),BitVec.toNat_udiv]
  have h1:x.toNat / y.toNat≤x.toNat:=Nat.div_le_self _ _
  have h2:=x.isLt
  simp only [Nat.reducePow] at h2
  rw [←Int.natCast_ediv]
  generalize x.toNat / y.toNat=q at *
  omega
 rw [h,Option.map_some]
theorem zj6 (P:Program) (t:TypeId) (x y:BitVec 32) (hy:y≠0#32):zi P .rem t (.p (zC x)) (.p (zC y))=some (.p (zC (x % y))):=by
 simp only [zi,zC,zB,zh,yc,Bool.false_eq_true,if_false,if_true,Option.map_some]
 have hn : ¬ ((y.toNat:Int)=0):=fun h=>hy (BitVec.eq_of_toNat_eq (by simpa using h))
 rw [if_neg hn]
 have h:((x.toNat:Int).tmod y.toNat)=((x % y).toNat:Int):=by
  rw [Int.tmod_eq_emod_of_nonneg (by omega),BitVec.toNat_umod,Int.natCast_emod]
 rw [h,Option.map_some]
theorem zeK (P:Program) (t:TypeId) (x:BitVec 32) (n:Int) (hn:0≤n):zi P .shl t (.p (zC x)) (.p (i64 n))=some (.p (zC (x <<< n.toNat))):=by
 simp only [zi,zC,i64,zB,zh,zS,if_true]
 rw [if_neg (by omega)]
 simp only [Option.map_some]
 have:=yR x n.toNat
 rw [IntKind.wrap_u32']
 exact congrArg (fun n=>some (AV.p (PV.s (Value.int IntKind.u32 n)))) this
theorem zeL (P:Program) (t:TypeId) (x:BitVec 32) (n:Int) (hn:0≤n):zi P .shr t (.p (zC x)) (.p (i64 n))=some (.p (zC (x >>> n.toNat))):=by
 simp only [zi,zC,i64,zB,zh,zS,if_true]
 rw [if_neg (by omega)]
 simp only [Option.map_some]
 have:=yS x n.toNat
 exact congrArg (fun n=>some (AV.p (PV.s (Value.int IntKind.u32 n)))) this
theorem zfO (P:Program) (t:TypeId) (x:BitVec 32) (y:BitVec 8):zi P .shl t (.p (zC x)) (.p (b8 y))=some (.p (zC (x <<< y.toNat))):=by
 simp only [zi,zC,b8,zB,zh,zS,if_true]
 rw [if_neg (by omega)]
 simp only [Option.map_some]
 rw [Int.toNat_natCast]
 have:=yR x y.toNat
 rw [IntKind.wrap_u32']
 exact congrArg (fun n=>some (AV.p (PV.s (Value.int IntKind.u32 n)))) this
theorem zfP (P:Program) (t:TypeId) (x:BitVec 32) (y:BitVec 8):zi P .shr t (.p (zC x)) (.p (b8 y))=some (.p (zC (x >>> y.toNat))):=by
 simp only [zi,zC,b8,zB,zh,zS,if_true]
 rw [if_neg (by omega)]
 simp only [Option.map_some]
 rw [Int.toNat_natCast]
 have:=yS x y.toNat
 exact congrArg (fun n=>some (AV.p (PV.s (Value.int IntKind.u32 n)))) this
theorem zeM (P:Program) (t:TypeId) (x:BitVec 32) (y:BitVec 16):zi P .shl t (.p (zC x)) (.p (yd y))=some (.p (zC (x <<< y.toNat))):=by
 simp only [zi,zC,yd,zB,zh,zS,if_true]
 rw [if_neg (by omega)]
 simp only [Option.map_some]
 rw [Int.toNat_natCast]
 have:=yR x y.toNat
 rw [IntKind.wrap_u32']
 exact congrArg (fun n=>some (AV.p (PV.s (Value.int IntKind.u32 n)))) this
theorem zeN (P:Program) (t:TypeId) (x:BitVec 32) (y:BitVec 16):zi P .shr t (.p (zC x)) (.p (yd y))=some (.p (zC (x >>> y.toNat))):=by
 simp only [zi,zC,yd,zB,zh,zS,if_true]
 rw [if_neg (by omega)]
 simp only [Option.map_some]
 rw [Int.toNat_natCast]
 have:=yS x y.toNat
 exact congrArg (fun n=>some (AV.p (PV.s (Value.int IntKind.u32 n)))) this
theorem zeO (P:Program) (t:TypeId) (x:BitVec 32) (y:BitVec 32):zi P .shl t (.p (zC x)) (.p (zC y))=some (.p (zC (x <<< y.toNat))):=by
 simp only [zi,zC,zC,zB,zh,zS,if_true]
 rw [if_neg (by omega)]
 simp only [Option.map_some]
 rw [Int.toNat_natCast]
 have:=yR x y.toNat
 rw [IntKind.wrap_u32']
 exact congrArg (fun n=>some (AV.p (PV.s (Value.int IntKind.u32 n)))) this
theorem zeP (P:Program) (t:TypeId) (x:BitVec 32) (y:BitVec 32):zi P .shr t (.p (zC x)) (.p (zC y))=some (.p (zC (x >>> y.toNat))):=by
 simp only [zi,zC,zC,zB,zh,zS,if_true]
 rw [if_neg (by omega)]
 simp only [Option.map_some]
 rw [Int.toNat_natCast]
 have:=yS x y.toNat
 exact congrArg (fun n=>some (AV.p (PV.s (Value.int IntKind.u32 n)))) this
theorem zeQ (P:Program) (t:TypeId) (x:BitVec 32) (y:BitVec 64):zi P .shl t (.p (zC x)) (.p (zw y))=some (.p (zC (x <<< y.toNat))):=by
 simp only [zi,zC,zw,zB,zh,zS,if_true]
 rw [if_neg (by omega)]
 simp only [Option.map_some]
 rw [Int.toNat_natCast]
 have:=yR x y.toNat
 rw [IntKind.wrap_u32']
 exact congrArg (fun n=>some (AV.p (PV.s (Value.int IntKind.u32 n)))) this
theorem zeR (P:Program) (t:TypeId) (x:BitVec 32) (y:BitVec 64):zi P .shr t (.p (zC x)) (.p (zw y))=some (.p (zC (x >>> y.toNat))):=by
 simp only [zi,zC,zw,zB,zh,zS,if_true]
 rw [if_neg (by omega)]
 simp only [Option.map_some]
 rw [Int.toNat_natCast]
 have:=yS x y.toNat
 exact congrArg (fun n=>some (AV.p (PV.s (Value.int IntKind.u32 n)))) this
theorem znb (x:BitVec 32):aUn .xor (.p (zC x))=some (.p (zC (~~~x))):=by
 have h1:BitVec.ofInt IntKind.u32.bits (x.toNat:Int)=x:=zE x
 have h2:BitVec.ofInt IntKind.u32.bits (if IntKind.u32.signed then -1 else IntKind.u32.max)=BitVec.allOnes 32:=by rfl
 simp only [aUn,zC,vUn,Option.map_some,h1,h2]
 have h:IntKind.u32.wrap (((BitVec.allOnes 32 ^^^ x).toNat:Nat):Int)=((~~~x).toNat:Int):=by
  rw [BitVec.allOnes_xor]
  rw [IntKind.wrap_u32'];have:=(~~~x).isLt;simp only [Nat.reducePow] at this;omega
 exact congrArg (fun n=>some (AV.p (PV.s (Value.int IntKind.u32 n)))) h
theorem znc (x:BitVec 32):aUn .neg (.p (zC x))=some (.p (zC (-x))):=by
 simp only [aUn,zC,vUn,Option.map_some]
 have h:IntKind.u32.wrap (0 - (x.toNat:Int))=((-x).toNat:Int):=by
  rw [IntKind.wrap_u32',BitVec.toNat_neg];have:=x.isLt;simp only [Nat.reducePow] at *;omega
 rw [h]
theorem zj7 (P:Program) (t:TypeId) (x y:BitVec 64):zi P .add t (.p (zw x)) (.p (zw y))=some (.p (zw (x+y))):=by
 simp only [zi,zw,zB,zh,yc,Bool.false_eq_true,if_false,if_true,Option.map_some]
 have h:((x.toNat:Int)+y.toNat) % 18446744073709551616=((x+y).toNat:Int):=by
  rw [BitVec.toNat_add];simp only [Nat.reducePow];omega
 rw [IntKind.wrap_u64,h]
theorem zj8 (P:Program) (t:TypeId) (x y:BitVec 64):zi P .sub t (.p (zw x)) (.p (zw y))=some (.p (zw (x - y))):=by
 simp only [zi,zw,zB,zh,yc,Bool.false_eq_true,if_false,if_true,Option.map_some]
 have h:((x.toNat:Int) - y.toNat) % 18446744073709551616=((x - y).toNat:Int):=by
  rw [BitVec.toNat_sub];have:=x.isLt;have:=y.isLt;simp only [Nat.reducePow] at *;omega
 rw [IntKind.wrap_u64,h]
theorem zj9 (P:Program) (t:TypeId) (x y:BitVec 64):zi P .mul t (.p (zw x)) (.p (zw y))=some (.p (zw (x*y))):=by
 simp only [zi,zw,zB,zh,yc,Bool.false_eq_true,if_false,if_true,Option.map_some]
 have h:((x.toNat:Int)*y.toNat) % 18446744073709551616=((x*y).toNat:Int):=by
  rw [BitVec.toNat_mul,Int.natCast_emod,Int.natCast_mul];rfl
 rw [IntKind.wrap_u64,h]
theorem zka (P:Program) (t:TypeId) (x y:BitVec 64):zi P .and t (.p (zw x)) (.p (zw y))=some (.p (zw (x &&& y))):=by
 simp only [zi,zw,zB,zh,yc,Bool.false_eq_true,if_false,if_true,Option.map_some]
 have h:IntKind.u64.wrap (((x &&& y).toNat:Nat):Int)=(((x &&& y).toNat:Nat):Int):=by
  rw [IntKind.wrap_u64];have:=(x &&& y).isLt;simp only [Nat.reducePow] at this;omega
 have h1:BitVec.ofInt IntKind.u64.bits (x.toNat:Int)=x:=zE x
 have h2:BitVec.ofInt IntKind.u64.bits (y.toNat:Int)=y:=zE y
 rw [h1,h2]
 exact congrArg (fun n=>some (AV.p (PV.s (Value.int IntKind.u64 n)))) h
theorem znd (P:Program) (t:TypeId) (x y:BitVec 64):zi P .or t (.p (zw x)) (.p (zw y))=some (.p (zw (x ||| y))):=by
 simp only [zi,zw,zB,zh,yc,Bool.false_eq_true,if_false,if_true,Option.map_some]
 have h:IntKind.u64.wrap (((x ||| y).toNat:Nat):Int)=(((x ||| y).toNat:Nat):Int):=by
  rw [IntKind.wrap_u64];have:=(x ||| y).isLt;simp only [Nat.reducePow] at this;omega
 have h1:BitVec.ofInt IntKind.u64.bits (x.toNat:Int)=x:=zE x
 have h2:BitVec.ofInt IntKind.u64.bits (y.toNat:Int)=y:=zE y
 rw [h1,h2]
 exact congrArg (fun n=>some (AV.p (PV.s (Value.int IntKind.u64 n)))) h
theorem zkb (P:Program) (t:TypeId) (x y:BitVec 64):zi P .xor t (.p (zw x)) (.p (zw y))=some (.p (zw (x ^^^ y))):=by
 simp only [zi,zw,zB,zh,yc,Bool.false_eq_true,if_false,if_true,Option.map_some]
 have h:IntKind.u64.wrap (((x ^^^ y).toNat:Nat):Int)=(((x ^^^ y).toNat:Nat):Int):=by
  rw [IntKind.wrap_u64];have:=(x ^^^ y).isLt;simp only [Nat.reducePow] at this;omega
 have h1:BitVec.ofInt IntKind.u64.bits (x.toNat:Int)=x:=zE x
 have h2:BitVec.ofInt IntKind.u64.bits (y.toNat:Int)=y:=zE y
 rw [h1,h2]
 exact congrArg (fun n=>some (AV.p (PV.s (Value.int IntKind.u64 n)))) h
theorem zfQ (P:Program) (t:TypeId) (x y:BitVec 64):zi P .andNot t (.p (zw x)) (.p (zw y))=some (.p (zw (x &&& ~~~y))):=by
 simp only [zi,zw,zB,zh,yc,Bool.false_eq_true,if_false,if_true,Option.map_some]
 have h:IntKind.u64.wrap (((x &&& ~~~y).toNat:Nat):Int)=(((x &&& ~~~y).toNat:Nat):Int):=by
  rw [IntKind.wrap_u64];have:=(x &&& ~~~y).isLt;simp only [Nat.reducePow] at this;omega
 have h1:BitVec.ofInt IntKind.u64.bits (x.toNat:Int)=x:=zE x
 have h2:BitVec.ofInt IntKind.u64.bits (y.toNat:Int)=y:=zE y
 rw [h1,h2]
 exact congrArg (fun n=>some (AV.p (PV.s (Value.int IntKind.u64 n)))) h
theorem zkc (P:Program) (t:TypeId) (x y:BitVec 64):zi P .eql t (.p (zw x)) (.p (zw y))=some (.p (bo (x == y))):=by
 simp only [zi,zw,zB,zh,yc,Bool.false_eq_true,if_false,if_true,Option.map_some]
 have h:((x.toNat:Int) == (y.toNat:Int))=(x == y):=by
  rw [Bool.eq_iff_iff];simp only [beq_iff_eq,Int.ofNat_inj];exact BitVec.toNat_inj
 simp only [bo,bne,h]
theorem zkd (P:Program) (t:TypeId) (x y:BitVec 64):zi P .neq t (.p (zw x)) (.p (zw y))=some (.p (bo (x != y))):=by
 simp only [zi,zw,zB,zh,yc,Bool.false_eq_true,if_false,if_true,Option.map_some]
 have h:((x.toNat:Int) == (y.toNat:Int))=(x == y):=by
  rw [Bool.eq_iff_iff];simp only [beq_iff_eq,Int.ofNat_inj];exact BitVec.toNat_inj
 simp only [bo,bne,h]
theorem zke (P:Program) (t:TypeId) (x y:BitVec 64):zi P .lss t (.p (zw x)) (.p (zw y))=some (.p (bo (decide (x < y)))):=by
 simp only [zi,zw,zB,zh,yc,Bool.false_eq_true,if_false,if_true,Option.map_some]
 simp only [bo,BitVec.lt_def,BitVec.le_def,gt_iff_lt,ge_iff_le,Int.ofNat_lt,Int.ofNat_le]
theorem zkf (P:Program) (t:TypeId) (x y:BitVec 64):zi P .leq t (.p (zw x)) (.p (zw y))=some (.p (bo (decide (x≤y)))):=by
 simp only [zi,zw,zB,zh,yc,Bool.false_eq_true,if_false,if_true,Option.map_some]
 simp only [bo,BitVec.lt_def,BitVec.le_def,gt_iff_lt,ge_iff_le,Int.ofNat_lt,Int.ofNat_le]
theorem zkg (P:Program) (t:TypeId) (x y:BitVec 64):zi P .gtr t (.p (zw x)) (.p (zw y))=some (.p (bo (decide (y < x)))):=by
 simp only [zi,zw,zB,zh,yc,Bool.false_eq_true,if_false,if_true,Option.map_some]
 simp only [bo,BitVec.lt_def,BitVec.le_def,gt_iff_lt,ge_iff_le,Int.ofNat_lt,Int.ofNat_le]
theorem zkh (P:Program) (t:TypeId) (x y:BitVec 64):zi P .geq t (.p (zw x)) (.p (zw y))=some (.p (bo (decide (y≤x)))):=by
 simp only [zi,zw,zB,zh,yc,Bool.false_eq_true,if_false,if_true,Option.map_some]
 simp only [bo,BitVec.lt_def,BitVec.le_def,gt_iff_lt,ge_iff_le,Int.ofNat_lt,Int.ofNat_le]
theorem zki (P:Program) (t:TypeId) (x y:BitVec 64) (hy:y≠0#64):zi P .quo t (.p (zw x)) (.p (zw y))=some (.p (zw (x / y))):=by
 simp only [zi,zw,zB,zh,yc,Bool.false_eq_true,if_false,if_true,Option.map_some]
 have hn : ¬ ((y.toNat:Int)=0):=fun h=>hy (BitVec.eq_of_toNat_eq (by simpa using h))
 rw [if_neg hn]
 have h:IntKind.u64.wrap ((x.toNat:Int).tdiv y.toNat)=((x / y).toNat:Int):=by
  rw [IntKind.wrap_u64,Int.tdiv_eq_ediv_of_nonneg (by omega),BitVec.toNat_udiv]
  have h1:x.toNat / y.toNat≤x.toNat:=Nat.div_le_self _ _
  have h2:=x.isLt
  simp only [Nat.reducePow] at h2
  rw [←Int.natCast_ediv]
  generalize x.toNat / y.toNat=q at *
  omega
 rw [h,Option.map_some]
theorem zkj (P:Program) (t:TypeId) (x y:BitVec 64) (hy:y≠0#64):zi P .rem t (.p (zw x)) (.p (zw y))=some (.p (zw (x % y))):=by
 simp only [zi,zw,zB,zh,yc,Bool.false_eq_true,if_false,if_true,Option.map_some]
 have hn : ¬ ((y.toNat:Int)=0):=fun h=>hy (BitVec.eq_of_toNat_eq (by simpa using h))
 rw [if_neg hn]
 have h:((x.toNat:Int).tmod y.toNat)=((x % y).toNat:Int):=by
  rw [Int.tmod_eq_emod_of_nonneg (by omega),BitVec.toNat_umod,Int.natCast_emod]
 rw [h,Option.map_some]
theorem zeS (P:Program) (t:TypeId) (x:BitVec 64) (n:Int) (hn:0≤n):zi P .shl t (.p (zw x)) (.p (i64 n))=some (.p (zw (x <<< n.toNat))):=by
 simp only [zi,zw,i64,zB,zh,zS,if_true]
 rw [if_neg (by omega)]
 simp only [Option.map_some]
 have:=yR x n.toNat
 rw [IntKind.wrap_u64]
 exact congrArg (fun n=>some (AV.p (PV.s (Value.int IntKind.u64 n)))) this
theorem zeT (P:Program) (t:TypeId) (x:BitVec 64) (n:Int) (hn:0≤n):zi P .shr t (.p (zw x)) (.p (i64 n))=some (.p (zw (x >>> n.toNat))):=by
 simp only [zi,zw,i64,zB,zh,zS,if_true]
 rw [if_neg (by omega)]
 simp only [Option.map_some]
 have:=yS x n.toNat
 exact congrArg (fun n=>some (AV.p (PV.s (Value.int IntKind.u64 n)))) this
theorem zfR (P:Program) (t:TypeId) (x:BitVec 64) (y:BitVec 8):zi P .shl t (.p (zw x)) (.p (b8 y))=some (.p (zw (x <<< y.toNat))):=by
 simp only [zi,zw,b8,zB,zh,zS,if_true]
 rw [if_neg (by omega)]
 simp only [Option.map_some]
 rw [Int.toNat_natCast]
 have:=yR x y.toNat
 rw [IntKind.wrap_u64]
 exact congrArg (fun n=>some (AV.p (PV.s (Value.int IntKind.u64 n)))) this
theorem zfS (P:Program) (t:TypeId) (x:BitVec 64) (y:BitVec 8):zi P .shr t (.p (zw x)) (.p (b8 y))=some (.p (zw (x >>> y.toNat))):=by
 simp only [zi,zw,b8,zB,zh,zS,if_true]
 rw [if_neg (by omega)]
 simp only [Option.map_some]
 rw [Int.toNat_natCast]
 have:=yS x y.toNat
 exact congrArg (fun n=>some (AV.p (PV.s (Value.int IntKind.u64 n)))) this
theorem zeU (P:Program) (t:TypeId) (x:BitVec 64) (y:BitVec 16):zi P .shl t (.p (zw x)) (.p (yd y))=some (.p (zw (x <<< y.toNat))):=by
 simp only [zi,zw,yd,zB,zh,zS,if_true]
 rw [if_neg (by omega)]
 simp only [Option.map_some]
 rw [Int.toNat_natCast]
 have:=yR x y.toNat
 rw [IntKind.wrap_u64]
 exact congrArg (fun n=>some (AV.p (PV.s (Value.int IntKind.u64 n)))) this
theorem zeV (P:Program) (t:TypeId) (x:BitVec 64) (y:BitVec 16):zi P .shr t (.p (zw x)) (.p (yd y))=some (.p (zw (x >>> y.toNat))):=by
 simp only [zi,zw,yd,zB,zh,zS,if_true]
 rw [if_neg (by omega)]
 simp only [Option.map_some]
 rw [Int.toNat_natCast]
 have:=yS x y.toNat
 exact congrArg (fun n=>some (AV.p (PV.s (Value.int IntKind.u64 n)))) this
theorem zeW (P:Program) (t:TypeId) (x:BitVec 64) (y:BitVec 32):zi P .shl t (.p (zw x)) (.p (zC y))=some (.p (zw (x <<< y.toNat))):=by
 simp only [zi,zw,zC,zB,zh,zS,if_true]
 rw [if_neg (by omega)]
 simp only [Option.map_some]
 rw [Int.toNat_natCast]
 have:=yR x y.toNat
 rw [IntKind.wrap_u64]
 exact congrArg (fun n=>some (AV.p (PV.s (Value.int IntKind.u64 n)))) this
theorem zeX (P:Program) (t:TypeId) (x:BitVec 64) (y:BitVec 32):zi P .shr t (.p (zw x)) (.p (zC y))=some (.p (zw (x >>> y.toNat))):=by
 simp only [zi,zw,zC,zB,zh,zS,if_true]
 rw [if_neg (by omega)]
 simp only [Option.map_some]
 rw [Int.toNat_natCast]
 have:=yS x y.toNat
 exact congrArg (fun n=>some (AV.p (PV.s (Value.int IntKind.u64 n)))) this
theorem zeY (P:Program) (t:TypeId) (x:BitVec 64) (y:BitVec 64):zi P .shl t (.p (zw x)) (.p (zw y))=some (.p (zw (x <<< y.toNat))):=by
 simp only [zi,zw,zw,zB,zh,zS,if_true]
 rw [if_neg (by omega)]
 simp only [Option.map_some]
 rw [Int.toNat_natCast]
 have:=yR x y.toNat
 rw [IntKind.wrap_u64]
 exact congrArg (fun n=>some (AV.p (PV.s (Value.int IntKind.u64 n)))) this
theorem zeZ (P:Program) (t:TypeId) (x:BitVec 64) (y:BitVec 64):zi P .shr t (.p (zw x)) (.p (zw y))=some (.p (zw (x >>> y.toNat))):=by
 simp only [zi,zw,zw,zB,zh,zS,if_true]
 rw [if_neg (by omega)]
 simp only [Option.map_some]
 rw [Int.toNat_natCast]
 have:=yS x y.toNat
 exact congrArg (fun n=>some (AV.p (PV.s (Value.int IntKind.u64 n)))) this
theorem zne (x:BitVec 64):aUn .xor (.p (zw x))=some (.p (zw (~~~x))):=by
 have h1:BitVec.ofInt IntKind.u64.bits (x.toNat:Int)=x:=zE x
 have h2:BitVec.ofInt IntKind.u64.bits (if IntKind.u64.signed then -1 else IntKind.u64.max)=BitVec.allOnes 64:=by rfl
 simp only [aUn,zw,vUn,Option.map_some,h1,h2]
 have h:IntKind.u64.wrap (((BitVec.allOnes 64 ^^^ x).toNat:Nat):Int)=((~~~x).toNat:Int):=by
  rw [BitVec.allOnes_xor]
  rw [IntKind.wrap_u64];have:=(~~~x).isLt;simp only [Nat.reducePow] at this;omega
 exact congrArg (fun n=>some (AV.p (PV.s (Value.int IntKind.u64 n)))) h
theorem znf (x:BitVec 64):aUn .neg (.p (zw x))=some (.p (zw (-x))):=by
 simp only [aUn,zw,vUn,Option.map_some]
 have h:IntKind.u64.wrap (0 - (x.toNat:Int))=((-x).toNat:Int):=by
  rw [IntKind.wrap_u64,BitVec.toNat_neg];have:=x.isLt;simp only [Nat.reducePow] at *;omega
 rw [h]
theorem zkk (P:Program) (t:TypeId) (x y:Int):zi P .add t (.p (i64 x)) (.p (i64 y))=some (.p (i64 (IntKind.i64.wrap (x+y)))):=by simp only [zi,i64,zB,zh,yc,Bool.false_eq_true,if_false,if_true,Option.map_some,bo,gt_iff_lt,ge_iff_le]
theorem zkl (P:Program) (t:TypeId) (x y:Int):zi P .sub t (.p (i64 x)) (.p (i64 y))=some (.p (i64 (IntKind.i64.wrap (x - y)))):=by simp only [zi,i64,zB,zh,yc,Bool.false_eq_true,if_false,if_true,Option.map_some,bo,gt_iff_lt,ge_iff_le]
theorem zkm (P:Program) (t:TypeId) (x y:Int):zi P .mul t (.p (i64 x)) (.p (i64 y))=some (.p (i64 (IntKind.i64.wrap (x*y)))):=by simp only [zi,i64,zB,zh,yc,Bool.false_eq_true,if_false,if_true,Option.map_some,bo,gt_iff_lt,ge_iff_le]
theorem zkn (P:Program) (t:TypeId) (x y:Int):zi P .eql t (.p (i64 x)) (.p (i64 y))=some (.p (bo (x == y))):=by simp only [zi,i64,zB,zh,yc,Bool.false_eq_true,if_false,if_true,Option.map_some,bo,gt_iff_lt,ge_iff_le]
theorem zko (P:Program) (t:TypeId) (x y:Int):zi P .neq t (.p (i64 x)) (.p (i64 y))=some (.p (bo (x != y))):=by simp only [zi,i64,zB,zh,yc,Bool.false_eq_true,if_false,if_true,Option.map_some,bo,gt_iff_lt,ge_iff_le]
theorem zkp (P:Program) (t:TypeId) (x y:Int):zi P .lss t (.p (i64 x)) (.p (i64 y))=some (.p (bo (decide (x < y)))):=by simp only [zi,i64,zB,zh,yc,Bool.false_eq_true,if_false,if_true,Option.map_some,bo,gt_iff_lt,ge_iff_le]
theorem zkq (P:Program) (t:TypeId) (x y:Int):zi P .leq t (.p (i64 x)) (.p (i64 y))=some (.p (bo (decide (x≤y)))):=by simp only [zi,i64,zB,zh,yc,Bool.false_eq_true,if_false,if_true,Option.map_some,bo,gt_iff_lt,ge_iff_le]
theorem zkr (P:Program) (t:TypeId) (x y:Int):zi P .gtr t (.p (i64 x)) (.p (i64 y))=some (.p (bo (decide (y < x)))):=by simp only [zi,i64,zB,zh,yc,Bool.false_eq_true,if_false,if_true,Option.map_some,bo,gt_iff_lt,ge_iff_le]
theorem zks (P:Program) (t:TypeId) (x y:Int):zi P .geq t (.p (i64 x)) (.p (i64 y))=some (.p (bo (decide (y≤x)))):=by simp only [zi,i64,zB,zh,yc,Bool.false_eq_true,if_false,if_true,Option.map_some,bo,gt_iff_lt,ge_iff_le]
theorem zkt (P:Program) (t:TypeId) (x y:Int) (hx:0≤x) (hy:0 < y) (hb:x≤9223372036854775807):zi P .quo t (.p (i64 x)) (.p (i64 y))=some (.p (i64 (x / y))):=by
 simp only [zi,i64,zB,zh,yc,Bool.false_eq_true,if_false,if_true]
 rw [if_neg (by omega),Int.tdiv_eq_ediv_of_nonneg hx]
 have h1:x / y≤x:=Int.ediv_le_self _ hx
 have h2:0≤x / y:=Int.ediv_nonneg hx (by omega)
 rw [ze9 (by omega) (by omega),Option.map_some]
theorem zku (P:Program) (t:TypeId) (x y:Int) (hx:0≤x) (hy:0 < y):zi P .rem t (.p (i64 x)) (.p (i64 y))=some (.p (i64 (x % y))):=by
 simp only [zi,i64,zB,zh,yc,Bool.false_eq_true,if_false,if_true]
 rw [if_neg (by omega),Int.tmod_eq_emod_of_nonneg hx,Option.map_some]
theorem zkv (P:Program) (t:TypeId) (x y:Int) (hy:0≤y) (h63:y≤63):zi P .shl t (.p (i64 x)) (.p (i64 y))=some (.p (i64 (IntKind.i64.wrap (x*2 ^ y.toNat)))):=by
 have hm:min y.toNat IntKind.i64.bits=y.toNat:=by simp only [IntKind.bits];omega
 simp only [zi,i64,zB,zh,zS,if_true,hm]
 rw [if_neg (by omega)];rfl
theorem zkw (P:Program) (t:TypeId) (x y:Int) (hy:0≤y) (h63:y≤63):zi P .shr t (.p (i64 x)) (.p (i64 y))=some (.p (i64 (x / 2 ^ y.toNat))):=by
 have hm:min y.toNat IntKind.i64.bits=y.toNat:=by simp only [IntKind.bits];omega
 simp only [zi,i64,zB,zh,zS,if_true,hm]
 rw [if_neg (by omega)]
 simp only [Option.map_some,Int.fdiv_eq_ediv_of_nonneg _ (Int.pow_nonneg (by decide:(0:Int)≤2))]
theorem zng (x:Int):aUn .neg (.p (i64 x))=some (.p (i64 (IntKind.i64.wrap (0 - x)))):=rfl
theorem zrp (b:Bool):aUn .not (.p (bo b))=some (.p (bo (!b))):=rfl
theorem zkx (P:Program) (t:TypeId) (x y:ByteArray):zi P .eql t (.p (str x)) (.p (str y))=some (.p (bo (x.toList == y.toList))):=rfl
theorem zky (P:Program) (t:TypeId) (x y:ByteArray):zi P .neq t (.p (str x)) (.p (str y))=some (.p (bo (!(x.toList == y.toList)))):=rfl
theorem znh (P:Program) (t:TypeId) (x y:Bool) (h:isBool P t=true):zi P .eql t (.p (bo x)) (.p (bo y))=some (.p (bo (x == y))):=by simp only [zi,bo,zB,h,if_true,Option.map_some]
theorem zni (P:Program) (t:TypeId) (x y:Bool) (h:isBool P t=true):zi P .neq t (.p (bo x)) (.p (bo y))=some (.p (bo (!(x == y)))):=by simp only [zi,bo,zB,h,if_true,Option.map_some]

def zY (P:Program) (t:TypeId):Bool:=match P.underlying t with | some (.int _)=>true | _=>false
theorem zN {P:Program} {t:TypeId} (h:zY P t=true) : ∃ k,P.underlying t=some (.int k):=by
 unfold zY at h
 split at h
 · rename_i k hk;exact⟨k,hk⟩
 · cases h

theorem znj (P:Program) (H:Hp) (s d:TypeId) (x:BitVec 8) (hs:zY P s=true) (hd:P.underlying d=some (.int .u8)):zO P H s d (.p (b8 x))=some (.p (b8 (x.setWidth 8))):=by
 obtain⟨k,hk⟩:=zN hs
 have h:((x.toNat:Int) % 256)=((x.setWidth 8).toNat:Int):=by rw [BitVec.toNat_setWidth];simp only [Nat.reducePow];omega
 simp only [zO,hk,hd,Option.isSome_some,if_true,b8,yI,Option.map_some,IntKind.wrap_u8,h,b8]
theorem zkz (P:Program) (H:Hp) (s d:TypeId) (x:BitVec 8) (hs:zY P s=true) (hd:P.underlying d=some (.int .u16)):zO P H s d (.p (b8 x))=some (.p (yd (x.setWidth 16))):=by
 obtain⟨k,hk⟩:=zN hs
 have h:((x.toNat:Int) % 65536)=((x.setWidth 16).toNat:Int):=by rw [BitVec.toNat_setWidth];simp only [Nat.reducePow];omega
 simp only [zO,hk,hd,Option.isSome_some,if_true,b8,yI,Option.map_some,IntKind.wrap_u16,h,yd]
theorem zkA (P:Program) (H:Hp) (s d:TypeId) (x:BitVec 8) (hs:zY P s=true) (hd:P.underlying d=some (.int .u32)):zO P H s d (.p (b8 x))=some (.p (zC (x.setWidth 32))):=by
 obtain⟨k,hk⟩:=zN hs
 have h:((x.toNat:Int) % 4294967296)=((x.setWidth 32).toNat:Int):=by rw [BitVec.toNat_setWidth];simp only [Nat.reducePow];omega
 simp only [zO,hk,hd,Option.isSome_some,if_true,b8,yI,Option.map_some,IntKind.wrap_u32',h,zC]
theorem zkB (P:Program) (H:Hp) (s d:TypeId) (x:BitVec 8) (hs:zY P s=true) (hd:P.underlying d=some (.int .u64)):zO P H s d (.p (b8 x))=some (.p (zw (x.setWidth 64))):=by
 obtain⟨k,hk⟩:=zN hs
 have h:((x.toNat:Int) % 18446744073709551616)=((x.setWidth 64).toNat:Int):=by rw [BitVec.toNat_setWidth];simp only [Nat.reducePow];omega
 simp only [zO,hk,hd,Option.isSome_some,if_true,b8,yI,Option.map_some,IntKind.wrap_u64,h,zw]
theorem zkC (P:Program) (H:Hp) (s d:TypeId) (x:BitVec 8) (hs:zY P s=true) (hd:P.underlying d=some (.int .i64)):zO P H s d (.p (b8 x))=some (.p (i64 (IntKind.i64.wrap x.toNat))):=by
 obtain⟨k,hk⟩:=zN hs
 simp only [zO,hk,hd,Option.isSome_some,if_true,b8,yI,Option.map_some,i64]
theorem zkD (P:Program) (H:Hp) (s d:TypeId) (x:BitVec 16) (hs:zY P s=true) (hd:P.underlying d=some (.int .u8)):zO P H s d (.p (yd x))=some (.p (b8 (x.setWidth 8))):=by
 obtain⟨k,hk⟩:=zN hs
 have h:((x.toNat:Int) % 256)=((x.setWidth 8).toNat:Int):=by rw [BitVec.toNat_setWidth];simp only [Nat.reducePow];omega
 simp only [zO,hk,hd,Option.isSome_some,if_true,yd,yI,Option.map_some,IntKind.wrap_u8,h,b8]
theorem zh2 (P:Program) (H:Hp) (s d:TypeId) (x:BitVec 16) (hs:zY P s=true) (hd:P.underlying d=some (.int .u16)):zO P H s d (.p (yd x))=some (.p (yd (x.setWidth 16))):=by
 obtain⟨k,hk⟩:=zN hs
 have h:((x.toNat:Int) % 65536)=((x.setWidth 16).toNat:Int):=by rw [BitVec.toNat_setWidth];simp only [Nat.reducePow];omega
 simp only [zO,hk,hd,Option.isSome_some,if_true,yd,yI,Option.map_some,IntKind.wrap_u16,h,yd]
theorem zh3 (P:Program) (H:Hp) (s d:TypeId) (x:BitVec 16) (hs:zY P s=true) (hd:P.underlying d=some (.int .u32)):zO P H s d (.p (yd x))=some (.p (zC (x.setWidth 32))):=by
 obtain⟨k,hk⟩:=zN hs
 have h:((x.toNat:Int) % 4294967296)=((x.setWidth 32).toNat:Int):=by rw [BitVec.toNat_setWidth];simp only [Nat.reducePow];omega
 simp only [zO,hk,hd,Option.isSome_some,if_true,yd,yI,Option.map_some,IntKind.wrap_u32',h,zC]
theorem zh4 (P:Program) (H:Hp) (s d:TypeId) (x:BitVec 16) (hs:zY P s=true) (hd:P.underlying d=some (.int .u64)):zO P H s d (.p (yd x))=some (.p (zw (x.setWidth 64))):=by
 obtain⟨k,hk⟩:=zN hs
 have h:((x.toNat:Int) % 18446744073709551616)=((x.setWidth 64).toNat:Int):=by rw [BitVec.toNat_setWidth];simp only [Nat.reducePow];omega
 simp only [zO,hk,hd,Option.isSome_some,if_true,yd,yI,Option.map_some,IntKind.wrap_u64,h,zw]
theorem zh5 (P:Program) (H:Hp) (s d:TypeId) (x:BitVec 16) (hs:zY P s=true) (hd:P.underlying d=some (.int .i64)):zO P H s d (.p (yd x))=some (.p (i64 (IntKind.i64.wrap x.toNat))):=by
 obtain⟨k,hk⟩:=zN hs
 simp only [zO,hk,hd,Option.isSome_some,if_true,yd,yI,Option.map_some,i64]
theorem zkE (P:Program) (H:Hp) (s d:TypeId) (x:BitVec 32) (hs:zY P s=true) (hd:P.underlying d=some (.int .u8)):zO P H s d (.p (zC x))=some (.p (b8 (x.setWidth 8))):=by
 obtain⟨k,hk⟩:=zN hs
 have h:((x.toNat:Int) % 256)=((x.setWidth 8).toNat:Int):=by rw [BitVec.toNat_setWidth];simp only [Nat.reducePow];omega
 simp only [zO,hk,hd,Option.isSome_some,if_true,zC,yI,Option.map_some,IntKind.wrap_u8,h,b8]
theorem zh6 (P:Program) (H:Hp) (s d:TypeId) (x:BitVec 32) (hs:zY P s=true) (hd:P.underlying d=some (.int .u16)):zO P H s d (.p (zC x))=some (.p (yd (x.setWidth 16))):=by
 obtain⟨k,hk⟩:=zN hs
 have h:((x.toNat:Int) % 65536)=((x.setWidth 16).toNat:Int):=by rw [BitVec.toNat_setWidth];simp only [Nat.reducePow];omega
 simp only [zO,hk,hd,Option.isSome_some,if_true,zC,yI,Option.map_some,IntKind.wrap_u16,h,yd]
theorem zh7 (P:Program) (H:Hp) (s d:TypeId) (x:BitVec 32) (hs:zY P s=true) (hd:P.underlying d=some (.int .u32)):zO P H s d (.p (zC x))=some (.p (zC (x.setWidth 32))):=by
 obtain⟨k,hk⟩:=zN hs
 have h:((x.toNat:Int) % 4294967296)=((x.setWidth 32).toNat:Int):=by rw [BitVec.toNat_setWidth];simp only [Nat.reducePow];omega
 simp only [zO,hk,hd,Option.isSome_some,if_true,zC,yI,Option.map_some,IntKind.wrap_u32',h,zC]
theorem zh8 (P:Program) (H:Hp) (s d:TypeId) (x:BitVec 32) (hs:zY P s=true) (hd:P.underlying d=some (.int .u64)):zO P H s d (.p (zC x))=some (.p (zw (x.setWidth 64))):=by
 obtain⟨k,hk⟩:=zN hs
 have h:((x.toNat:Int) % 18446744073709551616)=((x.setWidth 64).toNat:Int):=by rw [BitVec.toNat_setWidth];simp only [Nat.reducePow];omega
 simp only [zO,hk,hd,Option.isSome_some,if_true,zC,yI,Option.map_some,IntKind.wrap_u64,h,zw]
theorem zh9 (P:Program) (H:Hp) (s d:TypeId) (x:BitVec 32) (hs:zY P s=true) (hd:P.underlying d=some (.int .i64)):zO P H s d (.p (zC x))=some (.p (i64 (IntKind.i64.wrap x.toNat))):=by
 obtain⟨k,hk⟩:=zN hs
 simp only [zO,hk,hd,Option.isSome_some,if_true,zC,yI,Option.map_some,i64]
theorem zkF (P:Program) (H:Hp) (s d:TypeId) (x:BitVec 64) (hs:zY P s=true) (hd:P.underlying d=some (.int .u8)):zO P H s d (.p (zw x))=some (.p (b8 (x.setWidth 8))):=by
 obtain⟨k,hk⟩:=zN hs
 have h:((x.toNat:Int) % 256)=((x.setWidth 8).toNat:Int):=by rw [BitVec.toNat_setWidth];simp only [Nat.reducePow];omega
 simp only [zO,hk,hd,Option.isSome_some,if_true,zw,yI,Option.map_some,IntKind.wrap_u8,h,b8]
theorem zia (P:Program) (H:Hp) (s d:TypeId) (x:BitVec 64) (hs:zY P s=true) (hd:P.underlying d=some (.int .u16)):zO P H s d (.p (zw x))=some (.p (yd (x.setWidth 16))):=by
 obtain⟨k,hk⟩:=zN hs
 have h:((x.toNat:Int) % 65536)=((x.setWidth 16).toNat:Int):=by rw [BitVec.toNat_setWidth];simp only [Nat.reducePow];omega
 simp only [zO,hk,hd,Option.isSome_some,if_true,zw,yI,Option.map_some,IntKind.wrap_u16,h,yd]
theorem zib (P:Program) (H:Hp) (s d:TypeId) (x:BitVec 64) (hs:zY P s=true) (hd:P.underlying d=some (.int .u32)):zO P H s d (.p (zw x))=some (.p (zC (x.setWidth 32))):=by
 obtain⟨k,hk⟩:=zN hs
 have h:((x.toNat:Int) % 4294967296)=((x.setWidth 32).toNat:Int):=by rw [BitVec.toNat_setWidth];simp only [Nat.reducePow];omega
 simp only [zO,hk,hd,Option.isSome_some,if_true,zw,yI,Option.map_some,IntKind.wrap_u32',h,zC]
theorem zic (P:Program) (H:Hp) (s d:TypeId) (x:BitVec 64) (hs:zY P s=true) (hd:P.underlying d=some (.int .u64)):zO P H s d (.p (zw x))=some (.p (zw (x.setWidth 64))):=by
 obtain⟨k,hk⟩:=zN hs
 have h:((x.toNat:Int) % 18446744073709551616)=((x.setWidth 64).toNat:Int):=by rw [BitVec.toNat_setWidth];simp only [Nat.reducePow];omega
 simp only [zO,hk,hd,Option.isSome_some,if_true,zw,yI,Option.map_some,IntKind.wrap_u64,h,zw]
theorem zid (P:Program) (H:Hp) (s d:TypeId) (x:BitVec 64) (hs:zY P s=true) (hd:P.underlying d=some (.int .i64)):zO P H s d (.p (zw x))=some (.p (i64 (IntKind.i64.wrap x.toNat))):=by
 obtain⟨k,hk⟩:=zN hs
 simp only [zO,hk,hd,Option.isSome_some,if_true,zw,yI,Option.map_some,i64]
theorem zkG (P:Program) (H:Hp) (s d:TypeId) (x:Int) (hs:zY P s=true) (hd:P.underlying d=some (.int .u8)):zO P H s d (.p (i64 x))=some (.p (b8 (BitVec.ofInt 8 x))):=by
 obtain⟨k,hk⟩:=zN hs
 have h:(x % 256)=((BitVec.ofInt 8 x).toNat:Int):=by rw [BitVec.toNat_ofInt];simp only [Nat.reducePow,Int.cast_ofNat_Int];omega
 simp only [zO,hk,hd,Option.isSome_some,if_true,i64,yI,Option.map_some,IntKind.wrap_u8,h,b8]
theorem zie (P:Program) (H:Hp) (s d:TypeId) (x:Int) (hs:zY P s=true) (hd:P.underlying d=some (.int .u16)):zO P H s d (.p (i64 x))=some (.p (yd (BitVec.ofInt 16 x))):=by
 obtain⟨k,hk⟩:=zN hs
 have h:(x % 65536)=((BitVec.ofInt 16 x).toNat:Int):=by rw [BitVec.toNat_ofInt];simp only [Nat.reducePow,Int.cast_ofNat_Int];omega
 simp only [zO,hk,hd,Option.isSome_some,if_true,i64,yI,Option.map_some,IntKind.wrap_u16,h,yd]
theorem zif (P:Program) (H:Hp) (s d:TypeId) (x:Int) (hs:zY P s=true) (hd:P.underlying d=some (.int .u32)):zO P H s d (.p (i64 x))=some (.p (zC (BitVec.ofInt 32 x))):=by
 obtain⟨k,hk⟩:=zN hs
 have h:(x % 4294967296)=((BitVec.ofInt 32 x).toNat:Int):=by rw [BitVec.toNat_ofInt];simp only [Nat.reducePow,Int.cast_ofNat_Int];omega
 simp only [zO,hk,hd,Option.isSome_some,if_true,i64,yI,Option.map_some,IntKind.wrap_u32',h,zC]
theorem zig (P:Program) (H:Hp) (s d:TypeId) (x:Int) (hs:zY P s=true) (hd:P.underlying d=some (.int .u64)):zO P H s d (.p (i64 x))=some (.p (zw (BitVec.ofInt 64 x))):=by
 obtain⟨k,hk⟩:=zN hs
 have h:(x % 18446744073709551616)=((BitVec.ofInt 64 x).toNat:Int):=by rw [BitVec.toNat_ofInt];simp only [Nat.reducePow,Int.cast_ofNat_Int];omega
 simp only [zO,hk,hd,Option.isSome_some,if_true,i64,yI,Option.map_some,IntKind.wrap_u64,h,zw]
theorem zih (P:Program) (H:Hp) (s d:TypeId) (x:Int) (hs:zY P s=true) (hd:P.underlying d=some (.int .i64)):zO P H s d (.p (i64 x))=some (.p (i64 (IntKind.i64.wrap x))):=by
 obtain⟨k,hk⟩:=zN hs
 simp only [zO,hk,hd,Option.isSome_some,if_true,i64,yI,Option.map_some,i64]
theorem zfT (x y:Int):zbq false (.p (i64 x)) (.p (i64 y))=some (.p (i64 (min x y))):=rfl
theorem zfU (x y:Int):zbq true (.p (i64 x)) (.p (i64 y))=some (.p (i64 (max x y))):=rfl

end Go.AL

/-
  The rules by which simp runs a region on abstract values.
  Conditions: none;nothing here speaks of one program.
-/
namespace Go.AL
open Go

def runT (C:Cx) (ops:Array Oper) (r:SRes) (dst:Option Nat) (rest:List Oper) (k:List Item) (env:Env) (H:Hp) (R:AV → Hp → Prop):Prop :=
 match r with
 | .val x H'=>zQ C.nt dst=true∧zck C ops rest k (env.put dst x) H' R
 | .unit H'=>dst=none∧zck C ops rest k (env.put dst .top) H' R
 | .call f args=>zQ C.nt dst=true∧CallK C ops f (yk C.raw f args) dst rest k env H R
 | .yield b args=>zQ C.nt dst=true∧YieldK C ops b (args.map AV.weak) dst rest k env H R
 | .fail=>False

section text
variable {C:Cx} {ops:Array Oper} {op:Op} {dst:Option Nat} {rest:List Oper} {k:List Item} {env:Env} {H H':Hp} {R:AV → Hp → Prop} {ty:TypeId} {pos:String} {after:Array Edge} {x:AV} {f:FuncId} {args:List AV} {j:Nat} {want:Bool}

theorem zux:zck C ops [] k env H R=ARun C k env H R:=rfl
theorem zrq:zck C ops (⟨dst,op,ty,pos,after,none⟩ :: rest) k env H R=runT C ops (zq C.P C.G op ty env H) dst rest k env H R:=by
 unfold zck runT zBy
 simp only [zR]
 try (cases zq C.P C.G op ty env H<;>rfl)
def guarded (C:Cx) (ops:Array Oper) (w:Option Bool) (op:Op) (ty:TypeId) (dst:Option Nat) (rest:List Oper) (k:List Item) (env:Env) (H:Hp) (R:AV → Hp → Prop):Prop :=
 match w with
 | some true=>runT C ops (zq C.P C.G op ty env H) dst rest k env H R
 | some false=>zQ C.nt dst=true∧zck C ops rest k (env.put dst (.tup [])) H R
 | none=>False
theorem zrr:zck C ops (⟨dst,op,ty,pos,after,some (j,want)⟩ :: rest) k env H R=guarded C ops (zR C.nt ops (some (j,want)) env) op ty dst rest k env H R:=by
 conv=>lhs;unfold zck
 unfold guarded zBy
 simp only
 cases zR C.nt ops (some (j,want)) env with
 | none=>rfl
 | some t =>
  cases t
  · rfl
  · simp only [runT];try (cases zq C.P C.G op ty env H<;>rfl)
theorem zii:guarded C ops (some true) op ty dst rest k env H R=runT C ops (zq C.P C.G op ty env H) dst rest k env H R:=rfl
theorem zgX:guarded C ops (some false) op ty dst rest k env H R=(zQ C.nt dst=true∧zck C ops rest k (env.put dst (.tup [])) H R):=rfl
theorem zuy:runT C ops (.val x H') dst rest k env H R=(zQ C.nt dst=true∧zck C ops rest k (env.put dst x) H' R):=rfl
theorem zrs:runT C ops (.unit H') none rest k env H R=zck C ops rest k env H' R:=by simp [runT,Env.put]
theorem zrt:runT C ops (.call f args) dst rest k env H R=(zQ C.nt dst=true∧CallK C ops f (yk C.raw f args) dst rest k env H R):=rfl
theorem znk {b:Nat}:runT C ops (.yield b args) dst rest k env H R=(zQ C.nt dst=true∧YieldK C ops b (args.map AV.weak) dst rest k env H R):=rfl
theorem znl {nt d:Nat}:(zQ nt (some d)=true)=(d < nt):=by simp [zQ]
theorem znm {nt:Nat}:(zQ nt none=true)=True:=by simp [zQ]
theorem put_some {d i:Nat}:Env.put env (some d) x i=if i=d then x else env i:=rfl
theorem zkH {i:Nat}:Env.put env none x i=env i:=rfl
end text

def guardOf (nt:Nat) (d:Option Nat) (env:Env) (want:Bool):Option Bool :=
 match d with
 | some d=>if d < nt then (match env d with | .p (.s (.bool t))=>some (t == want) | .tup []=>some false | _=>none) else none
 | none=>none
theorem zij {nt:Nat} {ops:Array Oper} {j:Nat} {want:Bool} {env:Env}:zR nt ops (some (j,want)) env=guardOf nt ((ops[j]?).bind (·.dst)) env want:=rfl
def znn (x:AV) (want:Bool):Option Bool:=match x with | .p (.s (.bool t))=>some (t == want) | .tup []=>some false | _=>none
theorem zik {nt d:Nat} {env:Env} {want:Bool}:guardOf nt (some d) env want=if d < nt then znn (env d) want else none:=rfl
theorem zru {t want:Bool}:znn (.p (bo t)) want=some (t == want):=rfl
theorem zno {want:Bool}:znn (.tup []) want=some false:=rfl

def zcP (C:Cx) (ops:Array Oper) (q:Nat → Bool) (n:Nat) (l:List Oper) (k:List Item) (env:Env) (H:Hp) (R:AV → Hp → Prop):Prop:=zdF C ops q (fun env' H'=>ARun C k env' H' R) n l env H

section draw
variable {C:Cx} {ops:Array Oper} {q:Nat → Bool} {quiet:Bool} {n:Nat} {op:Op} {dst:Option Nat} {rest:List Oper} {k:List Item} {env:Env} {H H':Hp} {R:AV → Hp → Prop} {ty:TypeId} {pos:String} {after:Array Edge} {x:AV} {f:FuncId} {args:List AV} {j:Nat} {want:Bool}

theorem zuz {o:Oper} (hn:ops[n]? = some o) (hg:zR C.nt ops o.guard env=some true) {x:AV} {H':Hp} (hr:zq C.P C.G o.op o.type env H = .val x H') (hd:zQ C.nt o.dst=true) (hq:q n=true → H'=H)
 (h:zcP C ops q (n+1) rest k (env.put o.dst x) H' R):zcP C ops q n (o :: rest) k env H R:=by
 unfold zcP zdF opA
 simp only [hn,hg]
 cases hqn:q n with
 | true =>
  simp only [if_true]
  have:=hq hqn;subst this
  exact⟨x,by unfold aOp1;rw [hr];exact⟨hd,rfl,rfl⟩,h⟩
 | false =>
  simp only [Bool.false_eq_true,if_false]
  unfold aOp1;rw [hr]
  exact⟨hd,h⟩
theorem zrv {o:Oper} (hn:ops[n]? = some o) (hg:zR C.nt ops o.guard env=some true) {H':Hp} (hr:zq C.P C.G o.op o.type env H = .unit H') (hd:o.dst=none) (hq:q n=false)
 (h:zcP C ops q (n+1) rest k env H' R):zcP C ops q n (o :: rest) k env H R:=by
 unfold zcP zdF opA
 simp only [hn,hg,hq,Bool.false_eq_true,if_false]
 unfold aOp1;rw [hr]
 exact⟨hd,by rw [hd];exact h⟩
theorem zrw {o:Oper} (hn:ops[n]? = some o) (hg:zR C.nt ops o.guard env=some true) {f:FuncId} {args:List AV} (hr:zq C.P C.G o.op o.type env H = .call f args) (hd:zQ C.nt o.dst=true)
 (h:if q n then ∃ x,ACall C.P C.G f (yk C.raw f args) H (fun x' H'=>x'=x∧H'=H)∧zcP C ops q (n+1) rest k (env.put o.dst x) H R
  else ACall C.P C.G f (yk C.raw f args) H (fun x H'=>zcP C ops q (n+1) rest k (env.put o.dst x) H' R)):zcP C ops q n (o :: rest) k env H R:=by
 unfold zcP zdF opA
 simp only [hn,hg]
 cases hqn:q n with
 | true =>
  rw [hqn] at h
  simp only [if_true] at h ⊢
  obtain⟨x,h2,h3⟩:=h
  exact⟨x,by unfold aOp1;rw [hr];exact⟨hd,h2⟩,h3⟩
 | false =>
  rw [hqn] at h
  simp only [Bool.false_eq_true,if_false] at h ⊢
  unfold aOp1;rw [hr]
  exact⟨hd,h⟩

theorem znp {o:Oper} (hn:ops[n]? = some o) (hg:zR C.nt ops o.guard env=some true) {b:Nat} {args:List AV} (hr:zq C.P C.G o.op o.type env H = .yield b args) (hd:zQ C.nt o.dst=true) (hq:q n=false)
 (h:AYield C.P C.G b (args.map AV.weak) H (fun x H'=>zcP C ops q (n+1) rest k (env.put o.dst x) H' R)):zcP C ops q n (o :: rest) k env H R:=by
 unfold zcP zdF opA
 simp only [hn,hg,hq,Bool.false_eq_true,if_false]
 unfold aOp1;rw [hr]
 exact⟨hd,h⟩
theorem zrx {o:Oper} (hn:ops[n]? = some o) (hg:zR C.nt ops o.guard env=some false) (hd:zQ C.nt o.dst=true) (h:zcP C ops q (n+1) rest k (env.put o.dst (.tup [])) H R):zcP C ops q n (o :: rest) k env H R:=by
 unfold zcP zdF opA
 simp only [hn,hg]
 exact⟨hd,h⟩

def yU (C:Cx) (ops:Array Oper) (q:Nat → Bool):Nat → List Oper → List Item → Env → Hp → (AV → Hp → Prop) → Prop
 | _,[],k,env,H,R=>ARun C k env H R
 | n,o :: rest,k,env,H,R =>
  match zR C.nt ops o.guard env with
  | some true=>(match zq C.P C.G o.op o.type env H with
   | .val x H'=>zQ C.nt o.dst=true∧(q n=true → H'=H)∧yU C ops q (n+1) rest k (env.put o.dst x) H' R
   | .unit H'=>o.dst=none∧q n=false∧yU C ops q (n+1) rest k env H' R
   | .call f args=>zQ C.nt o.dst=true∧if q n then ∃ x,ACall C.P C.G f (yk C.raw f args) H (fun x' H'=>x'=x∧H'=H)∧yU C ops q (n+1) rest k (env.put o.dst x) H R
    else ACall C.P C.G f (yk C.raw f args) H (fun x H'=>yU C ops q (n+1) rest k (env.put o.dst x) H' R)
   | .yield b args=>zQ C.nt o.dst=true∧q n=false∧AYield C.P C.G b (args.map AV.weak) H (fun x H'=>yU C ops q (n+1) rest k (env.put o.dst x) H' R)
   | .fail=>False)
  | some false=>zQ C.nt o.dst=true∧yU C ops q (n+1) rest k (env.put o.dst (.tup [])) H R
  | none=>False

theorem yz : ∀ {l:List Oper} {n:Nat} {env:Env} {H:Hp},(∀ j,l[j]? = ops[n+j]?) → yU C ops q n l k env H R → zcP C ops q n l k env H R
 | [],n,env,H,_,h=>h
 | o :: rest,n,env,H,hl,h=>by
  have h0:ops[n]? = some o:=by simpa using (hl 0).symm
  have hl' : ∀ j,rest[j]? = ops[n+1+j]? := fun j=>by have:=hl (j+1);simpa [Nat.add_assoc,Nat.add_comm 1 j] using this
  unfold yU at h
  split at h
  · rename_i hw
    cases hr:zq C.P C.G o.op o.type env H with
    | val x H'=>rw [hr] at h;exact zuz h0 hw hr h.1 h.2.1 (yz hl' h.2.2)
    | unit H'=>rw [hr] at h;exact zrv h0 hw hr h.1 h.2.1 (yz hl' h.2.2)
    | call f args =>
     rw [hr] at h
     refine zrw h0 hw hr h.1 ?_
     have h2:=h.2
     split at h2
     · rename_i hq;rw [if_pos hq];obtain⟨x,a,b⟩:=h2;exact⟨x,a,yz hl' b⟩
     · rename_i hq;rw [if_neg hq];exact h2.mono fun x H' b=>yz hl' b
    | yield b args =>
     rw [hr] at h
     exact znp h0 hw hr h.1 h.2.1 (h.2.2.mono fun x H' b=>yz hl' b)
    | fail=>rw [hr] at h;exact h.elim
  · rename_i hw;exact zrx h0 hw h.1 (yz hl' h.2)
  · exact h.elim

def CallD (C:Cx) (ops:Array Oper) (q:Nat → Bool) (quiet:Bool) (f:FuncId) (args:List AV) (dst:Option Nat) (n:Nat) (rest:List Oper) (k:List Item) (env:Env) (H:Hp) (R:AV → Hp → Prop):Prop :=
 if quiet then ∃ x,ACall C.P C.G f args H (fun x' H'=>x'=x∧H'=H)∧yU C ops q n rest k (env.put dst x) H R
 else ACall C.P C.G f args H (fun x H'=>yU C ops q n rest k (env.put dst x) H' R)

def YieldD (C:Cx) (ops:Array Oper) (q:Nat → Bool) (b:Nat) (args:List AV) (dst:Option Nat) (n:Nat) (rest:List Oper) (k:List Item) (env:Env) (H:Hp) (R:AV → Hp → Prop):Prop :=
 AYield C.P C.G b args H (fun x H'=>yU C ops q n rest k (env.put dst x) H' R)

def ze0 (C:Cx) (ops:Array Oper) (q:Nat → Bool) (r:SRes) (n:Nat) (dst:Option Nat) (rest:List Oper) (k:List Item) (env:Env) (H:Hp) (R:AV → Hp → Prop):Prop :=
 match r with
 | .val x H'=>zQ C.nt dst=true∧(q n=true → H'=H)∧yU C ops q (n+1) rest k (env.put dst x) H' R
 | .unit H'=>dst=none∧q n=false∧yU C ops q (n+1) rest k env H' R
 | .call f args=>zQ C.nt dst=true∧CallD C ops q (q n) f (yk C.raw f args) dst (n+1) rest k env H R
 | .yield b args=>zQ C.nt dst=true∧q n=false∧YieldD C ops q b (args.map AV.weak) dst (n+1) rest k env H R
 | .fail=>False

theorem zuA:yU C ops q n [] k env H R=ARun C k env H R:=rfl
theorem zry:yU C ops q n (⟨dst,op,ty,pos,after,none⟩ :: rest) k env H R=ze0 C ops q (zq C.P C.G op ty env H) n dst rest k env H R:=by
 conv=>lhs;unfold yU
 simp only [zR]
 unfold ze0 CallD YieldD
 cases zq C.P C.G op ty env H<;>rfl
def zbI (C:Cx) (ops:Array Oper) (q:Nat → Bool) (w:Option Bool) (op:Op) (ty:TypeId) (n:Nat) (dst:Option Nat) (rest:List Oper) (k:List Item) (env:Env) (H:Hp) (R:AV → Hp → Prop):Prop :=
 match w with
 | some true=>ze0 C ops q (zq C.P C.G op ty env H) n dst rest k env H R
 | some false=>zQ C.nt dst=true∧yU C ops q (n+1) rest k (env.put dst (.tup [])) H R
 | none=>False
theorem zrz:yU C ops q n (⟨dst,op,ty,pos,after,some (j,want)⟩ :: rest) k env H R=zbI C ops q (zR C.nt ops (some (j,want)) env) op ty n dst rest k env H R:=by
 conv=>lhs;unfold yU
 unfold zbI ze0 CallD YieldD
 cases zR C.nt ops (some (j,want)) env with
 | none=>rfl
 | some b=>cases b<;>cases zq C.P C.G op ty env H<;>rfl
theorem zgY:zbI C ops q (some true) op ty n dst rest k env H R=ze0 C ops q (zq C.P C.G op ty env H) n dst rest k env H R:=rfl
theorem zfV:zbI C ops q (some false) op ty n dst rest k env H R=(zQ C.nt dst=true∧yU C ops q (n+1) rest k (env.put dst (.tup [])) H R):=rfl
theorem zuB:ze0 C ops q (.val x H') n dst rest k env H R=(zQ C.nt dst=true∧(q n=true → H'=H)∧yU C ops q (n+1) rest k (env.put dst x) H' R):=rfl
theorem zrA:ze0 C ops q (.val x H) n dst rest k env H R=(zQ C.nt dst=true∧yU C ops q (n+1) rest k (env.put dst x) H R):=by simp [ze0]
theorem zrB:ze0 C ops q (.unit H') n none rest k env H R=(q n=false∧yU C ops q (n+1) rest k env H' R):=by simp [ze0]
theorem zrC:ze0 C ops q (.call f args) n dst rest k env H R=(zQ C.nt dst=true∧CallD C ops q (q n) f (yk C.raw f args) dst (n+1) rest k env H R):=rfl

theorem znq {b:Nat}:ze0 C ops q (.yield b args) n dst rest k env H R=(zQ C.nt dst=true∧q n=false∧YieldD C ops q b (args.map AV.weak) dst (n+1) rest k env H R):=rfl

theorem YieldD.of {b:Nat} {args':List AV} {r:AV} {H':Hp} (h : ∀ R:AV → Hp → Prop,R r H' → AYield C.P C.G b args' H R) (hk:yU C ops q n rest k (env.put dst r) H' R):YieldD C ops q b args' dst n rest k env H R :=
 h _ hk

theorem CallD.still {args':List AV} {r:AV} (h : ∀ R:AV → Hp → Prop,R r H → ACall C.P C.G f args' H R) (hk:yU C ops q n rest k (env.put dst r) H R):CallD C ops q true f args' dst n rest k env H R:=by
 unfold CallD
 rw [if_pos rfl]
 exact⟨r,h _ ⟨rfl,rfl⟩,hk⟩
theorem CallD.moves {args':List AV} {S:AV → Hp → Prop} (h:ACall C.P C.G f args' H S) (hk : ∀ r H',S r H' → yU C ops q n rest k (env.put dst r) H' R):CallD C ops q false f args' dst n rest k env H R:=by
 unfold CallD
 rw [if_neg (by simp)]
 exact h.mono hk

def zaw (loud:List Nat) (n:Nat):Bool := !loud.contains n

theorem ARun.open {id:Nat} {l:List Oper} (loud:List Nat) (hm:C.P.follows .mixedOrders=true) (hB:zjA (zaw loud) l.toArray l.length 0 (Array.replicate l.length false)=true)
 (h:yU C l.toArray (zaw loud) 0 l k env H R):ARun C (.code (.region id l.toArray true) :: k) env H R :=
 .draw (zaw loud) hm hB (yz (by simp) h)
end draw

theorem znr {n:Nat}:zaw [] n=true:=rfl
theorem zkI {m n:Nat} {l:List Nat}:zaw (m :: l) n=(!(n == m) && zaw l n):=by
 unfold zaw
 rw [List.contains_cons]
 cases (n == m)<;>simp

section branch
variable {C:Cx} {k:List Item} {env:Env} {H:Hp} {R:AV → Hp → Prop} {x y:Code} {t:Nat}
theorem ARun.ifT (hc:env t = .p (bo true)) (h:ARun C (.code x :: k) env H R):ARun C (.code (.cond (.tmp t) x y) :: k) env H R:=ARun.cond (t:=true) hc h
theorem ARun.ifF (hc:env t = .p (bo false)) (h:ARun C (.code y :: k) env H R):ARun C (.code (.cond (.tmp t) x y) :: k) env H R:=ARun.cond (t:=false) hc h
theorem ARun.ifB {b:Bool} (hc:env t = .p (bo b)) (h1:b=true → ARun C (.code x :: k) env H R) (h2:b=false → ARun C (.code y :: k) env H R):ARun C (.code (.cond (.tmp t) x y) :: k) env H R:=by
 cases b
 · exact .ifF hc (h2 rfl)
 · exact .ifT hc (h1 rfl)
end branch

theorem zuC {a b:Int} (h:a < b):decide (a < b)=true:=decide_eq_true h
theorem zuD {a b:Int} (h:b≤a):decide (a < b)=false:=decide_eq_false (by omega)
theorem zuE {a b:Int} (h:a≤b):decide (a≤b)=true:=decide_eq_true h
theorem zuF {a b:Int} (h:b < a):decide (a≤b)=false:=decide_eq_false (by omega)
theorem zPo {a b:Int} (h:a=b):(a == b)=true:=by simp [h]
theorem zPp {a b:Int} (h:a≠b):(a == b)=false:=by simp [h]
theorem zPq {a b:Int} (h:a≠b):(a != b)=true:=by simp [h]
theorem zPr {a b:Int} (h:a=b):(a != b)=false:=by simp [h]

section heaps
variable {H:Hp} {x y:AB} {b c:Nat}
theorem n_new':(H.new x).n=H.n+1:=by rw [Hp.n_new]
theorem n_set':(H.set b x).n=H.n:=by rw [Hp.n_set]
theorem zkJ (h:b=H.n):(H.new x).f b=some x:=by simp [Hp.f_new,h]
theorem zkK (h:b≠H.n):(H.new x).f b=H.f b:=by simp [Hp.f_new,h]
theorem zuG (h:c=b) (hb:b < H.n):(H.set b x).f c=some x:=by simp [Hp.f_set,h,hb]
theorem f_set_ne' (h:c≠b):(H.set b x).f c=H.f c:=by simp [Hp.f_set,h]
theorem zfW (h:b=H.n):(H.new x).set b y=H.new y:=by subst h;exact Hp.set_new_self H x y
theorem zfX (h:b < H.n):(H.new x).set b y=(H.set b y).new x:=Hp.set_new_old H x y b h
theorem trunc_new' (h:b≤H.n):(H.new x).trunc b=H.trunc b:=Hp.trunc_new H x b h
theorem trunc_set' (h:b≤c):(H.set c x).trunc b=H.trunc b:=Hp.trunc_set H x c b h
theorem zdG (h:b=H.n):H.trunc b=H:=by subst h;exact Hp.trunc_self H
end heaps

def zfa (P:Program) (d:Option TypeDesc) (x:AV) (ix:Option Int):Option AV :=
 match ix with
 | some n =>
  match d,x with
  | some (.array len e),x=>if 0≤n∧n.toNat < len∧0 < P.cellsOf e∧x.isAggV then zfi P e x (n.toNat*P.cellsOf e) else none
  | some .string,.p (.s (.string s))=>if 0≤n then (s[n.toNat]?).map fun b => .p (.s (.int .u8 b.toNat)) else none
  | _,_=>none
 | none=>none
theorem zrD {P:Program} {t:TypeId} {x ix:AV}:zfk P t x ix=zfa P (P.underlying t) x ix.int? := rfl
theorem zkL {P:Program} {len:Nat} {e:TypeId} {x:AV} {n:Int}:zfa P (some (.array len e)) x (some n)=if 0≤n∧n.toNat < len∧0 < P.cellsOf e∧x.isAggV then zfi P e x (n.toNat*P.cellsOf e) else none:=rfl

section steps
variable {P:Program} {G:Globs} {ty:TypeId} {env:Env} {H:Hp} {x y z:Operand}
theorem zrE:zq P G (.move x) ty env H = .val (zaV P G env ty x) H:=rfl
theorem zkM:zq P G (.assign x) ty env H = .val (zaV P G env ty x) H:=rfl
def zkN (ps:Option (List PV)) (H:Hp):SRes:=match ps with | some ps => .val (.ptr H.n 0) (H.new (.cells (ps.map .p))) | none => .fail
theorem zns {t:TypeId}:zq P G (.alloc t) ty env H=zkN (zj P t) H:=rfl
theorem zgZ {ps:List PV}:zkN (some ps) H = .val (.ptr H.n 0) (H.new (.cells (ps.map .p))):=rfl
def zuH (cs:Option (List AV)) (H:Hp):SRes:=match cs with | some cs => .val (.ptr H.n 0) (H.new (.cells cs)) | none => .fail
theorem zuI {t:TypeId}:zq P G (.box t x) ty env H=zuH (zo (yB G env x)) H:=rfl
theorem zkO {cs:List AV}:zuH (some cs) H = .val (.ptr H.n 0) (H.new (.cells cs)):=rfl
theorem znt {t:TypeId} {ps:Array (Nat × Operand)}:zq P G (.build t ps) ty env H=vH (zX P t (zad G env ps.toList)) H:=rfl
theorem ze1 {t:TypeId} {n:Nat} {ps:Array (Nat × Operand)}:zq P G (.buildSlice t n ps) ty env H=vHH (zaB P H t n (zad G env ps.toList)):=rfl
theorem zrF {t:TypeId}:zq P G (.load t x) ty env H=vH (zaA P H t (yB G env x)) H:=rfl
theorem znu {t:TypeId}:zq P G (.store t x y) ty env H=uH (zcI P H t (yB G env x) (zaV P G env t y)):=rfl
theorem zg0:zq P G (.nilCheck x) ty env H=vH (zun (yB G env x)) H:=rfl
theorem znv {op:BinOp} {t t':TypeId}:zq P G (.binOp op t x y t') ty env H=vH (zi P op t (zft G env x) (zft G env y)) H:=rfl
theorem zrG {op:UnOp} {t:TypeId}:zq P G (.unOp op t x) ty env H=vH (aUn op (yB G env x)) H:=rfl
theorem zil {s d:TypeId}:zq P G (.convert s d x) ty env H=vH (zO P H s d (yB G env x)) H:=rfl
def zuJ (i:Bool) (t:TypeId) (x:AV) (H:Hp):SRes:=match x with | .p (.s v)=>if i then .fail else .val (.p (.s (.iface t v))) H | _ => .fail
theorem zdp {t:TypeId}:zq P G (.makeInterface t x) ty env H=zuJ (isIface P t) t (yB G env x) H:=rfl
theorem zg1 {f:FuncId} {a c:Array Operand}:zq P G (.makeFunc (.func f) a c) ty env H = .val (.clo f (za3 G env a.toList) (za3 G env c.toList)) H:=rfl
theorem ze2 {t:TypeId} {k:IntKind}:zq P G (.makeSlice t (.const (.int k 0)) y) ty env H=vHH (zfm P H t (yB G env (.const (.int k 0))) (yB G env y)):=rfl
theorem zfY {t:TypeId} {n:Nat}:zq P G (.makeSlice t (.tmp n) y) ty env H=vHH (zjp P H t (env n) (yB G env y)):=rfl
theorem znw {t:TypeId} {lo hi mx:Option Operand}:zq P G (.slice t x lo hi mx) ty env H=vH (zfp P t (yB G env x) (lo.map (yB G env)) (hi.map (yB G env)) (mx.map (yB G env))) H:=rfl
theorem zfZ {s:TypeId} {f:Nat}:zq P G (.fieldAddr s x f) ty env H=vH (zbD P s (yB G env x) f) H:=rfl
theorem znx {s:TypeId} {f:Nat}:zq P G (.field s x f) ty env H=vH (zfj P s (yB G env x) f) H:=rfl
theorem zf0 {t:TypeId}:zq P G (.indexAddr t x y) ty env H=vH (zbC P t (yB G env x) (yB G env y)) H:=rfl
theorem zny {t:TypeId}:zq P G (.index t x y) ty env H=vH (zfk P t (yB G env x) (yB G env y)) H:=rfl
def zf1 (x:AV) (i:Nat) (H:Hp):SRes:=match x with | .tup xs=>vH xs[i]? H | _ => .fail
theorem zim {i:Nat}:zq P G (.extract x i) ty env H=zf1 (yB G env x) i H:=rfl
def zpL (b:AV) (x y:AV) (H:Hp):SRes:=match b with | .p (.s (.bool b)) => .val (if b then x else y) H | _ => .fail
theorem zrH:zq P G (.pick x y z) ty env H=zpL (yB G env x) (zaV P G env ty y) (zaV P G env ty z) H:=rfl
theorem znz {b:Bool} {u v:AV}:zpL (.p (bo b)) u v H = .val (if b=true then u else v) H:=rfl
theorem zf2 {xs:List AV} {i:Nat}:zf1 (.tup xs) i H=vH xs[i]? H:=rfl
theorem zrI {f:Operand} {a:Array Operand} {ts:Array TypeId}:zq P G (.call ⟨.value f,a,ts⟩) ty env H=za4 P G env ⟨.value f,a,ts⟩ (yB G env f) H:=rfl
theorem zin {b:Builtin} {a:Array Operand} {ts:Array TypeId}:zq P G (.call ⟨.builtin b,a,ts⟩) ty env H=yi P G env H b a.toList ts.toList:=rfl
theorem zio {c:Call} {fn:FuncId} {a b:List AV}:za4 P G env c (.clo fn a b) H=if enters P fn then .call fn (a++yV P G env c.args.toList c.argTypes.toList++b) else yr P fn (a++yV P G env c.args.toList c.argTypes.toList++b) H:=rfl
theorem zT {fn:FuncId} {nm:String} {args:List AV} (h:ze8 P fn=some nm):yr P fn args H=vH (zaG nm args) H:=by rw [yr,h]
theorem ziq {c:Call} {b:Nat}:za4 P G env c (.yld b) H = .yield b (yV P G env c.args.toList c.argTypes.toList):=rfl
theorem zuK {b:Nat}:(AV.yld b).weak = .yld b:=rfl
def lenD (P:Program) (d:Option TypeDesc) (x:AV):Option AV :=
 match d with
 | some .string=>match x with | .p (.s (.string s))=>some (.p (.s (.int .i64 s.size))) | _=>none
 | some (.slice _) =>
  match x with
  | .p (.sl _ _ xs) | .sl _ _ _ xs=>some (.p (.s (.int .i64 xs.length)))
  | .ref _ _ len _=>some (.p (.s (.int .i64 len)))
  | .vr _ len _=>some (.p (.s (.int .i64 len)))
  | _=>none
 | some (.array n _)=>some (.p (.s (.int .i64 n)))
 | some (.pointer a)=>match P.underlying a with | some (.array n _)=>some (.p (.s (.int .i64 n))) | _=>none
 | _=>none
theorem zuL {s:ByteArray}:lenD P (some .string) (.p (str s))=some (.p (i64 s.size)):=rfl
theorem zKx {e:TypeId} {b:Bool} {z:Nat} {xs:List PV}:lenD P (some (.slice e)) (.p (.sl b z xs))=some (.p (i64 xs.length)):=rfl
theorem zBE {e:TypeId} {a v z:Nat} {xs:List PV}:lenD P (some (.slice e)) (.sl a v z xs)=some (.p (i64 xs.length)):=rfl
theorem zuM {e:TypeId} {b o l z:Nat}:lenD P (some (.slice e)) (.ref b o l z)=some (.p (i64 l)):=rfl
theorem zBF {e:TypeId} {b l z:Nat}:lenD P (some (.slice e)) (.vr b l z)=some (.p (i64 l)):=rfl
theorem zuN {n:Nat} {e:TypeId} {x:AV}:lenD P (some (.array n e)) x=some (.p (i64 n)):=rfl
theorem zuO {a:TypeId} {x:AV}:lenD P (some (.pointer a)) x=match P.underlying a with | some (.array n _)=>some (.p (.s (.int .i64 n))) | _=>none:=rfl
theorem builtin_len {t:TypeId}:yi P G env H .len [x] [t]=vH (lenD P (P.underlying t) (yB G env x)) H:=rfl
theorem builtin_append {t u:TypeId}:yi P G env H .append [x,y] [t,u]=vHH (zdA P H t u (zaV P G env t x) (zaV P G env u y)):=rfl
theorem builtin_copy {t u:TypeId}:yi P G env H .copy [x,y] [t,u]=vHH (zjq P H t (yB G env x) (yB G env y)):=rfl
theorem builtin_min {ts:List TypeId}:yi P G env H .min [x,y] ts=vH (zbq false (yB G env x) (yB G env y)) H:=rfl
theorem builtin_max {ts:List TypeId}:yi P G env H .max [x,y] ts=vH (zbq true (yB G env x) (yB G env y)) H:=rfl
theorem zBG {v:AV}:vH (some v) H = .val v H:=rfl
theorem zuP {v:AV} {H':Hp}:vHH (some (v,H')) = .val v H':=rfl
theorem zBH {H':Hp}:uH (some H') = .unit H':=rfl
theorem zir {t:Nat}:yB G env (.tmp t)=env t:=rfl
theorem zrJ {v:Value}:yB G env (.const v)=yu v:=rfl
theorem zuQ {f:FuncId}:yB G env (.func f) = .clo f [] []:=rfl
def zkP (g:Option (Nat × List PV)):AV:=match g with | some (sz,xs) => .ip sz xs 0 0 | none => .top
theorem znA {g:Nat}:yB G env (.global g)=zkP (G g):=rfl
theorem znB {sz:Nat} {xs:List PV}:zkP (some (sz,xs)) = .ip sz xs 0 0:=rfl
theorem zf3 {t:Nat}:zaV P G env ty (.tmp t)=env t:=rfl
theorem znC {v:Value}:zaV P G env ty (.const v)=zaK P ty v:=rfl
theorem zrK {f:FuncId}:zaV P G env ty (.func f) = .clo f [] []:=rfl
theorem zkQ {g:Nat}:zaV P G env ty (.global g)=zkP (G g):=rfl
theorem zkR {k:IntKind} {n:Int}:zaK P ty (.int k n)=yu (.int k n):=rfl
theorem zis {b:Bool}:zaK P ty (.bool b)=yu (.bool b):=rfl
theorem zf4 {s:ByteArray}:zaK P ty (.string s)=yu (.string s):=rfl
theorem ze3:zaK P ty .nilFunc = .p (.s .nilFunc):=rfl
def zJV (d:Option TypeDesc) (P:Program):AV:=match d with | some (.slice e) => .p (.sl true (P.cellsOf e) []) | _ => .p (.sl true 0 [])
theorem zkS:zaK P ty (.slice none 0 0)=zJV (P.underlying ty) P:=rfl
theorem zkT {e:TypeId}:zJV (some (.slice e)) P = .p (.sl true (P.cellsOf e) []):=rfl
theorem zrL {ts:List TypeId}:yV P G env [] ts=[]:=rfl
theorem znD {xs:List Operand} {t:TypeId} {ts:List TypeId}:yV P G env (x :: xs) (t :: ts)=zhZ P G env t x :: yV P G env xs ts:=rfl
theorem zuR {t:Nat}:zft G env (.tmp t)=env t:=rfl
theorem znE {v:Value}:zft G env (.const v)=zbV v:=rfl
theorem zrM {f:FuncId}:zft G env (.func f) = .clo f [] []:=rfl
theorem zkU {g:Nat}:zft G env (.global g)=zkP (G g):=rfl
theorem zuS {t:Nat}:zhZ P G env ty (.tmp t)=env t:=rfl
theorem znF {v:Value}:zhZ P G env ty (.const v)=zbp P ty v:=rfl
theorem zrN {f:FuncId}:zhZ P G env ty (.func f) = .clo f [] []:=rfl
theorem zkV {g:Nat}:zhZ P G env ty (.global g)=zkP (G g):=rfl
theorem zkW {k:IntKind} {n:Int}:zbV (.int k n)=yu (.int k n):=rfl
theorem zit {b:Bool}:zbV (.bool b)=yu (.bool b):=rfl
theorem zf5 {s:ByteArray}:zbV (.string s)=yu (.string s):=rfl
theorem zkX:zbV (.slice none 0 0) = .p (.s (.slice none 0 0)):=rfl
theorem zkY {k:IntKind} {n:Int}:zbp P ty (.int k n)=yu (.int k n):=rfl
theorem ziu {b:Bool}:zbp P ty (.bool b)=yu (.bool b):=rfl
theorem zf6 {s:ByteArray}:zbp P ty (.string s)=yu (.string s):=rfl
theorem ze4:zbp P ty .nilFunc = .p (.s .nilFunc):=rfl
theorem zkZ:zbp P ty (.slice none 0 0) = .p (.s (.slice none 0 0)):=rfl
theorem zk0 {t:TypeId}:zaI P t=zhV (P.underlying t):=rfl
theorem ziv {e:TypeId}:zhV (some (.slice e))=true:=rfl
theorem ziw {t:TypeId} (h:zaI P t=true):zi P .eql t (.p (.s (.slice none 0 0))) (.p (.s (.slice none 0 0)))=some (.p (bo true)):=by
 simp only [zi,zB,h];rfl
theorem zix {t:TypeId} (h:zaI P t=true):zi P .neq t (.p (.s (.slice none 0 0))) (.p (.s (.slice none 0 0)))=some (.p (bo false)):=by
 simp only [zi,zB,h];rfl
theorem ziy {t:TypeId} {f:Bool} {sz:Nat} {l:List PV} (h:zaI P t=true) (hl:0 < l.length):zi P .eql t (.p (.sl f sz l)) (.p (.s (.slice none 0 0)))=some (.p (bo false)):=by
 cases l with
 | nil=>simp at hl
 | cons a l=>simp only [zi,h,zfu];rfl
theorem ziz {t:TypeId} {f:Bool} {sz:Nat} {l:List PV} (h:zaI P t=true) (hl:0 < l.length):zi P .neq t (.p (.sl f sz l)) (.p (.s (.slice none 0 0)))=some (.p (bo true)):=by
 cases l with
 | nil=>simp at hl
 | cons a l=>simp only [zi,h,zfu];rfl
theorem znG:zad G env []=[]:=rfl
theorem zk1 {i:Nat} {r:List (Nat × Operand)}:zad G env ((i,x) :: r)=(i,yB G env x) :: zad G env r:=rfl
theorem zrO:za3 G env []=[]:=rfl
theorem znH {r:List Operand}:za3 G env (x :: r)=yB G env x :: za3 G env r:=rfl
theorem zKy {v:PV}:(AV.p v).weak = .p v.weak:=rfl
theorem zBI {a v sz:Nat} {xs:List PV}:(AV.sl a v sz xs).weak = .p (.sl false sz xs):=rfl
theorem zuT {b off len sz:Nat}:(AV.ref b off len sz).weak = .ref b off len sz:=rfl
theorem zBJ {b len sz:Nat}:(AV.vr b len sz).weak = .vr b len sz:=rfl
theorem zBK {b k off:Nat}:(AV.vp b k off).weak = .vp b k off:=rfl
theorem vec?_vec {cs:List AV}:(AB.vec cs).vec? = some cs:=rfl
theorem vec?_cells {cs:List AV}:(AB.cells cs).vec? = none:=rfl
theorem vec?_tail {v:Nat}:(AB.tail v).vec? = none:=rfl
theorem zuU {b off:Nat}:(AV.ptr b off).weak = .ptr b off:=rfl
theorem zBL {sz i sub:Nat} {xs:List PV}:(AV.ip sz xs i sub).weak = .ip sz xs i sub:=rfl
theorem zuV {f:FuncId} {a c:List AV}:(AV.clo f a c).weak = .clo f a c:=rfl
theorem zuW {fl:Bool} {sz:Nat} {xs:List PV}:(PV.sl fl sz xs).weak = .sl false sz xs:=rfl
theorem zrP {fl:Bool} {sz:Nat} {xs:List PV}:(PV.sl fl sz xs).weak1 = .sl false sz xs:=rfl
theorem zrQ {xs:List PV}:(PV.agg xs).weak = .agg (xs.map PV.weak1):=rfl
theorem ziA {f:FuncId} {args:List AV}:yk [] f args=args.map AV.weak:=rfl
end steps

attribute [go_sem ↓] put_some
attribute [go_sem] zBJ zBK vec?_vec vec?_cells vec?_tail
attribute [go_sem] znk znq ziq zuK zux zrq zrr zii zgX zuy zrs zrt znl znm zkH zij zik zru
 zuA zry zrz zgY zfV zrA zuB zrB zrC
 zrE zkM zns zgZ zuI zkO znt ze1 zrF znu zg0 znv zrG zil zdp zg1 ze2 zfY znw
 zfZ znx zf0 zny zim zrH znz zf2 zrI zin zio builtin_len builtin_append builtin_copy builtin_min builtin_max zBG zuP zBH zir zrJ zuQ znA znB
 zno zuR znE zrM zkU zuS znF zrN zkV zkW zit zf5 zkX zkY ziu zf6 ze4 zkZ zk0 ziv ziw zix ziy ziz zf3 znC zrK zkQ zkR zis zf4 ze3 zkS zkT zrL znD znG zk1 zrO znH zKy zBI zuT zuU zBL zuV zuW zrP zrQ ziA

attribute [go_sem] zq3 zjB zht zmA zq4 zmB zmC zus zpJ zjC zq5 zut zq6 zq7 zq8 zuu zq9 zmD zra zmE zmF zuv zpK zjD zrb zuw zrc zrd zre zjE zhu zmG zrf zmH zmI zrg zjF zhv zmJ zrh zmK zmL zri zjG zhw zmM zrj zmN zmO zBA zKw zBB zBC zBD zmP zrk zmQ zrl zmR zmS zmT zmU zmV zmW zmX zrm zmY zgU zmZ zm0 zm1 zm2 zm3 zm4 zm5 zm6 zfC zfD zgV zgW zfE zfF zfG zfH zfI zfJ zrn zro zjH zjI zjJ zjK zm7 zjL zfK zjM zjN zjO zjP zjQ zjR zjS zjT zeC zeD zfL zfM zeE zeF zeG zeH zeI zeJ zm8 zm9 zjU zjV zjW zjX zna zjY zfN zjZ zj0 zj1 zj2 zj3 zj4 zj5 zj6 zeK zeL zfO zfP zeM zeN zeO zeP zeQ zeR znb znc zj7 zj8 zj9 zka znd zkb zfQ zkc zkd zke zkf zkg zkh zki zkj zeS zeT zfR zfS zeU zeV zeW zeX zeY zeZ zne znf zkk zkl zkm zkn zko zkp zkq zkr zks zkt zku zkv zkw zng zrp zkx zky znh zni znj zkz zkA zkB zkC zkD zh2 zh3 zh4 zh5 zkE zh6 zh7 zh8 zh9 zkF zia zib zic zid zkG zie zif zig zih zfT zfU

attribute [go_sem] true_and and_true if_true if_false ite_true ite_false List.getElem?_cons_zero List.getElem?_cons_succ Option.getD_some Option.map_some Option.map_none Option.bind_some zas implies_true znr zkI
 zuC zuD zuE zuF zPo zPp zPq zPr zkJ zkK zuG f_set_ne' zfW zfX trunc_new' trunc_set' zdG n_new' n_set' ze9
 zaA zcI zbC zbD zfj zrD zkL zfi zfp yp zuL zKx zBE zuM zBF zuN zuO zjp zfm zjq zdA zfl yW zaB yx zaU zqW zun
 List.map_cons List.map_nil List.map_replicate List.length_cons List.length_nil List.length_map List.length_replicate List.length_append List.cons_append List.nil_append List.append_nil List.singleton_append
 Bool.not_true Bool.not_false Bool.and_true Bool.true_and Bool.and_false Bool.false_and Bool.or_true Bool.true_or Bool.or_false Bool.false_or Bool.false_eq_true Option.isSome_some Option.isSome_none Option.isNone_none Option.isNone_some
 Nat.add_zero Nat.zero_add Nat.mul_one Nat.one_mul Nat.sub_zero Int.toNat_natCast Int.toNat_zero Int.natCast_nonneg

end Go.AL

/-
  Rows of encoded things: reading,writing and slicing them;loops by a state;small numbers.
  Conditions: none;nothing here speaks of one program.
-/
namespace Go.AL
open Go

theorem ARun.iter {C:Cx} {k:List Item} {env:Env} {H:Hp} {R:AV → Hp → Prop} {c:Code} {S:Type} (I:S → Env → Hp → Prop) (μ:S → Nat) (s0:S) (h0:I s0 env H)
 (round : ∀ s env H,I s env H → (∀ s' env' H',I s' env' H' → μ s' < μ s → ARun C (.inLoop c :: k) env' H' R) → ARun C (.code c :: .inLoop c :: k) env H R) :
 ARun C (.code (.loop c) :: k) env H R:=by
 have key : ∀ n s env H,μ s=n → I s env H → ARun C (.inLoop c :: k) env H R:=by
  intro n
  induction n using Nat.strongRecOn with
  | _ n ih =>
   intro s env H hn hI
   exact .inLoop (round s env H hI fun s' env' H' hI' hlt=>ih (μ s') (hn ▸ hlt) s' env' H' rfl hI')
 exact .loop (key _ s0 env H rfl h0)

theorem ARun.count {C:Cx} {k:List Item} {env:Env} {H:Hp} {R:AV → Hp → Prop} {c:Code} (I:Nat → Env → Hp → Prop) (a n:Nat) (ha:a≤n) (h0:I a env H)
 (last : ∀ env H,I n env H → ARun C (.code c :: .inLoop c :: k) env H R)
 (round : ∀ i env H,a≤i → i < n → I i env H → (∀ env' H',I (i+1) env' H' → ARun C (.inLoop c :: k) env' H' R) → ARun C (.code c :: .inLoop c :: k) env H R) :
 ARun C (.code (.loop c) :: k) env H R :=
 .iter (S:=Nat) (fun i env H=>a≤i∧i≤n∧I i env H) (fun i=>n - i) a ⟨Nat.le_refl _,ha,h0⟩ fun i env H ⟨h1,h2,h3⟩ ih=>by
  by_cases h:i=n
  · subst h;exact last env H h3
  · exact round i env H h1 (by omega) h3 fun env' H' h'=>ih (i+1) env' H' ⟨by omega,by omega,h'⟩ (by omega)

theorem ARun.own {C:Cx} {todo:List Item} {env:Env} {H:Hp} {R:AV → Hp → Prop} (t:Nat) {sz:Nat} {xs:List PV} (ht:env t = .p (.sl true sz xs))
 (h:ARun C todo (env.put (some t) (.sl H.n 0 sz xs)) (H.new (.tail 0)) R):ARun C todo env H R:=by
 intro σ w a b cs m h1 hpre
 obtain⟨hr,hev⟩:=zaz hpre.rel (w':=w) (Nat.le_refl _) (fun _ _=>rfl) rfl rfl none (fun _ _ _ hh=>by cases hh)
 have h4:=hpre.fr.mono hev
 have hf:RelF C.nt m (σ.withT H.n none) (H.new (.tail 0)) w (env.put (some t) (.sl H.n 0 sz xs)) a:=by
  refine⟨h4.defers,h4.size,fun i => ?_⟩
  simp only [Env.put]
  by_cases hi:i=t
  · subst hi
    rw [if_pos rfl]
    have hs:=hpre.fr.slot i
    rw [ht] at hs
    generalize a.tmps.getD i undef=v at hs
    cases hs with | p hp =>
    have hp':RelP w (Stable (σ.withT H.n none) (H.new (.tail 0))) (.sl true sz xs) v:=by
     have:=(RelV.p hp).mono hev
     cases this;assumption
    refine .sl ?_ ⟨by simp [Hp.n_new],fun k0 d hk0 => ?_⟩
    · cases hp' with
      | emp _ _ a cap h hc=>exact .emp _ _ a cap (by simp) hc
      | sl _ _ _ g off cap f hfl hcap hsz hrd hc=>exact .sl false _ _ g off cap f (by simp) hcap hsz hrd hc
    · simp [Hp.f_new] at hk0
      refine⟨by omega,fun _ => .inl ?_⟩
      cases hp' with
      | emp _ _ a cap h0 hc=>exact⟨a,0,by rw [h0 rfl],by simp [Gh.withT]⟩
      | sl _ _ _ g off cap f hfl hcap hsz hrd hc=>exact⟨some ⟨g,off,none⟩,xs.length,by rw [hfl rfl],by simp [Gh.withT]⟩
  · rw [if_neg hi];exact h4.slot i
 obtain⟨r,H',σ',v,w',M,q,st,q1,q2,q3,q5⟩:=h _ w a b cs m (h1.mono hpre.n0 hev.c hpre.lt) (hpre.go hr hf hev)
 exact⟨r,H',σ',v,w',M,q,st,q1,q2,q3,hev.transM q5 hpre.n0 hpre.m⟩

def nth {α:Type} [Inhabited α] (l:List α) (i:Nat):α:=(l[i]?).getD default

section nth
variable {α:Type} [Inhabited α]
theorem zfb {l:List α} {i:Nat} (h:i < l.length):l[i]? = some (nth l i):=by simp [nth,h]
theorem zf7 {l:List α} {i j:Nat} {x:α} (h:i=j) (hi:i < l.length):nth (l.set i x) j=x:=by subst h;simp [nth,hi]
theorem zf8 {l:List α} {i j:Nat} {x:α} (h:i≠j):nth (l.set i x) j=nth l j:=by simp [nth,List.getElem?_set_ne h]
theorem zg2 {x:α} {l:List α}:nth (x :: l) 0=x:=rfl
theorem zaM {l m:List α} {i:Nat} (h:i < l.length):nth (l++m) i=nth l i:=by simp [nth,List.getElem?_append_left h]
theorem zcm {l m:List α} {i:Nat} (h:l.length≤i):nth (l++m) i=nth m (i - l.length):=by simp [nth,List.getElem?_append_right h]
theorem zf9 {l:List α} {n i:Nat}:nth (l.drop n) i=nth l (n+i):=by simp [nth]
theorem zga {l:List α} {n i:Nat} (h:i < n):nth (l.take n) i=nth l i:=by simp [nth,h]
theorem zg3 {n i:Nat} {x:α} (h:i < n):nth (List.replicate n x) i=x:=by simp [nth,h]
theorem ziB {l m:List α} (hl:l.length=m.length) (h : ∀ i,i < l.length → nth l i=nth m i):l=m:=by
 refine List.ext_getElem? fun i => ?_
 by_cases hi:i < l.length
 · rw [zfb hi,zfb (by omega),h i hi]
 · rw [List.getElem?_eq_none (by omega),List.getElem?_eq_none (by omega)]
end nth

def pl {α:Type} (f:α → PV) (l:List α):List PV:=l.map f
def cl {α:Type} (f:α → PV) (l:List α):List AV:=l.map fun x => .p (f x)

section rows
variable {α:Type} {f:α → PV} {l m:List α} {i n:Nat} {x:α}
theorem zbZ:(pl f l).length=l.length:=by simp [pl]
theorem zar:(cl f l).length=l.length:=by simp [cl]
theorem zKz [Inhabited α] (h:i < l.length):(pl f l)[i]? = some (f (nth l i)):=by simp [pl,nth,h]
theorem zKA [Inhabited α] (h:i < l.length):(cl f l)[i]? = some (.p (f (nth l i))):=by simp [cl,nth,h]
theorem zKB:(cl f l).set i (.p (f x))=cl f (l.set i x):=by simp [cl,List.map_set]
theorem znI:(pl f l).map AV.p=cl f l:=by simp [pl,cl]
theorem zpM:(pl f l).take n=pl f (l.take n):=by simp [pl,List.map_take]
theorem zpN:(pl f l).drop n=pl f (l.drop n):=by simp [pl,List.map_drop]
theorem zrR:pl f l++pl f m=pl f (l++m):=by simp [pl]
theorem zrS:cl f l++cl f m=cl f (l++m):=by simp [cl]
theorem zKC:pl f l++[f x]=pl f (l++[x]):=by simp [pl]
theorem zKD {y:α}:pl f l++[f x,f y]=pl f (l++[x,y]):=by simp [pl]
theorem pl_replicate:pl f (List.replicate n x)=List.replicate n (f x):=by simp [pl]
theorem cl_replicate:cl f (List.replicate n x)=List.replicate n (.p (f x)):=by simp [cl]
theorem zKE:List.replicate n (AV.p (f x))=cl f (List.replicate n x):=cl_replicate.symm
theorem zKF:List.replicate n (f x)=pl f (List.replicate n x):=pl_replicate.symm
theorem znJ:(pl f l).isEmpty=l.isEmpty:=by cases l<;>rfl
theorem zKG:pvs? (cl f l)=some (pl f l):=by
 induction l with
 | nil=>rfl
 | cons a l ih=>simp only [cl,pl,List.map_cons] at ih ⊢;simp [pvs?,AV.pv?,ih]
theorem zk2:zG (cl f l) = .p (.agg (pl f l)):=by unfold zG;rw [zKG]
theorem zhx:zo (.p (.agg (pl f l)))=some (cl f l):=by simp [zo,znI]
theorem zbX (h : ∀ x,(f x).weak=f x):(pl f l).map PV.weak=pl f l:=by simp [pl,Function.comp_def,h]
theorem zat (h : ∀ x,(f x).weak1=f x):(pl f l).map PV.weak1=pl f l:=by simp [pl,Function.comp_def,h]
theorem zc7 (h : ∀ x,(f x).cells=[f x]):flat (pl f l)=pl f l:=by
 unfold flat pl
 induction l with
 | nil=>rfl
 | cons a l ih=>simp [h,ih]
theorem zk3 (h:i+m.length≤l.length):setAt (cl f l) i (cl f m)=cl f (l.take i++m++l.drop (i+m.length)):=by
 rw [yQ _ _ _ (by simpa [zar] using h)]
 simp [cl]
theorem zrT (h:m.length=l.length):setAt (cl f l) 0 (cl f m)=cl f m:=by
 rw [zk3 (by omega)]
 simp [h]
theorem zal (hf : ∀ x,∀ b,zaU b [.p (f x)]=if b then some (.agg [f x]) else some (f x)) : ∀ {n:Nat} {l:List α},n≤l.length → yq false 1 n (cl f l)=some (pl f (l.take n))
 | 0,_,_=>by simp [yq,pl]
 | n+1,[],h=>by simp at h
 | n+1,a :: l,h=>by
  have:=zal hf (n:=n) (l:=l) (by simpa using h)
  simp only [cl,List.map_cons] at this ⊢
  simp [yq,hf,this,pl]
end rows

theorem zKH (i n:Nat):((i:Int) - (no_index (OfNat.ofNat n):Int)).toNat=i - OfNat.ofNat n:=by show ((i:Int) - (n:Int)).toNat=i - n;omega
theorem zKI (i n:Nat):((i:Int)+(no_index (OfNat.ofNat n):Int)).toNat=i+OfNat.ofNat n:=by show ((i:Int)+(n:Int)).toNat=i+n;omega
theorem zKJ (i n:Nat):((no_index (OfNat.ofNat n):Int)*(i:Int)).toNat=OfNat.ofNat n*i:=by show ((n:Int)*(i:Int)).toNat=n*i;rw [←Int.natCast_mul];omega
theorem znK (i n m:Nat):((no_index (OfNat.ofNat n):Int)*(i:Int)+(no_index (OfNat.ofNat m):Int)).toNat=OfNat.ofNat n*i+OfNat.ofNat m:=by show ((n:Int)*(i:Int)+(m:Int)).toNat=n*i+m;rw [←Int.natCast_mul];omega
theorem tn_mul_add' (i n m:Nat):((no_index (OfNat.ofNat n):Int)*(i:Int)+(m:Int)).toNat=OfNat.ofNat n*i+m:=by show ((n:Int)*(i:Int)+(m:Int)).toNat=n*i+m;rw [←Int.natCast_mul];omega
theorem zKK (i n:Nat):((i:Int) / (no_index (OfNat.ofNat n):Int)).toNat=i / OfNat.ofNat n:=by show ((i:Int) / (n:Int)).toNat=i / n;rw [←Int.natCast_ediv];exact Int.toNat_natCast _
theorem zKL (i n:Nat):((i:Int) % (no_index (OfNat.ofNat n):Int)).toNat=i % OfNat.ofNat n:=by show ((i:Int) % (n:Int)).toNat=i % n;rw [←Int.natCast_emod];exact Int.toNat_natCast _
theorem zuX {P:Program} {t:Nat} {env:Env} {H:Hp}:zcC P [.tmp t] env H=some (env t):=rfl
theorem zrU {P:Program} {env:Env} {H:Hp}:zcC P [] env H=some (.tup []):=rfl
theorem zrV {P:Program} {a:Nat} {t:TypeId} {env:Env} {H:Hp}:zcC P [.cell a t] env H=zaA P H t (env a):=by
 simp only [zcC,zaZ,zbW]
 cases zaA P H t (env a)<;>rfl
theorem zPs {n:Nat} {x:PV}:(AV.p x).out n=some (.p x.weak):=rfl
theorem zKM {n a v sz:Nat} {xs:List PV}:(AV.sl a v sz xs).out n=some (.p (.sl false sz xs)):=rfl
theorem zuY {n:Nat}:(AV.tup []).out n=some (.tup []):=rfl
theorem zuZ:decide True=true:=by simp
theorem zrW:decide False=false:=by simp
theorem zRh {α:Type} {c:Prop} [Decidable c] {x y:α} (h:c):(if c then x else y)=x:=if_pos h
theorem zRi {α:Type} {c:Prop} [Decidable c] {x y:α} (h : ¬c):(if c then x else y)=y:=if_neg h
theorem zK {n:Nat} {H:Hp} {x:AB} (h:Bel n H) (hn:n≤H.n):Bel n (H.new x):=(Bel.new hn).2 h
theorem za0 {n b:Nat} {H:Hp} {x:AB} (h:Bel n H) (hn:n≤b):Bel n (H.set b x):=(Bel.set_hi hn).2 h
theorem zae {α:Type} {f:α → PV} {l:List α} {n b:Nat} {H:Hp} (h:Bel n H):Bel n (H.set b (.cells (cl f l))):=h.set_cells fun x hx=>by
 simp only [cl,List.mem_map] at hx
 obtain⟨a,_,rfl⟩:=hx
 exact .p _
theorem zk4 {α:Type} {l:List α} {n:Nat} (h:n≤l.length):(l.take n).length=n:=List.length_take_of_le h
theorem zu0 {n:Int}:AV.p (.s (.int .i64 n)) = .p (i64 n):=rfl
theorem zrX {xs:List PV}:(PV.agg xs).cells=xs:=rfl
theorem zrY {xs:List PV}:(PV.agg xs).isAgg=true:=rfl
theorem isAggV_agg {xs:List PV}:(AV.p (.agg xs)).isAggV=true:=rfl
theorem set_same {H:Hp} {b:Nat} {x:AB} (h:H.f b=some x):H.set b x=H:=by
 cases H with | mk f n wf =>
 simp only [Hp.set,Hp.mk.injEq,and_true]
 funext c
 by_cases hc:c=b∧b < n
 · rw [if_pos hc,hc.1];exact h.symm
 · rw [if_neg hc]
theorem set_set' {H:Hp} {b:Nat} {x y:AB}:(H.set b x).set b y=H.set b y:=by
 cases H with | mk f n wf =>
 simp only [Hp.set,Hp.mk.injEq,and_true]
 funext c
 by_cases hc:c=b∧b < n
 · simp [hc]
 · simp [hc]
theorem zBM:pvs? []=some []:=rfl
theorem zu1 {x:PV} {xs:List AV}:pvs? (.p x :: xs)=(pvs? xs).map (x :: ·):=by
 simp only [pvs?,AV.pv?]
 cases pvs? xs<;>rfl
theorem zu2 {fl:Bool} {sz:Nat} {xs:List PV}:(PV.sl fl sz xs).cells=[.sl fl sz xs]:=rfl
theorem zPt:(false == false)=true:=rfl
theorem zPu:(false == true)=false:=rfl
theorem zPv:(true == false)=false:=rfl
theorem zPw:(true == true)=true:=rfl
theorem zg4:(true=false)=False:=by simp
theorem take_one {α:Type} [Inhabited α] {l:List α} {i:Nat} (h:i < l.length):l.take i++[nth l i]=l.take (i+1):=by
 rw [List.take_succ_eq_append_getElem h]
 simp [nth,h]
def zcz (P:Program) (t:TypeId) (k:IntKind) (n:Nat):Bool :=
 match P.underlying t with
 | some (.array m e)=>(match P.underlying e with | some (.int k')=>k' == k | _=>false) && m == n && P.cellsOf e == 1 && P.cellsOf t == n && P.keyTypeAt 64 t && !P.eqGuardType P.depth t && zg P t
 | _=>false

theorem mapM_flat {α:Type} (g:Nat → Option (List α)) (h:Nat → α) : ∀ (l:List Nat),(∀ i∈l,g i=some [h i]) → (l.mapM g).map List.flatten=some (l.map h)
 | [],_=>rfl
 | i :: l,hg=>by
  have ih:=mapM_flat g h l (fun j hj=>hg j (by simp [hj]))
  simp only [List.mapM_cons,hg i (by simp)]
  cases hm:l.mapM g with
  | none=>simp [hm] at ih
  | some ls =>
   simp only [hm,Option.map_some,Option.some.injEq] at ih
   simp [ih]

theorem zdH {α:Type} [Inhabited α] {P:Program} {t:TypeId} {k:IntKind} (z:α → Int) (hz : ∀ x,(Lit.int k (z x)).wf=true) (l:List α) (h:zcz P t k l.length=true) :
 P.keyLits 64 t (l.map fun x=>Value.int k (z x))=some (l.map fun x=>Lit.int k (z x)):=by
 unfold zcz at h
 split at h
 case h_2=>cases h
 rename_i m e hu
 simp only [Bool.and_eq_true,beq_iff_eq] at h
 obtain⟨⟨⟨⟨⟨⟨h1,h2⟩,h3⟩,h4⟩,_⟩,_⟩,_⟩:=h
 split at h1
 case h_2=>cases h1
 rename_i k' hk
 have hk':k'=k:=by simpa using h1
 subst hk' h2
 unfold Program.keyLits
 simp only [hu,List.length_map,h4,if_true]
 have hm:=mapM_flat (fun i=>P.keyLits 63 e (((l.map fun x=>Value.int k' (z x)).drop (i*P.cellsOf e)).take (P.cellsOf e))) (fun i=>Lit.int k' (z (nth l i))) (List.range l.length) (fun i hi=>by
  have hi':i < l.length:=List.mem_range.1 hi
  have e1:((l.map fun x=>Value.int k' (z x)).drop (i*P.cellsOf e)).take (P.cellsOf e)=[Value.int k' (z (nth l i))]:=by
   rw [h3,Nat.mul_one,List.take_one]
   simp [nth,hi']
  simp only [e1]
  unfold Program.keyLits
  simp [hk,hz])
 rw [hm]
 congr 1
 refine List.ext_getElem? fun i => ?_
 by_cases hi:i < l.length
 · simp [hi,nth]
 · simp [Nat.le_of_not_lt hi]

theorem zdq {α:Type} (z:α → Value) : ∀ (l:List α),zbG (l.map fun x=>PV.s (z x))=some (l.map z)
 | []=>rfl
 | x :: l=>by simp [zbG,zdq z l]

theorem znL {α:Type} [Inhabited α] {P:Program} {t:TypeId} {k:IntKind} (z:α → Int) (hz : ∀ x,(Lit.int k (z x)).wf=true) (hi : ∀ x y,z x=z y → x=y) [DecidableEq α] (a b:List α) (h:zcz P t k a.length=true) (hb:b.length=a.length) :
 zcy P t (a.map fun x=>PV.s (.int k (z x))) (b.map fun x=>PV.s (.int k (z x)))=some (decide (a=b)):=by
 have hb':zcz P t k b.length=true:=by rw [hb];exact h
 have h2:=h
 unfold zcz at h2
 split at h2
 case h_2=>cases h2
 simp only [Bool.and_eq_true,Bool.not_eq_true'] at h2
 obtain⟨⟨⟨_,h5⟩,h6⟩,h7⟩:=h2
 unfold zcy
 rw [zdq,zdq,if_pos (by simp [h5,h6,h7])]
 simp only [zdH z hz a h,zdH z hz b hb',Option.some.injEq,decide_eq_decide]
 constructor
 · intro e
   refine ziB hb.symm fun i hi' => ?_
   have:=congrArg (fun l:List Lit=>l[i]?) e
   simp only [List.getElem?_map,zfb hi',zfb (show i < b.length by omega),Option.map_some,Option.some.injEq,Lit.int.injEq,true_and] at this
   exact hi _ _ this
 · intro e;rw [e]

theorem zJW {P:Program} {t:TypeId} {a b:List (BitVec 8)} (h:zcz P t .u8 a.length=true) (hb:b.length=a.length):zi P .eql t (.p (.agg (pl b8 a))) (.p (.agg (pl b8 b)))=some (.p (bo (decide (a=b)))):=by
 have:=znL (P:=P) (t:=t) (k := .u8) (fun x:BitVec 8=>(x.toNat:Int)) (fun x=>by have:=x.isLt;simp only [Lit.wf,Bool.and_eq_true,decide_eq_true_eq];exact⟨by show (0:Int)≤_;omega,by show _≤(255:Int);omega⟩) (fun x y e=>BitVec.eq_of_toNat_eq (by omega)) a b h hb
 show (zcy P t (a.map b8) (b.map b8)).map _=_
 have e1:(b8:BitVec 8 → PV)=fun x=>PV.s (.int .u8 x.toNat):=rfl
 rw [e1,this]
 rfl
theorem zrZ {cs:List AV} {o:Nat} {x:AV}:setAt cs o [x]=cs.set o x:=rfl
theorem zH {cs xs:List AV} (h:xs.length=cs.length):setAt cs 0 xs=xs:=by rw [yQ _ _ _ (by omega)];simp [h]
theorem znM {α:Type} {l:List α} {n:Nat} (h:l.length≤n):l.take n=l:=List.take_of_length_le h
theorem zr0 {α:Type} {l:List α}:l.drop 0=l:=rfl
theorem zu3 (n:Nat):((no_index (OfNat.ofNat n:Nat):Nat):Int)=(OfNat.ofNat n:Int):=rfl
theorem zr1 {p:Nat → Option (Nat × Nat)} {cs:List AV}:ye p cs []=some cs:=rfl
theorem zk5 {l:List (BitVec 8)}:(pl b8 l).map PV.weak1=pl b8 l:=zat fun _=>zjD _
theorem znN {l:List (BitVec 8)}:(pl b8 l).map PV.weak=pl b8 l:=zbX fun _=>zpK _
theorem ziC {l:List (BitVec 16)}:(pl yd l).map PV.weak1=pl yd l:=zat fun _=>zhu _
theorem zk6 {l:List (BitVec 16)}:(pl yd l).map PV.weak=pl yd l:=zbX fun _=>zjE _
theorem ziD {l:List (BitVec 32)}:(pl zC l).map PV.weak1=pl zC l:=zat fun _=>zhv _
theorem zk7 {l:List (BitVec 32)}:(pl zC l).map PV.weak=pl zC l:=zbX fun _=>zjF _
theorem ziE {l:List (BitVec 64)}:(pl zw l).map PV.weak1=pl zw l:=zat fun _=>zhw _
theorem zk8 {l:List (BitVec 64)}:(pl zw l).map PV.weak=pl zw l:=zbX fun _=>zjG _
theorem ziF {l:List Int}:(pl i64 l).map PV.weak1=pl i64 l:=zat fun _=>zht _
theorem zk9 {l:List Int}:(pl i64 l).map PV.weak=pl i64 l:=zbX fun _=>zjB _
theorem zla {l:List Bool}:(pl bo l).map PV.weak1=pl bo l:=zat fun _=>zjC _
theorem znO {l:List Bool}:(pl bo l).map PV.weak=pl bo l:=zbX fun _=>zpJ _
theorem zlb {n:Nat} {l:List (BitVec 8)} (h:n≤l.length):yq false 1 n (cl b8 l)=some (pl b8 (l.take n)):=zal (fun x b=>by cases b<;>rfl) h
theorem zpO {l:List (BitVec 8)}:flat (pl b8 l)=pl b8 l:=zc7 fun _=>rfl
theorem ziG {n:Nat} {l:List (BitVec 16)} (h:n≤l.length):yq false 1 n (cl yd l)=some (pl yd (l.take n)):=zal (fun x b=>by cases b<;>rfl) h
theorem zu4 {l:List (BitVec 16)}:flat (pl yd l)=pl yd l:=zc7 fun _=>rfl
theorem ziH {n:Nat} {l:List (BitVec 32)} (h:n≤l.length):yq false 1 n (cl zC l)=some (pl zC (l.take n)):=zal (fun x b=>by cases b<;>rfl) h
theorem zu5 {l:List (BitVec 32)}:flat (pl zC l)=pl zC l:=zc7 fun _=>rfl
theorem ziI {n:Nat} {l:List (BitVec 64)} (h:n≤l.length):yq false 1 n (cl zw l)=some (pl zw (l.take n)):=zal (fun x b=>by cases b<;>rfl) h
theorem zu6 {l:List (BitVec 64)}:flat (pl zw l)=pl zw l:=zc7 fun _=>rfl
theorem ziJ {n:Nat} {l:List Int} (h:n≤l.length):yq false 1 n (cl i64 l)=some (pl i64 (l.take n)):=zal (fun x b=>by cases b<;>rfl) h
theorem zu7 {l:List Int}:flat (pl i64 l)=pl i64 l:=zc7 fun _=>rfl
theorem zlc {n:Nat} {l:List Bool} (h:n≤l.length):yq false 1 n (cl bo l)=some (pl bo (l.take n)):=zal (fun x b=>by cases b<;>rfl) h
theorem zBN {l:List Bool}:flat (pl bo l)=pl bo l:=zc7 fun _=>rfl
attribute [go_sem] zlb zpO ziG zu4 ziH zu5 ziI zu6 ziJ zu7 zlc zBN zk3
attribute [go_sem] zJW zPt zPu zPv zPw zg4 take_one and_self List.getElem?_toArray List.range_zero List.cons.injEq zBM zu1 zu2 List.all_cons List.all_nil set_set' false_implies true_implies zu0 zrX zrY isAggV_agg true_or or_true false_or or_false false_and and_false not_true_eq_false not_false_eq_true zk4 List.length_drop Nat.add_sub_cancel_left
attribute [go_sem] zk5 znN ziC zk6 ziD zk7 ziE zk8 ziF zk9 zla znO zuZ zrW zRh zRi zuX zrU zrV zPs zKM zuY zr1 zrZ zH znM zr0 zu3 Int.natCast_add Int.natCast_mul zar zbZ zKA zKz zKB znI zk2 zhx zKC zKD zrR zrS zpM zpN zKE zKF zrT List.length_set znJ zKH zKI zKJ znK tn_mul_add' zKK zKL
end Go.AL
