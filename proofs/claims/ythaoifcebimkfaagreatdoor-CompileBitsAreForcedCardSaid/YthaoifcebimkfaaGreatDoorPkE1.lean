/- Proofs. -/
import Derived.WalkKit
import Derived.TacticsIn
import Derived.RangeFuncRecord
import Derived.Great.FillDense
import Derived.Great.BuildSlice
set_option linter.unusedSimpArgs false
set_option linter.unusedVariables false
namespace Go.AL
open Go

inductive PV where
 | s (v:Value)
 | agg (xs:List PV)
 | sl (full:Bool) (sz:Nat) (xs:List PV)

def PV.cells:PV → List PV
 | .agg xs=>xs
 | x=>[x]

def flat (xs:List PV):List PV:=xs.flatMap PV.cells

inductive AV where
 | p (x:PV)
 | sl (a v:Nat) (sz:Nat) (xs:List PV)
 | ref (b off len sz:Nat)
 | ptr (b off:Nat)
 | ip (sz:Nat) (xs:List PV) (i sub:Nat)
 | clo (fn:FuncId) (first captured:List AV)
 | tup (xs:List AV)
 | agg (xs:List AV)
 | yld (b:Nat)
 | mp (b:Nat)
 | vr (b len sz:Nat)
 | vp (b k off:Nat)
 | top

def zGv (ks:List Value) (us:Array Value) (o:Obj):Prop :=
 ∃ (es:Array MapEntry) (clock:Nat),o = .map es clock∧es.toList.map (·.key)=ks∧es.toList.map (·.val)=us.toList∧ks.Nodup∧(es.toList.map (·.born)).Nodup ∧ ∀ e∈es.toList,e.born < clock

structure OS where
 ok:Array Value → Obj → Prop
 ks:Option (List Value)
 map : ∀ l,ks=some l → ∀ us o,ok us o → zGv l us o

instance:CoeFun OS (fun _=>Array Value → Obj → Prop):=⟨OS.ok⟩

inductive AB where
 | cells (cs:List AV)
 | tl (v:Nat) (c:Option (List AV))
 | obj (vals:List AV) (S:OS)
 | dead

abbrev AB.tail (v:Nat):AB := .tl v none
abbrev AB.vec (cs:List AV):AB := .tl cs.length (some cs)

def zgb (ks:List Value):OS:=⟨zGv ks,some ks,fun l h us o ho=>by cases h;exact ho⟩
def AB.mapB (m:List (Value × AV)):AB := .obj (m.map (·.2)) (zgb (m.map (·.1)))

def ze2:Obj → Bool
 | .cells .. => false
 | _=>true

structure Hp where
 f:Nat → Option AB
 n:Nat
 wf : ∀ b,n≤b → f b=none
 z:Nat → Option (Nat × List PV)

structure Gh where
 c:Nat → Nat
 t:Nat → Option (Nat × Nat × Nat)

def Stable (σ:Gh) (H:Hp) (g o:Nat):Prop :=
 (∀ b cs,H.f b=some (.cells cs) → σ.c b≠g)∧(∀ b v c o' s,H.f b=some (.tl v c) → σ.t b=some (g,o',s) → o < o')

structure Free (σ:Gh) (H:Hp) (g:Nat):Prop where
 c : ∀ b cs,H.f b=some (.cells cs) → σ.c b≠g
 t : ∀ b v c o' s,H.f b=some (.tl v c) → σ.t b≠some (g,o',s)
 o : ∀ b vs S,H.f b=some (.obj vs S) → σ.c b≠g

theorem Free.stable {σ:Gh} {H:Hp} {g:Nat} (h:Free σ H g) (o:Nat):Stable σ H g o :=
 ⟨h.1,fun b v c o' s hb ht=>absurd ht (h.2 b v c o' s hb)⟩

inductive RelP (w:World) (S:Nat → Nat → Prop):PV → Value → Prop
 | s (v:Value) (h1:v.oneCell'=true):RelP w S (.s v) v
 | agg (xs:List PV) (vs:Array Value) (hl:vs.size=xs.length) (h1 : ∀ (i:Nat) v,vs[i]? = some v → v.oneCell'=true)
  (h : ∀ (i:Nat) x v,xs[i]? = some x → vs[i]? = some v → RelP w S x v):RelP w S (.agg xs) (.agg vs)
 | emp (fl:Bool) (sz:Nat) (a:Option Addr) (cap:Nat) (h:fl=true → cap=0) (hc:cap≤maxLen):RelP w S (.sl fl sz []) (.slice a 0 cap)
 | sl (fl:Bool) (sz:Nat) (xs:List PV) (g off cap:Nat) (f:Nat → Value) (hfl:fl=true → cap=xs.length) (hcap:xs.length≤cap∧cap≤maxLen)
  (hsz : ∀ x∈xs,x.cells.length=sz)
  (hrd : ∀ k,k < xs.length*sz → S g (off+k)∧w.cell? ⟨g,off+k,none⟩=some (f k)∧(f k).oneCell'=true)
  (hc : ∀ (k:Nat) y,(flat xs)[k]? = some y → RelP w S y (f k)):RelP w S (.sl fl sz xs) (.slice (some ⟨g,off,none⟩) xs.length cap)

theorem RelP.nil {w:World} {S:Nat → Nat → Prop} (fl:Bool) (sz:Nat):RelP w S (.sl fl sz []) (.slice none 0 0) := .emp fl sz none 0 (fun _=>rfl) (Nat.zero_le _)

theorem RelP.mono {w w':World} {S S':Nat → Nat → Prop} (h : ∀ g o v,S g o → w.cell? ⟨g,o,none⟩=some v → S' g o∧w'.cell? ⟨g,o,none⟩=some v)
 {x:PV} {v:Value} (r:RelP w S x v):RelP w' S' x v:=by
 induction r with
 | s v h1=>exact .s v h1
 | agg xs vs hl h1 _ ih=>exact .agg xs vs hl h1 ih
 | emp fl sz a cap h hc=>exact .emp fl sz a cap h hc
 | sl fl sz xs g off cap f hfl hcap hsz hrd hc ih =>
  exact .sl fl sz xs g off cap f hfl hcap hsz (fun k hk=>let q:=h _ _ _ (hrd k hk).1 (hrd k hk).2.1;⟨q.1,q.2,(hrd k hk).2.2⟩) ih

theorem RelP.sl_inv {w:World} {S:Nat → Nat → Prop} {fl:Bool} {sz:Nat} {xs:List PV} {g off len cap:Nat} (h:RelP w S (.sl fl sz xs) (.slice (some ⟨g,off,none⟩) len cap)) :
 len=xs.length ∧ ∃ f:Nat → Value,(fl=true → cap=xs.length)∧(xs.length≤cap∧cap≤maxLen)∧(∀ x∈xs,x.cells.length=sz) ∧
  (∀ k,k < xs.length*sz → S g (off+k)∧w.cell? ⟨g,off+k,none⟩=some (f k)∧(f k).oneCell'=true) ∧ ∀ (k:Nat) y,(flat xs)[k]? = some y → RelP w S y (f k):=by
 cases h with
 | emp fl sz a cap h hc=>exact⟨rfl,fun _ => .nilFunc,h,⟨Nat.zero_le _,hc⟩,by simp,fun k hk=>by simp at hk,fun k y hk=>by simp [flat] at hk⟩
 | sl fl sz xs g off cap f hfl hcap hsz hrd hc=>exact⟨rfl,f,hfl,hcap,hsz,hrd,hc⟩

def TailOK (σ:Gh) (H:Hp) (α k:Nat) (sz:Nat) (v:Value):Prop :=
 α < H.n ∧ ∀ k0 c,H.f α=some (.tl k0 c) → k≤k0∧(k=k0 →
  (∃ a n,v = .slice a n n∧σ.t α=none) ∨
  ∃ g off len cap s,v = .slice (some ⟨g,off,none⟩) len cap∧σ.t α=some (g,off+len*sz,s)∧off+cap*sz≤s)

def zlH (a:Option Addr) (len:Nat):Prop:=0 < len → a.isSome=true

def VecOK (σ:Gh) (H:Hp) (b len:Nat) (sz:Nat) (v:Value):Prop :=
 b < H.n ∧ ∃ a cap,v = .slice a len cap∧zlH a len ∧ ∀ k0 c,H.f b=some (.tl k0 c) → len*sz≤k0∧(len*sz=k0 →
  (len=0∧cap=0∧σ.t b=none) ∨
  ∃ g s,a=some ⟨g,0,none⟩∧σ.t b=some (g,0,s)∧cap*sz≤s∧len≤cap∧cap≤maxLen)

def VpOK (σ:Gh) (H:Hp) (b k off:Nat) (a:Addr):Prop :=
 b < H.n ∧ ∀ k0 c,H.f b=some (.tl k0 c) → k≤k0∧(k=k0 → ∃ g s,σ.t b=some (g,0,s)∧a=⟨g,off,none⟩)

inductive RelV (σ:Gh) (H:Hp) (w:World):AV → Value → Prop
 | p {x v} (h:RelP w (Stable σ H) x v):RelV σ H w (.p x) v
 | sl {α k sz xs v} (h:RelP w (Stable σ H) (.sl false sz xs) v) (ht:TailOK σ H α k sz v):RelV σ H w (.sl α k sz xs) v
 | ref {b off len sz cap} (a:Addr) (h0 : ∃ g o,a=⟨g,o,none⟩) (hb:b < H.n) (hcap:len≤cap∧cap≤maxLen) (ha:0 < len → a=⟨σ.c b,off,none⟩):RelV σ H w (.ref b off len sz) (.slice (some a) len cap)
 | ptr {b off} (hb:b < H.n):RelV σ H w (.ptr b off) (.pointer (some ⟨σ.c b,off,none⟩))
 | ip {sz xs i sub g off cap} (h:RelP w (Stable σ H) (.sl false sz xs) (.slice (some ⟨g,off,none⟩) xs.length cap)) (hi:i < xs.length) (hs:sub < sz) :
  RelV σ H w (.ip sz xs i sub) (.pointer (some ⟨g,off+i*sz+sub,none⟩))
 | clo {fn first captured} (fs cs:Array Value) (hf:fs.size=first.length) (hc:cs.size=captured.length)
  (h1 : ∀ (i:Nat) x v,first[i]? = some x → fs[i]? = some v → RelV σ H w x v)
  (h2 : ∀ (i:Nat) x v,captured[i]? = some x → cs[i]? = some v → RelV σ H w x v):RelV σ H w (.clo fn first captured) (.func (.func fn) fs cs)
 | tup {xs} (vs:Array Value) (hl:vs.size=xs.length) (h : ∀ (i:Nat) x v,xs[i]? = some x → vs[i]? = some v → RelV σ H w x v):RelV σ H w (.tup xs) (.tuple vs)
 | agg {xs} (vs:Array Value) (hl:vs.size=xs.length) (h1 : ∀ (i:Nat) v,vs[i]? = some v → v.oneCell'=true) (h : ∀ (i:Nat) x v,xs[i]? = some x → vs[i]? = some v → RelV σ H w x v):RelV σ H w (.agg xs) (.agg vs)
 | yld {b} (hb:b < H.n):RelV σ H w (.yld b) (.func (.yield (σ.c b)) #[] #[])
 | mp {b} (hb:b < H.n):RelV σ H w (.mp b) (.map (some (σ.c b)))
 | vr {b len sz v} (h:VecOK σ H b len sz v):RelV σ H w (.vr b len sz) v
 | vp {b k off} (a:Addr) (h:VpOK σ H b k off a):RelV σ H w (.vp b k off) (.pointer (some a))
 | top (v:Value):RelV σ H w .top v

structure EvM (n0 m:Nat) (σ:Gh) (H:Hp) (w:World) (σ':Gh) (H':Hp) (w':World):Prop where
 cell : ∀ g o v,Stable σ H g o → w.cell? ⟨g,o,none⟩=some v → Stable σ' H' g o∧w'.cell? ⟨g,o,none⟩=some v
 c : ∀ b,b < n0 → σ'.c b=σ.c b
 hn:n0≤H'.n
 t : ∀ b,b < n0 → ∀ k' c',H'.f b=some (.tl k' c') → ∃ k c,H.f b=some (.tl k c)∧k≤k'∧(k=k' → σ'.t b=σ.t b)
 size:w.heap.size≤w'.heap.size
 blk : ∀ g,g < m → Free σ H g → w'.heap[g]? = w.heap[g]? ∧ Free σ' H' g
 os:w'.os=w.os
 out:w'.output=w.output

abbrev Ev (n0:Nat) (σ:Gh) (H:Hp) (w:World) (σ':Gh) (H':Hp) (w':World):Prop:=EvM n0 w.heap.size σ H w σ' H' w'

theorem EvM.trans' {n0 n1 m m1 m2:Nat} {σ σ1 σ2:Gh} {H H1 H2:Hp} {w w1 w2:World} (h1:EvM n1 m1 σ H w σ1 H1 w1) (h2:EvM n0 m2 σ1 H1 w1 σ2 H2 w2) (hle:n0≤n1) (l1:m≤m1) (l2:m≤m2):EvM n0 m σ H w σ2 H2 w2 where
 cell g o v hs hc:=let ⟨a,b⟩:=h1.cell g o v hs hc;h2.cell g o v a b
 c b hb:=(h2.c b hb).trans (h1.c b (Nat.lt_of_lt_of_le hb hle))
 hn:=h2.hn
 t b hb k2 c2 hk2:=by
  obtain⟨k1,c1,e1,l1,q1⟩:=h2.t b hb k2 c2 hk2
  obtain⟨k,c,e,l,q⟩:=h1.t b (Nat.lt_of_lt_of_le hb hle) k1 c1 e1
  exact⟨k,c,e,Nat.le_trans l l1,fun hk=>by
   have a:k=k1:=by omega
   have b:k1=k2:=by omega
   rw [q1 b,q a]⟩
 size:=Nat.le_trans h1.size h2.size
 blk g hg hf:=by
  obtain⟨a,b⟩:=h1.blk g (Nat.lt_of_lt_of_le hg l1) hf
  obtain⟨a',b'⟩:=h2.blk g (Nat.lt_of_lt_of_le hg l2) b
  exact⟨a'.trans a,b'⟩
 os:=h2.os.trans h1.os
 out:=h2.out.trans h1.out

theorem EvM.trans {n0 n1:Nat} {σ σ1 σ2:Gh} {H H1 H2:Hp} {w w1 w2:World} (h1:Ev n1 σ H w σ1 H1 w1) (h2:Ev n0 σ1 H1 w1 σ2 H2 w2) (hle:n0≤n1):Ev n0 σ H w σ2 H2 w2 :=
 h1.trans' h2 hle (Nat.le_refl _) h1.size

theorem EvM.transM {n0 n1 m:Nat} {σ σ1 σ2:Gh} {H H1 H2:Hp} {w w1 w2:World} (h1:Ev n1 σ H w σ1 H1 w1) (h2:EvM n0 m σ1 H1 w1 σ2 H2 w2) (hle:n0≤n1) (hm:m≤w.heap.size):EvM n0 m σ H w σ2 H2 w2 :=
 h1.trans' h2 hle hm (Nat.le_refl _)

theorem EvM.weaken {n0 n1 m:Nat} {σ σ1:Gh} {H H1:Hp} {w w1:World} (h:EvM n1 m σ H w σ1 H1 w1) (hle:n0≤n1):EvM n0 m σ H w σ1 H1 w1 where
 cell:=h.cell
 c b hb:=h.c b (Nat.lt_of_lt_of_le hb hle)
 hn:=Nat.le_trans hle h.hn
 t b hb:=h.t b (Nat.lt_of_lt_of_le hb hle)
 size:=h.size
 blk:=h.blk
 os:=h.os
 out:=h.out


theorem Ev.refl {σ:Gh} {H:Hp} {w:World} {n0 m:Nat} (hn:n0≤H.n):EvM n0 m σ H w σ H w :=
 ⟨fun _ _ _ a b=>⟨a,b⟩,fun _ _=>rfl,hn,fun _ _ k c hk=>⟨k,c,hk,Nat.le_refl _,fun _=>rfl⟩,Nat.le_refl _,fun _ _ h=>⟨rfl,h⟩,rfl,rfl⟩

theorem TailOK.mono {m:Nat} {σ σ':Gh} {H H':Hp} {w w':World} (h:EvM H.n m σ H w σ' H' w') {α k sz v} (r:TailOK σ H α k sz v):TailOK σ' H' α k sz v:=by
 obtain⟨hα,hr⟩:=r
 refine⟨Nat.lt_of_lt_of_le hα h.hn,fun k' c' hk' => ?_⟩
 obtain⟨k0,c0,e0,l0,q0⟩:=h.t α hα k' c' hk'
 obtain⟨l1,q1⟩:=hr k0 c0 e0
 refine⟨Nat.le_trans l1 l0,fun hkk => ?_⟩
 have e1:k=k0:=by omega
 have e2:k0=k':=by omega
 rw [q0 e2];exact q1 e1

theorem VecOK.mono {m:Nat} {σ σ':Gh} {H H':Hp} {w w':World} (h:EvM H.n m σ H w σ' H' w') {b len sz v} (r:VecOK σ H b len sz v):VecOK σ' H' b len sz v:=by
 obtain⟨hb,a,cap,rfl,hs,hr⟩:=r
 refine⟨Nat.lt_of_lt_of_le hb h.hn,a,cap,rfl,hs,fun k' c' hk' => ?_⟩
 obtain⟨k0,c0,e0,l0,q0⟩:=h.t b hb k' c' hk'
 obtain⟨l1,q1⟩:=hr k0 c0 e0
 refine⟨Nat.le_trans l1 l0,fun hkk => ?_⟩
 have e1:len*sz=k0:=by omega
 have e2:k0=k':=by omega
 rw [q0 e2];exact q1 e1

theorem VpOK.mono {m:Nat} {σ σ':Gh} {H H':Hp} {w w':World} (h:EvM H.n m σ H w σ' H' w') {b k off a} (r:VpOK σ H b k off a):VpOK σ' H' b k off a:=by
 obtain⟨hb,hr⟩:=r
 refine⟨Nat.lt_of_lt_of_le hb h.hn,fun k' c' hk' => ?_⟩
 obtain⟨k0,c0,e0,l0,q0⟩:=h.t b hb k' c' hk'
 obtain⟨l1,q1⟩:=hr k0 c0 e0
 refine⟨Nat.le_trans l1 l0,fun hkk => ?_⟩
 have e1:k=k0:=by omega
 have e2:k0=k':=by omega
 rw [q0 e2];exact q1 e1

theorem RelV.mono {m:Nat} {σ σ':Gh} {H H':Hp} {w w':World} (h:EvM H.n m σ H w σ' H' w') {x v} (r:RelV σ H w x v):RelV σ' H' w' x v:=by
 induction r with
 | p hp=>exact .p (hp.mono h.cell)
 | sl hp ht=>exact .sl (hp.mono h.cell) (ht.mono h)
 | ref a h0 hb hcap ha=>exact .ref a h0 (Nat.lt_of_lt_of_le hb h.hn) hcap (fun hl=>by rw [h.c _ hb];exact ha hl)
 | ptr hb=>rw [←h.c _ hb];exact .ptr (Nat.lt_of_lt_of_le hb h.hn)
 | ip hp hi hs=>exact .ip (hp.mono h.cell) hi hs
 | clo fs cs hf hc _ _ ih1 ih2=>exact .clo fs cs hf hc ih1 ih2
 | tup vs hl _ ih=>exact .tup vs hl ih
 | agg vs hl h1 _ ih=>exact .agg vs hl h1 ih
 | yld hb=>rw [←h.c _ hb];exact .yld (Nat.lt_of_lt_of_le hb h.hn)
 | mp hb=>rw [←h.c _ hb];exact .mp (Nat.lt_of_lt_of_le hb h.hn)
 | vr hp=>exact .vr (hp.mono h)
 | vp a hp=>exact .vp a (hp.mono h)
 | top v=>exact .top v

def RelC (σ:Gh) (H:Hp) (w:World) (x:AV) (v:Value):Prop:=RelV σ H w x v∧v.oneCell'=true

theorem RelC.mono {m:Nat} {σ σ':Gh} {H H':Hp} {w w':World} (h:EvM H.n m σ H w σ' H' w') {x v} (r:RelC σ H w x v):RelC σ' H' w' x v:=⟨r.1.mono h,r.2⟩

def RelVs (σ:Gh) (H:Hp) (w:World) (xs:List AV) (vs:Array Value):Prop :=
 vs.size=xs.length ∧ ∀ (i:Nat) x v,xs[i]? = some x → vs[i]? = some v → RelV σ H w x v

theorem RelVs.mono {m:Nat} {σ σ':Gh} {H H':Hp} {w w':World} (h:EvM H.n m σ H w σ' H' w') {xs vs} (r:RelVs σ H w xs vs):RelVs σ' H' w' xs vs :=
 ⟨r.1,fun i x v a b=>(r.2 i x v a b).mono h⟩

inductive BelowN (n:Nat):AV → Prop
 | p (x:PV):BelowN n (.p x)
 | sl (a v sz:Nat) (xs:List PV) (h:a < n):BelowN n (.sl a v sz xs)
 | ref (b off len sz:Nat) (h:b < n):BelowN n (.ref b off len sz)
 | ptr (b off:Nat) (h:b < n):BelowN n (.ptr b off)
 | ip (sz:Nat) (xs:List PV) (i sub:Nat):BelowN n (.ip sz xs i sub)
 | clo (fn:FuncId) (first captured:List AV) (h1 : ∀ (i:Nat) x,first[i]? = some x → BelowN n x) (h2 : ∀ (i:Nat) x,captured[i]? = some x → BelowN n x):BelowN n (.clo fn first captured)
 | tup (xs:List AV) (h : ∀ (i:Nat) x,xs[i]? = some x → BelowN n x):BelowN n (.tup xs)
 | agg (xs:List AV) (h : ∀ (i:Nat) x,xs[i]? = some x → BelowN n x):BelowN n (.agg xs)
 | yld (b:Nat) (h:b < n):BelowN n (.yld b)
 | mp (b:Nat) (h:b < n):BelowN n (.mp b)
 | vr (b len sz:Nat) (h:b < n):BelowN n (.vr b len sz)
 | vp (b k off:Nat) (h:b < n):BelowN n (.vp b k off)
 | top:BelowN n .top

theorem RelV.belowN {σ:Gh} {H:Hp} {w:World} {x:AV} {v:Value} (r:RelV σ H w x v):BelowN H.n x:=by
 induction r with
 | p h=>exact .p _
 | sl h ht=>exact .sl _ _ _ _ ht.1
 | ref a h0 hb=>exact .ref _ _ _ _ hb
 | ptr hb=>exact .ptr _ _ hb
 | ip h=>exact .ip _ _ _ _
 | clo fs cs hf hc h1 h2 ih1 ih2 =>
  refine .clo _ _ _ (fun i x hx => ?_) (fun i x hx => ?_)
  · have hlt:i < fs.size:=by rw [hf];exact (List.getElem?_eq_some_iff.1 hx).1
    exact ih1 i x fs[i] hx (by simp)
  · have hlt:i < cs.size:=by rw [hc];exact (List.getElem?_eq_some_iff.1 hx).1
    exact ih2 i x cs[i] hx (by simp)
 | tup vs hl h ih =>
  refine .tup _ fun i x hx => ?_
  have hlt:i < vs.size:=by rw [hl];exact (List.getElem?_eq_some_iff.1 hx).1
  exact ih i x vs[i] hx (by simp)
 | agg vs hl h1 h ih =>
  refine .agg _ fun i x hx => ?_
  have hlt:i < vs.size:=by rw [hl];exact (List.getElem?_eq_some_iff.1 hx).1
  exact ih i x vs[i] hx (by simp)
 | yld hb=>exact .yld _ hb
 | mp hb=>exact .mp _ hb
 | vr h=>exact .vr _ _ _ h.1
 | vp a h=>exact .vp _ _ _ h.1
 | top v=>exact .top

def AB.vals:AB → List AV
 | .cells cs=>cs
 | .tl _ c=>c.getD []
 | .obj vs _=>vs
 | .dead=>[]

def Bel (n:Nat) (H:Hp):Prop := ∀ b x,b < n → H.f b=some x → ∀ y∈x.vals,BelowN n y

structure Globs where
 row:Nat → Option (Nat × List PV)
 map:Nat → Option (List (Value × AV))
instance:CoeFun Globs (fun _=>Nat → Option (Nat × List PV)):=⟨Globs.row⟩

def GMap (σ:Gh) (H:Hp) (w:World) (r:Nat) (m:List (Value × AV)):Prop :=
 (∃ (es:Array MapEntry) (clock:Nat),w.heap[r]? = some (.map es clock)∧es.size=m.length∧(m.map (·.1)).Nodup ∧ ∀ (j:Nat) e p,es[j]? = some e → m[j]? = some p → e.key=p.1∧RelV σ H w p.2 e.val)∧Free σ H r ∧ ∀ p∈m,∀ n,BelowN n p.2

theorem GMap.of {σ σ':Gh} {H H':Hp} {w w':World} {r:Nat} {m:List (Value × AV)} (h:GMap σ H w r m) (hw:w'.heap[r]? = w.heap[r]?) (hf:Free σ' H' r) (hv : ∀ x v,(∀ n,BelowN n x) → RelV σ H w x v → RelV σ' H' w' x v):GMap σ' H' w' r m:=by
 obtain⟨⟨es,clock,h1,h2,h3,h4⟩,h5,h6⟩:=h
 exact⟨⟨es,clock,hw.trans h1,h2,h3,fun j e p he hp=>⟨(h4 j e p he hp).1,hv _ _ (h6 p (List.mem_of_getElem? hp)) (h4 j e p he hp).2⟩⟩,hf,h6⟩
theorem GMap.lt {σ:Gh} {H:Hp} {w:World} {r:Nat} {m:List (Value × AV)} (h:GMap σ H w r m):r < w.heap.size:=by
 obtain⟨⟨es,clock,h1,_⟩,_⟩:=h
 exact (Array.getElem?_eq_some_iff.1 h1).1
theorem GMap.mono {σ σ':Gh} {H H':Hp} {w w':World} {r:Nat} {m:List (Value × AV)} (h:GMap σ H w r m) (hev:Ev H.n σ H w σ' H' w'):GMap σ' H' w' r m :=
 let ⟨a,b⟩:=hev.blk r h.lt h.2.1
 h.of a b fun _ _ _ q=>q.mono hev

def ZRow (σ:Gh) (H:Hp) (w:World) (g sz:Nat) (xs:List PV):Prop :=
 (∃ c e,w.heap[g]? = some (.cells c e (0,0)))∧Free σ H g∧RelV σ H w (.ip sz xs 0 0) (.pointer (some ⟨g,0,none⟩))
theorem ZRow.lt {σ:Gh} {H:Hp} {w:World} {g sz:Nat} {xs:List PV} (h:ZRow σ H w g sz xs):g < w.heap.size:=by
 obtain⟨⟨c,e,h⟩,_⟩:=h
 exact (Array.getElem?_eq_some_iff.1 h).1
theorem ZRow.of {σ σ':Gh} {H H':Hp} {w w':World} {g sz:Nat} {xs:List PV} (h:ZRow σ H w g sz xs) (hw:w'.heap[g]? = w.heap[g]?) (hf:Free σ' H' g) (hv:RelV σ H w (.ip sz xs 0 0) (.pointer (some ⟨g,0,none⟩)) → RelV σ' H' w' (.ip sz xs 0 0) (.pointer (some ⟨g,0,none⟩))):ZRow σ' H' w' g sz xs :=
 let ⟨⟨c,e,h1⟩,_,h3⟩:=h
 ⟨⟨c,e,hw.trans h1⟩,hf,hv h3⟩
theorem ZRow.mono {σ σ':Gh} {H H':Hp} {w w':World} {g sz:Nat} {xs:List PV} (h:ZRow σ H w g sz xs) (hev:Ev H.n σ H w σ' H' w'):ZRow σ' H' w' g sz xs :=
 let ⟨a,b⟩:=hev.blk g h.lt h.2.1
 h.of a b fun q=>q.mono hev

structure Rel (G:Globs) (σ:Gh) (H:Hp) (w:World):Prop where
 cells : ∀ b cs,H.f b=some (.cells cs) → ∃ c e,w.heap[σ.c b]? = some (.cells c e (0,0))∧cs.length≤c.size ∧ ∀ (i:Nat) x,cs[i]? = some x → ∃ v,c[i]? = some v∧RelC σ H w x v
 tail : ∀ b k d g o s,H.f b=some (.tl k d) → σ.t b=some (g,o,s) → ∃ c e,w.heap[g]? = some (.cells c e (0,0))∧c.size=s
 vec : ∀ b k cs,H.f b=some (.tl k (some cs)) → k=cs.length∧(σ.t b=none → cs=[]) ∧ ∀ g o s,σ.t b=some (g,o,s) → o=0∧cs.length≤s ∧ ∀ (i:Nat) x,cs[i]? = some x → ∃ v,w.cell? ⟨g,i,none⟩=some v∧RelC σ H w x v
 cc : ∀ b b' cs cs',H.f b=some (.cells cs) → H.f b'=some (.cells cs') → σ.c b=σ.c b' → b=b'
 ct : ∀ b b' cs k d g o s,H.f b=some (.cells cs) → H.f b'=some (.tl k d) → σ.t b'=some (g,o,s) → σ.c b≠g
 tt : ∀ b b' k d k' d' g o s o' s',H.f b=some (.tl k d) → H.f b'=some (.tl k' d') → σ.t b=some (g,o,s) → σ.t b'=some (g,o',s') → b=b'
 glob : ∀ g sz xs,G g=some (sz,xs) → RelV σ H w (.ip sz xs 0 0) (.pointer (some ⟨g,0,none⟩))
 objs : ∀ b vs S,H.f b=some (.obj vs S) → ∃ o us,w.heap[σ.c b]? = some o∧ze2 o=true∧RelVs σ H w vs us∧S us o
 oo : ∀ b b' vs vs' S S',H.f b=some (.obj vs S) → H.f b'=some (.obj vs' S') → σ.c b=σ.c b' → b=b'
 gm : ∀ r m,G.map r=some m → GMap σ H w r m
 z : ∀ g sz xs,H.z g=some (sz,xs) → ZRow σ H w g sz xs

theorem Rel.bel {G:Globs} {σ:Gh} {H:Hp} {w:World} (hr:Rel G σ H w):Bel H.n H:=fun b x _ hb y hy=>by
 obtain⟨i,hi⟩:=List.getElem?_of_mem hy
 cases x with
 | cells cs =>
  obtain⟨c,e,_,_,h⟩:=hr.cells b cs hb
  obtain⟨v,_,hv⟩:=h i y hi
  exact hv.1.belowN
 | tl k c =>
  cases c with
  | none=>cases hy
  | some cs =>
   obtain⟨_,h1,h2⟩:=hr.vec b k cs hb
   cases ht:σ.t b with
   | none =>
    have h1:=h1 ht;simp only [AB.vals,Option.getD_some,h1] at hy;cases hy
   | some q =>
    obtain⟨v,_,hv⟩:=(h2 q.1 q.2.1 q.2.2 ht).2.2 i y hi
    exact hv.1.belowN
 | dead=>cases hy
 | obj vs S =>
  obtain⟨o,us,_,_,hus,_⟩:=hr.objs b vs S hb
  have hlt:i < us.size:=by rw [hus.1];exact (List.getElem?_eq_some_iff.1 hi).1
  exact (hus.2 i y us[i] hi (by simp)).belowN

end Go.AL

namespace Go.AL
open Go

abbrev Env:=Nat → AV

def Env.put (env:Env) (d:Option Nat) (x:AV):Env :=
 match d with
 | some d=>fun i=>if i=d then x else env i
 | none=>env

structure Cx where
 P:Program
 G:Globs
 fid:FuncId
 nt:Nat
 n0:Nat
 raw:List Nat:=[]
 round:Option Nat:=none

def mark (r:Nat):Deferred := { target := .collected r,args := #[] }

structure RelF (nt m:Nat) (σ:Gh) (H:Hp) (w:World) (env:Env) (a:Act):Prop where
 defers : ∃ ms:List Nat,a.defers=ms.map mark∧ms.Nodup ∧ ∀ r∈ms,m≤r∧w.heap[r]? = some (.deferred (some []))∧Free σ H r
 size:a.tmps.size=nt
 slot : ∀ i,RelV σ H w (env i) (a.tmps.getD i undef)

theorem RelF.mono {nt m:Nat} {σ σ':Gh} {H H':Hp} {w w':World} {env a} (h:Ev H.n σ H w σ' H' w') (r:RelF nt m σ H w env a):RelF nt m σ' H' w' env a :=
 ⟨let ⟨ms,q1,q2,q3⟩:=r.defers;⟨ms,q1,q2,fun g hg=>let ⟨p1,p2,p3⟩:=q3 g hg;let ⟨e1,e2⟩:=h.blk g (Array.getElem?_eq_some_iff.1 p2).1 p3;⟨p1,e1.trans p2,e2⟩⟩,r.size,fun i=>(r.slot i).mono h⟩

theorem RelF.put {nt m:Nat} {σ:Gh} {H:Hp} {w:World} {env a} {d:Option Nat} {x:AV} {v:Value} (r:RelF nt m σ H w env a) (hd : ∀ i,d=some i → i < nt) (hv:RelV σ H w x v) :
 RelF nt m σ H w (env.put d x) (a.put d v):=by
 cases d with
 | none=>exact r
 | some d =>
  have hlt:d < a.tmps.size:=by rw [r.size];exact hd d rfl
  refine⟨r.defers,by simp [Act.put,r.size],fun i => ?_⟩
  simp only [Env.put,Act.put];by_cases hi:i=d
  · subst hi;rw [if_pos rfl]
    simpa [Array.getD_eq_getD_getElem?,hlt] using hv
  · rw [if_neg hi]
    have:=r.slot i
    simpa [Array.getD_eq_getD_getElem?,Array.getElem?_setIfInBounds_ne (Ne.symm hi)] using this

structure Pre (C:Cx) (σ:Gh) (H:Hp) (w:World) (env:Env) (a:Act) (m:Nat):Prop where
 rel:Rel C.G σ H w
 fr:RelF C.nt m σ H w env a
 n0:C.n0≤H.n
 m:m≤w.heap.size
 lt : ∀ l,C.round=some l → l < C.n0

structure Base (C:Cx) (σ:Gh) (b:Frame) (cs:List Frame):Prop where
 fn:b.fn=C.fid
 kind:b.kind = .normal
 ro:b.roundOf=C.round.map σ.c
 cs:C.round.isSome=true → cs≠[]

theorem round_eq {C:Cx} {σ σ':Gh} {n:Nat} (hn:C.n0≤n) (hc : ∀ b,b < n → σ'.c b=σ.c b) (hl : ∀ l,C.round=some l → l < C.n0):C.round.map σ'.c=C.round.map σ.c:=by
 cases h:C.round with
 | none=>rfl
 | some l=>simp only [Option.map_some];rw [hc l (Nat.lt_of_lt_of_le (hl l h) hn)]

theorem Base.mono {C:Cx} {σ σ':Gh} {b:Frame} {cs:List Frame} {n:Nat} (h:Base C σ b cs) (hn:C.n0≤n) (hc : ∀ b,b < n → σ'.c b=σ.c b) (hl : ∀ l,C.round=some l → l < C.n0):Base C σ' b cs :=
 ⟨h.fn,h.kind,by rw [round_eq hn hc hl];exact h.ro,h.cs⟩

theorem Pre.go {C:Cx} {σ σ':Gh} {H H':Hp} {w w':World} {env env':Env} {a a':Act} {m:Nat} (h:Pre C σ H w env a m) (hr:Rel C.G σ' H' w') (hf:RelF C.nt m σ' H' w' env' a') (hev:Ev H.n σ H w σ' H' w'):Pre C σ' H' w' env' a' m :=
 ⟨hr,hf,Nat.le_trans h.n0 hev.hn,Nat.le_trans h.m hev.size,h.lt⟩

def Fin (C:Cx) (cs:List Frame) (w':World) (v:Value) (M:Machine):Prop :=
 match C.round with
 | none => ∃ fr,M=lone fr cs w'∧fr.fn=C.fid∧fr.leaving C.P w' (.returned v)
 | some _ => ∃ c cs',cs=c :: cs'∧M=lone (c.finish v) cs' w'

def ARun (C:Cx) (todo:List Item) (env:Env) (H:Hp) (R:AV → Hp → Prop):Prop :=
 ∀ σ w a (b:Frame) cs m,Base C σ b cs → Pre C σ H w env a m →
  ∃ r H' σ' v w' M,R r H'∧Steps C.P (lone (b.atR a todo) cs w) M∧Fin C cs w' v M∧Rel C.G σ' H' w'∧RelV σ' H' w' r v∧EvM C.n0 m σ H w σ' H' w'

def ACall (P:Program) (G:Globs) (f:FuncId) (args:List AV) (H:Hp) (R:AV → Hp → Prop):Prop :=
 ∀ σ w vs,Rel G σ H w → RelVs σ H w args vs →
  Calls P f vs w fun e w' => ∃ r H' σ' v,R r H'∧e = .returned v∧Rel G σ' H' w'∧RelV σ' H' w' r v∧Ev H.n σ H w σ' H' w'

def AYield (P:Program) (G:Globs) (b:Nat) (args:List AV) (H:Hp) (R:AV → Hp → Prop):Prop :=
 ∀ σ w vs,Rel G σ H w → RelVs σ H w args vs → ∃ f tmps assign body,(Instr.yield (σ.c b) vs).run P w = .ok (.round (σ.c b) f tmps assign body) w ∧
  RoundIn Fence.wide 0 P (σ.c b) f tmps assign body w fun e w' => ∃ r H' σ' v,R r H'∧e = .returned v∧Rel G σ' H' w'∧RelV σ' H' w' r v∧Ev H.n σ H w σ' H' w'

theorem ACall.mono {P G f args H} {R R':AV → Hp → Prop} (h:ACall P G f args H R) (hr : ∀ r H',R r H' → R' r H'):ACall P G f args H R' :=
 fun σ w vs a b=>(h σ w vs a b).mono fun _ _ ⟨r,H',σ',v,q,rest⟩=>⟨r,H',σ',v,hr _ _ q,rest⟩

theorem AYield.mono {P G b args H} {R R':AV → Hp → Prop} (h:AYield P G b args H R) (hr : ∀ r H',R r H' → R' r H'):AYield P G b args H R' :=
 fun σ w vs h1 h2=>let ⟨f,t,x,y,q1,q2⟩:=h σ w vs h1 h2;⟨f,t,x,y,q1,q2.mono fun _ _ ⟨r,H',σ',v,q,rest⟩=>⟨r,H',σ',v,hr _ _ q,rest⟩⟩

theorem ARun.mono {C todo env H} {R R':AV → Hp → Prop} (h:ARun C todo env H R) (hr : ∀ r H',R r H' → R' r H'):ARun C todo env H R' :=
 fun σ w a b cs m h1 h2=>let ⟨r,H',σ',v,w',M,q,rest⟩:=h σ w a b cs m h1 h2;⟨r,H',σ',v,w',M,hr _ _ q,rest⟩

def zgA (args:List AV):Env:=fun i=>(args[i]?).getD (.tup [])

theorem RelF.of_args {σ:Gh} {H:Hp} {w:World} {args:List AV} {vs:Array Value} {nt m:Nat} (hargs:RelVs σ H w args vs) (hle:args.length≤nt) :
 RelF nt m σ H w (zgA args) { tmps:=vs++Array.replicate (nt - vs.size) undef,defers:=[] }:=by
 refine⟨⟨[],rfl,List.nodup_nil,by simp⟩,by simp [hargs.1];omega,fun i => ?_⟩
 have hs:=hargs.1;by_cases hi:i < args.length
 · have h1:args[i]? = some args[i]:=by simp [hi]
   have h2:vs[i]? = some (vs[i]'(by omega)):=by simp [hs,hi]
   have h3:=hargs.2 i _ _ h1 h2;simp only [zgA,h1,Option.getD_some]
   have:(vs++Array.replicate (nt - vs.size) undef).getD i undef=vs[i]'(by omega):=by simp [Array.getD_eq_getD_getElem?,Array.getElem?_append,hs,hi]
   rw [this];exact h3
 · have h1:args[i]? = none:=by simp;omega
   have h4:(vs++Array.replicate (nt - vs.size) undef).getD i undef=undef:=by
    simp [Array.getD_eq_getD_getElem?,Array.getElem?_append,hs,hi,Array.getElem?_replicate]
    split<;>rfl
   simp only [zgA,h1,Option.getD_none,h4];exact .tup #[] rfl (by simp)

theorem ACall.of_run {P:Program} {G:Globs} {f:FuncId} {fn:Func} {c:Code} {args:List AV} {H:Hp} {R:AV → Hp → Prop} {nt:Nat} (hf:P.funcs[f]? = some fn) (hb:fn.body=some c)
 {raw:List Nat} (hnt:fn.ntmps=nt) (hle:args.length≤nt) (h:Bel H.n H → ARun ⟨P,G,f,nt,H.n,raw,none⟩ [.code c] (zgA args) H R):ACall P G f args H R:=by
 intro σ w vs hrel hargs cs
 let b:Frame := { (default:Frame) with fn:=f,kind := .normal,roundOf:=none }
 let a:Act := { tmps:=vs++Array.replicate (fn.ntmps - vs.size) undef,defers:=[] }
 have henter:Frame.enter P f vs .normal=b.atR a [.code c]:=by simp [Frame.enter,Frame.atR,hf,hb,b,a]
 have hF:RelF nt w.heap.size σ H w (zgA args) a:=by
  subst hnt;exact .of_args hargs hle
 obtain⟨r,H',σ',v,w',M,q,hst,⟨fr,rfl,hfn,hlv⟩,hrel',hv,hev⟩:=h hrel.bel σ w a b cs w.heap.size ⟨rfl,rfl,rfl,fun h=>by cases h⟩ ⟨hrel,hF,Nat.le_refl _,Nat.le_refl _,fun l h=>by cases h⟩
 exact⟨.returned v,w',fr,⟨r,H',σ',v,q,rfl,hrel',hv,hev⟩,by rw [henter];exact hst,hfn,hlv⟩

section control
variable {C:Cx} {k:List Item} {env:Env} {H:Hp} {R:AV → Hp → Prop}

theorem ARun.of_step {todo todo':List Item} (hs : ∀ (b:Frame) (a:Act) cs w,step C.P (lone (b.atR a todo) cs w) = .next (lone (b.atR a todo') cs w)) (h:ARun C todo' env H R):ARun C todo env H R :=
 fun σ w a b cs m h1 h2=>let ⟨r,H',σ',v,w',M,q,st,rest⟩:=h σ w a b cs m h1 h2;⟨r,H',σ',v,w',M,q,.head (hs b a cs w) st,rest⟩

theorem ARun.skip (h:ARun C k env H R):ARun C (.code .skip :: k) env H R := .of_step (fun _ _ _ _=>stepR_skip) h
theorem ARun.inBlock {id:Nat} (h:ARun C k env H R):ARun C (.inBlock id :: k) env H R := .of_step (fun _ _ _ _=>stepR_inBlock) h
theorem ARun.seq {x y:Code} (h:ARun C (.code x :: .code y :: k) env H R):ARun C (.code (.seq x y) :: k) env H R := .of_step (fun _ _ _ _=>stepR_seq) h
theorem ARun.block {id:Nat} {c:Code} (h:ARun C (.code c :: .inBlock id :: k) env H R):ARun C (.code (.block id c) :: k) env H R := .of_step (fun _ _ _ _=>stepR_block) h
theorem ARun.loop {c:Code} (h:ARun C (.inLoop c :: k) env H R):ARun C (.code (.loop c) :: k) env H R:=by
 intro σ w a b cs m h1 h2
 obtain⟨r,H',σ',v,w',M,q,⟨n,hn⟩,hfin,rest⟩:=h σ w a b cs m h1 h2
 refine⟨r,H',σ',v,w',M,q,?_,hfin,rest⟩
 cases n with
 | zero =>
  simp only [runN] at hn
  injection hn with hn
  unfold Fin at hfin;split at hfin
  · obtain⟨fr,rfl,_,hm,_⟩:=hfin
    have:=congrArg (fun m:Machine=>(m.gs[0]?).map (·.frame.mode)) hn
    simp [lone,Frame.atR,hm] at this
  · obtain⟨c1,cs',hcs,rfl⟩:=hfin
    have:=congrArg (fun m:Machine=>(m.gs[0]?).map (·.callers)) hn
    simp [lone,hcs] at this
 | succ n =>
  refine⟨n+1,?_⟩
  simp only [runN] at hn ⊢;rw [stepR_inLoop] at hn;rw [stepR_loop];exact hn
theorem ARun.inLoop {c:Code} (h:ARun C (.code c :: .inLoop c :: k) env H R):ARun C (.inLoop c :: k) env H R := .of_step (fun _ _ _ _=>stepR_inLoop) h
theorem ARun.exit {id:Nat} {k':List Item} (hk:exitTo id k=some k') (h:ARun C k' env H R):ARun C (.code (.exit id) :: k) env H R := .of_step (fun _ _ _ _=>stepR_exit hk) h


theorem RelV.bool_inv {σ:Gh} {w:World} {t:Bool} {v:Value} (h:RelV σ H w (.p (.s (.bool t))) v):v = .bool t:=by
 cases h with | p h=>cases h;rfl

def yq:Value → AV
 | .agg cs=>if cs.toList.all (·.oneCell') then .p (.agg (cs.toList.map .s)) else .top
 | .slice a l c=>if a.isNone && l == 0 && c == 0 then .p (.sl true 0 []) else .p (.s (.slice a l c))
 | .tuple vs=>if vs.size == 0 then .tup [] else .top
 | v => .p (.s v)

def yd (G:Globs) (env:Env):Operand → AV
 | .tmp t=>env t
 | .const v=>yq v
 | .global g=>match G g with | some (sz,xs) => .ip sz xs 0 0 | none => .top
 | .func f => .clo f [] []

theorem zeB {σ:Gh} {w:World} (v:Value):RelV σ H w (yq v) v:=by
 cases v
 case agg cs =>
  simp only [yq]
  split
  · rename_i ha
    have h1 : ∀ (i:Nat) v,cs[i]? = some v → v.oneCell'=true:=fun i v hv=>List.all_eq_true.1 ha v (List.mem_of_getElem? (by simpa using hv))
    refine .p (.agg _ _ (by simp) h1 fun i x v hx hv => ?_)
    have:cs.toList[i]? = some v:=by simpa using hv
    simp only [List.getElem?_map,this,Option.map_some,Option.some.injEq] at hx;subst hx;exact .s v (h1 i v hv)
  · exact .top _
 case slice a l c =>
  simp only [yq]
  split
  · rename_i h;simp only [Bool.and_eq_true,Option.isNone_iff_eq_none,beq_iff_eq] at h
    obtain⟨⟨rfl,rfl⟩,rfl⟩:=h
    exact .p (.nil true 0)
  · exact .p (.s _ rfl)
 case tuple vs =>
  simp only [yq]
  split
  · rename_i h
    have:vs = #[]:=by simpa using h
    subst this;exact .tup #[] rfl (by simp)
  · exact .top _
 all_goals exact .p (.s _ rfl)

theorem zj {G:Globs} {σ:Gh} {w:World} {nt m:Nat} {a:Act} (hr:Rel G σ H w) (hf:RelF nt m σ H w env a) (x:Operand):RelV σ H w (yd G env x) (a.eval x):=by
 cases x with
 | tmp t=>exact hf.slot t
 | const v=>exact zeB v
 | global g =>
  simp only [yd]
  split
  · rename_i sz xs hg;exact hr.glob g sz xs hg
  · exact .top _
 | func f=>exact .clo #[] #[] rfl rfl (by simp) (by simp)

theorem ARun.cond {c:Operand} {x y:Code} {t:Bool} (hc:yd C.G env c = .p (.s (.bool t))) (h:ARun C (.code (if t then x else y) :: k) env H R):ARun C (.code (.cond c x y) :: k) env H R:=by
 intro σ w a b cs m h1 h2;have hv:a.eval c = .bool t:=RelV.bool_inv (hc ▸ zj h2.rel h2.fr c)
 obtain⟨r,H',σ',v,w',M,q,st,rest⟩:=h σ w a b cs m h1 h2
 exact⟨r,H',σ',v,w',M,q,.head (stepR_cond hv) st,rest⟩
end control

abbrev Fr (C:Cx) (σ:Gh):Fence := { Fence.wide with round:=C.round.map σ.c }

theorem zCa {C:Cx} {σ:Gh} {P:Program} {m m':Machine} (h:StepsIn (Machine.fenced P (Fr C σ)) P m m'):Steps P m m':=h.steps

def AOps (C:Cx) (ops:Array Oper) (l:List Oper) (k:List Item) (env:Env) (H:Hp) (R:AV → Hp → Prop):Prop :=
 ∀ σ w a m,Pre C σ H w env a m →
  wpListIn (Fr C σ) 0 C.P ops (fun e a' w'=>e = .normal ∧ ∃ env' H' σ',ARun C k env' H' R∧Pre C σ' H' w' env' a' m∧Ev H.n σ H w σ' H' w') l a w

section regions
variable {C:Cx} {k:List Item} {env:Env} {H:Hp} {R:AV → Hp → Prop} {ops:Array Oper} {o:Oper} {rest:List Oper}

theorem ARun.of_wp {c:Code}
 (h : ∀ σ w a m,Pre C σ H w env a m →
  c.wpIn (Fr C σ) 0 C.P (fun e a' w'=>e = .normal ∧ ∃ env' H' σ',ARun C k env' H' R∧Pre C σ' H' w' env' a' m∧Ev H.n σ H w σ' H' w') a w) :
 ARun C (.code c :: k) env H R:=by
 intro σ w a b cs m h1 h2
 obtain⟨e,a',w',⟨rfl,env',H',σ',hrun,hpre,hev⟩,harr⟩:=h σ w a m h2 b k cs h1.ro trivial (fun _ h=>by simp [Fence.wide] at h)
 obtain⟨r,H2,σ2,v,w2,M,q,st,hfin,hrel,hv,hev2⟩:=hrun σ' w' a' b cs m (h1.mono h2.n0 hev.c h2.lt) hpre
 exact⟨r,H2,σ2,v,w2,M,q,Steps.trans (zCa harr) st,hfin,hrel,hv,hev.transM hev2 h2.n0 h2.m⟩

theorem ARun.region {id:Nat} {l:List Oper} (h:AOps C l.toArray l k env H R):ARun C (.code (.region id l.toArray false) :: k) env H R :=
 .of_wp fun σ w a m h1=>wpIn_region_lit (h σ w a m h1)

theorem AOps.nil (h:ARun C k env H R):AOps C ops [] k env H R :=
 fun _ _ _ _ h1=>⟨rfl,env,H,_,h,h1,Ev.refl (Nat.le_refl _)⟩
end regions

end Go.AL

namespace Go.AL
open Go

def Hp.new (H:Hp) (x:AB):Hp:=⟨fun b=>if b=H.n then some x else H.f b,H.n+1,fun b hb=>by rw [if_neg (by omega)];exact H.wf b (by omega),H.z⟩
def Hp.set (H:Hp) (b:Nat) (x:AB):Hp:=⟨fun b'=>if b'=b∧b < H.n then some x else H.f b',H.n,fun b' hb=>by rw [if_neg (by omega)];exact H.wf b' hb,H.z⟩
def Hp.trunc (H:Hp) (n:Nat):Hp:=⟨fun b=>if b < n then H.f b else none,n,fun b hb=>by rw [if_neg (by omega)],H.z⟩

theorem Hp.ext {H H':Hp} (hf : ∀ b,H.f b=H'.f b) (hn:H.n=H'.n) (hz:H.z=H'.z:=by rfl):H=H':=by
 cases H;cases H';simp only at hf hn hz;have:=funext hf;subst this;subst hn;subst hz;rfl

theorem Hp.lt {H:Hp} {b:Nat} {x:AB} (h:H.f b=some x):b < H.n:=by
 rcases Nat.lt_or_ge b H.n with h' | h'
 · exact h'
 · rw [H.wf b h'] at h;cases h

section
variable (H:Hp) (x y:AB) (b b':Nat)
theorem Hp.z_new:(H.new x).z=H.z:=rfl
theorem Hp.z_set:(H.set b x).z=H.z:=rfl
theorem Hp.n_new:(H.new x).n=H.n+1:=rfl
theorem Hp.n_set:(H.set b x).n=H.n:=rfl
theorem Hp.n_trunc:(H.trunc b).n=b:=rfl
theorem Hp.f_new:(H.new x).f b=if b=H.n then some x else H.f b:=rfl
theorem Hp.f_set:(H.set b x).f b'=if b'=b∧b < H.n then some x else H.f b':=rfl
theorem Hp.f_trunc:(H.trunc b).f b'=if b' < b then H.f b' else none:=rfl
theorem Hp.f_new_self:(H.new x).f H.n=some x:=by simp [Hp.f_new]
theorem Hp.f_new_old (h:b < H.n):(H.new x).f b=H.f b:=by simp [Hp.f_new];omega
theorem Hp.f_set_self (h:b < H.n):(H.set b x).f b=some x:=by simp [Hp.f_set,h]
theorem Hp.f_set_ne (h:b'≠b):(H.set b x).f b'=H.f b':=by simp [Hp.f_set,h]
theorem Hp.set_new_self:(H.new x).set H.n y=H.new y:=Hp.ext (fun b=>by simp only [Hp.f_set,Hp.f_new,Hp.n_new];by_cases h:b=H.n<;>simp [h]) rfl
theorem Hp.set_new_old (h:b < H.n):(H.new x).set b y=(H.set b y).new x:=Hp.ext (fun c=>by
 simp only [Hp.f_set,Hp.f_new,Hp.n_new,Hp.n_set];by_cases h1:c=b
 · subst h1;simp [h,Nat.ne_of_lt h,Nat.lt_succ_of_lt h]
 · simp [h1]) rfl
theorem Hp.trunc_self:H.trunc H.n=H:=Hp.ext (fun b=>by
 simp only [Hp.f_trunc];split
 · rfl
 · exact (H.wf b (by omega)).symm) rfl
theorem Hp.trunc_new (h:b≤H.n):(H.new x).trunc b=H.trunc b:=Hp.ext (fun c=>by
 simp only [Hp.f_trunc,Hp.f_new];split
 · rw [if_neg (by omega)]
 · rfl) rfl
theorem Hp.trunc_set (h:b'≤b):(H.set b x).trunc b'=H.trunc b':=Hp.ext (fun c=>by
 simp only [Hp.f_trunc,Hp.f_set];split
 · rw [if_neg (by omega)]
 · rfl) rfl
theorem Hp.set_set:(H.set b x).set b y=H.set b y:=Hp.ext (fun c=>by
 simp only [Hp.f_set,Hp.n_set];by_cases h:c=b∧b < H.n<;>simp [h]) rfl
theorem Hp.set_same (h:H.f b=some x):H.set b x=H:=Hp.ext (fun c=>by
 simp only [Hp.f_set];split
 · rename_i hc;rw [hc.1,h]
 · rfl) rfl
end

theorem Bel.new {H:Hp} {x:AB} {n:Nat} (hn:n≤H.n):Bel n (H.new x) ↔ Bel n H :=
 ⟨fun h b cs hb hf=>h b cs hb (by rw [Hp.f_new_old H x b (by omega)];exact hf),fun h b cs hb hf=>h b cs hb (by rwa [Hp.f_new_old H x b (by omega)] at hf)⟩
theorem Bel.set_hi {H:Hp} {x:AB} {n b:Nat} (hn:n≤b):Bel n (H.set b x) ↔ Bel n H :=
 ⟨fun h c cs hb hf=>h c cs hb (by rw [Hp.f_set_ne H x b c (by omega)];exact hf),fun h c cs hb hf=>h c cs hb (by rwa [Hp.f_set_ne H x b c (by omega)] at hf)⟩
theorem Bel.set_cells {H:Hp} {cs:List AV} {n b:Nat} (h:Bel n H) (hc : ∀ x∈cs,BelowN n x):Bel n (H.set b (.cells cs)):=fun c ds hb hf=>by
 rw [Hp.f_set] at hf;split at hf
 · cases hf;exact hc
 · exact h c ds hb hf

section states
variable {G:Globs} {σ:Gh} {H:Hp} {w:World}

theorem Rel.c_lt (hr:Rel G σ H w) {b cs} (h:H.f b=some (.cells cs)):σ.c b < w.heap.size:=by
 obtain⟨c,e,hw,_⟩:=hr.cells b cs h
 exact (Array.getElem?_eq_some_iff.1 hw).1

theorem Rel.t_lt (hr:Rel G σ H w) {b k d g o s} (h:H.f b=some (.tl k d)) (ht:σ.t b=some (g,o,s)):g < w.heap.size:=by
 obtain⟨c,e,hw,_⟩:=hr.tail b k d g o s h ht
 exact (Array.getElem?_eq_some_iff.1 hw).1

theorem Rel.glob_mono {σ':Gh} {H':Hp} {w':World} (hr:Rel G σ H w) (hev:Ev H.n σ H w σ' H' w') : ∀ g sz xs,G g=some (sz,xs) → RelV σ' H' w' (.ip sz xs 0 0) (.pointer (some ⟨g,0,none⟩)) :=
 fun g sz xs h=>(hr.glob g sz xs h).mono hev
theorem Rel.gm_mono {σ':Gh} {H':Hp} {w':World} (hr:Rel G σ H w) (hev:Ev H.n σ H w σ' H' w') : ∀ r m,G.map r=some m → GMap σ' H' w' r m :=
 fun r m h=>(hr.gm r m h).mono hev
theorem Rel.z_mono {σ':Gh} {H':Hp} {w':World} (hr:Rel G σ H w) (hev:Ev H.n σ H w σ' H' w') (hz:H'.z=H.z) : ∀ g sz xs,H'.z g=some (sz,xs) → ZRow σ' H' w' g sz xs :=
 fun g sz xs h=>(hr.z g sz xs (by rw [←hz];exact h)).mono hev

theorem Rel.objs_keep {σ':Gh} {H':Hp} {w':World} (hr:Rel G σ H w) (hev:Ev H.n σ H w σ' H' w') (hf : ∀ b vs S,H'.f b=some (.obj vs S) → H.f b=some (.obj vs S))
 (hw : ∀ (g:Nat) (o:Obj),w.heap[g]? = some o → ze2 o=true → w'.heap[g]? = some o) :
 (∀ b vs S,H'.f b=some (.obj vs S) → ∃ o us,w'.heap[σ'.c b]? = some o∧ze2 o=true∧RelVs σ' H' w' vs us∧S us o) ∧
 (∀ b b' vs vs' S S',H'.f b=some (.obj vs S) → H'.f b'=some (.obj vs' S') → σ'.c b=σ'.c b' → b=b'):=by
 refine⟨fun b vs S h => ?_,fun b b' vs vs' S S' h h' he => ?_⟩
 · have h0:=hf b vs S h
   obtain⟨o,us,q1,q2,q3,q4⟩:=hr.objs b vs S h0
   exact⟨o,us,by rw [hev.c b (Hp.lt h0)];exact hw _ o q1 q2,q2,q3.mono hev,q4⟩
 · have h0:=hf b vs S h;have h0':=hf b' vs' S' h';rw [hev.c b (Hp.lt h0),hev.c b' (Hp.lt h0')] at he;exact hr.oo b b' vs vs' S S' h0 h0' he

theorem Rel.vec_keep {m:Nat} {σ':Gh} {H':Hp} {w':World} (hr:Rel G σ H w) (hev:EvM H.n m σ H w σ' H' w') (hf : ∀ b k cs,H'.f b=some (.tl k (some cs)) → H.f b=some (.tl k (some cs))∧σ'.t b=σ.t b)
 (hw : ∀ b k cs g o s,H'.f b=some (.tl k (some cs)) → H.f b=some (.tl k (some cs)) → σ.t b=some (g,o,s) → w'.heap[g]? = w.heap[g]?) :
 ∀ b k cs,H'.f b=some (.tl k (some cs)) → k=cs.length∧(σ'.t b=none → cs=[]) ∧ ∀ g o s,σ'.t b=some (g,o,s) → o=0∧cs.length≤s ∧ ∀ (i:Nat) x,cs[i]? = some x → ∃ v,w'.cell? ⟨g,i,none⟩=some v∧RelC σ' H' w' x v:=by
 intro b k cs h
 obtain⟨h0,ht⟩:=hf b k cs h
 obtain⟨q0,q1,q2⟩:=hr.vec b k cs h0
 rw [ht]
 refine⟨q0,q1,fun g o s hg => ?_⟩
 obtain⟨p0,p1,p2⟩:=q2 g o s hg
 refine⟨p0,p1,fun i x hx => ?_⟩
 obtain⟨v,hv,hx⟩:=p2 i x hx
 exact⟨v,by simpa [World.cell?,hw b k cs g o s h h0 hg] using hv,hx.mono hev⟩

theorem Rel.o_lt (hr:Rel G σ H w) {b vs S} (h:H.f b=some (.obj vs S)):σ.c b < w.heap.size:=by
 obtain⟨o,us,hw,_⟩:=hr.objs b vs S h
 exact (Array.getElem?_eq_some_iff.1 hw).1

theorem zcM {w:World} {g:Nat} {o:Obj} (h:w.heap[g]? = some o):g < w.heap.size:=(Array.getElem?_eq_some_iff.1 h).1

theorem zds (hr:Rel G σ H w) {w':World} (hs:w.heap.size≤w'.heap.size) (hb : ∀ g,g < w.heap.size → w'.heap[g]? = w.heap[g]?) (ho:w'.os=w.os) (hu:w'.output=w.output) :
 Rel G σ H w'∧Ev H.n σ H w σ H w':=by
 have hev:Ev H.n σ H w σ H w':=⟨fun g o v h1 h2=>⟨h1,by
  have:=hb g (World.block_lt_of_cell? (a:=⟨g,o,none⟩) w h2)
  simpa [World.cell?,this] using h2⟩,fun _ _=>rfl,Nat.le_refl _,fun _ _ k c hk=>⟨k,c,hk,Nat.le_refl _,fun _=>rfl⟩,hs,fun g hg hf=>⟨hb g hg,hf⟩,ho,hu⟩
 refine⟨⟨fun b cs h => ?_,fun b k d g o s h ht => ?_,hr.vec_keep hev (fun _ _ _ h=>⟨h,rfl⟩) (fun b k cs g o s _ h ht=>hb g (hr.t_lt h ht)),hr.cc,hr.ct,hr.tt,hr.glob_mono hev,(hr.objs_keep hev (fun _ _ _ h=>h) fun g o h _=>(hb g (zcM h)).trans h).1,(hr.objs_keep hev (fun _ _ _ h=>h) fun g o h _=>(hb g (zcM h)).trans h).2,hr.gm_mono hev,hr.z_mono hev rfl⟩,hev⟩
 · obtain⟨c,e,h1,h2,h3⟩:=hr.cells b cs h
   exact⟨c,e,(hb _ (hr.c_lt h)).trans h1,h2,fun i x hx=>let ⟨v,a,b⟩:=h3 i x hx;⟨v,a,b.mono hev⟩⟩
 · obtain⟨c,e,h1,h2⟩:=hr.tail b k d g o s h ht
   exact⟨c,e,(hb _ (hr.t_lt h ht)).trans h1,h2⟩

theorem zdt (hr:Rel G σ H w):Rel G σ H w.drew∧Ev H.n σ H w σ H w.drew:=zds hr (Nat.le_refl _) (fun _ _=>rfl) rfl rfl
theorem ztg (hr:Rel G σ H w) (o:Obj):Rel G σ H (w.alloc o)∧Ev H.n σ H w σ H (w.alloc o) :=
 zds hr (by simp) (fun g hg=>heap_alloc_old w o hg) rfl rfl

def Gh.withC (σ:Gh) (b g:Nat):Gh := { σ with c:=fun x=>if x=b then g else σ.c x }
def Gh.withT (σ:Gh) (b:Nat) (r:Option (Nat × Nat × Nat)):Gh := { σ with t:=fun x=>if x=b then r else σ.t x }

theorem zgS (hr:Rel G σ H w) (c:Array Value) (e:TypeId) (cs:List AV) (hl:cs.length≤c.size) (hc : ∀ (i:Nat) x,cs[i]? = some x → ∃ v,c[i]? = some v∧RelC σ H w x v) :
 Rel G (σ.withC H.n w.heap.size) (H.new (.cells cs)) (w.alloc (.cells c e))∧Ev H.n σ H w (σ.withC H.n w.heap.size) (H.new (.cells cs)) (w.alloc (.cells c e)):=by
 have hold : ∀ b,b < H.n → (σ.withC H.n w.heap.size).c b=σ.c b:=fun b hb=>by simp [Gh.withC,Nat.ne_of_lt hb]
 have hnew:(σ.withC H.n w.heap.size).c H.n=w.heap.size:=by simp [Gh.withC]
 have fobj : ∀ b vs S,(H.new (.cells cs)).f b=some (.obj vs S) → H.f b=some (.obj vs S):=by
  intro b vs S h;rw [Hp.f_new] at h;split at h
  · cases h
  · exact h
 have hstable : ∀ g o,g < w.heap.size → Stable σ H g o → Stable (σ.withC H.n w.heap.size) (H.new (.cells cs)) g o:=by
  intro g o hg ⟨h1,h2⟩
  refine⟨fun b cs' hb => ?_,fun b v d o' s hb ht => ?_⟩
  · rw [Hp.f_new] at hb;split at hb
    · rename_i hbn;rw [hbn,hnew];omega
    · rw [hold b (Hp.lt hb)];exact h1 b cs' hb
  · rw [Hp.f_new] at hb;split at hb
    · cases hb
    · exact h2 b v d o' s hb ht
 have hev:Ev H.n σ H w (σ.withC H.n w.heap.size) (H.new (.cells cs)) (w.alloc (.cells c e)):=by
  refine⟨fun g o v h1 h2 => ?_,hold,by simp [Hp.n_new],fun b hb k d hk => ?_,by simp,fun g hg hf=>⟨heap_alloc_old w _ hg,?_,?_,?_⟩,rfl,rfl⟩
  · have hlt:g < w.heap.size:=World.block_lt_of_cell? (a:=⟨g,o,none⟩) w h2
    exact⟨hstable g o hlt h1,by rw [World.cell?_alloc_lt (a:=⟨g,o,none⟩) w _ hlt];exact h2⟩
  · rw [Hp.f_new_old H _ b hb] at hk
    exact⟨k,d,hk,Nat.le_refl _,fun _=>rfl⟩
  · intro b cs' hb;rw [Hp.f_new] at hb;split at hb
    · rename_i hbn;rw [hbn,hnew];omega
    · rw [hold b (Hp.lt hb)];exact hf.1 b cs' hb
  · intro b v d o' s hb;rw [Hp.f_new] at hb;split at hb
    · cases hb
    · exact hf.2 b v d o' s hb
  · intro b vs S hb;have hb:=fobj b vs S hb;rw [hold b (Hp.lt hb)];exact hf.3 b vs S hb
 have fvec : ∀ b k ds,(H.new (.cells cs)).f b=some (.tl k (some ds)) → H.f b=some (.tl k (some ds)):=by
  intro b k ds h;rw [Hp.f_new] at h;split at h
  · cases h
  · exact h
 refine⟨⟨fun b cs' hb => ?_,fun b k d g o s hb ht => ?_,hr.vec_keep hev (fun b k ds h=>⟨fvec b k ds h,rfl⟩) (fun b k ds g o s _ h ht=>heap_alloc_old w _ (hr.t_lt h ht)),fun b b' x y hb hb' he => ?_,fun b b' x k d g o s hb hb' ht => ?_,fun b b' k d k' d' g o s o' s' hb hb' ht ht' => ?_,hr.glob_mono hev,(hr.objs_keep hev fobj fun g o h _=>(heap_alloc_old w _ (zcM h)).trans h).1,(hr.objs_keep hev fobj fun g o h _=>(heap_alloc_old w _ (zcM h)).trans h).2,hr.gm_mono hev,hr.z_mono hev rfl⟩,hev⟩
 · rw [Hp.f_new] at hb;split at hb
   · rename_i hbn;subst hbn;cases hb
     exact⟨c,e,by rw [hnew];exact heap_alloc_new w _,hl,fun i x hx=>let ⟨v,a,b⟩:=hc i x hx;⟨v,a,b.mono hev⟩⟩
   · obtain⟨c',e',h1,h2,h3⟩:=hr.cells b cs' hb
     exact⟨c',e',by rw [hold b (Hp.lt hb),heap_alloc_old w _ (hr.c_lt hb)];exact h1,h2,fun i x hx=>let ⟨v,a,b⟩:=h3 i x hx;⟨v,a,b.mono hev⟩⟩
 · rw [Hp.f_new] at hb;split at hb
   · cases hb
   · obtain⟨c',e',h1,h2⟩:=hr.tail b k d g o s hb ht
     exact⟨c',e',by rw [heap_alloc_old w _ (hr.t_lt hb ht)];exact h1,h2⟩
 · rw [Hp.f_new] at hb hb';split at hb<;>split at hb'
   · omega
   · rename_i h1 h2;rw [h1,hnew,hold b' (Hp.lt hb')] at he
     have:=hr.c_lt hb';omega
   · rename_i h1 h2;rw [h2,hnew,hold b (Hp.lt hb)] at he
     have:=hr.c_lt hb;omega
   · rw [hold b (Hp.lt hb),hold b' (Hp.lt hb')] at he;exact hr.cc b b' x y hb hb' he
 · rw [Hp.f_new] at hb hb';split at hb'
   · cases hb'
   · have ht':=hr.t_lt hb' ht;split at hb
     · rename_i h1 h2;rw [h2,hnew];omega
     · rw [hold b (Hp.lt hb)];exact hr.ct b b' x k d g o s hb hb' ht
 · rw [Hp.f_new] at hb hb';split at hb<;>split at hb'
   · cases hb
   · cases hb
   · cases hb'
   · exact hr.tt b b' k d k' d' g o s o' s' hb hb' ht ht'

theorem zcN (hr:Rel G σ H w) {b:Nat} {cs:List AV} (hb:H.f b=some (.cells cs)) {c:Array Value} {e:TypeId} (hw:w.heap[σ.c b]? = some (.cells c e (0,0)))
 (c':Array Value) (cs':List AV) (hs:c'.size=c.size) (hl:cs'.length=cs.length) (hc : ∀ (i:Nat) x,cs'[i]? = some x → ∃ v,c'[i]? = some v∧RelC σ H w x v) :
 Rel G σ (H.set b (.cells cs')) (w.setRow (σ.c b) c')∧Ev H.n σ H w σ (H.set b (.cells cs')) (w.setRow (σ.c b) c'):=by
 have hbn:=Hp.lt hb
 have hother : ∀ g,g≠σ.c b → (w.setRow (σ.c b) c').heap[g]? = w.heap[g]? := fun g hg=>by
  simp [World.setRow,Array.getElem?_modify,Ne.symm hg]
 have hself:(w.setRow (σ.c b) c').heap[σ.c b]? = some (.cells c' e (0,0)):=by
  simp [World.setRow,Array.getElem?_modify,hw]
 have fcells : ∀ b' x,(H.set b (.cells cs')).f b'=some (.cells x) → ∃ y,H.f b'=some (.cells y):=by
  intro b' x h;rw [Hp.f_set] at h;split at h
  · rename_i hh;rw [hh.1];exact⟨cs,hb⟩
  · exact⟨x,h⟩
 have ftail : ∀ b' k d,(H.set b (.cells cs')).f b'=some (.tl k d) → H.f b'=some (.tl k d):=by
  intro b' x d h;rw [Hp.f_set] at h;split at h
  · cases h
  · exact h
 have fobj : ∀ b' vs S,(H.set b (.cells cs')).f b'=some (.obj vs S) → H.f b'=some (.obj vs S):=by
  intro b' vs S h;rw [Hp.f_set] at h;split at h
  · cases h
  · exact h
 have hobj : ∀ (g:Nat) (o:Obj),w.heap[g]? = some o → ze2 o=true → (w.setRow (σ.c b) c').heap[g]? = some o:=fun g o h ho=>by
  rw [hother g (fun e=>by subst e;rw [hw] at h;cases h;cases ho)];exact h
 have hstable : ∀ g o,Stable σ H g o → Stable σ (H.set b (.cells cs')) g o:=fun g o ⟨h1,h2⟩ =>
  ⟨fun b' x h=>let ⟨y,hy⟩:=fcells b' x h;h1 b' y hy,fun b' k d o' s h=>h2 b' k d o' s (ftail b' k d h)⟩
 have hev:Ev H.n σ H w σ (H.set b (.cells cs')) (w.setRow (σ.c b) c'):=by
  refine⟨fun g o v h1 h2=>⟨hstable g o h1,?_⟩,fun _ _=>rfl,Nat.le_refl _,fun b' _ k d hk=>⟨k,d,ftail b' k d hk,Nat.le_refl _,fun _=>rfl⟩,by simp,fun g hg hf=>⟨hother g (Ne.symm (hf.1 b cs hb)),?_,?_,fun b' vs S h=>hf.3 b' vs S (fobj _ _ _ h)⟩,rfl,rfl⟩
  · have:=hother g (Ne.symm (h1.1 b cs hb))
    simpa [World.cell?,this] using h2
  · exact fun b' x h=>let ⟨y,hy⟩:=fcells b' x h;hf.1 b' y hy
  · exact fun b' k d o' s h=>hf.2 b' k d o' s (ftail b' k d h)
 refine⟨⟨fun b' x hx => ?_,fun b' k d g o s h ht => ?_,hr.vec_keep hev (fun b' k ds h=>⟨ftail b' k _ h,rfl⟩) (fun b' k ds g o s _ h ht=>hother g (Ne.symm (hr.ct b b' cs k _ g o s hb h ht))),fun b1 b2 x y h1 h2 he => ?_,fun b1 b2 x k d g o s h1 h2 ht => ?_,fun b1 b2 k d k' d' g o s o' s' h1 h2 ht ht' => ?_,hr.glob_mono hev,(hr.objs_keep hev fobj hobj).1,(hr.objs_keep hev fobj hobj).2,hr.gm_mono hev,hr.z_mono hev rfl⟩,hev⟩
 · by_cases hbb:b'=b
   · subst hbb;rw [Hp.f_set_self H _ _ hbn] at hx;cases hx
     obtain⟨c1,e1,q1,q2,_⟩:=hr.cells b' cs hb
     rw [hw] at q1;cases q1
     exact⟨c',e,hself,by omega,fun i x hx=>let ⟨v,a,b⟩:=hc i x hx;⟨v,a,b.mono hev⟩⟩
   · rw [Hp.f_set_ne H _ _ _ hbb] at hx
     obtain⟨c1,e1,q1,q2,q3⟩:=hr.cells b' x hx
     refine⟨c1,e1,(hother _ fun h=>hbb (hr.cc b' b x cs hx hb h)).trans q1,q2,fun i y hy=>let ⟨v,a,b⟩:=q3 i y hy;⟨v,a,b.mono hev⟩⟩
 · obtain⟨c1,e1,q1,q2⟩:=hr.tail b' k d g o s (ftail _ _ _ h) ht
   exact⟨c1,e1,(hother g (Ne.symm (hr.ct b b' cs k d g o s hb (ftail _ _ _ h) ht))).trans q1,q2⟩
 · obtain⟨x',hx'⟩:=fcells _ _ h1
   obtain⟨y',hy'⟩:=fcells _ _ h2
   exact hr.cc b1 b2 x' y' hx' hy' he
 · obtain⟨x',hx'⟩:=fcells _ _ h1
   exact hr.ct b1 b2 x' k d g o s hx' (ftail _ _ _ h2) ht
 · exact hr.tt b1 b2 k d k' d' g o s o' s' (ftail _ _ _ h1) (ftail _ _ _ h2) ht ht'

theorem zcp (hr:Rel G σ H w) {w':World} (hs:w.heap.size≤w'.heap.size) (hb : ∀ g,g < w.heap.size → w'.heap[g]? = w.heap[g]?) (ho:w'.os=w.os) (hu:w'.output=w.output)
 (k0:Nat) (d0:Option (List AV)) (r:Option (Nat × Nat × Nat)) (hp : ∀ g o s,r=some (g,o,s) → w.heap.size≤g ∧ ∃ c e,w'.heap[g]? = some (.cells c e (0,0))∧c.size=s)
 (hv : ∀ cs,d0=some cs → k0=cs.length∧(r=none → cs=[]) ∧ ∀ g o s,r=some (g,o,s) → o=0∧cs.length≤s ∧ ∀ (i:Nat) x,cs[i]? = some x → ∃ v,w'.cell? ⟨g,i,none⟩=some v∧RelC σ H w x v) :
 Rel G (σ.withT H.n r) (H.new (.tl k0 d0)) w'∧Ev H.n σ H w (σ.withT H.n r) (H.new (.tl k0 d0)) w':=by
 have hold : ∀ b,b < H.n → (σ.withT H.n r).t b=σ.t b:=fun b hb=>by simp [Gh.withT,Nat.ne_of_lt hb]
 have hnew:(σ.withT H.n r).t H.n=r:=by simp [Gh.withT]
 have fcells : ∀ b x,(H.new (.tl k0 d0)).f b=some (.cells x) → H.f b=some (.cells x):=by
  intro b x h;rw [Hp.f_new] at h;split at h
  · cases h
  · exact h
 have fobj : ∀ b vs S,(H.new (.tl k0 d0)).f b=some (.obj vs S) → H.f b=some (.obj vs S):=by
  intro b vs S h;rw [Hp.f_new] at h;split at h
  · cases h
  · exact h
 have hobj : ∀ (g:Nat) (o:Obj),w.heap[g]? = some o → ze2 o=true → w'.heap[g]? = some o:=fun g o h _=>(hb g (zcM h)).trans h
 have ftail : ∀ b k d,(H.new (.tl k0 d0)).f b=some (.tl k d) → (b=H.n∧k=k0∧d=d0) ∨ H.f b=some (.tl k d):=by
  intro b x d h;rw [Hp.f_new] at h;split at h
  · rename_i hh;cases h;exact .inl ⟨hh,rfl,rfl⟩
  · exact .inr h
 have hev:Ev H.n σ H w (σ.withT H.n r) (H.new (.tl k0 d0)) w':=by
  refine⟨fun g o v h1 h2 => ?_,fun _ _=>rfl,by simp [Hp.n_new],fun b hb k d hk => ?_,hs,fun g hg hf=>⟨hb g hg,fun b x h=>hf.1 b x (fcells _ _ h),fun b k d o s h => ?_,fun b vs S h=>hf.3 b vs S (fobj _ _ _ h)⟩,ho,hu⟩
  · have hlt:g < w.heap.size:=World.block_lt_of_cell? (a:=⟨g,o,none⟩) w h2
    refine⟨⟨fun b x h=>h1.1 b x (fcells _ _ h),fun b k d o' s h ht => ?_⟩,by simpa [World.cell?,hb g hlt] using h2⟩
    rcases ftail b k d h with ⟨rfl,rfl,rfl⟩ | h
    · rw [hnew] at ht;have:=(hp g o' s ht).1;omega
    · rw [hold b (Hp.lt h)] at ht;exact h1.2 b k d o' s h ht
  · rcases ftail b k d hk with ⟨rfl,_⟩ | h
    · omega
    · exact⟨k,d,h,Nat.le_refl _,fun _=>hold b hb⟩
  · rcases ftail b k d h with ⟨rfl,rfl,rfl⟩ | h
    · rw [hnew];intro ht;have:=(hp g o s ht).1;omega
    · rw [hold b (Hp.lt h)];exact hf.2 b k d o s h
 refine⟨⟨fun b x h => ?_,fun b k d g o s h ht => ?_,fun b k cs h => ?_,fun b1 b2 x y h1 h2=>hr.cc b1 b2 x y (fcells _ _ h1) (fcells _ _ h2),fun b1 b2 x k d g o s h1 h2 ht => ?_,fun b1 b2 k d k' d' g o s o' s' h1 h2 ht ht' => ?_,hr.glob_mono hev,(hr.objs_keep hev fobj hobj).1,(hr.objs_keep hev fobj hobj).2,hr.gm_mono hev,hr.z_mono hev rfl⟩,hev⟩
 · obtain⟨c,e,q1,q2,q3⟩:=hr.cells b x (fcells _ _ h)
   exact⟨c,e,(hb _ (hr.c_lt (fcells _ _ h))).trans q1,q2,fun i y hy=>let ⟨v,a,b⟩:=q3 i y hy;⟨v,a,b.mono hev⟩⟩
 · rcases ftail b k d h with ⟨rfl,rfl,rfl⟩ | h
   · rw [hnew] at ht;exact (hp g o s ht).2
   · rw [hold b (Hp.lt h)] at ht
     obtain⟨c,e,q1,q2⟩:=hr.tail b k d g o s h ht
     exact⟨c,e,(hb _ (hr.t_lt h ht)).trans q1,q2⟩
 · rcases ftail b k _ h with ⟨rfl,rfl,hd⟩ | h
   · rw [hnew]
     obtain⟨q0,q1,q2⟩:=hv cs hd.symm
     refine⟨q0,q1,fun g o s hg => ?_⟩
     obtain⟨p0,p1,p2⟩:=q2 g o s hg
     exact⟨p0,p1,fun i x hx=>let ⟨v,a,b⟩:=p2 i x hx;⟨v,a,b.mono hev⟩⟩
   · rw [hold b (Hp.lt h)]
     obtain⟨q0,q1,q2⟩:=hr.vec b k cs h
     refine⟨q0,q1,fun g o s hg => ?_⟩
     obtain⟨p0,p1,p2⟩:=q2 g o s hg
     refine⟨p0,p1,fun i x hx => ?_⟩
     obtain⟨v,a,b⟩:=p2 i x hx
     exact⟨v,by simpa [World.cell?,hb g (hr.t_lt h hg)] using a,b.mono hev⟩
 · have h1':=fcells _ _ h1
   rcases ftail b2 k d h2 with ⟨rfl,rfl,rfl⟩ | h
   · rw [hnew] at ht;have:=(hp g o s ht).1;have:=hr.c_lt h1';show σ.c b1≠g;omega
   · rw [hold b2 (Hp.lt h)] at ht;exact hr.ct b1 b2 x k d g o s h1' h ht
 · rcases ftail b1 k d h1 with ⟨rfl,rfl,rfl⟩ | q1<;>rcases ftail b2 k' d' h2 with ⟨rfl,rfl,rfl⟩ | q2
   · rfl
   · rw [hnew] at ht;rw [hold b2 (Hp.lt q2)] at ht'
     have:=(hp _ _ _ ht).1;have:=hr.t_lt q2 ht';omega
   · rw [hnew] at ht';rw [hold b1 (Hp.lt q1)] at ht
     have:=(hp _ _ _ ht').1;have:=hr.t_lt q1 ht;omega
   · rw [hold b1 (Hp.lt q1)] at ht;rw [hold b2 (Hp.lt q2)] at ht';exact hr.tt b1 b2 k d k' d' g o s o' s' q1 q2 ht ht'

theorem zaa (hr:Rel G σ H w) {w':World} (hs:w.heap.size≤w'.heap.size) (hb : ∀ g,g < w.heap.size → w'.heap[g]? = w.heap[g]?) (ho:w'.os=w.os) (hu:w'.output=w.output)
 (r:Option (Nat × Nat × Nat)) (hp : ∀ g o s,r=some (g,o,s) → w.heap.size≤g ∧ ∃ c e,w'.heap[g]? = some (.cells c e (0,0))∧c.size=s) :
 Rel G (σ.withT H.n r) (H.new (.tail 0)) w'∧Ev H.n σ H w (σ.withT H.n r) (H.new (.tail 0)) w' :=
 zcp hr hs hb ho hu 0 none r hp (fun cs h=>by cases h)

theorem zbI (hr:Rel G σ H w) {α k:Nat} {d:Option (List AV)} (hα:H.f α=some (.tl k d)) {w':World} (hs:w.heap.size≤w'.heap.size)
 (hb : ∀ g,g < w.heap.size → (∀ o s,σ.t α≠some (g,o,s)) → w'.heap[g]? = w.heap[g]?)
 (hin : ∀ g o s,σ.t α=some (g,o,s) → ∀ i v,i < o → w.cell? ⟨g,i,none⟩=some v → w'.cell? ⟨g,i,none⟩=some v)
 (ho:w'.os=w.os) (hu:w'.output=w.output) (k1:Nat) (d1:Option (List AV))
 (r:Option (Nat × Nat × Nat)) (hk:k≤k1∧(k=k1 → r=σ.t α)) (hp : ∀ g o s,r=some (g,o,s) → (w.heap.size≤g ∨ ∃ o0,σ.t α=some (g,o0,s)∧o0≤o) ∧ ∃ c e,w'.heap[g]? = some (.cells c e (0,0))∧c.size=s)
 (hv : ∀ cs,d1=some cs → k1=cs.length∧(r=none → cs=[]) ∧ ∀ g o s,r=some (g,o,s) → o=0∧cs.length≤s ∧ ∀ (i:Nat) x,cs[i]? = some x → ∃ v,w'.cell? ⟨g,i,none⟩=some v∧RelC σ H w x v) :
 Rel G (σ.withT α r) (H.set α (.tl k1 d1)) w'∧Ev H.n σ H w (σ.withT α r) (H.set α (.tl k1 d1)) w':=by
 have hαn:=Hp.lt hα
 have hold : ∀ b,b≠α → (σ.withT α r).t b=σ.t b:=fun b hb=>by simp [Gh.withT,hb]
 have hnew:(σ.withT α r).t α=r:=by simp [Gh.withT]
 have fcells : ∀ b x,(H.set α (.tl k1 d1)).f b=some (.cells x) → H.f b=some (.cells x):=by
  intro b x h;rw [Hp.f_set] at h;split at h
  · cases h
  · exact h
 have fobj : ∀ b vs S,(H.set α (.tl k1 d1)).f b=some (.obj vs S) → H.f b=some (.obj vs S):=by
  intro b vs S h;rw [Hp.f_set] at h;split at h
  · cases h
  · exact h
 have hobj : ∀ (g:Nat) (o:Obj),w.heap[g]? = some o → ze2 o=true → w'.heap[g]? = some o:=fun g o h h' =>
  (hb g (zcM h) fun o' s hh=>by
   obtain⟨c,e,q,_⟩:=hr.tail α k d g o' s hα hh
   rw [q] at h;cases h;cases h').trans h
 have ftail : ∀ b j c,(H.set α (.tl k1 d1)).f b=some (.tl j c) → (b=α∧j=k1∧c=d1) ∨ (b≠α∧H.f b=some (.tl j c)):=by
  intro b x c h;rw [Hp.f_set] at h;by_cases hb:b=α
  · rw [if_pos ⟨hb,hαn⟩] at h;cases h;exact .inl ⟨hb,rfl,rfl⟩
  · rw [if_neg (fun h=>hb h.1)] at h;exact .inr ⟨hb,h⟩
 have hev:Ev H.n σ H w (σ.withT α r) (H.set α (.tl k1 d1)) w':=by
  refine⟨fun g o v h1 h2 => ?_,fun _ _=>rfl,Nat.le_refl _,fun b hbn j c hj => ?_,hs,fun g hg hf=>⟨hb g hg (fun o s=>hf.2 α k d o s hα),fun b x h=>hf.1 b x (fcells _ _ h),fun b j c o s h => ?_,fun b vs S h=>hf.3 b vs S (fobj _ _ _ h)⟩,ho,hu⟩
  · have hlt:g < w.heap.size:=World.block_lt_of_cell? (a:=⟨g,o,none⟩) w h2
    refine⟨⟨fun b x h=>h1.1 b x (fcells _ _ h),fun b j c o' s h ht => ?_⟩,?_⟩
    · rcases ftail b j c h with ⟨rfl,rfl,rfl⟩ | ⟨hne,h⟩
      · rw [hnew] at ht
        rcases (hp g o' s ht).1 with h' | ⟨o0,h0,hle⟩
        · omega
        · exact Nat.lt_of_lt_of_le (h1.2 b k d o0 s hα h0) hle
      · rw [hold b hne] at ht;exact h1.2 b j c o' s h ht
    · cases hσ:σ.t α with
      | none=>simpa [World.cell?,hb g hlt (by simp [hσ])] using h2
      | some q =>
       obtain⟨g0,o0,s0⟩:=q
       by_cases hg:g0=g
       · subst hg;exact hin g0 o0 s0 hσ o v (h1.2 α k d o0 s0 hα hσ) h2
       · simpa [World.cell?,hb g hlt (by simp [hσ,hg])] using h2
  · rcases ftail b j c hj with ⟨rfl,rfl,rfl⟩ | ⟨hne,h⟩
    · exact⟨k,d,hα,hk.1,fun h=>by rw [hnew];exact hk.2 h⟩
    · exact⟨j,c,h,Nat.le_refl _,fun _=>hold b hne⟩
  · rcases ftail b j c h with ⟨rfl,rfl,rfl⟩ | ⟨hne,h⟩
    · rw [hnew];intro ht
      rcases (hp g o s ht).1 with h' | ⟨o0,h0,_⟩
      · omega
      · exact hf.2 b k d o0 s hα h0
    · rw [hold b hne];exact hf.2 b j c o s h
 refine⟨⟨fun b x h => ?_,fun b j c g o s h ht => ?_,fun b j cs h => ?_,fun b1 b2 x y h1 h2=>hr.cc b1 b2 x y (fcells _ _ h1) (fcells _ _ h2),fun b1 b2 x j c g o s h1 h2 ht => ?_,fun b1 b2 j c j' c' g o s o' s' h1 h2 ht ht' => ?_,hr.glob_mono hev,(hr.objs_keep hev fobj hobj).1,(hr.objs_keep hev fobj hobj).2,hr.gm_mono hev,hr.z_mono hev rfl⟩,hev⟩
 · have h':=fcells _ _ h
   obtain⟨c,e,q1,q2,q3⟩:=hr.cells b x h'
   exact⟨c,e,(hb _ (hr.c_lt h') (fun o s hh=>hr.ct b α x k d _ o s h' hα hh rfl)).trans q1,q2,fun i y hy=>let ⟨v,a,b⟩:=q3 i y hy;⟨v,a,b.mono hev⟩⟩
 · rcases ftail b j c h with ⟨rfl,rfl,rfl⟩ | ⟨hne,h⟩
   · rw [hnew] at ht;exact (hp g o s ht).2
   · rw [hold b hne] at ht
     obtain⟨c',e,q1,q2⟩:=hr.tail b j c g o s h ht
     exact⟨c',e,(hb _ (hr.t_lt h ht) (fun o' s' hh=>hne (hr.tt b α j c k d g o s o' s' h hα ht hh))).trans q1,q2⟩
 · rcases ftail b j _ h with ⟨rfl,rfl,hd⟩ | ⟨hne,h⟩
   · rw [hnew]
     obtain⟨q0,q1,q2⟩:=hv cs hd.symm
     refine⟨q0,q1,fun g o s hg => ?_⟩
     obtain⟨p0,p1,p2⟩:=q2 g o s hg
     exact⟨p0,p1,fun i x hx=>let ⟨v,a,b⟩:=p2 i x hx;⟨v,a,b.mono hev⟩⟩
   · rw [hold b hne]
     obtain⟨q0,q1,q2⟩:=hr.vec b j cs h
     refine⟨q0,q1,fun g o s hg => ?_⟩
     obtain⟨p0,p1,p2⟩:=q2 g o s hg
     refine⟨p0,p1,fun i x hx => ?_⟩
     obtain⟨v,a,b'⟩:=p2 i x hx
     exact⟨v,by simpa [World.cell?,hb g (hr.t_lt h hg) (fun o' s' hh=>hne (hr.tt b α j _ k d g o s o' s' h hα hg hh))] using a,b'.mono hev⟩
 · have h1':=fcells _ _ h1
   rcases ftail b2 j c h2 with ⟨rfl,rfl,rfl⟩ | ⟨hne,h⟩
   · rw [hnew] at ht
     rcases (hp g o s ht).1 with h' | ⟨o0,h0,_⟩
     · have:=hr.c_lt h1';show σ.c b1≠g;omega
     · exact hr.ct b1 b2 x k d g o0 s h1' hα h0
   · rw [hold b2 hne] at ht;exact hr.ct b1 b2 x j c g o s h1' h ht
 · rcases ftail b1 j c h1 with ⟨rfl,rfl,rfl⟩ | ⟨hne1,q1⟩
   · rcases ftail b2 j' c' h2 with ⟨rfl,rfl,rfl⟩ | ⟨hne2,q2⟩
     · rfl
     · rw [hnew] at ht;rw [hold b2 hne2] at ht'
       rcases (hp _ _ _ ht).1 with h' | ⟨o0,h0,_⟩
       · have:=hr.t_lt q2 ht';omega
       · exact hr.tt _ _ _ _ _ _ _ _ _ _ _ hα q2 h0 ht'
   · rcases ftail b2 j' c' h2 with ⟨rfl,rfl,rfl⟩ | ⟨hne2,q2⟩
     · rw [hnew] at ht';rw [hold b1 hne1] at ht
       rcases (hp _ _ _ ht').1 with h' | ⟨o0,h0,_⟩
       · have:=hr.t_lt q1 ht;omega
       · exact hr.tt _ _ _ _ _ _ _ _ _ _ _ q1 hα ht h0
     · rw [hold b1 hne1] at ht;rw [hold b2 hne2] at ht';exact hr.tt b1 b2 j c j' c' g o s o' s' q1 q2 ht ht'

theorem zdu (hr:Rel G σ H w) {α k:Nat} (hα:H.f α=some (.tail k)) {w':World} (hs:w.heap.size≤w'.heap.size)
 (hb : ∀ g,g < w.heap.size → (∀ o s,σ.t α≠some (g,o,s)) → w'.heap[g]? = w.heap[g]?)
 (hin : ∀ g o s,σ.t α=some (g,o,s) → ∀ i v,i < o → w.cell? ⟨g,i,none⟩=some v → w'.cell? ⟨g,i,none⟩=some v)
 (ho:w'.os=w.os) (hu:w'.output=w.output)
 (r:Option (Nat × Nat × Nat)) (hp : ∀ g o s,r=some (g,o,s) → (w.heap.size≤g ∨ ∃ o0,σ.t α=some (g,o0,s)∧o0≤o) ∧ ∃ c e,w'.heap[g]? = some (.cells c e (0,0))∧c.size=s) :
 Rel G (σ.withT α r) (H.set α (.tail (k+1))) w'∧Ev H.n σ H w (σ.withT α r) (H.set α (.tail (k+1))) w' :=
 zbI hr hα hs hb hin ho hu (k+1) none r ⟨by omega,fun h=>by omega⟩ hp (fun cs h=>by cases h)
end states

end Go.AL

namespace Go.AL
open Go

def zaV (op:BinOp) (k:IntKind) (a b:Int):Option Value :=
 match op with
 | .add=>some (.int k (k.wrap (a+b)))
 | .sub=>some (.int k (k.wrap (a - b)))
 | .mul=>some (.int k (k.wrap (a*b)))
 | .quo=>if b=0 then none else some (.int k (k.wrap (a.tdiv b)))
 | .rem=>if b=0 then none else some (.int k (a.tmod b))
 | .and=>some (.int k (k.wrap (BitVec.ofInt k.bits a &&& BitVec.ofInt k.bits b).toNat))
 | .or=>some (.int k (k.wrap (BitVec.ofInt k.bits a ||| BitVec.ofInt k.bits b).toNat))
 | .xor=>some (.int k (k.wrap (BitVec.ofInt k.bits a ^^^ BitVec.ofInt k.bits b).toNat))
 | .andNot=>some (.int k (k.wrap (BitVec.ofInt k.bits a &&& ~~~BitVec.ofInt k.bits b).toNat))
 | .eql=>some (.bool (a == b))
 | .neq=>some (.bool (a != b))
 | .lss=>some (.bool (decide (a < b)))
 | .leq=>some (.bool (decide (a≤b)))
 | .gtr=>some (.bool (decide (a > b)))
 | .geq=>some (.bool (decide (a ≥ b)))
 | _=>none

def zdv (op:BinOp) (k:IntKind) (a b:Int):Option Value :=
 if b < 0 then none else
 match op with
 | .shl=>some (.int k (k.wrap (a*2 ^ min b.toNat k.bits)))
 | .shr=>some (.int k (a.fdiv (2 ^ min b.toNat k.bits)))
 | _=>none

def zG:BinOp → Bool
 | .shl | .shr=>true
 | _=>false

def zEA (op:BinOp) (x y:ByteArray):Option Value :=
 match op with
 | .add=>if ((x.size+y.size:Nat):Int) > IntKind.i64.max then none else some (.string (x++y))
 | .eql=>some (.bool (x.toList == y.toList))
 | .neq=>some (.bool (!(x.toList == y.toList)))
 | .lss=>some (.bool (Op.bytesLess x.toList y.toList))
 | .leq=>some (.bool (Op.bytesLess x.toList y.toList || x.toList == y.toList))
 | .gtr=>some (.bool !(Op.bytesLess x.toList y.toList || x.toList == y.toList))
 | .geq=>some (.bool !(Op.bytesLess x.toList y.toList))
 | _=>none

def isBool (P:Program) (t:TypeId):Bool:=match P.underlying t with | some .bool=>true | _=>false

def zkb (d:Option TypeDesc):Bool:=match d with | some (.slice _)=>true | _=>false
def zCb (d:Option TypeDesc):Bool:=match d with | some (.pointer _)=>true | _=>false
def zeC (P:Program) (t:TypeId):Bool:=zCb (P.underlying t)
def zgT (P:Program) (t:TypeId):Bool:=match P.underlying t with | some (.func _ _ _)=>true | _=>false
def zdw (P:Program) (t:TypeId):Bool:=zkb (P.underlying t)

def yV (P:Program) (op:BinOp) (t:TypeId) (x y:Value):Option Value :=
 match x,y with
 | .int k a,.int k' b=>if zG op then zdv op k a b else if k=k' then zaV op k a b else none
 | .string a,.string b=>zEA op a b
 | .bool a,.bool b=>if isBool P t then (match op with | .eql=>some (.bool (a == b)) | .neq=>some (.bool (!(a == b))) | _=>none) else none
 | .slice none _ _,.slice none _ _=>if zdw P t then (match op with | .eql=>some (.bool true) | .neq=>some (.bool false) | _=>none) else none
 | .nilFunc,.nilFunc=>if zgT P t then (match op with | .eql=>some (.bool true) | .neq=>some (.bool false) | _=>none) else none
 | .pointer a,.pointer none=>if zeC P t then (match op with | .eql=>some (.bool a.isNone) | .neq=>some (.bool !a.isNone) | _=>none) else none
 | _,_=>none

theorem yg {P:Program} {w:World} {op t xo yo a b} (h : ∀ cs,a ≠ .agg cs) (hn:a ≠ .nilIface):(eqGuard op t xo yo a b).run P w = .ok () w:=by
 unfold eqGuard
 cases a<;>first | exact absurd rfl hn | exact absurd rfl (h _) | (cases op<;>simp) | skip

theorem zg8 {P:Program} {t:TypeId} (hu:P.underlying t=some .bool) (a b:Bool) (w:World):(Op.equal t (.bool a) (.bool b)).run P w = .ok (a == b) w:=by
 have hd:Op.maxDepth=9999+1:=rfl;unfold Op.equal;rw [hd,Op.equalIn,Sem.run_bind,run_underlying hu,Result.andThen_ok];rfl

theorem ze3 {P:Program} {t:TypeId} (h:zdw P t=true) : ∃ e,P.underlying t=some (.slice e):=by
 unfold zdw zkb at h;split at h
 · exact⟨_,by assumption⟩
 · cases h

theorem zdx {P:Program} {t e:TypeId} (hu:P.underlying t=some (.slice e)) (a:Option Addr) (l c l' c':Nat) (w:World):(Op.equal t (.slice a l c) (.slice none l' c')).run P w = .ok a.isNone w:=by
 have hd:Op.maxDepth=9999+1:=rfl;unfold Op.equal;rw [hd,Op.equalIn,Sem.run_bind,run_underlying hu,Result.andThen_ok]
 cases a<;>rfl

theorem zg9 {P:Program} {t:TypeId} (h:zeC P t=true) : ∃ e,P.underlying t=some (.pointer e):=by
 unfold zeC zCb at h;split at h
 · exact⟨_,by assumption⟩
 · cases h
theorem zeD {P:Program} {t e:TypeId} (hu:P.underlying t=some (.pointer e)) (a:Option Addr) (w:World):(Op.equal t (.pointer a) (.pointer none)).run P w = .ok a.isNone w:=by
 have hd:Op.maxDepth=9999+1:=rfl;unfold Op.equal;rw [hd,Op.equalIn,Sem.run_bind,run_underlying hu,Result.andThen_ok]
 cases a<;>rfl
theorem zgc {P:Program} {t:TypeId} (h:zgT P t=true) : ∃ a b c,P.underlying t=some (.func a b c):=by
 unfold zgT at h;split at h
 · exact⟨_,_,_,by assumption⟩
 · cases h
theorem zoO {P:Program} {t:TypeId} {a b c} (hu:P.underlying t=some (.func a b c)) (f:Fn) (as cs:Array Value) (w:World):(Op.equal t (.func f as cs) .nilFunc).run P w = .ok false w:=by
 have hd:Op.maxDepth=9999+1:=rfl;unfold Op.equal;rw [hd,Op.equalIn,Sem.run_bind,run_underlying hu,Result.andThen_ok];rfl
theorem zgd {P:Program} {t:TypeId} {a b c} (hu:P.underlying t=some (.func a b c)) (w:World):(Op.equal t .nilFunc .nilFunc).run P w = .ok true w:=by
 have hd:Op.maxDepth=9999+1:=rfl;unfold Op.equal;rw [hd,Op.equalIn,Sem.run_bind,run_underlying hu,Result.andThen_ok];rfl

theorem zxx {P:Program} {op t x y v} (h:yV P op t x y=some v) (xo yo:Operand) (w:World) :
    (do eqGuard op t xo yo x y;binOp op t x y:Sem Value).run P w = .ok v w:=by
  unfold yV at h;split at h
  · rename_i k a k' b;rw [Sem.run_bind,yg (by simp) (by simp),Result.andThen_ok];split at h
    · unfold zdv at h;split at h
      · cases h
      · rename_i hs hb
        cases op<;>simp [zG] at hs
        all_goals
          simp only [Option.some.injEq] at h;subst h;simp [binOp,Op.shift,hb]
    · rename_i hs;split at h
      · rename_i hk;subst hk
        cases op<;>simp [zG] at hs<;>simp only [zaV] at h
        case quo => split at h; · cases h
                    · rename_i hb;cases h;simp [binOp,Op.intDiv,hb]
        case rem => split at h; · cases h
                    · rename_i hb;cases h;simp [binOp,Op.intDiv,hb]
        all_goals first
          | (cases h;done)
          | (simp only [Option.some.injEq] at h;subst h;simp [binOp,Op.intArith,Op.intBits,Op.intCmp];done)
      · cases h
  · rename_i a b;rw [Sem.run_bind,yg (by simp) (by simp),Result.andThen_ok]
    cases op<;>simp only [zEA] at h
    case add => split at h; · cases h
                · rename_i hb;cases h;simp only [binOp,Op.stringOp];rw [if_neg hb];rfl
    all_goals first
      | (cases h;done)
      | (simp only [Option.some.injEq] at h;subst h;simp [binOp,Op.stringOp];done)
  · rename_i a b;rw [Sem.run_bind,yg (by simp) (by simp),Result.andThen_ok];split at h
    · rename_i ht
      have hu:P.underlying t=some .bool:=by
        unfold isBool at ht;split at ht
        · assumption
        · cases ht
      cases op<;>simp only at h
      case eql=>cases h;simp only [binOp];rw [Sem.run_bind,zg8 hu];rfl
      case neq=>cases h;simp only [binOp];rw [Sem.run_bind,zg8 hu];rfl
      all_goals cases h
    · cases h
  · rw [Sem.run_bind,yg (by simp) (by simp),Result.andThen_ok];split at h
    · rename_i ht
      obtain⟨e,hu⟩:=ze3 ht
      cases op<;>simp only at h
      case eql=>cases h;simp only [binOp];rw [Sem.run_bind,zdx hu];rfl
      case neq=>cases h;simp only [binOp];rw [Sem.run_bind,zdx hu];rfl
      all_goals cases h
    · cases h
  · rw [Sem.run_bind,yg (by simp) (by simp),Result.andThen_ok];split at h
    · rename_i ht
      obtain⟨_,_,_,hu⟩:=zgc ht
      cases op<;>simp only at h
      case eql=>cases h;simp only [binOp];rw [Sem.run_bind,zgd hu];rfl
      case neq=>cases h;simp only [binOp];rw [Sem.run_bind,zgd hu];rfl
      all_goals cases h
    · cases h
  · rw [Sem.run_bind,yg (by simp) (by simp),Result.andThen_ok];split at h
    · rename_i ht
      obtain⟨_,hu⟩:=zg9 ht
      cases op<;>simp only at h
      case eql=>cases h;simp only [binOp];rw [Sem.run_bind,zeD hu];rfl
      case neq=>cases h;simp only [binOp];rw [Sem.run_bind,zeD hu];rfl
      all_goals cases h
    · cases h
  · cases h

def vUn (op:UnOp) (x:Value):Option Value :=
 match op,x with
 | .neg,.int k n=>some (.int k (k.wrap (0 - n)))
 | .xor,.int k n=>some (.int k (k.wrap (BitVec.ofInt k.bits (if k.signed then -1 else k.max) ^^^ BitVec.ofInt k.bits n).toNat))
 | .not,.bool b=>some (.bool !b)
 | _,_=>none

theorem zCc {P:Program} {op x v} (h:vUn op x=some v) (w:World):(Op.unary op x).run P w = .ok v w:=by
 unfold vUn at h
 split at h<;>first
  | (cases h;done)
  | (simp only [Option.some.injEq] at h;subst h;simp [Op.unary,Op.intArith,Op.intBits];done)

def zge (P:Program) (d:TypeId) (x:Value):Option Value :=
 match P.underlying d,x with
 | some (.int k),.int _ n=>some (.int k (k.wrap n))
 | some .string,.string s=>some (.string s)
 | _,_=>none

theorem zth {P:Program} {s d x v} (hs:(P.underlying s).isSome=true) (h:zge P d x=some v) (w:World):(convert s d x).run P w = .ok v w:=by
 obtain⟨u,hu⟩:=Option.isSome_iff_exists.1 hs
 unfold zge at h;split at h
 · rename_i k _ n hd;cases h;simp [convert,run_underlying hu,run_underlying hd,Conv.intToInt]
 · rename_i b hd;cases h;simp [convert,run_underlying hu,run_underlying hd]
 · cases h


end Go.AL

namespace Go.AL
open Go

def z8:TypeDesc → Bool
 | .struct _ | .array _ _=>true
 | _=>false

section runs
variable {P:Program} {w:World}
theorem zR {t:TypeId} (h:0 < P.cellsOf t):(sizeOf t).run P w = .ok (P.cellsOf t) w:=by
 unfold Program.cellsOf at *
 cases hi:P.info? t with
 | none=>simp [hi] at h
 | some i=>simp [sizeOf,typeInfo,hi]
theorem zab {t:TypeId} {d:TypeDesc} (h:P.underlying t=some d):(sizeOf t).run P w = .ok (P.cellsOf t) w:=by
 unfold Program.cellsOf
 cases hi:P.info? t with
 | none=>simp [Program.underlying,hi] at h
 | some i=>simp [sizeOf,typeInfo,hi]
theorem zaA {t:TypeId} {d:TypeDesc} (h:P.underlying t=some d):(isAgg t).run P w = .ok (z8 d) w:=by
 unfold isAgg;rw [Sem.run_bind,run_underlying h,Result.andThen_ok]
 cases d<;>rfl
theorem zE (g o n:Nat):(⟨g,o,none⟩:Addr).add n=⟨g,o+n,none⟩:=by unfold Addr.add;split<;>simp_all
end runs

theorem flat_get {sz:Nat} : ∀ {xs:List PV} (_ : ∀ x∈xs,x.cells.length=sz) {i j:Nat} {x y:PV},xs[i]? = some x → x.cells[j]? = some y → (flat xs)[i*sz+j]? = some y
 | [],_,i,j,x,y,hi,_=>by simp at hi
 | z :: xs,h,0,j,x,y,hi,hj=>by
  simp only [List.getElem?_cons_zero,Option.some.injEq] at hi;subst hi;have hlt:j < z.cells.length:=(List.getElem?_eq_some_iff.1 hj).1;simp only [flat,List.flatMap_cons,Nat.zero_mul,Nat.zero_add];rw [List.getElem?_append_left hlt];exact hj
 | z :: xs,h,i+1,j,x,y,hi,hj=>by
  simp only [List.getElem?_cons_succ] at hi;have hz:z.cells.length=sz:=h z (by simp);have ih:=flat_get (xs:=xs) (fun x hx=>h x (by simp [hx])) hi hj;simp only [flat,List.flatMap_cons];rw [List.getElem?_append_right (by rw [hz,Nat.succ_mul];omega)];rw [show (i+1)*sz+j - z.cells.length=i*sz+j by rw [hz,Nat.succ_mul];omega];exact ih

theorem zV {sz:Nat} : ∀ {xs:List PV} (_ : ∀ x∈xs,x.cells.length=sz),(flat xs).length=xs.length*sz
 | [],_=>by simp [flat]
 | z :: xs,h=>by
  have ih:=zV (xs:=xs) (fun x hx=>h x (by simp [hx]));simp only [flat,List.flatMap_cons,List.length_append,List.length_cons] at *;rw [ih,h z (by simp),Nat.succ_mul];omega

theorem RelP.elem {w:World} {S:Nat → Nat → Prop} {fl:Bool} {sz:Nat} {xs:List PV} {g off cap:Nat} {sp:Option Nat} {len:Nat} (h:RelP w S (.sl fl sz xs) (.slice (some ⟨g,off,sp⟩) len cap))
 {i j:Nat} {x y:PV} (hi:xs[i]? = some x) (hj:x.cells[j]? = some y) : ∃ v,w.cell? ⟨g,off+(i*sz+j),none⟩=some v∧RelP w S y v∧v.oneCell'=true:=by
 cases h with
 | emp=>simp at hi
 | sl fl sz xs g off cap f hfl hcap hsz hrd hc =>
  have hk:=flat_get hsz hi hj
  have hlt:i*sz+j < xs.length*sz:=by rw [←zV hsz];exact (List.getElem?_eq_some_iff.1 hk).1
  exact⟨f (i*sz+j),(hrd _ hlt).2.1,hc _ _ hk,(hrd _ hlt).2.2⟩


def AV.pv? : AV → Option PV
 | .p x=>some x
 | .sl _ _ sz xs=>some (.sl false sz xs)
 | _=>none

def pvs? : List AV → Option (List PV)
 | []=>some []
 | x :: xs=>match x.pv?,pvs? xs with
  | some y,some ys=>some (y :: ys)
  | _,_=>none

theorem AV.pv?_rel {σ H w} {x:AV} {y:PV} {v:Value} (h:x.pv? = some y) (r:RelV σ H w x v):RelP w (Stable σ H) y v:=by
 cases x<;>simp only [AV.pv?] at h<;>try cases h
 · cases r;assumption
 · cases r;assumption

theorem pvs?_get : ∀ {xs:List AV} {ys:List PV},pvs? xs=some ys → ys.length=xs.length ∧ ∀ (i:Nat) y,ys[i]? = some y → ∃ x,xs[i]? = some x∧x.pv? = some y
 | [],ys,h=>by simp only [pvs?,Option.some.injEq] at h;subst h;simp
 | x :: xs,ys,h=>by
  simp only [pvs?] at h;split at h
  · rename_i y ys' h1 h2;cases h
    obtain⟨hl,hg⟩:=pvs?_get h2
    refine⟨by simp [hl],fun i z hi => ?_⟩
    cases i with
    | zero=>simp at hi;subst hi;exact⟨x,by simp,h1⟩
    | succ i=>simp at hi ⊢;exact hg i z hi
  · cases h

def zu (xs:List AV):AV:=match pvs? xs with | some ps => .p (.agg ps) | none => .agg xs

theorem zcq {σ H w} {xs:List AV} {vs:Array Value} (hl:vs.size=xs.length) (h1 : ∀ (i:Nat) v,vs[i]? = some v → v.oneCell'=true) (h : ∀ (i:Nat) x v,xs[i]? = some x → vs[i]? = some v → RelV σ H w x v):RelV σ H w (zu xs) (.agg vs):=by
 unfold zu
 split
 · rename_i ps hp
   obtain⟨hpl,hg⟩:=pvs?_get hp
   refine .p (.agg ps vs (by omega) h1 fun i y v hy hv => ?_)
   obtain⟨x,hx,hxy⟩:=hg i y hy
   exact AV.pv?_rel hxy (h i x v hx hv)
 · exact .agg vs hl h1 h

def PV.isAgg:PV → Bool
 | .agg _=>true
 | _=>false

def PV.aggOf (x:PV) (sub n:Nat):PV:=if x.isAgg && sub == 0 && n == x.cells.length then x else .agg ((x.cells.drop sub).take n)

theorem PV.aggOf_eq (x:PV) (sub n:Nat):x.aggOf sub n = .agg ((x.cells.drop sub).take n):=by
 unfold PV.aggOf
 split
 · rename_i h;simp only [Bool.and_eq_true,beq_iff_eq] at h
   obtain⟨⟨ha,rfl⟩,rfl⟩:=h
   cases x<;>simp [PV.isAgg] at ha
   simp [PV.cells]
 · rfl

def AB.vec? : AB → Option (List AV)
 | .tl _ c=>c
 | _=>none

theorem vec?_inv {o:Option AB} {cs:List AV} (h:o.bind AB.vec? = some cs) : ∃ k,o=some (.tl k (some cs)):=by
 cases o with
 | none=>cases h
 | some x =>
  cases x with
  | tl k c=>simp only [Option.bind_some,AB.vec?] at h;subst h;exact⟨k,rfl⟩
  | _=>cases h

def zcg (P:Program) (H:Hp) (t:TypeId) (a:AV):Option AV :=
 match P.underlying t with
 | some d =>
  match a with
  | .ptr b off =>
   match H.f b with
   | some (.cells cs)=>if z8 d then (if off+P.cellsOf t≤cs.length then some (zu ((cs.drop off).take (P.cellsOf t))) else none) else cs[off]?
   | _=>none
  | .ip _ xs i sub =>
   match xs[i]? with
   | some x=>if z8 d then (if sub+P.cellsOf t≤x.cells.length then some (.p (x.aggOf sub (P.cellsOf t))) else none) else (x.cells[sub]?).map .p
   | none=>none
  | .vp b k off =>
   match (H.f b).bind AB.vec? with
   | some cs=>if cs.length=k then (if z8 d then (if off+P.cellsOf t≤cs.length then some (zu ((cs.drop off).take (P.cellsOf t))) else none) else cs[off]?) else none
   | none=>none
  | _=>none
 | none=>none

section memory
variable {P:Program} {G:Globs} {σ:Gh} {H:Hp} {w:World}

theorem zeE (hr:Rel G σ H w) {b:Nat} {cs:List AV} (hb:H.f b=some (.cells cs)) {i:Nat} {x:AV} (hi:cs[i]? = some x) :
 ∃ v,w.cell? ⟨σ.c b,i,none⟩=some v∧RelC σ H w x v:=by
 obtain⟨c,e,h1,h2,h3⟩:=hr.cells b cs hb
 obtain⟨v,hv,hx⟩:=h3 i x hi
 exact⟨v,by simp [World.cell?,h1,hv],hx⟩

theorem zr6 (hr:Rel G σ H w) {b:Nat} {cs:List AV} (hb:(H.f b).bind AB.vec? = some cs) {off:Nat} {a:Addr} (h:VpOK σ H b cs.length off a) :
 ∃ g s,σ.t b=some (g,0,s)∧a=⟨g,off,none⟩∧cs.length≤s ∧ ∀ (i:Nat) x,cs[i]? = some x → ∃ v,w.cell? ⟨g,i,none⟩=some v∧RelC σ H w x v:=by
 obtain⟨k,hk⟩:=vec?_inv hb
 obtain⟨rfl,_,h2⟩:=hr.vec b k cs hk
 obtain⟨g,s,ht,ha⟩:=(h.2 _ _ hk).2 rfl
 exact⟨g,s,ht,ha,(h2 g 0 s ht).2⟩

theorem zbq {t:TypeId} {d:TypeDesc} (hu:P.underlying t=some d) (hd:z8 d=true) (a:Addr) (f:Nat → Value) (h : ∀ j,j < P.cellsOf t → w.cell? (a.add j)=some (f j)) :
 (loadVar t a).run P w = .ok (.agg ((List.range (P.cellsOf t)).map f).toArray) w:=by
 simp only [loadVar,Sem.run_bind,zaA hu,Result.andThen_ok,hd,if_true,zab hu,run_loadCells w a _ f h];rfl

theorem zbr {t:TypeId} {d:TypeDesc} (hu:P.underlying t=some d) (hd:z8 d=false) (a:Addr) {v:Value} (h:w.cell? a=some v):(loadVar t a).run P w = .ok v w:=by
 simp [loadVar,Sem.run_bind,zaA hu,Result.andThen_ok,hd,h]

theorem zxy {t:TypeId} {d:TypeDesc} (hu:P.underlying t=some d) {g off:Nat} {cs:List AV} {y:AV} (hcell : ∀ (i:Nat) x,cs[i]? = some x → ∃ v,w.cell? ⟨g,i,none⟩=some v∧RelC σ H w x v)
 (h:(if z8 d then (if off+P.cellsOf t≤cs.length then some (zu ((cs.drop off).take (P.cellsOf t))) else none) else cs[off]?)=some y) :
 ∃ v,(Instr.loadAt t (.pointer (some ⟨g,off,none⟩))).run P w = .ok v w∧RelV σ H w y v:=by
 simp only [Instr.loadAt,Instr.sureAddr,Sem.run_bind,Sem.run_pure,Result.andThen_ok];by_cases hd:z8 d=true
 · rw [if_pos hd] at h;split at h
   case isFalse=>cases h
   rename_i hle;cases h
   have hex : ∀ j,j < P.cellsOf t → ∃ v,w.cell? ⟨g,off+j,none⟩=some v ∧ ∃ x,cs[off+j]? = some x∧RelC σ H w x v:=fun j hj=>by
    have hx:cs[off+j]? = some (cs[off+j]'(by omega)):=by simp
    obtain⟨v,a,b⟩:=hcell _ _ hx
    exact⟨v,a,_,hx,b⟩
   let f:Nat → Value:=fun j=>(w.cell? ⟨g,off+j,none⟩).getD undef
   have hf : ∀ j,j < P.cellsOf t → w.cell? ((⟨g,off,none⟩:Addr).add j)=some (f j):=fun j hj=>by
    obtain⟨v,hv,_⟩:=hex j hj
    rw [zE,hv];simp [f,hv]
   have h1 : ∀ (i:Nat) v,(((List.range (P.cellsOf t)).map f).toArray)[i]? = some v → v.oneCell'=true:=fun i v hv=>by
    have hi:i < P.cellsOf t:=by
     rcases Nat.lt_or_ge i (P.cellsOf t) with h' | h'
     · exact h'
     · simp [h'] at hv
    obtain⟨u,hu1,_,_,hu2⟩:=hex i hi
    simp [hi,f,hu1] at hv;subst hv;exact hu2.2
   refine⟨_,zbq hu hd _ f hf,zcq (by simp;omega) h1 fun i x v hx hv => ?_⟩
   have hi:i < P.cellsOf t:=by
    rcases Nat.lt_or_ge i (P.cellsOf t) with h' | h'
    · exact h'
    · simp [List.getElem?_take,Nat.not_lt.2 h'] at hx
   obtain⟨u,hu1,x',hx',hu2⟩:=hex i hi
   simp [List.getElem?_take,hi,hx'] at hx;simp [hi,f,hu1] at hv;subst hx;subst hv;exact hu2.1
 · have hd:z8 d=false:=by simpa using hd
   rw [if_neg (by simp [hd])] at h
   obtain⟨v,hv,hx⟩:=hcell _ _ h
   exact⟨v,zbr hu hd _ hv,hx.1⟩

theorem zjh (hr:Rel G σ H w) {t:TypeId} {a y:AV} {va:Value} (h:zcg P H t a=some y) (ha:RelV σ H w a va) :
 ∃ v,(Instr.loadAt t va).run P w = .ok v w∧RelV σ H w y v:=by
 unfold zcg at h;split at h
 case h_2=>cases h
 rename_i d hu;split at h
 case h_4=>cases h
 · rename_i b off;split at h
   case h_2=>cases h
   rename_i cs hb
   cases ha with | ptr hbn =>
   simp only [Instr.loadAt,Instr.sureAddr,Sem.run_bind,Sem.run_pure,Result.andThen_ok];by_cases hd:z8 d=true
   · rw [if_pos hd] at h;split at h
     case isFalse=>cases h
     rename_i hle;cases h
     have hex : ∀ j,j < P.cellsOf t → ∃ v,w.cell? ⟨σ.c b,off+j,none⟩=some v ∧ ∃ x,cs[off+j]? = some x∧RelC σ H w x v:=fun j hj=>by
      have hx:cs[off+j]? = some (cs[off+j]'(by omega)):=by simp
      obtain⟨v,a,b⟩:=zeE hr hb hx
      exact⟨v,a,_,hx,b⟩
     let f:Nat → Value:=fun j=>(w.cell? ⟨σ.c b,off+j,none⟩).getD undef
     have hf : ∀ j,j < P.cellsOf t → w.cell? ((⟨σ.c b,off,none⟩:Addr).add j)=some (f j):=fun j hj=>by
      obtain⟨v,hv,_⟩:=hex j hj
      rw [zE,hv];simp [f,hv]
     have h1 : ∀ (i:Nat) v,(((List.range (P.cellsOf t)).map f).toArray)[i]? = some v → v.oneCell'=true:=fun i v hv=>by
      have hi:i < P.cellsOf t:=by
       rcases Nat.lt_or_ge i (P.cellsOf t) with h' | h'
       · exact h'
       · simp [h'] at hv
      obtain⟨u,hu1,_,_,hu2⟩:=hex i hi
      simp [hi,f,hu1] at hv;subst hv;exact hu2.2
     refine⟨_,zbq hu hd _ f hf,zcq (by simp;omega) h1 fun i x v hx hv => ?_⟩
     have hi:i < P.cellsOf t:=by
      rcases Nat.lt_or_ge i (P.cellsOf t) with h' | h'
      · exact h'
      · simp [List.getElem?_take,Nat.not_lt.2 h'] at hx
     obtain⟨u,hu1,x',hx',hu2⟩:=hex i hi
     simp [List.getElem?_take,hi,hx'] at hx;simp [hi,f,hu1] at hv;subst hx;subst hv;exact hu2.1
   · have hd:z8 d=false:=by simpa using hd
     rw [if_neg (by simp [hd])] at h
     obtain⟨v,hv,hx⟩:=zeE hr hb h
     exact⟨v,zbr hu hd _ hv,hx.1⟩
 · rename_i sz xs i sub;split at h
   case h_2=>cases h
   rename_i x hx
   cases ha with | @ip _ _ _ _ g off cap hp hi hs =>
   simp only [Instr.loadAt,Instr.sureAddr,Sem.run_bind,Sem.run_pure,Result.andThen_ok];by_cases hd:z8 d=true
   · rw [if_pos hd] at h;split at h
     case isFalse=>cases h
     rename_i hle;cases h
     have hex : ∀ j,j < P.cellsOf t → ∃ v,w.cell? ⟨g,off+i*sz+sub+j,none⟩=some v ∧ ∃ y,x.cells[sub+j]? = some y∧RelP w (Stable σ H) y v∧v.oneCell'=true:=fun j hj=>by
      have hy:x.cells[sub+j]? = some (x.cells[sub+j]'(by omega)):=by simp
      obtain⟨v,a,b⟩:=hp.elem hx hy
      exact⟨v,by simpa [Nat.add_assoc] using a,_,hy,b⟩
     let f:Nat → Value:=fun j=>(w.cell? ⟨g,off+i*sz+sub+j,none⟩).getD undef
     have hf : ∀ j,j < P.cellsOf t → w.cell? ((⟨g,off+i*sz+sub,none⟩:Addr).add j)=some (f j):=fun j hj=>by
      obtain⟨v,hv,_⟩:=hex j hj
      rw [zE,hv];simp [f,hv]
     have h1 : ∀ (i:Nat) v,(((List.range (P.cellsOf t)).map f).toArray)[i]? = some v → v.oneCell'=true:=fun i v hv=>by
      have hi:i < P.cellsOf t:=by
       rcases Nat.lt_or_ge i (P.cellsOf t) with h' | h'
       · exact h'
       · simp [h'] at hv
      obtain⟨u,hu1,_,_,hu2⟩:=hex i hi
      simp [hi,f,hu1] at hv;subst hv;exact hu2.2
     refine⟨_,zbq hu hd _ f hf,?_⟩
     rw [PV.aggOf_eq];refine .p (.agg _ _ (by simp;omega) h1 fun k y v hy hv => ?_)
     have hk:k < P.cellsOf t:=by
      rcases Nat.lt_or_ge k (P.cellsOf t) with h' | h'
      · exact h'
      · simp [List.getElem?_take,Nat.not_lt.2 h'] at hy
     obtain⟨u,hu1,x',hx',hu2⟩:=hex k hk
     simp [List.getElem?_take,hk,hx'] at hy;simp [hk,f,hu1] at hv;subst hy;subst hv;exact hu2.1
   · have hd:z8 d=false:=by simpa using hd
     rw [if_neg (by simp [hd])] at h
     cases hy:x.cells[sub]? with
     | none=>simp [hy] at h
     | some z =>
      simp only [hy,Option.map_some,Option.some.injEq] at h;subst h
      obtain⟨v,hv,hx⟩:=hp.elem hx hy
      exact⟨v,zbr hu hd _ (by simpa [Nat.add_assoc] using hv),.p hx.1⟩
 · rename_i b k off;split at h
   case h_2=>cases h
   rename_i cs hb;split at h
   case isFalse=>cases h
   rename_i hk;subst hk
   cases ha with | vp a hp =>
   obtain⟨g,s,_,rfl,_,hcell⟩:=zr6 hr hb hp
   exact zxy hu hcell h

def AV.int? : AV → Option Int
 | .p (.s (.int _ n))=>some n
 | _=>none

theorem AV.int?_inv {x:AV} {n:Int} {v:Value} (h:x.int? = some n) (r:RelV σ H w x v) : ∃ k,v = .int k n:=by
 cases x with
 | p x =>
  cases x with
  | s u=>cases u<;>simp only [AV.int?] at h<;>cases h;cases r with | p r=>cases r;exact⟨_,rfl⟩
  | _=>cases h
 | _=>cases h

def zbM (P:Program) (t:TypeId) (x ix:AV):Option AV :=
 match ix.int? with
 | some n =>
  match P.underlying t,x with
  | some (.slice e),.p (.sl _ sz xs) | some (.slice e),.sl _ _ sz xs=>if 0≤n∧n.toNat < xs.length∧P.cellsOf e=sz∧0 < sz then some (.ip sz xs n.toNat 0) else none
  | some (.slice e),.ref b off len sz=>if 0≤n∧n.toNat < len∧P.cellsOf e=sz∧0 < sz then some (.ptr b (off+n.toNat*sz)) else none
  | some (.array len e),.ptr b off=>if 0≤n∧n.toNat < len∧0 < P.cellsOf e then some (.ptr b (off+n.toNat*P.cellsOf e)) else none
  | some (.array len e),.ip sz xs i sub=>if 0≤n∧n.toNat < len∧0 < P.cellsOf e∧sub+n.toNat*P.cellsOf e < sz then some (.ip sz xs i (sub+n.toNat*P.cellsOf e)) else none
  | some (.slice e),.vr b len sz=>if 0≤n∧n.toNat < len∧P.cellsOf e=sz∧0 < sz then some (.vp b (len*sz) (n.toNat*sz)) else none
  | some (.array len e),.vp b k off=>if 0≤n∧n.toNat < len∧0 < P.cellsOf e then some (.vp b k (off+n.toNat*P.cellsOf e)) else none
  | _,_=>none
 | none=>none

theorem VpOK.add {b k off n:Nat} {a:Addr} (h:VpOK σ H b k off a):VpOK σ H b k (off+n) (a.add n) :=
 ⟨h.1,fun k0 c hk=>⟨(h.2 k0 c hk).1,fun he=>let ⟨g,s,h1,h2⟩:=(h.2 k0 c hk).2 he;⟨g,s,h1,by rw [h2,zE]⟩⟩⟩

theorem zaH {t e:TypeId} {k:IntKind} {n:Int} {a:Addr} {len cap:Nat} (hu:P.underlying t=some (.slice e)) (h0:0≤n) (hn:n.toNat < len) (hs:0 < P.cellsOf e) :
 (Instr.indexAt t (.slice (some a) len cap) (.int k n)).run P w = .ok (.pointer (some (a.add (n.toNat*P.cellsOf e)))) w:=by
 simp only [Instr.indexAt,asIntOf,Sem.run_bind,Sem.run_pure,Result.andThen_ok,run_underlying hu];rw [if_pos ⟨h0,by omega⟩];simp [zR hs]

theorem zbs {t e:TypeId} {k:IntKind} {n:Int} {a:Addr} {len:Nat} (hu:P.underlying t=some (.array len e)) (h0:0≤n) (hn:n.toNat < len) (hs:0 < P.cellsOf e) :
 (Instr.indexAt t (.pointer (some a)) (.int k n)).run P w = .ok (.pointer (some (a.add (n.toNat*P.cellsOf e)))) w:=by
 simp only [Instr.indexAt,asIntOf,Sem.run_bind,Sem.run_pure,Result.andThen_ok,run_underlying hu,Instr.sureAddr];rw [if_pos ⟨h0,by omega⟩];simp [zR hs]

theorem zlI {fl:Bool} {sz:Nat} {xs:List PV} {v:Value} (h:RelP w (Stable σ H) (.sl fl sz xs) v) {i:Nat} (hi:i < xs.length) (hz:0 < sz) :
 ∃ g off cap,v = .slice (some ⟨g,off,none⟩) xs.length cap∧RelV σ H w (.ip sz xs i 0) (.pointer (some ⟨g,off+i*sz,none⟩)):=by
 cases h with
 | emp=>simp at hi
 | sl fl sz xs g off cap f hfl hcap hsz hrd hc =>
  exact⟨g,off,cap,rfl,.ip (off:=off) (cap:=cap) (.sl false sz xs g off cap f (by simp) hcap hsz hrd hc) hi hz⟩

theorem zha {t:TypeId} {x ix y:AV} {vx vi:Value} (h:zbM P t x ix=some y) (hx:RelV σ H w x vx) (hi:RelV σ H w ix vi) :
 ∃ v,(Instr.indexAt t vx vi).run P w = .ok v w∧RelV σ H w y v:=by
 unfold zbM at h;split at h
 case h_2=>cases h
 rename_i n hn
 obtain⟨k,rfl⟩:=AV.int?_inv hn hi
 split at h
 case h_8=>cases h
 · rename_i e fl sz xs hu;split at h
   case isFalse=>cases h
   rename_i hc
   obtain⟨h0,hlt,rfl,hz⟩:=hc
   cases h
   cases hx with | p hx =>
   obtain⟨g,off,cap,rfl,hp⟩:=zlI hx hlt hz
   exact⟨_,zaH hu h0 hlt hz,by rw [zE];exact hp⟩
 · rename_i e α kk sz xs hu;split at h
   case isFalse=>cases h
   rename_i hc
   obtain⟨h0,hlt,rfl,hz⟩:=hc
   cases h
   cases hx with | sl hx _ =>
   obtain⟨g,off,cap,rfl,hp⟩:=zlI hx hlt hz
   exact⟨_,zaH hu h0 hlt hz,by rw [zE];exact hp⟩
 · rename_i e b off len sz hu;split at h
   case isFalse=>cases h
   rename_i hc
   obtain⟨h0,hlt,rfl,hz⟩:=hc
   cases h
   cases hx with | ref a h00 hb hcap ha =>
   refine⟨_,zaH hu h0 hlt hz,?_⟩
   rw [ha (by omega),zE];exact .ptr hb
 · rename_i len e b off hu;split at h
   case isFalse=>cases h
   rename_i hc
   obtain⟨h0,hlt,hz⟩:=hc
   cases h
   cases hx with | ptr hb =>
   exact⟨_,zbs hu h0 hlt hz,by rw [zE];exact .ptr hb⟩
 · rename_i len e sz xs i sub hu;split at h
   case isFalse=>cases h
   rename_i hc
   obtain⟨h0,hlt,hz,hs⟩:=hc
   cases h
   cases hx with | ip hp hi' hs' =>
   refine⟨_,zbs hu h0 hlt hz,?_⟩
   rw [zE,Nat.add_assoc];exact .ip hp hi' hs
 · rename_i e b len sz hu;split at h
   case isFalse=>cases h
   rename_i hc
   obtain⟨h0,hlt,rfl,hz⟩:=hc
   cases h
   cases hx with | vr hx =>
   obtain⟨hb,a,cap,rfl,hs,hx⟩:=hx
   obtain⟨a,rfl⟩:=Option.isSome_iff_exists.1 (hs (by omega))
   refine⟨_,zaH hu h0 hlt hz,.vp _ ⟨hb,fun k0 c hk=>⟨(hx k0 c hk).1,fun he => ?_⟩⟩⟩
   rcases (hx k0 c hk).2 he with ⟨h1,_⟩ | ⟨g,s,h1,h2,_⟩
   · omega
   · cases h1
     exact⟨g,s,h2,by rw [zE];simp⟩
 · rename_i len e b k off hu;split at h
   case isFalse=>cases h
   rename_i hc
   obtain⟨h0,hlt,hz⟩:=hc
   cases h
   cases hx with | vp a hb =>
   exact⟨_,zbs hu h0 hlt hz,.vp _ hb.add⟩

def zbN (P:Program) (s:TypeId) (x:AV) (field:Nat):Option AV :=
 match P.underlying s with
 | some (.struct fields) =>
  match fields[field]?,x with
  | some f,.ptr b off=>if 0 < P.cellsOf f.type then some (.ptr b (off+f.offset)) else none
  | some f,.ip sz xs i sub=>if 0 < P.cellsOf f.type∧sub+f.offset < sz then some (.ip sz xs i (sub+f.offset)) else none
  | some f,.vp b k off=>if 0 < P.cellsOf f.type then some (.vp b k (off+f.offset)) else none
  | some f,.p (.s (.pointer (some ⟨g,o,none⟩)))=>if 0 < P.cellsOf f.type then some (.p (.s (.pointer (some ⟨g,o+f.offset,none⟩)))) else none
  | _,_=>none
 | _=>none

theorem zhb {s:TypeId} {x y:AV} {field:Nat} {vx:Value} (h:zbN P s x field=some y) (hx:RelV σ H w x vx) :
 ∃ v,(Instr.fieldAt s vx field).run P w = .ok v w∧RelV σ H w y v:=by
 unfold zbN at h;split at h
 case h_2=>cases h
 rename_i fields hu;split at h
 case h_5=>cases h
 · rename_i f b off hf;split at h
   case isFalse=>cases h
   rename_i hz;cases h
   cases hx with | ptr hb =>
   refine⟨.pointer (some ⟨σ.c b,off+f.offset,none⟩),?_,.ptr hb⟩
   simp only [Instr.fieldAt,Sem.run_bind,run_underlying hu,Result.andThen_ok,hf,Instr.sureAddr,Sem.run_pure,fieldPlace,zR hz];rw [if_neg (by omega)];simp [zE]
 · rename_i f sz xs i sub hf;split at h
   case isFalse=>cases h
   rename_i hz;cases h
   cases hx with | @ip _ _ _ _ g off cap hp hi hs =>
   refine⟨.pointer (some ⟨g,off+i*sz+(sub+f.offset),none⟩),?_,.ip hp hi hz.2⟩
   simp only [Instr.fieldAt,Sem.run_bind,run_underlying hu,Result.andThen_ok,hf,Instr.sureAddr,Sem.run_pure,fieldPlace,zR hz.1];rw [if_neg (by omega)];simp [zE,Nat.add_assoc]
 · rename_i f b k off hf;split at h
   case isFalse=>cases h
   rename_i hz;cases h
   cases hx with | vp a hb =>
   refine⟨.pointer (some (a.add f.offset)),?_,.vp _ hb.add⟩
   simp only [Instr.fieldAt,Sem.run_bind,run_underlying hu,Result.andThen_ok,hf,Instr.sureAddr,Sem.run_pure,fieldPlace,zR hz];rw [if_neg (by omega)]
   simp
 · rename_i f g o hf;split at h
   case isFalse=>cases h
   rename_i hz;cases h
   cases hx with | p hp =>
   cases hp
   refine⟨.pointer (some ⟨g,o+f.offset,none⟩),?_,.p (.s _ rfl)⟩
   simp only [Instr.fieldAt,Sem.run_bind,run_underlying hu,Result.andThen_ok,hf,Instr.sureAddr,Sem.run_pure,fieldPlace,zR hz];rw [if_neg (by omega)];simp [zE]

def zhc (P:Program) (t:TypeId) (x:AV) (off:Nat):Option AV :=
 match P.underlying t with
 | some d =>
  match x with
  | .p (.agg cs)=>if z8 d then (if off+P.cellsOf t≤cs.length then some (.p (.agg ((cs.drop off).take (P.cellsOf t)))) else none) else (cs[off]?).map .p
  | .agg cs=>if z8 d then (if off+P.cellsOf t≤cs.length then some (zu ((cs.drop off).take (P.cellsOf t))) else none) else cs[off]?
  | _=>none
 | none=>none

theorem extract_toList (vs:Array Value) (off n:Nat):(vs.extract off (off+n)).toList=(vs.toList.drop off).take n:=by
 rw [Array.toList_extract,List.extract_eq_take_drop]
 congr 1;omega

theorem zji {t:TypeId} {x y:AV} {off:Nat} {vs:Array Value} (h:zhc P t x off=some y) (hx:RelV σ H w x (.agg vs)) :
 ∃ v,(part t vs off).run P w = .ok v w∧RelV σ H w y v:=by
 unfold zhc at h;split at h
 case h_2=>cases h
 rename_i d hu
 have hget : ∀ (i:Nat),i < P.cellsOf t → (vs.extract off (off+P.cellsOf t))[i]? = vs[off+i]? := fun i hi=>by
  rw [←Array.getElem?_toList,extract_toList,List.getElem?_take,if_pos hi,List.getElem?_drop,Array.getElem?_toList]
 have hsub:(∀ (i:Nat) v,vs[i]? = some v → v.oneCell'=true) → ∀ (i:Nat) v,(vs.extract off (off+P.cellsOf t))[i]? = some v → v.oneCell'=true:=fun hone i v hv=>by
  have hi:i < P.cellsOf t:=by
   have:=(Array.getElem?_eq_some_iff.1 hv).1
   simp at this;omega
  rw [hget i hi] at hv;exact hone _ v hv
 split at h
 case h_3=>cases h
 · rename_i cs
   have hcs:vs.size=cs.length ∧ ∀ (i:Nat) x v,cs[i]? = some x → vs[i]? = some v → RelP w (Stable σ H) x v:=by
    cases hx with | p hx=>cases hx with | agg _ _ hl h1 h=>exact⟨hl,h⟩
   have hone : ∀ (i:Nat) v,vs[i]? = some v → v.oneCell'=true:=by
    cases hx with | p hx=>cases hx with | agg _ _ hl h1 h=>exact h1
   by_cases hd:z8 d=true
   · rw [if_pos hd] at h;split at h
     case isFalse=>cases h
     rename_i hle;cases h
     refine⟨.agg (vs.extract off (off+P.cellsOf t)),?_,.p (.agg _ _ (by simp;omega) (hsub hone) fun i x v hx hv => ?_)⟩
     · simp [part,zaA hu,hd,zab hu]
     · have hi:i < P.cellsOf t:=by
        rcases Nat.lt_or_ge i (P.cellsOf t) with h' | h'
        · exact h'
        · simp [List.getElem?_take,Nat.not_lt.2 h'] at hx
       rw [hget i hi] at hv;simp [List.getElem?_take,hi] at hx;exact hcs.2 _ _ _ hx hv
   · have hd:z8 d=false:=by simpa using hd
     rw [if_neg (by simp [hd])] at h
     cases hy:cs[off]? with
     | none=>simp [hy] at h
     | some z =>
      simp only [hy,Option.map_some,Option.some.injEq] at h;subst h
      have hlt:off < vs.size:=by rw [hcs.1];exact (List.getElem?_eq_some_iff.1 hy).1
      have hv:vs[off]? = some vs[off]:=by simp [hlt]
      exact⟨vs[off],by simp [part,zaA hu,hd,hv],.p (hcs.2 _ _ _ hy hv)⟩
 · rename_i cs
   have hcs:vs.size=cs.length ∧ ∀ (i:Nat) x v,cs[i]? = some x → vs[i]? = some v → RelV σ H w x v:=by
    cases hx with | agg _ hl h1 h=>exact⟨hl,h⟩
   have hone : ∀ (i:Nat) v,vs[i]? = some v → v.oneCell'=true:=by
    cases hx with | agg _ hl h1 h=>exact h1
   by_cases hd:z8 d=true
   · rw [if_pos hd] at h;split at h
     case isFalse=>cases h
     rename_i hle;cases h
     refine⟨.agg (vs.extract off (off+P.cellsOf t)),?_,zcq (by simp;omega) (hsub hone) fun i x v hx hv => ?_⟩
     · simp [part,zaA hu,hd,zab hu]
     · have hi:i < P.cellsOf t:=by
        rcases Nat.lt_or_ge i (P.cellsOf t) with h' | h'
        · exact h'
        · simp [List.getElem?_take,Nat.not_lt.2 h'] at hx
       rw [hget i hi] at hv;simp [List.getElem?_take,hi] at hx;exact hcs.2 _ _ _ hx hv
   · have hd:z8 d=false:=by simpa using hd
     rw [if_neg (by simp [hd])] at h
     have hlt:off < vs.size:=by rw [hcs.1];exact (List.getElem?_eq_some_iff.1 h).1
     have hv:vs[off]? = some vs[off]:=by simp [hlt]
     exact⟨vs[off],by simp [part,zaA hu,hd,hv],hcs.2 _ _ _ h hv⟩

def AV.isAggV:AV → Bool
 | .p (.agg _) | .agg _=>true
 | _=>false

theorem AV.agg_inv {x:AV} {v:Value} (h:x.isAggV=true) (r:RelV σ H w x v) : ∃ vs,v = .agg vs:=by
 cases x with
 | p x=>cases x<;>simp [AV.isAggV] at h;cases r with | p r=>cases r;exact⟨_,rfl⟩
 | agg xs=>cases r;exact⟨_,rfl⟩
 | _=>simp [AV.isAggV] at h

def zhd (P:Program) (s:TypeId) (x:AV) (field:Nat):Option AV :=
 match P.underlying s with
 | some (.struct fields) =>
  match fields[field]? with
  | some f=>if x.isAggV then zhc P f.type x f.offset else none
  | none=>none
 | _=>none

theorem zoP {s:TypeId} {x y:AV} {field:Nat} {vx:Value} (h:zhd P s x field=some y) (hx:RelV σ H w x vx) :
 ∃ v,(Instr.field s vx field).run P w = .ok v w∧RelV σ H w y v:=by
 unfold zhd at h;split at h
 case h_2=>cases h
 rename_i fields hu;split at h
 case h_2=>cases h
 rename_i f hf;split at h
 case isFalse=>cases h
 rename_i ha
 obtain⟨vs,rfl⟩:=AV.agg_inv ha hx
 obtain⟨v,hv,hy⟩:=zji h hx
 exact⟨v,by simp [Instr.field,run_underlying hu,hf,asAgg,hv],hy⟩

def zav (P:Program) (t:TypeId) (x ix:AV):Option AV :=
 match ix.int? with
 | some n =>
  match P.underlying t,x with
  | some (.array len e),x=>if 0≤n∧n.toNat < len∧0 < P.cellsOf e∧x.isAggV then zhc P e x (n.toNat*P.cellsOf e) else none
  | some .string,.p (.s (.string s))=>if 0≤n then (s[n.toNat]?).map fun b => .p (.s (.int .u8 b.toNat)) else none
  | _,_=>none
 | none=>none

theorem zoQ {t:TypeId} {x ix y:AV} {vx vi:Value} (h:zav P t x ix=some y) (hx:RelV σ H w x vx) (hi:RelV σ H w ix vi) :
 ∃ v,(Instr.index t vx vi).run P w = .ok v w∧RelV σ H w y v:=by
 unfold zav at h;split at h
 case h_2=>cases h
 rename_i n hn
 obtain⟨k,rfl⟩:=AV.int?_inv hn hi
 split at h
 case h_3=>cases h
 · rename_i len e x hu;split at h
   case isFalse=>cases h
   rename_i hc
   obtain⟨h0,hlt,hz,ha⟩:=hc
   obtain⟨vs,rfl⟩:=AV.agg_inv ha hx
   obtain⟨v,hv,hy⟩:=zji h hx
   refine⟨v,?_,hy⟩
   simp only [Instr.index,asIntOf,Sem.run_bind,Sem.run_pure,Result.andThen_ok,run_underlying hu];rw [if_pos ⟨h0,by omega⟩];simp [zR hz,hv]
 · rename_i s hu;split at h
   case isFalse=>cases h
   rename_i h0
   cases hb:s[n.toNat]? with
   | none=>simp [hb] at h
   | some b =>
    simp only [hb,Option.map_some,Option.some.injEq] at h;subst h
    obtain rfl:vx = .string s:=by cases hx with | p hx=>cases hx;rfl
    refine⟨.int .u8 b.toNat,?_,.p (.s _ rfl)⟩
    simp only [Instr.index,asIntOf,Sem.run_bind,Sem.run_pure,Result.andThen_ok,run_underlying hu];rw [if_pos h0,hb]
    simp
end memory

end Go.AL

namespace Go.AL
open Go

def zh:AV → Option (List AV)
 | .p (.agg xs)=>some (xs.map .p)
 | .agg xs=>some xs
 | .tup _ | .top=>none
 | x=>some [x]

def setAt (cs:List AV) (off:Nat) (xs:List AV):List AV :=
 match xs with
 | [x]=>cs.set off x
 | xs=>cs.take off++xs++cs.drop (off+xs.length)

theorem za9 (cs:List AV) (off:Nat) (xs:List AV) (h:off+xs.length≤cs.length):setAt cs off xs=cs.take off++xs++cs.drop (off+xs.length):=by
 unfold setAt
 split
 · rename_i x
   have hlt:off < cs.length:=by simp at h;omega
   rw [List.set_eq_take_append_cons_drop,if_pos hlt]
   simp
 · rfl

theorem zec (cs:List AV) (off:Nat) (xs:List AV) (h:off+xs.length≤cs.length):(setAt cs off xs).length=cs.length:=by
 rw [za9 _ _ _ h];simp;omega

section cells
variable {P:Program} {G:Globs} {σ:Gh} {H:Hp} {w:World}

theorem zbO {x:AV} {cs:List AV} {v:Value} (h:zh x=some cs) (r:RelV σ H w x v) :
 v.cells.size=cs.length ∧ ∀ (i:Nat) y u,cs[i]? = some y → v.cells[i]? = some u → RelC σ H w y u:=by
 have one:v.cells = #[v] → v.oneCell'=true → cs=[x] → v.cells.size=cs.length ∧ ∀ (i:Nat) y u,cs[i]? = some y → v.cells[i]? = some u → RelC σ H w y u:=by
  intro h1 h2 h3;rw [h1,h3]
  refine⟨rfl,fun i y u hy hu => ?_⟩
  cases i with
  | zero=>simp at hy hu;subst hy;subst hu;exact⟨r,h2⟩
  | succ i=>simp at hy
 cases r with
 | p hp =>
  cases hp with
  | s v h1 =>
   simp only [zh,Option.some.injEq] at h;exact one (by cases v<;>first | rfl | simp [Value.oneCell'] at h1) h1 h.symm
  | agg xs vs hl h1 hh =>
   simp only [zh,Option.some.injEq] at h;subst h
   refine⟨by simp [Value.cells,hl],fun i y u hy hu => ?_⟩
   simp only [Value.cells] at hu;simp only [List.getElem?_map,Option.map_eq_some_iff] at hy
   obtain⟨z,hz,rfl⟩:=hy
   exact⟨.p (hh i z u hz hu),h1 i u hu⟩
  | emp=>simp only [zh,Option.some.injEq] at h;exact one rfl rfl h.symm
  | sl=>simp only [zh,Option.some.injEq] at h;exact one rfl rfl h.symm
 | sl hp ht=>simp only [zh,Option.some.injEq] at h;cases hp<;>exact one rfl rfl h.symm
 | ref=>simp only [zh,Option.some.injEq] at h;exact one rfl rfl h.symm
 | ptr=>simp only [zh,Option.some.injEq] at h;exact one rfl rfl h.symm
 | ip=>simp only [zh,Option.some.injEq] at h;exact one rfl rfl h.symm
 | clo=>simp only [zh,Option.some.injEq] at h;exact one rfl rfl h.symm
 | tup=>simp [zh] at h
 | agg vs hl h1 hh =>
  simp only [zh,Option.some.injEq] at h;subst h
  exact⟨hl,fun i y u hy hu=>⟨hh i y u hy hu,h1 i u hu⟩⟩
 | yld=>simp only [zh,Option.some.injEq] at h;exact one rfl rfl h.symm
 | mp=>simp only [zh,Option.some.injEq] at h;exact one rfl rfl h.symm
 | vr hp=>simp only [zh,Option.some.injEq] at h;obtain⟨_,a,cap,rfl,_⟩:=hp;exact one rfl rfl h.symm
 | vp=>simp only [zh,Option.some.injEq] at h;exact one rfl rfl h.symm
 | top=>simp [zh] at h

theorem zCd {e:TypeId} {x:AV} {cs:List AV} {v:Value} (hr:Rel G σ H w) (h:zh x=some cs) (r:RelV σ H w x v) :
 ∃ u w' σ',(Instr.box e v).run P w = .ok u w'∧RelV σ' (H.new (.cells cs)) w' (.ptr H.n 0) u∧Rel G σ' (H.new (.cells cs)) w'∧Ev H.n σ H w σ' (H.new (.cells cs)) w':=by
 obtain⟨hs,hc⟩:=zbO h r
 obtain⟨h1,h2⟩:=zgS hr v.cells e cs (by omega) (fun i y hy=>by
  have hlt:i < v.cells.size:=by rw [hs];exact (List.getElem?_eq_some_iff.1 hy).1
  exact⟨v.cells[i],by simp,hc i y _ hy (by simp)⟩)
 refine⟨.pointer (some ⟨w.heap.size,0,none⟩),w.alloc (.cells v.cells e),_,by simp [Instr.box,newVar,newRow],?_,h1,h2⟩
 have:RelV (σ.withC H.n w.heap.size) (H.new (.cells cs)) (w.alloc (.cells v.cells e)) (.ptr H.n 0) (.pointer (some ⟨(σ.withC H.n w.heap.size).c H.n,0,none⟩)) := .ptr (by simp [Hp.n_new])
 simpa [Gh.withC] using this

def pvz (P:Program) (ty:TypeId) (v:Value):PV :=
 match v,P.underlying ty with
 | .slice none 0 0,some (.slice e) => .sl true (P.cellsOf e) []
 | v,_ => .s v

theorem zCe {S:Nat → Nat → Prop} {ty:TypeId} {v:Value} (h1:v.oneCell'=true):RelP w S (pvz P ty v) v:=by
 unfold pvz
 split
 · exact .nil _ _
 · exact .s _ h1

def zlJ (P:Program):List Value → List TypeId → Option (List PV)
 | [],[]=>some []
 | v :: vs,t :: ts=>if v.oneCell' then (zlJ P vs ts).map (pvz P t v :: ·) else none
 | _,_=>none

theorem zlK {S:Nat → Nat → Prop} : ∀ {vs:List Value} {ts:List TypeId} {ps:List PV},zlJ P vs ts=some ps → ps.length=vs.length ∧ ∀ (i:Nat) p v,ps[i]? = some p → vs[i]? = some v → RelP w S p v∧v.oneCell'=true
 | [],[],ps,h=>by simp only [zlJ,Option.some.injEq] at h;subst h;simp
 | v :: vs,t :: ts,ps,h=>by
  simp only [zlJ] at h;split at h
  case isFalse=>cases h
  rename_i h1
  cases hz:zlJ P vs ts with
  | none=>simp [hz] at h
  | some qs =>
   simp only [hz,Option.map_some,Option.some.injEq] at h;subst h
   obtain⟨hl,hh⟩:=zlK (S:=S) hz
   refine⟨by simp [hl],fun i p u hp hu => ?_⟩
   cases i with
   | zero=>simp at hp hu;subst hp;subst hu;exact⟨zCe h1,h1⟩
   | succ i=>simp at hp hu;exact hh i p u hp hu
 | [],_ :: _,_,h=>by simp [zlJ] at h
 | _ :: _,[],_,h=>by simp [zlJ] at h

def zU (P:Program) (t:TypeId):Option (List PV) :=
 match (P.info? t).bind (·.zero),P.cellTypes P.depth t with
 | some z,some ts=>zlJ P z.cells.toList ts
 | _,_=>none

theorem yy {t:TypeId} {ps:List PV} {S:Nat → Nat → Prop} (h:zU P t=some ps) :
 ∃ z,(zeroValue t).run P w = .ok z w∧(P.info? t).bind (·.zero)=some z∧z.cells.size=ps.length ∧ ∀ (i:Nat) p v,ps[i]? = some p → z.cells[i]? = some v → RelP w S p v∧v.oneCell'=true:=by
 unfold zU at h;split at h
 case h_2=>cases h
 rename_i z ts hz hts
 obtain⟨hl,hh⟩:=zlK (w:=w) (S:=S) h
 refine⟨z,?_,hz,by simp [hl],fun i p v hp hv=>hh i p v hp (by simpa using hv)⟩
 cases hi:P.info? t with
 | none=>simp [hi] at hz
 | some i=>simp [hi] at hz;simp [zeroValue,typeInfo,hi,hz]

theorem zti {t:TypeId} {ps:List PV} (hr:Rel G σ H w) (h:zU P t=some ps) :
 ∃ u w' σ',(Instr.alloc t true (.tuple #[])).run P w = .ok u w'∧RelV σ' (H.new (.cells (ps.map .p))) w' (.ptr H.n 0) u∧Rel G σ' (H.new (.cells (ps.map .p))) w'∧Ev H.n σ H w σ' (H.new (.cells (ps.map .p))) w':=by
 obtain⟨z,hz,_,hs,hh⟩:=yy (w:=w) (S:=Stable σ H) h
 obtain⟨h1,h2⟩:=zgS hr z.cells t (ps.map .p) (by simp;omega) (fun i y hy=>by
  simp only [List.getElem?_map,Option.map_eq_some_iff] at hy
  obtain⟨p,hp,rfl⟩:=hy
  have hlt:i < z.cells.size:=by rw [hs];exact (List.getElem?_eq_some_iff.1 hp).1
  have:=hh i p z.cells[i] hp (by simp)
  exact⟨z.cells[i],by simp,.p this.1,this.2⟩)
 refine⟨.pointer (some ⟨w.heap.size,0,none⟩),w.alloc (.cells z.cells t),_,by simp [Instr.alloc,hz,newVar,newRow],?_,h1,h2⟩
 have:RelV (σ.withC H.n w.heap.size) (H.new (.cells (ps.map .p))) (w.alloc (.cells z.cells t)) (.ptr H.n 0) (.pointer (some ⟨(σ.withC H.n w.heap.size).c H.n,0,none⟩)) := .ptr (by simp [Hp.n_new])
 simpa [Gh.withC] using this

def zfO (P:Program) (H:Hp) (t:TypeId) (a x:AV):Option Hp :=
 match a with
 | .ptr b off =>
  match H.f b,zh x with
  | some (.cells cs),some xs=>if (P.underlying t).isSome∧P.cellsOf t=xs.length∧off+xs.length≤cs.length then some (H.set b (.cells (setAt cs off xs))) else none
  | _,_=>none
 | .vp b k off =>
  match (H.f b).bind AB.vec?,zh x with
  | some cs,some xs=>if (P.underlying t).isSome∧P.cellsOf t=xs.length∧cs.length=k∧off+xs.length≤cs.length then some (H.set b (.vec (setAt cs off xs))) else none
  | _,_=>none
 | _=>none

theorem zkc (hr:Rel G σ H w) {b off k g s:Nat} {cs xs:List AV} (hb:H.f b=some (.tl k (some cs))) (ht:σ.t b=some (g,0,s)) (vs:List Value) (hl:vs.length=xs.length) (hle:off+xs.length≤cs.length)
 (hc : ∀ (i:Nat) y u,xs[i]? = some y → vs[i]? = some u → RelC σ H w y u) :
 ∃ w',(storeCells ⟨g,off,none⟩ vs).run P w = .ok () w' ∧ ∃ σ',Rel G σ' (H.set b (.vec (setAt cs off xs))) w'∧Ev H.n σ H w σ' (H.set b (.vec (setAt cs off xs))) w':=by
 obtain⟨hk,_,hvc⟩:=hr.vec b k cs hb
 obtain⟨_,hcs,hcc⟩:=hvc g 0 s ht
 obtain⟨c,e,hw,hcl⟩:=hr.tail b k _ g 0 s hb ht
 have hcc' : ∀ (i:Nat) x,cs[i]? = some x → ∃ v,c[i]? = some v∧RelC σ H w x v:=fun i x hx=>by
  obtain⟨v,hv,hx⟩:=hcc i x hx
  exact⟨v,by simpa [World.cell?,hw] using hv,hx⟩
 have hone : ∀ v∈vs,v.oneCell'=true:=fun v hv=>by
  obtain⟨i,hi⟩:=List.getElem?_of_mem hv
  have hlt:i < xs.length:=by rw [←hl];exact (List.getElem?_eq_some_iff.1 hi).1
  exact (hc i xs[i] v (by simp) hi).2
 have hst:=run_storeCells_at P g off e vs 0 c w hw (by omega) hone;simp only [Nat.add_zero] at hst
 generalize hc':(c.toList.take off++vs++c.toList.drop (off+vs.length)).toArray=c' at hst
 have hself:(w.setRow g c').heap[g]? = some (.cells c' e (0,0)):=by simp [World.setRow,Array.getElem?_modify,hw]
 have hother : ∀ g',g'≠g → (w.setRow g c').heap[g']? = w.heap[g']? := fun g' hg'=>by simp [World.setRow,Array.getElem?_modify,Ne.symm hg']
 have hsz:c'.size=c.size:=by rw [←hc'];simp;omega
 obtain⟨h1,h2⟩:=zbI (G:=G) hr hb (w':=w.setRow g c') (by simp) (fun g' _ hn=>hother g' (fun hh=>hn _ _ (hh ▸ ht))) (fun g' o s' hh i v hi hv=>by rw [ht] at hh;cases hh;omega) rfl rfl
  (setAt cs off xs).length (some (setAt cs off xs)) (some (g,0,s)) ⟨by rw [zec _ _ _ hle];omega,fun _=>ht.symm⟩ (fun g' o s' hh=>by cases hh;exact⟨.inr ⟨0,ht,Nat.le_refl _⟩,c',e,hself,by rw [hsz,hcl]⟩) (fun ds hd=>by
   cases hd
   refine⟨rfl,fun h=>(by cases h),fun g' o s' hh => ?_⟩
   cases hh
   refine⟨rfl,by rw [zec _ _ _ hle];exact hcs,fun i x hx => ?_⟩
   have key : ∃ v,c'[i]? = some v∧RelC σ H w x v:=by
    rw [za9 _ _ _ hle] at hx;rw [←hc'];by_cases h1:i < off
    · rw [List.append_assoc,List.getElem?_append_left (by simp;omega),List.getElem?_take,if_pos h1] at hx
      obtain⟨v,hv,hxv⟩:=hcc' i x hx
      refine⟨v,?_,hxv⟩
      rw [List.getElem?_toArray,List.append_assoc,List.getElem?_append_left (by simp;omega),List.getElem?_take,if_pos h1]
      simpa using hv
    · by_cases h2:i < off+xs.length
      · rw [List.append_assoc,List.getElem?_append_right (by simp;omega),List.getElem?_append_left (by simp;omega)] at hx
        have hm:min off cs.length=off:=by omega
        have hm':min off c.toList.length=off:=by simp;omega
        simp only [List.length_take,hm] at hx
        have hlt:i - off < vs.length:=by omega
        have hu:vs[i - off]? = some vs[i - off]:=by simp [hlt]
        refine⟨vs[i - off],?_,hc _ _ _ hx hu⟩
        rw [List.getElem?_toArray,List.append_assoc,List.getElem?_append_right (by simp;omega),List.getElem?_append_left (by simp;omega)];simp only [List.length_take,hm'];exact hu
      · rw [List.getElem?_append_right (by simp;omega)] at hx
        have hm:min off cs.length=off:=by omega
        have hm':min off c.toList.length=off:=by simp;omega
        simp only [List.length_append,List.length_take,hm,List.getElem?_drop] at hx;rw [show off+xs.length+(i - (off+xs.length))=i by omega] at hx
        obtain⟨v,hv,hxv⟩:=hcc' i x hx
        refine⟨v,?_,hxv⟩
        rw [List.getElem?_toArray,List.getElem?_append_right (by simp;omega)];simp only [List.length_append,List.length_take,hm',List.getElem?_drop,hl];rw [show off+xs.length+(i - (off+xs.length))=i by omega]
        simpa using hv
   obtain⟨v,hv,hxv⟩:=key
   exact⟨v,by simp [World.cell?,hself,hv],hxv⟩)
 exact⟨_,hst,_,h1,h2⟩

theorem zdy (hr:Rel G σ H w) {b off:Nat} {cs xs:List AV} (hb:H.f b=some (.cells cs)) (vs:List Value) (hl:vs.length=xs.length) (hle:off+xs.length≤cs.length)
 (hc : ∀ (i:Nat) y u,xs[i]? = some y → vs[i]? = some u → RelC σ H w y u) :
 ∃ w',(storeCells ⟨σ.c b,off,none⟩ vs).run P w = .ok () w'∧Rel G σ (H.set b (.cells (setAt cs off xs))) w'∧Ev H.n σ H w σ (H.set b (.cells (setAt cs off xs))) w':=by
 obtain⟨c,e,hw,hcl,hcc⟩:=hr.cells b cs hb
 have hone : ∀ v∈vs,v.oneCell'=true:=fun v hv=>by
  obtain⟨i,hi⟩:=List.getElem?_of_mem hv
  have hlt:i < xs.length:=by rw [←hl];exact (List.getElem?_eq_some_iff.1 hi).1
  exact (hc i xs[i] v (by simp) hi).2
 have hst:=run_storeCells_at P (σ.c b) off e vs 0 c w hw (by omega) hone;simp only [Nat.add_zero] at hst
 obtain⟨h1,h2⟩:=zcN hr hb hw (c.toList.take off++vs++c.toList.drop (off+vs.length)).toArray (setAt cs off xs) (by simp;omega) (zec _ _ _ hle) (fun i x hx=>by
  rw [za9 _ _ _ hle] at hx;by_cases h1:i < off
  · rw [List.append_assoc,List.getElem?_append_left (by simp;omega),List.getElem?_take,if_pos h1] at hx
    obtain⟨v,hv,hxv⟩:=hcc i x hx
    refine⟨v,?_,hxv⟩
    rw [List.getElem?_toArray,List.append_assoc,List.getElem?_append_left (by simp;omega),List.getElem?_take,if_pos h1]
    simpa using hv
  · by_cases h2:i < off+xs.length
    · rw [List.append_assoc,List.getElem?_append_right (by simp;omega),List.getElem?_append_left (by simp;omega)] at hx
      have hm:min off cs.length=off:=by omega
      have hm':min off c.toList.length=off:=by simp;omega
      simp only [List.length_take,hm] at hx
      have hlt:i - off < vs.length:=by omega
      have hu:vs[i - off]? = some vs[i - off]:=by simp [hlt]
      refine⟨vs[i - off],?_,hc _ _ _ hx hu⟩
      rw [List.getElem?_toArray,List.append_assoc,List.getElem?_append_right (by simp;omega),List.getElem?_append_left (by simp;omega)];simp only [List.length_take,hm'];exact hu
    · rw [List.getElem?_append_right (by simp;omega)] at hx
      have hm:min off cs.length=off:=by omega
      have hm':min off c.toList.length=off:=by simp;omega
      simp only [List.length_append,List.length_take,hm,List.getElem?_drop] at hx;rw [show off+xs.length+(i - (off+xs.length))=i by omega] at hx
      obtain⟨v,hv,hxv⟩:=hcc i x hx
      refine⟨v,?_,hxv⟩
      rw [List.getElem?_toArray,List.getElem?_append_right (by simp;omega)];simp only [List.length_append,List.length_take,hm',List.getElem?_drop,hl];rw [show off+xs.length+(i - (off+xs.length))=i by omega]
      simpa using hv)
 exact⟨_,hst,h1,h2⟩

theorem zoR {t:TypeId} {a x:AV} {H':Hp} {va vx:Value} (hr:Rel G σ H w) (h:zfO P H t a x=some H') (ha:RelV σ H w a va) (hx:RelV σ H w x vx) :
 ∃ w' σ',(Instr.storeAt t va vx).run P w = .ok () w'∧Rel G σ' H' w'∧Ev H.n σ H w σ' H' w':=by
 unfold zfO at h;split at h
 case h_3=>cases h
 · rename_i b off;split at h
   case h_2=>cases h
   rename_i cs xs hb hxs;split at h
   case isFalse=>cases h
   rename_i hcond
   obtain⟨hu,hsz,hle⟩:=hcond
   cases h
   obtain⟨d,hd⟩:=Option.isSome_iff_exists.1 hu
   cases ha with | ptr hbn =>
   obtain⟨hs,hc⟩:=zbO hxs hx
   obtain⟨w',h1,h2,h3⟩:=zdy (P:=P) hr hb vx.cells.toList (by simp [hs]) hle (fun i y u hy hu=>hc i y u hy (by simpa using hu))
   refine⟨w',σ,?_,h2,h3⟩
   simp only [Instr.storeAt,Instr.sureAddr,storeVar,Sem.run_bind,Sem.run_pure,Result.andThen_ok,zab hd];rw [if_neg (by omega)];exact h1
 · rename_i b k off;split at h
   case h_2=>cases h
   rename_i cs xs hb hxs;split at h
   case isFalse=>cases h
   rename_i hcond
   obtain⟨hu,hsz,hk,hle⟩:=hcond
   cases h;subst hk
   obtain⟨d,hd⟩:=Option.isSome_iff_exists.1 hu
   cases ha with | vp a hp =>
   obtain⟨hs,hc⟩:=zbO hxs hx
   obtain⟨g,s,ht,rfl,_⟩:=zr6 hr hb hp
   obtain⟨k,hk⟩:=vec?_inv hb
   obtain⟨w',h1,σ',h2,h3⟩:=zkc (P:=P) hr hk ht vx.cells.toList (by simp [hs]) hle (fun i y u hy hu=>hc i y u hy (by simpa using hu))
   refine⟨w',σ',?_,h2,h3⟩
   simp only [Instr.storeAt,Instr.sureAddr,storeVar,Sem.run_bind,Sem.run_pure,Result.andThen_ok,zab hd];rw [if_neg (by omega)];exact h1
end cells

def zbt (agg:Bool) (cs:List AV):Option PV :=
 match pvs? cs with
 | some ps=>if agg then some (.agg ps) else (match ps with | [.agg _]=>none | [p]=>some p | _=>none)
 | none=>none

def zbP (agg:Bool) (sz:Nat):Nat → List AV → Option (List PV)
 | 0,_=>some []
 | n+1,cs=>if sz≤cs.length then
  match zbt agg (cs.take sz),zbP agg sz n (cs.drop sz) with
  | some y,some ys=>some (y :: ys)
  | _,_=>none
  else none

def yr (P:Program) (t:TypeId):Bool:=match P.underlying t with | some d=>z8 d | none=>false

def zam (P:Program) (H:Hp) (e:TypeId) (x:AV):Option (List PV) :=
 match x with
 | .p (.sl _ sz ys) | .sl _ _ sz ys=>if sz=P.cellsOf e ∨ ys.isEmpty then some ys else none
 | .ref b off len sz =>
  match H.f b with
  | some (.cells cs)=>if sz=P.cellsOf e then zbP (yr P e) sz len (cs.drop off) else none
  | _=>none
 | .vr b len sz =>
  match (H.f b).bind AB.vec? with
  | some cs=>if sz=P.cellsOf e∧cs.length=len*sz then zbP (yr P e) sz len cs else none
  | none=>none
 | .p (.s (.string s))=>if P.cellsOf e=1 then some (s.data.toList.map fun b => .s (.int .u8 b.toNat)) else none
 | _=>none

theorem zkd {agg:Bool} {cs:List AV} {y:PV} (h:zbt agg cs=some y):pvs? cs=some y.cells:=by
 unfold zbt at h;split at h
 case h_2=>cases h
 rename_i ps hp;split at h
 · cases h;exact hp
 · split at h
   · cases h
   · rename_i hne;cases h;rw [hp]
     cases y with
     | agg xs=>exact absurd rfl (hne xs)
     | _=>rfl
   · cases h

theorem zcO {agg:Bool} {sz:Nat} : ∀ {n:Nat} {cs:List AV} {ys:List PV},zbP agg sz n cs=some ys →
 ys.length=n∧n*sz≤cs.length∧(∀ y∈ys,y.cells.length=sz)∧pvs? (cs.take (n*sz))=some (flat ys)
 | 0,cs,ys,h=>by simp only [zbP,Option.some.injEq] at h;subst h;simp [flat,pvs?]
 | n+1,cs,ys,h=>by
  simp only [zbP] at h;split at h
  case isFalse=>cases h
  rename_i hle;split at h
  case h_2=>cases h
  rename_i y ys' h1 h2;cases h
  obtain⟨a1,a2,a3,a4⟩:=zcO h2
  have hc:=zkd h1;have hl:=(pvs?_get hc).1;simp only [List.length_take] at hl
  have hyl:y.cells.length=sz:=by omega
  simp only [List.length_drop] at a2
  refine⟨by simp [a1],by rw [Nat.succ_mul];omega,fun z hz => ?_,?_⟩
  · simp only [List.mem_cons] at hz
    rcases hz with rfl | hz
    · exact hyl
    · exact a3 z hz
  · have happ : ∀ (l1 l2:List AV) (p1 p2:List PV),pvs? l1=some p1 → pvs? l2=some p2 → pvs? (l1++l2)=some (p1++p2):=by
     intro l1
     induction l1 with
     | nil=>intro l2 p1 p2 e1 e2;simp only [pvs?,Option.some.injEq] at e1;subst e1;simpa using e2
     | cons a l ih =>
      intro l2 p1 p2 e1 e2;simp only [pvs?] at e1;split at e1
      case h_2=>cases e1
      rename_i q qs hq hqs
      cases e1
      simp only [List.cons_append,pvs?,hq,ih l2 qs p2 hqs e2]
    have ht:cs.take ((n+1)*sz)=cs.take sz++(cs.drop sz).take (n*sz):=by
     rw [Nat.succ_mul,Nat.add_comm,List.take_add]
    rw [ht];simp only [flat,List.flatMap_cons];exact happ _ _ _ _ hc a4

end Go.AL

namespace Go.AL
open Go

def yE (P:Program) (e:TypeId):Bool:=match zU P e with | some ps=>ps.length == P.cellsOf e | none=>false

section vec
variable {P:Program} {G:Globs} {σ:Gh} {H:Hp} {w:World}

theorem zke (hr:Rel G σ H w) {b len sz:Nat} {cs:List AV} {v:Value} (hb:(H.f b).bind AB.vec? = some cs) (h:VecOK σ H b len sz v) (hl:cs.length=len*sz) :
 ∃ a cap,v = .slice a len cap∧zlH a len∧((len=0∧cap=0∧σ.t b=none) ∨ ∃ g s,a=some ⟨g,0,none⟩∧σ.t b=some (g,0,s)∧cap*sz≤s∧len≤cap∧cap≤maxLen∧cs.length≤s ∧
  ∀ (i:Nat) x,cs[i]? = some x → ∃ v,w.cell? ⟨g,i,none⟩=some v∧RelC σ H w x v):=by
 obtain⟨k,hk⟩:=vec?_inv hb
 obtain⟨hn,a,cap,rfl,hado,h⟩:=h
 obtain⟨rfl,_,h2⟩:=hr.vec b k cs hk
 refine⟨a,cap,rfl,hado,?_⟩
 rcases (h _ _ hk).2 hl.symm with h | ⟨g,s,h3,h4,h5,h6,h7⟩
 · exact .inl h
 · exact .inr ⟨g,s,h3,h4,h5,h6,h7,(h2 g 0 s h4).2⟩
end vec

section elems
variable {P:Program} {G:Globs} {σ:Gh} {H:Hp} {w:World}

theorem zcP (hr:Rel G σ H w) {e:TypeId} {x:AV} {ys:List PV} {vx:Value} (h:zam P H e x=some ys) (hx:RelV σ H w x vx) :
 ∃ news:List Value,news.length=ys.length*P.cellsOf e∧(∀ y∈ys,y.cells.length=P.cellsOf e) ∧
  (∀ (k:Nat) y u,(flat ys)[k]? = some y → news[k]? = some u → RelP w (Stable σ H) y u∧u.oneCell'=true) ∧
  (∀ w':World,(Builtin.lenOf vx).run P w' = .ok ys.length w') ∧
  (∀ w':World,w'.heap=w.heap → ∀ n,n≤ys.length → (Builtin.firstCells (P.cellsOf e) n vx).run P w' = .ok (news.take (n*P.cellsOf e)).toArray w'):=by
 have sl : ∀ (fl:Bool) (sz:Nat) (zs:List PV),RelP w (Stable σ H) (.sl fl sz zs) vx → (sz=P.cellsOf e ∨ zs.isEmpty=true) → zs=ys → ∃ news:List Value,news.length=ys.length*P.cellsOf e∧(∀ y∈ys,y.cells.length=P.cellsOf e) ∧
  (∀ (k:Nat) y u,(flat ys)[k]? = some y → news[k]? = some u → RelP w (Stable σ H) y u∧u.oneCell'=true) ∧
  (∀ w':World,(Builtin.lenOf vx).run P w' = .ok ys.length w') ∧
  (∀ w':World,w'.heap=w.heap → ∀ n,n≤ys.length → (Builtin.firstCells (P.cellsOf e) n vx).run P w' = .ok (news.take (n*P.cellsOf e)).toArray w'):=by
  intro fl sz zs hp hs hzs;subst hzs
  cases hp with
  | emp _ _ a cap =>
   exact⟨[],by simp,by simp,by simp [flat],fun _=>rfl,fun w' _ n hn=>by
    obtain rfl:n=0:=by simpa using hn
    cases a<;>simp [Builtin.firstCells,loadCells,loadCellsFrom]⟩
  | sl fl sz zs g off cap f hfl hcap hsz hrd hc =>
   have hsz' : ∀ y∈zs,y.cells.length=P.cellsOf e:=by
    rcases hs with rfl | hs
    · exact hsz
    · simp at hs;subst hs;simp
   have hmul:zs.length*sz=zs.length*P.cellsOf e:=by
    rcases hs with rfl | hs
    · rfl
    · simp at hs;subst hs;simp
   refine⟨(List.range (zs.length*P.cellsOf e)).map f,by simp,hsz',fun k y u hk hu => ?_,fun _=>rfl,fun w' hw' n hn => ?_⟩
   · have hlt:k < zs.length*P.cellsOf e:=by rw [←zV hsz'];exact (List.getElem?_eq_some_iff.1 hk).1
     simp [hlt] at hu;subst hu
     exact⟨hc k y hk,(hrd k (by omega)).2.2⟩
   · have hle:n*P.cellsOf e≤zs.length*P.cellsOf e:=Nat.mul_le_mul_right _ hn
     refine run_firstCells_some (P:=P) w' (P.cellsOf e) n _ _ _ _ (by rw [List.length_take,List.length_map,List.length_range,Nat.min_eq_left hle]) fun j v hv => ?_
     have hj:j < n*P.cellsOf e:=by
      rcases Nat.lt_or_ge j (n*P.cellsOf e) with h' | h'
      · exact h'
      · simp [List.getElem?_take,Nat.not_lt.2 h'] at hv
     simp [List.getElem?_take,hj,show j < zs.length*P.cellsOf e by omega] at hv;subst hv;rw [zE]
     have:=(hrd j (by omega)).2.1
     simpa [World.cell?,hw'] using this
 unfold zam at h;split at h
 · rename_i fl sz zs;split at h
   case isFalse=>cases h
   rename_i hs;cases h
   cases hx with | p hp=>exact sl fl sz _ hp hs rfl
 · rename_i α k sz zs;split at h
   case isFalse=>cases h
   rename_i hs;cases h
   cases hx with | sl hp ht=>exact sl false sz _ hp hs rfl
 · rename_i b off len sz;split at h
   case h_2=>cases h
   rename_i cs hb;split at h
   case isFalse=>cases h
   rename_i hs;subst hs
   obtain⟨hl,hle,hsz,hfl⟩:=zcO h
   obtain⟨hfl1,hfl2⟩:=pvs?_get hfl
   cases hx with | @ref _ _ _ _ cap a h0 hbn hcap ha =>
   have hcell : ∀ k y,(flat ys)[k]? = some y → ∃ v,w.cell? ⟨σ.c b,off+k,none⟩=some v∧RelP w (Stable σ H) y v∧v.oneCell'=true:=fun k y hk=>by
    obtain⟨x,hx,hxy⟩:=hfl2 k y hk
    have hlt:k < len*P.cellsOf e:=by
     rcases Nat.lt_or_ge k (len*P.cellsOf e) with h' | h'
     · exact h'
     · simp [List.getElem?_take,Nat.not_lt.2 h'] at hx
    simp [List.getElem?_take,hlt,List.getElem?_drop] at hx
    obtain⟨v,a,b,c⟩:=zeE hr hb hx
    exact⟨v,a,AV.pv?_rel hxy b,c⟩
   let f:Nat → Value:=fun k=>(w.cell? ⟨σ.c b,off+k,none⟩).getD undef
   have hfn:(flat ys).length=len*P.cellsOf e:=by rw [zV hsz,hl]
   have hf : ∀ k,k < len*P.cellsOf e → w.cell? ⟨σ.c b,off+k,none⟩=some (f k):=fun k hk=>by
    obtain⟨v,hv,_⟩:=hcell k ((flat ys)[k]'(by omega)) (by simp)
    simp [f,hv]
   refine⟨(List.range (len*P.cellsOf e)).map f,by simp [hl],hsz,fun k y u hk hu => ?_,fun _=>by rw [hl];rfl,fun w' hw' n hn => ?_⟩
   · obtain⟨v,hv,h1,h2⟩:=hcell k y hk
     have hlt:k < len*P.cellsOf e:=by rw [←hfn];exact (List.getElem?_eq_some_iff.1 hk).1
     simp [hlt,f,hv] at hu;subst hu
     exact⟨h1,h2⟩
   · have hle':n*P.cellsOf e≤len*P.cellsOf e:=Nat.mul_le_mul_right _ (by omega)
     refine run_firstCells_some (P:=P) w' (P.cellsOf e) n _ _ _ _ (by rw [List.length_take,List.length_map,List.length_range,Nat.min_eq_left hle']) fun j v hv => ?_
     have hj:j < n*P.cellsOf e:=by
      rcases Nat.lt_or_ge j (n*P.cellsOf e) with h' | h'
      · exact h'
      · simp [List.getElem?_take,Nat.not_lt.2 h'] at hv
     simp [List.getElem?_take,hj,show j < len*P.cellsOf e by omega] at hv;subst hv
     have hlen:0 < len:=by
      rcases Nat.eq_zero_or_pos len with h0 | h0
      · subst h0;simp at hle';omega
      · exact h0
     rw [ha hlen,zE]
     have:=hf j (by omega)
     simpa [World.cell?,hw'] using this
 · rename_i b len sz;split at h
   case h_2=>cases h
   rename_i cs hb;split at h
   case isFalse=>cases h
   rename_i hs
   obtain⟨hs,hcl⟩:=hs
   subst hs
   obtain⟨hl,hle,hsz,hfl⟩:=zcO h
   obtain⟨hfl1,hfl2⟩:=pvs?_get hfl
   cases hx with | vr hx =>
   obtain⟨a,cap,rfl,_,hrow⟩:=zke hr hb hx hcl
   rcases hrow with ⟨rfl,_,_⟩ | ⟨g,s,rfl,_,_,_,_,_,hcells⟩
   · have:ys=[]:=List.eq_nil_of_length_eq_zero hl
     subst this
     exact⟨[],by simp,by simp,by simp [flat],fun _=>rfl,fun w' _ n hn=>by
      obtain rfl:n=0:=by simpa using hn
      cases a<;>simp [Builtin.firstCells,loadCells,loadCellsFrom]⟩
   have hcell : ∀ k y,(flat ys)[k]? = some y → ∃ v,w.cell? ⟨g,k,none⟩=some v∧RelP w (Stable σ H) y v∧v.oneCell'=true:=fun k y hk=>by
    obtain⟨x,hx,hxy⟩:=hfl2 k y hk
    have hlt:k < len*P.cellsOf e:=by
     rcases Nat.lt_or_ge k (len*P.cellsOf e) with h' | h'
     · exact h'
     · simp [List.getElem?_take,Nat.not_lt.2 h'] at hx
    simp [List.getElem?_take,hlt] at hx
    obtain⟨v,a,b,c⟩:=hcells k x hx
    exact⟨v,a,AV.pv?_rel hxy b,c⟩
   let f:Nat → Value:=fun k=>(w.cell? ⟨g,k,none⟩).getD undef
   have hfn:(flat ys).length=len*P.cellsOf e:=by rw [zV hsz,hl]
   have hf : ∀ k,k < len*P.cellsOf e → w.cell? ⟨g,k,none⟩=some (f k):=fun k hk=>by
    obtain⟨v,hv,_⟩:=hcell k ((flat ys)[k]'(by omega)) (by simp)
    simp [f,hv]
   refine⟨(List.range (len*P.cellsOf e)).map f,by simp [hl],hsz,fun k y u hk hu => ?_,fun _=>by rw [hl];rfl,fun w' hw' n hn => ?_⟩
   · obtain⟨v,hv,h1,h2⟩:=hcell k y hk
     have hlt:k < len*P.cellsOf e:=by rw [←hfn];exact (List.getElem?_eq_some_iff.1 hk).1
     simp [hlt,f,hv] at hu;subst hu
     exact⟨h1,h2⟩
   · have hle':n*P.cellsOf e≤len*P.cellsOf e:=Nat.mul_le_mul_right _ (by omega)
     refine run_firstCells_some (P:=P) w' (P.cellsOf e) n _ _ _ _ (by rw [List.length_take,List.length_map,List.length_range,Nat.min_eq_left hle']) fun j v hv => ?_
     have hj:j < n*P.cellsOf e:=by
      rcases Nat.lt_or_ge j (n*P.cellsOf e) with h' | h'
      · exact h'
      · simp [List.getElem?_take,Nat.not_lt.2 h'] at hv
     simp [List.getElem?_take,hj,show j < len*P.cellsOf e by omega] at hv;subst hv;rw [zE,Nat.zero_add]
     have:=hf j (by omega)
     simpa [World.cell?,hw'] using this
 · rename_i s;split at h
   case isFalse=>cases h
   rename_i hs;cases h
   obtain rfl:vx = .string s:=by cases hx with | p hp=>cases hp;rfl
   refine⟨s.data.toList.map fun b => .int .u8 b.toNat,by simp [hs],fun y hy => ?_,fun k y u hk hu => ?_,fun _ => ?_,fun w' hw' n hn => ?_⟩
   · simp at hy;obtain⟨b,_,rfl⟩:=hy;simp [hs,PV.cells]
   · have hfl:flat (s.data.toList.map fun b=>(.s (.int .u8 b.toNat):PV))=s.data.toList.map fun b=>(.s (.int .u8 b.toNat):PV):=by
      generalize s.data.toList=l
      induction l with
      | nil=>rfl
      | cons a l ih=>simp only [flat,List.map_cons,List.flatMap_cons,PV.cells,List.singleton_append] at *;rw [ih]
     rw [hfl] at hk;simp only [List.getElem?_map,Option.map_eq_some_iff] at hk hu
     obtain⟨b,hb,rfl⟩:=hk
     obtain⟨b',hb',rfl⟩:=hu
     rw [hb] at hb';cases hb'
     exact⟨.s _ rfl,rfl⟩
   · simp [Builtin.lenOf]
   · simp only [List.length_map,Array.length_toList] at hn;simp only [Builtin.firstCells,hs,Nat.mul_one,Sem.run_pure]
     congr 1
     apply Array.ext';simp [List.map_take,ByteArray.data_extract,Array.toList_extract,List.extract_eq_take_drop]
 · cases h

end elems

def zjj:TypeDesc → Bool
 | .slice _ | .string=>true
 | _=>false

theorem zjk {d:TypeDesc} (h:zjj d=true):(∃ e,d = .slice e) ∨ d = .string:=by
 cases d<;>simp [zjj] at h
 · exact .inr rfl
 · exact .inl ⟨_,rfl⟩

def zoS (P:Program) (e:TypeId) (d:TypeDesc) (x:AV):Option (List PV) :=
 match d,x with
 | .int _,.p (.s (.int .i64 n)) =>
  match zU P e with
  | some [p]=>if 0≤n∧n*P.bytesOf e≤140737488355328∧n≤140737488355328∧P.cellsOf e=1∧p.cells.length=1∧p.isAgg=false then some (List.replicate n.toNat p) else none
  | _=>none
 | _,_=>none
def zxz (P:Program) (H:Hp) (e:TypeId) (d:TypeDesc) (x:AV):Option (List PV):=if zjj d then zam P H e x else zoS P e d x

def ze4 (P:Program) (H:Hp) (t u:TypeId) (s x:AV):Option (AV × Hp) :=
 match P.underlying t,P.underlying u with
 | some (.slice e),some d =>
  match zxz P H e d x with
  | some ys =>
   match s with
   | .p (.sl true sz xs) =>
    if (sz=P.cellsOf e ∨ xs.isEmpty)∧0 < P.bytesOf e∧(xs.length+ys.length)*P.bytesOf e≤140737488355328∧yE P e then
     some (.sl H.n 0 (P.cellsOf e) (xs++ys),H.new (.tail 0)) else none
   | .sl α k sz xs =>
    match H.f α with
    | some (.tl k' none) =>
     if k'=k∧sz=P.cellsOf e∧0 < P.bytesOf e∧(xs.length+ys.length)*P.bytesOf e≤140737488355328∧yE P e then
      some (.sl α (k+1) (P.cellsOf e) (xs++ys),H.set α (.tail (k+1))) else none
    | _=>none
   | .vr b len sz =>
    match (H.f b).bind AB.vec? with
    | some cs =>
     if cs.length=len*sz∧sz=P.cellsOf e∧0 < sz∧0 < P.bytesOf e∧(len+ys.length)*P.bytesOf e≤140737488355328∧yE P e then
      some (.vr b (len+ys.length) sz,H.set b (.vec (cs++(flat ys).map .p))) else none
    | none=>none
   | _=>none
  | none=>none
 | _,_=>none

section append
variable {P:Program} {G:Globs} {σ:Gh} {H:Hp} {w:World}

theorem run_append_room' {t u ty e:TypeId} {d:TypeDesc} (ht:P.underlying t=some (.slice e)) (hu:P.underlying u=some d) (hd:zjj d=true) (hi:0 < P.bytesOf e)
 {base:Option Addr} {sLen sCap n:Nat} {vx:Value} {news:List Value} (hlen:(Builtin.lenOf vx).run P w = .ok n w) (hnews:(Builtin.firstCells (P.cellsOf e) n vx).run P w = .ok news.toArray w)
 (hroom:sLen+n≤sCap):(Builtin.append_ #[t,u] ty #[.slice base sLen sCap,vx]).run P w =
  (match base with | some a=>(storeCells (a.add (sLen*P.cellsOf e)) news).run P w | none => .ok () w).andThen fun _ w' => .ok (.slice base (sLen+n) sCap) w':=by
 obtain⟨i,hi'⟩ : ∃ i,P.info? e=some i:=by
  unfold Program.bytesOf at hi
  cases h:P.info? e with
  | none=>simp [h] at hi
  | some i=>exact⟨i,rfl⟩
 have hsz:i.size=P.cellsOf e:=by simp [Program.cellsOf,hi']
 have hss:(sizeOf e).run P w = .ok (P.cellsOf e) w:=by simp [sizeOf,typeInfo,hi',hsz]
 rcases zjk hd with ⟨e',rfl⟩ | rfl
 · cases base<;>simp [Builtin.append_,run_underlying ht,run_underlying hu,hss,hlen,hroom,hnews]
 · cases base<;>simp [Builtin.append_,run_underlying ht,run_underlying hu,hss,hlen,hroom,hnews]

theorem run_append_full' {t u ty e:TypeId} {d:TypeDesc} (ht:P.underlying t=some (.slice e)) (hu:P.underlying u=some d) (hd:zjj d=true) (hi:0 < P.bytesOf e)
 {z:Value} (hz:(P.info? e).bind (·.zero)=some z)
 {base:Option Addr} {sLen sCap n:Nat} {vx:Value} {olds news:List Value} (hlen:(Builtin.lenOf vx).run P w = .ok n w) (hnews:(Builtin.firstCells (P.cellsOf e) n vx).run P w.drew = .ok news.toArray w.drew)
 (holds:(Builtin.firstCells (P.cellsOf e) sLen (.slice base sLen sCap)).run P w.drew = .ok olds.toArray w.drew)
 (hroom:sCap < sLen+n) (hfit:(sLen+n)*P.bytesOf e≤140737488355328):(Builtin.append_ #[t,u] ty #[.slice base sLen sCap,vx]).run P w =
  .ok (.slice (some ⟨w.heap.size,0,none⟩) (sLen+n) (grownCap w (sLen+n) sCap e)) (w.drew.alloc (.cells (olds.toArray++news.toArray++Builtin.zeroCells z.cells (grownCap w (sLen+n) sCap e - (sLen+n))) e)):=by
 obtain⟨i,hi'⟩ : ∃ i,P.info? e=some i:=by
  unfold Program.bytesOf at hi
  cases h:P.info? e with
  | none=>simp [h] at hi
  | some i=>exact⟨i,rfl⟩
 have hsz:i.size=P.cellsOf e:=by simp [Program.cellsOf,hi']
 have hby:i.bytes=P.bytesOf e:=by simp [Program.bytesOf,hi']
 have hiz:i.zero=some z:=by simpa [hi'] using hz
 have hss:(sizeOf e).run P w = .ok (P.cellsOf e) w:=by simp [sizeOf,typeInfo,hi',hsz]
 have hti : ∀ w:World,(typeInfo e).run P w = .ok i w:=fun w=>by simp [typeInfo,hi']
 have hzv:(zeroValue e).run P w.drew = .ok z w.drew:=by simp [zeroValue,typeInfo,hi',hiz]
 have hn : ¬ (sLen+n≤sCap):=by omega
 have h47:sLen+n≤140737488355328:=Nat.le_trans (Nat.le_mul_of_pos_right _ hi) hfit
 have hfits : ¬ (Builtin.nextslicecap (sLen+n) sCap*i.bytes > 2 ^ 48):=by
  have:=growslice_fits (need:=sLen+n) (old:=sCap) (bytes:=i.bytes) hroom (by rw [hby];exact hfit)
  omega
 have h63 : ¬ (9223372036854775807 < ((sLen:Int)+(n:Int))):=by omega
 have hfits' : ¬ (281474976710656 < Builtin.nextslicecap (sLen+n) sCap*i.bytes):=by simpa using hfits
 have hbn : ¬ i.bytes=0:=by omega
 rcases zjk hd with ⟨e',rfl⟩ | rfl
 · simp [Builtin.append_,run_underlying ht,run_underlying hu,hss,hlen,hn,hti,hfits',hbn,Question.forced,holds,hnews,hzv,newRow,grownCap]
   congr 2;apply Array.ext';simp [List.append_assoc]
 · simp [Builtin.append_,run_underlying ht,run_underlying hu,hss,hlen,hn,hti,hfits',hbn,Question.forced,holds,hnews,hzv,newRow,grownCap]
   congr 2;apply Array.ext';simp [List.append_assoc]

theorem ztj (hr:Rel G σ H w) {e:TypeId} {sz:Nat} {zs:List PV} (hsz : ∀ y∈zs,y.cells.length=sz) (cells:List Value) (hl:cells.length=zs.length*sz)
 (hc : ∀ (k:Nat) y u,(flat zs)[k]? = some y → cells[k]? = some u → RelP w (Stable σ H) y u∧u.oneCell'=true) (hc' : ∀ u∈cells,u.oneCell'=true) (rest:Array Value) {cap:Nat} (hcap:zs.length≤cap∧cap≤maxLen)
 (hsize:(cells.toArray++rest).size=cap*sz) {α k:Nat} {H':Hp} {w':World} (hw':w'=w.drew.alloc (.cells (cells.toArray++rest) e))
 (hH:H'.f α=some (.tail k)) (hother : ∀ b,b≠α → H'.f b=H.f b)
 (hrel:Rel G (σ.withT α (some (w.heap.size,zs.length*sz,cap*sz))) H' w') (hev:Ev H.n σ H w (σ.withT α (some (w.heap.size,zs.length*sz,cap*sz))) H' w') :
 RelV (σ.withT α (some (w.heap.size,zs.length*sz,cap*sz))) H' w' (.sl α k sz zs) (.slice (some ⟨w.heap.size,0,none⟩) zs.length cap):=by
 have hst : ∀ o,o < zs.length*sz → Stable (σ.withT α (some (w.heap.size,zs.length*sz,cap*sz))) H' w.heap.size o:=fun o ho=>by
  refine⟨fun b cs hb => ?_,fun b j d o' s hb ht => ?_⟩
  · have hne:b≠α:=fun h=>by rw [h,hH] at hb;cases hb
    rw [hother b hne] at hb
    have:=hr.c_lt hb
    show σ.c b≠_
    omega
  · by_cases hne:b=α
    · simp only [Gh.withT,hne,if_true,Option.some.injEq,Prod.mk.injEq] at ht;omega
    · rw [hother b hne] at hb;simp only [Gh.withT,hne,if_false] at ht
      have:=hr.t_lt hb ht;omega
 have hcell : ∀ k,k < zs.length*sz → w'.cell? ⟨w.heap.size,0+k,none⟩=some (cells.getD k undef):=fun k hk=>by
  subst hw'
  have:k < cells.length:=by omega
  rw [World.cell?,show (w.drew.alloc (.cells (cells.toArray++rest) e)).heap[w.heap.size]? = some (.cells (cells.toArray++rest) e) from heap_alloc_new w.drew _];simp only [Option.isSome_none,Bool.false_eq_true,if_false,Nat.zero_add];rw [Array.getElem?_append_left (by simpa using this)];simp [this]
 refine .sl (.sl false sz zs w.heap.size 0 cap (fun k=>cells.getD k undef) (by simp) hcap hsz (fun k hk=>⟨?_,hcell k hk,?_⟩) (fun k y hk => ?_)) ⟨Hp.lt hH,fun k0 d hk0 => ?_⟩
 · rw [Nat.zero_add];exact hst k hk
 · have:k < cells.length:=by omega
   simp only [List.getD_eq_getElem?_getD,List.getElem?_eq_getElem this,Option.getD_some];exact hc' _ (by simp)
 · have hlt:k < cells.length:=by rw [hl,←zV hsz];exact (List.getElem?_eq_some_iff.1 hk).1
   simp only [List.getD_eq_getElem?_getD,List.getElem?_eq_getElem hlt,Option.getD_some];exact (hc k y _ hk (by simp)).1.mono hev.cell
 · rw [hH] at hk0;cases hk0
   exact⟨Nat.le_refl _,fun _ => .inr ⟨w.heap.size,0,zs.length,cap,cap*sz,rfl,by simp [Gh.withT],by omega⟩⟩

theorem zdz (xs ys:List PV):flat (xs++ys)=flat xs++flat ys:=by simp [flat]

theorem zr7 {w w1:World} {cs:List AV} {ys:List PV} {cells news:List Value} {g:Nat} (hcl:cells.length=cs.length) (hnl:news.length=(flat ys).length)
 (hold : ∀ (i:Nat) x,cs[i]? = some x → ∃ v,cells[i]? = some v∧RelC σ H w x v) (hnew : ∀ (k:Nat) y u,(flat ys)[k]? = some y → news[k]? = some u → RelP w (Stable σ H) y u∧u.oneCell'=true)
 (hcell : ∀ i v,(cells++news)[i]? = some v → w1.cell? ⟨g,i,none⟩=some v) : ∀ (i:Nat) x,(cs++(flat ys).map AV.p)[i]? = some x → ∃ v,w1.cell? ⟨g,i,none⟩=some v∧RelC σ H w x v:=by
 intro i x hx;by_cases hi:i < cs.length
 · rw [List.getElem?_append_left hi] at hx
   obtain⟨v,h1,h2⟩:=hold i x hx
   exact⟨v,hcell i v (by rw [List.getElem?_append_left (by omega)];exact h1),h2⟩
 · rw [List.getElem?_append_right (by omega)] at hx;simp only [List.getElem?_map,Option.map_eq_some_iff] at hx
   obtain⟨y,hy,rfl⟩:=hx
   have hlt:i - cs.length < news.length:=by rw [hnl];exact (List.getElem?_eq_some_iff.1 hy).1
   have hu:news[i - cs.length]? = some news[i - cs.length]:=by simp [hlt]
   obtain⟨h1,h2⟩:=hnew _ _ _ hy hu
   exact⟨_,hcell i _ (by rw [List.getElem?_append_right (by omega),hcl];exact hu),.p h1,h2⟩

theorem PV.one_cell {p:PV} (h1:p.cells.length=1) (h2:p.isAgg=false):p.cells=[p]:=by
 cases p with
 | s v=>rfl
 | agg xs=>simp [PV.isAgg] at h2
 | sl fl sz xs=>rfl

theorem zlL {t u ty e:TypeId} {d:TypeDesc} {x:AV} {vx:Value} {ys:List PV} (hr:Rel G σ H w) (ht:P.underlying t=some (.slice e)) (hu:P.underlying u=some d) (hys:zxz P H e d x=some ys) (hx:RelV σ H w x vx) :
 ∃ news:List Value,news.length=ys.length*P.cellsOf e∧(∀ y∈ys,y.cells.length=P.cellsOf e) ∧
  (∀ (k:Nat) y u,(flat ys)[k]? = some y → news[k]? = some u → RelP w (Stable σ H) y u∧u.oneCell'=true) ∧
  (∀ (base:Option Addr) (sLen sCap:Nat),0 < P.bytesOf e → sLen+ys.length≤sCap → (Builtin.append_ #[t,u] ty #[.slice base sLen sCap,vx]).run P w =
   (match base with | some a=>(storeCells (a.add (sLen*P.cellsOf e)) news).run P w | none => .ok () w).andThen fun _ w' => .ok (.slice base (sLen+ys.length) sCap) w') ∧
  (∀ (base:Option Addr) (sLen sCap:Nat) (z:Value) (olds:List Value),0 < P.bytesOf e → (P.info? e).bind (·.zero)=some z → (Builtin.firstCells (P.cellsOf e) sLen (.slice base sLen sCap)).run P w.drew = .ok olds.toArray w.drew → sCap < sLen+ys.length →
   (sLen+ys.length)*P.bytesOf e≤140737488355328 → (Builtin.append_ #[t,u] ty #[.slice base sLen sCap,vx]).run P w =
    .ok (.slice (some ⟨w.heap.size,0,none⟩) (sLen+ys.length) (grownCap w (sLen+ys.length) sCap e)) (w.drew.alloc (.cells (olds.toArray++news.toArray++Builtin.zeroCells z.cells (grownCap w (sLen+ys.length) sCap e - (sLen+ys.length))) e))):=by
 unfold zxz at hys;split at hys
 · rename_i hne
   obtain⟨news,hnl,hnsz,hnc,hnlen,hnf⟩:=zcP hr hys hx
   have htake:news.take (ys.length*P.cellsOf e)=news:=by rw [←hnl];exact List.take_length
   have hfc : ∀ w':World,w'.heap=w.heap → (Builtin.firstCells (P.cellsOf e) ys.length vx).run P w' = .ok news.toArray w':=fun w' hw'=>by
    have:=hnf w' hw' ys.length (Nat.le_refl _)
    rwa [htake] at this
   exact⟨news,hnl,hnsz,hnc,fun base sLen sCap hby hroom=>run_append_room' ht hu hne hby (hnlen w) (hfc w rfl) hroom,
    fun base sLen sCap z olds hby hz holds hroom hfit=>run_append_full' ht hu hne hby hz (hnlen w) (hfc w.drew rfl) holds hroom hfit⟩
 · unfold zoS at hys;split at hys
   case h_2=>cases hys
   rename_i _ _ n _;split at hys
   case h_2=>cases hys
   rename_i p hps;split at hys
   case isFalse=>cases hys
   rename_i hc
   obtain⟨c0,c1,c1',c2,c3,c4⟩:=hc
   cases hys
   cases hx with | p hx =>
   cases hx
   obtain⟨z,hz1,hz,hzs,hzr⟩:=yy (w:=w) (S:=Stable σ H) hps
   obtain⟨m,rfl⟩ : ∃ m:Nat,n=m:=⟨n.toNat,by omega⟩
   obtain⟨i,hi'⟩ : ∃ i,P.info? e=some i:=by
    cases h:P.info? e with
    | none=>simp [h] at hz
    | some i=>exact⟨i,rfl⟩
   have hiz:i.zero=some z:=by simpa [hi'] using hz
   have hsz:i.size=P.cellsOf e:=by simp [Program.cellsOf,hi']
   have hby':i.bytes=P.bytesOf e:=by simp [Program.bytesOf,hi']
   have hss : ∀ w:World,(sizeOf e).run P w = .ok (P.cellsOf e) w:=fun w=>by simp [sizeOf,typeInfo,hi',hsz]
   have hti : ∀ w:World,(typeInfo e).run P w = .ok i w:=fun w=>by simp [typeInfo,hi']
   have hzv : ∀ w:World,(zeroValue e).run P w = .ok z w:=fun w=>by simp [zeroValue,typeInfo,hi',hiz]
   have hwr:IntKind.i64.wrap (m:Int)=m:=by
    have:(m:Int)≤140737488355328:=c1'
    rw [IntKind.wrap_i64];omega
   have hw0:IntKind.i64.wrap 0=0:=by rw [IntKind.wrap_i64];decide
   have hn0 : ¬ ((m:Int) < 0):=by omega
   have hnb : ¬ (281474976710656 < (m:Int)*(i.bytes:Int)):=by rw [hby'];omega
   have hlen:(List.replicate m p).length=m:=List.length_replicate
   have hzl:(Builtin.zeroCells z.cells m).toList.length=m:=by rw [Array.length_toList,size_zeroCells,hzs];simp
   have hone:=PV.one_cell c3 c4
   have happ : ∀ w:World,((if m*P.cellsOf e=0 then pure #[] else do pure (Builtin.zeroCells (←zeroValue e).cells m):Sem (Array Value))).run P w = .ok (Builtin.zeroCells z.cells m).toList.toArray w:=fun w=>by
    by_cases h0:m=0
    · subst h0;simp [Builtin.zeroCells]
    · rw [if_neg (by rw [c2];omega)];simp [hzv]
   refine⟨(Builtin.zeroCells z.cells m).toList,by rw [hzl];simp [c2],fun y hy=>by rw [List.eq_of_mem_replicate hy,c3,c2],fun k y v hk hv => ?_,fun base sLen sCap hby hroom => ?_,fun base sLen sCap z' olds hby hz' holds hroom hfit => ?_⟩
   · have hfl : ∀ k,flat (List.replicate k p)=List.replicate k p:=fun k=>by
      induction k with
      | zero=>rfl
      | succ k ih=>rw [List.replicate_succ];show p.cells++flat (List.replicate k p)=_;rw [hone,ih];rfl
     rw [Int.toNat_natCast,hfl] at hk
     have hkm:k < m:=by have:=(List.getElem?_eq_some_iff.1 hk).1;simpa using this
     have hyp:y=p:=by simp [List.getElem?_replicate,hkm] at hk;exact hk.symm
     subst hyp
     have hz0:z.cells[0]? = some v:=by
      have hs1:z.cells.size=1:=by rw [hzs];rfl
      simp [Builtin.zeroCells,hs1,hkm] at hv;rw [←hv,Nat.mod_one];simp [hs1]
     exact hzr 0 y v rfl hz0
   · rw [Int.toNat_natCast,hlen] at hroom ⊢;by_cases h0:m=0
     · subst h0
       cases base<;>simp [Builtin.append_,run_underlying ht,run_underlying hu,hss,hti,asInt,asIntOf,hw0,hroom,Builtin.zeroCells]<;>(intro hlt;exact absurd hroom (by omega))
     · cases base<;>simp [Builtin.append_,run_underlying ht,run_underlying hu,hss,hti,asInt,asIntOf,hwr,hn0,hnb,hroom,c2,h0,hzv]
   · rw [Int.toNat_natCast,hlen] at hroom hfit ⊢
     have hzz:z'=z:=by rw [hz] at hz';exact (Option.some.inj hz').symm
     subst hzz
     have hn : ¬ (sLen+m≤sCap):=by omega
     have h47:sLen+m≤140737488355328:=Nat.le_trans (Nat.le_mul_of_pos_right _ hby) hfit
     have hfits : ¬ (Builtin.nextslicecap (sLen+m) sCap*i.bytes > 2 ^ 48):=by
      have:=growslice_fits (need:=sLen+m) (old:=sCap) (bytes:=i.bytes) hroom (by rw [hby'];exact hfit)
      omega
     have h63 : ¬ (9223372036854775807 < ((sLen:Int)+(m:Int))):=by omega
     have hfits' : ¬ (281474976710656 < Builtin.nextslicecap (sLen+m) sCap*i.bytes):=by simpa using hfits
     have hbn : ¬ i.bytes=0:=by omega
     have holds1:=holds;rw [c2] at holds1;by_cases h0:m=0
     · subst h0;simp only [Nat.add_zero] at hn hfits';simp [Builtin.append_,run_underlying ht,run_underlying hu,hss,hti,asInt,asIntOf,hw0,hn,hfits',hbn,Question.forced,holds,hzv,newRow,grownCap,Builtin.zeroCells];intro hlt;exact absurd hlt (by omega)
     · simp [Builtin.append_,run_underlying ht,run_underlying hu,hss,hti,asInt,asIntOf,hwr,hn0,hnb,hn,h63,hfits',hbn,Question.forced,holds,holds1,c2,h0,hzv,newRow,grownCap]

theorem zkf {t u ty e:TypeId} {d:TypeDesc} {b len sz:Nat} {cs:List AV} {ys:List PV} {x:AV} {vs vx:Value} (hr:Rel G σ H w) (ht:P.underlying t=some (.slice e)) (hu:P.underlying u=some d)
 (hys:zxz P H e d x=some ys) (hx:RelV σ H w x vx) (hb:(H.f b).bind AB.vec? = some cs) (hcl:cs.length=len*sz) (hsz:sz=P.cellsOf e) (hs0:0 < sz) (hby:0 < P.bytesOf e) (hfit:(len+ys.length)*P.bytesOf e≤140737488355328) (hzf:yE P e=true)
 (hs:VecOK σ H b len sz vs) :
 ∃ v w' σ',(Builtin.append_ #[t,u] ty #[vs,vx]).run P w = .ok v w'∧RelV σ' (H.set b (.vec (cs++(flat ys).map .p))) w' (.vr b (len+ys.length) sz) v∧Rel G σ' (H.set b (.vec (cs++(flat ys).map .p))) w'∧Ev H.n σ H w σ' (H.set b (.vec (cs++(flat ys).map .p))) w':=by
 subst hsz
 obtain⟨news,hnl,hnsz,hnc,hroomR,hfullR⟩:=zlL (ty:=ty) hr ht hu hys hx
 have hfl:(flat ys).length=ys.length*P.cellsOf e:=zV hnsz
 have hnews1 : ∀ u∈news,u.oneCell'=true:=fun u hu=>by
  obtain⟨k,hk⟩:=List.getElem?_of_mem hu
  have hlt:k < (flat ys).length:=by rw [hfl,←hnl];exact (List.getElem?_eq_some_iff.1 hk).1
  exact (hnc k (flat ys)[k] u (by simp) hk).2
 have hbn:=hs.1
 obtain⟨k,hk⟩:=vec?_inv hb
 obtain⟨hkl,hnone,_⟩:=hr.vec b k cs hk
 have hlen':(cs++(flat ys).map AV.p).length=(len+ys.length)*P.cellsOf e:=by rw [List.length_append,List.length_map,hfl,hcl,Nat.add_mul]
 have hf2:(H.set b (.vec (cs++(flat ys).map .p))).f b=some (.vec (cs++(flat ys).map .p)):=Hp.f_set_self _ _ _ hbn
 obtain⟨base,cap,rfl,hado,hrow⟩:=zke hr hb hs hcl
 by_cases hroom:len+ys.length≤cap
 · have hrun:=hroomR base len cap hby hroom
   rcases hrow with ⟨rfl,rfl,hσ⟩ | ⟨g,s,rfl,hσ,hcs,hlc,hcm,hcls,hcells⟩
   · have hy:ys=[]:=List.eq_nil_of_length_eq_zero (by omega);subst hy;have hnn:news=[]:=List.eq_nil_of_length_eq_zero (by simpa using hnl);subst hnn;have hcs0:=hnone hσ;subst hcs0
     obtain⟨h1,h2⟩:=zbI (G:=G) hr hk (w':=w) (Nat.le_refl _) (fun _ _ _=>rfl) (fun _ _ _ _ _ _ _ h=>h) rfl rfl 0 (some []) none ⟨by rw [hkl];exact Nat.le_refl _,fun _=>hσ.symm⟩ (by simp) (fun ds hd=>by cases hd;exact⟨rfl,fun _=>rfl,fun _ _ _ h=>by cases h⟩)
     refine⟨.slice base 0 0,w,_,?_,.vr ⟨by rw [Hp.n_set];exact hbn,base,0,rfl,hado,fun k0 c hk0 => ?_⟩,h1,h2⟩
     · rw [hrun];cases base<;>simp [storeCells]
     · exact⟨by simp,fun _ => .inl ⟨rfl,rfl,by simp [Gh.withT]⟩⟩
   · obtain⟨c,ec,hg,hcsz⟩:=hr.tail b k _ g _ s hk hσ
     have hmul:(len+ys.length)*P.cellsOf e≤cap*P.cellsOf e:=Nat.mul_le_mul_right _ hroom;rw [Nat.add_mul] at hmul;have hstore:=run_storeCells_at P g (len*P.cellsOf e) ec news 0 c w hg (by rw [hnl,hcsz];omega) hnews1;simp only [Nat.add_zero] at hstore;simp only [zE,Nat.zero_add,hstore,Result.andThen_ok] at hrun
     generalize hc':(c.toList.take (len*P.cellsOf e)++news++c.toList.drop (len*P.cellsOf e+news.length)).toArray=c' at *
     have hself:(w.setRow g c').heap[g]? = some (.cells c' ec (0,0)):=by simp [World.setRow,Array.getElem?_modify,hg]
     have hother : ∀ g',g'≠g → (w.setRow g c').heap[g']? = w.heap[g']? := fun g' hg'=>by simp [World.setRow,Array.getElem?_modify,Ne.symm hg']
     have hc's:c'.size=c.size:=by rw [←hc'];simp;omega
     have hpre : ∀ i v,(c.toList.take (len*P.cellsOf e)++news)[i]? = some v → (w.setRow g c').cell? ⟨g,i,none⟩=some v:=fun i v hv=>by
      have hlt:=(List.getElem?_eq_some_iff.1 hv).1;simp only [World.cell?,hself,Option.isSome_none,Bool.false_eq_true,if_false];rw [←hc',List.getElem?_toArray,List.getElem?_append_left hlt];exact hv
     obtain⟨h1,h2⟩:=zbI (G:=G) hr hk (w':=w.setRow g c') (by simp) (fun g' hg' hn'=>hother g' (fun hh=>hn' _ _ (hh ▸ hσ))) (fun g' o s' hh i v hi hv=>by rw [hσ] at hh;cases hh;omega) rfl rfl
      (cs++(flat ys).map AV.p).length (some (cs++(flat ys).map AV.p)) (some (g,0,s)) ⟨by rw [List.length_append];omega,fun _=>hσ.symm⟩ (fun g' o s' hh=>by cases hh;exact⟨.inr ⟨_,hσ,Nat.le_refl _⟩,c',ec,hself,by rw [hc's,hcsz]⟩) (fun ds hd=>by
       cases hd
       refine⟨rfl,fun h=>(by cases h),fun g' o s' hh => ?_⟩
       cases hh
       refine⟨rfl,by rw [hlen',Nat.add_mul];omega,zr7 (cells:=c.toList.take (len*P.cellsOf e)) (news:=news) (by simp;omega) (by rw [hnl,hfl]) (fun i x hx => ?_) hnc hpre⟩
       obtain⟨v,hv,hxv⟩:=hcells i x hx
       have hi:i < len*P.cellsOf e:=by rw [←hcl];exact (List.getElem?_eq_some_iff.1 hx).1
       refine⟨v,?_,hxv⟩
       rw [List.getElem?_take,if_pos hi]
       simpa [World.cell?,hg] using hv)
     refine⟨_,_,_,hrun,.vr ⟨by rw [Hp.n_set];exact hbn,_,cap,rfl,fun _=>rfl,fun k0 c0 hk0 => ?_⟩,h1,h2⟩
     rw [hf2] at hk0;cases hk0
     exact⟨by rw [hlen'];exact Nat.le_refl _,fun _ => .inr ⟨g,s,rfl,by simp [Gh.withT],hcs,hroom,hcm⟩⟩
 · have hzz : ∃ ps,zU P e=some ps∧ps.length=P.cellsOf e:=by
    unfold yE at hzf;split at hzf
    · rename_i ps hps;exact⟨ps,hps,by simpa using hzf⟩
    · cases hzf
   obtain⟨ps,hps,hpl⟩:=hzz
   obtain⟨z,_,hz,hzs,_⟩:=yy (w:=w) (S:=Stable σ H) hps
   have holds : ∃ olds:List Value,olds.length=cs.length∧(∀ (i:Nat) x,cs[i]? = some x → ∃ v,olds[i]? = some v∧RelC σ H w x v)∧(Builtin.firstCells (P.cellsOf e) len (.slice base len cap)).run P w.drew = .ok olds.toArray w.drew:=by
    rcases hrow with ⟨rfl,rfl,hσ⟩ | ⟨g,s,rfl,hσ,hcs,hlc,hcm,hcls,hcells⟩
    · have hcs0:=hnone hσ;subst hcs0
      exact⟨[],rfl,by simp,by cases base<;>simp [Builtin.firstCells,loadCells,loadCellsFrom]⟩
    · refine⟨(List.range cs.length).map fun k=>(w.cell? ⟨g,k,none⟩).getD undef,by simp,fun i x hx => ?_,?_⟩
      · obtain⟨v,hv,hxv⟩:=hcells i x hx
        have hi:=(List.getElem?_eq_some_iff.1 hx).1
        exact⟨v,by simp [hi,hv],hxv⟩
      · refine run_firstCells_some (P:=P) w.drew (P.cellsOf e) len _ _ _ _ (by simp [hcl]) fun j v hv => ?_
        have hj:j < cs.length:=by
         rcases Nat.lt_or_ge j cs.length with h' | h'
         · exact h'
         · simp [Nat.not_lt.2 h'] at hv
        obtain⟨u,hu,_⟩:=hcells j cs[j] (by simp)
        simp [hj,hu] at hv;subst hv;rw [zE,Nat.zero_add];exact hu
   obtain⟨olds,hol,hoc,hofc⟩:=holds
   have hlc:len≤cap:=by
    rcases hrow with ⟨rfl,rfl,_⟩ | ⟨_,_,_,_,_,h,_⟩
    · exact Nat.le_refl _
    · exact h
   have hrun:=hfullR base len cap z olds hby hz hofc (by omega) hfit;have hge:=grownCap_ge w (len+ys.length) cap e;have h47:len+ys.length≤140737488355328:=Nat.le_trans (Nat.le_mul_of_pos_right _ hby) hfit;have hgm:=grownCap_le_maxLen w (len+ys.length) cap e (by unfold maxLen;omega)
   generalize grownCap w (len+ys.length) cap e=nc at *
   have hsize:(olds.toArray++news.toArray++Builtin.zeroCells z.cells (nc - (len+ys.length))).size=nc*P.cellsOf e:=by
    simp only [Array.size_append,List.size_toArray,hol,hcl,hnl,size_zeroCells,hzs,hpl,←Nat.add_mul]
    congr 1;omega
   generalize hrow':olds.toArray++news.toArray++Builtin.zeroCells z.cells (nc - (len+ys.length))=row at *
   have hpre : ∀ i v,(olds++news)[i]? = some v → (w.drew.alloc (.cells row e)).cell? ⟨w.heap.size,i,none⟩=some v:=fun i v hv=>by
    have hlt:=(List.getElem?_eq_some_iff.1 hv).1;rw [World.cell?,show (w.drew.alloc (.cells row e)).heap[w.heap.size]? = some (.cells row e) from heap_alloc_new w.drew _];simp only [Option.isSome_none,Bool.false_eq_true,if_false];rw [←hrow',Array.getElem?_append_left (by simpa using hlt)]
    simpa using hv
   obtain⟨h1,h2⟩:=zbI (G:=G) hr hk (w':=w.drew.alloc (.cells row e)) (by simp) (fun g hg _=>heap_alloc_old w.drew _ hg) (fun g o s hh i v hi hv=>by
    have hlt:g < w.heap.size:=World.block_lt_of_cell? (a:=⟨g,i,none⟩) w hv
    rw [World.cell?_alloc_lt (a:=⟨g,i,none⟩) w.drew _ hlt];exact hv) rfl rfl
    (cs++(flat ys).map AV.p).length (some (cs++(flat ys).map AV.p)) (some (w.heap.size,0,nc*P.cellsOf e)) ⟨by rw [List.length_append];omega,fun h=>by
     rw [List.length_append,List.length_map,hfl] at h
     have:ys.length*P.cellsOf e=0:=by omega
     rcases Nat.mul_eq_zero.1 this with h | h<;>omega⟩ (fun g' o s' hh=>by cases hh;exact⟨.inl (Nat.le_refl _),row,e,heap_alloc_new w.drew _,hsize⟩) (fun ds hd=>by
     cases hd
     refine⟨rfl,fun h=>(by cases h),fun g' o s' hh => ?_⟩
     cases hh
     refine⟨rfl,by rw [hlen'];exact Nat.mul_le_mul_right _ hge,zr7 (cells:=olds) (news:=news) hol (by rw [hnl,hfl]) hoc hnc hpre⟩)
   refine⟨_,_,_,hrun,.vr ⟨by rw [Hp.n_set];exact hbn,_,nc,rfl,fun _=>rfl,fun k0 c0 hk0 => ?_⟩,h1,h2⟩
   rw [hf2] at hk0;cases hk0
   exact⟨by rw [hlen'];exact Nat.le_refl _,fun _ => .inr ⟨_,_,rfl,by simp [Gh.withT],Nat.le_refl _,hge,hgm⟩⟩

theorem zlM {t u ty:TypeId} {s x y:AV} {H':Hp} {vs vx:Value} (hr:Rel G σ H w) (h:ze4 P H t u s x=some (y,H')) (hs:RelV σ H w s vs) (hx:RelV σ H w x vx) :
 ∃ v w' σ',(Builtin.append_ #[t,u] ty #[vs,vx]).run P w = .ok v w'∧RelV σ' H' w' y v∧Rel G σ' H' w'∧Ev H.n σ H w σ' H' w':=by
 unfold ze4 at h;split at h
 case h_2=>cases h
 rename_i e d ht hu;split at h
 case h_2=>cases h
 rename_i ys hys
 obtain⟨news,hnl,hnsz,hnc,hroomR,hfullR⟩:=zlL (ty:=ty) hr ht hu hys hx
 have hnews1 : ∀ u∈news,u.oneCell'=true:=fun u hu=>by
  obtain⟨k,hk⟩:=List.getElem?_of_mem hu
  have hlt:k < (flat ys).length:=by rw [zV hnsz,←hnl];exact (List.getElem?_eq_some_iff.1 hk).1
  exact (hnc k (flat ys)[k] u (by simp) hk).2
 -- the case without room
 have grow : ∀ (fl:Bool) (sz:Nat) (xs:List PV) (base:Option Addr) (cap:Nat),RelP w (Stable σ H) (.sl fl sz xs) (.slice base xs.length cap) → (sz=P.cellsOf e ∨ xs.isEmpty=true) → 0 < P.bytesOf e →
  (xs.length+ys.length)*P.bytesOf e≤140737488355328 → yE P e=true → cap < xs.length+ys.length → ∀ (α k:Nat) (H2:Hp),H2.f α=some (.tail k) → (∀ b,b≠α → H2.f b=H.f b) →
  (∀ (w':World) (r:Nat × Nat × Nat),w.heap.size≤w'.heap.size → (∀ g,g < w.heap.size → w'.heap[g]? = w.heap[g]?) → w'.os=w.os → w'.output=w.output → r.1=w.heap.size → (∃ c e,w'.heap[r.1]? = some (.cells c e (0,0))∧c.size=r.2.2) →
   Rel G (σ.withT α (some r)) H2 w'∧Ev H.n σ H w (σ.withT α (some r)) H2 w') →
  ∃ v w' σ',(Builtin.append_ #[t,u] ty #[.slice base xs.length cap,vx]).run P w = .ok v w'∧RelV σ' H2 w' (.sl α k (P.cellsOf e) (xs++ys)) v∧Rel G σ' H2 w'∧Ev H.n σ H w σ' H2 w':=by
  intro fl sz xs base cap hp hsz hby hfit hzf hroom α k H2 hH2 hoth hmk
  obtain⟨olds,hol,hosz,hoc,holen,hof⟩:=zcP (P:=P) (e:=e) (x := .p (.sl fl sz xs)) (ys:=xs) hr (by simp only [zam];rw [if_pos hsz]) (.p hp)
  have holds1 : ∀ u∈olds,u.oneCell'=true:=fun u hu=>by
   obtain⟨k,hk⟩:=List.getElem?_of_mem hu
   have hlt:k < (flat xs).length:=by rw [zV hosz,←hol];exact (List.getElem?_eq_some_iff.1 hk).1
   exact (hoc k (flat xs)[k] u (by simp) hk).2
  have hofc:(Builtin.firstCells (P.cellsOf e) xs.length (.slice base xs.length cap)).run P w.drew = .ok olds.toArray w.drew:=by
   have:=hof w.drew rfl xs.length (Nat.le_refl _)
   rwa [show olds.take (xs.length*P.cellsOf e)=olds by rw [←hol];exact List.take_length] at this
  have hzz : ∃ ps,zU P e=some ps∧ps.length=P.cellsOf e:=by
   unfold yE at hzf;split at hzf
   · rename_i ps hps;exact⟨ps,hps,by simpa using hzf⟩
   · cases hzf
  obtain⟨ps,hps,hpl⟩:=hzz
  obtain⟨z,_,hz,hzs,_⟩:=yy (w:=w) (S:=Stable σ H) hps
  have hrun:=hfullR base xs.length cap z olds hby hz hofc hroom hfit;have hge:=grownCap_ge w (xs.length+ys.length) cap e;have h47:xs.length+ys.length≤140737488355328:=Nat.le_trans (Nat.le_mul_of_pos_right _ hby) hfit;have hgm:=grownCap_le_maxLen w (xs.length+ys.length) cap e (by unfold maxLen;omega)
  generalize grownCap w (xs.length+ys.length) cap e=nc at *
  have hsize:((olds++news).toArray++Builtin.zeroCells z.cells (nc - (xs.length+ys.length))).size=nc*P.cellsOf e:=by
   simp only [Array.size_append,List.size_toArray,List.length_append,hol,hnl,size_zeroCells,hzs,hpl,←Nat.add_mul]
   congr 1;omega
  have hlen2:(xs++ys).length=xs.length+ys.length:=List.length_append
  have heq:(olds.toArray++news.toArray++Builtin.zeroCells z.cells (nc - (xs.length+ys.length)))=(olds++news).toArray++Builtin.zeroCells z.cells (nc - (xs.length+ys.length)):=by simp
  rw [heq] at hrun
  obtain⟨h1,h2⟩:=hmk (w.drew.alloc (.cells ((olds++news).toArray++Builtin.zeroCells z.cells (nc - (xs.length+ys.length))) e)) (w.heap.size,(xs++ys).length*P.cellsOf e,nc*P.cellsOf e)
   (by simp) (fun g hg=>heap_alloc_old w.drew _ hg) rfl rfl rfl ⟨_,e,heap_alloc_new w.drew _,hsize⟩
  refine⟨_,_,_,hrun,?_,h1,h2⟩
  have hfin:=ztj (e:=e) (sz:=P.cellsOf e) (zs:=xs++ys) (cap:=nc) (k:=k) hr (fun y hy=>(List.mem_append.1 hy).elim (hosz y) (hnsz y)) (olds++news)
   (by rw [List.length_append,hol,hnl,hlen2,Nat.add_mul]) (fun k y u hk hu=>by
    rw [zdz] at hk;by_cases hlt:k < (flat xs).length
    · rw [List.getElem?_append_left hlt] at hk;rw [List.getElem?_append_left (by rw [hol,←zV hosz];exact hlt)] at hu;exact hoc k y u hk hu
    · rw [List.getElem?_append_right (by omega)] at hk;rw [List.getElem?_append_right (by rw [hol,←zV hosz];omega),show olds.length=(flat xs).length by rw [hol,zV hosz]] at hu
      exact hnc _ y u hk hu)
   (fun u hu=>(List.mem_append.1 hu).elim (holds1 u) (hnews1 u)) _ (by rw [hlen2];exact⟨hge,hgm⟩) hsize rfl hH2 hoth h1 h2
  rw [hlen2] at hfin;rw [hlen2];exact hfin
 split at h
 · -- nobody has room
   rename_i sz xs;split at h
   case isFalse=>cases h
   rename_i hc
   obtain⟨hsz,hby,hfit,hzf⟩:=hc
   simp only [Option.some.injEq,Prod.mk.injEq] at h
   obtain⟨rfl,rfl⟩:=h
   cases hs with | p hp =>
   have hshape : ∃ base,vs = .slice base xs.length xs.length∧(base=none → xs=[]):=by
    cases hp with
    | emp _ _ a cap h hc=>exact⟨a,by rw [h rfl];rfl,fun _=>rfl⟩
    | sl fl sz xs g off cap f hfl hcap hsz hrd hc=>exact⟨some ⟨g,off,none⟩,by rw [hfl rfl],by simp⟩
   obtain⟨base,rfl,hbase⟩:=hshape
   by_cases hy0:ys.length=0
   · have hy:ys=[]:=List.eq_nil_of_length_eq_zero hy0;subst hy;have hnn:news=[]:=List.eq_nil_of_length_eq_zero (by simpa using hnl);subst hnn
     obtain⟨h1,h2⟩:=zaa (G:=G) (σ:=σ) (H:=H) (w:=w) hr (w':=w) (Nat.le_refl _) (fun _ _=>rfl) rfl rfl none (by simp)
     have hrun:=hroomR base xs.length xs.length hby (by simp)
     refine⟨.slice base xs.length xs.length,w,_,?_,.sl ?_ ⟨by simp [Hp.n_new],fun k0 d hk0 => ?_⟩,h1,h2⟩
     · rw [hrun];cases base<;>simp [storeCells]
     · have hp':=hp.mono h2.cell;rw [List.append_nil]
       cases hp' with
       | emp _ _ a cap h hc=>exact .emp _ _ _ _ (by simp) (by simp)
       | sl fl sz xs g off cap f hfl hcap hsz' hrd hc =>
        have : ∀ x∈xs,x.cells.length=P.cellsOf e:=by
         rcases hsz with rfl | hsz
         · exact hsz'
         · simp at hsz;subst hsz;simp
        refine .sl false _ xs g off xs.length f (by simp) ⟨Nat.le_refl _,by have:=hfl rfl;omega⟩ this (fun k hk => ?_) hc
        rcases hsz with rfl | hsz
        · exact hrd k hk
        · simp at hsz;subst hsz;simp at hk
     · simp [Hp.f_new] at hk0
       exact⟨by omega,fun _ => .inl ⟨base,xs.length,rfl,by simp [Gh.withT]⟩⟩
   · exact grow true sz xs base xs.length hp hsz hby hfit hzf (by omega) H.n 0 (H.new (.tail 0)) (by simp [Hp.f_new]) (fun b hb=>by simp [Hp.f_new,hb]) (fun w' r a1 a2 a3 a4 a5 a6 =>
      zaa hr a1 a2 a3 a4 (some r) (fun g o s hh=>by cases hh;exact⟨by simp only at a5;omega,a6⟩))
 · -- the tail's holder
   rename_i α k sz xs;split at h
   case h_2=>cases h
   rename_i k' hα;split at h
   case isFalse=>cases h
   rename_i hc
   obtain⟨rfl,hsz,hby,hfit,hzf⟩:=hc
   simp only [Option.some.injEq,Prod.mk.injEq] at h
   obtain⟨rfl,rfl⟩:=h
   cases hs with | sl hp htl =>
   obtain⟨hαn,htl⟩:=htl
   obtain⟨_,htl⟩:=htl k' _ hα
   have htl:=htl rfl
   have hshape : ∃ base cap,vs = .slice base xs.length cap∧xs.length≤cap:=by
    cases hp with
    | emp _ _ a cap h hc=>exact⟨a,cap,rfl,Nat.zero_le _⟩
    | sl fl sz xs g off cap f hfl hcap hsz hrd hc=>exact⟨some ⟨g,off,none⟩,cap,rfl,hcap.1⟩
   obtain⟨base,cap,rfl,hcapl⟩:=hshape
   by_cases hroom:xs.length+ys.length≤cap
   · have hrun:=hroomR base xs.length cap hby hroom
     rcases htl with ⟨a0,n0,hv,hσ⟩ | ⟨g,off,len,cap',s,hv,hσ,hle⟩
     · cases hv;have hy:ys=[]:=List.eq_nil_of_length_eq_zero (by omega);subst hy;have hnn:news=[]:=List.eq_nil_of_length_eq_zero (by simpa using hnl);subst hnn
       obtain⟨h1,h2⟩:=zdu (G:=G) hr hα (w':=w) (Nat.le_refl _) (fun _ _ _=>rfl) (fun _ _ _ _ _ _ _ h=>h) rfl rfl none (by simp)
       refine⟨.slice base xs.length xs.length,w,_,?_,.sl ?_ ⟨by simp [Hp.n_set];exact hαn,fun k0 d hk0 => ?_⟩,h1,h2⟩
       · rw [hrun];cases base<;>simp [storeCells]
       · have hp':=hp.mono h2.cell;rw [List.append_nil]
         cases hp' with
         | emp _ _ a cap h hc=>exact .emp _ _ _ _ (by simp) (by simp)
         | sl fl sz xs g off cap f hfl hcap hsz' hrd hc =>
          subst hsz;exact .sl false _ xs g off _ f (by simp) hcap hsz' hrd hc
       · simp [Hp.f_set,hαn] at hk0
         exact⟨by omega,fun _ => .inl ⟨base,xs.length,rfl,by simp [Gh.withT]⟩⟩
     · cases hv
       obtain⟨c,ec,hg,hcs⟩:=hr.tail α k' _ g _ s hα hσ
       obtain⟨_,f,hfl,hcap,hsz',hrd,hc⟩:=hp.sl_inv
       have hszE : ∀ y∈xs,y.cells.length=P.cellsOf e:=hsz ▸ hsz';subst hsz
       · have hstore:=run_storeCells_at P g (off+xs.length*P.cellsOf e) ec news 0 c w hg (by
          have:(xs.length+ys.length)*P.cellsOf e≤cap*P.cellsOf e:=Nat.mul_le_mul_right _ hroom
          rw [Nat.add_mul] at this
          rw [hnl,hcs];omega) hnews1
         simp only [Nat.add_zero] at hstore;simp only [zE,hstore,Result.andThen_ok] at hrun
         have hcl:off+xs.length*P.cellsOf e+news.length≤c.size:=by
          have:(xs.length+ys.length)*P.cellsOf e≤cap*P.cellsOf e:=Nat.mul_le_mul_right _ hroom
          rw [Nat.add_mul] at this;rw [hnl,hcs];omega
         generalize hc':(c.toList.take (off+xs.length*P.cellsOf e)++news++c.toList.drop (off+xs.length*P.cellsOf e+news.length)).toArray=c' at *
         have hself:(w.setRow g c').heap[g]? = some (.cells c' ec (0,0)):=by simp [World.setRow,Array.getElem?_modify,hg]
         have hother : ∀ g',g'≠g → (w.setRow g c').heap[g']? = w.heap[g']? := fun g' hg'=>by simp [World.setRow,Array.getElem?_modify,Ne.symm hg']
         have hc's:c'.size=c.size:=by rw [←hc'];simp;omega
         have hlow : ∀ i,i < off+xs.length*P.cellsOf e → c'[i]? = c[i]? := fun i hi=>by
          rw [←hc',List.getElem?_toArray,List.append_assoc,List.getElem?_append_left (by simp;omega),List.getElem?_take,if_pos hi];simp
         have hmid : ∀ i,i < news.length → c'[off+xs.length*P.cellsOf e+i]? = news[i]? := fun i hi=>by
          have hm:min (off+xs.length*P.cellsOf e) c.toList.length=off+xs.length*P.cellsOf e:=by simp;omega
          rw [←hc',List.getElem?_toArray,List.append_assoc,List.getElem?_append_right (by simp;omega),List.getElem?_append_left (by simp only [List.length_take,hm];omega)];simp only [List.length_take,hm]
          congr 1;omega
         obtain⟨h1,h2⟩:=zdu (G:=G) hr hα (w':=w.setRow g c') (by simp) (fun g' hg' hn'=>hother g' (fun hh=>hn' _ _ (hh ▸ hσ))) (fun g' o s' hh i v hi hv=>by
          rw [hσ] at hh;cases hh;simp only [World.cell?,hg] at hv
          simp only [World.cell?,hself,hlow i hi];exact hv) rfl rfl (some (g,off+(xs++ys).length*P.cellsOf e,s)) (fun g' o s' hh=>by
          cases hh
          exact⟨.inr ⟨_,hσ,by rw [List.length_append,Nat.add_mul];omega⟩,c',ec,hself,by rw [hc's,hcs]⟩)
         refine⟨_,_,_,hrun,?_,h1,h2⟩
         have hlen2:(xs++ys).length=xs.length+ys.length:=List.length_append
         have hst : ∀ o,o < off+(xs++ys).length*P.cellsOf e → Stable (σ.withT α (some (g,off+(xs++ys).length*P.cellsOf e,s))) (H.set α (.tail (k'+1))) g o:=fun o ho=>by
          refine⟨fun b cs hb => ?_,fun b j d o' s' hb ht' => ?_⟩
          · rw [Hp.f_set] at hb;split at hb
            · cases hb
            · exact hr.ct b α cs k' _ g _ s hb hα hσ
          · by_cases hba:b=α
            · simp only [Gh.withT,hba,if_true,Option.some.injEq,Prod.mk.injEq] at ht';omega
            · rw [Hp.f_set_ne _ _ _ _ hba] at hb;simp only [Gh.withT,hba,if_false] at ht';exact absurd (hr.tt b α j d k' _ g o' s' _ s hb hα ht' hσ) hba
         have hcell : ∀ k,k < (xs++ys).length*P.cellsOf e → (w.setRow g c').cell? ⟨g,off+k,none⟩=some (if k < xs.length*P.cellsOf e then f k else news.getD (k - xs.length*P.cellsOf e) undef) ∧
          (if k < xs.length*P.cellsOf e then f k else news.getD (k - xs.length*P.cellsOf e) undef).oneCell'=true:=fun k hk=>by
          rw [hlen2,Nat.add_mul] at hk;simp only [World.cell?,hself];by_cases hlt:k < xs.length*P.cellsOf e
          · rw [if_pos hlt];have h3:=hrd k hlt;simp only [World.cell?,hg] at h3
            exact⟨by rw [hlow _ (by omega)];exact h3.2.1,h3.2.2⟩
          · rw [if_neg hlt]
            have h4:k - xs.length*P.cellsOf e < news.length:=by omega
            have h5:=hmid (k - xs.length*P.cellsOf e) h4;rw [show off+xs.length*P.cellsOf e+(k - xs.length*P.cellsOf e)=off+k by omega] at h5;simp only [List.getD_eq_getElem?_getD,List.getElem?_eq_getElem h4,Option.getD_some]
            exact⟨by simp only [Option.isSome_none,Bool.false_eq_true,if_false];rw [h5,List.getElem?_eq_getElem h4],hnews1 _ (by simp)⟩
         rw [←hlen2];refine .sl (.sl false _ (xs++ys) g off cap _ (by simp) ⟨by omega,hcap.2⟩ (fun y hy=>(List.mem_append.1 hy).elim (hszE y) (hnsz y)) (fun k hk=>⟨hst _ (by omega),hcell k hk⟩) (fun k y hk => ?_)) ⟨by simp [Hp.n_set];exact hαn,fun k0 d hk0 => ?_⟩
         · rw [zdz] at hk;by_cases hlt:k < (flat xs).length
           · rw [List.getElem?_append_left hlt] at hk;rw [zV hszE] at hlt;rw [if_pos hlt];exact (hc k y hk).mono h2.cell
           · rw [List.getElem?_append_right (by omega)] at hk;have hlt':=(List.getElem?_eq_some_iff.1 hk).1;rw [zV hnsz,zV hszE] at hlt';rw [zV hszE] at hlt hk;rw [if_neg hlt]
             have h4:k - xs.length*P.cellsOf e < news.length:=by omega
             simp only [List.getD_eq_getElem?_getD,List.getElem?_eq_getElem h4,Option.getD_some];exact (hnc _ y _ hk (by simp)).1.mono h2.cell
         · simp [Hp.f_set,hαn] at hk0
           exact⟨by omega,fun _ => .inr ⟨g,off,_,cap,s,rfl,by simp [Gh.withT],hle⟩⟩
   · exact grow false sz xs base cap hp (.inl hsz) hby hfit hzf (by omega) α (k'+1) (H.set α (.tail (k'+1))) (by simp [Hp.f_set,hαn]) (fun b hb=>by simp [Hp.f_set,hb]) (fun w' r a1 a2 a3 a4 a5 a6 =>
      zdu hr hα a1 (fun g hg _=>a2 g hg) (fun g o s hh i v hi hv=>by
       have hlt:g < w.heap.size:=World.block_lt_of_cell? (a:=⟨g,i,none⟩) w hv
       simpa [World.cell?,a2 g hlt] using hv) a3 a4 (some r) (fun g o s hh=>by cases hh;exact⟨.inl (by simp only at a5;omega),a6⟩))
 · rename_i b len sz;split at h
   case h_2=>cases h
   rename_i cs hb;split at h
   case isFalse=>cases h
   rename_i hc
   obtain⟨hcl,hsz,hs0,hby,hfit,hzf⟩:=hc
   simp only [Option.some.injEq,Prod.mk.injEq] at h
   obtain⟨rfl,rfl⟩:=h
   cases hs with | vr hs =>
   exact zkf hr ht hu hys hx hb hcl hsz hs0 hby hfit hzf hs
 · cases h
end append

end Go.AL

namespace Go.AL
open Go

def zbQ (n:Nat) (ps:List PV):List PV:=(List.replicate n ps).flatten

theorem ztk (n:Nat) (p:PV):zbQ n [p]=List.replicate n p:=by
 unfold zbQ
 induction n with
 | zero=>rfl
 | succ n ih=>simp [List.replicate_succ,ih]

theorem zed (n:Nat) (ps:List PV):(zbQ n ps).length=n*ps.length:=by simp [zbQ]

theorem zfP : ∀ (n:Nat) (ps:List PV) (i:Nat),i < n*ps.length → (zbQ n ps)[i]? = ps[i % ps.length]?
 | 0,ps,i,h=>by simp at h
 | n+1,ps,i,h=>by
  simp only [zbQ,List.replicate_succ,List.flatten_cons];by_cases hi:i < ps.length
  · rw [List.getElem?_append_left hi,Nat.mod_eq_of_lt hi]
  · rw [List.getElem?_append_right (by omega)]
    have hlt:i - ps.length < n*ps.length:=by rw [Nat.succ_mul] at h;omega
    have:=zfP n ps (i - ps.length) hlt
    simp only [zbQ] at this;rw [this]
    congr 1
    have hle:ps.length≤i:=by omega
    exact (Nat.mod_eq_sub_mod hle).symm

def zdk (P:Program) (H:Hp) (t:TypeId) (l c:AV):Option (AV × Hp) :=
 match P.underlying t,l.int?,c.int? with
 | some (.slice e),some n,some m =>
  match zU P e with
  | some ps=>if 0≤n∧n≤m∧m*P.bytesOf e≤140737488355328∧m≤9223372036854775807∧ps.length=P.cellsOf e∧0 < P.cellsOf e then
   some (.ref H.n 0 n.toNat (P.cellsOf e),H.new (.cells ((zbQ n.toNat ps).map .p))) else none
  | none=>none
 | _,_,_=>none

def zdA (P:Program) (H:Hp) (t:TypeId) (l c:AV):Option (AV × Hp) :=
 match P.underlying t,l.int?,c.int? with
 | some (.slice e),some n,some m =>
  if n=0∧0≤m∧m*P.bytesOf e≤140737488355328∧m≤9223372036854775807∧yE P e then some (.sl H.n 0 (P.cellsOf e) [],H.new (.tail 0)) else none
 | _,_,_=>none

section make
variable {P:Program} {G:Globs} {σ:Gh} {H:Hp} {w:World}

theorem zep {z:Array Value} {n i:Nat} (h:i < n) (hz:0 < z.size):(madeCells z n)[i]? = z[i % z.size]? := by
 have hm:i % z.size < z.size:=Nat.mod_lt _ hz;simp [madeCells,h,hm]

theorem ztl {t:TypeId} {l c y:AV} {H':Hp} {vl vc:Value} (hr:Rel G σ H w) (h:zdk P H t l c=some (y,H')) (hl:RelV σ H w l vl) (hc:RelV σ H w c vc) :
 ∃ v w' σ',(Instr.makeSlice t vl vc).run P w = .ok v w'∧RelV σ' H' w' y v∧Rel G σ' H' w'∧Ev H.n σ H w σ' H' w':=by
 unfold zdk at h;split at h
 case h_2=>cases h
 rename_i e n m hu hn hm;split at h
 case h_2=>cases h
 rename_i ps hps;split at h
 case isFalse=>cases h
 rename_i hcond
 obtain⟨h0,hnm,hb,h63,hpl,hpos⟩:=hcond
 simp only [Option.some.injEq,Prod.mk.injEq] at h
 obtain⟨rfl,rfl⟩:=h
 obtain⟨kl,rfl⟩:=AV.int?_inv hn hl
 obtain⟨kc,rfl⟩:=AV.int?_inv hm hc
 obtain⟨z,_,hz,hzs,hzz⟩:=yy (w:=w) (S:=Stable σ H) hps
 obtain⟨i,hi⟩ : ∃ i,P.info? e=some i:=by
  cases hh:P.info? e with
  | none=>simp [hh] at hz
  | some i=>exact⟨i,rfl⟩
 have hiz:i.zero=some z:=by simpa [hi] using hz
 have his:i.size=P.cellsOf e:=by simp [Program.cellsOf,hi]
 have hib:(i.bytes:Int)=P.bytesOf e:=by simp [Program.bytesOf,hi]
 have hrun:=run_make (P:=P) w t e i z hu hi hiz kl kc n m h0 hnm (by rw [hib,Int.mul_comm];omega) h63;have hml:n.toNat*P.cellsOf e≤m.toNat*P.cellsOf e:=Nat.mul_le_mul_right _ (by omega)
 have hzpos:0 < z.cells.size:=by omega
 obtain⟨h1,h2⟩:=zgS hr (madeCells z.cells (m.toNat*i.size)) e ((zbQ n.toNat ps).map .p) (by simp [size_madeCells,zed,his,hpl];exact hml) (fun j y hy=>by
  simp only [List.getElem?_map,Option.map_eq_some_iff] at hy
  obtain⟨p,hp,rfl⟩:=hy
  have hj:j < n.toNat*ps.length:=by rw [←zed];exact (List.getElem?_eq_some_iff.1 hp).1
  rw [zfP _ _ _ hj] at hp
  have hjm:j < m.toNat*i.size:=by rw [his,←hpl];rw [hpl] at hj ⊢;omega
  have hmod:j % z.cells.size < z.cells.size:=Nat.mod_lt _ hzpos
  refine⟨z.cells[j % z.cells.size],by rw [zep hjm hzpos];simp [hmod],?_⟩
  rw [←hzs] at hp
  have:=hzz _ p z.cells[j % z.cells.size] hp (by simp [hmod])
  exact⟨.p this.1,this.2⟩)
 refine⟨_,_,_,hrun,?_,h1,h2⟩
 exact .ref _ ⟨_,_,rfl⟩ (by simp [Hp.n_new]) ⟨by omega,by unfold maxLen;omega⟩ (fun _=>by simp [Gh.withC])

theorem zoT {t:TypeId} {l c y:AV} {H':Hp} {vl vc:Value} (hr:Rel G σ H w) (h:zdA P H t l c=some (y,H')) (hl:RelV σ H w l vl) (hc:RelV σ H w c vc) :
 ∃ v w' σ',(Instr.makeSlice t vl vc).run P w = .ok v w'∧RelV σ' H' w' y v∧Rel G σ' H' w'∧Ev H.n σ H w σ' H' w':=by
 unfold zdA at h;split at h
 case h_2=>cases h
 rename_i e n m hu hn hm;split at h
 case isFalse=>cases h
 rename_i hcond
 obtain⟨rfl,hnm,hb,h63,hzf⟩:=hcond
 simp only [Option.some.injEq,Prod.mk.injEq] at h
 obtain⟨rfl,rfl⟩:=h
 obtain⟨kl,rfl⟩:=AV.int?_inv hn hl
 obtain⟨kc,rfl⟩:=AV.int?_inv hm hc
 have hps : ∃ ps,zU P e=some ps:=by
  unfold yE at hzf;split at hzf
  · rename_i ps hps;exact⟨ps,hps⟩
  · cases hzf
 obtain⟨ps,hps⟩:=hps
 obtain⟨z,_,hz,hzs,hzz⟩:=yy (w:=w) (S:=Stable σ H) hps
 obtain⟨i,hi⟩ : ∃ i,P.info? e=some i:=by
  cases hh:P.info? e with
  | none=>simp [hh] at hz
  | some i=>exact⟨i,rfl⟩
 have hiz:i.zero=some z:=by simpa [hi] using hz
 have his:i.size=P.cellsOf e:=by simp [Program.cellsOf,hi]
 have hib:(i.bytes:Int)=P.bytesOf e:=by simp [Program.bytesOf,hi]
 have hrun:=run_make (P:=P) w t e i z hu hi hiz kl kc 0 m (Int.le_refl _) hnm (by rw [hib,Int.mul_comm];omega) h63
 obtain⟨h1,h2⟩:=zaa (G:=G) (σ:=σ) (H:=H) (w:=w) hr (w':=w.alloc (.cells (madeCells z.cells (m.toNat*i.size)) e)) (by simp) (fun g hg=>heap_alloc_old w _ hg) rfl rfl
  (some (w.heap.size,0,m.toNat*P.cellsOf e)) (fun g o s hh=>by cases hh;exact⟨Nat.le_refl _,_,e,heap_alloc_new w _,by rw [size_madeCells,his]⟩)
 refine⟨_,_,_,hrun,.sl ?_ ⟨by simp [Hp.n_new],fun k0 d hk0 => ?_⟩,h1,h2⟩
 · exact .sl false _ [] _ 0 _ (fun _=>undef) (by simp) ⟨by simp,by unfold maxLen;omega⟩ (by simp) (by simp) (by simp [flat])
 · simp [Hp.f_new] at hk0
   exact⟨by omega,fun _ => .inr ⟨w.heap.size,0,0,m.toNat,m.toNat*P.cellsOf e,by simp,by simp [Gh.withT],by omega⟩⟩
end make

def yA (place:Nat → Option (Nat × Nat)):List AV → List (Nat × AV) → Option (List AV)
 | cells,[]=>some cells
 | cells,(i,x) :: rest =>
  match place i,zh x with
  | some (off,size),some cs=>if cs.length=size∧off+size≤cells.length then yA place (setAt cells off cs) rest else none
  | _,_=>none

def zba (P:Program) (fields:Array Field) (i:Nat):Option (Nat × Nat):=(fields[i]?).bind fun f=>if (P.info? f.type).isSome then some (f.offset,P.cellsOf f.type) else none

def yf (P:Program) (t:TypeId) (parts:List (Nat × AV)):Option AV :=
 match P.underlying t,zU P t with
 | some (.struct fields),some ps=>if fields.all fun f=>(P.info? f.type).isSome then (yA (zba P fields) (ps.map .p) parts).map zu else none
 | some (.array _ e),some ps=>if (P.info? e).isSome then (yA (fun i=>some (i*P.cellsOf e,P.cellsOf e)) (ps.map .p) parts).map zu else none
 | _,_=>none

section build
variable {P:Program} {G:Globs} {σ:Gh} {H:Hp} {w:World}

def zoU (σ:Gh) (H:Hp) (w:World) (cs:List AV) (vs:Array Value):Prop:=vs.size=cs.length ∧ ∀ (i:Nat) x v,cs[i]? = some x → vs[i]? = some v → RelC σ H w x v

theorem zhe {place:Nat → Option (Nat × Nat)} : ∀ {parts:List (Nat × AV)} {vparts:List (Nat × Value)} {cells:List AV} {vcells:Array Value} {r:List AV},yA place cells parts=some r →
 zoU σ H w cells vcells → vparts.length=parts.length → (∀ (k:Nat) i x j v,parts[k]? = some (i,x) → vparts[k]? = some (j,v) → j=i∧RelV σ H w x v) → ∃ vr,Instr.fill place vcells vparts=some vr∧zoU σ H w r vr
 | [],vparts,cells,vcells,r,h,hrow,hl,_=>by
  simp only [yA,Option.some.injEq] at h;subst h
  have:vparts=[]:=List.eq_nil_of_length_eq_zero hl
  subst this
  exact⟨vcells,rfl,hrow⟩
 | (i,x) :: rest,vparts,cells,vcells,r,h,hrow,hl,hp=>by
  cases vparts with
  | nil=>simp at hl
  | cons jv vrest =>
   obtain⟨j,v⟩:=jv
   obtain⟨rfl,hx⟩:=hp 0 i x j v (by simp) (by simp)
   simp only [yA] at h;split at h
   case h_2=>cases h
   rename_i off size cs hpl hcs;split at h
   case isFalse=>cases h
   rename_i hc
   obtain⟨hcl,hle⟩:=hc
   obtain⟨hs,hcc⟩:=zbO hcs hx
   have hfold:=Great.foldl_set off v.cells.toList 0 vcells
   have heq:v.cells.zipIdx.foldl (fun cs (x:Value × Nat)=>cs.setIfInBounds (off+x.2) x.1) vcells=v.cells.toList.zipIdx.foldl (fun cs (x:Value × Nat)=>cs.setIfInBounds (off+x.2) x.1) vcells:=by
    rw [←Array.foldl_toList,Array.toList_zipIdx]
   obtain⟨hf1,hf2⟩:=hfold
   rw [←heq] at hf1 hf2
   obtain⟨vr,hvr,hrr⟩:=zhe (parts:=rest) (vparts:=vrest) (vcells:=v.cells.zipIdx.foldl (fun cs (x:Value × Nat)=>cs.setIfInBounds (off+x.2) x.1) vcells) h
    ⟨by rw [hf1,zec _ _ _ (by omega),hrow.1],fun k y u hy hu=>by
     rw [hf2 k] at hu;rw [za9 _ _ _ (by omega)] at hy;have hvs:=hrow.1;simp only [Nat.add_zero,Array.length_toList,Array.getElem?_toList] at hu;by_cases h1:k < off
     · rw [if_neg (by omega)] at hu;rw [List.append_assoc,List.getElem?_append_left (by simp;omega),List.getElem?_take,if_pos h1] at hy;exact hrow.2 k y u hy hu
     · have hm:min off cells.length=off:=by omega
       by_cases h2:k < off+cs.length
       · rw [if_pos ⟨by omega,by omega,by omega⟩] at hu;rw [List.append_assoc,List.getElem?_append_right (by simp;omega),List.getElem?_append_left (by simp only [List.length_take,hm];omega)] at hy;simp only [List.length_take,hm] at hy;exact hcc _ y u hy hu
       · rw [if_neg (by omega)] at hu;rw [List.getElem?_append_right (by simp;omega)] at hy;simp only [List.length_append,List.length_take,hm,List.getElem?_drop] at hy;rw [show off+cs.length+(k - (off+cs.length))=k by omega] at hy
         exact hrow.2 k y u hy hu⟩
    (by simpa using hl) (fun k i x j v h1 h2=>hp (k+1) i x j v (by simpa using h1) (by simpa using h2))
   refine⟨vr,?_,hrr⟩
   have hvs:=hrow.1;simp only [Instr.fill,hpl];rw [if_neg (by simp;omega)];exact hvr

theorem zoV {t:TypeId} {parts:List (Nat × AV)} {vparts:Array (Nat × Value)} {y:AV} (h:yf P t parts=some y)
 (hl:vparts.size=parts.length) (hp : ∀ (k:Nat) i x j v,parts[k]? = some (i,x) → vparts[k]? = some (j,v) → j=i∧RelV σ H w x v) :
 ∃ v,(Instr.build t vparts).run P w = .ok v w∧RelV σ H w y v:=by
 have hp' : ∀ (k:Nat) i x j v,parts[k]? = some (i,x) → vparts.toList[k]? = some (j,v) → j=i∧RelV σ H w x v:=fun k i x j v h1 h2=>hp k i x j v h1 (by simpa using h2)
 unfold yf at h;split at h
 case h_3=>cases h
 · rename_i fields ps hu hz;split at h
   case isFalse=>cases h
   rename_i hall
   obtain⟨z,hz1,_,hzs,hzz⟩:=yy (w:=w) (S:=Stable σ H) hz
   cases hf:yA (zba P fields) (ps.map .p) parts with
   | none=>simp [hf] at h
   | some r =>
    simp only [hf,Option.map_some,Option.some.injEq] at h;subst h
    obtain⟨vr,hvr,hrr⟩:=zhe (σ:=σ) (H:=H) (w:=w) (vparts:=vparts.toList) (vcells:=z.cells) hf ⟨by simp [hzs],fun k x u hx hu=>by
     simp only [List.getElem?_map,Option.map_eq_some_iff] at hx
     obtain⟨p,hp,rfl⟩:=hx
     have:=hzz k p u hp hu
     exact⟨.p this.1,this.2⟩⟩ (by simp [hl]) hp'
    have hmap:(fields.mapM fun f=>do pure (f.offset,←sizeOf f.type):Sem (Array (Nat × Nat))).run P w = .ok (fields.map fun f=>(f.offset,P.cellsOf f.type)) w:=by
     have key : ∀ (l:List Field),(∀ f∈l,(P.info? f.type).isSome=true) → (l.mapM fun f=>do pure (f.offset,←sizeOf f.type):Sem (List (Nat × Nat))).run P w = .ok (l.map fun f=>(f.offset,P.cellsOf f.type)) w:=by
      intro l
      induction l with
      | nil=>intro _;simp
      | cons f l ih =>
       intro hl
       obtain⟨i,hi⟩:=Option.isSome_iff_exists.1 (hl f (by simp))
       have hs:(sizeOf f.type).run P w = .ok (P.cellsOf f.type) w:=by simp [sizeOf,typeInfo,hi,Program.cellsOf]
       simp only [List.mapM_cons,Sem.run_bind,hs,Result.andThen_ok,Sem.run_pure,ih (fun g hg=>hl g (by simp [hg])),List.map_cons]
     have hk:=key fields.toList (fun f hf=>by
      have:=Array.all_eq_true_iff_forall_mem.1 hall f (by simpa using hf)
      exact this)
     rw [Array.mapM_eq_mapM_toList,Sem.run_map,hk,Result.andThen_ok,←Array.toList_map,Array.toArray_toList]
    have hplace:(fun i=>(fields.map fun f=>(f.offset,P.cellsOf f.type))[i]?)=zba P fields:=by
     funext i
     simp only [Array.getElem?_map,zba]
     cases hfi:fields[i]? with
     | none=>rfl
     | some f =>
      have:=Array.all_eq_true_iff_forall_mem.1 hall f (Array.mem_of_getElem? hfi)
      simp [this]
    refine⟨.agg vr,?_,zcq hrr.1 (fun i v hv => ?_) (fun i x v hx hv=>(hrr.2 i x v hx hv).1)⟩
    · simp only [Instr.build,Sem.run_bind,hz1,Result.andThen_ok,run_underlying hu,hmap];rw [hplace,hvr];rfl
    · have hlt:i < r.length:=by rw [←hrr.1];exact (Array.getElem?_eq_some_iff.1 hv).1
      exact (hrr.2 i r[i] v (by simp) hv).2
 · rename_i n e ps hu hz;split at h
   case isFalse=>cases h
   rename_i hsome
   obtain⟨ie,hie⟩:=Option.isSome_iff_exists.1 hsome
   obtain⟨z,hz1,_,hzs,hzz⟩:=yy (w:=w) (S:=Stable σ H) hz
   cases hf:yA (fun i=>some (i*P.cellsOf e,P.cellsOf e)) (ps.map .p) parts with
   | none=>simp [hf] at h
   | some r =>
    simp only [hf,Option.map_some,Option.some.injEq] at h;subst h
    obtain⟨vr,hvr,hrr⟩:=zhe (σ:=σ) (H:=H) (w:=w) (vparts:=vparts.toList) (vcells:=z.cells) hf ⟨by simp [hzs],fun k x u hx hu=>by
     simp only [List.getElem?_map,Option.map_eq_some_iff] at hx
     obtain⟨p,hp,rfl⟩:=hx
     have:=hzz k p u hp hu
     exact⟨.p this.1,this.2⟩⟩ (by simp [hl]) hp'
    have hs:(sizeOf e).run P w = .ok (P.cellsOf e) w:=by simp [sizeOf,typeInfo,hie,Program.cellsOf]
    refine⟨.agg vr,?_,zcq hrr.1 (fun i v hv => ?_) (fun i x v hx hv=>(hrr.2 i x v hx hv).1)⟩
    · simp only [Instr.build,Sem.run_bind,hz1,Result.andThen_ok,run_underlying hu,hs];rw [hvr];rfl
    · have hlt:i < r.length:=by rw [←hrr.1];exact (Array.getElem?_eq_some_iff.1 hv).1
      exact (hrr.2 i r[i] v (by simp) hv).2
end build

end Go.AL

namespace Go.AL
open Go

def PV.weak1:PV → PV
 | .sl _ sz xs => .sl false sz xs
 | x=>x

def PV.weak:PV → PV
 | .agg cs => .agg (cs.map PV.weak1)
 | x=>x.weak1

def AV.weak:AV → AV
 | .p x => .p x.weak
 | .sl _ _ sz xs => .p (.sl false sz xs)
 | x=>x

theorem RelP.weak1 {w S} {x:PV} {v:Value} (h:RelP w S x v):RelP w S x.weak1 v:=by
 cases h with
 | s v h1=>exact .s v h1
 | agg xs vs hl h1 h=>exact .agg xs vs hl h1 h
 | emp _ _ a cap h hc=>exact .emp _ _ a cap (by simp) hc
 | sl fl sz xs g off cap f hfl hcap hsz hrd hc=>exact .sl false sz xs g off cap f (by simp) hcap hsz hrd hc

theorem RelP.weak {w S} {x:PV} {v:Value} (h:RelP w S x v):RelP w S x.weak v:=by
 cases h with
 | s v h1=>exact .s v h1
 | agg xs vs hl h1 h =>
  refine .agg _ vs (by simp [hl]) h1 fun i x v hx hv => ?_
  simp only [List.getElem?_map,Option.map_eq_some_iff] at hx
  obtain⟨y,hy,rfl⟩:=hx
  exact (h i y v hy hv).weak1
 | emp _ _ a cap h hc=>exact .emp _ _ a cap (by simp) hc
 | sl fl sz xs g off cap f hfl hcap hsz hrd hc=>exact .sl false sz xs g off cap f (by simp) hcap hsz hrd hc

theorem RelV.weak {σ H w} {x:AV} {v:Value} (h:RelV σ H w x v):RelV σ H w x.weak v:=by
 cases h with
 | p h=>exact .p h.weak
 | sl h ht=>exact .p h
 | ref a b c d e=>exact .ref a b c d e
 | ptr h=>exact .ptr h
 | ip a b c=>exact .ip a b c
 | clo a b c d e f=>exact .clo a b c d e f
 | tup a b c=>exact .tup a b c
 | agg a b c d=>exact .agg a b c d
 | yld h=>exact .yld h
 | mp h=>exact .mp h
 | vr h=>exact .vr h
 | vp a h=>exact .vp a h
 | top v=>exact .top v

theorem PV.weak_cells (x:PV):x.weak.cells.length=x.cells.length:=by
 cases x<;>simp [PV.weak,PV.weak1,PV.cells]

def yI:List AV → Option (List AV)
 | []=>some []
 | x :: xs=>match zh x,yI xs with
  | some a,some b=>some (a++b)
  | _,_=>none

def zaB (P:Program) (H:Hp) (t:TypeId) (n:Nat) (parts:List (Nat × AV)):Option (AV × Hp) :=
 match P.underlying t with
 | some (.slice e) =>
  if yE P e∧0 < P.cellsOf e∧n*P.cellsOf e≤16777216∧parts.map (·.1)=List.range n then
   match pvs? (parts.map (·.2)) with
   | some xs=>if xs.all fun x=>x.cells.length == P.cellsOf e then some (.p (.sl true (P.cellsOf e) (xs.map PV.weak)),H) else none
   | none =>
    match yI (parts.map (·.2)) with
    | some cs=>if parts.all fun x=>(zh x.2).any fun a=>a.length == P.cellsOf e then some (.ref H.n 0 n (P.cellsOf e),H.new (.cells cs)) else none
    | none=>none
  else none
 | _=>none

def yh (asRow:Bool) (P:Program) (H:Hp) (t:TypeId) (n:Nat) (parts:List (Nat × AV)):Option (AV × Hp) :=
 match P.underlying t with
 | some (.slice e) =>
  if yE P e∧0 < P.cellsOf e∧n*P.cellsOf e≤16777216∧parts.map (·.1)=List.range n then
   match (if asRow then none else pvs? (parts.map (·.2))) with
   | some xs=>if xs.all fun x=>x.cells.length == P.cellsOf e then some (.p (.sl true (P.cellsOf e) (xs.map PV.weak)),H) else none
   | none =>
    match yI (parts.map (·.2)) with
    | some cs=>if parts.all fun x=>(zh x.2).any fun a=>a.length == P.cellsOf e then some (.ref H.n 0 n (P.cellsOf e),H.new (.cells cs)) else none
    | none=>none
  else none
 | _=>none

theorem zhf {P:Program} {H:Hp} {t:TypeId} {n:Nat} {parts:List (Nat × AV)}:zaB P H t n parts=yh false P H t n parts:=rfl
section build
variable {P:Program} {G:Globs} {σ:Gh} {H:Hp} {w:World}

theorem zbx {sz:Nat} : ∀ {xs:List AV} {cs:List AV} {vs:List Value},yI xs=some cs → vs.length=xs.length → (∀ (i:Nat) x v,xs[i]? = some x → vs[i]? = some v → RelV σ H w x v) →
 (∀ x∈xs,∃ a,zh x=some a∧a.length=sz) → (∀ v∈vs,v.cells.size=sz)∧cs.length=xs.length*sz∧zoU σ H w cs (vs.flatMap fun v=>v.cells.toList).toArray
 | [],cs,vs,h,hl,_,_=>by
  simp only [yI,Option.some.injEq] at h;subst h
  have:vs=[]:=List.eq_nil_of_length_eq_zero hl
  subst this
  exact⟨by simp,by simp,rfl,by simp⟩
 | x :: xs,cs,[],h,hl,_,_=>by simp at hl
 | x :: xs,cs,v :: vs,h,hl,hr,hs=>by
  simp only [yI] at h;split at h
  case h_2=>cases h
  rename_i a b ha hb;cases h
  obtain⟨a',ha',hal⟩:=hs x (by simp)
  rw [ha] at ha';cases ha'
  obtain⟨h1,h2,h3,h4⟩:=zbx hb (by simpa using hl) (fun i x v h1 h2=>hr (i+1) x v (by simpa using h1) (by simpa using h2)) (fun x hx=>hs x (by simp [hx]))
  obtain⟨q1,q2⟩:=zbO ha (hr 0 x v (by simp) (by simp))
  refine⟨fun u hu => ?_,by simp [h2,hal,Nat.succ_mul];omega,?_,fun i y u hy hu => ?_⟩
  · simp only [List.mem_cons] at hu
    rcases hu with rfl | hu
    · omega
    · exact h1 u hu
  · simp only [List.size_toArray,List.flatMap_cons,List.length_append,Array.length_toList] at h3 ⊢;omega
  · simp only [List.getElem?_toArray,List.flatMap_cons] at hu h4;by_cases hi:i < a.length
    · rw [List.getElem?_append_left hi] at hy;rw [List.getElem?_append_left (by simp;omega)] at hu;exact q2 i y u hy (by simpa using hu)
    · rw [List.getElem?_append_right (by omega)] at hy;rw [List.getElem?_append_right (by simp;omega)] at hu;simp only [Array.length_toList,q1] at hu;exact h4 _ y u hy hu

theorem zfQ {asRow:Bool} {t:TypeId} {n:Nat} {parts:List (Nat × AV)} {vparts:Array (Nat × Value)} {y:AV} {H':Hp} (hr:Rel G σ H w) (h:yh asRow P H t n parts=some (y,H'))
 (hl:vparts.size=parts.length) (hp : ∀ (k:Nat) i x j v,parts[k]? = some (i,x) → vparts[k]? = some (j,v) → j=i∧RelV σ H w x v) :
 ∃ v w' σ',(Instr.buildSlice t n vparts).run P w = .ok v w'∧RelV σ' H' w' y v∧Rel G σ' H' w'∧Ev H.n σ H w σ' H' w':=by
 unfold yh at h;split at h
 case h_2=>cases h
 rename_i e hu;split at h
 case isFalse=>cases h
 rename_i hc
 obtain⟨hzf,hpos,hsmall,hidx⟩:=hc
 have hps : ∃ ps,zU P e=some ps∧ps.length=P.cellsOf e:=by
  unfold yE at hzf;split at hzf
  · rename_i ps hps;exact⟨ps,hps,by simpa using hzf⟩
  · cases hzf
 obtain⟨ps,hps,hpl⟩:=hps
 obtain⟨z,hz1,hz,hzs,hzz⟩:=yy (w:=w) (S:=Stable σ H) hps
 obtain⟨ie,hie⟩ : ∃ i,P.info? e=some i:=by
  cases hh:P.info? e with
  | none=>simp [hh] at hz
  | some i=>exact⟨i,rfl⟩
 have hiz:ie.zero=some z:=by simpa [hie] using hz
 have his:ie.size=P.cellsOf e:=by simp [Program.cellsOf,hie]
 have hn:parts.length=n:=by have:=congrArg List.length hidx;simpa using this
 have hval : ∀ (i:Nat) x v,(parts.map (·.2))[i]? = some x → (vparts.toList.map (·.2))[i]? = some v → RelV σ H w x v:=fun i x v h1 h2=>by
  simp only [List.getElem?_map,Option.map_eq_some_iff] at h1 h2
  obtain⟨⟨j,x'⟩,h1,rfl⟩:=h1
  obtain⟨⟨j',v'⟩,h2,rfl⟩:=h2
  exact (hp i j x' j' v' h1 (by simpa using h2)).2
 have hzip:vparts.toList=((vparts.toList.map (·.2)).zipIdx 0).map fun x=>(x.2,x.1):=by
  apply List.ext_getElem?;intro k;simp only [List.getElem?_map,List.getElem?_zipIdx,Option.map_map,Function.comp_def,Nat.zero_add]
  cases hk:vparts.toList[k]? with
  | none=>rfl
  | some jv =>
   obtain⟨j,v⟩:=jv
   have hlt:k < parts.length:=by rw [←hl];have:=(List.getElem?_eq_some_iff.1 hk).1;simpa using this
   have h1:parts[k]? = some parts[k]:=by simp
   obtain⟨hj,_⟩:=hp k parts[k].1 parts[k].2 j v h1 (by simpa using hk)
   have h2:(parts.map (·.1))[k]? = some k:=by rw [hidx];exact List.getElem?_range (by omega)
   simp [hlt] at h2;simp [hj,h2]
 have hrun : ∀ (h1 : ∀ v∈vparts.toList.map (·.2),v.cells.size=P.cellsOf e),(Instr.buildSlice t n vparts).run P w =
  .ok (.slice (some ⟨w.heap.size,0,none⟩) n n) (w.alloc (.cells ((vparts.toList.map (·.2)).flatMap fun v=>v.cells.toList).toArray e)):=fun h1=>by
  by_cases hn0:n=0
  · subst hn0;have hp0:parts=[]:=List.eq_nil_of_length_eq_zero hn;subst hp0
    have:vparts = #[]:=by simpa using hl
    subst this;simp [Instr.buildSlice,run_underlying hu,sizeOf,typeInfo,hie,Instr.fill,newRow,Array.range_zero']
  · have hpos':0 < n*P.cellsOf e:=Nat.mul_pos (by omega) hpos;refine run_buildSlice w t e n vparts _ ie z hu hie hiz (by rw [his];omega) (by rw [his];omega) ?_;rw [his]
    have:=Great.fill_whole hpos _ ((Array.range (n*P.cellsOf e)).map (z.cells[· % z.cells.size]!)) h1 (by simp [hl,hn])
    rwa [←hzip] at this
 split at h
 · rename_i xs hxs
   cases asRow
   case true=>cases hxs
   simp only [Bool.false_eq_true,if_false] at hxs;split at h
   case isFalse=>cases h
   rename_i hall;simp only [Option.some.injEq,Prod.mk.injEq] at h
   obtain⟨rfl,rfl⟩:=h
   obtain⟨hxl,hxg⟩:=pvs?_get hxs
   have hxs' : ∀ x∈xs,x.cells.length=P.cellsOf e:=fun x hx=>by simpa using List.all_eq_true.1 hall x hx
   have hcell : ∀ x∈xs,zh (.p x)=some (x.cells.map .p):=fun x _=>by cases x<;>rfl
   have hlen:(vparts.toList.map (·.2)).length=(xs.map AV.p).length:=by
    simp only [List.length_map,Array.length_toList,hxl,hl]
   have hpr : ∀ (i:Nat) x v,(xs.map AV.p)[i]? = some x → (vparts.toList.map (·.2))[i]? = some v → RelV σ H w x v:=fun i x v h1 h2=>by
    simp only [List.getElem?_map,Option.map_eq_some_iff] at h1
    obtain⟨p,hpp,rfl⟩:=h1
    obtain⟨a,ha,hap⟩:=hxg i p hpp
    exact .p (AV.pv?_rel hap (hval i a v ha h2))
   have hcat:yI (xs.map AV.p)=some ((flat xs).map .p):=by
    have : ∀ l:List PV,yI (l.map AV.p)=some ((flat l).map .p):=by
     intro l
     induction l with
     | nil=>rfl
     | cons a l ih =>
      have ha:zh (.p a)=some (a.cells.map .p):=by cases a<;>rfl
      simp only [List.map_cons,yI,ha,ih,flat,List.flatMap_cons,List.map_append]
    exact this xs
   obtain⟨q1,q2,q3⟩:=zbx (sz:=P.cellsOf e) hcat hlen hpr (fun x hx=>by
    simp only [List.mem_map] at hx
    obtain⟨p,hpm,rfl⟩:=hx
    exact⟨_,hcell p hpm,by simp [hxs' p hpm]⟩)
   obtain⟨r1,r2⟩:=ztg hr (.cells ((vparts.toList.map (·.2)).flatMap fun v=>v.cells.toList).toArray e)
   refine⟨_,_,σ,hrun q1,?_,r1,r2⟩
   have hxn:xs.length=n:=by rw [hxl];simpa using hn
   have hmap : ∀ x∈xs.map PV.weak,x.cells.length=P.cellsOf e:=fun x hx=>by
    simp only [List.mem_map] at hx
    obtain⟨y,hy,rfl⟩:=hx
    rw [PV.weak_cells];exact hxs' y hy
   generalize hrow:((vparts.toList.map (·.2)).flatMap fun v=>v.cells.toList).toArray=row at *
   have hnlen:n=(xs.map PV.weak).length:=by simp [hxn]
   rw [hnlen];have hrow3:=q3.1
   have hcl:((flat xs).map AV.p).length=xs.length*P.cellsOf e:=by rw [List.length_map,zV hxs']
   have hst : ∀ o,Stable σ H w.heap.size o:=fun o=>⟨fun b cs hb=>by have:=hr.c_lt hb;omega,fun b k d o' s hb ht=>by have:=hr.t_lt hb ht;omega⟩
   refine .p (.sl true _ _ w.heap.size 0 _ (fun k=>row.getD k undef) (fun _=>rfl) ⟨Nat.le_refl _,?_⟩ hmap (fun k hk => ?_) (fun k y hk => ?_))
   · have:n≤n*P.cellsOf e:=Nat.le_mul_of_pos_right _ hpos
     rw [←hnlen];unfold maxLen;omega
   · have hk':k < row.size:=by simp only [List.length_map] at hk;omega
     have hx:((flat xs).map AV.p)[k]? = some (((flat xs).map AV.p)[k]'(by omega)):=by simp
     have:=q3.2 k _ row[k] hx (by simp)
     refine⟨hst _,?_,?_⟩
     · simp only [World.cell?,heap_alloc_new,Nat.zero_add];simp [hk']
     · simp [Array.getD,hk'];exact this.2
   · have hk':k < row.size:=by
      have:=(List.getElem?_eq_some_iff.1 hk).1
      rw [zV hmap] at this;simp only [List.length_map] at this;omega
     have hw : ∀ l:List PV,(∀ x∈l,x.cells.length=P.cellsOf e) → ∀ (k:Nat) y,(flat (l.map PV.weak))[k]? = some y → ∃ z,(flat l)[k]? = some z∧y=z.weak1:=by
      intro l
      induction l with
      | nil=>intro _ k y hk;simp [flat] at hk
      | cons a l ih =>
       intro hl k y hk;simp only [flat,List.map_cons,List.flatMap_cons] at hk ⊢;by_cases hka:k < a.cells.length
       · rw [List.getElem?_append_left (by rw [PV.weak_cells];exact hka)] at hk;rw [List.getElem?_append_left hka]
         cases a with
         | agg cs =>
          simp only [PV.weak,PV.cells,List.getElem?_map,Option.map_eq_some_iff] at hk
          obtain⟨z,hz,rfl⟩:=hk
          exact⟨z,hz,rfl⟩
         | s v =>
          simp only [PV.cells,List.length_singleton] at hka
          have:k=0:=by omega
          subst this;simp only [PV.weak,PV.weak1,PV.cells,List.getElem?_cons_zero,Option.some.injEq] at hk;subst hk
          exact⟨_,rfl,rfl⟩
         | sl fl sz ys =>
          simp only [PV.cells,List.length_singleton] at hka
          have:k=0:=by omega
          subst this;simp only [PV.weak,PV.weak1,PV.cells,List.getElem?_cons_zero,Option.some.injEq] at hk;subst hk
          exact⟨_,rfl,rfl⟩
       · rw [List.getElem?_append_right (by rw [PV.weak_cells];omega),PV.weak_cells] at hk;rw [List.getElem?_append_right (by omega)];exact ih (fun x hx=>hl x (by simp [hx])) _ y hk
     obtain⟨p,hpk,rfl⟩:=hw xs hxs' k y hk
     have hx:((flat xs).map AV.p)[k]? = some (.p p):=by simp [hpk]
     have:=(q3.2 k _ row[k] hx (by simp)).1
     cases this with | p this =>
     have:=this.weak1.mono r2.cell
     simpa [Array.getD,hk'] using this
 · split at h
   case h_2=>cases h
   rename_i cs hcs;split at h
   case isFalse=>cases h
   rename_i hall;simp only [Option.some.injEq,Prod.mk.injEq] at h
   obtain⟨rfl,rfl⟩:=h
   obtain⟨q1,q2,q3⟩:=zbx (sz:=P.cellsOf e) (vs:=vparts.toList.map (·.2)) hcs (by simp [hl]) hval (fun x hx=>by
    simp only [List.mem_map] at hx
    obtain⟨⟨j,p⟩,hpm,rfl⟩:=hx
    have:=List.all_eq_true.1 hall (j,p) hpm
    simp only [Option.any_eq_true,beq_iff_eq] at this
    obtain⟨a,ha,hal⟩:=this
    exact⟨a,ha,hal⟩)
   obtain⟨r1,r2⟩:=zgS hr ((vparts.toList.map (·.2)).flatMap fun v=>v.cells.toList).toArray e cs (by rw [q3.1];exact Nat.le_refl _) (fun i x hx=>by
    have hlt:i < ((vparts.toList.map (·.2)).flatMap fun v=>v.cells.toList).toArray.size:=by rw [q3.1];exact (List.getElem?_eq_some_iff.1 hx).1
    exact⟨_,by simp only [Array.getElem?_eq_getElem hlt],q3.2 i x _ hx (Array.getElem?_eq_getElem hlt)⟩)
   refine⟨_,_,_,hrun q1,?_,r1,r2⟩
   have:n≤n*P.cellsOf e:=Nat.le_mul_of_pos_right _ hpos
   exact .ref _ ⟨_,_,rfl⟩ (by simp [Hp.n_new]) ⟨Nat.le_refl _,by unfold maxLen;omega⟩ (fun _=>by simp [Gh.withC])
theorem zgB {t:TypeId} {n:Nat} {parts:List (Nat × AV)} {vparts:Array (Nat × Value)} {y:AV} {H':Hp} (hr:Rel G σ H w) (h:zaB P H t n parts=some (y,H'))
 (hl:vparts.size=parts.length) (hp : ∀ (k:Nat) i x j v,parts[k]? = some (i,x) → vparts[k]? = some (j,v) → j=i∧RelV σ H w x v) :
 ∃ v w' σ',(Instr.buildSlice t n vparts).run P w = .ok v w'∧RelV σ' H' w' y v∧Rel G σ' H' w'∧Ev H.n σ H w σ' H' w':=zfQ hr (zhf ▸ h) hl hp
end build

def zlN (P:Program) (H:Hp) (t:TypeId) (d s:AV):Option (AV × Hp) :=
 match P.underlying t,d with
 | some (.slice e),.ref b off dl sz =>
  match H.f b,zam P H e s with
  | some (.cells cs),some ys =>
   if sz=P.cellsOf e∧0 < P.cellsOf e∧off+dl*sz≤cs.length then
    some (.p (.s (.int .i64 (min ys.length dl:Nat))),H.set b (.cells (setAt cs off ((flat (ys.take dl)).map .p)))) else none
  | _,_=>none
 | _,_=>none

def zEB (P:Program) (t:TypeId) (x:AV):Option AV :=
 match P.underlying t with
 | some .string=>match x with | .p (.s (.string s))=>some (.p (.s (.int .i64 s.size))) | _=>none
 | some (.slice _) =>
  match x with
  | .p (.sl _ _ xs) | .sl _ _ _ xs=>some (.p (.s (.int .i64 xs.length)))
  | .ref _ _ len _=>some (.p (.s (.int .i64 len)))
  | .vr _ len _=>some (.p (.s (.int .i64 len)))
  | _=>none
 | some (.array n _)=>some (.p (.s (.int .i64 n)))
 | some (.pointer a)=>match P.underlying a with | some (.array n _)=>some (.p (.s (.int .i64 n))) | _=>none
 | _=>none

def zaI:List PV → Option (List UInt8)
 | []=>some []
 | .s (.int .u8 n) :: xs=>(zaI xs).map (UInt8.ofNat n.toNat :: ·)
 | _=>none

def zbJ (P:Program) (H:Hp) (s d:TypeId) (x:AV):Option AV :=
 match P.underlying s,P.underlying d with
 | some (.slice e),some .string =>
  match P.underlying e with
  | some (.int .u8)=>match (if P.cellsOf e=1 then zam P H e x else none) with
   | some ys=>match x with
    | .p (.s _)=>none
    | _=>(zaI ys).map fun l => .p (.s (.string ⟨l.toArray⟩))
   | none=>none
  | _=>none
 | _,_=>none

def zee (P:Program) (s d:TypeId) (x:AV):Option AV :=
 match P.underlying s,P.underlying d,x with
 | some _,some (.slice e),.p (.s (.string str)) =>
  match P.underlying e with
  | some (.int .u8)=>if str.size≤9223372036854775806 then some (.p (.sl false 1 (str.data.toList.map fun b => .s (.int .u8 b.toNat)))) else none
  | _=>none
 | _,_,_=>none

section more
variable {P:Program} {G:Globs} {σ:Gh} {H:Hp} {w:World}

theorem ztm {t u ty:TypeId} {d s y:AV} {H':Hp} {vd vs:Value} (hr:Rel G σ H w) (h:zlN P H t d s=some (y,H')) (hd:RelV σ H w d vd) (hs:RelV σ H w s vs) :
 ∃ v w' σ',(Builtin.copy_ #[t,u] ty #[vd,vs]).run P w = .ok v w'∧RelV σ' H' w' y v∧Rel G σ' H' w'∧Ev H.n σ H w σ' H' w':=by
 unfold zlN at h;split at h
 case h_2=>cases h
 rename_i e b off dl sz hu;split at h
 case h_2=>cases h
 rename_i cs ys hb hys;split at h
 case isFalse=>cases h
 rename_i hc
 obtain⟨rfl,hpos,hle⟩:=hc
 simp only [Option.some.injEq,Prod.mk.injEq] at h
 obtain⟨rfl,rfl⟩:=h
 obtain⟨news,hnl,hnsz,hnc,hnlen,hnf⟩:=zcP hr hys hs
 cases hd with | @ref _ _ _ _ cap a h0 hbn hcap ha =>
 have hmin:min ys.length dl≤ys.length:=Nat.min_le_left _ _;have hfc:=hnf w rfl (min ys.length dl) hmin
 have htk : ∀ y∈ys.take dl,y.cells.length=P.cellsOf e:=fun y hy=>hnsz y (List.mem_of_mem_take hy)
 have hfl:(flat (ys.take dl)).length=min ys.length dl*P.cellsOf e:=by rw [zV htk,List.length_take,Nat.min_comm]
 have hflt : ∀ (k:Nat) y,(flat (ys.take dl))[k]? = some y → (flat ys)[k]? = some y:=fun k y hk=>by
  have:flat ys=flat (ys.take dl)++flat (ys.drop dl):=by rw [←zdz,List.take_append_drop]
  rw [this,List.getElem?_append_left (List.getElem?_eq_some_iff.1 hk).1];exact hk
 have hml:min ys.length dl*P.cellsOf e≤ys.length*P.cellsOf e:=Nat.mul_le_mul_right _ hmin;have hmd:min ys.length dl*P.cellsOf e≤dl*P.cellsOf e:=Nat.mul_le_mul_right _ (Nat.min_le_right _ _)
 obtain⟨w',h1,h2,h3⟩:=zdy (P:=P) (σ:=σ) hr (off:=off) (xs:=(flat (ys.take dl)).map .p) hb (news.take (min ys.length dl*P.cellsOf e)) (by rw [List.length_take,List.length_map,hfl];omega) (by rw [List.length_map,hfl];omega) (fun i y u hy hu=>by
  simp only [List.getElem?_map,Option.map_eq_some_iff] at hy
  obtain⟨p,hpp,rfl⟩:=hy
  have hi:i < min ys.length dl*P.cellsOf e:=by rw [←hfl];exact (List.getElem?_eq_some_iff.1 hpp).1
  rw [List.getElem?_take,if_pos hi] at hu
  have:=hnc i p u (hflt i p hpp) hu
  exact⟨.p this.1,this.2⟩)
 have hsz:(sizeOf e).run P w = .ok (P.cellsOf e) w:=zR hpos
 have hst:(storeCells a (news.take (min ys.length dl*P.cellsOf e))).run P w = .ok () w':=by
  rcases Nat.eq_zero_or_pos dl with h0 | h0
  · subst h0;simp only [Nat.min_zero,Nat.zero_mul,List.take_zero,storeCells,Sem.run_pure] at h1 ⊢;exact h1
  · rw [ha h0];exact h1
 refine⟨goInt (min ys.length dl:Nat),w',σ,?_,.p (.s _ rfl),h2,h3⟩
 have hfc':(Builtin.firstCells (P.cellsOf e) (Nat.min ys.length dl) vs).run P w = .ok (news.take (min ys.length dl*P.cellsOf e)).toArray w:=hfc;simp [Builtin.copy_,run_underlying hu,hnlen,hsz,hfc',hst]

theorem zxA {t ty:TypeId} {x y:AV} {vx:Value} (h:zEB P t x=some y) (hx:RelV σ H w x vx) : ∃ v,(Builtin.len_ #[t] ty #[vx]).run P w = .ok v w∧RelV σ H w y v:=by
 unfold zEB at h;split at h
 case h_5=>cases h
 · rename_i hu;split at h
   case h_2=>cases h
   rename_i s;cases h
   obtain rfl:vx = .string s:=by cases hx with | p hp=>cases hp;rfl
   exact⟨_,by simp [Builtin.len_,run_underlying hu];rfl,.p (.s _ rfl)⟩
 · rename_i e hu
   have key : ∀ (base:Option Addr) (n c:Nat),vx = .slice base n c → ∃ v,(Builtin.len_ #[t] ty #[vx]).run P w = .ok v w∧RelV σ H w (.p (.s (.int .i64 n))) v:=fun base n c hv=>by
    subst hv
    exact⟨_,by simp [Builtin.len_,run_underlying hu];rfl,.p (.s _ rfl)⟩
   split at h
   case h_5=>cases h
   · cases h
     cases hx with | p hp =>
     cases hp with
     | emp=>exact key _ _ _ rfl
     | sl=>exact key _ _ _ rfl
   · cases h
     cases hx with | sl hp ht =>
     cases hp with
     | emp=>exact key _ _ _ rfl
     | sl=>exact key _ _ _ rfl
   · cases h
     cases hx with | ref a h0 hb hcap ha=>exact key _ _ _ rfl
   · cases h
     cases hx with | vr hx=>obtain⟨_,a,cap,rfl,_⟩:=hx;exact key _ _ _ rfl
 · rename_i n e hu;cases h
   exact⟨_,by simp [Builtin.len_,run_underlying hu];rfl,.p (.s _ rfl)⟩
 · rename_i a hu;split at h
   case h_2=>cases h
   rename_i n e hu2;cases h
   exact⟨_,by simp [Builtin.len_,run_underlying hu,run_underlying hu2];rfl,.p (.s _ rfl)⟩

theorem ze5 {S:Nat → Nat → Prop} : ∀ {ys:List PV} {l:List UInt8} {vs:List Value},zaI ys=some l → vs.length=ys.length → (∀ (k:Nat) y u,ys[k]? = some y → vs[k]? = some u → RelP w S y u) →
 ∃ ns:List Int,vs=ns.map (Value.int .u8) ∧ ∀ r:ByteArray,ns.foldl (fun r n=>r.push (UInt8.ofNat n.toNat)) r=⟨r.data++l.toArray⟩
 | [],l,vs,h,hl,_=>by
  simp only [zaI,Option.some.injEq] at h;subst h
  have:vs=[]:=List.eq_nil_of_length_eq_zero hl
  subst this
  exact⟨[],rfl,fun r=>by simp⟩
 | y :: ys,l,[],h,hl,_=>by simp at hl
 | y :: ys,l,v :: vs,h,hl,hr=>by
  unfold zaI at h;split at h
  · rename_i hh;cases hh
  · rename_i n xs heq;cases heq
    cases hb:zaI ys with
    | none=>simp [hb] at h
    | some l' =>
     simp only [hb,Option.map_some,Option.some.injEq] at h;subst h
     obtain⟨ns,h1,h2⟩:=ze5 hb (by simpa using hl) (fun k y u a b=>hr (k+1) y u (by simpa using a) (by simpa using b))
     have:=hr 0 (.s (.int .u8 n)) v (by simp) (by simp)
     cases this
     refine⟨n :: ns,by simp [h1],fun r => ?_⟩
     rw [List.foldl_cons,h2]
     congr 1
     apply Array.ext';simp [ByteArray.push]
  · cases h

theorem ziJ {s d:TypeId} {x y:AV} {vx:Value} (hr:Rel G σ H w) (h:zbJ P H s d x=some y) (hx:RelV σ H w x vx) : ∃ v,(convert s d vx).run P w = .ok v w∧RelV σ H w y v:=by
 unfold zbJ at h;split at h
 case h_2=>cases h
 rename_i e hs hd;split at h
 case h_2=>cases h
 rename_i he;split at h
 case h_2=>cases h
 rename_i ys hys;split at hys
 case isFalse=>cases hys
 rename_i hone;split at h
 · cases h
 rename_i hns
 obtain⟨news,hnl,hnsz,hnc,hnlen,hnf⟩:=zcP hr hys hx
 cases hb:zaI ys with
 | none=>simp [hb] at h
 | some l =>
  simp only [hb,Option.map_some,Option.some.injEq] at h;subst h
  have hflat : ∀ (ys:List PV) (l:List UInt8),zaI ys=some l → flat ys=ys:=by
   intro ys
   induction ys with
   | nil=>intro _ _;rfl
   | cons a t ih =>
    intro l h;unfold zaI at h;split at h
    · rename_i hh;cases hh
    · rename_i n xs heq;cases heq
      cases hb:zaI t with
      | none=>simp [hb] at h
      | some l'=>simp only [flat,List.flatMap_cons,PV.cells,List.singleton_append];rw [show List.flatMap PV.cells t=t from ih l' hb]
    · cases h
  have hfl:=hflat ys l hb;rw [hfl] at hnc
  obtain⟨ns,h1,h2⟩:=ze5 hb (by rw [hnl,hone,Nat.mul_one]) (fun k y u a b=>(hnc k y u a b).1)
  have hsl : ∃ base n c,vx = .slice base n c∧(base=none → n=0∧ys=[]):=by
   cases hx with
   | p hp =>
    cases hp with
    | s _ h1=>exact absurd rfl (hns _)
    | agg=>simp [zam] at hys
    | emp _ _ a cap=>exact⟨a,0,cap,rfl,fun _=>⟨rfl,by simp [zam] at hys;exact hys⟩⟩
    | sl=>exact⟨_,_,_,rfl,by simp⟩
   | sl hp ht =>
    cases hp with
    | emp _ _ a cap=>exact⟨a,0,cap,rfl,fun _=>⟨rfl,by simp [zam] at hys;exact hys⟩⟩
    | sl=>exact⟨_,_,_,rfl,by simp⟩
   | ref a h0 hb hcap ha=>exact⟨_,_,_,rfl,by simp⟩
   | @vr b len sz _ hv =>
    obtain⟨_,a,cap,rfl,hs1,_⟩:=hv
    refine⟨a,_,_,rfl,fun ha => ?_⟩
    have h0:len=0:=by
     rcases Nat.eq_zero_or_pos len with h | h
     · exact h
     · have:=hs1 h;rw [ha] at this;cases this
    subst h0
    refine⟨rfl,?_⟩
    simp only [zam] at hys;split at hys
    · split at hys
      · simpa [zbP] using hys.symm
      · cases hys
    · cases hys
   | _=>simp [zam] at hys
  obtain⟨base,n,c,rfl,hbase⟩:=hsl
  have hn:n=ys.length:=by have:=hnlen w;simpa [Builtin.lenOf] using this
  refine⟨.string ⟨l.toArray⟩,?_,.p (.s _ rfl)⟩
  simp only [convert,Sem.run_bind,run_underlying hs,run_underlying hd,Result.andThen_ok,run_underlying he]
  cases base with
  | none =>
   obtain⟨_,hy⟩:=hbase rfl
   subst hy;simp only [zaI,Option.some.injEq] at hb;subst hb;simp [Conv.bytesToString];rfl
  | some a =>
   have hld:=hnf w rfl ys.length (Nat.le_refl _);rw [hone] at hld;simp only [Builtin.firstCells,Nat.mul_one] at hld;rw [show news.take ys.length=ns.map (Value.int .u8) by rw [←h1];rw [hone] at hnl;simp only [Nat.mul_one] at hnl;rw [←hnl];exact List.take_length] at hld;rw [hn,run_bytesToString w a ys.length c ns hld,h2];have he0:ByteArray.empty.data = #[]:=rfl;rw [he0,Array.empty_append]

theorem ziK {s d:TypeId} {x y:AV} {vx:Value} (hr:Rel G σ H w) (h:zee P s d x=some y) (hx:RelV σ H w x vx) :
 ∃ v w',(convert s d vx).run P w = .ok v w'∧RelV σ H w' y v∧Rel G σ H w'∧Ev H.n σ H w σ H w':=by
 unfold zee at h;split at h
 case h_2=>cases h
 rename_i ds e str hs hd;split at h
 case h_2=>cases h
 rename_i he;split at h
 case isFalse=>cases h
 rename_i hle;cases h
 obtain rfl:vx = .string str:=by cases hx with | p hp=>cases hp;rfl
 let cap:=(Question.appendCap str.size 0 e).cut (w.tape w.drawn (.appendCap str.size 0 e))
 let row:Array Value:=(str.data.map fun b=>Value.int .u8 b.toNat)++Array.replicate (cap - str.size) (.int .u8 0)
 let w1:=w.drew.alloc (.cells row e)
 have hge:str.size≤cap:=by simp [cap,Question.cut]
 have hcm:cap≤maxLen:=by
  have hlt:=Nat.mod_lt (w.tape w.drawn (.appendCap str.size 0 e)) (show 0 < 2 ^ 63 - str.size by omega);simp only [cap,Question.cut,maxLen] at hlt ⊢;omega
 have hshape:w1.shape? w.heap.size=some (e,row.size):=by
  have:w1.heap[w.heap.size]? = some (.cells row e):=heap_alloc_new w.drew _
  simp [World.shape?,this]
 have hrun:(convert s d (.string str)).run P w = .ok (.slice (some ⟨w.heap.size,0,none⟩) str.size cap) (w1.freeze ⟨w.heap.size,row.size,none⟩ 1):=by
  have hsne : ∀ (α:Type) (x y:α),x=y → x=y:=fun _ _ _ h=>h
  simp only [convert,Sem.run_bind,run_underlying hs,run_underlying hd,Result.andThen_ok,run_underlying he,Conv.stringToBytes,run_choose,Question.forced,Bool.false_eq_true,if_false];simp only [newRow,Sem.run_bind,run_newObj,Result.andThen_ok,Sem.run_pure,markStringish,run_shape];rw [show ({ ({ w with drawn:=w.drawn+1 }:World) with heap:=({ w with drawn:=w.drawn+1 }:World).heap.push (.cells row e) }:World)=w1 from rfl];rw [show ({ w with drawn:=w.drawn+1 }:World).heap.size=w.heap.size from rfl,hshape];simp only [Sem.run_bind,run_freeze,Result.andThen_ok,Sem.run_pure];rfl
 have hheap : ∀ g,g < w.heap.size → (w1.freeze ⟨w.heap.size,row.size,none⟩ 1).heap[g]? = w.heap[g]? := fun g hg=>by
  have h1:w1.heap[g]? = w.heap[g]? := heap_alloc_old w.drew _ hg;simp only [World.freeze,Nat.one_ne_zero,if_false,Array.getElem?_modify];rw [if_neg (by show ¬ (w.heap.size=g);omega)];exact h1
 obtain⟨h1,h2⟩:=zds (G:=G) (σ:=σ) (H:=H) hr (w':=w1.freeze ⟨w.heap.size,row.size,none⟩ 1) (by simp [World.freeze,w1]) hheap (by simp [World.freeze,w1];rfl) (by simp [World.freeze,w1];rfl)
 refine⟨_,_,hrun,.p ?_,h1,h2⟩
 have hst : ∀ o,Stable σ H w.heap.size o:=fun o=>⟨fun b cs hb=>by have:=hr.c_lt hb;omega,fun b k d o' s hb ht=>by have:=hr.t_lt hb ht;omega⟩
 have hcell : ∀ k,(w1.freeze ⟨w.heap.size,row.size,none⟩ 1).cell? ⟨w.heap.size,k,none⟩=row[k]? := fun k=>by
  have:w1.heap[w.heap.size]? = some (.cells row e):=heap_alloc_new w.drew _
  simp [World.freeze,World.cell?,Array.getElem?_modify,this]
 have hfl:flat (str.data.toList.map fun b=>(.s (.int .u8 b.toNat):PV))=str.data.toList.map fun b=>(.s (.int .u8 b.toNat):PV):=by
  generalize str.data.toList=l
  induction l with
  | nil=>rfl
  | cons a l ih=>simp only [flat,List.map_cons,List.flatMap_cons,PV.cells,List.singleton_append] at *;rw [ih]
 have hlen:(str.data.toList.map fun b=>(.s (.int .u8 b.toNat):PV)).length=str.size:=by simp
 have:=RelP.sl (w:=w1.freeze ⟨w.heap.size,row.size,none⟩ 1) (S:=Stable σ H) false 1 (str.data.toList.map fun b=>(.s (.int .u8 b.toNat):PV)) w.heap.size 0 cap (fun k => .int .u8 (str.data.toList.getD k 0).toNat) (by simp) ⟨by rw [hlen];exact hge,hcm⟩
  (fun x hx=>by simp at hx;obtain⟨b,_,rfl⟩:=hx;rfl) (fun k hk=>by
   rw [hlen,Nat.mul_one] at hk
   refine⟨hst _,?_,rfl⟩
   rw [Nat.zero_add,hcell];have hk':k < str.data.size:=hk
   simp [row,Array.getElem?_append,hk,List.getD_eq_getElem?_getD]) (fun k y hk=>by
   rw [hfl] at hk;simp only [List.getElem?_map,Option.map_eq_some_iff] at hk
   obtain⟨b,hb,rfl⟩:=hk
   simp only [List.getD_eq_getElem?_getD,hb,Option.getD_some]
   exact .s _ rfl)
 rw [hlen] at this;exact this
end more

end Go.AL

namespace Go.AL
open Go

def zZ (d:Int):Option AV → Option Int
 | none=>some d
 | some x=>x.int?

def zhg (P:Program) (t:TypeId) (x:AV) (lo hi mx:Option AV):Option AV :=
 match P.underlying t with
 | some (.slice e) =>
  if 0 < P.cellsOf e then
  match x with
  | .p (.sl fl sz xs) =>
   match zZ 0 lo,zZ xs.length hi,zZ xs.length mx with
   | some l,some h,some m =>
    if 0≤l∧l≤h∧h≤m∧m≤xs.length∧(mx.isSome=true → hi.isSome=true)∧(P.cellsOf e=sz ∨ xs.isEmpty) then
     some (.p (.sl ((mx.isSome && h == m) || (mx.isNone && fl && h == xs.length)) sz ((xs.take h.toNat).drop l.toNat))) else none
   | _,_,_=>none
  | .sl α k sz xs =>
   match zZ 0 lo,zZ xs.length hi,zZ xs.length mx with
   | some l,some h,some m =>
    if 0≤l∧l≤h∧h≤m∧m≤xs.length∧(mx.isSome=true → hi.isSome=true)∧(P.cellsOf e=sz ∨ xs.isEmpty) then
     some (if lo.isNone && hi.isNone && mx.isNone then .sl α k sz xs else .p (.sl (mx.isSome && h == m) sz ((xs.take h.toNat).drop l.toNat))) else none
   | _,_,_=>none
  | .ref b off len sz =>
   match zZ 0 lo,zZ len hi,mx with
   | some l,some h,none=>if 0≤l∧l≤h∧h≤len∧P.cellsOf e=sz then some (.ref b (off+l.toNat*sz) (h.toNat - l.toNat) sz) else none
   | _,_,_=>none
  | _=>none
  else none
 | some (.array n e) =>
  match x with
  | .ptr b off =>
   match zZ 0 lo,zZ n hi,mx with
   | some l,some h,none=>if 0≤l∧l≤h∧h≤n∧n≤9223372036854775807∧0 < P.cellsOf e then some (.ref b (off+l.toNat*P.cellsOf e) (h.toNat - l.toNat) (P.cellsOf e)) else none
   | _,_,_=>none
  | .ip _ xs i sub =>
   match zZ 0 lo,zZ n hi,mx,xs[i]? with
   | some l,some h,none,some x=>if 0≤l∧l≤h∧h≤n∧n≤9223372036854775807∧P.cellsOf e=1∧sub=0∧x.cells.length=n then some (.p (.sl (decide (h=n)) 1 ((x.cells.take h.toNat).drop l.toNat))) else none
   | _,_,_,_=>none
  | _=>none
 | some .string =>
  match x with
  | .p (.s (.string s)) =>
   match zZ 0 lo,zZ s.size hi,mx with
   | some l,some h,none=>if 0≤l∧l≤h∧h≤s.size then some (.p (.s (.string (s.extract l.toNat h.toNat)))) else none
   | _,_,_=>none
  | _=>none
 | _=>none

section slice
variable {P:Program} {G:Globs} {σ:Gh} {H:Hp} {w:World}

def zeF (σ:Gh) (H:Hp) (w:World):Option AV → Option Value → Prop
 | none,none=>True
 | some x,some v=>RelV σ H w x v
 | _,_=>False

theorem zaC {d n:Int} {x:AV} {v:Value} (h:zZ d (some x)=some n) (r:RelV σ H w x v) : ∃ k,v = .int k n:=AV.int?_inv h r

theorem run_sliceBound {k:IntKind} {n:Int} {y:Nat} {code:BoundsCode} (h0:0≤n) (h1:n≤y):(Instr.sliceBound (.int k n) y code).run P w = .ok n.toNat w:=by
 simp [Instr.sliceBound,asIntOf,h0,h1]

theorem yW {isSlice:Bool} {len cap:Nat} {lo hi mx:Option AV} {vlo vhi vmx:Option Value} {l h m:Int} (hl:zZ 0 lo=some l) (hh:zZ len hi=some h) (hm:zZ cap mx=some m)
 (r1:zeF σ H w lo vlo) (r2:zeF σ H w hi vhi) (r3:zeF σ H w mx vmx) (c0:0≤l) (c1:l≤h) (c2:h≤m) (c3:m≤cap) (c4:mx.isSome=true → hi.isSome=true) :
 (Instr.sliceBounds isSlice len cap vlo vhi vmx).run P w = .ok (l.toNat,h.toNat,m.toNat) w:=by
 unfold Instr.sliceBounds
 cases mx with
 | none =>
  cases vmx with
  | some v=>exact r3.elim
  | none =>
   simp only [zZ,Option.some.injEq] at hm;subst hm
   cases hi with
   | none =>
    cases vhi with
    | some v=>exact r2.elim
    | none =>
     simp only [zZ,Option.some.injEq] at hh;subst hh
     cases lo with
     | none =>
      cases vlo with
      | some v=>exact r1.elim
      | none=>simp only [zZ,Option.some.injEq] at hl;subst hl;simp
     | some x =>
      cases vlo with
      | none=>exact r1.elim
      | some v =>
       obtain⟨k,rfl⟩:=zaC hl r1
       simp [run_sliceBound c0 c1]
   | some x =>
    cases vhi with
    | none=>exact r2.elim
    | some v =>
     obtain⟨k,rfl⟩:=zaC hh r2
     have hb:=run_sliceBound (P:=P) (w:=w) (k:=k) (code:=if isSlice then .sliceAcap else .sliceAlen) (by omega:0≤h) c2
     cases lo with
     | none =>
      cases vlo with
      | some v=>exact r1.elim
      | none=>simp only [zZ,Option.some.injEq] at hl;subst hl;simp [hb]
     | some x =>
      cases vlo with
      | none=>exact r1.elim
      | some v =>
       obtain⟨k',rfl⟩:=zaC hl r1
       simp [hb,run_sliceBound (P:=P) (w:=w) (k:=k') (y:=h.toNat) c0 (by omega)]
 | some y =>
  cases vmx with
  | none=>exact r3.elim
  | some v =>
   obtain⟨km,rfl⟩:=zaC hm r3
   have hbm:=run_sliceBound (P:=P) (w:=w) (k:=km) (code:=if isSlice then .slice3Acap else .slice3Alen) (by omega:0≤m) c3
   cases hi with
   | none=>simp at c4
   | some x =>
    cases vhi with
    | none=>exact r2.elim
    | some v =>
     obtain⟨k,rfl⟩:=zaC hh r2
     have hb:=run_sliceBound (P:=P) (w:=w) (k:=k) (y:=m.toNat) (code := .slice3B) (by omega:0≤h) (by omega)
     cases lo with
     | none =>
      cases vlo with
      | some v=>exact r1.elim
      | none=>simp only [zZ,Option.some.injEq] at hl;subst hl;simp [hbm,hb]
     | some x =>
      cases vlo with
      | none=>exact r1.elim
      | some v =>
       obtain⟨k',rfl⟩:=zaC hl r1
       simp [hbm,hb,run_sliceBound (P:=P) (w:=w) (k:=k') (y:=h.toNat) c0 (by omega)]

theorem ztn {sz:Nat} {xs:List PV} (h : ∀ x∈xs,x.cells.length=sz) (n:Nat):flat (xs.take n)=(flat xs).take (n*sz):=by
 induction xs generalizing n with
 | nil=>simp [flat]
 | cons a l ih =>
  cases n with
  | zero=>simp [flat]
  | succ n =>
   have ha:=h a (by simp)
   have:=ih (fun x hx=>h x (by simp [hx])) n
   simp only [flat,List.take_succ_cons,List.flatMap_cons] at this ⊢;rw [this,List.take_append,ha,Nat.succ_mul];rw [List.take_of_length_le (l:=a.cells) (by rw [ha];omega)]
   congr 2;omega

theorem zto {sz:Nat} {xs:List PV} (h : ∀ x∈xs,x.cells.length=sz) (n:Nat):flat (xs.drop n)=(flat xs).drop (n*sz):=by
 induction xs generalizing n with
 | nil=>simp [flat]
 | cons a l ih =>
  cases n with
  | zero=>simp [flat]
  | succ n =>
   have ha:=h a (by simp)
   have:=ih (fun x hx=>h x (by simp [hx])) n
   simp only [flat,List.drop_succ_cons,List.flatMap_cons] at this ⊢;rw [this,List.drop_append,ha,Nat.succ_mul];rw [List.drop_eq_nil_of_le (as:=a.cells) (by rw [ha];omega),List.nil_append]
   congr 1;omega

theorem ztp {S:Nat → Nat → Prop} {fl fl':Bool} {sz:Nat} {xs:List PV} {a:Option Addr} {cap l h m:Nat} (hp:RelP w S (.sl fl sz xs) (.slice a xs.length cap)) (c1:l≤h) (c2:h≤m) (c3:m≤cap) (c4:h≤xs.length)
 (hfl:fl'=true → m=h) {P:Program} {e:TypeId} (hsz:P.cellsOf e=sz ∨ xs=[]) :
 RelP w S (.sl fl' sz ((xs.take h).drop l)) (.slice (if m=l then a else a.map (·.add (l*P.cellsOf e))) (h - l) (m - l)):=by
 have hlen:((xs.take h).drop l).length=h - l:=by simp;omega
 have hsub : ∀ x∈(xs.take h).drop l,x∈xs:=fun x hx=>List.mem_of_mem_take (List.mem_of_mem_drop hx)
 rw [←hlen]
 cases hp with
 | emp _ _ a cap h' hc' =>
  have:l=0:=by simp at c4;omega
  subst this
  have:h=0:=by simpa using c4
  subst this;simp only [List.take_nil,List.drop_nil,List.length_nil];exact .emp _ _ _ _ (fun hh=>by have:=hfl hh;omega) (by omega)
 | sl fl sz xs g off cap f hflo hcap hszs hrd hc =>
  have hcapm:m - l≤maxLen:=by omega
  have hfl2:fl'=true → m - l=((xs.take h).drop l).length:=fun hh=>by rw [hlen,hfl hh]
  by_cases hml:m=l
  · rw [if_pos hml];have h0:(xs.take h).drop l=[]:=List.eq_nil_of_length_eq_zero (by omega);rw [h0];rw [h0] at hfl2;exact .sl fl' sz [] g off _ f hfl2 ⟨by simp,hcapm⟩ (by simp) (by simp) (by simp [flat])
  · rw [if_neg hml];simp only [Option.map_some,zE]
    rcases hsz with hsz | hsz
    · rw [hsz]
      have hsz2 : ∀ x∈(xs.take h).drop l,x.cells.length=sz:=fun x hx=>hszs x (hsub x hx)
      refine .sl fl' sz _ g _ _ (fun k=>f (l*sz+k)) hfl2 ⟨by omega,hcapm⟩ hsz2 (fun k hk => ?_) (fun k y hk => ?_)
      · rw [hlen,Nat.sub_mul] at hk;have h1:h*sz≤xs.length*sz:=Nat.mul_le_mul_right _ c4;have h2:l*sz≤h*sz:=Nat.mul_le_mul_right _ c1
        have:=hrd (l*sz+k) (by omega)
        rw [←Nat.add_assoc] at this;exact this
      · rw [zto (fun x hx=>hszs x (List.mem_of_mem_take hx)),ztn hszs,List.getElem?_drop,List.getElem?_take] at hk;split at hk
        · exact hc _ y hk
        · cases hk
    · subst hsz
      have h0:(([]:List PV).take h).drop l=[]:=by simp
      rw [h0];rw [h0] at hfl2;exact .sl fl' sz [] g _ _ f hfl2 ⟨by simp,hcapm⟩ (by simp) (by simp) (by simp [flat])

theorem zlO {sz n i g off cap:Nat} {e:TypeId} {xs:List PV} {x:PV} {l h:Int} (hp:RelP w (Stable σ H) (.sl false sz xs) (.slice (some ⟨g,off,none⟩) xs.length cap)) (hx:xs[i]? = some x) (hcl:x.cells.length=n)
 (c0:0≤l) (c1:l≤h) (c2:h≤(n:Int)) (c3:n≤9223372036854775807) (he:P.cellsOf e=1) :
 RelP w (Stable σ H) (.sl (decide (h=n)) 1 ((x.cells.take h.toNat).drop l.toNat)) (.slice (if n=l.toNat then some ⟨g,off+i*sz+0,none⟩ else some (Addr.add ⟨g,off+i*sz+0,none⟩ (l.toNat*P.cellsOf e))) (h.toNat - l.toNat) (n - l.toNat)):=by
 have hlen:((x.cells.take h.toNat).drop l.toNat).length=h.toNat - l.toNat:=by
  rw [List.length_drop,List.length_take,hcl,Nat.min_eq_left (by omega)]
 have ha : ∀ o,(if n=l.toNat then some (⟨g,off+i*sz+0,none⟩:Addr) else some (Addr.add ⟨g,off+i*sz+0,none⟩ (l.toNat*P.cellsOf e)))=some ⟨g,o,none⟩ → 0 < h.toNat - l.toNat → o=off+i*sz+l.toNat:=by
  intro o ho hpos;rw [if_neg (by omega),he,Nat.mul_one,zE] at ho;cases ho;omega
 obtain⟨o,ho⟩ : ∃ o,(if n=l.toNat then some (⟨g,off+i*sz+0,none⟩:Addr) else some (Addr.add ⟨g,off+i*sz+0,none⟩ (l.toNat*P.cellsOf e)))=some ⟨g,o,none⟩:=by
  split
  · exact⟨_,rfl⟩
  · exact⟨_,by rw [zE]⟩
 have ha:=ha o ho;rw [ho,←hlen]
 obtain⟨_,f,hfl,hcap,hsz,hrd,hc⟩:=hp.sl_inv
 have hxm:x∈xs:=List.mem_of_getElem? hx;have hil:i < xs.length:=(List.getElem?_eq_some_iff.1 hx).1;have hszx:=hsz x hxm
 have hin : ∀ k,k < n → i*sz+k < xs.length*sz:=fun k hk=>by
  have:(i+1)*sz≤xs.length*sz:=Nat.mul_le_mul_right _ hil
  rw [Nat.add_mul] at this;omega
 have hget : ∀ k y,((x.cells.take h.toNat).drop l.toNat)[k]? = some y → k < h.toNat - l.toNat∧x.cells[l.toNat+k]? = some y:=by
  intro k y hy;have hk:=(List.getElem?_eq_some_iff.1 hy).1;rw [hlen] at hk;rw [List.getElem?_drop,List.getElem?_take_of_lt (by omega)] at hy
  exact⟨hk,hy⟩
 have hone : ∀ k y,((x.cells.take h.toNat).drop l.toNat)[k]? = some y → RelP w (Stable σ H) y (f (i*sz+(l.toNat+k)))∧y.cells=[y]:=by
  intro k y hy
  obtain⟨hk,hy⟩:=hget k y hy
  have h1:=hc (i*sz+(l.toNat+k)) y (flat_get hsz hx hy);have h2:=(hrd (i*sz+(l.toNat+k)) (hin _ (by omega))).2.2
  refine⟨h1,?_⟩
  cases y with
  | agg ys=>generalize f (i*sz+(l.toNat+k))=v at h1 h2;cases h1;cases h2
  | s v=>rfl
  | sl a b c=>rfl
 refine .sl _ 1 _ g o _ (fun k=>f (i*sz+(l.toNat+k))) (fun hf => ?_) ⟨by rw [hlen];omega,by unfold maxLen;omega⟩ (fun y hy => ?_) (fun k hk => ?_) (fun k y hy => ?_)
 · have:=of_decide_eq_true hf;rw [hlen];omega
 · obtain⟨k,hk⟩:=List.getElem?_of_mem hy
   rw [(hone k y hk).2];rfl
 · rw [hlen,Nat.mul_one] at hk
   have:=hrd (i*sz+(l.toNat+k)) (hin _ (by omega))
   rw [ha (by omega),show off+i*sz+l.toNat+k=off+(i*sz+(l.toNat+k)) by omega];exact this
 · have hfl:flat ((x.cells.take h.toNat).drop l.toNat)=(x.cells.take h.toNat).drop l.toNat:=by
    have : ∀ (ys:List PV),(∀ y∈ys,y.cells=[y]) → flat ys=ys:=by
     intro ys
     induction ys with
     | nil=>intro _;rfl
     | cons a ys ih=>intro hh;show a.cells++flat ys=_;rw [hh a (by simp),ih (fun y hy=>hh y (by simp [hy]))];rfl
    refine this _ fun y hy => ?_
    obtain⟨k,hk⟩:=List.getElem?_of_mem hy
    exact (hone k y hk).2
   rw [hfl] at hy;exact (hone k y hy).1

theorem zoW {t:TypeId} {x y:AV} {lo hi mx:Option AV} {vx:Value} {vlo vhi vmx:Option Value} (h:zhg P t x lo hi mx=some y) (hx:RelV σ H w x vx)
 (r1:zeF σ H w lo vlo) (r2:zeF σ H w hi vhi) (r3:zeF σ H w mx vmx) : ∃ v,(Instr.sliceAt t vx vlo vhi vmx).run P w = .ok v w∧RelV σ H w y v:=by
 have nomx : ∀ (mx:Option AV),mx=none → ∀ (n:Int),zZ n mx=some n:=fun mx h n=>by subst h;rfl
 unfold zhg at h;split at h
 case h_4=>cases h
 · rename_i e hu;split at h
   case isFalse=>cases h
   rename_i hpos
   have hs : ∀ (w:World),(sizeOf e).run P w = .ok (P.cellsOf e) w:=fun w=>zR hpos
   -- what the machine does with a slice, the limits given
   have core : ∀ (fl:Bool) (sz:Nat) (xs:List PV) (fl':Bool) (l h m:Int),RelP w (Stable σ H) (.sl fl sz xs) vx → zZ 0 lo=some l → zZ xs.length hi=some h → zZ xs.length mx=some m →
    0≤l → l≤h → h≤m → m≤xs.length → (mx.isSome=true → hi.isSome=true) → (P.cellsOf e=sz ∨ xs.isEmpty=true) → (fl'=true → (mx.isSome=true∧h=m) ∨ (mx.isNone=true∧fl=true∧h=xs.length)) →
    ∃ v,(Instr.sliceAt t vx vlo vhi vmx).run P w = .ok v w∧RelP w (Stable σ H) (.sl fl' sz ((xs.take h.toNat).drop l.toNat)) v:=by
    intro fl sz xs fl' l h m hp hl hh hm c0 c1 c2 c3 c4 hsz hfl
    obtain⟨a,cap,rfl,hcl,hfc⟩ : ∃ a cap,vx = .slice a xs.length cap∧xs.length≤cap∧(fl=true → cap=xs.length):=by
     cases hp with
     | emp _ _ a cap h hc=>exact⟨a,cap,rfl,Nat.zero_le _,h⟩
     | sl fl sz xs g off cap f hfl hcap hszs hrd hc=>exact⟨_,_,rfl,hcap.1,hfl⟩
    obtain⟨m',hm',hmm',hmc,hm3⟩ : ∃ m':Int,zZ cap mx=some m'∧h≤m'∧m'≤cap∧(fl'=true → m'=h):=by
     cases mx with
     | none =>
      refine⟨cap,rfl,by simp only [zZ,Option.some.injEq] at hm;omega,Int.le_refl _,fun hh => ?_⟩
      rcases hfl hh with ⟨h1,_⟩ | ⟨_,h2,h3⟩
      · cases h1
      · rw [hfc h2,h3]
     | some z =>
      refine⟨m,hm,c2,by omega,fun hh => ?_⟩
      rcases hfl hh with ⟨_,h2⟩ | ⟨h1,_⟩
      · exact h2.symm
      · cases h1
    have hb:=yW (P:=P) (isSlice:=true) (len:=xs.length) (cap:=cap) hl hh hm' r1 r2 r3 c0 c1 hmm' hmc c4
    refine⟨.slice (if m'.toNat=l.toNat then a else a.map (·.add (l.toNat*P.cellsOf e))) (h.toNat - l.toNat) (m'.toNat - l.toNat),?_,ztp hp (by omega) (by omega) (by omega) (by omega) (fun hh=>by have:=hm3 hh;omega) (hsz.imp id (by simp))⟩
    unfold Instr.sliceAt;simp only [Sem.run_bind,run_underlying hu,Result.andThen_ok,Instr.slice,hb,hs,Sem.run_pure]
   split at h
   case h_4=>cases h
   · rename_i fl sz xs;split at h
     case h_2=>cases h
     rename_i l hh m hl hhh hm;split at h
     case isFalse=>cases h
     rename_i hc
     obtain⟨c0,c1,c2,c3,c4,c5⟩:=hc
     cases h
     cases hx with | p hp =>
     obtain⟨v,h1,h2⟩:=core fl sz xs ((mx.isSome && hh == m) || (mx.isNone && fl && hh == xs.length)) l hh m hp hl hhh hm c0 c1 c2 c3 c4 c5 (fun hf=>by
      simp only [Bool.or_eq_true,Bool.and_eq_true,beq_iff_eq] at hf
      rcases hf with ⟨a,b⟩ | ⟨⟨a,b⟩,c⟩
      · exact .inl ⟨a,b⟩
      · exact .inr ⟨a,b,c⟩)
     exact⟨v,h1,.p h2⟩
   · rename_i α k sz xs;split at h
     case h_2=>cases h
     rename_i l hh m hl hhh hm;split at h
     case isFalse=>cases h
     rename_i hc
     obtain⟨c0,c1,c2,c3,c4,c5⟩:=hc
     cases h
     cases hx with | sl hp ht =>
     split
     · rename_i hnone;simp only [Bool.and_eq_true,Option.isNone_iff_eq_none] at hnone
       obtain⟨⟨rfl,rfl⟩,rfl⟩:=hnone
       cases vlo with | some v=>exact r1.elim | none =>
       cases vhi with | some v=>exact r2.elim | none =>
       cases vmx with | some v=>exact r3.elim | none =>
       refine⟨vx,?_,.sl hp ht⟩
       obtain⟨a,cap,rfl⟩ : ∃ a cap,vx = .slice a xs.length cap:=by
        cases hp with
        | emp _ _ a cap=>exact⟨a,cap,rfl⟩
        | sl fl sz xs g off cap f hfl hcap hszs hrd hc=>exact⟨_,_,rfl⟩
       unfold Instr.sliceAt;simp only [Sem.run_bind,run_underlying hu,Result.andThen_ok,Instr.slice,Instr.sliceBounds,hs,Sem.run_pure,Nat.sub_zero,Nat.zero_mul]
       split
       · rfl
       · cases a with
         | none=>rfl
         | some a=>simp [Addr.add]
     · obtain⟨v,h1,h2⟩:=core false sz xs (mx.isSome && hh == m) l hh m hp hl hhh hm c0 c1 c2 c3 c4 c5 (fun hf=>by
        simp only [Bool.and_eq_true,beq_iff_eq] at hf
        exact .inl hf)
       exact⟨v,h1,.p h2⟩
   · rename_i b off len sz;split at h
     case h_2=>cases h
     rename_i l hh hl hhh;split at h
     case isFalse=>cases h
     rename_i hc
     obtain⟨c0,c1,c2,rfl⟩:=hc
     cases h
     cases hx with | @ref _ _ _ _ cap a h0 hb hcap ha =>
     have hbn:=yW (P:=P) (isSlice:=true) (len:=len) (cap:=cap) hl hhh (nomx _ rfl cap) r1 r2 r3 c0 c1 (by omega) (Int.le_refl _) (by simp)
     have hcl:cap - l.toNat≤maxLen:=by omega
     refine⟨_,by unfold Instr.sliceAt;simp only [Sem.run_bind,run_underlying hu,Result.andThen_ok,Instr.slice,hbn,hs,Sem.run_pure,Int.toNat_natCast];rfl,?_⟩
     by_cases hml:cap=l.toNat
     · simp only [hml,if_true];exact .ref a h0 hb ⟨by omega,by omega⟩ (fun h=>by omega)
     · simp only [hml,if_false,Option.map_some];exact .ref _ (by obtain⟨g,o,rfl⟩:=h0;exact⟨_,_,zE _ _ _⟩) hb ⟨by omega,hcl⟩ (fun h=>by rw [ha (by omega),zE])
 · rename_i n e hu;split at h
   case h_3=>cases h
   case h_2 =>
    rename_i sz xs i sub;split at h
    case h_2=>cases h
    rename_i l hh x hl hhh hx0;split at h
    case isFalse=>cases h
    rename_i hc
    obtain⟨c0,c1,c2,c3,hpos,rfl,hcl⟩:=hc
    cases h
    cases hx with | @ip _ _ _ _ g off cap hp hi hs0 =>
    have hs : ∀ (w:World),(sizeOf e).run P w = .ok (P.cellsOf e) w:=fun w=>zR (by omega)
    have hbn:=yW (P:=P) (isSlice:=false) (len:=n) (cap:=n) hl hhh (nomx _ rfl n) r1 r2 r3 c0 c1 (by omega) (Int.le_refl _) (by simp)
    refine⟨_,by unfold Instr.sliceAt;simp only [Sem.run_bind,run_underlying hu,Result.andThen_ok,Instr.sureAddr,Sem.run_pure,hbn,hs,Int.toNat_natCast];rfl,.p ?_⟩
    have:=zlO hp hx0 hcl c0 c1 c2 c3 hpos
    rwa [←apply_ite some] at this
   rename_i b off;split at h
   case h_2=>cases h
   rename_i l hh hl hhh;split at h
   case isFalse=>cases h
   rename_i hc
   obtain⟨c0,c1,c2,c3,hpos⟩:=hc
   cases h
   cases hx with | ptr hb =>
   have hs : ∀ (w:World),(sizeOf e).run P w = .ok (P.cellsOf e) w:=fun w=>zR hpos
   have hbn:=yW (P:=P) (isSlice:=false) (len:=n) (cap:=n) hl hhh (nomx _ rfl n) r1 r2 r3 c0 c1 (by omega) (Int.le_refl _) (by simp)
   refine⟨_,by unfold Instr.sliceAt;simp only [Sem.run_bind,run_underlying hu,Result.andThen_ok,Instr.sureAddr,Sem.run_pure,hbn,hs,Int.toNat_natCast];rfl,?_⟩
   by_cases hml:n=l.toNat
   · simp only [hml,if_true];exact .ref _ ⟨_,_,rfl⟩ hb ⟨by omega,by unfold maxLen;omega⟩ (fun h=>by omega)
   · simp only [hml,if_false];exact .ref _ ⟨_,_,zE _ _ _⟩ hb ⟨by omega,by unfold maxLen;omega⟩ (fun h=>by rw [zE])
 · rename_i hu;split at h
   case h_2=>cases h
   rename_i s;split at h
   case h_2=>cases h
   rename_i l hh hl hhh;split at h
   case isFalse=>cases h
   rename_i hc
   obtain⟨c0,c1,c2⟩:=hc
   cases h
   obtain rfl:vx = .string s:=by cases hx with | p hp=>cases hp;rfl
   cases vmx with | some v=>exact r3.elim | none =>
   have hbn:=yW (P:=P) (isSlice:=false) (len:=s.size) (cap:=s.size) (vmx:=none) (mx:=none) hl hhh rfl r1 r2 trivial c0 c1 (by omega) (Int.le_refl _) (by simp)
   refine⟨.string (s.extract l.toNat hh.toNat),?_,.p (.s _ rfl)⟩
   unfold Instr.sliceAt;simp only [Sem.run_bind,run_underlying hu,Result.andThen_ok,Instr.slice,Option.isSome_none,Bool.false_eq_true,if_false,Sem.run_pure,hbn]

end slice

end Go.AL
