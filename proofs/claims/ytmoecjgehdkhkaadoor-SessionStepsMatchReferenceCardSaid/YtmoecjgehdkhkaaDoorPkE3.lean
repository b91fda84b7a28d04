/-
  A slice compared with nil.
  Conditions: none;nothing here speaks of one program.
-/
import Derived.Test.YtmoecjgehdkhkaaDoorPkE2
import Derived.Laws.Cover3
import Derived.RangeFuncRecord
import Derived.Lib.SlBytesConst
import Derived.Carry
import Derived.OpenShut
import Derived.Lib.LaidTab
import Derived.Deep.DeepHandedRow
import Derived.ProofKit
set_option linter.unusedSectionVars false
set_option linter.unusedSimpArgs false
set_option linter.unusedVariables false
namespace Go.AL
open Go

section
variable {C:Cx} {k:List Item} {env:Env} {H:Hp} {R:AV → Hp → Prop} {ops:Array Oper} {rest:List Oper}

theorem AOps.one {o:Oper} (hg:o.guard=none) {x:AV} {H':Hp} (hs:zq C.P C.G o.op o.type env H = .val x H') (hd:zQ C.nt o.dst=true) (h:AOps C ops rest k (env.put o.dst x) H' R):AOps C ops (o :: rest) k env H R :=
 .of_op true (by rw [hg];rfl) fun σ w a m hpre K Q hK=>aOp1.wp (K:=fun y H2=>y=x∧H2=H') (by unfold aOp1;rw [hs];exact⟨hd,rfl,rfl⟩) hpre.rel hpre.fr fun y v H2 σ' w' ⟨e1,e2⟩ q1 q2 q3 q4=>by
  subst e1 e2;exact hK _ v _ σ' w' h q1 q2 q3 q4

theorem AOps.isNil {dst:Option Nat} {t t' ty:TypeId} {pos:String} {after:Array Edge} {x:Operand} {e:TypeId} (hu:C.P.underlying t=some (.slice e)) {fl:Bool} {sz:Nat} {xs:List PV} (hx:yB C.G env x = .p (.sl fl sz xs)) (hd:zQ C.nt dst=true)
 (h : ∀ b:Bool,(b=true → xs=[]) → AOps C ops rest k (env.put dst (.p (bo b))) H R) :
 AOps C ops (⟨dst,.binOp .eql t x (.const (.slice none 0 0)) t',ty,pos,after,none⟩ :: rest) k env H R:=by
 refine .of_op true rfl fun σ w a m hpre K Q hK => ?_
 have hr:=zy hpre.rel hpre.fr x
 rw [hx] at hr
 have key : ∀ (ad:Option Addr) (l c:Nat),a.eval x = .slice ad l c → (ad.isNone=true → xs=[]) →
  (⟨dst,.binOp .eql t x (.const (.slice none 0 0)) t',ty,pos,after,none⟩:Oper).wpIn (Fr C σ) 0 C.P a w K Q:=by
  intro ad l c hv hn
  unfold Oper.wpIn
  refine⟨fun f _=>trivial,?_⟩
  have hsem:Oper.semAt (Fr C σ).round a.eval ⟨dst,.binOp .eql t x (.const (.slice none 0 0)) t',ty,pos,after,none⟩=execOp a.eval ⟨dst,.binOp .eql t x (.const (.slice none 0 0)) t',ty,pos,after,none⟩:=Oper.semAt_eq _ _ _ (fun c h=>by cases h)
  rw [hsem]
  have he:(execOp a.eval ⟨dst,.binOp .eql t x (.const (.slice none 0 0)) t',ty,pos,after,none⟩).run C.P w = .ok (.value (.bool ad.isNone)) w:=by
   have hc:a.eval (.const (.slice none 0 0)) = .slice none 0 0:=rfl
   simp only [execOp,hv,hc]
   have hg:=zab (P:=C.P) (w:=w) (op := .eql) (t:=t) (xo:=x) (yo := .const (.slice none 0 0)) (a := .slice ad l c) (b := .slice none 0 0) (by simp) (by simp)
   simp only [Sem.run_bind,hg,Result.andThen_ok,binOp,run_equal_slice_nil w t e ad l c hu,Sem.run_pure]
  rw [he]
  exact hK (.p (bo ad.isNone)) (.bool ad.isNone) H σ w (h ad.isNone hn) (yM hd) hpre.rel (.p (.s _ rfl)) (Ev.refl (Nat.le_refl _))
 generalize hv:a.eval x=v at hr
 cases hr with | p hp =>
 cases hp with
 | emp _ _ a cap=>exact key a 0 cap hv fun _=>rfl
 | sl _ _ _ g off cap f=>exact key (some ⟨g,off,none⟩) xs.length cap hv fun hh=>by cases hh
end
theorem RelV.low {σ σ':Gh} {H H':Hp} {w w':World} {n0 m:Nat} (h:EvM n0 m σ H w σ' H' w') {x:AV} {v:Value} (r:RelV σ H w x v):BelowN n0 x → RelV σ' H' w' x v:=by
 induction r with
 | p hp=>exact fun _ => .p (hp.mono h.cell)
 | sl hp ht =>
  intro hb
  cases hb with | sl _ _ _ _ hb =>
  refine .sl (hp.mono h.cell) ⟨Nat.lt_of_lt_of_le hb h.hn,fun k' d' hk' => ?_⟩
  obtain⟨k0,d0,e0,l0,q0⟩:=h.t _ hb k' d' hk'
  obtain⟨l1,q1⟩:=ht.2 k0 d0 e0
  refine⟨Nat.le_trans l1 l0,fun hkk => ?_⟩
  rw [q0 (by omega)]
  exact q1 (by omega)
 | ref a h0 _ hcap ha=>intro hb;cases hb with | ref _ _ _ _ hb=>exact .ref a h0 (Nat.lt_of_lt_of_le hb h.hn) hcap (fun hl=>by rw [h.c _ hb];exact ha hl)
 | ptr _=>intro hb;cases hb with | ptr _ _ hb=>rw [←h.c _ hb];exact .ptr (Nat.lt_of_lt_of_le hb h.hn)
 | ip hp hi hs=>exact fun _ => .ip (hp.mono h.cell) hi hs
 | clo fs cs hf hc _ _ ih1 ih2=>intro hb;cases hb with | clo _ _ _ h1 h2=>exact .clo fs cs hf hc (fun i x v a b=>ih1 i x v a b (h1 i x a)) (fun i x v a b=>ih2 i x v a b (h2 i x a))
 | tup vs hl _ ih=>intro hb;cases hb with | tup _ h=>exact .tup vs hl (fun i x v a b=>ih i x v a b (h i x a))
 | agg vs hl h1 _ ih=>intro hb;cases hb with | agg _ h=>exact .agg vs hl h1 (fun i x v a b=>ih i x v a b (h i x a))
 | yld _=>intro hb;cases hb with | yld _ hb=>rw [←h.c _ hb];exact .yld (Nat.lt_of_lt_of_le hb h.hn)
 | mp _=>intro hb;cases hb with | mp _ hb=>rw [←h.c _ hb];exact .mp (Nat.lt_of_lt_of_le hb h.hn)
 | vr q =>
  intro hb
  cases hb with | vr _ _ _ hb =>
  obtain⟨_,a,cap,rfl,q1,q2⟩:=q
  refine .vr ⟨Nat.lt_of_lt_of_le hb h.hn,a,cap,rfl,q1,fun k' d' hk' => ?_⟩
  obtain⟨k0,d0,e0,l0,q0⟩:=h.t _ hb k' d' hk'
  obtain⟨l1,q1⟩:=q2 k0 d0 e0
  refine⟨Nat.le_trans l1 l0,fun hkk => ?_⟩
  rw [q0 (by omega)]
  exact q1 (by omega)
 | vp a q =>
  intro hb
  cases hb with | vp _ _ _ hb =>
  refine .vp a ⟨Nat.lt_of_lt_of_le hb h.hn,fun k' d' hk' => ?_⟩
  obtain⟨k0,d0,e0,l0,q0⟩:=h.t _ hb k' d' hk'
  obtain⟨l1,q1⟩:=q.2 k0 d0 e0
  refine⟨Nat.le_trans l1 l0,fun hkk => ?_⟩
  rw [q0 (by omega)]
  exact q1 (by omega)
 | top v=>exact fun _ => .top v

theorem ziK {G:Globs} {σ:Gh} {H:Hp} {w:World} (hr:Rel G σ H w) {n0 α k:Nat} (hb:Bel n0 H) (hα:H.f α=some (.tail k)) (hge:n0≤α) :
 Rel G (σ.withT n0 (σ.t α)) ((H.trunc n0).new (.tail 0)) w∧Ev n0 σ H w (σ.withT n0 (σ.t α)) ((H.trunc n0).new (.tail 0)) w:=by
 have hold : ∀ b,b < n0 → (σ.withT n0 (σ.t α)).t b=σ.t b:=fun b hb=>by simp [Gh.withT,Nat.ne_of_lt hb]
 have hnew:(σ.withT n0 (σ.t α)).t n0=σ.t α:=by simp [Gh.withT]
 have fcells : ∀ b x,((H.trunc n0).new (.tail 0)).f b=some (.cells x) → H.f b=some (.cells x)∧b < n0:=by
  intro b x h
  rw [Hp.f_new] at h
  split at h
  · cases h
  · rw [Hp.f_trunc] at h
    split at h
    · exact⟨h,by assumption⟩
    · cases h
 have ftail : ∀ b k' d,((H.trunc n0).new (.tail 0)).f b=some (.tl k' d) → (b=n0∧k'=0∧d=none) ∨ (H.f b=some (.tl k' d)∧b < n0):=by
  intro b x d h
  rw [Hp.f_new] at h
  split at h
  · rename_i hh;cases h;exact .inl ⟨hh,rfl,rfl⟩
  · rw [Hp.f_trunc] at h
    split at h
    · exact .inr ⟨h,by assumption⟩
    · cases h
 have fobj : ∀ b vs S,((H.trunc n0).new (.tail 0)).f b=some (.obj vs S) → H.f b=some (.obj vs S)∧b < n0:=by
  intro b vs S h
  rw [Hp.f_new] at h
  split at h
  · cases h
  · rw [Hp.f_trunc] at h
    split at h
    · exact⟨h,by assumption⟩
    · cases h
 have hev:Ev n0 σ H w (σ.withT n0 (σ.t α)) ((H.trunc n0).new (.tail 0)) w:=by
  refine⟨fun g o v h1 h2=>⟨⟨fun b x h=>h1.1 b x (fcells _ _ h).1,fun b k' d o' s h ht => ?_⟩,h2⟩,fun _ _=>rfl,by simp [Hp.n_new,Hp.n_trunc],fun b hb k' d hk => ?_,Nat.le_refl _,
   fun g hg hf=>⟨rfl,fun b x h=>hf.1 b x (fcells _ _ h).1,fun b k' d o s h => ?_,fun b vs S h=>hf.3 b vs S (fobj _ _ _ h).1⟩,rfl,rfl⟩
  · rcases ftail b k' d h with ⟨rfl,rfl,rfl⟩ | ⟨h,hlt⟩
    · rw [hnew] at ht;exact h1.2 α k _ o' s hα ht
    · rw [hold b hlt] at ht;exact h1.2 b k' d o' s h ht
  · rcases ftail b k' d hk with ⟨rfl,_⟩ | ⟨h,hlt⟩
    · omega
    · exact⟨k',d,h,Nat.le_refl _,fun _=>hold b hb⟩
  · rcases ftail b k' d h with ⟨rfl,rfl,rfl⟩ | ⟨h,hlt⟩
    · rw [hnew];exact hf.2 α k _ o s hα
    · rw [hold b hlt];exact hf.2 b k' d o s h
 refine⟨⟨fun b x h => ?_,fun b k' d g o s h ht => ?_,fun b k' cs h => ?_,fun b1 b2 x y h1 h2=>hr.cc b1 b2 x y (fcells _ _ h1).1 (fcells _ _ h2).1,fun b1 b2 x k' d g o s h1 h2 ht => ?_,fun b1 b2 k1 d1 k2 d2 g o s o' s' h1 h2 ht ht' => ?_,fun g sz xs h=>(hr.glob g sz xs h).low hev (.ip _ _ _ _),fun b vs S h => ?_,fun b b' vs vs' S S' h h'=>hr.oo b b' vs vs' S S' (fobj _ _ _ h).1 (fobj _ _ _ h').1,fun r m h=>(hr.gm r m h).of rfl (hev.blk r (hr.gm r m h).lt (hr.gm r m h).2.1).2 fun x v hx q=>q.low hev (hx _)⟩,hev⟩
 · obtain⟨h,hlt⟩:=fcells _ _ h
   obtain⟨c,e,q1,q2,q3⟩:=hr.cells b x h
   exact⟨c,e,q1,q2,fun i y hy=>let ⟨v,a,q⟩:=q3 i y hy;⟨v,a,q.1.low hev (hb b _ hlt h y (List.mem_of_getElem? hy)),q.2⟩⟩
 · rcases ftail b k' d h with ⟨rfl,rfl,rfl⟩ | ⟨h,hlt⟩
   · rw [hnew] at ht;exact hr.tail α k _ g o s hα ht
   · rw [hold b hlt] at ht;exact hr.tail b k' d g o s h ht
 · rcases ftail b k' _ h with ⟨rfl,_,hd⟩ | ⟨h,hlt⟩
   · cases hd
   · rw [hold b hlt]
     obtain⟨q0,q1,q2⟩:=hr.vec b k' cs h
     refine⟨q0,q1,fun g o s hg => ?_⟩
     obtain⟨p0,p1,p2⟩:=q2 g o s hg
     exact⟨p0,p1,fun i x hx=>let ⟨v,a,b'⟩:=p2 i x hx;⟨v,a,b'.1.low hev (hb b _ hlt h x (List.mem_of_getElem? hx)),b'.2⟩⟩
 · have h1':=(fcells _ _ h1).1
   rcases ftail b2 k' d h2 with ⟨rfl,rfl,rfl⟩ | ⟨h,hlt⟩
   · rw [hnew] at ht;exact hr.ct b1 α x k _ g o s h1' hα ht
   · rw [hold b2 hlt] at ht;exact hr.ct b1 b2 x k' d g o s h1' h ht
 · rcases ftail b1 k1 d1 h1 with ⟨rfl,rfl,rfl⟩ | ⟨p1,l1⟩<;>rcases ftail b2 k2 d2 h2 with ⟨rfl,rfl,rfl⟩ | ⟨p2,l2⟩
   · rfl
   · rw [hnew] at ht;rw [hold b2 l2] at ht'
     have:=hr.tt α b2 k _ k2 _ g o s o' s' hα p2 ht ht';omega
   · rw [hnew] at ht';rw [hold b1 l1] at ht
     have:=hr.tt b1 α k1 _ k _ g o s o' s' p1 hα ht ht';omega
   · rw [hold b1 l1] at ht;rw [hold b2 l2] at ht'
     exact hr.tt b1 b2 k1 _ k2 _ g o s o' s' p1 p2 ht ht'
 · obtain⟨h,hlt⟩:=fobj _ _ _ h
   obtain⟨o,us,q1,q2,q3,q4⟩:=hr.objs b vs S h
   exact⟨o,us,q1,q2,⟨q3.1,fun i x v a b'=>(q3.2 i x v a b').low hev (hb b _ hlt h x (List.mem_of_getElem? a))⟩,q4⟩

section ret
variable {C:Cx} {k:List Item} {env:Env} {H:Hp} {R:AV → Hp → Prop}

theorem ARun.retOwn {fn:Func} {α v sz:Nat} {xs:List PV} (hfn:C.P.funcs[C.fid]? = some fn) {rs:List ResultVar} (hrs:fn.results.toList=rs) (hx:zcC C.P rs env H=some (.sl α v sz xs)) (hα:H.f α=some (.tail v)) (hge:C.n0≤α) (hb:Bel C.n0 H)
 (hR:R (.sl C.n0 0 sz xs) ((H.trunc C.n0).new (.tail 0))) (hro:C.round=none:=by rfl):ARun C (.code .ret :: k) env H R:=by
 refine .leave hro hfn hrs hx _ (fun _ _ _ _ h=>stepR_ret h) _ _ hR fun σ w u h1 h2 _ => ?_
 obtain⟨q1,q3⟩:=ziK h1 hb hα hge
 refine⟨_,q1,?_,q3⟩
 cases h2 with | sl hp ht =>
 refine .sl (hp.mono q3.cell) ⟨by simp [Hp.n_new,Hp.n_trunc],fun k0 d hk0 => ?_⟩
 have e0:k0=0:=by simp [Hp.f_new,Hp.n_trunc] at hk0;omega
 subst e0
 refine⟨Nat.le_refl _,fun _ => ?_⟩
 have:=(ht.2 v _ hα).2 rfl
 simpa [Gh.withT] using this
end ret
end Go.AL

/-
  Loops over a function: the loop's record,the calls of its yield function,the rounds,the statement.
  Conditions: none;nothing here speaks of one program.
-/
namespace Go.AL
open Go

def zcQ (fn:FuncId) (ps:Array Tmp) (assign body:Code) (st:LoopState) (pend:Option Code):OS :=
 ⟨fun us o => ∃ d,o = .loop { state:=st,pending:=pend,fn,tmps:=us,params:=ps,assign,body,defers:=d },none,fun _ h=>by cases h⟩

def LoopL (L:LoopState → Option Code → OS):Prop := ∃ fn ps assign body,L=zcQ fn ps assign body

theorem LoopL.inv {L:LoopState → Option Code → OS} (h:LoopL L) {st:LoopState} {pend:Option Code} {us:Array Value} {o:Obj} (ho:L st pend us o) :
 ∃ r:Loop,o = .loop r∧r.state=st∧r.pending=pend ∧ ∀ st' pend',L st' pend' us (.loop { r with state:=st',pending:=pend' }):=by
 obtain⟨fn,ps,x,y,rfl⟩:=h
 obtain⟨d,rfl⟩:=ho
 exact⟨_,rfl,rfl,rfl,fun st' pend'=>⟨d,rfl⟩⟩

section states
variable {G:Globs} {σ:Gh} {H:Hp} {w:World}

end states

def zaT (nt:Nat) (env:Env):List AV:=(List.range nt).map env

def putArgs:List Nat → List AV → Env → Env
 | p :: ps,x :: xs,e=>putArgs ps xs (e.put (some p) x)
 | _,_,e=>e

def zKN (nt:Nat) (env:Env) (ps:List Nat) (args:List AV):Env:=putArgs ps args fun i=>if i < nt then env i else .tup []

theorem RelF.putArgs {nt m:Nat} {σ:Gh} {H:Hp} {w:World} : ∀ {ps:List Nat} {args:List AV} {vs:List Value} {env:Env} {tmps:Array Value},RelF nt m σ H w env { tmps,defers:=[] } → (∀ p∈ps,p < nt) → vs.length=args.length → (∀ (i:Nat) x v,args[i]? = some x → vs[i]? = some v → RelV σ H w x v) →
 RelF nt m σ H w (putArgs ps args env) { tmps:=(ps.zip vs).foldl (fun t x=>t.setIfInBounds x.1 x.2) tmps,defers:=[] }
 | [],args,vs,env,tmps,hf,_,_,_=>hf
 | p :: ps,[],vs,env,tmps,hf,_,hl,_=>by
  have:vs=[]:=by simpa using hl
  subst this;exact hf
 | p :: ps,x :: args,[],env,tmps,hf,_,hl,_=>by simp at hl
 | p :: ps,x :: args,v :: vs,env,tmps,hf,hp,hl,hr=>by
  have h1:RelF nt m σ H w (env.put (some p) x) { tmps:=tmps.setIfInBounds p v,defers:=[] }:=hf.put (d:=some p) (fun i hi=>by cases hi;exact hp p (by simp)) (hr 0 x v rfl rfl)
  exact RelF.putArgs (ps:=ps) h1 (fun q hq=>hp q (by simp [hq])) (by simpa using hl) (fun i x v a b=>hr (i+1) x v (by simpa using a) (by simpa using b))

theorem AYield.of_round {P:Program} {G:Globs} {b:Nat} {H:Hp} {R:AV → Hp → Prop} {fn:FuncId} {ps:List Nat} {assign body:Code} {nt:Nat} {env:Env} {args:List AV} {raw:List Nat}
 (hb:H.f b=some (.obj (zaT nt env) (zcQ fn ps.toArray assign body .ready none))) (hps : ∀ p∈ps,p < nt) (hl:args.length=ps.length)
 (h:ARun ⟨P,G,fn,nt,H.n,raw,some b⟩ [.code assign,.beginRound,.code body] (zKN nt env ps args) H R):AYield P G b args H R:=by
 intro σ w vs hr hvs
 obtain⟨o,us,q1,q2,q3,d,rfl⟩:=hr.objs b _ _ hb
 refine⟨_,_,_,_,run_yield q1 (by simpa [hl] using hvs.1),trivial,fun c cs _ => ?_⟩
 have hus:us.size=nt:=by simpa [zaT] using q3.1
 let fr:Frame := { (default:Frame) with fn:=fn,kind := .normal,roundOf:=some (σ.c b) }
 have hzip:((ps.toArray.zip vs).foldl (fun tmps (t,a)=>tmps.setIfInBounds t a) us)=(ps.zip vs.toList).foldl (fun t x=>t.setIfInBounds x.1 x.2) us:=by
  rw [←Array.foldl_toList]
  simp [Array.toList_zip]
 have h0:Frame.round (σ.c b) fn ((ps.zip vs.toList).foldl (fun t x=>t.setIfInBounds x.1 x.2) us) assign body .normal=fr.atR { tmps:=(ps.zip vs.toList).foldl (fun t x=>t.setIfInBounds x.1 x.2) us,defers:=[] } [.code assign,.beginRound,.code body]:=by
  simp [Frame.round,Frame.atR,fr]
 have hF0:RelF nt w.heap.size σ H w (fun i=>if i < nt then env i else .tup []) { tmps:=us,defers:=[] }:=by
  refine⟨⟨[],rfl,List.nodup_nil,by simp⟩,hus,fun i => ?_⟩
  simp only
  split
  · rename_i hi
    have h2:=q3.2 i (env i) us[i] (by simp [zaT,hi]) (by simp)
    simpa [Array.getD_eq_getD_getElem?,hus,hi] using h2
  · rename_i hi
    have:us.getD i undef=undef:=by simp [Array.getD_eq_getD_getElem?,Array.getElem?_eq_none (by omega:us.size≤i)]
    rw [this];exact .tup #[] rfl (by simp)
 have hF:=hF0.putArgs (ps:=ps) (args:=args) (vs:=vs.toList) hps (by simpa using hvs.1) (fun i x v e1 e2=>hvs.2 i x v e1 (by simpa using e2))
 obtain⟨r,H',σ',v,w',M,q,hst,⟨c1,cs1,hcs,rfl⟩,hrel',hv,hev⟩:=h σ w _ fr (c :: cs) w.heap.size ⟨rfl,rfl,rfl,fun _=>by simp⟩ ⟨hr,hF,Nat.le_refl _,Nat.le_refl _,fun l hl=>by cases hl;exact Hp.lt hb⟩
 cases hcs
 refine⟨.returned v,w',⟨r,H',σ',v,q,rfl,hrel',hv,hev⟩,?_⟩
 rw [hzip,h0]
 exact stepsIn_wide.2 hst

section rounds
variable {C:Cx} {k:List Item} {env:Env} {H:Hp} {R:AV → Hp → Prop} {l:Nat} {vs:List AV} {L:LoopState → Option Code → OS}

theorem ARun.beginRound (hro:C.round=some l) (hL:LoopL L) (hl:H.f l=some (.obj vs (L .ready none))) (h:ARun C k env (H.set l (.obj vs (L .busy none))) R):ARun C (.beginRound :: k) env H R:=by
 intro σ w a b cs m hb hpre
 obtain⟨o,us,q1,q2,q3,q4⟩:=hpre.rel.objs l _ _ hl
 obtain⟨r,rfl,hst,hp,hall⟩:=hL.inv q4
 have hrun:=run_beginRound (P:=C.P) q1 hst
 have e:({ r with state := .busy }:Loop) = { r with state := .busy,pending:=none }:=by cases r;simp only at hp;subst hp;rfl
 obtain⟨r1,e1⟩:=zbH hpre.rel hl q1 q2 q3 (o' := .loop { r with state := .busy }) rfl (by rw [e];exact hall .busy none)
 have hro':b.roundOf=some (σ.c l):=by rw [hb.ro,hro];rfl
 obtain⟨r',H',σ',v,w',M,q,st,q1',q2',q3',q5⟩:=h σ _ a b cs m hb (hpre.go r1 (hpre.fr.mono e1) e1)
 exact⟨r',H',σ',v,w',M,q,.head (stepR_beginRound hro' hrun) st,q1',q2',q3',e1.transM q5 hpre.n0 hpre.m⟩



theorem ARun.roundOverK (hro:C.round=some l) (hL:LoopL L) (hl:H.f l=some (.obj vs (L .busy none))) (jump:Option Code) (todo:List Item)
 (hR:R (.p (bo jump.isNone)) (H.set l (.obj vs (L (if jump.isNone then .ready else .done) jump))))
 (hs : ∀ (b:Frame) (a:Act) (c:Frame) cs w v w' g,b.roundOf=some g → b.kind = .normal → (Instr.endRound g jump).run C.P w = .ok v w' → step C.P (lone (b.atR a todo) (c :: cs) w) = .next (lone (c.finish v) cs w')):ARun C todo env H R:=by
 intro σ w a b cs m hbase hpre
 obtain⟨o,us,q1,q2,q3,q4⟩:=hpre.rel.objs l _ _ hl
 obtain⟨r,rfl,hst,hp,hall⟩:=hL.inv q4
 have hrun:=run_endRound (P:=C.P) jump q1
 obtain⟨r1,e1⟩:=zbH hpre.rel hl q1 q2 q3 (o' := .loop { r with state:=if jump.isNone then .ready else .done,pending:=jump }) rfl (hall _ _)
 have hro':b.roundOf=some (σ.c l):=by rw [hbase.ro,hro];rfl
 have hcs:=hbase.cs (by rw [hro];rfl)
 cases cs with
 | nil=>exact absurd rfl hcs
 | cons c cs =>
  refine⟨_,_,σ,.bool jump.isNone,_,lone (c.finish (.bool jump.isNone)) cs (w.putObj (σ.c l) (.loop { r with state:=if jump.isNone then .ready else .done,pending:=jump })),hR,.one (hs b a c cs w _ _ _ hro' hbase.kind hrun),?_,r1,.p (.s _ rfl),(e1.weaken hpre.n0).lower hpre.m⟩
  unfold Fin
  rw [hro]
  exact⟨c,cs,rfl,rfl⟩
theorem ARun.roundEndK (hro:C.round=some l) (hL:LoopL L) (hl:H.f l=some (.obj vs (L .busy none))) (hR:R (.p (bo true)) (H.set l (.obj vs (L .ready none)))):ARun C [] env H R :=
 .roundOverK hro hL hl none [] hR fun _ _ _ _ _ _ _ _ h1 h2 h3=>stepR_round_end h1 h2 h3
end rounds

section stmt
variable {C:Cx} {k:List Item} {env:Env} {H:Hp} {R:AV → Hp → Prop}

def zdI (C:Cx) (L:LoopState → Option Code → OS) (vs:List AV) (k:List Item) (env:Env) (H:Hp) (R:AV → Hp → Prop) (H2:Hp):Prop :=
 Bel H.n H2∧((H2.f H.n=some (.obj vs (L .ready none))∧ARun C k env (H2.trunc H.n) R) ∨
  ∃ j,H2.f H.n=some (.obj vs (L .done (some j)))∧ARun C (.code j :: k) env (H2.trunc H.n) R)

theorem RelVs.app {σ:Gh} {H:Hp} {w:World} {xs ys:List AV} {us vs:Array Value} (h1:RelVs σ H w xs us) (h2:RelVs σ H w ys vs):RelVs σ H w (xs++ys) (us++vs):=by
 refine⟨by simp [h1.1,h2.1],fun i x v e1 e2 => ?_⟩
 by_cases hi:i < us.size
 · rw [List.getElem?_append_left (by rw [←h1.1];exact hi)] at e1
   rw [Array.getElem?_append_left hi] at e2
   exact h1.2 i x v e1 e2
 · rw [List.getElem?_append_right (by rw [←h1.1];omega)] at e1
   rw [Array.getElem?_append_right (by omega)] at e2
   rw [←h1.1] at e1
   exact h2.2 _ x v e1 e2

theorem ARun.rangeFunc {g:Operand} {ps:List Nat} {assign body:Code} {f:FuncId} {first captured:List AV} (hro:C.round=none) (hg:yB C.G env g = .clo f first captured) (he:enters C.P f=true) (hps : ∀ p∈ps,p < C.nt)
 (h : ∀ (L:LoopState → Option Code → OS) (vs:List AV),LoopL L → (∀ y∈vs,BelowN H.n y) →
  (∀ (args:List AV) (H1:Hp) (K:AV → Hp → Prop),args.length=ps.length → H1.f H.n=some (.obj vs (L .ready none)) →
   (Bel H1.n H1 → ARun ⟨C.P,C.G,C.fid,C.nt,H1.n,C.raw,some H.n⟩ [.code assign,.beginRound,.code body] (zKN C.nt env ps args) H1 K) → AYield C.P C.G H.n args H1 K) →
  ACall C.P C.G f (first++[.yld H.n]++captured) (H.new (.obj vs (L .ready none))) fun _ H2=>zdI C L vs k env H R H2) :
 ARun C (.code (.rangeFunc g ps.toArray assign body) :: k) env H R:=by
 intro σ w a b cs m hb hpre
 have h:=h (zcQ C.fid ps.toArray assign body) (zaT C.nt env) ⟨_,_,_,_,rfl⟩ (fun y hy=>by
  simp only [zaT,List.mem_map] at hy
  obtain⟨i,_,rfl⟩:=hy
  exact (hpre.fr.slot i).belowN) fun args H1 K h1 h2 h3 σ w vs hr hvs=>AYield.of_round (raw:=C.raw) h2 hps h1 (h3 hr.bel) σ w vs hr hvs
 have hro':b.roundOf=none:=by rw [hb.ro,hro];rfl
 obtain⟨r1,e1⟩:=zhj hpre.rel (.deferred (some []))
 have hf1:=hpre.fr.mono e1
 have hus:RelVs σ H (w.alloc (.deferred (some []))) (zaT C.nt env) a.tmps:=⟨by simp [zaT,hpre.fr.size],fun i x v e1 e2=>by
  simp only [zaT,List.getElem?_map,Option.map_eq_some_iff] at e1
  obtain⟨j,hj,rfl⟩:=e1
  have hji:j=i:=by
   have:=List.getElem?_eq_some_iff.1 hj
   simpa using this.2.symm
  subst hji
  have:=hf1.slot j
  simpa [Array.getD_eq_getD_getElem?,e2] using this⟩
 obtain⟨r2,e2⟩:=zfq r1 (.loop { state := .ready,pending:=none,fn:=C.fid,tmps:=a.tmps,params:=ps.toArray,assign,body,defers:=w.heap.size }) rfl (zaT C.nt env) a.tmps (zcQ C.fid ps.toArray assign body .ready none) hus ⟨_,rfl⟩
 have e12:=e1.trans e2 (Nat.le_refl _)
 generalize hw2:(w.alloc (.deferred (some []))).alloc (.loop { state := .ready,pending:=none,fn:=C.fid,tmps:=a.tmps,params:=ps.toArray,assign,body,defers:=w.heap.size })=w2 at r2 e2 e12
 have hsz:(w.alloc (.deferred (some []))).heap.size=w.heap.size+1:=by simp
 have henter:(Instr.enterLoop b.fn a.tmps ps.toArray assign body b.roundOf).run C.P w = .ok (w.heap.size+1,[{ target := .collected w.heap.size,args := #[] }]) w2:=by
  rw [hro',run_enterLoop_outer,hb.fn,←hw2]
 rw [hsz] at r2 e2 e12
 -- the call
 have hgv:=zy hpre.rel hpre.fr g
 rw [hg] at hgv
 generalize hv:a.eval g=gv at hgv
 have hgv2:=hgv.mono e12
 cases hgv2 with | clo fs css c1 c2 c3 c4 =>
 have hargs:RelVs (σ.withC H.n (w.heap.size+1)) (H.new (.obj (zaT C.nt env) (zcQ C.fid ps.toArray assign body .ready none))) w2 (first++[.yld H.n]++captured) (fs ++ #[.func (.yield (w.heap.size+1)) #[] #[]]++css):=by
  refine RelVs.app (RelVs.app ⟨c1,c3⟩ ⟨rfl,fun i x v e1 e2 => ?_⟩) ⟨c2,c4⟩
  have hi:i=0:=by
   have:=(List.getElem?_eq_some_iff.1 e1).1
   simp at this;omega
  subst hi
  simp at e1 e2
  subst e1;subst e2
  have:(σ.withC H.n (w.heap.size+1)).c H.n=w.heap.size+1:=by simp [Gh.withC]
  have hh:=RelV.yld (σ:=σ.withC H.n (w.heap.size+1)) (H:=H.new (.obj (zaT C.nt env) (zcQ C.fid ps.toArray assign body .ready none))) (w:=w2) (b:=H.n) (by simp [Hp.n_new])
  rwa [this] at hh
 have hres:(resolve a.eval (rangeCall g (w.heap.size+1)) 0).run C.P w2 = .ok { target := .fn (.func f) css,args:=fs ++ #[.func (.yield (w.heap.size+1)) #[] #[]] } w2:=by
  have hc:a.eval (.const (.func (.yield (w.heap.size+1)) #[] #[])) = .func (.yield (w.heap.size+1)) #[] #[]:=rfl
  simp [resolve,hv,hc,Deferred.ofValue]
 have hinv:(invoke (.fn (.func f) css) (fs ++ #[.func (.yield (w.heap.size+1)) #[] #[]])).run C.P w2 = .ok (.enter f (fs ++ #[.func (.yield (w.heap.size+1)) #[] #[]]++css)) w2:=by
  simp only [invoke]
  exact zfv he _ w2
 have hstep:=stepR_rangeFunc (P:=C.P) (b:=b) (a:=a) (k:=k) (cs:=cs) (w:=w) henter hres hinv
 obtain⟨e,w3,fr,⟨rv,H3,σ3,v3,⟨hbel,hend⟩,rfl,r3,hv3,e3⟩,hst3,hfn3,hlv3⟩:=h (σ.withC H.n (w.heap.size+1)) w2 _ r2 hargs (b.atR { a with defers:=[{ target := .collected w.heap.size,args := #[] }]++a.defers } (.inRangeFunc (w.heap.size+1) :: k) :: cs)
 have hback:=step_leave_returned (P:=C.P) (c:=b.atR { a with defers:=[{ target := .collected w.heap.size,args := #[] }]++a.defers } (.inRangeFunc (w.heap.size+1) :: k)) (cs:=cs) hlv3
 rw [finish_atR_inRangeFunc] at hback
 have hlt3:H.n < (H.new (.obj (zaT C.nt env) (zcQ C.fid ps.toArray assign body .ready none))).n:=by simp [Hp.n_new]
 have hc3:σ3.c H.n=w.heap.size+1:=by rw [e3.c _ hlt3];simp [Gh.withC]
 have e13:Ev H.n σ H w σ3 H3 w3:=e12.trans (e3.weaken (by simp [Hp.n_new])) (Nat.le_refl _)
 -- the mark's block
 have hfree0:Free σ H w.heap.size:=⟨fun b' cs' h'=>by have:=hpre.rel.c_lt h';omega,fun b' k' d o s h' ht=>by have:=hpre.rel.t_lt h' ht;omega,fun b' vs' S h'=>by have:=hpre.rel.o_lt h';omega⟩
 have hmark2:w2.heap[w.heap.size]? = some (.deferred (some []))∧Free (σ.withC H.n (w.heap.size+1)) (H.new (.obj (zaT C.nt env) (zcQ C.fid ps.toArray assign body .ready none))) w.heap.size:=by
  have:=e2.blk w.heap.size (by omega) hfree0
  exact⟨this.1.trans (World.alloc_heap_new w _),this.2⟩
 have hmark3:=e3.blk w.heap.size (zaH hmark2.1) hmark2.2
 have key : ∀ st pend,H3.f H.n=some (.obj (zaT C.nt env) (zcQ C.fid ps.toArray assign body st pend)) → st ≠ .busy → ARun C ((pend.map Item.code).toList++k) env (H3.trunc H.n) R →
  ∃ r H' σ' v w' M,R r H'∧Steps C.P (lone (b.atR a (.code (.rangeFunc g ps.toArray assign body) :: k)) cs w) M∧Fin C cs w' v M∧Rel C.G σ' H' w'∧RelV σ' H' w' r v∧EvM C.n0 m σ H w σ' H' w':=by
  intro st pend hf hst hrun
  obtain⟨o,us,q1,q2,q3,d,rfl⟩:=r3.objs H.n _ _ hf
  rw [hc3] at q1
  have hel:=run_endLoop (P:=C.P) q1 hst
  obtain⟨r4,e4⟩:=zbH r3 hf (by rw [hc3];exact q1) q2 q3 (S':=zcQ C.fid ps.toArray assign body .exhausted pend) (o' := .loop { state := .exhausted,pending:=pend,fn:=C.fid,tmps:=us,params:=ps.toArray,assign,body,defers:=d }) rfl ⟨d,rfl⟩
  rw [hc3] at r4 e4
  generalize hw4:w3.putObj (w.heap.size+1) (.loop { state := .exhausted,pending:=pend,fn:=C.fid,tmps:=us,params:=ps.toArray,assign,body,defers:=d })=w4 at r4 e4
  have hbel4:Bel H.n (H3.set H.n (.obj (zaT C.nt env) (zcQ C.fid ps.toArray assign body .exhausted pend))):=(Bel.set_hi (Nat.le_refl _)).2 hbel
  obtain⟨r5,e5⟩:=zd4 r4 hbel4
  rw [Hp.trunc_set _ _ _ _ (Nat.le_refl _)] at r5 e5
  have e15:Ev H.n σ H w σ3 (H3.trunc H.n) w4:=(e13.trans (e4.weaken e13.hn) (Nat.le_refl _)).trans e5 (Nat.le_refl _)
  have hmark4:=e4.blk w.heap.size (zaH (hmark3.1.trans hmark2.1)) hmark3.2
  have hmark5:=e5.blk w.heap.size (zaH (hmark4.1.trans (hmark3.1.trans hmark2.1))) hmark4.2
  have hfr:=hpre.fr.mono e15
  have hfr':RelF C.nt m σ3 (H3.trunc H.n) w4 env { a with defers:=mark w.heap.size :: a.defers }:=by
   obtain⟨ms,d1,d2,d3⟩:=hfr.defers
   obtain⟨ms0,f1,f2,f3⟩:=hpre.fr.defers
   have hms:ms=ms0:=by
    have:=d1.symm.trans f1
    exact (List.map_inj_right (fun x y hxy=>by simpa [mark] using hxy)).1 this
   subst hms
   refine⟨⟨w.heap.size :: ms,by simp [d1],List.nodup_cons.2 ⟨fun hmem => ?_,d2⟩,fun r hr => ?_⟩,hfr.size,hfr.slot⟩
   · have:=zaH (f3 _ hmem).2.1;omega
   · rcases List.mem_cons.1 hr with rfl | hr
     · exact⟨hpre.m,hmark5.1.trans (hmark4.1.trans (hmark3.1.trans hmark2.1)),hmark5.2⟩
     · exact d3 r hr
  obtain⟨r',H',σ',v',w',M,q,st',p1,p2,p3,p5⟩:=hrun σ3 w4 _ b cs m (hb.mono hpre.n0 e15.c hpre.lt) (hpre.go r5 hfr' e15)
  refine⟨r',H',σ',v',w',M,q,?_,p1,p2,p3,e15.transM p5 hpre.n0 hpre.m⟩
  refine .head hstep (Steps.trans hst3 (.head hback (.head (stepR_endRangeFunc (hel.trans (by rw [hw4]))) st')))
 rcases hend with ⟨hf,hrun⟩ | ⟨j,hf,hrun⟩
 · exact key .ready none hf (by simp) hrun
 · exact key .done (some j) hf (by simp) hrun
end stmt

section kinds
variable {fl:Bool} {sz n a v b off len i sub:Nat} {xs:List PV} {f:FuncId} {x y:List AV}
theorem znP:zo (.p (.sl fl sz xs))=some [.p (.sl fl sz xs)]:=rfl
theorem zr2:zo (.sl a v sz xs)=some [.sl a v sz xs]:=rfl
theorem znQ:zo (.ref b off len sz)=some [.ref b off len sz]:=rfl
theorem znR:zo (.ptr b off)=some [.ptr b off]:=rfl
theorem zr3:zo (.ip sz xs i sub)=some [.ip sz xs i sub]:=rfl
theorem znS:zo (.clo f x y)=some [.clo f x y]:=rfl
theorem znT:zo (.yld b)=some [.yld b]:=rfl
theorem zu8:(PV.sl fl sz xs).isAgg=false:=rfl
theorem zr4:zaU false [.p (.sl fl sz xs)]=some (.sl fl sz xs):=rfl
theorem zld (h:xs.length=n):(PV.agg xs).aggOf 0 n = .agg xs:=by
 subst h
 simp [PV.aggOf,PV.isAgg,PV.cells]
end kinds
attribute [go_sem] znP zr2 znQ znR zr3 znS znT zu8 zr4 zld

theorem zBO {a b:Int} (h:a=b):AV.p (i64 a)=AV.p (i64 b):=by rw [h]

/-! ### Heaps with blocks on top; the slots of a round; what rows hold -/

def app (H:Hp) (T:List AB):Hp:=T.foldl Hp.new H

section app
variable {H:Hp} {b c:Nat} {x:AB} {T:List AB}
theorem zcn:app H []=H:=rfl
theorem yJ:app H (x :: T)=app (H.new x) T:=rfl
theorem app_n':(app H T).n=H.n+T.length:=by
 induction T generalizing H with
 | nil=>rfl
 | cons y T ih=>rw [yJ,ih,n_new',List.length_cons];omega
theorem zgb (h:b < H.n):(app H T).f b=H.f b:=by
 induction T generalizing H with
 | nil=>rfl
 | cons y T ih=>rw [yJ,ih (by rw [n_new'];omega),zkK (by omega)]
theorem zaN (h:b < H.n):(app H T).set b x=app (H.set b x) T:=by
 induction T generalizing H with
 | nil=>rfl
 | cons y T ih=>rw [yJ,ih (by rw [n_new'];omega),zfX h,yJ]
theorem zd6 (h:b≤H.n):(app H T).trunc b=H.trunc b:=by
 induction T generalizing H with
 | nil=>rfl
 | cons y T ih=>rw [yJ,ih (by rw [n_new'];omega),trunc_new' h]
theorem zpP:(H.new x)=app H [x]:=rfl
theorem zdJ {S:List AB}:app (app H T) S=app H (T++S):=by simp [app]
end app

def znU (nt:Nat) (env:Env):Env:=fun i=>if i < nt then env i else .tup []
theorem zr5 {nt i:Nat} {env:Env} (h:i < nt):znU nt env i=env i:=by simp [znU,h]
theorem zu9 {nt:Nat} {env:Env} {ps:List Nat} {args:List AV}:zKN nt env ps args=putArgs ps args (znU nt env):=rfl
theorem zle {xs:List AV} {e:Env}:putArgs [] xs e=e:=by cases xs<;>rfl
theorem ziL {p:Nat} {ps:List Nat} {x:AV} {xs:List AV} {e:Env}:putArgs (p :: ps) (x :: xs) e=putArgs ps xs (e.put (some p) x):=rfl
attribute [go_sem] zgb zaN zd6 app_n' zr5 zu9 zle ziL

theorem BelowN.mono {n m:Nat} (h:n≤m) {x:AV} (r:BelowN n x):BelowN m x:=by
 induction r with
 | p x=>exact .p x
 | sl a v sz xs h1=>exact .sl _ _ _ _ (by omega)
 | ref b off len sz h1=>exact .ref _ _ _ _ (by omega)
 | ptr b off h1=>exact .ptr _ _ (by omega)
 | ip sz xs i sub=>exact .ip _ _ _ _
 | clo fn a c _ _ ih1 ih2=>exact .clo _ _ _ ih1 ih2
 | tup xs _ ih=>exact .tup _ ih
 | agg xs _ ih=>exact .agg _ ih
 | yld b h1=>exact .yld _ (by omega)
 | mp b h1=>exact .mp _ (by omega)
 | vr b _ _ h1=>exact .vr _ _ _ (by omega)
 | vp b _ _ h1=>exact .vp _ _ _ (by omega)
 | top=>exact .top

section bel
variable {n m b:Nat} {H:Hp} {x:AB} {α:Type} {f:α → PV} {l:List α} {T:List AB}
theorem zva (h:Bel m H) (hm:H.n≤m) (hn:m≤n):Bel n H:=fun b x _ hf y hy=>(h b x (Nat.lt_of_lt_of_le (Hp.lt hf) hm) hf y hy).mono hn
theorem yT (h:Bel H.n H) (hn:H.n≤n):Bel n H:=zva h (Nat.le_refl _) hn
theorem yD (h:Bel n H) (hx : ∀ y∈x.vals,BelowN n y):Bel n (H.new x):=fun b z hb hf y hy=>by
 rw [Hp.f_new] at hf
 split at hf
 · cases hf;exact hx y hy
 · exact h b z hb hf y hy
theorem za5 (h:Bel n H):Bel n (H.new (.cells (cl f l))):=yD h fun y hy=>by
 simp only [AB.vals,cl,List.mem_map] at hy
 obtain⟨a,_,rfl⟩:=hy
 exact .p _
theorem za6 {z:PV} (h:Bel n H):Bel n (H.new (.cells [.p z])):=yD h fun y hy=>by
 simp only [AB.vals,List.mem_singleton] at hy
 subst hy;exact .p _
theorem za7 {k:Nat} (h:Bel n H):Bel n (H.new (.tail k)):=yD h fun y hy=>by simp [AB.vals] at hy
theorem za8 {vs:List AV} {S:OS} (hv : ∀ y∈vs,BelowN m y) (h:Bel n H) (hm:m≤n):Bel n (H.new (.obj vs S)):=yD h fun y hy=>(hv y hy).mono hm
theorem zca (h:Bel n H) (hx : ∀ y∈x.vals,BelowN n y):Bel n (H.set b x):=fun c z hb hf y hy=>by
 rw [Hp.f_set] at hf
 split at hf
 · cases hf;exact hx y hy
 · exact h c z hb hf y hy
theorem za9 {z:PV} (h:Bel n H):Bel n (H.set b (.cells [.p z])):=zca h fun y hy=>by
 simp only [AB.vals,List.mem_singleton] at hy
 subst hy;exact .p _
theorem zba {k:Nat} (h:Bel n H):Bel n (H.set b (.tail k)):=zca h fun y hy=>by simp [AB.vals] at hy
end bel

end Go.AL

/-
  Rows that are written no more become plain data.
  Conditions: none;nothing here speaks of one program.
-/
namespace Go.AL
open Go

theorem ARun.ghost {C:Cx} {todo:List Item} {env env':Env} {H H':Hp} {R:AV → Hp → Prop}
 (hg : ∀ σ w a m,Pre C σ H w env a m → ∃ σ',Rel C.G σ' H' w∧(∀ i,RelV σ' H' w (env' i) (a.tmps.getD i undef))∧Ev H.n σ H w σ' H' w) (h:ARun C todo env' H' R):ARun C todo env H R:=by
 intro σ w a b cs m h1 hpre
 obtain⟨σ',hr,hs,hev⟩:=hg σ w a m hpre
 have h4:=hpre.fr.mono hev
 obtain⟨r,H2,σ2,v,w2,M,q,st,q1,q2,q3,q5⟩:=h σ' w a b cs m (h1.mono hpre.n0 hev.c hpre.lt) (hpre.go hr ⟨h4.defers,h4.size,hs⟩ hev)
 exact⟨r,H2,σ2,v,w2,M,q,st,q1,q2,q3,hev.transM q5 hpre.n0 hpre.m⟩

section states
variable {G:Globs} {σ:Gh} {H:Hp} {w:World}

theorem zdK (hr:Rel G σ H w) (b:Nat):Rel G σ (H.set b .dead) w∧Ev H.n σ H w σ (H.set b .dead) w:=by
 have hf : ∀ b' x,x ≠ .dead → (H.set b .dead).f b'=some x → H.f b'=some x:=by
  intro b' x hx h
  rw [Hp.f_set] at h
  split at h
  · cases h;exact absurd rfl hx
  · exact h
 have fc : ∀ b' x,(H.set b .dead).f b'=some (.cells x) → H.f b'=some (.cells x):=fun b' x h=>hf b' _ (by simp) h
 have ft : ∀ b' k d,(H.set b .dead).f b'=some (.tl k d) → H.f b'=some (.tl k d):=fun b' x d h=>hf b' _ (by simp) h
 have fo : ∀ b' vs S,(H.set b .dead).f b'=some (.obj vs S) → H.f b'=some (.obj vs S):=fun b' x _ h=>hf b' _ (by simp) h
 have hev:Ev H.n σ H w σ (H.set b .dead) w :=
  ⟨fun g o v h1 h2=>⟨⟨fun b' x h=>h1.1 b' x (fc _ _ h),fun b' k d o2 s h=>h1.2 b' k d o2 s (ft _ _ _ h)⟩,h2⟩,fun _ _=>rfl,Nat.le_refl _,fun b' _ k d hk=>⟨k,d,ft b' k d hk,Nat.le_refl _,fun _=>rfl⟩,Nat.le_refl _,
   fun g _ hg=>⟨rfl,fun b' x h=>hg.1 b' x (fc _ _ h),fun b' k d o2 s h=>hg.2 b' k d o2 s (ft _ _ _ h),fun b' vs S h=>hg.3 b' vs S (fo _ _ _ h)⟩,rfl,rfl⟩
 refine⟨⟨fun b' x h => ?_,fun b' k d g o s h ht=>hr.tail b' k d g o s (ft _ _ _ h) ht,hr.vec_keep hev (fun b' k ds h=>⟨ft _ _ _ h,rfl⟩) (fun _ _ _ _ _ _ _ _ _=>rfl),fun b1 b2 x y h1 h2=>hr.cc b1 b2 x y (fc _ _ h1) (fc _ _ h2),fun b1 b2 x k d g o s h1 h2=>hr.ct b1 b2 x k d g o s (fc _ _ h1) (ft _ _ _ h2),
  fun b1 b2 k d k' d' g o s o' s' h1 h2=>hr.tt b1 b2 k d k' d' g o s o' s' (ft _ _ _ h1) (ft _ _ _ h2),hr.glob_mono hev,fun b' vs S h => ?_,fun b1 b2 v1 v2 S1 S2 h1 h2=>hr.oo b1 b2 v1 v2 S1 S2 (fo _ _ _ h1) (fo _ _ _ h2),hr.gm_mono hev⟩,hev⟩
 · obtain⟨c,e,q1,q2,q3⟩:=hr.cells b' x (fc _ _ h)
   exact⟨c,e,q1,q2,fun i y hy=>let ⟨v,p,q⟩:=q3 i y hy;⟨v,p,q.mono hev⟩⟩
 · obtain⟨o,us,q1,q2,q3,q4⟩:=hr.objs b' vs S (fo _ _ _ h)
   exact⟨o,us,q1,q2,q3.mono hev,q4⟩

theorem zel (hr:Rel G σ H w) {b:Nat} {cs:List AV} (hb:H.f b=some (.cells cs)) (o:Nat):Stable σ (H.set b .dead) (σ.c b) o:=by
 have hf : ∀ b' x,x ≠ .dead → (H.set b .dead).f b'=some x → b'≠b∧H.f b'=some x:=by
  intro b' x hx h
  rw [Hp.f_set] at h
  split at h
  · cases h;exact absurd rfl hx
  · rename_i hh
    exact⟨fun e=>hh ⟨e,Hp.lt hb⟩,h⟩
 refine⟨fun b' x h e => ?_,fun b' k d o2 s h ht => ?_⟩
 · obtain⟨h1,h2⟩:=hf b' _ (by simp) h
   exact h1 (hr.cc b' b x cs h2 hb e)
 · obtain⟨h1,h2⟩:=hf b' _ (by simp) h
   exact absurd rfl (hr.ct b b' cs k _ _ o2 s hb h2 ht)

theorem zgc (hr:Rel G σ H w) {b:Nat} {ps:List PV} (hb:H.f b=some (.cells (ps.map .p))) : ∃ f:Nat → Value,∀ k y,ps[k]? = some y →
 Stable σ (H.set b .dead) (σ.c b) k∧w.cell? ⟨σ.c b,k,none⟩=some (f k)∧(f k).oneCell'=true∧RelP w (Stable σ (H.set b .dead)) y (f k):=by
 obtain⟨c,e,q1,q2,q3⟩:=hr.cells b _ hb
 obtain⟨_,hev⟩:=zdK hr b
 refine⟨fun k=>(c[k]?).getD undef,fun k y hy => ?_⟩
 obtain⟨v,p1,p2⟩:=q3 k (.p y) (by simp [hy])
 refine⟨zel hr hb k,by simp [World.cell?,q1,p1],by simpa [p1] using p2.2,?_⟩
 have:=p2.1.mono hev
 cases this with | p hp=>simpa [p1] using hp
end states

theorem zd7 : ∀ {ps:List PV},(∀ y∈ps,y.cells=[y]) → flat ps=ps
 | [],_=>rfl
 | a :: ps,h=>by show a.cells++flat ps=_;rw [h a (by simp),zd7 (fun y hy=>h y (by simp [hy]))];rfl

section freeze
variable {C:Cx} {todo:List Item} {env:Env} {H:Hp} {R:AV → Hp → Prop} {α:Type} {f:α → PV} {l:List α}

theorem ARun.frzP (t:Nat) {b:Nat} (ht:env t = .ptr b 0) (hb:H.f b=some (.cells (cl f l))) (_hf : ∀ x,(f x).cells=[f x]) (hl:0 < l.length)
 (h:ARun C todo (env.put (some t) (.ip l.length [.agg (pl f l)] 0 0)) (H.set b .dead) R):ARun C todo env H R :=
 .ghost (fun σ w a m hpre=>by
  rw [←znI] at hb
  obtain⟨r1,e1⟩:=zdK hpre.rel b
  obtain⟨F,hF⟩:=zgc hpre.rel hb
  refine⟨σ,r1,fun i => ?_,e1⟩
  simp only [Env.put]
  by_cases hi:i=t
  · subst hi
    rw [if_pos rfl]
    have hs:=hpre.fr.slot i
    rw [ht] at hs
    generalize a.tmps.getD i undef=v at hs
    cases hs with | ptr hbn =>
    have hlen:(pl f l).length=l.length:=zbZ
    have hget : ∀ k,k < l.length → ∃ y,(pl f l)[k]? = some y:=fun k hk=>⟨_,List.getElem?_eq_getElem (by rw [hlen];exact hk)⟩
    have:=RelV.ip (σ:=σ) (H:=H.set b .dead) (w:=w) (sz:=l.length) (xs:=[.agg (pl f l)]) (i:=0) (sub:=0) (g:=σ.c b) (off:=0) (cap:=1)
     (.sl false _ _ _ 0 1 F (by simp) ⟨by simp,by unfold maxLen;omega⟩ (fun x hx=>by simp only [List.mem_singleton] at hx;subst hx;exact hlen)
      (fun k hk=>by
       simp only [List.length_singleton,Nat.one_mul] at hk
       obtain⟨y,hy⟩:=hget k hk
       obtain⟨p1,p2,p3,_⟩:=hF k y hy
       rw [Nat.zero_add];exact⟨p1,p2,p3⟩)
      (fun k y hy=>by
       have:flat [PV.agg (pl f l)]=pl f l:=by simp [flat,PV.cells]
       rw [this] at hy
       exact (hF k y hy).2.2.2)) (by simp) hl
    simpa using this
  · rw [if_neg hi];exact (hpre.fr.slot i).mono e1) h

theorem ARun.frzS (t:Nat) {b off len:Nat} (ht:env t = .ref b off len 1) (hb:H.f b=some (.cells (cl f l))) (hf : ∀ x,(f x).cells=[f x]) (hl:off+len≤l.length)
 (h:ARun C todo (env.put (some t) (.p (.sl false 1 (pl f ((l.drop off).take len))))) (H.set b .dead) R):ARun C todo env H R :=
 .ghost (fun σ w a m hpre=>by
  rw [←znI] at hb
  obtain⟨r1,e1⟩:=zdK hpre.rel b
  obtain⟨F,hF⟩:=zgc hpre.rel hb
  refine⟨σ,r1,fun i => ?_,e1⟩
  simp only [Env.put]
  by_cases hi:i=t
  · subst hi
    rw [if_pos rfl]
    have hs:=hpre.fr.slot i
    rw [ht] at hs
    generalize a.tmps.getD i undef=v at hs
    cases hs with | ref ad h0 hbn hcap ha =>
    obtain⟨g,o,rfl⟩:=h0
    have hlen:(pl f ((l.drop off).take len)).length=len:=by rw [zbZ,List.length_take,List.length_drop];omega
    have hget : ∀ k,k < len → ∃ y,(pl f l)[off+k]? = some y∧(pl f ((l.drop off).take len))[k]? = some y:=fun k hk=>by
     refine⟨_,List.getElem?_eq_getElem (by rw [zbZ];omega),?_⟩
     rw [←zpM,←zpN,List.getElem?_take_of_lt hk,List.getElem?_drop]
     exact List.getElem?_eq_getElem _
    have hone : ∀ y∈pl f ((l.drop off).take len),y.cells=[y]:=fun y hy=>by
     simp only [pl,List.mem_map] at hy
     obtain⟨x,_,rfl⟩:=hy
     exact hf x
    have key:=RelP.sl (w:=w) (S:=Stable σ (H.set b .dead)) false 1 (pl f ((l.drop off).take len)) g o _ (fun k=>F (off+k)) (by simp) ⟨by rw [hlen];exact hcap.1,hcap.2⟩ (fun y hy=>by rw [hone y hy];rfl)
     (fun k hk=>by
      rw [hlen,Nat.mul_one] at hk
      obtain⟨y,hy,_⟩:=hget k hk
      obtain⟨p1,p2,p3,_⟩:=hF _ y hy
      have:=ha (by omega)
      cases this
      exact⟨zel hpre.rel hb _,p2,p3⟩)
     (fun k y hy=>by
      rw [zd7 hone] at hy
      have hk:=(List.getElem?_eq_some_iff.1 hy).1
      rw [hlen] at hk
      obtain⟨y',h1,h2⟩:=hget k hk
      rw [h2] at hy;cases hy
      exact (hF _ _ h1).2.2.2)
    rw [hlen] at key
    exact .p key
  · rw [if_neg hi];exact (hpre.fr.slot i).mono e1) h

theorem zbb {n b:Nat} (h:Bel n H):Bel n (H.set b .dead):=zca h fun y hy=>by simp [AB.vals] at hy
theorem zbc {n:Nat} (h:Bel n H):Bel n (H.new .dead):=yD h fun y hy=>by simp [AB.vals] at hy
end freeze

/-! ### Bytes and strings -/

def bytesOf (l:List (BitVec 8)):ByteArray:=⟨(l.map fun x=>UInt8.ofBitVec x).toArray⟩
def sb (s:ByteArray) (n:Nat):BitVec 8:=(s.data.toList.getD n 0).toBitVec

def zcb (P:Program) (t:TypeId):Bool:=match P.underlying t with | some (.slice e)=>(match P.underlying e with | some (.int .u8)=>P.cellsOf e == 1 | _=>false) | _=>false
theorem zco {P:Program} {t:TypeId} (h:zcb P t=true) : ∃ e,P.underlying t=some (.slice e)∧P.underlying e=some (.int .u8)∧P.cellsOf e=1:=by
 unfold zcb at h
 split at h
 · rename_i e hu
   split at h
   · rename_i hv;exact⟨e,hu,hv,by simpa using h⟩
   · cases h
 · cases h

theorem zgd (l:List (BitVec 8)):zaq (pl b8 l)=some (l.map fun x=>UInt8.ofBitVec x):=by
 induction l with
 | nil=>rfl
 | cons a l ih =>
  have ha:=a.isLt
  simp only [pl,List.map_cons,b8] at ih ⊢
  simp [zaq,ih]

theorem zaO {P:Program} {H:Hp} {s d:TypeId} {fl:Bool} {l:List (BitVec 8)} (hs:zcb P s=true) (hd:P.underlying d=some .string):zO P H s d (.p (.sl fl 1 (pl b8 l)))=some (.p (str (bytesOf l))):=by
 obtain⟨e,h1,h2,h3⟩:=zco hs
 simp only [zO,h1,hd,zaC,h2,h3,if_true,yW,true_or,zgd,Option.map_some]
 rfl
theorem zlf {P:Program} {H:Hp} {s d:TypeId} {a v:Nat} {l:List (BitVec 8)} (hs:zcb P s=true) (hd:P.underlying d=some .string):zO P H s d (.sl a v 1 (pl b8 l))=some (.p (str (bytesOf l))):=by
 obtain⟨e,h1,h2,h3⟩:=zco hs
 simp only [zO,h1,hd,zaC,h2,h3,if_true,yW,true_or,zgd,Option.map_some]
 rfl
theorem zBP {P:Program} {s:ByteArray} {n:Int} (h0:0≤n) (h:n.toNat < s.size):zfa P (some .string) (.p (str s)) (some n)=some (.p (b8 (sb s n.toNat))):=by
 have h2:s[n.toNat]? = some s[n.toNat]:=by simp [h]
 have h3:(s.data.toList).getD n.toNat 0=s[n.toNat]:=by
  rw [List.getD_eq_getElem?_getD,List.getElem?_eq_getElem (by simpa using h)];rfl
 simp only [zfa,b8,str,h2,Option.map_some,if_pos h0,sb,h3]
 rfl


attribute [go_sem] zaO zlf zBP
end Go.AL

/-
  From the runs on abstract values to a row's statement: what a law's call leaves,what its arguments read as.
  Conditions: none;nothing here speaks of one program.
-/
namespace Go.AL
open Go Go.ChangeShapes Go.WideShapes Go.ChangeAt Go.RowKit

section post
variable {H:Type} {enc:TypeId × Value → H} {P:Program}

theorem zde {W W':World} {sp:Nat → Bool} (hl:laidOutB P=true) : ∀ {ts:List TypeId} {vs:List Value} {ds:List (DataW H)} {ps:List MemPlace},(∀ t∈ts,P.readableRec t=true∧t < P.types.size) →
 DataW.TrodAll enc P W 0 (fun _=>true) true ts vs ds ps → (∀ p∈ps,W.sameAt W' p) → (∀ p∈ps,sp p.block=true) → DataW.TrodAll enc P W' 0 sp true ts vs ds ps
 | [],vs,ds,ps,_,h,_,_=>by
  obtain⟨rfl,rfl,rfl⟩:=trodAll_nil h
  exact trodAll_mk0
 | t :: ts,vs,ds,ps,hr,h,h1,h2=>by
  obtain⟨v,vs',d,ds',p,q,rfl,rfl,rfl,h3,h4⟩:=trodAll_cons h
  exact trodAll_cons_mk (WideElems.Trod_stays hl (hr t (by simp)).1 (hr t (by simp)).2 h3 (fun x hx=>h1 x (by simp [hx])) (fun x hx=>h2 x (by simp [hx])))
   (zde hl (fun u hu=>hr u (by simp [hu])) h4 (fun x hx=>h1 x (by simp [hx])) (fun x hx=>h2 x (by simp [hx])))

theorem zvb {f:Func} {s:ChangeSpec} {W W':World} {args:Array Value} {ds gs:List (DataW H)} {before:List MemPlace} {tb:TypeId} (hl:laidOutB P=true) (hr : ∀ t∈f.params.toList,P.readableRec t=true∧t < P.types.size)
 (hv0:s.vars=[]) (hW:DataW.Whole enc P f.params.toList s.vars false W args.toList ds gs before) (hfn:s.fn H ds = { results:=[.lit (.bool true)],args:=ds })
 (hrt:f.resultTypes = #[tb]) (htb:P.underlying tb=some .bool) (hblk : ∀ g,g < W.heap.size → W'.heap[g]? = W.heap[g]?) (hos:W'.os=W.os) (hout:W'.output=W.output) :
 s.post enc P f false true false false W args (.bool true) W':=by
 have hlt:=hW.lt
 have hW0:=hW
 obtain⟨p,q,hA,hV,hbe,hz,hn⟩:=hW
 rw [hv0] at hV
 obtain⟨rfl,rfl⟩:=trodVars_none hV
 rw [List.append_nil] at hbe
 subst hbe
 have hsame : ∀ x∈before,W.sameAt W' x:=fun x hx=>by
  have h1:=hblk x.block (hlt x hx)
  cases x with
  | cell b off=>simp only [MemPlace.block] at h1;simp [World.sameAt,World.cell?,h1]
  | map b=>simp only [MemPlace.block] at h1;simpa [World.sameAt] using h1
 refine⟨ds,[],before,[],before,[],hW0,?_,?_,?_,?_,fun h=>by cases h⟩
 · rw [List.append_nil,hfn,hrt]
   exact trodAll_cons_mk (shut_bool htb true) trodAll_mk0
 · rw [List.append_nil,hfn]
   exact zde hl hr hA hsame fun x hx=>by simpa using hlt x hx
 · rw [List.append_nil,hfn,hv0]
   exact rfl
 · refine⟨hos,hout,fun i hi => ?_⟩
   rw [hblk i hi]
   cases hw:W.heap[i]? with
   | none=>rfl
   | some o=>cases o<;>simp
end post

/-! ### The start of a law's run -/

def H0:Hp:=⟨fun _=>none,0,fun _ _=>rfl⟩
def σ0:Gh:=⟨fun _=>0,fun _=>none⟩

theorem zRj {G:Globs} {W:World} (hG : ∀ g sz xs,G g=some (sz,xs) → RelV σ0 H0 W (.ip sz xs 0 0) (.pointer (some ⟨g,0,none⟩))) (hM : ∀ r m,G.map r=some m → GMap σ0 H0 W r m):Rel G σ0 H0 W :=
 ⟨fun _ _ h=>(by cases h),fun _ _ _ _ _ _ h=>(by cases h),fun _ _ _ h=>(by cases h),fun _ _ _ _ h=>(by cases h),fun _ _ _ _ _ _ _ _ h=>(by cases h),fun _ _ _ _ _ _ _ _ _ _ _ h=>(by cases h),hG,fun _ _ _ h=>(by cases h),fun _ _ _ _ _ _ h=>(by cases h),hM⟩

theorem ziM (g o:Nat):Stable σ0 H0 g o:=⟨fun _ _ h=>(by cases h),fun _ _ _ _ _ h=>(by cases h)⟩
theorem zJX (g:Nat):Free σ0 H0 g:=⟨fun _ _ h=>(by cases h),fun _ _ _ _ _ h=>(by cases h),fun _ _ _ h=>(by cases h)⟩

theorem zr6 {P:Program} {G:Globs} {f:FuncId} {args:List AV} {W:World} {vs:Array Value} (h:ACall P G f args H0 fun r _=>r = .p (bo true)) (hr:Rel G σ0 H0 W) (hv:RelVs σ0 H0 W args vs) :
 Calls P f vs W fun e W'=>e = .returned (.bool true)∧(∀ g,g < W.heap.size → W'.heap[g]? = W.heap[g]?)∧W'.os=W.os∧W'.output=W.output:=by
 refine (h σ0 W vs hr hv).mono ?_
 rintro e W' ⟨r,H',σ',v,rfl,rfl,hrel,hrv,hev⟩
 cases hrv.bool_inv
 exact⟨rfl,fun g hg=>(hev.blk g hg (zJX g)).1,hev.os,hev.out⟩

theorem zge {P:Program} {W:World} {name:String} {g:Nat} {l:List (BitVec 32)} {zs:List Int} (h:Lib.TabIs P W name .u32 zs) (hg:P.globalNamed name=some g) (hz:zs=l.map fun x=>(x.toNat:Int)) (hl:0 < l.length) :
 RelV σ0 H0 W (.ip l.length [.agg (pl zC l)] 0 0) (.pointer (some ⟨g,0,none⟩)):=by
 subst hz
 have hcell : ∀ i,i < l.length → W.cell? ⟨g,i,none⟩=some (.int .u32 ((l[i]?).getD 0).toNat):=fun i hi=>by
  have:=h.cell hg i (by simpa using hi)
  rw [this]
  simp [List.getD,hi]
 have:=RelV.ip (σ:=σ0) (H:=H0) (w:=W) (sz:=l.length) (xs:=[.agg (pl zC l)]) (i:=0) (sub:=0) (g:=g) (off:=0) (cap:=1)
  (.sl false _ _ _ 0 1 (fun k => .int .u32 ((l[k]?).getD 0).toNat) (by simp) ⟨by simp,by unfold maxLen;omega⟩ (fun x hx=>by simp only [List.mem_singleton] at hx;subst hx;exact zbZ)
   (fun k hk=>by
    simp only [List.length_singleton,Nat.one_mul] at hk
    rw [Nat.zero_add]
    exact⟨ziM _ _,hcell k hk,rfl⟩)
   (fun k y hy=>by
    have:flat [PV.agg (pl zC l)]=pl zC l:=by simp [flat,PV.cells]
    rw [this] at hy
    simp only [pl,List.getElem?_map,Option.map_eq_some_iff] at hy
    obtain⟨x,hx,rfl⟩:=hy
    rw [hx]
    exact .s _ rfl)) (by simp) hl
 simpa using this

/-! ### What arguments read as -/
section read
variable {H:Type} {enc:TypeId × Value → H} {P:Program} {W:World} {sp:Nat → Bool} {held:Bool}


end read
end Go.AL

/-
  What arguments read as: plain data (numbers,bools,strings,structs,arrays and slices of these),by recursion on the type.
  Conditions: none;nothing here speaks of one program.
-/
namespace Go.AL
open Go Go.ChangeShapes Go.WideShapes Go.ChangeAt Go.RowKit

def zcc (b:Bool) (ys:List PV):PV:=if b then .agg ys else ys.headD (.agg [])

def zcR (P:Program):Nat → List Field → Option Nat
 | o,[]=>some o
 | o,f :: fs=>if f.offset=o then zcR P (o+P.cellsOf f.type) fs else none

def zbJ (P:Program):Nat → TypeId → Bool
 | 0,_=>false
 | k+1,t=>match P.underlying t with
  | some .bool | some (.int _) | some .string=>true
  | some (.slice e)=>zbJ P k e && (decide (0 < P.cellsOf e) && (zg P e || P.cellsOf e == 1))
  | some (.struct fs)=>fs.toList.all (fun f=>zbJ P k f.type) && zcR P 0 fs.toList == some (P.cellsOf t)
  | some (.array n e)=>zbJ P k e && n*P.cellsOf e == P.cellsOf t
  | _=>false

def ziN (R:TypeId → List PV → Prop) (P:Program):List Field → List PV → Prop
 | [],xs=>xs=[]
 | f :: fs,xs => ∃ ys zs,xs=ys++zs∧ys.length=P.cellsOf f.type∧R f.type ys∧ziN R P fs zs

def Reads (P:Program):Nat → TypeId → List PV → Prop
 | 0,_,_=>False
 | k+1,t,xs=>match P.underlying t with
  | some .bool => ∃ b,xs=[.s (.bool b)]
  | some (.int κ) => ∃ n,(Lit.int κ n).wf=true∧xs=[.s (.int κ n)]
  | some .string => ∃ s:ByteArray,s.size≤maxLen∧xs=[.s (.string s)]
  | some (.slice e) => ∃ yss:List (List PV),yss.length≤maxLen∧(∀ y∈yss,y.length=P.cellsOf e∧Reads P k e y)∧xs=[.sl false (P.cellsOf e) (yss.map (zcc (zg P e)))]
  | some (.struct fs)=>ziN (Reads P k) P fs.toList xs
  | some (.array n e) => ∃ yss:List (List PV),yss.length=n∧(∀ y∈yss,y.length=P.cellsOf e∧Reads P k e y)∧xs=yss.flatten
  | _=>False

def RowP (W:World) (xs:List PV) (cs:List Value):Prop :=
 xs.length=cs.length ∧ ∀ (i:Nat) x v,xs[i]? = some x → cs[i]? = some v → RelP W (Stable σ0 H0) x v∧v.oneCell'=true∧x.isAgg=false

section gen
variable {H:Type} {enc:TypeId × Value → H} {P:Program} {W:World} {sp:Nat → Bool} {held:Bool} {base:Nat}

theorem RowP.nil:RowP W [] []:=⟨rfl,fun i x v h=>by simp at h⟩
theorem RowP.one {x:PV} {v:Value} (h:RelP W (Stable σ0 H0) x v) (h1:v.oneCell'=true) (h2:x.isAgg=false):RowP W [x] [v] :=
 ⟨rfl,fun i y u hy hu=>by
  have hi:i < 1:=by simpa using (List.getElem?_eq_some_iff.1 hy).1
  have:i=0:=by omega
  subst this
  simp at hy hu;subst hy;subst hu
  exact⟨h,h1,h2⟩⟩
theorem RowP.append {xs ys:List PV} {cs ds:List Value} (h:RowP W xs cs) (h':RowP W ys ds):RowP W (xs++ys) (cs++ds):=by
 refine⟨by simp [h.1,h'.1],fun i x v hx hv => ?_⟩
 by_cases hi:i < xs.length
 · rw [List.getElem?_append_left hi] at hx
   rw [List.getElem?_append_left (by rw [←h.1];exact hi)] at hv
   exact h.2 i x v hx hv
 · rw [List.getElem?_append_right (by omega)] at hx
   rw [List.getElem?_append_right (by rw [←h.1];omega),←h.1] at hv
   exact h'.2 _ x v hx hv

theorem zdL {α β:Type} {f:α → Option β} : ∀ {l:List α} {ys:List β},l.mapM f=some ys → ys.length=l.length ∧ ∀ (i:Nat) x,l[i]? = some x → ∃ y,ys[i]? = some y∧f x=some y
 | [],ys,h=>by simp at h;subst h;exact⟨rfl,fun i x h=>by simp at h⟩
 | a :: l,ys,h=>by
  rw [List.mapM_cons] at h
  cases ha:f a with
  | none=>simp [ha] at h
  | some b =>
   cases hl:l.mapM f with
   | none=>simp [ha,hl] at h
   | some bs =>
    simp [ha,hl] at h
    subst h
    obtain⟨h1,h2⟩:=zdL hl
    refine⟨by simp [h1],fun i x hx => ?_⟩
    cases i with
    | zero=>simp at hx;subst hx;exact⟨b,rfl,ha⟩
    | succ i=>simp at hx;simpa using h2 i x hx

theorem list_of' {α:Type} {p:Nat → α → Prop} : ∀ (n:Nat),(∀ i,i < n → ∃ x,p i x) → ∃ l:List α,l.length=n ∧ ∀ (i:Nat) x,l[i]? = some x → p i x
 | 0,_=>⟨[],rfl,fun i x h=>by simp at h⟩
 | n+1,h=>by
  obtain⟨l,h1,h2⟩:=list_of' n fun i hi=>h i (by omega)
  obtain⟨x,hx⟩:=h n (by omega)
  refine⟨l++[x],by simp [h1],fun i y hy => ?_⟩
  by_cases hi:i < l.length
  · rw [List.getElem?_append_left hi] at hy;exact h2 i y hy
  · rw [List.getElem?_append_right (by omega)] at hy
    have hl:i - l.length < 1:=by have:=(List.getElem?_eq_some_iff.1 hy).1;simpa using this
    have:i=n:=by omega
    subst this
    rw [h1,Nat.sub_self] at hy
    simp at hy;subst hy;exact hx

theorem zbY {α:Type} {c:Nat} : ∀ {yss:List (List α)} {k:Nat} {z:α},(∀ y∈yss,y.length=c) → yss.flatten[k]? = some z → ∃ i j y,i < yss.length∧j < c∧k=i*c+j∧yss[i]? = some y∧y[j]? = some z
 | [],k,z,_,h=>by simp at h
 | y :: yss,k,z,hc,h=>by
  have hy:y.length=c:=hc y (by simp)
  rw [List.flatten_cons] at h
  by_cases hk:k < c
  · rw [List.getElem?_append_left (by omega)] at h
    exact⟨0,k,y,by simp,hk,by omega,rfl,h⟩
  · rw [List.getElem?_append_right (by omega),hy] at h
    obtain⟨i,j,y',h1,h2,h3,h4,h5⟩:=zbY (fun y hy=>hc y (by simp [hy])) h
    exact⟨i+1,j,y',by simp;omega,h2,by rw [Nat.add_mul];omega,by simpa using h4,h5⟩

theorem zcS {α:Type} {c:Nat} : ∀ {yss:List (List α)},(∀ y∈yss,y.length=c) → yss.flatten.length=yss.length*c
 | [],_=>by simp
 | y :: yss,hc=>by
  rw [List.flatten_cons,List.length_append,hc y (by simp),zcS (fun y hy=>hc y (by simp [hy])),List.length_cons,Nat.add_mul]
  omega

theorem zlg {b:Bool} {y:List PV} (h:b=true ∨ (y.length=1 ∧ ∀ x∈y,x.isAgg=false)):(zcc b y).cells=y:=by
 rcases h with rfl | ⟨h1,h2⟩
 · rfl
 · cases b
   · match y,h1 with
     | [x],_ =>
      have:=h2 x (by simp)
      cases x<;>simp [PV.isAgg] at this<;>rfl
   · rfl

theorem cells?_get {a:Addr} {n:Nat} {cs:List Value} (h:W.cells? base a n=some cs):cs.length=n ∧ ∀ j,j < n → W.cell? (a.add j)=cs[j]? := by
 unfold World.cells? at h
 split at h
 · obtain⟨h1,h2⟩:=zdL h
   rw [List.length_range] at h1
   refine⟨h1,fun j hj => ?_⟩
   obtain⟨y,hy,hf⟩:=h2 j j (by simp [hj])
   rw [hy,hf]
 · cases h

theorem zr7 {a:Addr} {v:Value} (h:W.cell? a=some v):a.spot=none:=by
 unfold World.cell? at h
 split at h
 · split at h
   · cases h
   · rename_i hs;cases hx:a.spot<;>simp_all
 · cases h

theorem zhy : ∀ {fs:List Field} {o m:Nat},zcR P o fs=some m → o≤m
 | [],o,m,h=>by simp [zcR] at h;omega
 | f :: fs,o,m,h=>by
  simp only [zcR] at h
  split at h
  · have:=zhy h;omega
  · cases h

theorem znV {e:TypeId} {k:Nat} {g off cap:Nat} {c:Nat} {b:Bool} {yss:List (List PV)} (hc:0 < c) (hb:b=true ∨ c=1) (hl:yss.length≤cap) (hcap:cap≤maxLen)
 (h : ∀ (i:Nat) y,yss[i]? = some y → ∃ cs,y.length=c∧(∀ j,j < c → W.cell? ⟨g,off+(i*c+j),none⟩=cs[j]?)∧RowP W y cs) :
 RelP W (Stable σ0 H0) (.sl false c (yss.map (zcc b))) (.slice (some ⟨g,off,none⟩) yss.length cap):=by
 have hlen : ∀ y∈yss,y.length=c:=fun y hy=>by
  obtain⟨i,hi⟩:=List.getElem?_of_mem hy
  obtain⟨cs,h1,_⟩:=h i y hi
  exact h1
 have hagg : ∀ y∈yss,∀ x∈y,x.isAgg=false:=fun y hy x hx=>by
  obtain⟨i,hi⟩:=List.getElem?_of_mem hy
  obtain⟨cs,h1,h2,h3⟩:=h i y hi
  obtain⟨j,hj⟩:=List.getElem?_of_mem hx
  have hjl:j < cs.length:=by rw [←h3.1];exact (List.getElem?_eq_some_iff.1 hj).1
  exact (h3.2 j x cs[j] hj (by simp [hjl])).2.2
 have hpk : ∀ y∈yss,(zcc b y).cells=y:=fun y hy=>zlg (by
  rcases hb with hb | hb
  · exact .inl hb
  · exact .inr ⟨by rw [hlen y hy,hb],hagg y hy⟩)
 have hflat:flat (yss.map (zcc b))=yss.flatten:=by
  unfold flat
  rw [List.flatMap_map,←List.flatMap_id]
  have : ∀ l:List (List PV),(∀ y∈l,(zcc b y).cells=y) → l.flatMap (fun y=>(zcc b y).cells)=l.flatMap id:=by
   intro l
   induction l with
   | nil=>intro _;rfl
   | cons a l ih=>intro hl;rw [List.flatMap_cons,List.flatMap_cons,ih (fun y hy=>hl y (by simp [hy])),hl a (by simp)];rfl
  exact this yss hpk
 have key : ∀ q,q < yss.length*c → ∃ v,W.cell? ⟨g,off+q,none⟩=some v∧v.oneCell'=true:=fun q hq=>by
  have hq':q < yss.flatten.length:=by rw [zcS hlen];exact hq
  obtain⟨i,j,y,h1,h2,h3,h4,h5⟩:=zbY hlen (List.getElem?_eq_getElem hq')
  obtain⟨cs,g1,g2,g3⟩:=h i y h4
  have hj:j < cs.length:=by rw [←g3.1,g1];exact h2
  have:=g2 j h2
  rw [List.getElem?_eq_getElem hj] at this
  exact⟨cs[j],by rw [h3];exact this,(g3.2 j _ _ h5 (List.getElem?_eq_getElem hj)).2.1⟩
 have:=RelP.sl (w:=W) (S:=Stable σ0 H0) false c (yss.map (zcc b)) g off cap (fun q=>(W.cell? ⟨g,off+q,none⟩).getD .nilFunc) (by simp) ⟨by simpa using hl,hcap⟩
  (fun x hx=>by
   obtain⟨y,hy,rfl⟩:=List.mem_map.1 hx
   rw [hpk y hy];exact hlen y hy)
  (fun q hq=>by
   rw [List.length_map] at hq
   obtain⟨v,h1,h2⟩:=key q hq
   rw [h1]
   exact⟨ziM _ _,rfl,h2⟩)
  (fun q z hz=>by
   rw [hflat] at hz
   obtain⟨i,j,y,h1,h2,h3,h4,h5⟩:=zbY hlen hz
   obtain⟨cs,g1,g2,g3⟩:=h i y h4
   have hj:j < cs.length:=by rw [←g3.1,g1];exact h2
   have:=g2 j h2
   rw [List.getElem?_eq_getElem hj] at this
   rw [h3,this]
   exact (g3.2 j _ _ h5 (List.getElem?_eq_getElem hj)).1)
 rwa [List.length_map] at this

theorem zem {k fuel:Nat} {cs:List Value} {m:Nat} (hm:cs.length=m)
 (ih : ∀ (t:TypeId) (cs:List Value) (d:DataW H) (ps:List MemPlace),zbJ P k t=true → DataW.trod enc P W base sp held fuel t cs=some (d,ps) → ∃ xs,RowP W xs cs∧Reads P k t xs) :
 ∀ (fs:List Field) (o:Nat) (ys:List (DataW H × List MemPlace)),(fs.all fun f=>zbJ P k f.type)=true → zcR P o fs=some m →
  (fs.mapM fun f=>DataW.trod enc P W base sp held fuel f.type ((cs.drop f.offset).take (P.cellsOf f.type)))=some ys → ∃ xs,RowP W xs (cs.drop o)∧ziN (Reads P k) P fs xs
 | [],o,ys,_,hc,_=>by
  simp only [zcR,Option.some.injEq] at hc
  exact⟨[],by rw [List.drop_of_length_le (by omega)];exact RowP.nil,rfl⟩
 | f :: fs,o,ys,hp,hc,h=>by
  simp only [List.all_cons,Bool.and_eq_true] at hp
  simp only [zcR] at hc
  split at hc
  · rename_i ho
    have hle:=zhy hc
    rw [List.mapM_cons] at h
    cases hf:DataW.trod enc P W base sp held fuel f.type ((cs.drop f.offset).take (P.cellsOf f.type)) with
    | none=>simp [hf] at h
    | some y =>
     cases hr:(fs.mapM fun f=>DataW.trod enc P W base sp held fuel f.type ((cs.drop f.offset).take (P.cellsOf f.type))) with
     | none=>simp [hf,hr] at h
     | some zs =>
      obtain⟨d,ps⟩:=y
      obtain⟨xs,h1,h2⟩:=ih _ _ _ _ hp.1 hf
      obtain⟨xs',h3,h4⟩:=zem hm ih fs _ zs hp.2 hc hr
      rw [ho] at h1
      have hcat:cs.drop o=(cs.drop o).take (P.cellsOf f.type)++cs.drop (o+P.cellsOf f.type):=by
       rw [←List.drop_drop,List.take_append_drop]
      refine⟨xs++xs',by rw [hcat];exact h1.append h3,xs,xs',rfl,?_,h2,h4⟩
      rw [h1.1,List.length_take,List.length_drop]
      omega
  · cases hc

theorem zr8 {k:Nat} {t:TypeId} {xs:List PV} (h:Reads P k t xs) (ha:zg P t=false):xs.length=1:=by
 cases k with
 | zero=>exact h.elim
 | succ k =>
  unfold Reads at h
  unfold zg at ha
  split at h
  · obtain⟨_,rfl⟩:=h;rfl
  · obtain⟨_,_,rfl⟩:=h;rfl
  · obtain⟨_,_,rfl⟩:=h;rfl
  · obtain⟨_,_,_,rfl⟩:=h;rfl
  · rename_i hu;rw [hu] at ha;simp [yx] at ha
  · rename_i hu;rw [hu] at ha;simp [yx] at ha
  · exact h.elim

theorem zcp : ∀ (k fuel:Nat) (t:TypeId) (cs:List Value) (d:DataW H) (ps:List MemPlace),zbJ P k t=true → DataW.trod enc P W base sp held fuel t cs=some (d,ps) → ∃ xs,RowP W xs cs∧Reads P k t xs
 | 0,_,_,_,_,_,hp,_=>by simp [zbJ] at hp
 | _+1,0,_,_,_,_,_,h=>by simp [DataW.trod] at h
 | k+1,fuel+1,t,cs,d,ps,hp,h=>by
  unfold zbJ at hp
  unfold Reads
  cases hu:P.underlying t with
  | none=>simp [hu] at hp
  | some desc =>
   rw [hu] at hp
   unfold DataW.trod at h
   rw [hu] at h
   cases desc<;>simp only [Bool.false_eq_true] at hp
   case bool =>
    split at h<;>first | (cases h;done) | skip
    all_goals (rename_i heq;cases heq)
    exact⟨_,RowP.one (.s _ rfl) rfl rfl,_,rfl⟩
   case int κ =>
    split at h<;>first | (cases h;done) | skip
    all_goals (rename_i heq;cases heq)
    split at h
    · rename_i hw
      obtain⟨rfl,hw⟩:=hw
      exact⟨_,RowP.one (.s _ rfl) rfl rfl,_,hw,rfl⟩
    · cases h
   case string =>
    split at h<;>first | (cases h;done) | skip
    all_goals (rename_i heq;cases heq)
    split at h
    · rename_i hw
      exact⟨_,RowP.one (.s _ rfl) rfl rfl,_,hw,rfl⟩
    · cases h
   case slice e =>
    simp only [Bool.and_eq_true,decide_eq_true_eq,Bool.or_eq_true,beq_iff_eq] at hp
    obtain⟨hp,hc,hb⟩:=hp
    split at h<;>first | (cases h;done) | skip
    all_goals (rename_i heq;cases heq)
    · exact⟨_,RowP.one (.nil false (P.cellsOf e)) rfl rfl,[],by simp,by simp,rfl⟩
    · rename_i a len cap
      dsimp only at h
      split at h
      · rename_i hcond
        obtain⟨hbase,hlc,hcm⟩:=hcond
        cases hm:(List.range len).mapM fun i=>(W.cells? base (a.add (i*P.cellsOf e)) (P.cellsOf e)).bind (DataW.trod enc P W base sp held fuel e) with
        | none=>rw [hm] at h;simp at h
        | some elems =>
         obtain⟨_,hget⟩:=zdL hm
         have hel : ∀ i,i < len → ∃ y:List PV,∃ cs,W.cells? base (a.add (i*P.cellsOf e)) (P.cellsOf e)=some cs∧RowP W y cs∧Reads P k e y:=fun i hi=>by
          obtain⟨z,_,hz⟩:=hget i i (by simp [hi])
          cases hcs:W.cells? base (a.add (i*P.cellsOf e)) (P.cellsOf e) with
          | none=>rw [hcs] at hz;simp at hz
          | some cs =>
           rw [hcs] at hz
           simp only [Option.bind_some] at hz
           obtain⟨zd,zp⟩:=z
           obtain⟨y,h1,h2⟩:=zcp k fuel e cs zd zp hp hz
           exact⟨y,cs,rfl,h1,h2⟩
         obtain⟨yss,hyl,hy⟩:=list_of' len hel
         have hspot:0 < len → a.spot=none:=fun hl=>by
          obtain⟨y,cs,hcs,_,_⟩:=hel 0 hl
          obtain⟨g1,g2⟩:=cells?_get hcs
          have:=g2 0 hc
          rw [List.getElem?_eq_getElem (by omega)] at this
          simp only [Nat.zero_mul] at this
          have hs:=zr7 this
          simpa [Addr.add] using hs
         refine⟨[.sl false (P.cellsOf e) (yss.map (zcc (zg P e)))],RowP.one ?_ rfl rfl,yss,by omega,fun y hym => ?_,rfl⟩
         · rcases Nat.eq_zero_or_pos len with h0 | h0
           · subst h0
             have:yss=[]:=List.length_eq_zero_iff.1 hyl
             subst this
             exact .emp _ _ _ _ (fun h=>by cases h) hcm
           · have hs:=hspot h0
             obtain⟨g,off,spot⟩:=a
             simp only at hs
             subst hs
             have:=znV (W:=W) (g:=g) (off:=off) (cap:=cap) (c:=P.cellsOf e) (b:=zg P e) (yss:=yss) (e:=e) (k:=k) hc hb (by omega) hcm (fun i y hi=>by
              obtain⟨cs,h1,h2,h3⟩:=hy i y hi
              obtain⟨g1,g2⟩:=cells?_get h1
              refine⟨cs,by rw [h2.1,g1],fun j hj => ?_,h2⟩
              have:=g2 j hj
              rw [zW,zW,Nat.add_assoc] at this
              exact this)
             rwa [hyl] at this
         · obtain⟨i,hi⟩:=List.getElem?_of_mem hym
           obtain⟨cs,h1,h2,h3⟩:=hy i y hi
           obtain⟨g1,_⟩:=cells?_get h1
           exact⟨by rw [h2.1,g1],h3⟩
      · cases h
   case struct fs =>
    simp only [Bool.and_eq_true,beq_iff_eq] at hp
    replace h:(if cs.length=P.cellsOf t then (fs.toList.mapM fun f=>DataW.trod enc P W base sp held fuel f.type ((cs.drop f.offset).take (P.cellsOf f.type))).map fun xs=>(.agg (xs.map (·.1)),xs.flatMap (·.2)) else none)=some (d,ps):=h
    split at h
    · rename_i hl
      cases hm:(fs.toList.mapM fun f=>DataW.trod enc P W base sp held fuel f.type ((cs.drop f.offset).take (P.cellsOf f.type))) with
      | none=>rw [hm] at h;simp at h
      | some ys =>
       obtain⟨xs,h1,h2⟩:=zem hl (fun t cs d ps=>zcp k fuel t cs d ps) fs.toList 0 ys hp.1 hp.2 hm
       exact⟨xs,h1,h2⟩
    · cases h
   case array n e =>
    simp only [Bool.and_eq_true,beq_iff_eq] at hp
    replace h:(if cs.length=P.cellsOf t then ((List.range n).mapM fun i=>DataW.trod enc P W base sp held fuel e ((cs.drop (i*P.cellsOf e)).take (P.cellsOf e))).map fun xs=>(.agg (xs.map (·.1)),xs.flatMap (·.2)) else none)=some (d,ps):=h
    split at h
    · rename_i hl
      cases hm:(List.range n).mapM fun i=>DataW.trod enc P W base sp held fuel e ((cs.drop (i*P.cellsOf e)).take (P.cellsOf e)) with
      | none=>rw [hm] at h;simp at h
      | some ys =>
       obtain⟨_,hget⟩:=zdL hm
       have hel : ∀ i,i < n → ∃ y:List PV,RowP W y ((cs.drop (i*P.cellsOf e)).take (P.cellsOf e))∧Reads P k e y:=fun i hi=>by
        obtain⟨z,_,hz⟩:=hget i i (by simp [hi])
        obtain⟨zd,zp⟩:=z
        exact zcp k fuel e _ zd zp hp.1 hz
       obtain⟨yss,hyl,hy⟩:=list_of' n hel
       have hsub : ∀ i,i < n → i*P.cellsOf e+P.cellsOf e≤cs.length:=fun i hi=>by
        rw [hl,←hp.2]
        have:=Nat.mul_le_mul_right (P.cellsOf e) (show i+1≤n by omega)
        rw [Nat.add_mul] at this;omega
       have hlen : ∀ y∈yss,y.length=P.cellsOf e:=fun y hym=>by
        obtain⟨i,hi⟩:=List.getElem?_of_mem hym
        have hin:i < n:=by rw [←hyl];exact (List.getElem?_eq_some_iff.1 hi).1
        obtain⟨h1,_⟩:=hy i y hi
        rw [h1.1,List.length_take,List.length_drop]
        have:=hsub i hin
        omega
       refine⟨yss.flatten,⟨by rw [zcS hlen,hyl,hl,hp.2],fun q x v hx hv => ?_⟩,yss,hyl,fun y hym=>⟨hlen y hym,?_⟩,rfl⟩
       · obtain⟨i,j,y,h1,h2,h3,h4,h5⟩:=zbY hlen hx
         obtain⟨g1,_⟩:=hy i y h4
         refine g1.2 j x v h5 ?_
         rw [List.getElem?_take_of_lt h2,List.getElem?_drop,←h3]
         exact hv
       · obtain⟨i,hi⟩:=List.getElem?_of_mem hym
         exact (hy i y hi).2
    · cases h

theorem zlh {t:TypeId} {v:Value} {d:DataW H} {ps:List MemPlace} (k:Nat) (hp:zbJ P k t=true) (hval:Value.okWide P W .any base t v) (h:DataW.Trod enc P W 0 (fun _=>true) true t v d ps) :
 ∃ xs,Reads P k t xs∧RelV σ0 H0 W (.p (zcc (zg P t) xs)) v:=by
 obtain⟨fuel,hf⟩:=h
 obtain⟨xs,h1,h2⟩:=zcp k fuel t _ d ps hp hf
 refine⟨xs,h2,.p ?_⟩
 cases hu:P.underlying t with
 | none=>cases k<;>simp [zbJ,hu] at hp
 | some desc =>
  by_cases ha:yx desc=true
  · have hb:zg P t=true:=by simp [zg,hu,ha]
    rw [hb]
    have : ∃ cs,v = .agg cs:=by
     simp only [Value.okWide,hu] at hval
     cases desc<;>simp [yx] at ha
     all_goals obtain⟨cs,rfl,_⟩:=hval;exact⟨cs,rfl⟩
    obtain⟨cs,rfl⟩:=this
    have hcs:(Value.agg cs).cells.toList=cs.toList:=rfl
    rw [hcs] at h1
    show RelP W _ (.agg xs) _
    refine .agg xs cs (by rw [h1.1];simp) (fun i u hu => ?_) fun i x u hx hu=>(h1.2 i x u hx (by simpa using hu)).1
    have hi:i < xs.length:=by rw [h1.1];simpa using (Array.getElem?_eq_some_iff.1 hu).1
    exact (h1.2 i xs[i] u (List.getElem?_eq_getElem hi) (by simpa using hu)).2.1
  · have hb:zg P t=false:=by simp only [zg,hu];simpa using ha
    rw [hb]
    have hl:=zr8 h2 hb
    match xs,hl with
    | [x],_ =>
     have hcell:v.cells.toList=[v]:=by
      cases v with
      | agg cs =>
       exfalso
       simp only [Value.okWide,hu] at hval
       cases desc<;>simp [yx] at ha
       all_goals simp [Cell.okWide,Cell.ok,hu] at hval
       all_goals (cases k<;>simp [zbJ,hu] at hp)
      | _=>rfl
     rw [hcell] at h1
     exact (h1.2 0 x v rfl rfl).1
end gen

/-! ### Typed readings -/
section typed
variable {P:Program} {k:Nat} {t e:TypeId} {xs:List PV}
theorem Reads.bo (hu:P.underlying t=some .bool) (h:Reads P (k+1) t xs) : ∃ b,xs=[AL.bo b]:=by simp only [Reads,hu] at h;exact h
theorem Reads.i64 (hu:P.underlying t=some (.int .i64)) (h:Reads P (k+1) t xs) : ∃ z:Int,-9223372036854775808≤z∧z≤9223372036854775807∧xs=[i64 z]:=by
 simp only [Reads,hu] at h
 obtain⟨n,hw,rfl⟩:=h
 simp only [Lit.wf,Bool.and_eq_true,decide_eq_true_eq] at hw
 have h1:IntKind.i64.min = -9223372036854775808:=by decide
 have h2:IntKind.i64.max=9223372036854775807:=by decide
 rw [h1,h2] at hw
 exact⟨n,hw.1,hw.2,rfl⟩
theorem wf_bits {κ:IntKind} {w:Nat} {n:Int} (h1:κ.min=0) (h2:κ.max=2 ^ w - 1) (h:(Lit.int κ n).wf=true):((BitVec.ofInt w n).toNat:Int)=n:=by
 simp only [Lit.wf,Bool.and_eq_true,decide_eq_true_eq] at h
 rw [h1,h2] at h
 rw [BitVec.toNat_ofInt]
 have hp:((2 ^ w:Nat):Int)=2 ^ w:=by simp
 have:n % (2 ^ w:Nat)=n:=Int.emod_eq_of_lt h.1 (by omega)
 rw [this]
 omega
theorem Reads.u8 (hu:P.underlying t=some (.int .u8)) (h:Reads P (k+1) t xs) : ∃ b:BitVec 8,xs=[b8 b]:=by
 simp only [Reads,hu] at h
 obtain⟨n,hw,rfl⟩:=h
 exact⟨BitVec.ofInt 8 n,by rw [b8,wf_bits (w:=8) (by decide) (by decide) hw]⟩
theorem Reads.u16 (hu:P.underlying t=some (.int .u16)) (h:Reads P (k+1) t xs) : ∃ b:BitVec 16,xs=[yd b]:=by
 simp only [Reads,hu] at h
 obtain⟨n,hw,rfl⟩:=h
 exact⟨BitVec.ofInt 16 n,by rw [yd,wf_bits (w:=16) (by decide) (by decide) hw]⟩
theorem Reads.u32 (hu:P.underlying t=some (.int .u32)) (h:Reads P (k+1) t xs) : ∃ b:BitVec 32,xs=[zC b]:=by
 simp only [Reads,hu] at h
 obtain⟨n,hw,rfl⟩:=h
 exact⟨BitVec.ofInt 32 n,by rw [zC,wf_bits (w:=32) (by decide) (by decide) hw]⟩
theorem Reads.u64 (hu:P.underlying t=some (.int .u64)) (h:Reads P (k+1) t xs) : ∃ b:BitVec 64,xs=[zw b]:=by
 simp only [Reads,hu] at h
 obtain⟨n,hw,rfl⟩:=h
 exact⟨BitVec.ofInt 64 n,by rw [zw,wf_bits (w:=64) (by decide) (by decide) hw]⟩
theorem Reads.str (hu:P.underlying t=some .string) (h:Reads P (k+1) t xs) : ∃ s:ByteArray,s.size≤9223372036854775807∧xs=[str s]:=by
 simp only [Reads,hu] at h
 obtain⟨s,hs,rfl⟩:=h
 unfold maxLen at hs
 exact⟨s,by omega,rfl⟩

theorem zhz {α:Type} {enc:α → PV} {Q:α → Prop} {b:Bool} : ∀ {yss:List (List PV)},(∀ y∈yss,∃ a,zcc b y=enc a∧Q a) → ∃ l:List α,l.length=yss.length∧yss.map (zcc b)=pl enc l ∧ ∀ a∈l,Q a
 | [],_=>⟨[],rfl,rfl,by simp⟩
 | y :: yss,h=>by
  obtain⟨a,ha,hq⟩:=h y (by simp)
  obtain⟨l,h1,h2,h3⟩:=zhz (enc:=enc) (Q:=Q) (b:=b) (yss:=yss) fun y hy=>h y (by simp [hy])
  exact⟨a :: l,by simp [h1],by simp only [List.map_cons,pl,ha];rw [h2];rfl,fun x hx=>by rcases List.mem_cons.1 hx with rfl | hx;exact hq;exact h3 x hx⟩

theorem Reads.sl {α:Type} {c:Nat} {b:Bool} (enc:α → PV) (Q:α → Prop) (hu:P.underlying t=some (.slice e)) (hc:P.cellsOf e=c) (hb:zg P e=b) (h:Reads P (k+1) t xs) (he : ∀ y,Reads P k e y → ∃ a,zcc b y=enc a∧Q a) :
 ∃ l:List α,l.length≤9223372036854775807∧xs=[.sl false c (pl enc l)] ∧ ∀ a∈l,Q a:=by
 simp only [Reads,hu,hc,hb] at h
 obtain⟨yss,hl,hy,rfl⟩:=h
 obtain⟨l,h1,h2,h3⟩:=zhz (enc:=enc) (Q:=Q) (b:=b) (yss:=yss) fun y hm=>he y (hy y hm).2
 unfold maxLen at hl
 exact⟨l,by omega,by rw [h2],h3⟩

theorem zhA {α:Type} {enc:α → PV} : ∀ {yss:List (List PV)},(∀ y∈yss,∃ a,y=[enc a]) → ∃ l:List α,l.length=yss.length∧yss.flatten=pl enc l
 | [],_=>⟨[],rfl,rfl⟩
 | y :: yss,h=>by
  obtain⟨a,rfl⟩:=h y (by simp)
  obtain⟨l,h1,h2⟩:=zhA (enc:=enc) (yss:=yss) fun y hy=>h y (by simp [hy])
  exact⟨a :: l,by simp [h1],by rw [List.flatten_cons,h2];rfl⟩

theorem Reads.struct {fs:Array Field} (hu:P.underlying t=some (.struct fs)) (h:Reads P (k+1) t xs):ziN (Reads P k) P fs.toList xs:=by
 simp only [Reads,hu] at h;exact h

theorem Reads.arr {α:Type} {n:Nat} (enc:α → PV) (hu:P.underlying t=some (.array n e)) (h:Reads P (k+1) t xs) (he : ∀ y,Reads P k e y → ∃ a,y=[enc a]) :
 ∃ l:List α,l.length=n∧xs=pl enc l:=by
 simp only [Reads,hu] at h
 obtain⟨yss,hl,hy,rfl⟩:=h
 obtain⟨l,h1,h2⟩:=zhA (enc:=enc) (yss:=yss) fun y hm=>he y (hy y hm).2
 exact⟨l,by omega,h2⟩
end typed
end Go.AL

/-
  A region whose order is open and that makes rows of its own beside what it reads and calls: one run in the text's order serves every order.
  Conditions: none;nothing here speaks of one program.
-/
namespace Go.AL
open Go

/-! ### Reading operations see no new rows -/

def zdr:Op → Bool
 | .move _ | .assign _ | .load .. | .build .. | .nilCheck _ | .binOp .. | .unOp .. | .convert .. | .makeInterface .. | .makeFunc .. | .slice .. | .fieldAddr .. | .field .. | .indexAddr .. | .index .. | .extract .. | .pick .. | .buildSlice .. => true
 | .call c=>match c.callee with
  | .value _=>true
  | .builtin b=>match b with
   | .len | .min | .max=>true
   | _=>false
  | .invoke .. => false
 | _=>false

theorem app_f' {H:Hp} {T:List AB} {b:Nat} {x:AB} (h:H.f b=some x):(app H T).f b=some x:=by rw [zgb (Hp.lt h)];exact h

theorem new_ne {H:Hp} {x:AB}:H.new x≠H:=fun h=>by
 have:=congrArg Hp.n h
 rw [n_new'] at this
 omega

section mono
variable {P:Program} {G:Globs} {H:Hp} {T:List AB} {env:Env}

theorem zr9 {t:TypeId} {a y:AV} (h:zaA P H t a=some y):zaA P (app H T) t a=some y:=by
 unfold zaA at h ⊢
 cases hu:P.underlying t with
 | none=>simp [hu] at h
 | some d =>
  simp only [hu] at h ⊢
  cases a with
  | ptr b off =>
   simp only at h ⊢
   cases hb:H.f b with
   | none=>simp [hb] at h
   | some z=>rw [app_f' hb];rw [hb] at h;exact h
  | vp b k off =>
   simp only at h ⊢
   cases hb:H.f b with
   | none=>simp [hb] at h
   | some z=>rw [app_f' hb];rw [hb] at h;exact h
  | _=>exact h

theorem znW {e:TypeId} {x:AV} {ys:List PV} (h:yW P H e x=some ys):yW P (app H T) e x=some ys:=by
 unfold yW at h ⊢
 cases x with
 | ref b off len sz =>
  simp only at h ⊢
  cases hb:H.f b with
  | none=>simp [hb] at h
  | some z=>rw [app_f' hb];rw [hb] at h;exact h
 | vr b len sz =>
  simp only at h ⊢
  cases hb:H.f b with
  | none=>simp [hb] at h
  | some z=>rw [app_f' hb];rw [hb] at h;exact h
 | p x =>
  cases x with
  | s v=>cases v<;>exact h
  | _=>exact h
 | _=>exact h

theorem zg5 {s d:TypeId} {x y:AV} (h:zaC P H s d x=some y):zaC P (app H T) s d x=some y:=by
 unfold zaC at h ⊢
 cases hs:P.underlying s with
 | none=>simp [hs] at h
 | some a =>
  cases hd:P.underlying d with
  | none=>simp [hs,hd] at h
  | some b =>
   simp only [hs,hd] at h ⊢
   cases a with
   | slice e =>
    cases b with
    | string =>
     simp only at h ⊢
     cases he:P.underlying e with
     | none=>simp [he] at h
     | some c =>
      simp only [he] at h ⊢
      split at h
      · split at h
        · rename_i ys hys
          have:(if P.cellsOf e=1 then yW P (app H T) e x else none)=some ys:=by
           split at hys
           · rename_i hc;rw [if_pos hc];exact znW hys
           · cases hys
          rw [this];exact h
        · cases h
      · cases h
    | _=>simp at h
   | _=>cases b<;>simp at h

theorem zsa {s d:TypeId} {x y:AV} (h:zO P H s d x=some y):zO P (app H T) s d x=some y:=by
 unfold zO at h ⊢
 split at h
 · exact zg5 h
 · exact h
 · exact h

theorem znX {fn:FuncId} {args:List AV} {x:AV} {H' H2:Hp} (h:yr P fn args H = .val x H'):yr P fn args H2 = .val x H2:=by
 unfold yr at h ⊢
 split at h
 · rename_i nm hn
   cases hx:zaG nm args with
   | none=>simp [hx,vH] at h
   | some y=>simp [hx,vH] at h ⊢;exact h.1
 · cases h
theorem zli {fn f:FuncId} {args as:List AV}:yr P fn args H ≠ .call f as:=by
 unfold yr
 split
 · rename_i nm hn
   cases zaG nm args<;>simp [vH]
 · simp

theorem zvc {op:Op} {ty:TypeId} {x:AV} (hr:zdr op=true) (h:zq P G op ty env H = .val x H):zq P G op ty env (app H T) = .val x (app H T):=by
 have vh : ∀ {y:Option AV},vH y H = .val x H → y=some x:=by
  intro y hy
  cases y with
  | none=>cases hy
  | some z=>cases hy;rfl
 cases op<;>simp only [zdr,Bool.false_eq_true] at hr<;>simp only [zq] at h ⊢
 case move a=>cases h;rfl
 case assign a=>cases h;rfl
 case build t ps=>rw [vh h];rfl
 case buildSlice t n ps =>
  unfold zaB at h ⊢
  split at h
  · split at h
    · rename_i hc
      rw [if_pos hc]
      split at h
      · split at h
        · rename_i hall
          rw [if_pos hall]
          simp only [vHH] at h ⊢
          cases h;rfl
        · cases h
      · split at h
        · split at h
          · simp only [vHH] at h
            injection h with h1 h2
            exact absurd h2 new_ne
          · cases h
        · cases h
    · cases h
  · cases h
 case load t a=>rw [zr9 (vh h)];rfl
 case nilCheck a=>rw [vh h];rfl
 case binOp o t a b t'=>rw [vh h];rfl
 case unOp o t a=>rw [vh h];rfl
 case convert s d a=>rw [zsa (vh h)];rfl
 case makeInterface t a =>
  split at h
  · split at h
    · cases h
    · rename_i hi;rw [if_neg hi];cases h;rfl
  · cases h
 case makeFunc f a c =>
  split at h
  · cases h;rfl
  · cases h
 case slice t a lo hi mx=>rw [vh h];rfl
 case fieldAddr s a f=>rw [vh h];rfl
 case field s a f=>rw [vh h];rfl
 case indexAddr t a i=>rw [vh h];rfl
 case index t a i=>rw [vh h];rfl
 case extract t i =>
  split at h
  · rw [vh h];rfl
  · cases h
 case pick c a b =>
  split at h
  · cases h;rfl
  · cases h
 case call c =>
  obtain⟨callee,args,ts⟩:=c
  cases callee with
  | value f =>
   simp only [za4] at h ⊢
   split at h
   · split at h
     · cases h
     · rename_i he;simp only [he,Bool.false_eq_true,if_false];exact znX h
   · cases h
   · cases h
  | builtin b =>
   simp only [yi] at h ⊢
   split at h
   · rw [vh h];rfl
   · simp only at hr
     cases hr
   · simp only at hr
     cases hr
   · rw [vh h];rfl
   · rw [vh h];rfl
   · cases h
  | invoke a b=>cases h

theorem zvd {op:Op} {ty:TypeId} {f:FuncId} {args:List AV} (h:zq P G op ty env H = .call f args):zq P G op ty env (app H T) = .call f args:=by
 have nv : ∀ {y:Option AV},vH y H ≠ .call f args:=by intro y;cases y<;>simp [vH]
 have nvv : ∀ {y:Option (AV × Hp)},vHH y ≠ .call f args:=by intro y;cases y<;>simp [vHH]
 have nu : ∀ {y:Option Hp},uH y ≠ .call f args:=by intro y;cases y<;>simp [uH]
 cases op<;>simp only [zq] at h ⊢
 case call c =>
  obtain⟨callee,args',ts⟩:=c
  cases callee with
  | value g =>
   simp only [za4] at h ⊢
   split at h
   · split at h
     · rename_i he;simp only [he,if_true];exact h
     · exact absurd h zli
   · cases h
   · cases h
  | builtin b =>
   simp only [yi] at h
   split at h<;>first | exact absurd h nv | exact absurd h nvv | cases h
  | invoke a b=>cases h
 all_goals first
  | exact absurd h nv
  | exact absurd h nvv
  | exact absurd h nu
  | cases h
  | (split at h<;>first | cases h | (split at h<;>cases h) | exact absurd h nv | exact absurd h nvv)
end mono


/-! ### New names under other numbers -/

structure Perm (k:Nat) (π:Nat → Nat) (σ:Gh) (H1:Hp) (σ':Gh) (H2:Hp):Prop where
 n:H2.n=H1.n
 le:k≤H1.n
 f : ∀ b,H2.f b=H1.f (π b)
 c : ∀ b,σ'.c b=σ.c (π b)
 t : ∀ b,σ'.t b=σ.t (π b)
 inj : ∀ b b',π b=π b' → b=b'
 low : ∀ b,b < k → π b=b
 high : ∀ b,k≤b → k≤π b
 new : ∀ b x,k≤b → H1.f b=some x → ∀ y∈x.vals,BelowN k y

section perm
variable {k:Nat} {π:Nat → Nat} {σ σ':Gh} {H1 H2:Hp} {w:World} {G:Globs}

theorem Perm.stable (h:Perm k π σ H1 σ' H2) {g o:Nat} (hs:Stable σ H1 g o):Stable σ' H2 g o :=
 ⟨fun b cs hb=>by rw [h.c];exact hs.1 _ cs (by rw [←h.f];exact hb),fun b v d o' s hb ht=>hs.2 (π b) v d o' s (by rw [←h.f];exact hb) (by rw [←h.t];exact ht)⟩

theorem Perm.free (h:Perm k π σ H1 σ' H2) {g:Nat} (hs:Free σ H1 g):Free σ' H2 g :=
 ⟨fun b cs hb=>by rw [h.c];exact hs.1 _ cs (by rw [←h.f];exact hb),fun b v d o' s hb ht=>hs.2 (π b) v d o' s (by rw [←h.f];exact hb) (by rw [←h.t];exact ht),fun b vs S hb=>by rw [h.c];exact hs.3 _ vs S (by rw [←h.f];exact hb)⟩

theorem Perm.relV (h:Perm k π σ H1 σ' H2) {x:AV} {v:Value} (r:RelV σ H1 w x v):BelowN k x → RelV σ' H2 w x v:=by
 have hp : ∀ {x:PV} {v:Value},RelP w (Stable σ H1) x v → RelP w (Stable σ' H2) x v:=fun q=>q.mono fun g o v h1 h2=>⟨h.stable h1,h2⟩
 have hc : ∀ b,b < k → σ'.c b=σ.c b:=fun b hb=>by rw [h.c,h.low b hb]
 induction r with
 | p q=>exact fun _ => .p (hp q)
 | sl q ht =>
  intro hb
  cases hb with | sl _ _ _ _ hb =>
  refine .sl (hp q) ⟨by rw [h.n];exact ht.1,fun k0 d hk0 => ?_⟩
  rw [h.f,h.low _ hb] at hk0
  rw [h.t,h.low _ hb]
  exact ht.2 k0 d hk0
 | ref a h0 hb1 hcap ha=>intro hb;cases hb with | ref _ _ _ _ hb=>exact .ref a h0 (by rw [h.n];exact hb1) hcap (fun hl=>by rw [hc _ hb];exact ha hl)
 | ptr hb1=>intro hb;cases hb with | ptr _ _ hb=>rw [←hc _ hb];exact .ptr (by rw [h.n];exact hb1)
 | ip q hi hs=>exact fun _ => .ip (hp q) hi hs
 | clo fs cs hf hc' _ _ ih1 ih2=>intro hb;cases hb with | clo _ _ _ h1 h2=>exact .clo fs cs hf hc' (fun i x v a b=>ih1 i x v a b (h1 i x a)) (fun i x v a b=>ih2 i x v a b (h2 i x a))
 | tup vs hl _ ih=>intro hb;cases hb with | tup _ h'=>exact .tup vs hl (fun i x v a b=>ih i x v a b (h' i x a))
 | agg vs hl h1 _ ih=>intro hb;cases hb with | agg _ h'=>exact .agg vs hl h1 (fun i x v a b=>ih i x v a b (h' i x a))
 | yld hb1=>intro hb;cases hb with | yld _ hb=>rw [←hc _ hb];exact .yld (by rw [h.n];exact hb1)
 | mp hb1=>intro hb;cases hb with | mp _ hb=>rw [←hc _ hb];exact .mp (by rw [h.n];exact hb1)
 | vr q =>
  intro hb
  cases hb with | vr _ _ _ hb =>
  obtain⟨q1,a,cap,rfl,qs,q2⟩:=q
  refine .vr ⟨by rw [h.n];exact q1,a,cap,rfl,qs,fun k0 d hk0 => ?_⟩
  rw [h.f,h.low _ hb] at hk0
  rw [h.t,h.low _ hb]
  exact q2 k0 d hk0
 | vp a q =>
  intro hb
  cases hb with | vp _ _ _ hb =>
  refine .vp a ⟨by rw [h.n];exact q.1,fun k0 d hk0 => ?_⟩
  rw [h.f,h.low _ hb] at hk0
  rw [h.t,h.low _ hb]
  exact q.2 k0 d hk0
 | top v=>exact fun _ => .top v

theorem Perm.ev (h:Perm k π σ H1 σ' H2):Ev k σ H1 w σ' H2 w :=
 ⟨fun g o v h1 h2=>⟨h.stable h1,h2⟩,fun b hb=>by rw [h.c,h.low b hb],by rw [h.n];exact h.le,fun b hb k' d hk'=>⟨k',d,by rw [h.f,h.low b hb] at hk';exact hk',Nat.le_refl _,fun _=>by rw [h.t,h.low b hb]⟩,Nat.le_refl _,fun g _ hg=>⟨rfl,h.free hg⟩,rfl,rfl⟩

theorem Perm.rel (h:Perm k π σ H1 σ' H2) (hb:Bel k H1) (hr:Rel G σ H1 w):Rel G σ' H2 w:=by
 have hval : ∀ b x y,H1.f b=some x → y∈x.vals → BelowN k y:=fun b x y hf hy=>by
  by_cases hlt:b < k
  · exact hb b x hlt hf y hy
  · exact h.new b x (by omega) hf y hy
 refine⟨fun b cs hf => ?_,fun b j d g o s hf ht => ?_,fun b k cs hf => ?_,fun b b' cs cs' hf hf' he => ?_,fun b b' cs j d g o s hf hf' ht => ?_,fun b b' j d j' d' g o s o' s' hf hf' ht ht' => ?_,fun g sz xs hg=>h.relV (hr.glob g sz xs hg) (.ip _ _ _ _),fun b vs S hf => ?_,fun b b' vs vs' S S' hf hf' he => ?_,fun r m hm=>(hr.gm r m hm).of rfl (h.free (hr.gm r m hm).2.1) fun x v hx q=>h.relV q (hx _)⟩
 · rw [h.f] at hf
   obtain⟨c,e,q1,q2,q3⟩:=hr.cells _ cs hf
   exact⟨c,e,by rw [h.c];exact q1,q2,fun i x hx=>let ⟨v,a,b'⟩:=q3 i x hx;⟨v,a,h.relV b'.1 (hval _ _ x hf (List.mem_of_getElem? hx)),b'.2⟩⟩
 · rw [h.f] at hf;rw [h.t] at ht;exact hr.tail _ j d g o s hf ht
 · rw [h.f] at hf
   rw [h.t]
   obtain⟨q0,q1,q2⟩:=hr.vec _ k cs hf
   refine⟨q0,q1,fun g o s hg => ?_⟩
   obtain⟨p0,p1,p2⟩:=q2 g o s hg
   exact⟨p0,p1,fun i x hx=>let ⟨v,a,b'⟩:=p2 i x hx;⟨v,a,h.relV b'.1 (hval _ _ x hf (List.mem_of_getElem? hx)),b'.2⟩⟩
 · rw [h.f] at hf hf';rw [h.c,h.c] at he;exact h.inj _ _ (hr.cc _ _ cs cs' hf hf' he)
 · rw [h.f] at hf hf';rw [h.t] at ht;rw [h.c];exact hr.ct _ _ cs j d g o s hf hf' ht
 · rw [h.f] at hf hf';rw [h.t] at ht ht';exact h.inj _ _ (hr.tt _ _ j d j' d' g o s o' s' hf hf' ht ht')
 · rw [h.f] at hf
   obtain⟨o,us,q1,q2,q3,q4⟩:=hr.objs _ vs S hf
   exact⟨o,us,by rw [h.c];exact q1,q2,⟨q3.1,fun i x v a b'=>h.relV (q3.2 i x v a b') (hval _ _ x hf (List.mem_of_getElem? a))⟩,q4⟩
 · rw [h.f] at hf hf';rw [h.c,h.c] at he;exact h.inj _ _ (hr.oo _ _ vs vs' S S' hf hf' he)
end perm

theorem zbK {H:Hp} : ∀ {T:List AB} {i:Nat},(app H T).f (H.n+i)=T[i]?
 | [],i=>by simp only [zcn,List.getElem?_nil];exact H.wf _ (by omega)
 | y :: T,0=>by rw [yJ,zgb (by rw [n_new'];omega),zkJ (by omega)];rfl
 | y :: T,i+1=>by
  have:=zbK (H:=H.new y) (T:=T) (i:=i)
  rw [n_new'] at this
  rw [yJ,List.getElem?_cons_succ,←this]
  congr 1
  omega

def zax (k p:Nat) (E:List Nat) (b:Nat):Nat:=if k≤b∧b < k+E.length then k+E.idxOf (p+(b - k)) else b

theorem zpQ {H:Hp} {σ:Gh} {p:Nat} {E:List Nat} {T T':List AB} (hE:E.Nodup) (hm : ∀ i,i∈E ↔ p≤i∧i < p+E.length) (hT:T.length=E.length) (hT':T'.length=E.length)
 (hz : ∀ i,i < E.length → T'[i]? = T[E.idxOf (p+i)]?) (hc : ∀ x∈T,∀ y∈x.vals,BelowN H.n y) :
 Perm H.n (zax H.n p E) σ (app H T) ⟨fun b=>σ.c (zax H.n p E b),fun b=>σ.t (zax H.n p E b)⟩ (app H T'):=by
 have hidx : ∀ i,i < E.length → E.idxOf (p+i) < E.length:=fun i hi=>List.idxOf_lt_length_iff.2 ((hm _).2 ⟨by omega,by omega⟩)
 refine⟨by rw [app_n',app_n',hT,hT'],by rw [app_n'];omega,fun b => ?_,fun _=>rfl,fun _=>rfl,fun b b' h => ?_,fun b hb => ?_,fun b hb => ?_,fun b x hb hf => ?_⟩
 · unfold zax
   split
   · rename_i h
     rw [show b=H.n+(b - H.n) by omega,zbK,Nat.add_sub_cancel_left,zbK]
     exact hz _ (by omega)
   · rename_i h
     rcases Nat.lt_or_ge b H.n with h1 | h1
     · rw [zgb h1,zgb h1]
     · rw [show b=H.n+(b - H.n) by omega,zbK,zbK,List.getElem?_eq_none (by omega),List.getElem?_eq_none (by omega)]
 · unfold zax at h
   split at h<;>split at h
   · rename_i h1 h2
     have e:E.idxOf (p+(b - H.n))=E.idxOf (p+(b' - H.n)):=by omega
     have a1:=List.getElem_idxOf (hidx (b - H.n) (by omega))
     have a2:=List.getElem_idxOf (hidx (b' - H.n) (by omega))
     have:p+(b - H.n)=p+(b' - H.n):=by rw [←a1,←a2];congr 1
     omega
   · rename_i h1 h2;have:=hidx (b - H.n) (by omega);omega
   · rename_i h1 h2;have:=hidx (b' - H.n) (by omega);omega
   · exact h
 · unfold zax;rw [if_neg (by omega)]
 · unfold zax;split<;>omega
 · rw [show b=H.n+(b - H.n) by omega,zbK] at hf
   exact hc x (List.mem_of_getElem? hf)


/-! ### The quiet operations, each with a result that does not depend on the order -/
section quiet
variable {C:Cx} {ops:Array Oper}

def OpOK (C:Cx) (ops:Array Oper) (o:Oper) (env:Env) (H:Hp) (x:AV):Prop :=
 zQ C.nt o.dst=true∧BelowN H.n x∧((zR C.nt ops o.guard env=some true ∧ ∀ T,aOp1 C o env (app H T) fun x' H'=>x'=x∧H'=app H T) ∨ (zR C.nt ops o.guard env=some false∧x = .tup []))

theorem zg6 {o:Oper} {env env':Env} (h : ∀ s∈o.looksAt ops,env s=env' s):zR C.nt ops o.guard env=zR C.nt ops o.guard env':=by
 unfold zR
 split
 · rfl
 · rename_i j want hg
   cases hd:(ops[j]?).bind (·.dst) with
   | none=>rfl
   | some t=>simp only [h t (by simp [Oper.looksAt,hg,hd])]

theorem OpOK.congr {o:Oper} {env env':Env} {H:Hp} {x:AV} (h : ∀ s∈o.looksAt ops,env s=env' s) (ho:OpOK C ops o env H x):OpOK C ops o env' H x:=by
 obtain⟨h1,h2,h3⟩:=ho
 refine⟨h1,h2,?_⟩
 rw [←zg6 h]
 rcases h3 with ⟨h3,h4⟩ | h3
 · refine .inl ⟨h3,fun T => ?_⟩
   have:=h4 T
   unfold aOp1 at this ⊢
   rwa [←zdE (env:=env) (env':=env') fun y hy t ht=>h t (by
    subst ht
    exact List.mem_append_left _ (List.mem_filterMap.2 ⟨.tmp t,by simpa using hy,rfl⟩))]
 · exact .inr h3

def zJY (C:Cx) (f:FuncId) (args:List AV) (H:Hp) (K:AV → Prop):Prop :=
 ∃ x,(∀ T,ACall C.P C.G f args (app H T) fun x' H'=>x'=x∧H'=app H T)∧BelowN H.n x∧K x

def zpR (C:Cx) (r:SRes) (rd:Bool) (dst:Option Nat) (H:Hp) (K:AV → Prop):Prop :=
 match r with
 | .val x H'=>zQ C.nt dst=true∧rd=true∧H'=H∧BelowN H.n x∧K x
 | .call f args=>zQ C.nt dst=true∧zJY C f (yk C.raw f args) H K
 | _=>False

def znY (C:Cx) (ops:Array Oper):List Oper → Env → Hp → (Env → Prop) → Prop
 | [],env,_,K=>K env
 | o :: rest,env,H,K =>
  match zR C.nt ops o.guard env with
  | some true=>zpR C (zq C.P C.G o.op o.type env H) (zdr o.op) o.dst H fun x=>znY C ops rest (env.put o.dst x) H K
  | some false=>zQ C.nt o.dst=true∧znY C ops rest (env.put o.dst (.tup [])) H K
  | none=>False

def zbr:List Oper → List AV → Env → Env
 | o :: l,x :: xs,env=>zbr l xs (env.put o.dst x)
 | _,_,env=>env

theorem zd8 : ∀ {l:List Oper} {env:Env} {H:Hp} {K:Env → Prop},znY C ops l env H K → ∃ X:List AV,X.length=l.length∧K (zbr l X env) ∧ ∀ (i:Nat) o x,l[i]? = some o → X[i]? = some x → OpOK C ops o (zbr (l.take i) (X.take i) env) H x
 | [],env,H,K,h=>⟨[],rfl,h,fun i o x h1=>by simp at h1⟩
 | o :: l,env,H,K,h=>by
  have key : ∀ x,OpOK C ops o env H x → znY C ops l (env.put o.dst x) H K → ∃ X:List AV,X.length=(o :: l).length∧K (zbr (o :: l) X env) ∧ ∀ (i:Nat) o' x,(o :: l)[i]? = some o' → X[i]? = some x → OpOK C ops o' (zbr ((o :: l).take i) (X.take i) env) H x:=by
   intro x hx hr
   obtain⟨X,h1,h2,h3⟩:=zd8 hr
   refine⟨x :: X,by simp [h1],h2,fun i o' y ho' hy => ?_⟩
   cases i with
   | zero=>simp at ho' hy;subst ho';subst hy;exact hx
   | succ i=>simp only [List.getElem?_cons_succ] at ho' hy;exact h3 i o' y ho' hy
  unfold znY at h
  split at h
  · rename_i hw
    unfold zpR at h
    split at h
    · rename_i x H' hs
      obtain⟨h1,h2,rfl,h4,h5⟩:=h
      refine key x ⟨h1,h4,.inl ⟨hw,fun T => ?_⟩⟩ h5
      unfold aOp1
      rw [zvc h2 hs]
      exact⟨h1,rfl,rfl⟩
    · rename_i f args hs
      obtain⟨h1,x,h2,h3,h4⟩:=h
      refine key x ⟨h1,h3,.inl ⟨hw,fun T => ?_⟩⟩ h4
      unfold aOp1
      rw [zvd hs]
      exact⟨h1,h2 T⟩
    · exact h.elim
  · rename_i hw
    exact key (.tup []) ⟨h.1,.tup _ (by simp),.inr ⟨hw,rfl⟩⟩ h.2
  · exact h.elim
end quiet

/-! ### What has run, and what the slots then hold -/

def zI (ops:Array Oper) (i:Nat):Option Nat:=(ops[i]?).bind (·.dst)

def after (ops:Array Oper) (env:Env):List (Nat × AV) → Env
 | []=>env
 | (i,x) :: r=>(after ops env r).put (zI ops i) x

theorem zbx {ops:Array Oper} {env:Env} {s:Nat} : ∀ {tr:List (Nat × AV)} {i:Nat} {x:AV},(i,x)∈tr → zI ops i=some s → (∀ j y,(j,y)∈tr → zI ops j=some s → j=i) → (tr.map (·.1)).Nodup → after ops env tr s=x
 | [],i,x,h,_,_,_=>by cases h
 | (j,y) :: r,i,x,h,hd,hu,hn=>by
  simp only [List.map_cons,List.nodup_cons] at hn
  simp only [after]
  rcases List.mem_cons.1 h with h | h
  · cases h
    rw [hd];simp [Env.put]
  · have hne:zI ops j≠some s:=fun e=>by
     have:=hu j y (by simp) e
     subst this
     exact hn.1 (List.mem_map.2 ⟨_,h,rfl⟩)
    rw [zd5 fun t ht e=>hne (by rw [ht,e])]
    exact zbx h hd (fun j' y' h'=>hu j' y' (by simp [h'])) hn.2

theorem zbL {ops:Array Oper} {env:Env} {s:Nat} : ∀ {tr:List (Nat × AV)},(∀ j y,(j,y)∈tr → zI ops j≠some s) → after ops env tr s=env s
 | [],_=>rfl
 | (j,y) :: r,h=>by
  simp only [after]
  rw [zd5 fun t ht e=>h j y (by simp) (by rw [ht,e])]
  exact zbL fun j' y' h'=>h j' y' (by simp [h'])

theorem zby {s:Nat} : ∀ {l:List Oper} {X:List AV} {env:Env},(∀ (j:Nat) o,l[j]? = some o → o.dst≠some s) → zbr l X env s=env s
 | [],_,_,_=>rfl
 | o :: l,[],_,_=>rfl
 | o :: l,x :: X,env,h=>by
  simp only [zbr]
  rw [zby fun j o' ho=>h (j+1) o' (by simpa using ho)]
  exact zd5 fun t ht e=>h 0 o rfl (by rw [ht,e])

theorem zbd {s:Nat} : ∀ {l:List Oper} {X:List AV} {env:Env} {j:Nat} {o:Oper} {x:AV},l[j]? = some o → X[j]? = some x → o.dst=some s → (∀ (j':Nat) o',l[j']? = some o' → o'.dst=some s → j'=j) → zbr l X env s=x
 | [],_,_,_,_,_,h,_,_,_=>by simp at h
 | o :: l,[],_,_,_,_,_,h,_,_=>by simp at h
 | o :: l,y :: X,env,0,o',x,h1,h2,hd,hu=>by
  simp at h1 h2
  subst h1;subst h2
  simp only [zbr]
  rw [zby fun j o' ho hd'=>by have:=hu (j+1) o' (by simpa using ho) hd';omega]
  rw [hd];simp [Env.put]
 | o :: l,y :: X,env,j+1,o',x,h1,h2,hd,hu=>by
  simp only [zbr]
  exact zbd (by simpa using h1) (by simpa using h2) hd fun j' o'' ho hd'=>by have:=hu (j'+1) o'' (by simpa using ho) hd';omega

/-! ### The check on a region: p1 quiet operations, then allocations up to p, then the rest -/

def waitsFor (o:Oper) (j:Nat):Bool:=o.after.any fun e=>Region.binds .any e && e.on == j

def zdM (o:Oper):List Nat:=(o.after.toList.filter fun e=>Region.binds .any e).map (·.on)
def zbz (ops:Array Oper):Nat → List Nat → List Nat
 | 0,s=>s
 | k+1,s=>zbz ops k (if s.contains k then (match ops[k]? with | some o=>s++(zdM o).filter (fun j => !s.contains j) | none=>s) else s)

theorem zb0 {ops:Array Oper} {S:Nat → Prop} (hS : ∀ (k:Nat) o,ops[k]? = some o → S k → ∀ e∈o.after,Region.binds .any e=true → S e.on) : ∀ (n:Nat) (s:List Nat),(∀ j∈s,S j) → ∀ j∈zbz ops n s,S j
 | 0,s,h=>h
 | k+1,s,h=>zb0 hS k _ fun j hj=>by
  split at hj
  · rename_i hk
    split at hj
    · rename_i o ho
      rcases List.mem_append.1 hj with hj | hj
      · exact h j hj
      · obtain⟨e,he,rfl⟩:=List.mem_map.1 (List.mem_filter.1 hj).1
        obtain⟨h1,h2⟩:=List.mem_filter.1 he
        exact hS k o ho (h k (by simpa using hk)) e (Array.mem_toList_iff.1 h1) h2
    · exact h j hj
  · exact h j hj

def okE (ops:Array Oper) (p1 p:Nat):Bool :=
 p1≤p && p≤ops.size && (List.range ops.size).all fun i=>match ops[i]? with
  | none=>false
  | some o =>
   if i < p then
    (List.range p).all (fun j=>j == i || (zI ops j).isNone || zI ops j != o.dst) &&
    o.after.all (fun e => !Region.binds .any e || decide (e.on < i)) &&
    (if i < p1 then
     (List.range p).all (fun j=>match zI ops j with
      | some s => !(o.looksAt ops).contains s || (decide (j < i) && decide (j < p1) && waitsFor o j)
      | none=>true)
    else (match o.op with | .alloc _=>true | _=>false) && o.guard.isNone && o.dst.isSome)
   else (List.range p).all fun j=>(zbz ops p ((zdM o).filter fun j=>decide (j < p))).contains j

structure OkE (ops:Array Oper) (p1 p:Nat):Prop where
 le:p1≤p
 size:p≤ops.size
 dst : ∀ i o j s,ops[i]? = some o → i < p → j < p → o.dst=some s → zI ops j=some s → j=i
 back : ∀ (i:Nat) o,ops[i]? = some o → i < p → ∀ e∈o.after,Region.binds .any e=true → e.on < i
 quiet : ∀ (i:Nat) o,ops[i]? = some o → i < p1 → ∀ s∈o.looksAt ops,∀ j,j < p → zI ops j=some s → j < i∧j < p1∧waitsFor o j=true
 alloc : ∀ (i:Nat) o,ops[i]? = some o → p1≤i → i < p → (∃ t,o.op = .alloc t)∧o.guard=none ∧ ∃ s,o.dst=some s
 late : ∀ (i:Nat) o,ops[i]? = some o → p≤i → ∀ j,j < p → j∈zbz ops p ((zdM o).filter fun j=>decide (j < p))

theorem zve {ops:Array Oper} {p1 p:Nat} (h:okE ops p1 p=true):OkE ops p1 p:=by
 simp only [okE,Bool.and_eq_true,decide_eq_true_eq,List.all_eq_true,List.mem_range] at h
 obtain⟨⟨h1,h2⟩,h3⟩:=h
 have lt : ∀ {i:Nat} {o:Oper},ops[i]? = some o → i < ops.size:=fun h=>(Array.getElem?_eq_some_iff.1 h).1
 refine⟨h1,h2,fun i o j s hi hip hj hd hdj => ?_,fun i o hi hip e he hb => ?_,fun i o hi hip s hs j hj hdj => ?_,fun i o hi hp1 hip => ?_,fun i o hi hip j hj => ?_⟩
 · have:=h3 i (lt hi)
   simp only [hi,if_pos hip,Bool.and_eq_true,List.all_eq_true,List.mem_range] at this
   have:=this.1.1 j hj
   simpa [hdj,hd] using this
 · have:=h3 i (lt hi)
   simp only [hi,if_pos hip,Bool.and_eq_true,Array.all_eq_true'] at this
   have:=this.1.2 e he
   simpa [hb] using this
 · have:=h3 i (lt hi)
   simp only [hi,if_pos (show i < p by omega),if_pos hip,Bool.and_eq_true,List.all_eq_true,List.mem_range] at this
   have:=this.2 j hj
   simp only [hdj,Bool.or_eq_true,Bool.not_eq_true',Bool.and_eq_true,decide_eq_true_eq] at this
   rcases this with h | h
   · rw [List.contains_eq_mem,decide_eq_false_iff_not] at h;exact absurd hs h
   · exact⟨h.1.1,h.1.2,h.2⟩
 · have:=h3 i (lt hi)
   simp only [hi,if_pos hip,if_neg (show ¬i < p1 by omega),Bool.and_eq_true,Option.isNone_iff_eq_none,Option.isSome_iff_exists] at this
   obtain⟨_,⟨h4,h5⟩,h6⟩:=this
   refine⟨?_,h5,h6⟩
   split at h4
   · rename_i t ht;exact⟨t,ht⟩
   · cases h4
 · have:=h3 i (lt hi)
   simp only [hi,if_neg (show ¬i < p by omega),List.all_eq_true,List.mem_range] at this
   simpa using this j hj

theorem zbm {o:Oper} {j:Nat} {listed:Array Bool} (h:waitsFor o j=true) (hall : ∀ e∈o.after,Region.binds .any e=true → listed.getD e.on false=true):listed.getD j false=true:=by
 obtain⟨e,he,hb⟩:=Array.any_eq_true'.1 h
 simp only [Bool.and_eq_true,beq_iff_eq] at hb
 rw [←hb.2]
 exact hall e he hb.1


structure Inv1 (C:Cx) (l:List Oper) (p1 p:Nat) (X:List AV) (zs:Nat → List PV) (zas:Env) (H:Hp) (σs:Gh) (ws:World) (m:Nat)
 (tr:List (Nat × AV)) (rem E:List Nat) (T:List AB) (listed:Array Bool) (σ:Gh) (w:World) (a:Act):Prop where
 nd:(tr.map (·.1)).Nodup
 rnd:rem.Nodup
 rem : ∀ i,i∈rem ↔ i < p∧i ∉ tr.map (·.1)
 lt : ∀ i,i∈tr.map (·.1) → i < p
 q : ∀ i x,(i,x)∈tr → i < p1 → X[i]? = some x
 al : ∀ i x,(i,x)∈tr → p1≤i → ∃ k:Nat,E[k]? = some i∧x = .ptr (H.n+k) 0
 end_:E.Nodup
 eiff : ∀ i,i∈E ↔ p1≤i∧i∈tr.map (·.1)
 t:T=E.map fun i => .cells ((zs i).map .p)
 cl : ∀ (k:Nat) o,l.toArray[k]? = some o → k∈tr.map (·.1) → ∀ e∈o.after,Region.binds .any e=true → e.on∈tr.map (·.1)
 lsz:listed.size=l.length
 lget : ∀ i,i < l.length → listed.getD i true=decide (i∈tr.map (·.1))
 rel:Rel C.G σ (app H T) w
 fr:RelF C.nt m σ (app H T) w (after l.toArray zas tr) a
 ev:Ev H.n σs H ws σ (app H T) w

section phase
variable {C:Cx} {l:List Oper} {p1 p:Nat} {X:List AV} {zs:Nat → List PV} {zas:Env} {H:Hp} {σs:Gh} {ws:World} {m:Nat} {ro:Option Nat} {R1:Exit → Act → World → Prop}

theorem getD_lt {listed:Array Bool} {i:Nat} (h:i < listed.size) (d d':Bool):listed.getD i d=listed.getD i d':=by
 simp [Array.getD_eq_getD_getElem?,h]

theorem zKO (hok:OkE l.toArray p1 p) (hop : ∀ (i:Nat) o x,i < p1 → l[i]? = some o → X[i]? = some x → OpOK C l.toArray o (zbr (l.take i) (X.take i) zas) H x) (hX:X.length=p1)
 (haz : ∀ (i:Nat) o t,p1≤i → i < p → l[i]? = some o → o.op = .alloc t → zj C.P t=some (zs i)∧zQ C.nt o.dst=true)
 (hfin : ∀ tr E T listed σ w a,Inv1 C l p1 p X zs zas H σs ws m tr [] E T listed σ w a → wpAnyIn { Fence.wide with round:=ro } 0 C.P .any l.toArray R1 (l.length - p) listed a w) :
 ∀ r tr rem E T listed σ w a,rem.length=r → Inv1 C l p1 p X zs zas H σs ws m tr rem E T listed σ w a → wpAnyIn { Fence.wide with round:=ro } 0 C.P .any l.toArray R1 (r+(l.length - p)) listed a w:=by
 intro r
 induction r with
 | zero =>
  intro tr rem E T listed σ w a hr I
  have:rem=[]:=List.eq_nil_of_length_eq_zero hr
  subst this
  rw [Nat.zero_add]
  exact hfin tr E T listed σ w a I
 | succ r ih =>
  intro tr rem E T listed σ w a hr I
  have hpl:p≤l.length:=by simpa using hok.size
  have hunl : ∀ i,i < l.length → (listed.getD i true=false ↔ i ∉ tr.map (·.1)):=fun i hi=>by rw [I.lget i hi];simp
  have hlis : ∀ i,i < l.length → listed.getD i false=true → i∈tr.map (·.1):=fun i hi h=>by
   rw [getD_lt (by rw [I.lsz];exact hi) false true,I.lget i hi] at h
   simpa using h
  have hlis' : ∀ i,i < l.length → i∈tr.map (·.1) → listed.getD i false=true:=fun i hi h=>by
   rw [getD_lt (by rw [I.lsz];exact hi) false true,I.lget i hi]
   simpa using h
  have hne:rem≠[]:=fun h=>by rw [h] at hr;cases hr
  have hsome : ¬∀ i,i < p → i∈tr.map (·.1):=fun h=>by
   obtain⟨i,hi⟩:=List.exists_mem_of_ne_nil rem hne
   exact ((I.rem i).1 hi).2 (h i ((I.rem i).1 hi).1)
  rw [show r+1+(l.length - p)=(r+(l.length - p))+1 by omega]
  refine⟨fun h0 => ?_,fun i hi => ?_⟩
  · -- something is ready
    refine absurd ?_ hsome
    intro i
    induction i using Nat.strongRecOn with
    | _ i ihi =>
     intro hip
     refine Classical.byContradiction fun hni => ?_
     have hil:i < l.length:=by omega
     have hoi:l.toArray[i]? = some l[i]:=by simp [hil]
     have:i∈Region.ready .any l.toArray listed:=mem_ready.2 ⟨(hunl i hil).2 hni,l[i],hoi,fun e he hb=>by
      have hlt:=hok.back i _ hoi hip e he hb
      exact hlis' _ (by omega) (ihi _ hlt (by omega))⟩
     rw [h0] at this
     cases this
  · obtain⟨hun,o,ho,hall⟩:=mem_ready.1 hi
    have hil:i < l.length:=by simpa using (Array.getElem?_eq_some_iff.1 ho).1
    have hol:l[i]? = some o:=by simpa using ho
    have hni:=(hunl i hil).1 hun
    have hip:i < p:=Classical.byContradiction fun h=>hsome fun j hj=>zb0 (S:=fun j=>j∈tr.map (·.1)) I.cl p _ (fun j' hj'=>by
     obtain⟨h1,h2⟩:=List.mem_filter.1 hj'
     obtain⟨e,he,rfl⟩:=List.mem_map.1 h1
     obtain⟨h3,h4⟩:=List.mem_filter.1 he
     exact hlis _ (by simp at h2;omega) (hall e (Array.mem_toList_iff.1 h3) h4)) j (hok.late i o ho (by omega) j hj)
    have hirem:i∈rem:=(I.rem i).2 ⟨hip,hni⟩
    have hdst:zI l.toArray i=o.dst:=by simp [zI,ho]
    -- what is handed on
    have go : ∀ x v E' T' σ' w',(i < p1 → X[i]? = some x∧E'=E∧T'=T) → (p1≤i → E'=E++[i]∧T'=T++[.cells ((zs i).map .p)]∧x = .ptr (H.n+E.length) 0) → Rel C.G σ' (app H T') w' → RelV σ' (app H T') w' x v → Ev (app H T).n σ (app H T) w σ' (app H T') w' → zQ C.nt o.dst=true →
     wpAnyIn { Fence.wide with round:=ro } 0 C.P .any l.toArray R1 (r+(l.length - p)) (listed.setIfInBounds i true) (a.put o.dst v) w':=by
     intro x v E' T' σ' w' hq hal hrel hrv hev hd
     have hEl:E'.Nodup∧(∀ j,j∈E' ↔ p1≤j∧(j=i ∨ j∈tr.map (·.1)))∧T'=E'.map (fun i => .cells ((zs i).map .p)):=by
      by_cases hi1:i < p1
      · obtain⟨_,rfl,rfl⟩:=hq hi1
        refine⟨I.end_,fun j => ?_,I.t⟩
        rw [I.eiff]
        constructor
        · exact fun h=>⟨h.1,.inr h.2⟩
        · rintro ⟨h1,rfl | h2⟩
          · omega
          · exact⟨h1,h2⟩
      · obtain⟨rfl,rfl,_⟩:=hal (by omega)
        refine⟨List.nodup_append.2 ⟨I.end_,by simp,fun j hj k hk e => ?_⟩,fun j => ?_,by rw [List.map_append,←I.t];rfl⟩
        · simp only [List.mem_singleton] at hk
          subst hk;subst e
          exact hni ((I.eiff _).1 hj).2
        · rw [List.mem_append,List.mem_singleton,I.eiff]
          constructor
          · rintro (h | rfl)
            · exact⟨h.1,.inr h.2⟩
            · exact⟨by omega,.inl rfl⟩
          · rintro ⟨h1,rfl | h2⟩
            · exact .inr rfl
            · exact .inl ⟨h1,h2⟩
     refine ih ((i,x) :: tr) (rem.erase i) E' T' _ σ' w' _ (by rw [List.length_erase_of_mem hirem,hr];rfl) ⟨?_,I.rnd.erase i,fun j => ?_,fun j hj => ?_,fun j y hj h1 => ?_,fun j y hj h1 => ?_,hEl.1,fun j => ?_,hEl.2.2,fun j o' ho' hj e he hb => ?_,?_,fun j hj => ?_,hrel,?_,I.ev.trans (hev.weaken (by rw [app_n'];omega)) (Nat.le_refl _)⟩
     · rw [List.map_cons,List.nodup_cons];exact⟨hni,I.nd⟩
     · rw [I.rnd.mem_erase_iff,I.rem,List.map_cons,List.mem_cons]
       constructor
       · exact fun h=>⟨h.2.1,fun h'=>h'.elim h.1 h.2.2⟩
       · exact fun h=>⟨fun e=>h.2 (.inl e),h.1,fun e=>h.2 (.inr e)⟩
     · rw [List.map_cons,List.mem_cons] at hj
       rcases hj with rfl | hj
       · exact hip
       · exact I.lt j hj
     · rcases List.mem_cons.1 hj with h | h
       · cases h;exact (hq h1).1
       · exact I.q j y h h1
     · rcases List.mem_cons.1 hj with h | h
       · cases h
         obtain⟨rfl,_,rfl⟩:=hal h1
         exact⟨E.length,by simp,rfl⟩
       · obtain⟨k,hk,hy⟩:=I.al j y h h1
         refine⟨k,?_,hy⟩
         by_cases hi1:i < p1
         · rw [(hq hi1).2.1];exact hk
         · rw [(hal (by omega)).1,List.getElem?_append_left (List.getElem?_eq_some_iff.1 hk).1];exact hk
     · rw [List.map_cons,List.mem_cons];exact hEl.2.1 j
     · rw [List.map_cons,List.mem_cons] at hj ⊢
       rcases hj with h | h
       · simp only at h
         subst h
         rw [ho] at ho';cases ho'
         have:=hok.back j o ho hip e he hb
         exact .inr (hlis _ (by omega) (hall e he hb))
       · exact .inr (I.cl j o' ho' h e he hb)
     · rw [Array.size_setIfInBounds];exact I.lsz
     · rw [List.map_cons]
       by_cases hij:i=j
       · subst hij
         have:(listed.setIfInBounds i true).getD i true=true:=by simp [Array.getD_eq_getD_getElem?]
         rw [this];simp
       · rw [getD_set_ne true hij,I.lget j hj]
         simp [Ne.symm hij]
     · have:=(I.fr.mono hev).put (yM hd) hrv
       simp only [after,hdst]
       exact this
    unfold wpOpIn
    simp only [ho]
    by_cases hi1:i < p1
    · -- a quiet operation
      have hxi:X[i]? = some X[i]:=by simp [hX,hi1]
      have hOK:OpOK C l.toArray o (after l.toArray zas tr) H X[i]:=by
       refine (hop i o X[i] hi1 hol hxi).congr fun s hs => ?_
       by_cases hw : ∃ j,j < p∧zI l.toArray j=some s
       · obtain⟨j,hj,hdj⟩:=hw
         obtain⟨h1,h2,h3⟩:=hok.quiet i o ho hi1 s hs j hj hdj
         have hjt:=hlis j (by omega) (zbm h3 hall)
         obtain⟨⟨j',y⟩,hjy,rfl⟩:=List.mem_map.1 hjt
         have hjl:j' < l.length:=by omega
         have hoj:l[j']? = some l[j']:=by simp [hjl]
         have hdd:l[j'].dst=some s:=by simpa [zI,hoj] using hdj
         have hyx:=I.q j' y hjy h2
         rw [zbx hjy hdj (fun k z hk hdk=>by
          have hkp:=I.lt k (List.mem_map.2 ⟨_,hk,rfl⟩)
          exact hok.dst j' l[j'] k s (by simp [hjl]) hj hkp hdd hdk) I.nd]
         refine zbd (j:=j') (o:=l[j']) (by rw [List.getElem?_take_of_lt h1];exact hoj) (by rw [List.getElem?_take_of_lt h1];exact hyx) hdd fun k o' hk hdk => ?_
         have hki:k < i:=by have:=(List.getElem?_eq_some_iff.1 hk).1;simp at this;omega
         rw [List.getElem?_take_of_lt hki] at hk
         exact hok.dst j' l[j'] k s (by simp [hjl]) hj (by omega) hdd (by simp [zI,hk,hdk])
       · rw [zbL fun j y hj hd=>hw ⟨j,I.lt j (List.mem_map.2 ⟨_,hj,rfl⟩),hd⟩]
         refine zby fun j o' hj hd=>hw ⟨j,?_,?_⟩
         · have:=(List.getElem?_eq_some_iff.1 hj).1;simp at this;omega
         · have hji:j < i:=by have:=(List.getElem?_eq_some_iff.1 hj).1;simp at this;omega
           rw [List.getElem?_take_of_lt hji] at hj
           simp [zI,hj,hd]
      obtain⟨hd,hbn,hcase⟩:=hOK
      rcases hcase with ⟨hw,hstep⟩ | ⟨hw,hx⟩
      · rw [if_pos (yY hw I.fr rfl)]
        refine (hstep T).wp I.rel I.fr ?_
        intro x v H' σ' w' ⟨e1,e2⟩ _ hrel hrv hev
        subst e1;subst e2
        exact go _ v E T σ' w' (fun _=>⟨hxi,rfl,rfl⟩) (fun h=>by omega) hrel hrv hev hd
      · rw [if_neg (by rw [yY hw I.fr rfl];simp)]
        refine⟨fun f _=>trivial,go X[i] undef E T σ w (fun _=>⟨hxi,rfl,rfl⟩) (fun h=>by omega) I.rel (by rw [hx];exact .tup #[] rfl (by simp)) (Ev.refl (Nat.le_refl _)) hd⟩
    · -- an allocation
      obtain⟨⟨t,ht⟩,hg,s,hs⟩:=hok.alloc i o ho (by omega) hip
      obtain⟨hz,hd⟩:=haz i o t (by omega) hip hol ht
      rw [if_pos (by simp [Region.wanted,hg])]
      have hstep:aOp1 C o (after l.toArray zas tr) (app H T) fun x H'=>x = .ptr (app H T).n 0∧H'=(app H T).new (.cells ((zs i).map .p)):=by
       unfold aOp1
       rw [ht]
       simp only [zq,hz]
       exact⟨hd,rfl,rfl⟩
      refine hstep.wp I.rel I.fr ?_
      intro x v H' σ' w' ⟨e1,e2⟩ _ hrel hrv hev
      subst e1;subst e2
      have hTl:T.length=E.length:=by rw [I.t];simp
      have happ:(app H T).new (.cells ((zs i).map .p))=app H (T++[.cells ((zs i).map .p)]):=by rw [zpP,zdJ]
      rw [happ] at hrel hrv hev
      exact go _ v (E++[i]) (T++[.cells ((zs i).map .p)]) σ' w' (fun h=>absurd h hi1) (fun _=>⟨rfl,rfl,by rw [app_n',hTl]⟩) hrel hrv hev hd

theorem zcT : ∀ {l1 l2:List Oper} {X1 X2:List AV} {env:Env},X1.length=l1.length → zbr (l1++l2) (X1++X2) env=zbr l2 X2 (zbr l1 X1 env)
 | [],l2,[],X2,env,_=>rfl
 | [],l2,x :: X1,X2,env,h=>by simp at h
 | o :: l1,l2,[],X2,env,h=>by simp at h
 | o :: l1,l2,x :: X1,X2,env,h=>by
  simp only [List.cons_append,zbr]
  exact zcT (by simpa using h)

theorem zhB {E:List Nat} {a n:Nat} (hE:E.Nodup) (hm : ∀ i,i∈E ↔ a≤i∧i < a+n):E.length=n:=by
 have:=((List.perm_ext_iff_of_nodup hE (List.nodup_range' (s:=a) (n:=n) (step:=1))).2 fun i=>by rw [List.mem_range'_1];exact hm i).length_eq
 simpa using this

theorem znZ (hok:OkE l.toArray p1 p) (hop : ∀ (i:Nat) o x,i < p1 → l[i]? = some o → X[i]? = some x → BelowN H.n x) (hX:X.length=p1) (hb0 : ∀ s,BelowN H.n (zas s)) (hbel:Bel H.n H)
 {tr:List (Nat × AV)} {E:List Nat} {T:List AB} {listed:Array Bool} {σ:Gh} {w:World} {a:Act} (I:Inv1 C l p1 p X zs zas H σs ws m tr [] E T listed σ w a) :
 ∃ σ',Rel C.G σ' (app H ((List.range (p - p1)).map fun j => .cells ((zs (p1+j)).map .p))) w ∧
  RelF C.nt m σ' (app H ((List.range (p - p1)).map fun j => .cells ((zs (p1+j)).map .p))) w (zbr (l.take p) (X++(List.range (p - p1)).map fun j => .ptr (H.n+j) 0) zas) a ∧
  Ev H.n σs H ws σ' (app H ((List.range (p - p1)).map fun j => .cells ((zs (p1+j)).map .p))) w∧listed=((List.range l.length).map fun i=>decide (i < p)).toArray:=by
 have hpl:p≤l.length:=by simpa using hok.size
 have hle:=hok.le
 have hin : ∀ i,i < p → i∈tr.map (·.1):=fun i hi=>Classical.byContradiction fun h=>by
  have:=(I.rem i).2 ⟨hi,h⟩
  cases this
 have hEm : ∀ i,i∈E ↔ p1≤i∧i < p1+(p - p1):=fun i=>by
  rw [I.eiff]
  exact⟨fun h=>⟨h.1,by have:=I.lt i h.2;omega⟩,fun h=>⟨h.1,hin i (by omega)⟩⟩
 have hEl:E.length=p - p1:=zhB I.end_ hEm
 have hP:=zpQ (H:=H) (σ:=σ) (p:=p1) (E:=E) (T:=T) (T':=(List.range (p - p1)).map fun j => .cells ((zs (p1+j)).map .p)) I.end_ (by rw [hEl];exact hEm) (by rw [I.t];simp) (by simp [hEl]) (fun i hi=>by
  have hix:E.idxOf (p1+i) < E.length:=List.idxOf_lt_length_iff.2 ((hEm _).2 ⟨by omega,by omega⟩)
  rw [I.t,List.getElem?_map,List.getElem?_map,List.getElem?_eq_getElem hix,List.getElem_idxOf hix]
  simp [hEl ▸ hi]) (fun x hx y hy=>by
   rw [I.t] at hx
   obtain⟨i,_,rfl⟩:=List.mem_map.1 hx
   simp only [AB.vals,List.mem_map] at hy
   obtain⟨z,_,rfl⟩:=hy
   exact .p z)
 have hbel':Bel H.n (app H T):=fun b x hb hf y hy=>hbel b x hb (by rwa [zgb hb] at hf) y hy
 refine⟨_,hP.rel hbel' I.rel,⟨?_,I.fr.size,fun s => ?_⟩,I.ev.trans hP.ev (Nat.le_refl _),?_⟩
 · obtain⟨ms,q1,q2,q3⟩:=I.fr.defers
   exact⟨ms,q1,q2,fun g hg=>let ⟨a1,a2,a3⟩:=q3 g hg;⟨a1,a2,hP.free a3⟩⟩
 · have hs:=I.fr.slot s
   have hget : ∀ (j:Nat) o',(l.take p)[j]? = some o' → j < p∧zI l.toArray j=o'.dst:=fun j o' hj=>by
    have hjp:j < p:=by have:=(List.getElem?_eq_some_iff.1 hj).1;simp at this;omega
    rw [List.getElem?_take_of_lt hjp] at hj
    exact⟨hjp,by simp [zI,hj]⟩
   by_cases hw : ∃ j,j < p∧zI l.toArray j=some s
   · obtain⟨j,hj,hdj⟩:=hw
     obtain⟨⟨j',x⟩,hjx,rfl⟩:=List.mem_map.1 (hin j hj)
     have hjl:j' < l.length:=by omega
     have hoj:l[j']? = some l[j']:=by simp [hjl]
     have hdd:l[j'].dst=some s:=by simpa [zI,hoj] using hdj
     rw [zbx hjx hdj (fun i z hi hdi=>hok.dst j' l[j'] i s (by simp [hjl]) hj (I.lt i (List.mem_map.2 ⟨_,hi,rfl⟩)) hdd hdi) I.nd] at hs
     have huniq : ∀ (i:Nat) o',(l.take p)[i]? = some o' → o'.dst=some s → i=j':=fun i o' hi hdi=>by
      obtain⟨h1,h2⟩:=hget i o' hi
      exact hok.dst j' l[j'] i s (by simp [hjl]) hj h1 hdd (h2.trans hdi)
     have hoj':(l.take p)[j']? = some l[j']:=by rw [List.getElem?_take_of_lt hj];exact hoj
     by_cases h1:j' < p1
     · have hxj:=I.q j' x hjx h1
       rw [zbd (x:=x) hoj' (by rw [List.getElem?_append_left (by omega)];exact hxj) hdd huniq]
       exact hP.relV hs (hop j' _ x h1 hoj hxj)
     · obtain⟨kk,hk,rfl⟩:=I.al j' x hjx (by omega)
       rw [zbd (x := .ptr (H.n+(j' - p1)) 0) hoj' (by have hj2:j' < p:=hj;rw [List.getElem?_append_right (by omega),hX,List.getElem?_map,List.getElem?_range (by omega)];rfl) hdd huniq]
       generalize a.tmps.getD s undef=v at hs
       have hkl:=(List.getElem?_eq_some_iff.1 hk).1
       have hidx:E.idxOf j'=kk:=by
        have hix:E.idxOf j' < E.length:=List.idxOf_lt_length_iff.2 (List.mem_of_getElem? hk)
        refine (List.getElem_inj I.end_ (h₀:=hix) (h₁:=hkl)).1 ?_
        rw [List.getElem_idxOf hix]
        exact (List.getElem?_eq_some_iff.1 hk).2.symm
       have hperm:zax H.n p1 E (H.n+(j' - p1))=H.n+kk:=by
        unfold zax
        rw [if_pos (by omega),Nat.add_sub_cancel_left,show p1+(j' - p1)=j' by omega,hidx]
       cases hs with | ptr hb =>
       rw [←hperm]
       exact .ptr (σ:=⟨fun b=>σ.c (zax H.n p1 E b),fun b=>σ.t (zax H.n p1 E b)⟩) (by rw [app_n',List.length_map,List.length_range];have:j' < p:=hj;omega)
   · rw [zbL fun j y hj hd=>hw ⟨j,I.lt j (List.mem_map.2 ⟨_,hj,rfl⟩),hd⟩] at hs
     rw [zby fun j o' hj hd=>hw ⟨j,(hget j o' hj).1,(hget j o' hj).2.trans hd⟩]
     exact hP.relV hs (hb0 s)
 · refine Array.ext (by rw [I.lsz];simp) fun i h1 h2 => ?_
   rw [I.lsz] at h1
   have:=I.lget i h1
   rw [Array.getD_eq_getD_getElem?,Array.getElem?_eq_getElem (by rw [I.lsz];exact h1)] at this
   simp only [Option.getD_some] at this
   rw [this]
   simp only [List.getElem_toArray,List.getElem_map,List.getElem_range]
   rw [decide_eq_decide]
   exact⟨fun h=>I.lt i h,hin i⟩

theorem zds {ops:Array Oper} {q:Nat → Bool} {lb:List Oper} {k:List Item} {R:AV → Hp → Prop} : ∀ (la:List Oper) (n:Nat) (env:Env) (H:Hp),(∀ o∈la,(∃ t,o.op = .alloc t)∧o.guard=none ∧ ∃ s,o.dst=some s) → yU C ops q n (la++lb) k env H R →
 ∃ Z:List (List PV),Z.length=la.length∧(∀ (i:Nat) o t,la[i]? = some o → o.op = .alloc t → ∃ z,Z[i]? = some z∧zj C.P t=some z∧zQ C.nt o.dst=true) ∧
  yU C ops q (n+la.length) lb k (zbr la ((List.range la.length).map fun j => .ptr (H.n+j) 0) env) (app H (Z.map fun z => .cells (z.map .p))) R
 | [],n,env,H,_,h=>⟨[],rfl,fun i o t h1=>by simp at h1,h⟩
 | o :: la,n,env,H,ho,h=>by
  obtain⟨⟨t,ht⟩,hg,s,hs⟩:=ho o (by simp)
  rw [List.cons_append] at h
  unfold yU at h
  rw [hg,show zR C.nt ops none env=some true from rfl] at h
  simp only [ht,zq] at h
  cases hz:zj C.P t with
  | none=>rw [hz] at h;exact h.elim
  | some z =>
   rw [hz] at h
   obtain⟨h1,_,h2⟩:=h
   obtain⟨Z,z1,z2,z3⟩:=zds la (n+1) _ _ (fun o' ho'=>ho o' (by simp [ho'])) h2
   refine⟨z :: Z,by simp [z1],fun i o' t' hi ht' => ?_,?_⟩
   · cases i with
     | zero=>simp at hi;subst hi;rw [ht] at ht';cases ht';exact⟨z,rfl,hz,h1⟩
     | succ i=>simp only [List.getElem?_cons_succ] at hi ⊢;exact z2 i o' t' hi ht'
   · rw [List.length_cons,List.range_succ_eq_map,List.map_cons,List.map_map,List.map_cons,yJ]
     simp only [zbr]
     rw [show n+(la.length+1)=n+1+la.length by omega]
     rw [n_new'] at z3
     have:((fun j=>AV.ptr (H.n+j) 0) ∘ Nat.succ)=fun j=>AV.ptr (H.n+1+j) 0:=by
      funext j;simp only [Function.comp];rw [show H.n+j.succ=H.n+1+j by omega]
     rw [this]
     exact z3
end phase

section openE
variable {C:Cx} {k:List Item} {env:Env} {H:Hp} {R:AV → Hp → Prop}

theorem ARun.openE {id:Nat} {l:List Oper} (p1 p:Nat) (loud:List Nat) (hm:C.P.follows .mixedOrders=true) (hok:okE l.toArray p1 p=true)
 (hB:zjA (zaw loud) l.toArray (l.length - p) p ((List.range l.length).map fun i=>decide (i < p)).toArray=true)
 (h:znY C l.toArray (l.take p1) env H fun env1=>yU C l.toArray (zaw loud) p1 (l.drop p1) k env1 H R):ARun C (.code (.region id l.toArray true) :: k) env H R :=
 .of_wp fun σ w a m hpre=>by
  obtain⟨X,hX,hK,hop⟩:=zd8 h
  have hokE:=zve hok
  have hle:=hokE.le
  have hpl:p≤l.length:=by simpa using hokE.size
  rw [List.length_take,Nat.min_eq_left (by omega)] at hX
  have hdrop:l.drop p1=(l.drop p1).take (p - p1)++l.drop p:=by
   conv=>lhs;rw [←List.take_append_drop (p - p1) (l.drop p1)]
   rw [List.drop_drop,show p1+(p - p1)=p by omega]
  have hgd : ∀ (i:Nat) o,((l.drop p1).take (p - p1))[i]? = some o → i < p - p1∧l[p1+i]? = some o:=fun i o hi=>by
   have hlt:i < p - p1:=by have:=(List.getElem?_eq_some_iff.1 hi).1;simp at this;omega
   rw [List.getElem?_take_of_lt hlt,List.getElem?_drop] at hi
   exact⟨hlt,hi⟩
  have hlen:((l.drop p1).take (p - p1)).length=p - p1:=by rw [List.length_take,List.length_drop];omega
  rw [hdrop] at hK
  obtain⟨Z,z1,z2,z3⟩:=zds _ p1 _ H (fun o ho=>by
   obtain⟨i,hi⟩:=List.getElem?_of_mem ho
   obtain⟨h1,h2⟩:=hgd i o hi
   exact hokE.alloc (p1+i) o (by simpa using h2) (by omega) (by omega)) hK
  rw [hlen] at z1 z3
  have hop' : ∀ (i:Nat) o x,i < p1 → l[i]? = some o → X[i]? = some x → OpOK C l.toArray o (zbr (l.take i) (X.take i) env) H x:=fun i o x hi ho hx=>by
   have:=hop i o x (by rw [List.getElem?_take_of_lt hi];exact ho) hx
   rwa [List.take_take,Nat.min_eq_left (by omega)] at this
  obtain⟨g1,g2⟩:=zcF hpre.rel
  refine wpIn_region_any hm ?_
  rw [List.size_toArray]
  have hZ:(List.range (p - p1)).map (fun j=>AB.cells (((fun i=>(Z[i - p1]?).getD []) (p1+j)).map .p))=Z.map fun z => .cells (z.map .p):=by
   refine List.ext_getElem (by simp [z1]) fun i h1 h2 => ?_
   simp only [List.length_map,List.length_range] at h1 h2
   simp [h2]
  have key:=zKO (C:=C) (l:=l) (p1:=p1) (p:=p) (X:=X) (zs:=fun i=>(Z[i - p1]?).getD []) (zas:=env) (H:=H) (σs:=σ) (ws:=w) (m:=m) (ro:=C.round.map σ.c)
   (R1:=fun e a' w'=>e = .normal ∧ ∃ env' H' σ',ARun C k env' H' R∧Pre C σ' H' w' env' a' m∧Ev H.n σ H w σ' H' w') hokE hop' hX
   (fun i o t h1 h2 ho ht=>by
    obtain⟨z,q1,q2,q3⟩:=z2 (i - p1) o t (by rw [List.getElem?_take_of_lt (by omega),List.getElem?_drop,show p1+(i - p1)=i by omega];exact ho) ht
    exact⟨by rw [q1];exact q2,q3⟩)
   (fun tr E T listed σ1 w1 a1 I=>by
    obtain⟨σ2,r1,r2,r3,r4⟩:=znZ hokE (fun i o x h1 h2 h3=>(hop' i o x h1 h2 h3).2.1) hX (fun s=>(hpre.fr.slot s).belowN) hpre.rel.bel I
    rw [hZ] at r1 r2 r3
    subst r4
    have hrun:yU C l.toArray (zaw loud) p (l.drop p) k (zbr (l.take p) (X++(List.range (p - p1)).map fun j => .ptr (H.n+j) 0) env) (app H (Z.map fun z => .cells (z.map .p))) R:=by
     have e:l.take p=l.take p1++(l.drop p1).take (p - p1):=by
      conv=>lhs;rw [show p=p1+(p - p1) by omega,List.take_add]
     rw [e,zcT (by rw [hX,List.length_take];omega)]
     rw [show p1+(p - p1)=p by omega] at z3
     exact z3
    have hla : ∀ j,(l.drop p)[j]? = l.toArray[p+j]? := fun j=>by rw [List.getElem?_drop];simp
    have hA:=zcO (C:=C) (ops:=l.toArray) (Q:=fun env' H'=>ARun C k env' H' R) (l.drop p) p _ _ _ hla (by rw [List.length_drop];exact hB) (yz hla hrun)
    rw [List.length_drop] at hA
    exact zak (n1:=H.n) (m:=m) (l.length - p) _ _ _ σ2 w1 a1 hA r1 r2 (by rw [app_n'];omega) fun env' H' σ' w' a' b1 b2 b3 b4=>⟨rfl,env',H',σ',b1,hpre.go b2 b3 (r3.trans b4 (Nat.le_refl _)),r3.trans b4 (Nat.le_refl _)⟩)
   p [] (List.range p) [] [] (Array.replicate l.length false) σ w.drew a (by simp)
   ⟨List.nodup_nil,List.nodup_range,fun i=>by simp,fun i h=>by simp at h,fun i x h=>by simp at h,fun i x h=>by simp at h,List.nodup_nil,fun i=>by simp,rfl,fun k o _ hk=>by simp at hk,by simp,fun i hi=>by simp [Array.getD_eq_getD_getElem?,hi],g1,hpre.fr.mono g2,g2⟩
  rw [show p+(l.length - p)=l.length by omega] at key
  exact key
end openE


section steps
variable {C:Cx} {ops:Array Oper} {q:Nat → Bool} {op:Op} {ty:TypeId} {pos:String} {after:Array Edge} {dst:Option Nat} {rest l2:List Oper} {k:List Item} {env:Env} {H:Hp} {R:AV → Hp → Prop} {x:AV} {rd:Bool} {f:FuncId} {args:List AV} {j n p:Nat} {want:Bool}

def zg7 (C:Cx) (ops:Array Oper) (q:Nat → Bool) (l:List Oper) (p:Nat) (l2:List Oper) (k:List Item) (env:Env) (H:Hp) (R:AV → Hp → Prop):Prop :=
 znY C ops l env H fun env1=>yU C ops q p l2 k env1 H R
def CallQE (C:Cx) (ops:Array Oper) (q:Nat → Bool) (f:FuncId) (args:List AV) (dst:Option Nat) (l:List Oper) (p:Nat) (l2:List Oper) (k:List Item) (env:Env) (H:Hp) (R:AV → Hp → Prop):Prop :=
 zJY C f args H fun x=>zg7 C ops q l p l2 k (env.put dst x) H R
def zhC (C:Cx) (ops:Array Oper) (q:Nat → Bool) (r:SRes) (rd:Bool) (dst:Option Nat) (l:List Oper) (p:Nat) (l2:List Oper) (k:List Item) (env:Env) (H:Hp) (R:AV → Hp → Prop):Prop :=
 zpR C r rd dst H fun x=>zg7 C ops q l p l2 k (env.put dst x) H R
def zgf (C:Cx) (ops:Array Oper) (q:Nat → Bool) (g:Option Bool) (op:Op) (ty:TypeId) (dst:Option Nat) (l:List Oper) (p:Nat) (l2:List Oper) (k:List Item) (env:Env) (H:Hp) (R:AV → Hp → Prop):Prop :=
 match g with
 | some true=>zhC C ops q (zq C.P C.G op ty env H) (zdr op) dst l p l2 k env H R
 | some false=>zQ C.nt dst=true∧zg7 C ops q l p l2 k (env.put dst (.tup [])) H R
 | none=>False

theorem zvf:zg7 C ops q [] p l2 k env H R=yU C ops q p l2 k env H R:=rfl
theorem zsb:zg7 C ops q (⟨dst,op,ty,pos,after,none⟩ :: rest) p l2 k env H R=zhC C ops q (zq C.P C.G op ty env H) (zdr op) dst rest p l2 k env H R:=rfl
theorem zsc:zg7 C ops q (⟨dst,op,ty,pos,after,some (j,want)⟩ :: rest) p l2 k env H R=zgf C ops q (zR C.nt ops (some (j,want)) env) op ty dst rest p l2 k env H R:=rfl
theorem zg8:zgf C ops q (some true) op ty dst rest p l2 k env H R=zhC C ops q (zq C.P C.G op ty env H) (zdr op) dst rest p l2 k env H R:=rfl
theorem zgg:zgf C ops q (some false) op ty dst rest p l2 k env H R=(zQ C.nt dst=true∧zg7 C ops q rest p l2 k (env.put dst (.tup [])) H R):=rfl
theorem zsd:zhC C ops q (.val x H) rd dst rest p l2 k env H R=(zQ C.nt dst=true∧rd=true∧BelowN H.n x∧zg7 C ops q rest p l2 k (env.put dst x) H R):=by simp [zhC,zpR]
theorem zn0:zhC C ops q (.call f args) rd dst rest p l2 k env H R=(zQ C.nt dst=true∧CallQE C ops q f (yk C.raw f args) dst rest p l2 k env H R):=rfl
theorem zBQ {v:PV}:BelowN n (.p v)=True:=eq_true (.p v)
theorem zvg {sz i sub:Nat} {xs:List PV}:BelowN n (.ip sz xs i sub)=True:=eq_true (.ip _ _ _ _)
theorem zse {b off:Nat} (h:b < n):BelowN n (.ptr b off)=True:=eq_true (.ptr b off h)
theorem zsf {b off len sz:Nat} (h:b < n):BelowN n (.ref b off len sz)=True:=eq_true (.ref b off len sz h)
theorem zvh {a v sz:Nat} {xs:List PV} (h:a < n):BelowN n (.sl a v sz xs)=True:=eq_true (.sl a v sz xs h)
theorem zn1:BelowN n (.tup [])=True:=eq_true (.tup _ (by simp))

theorem CallQE.of {args':List AV} (h : ∀ (H':Hp) (R:AV → Hp → Prop),R x H' → ACall C.P C.G f args' H' R) (hb:BelowN H.n x) (hk:zg7 C ops q rest p l2 k (env.put dst x) H R):CallQE C ops q f args' dst rest p l2 k env H R:=⟨x,fun T=>h _ _ ⟨rfl,rfl⟩,hb,hk⟩

end steps

attribute [go_sem] zvf zsb zsc zg8 zgg zsd zn0 zBQ zvg zse zsf zvh zn1 zdr List.take_zero List.take_nil List.take_succ_cons List.drop_zero List.drop_succ_cons

end Go.AL

/-
  A region whose order is open,that makes rows of its own and stores its quiet results into them,in any order.
  Conditions: none;nothing here speaks of one program.
-/
namespace Go.AL
open Go

theorem zbM {x:AB} : ∀ {T:List AB} {H:Hp} {k:Nat},k < T.length → (app H T).set (H.n+k) x=app H (T.set k x)
 | [],H,k,h=>by simp at h
 | y :: T,H,0,h=>by
  rw [yJ,Nat.add_zero,zaN (by rw [n_new'];omega),zfW rfl,List.set_cons_zero,yJ]
 | y :: T,H,k+1,h=>by
  have:=zbM (x:=x) (T:=T) (H:=H.new y) (k:=k) (by simpa using h)
  rw [n_new'] at this
  rw [yJ,show H.n+(k+1)=H.n+1+k by omega,this,List.set_cons_succ,yJ]

theorem ziO {n:Nat} {x:AV} {xs:List AV} (h:zo x=some xs) (hb:BelowN n x) : ∀ y∈xs,BelowN n y:=by
 intro y hy
 cases hb with
 | p x =>
  cases x with
  | agg ys=>simp only [zo,Option.some.injEq] at h;subst h;obtain⟨z,_,rfl⟩:=List.mem_map.1 hy;exact .p z
  | _=>simp only [zo,Option.some.injEq] at h;subst h;simp only [List.mem_singleton] at hy;subst hy;exact .p _
 | agg ys hs=>simp only [zo,Option.some.injEq] at h;subst h;obtain⟨i,hi⟩:=List.getElem?_of_mem hy;exact hs i y hi
 | tup ys hs=>cases h
 | top=>cases h
 | sl a v sz ys hb=>simp only [zo,Option.some.injEq] at h;subst h;simp only [List.mem_singleton] at hy;subst hy;exact .sl _ _ _ _ hb
 | ref b off len sz hb=>simp only [zo,Option.some.injEq] at h;subst h;simp only [List.mem_singleton] at hy;subst hy;exact .ref _ _ _ _ hb
 | ptr b off hb=>simp only [zo,Option.some.injEq] at h;subst h;simp only [List.mem_singleton] at hy;subst hy;exact .ptr _ _ hb
 | ip sz ys i sub=>simp only [zo,Option.some.injEq] at h;subst h;simp only [List.mem_singleton] at hy;subst hy;exact .ip _ _ _ _
 | clo f a c h1 h2=>simp only [zo,Option.some.injEq] at h;subst h;simp only [List.mem_singleton] at hy;subst hy;exact .clo _ _ _ h1 h2
 | yld b hb=>simp only [zo,Option.some.injEq] at h;subst h;simp only [List.mem_singleton] at hy;subst hy;exact .yld _ hb
 | mp b hb=>simp only [zo,Option.some.injEq] at h;subst h;simp only [List.mem_singleton] at hy;subst hy;exact .mp _ hb
 | vr b _ _ hb=>simp only [zo,Option.some.injEq] at h;subst h;simp only [List.mem_singleton] at hy;subst hy;exact .vr _ _ _ hb
 | vp b _ _ hb=>simp only [zo,Option.some.injEq] at h;subst h;simp only [List.mem_singleton] at hy;subst hy;exact .vp _ _ _ hb

theorem zsg {cs xs:List AV} {y:AV} (h:0+xs.length≤cs.length) (hy:y∈setAt cs 0 xs):y∈cs ∨ y∈xs:=by
 rw [yQ _ _ _ h] at hy
 simp only [List.mem_append] at hy
 rcases hy with (hy | hy) | hy
 · exact .inl (List.mem_of_mem_take hy)
 · exact .inr hy
 · exact .inl (List.mem_of_mem_drop hy)

def zaf (ops:Array Oper) (i:Nat):Option Nat:=match ops[i]? with
 | some o=>(match o.op with | .store _ (.tmp s) _=>some s | _=>none)
 | none=>none

def tgt (ops:Array Oper) (p p2 j:Nat):Option Nat:=(List.range p2).find? fun i=>decide (p≤i) && (zaf ops i).isSome && zaf ops i == zI ops j

def okF (ops:Array Oper) (p1 p p2:Nat):Bool :=
 p1≤p && p≤p2 && p2≤ops.size && (List.range ops.size).all fun i=>match ops[i]? with
  | none=>false
  | some o =>
   if i < p2 then
    o.after.all (fun e => !Region.binds .any e || decide (e.on < i)) &&
    (if i < p then
     (List.range p).all (fun j=>j == i || (zI ops j).isNone || zI ops j != o.dst) &&
     (if i < p1 then
      (List.range p).all (fun j=>match zI ops j with
       | some s => !(o.looksAt ops).contains s || (decide (j < i) && decide (j < p1) && waitsFor o j)
       | none=>true)
     else (match o.op with | .alloc _=>true | _=>false) && o.guard.isNone && o.dst.isSome)
    else o.guard.isNone && o.dst.isNone && (match o.op with
     | .store _ (.tmp s) (.tmp v)=>(List.range p).any (fun j=>decide (p1≤j) && zI ops j == some s && waitsFor o j) && (List.range p1).any (fun u=>zI ops u == some v && waitsFor o u) &&
      (List.range p2).all (fun i'=>i' == i || decide (i' < p) || zaf ops i' != some s)
     | _=>false))
   else (List.range p2).all fun j=>(zbz ops p2 ((zdM o).filter fun j=>decide (j < p2))).contains j

structure OkF (ops:Array Oper) (p1 p p2:Nat):Prop where
 le:p1≤p
 le2:p≤p2
 size:p2≤ops.size
 dst : ∀ i o j s,ops[i]? = some o → i < p → j < p → o.dst=some s → zI ops j=some s → j=i
 back : ∀ (i:Nat) o,ops[i]? = some o → i < p2 → ∀ e∈o.after,Region.binds .any e=true → e.on < i
 quiet : ∀ (i:Nat) o,ops[i]? = some o → i < p1 → ∀ s∈o.looksAt ops,∀ j,j < p → zI ops j=some s → j < i∧j < p1∧waitsFor o j=true
 alloc : ∀ (i:Nat) o,ops[i]? = some o → p1≤i → i < p → (∃ t,o.op = .alloc t)∧o.guard=none ∧ ∃ s,o.dst=some s
 fill : ∀ (i:Nat) o,ops[i]? = some o → p≤i → i < p2 → o.guard=none∧o.dst=none ∧ ∃ t s v j u,o.op = .store t (.tmp s) (.tmp v)∧p1≤j∧j < p∧zI ops j=some s∧waitsFor o j=true ∧
  u < p1∧zI ops u=some v∧waitsFor o u=true ∧ ∀ i',p≤i' → i' < p2 → zaf ops i'=some s → i'=i
 late : ∀ (i:Nat) o,ops[i]? = some o → p2≤i → ∀ j,j < p2 → j∈zbz ops p2 ((zdM o).filter fun j=>decide (j < p2))

theorem zvi {ops:Array Oper} {p1 p p2:Nat} (h:okF ops p1 p p2=true):OkF ops p1 p p2:=by
 simp only [okF,Bool.and_eq_true,decide_eq_true_eq,List.all_eq_true,List.mem_range] at h
 obtain⟨⟨⟨h1,h2⟩,h3⟩,h4⟩:=h
 have lt : ∀ {i:Nat} {o:Oper},ops[i]? = some o → i < ops.size:=fun h=>(Array.getElem?_eq_some_iff.1 h).1
 refine⟨h1,h2,h3,fun i o j s hi hip hj hd hdj => ?_,fun i o hi hip e he hb => ?_,fun i o hi hip s hs j hj hdj => ?_,fun i o hi hp1 hip => ?_,fun i o hi hp hip => ?_,fun i o hi hip j hj => ?_⟩
 · have:=h4 i (lt hi)
   simp only [hi,if_pos (show i < p2 by omega),if_pos hip,Bool.and_eq_true,List.all_eq_true,List.mem_range] at this
   have:=this.2.1 j hj
   simpa [hdj,hd] using this
 · have:=h4 i (lt hi)
   simp only [hi,if_pos hip,Bool.and_eq_true,Array.all_eq_true'] at this
   have:=this.1 e he
   simpa [hb] using this
 · have:=h4 i (lt hi)
   simp only [hi,if_pos (show i < p2 by omega),if_pos (show i < p by omega),if_pos hip,Bool.and_eq_true,List.all_eq_true,List.mem_range] at this
   have:=this.2.2 j hj
   simp only [hdj,Bool.or_eq_true,Bool.not_eq_true',Bool.and_eq_true,decide_eq_true_eq] at this
   rcases this with h | h
   · rw [List.contains_eq_mem,decide_eq_false_iff_not] at h;exact absurd hs h
   · exact⟨h.1.1,h.1.2,h.2⟩
 · have:=h4 i (lt hi)
   simp only [hi,if_pos (show i < p2 by omega),if_pos hip,if_neg (show ¬i < p1 by omega),Bool.and_eq_true,Option.isNone_iff_eq_none,Option.isSome_iff_exists] at this
   obtain⟨_,_,⟨h4,h5⟩,h6⟩:=this
   refine⟨?_,h5,h6⟩
   split at h4
   · rename_i t ht;exact⟨t,ht⟩
   · cases h4
 · have:=h4 i (lt hi)
   simp only [hi,if_pos hip,if_neg (show ¬i < p by omega),Bool.and_eq_true,Option.isNone_iff_eq_none] at this
   obtain⟨_,⟨h5,h6⟩,h7⟩:=this
   refine⟨h5,h6,?_⟩
   split at h7
   · rename_i t s v ht
     simp only [Bool.and_eq_true,List.any_eq_true,List.mem_range,decide_eq_true_eq,beq_iff_eq,List.all_eq_true,Bool.or_eq_true,bne_iff_ne] at h7
     obtain⟨⟨⟨j,j1,⟨j2,j3⟩,j4⟩,u,u1,u2,u3⟩,hu⟩:=h7
     exact⟨t,s,v,j,u,ht,j2,j1,j3,j4,u1,u2,u3,fun i' a b c=>by
      rcases hu i' b with (e | e) | e
      · exact e
      · omega
      · exact absurd c e⟩
   · cases h7
 · have:=h4 i (lt hi)
   simp only [hi,if_neg (show ¬i < p2 by omega),List.all_eq_true,List.mem_range] at this
   simpa using this j hj

def row (ops:Array Oper) (p p2:Nat) (zs fs:Nat → List AV) (tr:List Nat) (j:Nat):List AV:=match tgt ops p p2 j with
 | some i=>if i∈tr then fs i else zs j
 | none=>zs j

theorem zvj {ops:Array Oper} {p1 p p2 i j s:Nat} (hok:OkF ops p1 p p2) (hp:p≤i) (hi:i < p2) (hs:zaf ops i=some s) (hj:zI ops j=some s):tgt ops p p2 j=some i:=by
 have hio : ∃ o,ops[i]? = some o:=⟨ops[i]'(by have:=hok.size;omega),by simp⟩
 obtain⟨o,ho⟩:=hio
 obtain⟨_,_,t,s',v,j',u,hop,_,_,_,_,_,_,_,huniq⟩:=hok.fill i o ho hp hi
 have hs':zaf ops i=some s':=by simp [zaf,ho,hop]
 obtain rfl:s'=s:=by rw [hs'] at hs;exact Option.some.inj hs
 unfold tgt
 cases hf:(List.range p2).find? (fun i=>decide (p≤i) && (zaf ops i).isSome && zaf ops i == zI ops j) with
 | none =>
  have:=List.find?_eq_none.1 hf i (by simpa using hi)
  simp [hp,hs,hj] at this
 | some i' =>
  have h1:=List.find?_some hf
  have h2:=List.mem_of_find?_eq_some hf
  simp only [Bool.and_eq_true,decide_eq_true_eq,beq_iff_eq] at h1
  rw [huniq i' h1.1.1 (by simpa using h2) (by rw [h1.2,hj])]

theorem zbN {ops:Array Oper} {p p2 i j:Nat} (h:tgt ops p p2 j=some i):p≤i∧i < p2 ∧ ∃ s,zaf ops i=some s∧zI ops j=some s:=by
 unfold tgt at h
 have h1:=List.find?_some h
 have h2:=List.mem_of_find?_eq_some h
 simp only [Bool.and_eq_true,decide_eq_true_eq,beq_iff_eq] at h1
 obtain⟨s,hs⟩:=Option.isSome_iff_exists.1 h1.1.2
 exact⟨h1.1.1,by simpa using h2,s,hs,by rw [←h1.2,hs]⟩

theorem zpS {ops:Array Oper} {p p2 i j:Nat} {zs fs:Nat → List AV} {tr:List Nat} (h:i < p):row ops p p2 zs fs (i :: tr) j=row ops p p2 zs fs tr j:=by
 unfold row
 cases ht:tgt ops p p2 j with
 | none=>rfl
 | some i' =>
  have:=(zbN ht).1
  have hne:i'≠i:=by omega
  simp [hne]

structure Inv2 (C:Cx) (l:List Oper) (p1 p p2:Nat) (X:List AV) (zs fs:Nat → List AV) (zas:Env) (H:Hp) (σs:Gh) (ws:World) (m:Nat)
 (tr:List (Nat × AV)) (rem E:List Nat) (T:List AB) (listed:Array Bool) (σ:Gh) (w:World) (a:Act):Prop where
 nd:(tr.map (·.1)).Nodup
 rnd:rem.Nodup
 rem : ∀ i,i∈rem ↔ i < p2∧i ∉ tr.map (·.1)
 lt : ∀ i,i∈tr.map (·.1) → i < p2
 q : ∀ i x,(i,x)∈tr → i < p1 → X[i]? = some x
 al : ∀ i x,(i,x)∈tr → p1≤i → i < p → ∃ k:Nat,E[k]? = some i∧x = .ptr (H.n+k) 0
 end_:E.Nodup
 eiff : ∀ i,i∈E ↔ p1≤i∧i < p∧i∈tr.map (·.1)
 t:T=E.map fun i => .cells (row l.toArray p p2 zs fs (tr.map (·.1)) i)
 cl : ∀ (k:Nat) o,l.toArray[k]? = some o → k∈tr.map (·.1) → ∀ e∈o.after,Region.binds .any e=true → e.on∈tr.map (·.1)
 lsz:listed.size=l.length
 lget : ∀ i,i < l.length → listed.getD i true=decide (i∈tr.map (·.1))
 rel:Rel C.G σ (app H T) w
 fr:RelF C.nt m σ (app H T) w (after l.toArray zas tr) a
 ev:Ev H.n σs H ws σ (app H T) w

section phase
variable {C:Cx} {l:List Oper} {p1 p p2:Nat} {X:List AV} {zs fs:Nat → List AV} {zas:Env} {H:Hp} {σs:Gh} {ws:World} {m:Nat} {ro:Option Nat} {R1:Exit → Act → World → Prop}

theorem zKP (hok:OkF l.toArray p1 p p2) (hop : ∀ (i:Nat) o x,i < p1 → l[i]? = some o → X[i]? = some x → OpOK C l.toArray o (zbr (l.take i) (X.take i) zas) H x) (hX:X.length=p1)
 (haz : ∀ (i:Nat) o t,p1≤i → i < p → l[i]? = some o → o.op = .alloc t → ∃ z,zj C.P t=some z∧zs i=z.map .p∧zQ C.nt o.dst=true)
 (hfl : ∀ (i:Nat) o t s v j u x,p≤i → i < p2 → l[i]? = some o → o.op = .store t (.tmp s) (.tmp v) → p1≤j → j < p → zI l.toArray j=some s → u < p1 → zI l.toArray u=some v → X[u]? = some x →
  ∃ xs,zo x=some xs∧(C.P.underlying t).isSome∧C.P.cellsOf t=xs.length∧0+xs.length≤(zs j).length∧fs i=setAt (zs j) 0 xs)
 (hfin : ∀ tr E T listed σ w a,Inv2 C l p1 p p2 X zs fs zas H σs ws m tr [] E T listed σ w a → wpAnyIn { Fence.wide with round:=ro } 0 C.P .any l.toArray R1 (l.length - p2) listed a w) :
 ∀ r tr rem E T listed σ w a,rem.length=r → Inv2 C l p1 p p2 X zs fs zas H σs ws m tr rem E T listed σ w a → wpAnyIn { Fence.wide with round:=ro } 0 C.P .any l.toArray R1 (r+(l.length - p2)) listed a w:=by
 intro r
 induction r with
 | zero =>
  intro tr rem E T listed σ w a hr I
  have:rem=[]:=List.eq_nil_of_length_eq_zero hr
  subst this
  rw [Nat.zero_add]
  exact hfin tr E T listed σ w a I
 | succ r ih =>
  intro tr rem E T listed σ w a hr I
  have hpl:p2≤l.length:=by simpa using hok.size
  have hle:=hok.le
  have hle2:=hok.le2
  have hunl : ∀ i,i < l.length → (listed.getD i true=false ↔ i ∉ tr.map (·.1)):=fun i hi=>by rw [I.lget i hi];simp
  have hlis : ∀ i,i < l.length → listed.getD i false=true → i∈tr.map (·.1):=fun i hi h=>by
   rw [getD_lt (by rw [I.lsz];exact hi) false true,I.lget i hi] at h
   simpa using h
  have hlis' : ∀ i,i < l.length → i∈tr.map (·.1) → listed.getD i false=true:=fun i hi h=>by
   rw [getD_lt (by rw [I.lsz];exact hi) false true,I.lget i hi]
   simpa using h
  have hne:rem≠[]:=fun h=>by rw [h] at hr;cases hr
  have hsome : ¬∀ i,i < p2 → i∈tr.map (·.1):=fun h=>by
   obtain⟨i,hi⟩:=List.exists_mem_of_ne_nil rem hne
   exact ((I.rem i).1 hi).2 (h i ((I.rem i).1 hi).1)
  rw [show r+1+(l.length - p2)=(r+(l.length - p2))+1 by omega]
  refine⟨fun h0 => ?_,fun i hi => ?_⟩
  · refine absurd ?_ hsome
    intro i
    induction i using Nat.strongRecOn with
    | _ i ihi =>
     intro hip
     refine Classical.byContradiction fun hni => ?_
     have hil:i < l.length:=by omega
     have hoi:l.toArray[i]? = some l[i]:=by simp [hil]
     have:i∈Region.ready .any l.toArray listed:=mem_ready.2 ⟨(hunl i hil).2 hni,l[i],hoi,fun e he hb=>by
      have hlt:=hok.back i _ hoi hip e he hb
      exact hlis' _ (by omega) (ihi _ hlt (by omega))⟩
     rw [h0] at this
     cases this
  · obtain⟨hun,o,ho,hall⟩:=mem_ready.1 hi
    have hil:i < l.length:=by simpa using (Array.getElem?_eq_some_iff.1 ho).1
    have hol:l[i]? = some o:=by simpa using ho
    have hni:=(hunl i hil).1 hun
    have hip:i < p2:=Classical.byContradiction fun h=>hsome fun j hj=>zb0 (S:=fun j=>j∈tr.map (·.1)) I.cl p2 _ (fun j' hj'=>by
     obtain⟨h1,h2⟩:=List.mem_filter.1 hj'
     obtain⟨e,he,rfl⟩:=List.mem_map.1 h1
     obtain⟨h3,h4⟩:=List.mem_filter.1 he
     exact hlis _ (by simp at h2;omega) (hall e (Array.mem_toList_iff.1 h3) h4)) j (hok.late i o ho (by omega) j hj)
    have hirem:i∈rem:=(I.rem i).2 ⟨hip,hni⟩
    have hdst:zI l.toArray i=o.dst:=by simp [zI,ho]
    have hwt : ∀ j,j < l.length → waitsFor o j=true → j∈tr.map (·.1):=fun j hj hw=>hlis j hj (zbm hw hall)
    -- what is handed on
    have go : ∀ (x:AV) (v:Value) (E':List Nat) (T':List AB) (σ':Gh) (w':World),E'.Nodup → (∀ j,j∈E' ↔ p1≤j∧j < p∧(j=i ∨ j∈tr.map (·.1))) → (∀ (k:Nat) j,E[k]? = some j → E'[k]? = some j) → T'=E'.map (fun j => .cells (row l.toArray p p2 zs fs (i :: tr.map (·.1)) j)) →
     (i < p1 → X[i]? = some x) → (p1≤i → i < p → ∃ k:Nat,E'[k]? = some i∧x = .ptr (H.n+k) 0) → Rel C.G σ' (app H T') w' → RelV σ' (app H T') w' x v → Ev (app H T).n σ (app H T) w σ' (app H T') w' → zQ C.nt o.dst=true →
     wpAnyIn { Fence.wide with round:=ro } 0 C.P .any l.toArray R1 (r+(l.length - p2)) (listed.setIfInBounds i true) (a.put o.dst v) w':=by
     intro x v E' T' σ' w' hE1 hE2 hE3 hT hq hal hrel hrv hev hd
     refine ih ((i,x) :: tr) (rem.erase i) E' T' _ σ' w' _ (by rw [List.length_erase_of_mem hirem,hr];rfl) ⟨?_,I.rnd.erase i,fun j => ?_,fun j hj => ?_,fun j y hj h1 => ?_,fun j y hj h1 h2 => ?_,hE1,fun j => ?_,hT,fun j o' ho' hj e he hb => ?_,?_,fun j hj => ?_,hrel,?_,I.ev.trans (hev.weaken (by rw [app_n'];omega)) (Nat.le_refl _)⟩
     · rw [List.map_cons,List.nodup_cons];exact⟨hni,I.nd⟩
     · rw [I.rnd.mem_erase_iff,I.rem,List.map_cons,List.mem_cons]
       constructor
       · exact fun h=>⟨h.2.1,fun h'=>h'.elim h.1 h.2.2⟩
       · exact fun h=>⟨fun e=>h.2 (.inl e),h.1,fun e=>h.2 (.inr e)⟩
     · rw [List.map_cons,List.mem_cons] at hj
       rcases hj with rfl | hj
       · exact hip
       · exact I.lt j hj
     · rcases List.mem_cons.1 hj with h | h
       · cases h;exact hq h1
       · exact I.q j y h h1
     · rcases List.mem_cons.1 hj with h | h
       · cases h;exact hal h1 h2
       · obtain⟨k,hk,hy⟩:=I.al j y h h1 h2
         exact⟨k,hE3 k j hk,hy⟩
     · rw [List.map_cons,List.mem_cons];exact hE2 j
     · rw [List.map_cons,List.mem_cons] at hj ⊢
       rcases hj with h | h
       · simp only at h
         subst h
         rw [ho] at ho';cases ho'
         have:=hok.back j o ho hip e he hb
         exact .inr (hlis _ (by omega) (hall e he hb))
       · exact .inr (I.cl j o' ho' h e he hb)
     · rw [Array.size_setIfInBounds];exact I.lsz
     · rw [List.map_cons]
       by_cases hij:i=j
       · subst hij
         have:(listed.setIfInBounds i true).getD i true=true:=by simp [Array.getD_eq_getD_getElem?]
         rw [this];simp
       · rw [getD_set_ne true hij,I.lget j hj]
         simp [Ne.symm hij]
     · have:=(I.fr.mono hev).put (yM hd) hrv
       simp only [after,hdst]
       exact this
    have hlow:i < p → T=E.map (fun j => .cells (row l.toArray p p2 zs fs (i :: tr.map (·.1)) j)):=fun h=>by
     rw [I.t];exact List.map_congr_left fun j _=>by rw [zpS h]
    have hEno : ¬(p1≤i∧i < p) → ∀ j,j∈E ↔ p1≤j∧j < p∧(j=i ∨ j∈tr.map (·.1)):=fun hn j=>by
     rw [I.eiff]
     constructor
     · exact fun h=>⟨h.1,h.2.1,.inr h.2.2⟩
     · rintro ⟨h1,h2,rfl | h3⟩
       · exact absurd ⟨h1,h2⟩ hn
       · exact⟨h1,h2,h3⟩
    unfold wpOpIn
    simp only [ho]
    by_cases hi1:i < p1
    · -- a quiet operation
      have hxi:X[i]? = some X[i]:=by simp [hX,hi1]
      have hOK:OpOK C l.toArray o (after l.toArray zas tr) H X[i]:=by
       refine (hop i o X[i] hi1 hol hxi).congr fun s hs => ?_
       by_cases hw : ∃ j,j < p∧zI l.toArray j=some s
       · obtain⟨j,hj,hdj⟩:=hw
         obtain⟨h1,h2,h3⟩:=hok.quiet i o ho hi1 s hs j hj hdj
         have hjt:=hlis j (by omega) (zbm h3 hall)
         obtain⟨⟨j',y⟩,hjy,rfl⟩:=List.mem_map.1 hjt
         have hjl:j' < l.length:=by omega
         have hoj:l[j']? = some l[j']:=by simp [hjl]
         have hdd:l[j'].dst=some s:=by simpa [zI,hoj] using hdj
         have hyx:=I.q j' y hjy h2
         rw [zbx hjy hdj (fun k z hk hdk=>by
          have hkp:=I.lt k (List.mem_map.2 ⟨_,hk,rfl⟩)
          by_cases hkp':k < p
          · exact hok.dst j' l[j'] k s (by simp [hjl]) hj hkp' hdd hdk
          · obtain⟨_,hnone,_⟩:=hok.fill k l[k] (by first | (simp;done) | (simp;omega)) (by omega) hkp
            simp [zI,show k < l.length by omega,hnone] at hdk) I.nd]
         refine zbd (j:=j') (o:=l[j']) (by rw [List.getElem?_take_of_lt h1];exact hoj) (by rw [List.getElem?_take_of_lt h1];exact hyx) hdd fun k o' hk hdk => ?_
         have hki:k < i:=by have:=(List.getElem?_eq_some_iff.1 hk).1;simp at this;omega
         rw [List.getElem?_take_of_lt hki] at hk
         exact hok.dst j' l[j'] k s (by simp [hjl]) hj (by omega) hdd (by simp [zI,hk,hdk])
       · rw [zbL fun j y hj hd=>hw ⟨j,by
          refine Classical.byContradiction fun hjp => ?_
          have hj2:=I.lt j (List.mem_map.2 ⟨_,hj,rfl⟩)
          obtain⟨_,hnone,_⟩:=hok.fill j l[j] (by first | (simp;done) | (simp;omega)) (by omega) hj2
          simp [zI,show j < l.length by omega,hnone] at hd,hd⟩]
         refine zby fun j o' hj hd=>hw ⟨j,?_,?_⟩
         · have:=(List.getElem?_eq_some_iff.1 hj).1;simp at this;omega
         · have hji:j < i:=by have:=(List.getElem?_eq_some_iff.1 hj).1;simp at this;omega
           rw [List.getElem?_take_of_lt hji] at hj
           simp [zI,hj,hd]
      obtain⟨hd,hbn,hcase⟩:=hOK
      rcases hcase with ⟨hw,hstep⟩ | ⟨hw,hx⟩
      · rw [if_pos (yY hw I.fr rfl)]
        refine (hstep T).wp I.rel I.fr ?_
        intro x v H' σ' w' ⟨e1,e2⟩ _ hrel hrv hev
        subst e1;subst e2
        exact go _ v E T σ' w' I.end_ (hEno (by omega)) (fun _ _ h=>h) (hlow (by omega)) (fun _=>hxi) (fun h=>by omega) hrel hrv hev hd
      · rw [if_neg (by rw [yY hw I.fr rfl];simp)]
        refine⟨fun f _=>trivial,go X[i] undef E T σ w I.end_ (hEno (by omega)) (fun _ _ h=>h) (hlow (by omega)) (fun _=>hxi) (fun h=>by omega) I.rel (by rw [hx];exact .tup #[] rfl (by simp)) (Ev.refl (Nat.le_refl _)) hd⟩
    · by_cases hi2:i < p
      · -- an allocation
        obtain⟨⟨t,ht⟩,hg,s,hs⟩:=hok.alloc i o ho (by omega) hi2
        obtain⟨z,hz,hzs,hd⟩:=haz i o t (by omega) hi2 hol ht
        rw [if_pos (by simp [Region.wanted,hg])]
        have hstep:aOp1 C o (after l.toArray zas tr) (app H T) fun x H'=>x = .ptr (app H T).n 0∧H'=(app H T).new (.cells (zs i)):=by
         unfold aOp1
         rw [ht,hzs]
         simp only [zq,hz]
         exact⟨hd,rfl,rfl⟩
        refine hstep.wp I.rel I.fr ?_
        intro x v H' σ' w' ⟨e1,e2⟩ _ hrel hrv hev
        subst e1;subst e2
        have hTl:T.length=E.length:=by rw [I.t];simp
        have happ:(app H T).new (.cells (zs i))=app H (T++[.cells (zs i)]):=by rw [zpP,zdJ]
        rw [happ] at hrel hrv hev
        have hrow:row l.toArray p p2 zs fs (i :: tr.map (·.1)) i=zs i:=by
         rw [zpS hi2]
         unfold row
         cases htg:tgt l.toArray p p2 i with
         | none=>rfl
         | some i' =>
          obtain⟨g1,g2,s',g3,g4⟩:=zbN htg
          have hni':i' ∉ tr.map (·.1):=fun hmem=>by
           obtain⟨_,_,t',s2,v',j',u',hop',_,hj2,hj3,hw',_⟩:=hok.fill i' l[i'] (by first | (simp;done) | (simp;omega)) g1 g2
           have:zaf l.toArray i'=some s2:=by simp [zaf,show i' < l.length by omega,hop']
           obtain rfl:s2=s':=by rw [this] at g3;exact Option.some.inj g3
           have hds:o.dst=some s2:=by rw [←hdst];exact g4
           have:j'=i:=hok.dst i o j' s2 ho hi2 hj2 hds hj3
           subst this
           obtain⟨e,he,hb⟩:=Array.any_eq_true'.1 hw'
           simp only [Bool.and_eq_true,beq_iff_eq] at hb
           have:=I.cl i' _ (by first | (simp;done) | (simp;omega)) hmem e he hb.1
           rw [hb.2] at this
           exact hni this
          simp [hni']
        refine go _ v (E++[i]) (T++[.cells (zs i)]) σ' w' (List.nodup_append.2 ⟨I.end_,by simp,fun j hj k hk e => ?_⟩) (fun j => ?_) (fun k j hk=>by rw [List.getElem?_append_left (List.getElem?_eq_some_iff.1 hk).1];exact hk) (by rw [List.map_append,←hlow hi2,List.map_cons,List.map_nil,hrow]) (fun h=>absurd h hi1) (fun _ _=>⟨E.length,by simp,by rw [app_n',hTl]⟩) hrel hrv hev hd
        · simp only [List.mem_singleton] at hk
          subst hk;subst e
          exact hni ((I.eiff _).1 hj).2.2
        · rw [List.mem_append,List.mem_singleton,I.eiff]
          constructor
          · rintro (h | rfl)
            · exact⟨h.1,h.2.1,.inr h.2.2⟩
            · exact⟨by omega,hi2,.inl rfl⟩
          · rintro ⟨h1,h2,rfl | h3⟩
            · exact .inr rfl
            · exact .inl ⟨h1,h2,h3⟩
      · -- a store
        obtain⟨hg,hdn,t,s,vv,j,u,hopi,hj1,hj2,hj3,hj4,hu1,hu2,hu3,huniq⟩:=hok.fill i o ho (by omega) hip
        have hsti:zaf l.toArray i=some s:=by simp [zaf,hil,show l[i]=o from (List.getElem?_eq_some_iff.1 hol).2,hopi]
        rw [if_pos (by simp [Region.wanted,hg])]
        have hnofill : ∀ k z s',(k,z)∈tr → zI l.toArray k=some s' → k < p:=fun k z s' hk hd=>by
         refine Classical.byContradiction fun hkp => ?_
         have hk2:=I.lt k (List.mem_map.2 ⟨_,hk,rfl⟩)
         obtain⟨_,hnone,_⟩:=hok.fill k l[k] (by first | (simp;done) | (simp;omega)) (by omega) hk2
         simp [zI,show k < l.length by omega,hnone] at hd
        have hget : ∀ k s',k < p → zI l.toArray k=some s' → waitsFor o k=true → ∃ x,(k,x)∈tr∧after l.toArray zas tr s'=x:=fun k s' hk hd hw=>by
         obtain⟨⟨k',x⟩,hkx,rfl⟩:=List.mem_map.1 (hwt k (by omega) hw)
         have hok':l[k']? = some l[k']:=by first | (simp;done) | (simp;omega)
         have hdd:l[k'].dst=some s':=by simpa [zI,hok'] using hd
         exact⟨x,hkx,zbx hkx hd (fun k2 z hk2 hdk=>hok.dst k' l[k'] k2 s' (by first | (simp;done) | (simp;omega)) hk (hnofill k2 z s' hk2 hdk) hdd hdk) I.nd⟩
        obtain⟨xj,hxj,hsj⟩:=hget j s hj2 hj3 hj4
        obtain⟨xu,hxu,hsu⟩:=hget u vv (by omega) hu2 hu3
        obtain⟨k,hk,rfl⟩:=I.al j xj hxj hj1 hj2
        have hXu:=I.q u xu hxu hu1
        obtain⟨xs,a1,a2,a3,a4,a5⟩:=hfl i o t s vv j u xu (by omega) hip hol hopi hj1 hj2 hj3 hu1 hu2 hXu
        have htg:tgt l.toArray p p2 j=some i:=zvj hok (by omega) hip hsti hj3
        have hkE:=(List.getElem?_eq_some_iff.1 hk).1
        have hTk:T[k]? = some (.cells (zs j)):=by
         rw [I.t,List.getElem?_map,hk]
         simp [row,htg,hni]
        have hkT:k < T.length:=(List.getElem?_eq_some_iff.1 hTk).1
        have hstep:aOp1 C o (after l.toArray zas tr) (app H T) fun x H'=>x = .top∧H'=app H (T.set k (.cells (fs i))):=by
         unfold aOp1
         rw [hopi]
         simp only [zq,zir,zf3,hsj,hsu]
         unfold zcI
         simp only [zbK,hTk,a1]
         rw [if_pos ⟨a2,a3,a4⟩,←a5,zbM hkT]
         exact⟨hdn,rfl,rfl⟩
        refine hstep.wp I.rel I.fr ?_
        intro x v H' σ' w' ⟨e1,e2⟩ _ hrel hrv hev
        subst e1;subst e2
        refine go _ v E (T.set k (.cells (fs i))) σ' w' I.end_ (hEno (by omega)) (fun _ _ h=>h) ?_ (fun h=>absurd h hi1) (fun _ h=>absurd h hi2) hrel hrv hev (by rw [hdn];rfl)
        refine List.ext_getElem (by rw [List.length_set,I.t];simp) fun k' h1 h2 => ?_
        rw [List.getElem_set,List.getElem_map]
        have hk'E:k' < E.length:=by simpa using h2
        split
        · rename_i e
          subst e
          have:E[k]=j:=(List.getElem?_eq_some_iff.1 hk).2
          rw [this]
          simp [row,htg]
        · rename_i e
          have hk'T:T[k']? = some (.cells (row l.toArray p p2 zs fs (tr.map (·.1)) E[k'])):=by rw [I.t,List.getElem?_map,List.getElem?_eq_getElem hk'E];rfl
          have hT':=(List.getElem?_eq_some_iff.1 hk'T).2
          rw [hT']
          have hrr : ∀ J,J=E[k'] → row l.toArray p p2 zs fs (i :: tr.map (·.1)) J=row l.toArray p p2 zs fs (tr.map (·.1)) J:=fun J hJ=>by
           unfold row
           cases htg':tgt l.toArray p p2 J with
           | none=>rfl
           | some i' =>
            have hne:i'≠i:=fun e'=>by
             subst e'
             obtain⟨_,_,s',g3,g4⟩:=zbN htg'
             rw [hsti] at g3
             cases g3
             have hEk:=(I.eiff J).1 (by rw [hJ];exact List.getElem_mem hk'E)
             have hjE:J=j:=by
              have hjl:j < l.length:=by omega
              have hdd:l[j].dst=some s:=by simpa [zI,hjl] using hj3
              exact hok.dst j l[j] J s (by simp [hjl]) hj2 hEk.2.1 hdd g4
             have hEj:E[k]=j:=(List.getElem?_eq_some_iff.1 hk).2
             exact e ((List.getElem_inj I.end_).1 (hEj.trans (hjE.symm.trans hJ)))
            by_cases hm:i'∈tr.map (·.1)
            · exact (if_pos (List.mem_cons_of_mem _ hm)).trans (if_pos hm).symm
            · exact (if_neg (fun h=>(List.mem_cons.1 h).elim hne hm)).trans (if_neg hm).symm
          rw [hrr _ rfl]

def zbn (ops:Array Oper) (p p2:Nat) (zs fs:Nat → List AV) (j:Nat):List AV:=match tgt ops p p2 j with
 | some i=>fs i
 | none=>zs j

theorem zpT {ops:Array Oper} {tr:List Nat} (h : ∀ i,i < p2 → i∈tr) (j:Nat):row ops p p2 zs fs tr j=zbn ops p p2 zs fs j:=by
 unfold row zbn
 cases ht:tgt ops p p2 j with
 | none=>rfl
 | some i=>exact if_pos (h i (zbN ht).2.1)

theorem zn3 (hok:OkF l.toArray p1 p p2) (hop : ∀ (i:Nat) o x,i < p1 → l[i]? = some o → X[i]? = some x → BelowN H.n x) (hX:X.length=p1) (hb0 : ∀ s,BelowN H.n (zas s)) (hbel:Bel H.n H)
 (hbr : ∀ j,p1≤j → j < p → ∀ y∈zbn l.toArray p p2 zs fs j,BelowN H.n y)
 {tr:List (Nat × AV)} {E:List Nat} {T:List AB} {listed:Array Bool} {σ:Gh} {w:World} {a:Act} (I:Inv2 C l p1 p p2 X zs fs zas H σs ws m tr [] E T listed σ w a) :
 ∃ σ',Rel C.G σ' (app H ((List.range (p - p1)).map fun j => .cells (zbn l.toArray p p2 zs fs (p1+j)))) w ∧
  RelF C.nt m σ' (app H ((List.range (p - p1)).map fun j => .cells (zbn l.toArray p p2 zs fs (p1+j)))) w (zbr (l.take p) (X++(List.range (p - p1)).map fun j => .ptr (H.n+j) 0) zas) a ∧
  Ev H.n σs H ws σ' (app H ((List.range (p - p1)).map fun j => .cells (zbn l.toArray p p2 zs fs (p1+j)))) w∧listed=((List.range l.length).map fun i=>decide (i < p2)).toArray:=by
 have hpl:p2≤l.length:=by simpa using hok.size
 have hle:=hok.le
 have hle2:=hok.le2
 have hin : ∀ i,i < p2 → i∈tr.map (·.1):=fun i hi=>Classical.byContradiction fun h=>by
  have:=(I.rem i).2 ⟨hi,h⟩
  cases this
 have hEm : ∀ i,i∈E ↔ p1≤i∧i < p1+(p - p1):=fun i=>by
  rw [I.eiff]
  exact⟨fun h=>⟨h.1,by omega⟩,fun h=>⟨h.1,by omega,hin i (by omega)⟩⟩
 have hEl:E.length=p - p1:=zhB I.end_ hEm
 have hT:T=E.map fun j => .cells (zbn l.toArray p p2 zs fs j):=by rw [I.t];exact List.map_congr_left fun j _=>by rw [zpT hin]
 have hP:=zpQ (H:=H) (σ:=σ) (p:=p1) (E:=E) (T:=T) (T':=(List.range (p - p1)).map fun j => .cells (zbn l.toArray p p2 zs fs (p1+j))) I.end_ (by rw [hEl];exact hEm) (by rw [hT];simp) (by simp [hEl]) (fun i hi=>by
  have hix:E.idxOf (p1+i) < E.length:=List.idxOf_lt_length_iff.2 ((hEm _).2 ⟨by omega,by omega⟩)
  rw [hT,List.getElem?_map,List.getElem?_map,List.getElem?_eq_getElem hix,List.getElem_idxOf hix]
  simp [hEl ▸ hi]) (fun x hx y hy=>by
   rw [hT] at hx
   obtain⟨i,hi,rfl⟩:=List.mem_map.1 hx
   have:=(hEm i).1 hi
   exact hbr i this.1 (by omega) y hy)
 have hbel':Bel H.n (app H T):=fun b x hb hf y hy=>hbel b x hb (by rwa [zgb hb] at hf) y hy
 have hnofill : ∀ k z s',(k,z)∈tr → zI l.toArray k=some s' → k < p:=fun k z s' hk hd=>by
  refine Classical.byContradiction fun hkp => ?_
  have hk2:=I.lt k (List.mem_map.2 ⟨_,hk,rfl⟩)
  obtain⟨_,hnone,_⟩:=hok.fill k l[k] (by first | (simp;done) | (simp;omega)) (by omega) hk2
  simp [zI,show k < l.length by omega,hnone] at hd
 refine⟨_,hP.rel hbel' I.rel,⟨?_,I.fr.size,fun s => ?_⟩,I.ev.trans hP.ev (Nat.le_refl _),?_⟩
 · obtain⟨ms,q1,q2,q3⟩:=I.fr.defers
   exact⟨ms,q1,q2,fun g hg=>let ⟨a1,a2,a3⟩:=q3 g hg;⟨a1,a2,hP.free a3⟩⟩
 · have hs:=I.fr.slot s
   have hget : ∀ (j:Nat) o',(l.take p)[j]? = some o' → j < p∧zI l.toArray j=o'.dst:=fun j o' hj=>by
    have hjp:j < p:=by have:=(List.getElem?_eq_some_iff.1 hj).1;simp at this;omega
    rw [List.getElem?_take_of_lt hjp] at hj
    exact⟨hjp,by simp [zI,hj]⟩
   by_cases hw : ∃ j,j < p∧zI l.toArray j=some s
   · obtain⟨j,hj,hdj⟩:=hw
     obtain⟨⟨j',x⟩,hjx,rfl⟩:=List.mem_map.1 (hin j (by omega))
     have hjl:j' < l.length:=by have:j' < p:=hj;omega
     have hoj:l[j']? = some l[j']:=by simp [hjl]
     have hdd:l[j'].dst=some s:=by simpa [zI,hoj] using hdj
     rw [zbx hjx hdj (fun i z hi hdi=>hok.dst j' l[j'] i s (by simp [hjl]) hj (hnofill i z s hi hdi) hdd hdi) I.nd] at hs
     have huniq : ∀ (i:Nat) o',(l.take p)[i]? = some o' → o'.dst=some s → i=j':=fun i o' hi hdi=>by
      obtain⟨h1,h2⟩:=hget i o' hi
      exact hok.dst j' l[j'] i s (by simp [hjl]) hj h1 hdd (h2.trans hdi)
     have hoj':(l.take p)[j']? = some l[j']:=by rw [List.getElem?_take_of_lt hj];exact hoj
     by_cases h1:j' < p1
     · have hxj:=I.q j' x hjx h1
       rw [zbd (x:=x) hoj' (by rw [List.getElem?_append_left (by omega)];exact hxj) hdd huniq]
       exact hP.relV hs (hop j' _ x h1 hoj hxj)
     · obtain⟨kk,hk,rfl⟩:=I.al j' x hjx (by omega) hj
       rw [zbd (x := .ptr (H.n+(j' - p1)) 0) hoj' (by have hj2:j' < p:=hj;rw [List.getElem?_append_right (by omega),hX,List.getElem?_map,List.getElem?_range (by omega)];rfl) hdd huniq]
       generalize a.tmps.getD s undef=v at hs
       have hkl:=(List.getElem?_eq_some_iff.1 hk).1
       have hidx:E.idxOf j'=kk:=by
        have hix:E.idxOf j' < E.length:=List.idxOf_lt_length_iff.2 (List.mem_of_getElem? hk)
        refine (List.getElem_inj I.end_ (h₀:=hix) (h₁:=hkl)).1 ?_
        rw [List.getElem_idxOf hix]
        exact (List.getElem?_eq_some_iff.1 hk).2.symm
       have hperm:zax H.n p1 E (H.n+(j' - p1))=H.n+kk:=by
        have hj2:j' < p:=hj
        unfold zax
        rw [if_pos (by omega),Nat.add_sub_cancel_left,show p1+(j' - p1)=j' by omega,hidx]
       cases hs with | ptr hb =>
       rw [←hperm]
       exact .ptr (σ:=⟨fun b=>σ.c (zax H.n p1 E b),fun b=>σ.t (zax H.n p1 E b)⟩) (by rw [app_n',List.length_map,List.length_range];have:j' < p:=hj;omega)
   · rw [zbL fun j y hj hd=>hw ⟨j,hnofill j y s hj hd,hd⟩] at hs
     rw [zby fun j o' hj hd=>hw ⟨j,(hget j o' hj).1,(hget j o' hj).2.trans hd⟩]
     exact hP.relV hs (hb0 s)
 · refine Array.ext (by rw [I.lsz];simp) fun i h1 h2 => ?_
   rw [I.lsz] at h1
   have:=I.lget i h1
   rw [Array.getD_eq_getD_getElem?,Array.getElem?_eq_getElem (by rw [I.lsz];exact h1)] at this
   simp only [Option.getD_some] at this
   rw [this]
   simp only [List.getElem_toArray,List.getElem_map,List.getElem_range]
   rw [decide_eq_decide]
   exact⟨fun h=>I.lt i h,hin i⟩

def zbe (l:List Oper) (p1 p:Nat) (zs:Nat → List AV) (env:Env) (i:Nat):List AV:=match l[i]? with
 | some o=>(match o.op with
  | .store _ (.tmp s) (.tmp v)=>setAt (zs (((List.range p).find? fun j=>decide (p1≤j) && zI l.toArray j == some s).getD 0)) 0 ((zo (env v)).getD [])
  | _=>[])
 | none=>[]

theorem zlj (hok:OkF l.toArray p1 p p2) {env:Env} {i j:Nat} {o:Oper} {t:TypeId} {s v:Nat} {xs:List AV} (ho:l[i]? = some o) (hop:o.op = .store t (.tmp s) (.tmp v)) (h1:p1≤j) (h2:j < p) (hj:zI l.toArray j=some s) (hx:zo (env v)=some xs) :
 zbe l p1 p zs env i=setAt (zs j) 0 xs:=by
 unfold zbe
 simp only [ho,hop,hx,Option.getD_some]
 have:(List.range p).find? (fun j=>decide (p1≤j) && zI l.toArray j == some s)=some j:=by
  cases hf:(List.range p).find? (fun j=>decide (p1≤j) && zI l.toArray j == some s) with
  | none =>
   have:=List.find?_eq_none.1 hf j (by simpa using h2)
   simp [h1,hj] at this
  | some j' =>
   have g1:=List.find?_some hf
   have g2:=List.mem_of_find?_eq_some hf
   simp only [Bool.and_eq_true,decide_eq_true_eq,beq_iff_eq] at g1
   have hpl:p2≤l.length:=by simpa using hok.size
   have hle2:=hok.le2
   have hjl:j < l.length:=by omega
   rw [hok.dst j l[j] j' s (by simp [hjl]) h2 (by simpa using g2) (by simpa [zI,hjl] using hj) g1.2]
 rw [this,Option.getD_some]

theorem zhD {q:Nat → Bool} {k:List Item} {env:Env} {R:AV → Hp → Prop} (hok:OkF l.toArray p1 p p2) (henv : ∀ j s,p1≤j → j < p → zI l.toArray j=some s → env s = .ptr (H.n+(j - p1)) 0) :
 ∀ (c i:Nat),i+c=p2 → p≤i → yU C l.toArray q i (l.drop i) k env (app H ((List.range (p - p1)).map fun j => .cells (row l.toArray p p2 zs (zbe l p1 p zs env) (List.range i) (p1+j)))) R →
  (∀ (i':Nat) o t s v j,i≤i' → i' < p2 → l[i']? = some o → o.op = .store t (.tmp s) (.tmp v) → p1≤j → j < p → zI l.toArray j=some s → ∃ xs,zo (env v)=some xs∧(C.P.underlying t).isSome∧C.P.cellsOf t=xs.length∧0+xs.length≤(zs j).length) ∧
  yU C l.toArray q p2 (l.drop p2) k env (app H ((List.range (p - p1)).map fun j => .cells (zbn l.toArray p p2 zs (zbe l p1 p zs env) (p1+j)))) R
 | 0,i,hi,hp,h=>by
  have:i=p2:=by omega
  subst this
  refine⟨fun i' o t s v j h1 h2=>by omega,?_⟩
  have e:((List.range (p - p1)).map fun j=>AB.cells (row l.toArray p i zs (zbe l p1 p zs env) (List.range i) (p1+j)))=(List.range (p - p1)).map fun j => .cells (zbn l.toArray p i zs (zbe l p1 p zs env) (p1+j)) :=
   List.map_congr_left fun j _=>by rw [zpT fun i hi=>by simpa using hi]
  rw [e] at h
  exact h
 | c+1,i,hi,hp,h=>by
  have hpl:p2≤l.length:=by simpa using hok.size
  have hil:i < l.length:=by omega
  have hol:l[i]? = some l[i]:=by simp [hil]
  obtain⟨hg,hdn,t,s,v,j,u,hop,hj1,hj2,hj3,_,_,_,_,huniq⟩:=hok.fill i l[i] (by simp [hil]) hp (by omega)
  have hsti:zaf l.toArray i=some s:=by simp [zaf,hil,hop]
  have htg:tgt l.toArray p p2 j=some i:=zvj hok hp (by omega) hsti hj3
  rw [List.drop_eq_getElem_cons hil] at h
  unfold yU at h
  rw [hg,show zR C.nt l.toArray none env=some true from rfl] at h
  simp only [hop,zq,zir,zf3,henv j s hj1 hj2 hj3] at h
  have hrow:((List.range (p - p1)).map fun j=>AB.cells (row l.toArray p p2 zs (zbe l p1 p zs env) (List.range i) (p1+j)))[j - p1]? = some (.cells (zs j)):=by
   rw [List.getElem?_map,List.getElem?_range (by omega),Option.map_some,show p1+(j - p1)=j by omega]
   simp [row,htg]
  unfold zcI at h
  simp only [zbK,hrow] at h
  cases hx:zo (env v) with
  | none=>rw [hx] at h;exact h.elim
  | some xs =>
   rw [hx] at h
   simp only at h
   by_cases hc:(C.P.underlying t).isSome=true∧C.P.cellsOf t=xs.length∧0+xs.length≤(zs j).length
   · rw [if_pos hc] at h
     obtain⟨_,_,h2⟩:=h
     rw [zbM (by simp;omega)] at h2
     have hrows:((List.range (p - p1)).map fun j=>AB.cells (row l.toArray p p2 zs (zbe l p1 p zs env) (List.range i) (p1+j))).set (j - p1) (.cells (setAt (zs j) 0 xs))=(List.range (p - p1)).map fun j => .cells (row l.toArray p p2 zs (zbe l p1 p zs env) (List.range (i+1)) (p1+j)):=by
      refine List.ext_getElem (by simp) fun k' h1 h2 => ?_
      have hk':k' < p - p1:=by simpa using h2
      rw [List.getElem_set]
      split
      · rename_i e
        subst e
        simp only [List.getElem_map,List.getElem_range,show p1+(j - p1)=j by omega]
        rw [show row l.toArray p p2 zs (zbe l p1 p zs env) (List.range (i+1)) j=zbe l p1 p zs env i by simp [row,htg],zlj hok hol hop hj1 hj2 hj3 hx]
      · rename_i e
        simp only [List.getElem_map,List.getElem_range]
        congr 1
        unfold row
        cases htg':tgt l.toArray p p2 (p1+k') with
        | none=>rfl
        | some i' =>
         have hne:i'≠i:=fun e'=>by
          subst e'
          obtain⟨_,_,s',g3,g4⟩:=zbN htg'
          rw [hsti] at g3
          cases g3
          have hjl:j < l.length:=by have:=hok.le2;omega
          have:=hok.dst j l[j] (p1+k') s (by simp [hjl]) hj2 (by omega) (by simpa [zI,hjl] using hj3) g4
          omega
         by_cases hm:i'∈List.range i
         · exact (if_pos hm).trans (if_pos (by simp at hm ⊢;omega)).symm
         · exact (if_neg hm).trans (if_neg (by simp at hm ⊢;omega)).symm
     rw [hrows] at h2
     obtain⟨g1,g2⟩:=zhD hok henv c (i+1) (by omega) (by omega) h2
     refine⟨fun i' o' t' s' v' j' a1 a2 a3 a4 a5 a6 a7 => ?_,g2⟩
     by_cases hii:i'=i
     · subst hii
       rw [hol] at a3;cases a3
       rw [hop] at a4;cases a4
       have hjl:j < l.length:=by have:=hok.le2;omega
       have:j'=j:=hok.dst j l[j] j' s (by simp [hjl]) hj2 a6 (by simpa [zI,hjl] using hj3) a7
       subst this
       exact⟨xs,hx,hc.1,hc.2.1,hc.2.2⟩
     · exact g1 i' o' t' s' v' j' (by omega) a2 a3 a4 a5 a6 a7
   · rw [if_neg hc] at h;exact h.elim
end phase


section openF
variable {C:Cx} {k:List Item} {env:Env} {H:Hp} {R:AV → Hp → Prop}

theorem ARun.openF {id:Nat} {l:List Oper} (p1 p p2:Nat) (loud:List Nat) (hm:C.P.follows .mixedOrders=true) (hok:okF l.toArray p1 p p2=true)
 (hB:zjA (zaw loud) l.toArray (l.length - p2) p2 ((List.range l.length).map fun i=>decide (i < p2)).toArray=true)
 (h:zg7 C l.toArray (zaw loud) (l.take p1) p1 (l.drop p1) k env H R):ARun C (.code (.region id l.toArray true) :: k) env H R :=
 .of_wp fun σ w a m hpre=>by
  obtain⟨X,hX,hK,hop⟩:=zd8 h
  have hokE:=zvi hok
  have hle:=hokE.le
  have hle2:=hokE.le2
  have hpl:p2≤l.length:=by simpa using hokE.size
  rw [List.length_take,Nat.min_eq_left (by omega)] at hX
  have hdrop:l.drop p1=(l.drop p1).take (p - p1)++l.drop p:=by
   conv=>lhs;rw [←List.take_append_drop (p - p1) (l.drop p1)]
   rw [List.drop_drop,show p1+(p - p1)=p by omega]
  have hgd : ∀ (i:Nat) o,((l.drop p1).take (p - p1))[i]? = some o → i < p - p1∧l[p1+i]? = some o:=fun i o hi=>by
   have hlt:i < p - p1:=by have:=(List.getElem?_eq_some_iff.1 hi).1;simp at this;omega
   rw [List.getElem?_take_of_lt hlt,List.getElem?_drop] at hi
   exact⟨hlt,hi⟩
  have hlen:((l.drop p1).take (p - p1)).length=p - p1:=by rw [List.length_take,List.length_drop];omega
  rw [hdrop] at hK
  obtain⟨Z,z1,z2,z3⟩:=zds _ p1 _ H (fun o ho=>by
   obtain⟨i,hi⟩:=List.getElem?_of_mem ho
   obtain⟨h1,h2⟩:=hgd i o hi
   exact hokE.alloc (p1+i) o (by simpa using h2) (by omega) (by omega)) hK
  rw [hlen] at z1 z3
  have hop' : ∀ (i:Nat) o x,i < p1 → l[i]? = some o → X[i]? = some x → OpOK C l.toArray o (zbr (l.take i) (X.take i) env) H x:=fun i o x hi ho hx=>by
   have:=hop i o x (by rw [List.getElem?_take_of_lt hi];exact ho) hx
   rwa [List.take_take,Nat.min_eq_left (by omega)] at this
  generalize hzs:(fun i=>((Z[i - p1]?).getD []).map AV.p)=zs
  generalize henvF:zbr (l.take p) (X++(List.range (p - p1)).map fun j => .ptr (H.n+j) 0) env=envF
  have hput : ∀ j x s,j < p → (X++(List.range (p - p1)).map fun j=>AV.ptr (H.n+j) 0)[j]? = some x → zI l.toArray j=some s → envF s=x:=fun j x s hj hx hd=>by
   have hjl:j < l.length:=by omega
   rw [←henvF]
   refine zbd (o:=l[j]) (by rw [List.getElem?_take_of_lt hj];simp [hjl]) hx (by simpa [zI,hjl] using hd) fun j' o' hj' hd' => ?_
   have hjp:j' < p:=by have:=(List.getElem?_eq_some_iff.1 hj').1;simp at this;omega
   rw [List.getElem?_take_of_lt hjp] at hj'
   exact hokE.dst j l[j] j' s (by simp [hjl]) hj hjp (by simpa [zI,hjl] using hd) (by simp [zI,hj',hd'])
  have henv : ∀ j s,p1≤j → j < p → zI l.toArray j=some s → envF s = .ptr (H.n+(j - p1)) 0:=fun j s h1 h2 hd =>
   hput j _ s h2 (by rw [List.getElem?_append_right (by omega),hX,List.getElem?_map,List.getElem?_range (by omega)];rfl) hd
  have hrows:((List.range (p - p1)).map fun j=>AB.cells (row l.toArray p p2 zs (zbe l p1 p zs envF) (List.range p) (p1+j)))=Z.map fun z => .cells (z.map .p):=by
   refine List.ext_getElem (by simp [z1]) fun i h1 h2 => ?_
   have hz:i < Z.length:=by simpa using h2
   have:row l.toArray p p2 zs (zbe l p1 p zs envF) (List.range p) (p1+i)=zs (p1+i):=by
    unfold row
    cases htg:tgt l.toArray p p2 (p1+i) with
    | none=>rfl
    | some i'=>exact if_neg (by have:=(zbN htg).1;simp;omega)
   simp only [List.getElem_map,List.getElem_range,this]
   rw [←hzs]
   simp [hz]
  have hrun0:yU C l.toArray (zaw loud) p (l.drop p) k envF (app H ((List.range (p - p1)).map fun j => .cells (row l.toArray p p2 zs (zbe l p1 p zs envF) (List.range p) (p1+j)))) R:=by
   rw [hrows,←henvF]
   have e:l.take p=l.take p1++(l.drop p1).take (p - p1):=by
    conv=>lhs;rw [show p=p1+(p - p1) by omega,List.take_add]
   rw [e,zcT (by rw [hX,List.length_take];omega)]
   rw [show p1+(p - p1)=p by omega] at z3
   exact z3
  obtain⟨f1,f2⟩:=zhD (C:=C) (zs:=zs) hokE henv (p2 - p) p (by omega) (Nat.le_refl _) hrun0
  have hXF : ∀ u v x,u < p1 → zI l.toArray u=some v → X[u]? = some x → envF v=x:=fun u v x hu hd hx=>hput u x v (by omega) (by rw [List.getElem?_append_left (by omega)];exact hx) hd
  have hfl : ∀ (i:Nat) o t s v j u x,p≤i → i < p2 → l[i]? = some o → o.op = .store t (.tmp s) (.tmp v) → p1≤j → j < p → zI l.toArray j=some s → u < p1 → zI l.toArray u=some v → X[u]? = some x →
   ∃ xs,zo x=some xs∧(C.P.underlying t).isSome∧C.P.cellsOf t=xs.length∧0+xs.length≤(zs j).length∧zbe l p1 p zs envF i=setAt (zs j) 0 xs:=fun i o t s v j u x h1 h2 ho hp h3 h4 h5 h6 h7 h8=>by
   obtain⟨xs,b1,b2,b3,b4⟩:=f1 i o t s v j h1 h2 ho hp h3 h4 h5
   exact⟨xs,by rw [←hXF u v x h6 h7 h8];exact b1,b2,b3,b4,zlj hokE ho hp h3 h4 h5 b1⟩
  have hbz : ∀ j,∀ y∈zs j,BelowN H.n y:=fun j y hy=>by
   rw [←hzs] at hy
   obtain⟨z,_,rfl⟩:=List.mem_map.1 hy
   exact .p z
  have hbr : ∀ j,p1≤j → j < p → ∀ y∈zbn l.toArray p p2 zs (zbe l p1 p zs envF) j,BelowN H.n y:=fun j h1 h2 y hy=>by
   unfold zbn at hy
   cases htg:tgt l.toArray p p2 j with
   | none=>rw [htg] at hy;exact hbz j y hy
   | some i =>
    rw [htg] at hy
    obtain⟨c1,c2,s,c3,c4⟩:=zbN htg
    have hil:i < l.length:=by omega
    obtain⟨_,_,t,s',v,j',u,hopi,j1,j2,j3,_,u1,u2,_,_⟩:=hokE.fill i l[i] (by simp [hil]) c1 c2
    have:zaf l.toArray i=some s':=by simp [zaf,hil,hopi]
    obtain rfl:s'=s:=by rw [this] at c3;exact Option.some.inj c3
    have hxu:X[u]? = some X[u]:=by simp [hX,u1]
    obtain⟨xs,b1,_,_,b4,b5⟩:=hfl i l[i] t s' v j u X[u] c1 c2 (by simp [hil]) hopi h1 h2 c4 u1 u2 hxu
    simp only [b5] at hy
    rcases zsg b4 hy with hy | hy
    · exact hbz j y hy
    · exact ziO b1 ((hop' u l[u] X[u] u1 (by first | (simp;done) | (simp;omega)) hxu).2.1) y hy
  obtain⟨g1,g2⟩:=zcF hpre.rel
  refine wpIn_region_any hm ?_
  rw [List.size_toArray]
  have key:=zKP (C:=C) (l:=l) (p1:=p1) (p:=p) (p2:=p2) (X:=X) (zs:=zs) (fs:=zbe l p1 p zs envF) (zas:=env) (H:=H) (σs:=σ) (ws:=w) (m:=m) (ro:=C.round.map σ.c)
   (R1:=fun e a' w'=>e = .normal ∧ ∃ env' H' σ',ARun C k env' H' R∧Pre C σ' H' w' env' a' m∧Ev H.n σ H w σ' H' w') hokE hop' hX
   (fun i o t h1 h2 ho ht=>by
    obtain⟨z,q1,q2,q3⟩:=z2 (i - p1) o t (by rw [List.getElem?_take_of_lt (by omega),List.getElem?_drop,show p1+(i - p1)=i by omega];exact ho) ht
    exact⟨z,q2,by rw [←hzs];simp [q1],q3⟩) hfl
   (fun tr E T listed σ1 w1 a1 I=>by
    obtain⟨σ2,r1,r2,r3,r4⟩:=zn3 hokE (fun i o x h1 h2 h3=>(hop' i o x h1 h2 h3).2.1) hX (fun s=>(hpre.fr.slot s).belowN) hpre.rel.bel hbr I
    rw [henvF] at r2
    subst r4
    have hla : ∀ j,(l.drop p2)[j]? = l.toArray[p2+j]? := fun j=>by rw [List.getElem?_drop];simp
    have hA:=zcO (C:=C) (ops:=l.toArray) (Q:=fun env' H'=>ARun C k env' H' R) (l.drop p2) p2 _ _ _ hla (by rw [List.length_drop];exact hB) (yz hla f2)
    rw [List.length_drop] at hA
    exact zak (n1:=H.n) (m:=m) (l.length - p2) _ _ _ σ2 w1 a1 hA r1 r2 (by rw [app_n'];omega) fun env' H' σ' w' a' b1 b2 b3 b4=>⟨rfl,env',H',σ',b1,hpre.go b2 b3 (r3.trans b4 (Nat.le_refl _)),r3.trans b4 (Nat.le_refl _)⟩)
   p2 [] (List.range p2) [] [] (Array.replicate l.length false) σ w.drew a (by simp)
   ⟨List.nodup_nil,List.nodup_range,fun i=>by simp,fun i h=>by simp at h,fun i x h=>by simp at h,fun i x h=>by simp at h,List.nodup_nil,fun i=>by simp,rfl,fun k o _ hk=>by simp at hk,by simp,fun i hi=>by simp [Array.getD_eq_getD_getElem?,hi],g1,hpre.fr.mono g2,g2⟩
  rw [show p2+(l.length - p2)=l.length by omega] at key
  exact key
end openF

end Go.AL

/-
  Rows that are built by append and written by name: where they begin and where they become plain data.
  Conditions: none;nothing here speaks of one program.
-/
namespace Go.AL
open Go

section vec
variable {C:Cx} {todo:List Item} {env:Env} {H:Hp} {R:AV → Hp → Prop} {α:Type} {f:α → PV} {l:List α}

theorem ARun.vec (t:Nat) {sz:Nat} (ht:env t = .p (.sl true sz [])) (h:ARun C todo (env.put (some t) (.vr H.n 0 sz)) (H.new (.vec [])) R):ARun C todo env H R :=
 .ghost (fun σ w a m hpre=>by
  obtain⟨r1,e1⟩:=zd2 hpre.rel (w':=w) (Nat.le_refl _) (fun _ _=>rfl) rfl rfl 0 (some []) none (fun _ _ _ hh=>by cases hh) (fun cs hcs=>by cases hcs;exact⟨rfl,fun _=>rfl,fun _ _ _ hh=>by cases hh⟩)
  refine⟨_,r1,fun i => ?_,e1⟩
  simp only [Env.put]
  by_cases hi:i=t
  · subst hi
    rw [if_pos rfl]
    have hs:=hpre.fr.slot i
    rw [ht] at hs
    generalize a.tmps.getD i undef=v at hs
    have hv : ∃ ad,v = .slice ad 0 0∧zjk ad 0:=by
     cases hs with | p hp =>
     cases hp with
     | emp _ _ a cap h0 hc=>exact⟨a,by rw [h0 rfl],by simp [zjk]⟩
     | sl _ _ _ g off cap F hfl hcap hsz hrd hc =>
      have:=hfl rfl
      simp only [List.length_nil] at this
      subst this
      exact⟨_,rfl,by simp [zjk]⟩
    obtain⟨ad,rfl,hado⟩:=hv
    refine .vr ⟨by simp [Hp.n_new],ad,0,rfl,hado,fun k0 c hk0 => ?_⟩
    simp [Hp.f_new] at hk0
    exact⟨by simp,fun _ => .inl ⟨rfl,rfl,by simp [Gh.withT]⟩⟩
  · rw [if_neg hi];exact (hpre.fr.slot i).mono e1) h

theorem ziP {G:Globs} {σ:Gh} {w:World} (hr:Rel G σ H w) {b k g s:Nat} {c:Option (List AV)} (hb:H.f b=some (.tl k c)) (ht:σ.t b=some (g,0,s)) (o:Nat):Stable σ (H.set b .dead) g o:=by
 have hf : ∀ b' x,x ≠ .dead → (H.set b .dead).f b'=some x → b'≠b∧H.f b'=some x:=by
  intro b' x hx h
  rw [Hp.f_set] at h
  split at h
  · cases h;exact absurd rfl hx
  · rename_i hh
    exact⟨fun e=>hh ⟨e,Hp.lt hb⟩,h⟩
 refine⟨fun b' x h e => ?_,fun b' k' d o2 s' h ht' => ?_⟩
 · obtain⟨h1,h2⟩:=hf b' _ (by simp) h
   exact hr.ct b' b x k c g 0 s h2 hb ht e
 · obtain⟨h1,h2⟩:=hf b' _ (by simp) h
   exact absurd (hr.tt b' b k' d k c g o2 s' 0 s h2 hb ht' ht) h1

theorem ARun.frzV (t:Nat) {b len sz:Nat} {cs:List AV} {xs:List PV} (ht:env t = .vr b len sz) (hb:(H.f b).bind AB.vec? = some cs) (hcs:cs=(flat xs).map .p) (hl:xs.length=len) (hsz : ∀ x∈xs,x.cells.length=sz)
 (h:ARun C todo (env.put (some t) (.p (.sl false sz xs))) (H.set b .dead) R):ARun C todo env H R :=
 .ghost (fun σ w a m hpre=>by
  obtain⟨r1,e1⟩:=zdK hpre.rel b
  refine⟨σ,r1,fun i => ?_,e1⟩
  simp only [Env.put]
  by_cases hi:i=t
  · subst hi
    rw [if_pos rfl]
    have hs:=hpre.fr.slot i
    rw [ht] at hs
    generalize a.tmps.getD i undef=v at hs
    cases hs with | vr hs =>
    subst hl
    have hfl:(flat xs).length=xs.length*sz:=yl hsz
    obtain⟨ad,cap,rfl,hado,hrow⟩:=zmo hpre.rel hb hs (by rw [hcs,List.length_map,hfl])
    rcases hrow with ⟨h0,rfl,hσ⟩ | ⟨g,s,rfl,hσ,h5,h6,h7,h8,hcells⟩
    · have:xs=[]:=List.eq_nil_of_length_eq_zero h0
      subst this
      exact .p (.emp _ _ _ _ (by simp) (by simp))
    · obtain⟨k,hk⟩:=vec?_inv hb
      have hcell : ∀ j y,(flat xs)[j]? = some y → ∃ v,w.cell? ⟨g,j,none⟩=some v∧RelP w (Stable σ (H.set b .dead)) y v∧v.oneCell'=true:=fun j y hj=>by
       obtain⟨v,h1,h2,h3⟩:=hcells j (.p y) (by rw [hcs];simp [hj])
       have:=h2.mono e1
       cases this with | p hp=>exact⟨v,h1,hp,h3⟩
      refine .p (.sl false sz xs g 0 cap (fun j=>(w.cell? ⟨g,j,none⟩).getD undef) (by simp) ⟨h6,h7⟩ hsz (fun j hj => ?_) (fun j y hj => ?_))
      · rw [Nat.zero_add]
        obtain⟨v,h1,_,h3⟩:=hcell j ((flat xs)[j]'(by omega)) (by simp)
        exact⟨ziP hpre.rel hk hσ j,by simp [h1],by simp [h1,h3]⟩
      · obtain⟨v,h1,h2,_⟩:=hcell j y hj
        simp only [h1,Option.getD_some]
        exact h2
  · rw [if_neg hi];exact (hpre.fr.slot i).mono e1) h
end vec

theorem flat_nil:flat []=[]:=rfl
theorem zsh {x:PV} {xs:List PV}:flat (x :: xs)=x.cells++flat xs:=rfl
theorem zKQ {α:Type} {f:α → PV} {l:List α} {x:α}:cl f l++[.p (f x)]=cl f (l++[x]):=by simp [cl]
theorem zPx {n:Nat} {H:Hp} {α:Type} {f:α → PV} {l:List α} (h:Bel n H):Bel n (H.new (.vec (cl f l))):=yD h fun y hy=>by
 simp only [AB.vals,Option.getD_some,cl,List.mem_map] at hy
 obtain⟨x,_,rfl⟩:=hy
 exact .p _

section guards
variable {C:Cx} {ops:Array Oper} {op:Op} {dst:Option Nat} {rest:List Oper} {k:List Item} {env:Env} {H:Hp} {R:AV → Hp → Prop} {ty:TypeId} {q:Nat → Bool} {n:Nat} {b:Bool}
theorem yN (h1:b=true → guarded C ops (some true) op ty dst rest k env H R) (h2:b=false → guarded C ops (some false) op ty dst rest k env H R):guarded C ops (some b) op ty dst rest k env H R:=by
 cases b
 · exact h2 rfl
 · exact h1 rfl
theorem yG (h1:b=true → zbI C ops q (some true) op ty n dst rest k env H R) (h2:b=false → zbI C ops q (some false) op ty n dst rest k env H R):zbI C ops q (some b) op ty n dst rest k env H R:=by
 cases b
 · exact h2 rfl
 · exact h1 rfl
end guards

def zpU (P:Program) (t:TypeId):Option (List (Option (Nat × Nat))) :=
 match P.underlying t with
 | some (.struct fields)=>if fields.all fun f=>(P.info? f.type).isSome then some (fields.toList.map fun f=>if (P.info? f.type).isSome then some (f.offset,P.cellsOf f.type) else none) else none
 | _=>none
theorem zt {P:Program} {t:TypeId} {pls:List (Option (Nat × Nat))} {ps:List PV} {parts:List (Nat × AV)} (h:zpU P t=some pls) (hz:zj P t=some ps) :
 zX P t parts=(ye (fun i=>pls[i]?.join) (ps.map .p) parts).map zG:=by
 unfold zpU at h
 split at h
 case h_2=>cases h
 rename_i fields hu
 split at h
 case isFalse=>cases h
 rename_i hall
 cases h
 unfold zX
 rw [hu,hz]
 simp only [hall,if_true]
 congr 2
 funext i
 unfold za2
 cases hf:fields[i]? with
 | none=>simp [hf]
 | some f=>simp [hf]
def zJZ (P:Program) (t:TypeId):Option Nat :=
 match P.underlying t with
 | some (.array _ e)=>if (P.info? e).isSome then some (P.cellsOf e) else none
 | _=>none
theorem zaW {P:Program} {t:TypeId} {n:Nat} {ps:List PV} {parts:List (Nat × AV)} (h:zJZ P t=some n) (hz:zj P t=some ps) :
 zX P t parts=(ye (fun i=>some (i*n,n)) (ps.map .p) parts).map zG:=by
 unfold zJZ at h
 split at h
 case h_2=>cases h
 rename_i k e hu
 split at h
 case isFalse=>cases h
 rename_i hi
 cases h
 unfold zX
 rw [hu,hz]
 simp only [hi,if_true]
theorem zn4 {place:Nat → Option (Nat × Nat)} {cells:List AV} {i:Nat} {x:AV} {rest:List (Nat × AV)} :
 ye place cells ((i,x) :: rest)=(match place i,zo x with
 | some (off,size),some cs=>if cs.length=size∧off+size≤cells.length then ye place (setAt cells off cs) rest else none
 | _,_=>none):=rfl
attribute [go_sem] zn4 Option.join_some

theorem zpV {P:Program} {t:TypeId} {xs ys:List PV} {a b:List Value} {la lb:List Lit} {p:Prop} [Decidable p] (h:(P.keyTypeAt 64 t && !P.eqGuardType P.depth t && zg P t)=true) (ha:zbG xs=some a) (hb:zbG ys=some b)
 (hla:P.keyLits 64 t a=some la) (hlb:P.keyLits 64 t b=some lb) (hp:la=lb ↔ p):zi P .eql t (.p (.agg xs)) (.p (.agg ys))=some (.p (bo (decide p)))∧zi P .neq t (.p (.agg xs)) (.p (.agg ys))=some (.p (bo !decide p)):=by
 have:zcy P t xs ys=some (decide p):=by
  unfold zcy
  rw [if_pos h,ha,hb]
  simp only [hla,hlb]
  congr 1
  by_cases hh:p
  · simp [hh,hp]
  · simp [hh,hp]
 exact⟨by simp only [zi,this];rfl,by simp only [zi,this];rfl⟩

section join
variable {C:Cx} {k:List Item} {env:Env} {H:Hp} {R:AV → Hp → Prop} {x y:Code} {t:Nat}
theorem ARun.cut {i:Item} (I:Env → Hp → Prop) (h1:(∀ env' H',I env' H' → ARun C k env' H' R) → ARun C (i :: k) env H R) (h3 : ∀ env' H',I env' H' → ARun C k env' H' R):ARun C (i :: k) env H R:=h1 h3
end join

def sle {α:Type} (sz:Nat) (f:α → PV) (l:List α):PV := .sl false sz (pl f l)
section sle
variable {α:Type} {sz:Nat} {f:α → PV} {l m:List α} {ls:List (List α)} {i:Nat}
theorem zBR:sle sz f l = .sl false sz (pl f l):=rfl
theorem zn5:pl (sle sz f) ls++[.sl false sz (pl f m)]=pl (sle sz f) (ls++[m]):=by simp [pl,sle]
theorem zn6:pl (sle sz f) ls++[.sl false sz []]=pl (sle sz f) (ls++[[]]):=by simp [pl,sle]
theorem zn7:(cl (sle sz f) ls).set i (.p (.sl false sz (pl f m)))=cl (sle sz f) (ls.set i m):=by simp [cl,List.map_set,sle]
theorem ziQ:(pl (sle sz f) ls).map PV.weak1=pl (sle sz f) ls:=zat fun _=>rfl
theorem zlk:(pl (sle sz f) ls).map PV.weak=pl (sle sz f) ls:=zbX fun _=>rfl
theorem zvk:flat (pl (sle sz f) ls)=pl (sle sz f) ls:=zd7 fun y hy=>by
 simp only [pl,List.mem_map] at hy
 obtain⟨x,_,rfl⟩:=hy
 rfl
theorem zKR {α' v:Nat} {xs:List PV} {r:List AV} {ps:List PV} (h:pvs? r=some ps):pvs? (.sl α' v sz xs :: r)=some (.sl false sz xs :: ps):=by simp [pvs?,AV.pv?,h]
end sle
attribute [go_sem] zBR zn5 zn6 zn7 ziQ zlk zvk zKR List.set_cons_zero List.set_cons_succ

theorem zKS {b:Bool}:(b == true)=b:=by cases b<;>rfl
theorem zKT {b:Bool}:(b == false) = !b:=by cases b<;>rfl
attribute [go_sem] flat_nil zsh zKQ zKS zKT

theorem zbs (P:Program) (t:TypeId) (x:Int) (k:Nat) (hk:k≤62):zi P .and t (.p (i64 x)) (.p (i64 ((2 ^ k - 1:Nat):Int)))=some (.p (i64 (x % (2 ^ k:Nat)))):=by
 have h1:(BitVec.ofInt 64 x &&& BitVec.ofInt 64 ((2 ^ k - 1:Nat):Int)).toNat=(x % (2 ^ k:Nat)).toNat:=by
  have hlt:2 ^ k≤2 ^ 62:=Nat.pow_le_pow_right (by omega) hk
  have hp:0 < 2 ^ k:=Nat.pos_of_ne_zero (by simp)
  have hd:(2 ^ k:Nat) ∣ 2 ^ 64:=Nat.pow_dvd_pow 2 (by omega)
  rw [BitVec.toNat_and,BitVec.toNat_ofInt,BitVec.toNat_ofInt]
  have e1:(((2 ^ k - 1:Nat):Int) % (2 ^ 64:Nat)).toNat=2 ^ k - 1:=by
   rw [←Int.natCast_emod,Int.toNat_natCast,Nat.mod_eq_of_lt (by omega)]
  rw [e1,Nat.and_two_pow_sub_one_eq_mod]
  have e2:((x % (2 ^ 64:Nat)).toNat % 2 ^ k:Nat)=(x % (2 ^ k:Nat)).toNat:=by
   have h0:0≤x % ((2 ^ 64:Nat):Int):=Int.emod_nonneg _ (by decide)
   have h2:0≤x % ((2 ^ k:Nat):Int):=Int.emod_nonneg _ (by omega)
   have:(((x % (2 ^ 64:Nat)).toNat % 2 ^ k:Nat):Int)=x % (2 ^ k:Nat):=by
    rw [Int.natCast_emod,Int.toNat_of_nonneg h0]
    exact Int.emod_emod_of_dvd x (Int.natCast_dvd_natCast.2 hd)
   omega
  exact e2
 have hp:(0:Int) < (2 ^ k:Nat):=by
  have:0 < 2 ^ k:=Nat.pos_of_ne_zero (by simp)
  omega
 have h2:0≤x % (2 ^ k:Nat):=Int.emod_nonneg _ (by omega)
 have h3:x % (2 ^ k:Nat) < (2 ^ k:Nat):=Int.emod_lt_of_pos _ hp
 have h4:(2 ^ k:Nat)≤2 ^ 62:=Nat.pow_le_pow_right (by omega) hk
 simp only [zi,i64,zB,zh,yc,Bool.false_eq_true,if_false,if_true,Option.map_some]
 have h5:(BitVec.ofInt IntKind.i64.bits x &&& BitVec.ofInt IntKind.i64.bits ((2 ^ k - 1:Nat):Int)).toNat=(x % (2 ^ k:Nat)).toNat:=h1
 rw [h5,Int.toNat_of_nonneg h2,ze9 (by omega) (by omega)]
theorem ze (P:Program) (t:TypeId) (x:Int):zi P .and t (.p (i64 x)) (.p (i64 255))=some (.p (i64 (x % 256))):=zbs P t x 8 (by omega)
theorem zg9 (P:Program) (t:TypeId) (x:Int):zi P .and t (.p (i64 x)) (.p (i64 1))=some (.p (i64 (x % 2))):=zbs P t x 1 (by omega)
theorem zz (P:Program) (t:TypeId) (x:Int):zi P .and t (.p (i64 x)) (.p (i64 65535))=some (.p (i64 (x % 65536))):=zbs P t x 16 (by omega)
attribute [go_sem] ze zg9 zz

theorem zBS (x y : BitVec 64) : zaG "math/bits.Add64" [.p (zw x), .p (zw y), .p (zw 0#64)] = some (.tup [.p (zw (x + y)), .p (zw (if 2 ^ 64 ≤ x.toNat + y.toNat then 1#64 else 0#64))]) := by
  have hx:=x.isLt
  have hy:=y.isLt
  have h1:((x.toNat:Int).toNat+(y.toNat:Int).toNat+(0:Int).toNat) % 2 ^ 64=(x+y).toNat:=by rw [BitVec.toNat_add];simp
  have h2:((x.toNat:Int).toNat+(y.toNat:Int).toNat+(0:Int).toNat) / 2 ^ 64=(if 2 ^ 64≤x.toNat+y.toNat then 1#64 else 0#64:BitVec 64).toNat:=by
    simp only [Int.toNat_natCast,Int.toNat_zero,Nat.add_zero]
    split
    · show _=1
      omega
    · show _=0
      omega
  have hu:zgQ [.p (zw x),.p (zw y),.p (zw 0#64)]=some [(x.toNat:Int),(y.toNat:Int),0]:=rfl
  simp only [zaG,hu]
  rw [if_pos ⟨by omega,by omega,by omega,by omega⟩,if_pos trivial,h1,h2]
  rfl
theorem zBT (x y : BitVec 64) : zaG "math/bits.Sub64" [.p (zw x), .p (zw y), .p (zw 0#64)] = some (.tup [.p (zw (x - y)), .p (zw (if x.toNat < y.toNat then 1#64 else 0#64))]) := by
  have hx:=x.isLt
  have hy:=y.isLt
  have h1:((x.toNat:Int).toNat+2 ^ 64 - (y.toNat:Int).toNat - (0:Int).toNat) % 2 ^ 64=(x - y).toNat:=by
    rw [BitVec.toNat_sub]
    simp only [Int.toNat_natCast,Int.toNat_zero,Nat.sub_zero]
    congr 1
    omega
  have h2:(if (x.toNat:Int).toNat < (y.toNat:Int).toNat+(0:Int).toNat then 1 else 0:Nat)=(if x.toNat < y.toNat then 1#64 else 0#64:BitVec 64).toNat:=by
    simp only [Int.toNat_natCast,Int.toNat_zero,Nat.add_zero]
    split<;>rfl
  have hu:zgQ [.p (zw x),.p (zw y),.p (zw 0#64)]=some [(x.toNat:Int),(y.toNat:Int),0]:=rfl
  simp only [zaG,hu]
  rw [if_pos ⟨by omega,by omega,by omega,by omega⟩,if_neg (by decide),if_pos trivial,h1,h2]
  rfl
attribute [go_sem] zBS zBT
attribute [go_sem] app_n' n_new' n_set' zar zbZ List.length_set List.length_append List.length_replicate List.length_cons List.length_nil zk4 List.length_drop List.length_take List.length_map

/-! ### Short words for the walks -/
def zpW:List Item → Option (List Item)
 | .code .skip :: k=>some k
 | .code (.seq x y) :: k=>some (.code x :: .code y :: k)
 | .code (.block id c) :: k=>some (.code c :: .inBlock id :: k)
 | .inBlock _ :: k=>some k
 | .code (.exit id) :: k=>exitTo id k
 | _=>none
theorem ARun.z {C:Cx} {t t':List Item} {env:Env} {H:Hp} {R:AV → Hp → Prop} (e:zpW t=some t') (h:ARun C t' env H R):ARun C t env H R:=by
 unfold zpW at e
 split at e
 · cases e;exact .skip h
 · cases e;exact .seq h
 · cases e;exact .block h
 · cases e;exact .inBlock h
 · exact .exit e h
 · cases e
def stepsI:Nat → List Item → List Item
 | 0,t=>t
 | n+1,t=>match zpW t with | some t'=>stepsI n t' | none=>t
theorem ARun.stepsI {C:Cx} {env:Env} {H:Hp} {R:AV → Hp → Prop} : ∀ (n:Nat) {t:List Item},ARun C (stepsI n t) env H R → ARun C t env H R
 | 0,_,h=>h
 | n+1,t,h=>by
  unfold Go.AL.stepsI at h
  cases e:zpW t with
  | none=>rw [e] at h;exact h
  | some t'=>rw [e] at h;exact .z e (ARun.stepsI n h)
theorem ARun.q {C:Cx} {t:List Item} {env:Env} {H:Hp} {R:AV → Hp → Prop} (h:ARun C (Go.AL.stepsI 30 t) env H R):ARun C t env H R := .stepsI 30 h
theorem zb {p:Prop} (h:p:=by first | omega | assumption | (simp only [go_sem];done) | (simp only [go_sem]<;>omega) | fail):p:=h
theorem ARun.rt {C:Cx} {k:List Item} {env:Env} {H:Hp} {R:AV → Hp → Prop} {fn:Func} {x y:AV} (hfn:C.P.funcs[C.fid]? = some fn) {rs:List ResultVar} (hrs:fn.results.toList=rs)
 (hx:zcC C.P rs env H=some x:=by simp (disch:=first|exact zb|fail) only [go_sem,seval];rfl) (hy:x.out C.n0=some y:=by simp (disch:=first|exact zb|fail) only [go_sem,seval];rfl)
 (hb:Bel C.n0 H:=by (try dsimp only);repeat (first | with_reducible refine zK ?_ zb | with_reducible refine zam ?_ zb | with_reducible refine za0 ?_ zb | with_reducible refine zae ?_ | with_reducible exact hbel | with_reducible exact hbel _ | with_reducible exact hbel _ _ | with_reducible exact hbel _ _ _ | with_reducible exact hbel _ _ _ _)) (hR:R y (H.trunc C.n0)) (hro:C.round=none:=by rfl) :
 ARun C (.code .ret :: k) env H R := .ret hfn hrs hx hy hb hR hro

end Go.AL

/-
  A full slice in a cell becomes the holder's own.
  Conditions: none;nothing here speaks of one program.
-/
namespace Go.AL
open Go

section cell
variable {C:Cx} {todo:List Item} {env:Env} {H:Hp} {R:AV → Hp → Prop}

theorem setRow_self {w:World} {g:Nat} {c:Array Value} {e:TypeId} (h:w.heap[g]? = some (.cells c e (0,0))):w.setRow g c=w:=by
 have:(w.setRow g c).heap=w.heap:=by
  apply Array.ext_getElem?
  intro i
  simp only [World.setRow,Array.getElem?_modify]
  by_cases hi:g=i
  · subst hi;simp [h]
  · simp [hi]
 cases w
 simp only [World.setRow] at this ⊢
 rw [this]

theorem ARun.ownC (b o:Nat) {cs:List AV} {sz:Nat} {xs:List PV} (hb:H.f b=some (.cells cs)) (ho:cs[o]? = some (.p (.sl true sz xs)))
 (h:ARun C todo env ((H.new (.tail 0)).set b (.cells (cs.set o (.sl H.n 0 sz xs)))) R):ARun C todo env H R :=
 .ghost (fun σ w a m hpre=>by
  obtain⟨r1,e1⟩:=zaz hpre.rel (w':=w) (Nat.le_refl _) (fun _ _=>rfl) rfl rfl none (fun _ _ _ hh=>by cases hh)
  have hb1:(H.new (.tail 0)).f b=some (.cells cs):=by rw [Hp.f_new_old H _ b (Hp.lt hb)];exact hb
  obtain⟨c,e,hw,hl,hcs⟩:=r1.cells b cs hb1
  obtain⟨r2,e2⟩:=zfe r1 hb1 hw c (cs.set o (.sl H.n 0 sz xs)) rfl (by simp) (fun i x hx=>by
   by_cases hi:o=i
   · subst hi
     obtain⟨v,hv,hrc⟩:=hcs o _ ho
     have hlt:o < cs.length:=(List.getElem?_eq_some_iff.1 ho).1
     simp [hlt] at hx
     subst hx
     refine⟨v,hv,?_,hrc.2⟩
     cases hrc.1 with | p hp' =>
     refine .sl ?_ ⟨by simp [Hp.n_new],fun k0 d hk0 => ?_⟩
     · cases hp' with
       | emp _ _ a cap h hc=>exact .emp _ _ a cap (by simp) hc
       | sl _ _ _ g off cap f hfl hcap hsz hrd hc=>exact .sl false _ _ g off cap f (by simp) hcap hsz hrd hc
     · simp [Hp.f_new] at hk0
       refine⟨by omega,fun _ => .inl ?_⟩
       cases hp' with
       | emp _ _ a cap h0 hc=>exact⟨a,0,by rw [h0 rfl],by simp [Gh.withT]⟩
       | sl _ _ _ g off cap f hfl hcap hsz hrd hc=>exact⟨some ⟨g,off,none⟩,xs.length,by rw [hfl rfl],by simp [Gh.withT]⟩
   · rw [List.getElem?_set_ne hi] at hx
     exact hcs i x hx)
  rw [setRow_self hw] at r2 e2
  exact⟨_,r2,fun i=>((hpre.fr.slot i).mono e1).mono e2,e1.trans (e2.weaken (by simp [Hp.n_new])) (Nat.le_refl _)⟩) h


theorem ARun.weak (t:Nat) {x y:AV} (ht:env t=x) (hy:x.weak=y) (h:ARun C todo (env.put (some t) y) H R):ARun C todo env H R :=
 .ghost (fun σ w a m hpre=>by
  obtain⟨r1,e1⟩:=zdy hpre.rel (w':=w) (Nat.le_refl _) (fun _ _=>rfl) rfl rfl
  refine⟨σ,hpre.rel,fun i => ?_,e1⟩
  simp only [Env.put]
  by_cases hi:i=t
  · subst hi
    rw [if_pos rfl,←hy,←ht]
    exact (hpre.fr.slot i).weak
  · rw [if_neg hi];exact hpre.fr.slot i) h
end cell

theorem zam {n:Nat} {H:Hp} {T:List AB} (h:Bel n H) (hn:n≤H.n):Bel n (app H T):=by
 induction T generalizing H with
 | nil=>exact h
 | cons x T ih=>exact ih ((Bel.new hn).2 h) (by rw [n_new'];omega)
theorem zRl {a:Nat}:a+1+1=a+2:=by omega
theorem zRm {a:Nat}:a+2+1=a+3:=by omega
theorem add4 {a:Nat}:a+3+1=a+4:=by omega
theorem add5 {a:Nat}:a+4+1=a+5:=by omega
theorem zRn {a:Nat}:a+5+1=a+6:=by omega
theorem zKU {a:Nat}:a+1+2=a+3:=by omega
theorem zKV {a:Nat}:a+1+3=a+4:=by omega
theorem zKW {a:Nat}:a+1+4=a+5:=by omega
theorem zKX {a:Nat}:a+1+5=a+6:=by omega
theorem zKY {a:Nat}:a+2+2=a+4:=by omega
theorem zKZ {a:Nat}:a+2+3=a+5:=by omega
theorem zK0 {a:Nat}:a+2+4=a+6:=by omega
theorem zK1 {a:Nat}:a+2+5=a+7:=by omega
theorem zK2 {a:Nat}:a+3+2=a+5:=by omega
theorem zK3 {a:Nat}:a+3+3=a+6:=by omega
theorem zK4 {a:Nat}:a+3+4=a+7:=by omega
theorem zK5 {a:Nat}:a+3+5=a+8:=by omega
theorem zK6 {a:Nat}:a+4+2=a+6:=by omega
theorem zK7 {a:Nat}:a+4+3=a+7:=by omega
theorem zK8 {a:Nat}:a+4+4=a+8:=by omega
theorem zK9 {a:Nat}:a+5+2=a+7:=by omega
theorem zLa {a:Nat}:a+5+3=a+8:=by omega
attribute [go_sem] zKU zKV zKW zKX zKY zKZ zK0 zK1 zK2 zK3 zK4 zK5 zK6 zK7 zK8 zK9 zLa zRl zRm add4 add5 zRn
end Go.AL

/-
  Loops and cuts whose fixed zaT need not be told: what a slot held before it holds afterwards.
  Conditions: none;nothing here speaks of one program.
-/
namespace Go.AL
open Go

def St:List Nat → List (Nat × AV) → Env → Env → Prop
 | t :: fx,vs,env,env'=>env' t=env t∧St fx vs env env'
 | [],(t,v) :: vs,env,env'=>env' t=v∧St [] vs env env'
 | [],[],_,_=>True
theorem zvl {t:Nat} {fx:List Nat} {vs:List (Nat × AV)} {env env':Env}:St (t :: fx) vs env env'=(env' t=env t∧St fx vs env env'):=by rw [St]
theorem zLb {t:Nat} {v:AV} {vs:List (Nat × AV)} {env env':Env}:St [] ((t,v) :: vs) env env'=(env' t=v∧St [] vs env env'):=by rw [St]
theorem zLc {env env':Env}:St [] [] env env'=True:=by rw [St]
theorem St.start {env:Env} {vs:List (Nat × AV)} (h:St [] vs env env) : ∀ {fx:List Nat},St fx vs env env
 | []=>h
 | t :: fx=>by rw [zvl];exact⟨rfl,St.start h⟩

def zb1 (H:Hp):List (Nat × AB) → Hp
 | []=>H
 | (b,x) :: l=>zb1 (H.set b x) l
theorem yh {H:Hp}:zb1 H []=H:=by rw [zb1]
theorem zaE {H:Hp} {b:Nat} {x:AB} {l:List (Nat × AB)}:zb1 H ((b,x) :: l)=zb1 (H.set b x) l:=by rw [zb1]
def news (H:Hp):List AB → Hp
 | []=>H
 | x :: l=>news (H.new x) l
theorem zvm {H:Hp}:news H []=H:=by rw [news]
theorem zsi {H:Hp} {x:AB} {l:List AB}:news H (x :: l)=news (H.new x) l:=by rw [news]
def Later (H:Hp) (bs:List (Nat × AB)) (H':Hp):Prop := ∃ T,H'=app (zb1 H bs) T
theorem Later.mk {H H':Hp} {bs:List (Nat × AB)} (T:List AB) (h:H'=app (zb1 H bs) T):Later H bs H':=⟨T,h⟩

def stepS:List Item → Option (List Item)
 | .code .skip :: k=>some k
 | .code (.seq x y) :: k=>some (.code x :: .code y :: k)
 | .inBlock _ :: k=>some k
 | .code (.exit id) :: k=>exitTo id k
 | _=>none
theorem zaP {H:Hp} {T:List AB} {x:AB}:(app H T).new x=app H (T++[x]):=by simp [app]
section rules
variable {C:Cx} {k:List Item} {env:Env} {H:Hp} {R:AV → Hp → Prop}
theorem ARun.zs {t t':List Item} (e:stepS t=some t') (h:ARun C t' env H R):ARun C t env H R:=by
 unfold stepS at e
 split at e
 · cases e;exact .skip h
 · cases e;exact .seq h
 · cases e;exact .inBlock h
 · exact .exit e h
 · cases e
theorem ARun.loopF {c:Code} (fx:List Nat) (V:Nat → List (Nat × AV)) (B:Nat → List (Nat × AB)) (Q:Nat → Prop) (a n:Nat) (ha:a≤n) (hv:St [] (V a) env env) (hb:zb1 H (B a)=H) (hq:Q a)
 (last : ∀ env' T,St fx (V n) env env' → Q n → ARun C (.code c :: .inLoop c :: k) env' (app (zb1 H (B n)) T) R)
 (round : ∀ i env' T,a≤i → i < n → St fx (V i) env env' → Q i → (∀ env2 H2,St fx (V (i+1)) env env2 → Q (i+1) → Later H (B (i+1)) H2 → ARun C (.inLoop c :: k) env2 H2 R) → ARun C (.code c :: .inLoop c :: k) env' (app (zb1 H (B i)) T) R) :
 ARun C (.code (.loop c) :: k) env H R :=
 .count (fun i env' H'=>St fx (V i) env env'∧Q i∧Later H (B i) H') a n ha ⟨.start hv,hq,[],hb.symm⟩
  (fun env' H' ⟨h1,h2,T,h3⟩=>by subst h3;exact last env' T h1 h2)
  (fun i env' H' h1 h2 ⟨h3,h4,T,h5⟩ ih=>by subst h5;exact round i env' T h1 h2 h3 h4 fun env2 H2 a b c=>ih env2 H2 ⟨a,b,c⟩)
theorem ARun.loopE {c:Code} (fx:List Nat) (V:Nat → List (Nat × AV)) (B:Nat → List (Nat × AB)) (Q:Nat → Prop) (a n:Nat) (ha:a≤n) (hv:St [] (V a) env env) (hb:zb1 H (B a)=H) (hq:Q a)
 (last : ∀ env',St fx (V n) env env' → Q n → ARun C (.code c :: .inLoop c :: k) env' (zb1 H (B n)) R)
 (round : ∀ i env',a≤i → i < n → St fx (V i) env env' → Q i → (∀ env2 H2,St fx (V (i+1)) env env2 → Q (i+1) → H2=zb1 H (B (i+1)) → ARun C (.inLoop c :: k) env2 H2 R) → ARun C (.code c :: .inLoop c :: k) env' (zb1 H (B i)) R) :
 ARun C (.code (.loop c) :: k) env H R :=
 .count (fun i env' H'=>St fx (V i) env env'∧Q i∧H'=zb1 H (B i)) a n ha ⟨.start hv,hq,hb.symm⟩
  (fun env' H' ⟨h1,h2,h3⟩=>by subst h3;exact last env' h1 h2)
  (fun i env' H' h1 h2 ⟨h3,h4,h5⟩ ih=>by subst h5;exact round i env' h1 h2 h3 h4 fun env2 H2 a b c=>ih env2 H2 ⟨a,b,c⟩)
theorem ARun.cutE {i:Item} (fx:List Nat) (V:List (Nat × AV)) (B:List (Nat × AB)) (h1:(∀ env2 H2,St fx V env env2 → H2=zb1 H B → ARun C k env2 H2 R) → ARun C (i :: k) env H R)
 (h2 : ∀ env',St fx V env env' → ARun C k env' (zb1 H B) R):ARun C (i :: k) env H R :=
 h1 fun env2 H2 a b=>by subst b;exact h2 env2 a
theorem ARun.cutF {i:Item} (fx:List Nat) (V:List (Nat × AV)) (B:List (Nat × AB)) (h1:(∀ env2 H2,St fx V env env2 → Later H B H2 → ARun C k env2 H2 R) → ARun C (i :: k) env H R)
 (h2 : ∀ env' T,St fx V env env' → ARun C k env' (app (zb1 H B) T) R):ARun C (i :: k) env H R :=
 h1 fun env2 H2 a ⟨T,b⟩=>by subst b;exact h2 env2 T a
theorem ARun.cutF0 {i:Item} {X:Hp} {T0:List AB} (fx:List Nat) (V:List (Nat × AV)) (h1:(∀ env2 H2,St fx V env env2 → Later X [] H2 → ARun C k env2 H2 R) → ARun C (i :: k) env (app X T0) R)
 (h2 : ∀ env' T,St fx V env env' → ARun C k env' (app X T) R):ARun C (i :: k) env (app X T0) R :=
 h1 fun env2 H2 a ⟨T,b⟩=>by subst b;exact h2 env2 T a
theorem ARun.loopH {c:Code} (fx:List Nat) (V:Nat → List (Nat × AV)) (B:Nat → Hp) (Q:Nat → Prop) (a n:Nat) (ha:a≤n) (hv:St [] (V a) env env) (hb:B a=H) (hq:Q a)
 (last : ∀ env',St fx (V n) env env' → Q n → ARun C (.code c :: .inLoop c :: k) env' (B n) R)
 (round : ∀ i env',a≤i → i < n → St fx (V i) env env' → Q i → (∀ env2 H2,St fx (V (i+1)) env env2 → Q (i+1) → H2=B (i+1) → ARun C (.inLoop c :: k) env2 H2 R) → ARun C (.code c :: .inLoop c :: k) env' (B i) R) :
 ARun C (.code (.loop c) :: k) env H R :=
 .count (fun i env' H'=>St fx (V i) env env'∧Q i∧H'=B i) a n ha ⟨.start hv,hq,hb.symm⟩
  (fun env' H' ⟨h1,h2,h3⟩=>by subst h3;exact last env' h1 h2)
  (fun i env' H' h1 h2 ⟨h3,h4,h5⟩ ih=>by subst h5;exact round i env' h1 h2 h3 h4 fun env2 H2 a b c=>ih env2 H2 ⟨a,b,c⟩)
theorem ARun.loopK {c:Code} {S:Type} (fx:List Nat) (V:S → List (Nat × AV)) (B:S → Hp) (Q:S → Prop) (μ:S → Nat) (s0:S) (hv:St [] (V s0) env env) (hb:B s0=H) (hq:Q s0)
 (round : ∀ s env',St fx (V s) env env' → Q s → (∀ s2 env2 H2,μ s2 < μ s → St fx (V s2) env env2 → Q s2 → H2=B s2 → ARun C (.inLoop c :: k) env2 H2 R) → ARun C (.code c :: .inLoop c :: k) env' (B s) R) :
 ARun C (.code (.loop c) :: k) env H R :=
 .iter (S:=S) (fun s env' H'=>St fx (V s) env env'∧Q s∧H'=B s) μ s0 ⟨.start hv,hq,hb.symm⟩
  (fun s env' H' ⟨h3,h4,h5⟩ ih=>by subst h5;exact round s env' h3 h4 fun s2 env2 H2 m a b c=>ih s2 env2 H2 ⟨a,b,c⟩ m)
theorem ARun.cutH {i:Item} (fx:List Nat) (V:List (Nat × AV)) (B:Hp) (h1:(∀ env2 H2,St fx V env env2 → H2=B → ARun C k env2 H2 R) → ARun C (i :: k) env H R)
 (h2 : ∀ env',St fx V env env' → ARun C k env' B R):ARun C (i :: k) env H R :=
 h1 fun env2 H2 a b=>by subst b;exact h2 env2 a
end rules

/-! ### Rows of rows that are appended to -/
section rows
variable {C:Cx} {todo:List Item} {env:Env} {H:Hp} {R:AV → Hp → Prop}
end rows
attribute [go_sem] zvl zLb zLc yh zaE zvm zsi
end Go.AL

/-
  A row behind a cell is written no more.
  Conditions: none;nothing here speaks of one program.
-/
namespace Go.AL
open Go

section plain
variable {G:Globs} {σ:Gh} {H:Hp} {w:World} {α:Type} {f:α → PV} {l:List α}


end plain

section cell
variable {C:Cx} {todo:List Item} {env:Env} {H:Hp} {R:AV → Hp → Prop}

end cell
end Go.AL

/-
  A row of wide elements that was written by index is written no more.
  Conditions: none;nothing here speaks of one program.
-/
namespace Go.AL
open Go

section freeze
variable {C:Cx} {todo:List Item} {env:Env} {H:Hp} {R:AV → Hp → Prop}
end freeze
end Go.AL

/-
  A region whose order is open and whose operations are all quiet: a quicker check that one run in the text's order serves every order.
  Conditions: none;nothing here speaks of one program.
-/
namespace Go.AL
open Go

def zgh (ops:Array Oper) (o:Oper):List Oper → Nat → List Nat → Bool
 | [],_,_=>true
 | oj :: l,j,acc=>if (oj.after.toList.any fun e=>Region.binds .any e && acc.contains e.on) then zgh ops o l (j+1) (j :: acc) else o.apart ops oj && zgh ops o l (j+1) acc
def ziR (ops:Array Oper):List Oper → Nat → Bool
 | [],_=>true
 | o :: l,k=>(o.after.toList.all fun e => !Region.binds .any e || Nat.blt e.on k) && zgh ops o l (k+1) [k] && ziR ops l (k+1)

section fast
variable {C:Cx} {ops:Array Oper} {q:Nat → Bool} {Q:Env → Hp → Prop}
theorem zcU {o:Oper} {k:Nat} {listed:Array Bool} (hI : ∀ j,k≤j → j < ops.size → listed.getD j true=false) : ∀ (l:List Oper) (j:Nat) (acc:List Nat),k≤j → (∀ i,l[i]? = ops[j+i]?) → (∀ a∈acc,a=k ∨ Waits ops listed k a) → zgh ops o l j acc=true →
 ∀ i oi,l[i]? = some oi → Waits ops listed k (j+i) ∨ o.apart ops oi=true
 | [],_,_,_,_,_,_,i,oi,h=>by simp at h
 | oj :: l,j,acc,hk,hl,hacc,h,i,oi,hi=>by
  have hj:ops[j]? = some oj:=by simpa using (hl 0).symm
  have hjs:j < ops.size:=(Array.getElem?_eq_some_iff.1 hj).1
  have hl' : ∀ i,l[i]? = ops[j+1+i]? := fun i=>by have:=hl (i+1);simpa [Nat.add_assoc,Nat.add_comm 1 i] using this
  unfold zgh at h
  split at h
  · rename_i he
    obtain⟨e,he1,he2⟩:=List.any_eq_true.1 he
    simp only [Bool.and_eq_true,List.contains_iff_mem] at he2
    have hw:Waits ops listed k j:=by
     rcases hacc _ he2.2 with h1 | ⟨f,h1⟩
     · refine⟨1,?_⟩
       simp only [y8,hj,hI j hk hjs,Bool.not_false,Bool.true_and]
       exact Array.any_eq_true'.2 ⟨e,by simpa using he1,by simp [he2.1,h1]⟩
     · refine⟨f+1,?_⟩
       simp only [y8,hj,hI j hk hjs,Bool.not_false,Bool.true_and]
       exact Array.any_eq_true'.2 ⟨e,by simpa using he1,by simp [he2.1,h1]⟩
    rcases i with _ | i
    · exact .inl hw
    · have:=zcU hI l (j+1) (j :: acc) (by omega) hl' (fun a ha=>by
       rcases List.mem_cons.1 ha with rfl | ha
       · exact .inr hw
       · exact hacc a ha) h i oi (by simpa using hi)
      rwa [show j+1+i=j+(i+1) by omega] at this
  · simp only [Bool.and_eq_true] at h
    rcases i with _ | i
    · simp only [List.getElem?_cons_zero,Option.some.injEq] at hi
      subst hi
      exact .inr h.1
    · have:=zcU hI l (j+1) acc (by omega) hl' hacc h.2 i oi (by simpa using hi)
      rwa [show j+1+i=j+(i+1) by omega] at this

theorem zhE (hq : ∀ k,q k=true) : ∀ (l:List Oper) (k:Nat) (listed:Array Bool) (env:Env) (H:Hp),(∀ j,l[j]? = ops[k+j]?) → listed.size=ops.size → (∀ j,j < ops.size → listed.getD j true=decide (j < k)∧listed.getD j false=decide (j < k)) → ziR ops l k=true → zdF C ops q Q k l env H → zjy C ops q Q l.length listed env H
 | [],k,listed,_,_,hl,hs,hI,hB,h=>by
  refine⟨?_,h⟩
  have hk:ops.size≤k:=by
   rcases Nat.lt_or_ge k ops.size with h1 | h1
   · have:=hl 0
     rw [Nat.add_zero,Array.getElem?_eq_getElem h1] at this
     simp at this
   · exact h1
  refine List.filter_eq_nil_iff.2 fun i hi => ?_
  rw [(hI i (List.mem_range.1 hi)).1]
  have:=List.mem_range.1 hi
  simp [show i < k by omega]
 | o :: l,k,listed,env,H,hl,hs,hI,hB,h=>by
  have h0:ops[k]? = some o:=by simpa using (hl 0).symm
  have hks:k < ops.size:=(Array.getElem?_eq_some_iff.1 h0).1
  have hl' : ∀ j,l[j]? = ops[k+1+j]? := fun j=>by have:=hl (j+1);simpa [Nat.add_assoc,Nat.add_comm 1 j] using this
  simp only [ziR,Bool.and_eq_true] at hB
  obtain⟨⟨hr,hf⟩,hB'⟩:=hB
  simp only [zdF] at h
  have hI0 : ∀ j,k≤j → j < ops.size → listed.getD j true=false:=fun j h1 h2=>by rw [(hI j h2).1];simp;omega
  rw [hq k] at h
  have : ∃ x,YieldsA C ops o env H x∧zdF C ops q Q (k+1) l (env.put o.dst x) H:=by
   unfold opA at h
   simp only [h0] at h
   split at h
   · rename_i hw;simp only [if_true] at h;obtain⟨x,h1,h2⟩:=h;exact⟨x,.inl ⟨hw,h1⟩,h2⟩
   · rename_i hw;exact⟨.tup [],.inr ⟨hw,h.1,rfl⟩,h.2⟩
   · exact h.elim
  obtain⟨x,hy,hK⟩:=this
  have hsp:=zcU (o:=o) hI0 l (k+1) [k] (by omega) hl' (fun a ha => .inl (List.mem_singleton.1 ha)) hf
  refine zfA h0 (hq k) (Waits ops listed k) (fun j oj hj hw=>hw.edge hj) l.length listed env H (fun j hw=>hw.unlisted) (fun j oj hj hne hun hno => ?_) ?_ hy (zhE hq l (k+1) _ _ _ hl' (by simp [hs]) (fun j hj => ?_) hB' hK)
  · refine⟨hq j,?_⟩
    have hjs:j < ops.size:=(Array.getElem?_eq_some_iff.1 hj).1
    have hkj:k < j:=by
     rw [(hI j hjs).1] at hun
     simp at hun
     omega
    have:=hsp (j - (k+1)) oj (by rw [hl',show k+1+(j - (k+1))=j by omega];exact hj)
    rw [show k+1+(j - (k+1))=j by omega] at this
    exact this.resolve_left hno
  · refine List.mem_filter.2 ⟨List.mem_range.2 hks,?_⟩
    rw [h0,(hI k hks).1]
    simp only [Nat.lt_irrefl,decide_false,Bool.not_false,Bool.true_and,Option.map_some,Option.getD_some]
    refine Array.all_eq_true'.2 fun e he => ?_
    have:=List.all_eq_true.1 hr e (by simpa using he)
    simp only [Bool.or_eq_true] at this ⊢
    refine this.imp id fun h1 => ?_
    have hlt:e.on < k:=by simpa [Nat.blt_eq] using h1
    rw [(hI e.on (by omega)).2]
    simpa using hlt
  · have:=hI j hj
    by_cases e:k=j
    · subst e
      simp [Array.getD,hs,hj]
    · rw [getD_set_ne true e,getD_set_ne false e,this.1,this.2]
      have:decide (j < k)=decide (j < k+1):=by
       by_cases h1:j < k
       · rw [decide_eq_true h1,decide_eq_true (by omega)]
       · rw [decide_eq_false h1,decide_eq_false (by omega)]
      rw [this];exact⟨rfl,rfl⟩

theorem ARun.openFast {k:List Item} {env:Env} {H:Hp} {R:AV → Hp → Prop} {id:Nat} {l:List Oper} (hm:C.P.follows .mixedOrders=true) (hB:ziR l.toArray l 0=true)
 (h:yU C l.toArray (zaw []) 0 l k env H R):ARun C (.code (.region id l.toArray true) :: k) env H R :=
 .of_wp fun σ w a m hpre=>by
  obtain⟨g1,g2⟩:=zcF hpre.rel
  have h':=yz (by simp) h
  have:=zhE (C:=C) (ops:=l.toArray) (q:=zaw []) (Q:=fun env' H'=>ARun C k env' H' R) (fun _=>rfl) l 0 (Array.replicate l.length false) env H (by simp) (by simp) (fun j hj=>by
   have hj':j < l.length:=by simpa using hj
   simp [Array.getD,hj']) hB h'
  refine wpIn_region_any hm ?_
  rw [List.size_toArray]
  exact zak (m:=m) l.length _ env H σ w.drew a this g1 (hpre.fr.mono g2) (Nat.le_refl _) fun env' H' σ' w' a' b1 b2 b3 b4=>⟨rfl,env',H',σ',b1,hpre.go b2 b3 (g2.trans b4 (Nat.le_refl _)),g2.trans b4 (Nat.le_refl _)⟩
end fast
end Go.AL

/-
  Rows that one holder writes: another reading of the machine's state between the operations of a region;the first part of such a row.
  Conditions: none;nothing here speaks of one program.
-/
namespace Go.AL
open Go

section cut
variable {G:Globs} {σ:Gh} {H:Hp} {w:World}
end cut

section ops
variable {C:Cx} {ops:Array Oper} {rest:List Oper} {k:List Item} {env:Env} {H:Hp} {R:AV → Hp → Prop}
theorem AOps.ghost {l:List Oper} {env':Env} {H':Hp}
 (hg : ∀ σ w a m,Pre C σ H w env a m → ∃ σ',Rel C.G σ' H' w∧(∀ i,RelV σ' H' w (env' i) (a.tmps.getD i undef))∧Ev H.n σ H w σ' H' w) (h:AOps C ops l k env' H' R):AOps C ops l k env H R:=by
 intro σ w a m hpre
 obtain⟨σ',hr,hs,hev⟩:=hg σ w a m hpre
 have h4:=hpre.fr.mono hev
 have h1:=h σ' w a m (hpre.go hr ⟨h4.defers,h4.size,hs⟩ hev)
 have hF:Fr C σ'=Fr C σ:=by simp only [Fr,round_eq hpre.n0 hev.c hpre.lt]
 rw [hF] at h1
 refine zdd l ?_ _ _ h1
 rintro e a' w2 ⟨rfl,env2,H2,σ2,hr2,hpre2,hev2⟩
 exact⟨rfl,env2,H2,σ2,hr2,hpre2,hev.trans (hev2.weaken hev.hn) (Nat.le_refl _)⟩
theorem AOps.vec {l:List Oper} (t:Nat) {sz:Nat} (ht:env t = .p (.sl true sz [])) (h:AOps C ops l k (env.put (some t) (.vr H.n 0 sz)) (H.new (.vec [])) R):AOps C ops l k env H R :=
 .ghost (fun σ w a m hpre=>by
  obtain⟨r1,e1⟩:=zd2 hpre.rel (w':=w) (Nat.le_refl _) (fun _ _=>rfl) rfl rfl 0 (some []) none (fun _ _ _ hh=>by cases hh) (fun cs hcs=>by cases hcs;exact⟨rfl,fun _=>rfl,fun _ _ _ hh=>by cases hh⟩)
  refine⟨_,r1,fun i => ?_,e1⟩
  simp only [Env.put]
  by_cases hi:i=t
  · subst hi
    rw [if_pos rfl]
    have hs:=hpre.fr.slot i
    rw [ht] at hs
    generalize a.tmps.getD i undef=v at hs
    have hv : ∃ ad,v = .slice ad 0 0∧zjk ad 0:=by
     cases hs with | p hp =>
     cases hp with
     | emp _ _ a cap h0 hc=>exact⟨a,by rw [h0 rfl],by simp [zjk]⟩
     | sl _ _ _ g off cap F hfl hcap hsz hrd hc =>
      have:=hfl rfl
      simp only [List.length_nil] at this
      subst this
      exact⟨_,rfl,by simp [zjk]⟩
    obtain⟨ad,rfl,hado⟩:=hv
    refine .vr ⟨by simp [Hp.n_new],ad,0,rfl,hado,fun k0 c hk0 => ?_⟩
    simp [Hp.f_new] at hk0
    exact⟨by simp,fun _ => .inl ⟨rfl,rfl,by simp [Gh.withT]⟩⟩
  · rw [if_neg hi];exact (hpre.fr.slot i).mono e1) h
theorem AOps.nilA {d:Nat} {ty:TypeId} {pos:String} {after:Array Edge} (hd:zQ C.nt (some d)=true) (h:AOps C ops rest k (env.put (some d) (.p (.s (.slice none 0 0)))) H R) :
 AOps C ops (⟨some d,.assign (.const (.slice none 0 0)),ty,pos,after,none⟩ :: rest) k env H R:=by
 refine .of_op true rfl fun σ w a m hpre K Q hK => ?_
 have hsem:Oper.semAt (Fr C σ).round a.eval ⟨some d,.assign (.const (.slice none 0 0)),ty,pos,after,none⟩=execOp a.eval ⟨some d,.assign (.const (.slice none 0 0)),ty,pos,after,none⟩:=Oper.semAt_eq _ _ _ (fun c h=>by cases h)
 unfold Oper.wpIn
 refine⟨fun f _=>trivial,?_⟩
 rw [hsem]
 have he:(execOp a.eval ⟨some d,.assign (.const (.slice none 0 0)),ty,pos,after,none⟩).run C.P w = .ok (.value (.slice none 0 0)) w:=by
  simp [execOp,Act.eval]
 rw [he]
 exact hK (.p (.s (.slice none 0 0))) (.slice none 0 0) _ _ w h (yM hd) hpre.rel (.p (.s _ rfl)) (Ev.refl (Nat.le_refl _))
theorem AOps.buildRow {d n sz:Nat} {t ty:TypeId} {pos:String} {after:Array Edge} {parts:Array (Nat × Operand)} {cs:List AV} (hb:yX true C.P H t n (zad C.G env parts.toList)=some (.ref H.n 0 n sz,H.new (.cells cs)))
 (hd:zQ C.nt (some d)=true) (h:AOps C ops rest k (env.put (some d) (.ref H.n 0 n sz)) (H.new (.cells cs)) R) :
 AOps C ops (⟨some d,.buildSlice t n parts,ty,pos,after,none⟩ :: rest) k env H R:=by
 refine .of_op true rfl fun σ w a m hpre K Q hK => ?_
 have hsem:Oper.semAt (Fr C σ).round a.eval ⟨some d,.buildSlice t n parts,ty,pos,after,none⟩=execOp a.eval ⟨some d,.buildSlice t n parts,ty,pos,after,none⟩:=Oper.semAt_eq _ _ _ (fun c h=>by cases h)
 obtain⟨h1,h2⟩:=zcj hpre.rel hpre.fr parts.toList
 obtain⟨v,w',σ',q1,q2,q3,q4⟩:=zb7 (vparts:=parts.map fun p=>(p.1,a.eval p.2)) hpre.rel hb (by simp [h1]) (fun k i x j v e1 e2=>h2 k i x j v e1 (by simpa using e2))
 unfold Oper.wpIn
 refine⟨fun f _=>trivial,?_⟩
 rw [hsem]
 have he:(execOp a.eval ⟨some d,.buildSlice t n parts,ty,pos,after,none⟩).run C.P w = .ok (.value v) w':=by
  simp only [execOp,Sem.run_bind]
  rw [show (parts.map fun (i,x)=>(i,a.eval x))=parts.map fun p=>(p.1,a.eval p.2) from rfl,q1]
  rfl
 rw [he]
 exact hK (.ref H.n 0 n sz) v _ _ w' h (yM hd) q3 q2 q4
end ops
end Go.AL

/-
  Maps with keys of one kind: looking up and writing.
  Conditions: none;nothing here speaks of one program.
-/
namespace Go.AL
open Go

section maps
variable {P:Program} {G:Globs} {env:Env} {H:Hp} {ty:TypeId}
theorem zll {t:TypeId} {x i:Operand} {ok:Bool}:zq P G (.lookup t x i ok) ty env H=vH (zc5 P G.map H t (yB G env x) (yB G env i) ok) H:=rfl
theorem zgi {t:TypeId} {x i y:Operand}:zq P G (.mapUpdate t x i y) ty env H=uH (zbU P H t (yB G env x) (yB G env i) (zaV P G env t y)):=rfl
theorem ziS {t:TypeId}:zq P G (.makeMap t none) ty env H = .val (.mp H.n) (H.new (.mapB [])):=rfl

def zdN (P:Program) (t:TypeId) (m:Option (List (Value × AV))) (ix:AV) (ok:Bool):Option AV :=
 match P.underlying t with
 | some (.map kt et) =>
  match m,ix.key? with
  | some m,some kv =>
   if zfr P kt∧zcL P kt (kv :: m.map (·.1)) then
    match zcx P kt kv m,zdn P et with
    | some v,some _=>some (if ok then .tup [v,.p (.s (.bool true))] else v)
    | none,some z=>some (if ok then .tup [z,.p (.s (.bool false))] else z)
    | _,_=>none
   else none
  | _,_=>none
 | _=>none
def zpX (P:Program) (H:Hp) (t:TypeId) (b:Nat) (m:Option (List (Value × AV))) (ix y:AV):Option Hp :=
 match P.underlying t with
 | some (.map kt _) =>
  match m,ix.key? with
  | some m,some kv=>if zfr P kt∧zcL P kt (kv :: m.map (·.1)) then some (H.set b (.mapB (zeB P kt kv y m))) else none
  | _,_=>none
 | _=>none
theorem zn8 {gm:Nat → Option (List (Value × AV))} {t:TypeId} {b:Nat} {ix:AV} {ok:Bool}:zc5 P gm H t (.mp b) ix ok=zdN P t ((H.f b).bind AB.map?) ix ok:=rfl
theorem zn9 {gm:Nat → Option (List (Value × AV))} {t:TypeId} {r:Nat} {ix:AV} {ok:Bool}:zc5 P gm H t (.p (.s (.map (some r)))) ix ok=zdN P t (gm r) ix ok:=rfl
theorem zoa {t:TypeId} {b:Nat} {ix y:AV}:zbU P H t (.mp b) ix y=zpX P H t b ((H.f b).bind AB.map?) ix y:=by
 unfold zbU zpX
 cases P.underlying t with
 | none=>rfl
 | some d=>cases d<;>rfl
theorem zsj {m:List (Value × AV)}:(some (AB.mapB m)).bind AB.map? = some m:=map?_mapB m
end maps

def tm {κ α:Type} (ev:κ → Value) (f:α → AV) (m:List (κ × α)):List (Value × AV):=m.map fun p=>(ev p.1,f p.2)
def zaQ {κ α:Type} [DecidableEq κ] (k:κ):List (κ × α) → Option α
 | []=>none
 | (a,x) :: m=>if a=k then some x else zaQ k m
def zBU {κ α:Type} [DecidableEq κ] (k:κ) (x:α):List (κ × α) → List (κ × α)
 | []=>[(k,x)]
 | (a,y) :: m=>if a=k then (a,x) :: m else (a,y) :: zBU k x m
def zpY {α:Type} (f:α → AV) (z:AV) (o:Option α):AV:=match o with | some v => .tup [f v,.p (bo true)] | none => .tup [z,.p (bo false)]
theorem zob {α:Type} {f:α → AV} {z:AV} {v:α}:zpY f z (some v) = .tup [f v,.p (bo true)]:=rfl
theorem zoc {α:Type} {f:α → AV} {z:AV}:zpY f z none = .tup [z,.p (bo false)]:=rfl

structure MapT (P:Program) (t:TypeId) {κ α:Type} [DecidableEq κ] (ek:κ → PV) (ev:κ → Value) (ok:κ → Prop) (f:α → AV) (z:AV):Prop where
 ty : ∃ kt et,P.underlying t=some (.map kt et)∧zfr P kt=true∧(∀ k,ok k → (keyOf P kt (ev k)).isSome=true)∧zdn P et=some z
 val : ∀ k,(ek k).val? = some (ev k)
 inj : ∀ a b,ok a → ok b → ev a=ev b → a=b

section maps
variable {P:Program} {t:TypeId} {κ α:Type} [DecidableEq κ] {ek:κ → PV} {ev:κ → Value} {ok:κ → Prop} {f:α → AV} {z:AV}

theorem zhF {kt:TypeId} (hk:zfr P kt=true) (ho : ∀ k,ok k → (keyOf P kt (ev k)).isSome=true) (hi : ∀ a b,ok a → ok b → ev a=ev b → a=b) {a b:κ} (ha:ok a) (hb:ok b):zcw P kt (ev a) (ev b)=decide (a=b):=by
 have K:=zdl hk
 by_cases e:a=b
 · subst e
   obtain⟨l,hl⟩:=Option.isSome_iff_exists.1 (ho a ha)
   rw [zdm K hl];simp
 · rw [decide_eq_false e]
   cases h:zcw P kt (ev a) (ev b) with
   | false=>rfl
   | true=>exact absurd (hi a b ha hb (zb9 K h)) e

theorem zgj {kt:TypeId} (hk:zfr P kt=true) (ho : ∀ k,ok k → (keyOf P kt (ev k)).isSome=true) (hi : ∀ a b,ok a → ok b → ev a=ev b → a=b) {k:κ} (h:ok k) :
 ∀ m:List (κ × α),(∀ p∈m,ok p.1) → zcx P kt (ev k) (tm ev f m)=(zaQ k m).map f
 | [],_=>rfl
 | (a,x) :: m,hm=>by
  have h1:=zhF hk ho hi (hm (a,x) (by simp)) h
  have ih:=zgj hk ho hi h m (fun p hp=>hm p (by simp [hp]))
  simp only [tm,List.map_cons,zcx,zaQ] at ih ⊢
  rw [h1]
  by_cases e:a=k
  · simp [e]
  · simp [e,ih]

theorem zpZ {kt:TypeId} (hk:zfr P kt=true) (ho : ∀ k,ok k → (keyOf P kt (ev k)).isSome=true) (hi : ∀ a b,ok a → ok b → ev a=ev b → a=b) {k:κ} (h:ok k) (x:α) :
 ∀ m:List (κ × α),(∀ p∈m,ok p.1) → zeB P kt (ev k) (f x) (tm ev f m)=tm ev f (zBU k x m)
 | [],_=>rfl
 | (a,y) :: m,hm=>by
  have h1:=zhF hk ho hi (hm (a,y) (by simp)) h
  have ih:=zpZ hk ho hi h x m (fun p hp=>hm p (by simp [hp]))
  simp only [tm,List.map_cons,zeB,zBU] at ih ⊢
  rw [h1]
  by_cases e:a=k
  · simp [e]
  · simp [e,ih]

theorem zd9 {kt:TypeId} (ho : ∀ k,ok k → (keyOf P kt (ev k)).isSome=true) {k:κ} (h:ok k) {m:List (κ × α)} (hm : ∀ p∈m,ok p.1):zcL P kt (ev k :: (tm ev f m).map (·.1))=true:=by
 simp only [zcL,List.all_cons,Bool.and_eq_true,List.all_eq_true,tm,List.map_map,List.mem_map]
 refine⟨ho k h,fun v hv => ?_⟩
 obtain⟨p,hp,rfl⟩:=hv
 exact ho _ (hm p hp)

theorem MapT.look (M:MapT P t ek ev ok f z) {m:List (κ × α)} {k:κ} (hm : ∀ p∈m,ok p.1) (h:ok k):zdN P t (some (tm ev f m)) (.p (ek k)) true=some (zpY f z (zaQ k m)):=by
 obtain⟨kt,et,hu,hk,ho,hz⟩:=M.ty
 unfold zdN
 rw [hu]
 simp only [AV.key?,M.val]
 rw [if_pos ⟨hk,zd9 ho h hm⟩,zgj hk ho M.inj h m hm,hz]
 cases zaQ k m<;>rfl

theorem MapT.at (M:MapT P t ek ev ok f z) {m:List (κ × α)} {k:κ} (hm : ∀ p∈m,ok p.1) (h:ok k):zdN P t (some (tm ev f m)) (.p (ek k)) false=some (match zaQ k m with | some v=>f v | none=>z):=by
 obtain⟨kt,et,hu,hk,ho,hz⟩:=M.ty
 unfold zdN
 rw [hu]
 simp only [AV.key?,M.val]
 rw [if_pos ⟨hk,zd9 ho h hm⟩,zgj hk ho M.inj h m hm,hz]
 cases zaQ k m<;>rfl

theorem MapT.put (M:MapT P t ek ev ok f z) {H:Hp} {b:Nat} {m:List (κ × α)} {k:κ} {x:α} (hm : ∀ p∈m,ok p.1) (h:ok k):zpX P H t b (some (tm ev f m)) (.p (ek k)) (f x)=some (H.set b (.mapB (tm ev f (zBU k x m)))):=by
 obtain⟨kt,et,hu,hk,ho,hz⟩:=M.ty
 unfold zpX
 rw [hu]
 simp only [AV.key?,M.val]
 rw [if_pos ⟨hk,zd9 ho h hm⟩,zpZ hk ho M.inj h x m hm]

end maps
attribute [go_sem] map?_mapB zll zgi ziS zn8 zn9 zoa zsj zob zoc
end Go.AL

/-
  A region whose order is open,by an invariant that speaks of what has run.
  Conditions: none;nothing here speaks of one program.
-/
namespace Go.AL
open Go

def zvn (ops:Array Oper):Bool:=(List.range ops.size).all fun i=>match ops[i]? with
 | some o=>o.after.all fun e => !Region.binds .any e || decide (e.on < i)
 | none=>true

section inv
variable {C:Cx} {ops:Array Oper} {Q:Env → Hp → Prop}

def more (L:Nat → Bool) (i:Nat):Nat → Bool:=fun k=>k == i || L k

theorem zvo (I:(Nat → Bool) → Env → Hp → Prop) (hback:zvn ops=true)
 (step : ∀ i o L env H,ops[i]? = some o → L i=false → (∀ e∈o.after,Region.binds .any e=true → L e.on=true) → I L env H → opA C ops false i (I (more L i)) env H)
 (done : ∀ L env H,(∀ i,i < ops.size → L i=true) → I L env H → Q env H) :
 ∀ (fuel:Nat) (listed:Array Bool) (env:Env) (H:Hp),listed.size=ops.size → (List.range ops.size).countP (fun i => !listed.getD i false)=fuel → I (fun i=>listed.getD i false) env H → zjy C ops (fun _=>false) Q fuel listed env H:=by
 have hb : ∀ i o,ops[i]? = some o → ∀ e∈o.after,Region.binds .any e=true → e.on < i:=fun i o ho e he hbi=>by
  have hi:i < ops.size:=(Array.getElem?_eq_some_iff.1 ho).1
  have:=(List.all_eq_true.1 hback) i (List.mem_range.2 hi)
  rw [ho] at this
  have:=(Array.all_eq_true_iff_forall_mem.1 this) e he
  simpa [hbi] using this
 have hfull : ∀ (listed:Array Bool),listed.size=ops.size → Region.ready .any ops listed=[] → ∀ i,i < ops.size → listed.getD i false=true:=by
  intro listed hs h0 i
  induction i using Nat.strongRecOn with
  | _ i ih =>
   intro hi
   refine Classical.byContradiction fun hn => ?_
   have hx:listed.getD i true=false:=by
    have:i < listed.size:=by omega
    simp [Array.getD_eq_getD_getElem?,this] at hn ⊢
    exact hn
   have:i∈Region.ready .any ops listed:=mem_ready.2 ⟨hx,ops[i],by simp [hi],fun e he hbi=>by
    have:=hb i ops[i] (by simp [hi]) e he hbi
    exact ih e.on this (by omega)⟩
   rw [h0] at this
   cases this
 intro fuel
 induction fuel with
 | zero =>
  intro listed env H hs hc hI
  have hall : ∀ i,i < ops.size → listed.getD i false=true:=fun i hi=>by
   have:=(List.countP_eq_zero.1 hc) i (List.mem_range.2 hi)
   simpa using this
  refine⟨?_,done _ env H hall hI⟩
  refine List.eq_nil_iff_forall_not_mem.2 fun k hk => ?_
  obtain⟨h1,o,ho,_⟩:=mem_ready.1 hk
  have hk':k < ops.size:=(Array.getElem?_eq_some_iff.1 ho).1
  have h2:=hall k hk'
  have:k < listed.size:=by omega
  simp [Array.getD_eq_getD_getElem?,this] at h1 h2
  rw [h1] at h2
  cases h2
 | succ fuel ih =>
  intro listed env H hs hc hI
  refine⟨fun h0=>done _ env H (hfull listed hs h0) hI,fun i hi => ?_⟩
  obtain⟨h1,o,ho,hall⟩:=mem_ready.1 hi
  have hi':i < ops.size:=(Array.getElem?_eq_some_iff.1 ho).1
  have hl:i < listed.size:=by omega
  have h1':listed.getD i false=false:=by
   simp [Array.getD_eq_getD_getElem?,hl] at h1 ⊢
   exact h1
  have hm:(fun k=>(listed.setIfInBounds i true).getD k false)=more (fun k=>listed.getD k false) i:=by
   funext k
   unfold more
   by_cases e:k=i
   · subst e
     simp [Array.getD_eq_getD_getElem?,hl]
   · rw [beq_eq_false_iff_ne.2 e,Bool.false_or,getD_set_ne false (Ne.symm e)]
  refine zfz (fun env' H' hh=>ih (listed.setIfInBounds i true) env' H' (by simpa using hs) ?_ (by rw [hm];exact hh)) (step i o _ env H ho h1' hall hI)
  -- one less is left
  have key : ∀ (l:List Nat),l.Nodup → i∈l → l.countP (fun k => !listed.getD k false)=l.countP (fun k => !(listed.setIfInBounds i true).getD k false)+1:=by
   intro l hnd hil
   induction l with
   | nil=>cases hil
   | cons a l ihl =>
    simp only [List.nodup_cons] at hnd
    rw [List.countP_cons,List.countP_cons]
    have hfun : ∀ k,(listed.setIfInBounds i true).getD k false=more (fun k=>listed.getD k false) i k:=fun k=>congrFun hm k
    by_cases e:a=i
    · subst e
      have hsame:l.countP (fun k => !listed.getD k false)=l.countP (fun k => !(listed.setIfInBounds a true).getD k false):=by
       refine List.countP_congr fun k hk => ?_
       have hka:k≠a:=fun e=>hnd.1 (e ▸ hk)
       rw [hfun k]
       simp [more,hka]
      rw [hsame,hfun a]
      simp [more,h1']
    · have hil':i∈l:=by
       rcases List.mem_cons.1 hil with h | h
       · exact absurd h.symm e
       · exact h
      rw [ihl hnd.2 hil',hfun a]
      simp [more,e]
      omega
  have:=key (List.range ops.size) List.nodup_range (List.mem_range.2 hi')
  omega

theorem ARun.openInv {id:Nat} {l:List Oper} {k:List Item} {env:Env} {H:Hp} {R:AV → Hp → Prop} (I:(Nat → Bool) → Env → Hp → Prop) (hm:C.P.follows .mixedOrders=true) (hback:zvn l.toArray=true)
 (h0:I (fun _=>false) env H)
 (step : ∀ i o L env H,l[i]? = some o → L i=false → (∀ e∈o.after,Region.binds .any e=true → L e.on=true) → I L env H → opA C l.toArray false i (I (more L i)) env H)
 (done : ∀ L env H,(∀ i,i < l.length → L i=true) → I L env H → ARun C k env H R):ARun C (.code (.region id l.toArray true) :: k) env H R :=
 .of_wp fun σ w a m hpre=>by
  obtain⟨g1,g2⟩:=zcF hpre.rel
  have:=zvo (C:=C) (ops:=l.toArray) (Q:=fun env' H'=>ARun C k env' H' R) I hback (fun i o L env H ho=>step i o L env H (by simpa using ho)) (fun L env H hall=>done L env H (by simpa using hall)) l.length (Array.replicate l.length false) env H (by simp) (by
   rw [List.countP_eq_length.2 (fun i hi=>by
    have:i < l.length:=by simpa using List.mem_range.1 hi
    simp [Array.getD_eq_getD_getElem?,this])]
   simp) (by
   have:(fun i=>(Array.replicate l.length false).getD i false)=fun _=>false:=by
    funext i
    simp only [Array.getD_eq_getD_getElem?,Array.getElem?_replicate]
    split<;>rfl
   rw [this];exact h0)
  refine wpIn_region_any hm ?_
  rw [List.size_toArray]
  exact zak (m:=m) l.length _ env H σ w.drew a this g1 (hpre.fr.mono g2) (Nat.le_refl _) fun env' H' σ' w' a' b1 b2 b3 b4=>⟨rfl,env',H',σ',b1,hpre.go b2 b3 (g2.trans b4 (Nat.le_refl _)),g2.trans b4 (Nat.le_refl _)⟩
end inv

/-! ### A region in another order than the text's -/
section sched
variable {C:Cx} {ops:Array Oper} {q:Nat → Bool} {Q:Env → Hp → Prop}




def zvp (o:Option Oper) (t:List Oper):List Oper:=match o with | some o=>o :: t | none=>t
def zp0 (l:List Oper):List Nat → List Oper
 | []=>[]
 | i :: r=>zvp l[i]? (zp0 l r)
theorem zsk {l:List Oper}:zp0 l []=[]:=rfl
theorem zod {l:List Oper} {i:Nat} {r:List Nat}:zp0 l (i :: r)=zvp l[i]? (zp0 l r):=rfl
theorem zoe {o:Oper} {t:List Oper}:zvp (some o) t=o :: t:=rfl


end sched
attribute [go_sem] zsk zod zoe List.getElem?_cons_zero List.getElem?_cons_succ
end Go.AL

/-
  Regions whose order is open,with operations that do not look at the heap.
  Conditions: none;nothing here speaks of one program.
-/
namespace Go.AL
open Go

def ziT:Op → Bool
 | .move _ | .assign _ | .nilCheck _ | .binOp .. | .unOp .. | .fieldAddr .. | .build .. | .slice .. | .indexAddr .. | .field .. | .index .. => true
 | _=>false

section still
variable {C:Cx} {ops:Array Oper} {q:Nat → Bool} {Q:Env → Hp → Prop}

theorem zof {P:Program} {G:Globs} {op:Op} {ty:TypeId} {env:Env} {H H':Hp} (hs:ziT op=true) :
 (∃ x,zq P G op ty env H = .val x H∧zq P G op ty env H' = .val x H') ∨ zq P G op ty env H = .fail:=by
 have vh : ∀ y:Option AV,(∃ x,vH y H = .val x H∧vH y H' = .val x H') ∨ vH y H = .fail:=by
  intro y
  cases y with
  | none=>exact .inr rfl
  | some z=>exact .inl ⟨z,rfl,rfl⟩
 cases op<;>simp only [ziT,Bool.false_eq_true] at hs<;>simp only [zq]
 all_goals first
  | exact vh _
  | exact .inl ⟨_,rfl,rfl⟩

theorem YieldsA.still {o:Oper} {env:Env} {H H':Hp} {x:AV} (hs:ziT o.op=true) (hy:YieldsA C ops o env H x):YieldsA C ops o env H' x:=by
 rcases hy with ⟨h1,h2⟩ | h
 · refine .inl ⟨h1,?_⟩
   unfold aOp1 at h2 ⊢
   rcases zof (P:=C.P) (G:=C.G) (ty:=o.type) (env:=env) (H:=H) (H':=H') hs with ⟨y,e1,e2⟩ | e
   · rw [e1] at h2;rw [e2]
     exact⟨h2.1,h2.2.1,rfl⟩
   · rw [e] at h2;exact h2.elim
 · exact .inr h







end still
end Go.AL
