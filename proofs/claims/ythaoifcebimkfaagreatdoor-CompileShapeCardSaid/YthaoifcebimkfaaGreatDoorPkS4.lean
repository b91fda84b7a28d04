/- Proofs. -/
import Derived.Test.YthaoifcebimkfaaGreatDoorPkS3
import Derived.WideKeyElems2
import Derived.LaidHandle
import Derived.Test.YthaoifcebimkfaaGreatDoorCards
import Derived.Test.YthaoifcebimkfaaGreatDoorTie
import Derived.LaidMore
import Derived.Deep.DeepWitnessRowRef
set_option linter.unusedSectionVars false
set_option linter.unusedSimpArgs false
set_option linter.unusedVariables false
namespace Go.Proofs.YthaoifcebimkfaaGreatDoor
open Go Go.AL Go.WideElems

section maps
variable {H:Type} {enc:TypeId × Value → H} {P:Program} {W:World} {sp:Nat → Bool} {held:Bool} {t k e:TypeId} {α:Type}
theorem insert_perm {x:Lit × DataW H} : ∀ l,(DataW.insert x l).Perm (x :: l)
 | [] => .refl _
 | y :: r=>by
  unfold DataW.insert
  split
  · exact .refl _
  · exact ((insert_perm r).cons y).trans (.swap x y r)
theorem sorted_perm : ∀ l:List (Lit × DataW H),(l.foldr DataW.insert []).Perm l
 | [] => .refl _
 | x :: l=>(insert_perm _).trans ((sorted_perm l).cons x)
theorem zmf {κ α:Type} [DecidableEq κ] {T:κ → Option α} {k:κ} : ∀ {m:List (κ × α)},(∀ p∈m,T p.1=some p.2) → (∀ v,T k=some v → ∃ p∈m,p.1=k) → zD k m=T k
 | [],_,h2=>by
  cases e:T k with
  | none=>rfl
  | some v=>obtain⟨p,hp,_⟩:=h2 v e;cases hp
 | (a,x) :: m,h1,h2=>by
  unfold zD
  split
  · rename_i h;subst h;exact (h1 _ (List.mem_cons_self ..)).symm
  · rename_i h
    exact zmf (fun p hp=>h1 p (List.mem_cons_of_mem _ hp)) fun v hv=>by
     obtain⟨p,hp,hk⟩:=h2 v hv
     rcases List.mem_cons.1 hp with rfl | hp
     · exact absurd hk h
     · exact⟨p,hp,hk⟩
theorem ze8 {α β:Type} {Q:α → β → Prop} : ∀ {l:List α},(∀ x∈l,∃ y,Q x y) → ∃ m:List β,m.length=l.length ∧ ∀ (j:Nat) x y,l[j]? = some x → m[j]? = some y → Q x y
 | [],_=>⟨[],rfl,fun j x y h=>by simp at h⟩
 | a :: l,h=>by
  obtain⟨y,hy⟩:=h a (List.mem_cons_self ..)
  obtain⟨m,hm,hq⟩:=ze8 (l:=l) fun x hx=>h x (List.mem_cons_of_mem _ hx)
  refine⟨y :: m,by simp [hm],fun j => ?_⟩
  cases j with
  | zero=>intro x z h1 h2;simp at h1 h2;subst h1 h2;exact hy
  | succ j=>intro x z h1 h2;simp at h1 h2;exact hq j x z h1 h2
theorem zAn (hk:P.underlying k=some (.int .i64)) {v:Value} {kl:Lit} (h:keyOf P k v=some kl) : ∃ z,v=iev z∧kl = .int .i64 z∧okI z:=by
 unfold keyOf at h;rw [hk] at h;unfold mapKey at h;rw [hk] at h
 cases v with
 | int q n =>
  simp only at h;split at h
  · rename_i hc
    obtain⟨rfl,hw⟩:=hc
    cases h;simp only [Lit.wf,Bool.and_eq_true,decide_eq_true_eq] at hw
    exact⟨n,rfl,rfl,hw⟩
  · cases h
 | _=>cases h
theorem zAo (ht:P.underlying t=some (.map k e)) (hk:P.underlying k=some (.int .i64)) {fuel:Nat} {cs:List Value} {L:List (Lit × DataW H)} {p:List MemPlace} (h:DataW.trod enc P W 0 sp held fuel t cs=some (.map L,p)) (T:Int → Option α) (f:α → AV)
 (hbel : ∀ v n,BelowN n (f v))
 (hL : ∀ (n:Nat) kk d,(kk,d)∈L → ∀ v q,elemAt enc P W 0 sp held n e v=some (d,q) → ∃ z x,kk = .int .i64 z∧T z=some x∧RelV σ0 H0 W (f x) v)
 (hT : ∀ z x,T z=some x → ∃ d,(Lit.int .i64 z,d)∈L) :
 ∃ b m,cs=[.map (some b)]∧GMap σ0 H0 W b (tm iev f m)∧(∀ q∈m,okI q.1) ∧ ∀ z,zD z m=T z:=by
 rcases open_map ht h with ⟨_,hx⟩ | ⟨b,es,clock,n,_,hcs,hb,_,F,hx⟩
 · cases hx
 · obtain⟨s1,s2,s3⟩:=F.stamped
   have hLe:L=(es.toList.map (rg P k (elemAt enc P W 0 sp held n e))).foldr DataW.insert []:=by
    have:=congrArg Prod.fst hx
    simpa using this
   have hperm:=sorted_perm (es.toList.map (rg P k (elemAt enc P W 0 sp held n e)));rw [←hLe] at hperm
   obtain⟨m,hm,hq⟩:=ze8 (Q:=fun (x:MapEntry) (q:Int × α)=>x.key=iev q.1∧okI q.1∧T q.1=some q.2∧RelV σ0 H0 W (f q.2) x.val∧(rg P k (elemAt enc P W 0 sp held n e) x).1 = .int .i64 q.1) (l:=es.toList) fun x hx=>by
    obtain⟨y,hy⟩:=F.reads x hx
    have hr:=rg_of hy
    obtain⟨w,hw,hy2⟩:=rd_val hy
    have hmem:(y.1,y.2)∈L:=hperm.mem_iff.2 (List.mem_map.2 ⟨x,hx,hr⟩)
    obtain⟨z,hz1,hz2,hz3⟩:=zAn hk (rd_key hy)
    obtain⟨z',a,h1,h2,h3⟩:=hL n y.1 y.2 hmem x.val w.2 (by rw [hw,hy2])
    rw [hz2] at h1;cases h1
    exact⟨(z,a),hz1,hz3,h2,h3,by rw [hr];exact hz2⟩
   have hget : ∀ {q:Int × α},q∈m → ∃ x∈es.toList,x.key=iev q.1∧okI q.1∧T q.1=some q.2:=fun {q} hqm=>by
    obtain⟨j,hj⟩:=List.getElem?_of_mem hqm
    have hlt:j < es.toList.length:=by have:=(List.getElem?_eq_some_iff.1 hj).1;omega
    obtain⟨h1,h2,h3,_⟩:=hq j _ q (List.getElem?_eq_getElem hlt) hj
    exact⟨_,List.getElem_mem hlt,h1,h2,h3⟩
   have hkeys:(tm iev f m).map (·.1)=es.toList.map (·.key):=by
    apply List.ext_getElem?;intro j;simp only [tm,List.map_map,List.getElem?_map]
    cases hj:m[j]? with
    | none =>
     have:es.toList[j]? = none:=by
      rw [List.getElem?_eq_none_iff] at hj ⊢;omega
     rw [this];rfl
    | some q =>
     have hlt:j < es.toList.length:=by have:=(List.getElem?_eq_some_iff.1 hj).1;omega
     rw [List.getElem?_eq_getElem hlt]
     obtain⟨h1,_⟩:=hq j _ q (List.getElem?_eq_getElem hlt) hj
     simpa using h1.symm
   refine⟨b,m,hcs,⟨⟨es,clock,hb,by simp [tm,hm],?_,?_⟩,zAy b,?_⟩,?_,?_⟩
   · rw [hkeys];exact s3
   · intro j x q hx hq';simp only [tm,List.getElem?_map,Option.map_eq_some_iff] at hq'
     obtain⟨q0,hq0,rfl⟩:=hq'
     obtain⟨h1,_,_,h4,_⟩:=hq j x q0 (by simpa using hx) hq0
     exact⟨h1,h4⟩
   · intro q hq' n;simp only [tm,List.mem_map] at hq'
     obtain⟨q0,_,rfl⟩:=hq'
     exact hbel _ _
   · intro q hqm
     obtain⟨_,_,_,h,_⟩:=hget hqm
     exact h
   · intro z
     refine zmf (fun q hqm => ?_) fun v hv => ?_
     · obtain⟨_,_,_,_,h⟩:=hget hqm
       exact h
     · obtain⟨d,hd⟩:=hT z v hv
       obtain⟨x,hx,hr⟩:=List.mem_map.1 (hperm.mem_iff.1 hd)
       obtain⟨j,hj⟩:=List.getElem?_of_mem hx
       have hlt:j < m.length:=by have:=(List.getElem?_eq_some_iff.1 hj).1;omega
       obtain⟨_,_,_,_,h5⟩:=hq j x _ hj (List.getElem?_eq_getElem hlt)
       refine⟨m[j],List.getElem_mem hlt,?_⟩
       rw [hr] at h5;cases h5;rfl
theorem trod_int {q:IntKind} (ht:P.underlying t=some (.int q)) {fuel:Nat} {c:Value} {z:Int} {kd:IntKind} {p:List MemPlace} (h:DataW.trod enc P W 0 sp held fuel t [c]=some (.lit (.int kd z),p)):c = .int q z:=by
 cases fuel with
 | zero=>simp [DataW.trod] at h
 | succ n =>
  rw [DataW.trod_step] at h;unfold DataW.trodStep at h;rw [ht] at h
  cases c<;>simp at h
  obtain⟨⟨rfl,_⟩,⟨_,rfl⟩,_⟩:=h
  rfl
end maps
theorem zyi {P:Program} {W:World} {sp:Nat → Bool} {held:Bool} {H:Type} {enc:TypeId × Value → H} {e:TypeId} (he:P.underlying e=some (.int .i64)) {n:Nat} {v:Value} {z:Int} {kd:IntKind} {q:List MemPlace} (h:elemAt enc P W 0 sp held n e v=some (.lit (.int kd z),q)):v = .int .i64 z:=by
 unfold elemAt at h;split at h
 · rename_i hf
   cases v with
   | agg cs=>simp [Value.formed,he] at hf
   | tuple cs=>simp [Value.formed] at hf
   | _=>exact trod_int he h
 · cases h
theorem zpr {W:World} {fuel:Nat} {cs:List Value} {p:List MemPlace} {sp:Nat → Bool} {held:Bool} {enc:TypeId × Value → Unit} (h:DataW.trod enc Tryz.prog W 0 sp held fuel 190 cs=some (Rows.laid_attestor_typecheck_widths,p)) :
 ∃ b m,cs=[.map (some b)]∧GMap σ0 H0 W b (tm iev ivv m)∧(∀ q∈m,okI q.1) ∧ ∀ z,zD z m=ztf z:=by
 refine zAo Tryz.underlying190 Tryz.underlying3 h ztf ivv (fun v n => .p _) ?_ ?_
 · intro n kk d hm v q he;simp only [List.mem_cons,List.not_mem_nil,or_false,Prod.mk.injEq] at hm
   (rcases hm with ⟨rfl,rfl⟩ | ⟨rfl,rfl⟩ | ⟨rfl,rfl⟩ | ⟨rfl,rfl⟩ | ⟨rfl,rfl⟩)<;>(obtain rfl:=zyi Tryz.underlying3 he;exact⟨_,_,rfl,rfl,.p (.s _ rfl)⟩)
 · intro z x hz
   have hk:z=0 ∨ z=1 ∨ z=2 ∨ z=3 ∨ z=4:=by
    unfold ztf at hz
    repeat' split at hz
    all_goals first | omega | cases hz
   (rcases hk with rfl | rfl | rfl | rfl | rfl)<;>exact⟨_,by simp [Rows.laid_attestor_typecheck_widths];rfl⟩
end Go.Proofs.YthaoifcebimkfaaGreatDoor

namespace Go.Proofs.YthaoifcebimkfaaGreatDoor
open Go Go.AL Go.ChangeShapes Go.WideShapes Go.ChangeAt Go.RowKit

theorem own:ownKnob Tryz.prog.godebug=none:=by kernel_rfl
theorem laidOut:laidOutB Tryz.prog=true:=by kernel_rfl
def zDf:String:=Rows.compileMatchesReferenceRow.named[0]!
theorem gWid:Tryz.prog.globalNamed zDf=some 0:=by kernel_rfl
theorem gWidT:(Tryz.prog.globals[0]?).map (·.type)=some 190:=by kernel_rfl
theorem zyj {W:World} {n:String} {g b:Nat} {cs:Array Value} (hg:Tryz.prog.globalNamed n=some g) (hv:W.var? Tryz.prog n=some cs) (hc:cs.toList=[.map (some b)]):RelV σ0 H0 W (.ip 1 [.s (.map (some b))] 0 0) (.pointer (some ⟨g,0,none⟩)):=by
 have hcell:W.cell? ⟨g,0,none⟩=some (.map (some b)):=by
  unfold World.var? at hv;rw [hg] at hv;simp only [Option.bind_some] at hv;unfold World.cell?;split at hv
  · rename_i c t f hh;simp only [hh];obtain rfl:=Option.some.inj hv
    obtain⟨l⟩:=c
    obtain rfl:l=[.map (some b)]:=hc;rfl
  · cases hv
 have:=RelV.ip (σ:=σ0) (H:=H0) (w:=W) (sz:=1) (xs:=[.s (.map (some b))]) (i:=0) (sub:=0) (g:=g) (off:=0) (cap:=1)
  (.sl false _ _ _ 0 1 (fun k => .map (some b)) (by simp) ⟨by simp,by unfold maxLen;omega⟩ (fun x hx=>by simp only [List.mem_singleton] at hx;subst hx;rfl)
   (fun k hk=>by
    simp only [List.length_singleton,Nat.one_mul] at hk
    obtain rfl:k=0:=by omega
    exact⟨zpC _ _,hcell,rfl⟩)
   (fun k y hy=>by
    have:flat [PV.s (.map (some b))]=[.s (.map (some b))]:=by simp [flat,PV.cells]
    rw [this] at hy
    cases k with
    | zero=>simp at hy;subst hy;exact .s _ rfl
    | succ k=>simp at hy)) (by simp) (by omega)
 simpa using this
def GG (r1:Nat) (m1:List (Int × Int)):Globs :=
 ⟨fun g=>if g=0 then some (1,[.s (.map (some r1))]) else none,fun r=>if r=r1 then some (tm iev ivv m1) else none⟩
theorem zuh {W:World} (h:laidMetH Tryz.prog Rows.compileMatchesReferenceRow.laid W) : ∃ r1 m1,GW (GG r1 m1) r1 m1∧Rel (GG r1 m1) σ0 H0 W:=by
 have hd:laidMet Tryz.prog [(zDf,Rows.laid_attestor_typecheck_widths)] W:=h
 obtain⟨_,⟨g2,t2,c2,f2,p2,_,hg2,ht2,hv2,hr2,_⟩,_⟩:=hd
 obtain rfl:=Option.some.inj (gWid.symm.trans hg2);obtain rfl:=Option.some.inj (gWidT.symm.trans ht2)
 obtain⟨b2,m2,hb2,gm2,k2,a2⟩:=zpr hr2
 refine⟨b2,m2,⟨rfl,if_pos rfl,k2,a2⟩,zDn (fun g sz xs hg => ?_) fun r m hm => ?_⟩
 · simp only [GG] at hg;split at hg
   · rename_i e;subst e;cases hg;exact zyj gWid hv2 hb2
   · cases hg
 · simp only [GG] at hm;split at hm
   · rename_i e;subst e;cases hm;exact gm2
   · cases hm
noncomputable def laidWorld (os:Os):World:=World.doorLaid Tryz.prog 2000 os
set_option maxRecDepth 100000 in
theorem laid_met (os:Os) (args:Array Value):laidMet Tryz.prog Rows.compileMatchesReferenceRow.laid ((laidWorld os).forCall (fun _ _=>0) ⟨#[],args,[]⟩).memory :=
 laidMet_of_run' 8 (by kernel_rfl) (by kernel_rfl)

set_option maxRecDepth 100000
section read
variable {k:Nat} {y:List PV}
theorem zCo (h:Reads Tryz.prog (k+2) 75 y) : ∃ c:Cnd,zbE true y=cnd c∧True:=by
 obtain⟨y1,z1,rfl,-,r1,y2,z2,rfl,-,r2,y3,z3,rfl,-,r3,rfl⟩:=Reads.struct Tryz.underlying75 h
 obtain⟨a,-,-,rfl⟩:=Reads.i64 Tryz.underlying3 r1
 obtain⟨b,-,-,rfl⟩:=Reads.i64 Tryz.underlying3 r2
 obtain⟨c,-,-,rfl⟩:=Reads.i64 Tryz.underlying3 r3
 exact⟨⟨a,b,c⟩,rfl,trivial⟩
theorem zAp (h:Reads Tryz.prog (k+4) 22 y) : ∃ l:List (List Cnd),l.length≤9223372036854775807∧y=[.sl false 1 (pl yp l)]:=by
 obtain⟨l,hl,rfl,-⟩:=Reads.sl yp (fun _=>True) Tryz.underlying22 zpQ zvT h fun y hy=>by
  obtain⟨l,-,rfl,-⟩:=Reads.sl cnd (fun _=>True) Tryz.underlying73 zpR zvU hy fun y hy=>zCo hy
  exact⟨l,rfl,trivial⟩
 exact⟨l,hl,rfl⟩
end read
section rel
variable {W:World} {v:Value} {H:Type} {enc:TypeId × Value → H} {d:DataW H} {ps:List MemPlace} {base:Nat}
theorem zAq (hval:Value.okWide Tryz.prog W .any base 24 v) (h:DataW.Trod enc Tryz.prog W 0 (fun _=>true) true 24 v d ps) : ∃ q:Qry,(okI q.kind∧q.fl.length≤9223372036854775807)∧RelV σ0 H0 W (.p (qry q)) v:=by
 obtain⟨xs,hx,e⟩:=zvr 8 (by kernel_rfl) hval h
 obtain⟨y1,z1,rfl,-,r1,y2,z2,rfl,-,r2,y3,z3,rfl,-,r3,y4,z4,rfl,-,r4,rfl⟩:=Reads.struct (k:=7) Tryz.underlying24 hx
 obtain⟨a,a1,a2,rfl⟩:=Reads.i64 Tryz.underlying3 r1
 obtain⟨b,-,-,rfl⟩:=Reads.i64 Tryz.underlying3 r2
 obtain⟨c,-,-,rfl⟩:=Reads.i64 Tryz.underlying3 r3
 obtain⟨l,hl,rfl⟩:=zAp r4
 rw [zvS] at e
 exact⟨⟨a,b,c,l⟩,⟨⟨a1,a2⟩,hl⟩,e⟩
end rel
end Go.Proofs.YthaoifcebimkfaaGreatDoor

namespace Go.Proofs.YthaoifcebimkfaaGreatDoor
open Go Go.AL

def Usd (ls:List (List Gate)) (X:Nat → Nat → Prop):Prop :=
 ∀ m g,g < (nth ls m).length → X m g ∨ ∃ i,i < (nth ls (m+1)).length∧((nth (nth ls (m+1)) i).l=(g:Int) ∨ (nth (nth ls (m+1)) i).r=(g:Int))
theorem Usd.mono {ls:List (List Gate)} {X Y:Nat → Nat → Prop} (h:Usd ls X) (hxy : ∀ m g,X m g → Y m g):Usd ls Y:=fun m g hg=>(h m g hg).imp (hxy m g) id
theorem Usd.put {ls:List (List Gate)} {X:Nat → Nat → Prop} {k il ir:Nat} {g:Gate} (hk:k < ls.length) (hl:g.l=(il:Int)) (hr:g.r=(ir:Int))
 (h:Usd ls fun m j=>X m j ∨ (m+1=k∧(j=il ∨ j=ir))):Usd (ls.set k (nth ls k++[g])) fun m j=>X m j ∨ (m+1=k+1∧j=(nth ls k).length):=by
 intro m j hj;by_cases e:m=k
 · subst e;rw [zco hk] at hj;by_cases e2:j=(nth ls m).length
   · exact .inl (.inr ⟨rfl,e2⟩)
   · have hj2:j < (nth ls m).length:=by simp at hj;omega
     rcases h m j hj2 with (h1 | ⟨h1,_⟩) | ⟨i,h1,h2⟩
     · exact .inl (.inl h1)
     · omega
     · exact .inr ⟨i,by rw [put_ne (by omega)];exact h1,by rw [put_ne (by omega)];exact h2⟩
 · rw [put_ne e] at hj
   rcases h m j hj with (h1 | ⟨h1,h2⟩) | ⟨i,h1,h2⟩
   · exact .inl (.inl h1)
   · subst h1;refine .inr ⟨(nth ls (m+1)).length,?_,?_⟩
     · rw [zco hk];simp
     · rw [zco hk,zA (Nat.le_refl _),Nat.sub_self,zx,hl,hr]
       rcases h2 with rfl | rfl
       · exact .inl rfl
       · exact .inr rfl
   · by_cases e2:m+1=k
     · subst e2;exact .inr ⟨i,by rw [zco hk];simp;omega,by rw [zco hk,zI h1];exact h2⟩
     · exact .inr ⟨i,by rw [put_ne e2];exact h1,by rw [put_ne e2];exact h2⟩
theorem zui {s:List Nd} : ∀ k n st X,k≤st.ls.length → Usd st.ls X →
 (need s k n st).2.ls.length=st.ls.length∧Usd (need s k n st).2.ls fun m g=>X m g ∨ (m+1=k∧g=(need s k n st).1):=by
 intro k
 induction k with
 | zero=>exact fun n st X _ h=>⟨rfl,h.mono fun _ _ => .inl⟩
 | succ k ih =>
  intro n st X hk h;rw [zbc]
  cases ha:zD (n,k+1) st.at' with
  | some i=>exact⟨rfl,h.mono fun _ _ => .inl⟩
  | none =>
   simp only
   split
   · obtain⟨a1,a2⟩:=ih n st X (by omega) h
     refine⟨by simp [zab,a1],?_⟩
     exact Usd.put (il:=(need s k n st).1) (ir:=(need s k n st).1) (by omega) rfl rfl (a2.mono fun m g hx=>hx.imp id fun ⟨x,y⟩=>⟨x,.inl y⟩)
   · obtain⟨a1,a2⟩:=ih (nth s (n - 29)).l st X (by omega) h
     obtain⟨b1,b2⟩:=ih (nth s (n - 29)).r _ _ (by omega) a2
     refine⟨by simp [zab,a1,b1],?_⟩
     refine Usd.put (il:=(need s k (nth s (n - 29)).l st).1) (ir:=(need s k (nth s (n - 29)).r (need s k (nth s (n - 29)).l st).2).1) (by omega) rfl rfl (b2.mono fun m g hx => ?_)
     rcases hx with (hx | ⟨x,y⟩) | ⟨x,y⟩
     · exact .inl hx
     · exact .inr ⟨x,.inl y⟩
     · exact .inr ⟨x,.inr y⟩

theorem LOk.noneI (s:List Nd) (inp:List U) (d:Nat):LOk s inp d ⟨[],List.replicate d []⟩ :=
 ⟨by simp,fun k j hj=>by rw [zaT] at hj;simp at hj,fun k j hj=>by rw [zaT] at hj;simp at hj,fun n k i h=>by cases h⟩
section lays
variable {s:List Nd} {inp:List U} {o:List Nat}
abbrev st0 (s:List Nd) (o:List Nat) (i:Nat):List Gate × LS:=yI s (depth s o) o ⟨[],List.replicate (depth s o) []⟩ i
abbrev resN (s:List Nd) (o:List Nat) (i:Nat):Nat:=(need s (depth s o) (nth o i) (st0 s o i).2).1
structure Lst (s:List Nd) (inp:List U) (o:List Nat) (i:Nat):Prop where
 ok:LOk s inp (depth s o) (st0 s o i).2
 at' : ∀ j,j < i → resN s o j < (nth (st0 s o i).2.ls (depth s o - 1)).length∧nth (st0 s o i).1 j=nth (nth (st0 s o i).2.ls (depth s o - 1)) (resN s o j) ∧
  nth (rw' (st0 s o i).2.ls inp (depth s o)) (resN s o j)=ndv s inp (nth o j)
 us:Usd (st0 s o i).2.ls fun m g=>m+1=depth s o ∧ ∃ j,j < i∧g=resN s o j
theorem zyk (hw:Wf s) (hC:SmC s) (hi:Fv inp) (ho : ∀ x∈o,x < 29+s.length) (hd:0 < depth s o) : ∀ i,i≤o.length → Lst s inp o i
 | 0,_=>⟨LOk.noneI s inp _,fun j hj=>absurd hj (Nat.not_lt_zero _),fun m g hg=>by
  simp only [st0,yI] at hg
  rw [zaT] at hg;simp at hg⟩
 | i+1,hil=>by
  have ih:=zyk hw hC hi ho hd i (by omega)
  have hm:nth o i∈o:=by rw [zh (by omega)];exact List.getElem_mem _
  obtain⟨w1,w2,w3,w4,w5⟩:=zcp hw hC.fv hi (depth s o) (nth o i) _ ih.ok (Nat.le_refl _) (ho _ hm) (zbx hm)
  obtain⟨u1,u2⟩:=zui (s:=s) (depth s o) (nth o i) (st0 s o i).2 _ (by rw [ih.ok.len];exact Nat.le_refl _) ih.us
  have hwid:za5 (need s (depth s o) (nth o i) (st0 s o i).2).2.ls (depth s o)=(nth (need s (depth s o) (nth o i) (st0 s o i).2).2.ls (depth s o - 1)).length:=by unfold za5;rw [if_neg (by omega)]
  have e1:(st0 s o (i+1)).2=(need s (depth s o) (nth o i) (st0 s o i).2).2:=rfl;have e2:(st0 s o (i+1)).1=(st0 s o i).1++[nth (nth (need s (depth s o) (nth o i) (st0 s o i).2).2.ls (depth s o - 1)) (resN s o i)]:=rfl;have hl1:(st0 s o i).1.length=i:=zb1 s _ o _ i
  refine⟨by rw [e1];exact w1,fun j hj => ?_,?_⟩
  · rw [e1,e2];by_cases e:j=i
    · subst e;rw [zA (by omega),hl1,Nat.sub_self,zx]
      exact⟨by rw [←hwid];exact w3,rfl,w4⟩
    · have hji:j < i:=by omega
      obtain⟨a1,a2,a3⟩:=ih.at' j hji
      rw [zI (by omega),w2.at a1]
      refine⟨Nat.lt_of_lt_of_le a1 (w2.len _),a2,?_⟩
      rw [w2.row ih.ok.op _ _ (by unfold za5;rw [if_neg (by omega)];exact a1)];exact a3
  · rw [e1]
    refine u2.mono fun m g hx => ?_
    rcases hx with ⟨h1,j,hj,rfl⟩ | ⟨h1,rfl⟩
    · exact⟨h1,j,by omega,rfl⟩
    · exact⟨h1,i,by omega,rfl⟩
theorem rw'_congr {a b:List (List Gate)} {inp:List U} : ∀ k,(∀ j,j < k → nth a j=nth b j) → rw' a inp k=rw' b inp k
 | 0,_=>rfl
 | k+1,h=>by rw [rw'_succ,rw'_succ,h k (by omega),rw'_congr k fun j hj=>h j (by omega)]
theorem zuj:zbn s o=(st0 s o o.length).2.ls.set (depth s o - 1) (st0 s o o.length).1:=rfl
structure Lay (s:List Nd) (inp:List U) (o:List Nat) (L:List (List Gate)):Prop where
 len:L.length=depth s o
 last:(nth L (depth s o - 1)).length=o.length
 ne : ∀ k,k < depth s o → 0 < (nth L k).length
 op : ∀ k,k < depth s o → ∀ j,j < (nth L k).length → opG (za5 L k:Int) (nth (nth L k) j)∧fvG (nth (nth L k) j)
 us : ∀ k,k+1 < depth s o → ∀ g,g < (nth L k).length → ∃ i,i < (nth L (k+1)).length∧((nth (nth L (k+1)) i).l=(g:Int) ∨ (nth (nth L (k+1)) i).r=(g:Int))
 val : ∀ i,i < o.length → nth (rw' L inp (depth s o)) i=ndv s inp (nth o i)
theorem zCp (hw:Wf s) (hC:SmC s) (hi:Fv inp) (ho : ∀ x∈o,x < 29+s.length) (hd:0 < depth s o) (hon:0 < o.length):Lay s inp o (zbn s o):=by
 have h:=zyk (inp:=inp) hw hC hi ho hd o.length (Nat.le_refl _);have hl1:(st0 s o o.length).1.length=o.length:=zb1 s _ o _ _;rw [zuj]
 obtain⟨hok,hat,hus⟩:=h
 generalize st0 s o o.length=p at hok hat hus hl1
 have hlen:=hok.len;have hD:nth (p.2.ls.set (depth s o - 1) p.1) (depth s o - 1)=p.1:=znw rfl (by omega)
 have hne : ∀ k,k≠depth s o - 1 → nth (p.2.ls.set (depth s o - 1) p.1) k=nth p.2.ls k:=fun k hk=>put_ne hk _
 have hop : ∀ k,k < depth s o → ∀ j,j < (nth (p.2.ls.set (depth s o - 1) p.1) k).length → opG (za5 (p.2.ls.set (depth s o - 1) p.1) k:Int) (nth (nth (p.2.ls.set (depth s o - 1) p.1) k) j)∧fvG (nth (nth (p.2.ls.set (depth s o - 1) p.1) k) j):=fun k hk j hj=>by
  have ew:za5 (p.2.ls.set (depth s o - 1) p.1) k=za5 p.2.ls k:=by
   unfold za5
   split
   · rfl
   · rw [hne _ (by omega)]
  rw [ew];by_cases e:k=depth s o - 1
  · subst e;rw [hD] at hj ⊢
    obtain⟨a1,a2,_⟩:=hat j (by omega)
    rw [a2]
    exact⟨hok.op _ _ a1,hok.fv _ _ a1⟩
  · rw [hne k e] at hj ⊢
    exact⟨hok.op _ _ hj,hok.fv _ _ hj⟩
 have hlast:(nth (p.2.ls.set (depth s o - 1) p.1) (depth s o - 1)).length=o.length:=by rw [hD,hl1]
 refine⟨by rw [List.length_set,hlen],hlast,fun k hk => ?_,hop,fun k hk g hg => ?_,fun i hi' => ?_⟩
 · -- nonempty,from the last layer down
   have : ∀ m k,k+m=depth s o - 1 → 0 < (nth (p.2.ls.set (depth s o - 1) p.1) k).length:=by
    intro m
    induction m with
    | zero=>intro k hk;rw [show k=depth s o - 1 by omega,hlast];exact hon
    | succ m ih =>
     intro k hk;have h1:=ih (k+1) (by omega)
     obtain⟨⟨b1,b2,_⟩,_⟩:=hop (k+1) (by omega) 0 h1
     have e:za5 (p.2.ls.set (depth s o - 1) p.1) (k+1)=(nth (p.2.ls.set (depth s o - 1) p.1) k).length:=by unfold za5;rw [if_neg (by omega),Nat.add_sub_cancel]
     rw [e] at b2;omega
   exact this (depth s o - 1 - k) k (by omega)
 · rw [hne k (by omega)] at hg
   rcases hus k g hg with ⟨h1,_⟩ | ⟨i,h1,h2⟩
   · omega
   · by_cases e:k+1=depth s o - 1
     · rw [e] at h1 h2 ⊢
       rcases hus (depth s o - 1) i h1 with ⟨_,j,hj,rfl⟩ | ⟨i',h3,_⟩
       · rw [hD]
         obtain⟨_,a2,_⟩:=hat j hj
         exact⟨j,by omega,by rw [a2];exact h2⟩
       · rw [show nth p.2.ls (depth s o - 1+1)=[] by simp [nth,show ¬ depth s o - 1+1 < p.2.ls.length by omega];rfl] at h3;simp at h3
     · rw [hne _ e]
       exact⟨i,h1,h2⟩
 · obtain⟨a1,a2,a3⟩:=hat i hi'
   obtain⟨m,hm⟩ : ∃ m,depth s o=m+1:=⟨depth s o - 1,by omega⟩
   rw [hm] at a1 a2 a3 hD hne ⊢;simp only [Nat.add_sub_cancel] at a1 a2 hD hne ⊢;rw [rw'_succ,zem a1] at a3;rw [rw'_succ,hD,zem (by omega),a2,←a3,rw'_congr m fun j hj=>hne j (by omega)]
end lays
end Go.Proofs.YthaoifcebimkfaaGreatDoor

namespace Go.Proofs.YthaoifcebimkfaaGreatDoor
open Go Go.AL

def fn (n:Nat):FP:=Fin.ofNat _ n
theorem zCq:fn 1=1:=rfl
theorem zyl (a b:Nat):fn (a*b)=fn a*fn b:=by
 apply Fin.ext;rw [Fin.val_mul]
 show (a*b) % _=(a % _*(b % _)) % _
 rw [←Nat.mul_mod]
def b01 (b:Bool):FP:=if b then 1 else 0
def b2n (b:Bool):Nat:=if b then 1 else 0
theorem zgV (b:Bool):fn (b2n b)=b01 b:=by cases b<;>rfl
theorem zjt (a b:Bool):b01 a*b01 b=b01 (a && b):=by cases a<;>cases b<;>rfl
theorem fi0:fe (fi 0)=0:=rfl
theorem fi1:fe (fi 1)=1:=rfl
theorem zAr:fe (fi (-1)) = -1:=by decide +kernel

structure Gd (s:List Nd):Prop where
 wf:Wf s
 sm:SmC s
theorem Gd.nil:Gd []:=⟨Wf.nil,SmC.nil⟩
structure Ev (inp:List U) (s:List Nd) (x:Nat) (v:FP) (m:Nat):Prop where
 lt:x < 29+s.length
 val:fe (ndv s inp x)=v
 lv:lev s x≤m
section ev
variable {inp:List U} {s t:List Nd}
theorem Ev.ext {x:Nat} {v:FP} {m:Nat} (h:Ev inp s x v m) (hx:Exn s t):Ev inp t x v m:=⟨by have:=hx.len;have:=h.lt;omega,by rw [zek hx h.lt];exact h.val,by rw [hx.lev h.lt];exact h.lv⟩
theorem Ev.more {x:Nat} {v:FP} {m m':Nat} (h:Ev inp s x v m) (hm:m≤m'):Ev inp s x v m':=⟨h.lt,h.val,by have:=h.lv;omega⟩
theorem Ev.to {x:Nat} {v v':FP} {m:Nat} (h:Ev inp s x v m) (hv:v=v'):Ev inp s x v' m:=hv ▸ h
theorem Ev.arg {x:Nat} (hx:x < 29):Ev inp s x (fe (nth inp x)) 0:=⟨by omega,by rw [zov hx],by rw [zgy x hx];exact Nat.le_refl _⟩
theorem zuk (s:List Nd) (l r:Nat) (k:Cf):ym s k l r < (addN s l r k).2.length ∧ ∃ v,nth (addN s l r k).2 (ym s k l r)=⟨k,l,r,v⟩:=by
 have hle:=zfw s k l r;rw [yP]
 split
 · rename_i hp
   refine⟨hp,?_⟩
   have hp':s.findIdx (fun x=>decide (x.k=k∧x.l=l∧x.r=r)) < s.length:=hp;have this:=List.findIdx_getElem (xs:=s) (p:=fun x=>decide (x.k=k∧x.l=l∧x.r=r)) (w:=hp');simp only [decide_eq_true_eq] at this;have e:nth s (ym s k l r)=s[s.findIdx (fun x=>decide (x.k=k∧x.l=l∧x.r=r))]'hp':=zh hp';rw [e]
   obtain⟨h1,h2,h3⟩:=this
   generalize s[s.findIdx (fun x=>decide (x.k=k∧x.l=l∧x.r=r))]'hp'=x at h1 h2 h3
   cases x
   simp only at h1 h2 h3;subst h1;subst h2;subst h3
   exact⟨_,rfl⟩
 · rename_i hp
   have:ym s k l r=s.length:=by omega
   rw [this]
   refine⟨by simp,?_⟩
   rw [zA (Nat.le_refl _),Nat.sub_self,zx]
   exact⟨_,rfl⟩
theorem zAs {s:List Nd} (hw:Wf s) {l r:Nat} (hl:l < 29+s.length) (hr:r < 29+s.length) (k:Cf):lev (addN s l r k).2 (addN s l r k).1=1+max (lev s l) (lev s r):=by
 obtain⟨h1,v,h2⟩:=zuk s l r k
 have hx:Exn s (addN s l r k).2:=(ya l r k).ext s;have h3:=(hw.add hl hr k).lv _ h1;rw [h2] at h3;rw [hx.lev hl,hx.lev hr] at h3;rw [zaq];unfold lev;rw [if_neg (by omega),Nat.add_sub_cancel_left,h2];exact h3

structure Bl (inp:List U) (s:List Nd) (p:BS) (v:FP) (m:Nat):Prop where
 gd:Gd p.2
 ex:Exn s p.2
 ev:Ev inp p.2 p.1 v m
theorem Bl.to {p:BS} {v v':FP} {m m':Nat} (h:Bl inp s p v m) (hv:v=v':=by rfl) (hm:m≤m':=by omega):Bl inp s p v' m':=⟨h.gd,h.ex,(h.ev.more hm).to hv⟩
theorem Bl.pre {p:BS} {v:FP} {m:Nat} (h:Bl inp t p v m) (hx:Exn s t):Bl inp s p v m:=⟨h.gd,hx.trans h.ex,h.ev⟩
theorem zda (hi:Fv inp) (hg:Gd s) {l r:Nat} {a b:FP} {m m':Nat} (hl:Ev inp s l a m) (hr:Ev inp s r b m') {k:Cf} (hk:okC k) :
 Bl inp s (addN s l r k) (fe (fi k.c)*(a*b)+fe (fi k.a)*a+fe (fi k.b)*b+fe (fi k.d)) (1+max m m'):=by
 have hx:Exn s (addN s l r k).2:=(ya l r k).ext s
 refine⟨⟨hg.wf.add hl.lt hr.lt k,(za9 s l r hk).sm hg.sm⟩,hx,yC s l r k,?_,?_⟩
 · rw [zzG hg.wf hl.lt hr.lt];have h1:=zeG hg.wf hg.sm.fv hi l hl.lt;have h2:=zeG hg.wf hg.sm.fv hi r hr.lt;unfold gvU;rw [zxm (g:=⟨0,0,fi k.c,fi k.a,fi k.b,fi k.d⟩) ⟨zaS hk.1.1 hk.1.2,zaS hk.2.1.1 hk.2.1.2,zaS hk.2.2.1.1 hk.2.2.1.2,zaS hk.2.2.2.1 hk.2.2.2.2⟩ h1 h2,hl.val,hr.val]
 · rw [zAs hg.wf hl.lt hr.lt]
   have:=hl.lv
   have:=hr.lv
   omega
theorem zie (hi:Fv inp) (hg:Gd s) {l r:Nat} {a b:FP} {m m':Nat} (hl:Ev inp s l a m) (hr:Ev inp s r b m'):Bl inp s (prN s l r) (a*b) (1+max m m') :=
 (zda hi hg hl hr (k:=⟨1,0,0,0⟩) yX).to (by simp only [fi0,fi1];grind) (Nat.le_refl _)

theorem zju {c k:Nat} (hc:c < 4) (hk:k < zR c):zf c+k < 29:=by
 have h:c=0 ∨ c=1 ∨ c=2 ∨ c=3:=by omega
 rcases h with rfl | rfl | rfl | rfl<;>simp [zf,zR,nth] at hk ⊢ <;> omega
def zeu (most:Bool) (n x i:Nat):Bool:=if most then decide (x % 2 ^ i≤n % 2 ^ i) else decide (n % 2 ^ i≤x % 2 ^ i)
def zhu (inp:List U) (most:Bool) (n x i:Nat) (p:Option Nat × List Nd):Prop :=
 match p.1 with
 | none=>if most then n % 2 ^ i=2 ^ i - 1 else n % 2 ^ i=0
 | some g=>Ev inp p.2 g (b01 (zeu most n x i)) i
theorem zb3 (n i:Nat):(bt n i=true∧n % 2 ^ (i+1)=n % 2 ^ i+2 ^ i) ∨ (bt n i=false∧n % 2 ^ (i+1)=n % 2 ^ i):=by
 rw [Nat.mod_pow_succ];unfold bt
 rcases Nat.mod_two_eq_zero_or_one (n / 2 ^ i) with h | h
 · exact .inr ⟨by simp [h],by rw [h];omega⟩
 · exact .inl ⟨by simp [h],by rw [h];omega⟩
theorem zqo (hi:Fv inp) (hg:Gd s) {c:Nat} (hc:c < 4) (most:Bool) (n x:Nat) (hb : ∀ k,k < zR c → fe (nth inp (zf c+k))=b01 (bt x k)) :
 ∀ i,i≤zR c → Gd (yB most n c s i).2∧Exn s (yB most n c s i).2∧zhu inp most n x i (yB most n c s i)
 | 0,_=>⟨hg,.refl s,by show (if most then n % 2 ^ 0=2 ^ 0 - 1 else n % 2 ^ 0=0);rw [Nat.pow_zero,Nat.mod_one];cases most<;>rfl⟩
 | i+1,hil=>by
  obtain⟨h1,h2,h3⟩:=zqo hi hg hc most n x hb i (by omega)
  have hin:=Ev.arg (inp:=inp) (s:=(yB most n c s i).2) (zju hc (show i < zR c by omega));rw [hb i (by omega)] at hin
  show Gd (zaR most n (zf c+i) i (yB most n c s i)).2∧Exn s (zaR most n (zf c+i) i (yB most n c s i)).2∧zhu inp most n x (i+1) (zaR most n (zf c+i) i (yB most n c s i))
  generalize yB most n c s i=p at h1 h2 h3 hin
  obtain⟨o,t⟩:=p
  simp only at h1 h2 hin;have hX:=Nat.mod_lt x (Nat.two_pow_pos i);have hN:=Nat.mod_lt n (Nat.two_pow_pos i);have hP:=Nat.pow_succ 2 i
  cases o with
  | none =>
   simp only [zhu] at h3
   cases most with
   | true =>
    simp only [if_true] at h3
    rcases zb3 n i with ⟨b1,b2⟩ | ⟨b1,b2⟩
    · simp only [zaR,b1,if_true]
      refine⟨h1,h2,?_⟩
      simp only [zhu,if_true];omega
    · have hA:=zda hi h1 hin hin (k:=⟨0,-1,0,1⟩) yX;simp only [zaR,b1,if_true,if_false,Bool.false_eq_true]
      refine⟨hA.gd,h2.trans hA.ex,?_⟩
      simp only [zhu];refine (hA.ev.more (by omega)).to ?_
      rcases zb3 x i with ⟨c1,c2⟩ | ⟨c1,c2⟩
      · have:zeu true n x (i+1)=false:=by simp only [zeu,if_true,decide_eq_false_iff_not];omega
        rw [this,c1];simp only [fi0,fi1,zAr];decide +kernel
      · have:zeu true n x (i+1)=true:=by simp only [zeu,if_true,decide_eq_true_eq];omega
        rw [this,c1];simp only [fi0,fi1,zAr];decide +kernel
   | false =>
    simp only [if_false,Bool.false_eq_true] at h3
    rcases zb3 n i with ⟨b1,b2⟩ | ⟨b1,b2⟩
    · simp only [zaR,b1,if_true,if_false,Bool.false_eq_true]
      refine⟨h1,h2,?_⟩
      simp only [zhu];refine (hin.more (by omega)).to ?_
      rcases zb3 x i with ⟨c1,c2⟩ | ⟨c1,c2⟩
      · have:zeu false n x (i+1)=true:=by simp only [zeu,if_false,Bool.false_eq_true,decide_eq_true_eq];omega
        rw [this,c1]
      · have:zeu false n x (i+1)=false:=by simp only [zeu,if_false,Bool.false_eq_true,decide_eq_false_iff_not];omega
        rw [this,c1]
    · simp only [zaR,b1,if_false,Bool.false_eq_true]
      refine⟨h1,h2,?_⟩
      simp only [zhu,if_false,Bool.false_eq_true];omega
  | some g =>
   simp only [zhu] at h3;have hk:okC (ziY most (bt n i)):=zqg _ _;have hA:=zda hi h1 hin h3 hk;simp only [zaR]
   refine⟨hA.gd,h2.trans hA.ex,?_⟩
   simp only [zhu];refine (hA.ev.more (by omega)).to ?_
   have key:zeu most n x (i+1)=if bt n i=bt x i then zeu most n x i else (bt x i != most):=by
    rcases zb3 n i with ⟨b1,b2⟩ | ⟨b1,b2⟩<;>rcases zb3 x i with ⟨c1,c2⟩ | ⟨c1,c2⟩<;>rw [b1,c1]<;>cases most <;>
     simp only [zeu,b2,c2,if_true,if_false,Bool.false_eq_true,reduceCtorEq,Bool.true_eq_false,bne_self_eq_false,decide_eq_false_iff_not,decide_eq_true_eq,decide_eq_decide]<;>first | omega | (simp;omega)
   rw [key]
   cases most<;>cases bt n i<;>cases bt x i<;>cases zeu _ n x i<;>decide +kernel
theorem zym (hi:Fv inp) (hg:Gd s) {c:Nat} (hc:c < 4) (most:Bool) (n x:Nat) (hn:n < 2 ^ zR c) (hx:x < 2 ^ zR c) (hm:if most then n≠2 ^ zR c - 1 else n≠0)
 (hb : ∀ k,k < zR c → fe (nth inp (zf c+k))=b01 (bt x k)):Bl inp s (zcl most n c s) (b01 (if most then decide (x≤n) else decide (n≤x))) 8:=by
 obtain⟨h1,h2,h3⟩:=zqo hi hg hc most n x hb (zR c) (Nat.le_refl _)
 unfold zcl
 generalize yB most n c s (zR c)=p at h1 h2 h3
 obtain⟨o,t⟩:=p
 unfold zhu zeu at h3;rw [Nat.mod_eq_of_lt hn,Nat.mod_eq_of_lt hx] at h3
 cases o with
 | none=>simp only at h3;cases most<;>simp only [if_true,if_false,Bool.false_eq_true] at h3 hm<;>exact absurd h3 hm
 | some g=>exact⟨h1,h2,h3.more (zaz c)⟩
end ev

structure Rw (inp:List U) (x:Nat → Nat) (live:Bool) (u:Nat → Bool):Prop where
 fv:Fv inp
 lv:fe (nth inp 4)=b01 live
 col : ∀ c,c < 4 → fe (nth inp c)=fn (x c)∧x c < 2 ^ zR c
 bit : ∀ c,c < 4 → u c=true → ∀ k,k < zR c → fe (nth inp (zf c+k))=b01 (bt (x c) k)
theorem Rw.zero:Rw [] (fun _=>0) false fun _=>true :=
 ⟨zaZ,rfl,fun c _=>⟨rfl,Nat.two_pow_pos _⟩,fun c _ _ k _=>by simp [bt];rfl⟩
def mtc (x:Nat → Nat) (c:Cnd):Bool:=decide (c.lo≤(x c.col.toNat:Int)) && decide ((x c.col.toNat:Int)≤c.hi)
def mtF (x:Nat → Nat) (l:List Cnd):Bool:=l.all (mtc x)
theorem zmg (c:Nat):yu c=((2 ^ zR c - 1:Nat):Int):=by unfold yu zR;split<;>rfl
section rows
variable {inp:List U} {x:Nat → Nat} {live:Bool} {u:Nat → Bool} {s:List Nd}
theorem zCr (h:Rw inp x live u) {c:Cnd} (hc:vC c=true) (hu:yH c.col.toNat c=true → u c.col.toNat=true) {m:Nat} {p:BS} {b:Bool} {s0:List Nd} (hp:Bl inp s0 p (b01 b) m) (hm:8≤m) :
 Bl inp s0 (mt1 c p) (b01 (b && decide (c.lo≤(x c.col.toNat:Int)))) (m+1):=by
 obtain⟨v1,v2,v3,v4,v5⟩:=zqb hc
 have v6:c.hi≤yu c.col.toNat:=by unfold vC at hc;simp only [decide_eq_true_eq] at hc;exact hc.2.2.2.2
 have hcl:c.col.toNat < 4:=by omega
 have htop:=zmg c.col.toNat;unfold mt1
 split
 · rename_i h0
   have hr:yH c.col.toNat c=true:=by unfold yH;simp only [decide_eq_true_eq];exact⟨by omega,.inl h0⟩
   have hpow:=Nat.two_pow_pos (zR c.col.toNat);have hC:=zym h.fv hp.gd hcl false c.lo.toNat (x c.col.toNat) (by omega) (h.col _ hcl).2 (by simp only [if_false,Bool.false_eq_true];omega) (h.bit _ hcl (hu hr));have hP:=zie h.fv hC.gd (hp.ev.ext hC.ex) hC.ev;refine (hP.pre (hp.ex.trans hC.ex)).to ?_ (by omega);rw [zjt]
   congr 2
   simp only [if_false,Bool.false_eq_true,decide_eq_decide];omega
 · refine hp.to ?_ (by omega);rw [show decide (c.lo≤(x c.col.toNat:Int))=true by simp only [decide_eq_true_eq];omega,Bool.and_true]
theorem zCs (h:Rw inp x live u) {c:Cnd} (hc:vC c=true) (hu:yH c.col.toNat c=true → u c.col.toNat=true) {m:Nat} {p:BS} {b:Bool} {s0:List Nd} (hp:Bl inp s0 p (b01 b) m) (hm:8≤m) :
 Bl inp s0 (mt2 c p) (b01 (b && decide ((x c.col.toNat:Int)≤c.hi))) (m+1):=by
 obtain⟨v1,v2,v3,v4,v5⟩:=zqb hc
 have v6:c.hi≤yu c.col.toNat:=by unfold vC at hc;simp only [decide_eq_true_eq] at hc;exact hc.2.2.2.2
 have hcl:c.col.toNat < 4:=by omega
 have htop:=zmg c.col.toNat;have hx:=(h.col _ hcl).2;unfold mt2
 split
 · rename_i h0
   have hr:yH c.col.toNat c=true:=by unfold yH;simp only [decide_eq_true_eq];exact⟨by omega,.inr h0⟩
   have hpow:=Nat.two_pow_pos (zR c.col.toNat);have hC:=zym h.fv hp.gd hcl true c.hi.toNat (x c.col.toNat) (by omega) hx (by simp only [if_true];omega) (h.bit _ hcl (hu hr));have hP:=zie h.fv hC.gd (hp.ev.ext hC.ex) hC.ev;refine (hP.pre (hp.ex.trans hC.ex)).to ?_ (by omega);rw [zjt]
   congr 2
   simp only [if_true,decide_eq_decide];omega
 · refine hp.to ?_ (by omega);rw [show decide ((x c.col.toNat:Int)≤c.hi)=true by simp only [decide_eq_true_eq];omega,Bool.and_true]
theorem zqp (h:Rw inp x live u) (hg:Gd s) {l:List Cnd} (hl:vF l=true) (hu : ∀ c∈l,yH c.col.toNat c=true → u c.col.toNat=true) :
 ∀ i,i≤l.length → Bl inp s (zbV l s i) (b01 (live && mtF x (l.take i))) (8+2*i)
 | 0,_=>by
  refine⟨hg,.refl s,((Ev.arg (x:=4) (by omega)).to ?_).more (by omega)⟩
  rw [h.lv];simp [mtF]
 | i+1,hi=>by
  have ih:=zqp h hg hl hu i (by omega)
  have hm:nth l i∈l:=by rw [zh hi];exact List.getElem_mem _
  have h1:=zCr h (zqc hl (show i < l.length by omega)) (hu _ hm) ih (by omega);have h2:=zCs h (zqc hl (show i < l.length by omega)) (hu _ hm) h1 (by omega);refine h2.to ?_ (by omega)
  congr 1
  have e:l.take (i+1)=l.take i++[nth l i]:=by rw [List.take_add_one,List.getElem?_eq_getElem hi,zh hi];rfl
  rw [e,mtF,mtF,List.all_append];simp only [List.all_cons,List.all_nil,Bool.and_true,mtc];simp only [Bool.and_assoc]
theorem zqq (h:Rw inp x live u) (hg:Gd s) {l:List Cnd} (hl:vF l=true) (hu : ∀ c∈l,yH c.col.toNat c=true → u c.col.toNat=true) :
 Bl inp s (yl l s) (b01 (live && mtF x l)) 14:=by
 have h1:=zqp h hg hl hu l.length (Nat.le_refl _)
 have:=zoZ hl
 rw [List.take_length] at h1;exact h1.to rfl (by omega)

theorem zCt (h:Rw inp x live u) (hg:Gd s) {c:Nat} (hc:c=0 ∨ c=2) (hu:u c=true) {v:Nat} (hv:v < 16):Bl inp s (zcR c v s) (b01 (decide (x c=v))) 2:=by
 have hc4:c < 4:=by omega
 have hw:zR c=4:=by unfold zR;rw [if_pos hc]
 have hx:x c < 16:=by have:=(h.col c hc4).2;rw [hw] at this;exact this
 have hbit:=h.bit c hc4 hu
 have hin : ∀ (t:List Nd) k,k < 4 → Ev inp t (zf c+k) (b01 (bt (x c) k)) 0:=fun t k hk=>(Ev.arg (zju hc4 (by omega))).to (hbit k (by omega))
 have okb : ∀ w,okC (zap w):=zgN;have hA:=zda h.fv hg (hin s 0 (by omega)) (hin s 1 (by omega)) (okb (v % 4));have hB:=zda h.fv hA.gd (hin _ 2 (by omega)) (hin _ 3 (by omega)) (okb (v / 4));have hP:=zie h.fv hB.gd (hA.ev.ext hB.ex) hB.ev;refine (hP.pre (hA.ex.trans hB.ex)).to ?_ (by omega)
 generalize x c=y at hx
 clear hP hB hA hin hbit
 revert v y
 decide +kernel
structure Evs (inp:List U) (t:List Nd) (o:List Nat) (n:Nat) (f:Nat → FP) (m:Nat):Prop where
 len:o.length=n
 ev : ∀ j,j < n → Ev inp t (nth o j) (f j) m
theorem Evs.ext {t t':List Nd} {o:List Nat} {n:Nat} {f:Nat → FP} {m:Nat} (h:Evs inp t o n f m) (hx:Exn t t'):Evs inp t' o n f m:=⟨h.len,fun j hj=>(h.ev j hj).ext hx⟩
theorem Evs.to {t:List Nd} {o:List Nat} {n:Nat} {f g:Nat → FP} {m m':Nat} (h:Evs inp t o n f m) (hf : ∀ j,j < n → f j=g j) (hm:m≤m'):Evs inp t o n g m':=⟨h.len,fun j hj=>((h.ev j hj).to (hf j hj)).more hm⟩
theorem Evs.app {t:List Nd} {o o':List Nat} {n n':Nat} {f f':Nat → FP} {m:Nat} (h:Evs inp t o n f m) (h':Evs inp t o' n' f' m):Evs inp t (o++o') (n+n') (fun j=>if j < n then f j else f' (j - n)) m :=
 ⟨by rw [List.length_append,h.len,h'.len],fun j hj=>by
  by_cases e:j < n
  · rw [zI (by rw [h.len];exact e),if_pos e];exact h.ev j e
  · rw [zA (by rw [h.len];omega),if_neg e,h.len];exact h'.ev _ (by omega)⟩
theorem Evs.one {t:List Nd} {y m:Nat} {v:FP} (h:Ev inp t y v m):Evs inp t [y] 1 (fun _=>v) m:=⟨rfl,fun j hj=>by
 obtain rfl:j=0:=by omega
 exact h⟩
theorem zqr (h:Rw inp x live u) (hg:Gd s) {c:Nat} (hc:c=0 ∨ c=2) (hu:u c=true) {m:Nat} {b:Bool} (hm:Ev inp s m (b01 b) 14) :
 ∀ i,i≤16 → Gd (yQ m c s i).2∧Exn s (yQ m c s i).2∧Evs inp (yQ m c s i).2 (yQ m c s i).1 i (fun j=>b01 (b && decide (x c=j))) 15
 | 0,_=>⟨hg,.refl s,rfl,fun j hj=>absurd hj (Nat.not_lt_zero _)⟩
 | i+1,hi=>by
  obtain⟨h1,h2,h3⟩:=zqr h hg hc hu hm i (by omega)
  have hI:=zCt h h1 hc hu (show i < 16 by omega);have hP:=zie h.fv hI.gd ((hm.ext h2).ext hI.ex) hI.ev
  refine⟨hP.gd,(h2.trans hI.ex).trans hP.ex,?_⟩
  have h4:=((h3.ext hI.ex).ext hP.ex).app (Evs.one (hP.ev.more (show 1+max 14 2≤15 by omega)));refine h4.to (fun j hj => ?_) (Nat.le_refl _);by_cases e:j < i
  · rw [if_pos e]
  · obtain rfl:j=i:=by omega
    rw [if_neg e,zjt]
theorem zjv (h:Rw inp x live u) (hg:Gd s) {l:List Cnd} (hl:vF l=true) (hul : ∀ c∈l,yH c.col.toNat c=true → u c.col.toNat=true) {c:Nat} (hc:c=0 ∨ c=2) (hu:u c=true) :
 Gd (y5 l c s).2∧Exn s (y5 l c s).2∧Evs inp (y5 l c s).2 (y5 l c s).1 16 (fun j=>b01 (live && mtF x l && decide (x c=j))) 15:=by
 have hm:=zqq h hg hl hul
 obtain⟨h1,h2,h3⟩:=zqr h hm.gd hc hu hm.ev 16 (Nat.le_refl _)
 exact⟨h1,hm.ex.trans h2,h3⟩
theorem zqs (h:Rw inp x live u) (hg:Gd s) {c:Nat} (hc:c < 4) : ∀ i,Bl inp s (zbW c s i) (fn (x c ^ (i+1))) i
 | 0=>⟨hg,.refl s,(Ev.arg (x:=c) (by omega)).to (by rw [(h.col c hc).1,Nat.zero_add,Nat.pow_one])⟩
 | i+1=>by
  have ih:=zqs h hg hc i;have hP:=zie h.fv ih.gd ih.ev (((Ev.arg (s:=(zbW c s i).2) (show c < 29 by omega))).to (h.col c hc).1);refine (hP.pre ih.ex).to ?_ (by omega);rw [Nat.pow_succ (n:=x c) (m:=i+1),zyl]

def zyo (q:Qry):Nat:=if q.kind=1 ∨ q.kind=2 ∨ q.kind=3 then 1 else if q.kind=7 then 32 else 16
def smR (q:Qry) (x:Nat → Nat) (live:Bool) (j:Nat):Nat :=
 if q.kind=1 then b2n (live && mtF x (nth q.fl 0))
 else if q.kind=2 ∨ q.kind=3 then b2n (live && mtF x (nth q.fl 0))*x q.col.toNat ^ ((q.k - 1).toNat+1)
 else if q.kind=7 then if j < 16 then b2n (live && mtF x (nth q.fl 0) && decide (x 0=j)) else b2n (live && mtF x (nth q.fl 1) && decide (x 0=j - 16))
 else b2n (live && mtF x (nth q.fl 0) && decide (x q.col.toNat=j))
structure QF (q:Qry):Prop where
 kind:1≤q.kind∧q.kind≤7
 col:0≤q.col∧q.col < 4
 k:q.k≤65536∧(q.kind=2 ∨ q.kind=3 → q.k≤6)
 fl:q.fl.length=if q.kind=7 then 2 else 1
 grp:q.kind≠1 → q.kind≠2 → q.kind≠3 → q.kind≠7 → q.col.toNat=0 ∨ q.col.toNat=2
theorem zAN {q:Qry} (he:yi q=0):QF q:=by
 have hq:=zmd he;have hq':=hq;simp only [vQ,Bool.and_eq_true,decide_eq_true_eq,List.all_eq_true] at hq'
 obtain⟨a1,a2,a3,a4,a5,a6⟩:=hq'
 refine⟨a1,a2,⟨?_,fun h => ?_⟩,a5,fun h1 h2 h3 h7 => ?_⟩
 · have:=a4.2
   unfold yd at this;split at this
   · omega
   · split at this<;>omega
 · have:=a4.2
   unfold yd at this
   rcases h with h | h<;>rw [h] at this
   · simp at this;omega
   · simpa using this
 · unfold yi at he;rw [if_pos hq] at he;split at he
   · cases he
   · omega
theorem zmh {q:Qry} {l:List Cnd} (hl:l∈q.fl) {c:Cnd} (hc:c∈l) (hr:yH c.col.toNat c=true):zaw q c.col.toNat=true:=by
 unfold zaw;rw [Bool.or_eq_true];exact .inl (List.any_eq_true.2 ⟨l,hl,List.any_eq_true.2 ⟨c,hc,hr⟩⟩)
theorem zgW {q:Qry} (he:yi q=0) (h:Rw inp x live (zaw q)) :
 Gd (zB q []).2∧Evs inp (zB q []).2 (zB q []).1 (zyo q) (fun j=>fn (smR q x live j)) 15:=by
 have hq:=zmd he;have hF:=zAN he
 have hf0:0 < q.fl.length:=by rw [hF.fl];split<;>decide
 have hm0:nth q.fl 0∈q.fl:=by rw [zh hf0];exact List.getElem_mem _
 have v0:=zbL hq hf0
 have u0 : ∀ c∈nth q.fl 0,yH c.col.toNat c=true → zaw q c.col.toNat=true:=fun c hc hr=>zmh hm0 hc hr
 have hm:=zqq h Gd.nil v0 u0;unfold zB zyo smR;by_cases k1:q.kind=1
 · simp only [k1,if_true,true_or]
   exact⟨hm.gd,(Evs.one (hm.ev.more (by omega))).to (fun j _=>(zgV _).symm) (Nat.le_refl _)⟩
 simp only [k1,if_false,false_or];by_cases k2:q.kind=2 ∨ q.kind=3
 · simp only [k2,if_true]
   have hc4:q.col.toNat < 4:=by have:=hF.col;omega
   have hp:=zqs h hm.gd hc4 (q.k - 1).toNat;have hP:=zie h.fv hp.gd (hm.ev.ext hp.ex) hp.ev
   refine⟨hP.gd,(Evs.one (hP.ev.more ?_)).to (fun j _ => ?_) (Nat.le_refl _)⟩
   · have:=hF.k.2 k2;omega
   · rw [zyl,zgV]
 simp only [k2,if_false];by_cases k7:q.kind=7
 · simp only [k7,if_true]
   have hf1:1 < q.fl.length:=by rw [hF.fl,if_pos k7];decide
   have hm1:nth q.fl 1∈q.fl:=by rw [zh hf1];exact List.getElem_mem _
   have uc:zaw q 0=true:=by unfold zaw;simp [k7]
   obtain⟨a1,a2,a3⟩:=zjv h Gd.nil v0 u0 (.inl rfl) uc
   obtain⟨b1,b2,b3⟩:=zjv h a1 (zbL hq hf1) (fun c hc hr=>zmh hm1 hc hr) (.inl rfl) uc
   refine⟨b1,((a3.ext b2).app b3).to (fun j hj => ?_) (Nat.le_refl _)⟩
   split
   · exact (zgV _).symm
   · exact (zgV _).symm
 · simp only [k7,if_false]
   have k3:q.kind≠2∧q.kind≠3:=⟨fun e=>k2 (.inl e),fun e=>k2 (.inr e)⟩
   have hk:=hF.kind
   have uc:zaw q q.col.toNat=true:=by
    unfold zaw;rw [Bool.or_eq_true,Bool.or_eq_true]
    have:=hF.col
    exact .inr (.inl (by simp only [decide_eq_true_eq];omega))
   obtain⟨a1,a2,a3⟩:=zjv h Gd.nil v0 u0 (hF.grp k1 k3.1 k3.2 k7) uc
   exact⟨a1,a3.to (fun j _=>(zgV _).symm) (Nat.le_refl _)⟩
end rows
end Go.Proofs.YthaoifcebimkfaaGreatDoor

namespace Go.Proofs.YthaoifcebimkfaaGreatDoor
open Go Go.AL

theorem Rw.none (u:Nat → Bool):Rw [] (fun _=>0) false u :=
 ⟨zaZ,rfl,fun c _=>⟨rfl,Nat.two_pow_pos _⟩,fun c _ _ k _=>by simp [bt];rfl⟩
structure Zq (inp:List U) (t:List Nd) (o:List Nat) (Q:Prop):Prop where
 rng : ∀ y∈o,y < 29+t.length∧lev t y≤15
 iff:(∀ y∈o,fe (ndv t inp y)=0) ↔ Q
section zq
variable {inp:List U} {t t':List Nd} {o:List Nat} {Q:Prop}
theorem Zq.ext (h:Zq inp t o Q) (hx:Exn t t'):Zq inp t' o Q :=
 ⟨fun y hy=>⟨by have:=(h.rng y hy).1;have:=hx.len;omega,by rw [hx.lev (h.rng y hy).1];exact (h.rng y hy).2⟩,by
  rw [←h.iff]
  exact⟨fun g y hy=>by rw [←zek hx (h.rng y hy).1];exact g y hy,fun g y hy=>by rw [zek hx (h.rng y hy).1];exact g y hy⟩⟩
theorem Zq.snoc (h:Zq inp t o Q) {y m:Nat} {v:FP} (hy:Ev inp t y v m) (hm:m≤15):Zq inp t (o++[y]) (Q∧v=0) :=
 ⟨fun z hz=>by
  rcases List.mem_append.1 hz with e | e
  · exact h.rng z e
  · rw [List.mem_singleton] at e;subst e;exact⟨hy.lt,Nat.le_trans hy.lv hm⟩,by
  rw [←h.iff]
  refine⟨fun g=>⟨fun z hz=>g z (List.mem_append_left _ hz),by rw [←hy.val];exact g y (by simp)⟩,fun ⟨g1,g2⟩ z hz => ?_⟩
  rcases List.mem_append.1 hz with e | e
  · exact g1 z e
  · rw [List.mem_singleton] at e;subst e;rw [hy.val];exact g2⟩
theorem Zq.to {Q':Prop} (h:Zq inp t o Q) (hq:Q ↔ Q'):Zq inp t o Q':=⟨h.rng,h.iff.trans hq⟩

def bI (inp:List U) (c k:Nat):FP:=fe (nth inp (zf c+k))
def sBi (inp:List U) (c:Nat):Nat → FP
 | 0=>0
 | k+1=>sBi inp c k+fn (2 ^ k)*bI inp c k
theorem zCu : ∀ k,k < 8 → fe (fi (2 ^ k))=fn (2 ^ k):=by decide +kernel
theorem zAt {k:Nat} (hk:k < 8):okC ⟨0,1,2 ^ k,0⟩:=by
 have e:(2:Int) ^ k=((2 ^ k:Nat):Int):=by simp
 have h1:2 ^ k≤2 ^ 7:=Nat.pow_le_pow_right (by decide) (by omega);have h3:=Nat.two_pow_pos k;have h4:2 ^ 7=128:=rfl;exact yX (by omega) (by omega) (by omega) (by omega)
theorem zyp (hi:Fv inp) {s:List Nd} (hg:Gd s) {y:Nat} (hy:y < 29):Bl inp s (chk s y) (fe (nth inp y)*fe (nth inp y) - fe (nth inp y)) 1 :=
 (zda hi hg (Ev.arg hy) (Ev.arg hy) (k:=⟨1,-1,0,0⟩) yX).to (by simp only [fi0,fi1,zAr];grind) (by omega)
theorem zAO (hi:Fv inp) {c:Nat} (hc:c < 4) {p:LBS} (hg:Gd p.2) (hz:Zq inp p.2 p.1 Q) : ∀ k,k≤zR c →
 Gd (zT c p k).s∧Exn p.2 (zT c p k).s∧Zq inp (zT c p k).s (zT c p k).o (Q ∧ ∀ j,j < k → bI inp c j*bI inp c j - bI inp c j=0)∧Ev inp (zT c p k).s (zT c p k).sum (sBi inp c (max 1 k)) k
 | 0,_=>by
  refine⟨hg,.refl _,hz.to ⟨fun h=>⟨h,fun j hj=>absurd hj (Nat.not_lt_zero _)⟩,fun h=>h.1⟩,(Ev.arg (x:=zf c) ?_).to ?_⟩
  · have h0:0 < zR c:=by unfold zR;split<;>decide
    exact zju hc h0
  · simp only [show max 1 0=1 from rfl,sBi,bI,Nat.pow_zero,zCq,Nat.add_zero]
    grind
 | k+1,hk=>by
  obtain⟨h1,h2,h3,h4⟩:=zAO hi hc hg hz k (by omega)
  have h8:=zaz c;have hin:zf c+k < 29:=zju hc (by omega);have hA:=zyp hi h1 hin
  have hZ:=((h3.ext hA.ex).snoc hA.ev (by omega)).to (Q':=Q ∧ ∀ j,j < k+1 → bI inp c j*bI inp c j - bI inp c j=0) ⟨fun ⟨⟨a,b⟩,d⟩=>⟨a,fun j hj=>by
   by_cases e:j < k
   · exact b j e
   · obtain rfl:j=k:=by omega
     exact d⟩,fun ⟨a,b⟩=>⟨⟨a,fun j hj=>b j (by omega)⟩,b k (by omega)⟩⟩
  show Gd (zS c k (zT c p k)).s∧Exn p.2 (zS c k (zT c p k)).s∧Zq inp (zS c k (zT c p k)).s (zS c k (zT c p k)).o _∧Ev inp (zS c k (zT c p k)).s (zS c k (zT c p k)).sum _ _
  unfold zS;dsimp only;by_cases e:k=0
  · subst e;rw [if_pos rfl]
    exact⟨hA.gd,h2.trans hA.ex,hZ,(h4.ext hA.ex).more (by omega)⟩
  · rw [if_neg e];have hB:=zda hi hA.gd (h4.ext hA.ex) (Ev.arg (inp:=inp) (s:=(chk (zT c p k).s (zf c+k)).2) hin) (zAt (show k < 8 by omega))
    refine⟨hB.gd,(h2.trans hA.ex).trans hB.ex,hZ.ext hB.ex,(hB.ev.more (by omega)).to ?_⟩
    have e1:max 1 (k+1)=k+1:=by omega
    have e2:max 1 k=k:=by omega
    rw [e1,e2,sBi];dsimp only;rw [zCu k (by omega),fi0,fi1];unfold bI
    grind
def ZC (inp:List U) (c:Nat):Prop:=(∀ j,j < zR c → bI inp c j*bI inp c j - bI inp c j=0)∧sBi inp c (zR c)=fe (nth inp c)
def ZQ (q:Qry) (inp:List U):Prop:=fe (nth inp 4)*fe (nth inp 4) - fe (nth inp 4)=0 ∧ ∀ c,c < 4 → zaw q c=true → ZC inp c
theorem zAu (hi:Fv inp) {c:Nat} (hc:c < 4) {p:LBS} (hg:Gd p.2) (hz:Zq inp p.2 p.1 Q):Gd (zec c p).2∧Exn p.2 (zec c p).2∧Zq inp (zec c p).2 (zec c p).1 (Q∧ZC inp c):=by
 obtain⟨h1,h2,h3,h4⟩:=zAO hi hc hg hz (zR c) (Nat.le_refl _)
 have h8:=zaz c
 have h0:0 < zR c:=by unfold zR;split<;>decide
 have hB:=zda hi h1 h4 (Ev.arg (inp:=inp) (s:=(zT c p (zR c)).s) (show c < 29 by omega)) (k:=⟨0,1,-1,0⟩) yX;unfold zec
 refine⟨hB.gd,h2.trans hB.ex,((h3.ext hB.ex).snoc hB.ev (by omega)).to ?_⟩
 rw [show max 1 (zR c)=zR c by omega,fi0,fi1,zAr];unfold ZC;rw [and_assoc];refine and_congr Iff.rfl (and_congr Iff.rfl ?_);constructor<;>intro h<;>grind
theorem zqt (hi:Fv inp) {q:Qry} {s:List Nd} (hg:Gd s) : ∀ c,c≤4 → Gd (yR q s c).2∧Exn s (yR q s c).2 ∧
 Zq inp (yR q s c).2 (yR q s c).1 (fe (nth inp 4)*fe (nth inp 4) - fe (nth inp 4)=0 ∧ ∀ c',c' < c → zaw q c'=true → ZC inp c')
 | 0,_=>by
  have hA:=zyp hi hg (show 4 < 29 by omega)
  refine⟨hA.gd,hA.ex,⟨fun y hy => ?_,?_⟩⟩
  · rw [yR,List.mem_singleton] at hy;subst hy;exact⟨hA.ev.lt,Nat.le_trans hA.ev.lv (by omega)⟩
  · rw [←hA.ev.val]
    refine⟨fun h=>⟨h _ (by simp [yR]),fun c' hc=>absurd hc (Nat.not_lt_zero _)⟩,fun h y hy => ?_⟩
    rw [yR,List.mem_singleton] at hy;subst hy;exact h.1
 | c+1,hc=>by
  obtain⟨h1,h2,h3⟩:=zqt hi (q:=q) hg c (by omega)
  unfold yR
  split
  · rename_i hu
    obtain⟨a1,a2,a3⟩:=zAu hi (show c < 4 by omega) h1 h3
    refine⟨a1,h2.trans a2,a3.to ⟨fun ⟨⟨a,b⟩,d⟩=>⟨a,fun j hj hju => ?_⟩,fun ⟨a,b⟩=>⟨⟨a,fun j hj=>b j (by omega)⟩,b c (by omega) hu⟩⟩⟩
    by_cases e:j < c
    · exact b j e hju
    · obtain rfl:j=c:=by omega
      exact d
  · rename_i hu
    refine⟨h1,h2,h3.to ⟨fun ⟨a,b⟩=>⟨a,fun j hj hju => ?_⟩,fun ⟨a,b⟩=>⟨a,fun j hj=>b j (by omega)⟩⟩⟩
    by_cases e:j < c
    · exact b j e hju
    · obtain rfl:j=c:=by omega
      exact absurd hju hu
end zq
end Go.Proofs.YthaoifcebimkfaaGreatDoor

namespace Go.Proofs.YthaoifcebimkfaaGreatDoor
open Go Go.AL

abbrev compC (q:Qry):Circ:=⟨29,yW q,(yt q).1.length⟩
theorem zmi (q:Qry) (he:yi q=0):(zgr (yW q)=true∧yz q=(⟨0,[],0⟩,2)) ∨ (zgr (yW q)=false∧yz q=(compC q,0)):=by
 unfold yz;rw [if_pos he];cases h:zgr (yW q)
 · exact .inr ⟨rfl,rfl⟩
 · exact .inl ⟨rfl,rfl⟩
abbrev outO (q:Qry):List Nat:=(yt q).1++(yt q).2.1
abbrev outS (q:Qry):List Nd:=(yt q).2.2
section out
variable {q:Qry}
theorem zjw (he:yi q=0) (inp:List U) (hi:Fv inp):Gd (outS q)∧Exn (zB q []).2 (outS q)∧Zq inp (outS q) (yt q).2.1 (ZQ q inp):=by
 have h0:=(zgW he (Rw.none (zaw q))).1;exact zqt hi (q:=q) h0 4 (Nat.le_refl _)
theorem zAv (he:yi q=0):(yt q).1.length=zyo q:=(zgW he (Rw.none (zaw q))).2.len
theorem zqu (he:yi q=0) : ∀ y∈outO q,y < 29+(outS q).length∧lev (outS q) y≤15:=fun y hy=>by
 obtain⟨h1,h2,h3⟩:=zjw he [] zaZ
 rcases List.mem_append.1 hy with e | e
 · obtain⟨j,hj,rfl⟩:=List.getElem_of_mem e
   have hE:=(zgW he (Rw.none (zaw q))).2
   have:=(hE.ev j (by rw [←hE.len];exact hj)).ext h2
   rw [show nth (zB q []).1 j=(yt q).1[j] from zh hj] at this
   exact⟨this.lt,this.lv⟩
 · exact h3.rng y e
theorem zqv (he:yi q=0):0 < depth (outS q) (outO q):=zid (zjw he [] zaZ).1.wf (zmd he)
theorem zCv (he:yi q=0):0 < (outO q).length:=by
 have:=(zfB (zmd he)).2.2.2.2
 rw [List.length_append];omega
theorem zqw (he:yi q=0) {inp:List U} (hi:Fv inp):Lay (outS q) inp (outO q) (yW q):=by
 have hG:=(zjw he inp hi).1;exact zCp hG.wf hG.sm hi (fun x hx=>(zqu he x hx).1) (zqv he) (zCv he)
theorem zAw (he:yi q=0) (hb:zgr (yW q)=false):Vd (compC q):=by
 have hL:=zqw he zaZ;have hlen:(yW q).length=depth (outS q) (outO q):=hL.len;have hd:=zqv he
 have hd15:depth (outS q) (outO q)≤15:=zc6 fun x hx=>(zqu he x hx).2
 have hrow : ∀ k,k < (yW q).length → (nth (yW q) k).length≤64:=fun k hk=>by
  unfold zgr at hb;rw [List.any_eq_false] at hb
  have:=hb (nth (yW q) k) (by rw [zh hk];exact List.getElem_mem _)
  simp only [decide_eq_true_eq] at this;omega
 have hwid : ∀ k,wid (compC q) k=(za5 (yW q) k:Int):=fun k=>by
  unfold wid za5
  split<;>rfl
 have hsm:((yt q).1.length:Int)≤((nth (yW q) ((yW q).length - 1)).length:Int):=by
  have e:(nth (yW q) (depth (outS q) (outO q) - 1)).length=(outO q).length:=hL.last;rw [hlen,e,List.length_append];omega
 have hlst:=hrow ((yW q).length - 1) (by omega)
 refine⟨⟨⟨by show (1:Int)≤29;omega,by show (29:Int)≤1000;omega⟩,⟨by show (0:Int)≤((yt q).1.length:Int);omega,by show ((yt q).1.length:Int)≤1000;omega⟩,⟨by show 1≤(yW q).length;omega,by show (yW q).length≤1000;omega⟩,
  fun k hk=>⟨hL.ne k (by rw [←hlen];exact hk),by have:=hrow k hk;show (nth (yW q) k).length≤1000;omega⟩,fun k hk i hi => ?_⟩,by show (29:Int)≤64;omega,by show (yW q).length≤64;omega,hrow,hsm,fun k hk i hi => ?_⟩
 · rw [hwid];exact (hL.op k (by rw [←hlen];exact hk) i hi).1
 · rw [hwid]
   obtain⟨⟨a1,a2,a3,a4⟩,b1,b2,b3,b4⟩:=hL.op k (by rw [←hlen];exact hk) i hi
   unfold vG;simp only [Bool.and_eq_true,decide_eq_true_eq]
   exact⟨⟨⟨⟨⟨⟨⟨a1,a2⟩,a3⟩,a4⟩,b1⟩,b2⟩,b3⟩,b4⟩
end out
end Go.Proofs.YthaoifcebimkfaaGreatDoor

namespace Go.Proofs.YthaoifcebimkfaaGreatDoor
open Go Go.AL

theorem zCw {q:Qry} (hk:1≤q.kind∧q.kind≤7):(zeL q.kind).s=(zyo q:Nat):=by
 have h:q.kind=1 ∨ q.kind=2 ∨ q.kind=3 ∨ q.kind=4 ∨ q.kind=5 ∨ q.kind=6 ∨ q.kind=7:=by omega
 unfold zyo
 rcases h with h | h | h | h | h | h | h<;>rw [h]<;>rfl
def zjx (l:List Gate) (g i:Nat):Bool:=(l.take i).any fun x=>x.l == (g:Int) || x.r == (g:Int)
theorem zul {l:List Gate} {g i:Nat} (h:i < l.length):zjx l g (i+1)=(zjx l g i || ((nth l i).l == (g:Int) || (nth l i).r == (g:Int))):=by
 have e:l.take (i+1)=l.take i++[nth l i]:=by rw [List.take_add_one,List.getElem?_eq_getElem h,zh h];rfl
 unfold zjx;rw [e,List.any_append]
 simp
theorem zyq {l:List Gate} {g i:Nat} (hi:i < l.length) (h:(nth l i).l=(g:Int) ∨ (nth l i).r=(g:Int)):zjx l g l.length=true:=by
 unfold zjx;rw [List.take_length];refine List.any_eq_true.2 ⟨nth l i,by rw [zh hi];exact List.getElem_mem _,?_⟩
 rcases h with h | h<;>simp [h]
section walks
variable {G:Globs} {r1:Nat} {m1:List (Int × Int)}
set_option maxHeartbeats 32000000 in
set_option maxRecDepth 20000 in
theorem zps (g:GW G r1 m1) (q:Qry) (hql:q.fl.length≤9223372036854775807) (H:Hp) (R:AV → Hp → Prop) (h:R (.p (bo true)) H) :
 ACall Tryz.prog G 7 [.p (qry q)] H R:=by
 refine ACall.of_run (raw:=[]) Tryz.func7 rfl Tryz.ntmps7 (by simp) fun hbel => ?_
 refine .qt rfl ?_;simp (disch:=first|exact za|fail) only [go_sem,seval];refine .qt rfl ?_;simp (disch:=first|exact za|fail) only [go_sem,seval];refine CallK.of (fun R h=>zma g _ R h) ?_;simp (disch:=first|exact za|fail) only [go_sem,seval];refine .qt rfl ?_;simp (disch:=first|exact za|fail) only [go_sem,seval];refine CallK.ex (zme q hql _) ?_
 rintro _ _ ⟨⟨p,hp,he,rfl⟩,rfl⟩
 have hk7:=(zAN he).kind
 have hpk:okI p.kind:=by unfold okI;omega
 simp (disch:=first|exact za|fail) only [go_sem,seval];refine .qt rfl ?_;simp (disch:=first|exact za|fail) only [go_sem,seval];refine CallK.ex (zpq g p hpk _) ?_
 rintro _ _ ⟨⟨rfl,hok⟩,rfl⟩
 rcases zmi p he with ⟨hb,hc⟩ | ⟨hb,hc⟩
 · rw [hc];simp (disch:=first|exact za|fail) only [go_sem,seval];refine .qt rfl ?_;simp (disch:=first|exact za|fail) only [go_sem,seval];refine .qT rfl ?_;refine .qt rfl ?_;simp (disch:=first|exact za|fail) only [go_sem,seval,zeA];refine .qr rfl Tryz.func7 (by rw [Tryz.results7]) ?_;simp (disch:=first|exact za|fail) only [go_sem,seval];exact h
 · have hv:=zAw he hb;have hcnt:=zAv he;have hks:=zCw hk7;have hdl:(yW p).length≤64:=hv.len;have hrow : ∀ k,k < (yW p).length → (nth (yW p) k).length≤64:=hv.row;have hL:=zqw he zaZ
   have hus : ∀ k,k+1 < (yW p).length → ∀ g,g < (nth (yW p) k).length → zjx (nth (yW p) (k+1)) g (nth (yW p) (k+1)).length=true:=fun k hk g hg=>by
    obtain⟨i,h1,h2⟩:=hL.us k (by rw [←hL.len];exact hk) g hg
    exact zyq h1 h2
   have hd0:0 < (yW p).length:=by have:=hv.ok.len.1;exact this
   rw [hc];dsimp only;simp (disch:=first|exact za|fail) only [go_sem,seval];refine .qt rfl ?_;simp (disch:=first|exact za|fail) only [go_sem,seval];refine .qF rfl ?_;refine .skip ?_;refine .q ?_;refine .open [] follows (by kernel_rfl) ?_;simp (disch:=first|exact za|fail) only [go_sem,seval];refine CallD.still (fun R h=>zdM (compC p) hv _ R h) ?_;simp (disch:=first|exact za|fail) only [go_sem,seval];refine CallD.still (fun R h=>zlZ p hk7 _ R h) ?_;simp (disch:=first|exact za|fail) only [go_sem,seval,hks,hcnt];refine .qF rfl ?_;refine .skip ?_;refine .qt rfl ?_;simp (disch:=first|exact za|fail) only [go_sem,seval]
   generalize hls:yW p=ls at *
   generalize (yt p).1.length=ns at *
   refine .q ?_;first | refine .loopF0 [3,5] (fun k=>[(7,.p (i64 k))]) (fun k=>True) (0) (ls.length - 1) (by omega) ?_ ?_ ?_ ?_ | refine .loopF [3,5] (fun k=>[(7,.p (i64 k))]) (fun _=>[]) (fun k=>True) (0) (ls.length - 1) (by omega) ?_ (by rfl) ?_ ?_ ?_
   · simp (disch:=first|exact za|fail) only [go_sem,seval]<;>(repeat' (first | rfl | refine And.intro ?_ ?_))
   · exact trivial
   intro env T A hQ;simp (disch:=first|exact za|fail) only [go_sem,seval] at A
   rotate_left 1
   intro k env T hk0 hk A hQ ihA;simp (disch:=first|exact za|fail) only [go_sem,seval] at A
   rotate_left 1
   · have hk1:((ls.length - 1:Nat):Int)+1=(ls.length:Nat):=by omega
     refine .qt rfl ?_;simp (disch:=first|exact za|fail) only [go_sem,seval,A,hk1];refine .qF rfl ?_;refine .qt rfl ?_;simp (disch:=first|exact za|fail) only [go_sem,seval,A];refine .qr rfl Tryz.func7 (by rw [Tryz.results7]) (hx:=by simp (disch:=first|exact za|fail) only [go_sem,seval,A];rfl) ?_;simp (disch:=first|exact za|fail) only [go_sem,seval,A];exact h
   · have hk1:((k:Nat):Int)+1=((k+1:Nat):Int):=by omega
     have hr:=hrow k (by omega);have hr1:=hrow (k+1) (by omega)
     generalize hke:k+1=k1 at *
     refine .qt rfl ?_;simp (disch:=first|exact za|fail) only [go_sem,seval,A,hk1];refine .qT rfl ?_;refine .qt rfl ?_;simp (disch:=first|exact za|fail) only [go_sem,seval,A]
     refine .q ?_;first | refine .loopF0 [3,5,7] (fun j=>[(8,.p (i64 j))]) (fun j=>True) (0) ((nth ls k).length) (by omega) ?_ ?_ ?_ ?_ | refine .loopF [3,5,7] (fun j=>[(8,.p (i64 j))]) (fun _=>[]) (fun j=>True) (0) ((nth ls k).length) (by omega) ?_ (by rfl) ?_ ?_ ?_
     · simp (disch:=first|exact za|fail) only [go_sem,seval,A]<;>(repeat' (first | rfl | refine And.intro ?_ ?_))
     · exact trivial
     intro env T B hQ;simp (disch:=first|exact za|fail) only [go_sem,seval,A] at B
     rotate_left 1
     intro j env T hj0 hj B hQ ihB;simp (disch:=first|exact za|fail) only [go_sem,seval,A] at B
     rotate_left 1
     · refine .qt rfl ?_;simp (disch:=first|exact za|fail) only [go_sem,seval,B,A,yb];refine .qF rfl ?_;refine .qt rfl ?_;simp (disch:=first|exact za|fail) only [go_sem,seval,B,A,hk1]
       first | (refine ihA _ _ ?_ trivial ?_) | (refine .z rfl ?_;refine ihA _ _ ?_ trivial ?_) | (refine .z rfl ?_;refine .z rfl ?_;refine ihA _ _ ?_ trivial ?_) | (refine .z rfl ?_;refine .z rfl ?_;refine .z rfl ?_;refine ihA _ _ ?_ trivial ?_)
       · simp (disch:=first|exact za|fail) only [go_sem,seval,B,A]<;>(repeat' (first | rfl | refine And.intro ?_ ?_))
       · first | exact .mk _ rfl | exact .mk [] rfl | (apply Later.mk;simp (disch:=first|exact za|fail) only [go_sem,seval,zj,B,A];exact rfl) | (apply Later.mk;simp (disch:=first|exact za|fail) only [go_sem,seval,zj,yh,List.append_assoc,B,A]<;>(try rfl))
     · have hu:=hus k (by omega) j hj;rw [hke] at hu;refine .qt rfl ?_;simp (disch:=first|exact za|fail) only [go_sem,seval,B,A,yb];refine .qT rfl ?_;refine .qt rfl ?_;simp (disch:=first|exact za|fail) only [go_sem,seval,B,A];refine .qt rfl ?_;simp (disch:=first|exact za|fail) only [go_sem,seval,B,A]
       refine .q ?_;first | refine .loopF0 [3,5,7,8] (fun i=>[(10,.p (i64 i)),(9,.p (bo (zjx (nth ls k1) j i)))]) (fun i=>True) (0) ((nth ls k1).length) (by omega) ?_ ?_ ?_ ?_ | refine .loopF [3,5,7,8] (fun i=>[(10,.p (i64 i)),(9,.p (bo (zjx (nth ls k1) j i)))]) (fun _=>[]) (fun i=>True) (0) ((nth ls k1).length) (by omega) ?_ (by rfl) ?_ ?_ ?_
       · simp (disch:=first|exact za|fail) only [go_sem,seval,B,A]<;>(repeat' (first | rfl | refine And.intro ?_ ?_))
       · exact trivial
       intro env T D hQ;simp (disch:=first|exact za|fail) only [go_sem,seval,B,A] at D
       rotate_left 1
       intro i env T hi0 hi D hQ ihD;simp (disch:=first|exact za|fail) only [go_sem,seval,B,A] at D
       rotate_left 1
       · refine .qt rfl ?_;simp (disch:=first|exact za|fail) only [go_sem,seval,D,B,A,yb,hk1];refine .qF rfl ?_;refine .qt rfl ?_;simp (disch:=first|exact za|fail) only [go_sem,seval,D,B,A,hu];refine .qF rfl ?_;refine .skip ?_;refine .qt rfl ?_;simp (disch:=first|exact za|fail) only [go_sem,seval,D,B,A]
         first | (refine ihB _ _ ?_ trivial ?_) | (refine .z rfl ?_;refine ihB _ _ ?_ trivial ?_) | (refine .z rfl ?_;refine .z rfl ?_;refine ihB _ _ ?_ trivial ?_) | (refine .z rfl ?_;refine .z rfl ?_;refine .z rfl ?_;refine ihB _ _ ?_ trivial ?_)
         · simp (disch:=first|exact za|fail) only [go_sem,seval,D,B,A]<;>(repeat' (first | rfl | refine And.intro ?_ ?_))
         · first | exact .mk _ rfl | exact .mk [] rfl | (apply Later.mk;simp (disch:=first|exact za|fail) only [go_sem,seval,zj,D,B,A];exact rfl) | (apply Later.mk;simp (disch:=first|exact za|fail) only [go_sem,seval,zj,yh,List.append_assoc,D,B,A]<;>(try rfl))
       · have hsu:=zul (g:=j) hi;refine .qt rfl ?_;simp (disch:=first|exact za|fail) only [go_sem,seval,D,B,A,yb,hk1];refine .qT rfl ?_
         cases hu0:zjx (nth ls k1) j i with
         | true =>
          rw [hu0,Bool.true_or] at hsu;refine .qt rfl ?_;simp (disch:=first|exact za|fail) only [go_sem,seval,D,B,A,hu0];refine .qt rfl ?_;simp (disch:=first|exact za|fail) only [go_sem,seval,D,B,A]
          first | (refine ihD _ _ ?_ trivial ?_) | (refine .z rfl ?_;refine ihD _ _ ?_ trivial ?_) | (refine .z rfl ?_;refine .z rfl ?_;refine ihD _ _ ?_ trivial ?_) | (refine .z rfl ?_;refine .z rfl ?_;refine .z rfl ?_;refine ihD _ _ ?_ trivial ?_)
          · simp (disch:=first|exact za|fail) only [go_sem,seval,D,B,A,hsu]<;>(repeat' (first | rfl | refine And.intro ?_ ?_))
          · first | exact .mk _ rfl | exact .mk [] rfl | (apply Later.mk;simp (disch:=first|exact za|fail) only [go_sem,seval,zj,D,B,A,hsu];exact rfl) | (apply Later.mk;simp (disch:=first|exact za|fail) only [go_sem,seval,zj,yh,List.append_assoc,D,B,A,hsu]<;>(try rfl))
         | false =>
          rw [hu0,Bool.false_or] at hsu
          by_cases hl0:(nth (nth ls k1) i).l=(j:Int)
          · rw [beq_iff_eq.2 hl0,Bool.true_or] at hsu;refine .qt rfl ?_;simp (disch:=first|exact za|fail) only [go_sem,seval,D,B,A,hu0,hk1,yb,hl0];refine .qt rfl ?_;simp (disch:=first|exact za|fail) only [go_sem,seval,D,B,A]
            first | (refine ihD _ _ ?_ trivial ?_) | (refine .z rfl ?_;refine ihD _ _ ?_ trivial ?_) | (refine .z rfl ?_;refine .z rfl ?_;refine ihD _ _ ?_ trivial ?_) | (refine .z rfl ?_;refine .z rfl ?_;refine .z rfl ?_;refine ihD _ _ ?_ trivial ?_)
            · simp (disch:=first|exact za|fail) only [go_sem,seval,D,B,A,hsu]<;>(repeat' (first | rfl | refine And.intro ?_ ?_))
            · first | exact .mk _ rfl | exact .mk [] rfl | (apply Later.mk;simp (disch:=first|exact za|fail) only [go_sem,seval,zj,D,B,A,hsu];exact rfl) | (apply Later.mk;simp (disch:=first|exact za|fail) only [go_sem,seval,zj,yh,List.append_assoc,D,B,A,hsu]<;>(try rfl))
          · rw [beq_false_of_ne hl0,Bool.false_or] at hsu;refine .qt rfl ?_;simp (disch:=first|exact za|fail) only [go_sem,seval,D,B,A,hu0,hk1,yb,hl0];refine .qt rfl ?_;simp (disch:=first|exact za|fail) only [go_sem,seval,D,B,A]
            first | (refine ihD _ _ ?_ trivial ?_) | (refine .z rfl ?_;refine ihD _ _ ?_ trivial ?_) | (refine .z rfl ?_;refine .z rfl ?_;refine ihD _ _ ?_ trivial ?_) | (refine .z rfl ?_;refine .z rfl ?_;refine .z rfl ?_;refine ihD _ _ ?_ trivial ?_)
            · simp (disch:=first|exact za|fail) only [go_sem,seval,D,B,A,hsu]<;>(repeat' (first | rfl | refine And.intro ?_ ?_))
            · first | exact .mk _ rfl | exact .mk [] rfl | (apply Later.mk;simp (disch:=first|exact za|fail) only [go_sem,seval,zj,D,B,A,hsu];exact rfl) | (apply Later.mk;simp (disch:=first|exact za|fail) only [go_sem,seval,zj,yh,List.append_assoc,D,B,A,hsu]<;>(try rfl))
end walks
end Go.Proofs.YthaoifcebimkfaaGreatDoor
