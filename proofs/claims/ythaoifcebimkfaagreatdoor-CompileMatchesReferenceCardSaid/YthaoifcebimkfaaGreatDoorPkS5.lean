/- Proofs. -/
import Derived.Test.YthaoifcebimkfaaGreatDoorPkS4
import Derived.WideKeyElems2
import Derived.LaidHandle
import Derived.Test.YthaoifcebimkfaaGreatDoorCards
import Derived.Test.YthaoifcebimkfaaGreatDoorTie
import Derived.LaidMore
import Derived.Deep.DeepWitnessRowRef
set_option linter.unusedSectionVars false
set_option linter.unusedSimpArgs false
set_option linter.unusedVariables false
namespace Go.Proofs.YthaoifcebimkfaaGreatDoor
open Go Go.AL

def zhR (x:U):Bool:=decide (4611686018427387904#64 < x)
def toI (x:U):Int:=(x.toNat:Int)
def zhS (q:Qry) (v:List U):List Int × Int :=
 if (v.length:Int)=(zfB q.kind).s then if v.any zhR then ([],141) else (v.map toI,0) else ([],1)
theorem znl {x:U} (h:zhR x=false):IntKind.i64.wrap (x.toNat:Int)=toI x:=by
 have : ¬ 4611686018427387904#64 < x:=by simpa [zhR] using h
 rw [BitVec.lt_def] at this;have e:(4611686018427387904#64).toNat=4611686018427387904:=rfl;exact zdY (by omega) (by omega)
def zix (v:List U) (i:Nat):List Int:=(v.take i).map toI++List.replicate (v.length - i) 0
theorem zAh {v:List U} {i:Nat} (h:i≤v.length):(zix v i).length=v.length:=by simp [zix];omega
theorem zvL {v:List U}:zix v 0=List.replicate v.length 0:=by simp [zix]
theorem zAi {v:List U}:zix v v.length=v.map toI:=by simp [zix]
theorem zvM {v:List U} {i:Nat} (h:i < v.length):(zix v i).set i (toI (nth v i))=zix v (i+1):=by
 have hl:((v.take i).map toI).length=i:=by rw [List.length_map,List.length_take];omega
 unfold zix;rw [List.set_append_right _ _ (by omega),hl,Nat.sub_self,show v.length - i=(v.length - (i+1))+1 by omega,List.replicate_succ,List.set_cons_zero,List.take_succ_eq_append_getElem h,List.map_append,List.append_assoc,zg h];rfl
section walks
variable {G:Globs} {r1:Nat} {m1:List (Int × Int)}
set_option maxHeartbeats 8000000 in
set_option maxRecDepth 20000 in
theorem zqF (q:Qry) (hv:vQ q=true) (he:y7 q=0) (v:List U) (hl:v.length≤1000) (H:Hp) (R:AV → Hp → Prop) (h:R (.tup [.p (.sl false 1 (pl i64 (zhS q v).1)),.p (i64 (zhS q v).2)]) H):ACall Tryz.prog G 18 [.p (qry q),.p (.sl false 1 (pl zh v))] H R:=by
 refine ACall.of_run (raw:=[]) Tryz.func18 rfl Tryz.ntmps18 (by simp) fun hbel => ?_
 have hk7:1≤q.kind∧q.kind≤7:=by
  have hq:=hv;simp only [vQ,Bool.and_eq_true,decide_eq_true_eq] at hq;exact hq.1
 unfold zhS at h;refine .qt rfl ?_;simp (disch:=first|exact zb|fail) only [go_sem,seval];refine .qt rfl ?_;simp (disch:=first|exact zb|fail) only [go_sem,seval];refine CallK.ex (zdN 1 (by decide) q (by unfold okI;omega) _) ?_
 rintro _ _ ⟨⟨x,rfl⟩,rfl⟩
 rw [he];simp (disch:=first|exact zb|fail) only [go_sem,seval]
 rcases Classical.em ((v.length:Int)=(zfB q.kind).s) with e | e
 · rw [if_pos e] at h;refine .qt rfl ?_;simp (disch:=first|exact zb|fail) only [go_sem,seval];refine CallK.of (fun R h=>zfV q hk7 _ R h) ?_;simp (disch:=first|exact zb|fail) only [go_sem,seval,e];refine .qF rfl ?_;refine .skip ?_;refine .qt rfl ?_;simp (disch:=first|exact zb|fail) only [go_sem,seval];refine .q ?_;refine .own 8 (by simp (disch:=first|exact zb|fail) only [go_sem,seval];rfl) ?_;refine .qt rfl ?_;simp (disch:=first|exact zb|fail) only [go_sem,seval];refine .q ?_;refine .loopH [1] (fun i=>[(8,.sl (H.n+2) i 1 (pl i64 ((v.take i).map toI))),(9,.p (i64 i))]) (fun i=>((H.new (.cells [.p (i64 q.kind),.p (i64 q.col),.p (i64 q.k),.p (.sl false 1 (pl yt q.fl))])).new (.cells [.p x])).new (.tail i)) (fun i => ∀ j,j < i → zhR (nth v j)=false) (0) (v.length) (by omega) ?_ (by first | rfl | (simp (disch:=first|exact zb|fail) only [go_sem,seval,za8,List.take_zero,List.map_nil]<;>rfl)) ?_ ?_ ?_
   · simp (disch:=first|exact zb|fail) only [go_sem,seval,za8,List.take_zero,List.map_nil]<;>(repeat' (first | rfl | refine And.intro ?_ ?_))
   rotate_left 1
   intro env A hQ;simp (disch:=first|exact zb|fail) only [go_sem,seval,za8,List.take_zero,List.map_nil] at A
   rotate_left 1
   intro i env hi0 hi A hQ ihA;simp (disch:=first|exact zb|fail) only [go_sem,seval,za8,List.take_zero,List.map_nil] at A
   rotate_left 1
   · exact fun j hj=>absurd hj (by omega)
   · have ha:v.any zhR=false:=by
      rw [List.any_eq_false];intro y hy
      obtain⟨j,hj,rfl⟩:=List.getElem_of_mem hy
      have:=hQ j hj
      rw [zg hj] at this;rw [this];decide
     rw [ha] at h;refine .qt rfl ?_;simp (disch:=first|exact zb|fail) only [go_sem,seval,A];refine .qF rfl ?_;refine .qt rfl ?_;simp (disch:=first|exact zb|fail) only [go_sem,seval,A];refine .qr rfl Tryz.func18 (by rw [Tryz.results18]) (hx:=by simp (disch:=first|exact zb|fail) only [go_sem,seval,A];rfl) ?_;simp (disch:=first|exact zb|fail) only [go_sem,seval,A];exact h
   · have hlt:((v.take i).map toI).length=i:=by rw [List.length_map,List.length_take];omega
     refine .qt rfl ?_;simp (disch:=first|exact zb|fail) only [go_sem,seval,A];refine .qT rfl ?_;refine .qt rfl ?_;simp (disch:=first|exact zb|fail) only [go_sem,seval,A]
     cases hb:zhR (nth v i) with
     | true =>
      have ha:v.any zhR=true:=List.any_eq_true.2 ⟨_,List.getElem_mem hi,by rw [←zg hi];exact hb⟩;rw [ha] at h;have hb':decide (4611686018427387904#64 < nth v i)=true:=hb;refine .q ?_;refine .ifT (by simp (disch:=first|exact zb|fail) only [go_sem,seval,hb']) ?_;refine .qt rfl ?_;simp (disch:=first|exact zb|fail) only [go_sem,seval,A];refine .qr rfl Tryz.func18 (by rw [Tryz.results18]) (hx:=by simp (disch:=first|exact zb|fail) only [go_sem,seval,A];rfl) ?_;simp (disch:=first|exact zb|fail) only [go_sem,seval,A];exact h
     | false =>
      have hb':decide (4611686018427387904#64 < nth v i)=false:=hb;have hcv:=znl hb
      have hap:pl i64 ((v.take i).map toI)++[i64 (toI (nth v i))]=pl i64 ((v.take (i+1)).map toI):=by
       rw [List.take_succ_eq_append_getElem hi,List.map_append,←ye,zg hi];rfl
      refine .q ?_;refine .ifF (by simp (disch:=first|exact zb|fail) only [go_sem,seval,hb']) ?_;refine .skip ?_;refine .qt rfl ?_;simp (disch:=first|exact zb|fail) only [go_sem,seval,A,hcv,hap,hlt];refine .qt rfl ?_;simp (disch:=first|exact zb|fail) only [go_sem,seval,A]
      first | (refine ihA _ _ ?_ (fun j hj=>by by_cases e:j=i;(subst e;exact hb);exact hQ j (by omega)) ?_) | (refine .z rfl ?_;refine ihA _ _ ?_ (fun j hj=>by by_cases e:j=i;(subst e;exact hb);exact hQ j (by omega)) ?_) | (refine .z rfl ?_;refine .z rfl ?_;refine ihA _ _ ?_ (fun j hj=>by by_cases e:j=i;(subst e;exact hb);exact hQ j (by omega)) ?_) | (refine .z rfl ?_;refine .z rfl ?_;refine .z rfl ?_;refine ihA _ _ ?_ (fun j hj=>by by_cases e:j=i;(subst e;exact hb);exact hQ j (by omega)) ?_)
      · simp (disch:=first|exact zb|fail) only [go_sem,seval,A]<;>(repeat' (first | rfl | refine And.intro ?_ ?_))
      · first | rfl | (simp (disch:=first|exact zb|fail) only [go_sem,seval,A]<;>(try rfl))
 · rw [if_neg e] at h;refine .qt rfl ?_;simp (disch:=first|exact zb|fail) only [go_sem,seval];refine CallK.of (fun R h=>zfV q hk7 _ R h) ?_;simp (disch:=first|exact zb|fail) only [go_sem,seval,e];refine .qT rfl ?_;refine .qt rfl ?_;simp (disch:=first|exact zb|fail) only [go_sem,seval];refine .qr rfl Tryz.func18 (by rw [Tryz.results18]) ?_;simp (disch:=first|exact zb|fail) only [go_sem,seval];exact h
set_option maxHeartbeats 8000000 in
set_option maxRecDepth 20000 in
theorem zc6 (g:GW G r1 m1) (q:Qry) (hv:vQ q=true) (he:y7 q=0) (v:List U) (hl:v.length≤1000) (H:Hp) (R:AV → Hp → Prop) (h:R (.tup [.p (.sl false 1 (pl i64 (zhS q v).1)),.p (i64 (zhS q v).2)]) H):ACall Tryz.prog G 17 [.p (qry q),.p (.sl false 1 (pl zh v))] H R:=by
 refine ACall.of_run (raw:=[]) Tryz.func17 rfl Tryz.ntmps17 (by simp) fun hbel => ?_
 have hk7:1≤q.kind∧q.kind≤7:=by
  have hq:=hv;simp only [vQ,Bool.and_eq_true,decide_eq_true_eq] at hq;exact hq.1
 unfold zhS at h;refine .qt rfl ?_;simp (disch:=first|exact zb|fail) only [go_sem,seval];refine .qt rfl ?_;simp (disch:=first|exact zb|fail) only [go_sem,seval];refine CallK.ex (zhF g q (by unfold okI;omega) _) ?_
 rintro _ _ ⟨⟨x,rfl⟩,rfl⟩
 rw [he];simp (disch:=first|exact zb|fail) only [go_sem,seval]
 rcases Classical.em ((v.length:Int)=(zfB q.kind).s) with e | e
 · rw [if_pos e] at h;refine .qt rfl ?_;simp (disch:=first|exact zb|fail) only [go_sem,seval];refine CallK.of (fun R h=>zhE q hk7 _ R h) ?_;simp (disch:=first|exact zb|fail) only [go_sem,seval,e];refine .qF rfl ?_;refine .skip ?_;refine .qt rfl ?_;simp (disch:=first|exact zb|fail) only [go_sem,seval];rw [←zvL];refine .qt rfl ?_;simp (disch:=first|exact zb|fail) only [go_sem,seval];refine .q ?_;refine .loopH [8,28,29] (fun i=>[(30,.p (i64 i))]) (fun i=>((H.new (.cells [.p (i64 q.kind),.p (i64 q.col),.p (i64 q.k),.p (.sl false 1 (pl yt q.fl))])).new (.cells [.p x])).new (.cells (cl i64 (zix v i)))) (fun i => ∀ j,j < i → zhR (nth v j)=false) (0) (v.length) (by omega) ?_ (by first | rfl | (simp (disch:=first|exact zb|fail) only [go_sem,seval]<;>rfl)) ?_ ?_ ?_
   · simp (disch:=first|exact zb|fail) only [go_sem,seval]<;>(repeat' (first | rfl | refine And.intro ?_ ?_))
   rotate_left 1
   intro env A hQ;simp (disch:=first|exact zb|fail) only [go_sem,seval] at A
   rotate_left 1
   intro i env hi0 hi A hQ ihA;simp (disch:=first|exact zb|fail) only [go_sem,seval] at A
   rotate_left 1
   · exact fun j hj=>absurd hj (by omega)
   · have ha:v.any zhR=false:=by
      rw [List.any_eq_false];intro y hy
      obtain⟨j,hj,rfl⟩:=List.getElem_of_mem hy
      have:=hQ j hj
      rw [zg hj] at this;rw [this];decide
     rw [ha] at h;rw [zAi];have hml:(v.map toI).length=v.length:=List.length_map ..
     have htk:((v.map toI).drop 0).take v.length=v.map toI:=by rw [List.drop_zero];exact List.take_of_length_le (by omega)
     refine .qt rfl ?_;simp (disch:=first|exact zb|fail) only [go_sem,seval,A];refine .qF rfl ?_;refine .q ?_;refine .frzS 8 (by simp (disch:=first|exact zb|fail) only [go_sem,seval,A,hml,htk];rfl) (by simp (disch:=first|exact zb|fail) only [go_sem,seval,A,hml,htk]<;>rfl) (fun _=>rfl) (by first | exact zb | fail) ?_;(try simp (disch:=first|exact zb|fail) only [go_sem,seval,A,hml,htk]);refine .qt rfl ?_;simp (disch:=first|exact zb|fail) only [go_sem,seval,A];refine .qr rfl Tryz.func17 (by rw [Tryz.results17]) (hx:=by simp (disch:=first|exact zb|fail) only [go_sem,seval,A];rfl) ?_;simp (disch:=first|exact zb|fail) only [go_sem,seval,A];exact h
   · have hlt:=zAh (v:=v) (i:=i) (by omega);have hset:=zvM hi;refine .qt rfl ?_;simp (disch:=first|exact zb|fail) only [go_sem,seval,A];refine .qT rfl ?_;refine .qt rfl ?_;simp (disch:=first|exact zb|fail) only [go_sem,seval,A];refine .qt rfl ?_;simp (disch:=first|exact zb|fail) only [go_sem,seval,A]
     cases hb:zhR (nth v i) with
     | true =>
      have ha:v.any zhR=true:=List.any_eq_true.2 ⟨_,List.getElem_mem hi,by rw [←zg hi];exact hb⟩;rw [ha] at h;have hb':decide (4611686018427387904#64 < nth v i)=true:=hb;refine .q ?_;refine .ifT (by simp (disch:=first|exact zb|fail) only [go_sem,seval,hb']) ?_;refine .qt rfl ?_;simp (disch:=first|exact zb|fail) only [go_sem,seval,A];refine .qr rfl Tryz.func17 (by rw [Tryz.results17]) (hx:=by simp (disch:=first|exact zb|fail) only [go_sem,seval,A];rfl) ?_;simp (disch:=first|exact zb|fail) only [go_sem,seval,A];exact h
     | false =>
      have hb':decide (4611686018427387904#64 < nth v i)=false:=hb;have hcv:=znl hb;refine .q ?_;refine .ifF (by simp (disch:=first|exact zb|fail) only [go_sem,seval,hb']) ?_;refine .skip ?_;refine .qt rfl ?_;simp (disch:=first|exact zb|fail) only [go_sem,seval,A,hcv,hlt];rw [hset];refine .qt rfl ?_;simp (disch:=first|exact zb|fail) only [go_sem,seval,A]
      first | (refine ihA _ _ ?_ (fun j hj=>by by_cases e:j=i;(subst e;exact hb);exact hQ j (by omega)) ?_) | (refine .z rfl ?_;refine ihA _ _ ?_ (fun j hj=>by by_cases e:j=i;(subst e;exact hb);exact hQ j (by omega)) ?_) | (refine .z rfl ?_;refine .z rfl ?_;refine ihA _ _ ?_ (fun j hj=>by by_cases e:j=i;(subst e;exact hb);exact hQ j (by omega)) ?_) | (refine .z rfl ?_;refine .z rfl ?_;refine .z rfl ?_;refine ihA _ _ ?_ (fun j hj=>by by_cases e:j=i;(subst e;exact hb);exact hQ j (by omega)) ?_)
      · simp (disch:=first|exact zb|fail) only [go_sem,seval,A]<;>(repeat' (first | rfl | refine And.intro ?_ ?_))
      · first | rfl | (simp (disch:=first|exact zb|fail) only [go_sem,seval,A]<;>(try rfl))
 · rw [if_neg e] at h;refine .qt rfl ?_;simp (disch:=first|exact zb|fail) only [go_sem,seval];refine CallK.of (fun R h=>zhE q hk7 _ R h) ?_;simp (disch:=first|exact zb|fail) only [go_sem,seval,e];refine .qT rfl ?_;refine .qt rfl ?_;simp (disch:=first|exact zb|fail) only [go_sem,seval];refine .qr rfl Tryz.func17 (by rw [Tryz.results17]) ?_;simp (disch:=first|exact zb|fail) only [go_sem,seval];exact h
end walks
end Go.Proofs.YthaoifcebimkfaaGreatDoor

namespace Go.Proofs.YthaoifcebimkfaaGreatDoor
open Go Go.AL

def qC:Qry:=⟨1,0,0,[[]]⟩
def qT:Qry:=⟨2,3,0,[[]]⟩
def qH:Qry:=⟨1,0,0,[[⟨2,8,15⟩]]⟩
def qB:Qry:=⟨9,0,0,[[]]⟩
def qE:Qry:=⟨4,1,0,[[]]⟩
def zCA:Gate:=⟨4,4,1#64,18446744069414584320#64,0#64,0#64⟩
theorem cqC:zK qC=(⟨29,[[⟨4,4,0#64,1#64,0#64,0#64⟩,zCA]],1⟩,0):=by decide +kernel
theorem cqT:zK qT=(⟨29,[[⟨4,3,1#64,0#64,0#64,0#64⟩,zCA]],1⟩,0):=by decide +kernel
theorem cqB:zK qB=(⟨0,[],0⟩,1):=by decide +kernel
theorem cqE:zK qE=(⟨0,[],0⟩,140):=by decide +kernel
def cH:Circ:=(zK qH).1
theorem cqH:zK qH=(cH,0):=Prod.ext rfl (by decide +kernel)
theorem zFx:cH.sums=1:=by decide +kernel
theorem zFy:cH.layers.length=4:=by decide +kernel
theorem zFz:(nth cH.layers 3).length=7:=by decide +kernel
theorem zE7:nth (nth cH.layers 0) 0=⟨4,20,1#64,0#64,0#64,0#64⟩:=by decide +kernel
theorem zE8:nth (nth cH.layers 3) 0=⟨0,0,0#64,1#64,0#64,0#64⟩:=by decide +kernel
theorem zE9:0 < (nth cH.layers 0).length:=by decide +kernel
theorem zFA:((((nth cH.layers 0).length:Nat):Int) == 0)=false:=by decide +kernel
theorem sm7:zhS qC [7#64]=([7],0):=by decide +kernel
theorem smB:zhS qC [4611686018427387905#64]=([],141):=by decide +kernel
theorem smN:zhS qC []=([],1):=by decide +kernel
def sSt:Strm:=⟨[⟨3,0,0,0⟩],[false]⟩
def cS:List (List U):=zdO sSt 1
theorem zFB:cS.length=29:=by decide +kernel
theorem zFC:nth cS 0=[3#64]:=by decide +kernel
theorem zFD:nth cS 4=[1#64]:=by decide +kernel
theorem zFE:nth cS 5=[1#64]:=by decide +kernel
theorem zFF:nth cS 6=[1#64]:=by decide +kernel
theorem zFG:nth cS 7=[0#64]:=by decide +kernel
theorem zFH:okS 1 sSt:=⟨by decide,rfl,fun r hr=>by
 rw [show sSt.l=[⟨3,0,0,0⟩] from rfl,List.mem_singleton] at hr
 subst hr;decide⟩
end Go.Proofs.YthaoifcebimkfaaGreatDoor

namespace Go.Proofs.YthaoifcebimkfaaGreatDoor
open Go Go.AL

section walks
variable {G:Globs} {r1:Nat} {m1:List (Int × Int)}
theorem mkq {a b c:Int}:(zx [.p (i64 a),.p (i64 b),.p (i64 c),.p (.sl true 1 [.sl false 3 []])]).weak = .p (qry ⟨a,b,c,[ [] ]⟩):=rfl
theorem znm {a b c:Int} {x:Cnd}:(zx [.p (i64 a),.p (i64 b),.p (i64 c),.p (.sl true 1 [.sl false 3 [cnd x]])]).weak = .p (qry ⟨a,b,c,[ [x] ]⟩):=rfl
theorem ACall.nil1 {P:Program} {G:Globs} {f:FuncId} {x:AV} {l:List AV} {H:Hp} {S:AV → Hp → Prop} (sz:Nat) (h:ACall P G f (x :: .p (.sl false sz []) :: l) H S):ACall P G f (x :: (AV.p (.s (.slice none 0 0))).weak :: l) H S:=by
 intro σ w vs hr ha;refine h σ w vs hr ⟨by simpa using ha.1,fun i y v hy hv => ?_⟩
 rcases i with _ | _ | i
 · exact ha.2 0 y v (by simpa using hy) hv
 · simp only [List.getElem?_cons_succ,List.getElem?_cons_zero,Option.some.injEq] at hy;subst hy
   have:=ha.2 1 _ v rfl hv
   cases this with | p h=>cases h;exact .p (.nil false sz)
 · exact ha.2 (i+2) y v (by simpa using hy) hv
theorem zqG (g:GW G r1 m1) (H:Hp):ACall Tryz.prog G 17 [.p (qry qC),(AV.p (.s (.slice none 0 0))).weak] H (fun r H'=>r = .tup [.p (.sl false 1 []),.p (i64 1)]∧H'=H) :=
 ACall.nil1 1 (zc6 g qC (by decide) (by decide) [] (by decide) H _ (by rw [smN];exact⟨rfl,rfl⟩))
theorem zFI:(zx [.p (.sl true 4 [rdg ⟨3,0,0,0⟩]),.p (.sl true 1 [bo false])]).weak = .p (stm sSt):=rfl
theorem zEv {x y:Gate}:(zx [.p (i64 29),.p (.sl true 1 [.sl false 6 [zG x,zG y] ]),.p (i64 1)]).weak = .p (zcv ⟨29,[ [x,y] ],1⟩):=rfl
theorem zrE {x y:Gate} (hx:okG x) (hy:okG y) : ∀ z∈(⟨29,[ [x,y] ],1⟩:Circ).layers,z.length≤1000000 ∧ ∀ g∈z,okG g:=by
 intro z hz;rw [List.mem_singleton] at hz;subst hz
 refine⟨by simp,fun g hg => ?_⟩
 rcases List.mem_cons.1 hg with rfl | hg
 · exact hx
 · rw [List.mem_singleton] at hg;subst hg;exact hy
theorem zbQ {l r:Int} {c a b d:U} (hl:0≤l∧l≤100) (hr:0≤r∧r≤100):okG ⟨l,r,c,a,b,d⟩:=by unfold okG;simp only;omega
theorem zjj {x:Gate} (h:okG x):zI Tryz.prog .eql 72 (.p (zG x)) (.p (zG x))=some (.p (bo true)):=by
 have:=(zj1 h h).1
 rwa [decide_eq_true rfl] at this
theorem znn (H:Hp) (R:AV → Hp → Prop) (h:R (.p (zh 18446744069414584320#64)) H):ACall Tryz.prog G 32 [.p (zh 1#64)] H R:=by
 refine ACall.of_run (raw:=[]) Tryz.func32 rfl Tryz.ntmps32 (by simp) fun hbel => ?_
 refine .qt rfl ?_;simp (disch:=first|exact zb|fail) only [go_sem,seval];refine .qt rfl ?_;simp (disch:=first|exact zb|fail) only [go_sem,seval];refine .qF rfl ?_;refine .skip ?_;refine .qt rfl ?_;simp (disch:=first|exact zb|fail) only [go_sem,seval];refine .qr rfl Tryz.func32 (by rw [Tryz.results32]) ?_;simp (disch:=first|exact zb|fail) only [go_sem,seval];exact h
set_option maxHeartbeats 64000000 in
set_option maxRecDepth 20000 in
theorem zno (g:GW G r1 m1) (H:Hp) (R:AV → Hp → Prop) (h:R (.p (bo true)) H):ACall Tryz.prog G 8 [] H R:=by
 refine ACall.of_run (raw:=[]) Tryz.func8 rfl Tryz.ntmps8 (by simp) fun hbel => ?_
 refine .qt rfl ?_;simp (disch:=first|exact zb|fail) only [go_sem,seval];refine .qt rfl ?_;simp (disch:=first|exact zb|fail) only [go_sem,seval];refine .qt rfl ?_;simp (disch:=first|exact zb|fail) only [go_sem,seval];refine CallK.of (fun R h=>znn _ R h) ?_;simp (disch:=first|exact zb|fail) only [go_sem,seval];refine .qt rfl ?_;simp (disch:=first|exact zb|fail) only [go_sem,seval];refine .qt rfl ?_;simp (disch:=first|exact zb|fail) only [go_sem,seval,mkq,znm];refine CallK.ex (za2 g qC (by decide) _) ?_
 rintro _ _ ⟨rfl,rfl⟩
 rw [cqC];simp (disch:=first|exact zb|fail) only [go_sem,seval];refine .qt rfl ?_;simp (disch:=first|exact zb|fail) only [go_sem,seval,mkq,znm];refine CallK.ex (za2 g qT (by decide) _) ?_
 rintro _ _ ⟨rfl,rfl⟩
 rw [cqT];simp (disch:=first|exact zb|fail) only [go_sem,seval];refine .qt rfl ?_;simp (disch:=first|exact zb|fail) only [go_sem,seval,mkq,znm];refine CallK.ex (za2 g qH (by decide) _) ?_
 rintro _ _ ⟨rfl,rfl⟩
 rw [cqH];simp (disch:=first|exact zb|fail) only [go_sem,seval];refine .qt rfl ?_;simp (disch:=first|exact zb|fail) only [go_sem,seval,mkq,znm];refine CallK.ex (za2 g qB (by decide) _) ?_
 rintro _ _ ⟨rfl,rfl⟩
 rw [cqB];simp (disch:=first|exact zb|fail) only [go_sem,seval];refine .qt rfl ?_;simp (disch:=first|exact zb|fail) only [go_sem,seval,mkq,znm];refine CallK.ex (za2 g qE (by decide) _) ?_
 rintro _ _ ⟨rfl,rfl⟩
 rw [cqE];simp (disch:=first|exact zb|fail) only [go_sem,seval]
 have hw1 : ∀ x:U,AV.p (PV.sl false 1 [zh x]) = .p (.sl false 1 (pl zh [x])):=fun _=>rfl
 have hw0:AV.p (PV.sl false 1 []) = .p (.sl false 1 (pl zh [])):=rfl;refine .qt rfl ?_;simp (disch:=first|exact zb|fail) only [go_sem,seval,mkq,znm];refine CallK.of (fun R h=>zc6 g qC (by decide) (by decide) [7#64] (by decide) _ R h) ?_;simp (disch:=first|exact zb|fail) only [go_sem,seval,sm7];refine .qt rfl ?_;simp (disch:=first|exact zb|fail) only [go_sem,seval,mkq,znm];refine CallK.of (fun R h=>zc6 g qC (by decide) (by decide) [4611686018427387905#64] (by decide) _ R h) ?_;simp (disch:=first|exact zb|fail) only [go_sem,seval,smB];refine .qt rfl ?_;simp (disch:=first|exact zb|fail) only [go_sem,seval,mkq,znm];refine CallK.ex (zqG g _) ?_
 rintro _ _ ⟨rfl,rfl⟩
 simp (disch:=first|exact zb|fail) only [go_sem,seval];refine .qt rfl ?_;simp (disch:=first|exact zb|fail) only [go_sem,seval,zFI];refine CallK.of (fun R h=>zek sSt 1 zFH 0 1 (by decide) rfl (by decide) _ R h) ?_;simp (disch:=first|exact zb|fail) only [go_sem,seval];have hcS:zdO sSt 1=cS:=rfl;rw [hcS];have f0:=zE9;have f1:=zFy;have f2:=zFz;have f3:=zFB;have f4:=zFA;refine .qt rfl ?_;simp (disch:=first|exact zb|fail) only [go_sem,seval,zaq,f1,f2,f3,f4];refine .qF rfl ?_;refine .skip ?_;have f5:=zE7;have f6:=zE8;have f7:=zFx;have c0:=zFC;have c4:=zFD;have c5:=zFE;have c6:=zFF;have c7:=zFG;have g1:=zjj (x:=⟨4,20,1#64,0#64,0#64,0#64⟩) (zbQ (by omega) (by omega));have g2:=zjj (x:=⟨0,0,0#64,1#64,0#64,0#64⟩) (zbQ (by omega) (by omega));refine .qt rfl ?_;simp (disch:=first|exact zb|fail) only [go_sem,seval,List.append_eq,zaq,zEv];refine CallK.of (fun R h=>zc5 ⟨29,[ [⟨4,4,0#64,1#64,0#64,0#64⟩,zCA] ],1⟩ (by decide) (zrE (zbQ (by omega) (by omega)) (zbQ (by omega) (by omega))) _ R h) ?_;simp (disch:=first|exact zb|fail) only [go_sem,seval,List.append_eq,zaq,zEv];refine CallK.of (fun R h=>zc5 ⟨29,[ [⟨4,3,1#64,0#64,0#64,0#64⟩,zCA] ],1⟩ (by decide) (zrE (zbQ (by omega) (by omega)) (zbQ (by omega) (by omega))) _ R h) ?_;simp (disch:=first|exact zb|fail) only [go_sem,seval,List.append_eq,zaq,zas,zEv,f1,f2,f3,f4,f5,f6,f7,c0,c4,c5,c6,c7,g1,g2];have h7:AV.p (PV.sl false 1 [i64 7]) = .p (.sl false 1 (pl i64 [7])):=rfl;refine CallK.of (fun R h=>zhM [7] (by decide) _ R h) ?_;simp (disch:=first|exact zb|fail) only [go_sem,seval,List.append_eq,zaq,zas,f1,f2,f3,f4,f5,f6,f7,c0,c4,c5,c6,c7,g1,g2]
 have b3:(nth [3#64] 0 == 3#64)=true:=by decide
 have b1:(nth [1#64] 0 == 1#64)=true:=by decide
 have b0:(nth [0#64] 0 == 0#64)=true:=by decide
 refine CallK.of (fun R h=>znk _ R h) ?_;simp (disch:=first|exact zb|fail) only [go_sem,seval,List.append_eq,zaq,zas,f1,f2,f3,f4,f5,f6,f7,c0,c4,c5,c6,c7,g1,g2,b0,b1,b3];refine .qr rfl Tryz.func8 (by rw [Tryz.results8]) ?_;simp (disch:=first|exact zb|fail) only [go_sem,seval];exact h
end walks
end Go.Proofs.YthaoifcebimkfaaGreatDoor

namespace Go.Proofs.YthaoifcebimkfaaGreatDoor
open Go Go.AL

theorem zhT {s:List Nd} (hw:Wf s) (hC:SmC s) {o:List Nat} (ho : ∀ x∈o,x < 29+s.length) : ∀ i,i≤o.length → LOk s [] (depth s o) (yn s (depth s o) o ⟨[],List.replicate (depth s o) []⟩ i).2
 | 0,_=>LOk.none s _
 | i+1,hi=>by
  have hm:nth o i∈o:=by rw [zg (by omega)];exact List.getElem_mem _
  exact (zbg hw hC.fv zcx _ _ _ (zhT hw hC ho i (by omega)) (Nat.le_refl _) (ho _ hm) (zbu hm)).1
theorem znp {a b:Int} (h:a≤b) {g:Gate} (hg:opG a g):opG b g:=⟨hg.1,by have:=hg.2.1;omega,hg.2.2.1,by have:=hg.2.2.2;omega⟩
theorem zrF {s:List Nd} {d:Nat} {st:LS} (h:Cov s d st) (k:Nat):zft st.ls k≤29+s.length:=by
 unfold zft
 split
 · omega
 · exact h.le _
theorem znq {s:List Nd} (hw:Wf s) (hC:SmC s) {o:List Nat} (ho : ∀ x∈o,x < 29+s.length) (hd:0 < depth s o) :
 ∀ i,i≤o.length → ∀ g∈(yn s (depth s o) o ⟨[],List.replicate (depth s o) []⟩ i).1,opG (29+s.length:Nat) g
 | 0,_,g,hg=>by simp [yn] at hg
 | i+1,hi,g,hg=>by
  have hm:nth o i∈o:=by rw [zg (by omega)];exact List.getElem_mem _
  have h0:=zhT hw hC ho i (by omega)
  obtain⟨w1,w2,w3,w4,w5⟩:=zbg hw hC.fv zcx _ _ _ h0 (Nat.le_refl _) (ho _ hm) (zbu hm)
  have hcov:=(zaA hw (depth s o) (nth o i) _ (zcN hw ho i (by omega)) (Nat.le_refl _) (ho _ hm)).1;simp only [yn,List.mem_append,List.mem_singleton] at hg
  rcases hg with hg | rfl
  · exact znq hw hC ho hd i (by omega) g hg
  · rw [zft,if_neg (by omega)] at w3;refine znp ?_ (w1.op (depth s o - 1) _ w3);exact Int.ofNat_le.2 (zrF hcov _)
theorem zAj {s:List Nd} (hw:Wf s) (hC:SmC s) {o:List Nat} (ho : ∀ x∈o,x < 29+s.length) (hd:0 < depth s o) : ∀ x∈zbr s o,∀ g∈x,opG (29+s.length:Nat) g:=by
 intro x hx g hg;unfold zbr at hx;dsimp only at hx
 rcases List.mem_or_eq_of_mem_set hx with e | e
 · obtain⟨k,hk,rfl⟩:=List.getElem_of_mem e
   obtain⟨j,hj,rfl⟩:=List.getElem_of_mem hg
   have hc:=zcN (d:=depth s o) hw ho o.length (Nat.le_refl _);have hop:=(zhT hw hC ho o.length (Nat.le_refl _)).op k j (by rw [zg hk];exact hj);rw [zg hk,zg hj] at hop;exact znp (Int.ofNat_le.2 (zrF hc _)) hop
 · rw [e] at hg;exact znq hw hC ho hd o.length (Nat.le_refl _) g hg
theorem zvN {q:Qry} (hW:Wf (zaL q).2.2) (hv:vQ q=true):0 < depth (zaL q).2.2 ((zaL q).1++(zaL q).2.1):=by
 have p1:=(zgv hv).1;have hm:(chk (zw q []).2 4).1∈(zaL q).1++(zaL q).2.1:=List.mem_append_right _ (zcO (q:=q) (s:=(zw q []).2) 4)
 have h29:29≤(chk (zw q []).2 4).1:=by unfold chk;rw [zay];omega
 have h0:0 < lev (zaL q).2.2 (chk (zw q []).2 4).1:=by
  refine Nat.pos_of_ne_zero fun h0 => ?_
  have:=zdE hW (p1 _ hm) h0
  omega
 have:=zbu (s:=(zaL q).2.2) hm
 omega
theorem zFa {q:Qry} (he:y7 q=0):vQ q=true:=by
 unfold y7 at he;split at he
 · assumption
 · cases he
theorem zAk {q:Qry} (hW:y7 q=0 → Wf (zaL q).2.2):(zK q).1.layers.length≤1000000 ∧ ∀ x∈(zK q).1.layers,x.length≤1000000 ∧ ∀ g∈x,okG g:=by
 unfold zK;by_cases he:y7 q=0
 · rw [if_pos he];have hv:=zFa he;have hw:=hW he
   obtain⟨p1,p2,p3,p4,p5⟩:=zgv hv
   by_cases hb:zig (zy7 q)=true
   · rw [if_pos hb];exact⟨Nat.zero_le _,fun x hx=>by cases hx⟩
   · rw [if_neg hb];have hd:=zvN hw hv
     have hdl:depth (zaL q).2.2 ((zaL q).1++(zaL q).2.1)≤1000:=zdL fun x hx=>by have:=p1 x hx;have:=zbB hw x this;omega
     refine⟨?_,fun x hx=>⟨?_,fun g hg => ?_⟩⟩
     · show (zy7 q).length≤_
       unfold zy7;rw [zfD hw p1];omega
     · have:=zhH hw p1 (m:=1000) (by omega) (by omega) x hx
       omega
     · obtain⟨a1,a2,a3,a4⟩:=zAj hw (zqe q) p1 hd x hx g hg
       unfold okG;omega
 · rw [if_neg he];exact⟨Nat.zero_le _,fun x hx=>by cases hx⟩
end Go.Proofs.YthaoifcebimkfaaGreatDoor

namespace Go.Proofs.YthaoifcebimkfaaGreatDoor
open Go Go.AL

def zdR (s:Strm) (k:Int):List (List U) × Int:=if zcf s k=0 then (zdO s (2 ^ k.toNat),0) else ([],zcf s k)
def i8 (z:Int):PV := .s (.int .i8 z)
theorem zjk {s:Strm} {n:Nat} : ∀ c,∀ x∈yH s n c,x.length=n
 | 0,x,hx=>by cases hx
 | c+1,x,hx=>by
  rcases List.mem_append.1 hx with e | e
  · exact zjk c x e
  · obtain⟨b,_,rfl⟩:=List.mem_map.1 e
    simp [zci]
theorem zAl {s:Strm} {n:Nat} : ∀ x∈zdO s n,x.length=n:=fun x hx=>by
 rcases List.mem_append.1 hx with e | e
 · obtain⟨c,_,rfl⟩:=List.mem_map.1 e
   simp [zce]
 · exact zjk 4 x e
section walks
variable {G:Globs} {r1:Nat} {m1:List (Int × Int)}
theorem zhU (g:GW G r1 m1) (q:Qry) (hk:okI q.kind) (H:Hp):ACall Tryz.prog G 10 [.p (qry q)] H (fun r H'=>(r = .tup [.p (zcv (zK q).1),.p (i64 (zK q).2)]∧((zK q).1.layers.length≤1000000 ∧ ∀ x∈(zK q).1.layers,x.length≤1000000 ∧ ∀ g∈x,okG g))∧H'=H) :=
 (zee g q hk H).mono fun r H' h=>⟨⟨h.1.1,zAk h.1.2⟩,h.2⟩
theorem znr (q:Qry) (hl:q.fl.length≤4) (H:Hp):ACall Tryz.prog G 13 [.p (qry q)] H (fun r H'=>(∃ p,vQ p=true∧y7 p=0∧r = .p (qry p))∧H'=H):=znf q hl H _ fun p h1 h2=>⟨⟨p,h1,h2,rfl⟩,rfl⟩
theorem zqH (l:List SOp) (m:Nat) (hm:m≤1000) (hl:l.length≤9223372036854775807) (H:Hp):ACall Tryz.prog G 14 [.p (.sl false 4 (pl sop l)),.p (i64 m)] H (fun r H'=>(∃ s,okS m s∧r = .p (stm s))∧H'=H):=zqv l m hm hl H _ fun s hs=>⟨⟨s,hs,rfl⟩,rfl⟩
set_option maxHeartbeats 64000000 in
set_option maxRecDepth 20000 in
theorem zvO (g:GW G r1 m1) (q:Qry) (hq:okI q.kind) (l:List SOp) (hl:l.length≤9223372036854775807) (z:Int) (hz : -128≤z∧z≤127) (v:List U) (hvl:v.length≤9223372036854775807) (H:Hp) (R:AV → Hp → Prop) (h:R (.p (bo true)) H) :
 ACall Tryz.prog G 3 [.p (qry q),.p (.sl false 4 (pl sop l)),.p (i8 z),.p (.sl false 1 (pl zh v))] H R:=by
 have hcv : ∀ B,zck Tryz.prog B 26 3 (.p (i8 z))=some (.p (i64 z)):=fun B=>by
  have:zck Tryz.prog B 26 3 (.p (i8 z))=some (.p (i64 (IntKind.i64.wrap z))):=rfl
  rw [this,zdY (by omega) (by omega)]
 refine ACall.of_run (raw:=[]) Tryz.func3 rfl Tryz.ntmps3 (by simp) fun hbel => ?_
 refine .qt rfl ?_;simp (disch:=first|exact zb|fail) only [go_sem,seval];refine .qt rfl ?_;simp (disch:=first|exact zb|fail) only [go_sem,seval];refine CallK.of (fun R h=>zno g _ R h) ?_;simp (disch:=first|exact zb|fail) only [go_sem,seval]
 cases hb:zkv q with
 | true =>
  refine .qt rfl ?_;simp (disch:=first|exact zb|fail) only [go_sem,seval];refine CallK.of (fun R h=>zhN q _ R h) ?_;simp (disch:=first|exact zb|fail) only [go_sem,seval,hb];refine .qT rfl ?_;refine .qt rfl ?_;simp (disch:=first|exact zb|fail) only [go_sem,seval];refine .qr rfl Tryz.func3 (by rw [Tryz.results3]) ?_;simp (disch:=first|exact zb|fail) only [go_sem,seval];exact h
 | false =>
 rcases Classical.em (v.length≤40) with hv | hv
 · have hfl:q.fl.length≤4:=by
    unfold zkv at hb;simp only [Bool.or_eq_false_iff,decide_eq_false_iff_not] at hb;omega
   refine .qt rfl ?_;simp (disch:=first|exact zb|fail) only [go_sem,seval];refine CallK.of (fun R h=>zhN q _ R h) ?_;simp (disch:=first|exact zb|fail) only [go_sem,seval,hb];refine .qF rfl ?_;refine .skip ?_;refine .qt rfl ?_;simp (disch:=first|exact zb|fail) only [go_sem,seval];refine CallK.ex (zhU g q hq _) ?_
   rintro _ _ ⟨⟨rfl,hok⟩,rfl⟩
   simp (disch:=first|exact zb|fail) only [go_sem,seval];refine .qt rfl ?_;simp (disch:=first|exact zb|fail) only [go_sem,seval];refine CallK.ex (zeh q hq _) ?_
   rintro _ _ ⟨rfl,rfl⟩
   simp (disch:=first|exact zb|fail) only [go_sem,seval];refine .qt rfl ?_;simp (disch:=first|exact zb|fail) only [go_sem,seval];refine CallK.of (fun R h=>zc5 _ hok.1 hok.2 _ R h) ?_;simp (disch:=first|exact zb|fail) only [go_sem,seval];refine .qF rfl ?_;refine .skip ?_;refine .qt rfl ?_;simp (disch:=first|exact zb|fail) only [go_sem,seval];refine CallK.ex (znr q hfl _) ?_
   rintro _ _ ⟨⟨p,hp,he,rfl⟩,rfl⟩
   have hpk:okI p.kind:=by
    have hq:=hp;simp only [vQ,Bool.and_eq_true,decide_eq_true_eq] at hq
    have:=hq.1
    unfold okI;omega
   simp (disch:=first|exact zb|fail) only [go_sem,seval];refine .qt rfl ?_;simp (disch:=first|exact zb|fail) only [go_sem,seval];refine CallK.ex (zhU g p hpk _) ?_
   rintro _ _ ⟨⟨rfl,hok2⟩,rfl⟩
   simp (disch:=first|exact zb|fail) only [go_sem,seval];refine .qt rfl ?_;simp (disch:=first|exact zb|fail) only [go_sem,seval];refine CallK.ex (zeh p hpk _) ?_
   rintro _ _ ⟨rfl,rfl⟩
   simp (disch:=first|exact zb|fail) only [go_sem,seval]
   obtain⟨X,hX⟩ : ∃ X,X=((((((H.new (.cells [.p (i64 q.kind),.p (i64 q.col),.p (i64 q.k),.p (.sl false 1 (pl yt q.fl))])).new (.cells [.p (i64 (zK q).1.inputs),.p (.sl false 1 (pl (yu 6 zG) (zK q).1.layers)),.p (i64 (zK q).1.sums)])).new (.cells [.p (i64 (zK q).1.inputs),.p (.sl false 1 (pl (yu 6 zG) (zK q).1.layers)),.p (i64 (zK q).1.sums)])).new (.cells [.p (i64 p.kind),.p (i64 p.col),.p (i64 p.k),.p (.sl false 1 (pl yt p.fl))])).new (.cells [.p (i64 (zK p).1.inputs),.p (.sl false 1 (pl (yu 6 zG) (zK p).1.layers)),.p (i64 (zK p).1.sums)])).new (.cells [.p (i64 (zK p).1.inputs),.p (.sl false 1 (pl (yu 6 zG) (zK p).1.layers)),.p (i64 (zK p).1.sums)])):=⟨_,rfl⟩
   have hXn:X.n=H.n+6:=by rw [hX];simp only [n_new']
   have hX3:X.f (H.n+3)=some (.cells [.p (i64 p.kind),.p (i64 p.col),.p (i64 p.k),.p (.sl false 1 (pl yt p.fl))]):=by rw [hX];simp (disch:=first|exact zb|fail) only [go_sem,seval]
   have hX4:X.f (H.n+4)=some (.cells [.p (i64 (zK p).1.inputs),.p (.sl false 1 (pl (yu 6 zG) (zK p).1.layers)),.p (i64 (zK p).1.sums)]):=by rw [hX];simp (disch:=first|exact zb|fail) only [go_sem,seval]
   have hX5:X.f (H.n+5)=some (.cells [.p (i64 (zK p).1.inputs),.p (.sl false 1 (pl (yu 6 zG) (zK p).1.layers)),.p (i64 (zK p).1.sums)]):=by rw [hX];simp (disch:=first|exact zb|fail) only [go_sem,seval]
   have hXL:LowE H X:=by rw [hX];exact ((((((LowE.new _).trans (.new _)).trans (.new _)).trans (.new _)).trans (.new _)).trans (.new _))
   rw [←hX]
   clear hX
   refine .qt rfl ?_;simp (disch:=first|exact zb|fail) only [go_sem,seval,hcv];refine .q ?_;refine .cut2 (fun env2 H2 => ∃ k:Int,(k≤5 ∨ 16 < k)∧env2 1 = .p (.sl false 4 (pl sop l))∧env2 3 = .p (.sl false 1 (pl zh v))∧env2 9 = .p (bo true)∧env2 14 = .ptr (H.n+3) 0∧env2 15 = .ptr (H.n+4) 0∧env2 16 = .p (i64 (zK p).2)∧env2 17 = .ptr (H.n+5) 0∧env2 18 = .p (i64 (zK p).2)∧env2 19 = .p (i64 k)∧H2=X) (fun ih => ?_) ?_
   · rcases Classical.em (5 < z) with z1 | z1
     · rcases Classical.em (z≤16) with z2 | z2
       · refine .qt rfl ?_;simp (disch:=first|exact zb|fail) only [go_sem,seval];refine .qT rfl ?_;refine .qt rfl ?_;simp (disch:=first|exact zb|fail) only [go_sem,seval];refine ih _ _ ⟨5,by omega,?_,?_,?_,?_,?_,?_,?_,?_,?_,rfl⟩<;>simp (disch:=first|exact zb|fail) only [go_sem,seval]
       · refine .qt rfl ?_;simp (disch:=first|exact zb|fail) only [go_sem,seval];refine .qF rfl ?_;refine .skip ?_;refine ih _ _ ⟨z,by omega,?_,?_,?_,?_,?_,?_,?_,?_,?_,rfl⟩<;>simp (disch:=first|exact zb|fail) only [go_sem,seval]
     · refine .qt rfl ?_;simp (disch:=first|exact zb|fail) only [go_sem,seval];refine .qF rfl ?_;refine .skip ?_;refine ih _ _ ⟨z,by omega,?_,?_,?_,?_,?_,?_,?_,?_,?_,rfl⟩<;>simp (disch:=first|exact zb|fail) only [go_sem,seval]
   rintro env Y0 ⟨k,hk,e1,e3,e9,e14,e15,e16,e17,e18,e19,hY0⟩
   rw [hY0]
   clear hY0
   refine .qt rfl ?_;simp (disch:=first|exact zb|fail) only [go_sem,seval,e1];refine CallK.ex (zqH l 20 (by omega) hl _) ?_
   rintro _ H1 ⟨⟨s,hs,rfl⟩,hH1⟩
   rw [hH1]
   clear hH1
   simp (disch:=first|exact zb|fail) only [go_sem,seval];rw [hXn];have hsl:=hs.len;have hXS:(X.new (.cells [.p (.sl false 4 (pl rdg s.l)),.p (.sl false 1 (pl bo s.gone))])).f (H.n+6)=some (.cells [.p (.sl false 4 (pl rdg s.l)),.p (.sl false 1 (pl bo s.gone))]):=zm hXn.symm;have hXSL:LowE X (X.new (.cells [.p (.sl false 4 (pl rdg s.l)),.p (.sl false 1 (pl bo s.gone))])) := .new _
   have hXSn:(X.new (.cells [.p (.sl false 4 (pl rdg s.l)),.p (.sl false 1 (pl bo s.gone))])).n=H.n+7:=by rw [n_new',hXn]
   generalize X.new (.cells [.p (.sl false 4 (pl rdg s.l)),.p (.sl false 1 (pl bo s.gone))])=Z at *
   have hok0:zcf s k=0 → ∃ kn:Nat,k=kn∧kn≤5∧s.l.length≤2 ^ kn:=fun he=>by
    unfold zcf at he;split at he
    · cases he
    · rename_i h0
      obtain⟨kn,rfl⟩ : ∃ kn:Nat,k=kn:=⟨k.toNat,by omega⟩
      rw [Int.toNat_natCast] at he;split at he
      · cases he
      · exact⟨kn,rfl,by omega,by omega⟩
   refine .q ?_;refine .cut (fun env2 H2=>env2 3 = .p (.sl false 1 (pl zh v))∧env2 9 = .p (bo true)∧env2 14 = .ptr (H.n+3) 0∧env2 15 = .ptr (H.n+4) 0∧env2 16 = .p (i64 (zK p).2)∧env2 17 = .ptr (H.n+5) 0∧env2 18 = .p (i64 (zK p).2)∧env2 19 = .p (i64 k)∧env2 20 = .ptr (H.n+6) 0∧env2 21 = .p (.sl false 1 (pl (yu 1 zh) (zdR s k).1))∧env2 22 = .p (i64 (zdR s k).2)∧H2=Z) (fun ih => ?_) ?_
   · by_cases hee:zcf s k=0
     · obtain⟨kn,rfl,hk5,hln⟩:=hok0 hee
       have hc:zdR s kn=(zdO s (2 ^ kn),0):=by unfold zdR;rw [if_pos hee,Int.toNat_natCast]
       rw [hc] at ih;refine .qt rfl ?_;simp (disch:=first|exact zb|fail) only [go_sem,seval,e19,hXS];refine CallK.of (fun R h=>zek s 20 hs kn (2 ^ kn) hk5 rfl hln _ R h) ?_;simp (disch:=first|exact zb|fail) only [go_sem,seval];refine ih _ _ ⟨?_,?_,?_,?_,?_,?_,?_,?_,?_,?_,?_,rfl⟩<;>simp (disch:=first|exact zb|fail) only [go_sem,seval,e3,e9,e14,e15,e16,e17,e18,e19]
     · have hc:zdR s k=([],zcf s k):=by unfold zdR;rw [if_neg hee]
       rw [hc] at ih;refine .qt rfl ?_;simp (disch:=first|exact zb|fail) only [go_sem,seval,e19,hXS];refine CallK.of (fun R h=>zkC s 20 hs k hk hee _ R h) ?_;simp (disch:=first|exact zb|fail) only [go_sem,seval];refine ih _ _ ⟨?_,?_,?_,?_,?_,?_,?_,?_,?_,?_,?_,rfl⟩<;>simp (disch:=first|exact zb|fail) only [go_sem,seval,e3,e9,e14,e15,e16,e17,e18,e19,za8]
   rintro env Y1 ⟨e3,e9,e14,e15,e16,e17,e18,e19,e20,e21,e22,hY1⟩
   rw [hY1]
   clear hY1
   refine .q ?_;refine .cut (fun env2 H2=>env2 3 = .p (.sl false 1 (pl zh v))∧env2 9 = .p (bo true)∧env2 14 = .ptr (H.n+3) 0∧env2 15 = .ptr (H.n+4) 0∧env2 16 = .p (i64 (zK p).2)∧env2 17 = .ptr (H.n+5) 0∧env2 18 = .p (i64 (zK p).2)∧env2 21 = .p (.sl false 1 (pl (yu 1 zh) (zdR s k).1))∧env2 22 = .p (i64 (zdR s k).2)∧env2 23 = .p (.sl false 1 (pl (yu 1 zh) (zdR s k).1))∧env2 24 = .p (i64 (zdR s k).2)∧LowE Z H2) (fun ih => ?_) ?_
   · by_cases hee:zcf s k=0
     · obtain⟨kn,rfl,hk5,hln⟩:=hok0 hee
       have hc:zdR s kn=(zdO s (2 ^ kn),0):=by unfold zdR;rw [if_pos hee,Int.toNat_natCast]
       rw [hc] at ih e21 e22;refine .qt rfl ?_;simp (disch:=first|exact zb|fail) only [go_sem,seval,e19,e20,hXS];refine CallK.ex (zhO s 20 hs kn (2 ^ kn) hk5 rfl hln _) ?_
       rintro _ V ⟨α,rfl,hα,hαn,hV⟩
       have h29:(zdO s (2 ^ kn)).length=29:=by unfold zdO;rw [List.length_append,zaK];simp [zN];rfl
       simp (disch:=first|exact zb|fail) only [go_sem,seval,h29];refine .frzV 23 (b:=α) (len:=29) (sz:=1) (xs:=pl (yu 1 zh) (zdO s (2 ^ kn))) (cs:=cl (yu 1 zh) (zdO s (2 ^ kn))) (by simp (disch:=first|exact zb|fail) only [go_sem,seval]) (by rw [hα];rfl) (by rw [ze2,zsO]) (by rw [zct,h29]) zng ?_;refine ih _ _ ⟨?_,?_,?_,?_,?_,?_,?_,?_,?_,?_,?_,hV.set _ (by omega)⟩<;>simp (disch:=first|exact zb|fail) only [go_sem,seval,e3,e9,e14,e15,e16,e17,e18,e21,e22]
     · have hc:zdR s k=([],zcf s k):=by unfold zdR;rw [if_neg hee]
       rw [hc] at ih e21 e22;refine .qt rfl ?_;simp (disch:=first|exact zb|fail) only [go_sem,seval,e19,e20,hXS];refine CallK.of (fun R h=>zit s 20 hs k hk hee _ R h) ?_;simp (disch:=first|exact zb|fail) only [go_sem,seval];refine ih _ _ ⟨?_,?_,?_,?_,?_,?_,?_,?_,?_,?_,?_,.refl⟩<;>simp (disch:=first|exact zb|fail) only [go_sem,seval,e3,e9,e14,e15,e16,e17,e18,e21,e22,za8]
   rintro env Y ⟨e3,e9,e14,e15,e16,e17,e18,e21,e22,e23,e24,hY⟩
   have hYL:LowE H Y:=(hXL.trans hXSL).trans hY;have hY3:=(hY.f (H.n+3) (by omega)).trans ((hXSL.f (H.n+3) (by omega)).trans hX3);have hY4:=(hY.f (H.n+4) (by omega)).trans ((hXSL.f (H.n+4) (by omega)).trans hX4);have hY5:=(hY.f (H.n+5) (by omega)).trans ((hXSL.f (H.n+5) (by omega)).trans hX5);refine .qt rfl ?_;simp (disch:=first|exact zb|fail) only [go_sem,seval,e14,e3,hY3];refine CallK.of (fun R h=>zc6 g p hp he v (by omega) _ R h) ?_;simp (disch:=first|exact zb|fail) only [go_sem,seval];refine .qt rfl ?_;simp (disch:=first|exact zb|fail) only [go_sem,seval,e14,e3,hY3];refine CallK.of (fun R h=>zqF p hp he v (by omega) _ R h) ?_;simp (disch:=first|exact zb|fail) only [go_sem,seval]
   have hcr:(zdR s k).1.length≤1000000 ∧ ∀ x∈(zdR s k).1,x.length≤1000000:=by
    unfold zdR
    split
    · rename_i hee
      obtain⟨kn,rfl,hk5,hln⟩:=hok0 hee
      have h32:2 ^ kn≤2 ^ 5:=Nat.pow_le_pow_right (by decide) hk5;rw [Int.toNat_natCast]
      refine⟨?_,fun x hx => ?_⟩
      · simp [zdO,zN,zaK,wdT,yf]
      · have hxn:=zAl x hx;omega
    · exact⟨Nat.zero_le _,fun x hx=>by cases hx⟩
   have hsm:(zhS p v).1.length≤1000000:=by
    unfold zhS
    split
    · split
      · exact Nat.zero_le _
      · simp;omega
    · exact Nat.zero_le _
   have hbel:Bel H.n Y:=hYL.bel hbel;refine .qt rfl ?_;simp (disch:=first|exact zb|fail) only [go_sem,seval,e9,e15,e16,e17,e18,e21,e22,e23,e24,hY4,hY5];refine CallK.of (fun R h=>zc5 _ hok2.1 hok2.2 _ R h) ?_;simp (disch:=first|exact zb|fail) only [go_sem,seval,e9,e15,e16,e17,e18,e21,e22,e23,e24,hY4,hY5];refine CallK.of (fun R h=>zqo _ _ hcr.1 hcr.2 _ R h) ?_;simp (disch:=first|exact zb|fail) only [go_sem,seval,e9,e15,e16,e17,e18,e21,e22,e23,e24,hY4,hY5];refine CallK.of (fun R h=>zhM _ hsm _ R h) ?_;simp (disch:=first|exact zb|fail) only [go_sem,seval,e9,e15,e16,e17,e18,e21,e22,e23,e24,hY4,hY5];refine .qr rfl Tryz.func3 (by rw [Tryz.results3]) ?_;simp (disch:=first|exact zb|fail) only [go_sem,seval];rw [hYL.back];exact h
 · refine .qt rfl ?_;simp (disch:=first|exact zb|fail) only [go_sem,seval];refine CallK.of (fun R h=>zhN q _ R h) ?_;simp (disch:=first|exact zb|fail) only [go_sem,seval,hb];refine .qT rfl ?_;refine .qt rfl ?_;simp (disch:=first|exact zb|fail) only [go_sem,seval];refine .qr rfl Tryz.func3 (by rw [Tryz.results3]) ?_;simp (disch:=first|exact zb|fail) only [go_sem,seval];exact h
end walks
end Go.Proofs.YthaoifcebimkfaaGreatDoor

namespace Go.Proofs.YthaoifcebimkfaaGreatDoor
open Go Go.AL Go.WideElems

section maps
variable {H:Type} {enc:TypeId × Value → H} {P:Program} {W:World} {sp:Nat → Bool} {held:Bool} {t k e:TypeId} {α:Type}
theorem insert_perm {x:Lit × DataW H} : ∀ l,(DataW.insert x l).Perm (x :: l)
 | [] => .refl _
 | y :: r=>by
  unfold DataW.insert
  split
  · exact .refl _
  · exact ((insert_perm r).cons y).trans (.swap x y r)
theorem sorted_perm : ∀ l:List (Lit × DataW H),(l.foldr DataW.insert []).Perm l
 | [] => .refl _
 | x :: l=>(insert_perm _).trans ((sorted_perm l).cons x)
theorem zns {κ α:Type} [DecidableEq κ] {T:κ → Option α} {k:κ} : ∀ {m:List (κ × α)},(∀ p∈m,T p.1=some p.2) → (∀ v,T k=some v → ∃ p∈m,p.1=k) → zL k m=T k
 | [],_,h2=>by
  cases e:T k with
  | none=>rfl
  | some v=>obtain⟨p,hp,_⟩:=h2 v e;cases hp
 | (a,x) :: m,h1,h2=>by
  unfold zL
  split
  · rename_i h;subst h;exact (h1 _ (List.mem_cons_self ..)).symm
  · rename_i h
    exact zns (fun p hp=>h1 p (List.mem_cons_of_mem _ hp)) fun v hv=>by
     obtain⟨p,hp,hk⟩:=h2 v hv
     rcases List.mem_cons.1 hp with rfl | hp
     · exact absurd hk h
     · exact⟨p,hp,hk⟩
theorem zfZ {α β:Type} {Q:α → β → Prop} : ∀ {l:List α},(∀ x∈l,∃ y,Q x y) → ∃ m:List β,m.length=l.length ∧ ∀ (j:Nat) x y,l[j]? = some x → m[j]? = some y → Q x y
 | [],_=>⟨[],rfl,fun j x y h=>by simp at h⟩
 | a :: l,h=>by
  obtain⟨y,hy⟩:=h a (List.mem_cons_self ..)
  obtain⟨m,hm,hq⟩:=zfZ (l:=l) fun x hx=>h x (List.mem_cons_of_mem _ hx)
  refine⟨y :: m,by simp [hm],fun j => ?_⟩
  cases j with
  | zero=>intro x z h1 h2;simp at h1 h2;subst h1 h2;exact hy
  | succ j=>intro x z h1 h2;simp at h1 h2;exact hq j x z h1 h2
theorem zCB (hk:P.underlying k=some (.int .i64)) {v:Value} {kl:Lit} (h:keyOf P k v=some kl) : ∃ z,v=iev z∧kl = .int .i64 z∧okI z:=by
 unfold keyOf at h;rw [hk] at h;unfold mapKey at h;rw [hk] at h
 cases v with
 | int q n =>
  simp only at h;split at h
  · rename_i hc
    obtain⟨rfl,hw⟩:=hc
    cases h;simp only [Lit.wf,Bool.and_eq_true,decide_eq_true_eq] at hw
    exact⟨n,rfl,rfl,hw⟩
  · cases h
 | _=>cases h
theorem zCC (ht:P.underlying t=some (.map k e)) (hk:P.underlying k=some (.int .i64)) {fuel:Nat} {cs:List Value} {L:List (Lit × DataW H)} {p:List MemPlace} (h:DataW.trod enc P W 0 sp held fuel t cs=some (.map L,p)) (T:Int → Option α) (f:α → AV)
 (hbel : ∀ v n,BelowN n (f v))
 (hL : ∀ (n:Nat) kk d,(kk,d)∈L → ∀ v q,elemAt enc P W 0 sp held n e v=some (d,q) → ∃ z x,kk = .int .i64 z∧T z=some x∧RelV σ0 H0 W (f x) v)
 (hT : ∀ z x,T z=some x → ∃ d,(Lit.int .i64 z,d)∈L) :
 ∃ b m,cs=[.map (some b)]∧GMap σ0 H0 W b (tm iev f m)∧(∀ q∈m,okI q.1) ∧ ∀ z,zL z m=T z:=by
 rcases open_map ht h with ⟨_,hx⟩ | ⟨b,es,clock,n,_,hcs,hb,_,F,hx⟩
 · cases hx
 · obtain⟨s1,s2,s3⟩:=F.stamped
   have hLe:L=(es.toList.map (rg P k (elemAt enc P W 0 sp held n e))).foldr DataW.insert []:=by
    have:=congrArg Prod.fst hx
    simpa using this
   have hperm:=sorted_perm (es.toList.map (rg P k (elemAt enc P W 0 sp held n e)));rw [←hLe] at hperm
   obtain⟨m,hm,hq⟩:=zfZ (Q:=fun (x:MapEntry) (q:Int × α)=>x.key=iev q.1∧okI q.1∧T q.1=some q.2∧RelV σ0 H0 W (f q.2) x.val∧(rg P k (elemAt enc P W 0 sp held n e) x).1 = .int .i64 q.1) (l:=es.toList) fun x hx=>by
    obtain⟨y,hy⟩:=F.reads x hx
    have hr:=rg_of hy
    obtain⟨w,hw,hy2⟩:=rd_val hy
    have hmem:(y.1,y.2)∈L:=hperm.mem_iff.2 (List.mem_map.2 ⟨x,hx,hr⟩)
    obtain⟨z,hz1,hz2,hz3⟩:=zCB hk (rd_key hy)
    obtain⟨z',a,h1,h2,h3⟩:=hL n y.1 y.2 hmem x.val w.2 (by rw [hw,hy2])
    rw [hz2] at h1;cases h1
    exact⟨(z,a),hz1,hz3,h2,h3,by rw [hr];exact hz2⟩
   have hget : ∀ {q:Int × α},q∈m → ∃ x∈es.toList,x.key=iev q.1∧okI q.1∧T q.1=some q.2:=fun {q} hqm=>by
    obtain⟨j,hj⟩:=List.getElem?_of_mem hqm
    have hlt:j < es.toList.length:=by have:=(List.getElem?_eq_some_iff.1 hj).1;omega
    obtain⟨h1,h2,h3,_⟩:=hq j _ q (List.getElem?_eq_getElem hlt) hj
    exact⟨_,List.getElem_mem hlt,h1,h2,h3⟩
   have hkeys:(tm iev f m).map (·.1)=es.toList.map (·.key):=by
    apply List.ext_getElem?;intro j;simp only [tm,List.map_map,List.getElem?_map]
    cases hj:m[j]? with
    | none =>
     have:es.toList[j]? = none:=by
      rw [List.getElem?_eq_none_iff] at hj ⊢;omega
     rw [this];rfl
    | some q =>
     have hlt:j < es.toList.length:=by have:=(List.getElem?_eq_some_iff.1 hj).1;omega
     rw [List.getElem?_eq_getElem hlt]
     obtain⟨h1,_⟩:=hq j _ q (List.getElem?_eq_getElem hlt) hj
     simpa using h1.symm
   refine⟨b,m,hcs,⟨⟨es,clock,hb,by simp [tm,hm],?_,?_⟩,zCH b,?_⟩,?_,?_⟩
   · rw [hkeys];exact s3
   · intro j x q hx hq';simp only [tm,List.getElem?_map,Option.map_eq_some_iff] at hq'
     obtain⟨q0,hq0,rfl⟩:=hq'
     obtain⟨h1,_,_,h4,_⟩:=hq j x q0 (by simpa using hx) hq0
     exact⟨h1,h4⟩
   · intro q hq' n;simp only [tm,List.mem_map] at hq'
     obtain⟨q0,_,rfl⟩:=hq'
     exact hbel _ _
   · intro q hqm
     obtain⟨_,_,_,h,_⟩:=hget hqm
     exact h
   · intro z
     refine zns (fun q hqm => ?_) fun v hv => ?_
     · obtain⟨_,_,_,_,h⟩:=hget hqm
       exact h
     · obtain⟨d,hd⟩:=hT z v hv
       obtain⟨x,hx,hr⟩:=List.mem_map.1 (hperm.mem_iff.1 hd)
       obtain⟨j,hj⟩:=List.getElem?_of_mem hx
       have hlt:j < m.length:=by have:=(List.getElem?_eq_some_iff.1 hj).1;omega
       obtain⟨_,_,_,_,h5⟩:=hq j x _ hj (List.getElem?_eq_getElem hlt)
       refine⟨m[j],List.getElem_mem hlt,?_⟩
       rw [hr] at h5;cases h5;rfl
theorem trod_int {q:IntKind} (ht:P.underlying t=some (.int q)) {fuel:Nat} {c:Value} {z:Int} {kd:IntKind} {p:List MemPlace} (h:DataW.trod enc P W 0 sp held fuel t [c]=some (.lit (.int kd z),p)):c = .int q z:=by
 cases fuel with
 | zero=>simp [DataW.trod] at h
 | succ n =>
  rw [DataW.trod_step] at h;unfold DataW.trodStep at h;rw [ht] at h
  cases c<;>simp at h
  obtain⟨⟨rfl,_⟩,⟨_,rfl⟩,_⟩:=h
  rfl
end maps
theorem zAm {P:Program} {W:World} {sp:Nat → Bool} {held:Bool} {H:Type} {enc:TypeId × Value → H} {e:TypeId} (he:P.underlying e=some (.int .i64)) {n:Nat} {v:Value} {z:Int} {kd:IntKind} {q:List MemPlace} (h:elemAt enc P W 0 sp held n e v=some (.lit (.int kd z),q)):v = .int .i64 z:=by
 unfold elemAt at h;split at h
 · rename_i hf
   cases v with
   | agg cs=>simp [Value.formed,he] at hf
   | tuple cs=>simp [Value.formed] at hf
   | _=>exact trod_int he h
 · cases h
theorem zqI {W:World} {fuel:Nat} {cs:List Value} {p:List MemPlace} {sp:Nat → Bool} {held:Bool} {enc:TypeId × Value → Unit} (h:DataW.trod enc Tryz.prog W 0 sp held fuel 190 cs=some (Rows.laid_attestor_typecheck_widths,p)) :
 ∃ b m,cs=[.map (some b)]∧GMap σ0 H0 W b (tm iev ivv m)∧(∀ q∈m,okI q.1) ∧ ∀ z,zL z m=zuF z:=by
 refine zCC Tryz.underlying190 Tryz.underlying3 h zuF ivv (fun v n => .p _) ?_ ?_
 · intro n kk d hm v q he;simp only [List.mem_cons,List.not_mem_nil,or_false,Prod.mk.injEq] at hm
   (rcases hm with ⟨rfl,rfl⟩ | ⟨rfl,rfl⟩ | ⟨rfl,rfl⟩ | ⟨rfl,rfl⟩ | ⟨rfl,rfl⟩)<;>(obtain rfl:=zAm Tryz.underlying3 he;exact⟨_,_,rfl,rfl,.p (.s _ rfl)⟩)
 · intro z x hz
   have hk:z=0 ∨ z=1 ∨ z=2 ∨ z=3 ∨ z=4:=by
    unfold zuF at hz
    repeat' split at hz
    all_goals first | omega | cases hz
   (rcases hk with rfl | rfl | rfl | rfl | rfl)<;>exact⟨_,by simp [Rows.laid_attestor_typecheck_widths];rfl⟩
end Go.Proofs.YthaoifcebimkfaaGreatDoor

namespace Go.Proofs.YthaoifcebimkfaaGreatDoor
open Go Go.AL Go.ChangeShapes Go.WideShapes Go.ChangeAt Go.RowKit

theorem own:ownKnob Tryz.prog.godebug=none:=by kernel_rfl
theorem laidOut:laidOutB Tryz.prog=true:=by kernel_rfl
def zFb:String:=Rows.compileMatchesReferenceRow.named[0]!
theorem gWid:Tryz.prog.globalNamed zFb=some 0:=by kernel_rfl
theorem gWidT:(Tryz.prog.globals[0]?).map (·.type)=some 190:=by kernel_rfl
theorem zAn {W:World} {n:String} {g b:Nat} {cs:Array Value} (hg:Tryz.prog.globalNamed n=some g) (hv:W.var? Tryz.prog n=some cs) (hc:cs.toList=[.map (some b)]):RelV σ0 H0 W (.ip 1 [.s (.map (some b))] 0 0) (.pointer (some ⟨g,0,none⟩)):=by
 have hcell:W.cell? ⟨g,0,none⟩=some (.map (some b)):=by
  unfold World.var? at hv;rw [hg] at hv;simp only [Option.bind_some] at hv;unfold World.cell?;split at hv
  · rename_i c t f hh;simp only [hh];obtain rfl:=Option.some.inj hv
    obtain⟨l⟩:=c
    obtain rfl:l=[.map (some b)]:=hc;rfl
  · cases hv
 have:=RelV.ip (σ:=σ0) (H:=H0) (w:=W) (sz:=1) (xs:=[.s (.map (some b))]) (i:=0) (sub:=0) (g:=g) (off:=0) (cap:=1)
  (.sl false _ _ _ 0 1 (fun k => .map (some b)) (by simp) ⟨by simp,by unfold maxLen;omega⟩ (fun x hx=>by simp only [List.mem_singleton] at hx;subst hx;rfl)
   (fun k hk=>by
    simp only [List.length_singleton,Nat.one_mul] at hk
    obtain rfl:k=0:=by omega
    exact⟨zqT _ _,hcell,rfl⟩)
   (fun k y hy=>by
    have:flat [PV.s (.map (some b))]=[.s (.map (some b))]:=by simp [flat,PV.cells]
    rw [this] at hy
    cases k with
    | zero=>simp at hy;subst hy;exact .s _ rfl
    | succ k=>simp at hy)) (by simp) (by omega)
 simpa using this
def GG (r1:Nat) (m1:List (Int × Int)):Globs :=
 ⟨fun g=>if g=0 then some (1,[.s (.map (some r1))]) else none,fun r=>if r=r1 then some (tm iev ivv m1) else none⟩
theorem zvP {W:World} (h:laidMetH Tryz.prog Rows.compileMatchesReferenceRow.laid W) : ∃ r1 m1,GW (GG r1 m1) r1 m1∧Rel (GG r1 m1) σ0 H0 W:=by
 have hd:laidMet Tryz.prog [(zFb,Rows.laid_attestor_typecheck_widths)] W:=h
 obtain⟨_,⟨g2,t2,c2,f2,p2,_,hg2,ht2,hv2,hr2,_⟩,_⟩:=hd
 obtain rfl:=Option.some.inj (gWid.symm.trans hg2);obtain rfl:=Option.some.inj (gWidT.symm.trans ht2)
 obtain⟨b2,m2,hb2,gm2,k2,a2⟩:=zqI hr2
 refine⟨b2,m2,⟨rfl,if_pos rfl,k2,a2⟩,zFi (fun g sz xs hg => ?_) fun r m hm => ?_⟩
 · simp only [GG] at hg;split at hg
   · rename_i e;subst e;cases hg;exact zAn gWid hv2 hb2
   · cases hg
 · simp only [GG] at hm;split at hm
   · rename_i e;subst e;cases hm;exact gm2
   · cases hm
noncomputable def laidWorld (os:Os):World:=World.doorLaid Tryz.prog 2000 os
set_option maxRecDepth 100000 in
theorem laid_met (os:Os) (args:Array Value):laidMet Tryz.prog Rows.compileMatchesReferenceRow.laid ((laidWorld os).forCall (fun _ _=>0) ⟨#[],args,[]⟩).memory :=
 laidMet_of_run' 8 (by kernel_rfl) (by kernel_rfl)

set_option maxRecDepth 100000
section read
variable {k:Nat} {y:List PV}
theorem zCD (h:Reads Tryz.prog (k+1) 4 y) : ∃ b:Bool,y=[bo b]:=by
 simp only [Reads,Tryz.underlying4] at h;exact h
theorem zEw (h:Reads Tryz.prog (k+2) 75 y) : ∃ c:Cnd,zb0 true y=cnd c∧True:=by
 obtain⟨y1,z1,rfl,-,r1,y2,z2,rfl,-,r2,y3,z3,rfl,-,r3,rfl⟩:=Reads.struct Tryz.underlying75 h
 obtain⟨a,-,-,rfl⟩:=Reads.i64 Tryz.underlying3 r1
 obtain⟨b,-,-,rfl⟩:=Reads.i64 Tryz.underlying3 r2
 obtain⟨c,-,-,rfl⟩:=Reads.i64 Tryz.underlying3 r3
 exact⟨⟨a,b,c⟩,rfl,trivial⟩
theorem zCE (h:Reads Tryz.prog (k+4) 22 y) : ∃ l:List (List Cnd),y=[.sl false 1 (pl yt l)]:=by
 obtain⟨l,-,rfl,-⟩:=Reads.sl yt (fun _=>True) Tryz.underlying22 zq7 zxp h fun y hy=>by
  obtain⟨l,-,rfl,-⟩:=Reads.sl cnd (fun _=>True) Tryz.underlying73 zq8 zxq hy fun y hy=>zEw hy
  exact⟨l,rfl,trivial⟩
 exact⟨l,rfl⟩
theorem zEx (h:Reads Tryz.prog (k+3) 108 y) : ∃ x:SOp,zb0 true y=sop x∧True:=by
 obtain⟨y1,z1,rfl,-,r1,y2,z2,rfl,-,r2,rfl⟩:=Reads.struct Tryz.underlying108 h
 obtain⟨l,h1,rfl⟩:=Reads.arr b8 Tryz.underlying106 r1 fun y hy=>Reads.u8 Tryz.underlying5 hy
 obtain⟨b,rfl⟩:=zCD r2
 match l,h1 with
 | [a,c,d],_=>exact⟨⟨a,c,d,b⟩,rfl,trivial⟩
end read
section rel
variable {W:World} {v:Value} {H:Type} {enc:TypeId × Value → H} {d:DataW H} {ps:List MemPlace} {base:Nat}
theorem zCF (hval:Value.okWide Tryz.prog W .any base 24 v) (h:DataW.Trod enc Tryz.prog W 0 (fun _=>true) true 24 v d ps) : ∃ q:Qry,okI q.kind∧RelV σ0 H0 W (.p (qry q)) v:=by
 obtain⟨xs,hx,e⟩:=zeZ 8 (by kernel_rfl) hval h
 obtain⟨y1,z1,rfl,-,r1,y2,z2,rfl,-,r2,y3,z3,rfl,-,r3,y4,z4,rfl,-,r4,rfl⟩:=Reads.struct (k:=7) Tryz.underlying24 hx
 obtain⟨a,a1,a2,rfl⟩:=Reads.i64 Tryz.underlying3 r1
 obtain⟨b,-,-,rfl⟩:=Reads.i64 Tryz.underlying3 r2
 obtain⟨c,-,-,rfl⟩:=Reads.i64 Tryz.underlying3 r3
 obtain⟨l,rfl⟩:=zCE r4
 rw [zxk] at e
 exact⟨⟨a,b,c,l⟩,⟨a1,a2⟩,e⟩
theorem zAo (hval:Value.okWide Tryz.prog W .any base 25 v) (h:DataW.Trod enc Tryz.prog W 0 (fun _=>true) true 25 v d ps) : ∃ l:List SOp,l.length≤9223372036854775807∧RelV σ0 H0 W (.p (.sl false 4 (pl sop l))) v:=by
 obtain⟨xs,hx,e⟩:=zeZ 8 (by kernel_rfl) hval h
 obtain⟨l,h1,rfl,-⟩:=Reads.sl (k:=7) sop (fun _=>True) Tryz.underlying25 zl5 zrd hx fun y hy=>zEx hy
 rw [zxl] at e
 exact⟨l,h1,e⟩
theorem zEy (hval:Value.okWide Tryz.prog W .any base 26 v) (h:DataW.Trod enc Tryz.prog W 0 (fun _=>true) true 26 v d ps) : ∃ z:Int,(-128≤z∧z≤127)∧RelV σ0 H0 W (.p (i8 z)) v:=by
 obtain⟨xs,hx,e⟩:=zeZ 1 (by kernel_rfl) hval h
 simp only [Reads,Tryz.underlying26] at hx
 obtain⟨n,hw,rfl⟩:=hx
 simp only [Lit.wf,Bool.and_eq_true,decide_eq_true_eq] at hw
 have h1:IntKind.i8.min = -128:=by decide
 have h2:IntKind.i8.max=127:=by decide
 rw [h1,h2] at hw;rw [zxm] at e
 exact⟨n,hw,e⟩
theorem zAp (hval:Value.okWide Tryz.prog W .any base 27 v) (h:DataW.Trod enc Tryz.prog W 0 (fun _=>true) true 27 v d ps) : ∃ l:List U,l.length≤9223372036854775807∧RelV σ0 H0 W (.p (.sl false 1 (pl zh l))) v:=by
 obtain⟨xs,hx,e⟩:=zeZ 8 (by kernel_rfl) hval h
 obtain⟨l,h1,rfl,-⟩:=Reads.sl (k:=7) zh (fun _=>True) Tryz.underlying27 cells53 zxo hx fun y hy=>by
  obtain⟨b,rfl⟩:=Reads.u64 Tryz.underlying53 hy
  exact⟨b,rfl,trivial⟩
 rw [zxn] at e
 exact⟨l,h1,e⟩
end rel
end Go.Proofs.YthaoifcebimkfaaGreatDoor
