/- Proofs. -/
import Derived.Test.YthaoifcebimkfaaGreatDoorPkS4
set_option linter.unusedSectionVars false
set_option linter.unusedSimpArgs false
set_option linter.unusedVariables false
namespace Go.Proofs.YthaoifcebimkfaaGreatDoor
open Go Go.AL

def zov (r:Rdg) (c:Cnd):Bool := !(decide (fR r c.col.toNat < c.lo) || decide (c.hi < fR r c.col.toNat))
def mtR (l:List Cnd) (r:Rdg):Bool:=l.all (zov r)
def zas (s:Strm):Nat → List Rdg
 | 0=>[]
 | i+1=>if nth s.gone i then zas s i else zas s i++[nth s.l i]
theorem ziz (s:Strm) : ∀ i,(zas s i).length≤i
 | 0=>Nat.le_refl _
 | i+1=>by
  have:=ziz s i
  unfold zas
  split
  · omega
  · simp;omega
theorem ziA {s:Strm} {r:Rdg} : ∀ i,i≤s.l.length → r∈zas s i → r∈s.l
 | 0,_,h=>by cases h
 | i+1,hi,h=>by
  unfold zas at h;split at h
  · exact ziA i (by omega) h
  · rcases List.mem_append.1 h with e | e
    · exact ziA i (by omega) e
    · rw [List.mem_singleton] at e;subst e;rw [zc (by omega)];exact List.getElem_mem _
def zgR (l:List Rdg) (f:List Cnd) (c:Nat) (i v:Nat):Nat:=(l.take i).countP fun r=>mtR f r && decide (fR r c=(v:Int))
def zcd (l:List Rdg) (f:List Cnd) (c i:Nat):List Int:=(List.range 16).map fun v=>(zgR l f c i v:Int)
theorem yl {l:List Rdg} {f:List Cnd} {c i:Nat}:(zcd l f c i).length=16:=by simp [zcd]
theorem take_one {α:Type} [Inhabited α] {l:List α} {i:Nat} (h:i < l.length):l.take (i+1)=l.take i++[nth l i]:=by
 rw [List.take_add_one,List.getElem?_eq_getElem h,zc h];rfl
theorem zj8 {l:List Rdg} {f:List Cnd} {c i v:Nat} (h:i < l.length):zgR l f c (i+1) v=zgR l f c i v+if mtR f (nth l i) && decide (fR (nth l i) c=(v:Int)) then 1 else 0:=by
 unfold zgR;rw [take_one h,List.countP_append];simp [List.countP_cons]
theorem zEf {l:List Rdg} {f:List Cnd} {c i v:Nat}:zgR l f c i v≤l.length:=by
 unfold zgR;exact Nat.le_trans List.countP_le_length (by rw [List.length_take];omega)
theorem zxn {l:List Rdg} {f:List Cnd} {c:Nat}:zcd l f c 0=List.replicate 16 0:=by
 unfold zcd;simp only [zgR,List.take_zero,List.countP_nil];rfl
theorem zxo {l:List Rdg} {f:List Cnd} {c i:Nat} (h:i < l.length) (hm:mtR f (nth l i)=false):zcd l f c (i+1)=zcd l f c i:=by
 unfold zcd
 congr 1;funext v
 rw [zj8 h,hm];simp
theorem zdi {l:List Rdg} {f:List Cnd} {c i k:Nat} (hk:k < 16):nth (zcd l f c i) k=(zgR l f c i k:Int):=by
 unfold zcd;rw [zfb (by simpa using hk),zc (by simpa using hk)]
 simp
theorem zxp {l:List Rdg} {f:List Cnd} {c i k:Nat} (h:i < l.length) (hm:mtR f (nth l i)=true) (hk:k < 16) (hf:fR (nth l i) c=(k:Int)):(zcd l f c i).set k (nth (zcd l f c i) k+1)=zcd l f c (i+1):=by
 refine zfc (by rw [List.length_set,yl,yl]) fun j hj => ?_
 rw [List.length_set,yl] at hj;rw [zdi hj,zj8 h,hm,hf];by_cases e:k=j
 · subst e;rw [zbU rfl (by rw [yl];exact hk),zdi hk];simp
 · rw [zbV e,zdi hj];simp only [Bool.true_and,decide_eq_true_eq];rw [if_neg (by omega)];simp
def zcJ (l:List Rdg) (f:List Cnd) (c pw:Nat):Nat → Int
 | 0=>0
 | i+1=>zcJ l f c pw i+if mtR f (nth l i) then fR (nth l i) c ^ pw else 0
theorem ze1 {r:Rdg} (h:vR r) {c:Nat} (hc:c < 4):0≤fR r c∧fR r c < 256∧(c=0 ∨ c=2 → fR r c < 16):=by
 obtain⟨h1,h2,h3,h4⟩:=h
 have:c=0 ∨ c=1 ∨ c=2 ∨ c=3:=by omega
 rcases this with rfl | rfl | rfl | rfl<;>simp only [fR]<;>omega
theorem ztc {x:Int} (h0:0≤x) (h1:x < 256) : ∀ k,0≤x ^ k∧x ^ k≤(256 ^ k:Nat)
 | 0=>⟨by simp,by simp⟩
 | k+1=>by
  obtain⟨a,b⟩:=ztc h0 h1 k
  rw [Int.pow_succ,Nat.pow_succ]
  refine⟨Int.mul_nonneg a h0,?_⟩
  rw [Int.natCast_mul];exact Int.mul_le_mul b (by omega) h0 (by omega)
theorem ziB {x:Int} (h0:0≤x) (h1:x < 256) {k:Nat} (hk:k≤6):0≤x ^ k∧x ^ k≤281474976710656:=by
 obtain⟨a,b⟩:=ztc h0 h1 k
 have:256 ^ k≤256 ^ 6:=Nat.pow_le_pow_right (by decide) hk
 have h6:256 ^ 6=281474976710656:=by decide
 omega
theorem zow {l:List Rdg} (hl : ∀ r∈l,vR r) {f:List Cnd} {c pw:Nat} (hc:c < 4) (hp:pw≤6) : ∀ i,i≤l.length → 0≤zcJ l f c pw i∧zcJ l f c pw i≤281474976710656*i
 | 0,_=>⟨Int.le_refl _,by simp [zcJ]⟩
 | i+1,hi=>by
  obtain⟨a,b⟩:=zow hl (f:=f) (pw:=pw) hc hp i (by omega)
  have hr:=ze1 (hl (nth l i) (by rw [zc (by omega)];exact List.getElem_mem _)) hc
  obtain⟨d,e⟩:=ziB hr.1 hr.2.1 hp
  unfold zcJ
  split<;>omega
theorem ziC {l:List Int} : ∀ x∈pl i64 l,x.cells.length=1:=fun x hx=>by
 simp only [pl,List.mem_map] at hx
 obtain⟨y,_,rfl⟩:=hx
 rfl
def pwQ (q:Qry):Nat:=if q.kind=2 then 1 else if q.kind=3 then q.k.toNat else 0
def zcK (q:Qry) (s:Strm):List Int :=
 let l:=zas s s.l.length
 if q.kind=4 ∨ q.kind=5 ∨ q.kind=6 then zcd l (nth q.fl 0) q.col.toNat l.length
 else if q.kind=7 then zcd l (nth q.fl 0) 0 l.length++zcd l (nth q.fl 1) 0 l.length
 else [zcJ l (nth q.fl 0) q.col.toNat (pwQ q) l.length]
section walks
variable {G:Globs}
set_option maxHeartbeats 4000000 in
theorem zlD (r:Rdg) (k:Int) (hk:0≤k∧k < 4) (H:Hp) (R:AV → Hp → Prop) (h:R (.p (i64 (fR r k.toNat))) H):ACall Tryz.prog G 121 [.p (rdg r),.p (i64 k)] H R:=by
 have:k=0 ∨ k=1 ∨ k=2 ∨ k=3:=by omega
 refine ACall.of_run (raw:=[]) Tryz.func121 rfl Tryz.ntmps121 (by simp) fun hbel => ?_
 refine .qt rfl ?_;simp (disch:=first|exact za|fail) only [go_sem,seval]
 rcases this with rfl | rfl | rfl | rfl
 · refine .qt rfl ?_;simp (disch:=first|exact za|fail) only [go_sem,seval];refine .qr rfl Tryz.func121 (by rw [Tryz.results121]) ?_;simp (disch:=first|exact za|fail) only [go_sem,seval];exact h
 · refine .qt rfl ?_;simp (disch:=first|exact za|fail) only [go_sem,seval];refine .qr rfl Tryz.func121 (by rw [Tryz.results121]) ?_;simp (disch:=first|exact za|fail) only [go_sem,seval];exact h
 · refine .qt rfl ?_;simp (disch:=first|exact za|fail) only [go_sem,seval];refine .qr rfl Tryz.func121 (by rw [Tryz.results121]) ?_;simp (disch:=first|exact za|fail) only [go_sem,seval];exact h
 · refine .qt rfl ?_;simp (disch:=first|exact za|fail) only [go_sem,seval];refine .qr rfl Tryz.func121 (by rw [Tryz.results121]) ?_;simp (disch:=first|exact za|fail) only [go_sem,seval];exact h
set_option maxHeartbeats 8000000 in
theorem ziD (l:List Cnd) (hl:vF l=true) (r:Rdg) (H:Hp) (R:AV → Hp → Prop) (h:R (.p (bo (mtR l r))) H):ACall Tryz.prog G 68 [.p (.sl false 3 (pl cnd l)),.p (rdg r)] H R:=by
 have hl3:=zlj hl
 refine ACall.of_run (raw:=[]) Tryz.func68 rfl Tryz.ntmps68 (by simp) fun hbel => ?_
 refine .qt rfl ?_;simp (disch:=first|exact za|fail) only [go_sem,seval];refine .qt rfl ?_;simp (disch:=first|exact za|fail) only [go_sem,seval]
 refine .q ?_;first | refine .loopF0 [0,3] (fun i=>[(5,.p (i64 i))]) (fun i=>mtR (l.take i) r=true) (0) (l.length) (by omega) ?_ ?_ ?_ ?_ | refine .loopF [0,3] (fun i=>[(5,.p (i64 i))]) (fun _=>[]) (fun i=>mtR (l.take i) r=true) (0) (l.length) (by omega) ?_ (by rfl) ?_ ?_ ?_
 · simp (disch:=first|exact za|fail) only [go_sem,seval]<;>(repeat' (first | rfl | refine And.intro ?_ ?_))
 rotate_left 1
 intro env T A hQ;simp (disch:=first|exact za|fail) only [go_sem,seval] at A
 rotate_left 1
 intro i env T hi0 hi A hQ ihA;simp (disch:=first|exact za|fail) only [go_sem,seval] at A
 rotate_left 1
 · simp [mtR]
 · have hm:=hQ;rw [List.take_length] at hm;rw [hm] at h;refine .qt rfl ?_;simp (disch:=first|exact za|fail) only [go_sem,seval,A];refine .qF rfl ?_;refine .qt rfl ?_;simp (disch:=first|exact za|fail) only [go_sem,seval,A];refine .qr rfl Tryz.func68 (by rw [Tryz.results68]) (hx:=by simp (disch:=first|exact za|fail) only [go_sem,seval,A];rfl) ?_;simp (disch:=first|exact za|fail) only [go_sem,seval,A];exact h
 · have hm:=hQ
   obtain⟨c1,c2,c3,c4,c5⟩:=zjU (zjV hl hi)
   have hsu:mtR (l.take (i+1)) r=zov r (nth l i):=by
    rw [take_one hi];unfold mtR at hm ⊢;rw [List.all_append,hm];simp
   have hfalse:zov r (nth l i)=false → mtR l r=false:=fun e=>by
    unfold mtR;rw [List.all_eq_false]
    exact⟨nth l i,by rw [zc hi];exact List.getElem_mem _,by rw [e];decide⟩
   refine .qt rfl ?_;simp (disch:=first|exact za|fail) only [go_sem,seval,A];refine .qT rfl ?_;refine .q ?_;refine .open [] follows (by kernel_rfl) ?_;simp (disch:=first|exact za|fail) only [go_sem,seval,A];refine CallD.still (fun R h=>zlD r (nth l i).col ⟨c1,c2⟩ _ R h) ?_;simp (disch:=first|exact za|fail) only [go_sem,seval,A];by_cases h1:fR r (nth l i).col.toNat < (nth l i).lo
   · have hf:=hfalse (by unfold zov;rw [decide_eq_true h1];rfl);rw [hf] at h;refine .qt rfl ?_;simp (disch:=first|exact za|fail) only [go_sem,seval,A];refine .qT rfl ?_;refine .qt rfl ?_;simp (disch:=first|exact za|fail) only [go_sem,seval,A];refine .qr rfl Tryz.func68 (by rw [Tryz.results68]) (hx:=by simp (disch:=first|exact za|fail) only [go_sem,seval,A];rfl) ?_;simp (disch:=first|exact za|fail) only [go_sem,seval,A];exact h
   · by_cases h2:(nth l i).hi < fR r (nth l i).col.toNat
     · have hf:=hfalse (by unfold zov;rw [decide_eq_true h2,Bool.or_true];rfl);rw [hf] at h;refine .qt rfl ?_;simp (disch:=first|exact za|fail) only [go_sem,seval,A];refine .qT rfl ?_;refine .qt rfl ?_;simp (disch:=first|exact za|fail) only [go_sem,seval,A];refine .qr rfl Tryz.func68 (by rw [Tryz.results68]) (hx:=by simp (disch:=first|exact za|fail) only [go_sem,seval,A];rfl) ?_;simp (disch:=first|exact za|fail) only [go_sem,seval,A];exact h
     · have hs1:mtR (l.take (i+1)) r=true:=by rw [hsu];unfold zov;rw [decide_eq_false h1,decide_eq_false h2];rfl
       refine .qt rfl ?_;simp (disch:=first|exact za|fail) only [go_sem,seval,A];refine .qF rfl ?_;refine .skip ?_;refine .qt rfl ?_;simp (disch:=first|exact za|fail) only [go_sem,seval,A]
       first | (refine ihA _ _ ?_ hs1 ?_) | (refine .z rfl ?_;refine ihA _ _ ?_ hs1 ?_) | (refine .z rfl ?_;refine .z rfl ?_;refine ihA _ _ ?_ hs1 ?_) | (refine .z rfl ?_;refine .z rfl ?_;refine .z rfl ?_;refine ihA _ _ ?_ hs1 ?_)
       · simp (disch:=first|exact za|fail) only [go_sem,seval,A]<;>(repeat' (first | rfl | refine And.intro ?_ ?_))
       · first | exact .mk _ rfl | exact .mk [] rfl | (apply Later.mk;simp (disch:=first|exact za|fail) only [go_sem,seval,zl,A];exact rfl) | (apply Later.mk;simp (disch:=first|exact za|fail) only [go_sem,seval,zl,yv,List.append_assoc,A]<;>(try rfl))
set_option maxHeartbeats 8000000 in
theorem zxq (s:Strm) (m:Nat) (hs:okS m s) (hm:m≤1000) (H:Hp) (R:AV → Hp → Prop) (h:R (.p (.sl false 4 (pl rdg (zas s s.l.length)))) H):ACall Tryz.prog G 66 [.p (stm s)] H R:=by
 have hsl:=hs.len;have hsg:=hs.gl
 refine ACall.of_run (raw:=[]) Tryz.func66 rfl Tryz.ntmps66 (by simp) fun hbel => ?_
 refine .qt rfl ?_;simp (disch:=first|exact za|fail) only [go_sem,seval];refine .qt rfl ?_;simp (disch:=first|exact za|fail) only [go_sem,seval];refine .q ?_;refine .own 3 (by simp (disch:=first|exact za|fail) only [go_sem,seval];rfl) ?_;refine .qt rfl ?_;simp (disch:=first|exact za|fail) only [go_sem,seval];refine .q ?_;refine .loopH [1] (fun i=>[(3,.sl (H.n+1) (zas s i).length 4 (pl rdg (zas s i))),(4,.p (i64 i))]) (fun i=>(H.new (.cells [.p (.sl false 4 (pl rdg s.l)),.p (.sl false 1 (pl bo s.gone))])).new (.tail (zas s i).length)) (fun i=>True) (0) (s.l.length) (by omega) ?_ (by first | rfl | (simp (disch:=first|exact za|fail) only [go_sem,seval]<;>rfl)) ?_ ?_ ?_
 · simp (disch:=first|exact za|fail) only [go_sem,seval]<;>(repeat' (first | rfl | refine And.intro ?_ ?_))
 · exact trivial
 intro env A hQ;simp (disch:=first|exact za|fail) only [go_sem,seval] at A
 rotate_left 1
 intro i env hi0 hi A hQ ihA;simp (disch:=first|exact za|fail) only [go_sem,seval] at A
 rotate_left 1
 · refine .qt rfl ?_;simp (disch:=first|exact za|fail) only [go_sem,seval,A];refine .qF rfl ?_;refine .qt rfl ?_;simp (disch:=first|exact za|fail) only [go_sem,seval,A];refine .qr rfl Tryz.func66 (by rw [Tryz.results66]) (hx:=by simp (disch:=first|exact za|fail) only [go_sem,seval,A];rfl) ?_;simp (disch:=first|exact za|fail) only [go_sem,seval,A];exact h
 · have hll:=ziz s i
   have hap:pl rdg (zas s i)++[rdg (nth s.l i)]=pl rdg (zas s i++[nth s.l i]):=by rw [←yn];rfl
   refine .qt rfl ?_;simp (disch:=first|exact za|fail) only [go_sem,seval,A];refine .qT rfl ?_
   cases hg:nth s.gone i with
   | true =>
    have hsu:zas s (i+1)=zas s i:=by rw [zas,hg,if_pos rfl]
    refine .qt rfl ?_;simp (disch:=first|exact za|fail) only [go_sem,seval,A,hg];refine .qF rfl ?_;refine .skip ?_;refine .qt rfl ?_;simp (disch:=first|exact za|fail) only [go_sem,seval,A];rw [←hsu]
    first | (refine ihA _ _ ?_ trivial ?_) | (refine .z rfl ?_;refine ihA _ _ ?_ trivial ?_) | (refine .z rfl ?_;refine .z rfl ?_;refine ihA _ _ ?_ trivial ?_) | (refine .z rfl ?_;refine .z rfl ?_;refine .z rfl ?_;refine ihA _ _ ?_ trivial ?_)
    · simp (disch:=first|exact za|fail) only [go_sem,seval,A,hsu]<;>(repeat' (first | rfl | refine And.intro ?_ ?_))
    · first | rfl | (simp (disch:=first|exact za|fail) only [go_sem,seval,A,hsu]<;>(try rfl))
   | false =>
    have hsu:zas s (i+1)=zas s i++[nth s.l i]:=by rw [zas,hg,if_neg (by decide)]
    refine .qt rfl ?_;simp (disch:=first|exact za|fail) only [go_sem,seval,A,hg];refine .qT rfl ?_;refine .qt rfl ?_;simp (disch:=first|exact za|fail) only [go_sem,seval,A,hap];refine .qt rfl ?_;simp (disch:=first|exact za|fail) only [go_sem,seval,A]
    have hlen:(zas s (i+1)).length=(zas s i).length+1:=by rw [hsu];simp
    rw [←hlen]
    first | (refine ihA _ _ ?_ trivial ?_) | (refine .z rfl ?_;refine ihA _ _ ?_ trivial ?_) | (refine .z rfl ?_;refine .z rfl ?_;refine ihA _ _ ?_ trivial ?_) | (refine .z rfl ?_;refine .z rfl ?_;refine .z rfl ?_;refine ihA _ _ ?_ trivial ?_)
    · simp (disch:=first|exact za|fail) only [go_sem,seval,A,hsu,hlen]<;>(repeat' (first | rfl | refine And.intro ?_ ?_))
    · first | rfl | (simp (disch:=first|exact za|fail) only [go_sem,seval,A,hsu,hlen]<;>(try rfl))
set_option maxHeartbeats 16000000 in
theorem zeb (l:List Rdg) (hl:l.length≤1000) (hv : ∀ r∈l,vR r) (f:List Cnd) (hf:vF f=true) (c:Nat) (hc:c=0 ∨ c=2) (H:Hp) :
 ACall Tryz.prog G 67 [.p (.sl false 4 (pl rdg l)),.p (.sl false 3 (pl cnd f)),.p (i64 c)] H (fun r H'=>r = .vr H.n 16 1∧H'=H.new (.vec (cl i64 (zcd l f c l.length)))):=by
 refine ACall.of_run (raw:=[]) Tryz.func67 rfl Tryz.ntmps67 (by simp) fun hbel => ?_
 refine .qt rfl ?_;simp (disch:=first|exact za|fail) only [go_sem,seval,-List.reduceReplicate];refine .q ?_;refine .region ?_;refine .makeVec (n:=16) (sz:=1) (cs:=cl i64 (List.replicate 16 0)) (by simp (disch:=first|exact za|fail) only [go_sem,seval,-List.reduceReplicate]<;>rfl) (by rfl) ?_;refine .run ?_;simp (disch:=first|exact za|fail) only [go_sem,seval,-List.reduceReplicate];refine .qt rfl ?_;simp (disch:=first|exact za|fail) only [go_sem,seval,-List.reduceReplicate];rw [←zxn (l:=l) (f:=f) (c:=c)];refine .q ?_;refine .loopH [0,1,2] (fun i=>[(7,.vr H.n 16 1),(8,.p (i64 i))]) (fun i=>H.new (.vec (cl i64 (zcd l f c i)))) (fun i=>True) (0) (l.length) (by omega) ?_ (by first | rfl | (simp (disch:=first|exact za|fail) only [go_sem,seval,-List.reduceReplicate]<;>rfl)) ?_ ?_ ?_
 · simp (disch:=first|exact za|fail) only [go_sem,seval,-List.reduceReplicate]<;>(repeat' (first | rfl | refine And.intro ?_ ?_))
 · exact trivial
 intro env A hQ;simp (disch:=first|exact za|fail) only [go_sem,seval,-List.reduceReplicate] at A
 rotate_left 1
 intro i env hi0 hi A hQ ihA;simp (disch:=first|exact za|fail) only [go_sem,seval,-List.reduceReplicate] at A
 rotate_left 1
 · refine .qt rfl ?_;simp (disch:=first|exact za|fail) only [go_sem,seval,-List.reduceReplicate,A];refine .q ?_;refine .ifF (by simp (disch:=first|exact za|fail) only [go_sem,seval,-List.reduceReplicate]) ?_;refine .qt rfl ?_;simp (disch:=first|exact za|fail) only [go_sem,seval,-List.reduceReplicate,A];refine .q ?_;refine .retKeep Tryz.func67 (by rw [Tryz.results67]) (by simp (disch:=first|exact za|fail) only [go_sem,seval,-List.reduceReplicate,A];rfl) ?_;(try simp (disch:=first|exact za|fail) only [go_sem,seval,-List.reduceReplicate,A])
 · have hr:=hv (nth l i) (by rw [zc hi];exact List.getElem_mem _)
   obtain⟨f1,f2,f3⟩:=ze1 hr (show c < 4 by omega)
   have f4:=f3 hc
   obtain⟨k,hk⟩ : ∃ k:Nat,fR (nth l i) c=(k:Int):=⟨(fR (nth l i) c).toNat,by omega⟩
   have hk16:k < 16:=by omega
   refine .qt rfl ?_;simp (disch:=first|exact za|fail) only [go_sem,seval,-List.reduceReplicate,A];refine .q ?_;refine .ifT (by simp (disch:=first|exact za|fail) only [go_sem,seval,-List.reduceReplicate]) ?_;refine .qt rfl ?_;simp (disch:=first|exact za|fail) only [go_sem,seval,-List.reduceReplicate,A];refine CallK.of (fun R h=>ziD f hf (nth l i) _ R h) ?_;simp (disch:=first|exact za|fail) only [go_sem,seval,-List.reduceReplicate,A]
   cases hm:mtR f (nth l i) with
   | false =>
    have hsu:=zxo (f:=f) (c:=c) hi hm;refine .q ?_;refine .ifF (by simp (disch:=first|exact za|fail) only [go_sem,seval,-List.reduceReplicate,hm]) ?_;refine .skip ?_;refine .qt rfl ?_;simp (disch:=first|exact za|fail) only [go_sem,seval,-List.reduceReplicate,A];rw [←hsu]
    first | (refine ihA _ _ ?_ trivial ?_) | (refine .z rfl ?_;refine ihA _ _ ?_ trivial ?_) | (refine .z rfl ?_;refine .z rfl ?_;refine ihA _ _ ?_ trivial ?_) | (refine .z rfl ?_;refine .z rfl ?_;refine .z rfl ?_;refine ihA _ _ ?_ trivial ?_)
    · simp (disch:=first|exact za|fail) only [go_sem,seval,-List.reduceReplicate,A]<;>(repeat' (first | rfl | refine And.intro ?_ ?_))
    · first | rfl | (simp (disch:=first|exact za|fail) only [go_sem,seval,-List.reduceReplicate,A]<;>(try rfl))
   | true =>
    have hsu:=zxp (f:=f) hi hm hk16 hk;have hcn:=zEf (l:=l) (f:=f) (c:=c) (i:=i) (v:=k);have hat:nth (zcd l f c i) k=(zgR l f c i k:Int):=zdi hk16;have hcl:=yl (l:=l) (f:=f) (c:=c) (i:=i);rw [hat] at hsu;refine .q ?_;refine .ifT (by simp (disch:=first|exact za|fail) only [go_sem,seval,-List.reduceReplicate,hm]) ?_;refine .qt rfl ?_;simp (disch:=first|exact za|fail) only [go_sem,seval,-List.reduceReplicate,A];refine CallK.of (fun R h=>zeX (nth l i) c (by omega) _ R h) ?_;simp (disch:=first|exact za|fail) only [go_sem,seval,-List.reduceReplicate,A,hk,hat,hcl];rw [hsu];refine .qt rfl ?_;simp (disch:=first|exact za|fail) only [go_sem,seval,-List.reduceReplicate,A]
    first | (refine ihA _ _ ?_ trivial ?_) | (refine .z rfl ?_;refine ihA _ _ ?_ trivial ?_) | (refine .z rfl ?_;refine .z rfl ?_;refine ihA _ _ ?_ trivial ?_) | (refine .z rfl ?_;refine .z rfl ?_;refine .z rfl ?_;refine ihA _ _ ?_ trivial ?_)
    · simp (disch:=first|exact za|fail) only [go_sem,seval,-List.reduceReplicate,A]<;>(repeat' (first | rfl | refine And.intro ?_ ?_))
    · first | rfl | (simp (disch:=first|exact za|fail) only [go_sem,seval,-List.reduceReplicate,A]<;>(try rfl))
set_option maxHeartbeats 32000000 in
set_option maxRecDepth 20000 in
theorem zox (q:Qry) (he:ya q=0) (s:Strm) (m:Nat) (hs:okS m s) (hm:m≤64) (H:Hp) (R:AV → Hp → Prop) (h:R (.p (.sl false 1 (pl i64 (zcK q s)))) H) :
 ACall Tryz.prog G 26 [.p (qry q),.p (stm s)] H R:=by
 have hq:=ziw he;have hF:=zgz he
 have hf0:0 < q.fl.length:=by rw [hF.fl];split<;>decide
 have v0:=zaS hq hf0;have hsl:=hs.len;have hll:=ziz s s.l.length
 have hlv : ∀ r∈zas s s.l.length,vR r:=fun r hr=>hs.v r (ziA _ (Nat.le_refl _) hr)
 obtain⟨c,hc⟩ : ∃ c:Nat,q.col=(c:Int):=⟨q.col.toNat,by have:=hF.col;omega⟩
 have hc4:c < 4:=by have:=hF.col;omega
 have hct:q.col.toNat=c:=by omega
 unfold zcK at h;dsimp only at h;rw [hct] at h
 refine ACall.of_run (raw:=[]) Tryz.func26 rfl Tryz.ntmps26 (by simp) fun hbel => ?_
 refine .qt rfl ?_;simp (disch:=first|exact za|fail) only [go_sem,seval];refine .qt rfl ?_;simp (disch:=first|exact za|fail) only [go_sem,seval];refine CallK.of (fun R h=>zxq s m hs (by omega) _ R h) ?_;simp (disch:=first|exact za|fail) only [go_sem,seval]
 generalize zas s s.l.length=l at *
 have hk7:=hF.kind;by_cases k456:q.kind=4 ∨ q.kind=5 ∨ q.kind=6
 · rw [if_pos k456] at h
   have hc02:c=0 ∨ c=2:=by have:=hF.grp (by omega) (by omega) (by omega) (by omega);omega
   rcases k456 with e | e | e
   all_goals (
    refine .qt rfl ?_;simp (disch:=first|exact za|fail) only [go_sem,seval,e];refine .qT rfl ?_;refine .q ?_;refine .open [7] follows (by kernel_rfl) ?_;simp (disch:=first|exact za|fail) only [go_sem,seval,zH,hc];refine CallD.moves (zeb l (by omega) hlv (nth q.fl 0) v0 c hc02 _) ?_
    rintro _ _ ⟨rfl,rfl⟩
    simp (disch:=first|exact za|fail) only [go_sem,seval];refine .q ?_;refine .frzV 4 (by simp (disch:=first|exact za|fail) only [go_sem,seval];rfl) (by simp (disch:=first|exact za|fail) only [go_sem,seval]<;>rfl) (xs:=pl i64 (zcd l (nth q.fl 0) c l.length)) (by rw [zff,zfd]) (by rw [zad,yl]) ziC ?_;(try simp (disch:=first|exact za|fail) only [go_sem,seval]);refine .qr rfl Tryz.func26 (by rw [Tryz.results26]) ?_;simp (disch:=first|exact za|fail) only [go_sem,seval]
    exact h)
 · rw [if_neg k456] at h;by_cases k7:q.kind=7
   · rw [if_pos k7] at h
     have hf1:1 < q.fl.length:=by rw [hF.fl,if_pos k7];decide
     have v1:=zaS hq hf1;refine .qt rfl ?_;simp (disch:=first|exact za|fail) only [go_sem,seval,k7];refine .qF rfl ?_;refine .skip ?_;refine .qt rfl ?_;simp (disch:=first|exact za|fail) only [go_sem,seval,k7];refine .qT rfl ?_;refine .qt rfl ?_;simp (disch:=first|exact za|fail) only [go_sem,seval,zH];refine CallK.ex (zeb l (by omega) hlv (nth q.fl 0) v0 0 (.inl rfl) _) ?_
     rintro _ _ ⟨rfl,rfl⟩
     simp (disch:=first|exact za|fail) only [go_sem,seval];refine .qt rfl ?_;simp (disch:=first|exact za|fail) only [go_sem,seval,zH]
     refine (zeb l (by omega) hlv (nth q.fl 1) v1 0 (.inl rfl) _).mono fun r H' hr => ?_
     obtain⟨rfl,rfl⟩:=hr
     refine AOps.frzV 50 (b:=H.n+3) (len:=16) (sz:=1) (xs:=pl i64 (zcd l (nth q.fl 1) 0 l.length)) (cs:=cl i64 (zcd l (nth q.fl 1) 0 l.length)) (by simp (disch:=first|exact za|fail) only [go_sem,seval]) (by simp (disch:=first|exact za|fail) only [go_sem,seval]<;>rfl) (by rw [zff,zfd]) (by rw [zad,yl]) ziC (AOps.run ?_);have hcl:=yl (l:=l) (f:=nth q.fl 0) (c:=0) (i:=l.length);have hcl2:=yl (l:=l) (f:=nth q.fl 1) (c:=0) (i:=l.length);simp (disch:=first|exact za|fail) only [go_sem,seval,hcl,hcl2];refine .q ?_;refine .frzV 4 (by simp (disch:=first|exact za|fail) only [go_sem,seval];rfl) (by simp (disch:=first|exact za|fail) only [go_sem,seval]<;>rfl) (xs:=pl i64 (zcd l (nth q.fl 0) 0 l.length++zcd l (nth q.fl 1) 0 l.length)) (by rw [zff,zfd]) (by rw [zad,List.length_append,yl,yl]) ziC ?_;(try simp (disch:=first|exact za|fail) only [go_sem,seval]);refine .qr rfl Tryz.func26 (by rw [Tryz.results26]) ?_;simp (disch:=first|exact za|fail) only [go_sem,seval];exact h
   · rw [if_neg k7] at h
     have k123:q.kind=1 ∨ q.kind=2 ∨ q.kind=3:=by omega
     have n4 : ¬ q.kind=4:=by omega
     have n5 : ¬ q.kind=5:=by omega
     have n6 : ¬ q.kind=6:=by omega
     have hpw:pwQ q≤6:=by
      unfold pwQ
      split
      · omega
      · split
        · have:=hF.k.2 (by omega);omega
        · omega
     refine .qt rfl ?_;simp (disch:=first|exact za|fail) only [go_sem,seval,n4,n5,n6];refine .qF rfl ?_;refine .skip ?_;refine .qt rfl ?_;simp (disch:=first|exact za|fail) only [go_sem,seval,k7];refine .qF rfl ?_;refine .skip ?_;refine .qt rfl ?_;simp (disch:=first|exact za|fail) only [go_sem,seval];refine .qt rfl ?_;simp (disch:=first|exact za|fail) only [go_sem,seval];refine .q ?_;refine .loopE [2,5] (fun i=>[(8,.p (i64 i)),(7,.p (i64 (zcJ l (nth q.fl 0) c (pwQ q) i)))]) (fun i=>[]) (fun i=>True) (0) (l.length) (by omega) ?_ (by first | rfl | (simp (disch:=first|exact za|fail) only [go_sem,seval]<;>rfl)) ?_ ?_ ?_
     · simp (disch:=first|exact za|fail) only [go_sem,seval]<;>(repeat' (first | rfl | refine And.intro ?_ ?_))
     · exact trivial
     intro env A hQ;simp (disch:=first|exact za|fail) only [go_sem,seval] at A
     rotate_left 1
     intro i env hi0 hi A hQ ihA;simp (disch:=first|exact za|fail) only [go_sem,seval] at A
     rotate_left 1
     · refine .qt rfl ?_;simp (disch:=first|exact za|fail) only [go_sem,seval,A];refine .qF rfl ?_;refine .qt rfl ?_;simp (disch:=first|exact za|fail) only [go_sem,seval,A];refine .qr rfl Tryz.func26 (by rw [Tryz.results26]) (hx:=by simp (disch:=first|exact za|fail) only [go_sem,seval,A];rfl) ?_;simp (disch:=first|exact za|fail) only [go_sem,seval,A];exact h
     · have hr:=hlv (nth l i) (by rw [zc hi];exact List.getElem_mem _)
       obtain⟨f1,f2,f3⟩:=ze1 hr hc4
       obtain⟨m1,m2⟩:=zow hlv (f:=nth q.fl 0) hc4 hpw i (by omega)
       obtain⟨p1,p2⟩:=ziB f1 f2 hpw
       refine .qt rfl ?_;simp (disch:=first|exact za|fail) only [go_sem,seval,A];refine .qT rfl ?_;refine .q ?_;refine .open [] follows (by kernel_rfl) ?_;simp (disch:=first|exact za|fail) only [go_sem,seval,A,zH];refine CallD.still (fun R h=>ziD (nth q.fl 0) v0 (nth l i) _ R h) ?_;simp (disch:=first|exact za|fail) only [go_sem,seval,A]
       cases hm:mtR (nth q.fl 0) (nth l i) with
       | false =>
        have hsu:zcJ l (nth q.fl 0) c (pwQ q) (i+1)=zcJ l (nth q.fl 0) c (pwQ q) i:=by rw [zcJ,hm];simp
        refine .q ?_;refine .ifT (by simp (disch:=first|exact za|fail) only [go_sem,seval,hm]) ?_;refine .qt rfl ?_;simp (disch:=first|exact za|fail) only [go_sem,seval,A]
        first | (refine ihA _ _ ?_ trivial ?_) | (refine .z rfl ?_;refine ihA _ _ ?_ trivial ?_) | (refine .z rfl ?_;refine .z rfl ?_;refine ihA _ _ ?_ trivial ?_) | (refine .z rfl ?_;refine .z rfl ?_;refine .z rfl ?_;refine ihA _ _ ?_ trivial ?_)
        · simp (disch:=first|exact za|fail) only [go_sem,seval,A,hsu]<;>(repeat' (first | rfl | refine And.intro ?_ ?_))
        · first | rfl | (simp (disch:=first|exact za|fail) only [go_sem,seval,A,hsu]<;>(try rfl))
       | true =>
        have hsu:zcJ l (nth q.fl 0) c (pwQ q) (i+1)=zcJ l (nth q.fl 0) c (pwQ q) i+fR (nth l i) c ^ pwQ q:=by rw [zcJ,hm];simp
        refine .q ?_;refine .ifF (by simp (disch:=first|exact za|fail) only [go_sem,seval,hm]) ?_;refine .skip ?_;refine .qt rfl ?_;simp (disch:=first|exact za|fail) only [go_sem,seval,A];refine .qt rfl ?_;simp (disch:=first|exact za|fail) only [go_sem,seval,A];refine .qt rfl ?_;simp (disch:=first|exact za|fail) only [go_sem,seval,A];refine .q ?_;refine .cutE [2,5,7,8] [(9,.p (i64 1)),(10,.p (i64 (if q.kind=2 then 1 else 0)))] [] (fun ihB => ?_) (fun env B => ?_)
        rotate_left 1
        simp (disch:=first|exact za|fail) only [go_sem,seval,A] at B
        rotate_left 1
        · by_cases e:q.kind=2
          · refine .q ?_;refine .ifT (by simp (disch:=first|exact za|fail) only [go_sem,seval,e]) ?_;refine .qt rfl ?_;simp (disch:=first|exact za|fail) only [go_sem,seval,A]
            first | (refine ihB _ _ ?_ ?_) | (refine .z rfl ?_;refine ihB _ _ ?_ ?_) | (refine .z rfl ?_;refine .z rfl ?_;refine ihB _ _ ?_ ?_) | (refine .z rfl ?_;refine .z rfl ?_;refine .z rfl ?_;refine ihB _ _ ?_ ?_)
            · simp (disch:=first|exact za|fail) only [go_sem,seval,A,e]<;>(repeat' (first | rfl | refine And.intro ?_ ?_))
            · first | rfl | (simp (disch:=first|exact za|fail) only [go_sem,seval,A,e]<;>(try rfl))
          · refine .q ?_;refine .ifF (by simp (disch:=first|exact za|fail) only [go_sem,seval,e]) ?_;refine .skip ?_
            first | (refine ihB _ _ ?_ ?_) | (refine .z rfl ?_;refine ihB _ _ ?_ ?_) | (refine .z rfl ?_;refine .z rfl ?_;refine ihB _ _ ?_ ?_) | (refine .z rfl ?_;refine .z rfl ?_;refine .z rfl ?_;refine ihB _ _ ?_ ?_)
            · simp (disch:=first|exact za|fail) only [go_sem,seval,A,e]<;>(repeat' (first | rfl | refine And.intro ?_ ?_))
            · first | rfl | (simp (disch:=first|exact za|fail) only [go_sem,seval,A,e]<;>(try rfl))
        refine .qt rfl ?_;simp (disch:=first|exact za|fail) only [go_sem,seval,B,A]
        have hpv:q.kind=3 → ((pwQ q:Nat):Int)=q.k:=fun e=>by
         have hq':=hq;simp only [vQ,Bool.and_eq_true,decide_eq_true_eq] at hq';have hk1:=hq'.2.2.2.1.1;rw [e,show yt 3=6 from rfl] at hk1;unfold pwQ;rw [e,if_neg (by decide),if_pos rfl];omega
        have hpn:q.kind≠3 → ((pwQ q:Nat):Int)=if q.kind=2 then 1 else 0:=fun e=>by
         unfold pwQ
         rcases k123 with e1 | e1 | e1<;>rw [e1] at e ⊢ <;> first | rfl | exact absurd rfl e
        refine .q ?_;refine .cutE [2,5,7,8] [(9,.p (i64 1)),(10,.p (i64 (pwQ q:Nat)))] [] (fun ihD => ?_) (fun env D => ?_)
        rotate_left 1
        simp (disch:=first|exact za|fail) only [go_sem,seval,B,A] at D
        rotate_left 1
        · by_cases e:q.kind=3
          · refine .q ?_;refine .ifT (by simp (disch:=first|exact za|fail) only [go_sem,seval,e]) ?_;refine .qt rfl ?_;simp (disch:=first|exact za|fail) only [go_sem,seval,B,A];have hpe:=hpv e
            first | (refine ihD _ _ ?_ ?_) | (refine .z rfl ?_;refine ihD _ _ ?_ ?_) | (refine .z rfl ?_;refine .z rfl ?_;refine ihD _ _ ?_ ?_) | (refine .z rfl ?_;refine .z rfl ?_;refine .z rfl ?_;refine ihD _ _ ?_ ?_)
            · simp (disch:=first|exact za|fail) only [go_sem,seval,B,A,hpe]<;>(repeat' (first | rfl | refine And.intro ?_ ?_))
            · first | rfl | (simp (disch:=first|exact za|fail) only [go_sem,seval,B,A,hpe]<;>(try rfl))
          · refine .q ?_;refine .ifF (by simp (disch:=first|exact za|fail) only [go_sem,seval,e]) ?_;refine .skip ?_;have hpe:=hpn e;rw [←hpe] at B
            first | (refine ihD _ _ ?_ ?_) | (refine .z rfl ?_;refine ihD _ _ ?_ ?_) | (refine .z rfl ?_;refine .z rfl ?_;refine ihD _ _ ?_ ?_) | (refine .z rfl ?_;refine .z rfl ?_;refine .z rfl ?_;refine ihD _ _ ?_ ?_)
            · simp (disch:=first|exact za|fail) only [go_sem,seval,B,A]<;>(repeat' (first | rfl | refine And.intro ?_ ?_))
            · first | rfl | (simp (disch:=first|exact za|fail) only [go_sem,seval,B,A]<;>(try rfl))
        refine .qt rfl ?_;simp (disch:=first|exact za|fail) only [go_sem,seval,D,A];refine .q ?_;refine .loopE [2,5,7,8,10] (fun k=>[(11,.p (i64 k)),(9,.p (i64 (fR (nth l i) c ^ k)))]) (fun k=>[]) (fun k=>True) (0) (pwQ q) (by omega) ?_ (by first | rfl | (simp (disch:=first|exact za|fail) only [go_sem,seval,D,A,Int.pow_zero]<;>rfl)) ?_ ?_ ?_
        · simp (disch:=first|exact za|fail) only [go_sem,seval,D,A,Int.pow_zero]<;>(repeat' (first | rfl | refine And.intro ?_ ?_))
        · exact trivial
        intro env E hQ;simp (disch:=first|exact za|fail) only [go_sem,seval,D,A,Int.pow_zero] at E
        rotate_left 1
        intro k env hk0 hk E hQ ihE;simp (disch:=first|exact za|fail) only [go_sem,seval,D,A,Int.pow_zero] at E
        rotate_left 1
        · refine .qt rfl ?_;simp (disch:=first|exact za|fail) only [go_sem,seval,E,D,A];refine .qF rfl ?_;refine .qt rfl ?_;simp (disch:=first|exact za|fail) only [go_sem,seval,E,D,A];refine .qt rfl ?_;simp (disch:=first|exact za|fail) only [go_sem,seval,E,D,A]
          first | (refine ihA _ _ ?_ trivial ?_) | (refine .z rfl ?_;refine ihA _ _ ?_ trivial ?_) | (refine .z rfl ?_;refine .z rfl ?_;refine ihA _ _ ?_ trivial ?_) | (refine .z rfl ?_;refine .z rfl ?_;refine .z rfl ?_;refine ihA _ _ ?_ trivial ?_)
          · simp (disch:=first|exact za|fail) only [go_sem,seval,E,D,A,hsu]<;>(repeat' (first | rfl | refine And.intro ?_ ?_))
          · first | rfl | (simp (disch:=first|exact za|fail) only [go_sem,seval,E,D,A,hsu]<;>(try rfl))
        · obtain⟨q1,q2⟩:=ziB f1 f2 (show k+1≤6 by omega)
          rw [Int.pow_succ] at q1 q2;refine .qt rfl ?_;simp (disch:=first|exact za|fail) only [go_sem,seval,E,D,A];refine .qT rfl ?_
          have hfs : ∀ (H:Hp) (R:AV → Hp → Prop),R (.p (i64 (fR (nth l i) c))) H → ACall Tryz.prog G 69 [.p (rdg (nth l i)),.p (i64 q.col)] H R:=fun H R h=>by rw [hc];exact zeX (nth l i) c hc4 H R h
          refine .q ?_;refine .open [] follows (by kernel_rfl) ?_;simp (disch:=first|exact za|fail) only [go_sem,seval,E,D,A];refine CallD.still (fun R h=>hfs _ R h) ?_;simp (disch:=first|exact za|fail) only [go_sem,seval,E,D,A];rw [←Int.pow_succ];refine .qt rfl ?_;simp (disch:=first|exact za|fail) only [go_sem,seval,E,D,A]
          first | (refine ihE _ _ ?_ trivial ?_) | (refine .z rfl ?_;refine ihE _ _ ?_ trivial ?_) | (refine .z rfl ?_;refine .z rfl ?_;refine ihE _ _ ?_ trivial ?_) | (refine .z rfl ?_;refine .z rfl ?_;refine .z rfl ?_;refine ihE _ _ ?_ trivial ?_)
          · simp (disch:=first|exact za|fail) only [go_sem,seval,E,D,A]<;>(repeat' (first | rfl | refine And.intro ?_ ?_))
          · first | rfl | (simp (disch:=first|exact za|fail) only [go_sem,seval,E,D,A]<;>(try rfl))
end walks
end Go.Proofs.YthaoifcebimkfaaGreatDoor

namespace Go.Proofs.YthaoifcebimkfaaGreatDoor
open Go Go.AL

def xS (s:Strm) (r c:Nat):Nat:=if r < s.l.length then (fR (nth s.l r) c).toNat else 0
def lvS (s:Strm) (r:Nat):Bool:=decide (r < s.l.length) && !nth s.gone r
theorem zEz {s:Strm} {m:Nat} (hs:okS m s) {r:Nat} (hr:r < s.l.length) {f:List Cnd} (hf:vF f=true):mtF (xS s r) f=mtR f (nth s.l r):=by
 unfold mtF mtR;have hv:=hs.v (nth s.l r) (by rw [zc hr];exact List.getElem_mem _)
 have key : ∀ c∈f,mtc (xS s r) c=zov (nth s.l r) c:=fun c hc=>by
  obtain⟨i,hi,rfl⟩:=List.getElem_of_mem hc
  have h1:=zjU (zjV hf hi);rw [zc hi] at h1;have h2:=ze1 hv (c:=(f[i]).col.toNat) (by omega);unfold mtc zov xS;rw [if_pos hr,Int.toNat_of_nonneg h2.1];by_cases a:fR (nth s.l r) (f[i]).col.toNat < (f[i]).lo
  · rw [decide_eq_true a,decide_eq_false (by omega)];rfl
  · by_cases b:(f[i]).hi < fR (nth s.l r) (f[i]).col.toNat
    · rw [decide_eq_true b,decide_eq_false (show ¬ fR (nth s.l r) (f[i]).col.toNat≤(f[i]).hi by omega),Bool.and_false,Bool.or_true];rfl
    · rw [decide_eq_false a,decide_eq_false b,decide_eq_true (show (f[i]).lo≤fR (nth s.l r) (f[i]).col.toNat by omega),decide_eq_true (show fR (nth s.l r) (f[i]).col.toNat≤(f[i]).hi by omega)];rfl
 induction f with
 | nil=>rfl
 | cons c f ih =>
  have hfl:vF f=true:=by
   unfold vF at hf ⊢;simp only [Bool.and_eq_true,decide_eq_true_eq,List.length_cons,List.all_cons] at hf ⊢
   exact⟨by omega,hf.2.2⟩
  rw [List.all_cons,List.all_cons,key c (List.mem_cons_self ..),ih hfl fun c hc=>key c (List.mem_cons_of_mem _ hc)]
theorem zB1 {q:Qry} {x:Nat → Nat} {j:Nat}:smR q x false j=0:=by
 unfold smR;simp only [Bool.false_and,b2n,Bool.false_eq_true,if_false,Nat.zero_mul,ite_self]
theorem zoy {s:Strm} {q:Qry} {j:Nat} : ∀ d,smT q (xS s) (lvS s) j (s.l.length+d)=smT q (xS s) (lvS s) j s.l.length
 | 0=>rfl
 | d+1=>by
  rw [Nat.add_succ,smT,zoy d]
  have:lvS s (s.l.length+d)=false:=by unfold lvS;rw [decide_eq_false (by omega)];rfl
  rw [this,zB1,Nat.add_zero]
theorem zj9 {s:Strm} {i:Nat} (hi:i < s.l.length):(lvS s i=true∧zas s (i+1)=zas s i++[nth s.l i]) ∨ (lvS s i=false∧zas s (i+1)=zas s i):=by
 unfold lvS;rw [zas,decide_eq_true hi]
 cases nth s.gone i
 · exact .inl ⟨rfl,rfl⟩
 · exact .inr ⟨rfl,rfl⟩
theorem zoz {l:List Rdg} {r:Rdg} {f:List Cnd} {c pw:Nat} : ∀ i,i≤l.length → zcJ (l++[r]) f c pw i=zcJ l f c pw i
 | 0,_=>rfl
 | i+1,hi=>by rw [zcJ,zcJ,zoz i (by omega),zv (by omega)]
section sums
variable {s:Strm} {m:Nat} {q:Qry}
theorem zg6 (hs:okS m s) {f:List Cnd} (hf:vF f=true) {c:Nat} (hc:c < 4) (v:Nat) (g:(Nat → Nat) → Bool → Nat) (hg : ∀ x live,g x live=b2n (live && mtF x f && decide (x c=v))) :
 ∀ i,i≤s.l.length → (zas s i).countP (fun r=>mtR f r && decide (fR r c=(v:Int)))=((List.range i).map fun r=>g (xS s r) (lvS s r)).sum
 | 0,_=>rfl
 | i+1,hi=>by
  have ih:=zg6 hs hf hc v g hg i (by omega);have hr:=ze1 (hs.v (nth s.l i) (by rw [zc (by omega)];exact List.getElem_mem _)) hc;rw [List.range_succ,List.map_append,List.sum_append,←ih];simp only [List.map_cons,List.map_nil,List.sum_cons,List.sum_nil,Nat.add_zero]
  rcases zj9 (s:=s) (i:=i) (by omega) with ⟨h1,h2⟩ | ⟨h1,h2⟩
  · rw [h2,List.countP_append,hg,h1,Bool.true_and,zEz hs (by omega) hf]
    congr 1
    have e:decide (fR (nth s.l i) c=(v:Int))=decide (xS s i c=v):=by
     unfold xS;rw [if_pos (by omega),decide_eq_decide];omega
    simp only [List.countP_cons,List.countP_nil,Nat.zero_add,e];rfl
  · rw [h2,hg,h1];rfl
theorem ztd (j:Nat) : ∀ i,smT q (xS s) (lvS s) j i=((List.range i).map fun r=>smR q (xS s r) (lvS s r) j).sum
 | 0=>rfl
 | i+1=>by rw [smT,ztd j i,List.range_succ,List.map_append,List.sum_append];simp
theorem zte (hs:okS m s) {f:List Cnd} (hf:vF f=true) {c pw:Nat} (hc:c < 4) (g:(Nat → Nat) → Bool → Nat) (hg : ∀ x live,g x live=b2n (live && mtF x f)*x c ^ pw) :
 ∀ i,i≤s.l.length → zcJ (zas s i) f c pw (zas s i).length=(((List.range i).map fun r=>g (xS s r) (lvS s r)).sum:Nat)
 | 0,_=>rfl
 | i+1,hi=>by
  have ih:=zte hs hf hc g hg i (by omega);have hr:=ze1 (hs.v (nth s.l i) (by rw [zc (by omega)];exact List.getElem_mem _)) hc;rw [List.range_succ,List.map_append,List.sum_append,Int.natCast_add,←ih];simp only [List.map_cons,List.map_nil,List.sum_cons,List.sum_nil,Nat.add_zero]
  rcases zj9 (s:=s) (i:=i) (by omega) with ⟨h1,h2⟩ | ⟨h1,h2⟩
  · rw [h2,List.length_append,hg,h1,Bool.true_and,zEz hs (by omega) hf]
    show zcJ _ _ _ _ ((zas s i).length+1)=_
    rw [zcJ,zoz _ (Nat.le_refl _),zm (Nat.le_refl _),Nat.sub_self,zw]
    congr 1
    have e:fR (nth s.l i) c=(xS s i c:Nat):=by unfold xS;rw [if_pos (by omega)];omega
    rw [e]
    cases mtR f (nth s.l i)
    · simp [b2n]
    · simp [b2n]
  · rw [h2,hg,h1];simp [b2n]
theorem zcL (he:ya q=0):(zcK q s).length=zdh q:=by
 have hk:=(zgz he).kind;unfold zcK zdh;dsimp only
 split
 · rw [yl,if_neg (by omega),if_neg (by omega)]
 · split
   · rw [List.length_append,yl,yl,if_neg (by omega)]
   · rw [if_pos (by omega)];rfl
theorem zoA (he:ya q=0) (hs:okS m s) {j:Nat} (hj:j < zdh q):nth (zcK q s) j=(smT q (xS s) (lvS s) j s.l.length:Nat):=by
 have hq:=ziw he;have hF:=zgz he
 have hf0:0 < q.fl.length:=by rw [hF.fl];split<;>decide
 have v0:=zaS hq hf0
 have hc4:q.col.toNat < 4:=by have:=hF.col;omega
 have hk:=hF.kind;rw [ztd];unfold zcK;dsimp only;by_cases k456:q.kind=4 ∨ q.kind=5 ∨ q.kind=6
 · rw [if_pos k456];unfold zdh at hj;rw [if_neg (by omega),if_neg (by omega)] at hj;rw [zdi hj,zgR,List.take_length,zg6 hs v0 hc4 j (fun x live=>smR q x live j) (fun x live=>by unfold smR;rw [if_neg (by omega),if_neg (by omega),if_neg (by omega)]) _ (Nat.le_refl _)]
 · rw [if_neg k456];by_cases k7:q.kind=7
   · rw [if_pos k7]
     have hf1:1 < q.fl.length:=by rw [hF.fl,if_pos k7];decide
     have v1:=zaS hq hf1;unfold zdh at hj;rw [if_neg (by omega),if_pos k7] at hj;by_cases e:j < 16
     · rw [zv (by rw [yl];exact e),zdi e,zgR,List.take_length,zg6 hs v0 (show 0 < 4 by omega) j (fun x live=>smR q x live j) (fun x live=>by unfold smR;rw [if_neg (by omega),if_neg (by omega),if_pos k7,if_pos e]) _ (Nat.le_refl _)]
     · rw [zm (by rw [yl];omega),yl,zdi (by omega),zgR,List.take_length,zg6 hs v1 (show 0 < 4 by omega) (j - 16) (fun x live=>smR q x live j) (fun x live=>by unfold smR;rw [if_neg (by omega),if_neg (by omega),if_pos k7,if_neg e]) _ (Nat.le_refl _)]
   · rw [if_neg k7];unfold zdh at hj;rw [if_pos (by omega)] at hj
     obtain rfl:j=0:=by omega
     rw [zw];refine zte hs v0 hc4 (fun x live=>smR q x live 0) (fun x live => ?_) _ (Nat.le_refl _);unfold smR pwQ;by_cases k1:q.kind=1
     · rw [if_pos k1,if_neg (by omega),if_neg (by omega),Nat.pow_zero,Nat.mul_one]
     · rw [if_neg k1,if_pos (by omega)];by_cases k2:q.kind=2
       · rw [if_pos k2]
         have hK:q.k=0:=by
          have hq':=hq;simp only [vQ,Bool.and_eq_true,decide_eq_true_eq] at hq';have hk1:=hq'.2.2.2.1;rw [k2,show yt 2=0 from rfl] at hk1;omega
         rw [hK];rfl
       · have k3:q.kind=3:=by omega
         rw [if_neg k2,if_pos k3]
         have hK:1≤q.k:=by
          have hq':=hq;simp only [vQ,Bool.and_eq_true,decide_eq_true_eq] at hq';have hk1:=hq'.2.2.2.1.1;rw [k3,show yt 3=6 from rfl] at hk1;omega
         rw [show (q.k - 1).toNat+1=q.k.toNat by omega]
end sums
end Go.Proofs.YthaoifcebimkfaaGreatDoor

namespace Go.Proofs.YthaoifcebimkfaaGreatDoor
open Go Go.AL

structure Cols (s:Strm) (n:Nat) (cols:List (List U)):Prop where
 cnt:cols.length=29
 len : ∀ i,i < 29 → (nth cols i).length=n
 fv : ∀ i,i < 29 → ∀ r,r < n → valid (nth (nth cols i) r)=true
 fst : ∀ c,c < 5 → nth cols c=zbn s n c
def BitOk (s:Strm) (n:Nat) (cols:List (List U)) (c:Nat):Prop := ∀ k,k < zN c → nth cols (zf c+k)=zaX s n c k
theorem zB2 {c k:Nat} (hc:c < 4) (hk:k < zN c):5≤zf c+k:=by
 have h:c=0 ∨ c=1 ∨ c=2 ∨ c=3:=by omega
 rcases h with rfl | rfl | rfl | rfl<;>simp [zf,nth]<;>omega
theorem zGm {c:Nat} (hc:c < 4):zf c=5+wdT c:=by
 have h:c=0 ∨ c=1 ∨ c=2 ∨ c=3:=by omega
 rcases h with rfl | rfl | rfl | rfl<;>rfl
theorem zoB {s:Strm} {n c k:Nat} (hk:k < zN c) : ∀ d,nth (yx s n (c+1+d)) (wdT c+k)=zaX s n c k
 | 0=>by
  rw [Nat.add_zero,yx,zm (by rw [yZ];omega),yZ,Nat.add_sub_cancel_left,zfb (by simpa using hk)]
  congr 1
  rw [zc (by simpa using hk)];simp
 | d+1=>by
  rw [←Nat.add_assoc,yx,zv,zoB hk d];rw [yZ]
  have:wdT (c+1)=wdT c+zN c:=rfl
  have hm : ∀ d,wdT (c+1)≤wdT (c+1+d):=fun d=>by
   induction d with
   | zero=>exact Nat.le_refl _
   | succ d ih=>exact Nat.le_trans ih (Nat.le_add_right _ _)
  have:=hm d
  omega
theorem zdj {s:Strm} {n:Nat}:(zK s n).length=5:=by simp [zK]
theorem ziE {s:Strm} {n c:Nat} (hc:c < 5):nth (zaG s n) c=zbn s n c:=by
 unfold zaG;rw [zv (by rw [zdj];exact hc),zj0 hc]
theorem zfK {s:Strm} {n c k:Nat} (hc:c < 4) (hk:k < zN c):nth (zaG s n) (zf c+k)=zaX s n c k:=by
 have h5:=zB2 hc hk;unfold zaG;rw [zm (by rw [zdj];exact h5),zdj]
 have e1:zf c+k - 5=wdT c+k:=by rw [zGm hc];omega
 have e2:c+1+(3 - c)=4:=by omega
 rw [e1,←e2,zoB hk]
theorem zlF {s:Strm} {n:Nat}:(zaG s n).length=29:=by
 unfold zaG;rw [List.length_append,zdj,yZ];rfl
theorem zfL {s:Strm} {m:Nat} (hs:okS m s) {c i:Nat} (hc:c < 4):(elC s c i).toNat=xS s i c∧xS s i c < 2 ^ zN c:=by
 unfold elC xS;by_cases h:i < s.l.length
 · rw [if_pos h,if_pos h,if_pos hc];have hr:=ze1 (hs.v (nth s.l i) (by rw [zc h];exact List.getElem_mem _)) hc
   refine⟨?_,?_⟩
   · rw [BitVec.toNat_ofInt]
     have:(fR (nth s.l i) c % ((2 ^ 64:Nat):Int))=fR (nth s.l i) c:=Int.emod_eq_of_lt hr.1 (by have:=hr.2.1;omega)
     rw [this]
   · unfold zN
     split
     · have:=hr.2.2 (by assumption);omega
     · have:=hr.2.1;omega
 · rw [if_neg h,if_neg h]
   exact⟨rfl,Nat.two_pow_pos _⟩
theorem zoC {s:Strm} {i:Nat}:elC s 4 i=if lvS s i then 1#64 else 0#64:=by
 unfold elC lvS;by_cases h:i < s.l.length
 · rw [if_pos h,if_neg (by decide),decide_eq_true h,Bool.true_and]
   cases nth s.gone i<;>rfl
 · rw [if_neg h,decide_eq_false h,Bool.false_and];rfl
theorem zg7 (x:U) (k:Nat):((x >>> k) &&& 1#64)=if bt x.toNat k then 1#64 else 0#64:=by
 apply BitVec.eq_of_toNat_eq;rw [BitVec.toNat_and,BitVec.toNat_ushiftRight,Nat.shiftRight_eq_div_pow]
 show x.toNat / 2 ^ k &&& 1=_
 rw [Nat.and_one_is_mod];unfold bt
 rcases Nat.mod_two_eq_zero_or_one (x.toNat / 2 ^ k) with h | h<;>rw [h]<;>rfl
theorem zfM {s:Strm} {n c k r:Nat} (h:r < n):nth (zaX s n c k) r=(elC s c r >>> k) &&& 1#64:=by simp [zaX,nth,h]
theorem zoD {s:Strm} {n c k:Nat}:(zaX s n c k).length=n:=by simp [zaX]
theorem zB3 {s:Strm} {n c:Nat}:(zbn s n c).length=n:=by simp [zbn]
theorem zf8 (b:Bool):valid (if b then 1#64 else 0#64)=true:=by cases b<;>decide
theorem zr1 (b:Bool):fe (if b then 1#64 else 0#64)=b01 b:=by cases b<;>rfl
theorem zr2 {x:U} {v:Nat} (h:x.toNat=v):fe x=fn v:=by unfold fe fn;rw [h]
theorem zG7 {i:Nat} (hi:i < 29):i < 5 ∨ ∃ c k,c < 4∧k < zN c∧i=zf c+k:=by
 by_cases h5:i < 5
 · exact .inl h5
 refine .inr ?_;by_cases h9:i < 9
 · exact⟨0,i - 5,by omega,by show _ < 4;omega,by show _=5+_;omega⟩
 by_cases h17:i < 17
 · exact⟨1,i - 9,by omega,by show _ < 8;omega,by show _=9+_;omega⟩
 by_cases h21:i < 21
 · exact⟨2,i - 17,by omega,by show _ < 4;omega,by show _=17+_;omega⟩
 · exact⟨3,i - 21,by omega,by show _ < 8;omega,by show _=21+_;omega⟩
theorem zoE {x:U} {v:Nat} (h:x.toNat=v) (hv:v < 256):valid x=true:=yp.2 (by omega)
theorem zB4 (c:Nat):2 ^ zN c≤256:=by unfold zN;split<;>decide
theorem zxr {s:Strm} {m:Nat} (hs:okS m s) {c i:Nat} (hc:c < 5):valid (elC s c i)=true:=by
 by_cases h4:c < 4
 · obtain⟨h1,h2⟩:=zfL hs (i:=i) h4
   have:=zB4 c
   exact zoE h1 (by omega)
 · obtain rfl:c=4:=by omega
   rw [zoC];exact zf8 _
theorem zf9 {s:Strm} {m n:Nat} (hs:okS m s):Cols s n (zaG s n) ∧ ∀ c,c < 4 → BitOk s n (zaG s n) c:=by
 refine⟨⟨zlF,fun i hi => ?_,fun i hi r hr => ?_,fun c hc=>ziE hc⟩,fun c hc k hk=>zfK hc hk⟩
 · rcases zG7 hi with h | ⟨c,k,hc,hk,rfl⟩
   · rw [ziE h,zB3]
   · rw [zfK hc hk,zoD]
 · rcases zG7 hi with h | ⟨c,k,hc,hk,rfl⟩
   · rw [ziE h,zd3 hr];exact zxr hs h
   · rw [zfK hc hk,zfM hr,zg7];exact zf8 _
theorem Cols.row {s:Strm} {m n:Nat} (hs:okS m s) {cols:List (List U)} (h:Cols s n cols) {r:Nat} (hr:r < n) {u:Nat → Bool} (hu : ∀ c,c < 4 → u c=true → BitOk s n cols c):Rw (yS cols r) (xS s r) (lvS s r) u:=by
 have hat : ∀ i,i < 29 → nth (yS cols r) i=nth (nth cols i) r:=fun i hi=>yb (by rw [h.cnt];exact hi)
 refine⟨Fv.of fun i hi => ?_,?_,fun c hc => ?_,fun c hc hut k hk => ?_⟩
 · rw [zc7,h.cnt] at hi;rw [hat i hi];exact h.fv i hi r hr
 · rw [hat 4 (by omega),h.fst 4 (by omega),zd3 hr,zoC,zr1]
 · obtain⟨h1,h2⟩:=zfL hs (i:=r) hc
   rw [hat c (by omega),h.fst c (by omega),zd3 hr]
   exact⟨zr2 h1,h2⟩
 · rw [hat _ (zcc hc hk),hu c hc hut k hk,zfM hr,zg7,zr1,(zfL hs hc).1]
theorem Cols.bits {q:Qry} (he:ya q=0) {s:Strm} {m n:Nat} (hs:okS m s) {cols:List (List U)} (h:Cols s n cols) (hz:zc9 (compC q) cols n=none) : ∀ c,c < 4 → zO q c=true → BitOk s n cols c:=by
 intro c hc hu k hk
 refine zfc (by rw [h.len _ (zcc hc hk),zoD]) fun r hr => ?_
 rw [h.len _ (zcc hc hk)] at hr
 have hat : ∀ i,i < 29 → nth (yS cols r) i=nth (nth cols i) r:=fun i hi=>yb (by rw [h.cnt];exact hi)
 have hF:Fv (yS cols r):=(h.row hs hr (u:=fun _=>false) fun c _ e=>by cases e).fv;have h0:=zbj.1 hz r hr;have hZ:=(zB0 he hF).1 h0
 obtain⟨h1,h2⟩:=zfL hs (i:=r) hc
 have hb:=zGj (hZ.2 c hc hu) h2 (by rw [hat c (by omega),h.fst c (by omega),zd3 hr];exact zr2 h1) k hk;unfold bI at hb;rw [hat _ (zcc hc hk)] at hb;refine zqV (h.fv _ (zcc hc hk) r hr) (by rw [zfM hr,zg7];exact zf8 _) ?_;rw [hb,zfM hr,zg7,zr1,h1]
theorem Cols.zero {q:Qry} (he:ya q=0) {s:Strm} {m n:Nat} (hs:okS m s) {cols:List (List U)} (h:Cols s n cols) (hb : ∀ c,c < 4 → zO q c=true → BitOk s n cols c):zc9 (compC q) cols n=none:=by
 refine zbj.2 fun r hr => ?_
 have hR:=h.row hs hr hb;exact (zB0 he hR.fv).2 (zG6 hR)
theorem Cols.fits {q:Qry} {s:Strm} {n:Nat} {cols:List (List U)} (h:Cols s n cols):Fits (compC q) cols n :=
 ⟨by show (cols.length:Int)=29;rw [h.cnt];rfl,fun i hi=>h.len i (by rw [←h.cnt];exact hi)⟩
theorem zGn {q:Qry} (he:ya q=0) {s:Strm} {m:Nat} (hs:okS m s) {r j:Nat}:smR q (xS s r) (lvS s r) j≤281474976710656:=by
 have hF:=zgz he
 have hb : ∀ b,b2n b≤1:=fun b=>by cases b<;>decide
 unfold smR
 split
 · exact Nat.le_trans (hb _) (by decide)
 · split
   · rename_i k2
     have hc:q.col.toNat < 4:=by have:=hF.col;omega
     have hx:=(zfL hs (i:=r) hc).2;have h256:=zB4 q.col.toNat;have h1:xS s r q.col.toNat ^ ((q.k - 1).toNat+1)≤256 ^ ((q.k - 1).toNat+1):=Nat.pow_le_pow_left (by omega) _;have h2:256 ^ ((q.k - 1).toNat+1)≤256 ^ 6:=Nat.pow_le_pow_right (by decide) (by have:=hF.k.2 k2;omega)
     have h6:256 ^ 6=281474976710656:=by decide
     have:=Nat.mul_le_mul (hb (lvS s r && mtF (xS s r) (nth q.fl 0))) (Nat.le_trans h1 h2)
     omega
   · split
     · split<;>exact Nat.le_trans (hb _) (by decide)
     · exact Nat.le_trans (hb _) (by decide)
theorem zB5 {q:Qry} (he:ya q=0) {s:Strm} {m:Nat} (hs:okS m s) {j:Nat} : ∀ N,smT q (xS s) (lvS s) j N≤281474976710656*N
 | 0=>Nat.le_refl _
 | N+1=>by
  have:=zB5 he hs (j:=j) N
  have:=zGn he hs (r:=N) (j:=j)
  rw [smT];omega
theorem zka {q:Qry} (he:ya q=0) {s:Strm} {m:Nat} (hs:okS m s) (hm:m≤64) {j:Nat} (hj:j < zdh q):0≤nth (zcK q s) j∧nth (zcK q s) j≤18014398509481984:=by
 rw [zoA he hs hj];have h1:=zB5 he hs (j:=j) s.l.length;have h2:=hs.len;omega
theorem Cols.sums {q:Qry} (he:ya q=0) {s:Strm} {m n:Nat} (hs:okS m s) (hm:m≤64) (hn:s.l.length≤n) {cols:List (List U)} (h:Cols s n cols) (hb : ∀ c,c < 4 → zO q c=true → BitOk s n cols c) :
 yc (compC q) cols n=(zcK q s).map fi:=by
 have hc:(yi q).1.length=zdh q:=zg5 he
 have hl:(yc (compC q) cols n).length=zdh q:=by rw [zcD];show ((yi q).1.length:Int).toNat=_;omega
 refine zfc (by rw [hl,List.length_map,zcL he]) fun j hj => ?_
 rw [hl] at hj
 obtain⟨h1,h2⟩:=zou he n (fun r hr=>h.row hs hr hb) j hj
 have hr:=zka he hs hm hj;rw [zfb (by rw [zcL he];exact hj)];have hat:=zoA he hs hj
 obtain⟨d,rfl⟩ : ∃ d,n=s.l.length+d:=⟨n - s.l.length,by omega⟩
 rw [zoy] at h2;rw [hat] at hr ⊢
 generalize smT q (xS s) (lvS s) j s.l.length=v at h2 hr
 have e:fi (v:Int)=BitVec.ofNat 64 v:=by unfold fi;rw [if_neg (by omega),Int.toNat_natCast]
 rw [e]
 have hv:(BitVec.ofNat 64 v).toNat=v:=by rw [BitVec.toNat_ofNat];exact Nat.mod_eq_of_lt (by omega)
 exact zqV h1 (yp.2 (by rw [hv];omega)) (by rw [h2,zr2 hv])
theorem Cols.set {s:Strm} {n:Nat} {cols:List (List U)} (h:Cols s n cols) {k:Nat} (hk:5≤k) (hk2:k < 29) {col:List U} (hl:col.length=n) (hv : ∀ r,r < n → valid (nth col r)=true):Cols s n (cols.set k col):=by
 have hat : ∀ i,nth (cols.set k col) i=if i=k then col else nth cols i:=fun i=>by
  by_cases e:i=k
  · rw [if_pos e,zbU e.symm (by rw [h.cnt];exact hk2)]
  · rw [if_neg e,zbV (Ne.symm e)]
 refine⟨by rw [List.length_set,h.cnt],fun i hi => ?_,fun i hi r hr => ?_,fun c hc => ?_⟩
 · rw [hat];split
   · exact hl
   · exact h.len i hi
 · rw [hat];split
   · exact hv r hr
   · exact h.fv i hi r hr
 · rw [hat,if_neg (by omega)];exact h.fst c hc
theorem Cols.put {s:Strm} {n:Nat} {cols:List (List U)} (h:Cols s n cols) {k j:Nat} (hk:5≤k) (hk2:k < 29) {x:U} (hx:valid x=true):Cols s n (cols.set k ((nth cols k).set j x)):=by
 refine h.set hk hk2 (by rw [List.length_set,h.len k hk2]) fun r hr => ?_
 by_cases e:j=r
 · subst e;rw [zbU rfl (by rw [h.len k hk2];exact hr)];exact hx
 · rw [zbV e];exact h.fv k hk2 r hr
theorem BitOk.set {s:Strm} {n:Nat} {cols:List (List U)} {c:Nat} (h:BitOk s n cols c) {k:Nat} {col:List U} (hne : ∀ j,j < zN c → zf c+j≠k):BitOk s n (cols.set k col) c:=fun j hj=>by
 rw [zbV (Ne.symm (hne j hj))];exact h j hj
theorem zGo {a b i j:Nat} (ha:a < 4) (hb:b < 4) (hi:i < zN a) (hj:j < zN b) (h:a≠b):zf a+i≠zf b+j:=by
 have h1:a=0 ∨ a=1 ∨ a=2 ∨ a=3:=by omega
 have h2:b=0 ∨ b=1 ∨ b=2 ∨ b=3:=by omega
 rcases h1 with rfl | rfl | rfl | rfl<;>rcases h2 with rfl | rfl | rfl | rfl<;>simp [zf,zN,nth] at hi hj h ⊢ <;> omega
end Go.Proofs.YthaoifcebimkfaaGreatDoor

namespace Go.Proofs.YthaoifcebimkfaaGreatDoor
open Go Go.AL

structure Chg where
 col:BitVec 8
 row:BitVec 8
 v:U
instance:Inhabited Chg:=⟨⟨0#8,0#8,0#64⟩⟩
def chg (c:Chg):PV := .agg [b8 c.col,b8 c.row,zg c.v]
section enc
variable {c:Chg}
theorem zr3:zh (.p (chg c))=some [.p (b8 c.col),.p (b8 c.row),.p (zg c.v)]:=rfl
theorem zxs:(chg c).cells=[b8 c.col,b8 c.row,zg c.v]:=rfl
end enc
attribute [go_sem] zr3 zxs
theorem ziF {x:U}:valid (zcw x)=true:=by rw [yp,zcB];omega
section walks
variable {G:Globs}
set_option maxHeartbeats 8000000 in
theorem zxt (l:List Int) (hl:l.length≤1000) (hv : ∀ j,j < l.length → 0≤nth l j∧nth l j≤18014398509481984) (H:Hp) (R:AV → Hp → Prop) (h:R (.p (.sl false 1 (pl zg (l.map fi)))) H):ACall Tryz.prog G 25 [.p (.sl false 1 (pl i64 l))] H R:=by
 refine ACall.of_run (raw:=[]) Tryz.func25 rfl Tryz.ntmps25 (by simp) fun hbel => ?_
 refine .qt rfl ?_;simp (disch:=first|exact za|fail) only [go_sem,seval];refine .qt rfl ?_;simp (disch:=first|exact za|fail) only [go_sem,seval];refine .q ?_;refine .own 3 (by simp (disch:=first|exact za|fail) only [go_sem,seval];rfl) ?_;refine .qt rfl ?_;simp (disch:=first|exact za|fail) only [go_sem,seval];refine .q ?_;refine .loopH [0] (fun i=>[(3,.sl H.n i 1 (pl zg ((l.take i).map fi))),(4,.p (i64 i))]) (fun i=>H.new (.tail i)) (fun i=>True) (0) (l.length) (by omega) ?_ (by first | rfl | (simp (disch:=first|exact za|fail) only [go_sem,seval]<;>rfl)) ?_ ?_ ?_
 · simp (disch:=first|exact za|fail) only [go_sem,seval]<;>(repeat' (first | rfl | refine And.intro ?_ ?_))
 · exact trivial
 intro env A hQ;simp (disch:=first|exact za|fail) only [go_sem,seval] at A
 rotate_left 1
 intro i env hi0 hi A hQ ihA;simp (disch:=first|exact za|fail) only [go_sem,seval] at A
 rotate_left 1
 · refine .qt rfl ?_;simp (disch:=first|exact za|fail) only [go_sem,seval,A];refine .qF rfl ?_;refine .qt rfl ?_;simp (disch:=first|exact za|fail) only [go_sem,seval,A,List.take_length];refine .qr rfl Tryz.func25 (by rw [Tryz.results25]) (hx:=by simp (disch:=first|exact za|fail) only [go_sem,seval,A,List.take_length];rfl) ?_;simp (disch:=first|exact za|fail) only [go_sem,seval,A,List.take_length];exact h
 · have hr:=hv i hi
   have hap:pl zg ((l.take i).map fi)++[zg (fi (nth l i))]=pl zg ((l.take (i+1)).map fi):=by
    rw [take_one hi,List.map_append,←yn];rfl
   refine .qt rfl ?_;simp (disch:=first|exact za|fail) only [go_sem,seval,A];refine .qT rfl ?_;refine .qt rfl ?_;simp (disch:=first|exact za|fail) only [go_sem,seval,A];refine CallK.of (fun R h=>zi6 (nth l i) (by omega) (by omega) _ R h) ?_;simp (disch:=first|exact za|fail) only [go_sem,seval,A,hap];refine .qt rfl ?_;simp (disch:=first|exact za|fail) only [go_sem,seval,A]
   first | (refine ihA _ _ ?_ trivial ?_) | (refine .z rfl ?_;refine ihA _ _ ?_ trivial ?_) | (refine .z rfl ?_;refine .z rfl ?_;refine ihA _ _ ?_ trivial ?_) | (refine .z rfl ?_;refine .z rfl ?_;refine .z rfl ?_;refine ihA _ _ ?_ trivial ?_)
   · simp (disch:=first|exact za|fail) only [go_sem,seval,A]<;>(repeat' (first | rfl | refine And.intro ?_ ?_))
   · first | rfl | (simp (disch:=first|exact za|fail) only [go_sem,seval,A]<;>(try rfl))
set_option maxHeartbeats 4000000 in
theorem zga (a b:List U) (hl:a.length≤1000000) (H:Hp) (R:AV → Hp → Prop) (h:R (.p (bo (decide (a=b)))) H):ACall Tryz.prog G 24 [.p (.sl false 1 (pl zg a)),.p (.sl false 1 (pl zg b))] H R:=by
 refine ACall.of_run (raw:=[]) Tryz.func24 rfl Tryz.ntmps24 (by simp) fun hbel => ?_
 refine .qt rfl ?_;simp (disch:=first|exact za|fail) only [go_sem,seval];refine .qt rfl ?_;simp (disch:=first|exact za|fail) only [go_sem,seval];refine CallK.of (fun R h=>zrF [a] [b] (by simp) (fun x hx=>by simp only [List.mem_singleton] at hx;subst hx;exact hl) _ R h) ?_;simp (disch:=first|exact za|fail) only [go_sem,seval];refine .qr rfl Tryz.func24 (by rw [Tryz.results24]) ?_;simp (disch:=first|exact za|fail) only [go_sem,seval];exact h
end walks
end Go.Proofs.YthaoifcebimkfaaGreatDoor

namespace Go.Proofs.YthaoifcebimkfaaGreatDoor
open Go Go.AL Go.ChangeShapes Go.WideShapes Go.ChangeAt Go.RowKit

set_option maxRecDepth 100000
theorem zGp {k:Nat} {y:List PV} (h:Reads Tryz.prog (k+2) 55 y) : ∃ c:Chg,zbw true y=chg c∧True:=by
 obtain⟨y1,z1,rfl,-,r1,y2,z2,rfl,-,r2,y3,z3,rfl,-,r3,rfl⟩:=Reads.struct Tryz.underlying55 h
 obtain⟨a,rfl⟩:=Reads.u8 Tryz.underlying5 r1
 obtain⟨b,rfl⟩:=Reads.u8 Tryz.underlying5 r2
 obtain⟨c,rfl⟩:=Reads.u64 Tryz.underlying53 r3
 exact⟨⟨a,b,c⟩,rfl,trivial⟩
theorem ziG {W:World} {v:Value} {H:Type} {enc:TypeId × Value → H} {d:DataW H} {ps:List MemPlace} {base:Nat} (hval:Value.okWide Tryz.prog W .any base 52 v) (h:DataW.Trod enc Tryz.prog W 0 (fun _=>true) true 52 v d ps) :
 ∃ l:List Chg,l.length≤9223372036854775807∧RelV σ0 H0 W (.p (.sl false 3 (pl chg l))) v:=by
 obtain⟨xs,hx,e⟩:=zhI 8 (by kernel_rfl) hval h
 obtain⟨l,h1,rfl,-⟩:=Reads.sl (k:=7) chg (fun _=>True) Tryz.underlying52 cells55 zy0 hx fun y hy=>zGp hy
 rw [zyZ] at e
 exact⟨l,h1,e⟩
end Go.Proofs.YthaoifcebimkfaaGreatDoor

namespace Go.Proofs.YthaoifcebimkfaaGreatDoor
open Go Go.AL

structure LI (s:Strm) (α:Nat) (Y H':Hp) (cols:List (List U)):Prop where
 c:Cols s 8 cols
 a:H'.f α=some (.vec (cl (ym 1 zg) cols))
 lo : ∀ b,b < Y.n → b≠α → H'.f b=Y.f b
 n:Y.n≤H'.n
 z:H'.z=Y.z
theorem ziH {l:List U} : ∀ x∈pl zg l,x.cells.length=1:=fun x hx=>by
 simp only [pl,List.mem_map] at hx
 obtain⟨y,_,rfl⟩:=hx
 rfl
theorem LI.low {s:Strm} {α:Nat} {H Y H':Hp} {cols:List (List U)} (h:LI s α Y H' cols) (hY:LowE H Y) (hα:H.n≤α):LowE H H' :=
 ⟨Nat.le_trans hY.n h.n,fun b hb=>(h.lo b (Nat.lt_of_lt_of_le hb hY.n) (by omega)).trans (hY.f b hb),h.z.trans hY.z⟩
section walks
variable {G:Globs} {r1:Nat} {m1:List (Int × Int)}
set_option maxHeartbeats 64000000 in
set_option maxRecDepth 20000 in
theorem zr4 (g:GW G r1 m1) (q:Qry) (hql:q.fl.length≤9223372036854775807) (l:List SOp) (hl:l.length≤9223372036854775807) (ch:List Chg) (hch:ch.length≤9223372036854775807) (H:Hp) (R:AV → Hp → Prop) (h:R (.p (bo true)) H) :
 ACall Tryz.prog G 4 [.p (qry q),.p (.sl false 4 (pl sop l)),.p (.sl false 3 (pl chg ch))] H R:=by
 refine ACall.of_run (raw:=[]) Tryz.func4 rfl Tryz.ntmps4 (by simp) fun hbel => ?_
 refine .qt rfl ?_;simp (disch:=first|exact za|fail) only [go_sem,seval];refine .qt rfl ?_;simp (disch:=first|exact za|fail) only [go_sem,seval];refine CallK.of (fun R h=>zd7 g _ R h) ?_;simp (disch:=first|exact za|fail) only [go_sem,seval];refine .qt rfl ?_;simp (disch:=first|exact za|fail) only [go_sem,seval];refine CallK.ex (zd8 q hql _) ?_
 rintro _ _ ⟨⟨p,hp,he,rfl⟩,rfl⟩
 have hk7:=(zgz he).kind
 have hpk:okI p.kind:=by unfold okI;omega
 simp (disch:=first|exact za|fail) only [go_sem,seval];refine .qt rfl ?_;simp (disch:=first|exact za|fail) only [go_sem,seval];refine CallK.ex (ze0 l 8 (by omega) hl _) ?_
 rintro _ _ ⟨⟨s,hs,rfl⟩,rfl⟩
 have hsl:=hs.len;simp (disch:=first|exact za|fail) only [go_sem,seval];refine .qt rfl ?_;simp (disch:=first|exact za|fail) only [go_sem,seval];refine CallK.ex (zeZ g p hpk _) ?_
 rintro _ _ ⟨⟨rfl,hok⟩,rfl⟩
 simp (disch:=first|exact za|fail) only [go_sem,seval];refine .qt rfl ?_;simp (disch:=first|exact za|fail) only [go_sem,seval];refine CallK.ex (zaU s 8 hs 3 8 (by omega) rfl (by omega) _) ?_
 rintro _ Y ⟨α,rfl,hα,hαn,hY⟩
 have hYL:LowE H Y:=((((LowE.new _).trans (.new _)).trans (.new _)).trans (.new _)).trans hY;have hY1:=(hY.f (H.n+1) (by simp only [n_new'];omega)).trans (by simp (disch:=first|exact za|fail) only [go_sem,seval]<;>rfl);have hY2:=(hY.f (H.n+2) (by simp only [n_new'];omega)).trans (by simp (disch:=first|exact za|fail) only [go_sem,seval]<;>rfl);have hY3:=(hY.f (H.n+3) (by simp only [n_new'];omega)).trans (by simp (disch:=first|exact za|fail) only [go_sem,seval]<;>rfl);have hYn:=hY.n;simp only [n_new'] at hYn hαn;have h29:(zaG s 8).length=29:=zlF;simp (disch:=first|exact za|fail) only [go_sem,seval,h29]
 rcases zea p he with ⟨hb,hc⟩ | ⟨hb,hc⟩
 · rw [hc];refine .qt rfl ?_;simp (disch:=first|exact za|fail) only [go_sem,seval];refine .qT rfl ?_;refine .qt rfl ?_;simp (disch:=first|exact za|fail) only [go_sem,seval];have hbel:Bel H.n Y:=hYL.bel hbel;refine .qr rfl Tryz.func4 (by rw [Tryz.results4]) ?_;simp (disch:=first|exact za|fail) only [go_sem,seval];rw [hYL.back];exact h
 · rw [hc] at hY3;rw [hc];dsimp only;dsimp only at hY3;have hv:=zlC he hb;have hαY:=Hp.lt hα;refine .qt rfl ?_;simp (disch:=first|exact za|fail) only [go_sem,seval];refine .qF rfl ?_;refine .skip ?_;refine .qt rfl ?_;simp (disch:=first|exact za|fail) only [go_sem,seval];refine .q ?_;refine .count (fun i env H'=>env 2 = .p (.sl false 3 (pl chg ch))∧env 7 = .p (bo true)∧env 8 = .ptr (H.n+1) 0∧env 9 = .ptr (H.n+2) 0∧env 10 = .ptr (H.n+3) 0∧env 12 = .vr α 29 1∧env 14 = .p (i64 i) ∧ ∃ cols,LI s α Y H' cols) 0 (min ch.length 6) (by omega) ?_ ?_ ?_
   · refine⟨?_,?_,?_,?_,?_,?_,?_,zaG s 8,⟨(zf9 hs).1,hα,fun _ _ _=>rfl,Nat.le_refl _,rfl⟩⟩<;>simp (disch:=first|exact za|fail) only [go_sem,seval]
   · rintro env Z ⟨e2,e7,e8,e9,e10,e12,e14,cols,hI⟩
     have hcn:=hI.c.cnt;have hαZ:=Hp.lt hI.a;have hZn:=hI.n;have hZ1:=(hI.lo (H.n+1) (by omega) (by omega)).trans hY1;have hZ2:=(hI.lo (H.n+2) (by omega) (by omega)).trans hY2;have hZ3:=(hI.lo (H.n+3) (by omega) (by omega)).trans hY3;have hZL:=hI.low hYL (by omega)
     have hcs:(ch.length≤6∧min ch.length 6=ch.length) ∨ (¬ ch.length≤6∧min ch.length 6=6):=by omega
     have h8:2 ^ 3=8:=rfl;have hfit:Fits (compC p) cols (2 ^ 3):=hI.c.fits
     have hlen:(zcK p s).length≤32:=by rw [zcL he];unfold zdh;split;decide;split<;>decide
     have hW1:(Z.set α .dead).f (H.n+1)=_:=(f_set_ne' (by omega)).trans hZ1;have hW2:(Z.set α .dead).f (H.n+2)=_:=(f_set_ne' (by omega)).trans hZ2;have hW3:(Z.set α .dead).f (H.n+3)=_:=(f_set_ne' (by omega)).trans hZ3;have hWL:LowE H (Z.set α .dead):=hZL.set _ (by omega);have hbel:Bel H.n (Z.set α .dead):=hWL.bel hbel
     rcases hcs with ⟨h6,hmin⟩ | ⟨h6,hmin⟩
     all_goals (
      rw [hmin] at e14;refine .qt rfl ?_;simp (disch:=first|exact za|fail) only [go_sem,seval,e2,e14];refine .qF rfl ?_;refine .q ?_;refine .frzV 12 (by simp (disch:=first|exact za|fail) only [go_sem,seval,e12,hI.a];rfl) (by simp (disch:=first|exact za|fail) only [go_sem,seval,e12,hI.a]<;>rfl) (xs:=pl (ym 1 zg) cols) (by rw [zcv,zfd]) (by rw [zad,hcn]) zd4 ?_;(try simp (disch:=first|exact za|fail) only [go_sem,seval,e12,hI.a])
      generalize Z.set α .dead=W at *
      refine .qt rfl ?_;simp (disch:=first|exact za|fail) only [go_sem,seval,e10,hW3];refine CallK.of (fun R h=>zb5 (compC p) hv cols 8 (by omega) hI.c.fits _ R h) ?_;simp (disch:=first|exact za|fail) only [go_sem,seval,e10,hW3];refine .qt rfl ?_;simp (disch:=first|exact za|fail) only [go_sem,seval,e10,hW3];refine CallK.of (fun R h=>zeu (compC p) hv cols 3 (by omega) hfit _ R h) ?_;simp (disch:=first|exact za|fail) only [go_sem,seval,e10,hW3]
      cases hz:zc9 (compC p) cols 8 with
      | some r =>
       refine .qt rfl ?_;simp (disch:=first|exact za|fail) only [go_sem,seval,e7,hz];refine .qr rfl Tryz.func4 (by rw [Tryz.results4]) ?_;simp (disch:=first|exact za|fail) only [go_sem,seval];rw [hWL.back];exact h
      | none =>
       have hbits:=hI.c.bits he hs hz;have hsum:=hI.c.sums he hs (by omega) (by omega) hbits;refine .qt rfl ?_;simp (disch:=first|exact za|fail) only [go_sem,seval,e7,e8,e9,hW1,hW2,hz];refine CallK.of (fun R h=>zox p he s 8 hs (by omega) _ R h) ?_;simp (disch:=first|exact za|fail) only [go_sem,seval,e7,e8,e9,hW1,hW2,hz,h8,hsum];refine CallK.of (fun R h=>zxt (zcK p s) (by omega) (fun j hj=>zka he hs (by omega) (by rw [←zcL he];exact hj)) _ R h) ?_;simp (disch:=first|exact za|fail) only [go_sem,seval,e7,e8,e9,hW1,hW2,hz,h8,hsum];refine CallK.of (fun R h=>zga _ _ (by rw [List.length_map];omega) _ R h) ?_;simp (disch:=first|exact za|fail) only [go_sem,seval,e7,e8,e9,hW1,hW2,hz,h8,hsum];refine .qr rfl Tryz.func4 (by rw [Tryz.results4]) ?_;simp (disch:=first|exact za|fail) only [go_sem,seval];rw [hWL.back]
       exact h)
   · rintro i env Z hi0 hi ⟨e2,e7,e8,e9,e10,e12,e14,cols,hI⟩ ih
     have hi1:i < ch.length:=by omega
     have hi6:i < 6:=by omega
     obtain⟨k,hk⟩ : ∃ k:Nat,5+((nth ch i).col.toNat:Int) % 24=(k:Int):=⟨5+(nth ch i).col.toNat % 24,by omega⟩
     have hk5:5≤k:=by omega
     have hk29:k < 29:=by omega
     have hlk:=hI.c.len k hk29;have hcn:=hI.c.cnt;have hαZ:=Hp.lt hI.a
     obtain⟨j,hj8,hrem⟩ : ∃ j:BitVec 8,j.toNat < 8∧zx Tryz.prog .rem 5 (.p (b8 (nth ch i).row)) (.p (b8 8#8))=some (.p (b8 j)) :=
      ⟨(nth ch i).row % 8#8,by rw [BitVec.toNat_umod];show _ % 8 < 8;omega,zbS _ _ _ _ (by decide)⟩
     have hq : ∀ x,(Z.new x).f α=some (.vec (cl (ym 1 zg) cols)):=fun x=>by rw [zb (by omega)];exact hI.a
     refine .qt rfl ?_;simp (disch:=first|exact za|fail) only [go_sem,seval,e2,e14];refine .qT rfl ?_;refine .qt rfl ?_;simp (disch:=first|exact za|fail) only [go_sem,seval,e2,e14,hk];refine .q ?_;refine .region ?_;refine .buildVec (sz:=1) (cs:=[]) (by simp (disch:=first|exact za|fail) only [go_sem,seval,yh,yI]<;>rfl) (by rfl) ?_;refine .run ?_;simp (disch:=first|exact za|fail) only [go_sem,seval,e12,hq,hcn,hlk]
     have hW0 : ∀ x,(Z.new x).f Z.n=some x:=fun x=>zk rfl
     refine .q ?_;refine .open [14] follows (by kernel_rfl) ?_;simp (disch:=first|exact za|fail) only [go_sem,seval,e2,e14,hrem,hlk,hW0];refine CallD.still (fun R h=>za1 _ _ R h) ?_;simp (disch:=first|exact za|fail) only [go_sem,seval,e2,e14,hrem,hlk,hW0];have hC2:=hI.c.put (j:=j.toNat) hk5 hk29 (ziF (x:=(nth ch i).v))
     have hl2:((nth cols k).set j.toNat (zcw (nth ch i).v)).length=8:=by rw [List.length_set,hlk]
     generalize (nth cols k).set j.toNat (zcw (nth ch i).v)=L at *
     refine .q ?_;refine .frzV 16 (by simp (disch:=first|exact za|fail) only [go_sem,seval,hW0];rfl) (by simp (disch:=first|exact za|fail) only [go_sem,seval,hW0]<;>rfl) (xs:=pl zg L) (by rw [zfe,zfd]) (by rw [zad,hl2]) ziH ?_;(try simp (disch:=first|exact za|fail) only [go_sem,seval,hW0]);refine .qt rfl ?_;simp (disch:=first|exact za|fail) only [go_sem,seval,e12,hq,hcn];refine .qt rfl ?_;simp (disch:=first|exact za|fail) only [go_sem,seval,e14];refine ih _ _ ⟨?_,?_,?_,?_,?_,?_,?_,cols.set k L,⟨hC2,?_,fun b hb hne => ?_,?_,hI.z⟩⟩
     · simp (disch:=first|exact za|fail) only [go_sem,seval,e2]
     · simp (disch:=first|exact za|fail) only [go_sem,seval,e7]
     · simp (disch:=first|exact za|fail) only [go_sem,seval,e8]
     · simp (disch:=first|exact za|fail) only [go_sem,seval,e9]
     · simp (disch:=first|exact za|fail) only [go_sem,seval,e10]
     · simp (disch:=first|exact za|fail) only [go_sem,seval,e12]
     · simp (disch:=first|exact za|fail) only [go_sem,seval]
     · rw [zb (by rw [n_set'];omega),zy rfl hαZ]
     · have hbZ:b < Z.n:=Nat.lt_of_lt_of_le hb hI.n;rw [zb (by rw [n_set'];omega),f_set_ne' hne];exact hI.lo b hb hne
     · have:=hI.n
       simp only [n_set',n_new'];omega
end walks
end Go.Proofs.YthaoifcebimkfaaGreatDoor

namespace Go.Proofs.YthaoifcebimkfaaGreatDoor
open Go Go.AL

section walks
variable {G:Globs}
set_option maxHeartbeats 4000000 in
theorem zlG (cols:List (List U)) (hl:cols.length≤1000) (r:Nat) (hr : ∀ i,i < cols.length → r < (nth cols i).length) (α:Nat) (H:Hp) (hα:H.f α=some (.vec (cl (ym 1 zg) cols))) (R:AV → Hp → Prop) (h:R (.p (.sl false 1 (pl zg (yS cols r)))) H) :
 ACall Tryz.prog G 61 [.vr α cols.length 1,.p (i64 r)] H R:=by
 refine ACall.of_run (raw:=[]) Tryz.func61 rfl Tryz.ntmps61 (by simp) fun hbel => ?_
 have hαn:=Hp.lt hα;refine .qt rfl ?_;simp (disch:=first|exact za|fail) only [go_sem,seval];refine .qt rfl ?_;simp (disch:=first|exact za|fail) only [go_sem,seval];refine .q ?_;refine .own 5 (by simp (disch:=first|exact za|fail) only [go_sem,seval];rfl) ?_;refine .qt rfl ?_;simp (disch:=first|exact za|fail) only [go_sem,seval];refine .q ?_;refine .loopE [0,1] (fun i=>[(5,.sl H.n i 1 (pl zg (tab (fun i=>nth (nth cols i) r) i))),(6,.p (i64 i))]) (fun i=>[(H.n,.tail i)]) (fun i=>True) (0) (cols.length) (by omega) ?_ (by first | rfl | (simp (disch:=first|exact za|fail) only [go_sem,seval,yu]<;>rfl)) ?_ ?_ ?_
 · simp (disch:=first|exact za|fail) only [go_sem,seval,yu]<;>(repeat' (first | rfl | refine And.intro ?_ ?_))
 · exact trivial
 intro env E hQ;simp (disch:=first|exact za|fail) only [go_sem,seval,yu] at E
 rotate_left 1
 intro i env hi0 hi E hQ ihE;simp (disch:=first|exact za|fail) only [go_sem,seval,yu] at E
 rotate_left 1
 · refine .qt rfl ?_;simp (disch:=first|exact za|fail) only [go_sem,seval,E,hα];refine .qF rfl ?_;refine .qt rfl ?_;simp (disch:=first|exact za|fail) only [go_sem,seval,E,hα];refine .qr rfl Tryz.func61 (by rw [Tryz.results61]) ?_;simp (disch:=first|exact za|fail) only [go_sem,seval];exact h
 · have hri:=hr i hi;refine .qt rfl ?_;simp (disch:=first|exact za|fail) only [go_sem,seval,E,hα];refine .qT rfl ?_;refine .qt rfl ?_;simp (disch:=first|exact za|fail) only [go_sem,seval,E,hα];refine .qt rfl ?_;simp (disch:=first|exact za|fail) only [go_sem,seval,E,hα]
   first | (refine ihE _ _ ?_ trivial ?_) | (refine .z rfl ?_;refine ihE _ _ ?_ trivial ?_) | (refine .z rfl ?_;refine .z rfl ?_;refine ihE _ _ ?_ trivial ?_) | (refine .z rfl ?_;refine .z rfl ?_;refine .z rfl ?_;refine ihE _ _ ?_ trivial ?_)
   · simp (disch:=first|exact za|fail) only [go_sem,seval,E,zbi]<;>(repeat' (first | rfl | refine And.intro ?_ ?_))
   · first | rfl | (simp (disch:=first|exact za|fail) only [go_sem,seval,E,zbi]<;>(try rfl))

set_option maxHeartbeats 4000000 in
theorem zxu (c:Circ) (hc:Ok c) (cols:List (List U)) (j:Nat) (hj:j≤16) (hf:Fits c cols (2 ^ j)) (α:Nat) (H:Hp) (hα:H.f α=some (.vec (cl (ym 1 zg) cols))) (R:AV → Hp → Prop) (h:R (.p (bo true)) H) :
 ACall Tryz.prog G 63 [.p (za2 c),.vr α cols.length 1] H R:=by
 refine ACall.of_run (raw:=[]) Tryz.func63 rfl Tryz.ntmps63 (by simp) fun hbel => ?_
 have hαn:=Hp.lt hα;have hn:=hf.n;have hi:=hc.inp
 have h1:((cols.length:Int) != c.inputs)=false:=by rw [hn];simp
 have h2:((cols.length:Int) == 0)=false:=by rw [beq_eq_false_iff_ne];omega
 have h3:decide ((j:Int) < 0)=false:=by simp
 have h4:=hf.len 0 (by omega);refine .qt rfl ?_;simp (disch:=first|exact za|fail) only [go_sem,seval];refine .qt rfl ?_;simp (disch:=first|exact za|fail) only [go_sem,seval,h1,h2,h4,hα];refine CallK.of (fun R h=>zgp j hj _ R h) ?_;simp (disch:=first|exact za|fail) only [go_sem,seval,h3];refine .qF rfl ?_;refine .skip ?_;refine .qt rfl ?_;simp (disch:=first|exact za|fail) only [go_sem,seval];refine .q ?_;refine .loopE [1] (fun i=>[(5,.p (i64 i))]) (fun i=>[]) (fun i=>True) (0) (cols.length) (by omega) ?_ (by first | rfl | (simp (disch:=first|exact za|fail) only [go_sem,seval]<;>rfl)) ?_ ?_ ?_
 · simp (disch:=first|exact za|fail) only [go_sem,seval]<;>(repeat' (first | rfl | refine And.intro ?_ ?_))
 · exact trivial
 intro env E hQ;simp (disch:=first|exact za|fail) only [go_sem,seval] at E
 rotate_left 1
 intro i env hi0 hi E hQ ihE;simp (disch:=first|exact za|fail) only [go_sem,seval] at E
 rotate_left 1
 · refine .qt rfl ?_;simp (disch:=first|exact za|fail) only [go_sem,seval,E,hα];refine .qF rfl ?_;refine .qt rfl ?_;simp (disch:=first|exact za|fail) only [go_sem,seval,E,hα];refine .qr rfl Tryz.func63 (by rw [Tryz.results63]) ?_;simp (disch:=first|exact za|fail) only [go_sem,seval];exact h
 · have h5:=hf.len i hi;refine .qt rfl ?_;simp (disch:=first|exact za|fail) only [go_sem,seval,E,hα];refine .qT rfl ?_;refine .q ?_;refine .open [] follows (by kernel_rfl) ?_;simp (disch:=first|exact za|fail) only [go_sem,seval,E,h4,h5,bne_self_eq_false,hα];refine .qF rfl ?_;refine .skip ?_;refine .qt rfl ?_;simp (disch:=first|exact za|fail) only [go_sem,seval,E,hα]
   first | (refine ihE _ _ ?_ trivial ?_) | (refine .z rfl ?_;refine ihE _ _ ?_ trivial ?_) | (refine .z rfl ?_;refine .z rfl ?_;refine ihE _ _ ?_ trivial ?_) | (refine .z rfl ?_;refine .z rfl ?_;refine .z rfl ?_;refine ihE _ _ ?_ trivial ?_)
   · simp (disch:=first|exact za|fail) only [go_sem,seval,E]<;>(repeat' (first | rfl | refine And.intro ?_ ?_))
   · first | rfl | (simp (disch:=first|exact za|fail) only [go_sem,seval,E]<;>(try rfl))

set_option maxHeartbeats 4000000 in
theorem zr5 (c:Circ) (hv:Vd c) (cols:List (List U)) (j:Nat) (hj:j≤16) (hf:Fits c cols (2 ^ j)) (α:Nat) (H:Hp) (hα:H.f α=some (.vec (cl (ym 1 zg) cols))) (R:AV → Hp → Prop) (h:R (.tup [.p (.sl false 1 (pl zg (yc c cols (2 ^ j)))),.p (i64 0)]) H) :
 ACall Tryz.prog G 23 [.p (za2 c),.vr α cols.length 1] H R:=by
 refine ACall.of_run (raw:=[]) Tryz.func23 rfl Tryz.ntmps23 (by simp) fun hbel => ?_
 have hαn:=Hp.lt hα;have hc:=hv.ok;have hn:=hf.n;have hi:=hc.inp;have hs0:=hc.sums;have hl0:=hc.len;have hsm:=hv.sm
 obtain⟨s,hs⟩ : ∃ s:Nat,c.sums=s:=⟨c.sums.toNat,by omega⟩
 have hst:c.sums.toNat=s:=by omega
 have hcirc:(⟨c.inputs,c.layers,(s:Int)⟩:Circ)=c:=by rw [←hs]
 have h4:=hf.len 0 (by omega)
 obtain⟨N,hN⟩ : ∃ N,2 ^ j=N:=⟨_,rfl⟩
 have hNb:N≤65536:=by rw [←hN];exact Nat.pow_le_pow_right (n:=2) (by omega) hj
 have hz:List.replicate s 0#64=yc c cols 0:=by rw [yc,hst]
 refine .qt rfl ?_;simp (disch:=first|exact za|fail) only [go_sem,seval];refine .qt rfl ?_;simp (disch:=first|exact za|fail) only [go_sem,seval];refine CallK.of (fun R h=>zdQ c hv _ R h) ?_;simp (disch:=first|exact za|fail) only [go_sem,seval];refine .qt rfl ?_;simp (disch:=first|exact za|fail) only [go_sem,seval];refine .qF rfl ?_;refine .skip ?_;refine .qt rfl ?_;simp (disch:=first|exact za|fail) only [go_sem,seval];refine CallK.of (fun R h=>zxu c hc cols j hj hf α _ ((zb (by omega)).trans hα) R h) ?_;simp (disch:=first|exact za|fail) only [go_sem,seval];refine .qF rfl ?_;refine .skip ?_;rw [hN] at h h4;refine .qt rfl ?_;simp (disch:=first|exact za|fail) only [go_sem,seval,hs,hz];refine .qt rfl ?_;simp (disch:=first|exact za|fail) only [go_sem,seval];refine .q ?_;refine .loopE [1,2,7] (fun r=>[(8,.p (i64 r))]) (fun r=>[(H.n+1,.cells (cl zg (yc c cols r)))]) (fun r=>True) (0) (N) (by omega) ?_ (by first | rfl | (simp (disch:=first|exact za|fail) only [go_sem,seval]<;>rfl)) ?_ ?_ ?_
 · simp (disch:=first|exact za|fail) only [go_sem,seval]<;>(repeat' (first | rfl | refine And.intro ?_ ?_))
 · exact trivial
 intro env E hQ;simp (disch:=first|exact za|fail) only [go_sem,seval] at E
 rotate_left 1
 intro r env hr0 hr E hQ ihE;simp (disch:=first|exact za|fail) only [go_sem,seval] at E
 rotate_left 1
 · refine .qt rfl ?_;simp (disch:=first|exact za|fail) only [go_sem,seval,E,h4,hα];refine .qF rfl ?_;have hsl:=zcD (c:=c) (cols:=cols) N;rw [hst] at hsl;refine .q ?_;refine .frzS 7 (by simp (disch:=first|exact za|fail) only [go_sem,seval,E];rfl) (by simp (disch:=first|exact za|fail) only [go_sem,seval,E]<;>rfl) (fun _=>rfl) (by first | exact za | fail) ?_;(try simp (disch:=first|exact za|fail) only [go_sem,seval,E]);refine .qt rfl ?_;simp (disch:=first|exact za|fail) only [go_sem,seval,E];refine .qr rfl Tryz.func23 (by rw [Tryz.results23]) (hx:=by simp (disch:=first|exact za|fail) only [go_sem,seval,List.take_length];rfl) ?_;simp (disch:=first|exact za|fail) only [go_sem,seval,List.take_length];exact h
 · have hsl:=zcD (c:=c) (cols:=cols) r;rw [hst] at hsl;have hout:y9 c cols r=zb4 c (yS cols r) c.layers.length:=rfl
   have hol:(y9 c cols r).length=(nth c.layers (c.layers.length - 1)).length:=by
    rw [hout,show c.layers.length=c.layers.length - 1+1 by omega,zdS,Nat.add_sub_cancel]
   have hx:((c.layers.length:Int)+1 - 1).toNat=c.layers.length:=by omega
   have hrw:nth (tab (zb4 c (yS cols r)) (c.layers.length+1)) c.layers.length=y9 c cols r:=yb (by omega)
   have hsucc:yc c cols (r+1)=sumP (yc c cols r) (y9 c cols r) s s:=by rw [znC,yc,hst]
   have hp0:yc c cols r=sumP (yc c cols r) (y9 c cols r) 0 s:=(zjJ hsl).symm;refine .qt rfl ?_;simp (disch:=first|exact za|fail) only [go_sem,seval,E,h4,hα];refine .qT rfl ?_;refine .q ?_;refine .open [] follows (by kernel_rfl) ?_;simp (disch:=first|exact za|fail) only [go_sem,seval,E,hcirc];refine CallD.still (fun R h=>zlG cols (by omega) r (fun i hi=>by have:=hf.len i hi;omega) α _ (by simp (disch:=first|exact za|fail) only [go_sem,seval];exact hα) R h) ?_;simp (disch:=first|exact za|fail) only [go_sem,seval,E,hcirc];refine CallD.still (fun R h=>zc8 c hc (yS cols r) (by rw [zc7];exact hn) _ R h) ?_;simp (disch:=first|exact za|fail) only [go_sem,seval,E];refine .qt rfl ?_;simp (disch:=first|exact za|fail) only [go_sem,seval,E]
   (repeat refine .zs rfl ?_);refine .cutE [1,2,7,8] [] [(H.n+1,.cells (cl zg (yc c cols (r+1))))] (fun ihJ => ?_) (fun env J => ?_)
   rotate_left 1
   simp (disch:=first|exact za|fail) only [go_sem,seval,E] at J
   rotate_left 1
   · refine .q ?_;refine .loopE [1,2,7,8,9] (fun i=>[(10,.p (i64 i))]) (fun i=>[(H.n+1,.cells (cl zg (sumP (yc c cols r) (y9 c cols r) i s)))]) (fun i=>True) (0) (s) (by omega) ?_ (by first | rfl | (simp (disch:=first|exact za|fail) only [go_sem,seval,E,←hp0]<;>rfl)) ?_ ?_ ?_
     · simp (disch:=first|exact za|fail) only [go_sem,seval,E,←hp0]<;>(repeat' (first | rfl | refine And.intro ?_ ?_))
     · exact trivial
     intro env K hQ;simp (disch:=first|exact za|fail) only [go_sem,seval,E,←hp0] at K
     rotate_left 1
     intro i env hi0 hi K hQ ihK;simp (disch:=first|exact za|fail) only [go_sem,seval,E,←hp0] at K
     rotate_left 1
     · refine .qt rfl ?_;simp (disch:=first|exact za|fail) only [go_sem,seval,K,hs];refine .qF rfl ?_
       first | (refine ihJ _ _ ?_ ?_) | (refine .z rfl ?_;refine ihJ _ _ ?_ ?_) | (refine .z rfl ?_;refine .z rfl ?_;refine ihJ _ _ ?_ ?_) | (refine .z rfl ?_;refine .z rfl ?_;refine .z rfl ?_;refine ihJ _ _ ?_ ?_)
       · simp (disch:=first|exact za|fail) only [go_sem,seval,K,E,hsucc]<;>(repeat' (first | rfl | refine And.intro ?_ ?_))
       · first | rfl | (simp (disch:=first|exact za|fail) only [go_sem,seval,K,E,hsucc]<;>(try rfl))
     · have hpl:(sumP (yc c cols r) (y9 c cols r) i s).length=s:=zft;have hat:=zsH (a:=yc c cols r) (v:=y9 c cols r) hi;have hset:=zjK (a:=yc c cols r) (v:=y9 c cols r) hi;refine .qt rfl ?_;simp (disch:=first|exact za|fail) only [go_sem,seval,K,hs];refine .qT rfl ?_;refine .q ?_;refine .open [17] follows (by kernel_rfl) ?_;simp (disch:=first|exact za|fail) only [go_sem,seval,K,hx,hrw,hat];refine CallD.still (fun R h=>zaD _ _ _ R h) ?_;simp (disch:=first|exact za|fail) only [go_sem,seval,K,hset];refine .qt rfl ?_;simp (disch:=first|exact za|fail) only [go_sem,seval,K]
       first | (refine ihK _ _ ?_ trivial ?_) | (refine .z rfl ?_;refine ihK _ _ ?_ trivial ?_) | (refine .z rfl ?_;refine .z rfl ?_;refine ihK _ _ ?_ trivial ?_) | (refine .z rfl ?_;refine .z rfl ?_;refine .z rfl ?_;refine ihK _ _ ?_ trivial ?_)
       · simp (disch:=first|exact za|fail) only [go_sem,seval,K,E]<;>(repeat' (first | rfl | refine And.intro ?_ ?_))
       · first | rfl | (simp (disch:=first|exact za|fail) only [go_sem,seval,K,E]<;>(try rfl))
   refine .qt rfl ?_;simp (disch:=first|exact za|fail) only [go_sem,seval,J]
   first | (refine ihE _ _ ?_ trivial ?_) | (refine .z rfl ?_;refine ihE _ _ ?_ trivial ?_) | (refine .z rfl ?_;refine .z rfl ?_;refine ihE _ _ ?_ trivial ?_) | (refine .z rfl ?_;refine .z rfl ?_;refine .z rfl ?_;refine ihE _ _ ?_ trivial ?_)
   · simp (disch:=first|exact za|fail) only [go_sem,seval,J,E]<;>(repeat' (first | rfl | refine And.intro ?_ ?_))
   · first | rfl | (simp (disch:=first|exact za|fail) only [go_sem,seval,J,E]<;>(try rfl))
end walks
end Go.Proofs.YthaoifcebimkfaaGreatDoor

namespace Go.Proofs.YthaoifcebimkfaaGreatDoor
open Go Go.AL

section walks
variable {G:Globs} {r1:Nat} {m1:List (Int × Int)}
set_option maxHeartbeats 64000000 in
set_option maxRecDepth 20000 in
theorem zoF (g:GW G r1 m1) (q:Qry) (hql:q.fl.length≤9223372036854775807) (l:List SOp) (hl:l.length≤9223372036854775807) (ch:List Chg) (hch:ch.length≤9223372036854775807) (H:Hp) (R:AV → Hp → Prop) (h:R (.p (bo true)) H) :
 ACall Tryz.prog G 5 [.p (qry q),.p (.sl false 4 (pl sop l)),.p (.sl false 3 (pl chg ch))] H R:=by
 refine ACall.of_run (raw:=[]) Tryz.func5 rfl Tryz.ntmps5 (by simp) fun hbel => ?_
 refine .qt rfl ?_;simp (disch:=first|exact za|fail) only [go_sem,seval];refine .qt rfl ?_;simp (disch:=first|exact za|fail) only [go_sem,seval];refine CallK.of (fun R h=>zd7 g _ R h) ?_;simp (disch:=first|exact za|fail) only [go_sem,seval];refine .qt rfl ?_;simp (disch:=first|exact za|fail) only [go_sem,seval];refine CallK.ex (zd8 q hql _) ?_
 rintro _ _ ⟨⟨p,hp,he,rfl⟩,rfl⟩
 have hk7:=(zgz he).kind
 have hpk:okI p.kind:=by unfold okI;omega
 simp (disch:=first|exact za|fail) only [go_sem,seval];refine .qt rfl ?_;simp (disch:=first|exact za|fail) only [go_sem,seval];refine CallK.ex (ze0 l 8 (by omega) hl _) ?_
 rintro _ _ ⟨⟨s,hs,rfl⟩,rfl⟩
 have hsl:=hs.len;simp (disch:=first|exact za|fail) only [go_sem,seval];refine .qt rfl ?_;simp (disch:=first|exact za|fail) only [go_sem,seval];refine CallK.ex (zeZ g p hpk _) ?_
 rintro _ _ ⟨⟨rfl,hok⟩,rfl⟩
 simp (disch:=first|exact za|fail) only [go_sem,seval];refine .qt rfl ?_;simp (disch:=first|exact za|fail) only [go_sem,seval];refine CallK.ex (zaU s 8 hs 3 8 (by omega) rfl (by omega) _) ?_
 rintro _ Y ⟨α,rfl,hα,hαn,hY⟩
 have hYL:LowE H Y:=((((LowE.new _).trans (.new _)).trans (.new _)).trans (.new _)).trans hY;have hY1:=(hY.f (H.n+1) (by simp only [n_new'];omega)).trans (by simp (disch:=first|exact za|fail) only [go_sem,seval]<;>rfl);have hY2:=(hY.f (H.n+2) (by simp only [n_new'];omega)).trans (by simp (disch:=first|exact za|fail) only [go_sem,seval]<;>rfl);have hY3:=(hY.f (H.n+3) (by simp only [n_new'];omega)).trans (by simp (disch:=first|exact za|fail) only [go_sem,seval]<;>rfl);have hYn:=hY.n;simp only [n_new'] at hYn hαn;have h29:(zaG s 8).length=29:=zlF;simp (disch:=first|exact za|fail) only [go_sem,seval,h29]
 rcases zea p he with ⟨hb,hc⟩ | ⟨hb,hc⟩
 · rw [hc];refine .qt rfl ?_;simp (disch:=first|exact za|fail) only [go_sem,seval];refine .qT rfl ?_;refine .qt rfl ?_;simp (disch:=first|exact za|fail) only [go_sem,seval];have hbel:Bel H.n Y:=hYL.bel hbel;refine .qr rfl Tryz.func5 (by rw [Tryz.results5]) ?_;simp (disch:=first|exact za|fail) only [go_sem,seval];rw [hYL.back];exact h
 · rw [hc] at hY3;rw [hc];dsimp only;dsimp only at hY3;have hv:=zlC he hb;have hαY:=Hp.lt hα;have hA:=zf9 (n:=8) hs;have h8:2 ^ 3=8:=rfl;have hfit0:Fits (compC p) (zaG s 8) (2 ^ 3):=hA.1.fits
   have hsum0:=hA.1.sums he hs (by omega) (by omega) fun c hc _=>hA.2 c hc
   have hSV:=fun (H:Hp) (ha:H.f α=some (.vec (cl (ym 1 zg) (zaG s 8))))=>zr5 (G:=G) (compC p) hv (zaG s 8) 3 (by omega) hfit0 α H ha
   simp only [h29] at hSV
   have hlen:(zcK p s).length≤32:=by rw [zcL he];unfold zdh;split;decide;split<;>decide
   refine .qt rfl ?_;simp (disch:=first|exact za|fail) only [go_sem,seval];refine .qF rfl ?_;refine .skip ?_;refine .qt rfl ?_;simp (disch:=first|exact za|fail) only [go_sem,seval,hY3];refine CallK.of (fun R h=>hSV _ hα R h) ?_;simp (disch:=first|exact za|fail) only [go_sem,seval,hY3];rw [hsum0];refine .qt rfl ?_;simp (disch:=first|exact za|fail) only [go_sem,seval];refine .q ?_;refine .count (fun i env H'=>env 2 = .p (.sl false 3 (pl chg ch))∧env 7 = .p (bo true)∧env 8 = .ptr (H.n+1) 0∧env 10 = .ptr (H.n+3) 0∧env 12 = .vr α 29 1∧env 14 = .p (.sl false 1 (pl zg ((zcK p s).map fi)))∧env 15 = .p (i64 0)∧env 16 = .p (i64 i) ∧ ∃ cols,LI s α Y H' cols ∧ ∀ c,c < 4 → zO p c=true → BitOk s 8 cols c) 0 (min ch.length 6) (by omega) ?_ ?_ ?_
   · refine⟨?_,?_,?_,?_,?_,?_,?_,?_,zaG s 8,⟨hA.1,hα,fun _ _ _=>rfl,Nat.le_refl _,rfl⟩,fun c hc _=>hA.2 c hc⟩<;>simp (disch:=first|exact za|fail) only [go_sem,seval]
   · rintro env Z ⟨e2,e7,e8,e10,e12,e14,e15,e16,cols,hI,hB⟩
     have hcn:=hI.c.cnt;have hαZ:=Hp.lt hI.a;have hZn:=hI.n;have hZ3:=(hI.lo (H.n+3) (by omega) (by omega)).trans hY3;have hZL:=hI.low hYL (by omega)
     have hcs:(ch.length≤6∧min ch.length 6=ch.length) ∨ (¬ ch.length≤6∧min ch.length 6=6):=by omega
     have hfit:Fits (compC p) cols (2 ^ 3):=hI.c.fits;have hW3:(Z.set α .dead).f (H.n+3)=_:=(f_set_ne' (by omega)).trans hZ3;have hWL:LowE H (Z.set α .dead):=hZL.set _ (by omega);have hbel:Bel H.n (Z.set α .dead):=hWL.bel hbel;have hz:=hI.c.zero he hs hB;have hsum:=hI.c.sums he hs (by omega) (by omega) hB
     rcases hcs with ⟨h6,hmin⟩ | ⟨h6,hmin⟩
     all_goals (
      rw [hmin] at e16;refine .qt rfl ?_;simp (disch:=first|exact za|fail) only [go_sem,seval,e2,e16];refine .qF rfl ?_;refine .q ?_;refine .frzV 12 (by simp (disch:=first|exact za|fail) only [go_sem,seval,e12,hI.a];rfl) (by simp (disch:=first|exact za|fail) only [go_sem,seval,e12,hI.a]<;>rfl) (xs:=pl (ym 1 zg) cols) (by rw [zcv,zfd]) (by rw [zad,hcn]) zd4 ?_;(try simp (disch:=first|exact za|fail) only [go_sem,seval,e12,hI.a])
      generalize Z.set α .dead=W at *
      refine .qt rfl ?_;simp (disch:=first|exact za|fail) only [go_sem,seval,e10,hW3];refine CallK.of (fun R h=>zeu (compC p) hv cols 3 (by omega) hfit _ R h) ?_;simp (disch:=first|exact za|fail) only [go_sem,seval,e10,hW3,h8,hsum];refine .qt rfl ?_;simp (disch:=first|exact za|fail) only [go_sem,seval,e10,hW3];refine CallK.of (fun R h=>zb5 (compC p) hv cols 8 (by omega) hI.c.fits _ R h) ?_;simp (disch:=first|exact za|fail) only [go_sem,seval,e10,hW3,hz];refine .qt rfl ?_;simp (disch:=first|exact za|fail) only [go_sem,seval,e7,e14,e15,hz,h8,hsum];refine CallK.of (fun R h=>zga _ _ (by rw [List.length_map];omega) _ R h) ?_;simp (disch:=first|exact za|fail) only [go_sem,seval,e7,e14,e15,hz,h8,hsum];refine .qr rfl Tryz.func5 (by rw [Tryz.results5]) ?_;simp (disch:=first|exact za|fail) only [go_sem,seval];rw [hWL.back]
      exact h)
   · rintro i env Z hi0 hi ⟨e2,e7,e8,e10,e12,e14,e15,e16,cols,hI,hB⟩ ih
     have hi1:i < ch.length:=by omega
     have hi6:i < 6:=by omega
     obtain⟨c0,hk⟩ : ∃ c0:Nat,((nth ch i).col.toNat:Int) % 4=(c0:Int):=⟨(nth ch i).col.toNat % 4,by omega⟩
     have hc0:c0 < 4:=by omega
     have hcn:=hI.c.cnt;have hαZ:=Hp.lt hI.a;have hZ1:=(hI.lo (H.n+1) (by omega) (by omega)).trans hY1;refine .qt rfl ?_;simp (disch:=first|exact za|fail) only [go_sem,seval,e2,e16];refine .qT rfl ?_;refine .qt rfl ?_;simp (disch:=first|exact za|fail) only [go_sem,seval,e2,e16,hk];refine .qt rfl ?_;simp (disch:=first|exact za|fail) only [go_sem,seval,e8,hZ1];refine CallK.of (fun R h=>zdg p hp c0 hc0 _ R h) ?_;simp (disch:=first|exact za|fail) only [go_sem,seval,e8,hZ1]
     cases hu:zO p c0 with
     | true =>
      refine .q ?_;refine .ifT (by simp (disch:=first|exact za|fail) only [go_sem,seval,hu]) ?_;refine .qt rfl ?_;simp (disch:=first|exact za|fail) only [go_sem,seval,e16];refine ih _ _ ⟨?_,?_,?_,?_,?_,?_,?_,?_,cols,hI,hB⟩<;>simp (disch:=first|exact za|fail) only [go_sem,seval,e2,e7,e8,e10,e12,e14,e15,e16]
     | false =>
      have hw0:0 < zN c0:=by unfold zN;split<;>decide
      have hw8:=zag c0
      obtain⟨y,hshr⟩ : ∃ y:BitVec 8,zx Tryz.prog .shr 5 (.p (b8 (nth ch i).col)) (.p (zg 2#64))=some (.p (b8 y)):=⟨_,zdH ..⟩
      obtain⟨k0,hk0⟩ : ∃ k0:Nat,(y.toNat:Int) % ((zN c0:Nat):Int)=(k0:Int):=⟨y.toNat % zN c0,by rw [Int.natCast_emod]⟩
      have hk0w:k0 < zN c0:=by
       have:=Int.emod_lt_of_pos (y.toNat:Int) (show (0:Int) < ((zN c0:Nat):Int) by omega)
       omega
      have hk29:=zcc hc0 hk0w;have hk5:=zB2 hc0 hk0w
      obtain⟨k,hke⟩ : ∃ k,k=zf c0+k0:=⟨_,rfl⟩
      have hkk:((zf c0:Nat):Int)+(k0:Int)=(k:Int):=by omega
      have hfb:zf c0 < 29:=by omega
      rw [←hke] at hk29 hk5;have hlk:=hI.c.len k hk29
      obtain⟨j,hj8,hrem⟩ : ∃ j:BitVec 8,j.toNat < 8∧zx Tryz.prog .rem 5 (.p (b8 (nth ch i).row)) (.p (b8 8#8))=some (.p (b8 j)) :=
       ⟨(nth ch i).row % 8#8,by rw [BitVec.toNat_umod];show _ % 8 < 8;omega,zbS _ _ _ _ (by decide)⟩
      have hq : ∀ x,(Z.new x).f α=some (.vec (cl (ym 1 zg) cols)):=fun x=>by rw [zb (by omega)];exact hI.a
      refine .q ?_;refine .ifF (by simp (disch:=first|exact za|fail) only [go_sem,seval,hu]) ?_;refine .skip ?_;refine .q ?_;refine .open [] follows (by kernel_rfl) ?_;simp (disch:=first|exact za|fail) only [go_sem,seval,e2,e16,hshr];refine CallD.still (fun R h=>zd1 c0 hc0 _ R h) ?_;simp (disch:=first|exact za|fail) only [go_sem,seval,e2,e16,hshr];refine CallD.still (fun R h=>zaE c0 hc0 _ R h) ?_;simp (disch:=first|exact za|fail) only [go_sem,seval,e2,e16,hshr,hk0,hkk];refine .q ?_;refine .region ?_;refine .buildVec (sz:=1) (cs:=[]) (by simp (disch:=first|exact za|fail) only [go_sem,seval,yh,yI]<;>rfl) (by rfl) ?_;refine .run ?_;simp (disch:=first|exact za|fail) only [go_sem,seval,e12,hq,hcn,hlk]
      have hW0 : ∀ x,(Z.new x).f Z.n=some x:=fun x=>zk rfl
      refine .q ?_;refine .open [14] follows (by kernel_rfl) ?_;simp (disch:=first|exact za|fail) only [go_sem,seval,e2,e16,hrem,hlk,hW0];refine CallD.still (fun R h=>za1 _ _ R h) ?_;simp (disch:=first|exact za|fail) only [go_sem,seval,e2,e16,hrem,hlk,hW0];have hC2:=hI.c.put (j:=j.toNat) hk5 hk29 (ziF (x:=(nth ch i).v))
      have hl2:((nth cols k).set j.toNat (zcw (nth ch i).v)).length=8:=by rw [List.length_set,hlk]
      generalize (nth cols k).set j.toNat (zcw (nth ch i).v)=L at *
      refine .q ?_;refine .frzV 19 (by simp (disch:=first|exact za|fail) only [go_sem,seval,hW0];rfl) (by simp (disch:=first|exact za|fail) only [go_sem,seval,hW0]<;>rfl) (xs:=pl zg L) (by rw [zfe,zfd]) (by rw [zad,hl2]) ziH ?_;(try simp (disch:=first|exact za|fail) only [go_sem,seval,hW0]);refine .qt rfl ?_;simp (disch:=first|exact za|fail) only [go_sem,seval,e12,hq,hcn];refine .qt rfl ?_;simp (disch:=first|exact za|fail) only [go_sem,seval,e16];refine ih _ _ ⟨?_,?_,?_,?_,?_,?_,?_,?_,cols.set k L,⟨hC2,?_,fun b hb hne => ?_,?_,hI.z⟩,fun c hc hcu => ?_⟩
      · simp (disch:=first|exact za|fail) only [go_sem,seval,e2]
      · simp (disch:=first|exact za|fail) only [go_sem,seval,e7]
      · simp (disch:=first|exact za|fail) only [go_sem,seval,e8]
      · simp (disch:=first|exact za|fail) only [go_sem,seval,e10]
      · simp (disch:=first|exact za|fail) only [go_sem,seval,e12]
      · simp (disch:=first|exact za|fail) only [go_sem,seval,e14]
      · simp (disch:=first|exact za|fail) only [go_sem,seval,e15]
      · simp (disch:=first|exact za|fail) only [go_sem,seval]
      · rw [zb (by rw [n_set'];omega),zy rfl hαZ]
      · have hbZ:b < Z.n:=Nat.lt_of_lt_of_le hb hI.n;rw [zb (by rw [n_set'];omega),f_set_ne' hne];exact hI.lo b hb hne
      · have:=hI.n
        simp only [n_set',n_new'];omega
      · refine (hB c hc hcu).set fun j' hj' => ?_
        rw [hke]
        exact zGo hc hc0 hj' hk0w fun e=>by subst e;rw [hu] at hcu;cases hcu
end walks
end Go.Proofs.YthaoifcebimkfaaGreatDoor

namespace Go.Proofs.YthaoifcebimkfaaGreatDoor
open Go Go.AL

section walks
variable {G:Globs} {r1:Nat} {m1:List (Int × Int)}
set_option maxHeartbeats 64000000 in
set_option maxRecDepth 20000 in
theorem zoG (g:GW G r1 m1) (q:Qry) (hql:q.fl.length≤9223372036854775807) (l:List SOp) (hl:l.length≤9223372036854775807) (ch:List Chg) (hch:ch.length≤9223372036854775807) (H:Hp) (R:AV → Hp → Prop) (h:R (.p (bo true)) H) :
 ACall Tryz.prog G 6 [.p (qry q),.p (.sl false 4 (pl sop l)),.p (.sl false 3 (pl chg ch))] H R:=by
 refine ACall.of_run (raw:=[]) Tryz.func6 rfl Tryz.ntmps6 (by simp) fun hbel => ?_
 refine .qt rfl ?_;simp (disch:=first|exact za|fail) only [go_sem,seval];refine .qt rfl ?_;simp (disch:=first|exact za|fail) only [go_sem,seval];refine CallK.of (fun R h=>zd7 g _ R h) ?_;simp (disch:=first|exact za|fail) only [go_sem,seval];refine .qt rfl ?_;simp (disch:=first|exact za|fail) only [go_sem,seval];refine CallK.ex (zd8 q hql _) ?_
 rintro _ _ ⟨⟨p,hp,he,rfl⟩,rfl⟩
 have hk7:=(zgz he).kind
 have hpk:okI p.kind:=by unfold okI;omega
 simp (disch:=first|exact za|fail) only [go_sem,seval];refine .qt rfl ?_;simp (disch:=first|exact za|fail) only [go_sem,seval];refine CallK.ex (ze0 l 8 (by omega) hl _) ?_
 rintro _ _ ⟨⟨s,hs,rfl⟩,rfl⟩
 have hsl:=hs.len;simp (disch:=first|exact za|fail) only [go_sem,seval];refine .qt rfl ?_;simp (disch:=first|exact za|fail) only [go_sem,seval];refine CallK.ex (zeZ g p hpk _) ?_
 rintro _ _ ⟨⟨rfl,hok⟩,rfl⟩
 simp (disch:=first|exact za|fail) only [go_sem,seval];refine .qt rfl ?_;simp (disch:=first|exact za|fail) only [go_sem,seval];refine CallK.ex (zaU s 8 hs 3 8 (by omega) rfl (by omega) _) ?_
 rintro _ Y ⟨α,rfl,hα,hαn,hY⟩
 have hYL:LowE H Y:=((((LowE.new _).trans (.new _)).trans (.new _)).trans (.new _)).trans hY;have hY1:=(hY.f (H.n+1) (by simp only [n_new'];omega)).trans (by simp (disch:=first|exact za|fail) only [go_sem,seval]<;>rfl);have hY2:=(hY.f (H.n+2) (by simp only [n_new'];omega)).trans (by simp (disch:=first|exact za|fail) only [go_sem,seval]<;>rfl);have hY3:=(hY.f (H.n+3) (by simp only [n_new'];omega)).trans (by simp (disch:=first|exact za|fail) only [go_sem,seval]<;>rfl);have hYn:=hY.n;simp only [n_new'] at hYn hαn;have h29:(zaG s 8).length=29:=zlF;simp (disch:=first|exact za|fail) only [go_sem,seval,h29];refine .qt rfl ?_;simp (disch:=first|exact za|fail) only [go_sem,seval,hY2];refine CallK.ex (zaU s 8 hs 3 8 (by omega) rfl (by omega) _) ?_
 rintro _ V ⟨β,rfl,hβ,hβn,hV⟩
 simp (disch:=first|exact za|fail) only [go_sem,seval,h29];have hβV:=Hp.lt hβ;have hαY:=Hp.lt hα;have hVn:=hV.n;refine .q ?_;refine .frzV 14 (by simp (disch:=first|exact za|fail) only [go_sem,seval,hβ];rfl) (by simp (disch:=first|exact za|fail) only [go_sem,seval,hβ]<;>rfl) (xs:=pl (ym 1 zg) (zaG s 8)) (by rw [zcv,zfd]) (by rw [zad,h29]) zd4 ?_;(try simp (disch:=first|exact za|fail) only [go_sem,seval,hβ]);have hU1:(V.set β .dead).f (H.n+1)=_:=(f_set_ne' (by omega)).trans ((hV.f _ (by omega)).trans hY1);have hU3:(V.set β .dead).f (H.n+3)=_:=(f_set_ne' (by omega)).trans ((hV.f _ (by omega)).trans hY3);have hUα:(V.set β .dead).f α=some (.vec (cl (ym 1 zg) (zaG s 8))):=(f_set_ne' (by omega)).trans ((hV.f _ hαY).trans hα);have hUL:LowE H (V.set β .dead):=(hYL.trans hV).set _ (by omega)
 have hUn:Y.n≤(V.set β .dead).n:=by rw [n_set'];exact hVn
 generalize V.set β .dead=Y2 at *
 rcases zea p he with ⟨hb,hc⟩ | ⟨hb,hc⟩
 · rw [hc];refine .qt rfl ?_;simp (disch:=first|exact za|fail) only [go_sem,seval];refine .qT rfl ?_;refine .qt rfl ?_;simp (disch:=first|exact za|fail) only [go_sem,seval];have hbel:Bel H.n Y2:=hUL.bel hbel;refine .qr rfl Tryz.func6 (by rw [Tryz.results6]) ?_;simp (disch:=first|exact za|fail) only [go_sem,seval];rw [hUL.back];exact h
 · rw [hc] at hU3;rw [hc];dsimp only;dsimp only at hU3;have hv:=zlC he hb;have hA:=zf9 (n:=8) hs;have hαU:=Hp.lt hUα;refine .qt rfl ?_;simp (disch:=first|exact za|fail) only [go_sem,seval];refine .qF rfl ?_;refine .skip ?_;refine .qt rfl ?_;simp (disch:=first|exact za|fail) only [go_sem,seval];refine .q ?_;refine .count (fun i env H'=>env 2 = .p (.sl false 3 (pl chg ch))∧env 7 = .p (bo true)∧env 8 = .ptr (H.n+1) 0∧env 10 = .ptr (H.n+3) 0∧env 12 = .vr α 29 1∧env 14 = .p (.sl false 1 (pl (ym 1 zg) (zaG s 8)))∧env 16 = .p (i64 i) ∧ ∃ cols,LI s α Y2 H' cols) 0 (min ch.length 6) (by omega) ?_ ?_ ?_
   · refine⟨?_,?_,?_,?_,?_,?_,?_,zaG s 8,⟨hA.1,hUα,fun _ _ _=>rfl,Nat.le_refl _,rfl⟩⟩<;>simp (disch:=first|exact za|fail) only [go_sem,seval]
   · rintro env Z ⟨e2,e7,e8,e10,e12,e14,e16,cols,hI⟩
     have hcn:=hI.c.cnt;have hαZ:=Hp.lt hI.a;have hZn:=hI.n;have hZ1:=(hI.lo (H.n+1) (by omega) (by omega)).trans hU1;have hZ3:=(hI.lo (H.n+3) (by omega) (by omega)).trans hU3;have hZL:=hI.low hUL (by omega)
     have hcs:(ch.length≤6∧min ch.length 6=ch.length) ∨ (¬ ch.length≤6∧min ch.length 6=6):=by omega
     have hW1:(Z.set α .dead).f (H.n+1)=_:=(f_set_ne' (by omega)).trans hZ1;have hW3:(Z.set α .dead).f (H.n+3)=_:=(f_set_ne' (by omega)).trans hZ3;have hWL:LowE H (Z.set α .dead):=hZL.set _ (by omega);have hbel:Bel H.n (Z.set α .dead):=hWL.bel hbel
     rcases hcs with ⟨h6,hmin⟩ | ⟨h6,hmin⟩
     all_goals (
      rw [hmin] at e16;refine .qt rfl ?_;simp (disch:=first|exact za|fail) only [go_sem,seval,e2,e16];refine .qF rfl ?_;refine .q ?_;refine .frzV 12 (by simp (disch:=first|exact za|fail) only [go_sem,seval,e12,hI.a];rfl) (by simp (disch:=first|exact za|fail) only [go_sem,seval,e12,hI.a]<;>rfl) (xs:=pl (ym 1 zg) cols) (by rw [zcv,zfd]) (by rw [zad,hcn]) zd4 ?_;(try simp (disch:=first|exact za|fail) only [go_sem,seval,e12,hI.a])
      generalize Z.set α .dead=W at *
      refine .qt rfl ?_;simp (disch:=first|exact za|fail) only [go_sem,seval,e10,hW3];refine CallK.of (fun R h=>zb5 (compC p) hv cols 8 (by omega) hI.c.fits _ R h) ?_;simp (disch:=first|exact za|fail) only [go_sem,seval,e10,hW3]
      cases hz:zc9 (compC p) cols 8 with
      | some r =>
       refine .qt rfl ?_;simp (disch:=first|exact za|fail) only [go_sem,seval,hz];refine .qT rfl ?_;refine .qt rfl ?_;simp (disch:=first|exact za|fail) only [go_sem,seval,e7];refine .qr rfl Tryz.func6 (by rw [Tryz.results6]) ?_;simp (disch:=first|exact za|fail) only [go_sem,seval];rw [hWL.back];exact h
      | none =>
       have hbits:=hI.c.bits he hs hz;refine .qt rfl ?_;simp (disch:=first|exact za|fail) only [go_sem,seval,hz];refine .qF rfl ?_;refine .skip ?_;refine .qt rfl ?_;simp (disch:=first|exact za|fail) only [go_sem,seval];refine .q ?_;refine .loopE [7,8,12,14] (fun c=>[(20,.p (i64 c))]) (fun c=>[]) (fun c=>True) (0) (4) (by omega) ?_ (by first | rfl | (simp (disch:=first|exact za|fail) only [go_sem,seval,e7,e8,e14]<;>rfl)) ?_ ?_ ?_
       · simp (disch:=first|exact za|fail) only [go_sem,seval,e7,e8,e14]<;>(repeat' (first | rfl | refine And.intro ?_ ?_))
       · exact trivial
       intro env A hQ;simp (disch:=first|exact za|fail) only [go_sem,seval,e7,e8,e14] at A
       rotate_left 1
       intro c env hc0 hc A hQ ihA;simp (disch:=first|exact za|fail) only [go_sem,seval,e7,e8,e14] at A
       rotate_left 1
       · refine .qt rfl ?_;simp (disch:=first|exact za|fail) only [go_sem,seval,A];refine .qF rfl ?_;refine .qt rfl ?_;simp (disch:=first|exact za|fail) only [go_sem,seval,A,e7];refine .qr rfl Tryz.func6 (by rw [Tryz.results6]) (hx:=by simp (disch:=first|exact za|fail) only [go_sem,seval,A,e7];rfl) ?_;simp (disch:=first|exact za|fail) only [go_sem,seval,A,e7];rw [hWL.back];exact h
       · refine .qt rfl ?_;simp (disch:=first|exact za|fail) only [go_sem,seval,A];refine .qT rfl ?_;refine .qt rfl ?_;simp (disch:=first|exact za|fail) only [go_sem,seval,A];refine .q ?_;refine .loopE [7,8,12,14,20] (fun k=>[(21,.p (i64 k))]) (fun k=>[]) (fun k=>True) (0) ((if zO p c then zN c else 0)) (by omega) ?_ (by first | rfl | (simp (disch:=first|exact za|fail) only [go_sem,seval,A,e8,e14]<;>rfl)) ?_ ?_ ?_
         · simp (disch:=first|exact za|fail) only [go_sem,seval,A,e8,e14]<;>(repeat' (first | rfl | refine And.intro ?_ ?_))
         · exact trivial
         intro env B hQ;simp (disch:=first|exact za|fail) only [go_sem,seval,A,e8,e14] at B
         rotate_left 1
         intro k env hk0 hk B hQ ihB;simp (disch:=first|exact za|fail) only [go_sem,seval,A,e8,e14] at B
         rotate_left 1
         · cases hu:zO p c with
           | false =>
            rw [hu] at B;refine .qt rfl ?_;simp (disch:=first|exact za|fail) only [go_sem,seval,B,A,e8,hW1];refine CallK.of (fun R h=>zdg p hp c hc _ R h) ?_;simp (disch:=first|exact za|fail) only [go_sem,seval,B,A,hu];refine .qF rfl ?_;refine .qt rfl ?_;simp (disch:=first|exact za|fail) only [go_sem,seval,B,A]
            first | (refine ihA _ _ ?_ trivial ?_) | (refine .z rfl ?_;refine ihA _ _ ?_ trivial ?_) | (refine .z rfl ?_;refine .z rfl ?_;refine ihA _ _ ?_ trivial ?_) | (refine .z rfl ?_;refine .z rfl ?_;refine .z rfl ?_;refine ihA _ _ ?_ trivial ?_)
            · simp (disch:=first|exact za|fail) only [go_sem,seval,B,A,e7,e8,e14]<;>(repeat' (first | rfl | refine And.intro ?_ ?_))
            · first | rfl | (simp (disch:=first|exact za|fail) only [go_sem,seval,B,A,e7,e8,e14]<;>(try rfl))
           | true =>
            rw [hu] at B;refine .qt rfl ?_;simp (disch:=first|exact za|fail) only [go_sem,seval,B,A,e8,hW1];refine CallK.of (fun R h=>zdg p hp c hc _ R h) ?_;simp (disch:=first|exact za|fail) only [go_sem,seval,B,A,hu];refine CallK.of (fun R h=>zaE c hc _ R h) ?_;simp (disch:=first|exact za|fail) only [go_sem,seval,B,A,hu];refine .qF rfl ?_;refine .qt rfl ?_;simp (disch:=first|exact za|fail) only [go_sem,seval,B,A]
            first | (refine ihA _ _ ?_ trivial ?_) | (refine .z rfl ?_;refine ihA _ _ ?_ trivial ?_) | (refine .z rfl ?_;refine .z rfl ?_;refine ihA _ _ ?_ trivial ?_) | (refine .z rfl ?_;refine .z rfl ?_;refine .z rfl ?_;refine ihA _ _ ?_ trivial ?_)
            · simp (disch:=first|exact za|fail) only [go_sem,seval,B,A,e7,e8,e14]<;>(repeat' (first | rfl | refine And.intro ?_ ?_))
            · first | rfl | (simp (disch:=first|exact za|fail) only [go_sem,seval,B,A,e7,e8,e14]<;>(try rfl))
         · have hu:zO p c=true:=by
            cases hu:zO p c with
            | true=>rfl
            | false=>rw [hu] at hk;simp at hk
           rw [hu,if_pos rfl] at hk;have hk29:=zcc hc hk
           obtain⟨m,hm⟩ : ∃ m,m=zf c+k:=⟨_,rfl⟩
           have hkk:((zf c:Nat):Int)+(k:Int)=(m:Int):=by omega
           have heq:nth cols m=nth (zaG s 8) m:=by rw [hm,hbits c hc hu k hk,zfK hc hk]
           have hlm:=hI.c.len m (by omega);have hw8:=zag c;refine .qt rfl ?_;simp (disch:=first|exact za|fail) only [go_sem,seval,B,A,e8,hW1];refine CallK.of (fun R h=>zdg p hp c hc _ R h) ?_;simp (disch:=first|exact za|fail) only [go_sem,seval,B,A,hu];refine CallK.of (fun R h=>zaE c hc _ R h) ?_;simp (disch:=first|exact za|fail) only [go_sem,seval,B,A,hu];refine .qT rfl ?_;refine .q ?_;refine .open [] follows (by kernel_rfl) ?_;simp (disch:=first|exact za|fail) only [go_sem,seval,B,A];refine CallD.still (fun R h=>zd1 c hc _ R h) ?_;simp (disch:=first|exact za|fail) only [go_sem,seval,B,A,hkk,hcn,h29];refine CallD.still (fun R h=>zd1 c hc _ R h) ?_;simp (disch:=first|exact za|fail) only [go_sem,seval,B,A,hkk,hcn,h29];refine CallD.still (fun R h=>zga (nth cols m) (nth (zaG s 8) m) (by omega) _ R h) ?_;simp (disch:=first|exact za|fail) only [go_sem,seval,B,A,decide_eq_true heq];refine .qF rfl ?_;refine .skip ?_;refine .qt rfl ?_;simp (disch:=first|exact za|fail) only [go_sem,seval,B,A]
           first | (refine ihB _ _ ?_ trivial ?_) | (refine .z rfl ?_;refine ihB _ _ ?_ trivial ?_) | (refine .z rfl ?_;refine .z rfl ?_;refine ihB _ _ ?_ trivial ?_) | (refine .z rfl ?_;refine .z rfl ?_;refine .z rfl ?_;refine ihB _ _ ?_ trivial ?_)
           · simp (disch:=first|exact za|fail) only [go_sem,seval,B,A,e8,e14]<;>(repeat' (first | rfl | refine And.intro ?_ ?_))
           · first | rfl | (simp (disch:=first|exact za|fail) only [go_sem,seval,B,A,e8,e14]<;>(try rfl)))
   · rintro i env Z hi0 hi ⟨e2,e7,e8,e10,e12,e14,e16,cols,hI⟩ ih
     have hi1:i < ch.length:=by omega
     have hi6:i < 6:=by omega
     obtain⟨k,hk⟩ : ∃ k:Nat,5+((nth ch i).col.toNat:Int) % 24=(k:Int):=⟨5+(nth ch i).col.toNat % 24,by omega⟩
     have hk5:5≤k:=by omega
     have hk29:k < 29:=by omega
     have hlk:=hI.c.len k hk29;have hcn:=hI.c.cnt;have hαZ:=Hp.lt hI.a
     obtain⟨j,hj8,hrem⟩ : ∃ j:BitVec 8,j.toNat < 8∧zx Tryz.prog .rem 5 (.p (b8 (nth ch i).row)) (.p (b8 8#8))=some (.p (b8 j)) :=
      ⟨(nth ch i).row % 8#8,by rw [BitVec.toNat_umod];show _ % 8 < 8;omega,zbS _ _ _ _ (by decide)⟩
     have hq : ∀ x,(Z.new x).f α=some (.vec (cl (ym 1 zg) cols)):=fun x=>by rw [zb (by omega)];exact hI.a
     refine .qt rfl ?_;simp (disch:=first|exact za|fail) only [go_sem,seval,e2,e16];refine .qT rfl ?_;refine .qt rfl ?_;simp (disch:=first|exact za|fail) only [go_sem,seval,e2,e16,hk];refine .q ?_;refine .cutOps 2 ?_;simp (disch:=first|exact za|fail) only [go_sem,seval,e12,List.take_succ_cons,List.take_zero,List.drop_succ_cons,List.drop_zero];refine AOps.buildVec (sz:=1) (cs:=[]) (by simp (disch:=first|exact za|fail) only [go_sem,seval,yh,yI]<;>rfl) (by rfl) ?_;refine AOps.run ?_;simp (disch:=first|exact za|fail) only [go_sem,seval,e12,hq,hcn,hlk]
     obtain⟨M,hM⟩ : ∃ M:List AV,M=(cl (ym 1 zg) cols).set k (.vr Z.n 8 1):=⟨_,rfl⟩
     have hMl:M.length=29:=by rw [hM,List.length_set,zcn,hcn]
     have hMk:M[k]? = some (.vr Z.n 8 1):=by rw [hM,List.getElem?_set_self (by rw [zcn,hcn];exact hk29)]
     rw [←hM]
     have hWα : ∀ x,((Z.set α (.vec M)).new x).f α=some (.vec M):=fun x=>by rw [zb (by rw [n_set'];omega),zy rfl hαZ]
     have hWz : ∀ x,((Z.set α (.vec M)).new x).f Z.n=some x:=fun x=>zk (by rw [n_set'])
     refine .q ?_;refine .open [17] follows (by kernel_rfl) ?_;simp (disch:=first|exact za|fail) only [go_sem,seval,e2,e12,e16,hrem,hWα,hWz,hMl,hMk,hlk];refine CallD.still (fun R h=>za1 _ _ R h) ?_;simp (disch:=first|exact za|fail) only [go_sem,seval,e2,e12,e16,hrem,hWα,hWz,hMl,hMk,hlk];have hC2:=hI.c.put (j:=j.toNat) hk5 hk29 (ziF (x:=(nth ch i).v))
     have hl2:((nth cols k).set j.toNat (zcw (nth ch i).v)).length=8:=by rw [List.length_set,hlk]
     generalize (nth cols k).set j.toNat (zcw (nth ch i).v)=L at *
     refine .q ?_;refine .frzCellV α k Z.n (cs:=M) (x := .vr Z.n 8 1) (y := .p (.sl false 1 (pl zg L))) (by rw [hWα];rfl) hMk (by omega) (fun σ w v hr hs=>zmS hr (by rw [hWz];rfl) (by rw [zfe,zfd]) (by rw [zad,hl2]) ziH hs) ?_
     have hMs:M.set k (.p (.sl false 1 (pl zg L)))=cl (ym 1 zg) (cols.set k L):=by
      rw [hM,List.set_set];simp [cl,ym]
     rw [hMs];refine .qt rfl ?_;simp (disch:=first|exact za|fail) only [go_sem,seval,e16];refine ih _ _ ⟨?_,?_,?_,?_,?_,?_,?_,cols.set k L,⟨hC2,?_,fun b hb hne => ?_,?_,hI.z⟩⟩
     · simp (disch:=first|exact za|fail) only [go_sem,seval,e2]
     · simp (disch:=first|exact za|fail) only [go_sem,seval,e7]
     · simp (disch:=first|exact za|fail) only [go_sem,seval,e8]
     · simp (disch:=first|exact za|fail) only [go_sem,seval,e10]
     · simp (disch:=first|exact za|fail) only [go_sem,seval,e12]
     · simp (disch:=first|exact za|fail) only [go_sem,seval,e14]
     · simp (disch:=first|exact za|fail) only [go_sem,seval]
     · rw [zb (by rw [n_set'];omega),zy rfl hαZ]
     · have hbZ:b < Z.n:=Nat.lt_of_lt_of_le hb hI.n;rw [zb (by rw [n_set'];omega),f_set_ne' hne];exact hI.lo b hb hne
     · have:=hI.n
       simp only [n_set',n_new'];omega
end walks
end Go.Proofs.YthaoifcebimkfaaGreatDoor
