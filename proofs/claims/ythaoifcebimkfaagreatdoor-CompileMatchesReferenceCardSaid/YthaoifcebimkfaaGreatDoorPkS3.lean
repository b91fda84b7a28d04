/- Proofs. -/
import Derived.Test.YthaoifcebimkfaaGreatDoorPkS2
set_option linter.unusedSectionVars false
set_option linter.unusedSimpArgs false
set_option linter.unusedVariables false
namespace Go.AL
open Go
theorem ACall.backZ {P:Program} {G:Globs} {f:FuncId} {args:List AV} {H:Hp} {S:AV → Prop} (h:ACall P G f args H (fun r H'=>S r∧H'.f=H.f∧H'.n=H.n)):ACall P G f args H (fun r H'=>S r∧H'=H):=by
 intro σ w vs hr ha;refine (h σ w vs hr ha).mono ?_
 rintro e w' ⟨r,⟨f',n',wf',z'⟩,σ',v,⟨hS,hf,hn⟩,he,hrel,hv,hev⟩
 simp only at hf hn;subst hf;subst hn
 have hb:Ev H.n σ' ⟨H.f,H.n,wf',z'⟩ w' σ' H w' :=
  ⟨fun _ _ _ a b=>⟨a,b⟩,fun _ _=>rfl,Nat.le_refl _,fun _ _ k c hk=>⟨k,c,hk,Nat.le_refl _,fun _=>rfl⟩,Nat.le_refl _,fun _ _ h=>⟨rfl,⟨h.1,h.2,h.3⟩⟩,rfl,rfl⟩
 have hev2:Ev H.n σ H w σ' H w':=hev.trans (n1:=H.n) hb (Nat.le_refl _)
 refine⟨r,H,σ',v,⟨hS,rfl⟩,he,?_,hv.mono hb,hev2⟩
 refine⟨fun b cs h => ?_,hrel.tail,fun b k cs h => ?_,hrel.cc,hrel.ct,hrel.tt,hrel.glob_mono hb,fun b vs S h => ?_,hrel.oo,hrel.gm_mono hb,fun g' sz' xs' h=>(hr.z g' sz' xs' h).mono hev2⟩
 · obtain⟨c,e,q1,q2,q3⟩:=hrel.cells b cs h
   exact⟨c,e,q1,q2,fun i y hy=>let ⟨v,p,q⟩:=q3 i y hy;⟨v,p,q.mono hb⟩⟩
 · obtain⟨q0,q1,q2⟩:=hrel.vec b k cs h
   exact⟨q0,q1,fun g o s hg=>let ⟨p0,p1,p2⟩:=q2 g o s hg;⟨p0,p1,fun i x hx=>let ⟨v,a,b'⟩:=p2 i x hx;⟨v,a,b'.mono hb⟩⟩⟩
 · obtain⟨o,us,q1,q2,q3,q4⟩:=hrel.objs b vs S h
   exact⟨o,us,q1,q2,q3.mono hb,q4⟩
end Go.AL
namespace Go.Proofs.YthaoifcebimkfaaGreatDoor
open Go Go.AL
def Ap (s t:List Nd):Prop := ∃ u,t=s++u ∧ ∀ x∈u,okC x.k
theorem Ap.refl (s:List Nd):Ap s s:=⟨[],by simp,by simp⟩
theorem Ap.trans {s t u:List Nd} (h:Ap s t) (h':Ap t u):Ap s u:=by
 obtain⟨a,rfl,ha⟩:=h
 obtain⟨b,rfl,hb⟩:=h'
 exact⟨a++b,by simp,fun x hx=>(List.mem_append.1 hx).elim (ha x) (hb x)⟩
theorem Ap.sm {s t:List Nd} (h:Ap s t) (hs:SmC s):SmC t:=fun j hj=>by
 obtain⟨u,rfl,hu⟩:=h
 by_cases e:j < s.length
 · rw [z5 e];exact hs j e
 · rw [z8 (by omega),zg (by simp at hj;omega)];exact hu _ (List.getElem_mem _)
theorem zbM (s:List Nd) (l r:Nat) {k:Cf} (hk:okC k):Ap s (addN s l r k).2:=by
 rw [zao]
 split
 · exact .refl s
 · exact⟨[_],rfl,by simpa using hk⟩
theorem yF {c a b d:Int} (h : -1000≤c∧c≤1000:=by omega) (h' : -1000≤a∧a≤1000:=by omega) (h'' : -1000≤b∧b≤1000:=by omega) (h3 : -1000≤d∧d≤1000:=by omega):okC ⟨c,a,b,d⟩:=⟨h,h',h'',h3⟩
theorem zfC (s:List Nd) (l r:Nat):Ap s (prN s l r).2:=zbM s l r yF
theorem zCo (m o:Bool):okC (zgd m o):=by cases m<;>cases o<;>exact yF
theorem zCp (most:Bool) (n x i:Nat) (p:Option Nat × List Nd):Ap p.2 (za4 most n x i p).2:=by
 unfold za4
 split
 · split
   · split
     · exact .refl _
     · exact zbM _ _ _ yF
   · split<;>exact .refl _
 · exact zbM _ _ _ (zCo _ _)
theorem zkn (most:Bool) (n c:Nat) (s:List Nd) : ∀ i,Ap s (yv most n c s i).2
 | 0 => .refl s
 | i+1=>(zkn most n c s i).trans (zCp ..)
theorem zD7 (c:Cnd) (p:BS):Ap p.2 (mt1 c p).2:=by
 unfold mt1
 split
 · exact (zkn ..).trans (zfC ..)
 · exact .refl _
theorem zD8 (c:Cnd) (p:BS):Ap p.2 (mt2 c p).2:=by
 unfold mt2
 split
 · exact (zkn ..).trans (zfC ..)
 · exact .refl _
theorem zgu (l:List Cnd) (s:List Nd) : ∀ i,Ap s (zbJ l s i).2
 | 0 => .refl s
 | i+1=>((zgu l s i).trans (zD7 ..)).trans (zD8 ..)
theorem zm4 (u:Nat):okC (yA u):=by
 match u with
 | 0=>exact yF
 | 1=>exact yF
 | 2=>exact yF
 | 3=>exact yF
 | u+4=>exact yF
theorem zCq (c v:Nat) (s:List Nd):Ap s (zbq c v s).2 :=
 ((zbM _ _ _ (zm4 _)).trans (zbM _ _ _ (zm4 _))).trans (zfC ..)
theorem zrv (m c:Nat) (s:List Nd) : ∀ i,Ap s (yI m c s i).2
 | 0 => .refl s
 | i+1=>((zrv m c s i).trans (zCq ..)).trans (zfC ..)
theorem zko (l:List Cnd) (c:Nat) (s:List Nd):Ap s (y6 l c s).2:=(zgu l s l.length).trans (zrv (zZ l s).1 c (zZ l s).2 16)
theorem zrw (c:Nat) (s:List Nd) : ∀ i,Ap s (zaX c s i).2
 | 0 => .refl s
 | i+1=>(zrw c s i).trans (zfC ..)
theorem zz1 (q:Qry) (s:List Nd):Ap s (zw q s).2:=by
 unfold zw
 split
 · exact zgu (nth q.fl 0) s (nth q.fl 0).length
 · split
   · exact ((zgu (nth q.fl 0) s (nth q.fl 0).length).trans (zrw q.col.toNat (zZ (nth q.fl 0) s).2 (q.k - 1).toNat)).trans (zfC _ _ _)
   · split
     · dsimp only;exact Ap.trans (t:=(y6 (nth q.fl 0) 0 s).2) (zko (nth q.fl 0) 0 s) (zko (nth q.fl 1) 0 (y6 (nth q.fl 0) 0 s).2)
     · exact zko (nth q.fl 0) q.col.toNat s
theorem zqd (s:List Nd) (x:Nat):Ap s (chk s x).2:=zbM _ _ _ yF
theorem zCR {c:Nat} (p:LBS) : ∀ k,k≤8 → Ap p.2 (zT c p k).s
 | 0,_ => .refl _
 | k+1,hk=>by
  have ih:=zCR (c:=c) p k (by omega);unfold zT zS
  split
  · exact ih.trans (zqd (zT c p k).s (zi c+k))
  · have h2:(2:Int) ^ k≤128∧0 < (2:Int) ^ k:=by
     have e:(2:Int) ^ k=((2 ^ k:Nat):Int):=by simp
     have h1:2 ^ k≤2 ^ 7:=Nat.pow_le_pow_right (by decide) (by omega);have h3:=Nat.two_pow_pos k;have h4:2 ^ 7=128:=rfl;omega
    exact (ih.trans (zqd (zT c p k).s (zi c+k))).trans (zbM (chk (zT c p k).s (zi c+k)).2 (zT c p k).sum (zi c+k) (k:=⟨0,1,2 ^ k,0⟩) (yF (by omega) (by omega) (by omega) (by omega)))
theorem zCr (c:Nat) (p:LBS):Ap p.2 (zhl c p).2:=(zCR p (yf c) (zaY c)).trans (zbM (zT c p (yf c)).s (zT c p (yf c)).sum c (k:=⟨0,1,-1,0⟩) yF)
theorem zkp (q:Qry) (s:List Nd) : ∀ c,Ap s (zah q s c).2
 | 0=>zqd s 4
 | c+1=>by
  unfold zah
  split
  · exact (zkp q s c).trans (zCr c (zah q s c))
  · exact zkp q s c
theorem SmC.nil:SmC []:=fun j h=>absurd h (Nat.not_lt_zero _)
theorem zqe (q:Qry):SmC (zaL q).2.2:=((zz1 q []).trans (zkp q _ 4)).sm SmC.nil
theorem zkq {l:List Cnd} {s:List Nd}:(zZ l s).1 < 29+(zZ l s).2.length:=zd3 (l:=l) (s:=s) l.length
theorem zhG {q:Qry} (hq:vQ q=true):ZOk [] (zw q []).1 236 (zw q []).2∧(zw q []).1.length≤32:=by
 obtain⟨hfl,hlf⟩:q.fl.length=(if q.kind=7 then 2 else 1) ∧ ∀ x∈q.fl,vF x=true:=by
  simp only [vQ,Bool.and_eq_true,decide_eq_true_eq,List.all_eq_true] at hq;exact⟨hq.2.2.2.2.1,hq.2.2.2.2.2⟩
 have hK:q.k≤yw q.kind:=by
  simp only [vQ,Bool.and_eq_true,decide_eq_true_eq] at hq;exact hq.2.2.2.1.2
 have h3 : ∀ i,i < q.fl.length → (nth q.fl i).length≤3:=fun i hi=>zfA (zb7 hq hi)
 have h0:=h3 0 (by rw [hfl];split<;>decide)
 have g1 : ∀ (l:List Cnd) (s:List Nd),l.length≤3 → (zZ l s).2.length≤s.length+54∧s.length≤(zZ l s).2.length:=fun l s h=>⟨by have:=(zap l).len s;omega,((zap l).ext s).len⟩
 have g2 : ∀ (l:List Cnd) (c:Nat) (s:List Nd),l.length≤3 → ZOk s (y6 l c s).1 118 (y6 l c s).2∧(y6 l c s).1.length=16:=fun l c s h =>
  ⟨⟨((zdx l c).ext s).len,by have:=(zdx l c).len s;omega,fun x hx=>zfb 16 x hx⟩,za1 16⟩
 unfold zw
 split
 · have:=g1 (nth q.fl 0) [] h0
   refine⟨⟨Nat.zero_le _,by simp only [List.length_nil] at *;omega,fun x hx => ?_⟩,by simp⟩
   simp only [List.mem_singleton] at hx;subst hx;exact zkq
 · split
   · rename_i h1 h2
     have hk:q.k≤6:=by
      rcases h2 with e | e<;>rw [e] at hK
      · have:yw 2=0:=rfl
        omega
      · exact hK
     have a:=g1 (nth q.fl 0) [] h0;have b:=(zdy q.col.toNat (q.k - 1).toNat).len (zZ (nth q.fl 0) []).2;have c:=zpP (zaX q.col.toNat (zZ (nth q.fl 0) []).2 (q.k - 1).toNat).2 (zZ (nth q.fl 0) []).1 (zaX q.col.toNat (zZ (nth q.fl 0) []).2 (q.k - 1).toNat).1;have d:=(zc0 (zZ (nth q.fl 0) []).1 (zaX q.col.toNat (zZ (nth q.fl 0) []).2 (q.k - 1).toNat).1).len (zaX q.col.toNat (zZ (nth q.fl 0) []).2 (q.k - 1).toNat).2
     refine⟨⟨Nat.zero_le _,by simp only [List.length_nil] at *;omega,fun x hx => ?_⟩,by simp⟩
     simp only [List.mem_singleton] at hx;subst hx;exact c
   · split
     · rename_i h7;have h1:=h3 1 (by rw [hfl,if_pos h7];decide)
       obtain⟨a1,a2⟩:=g2 (nth q.fl 0) 0 [] h0
       obtain⟨b1,b2⟩:=g2 (nth q.fl 1) 0 (y6 (nth q.fl 0) 0 []).2 h1
       dsimp only
       refine⟨⟨Nat.zero_le _,?_,fun x hx => ?_⟩,?_⟩
       · have:=a1.hi;have:=b1.hi;simp only [List.length_nil] at *;omega
       · rcases List.mem_append.1 hx with e | e
         · have:=a1.mem x e;have:=b1.lo;omega
         · exact b1.mem x e
       · rw [List.length_append,a2,b2];exact Nat.le_refl _
     · obtain⟨a1,a2⟩:=g2 (nth q.fl 0) q.col.toNat [] h0
       exact⟨a1.more (by omega),by rw [a2];omega⟩
theorem zgv {q:Qry} (hq:vQ q=true):(∀ x∈(zaL q).1++(zaL q).2.1,x < 29+(zaL q).2.2.length)∧(zaL q).2.2.length≤305∧(zaL q).1.length≤32∧((zaL q).1++(zaL q).2.1).length≤69∧0 < (zaL q).2.1.length:=by
 obtain⟨a,b⟩:=zhG hq
 have c:=zgr (q:=q) (s:=(zw q []).2) 4 (Nat.le_refl _);have d:=zfd (q:=q) (s:=(zw q []).2) 4 (Nat.le_refl _)
 have e : ∀ c,0 < (zah q (zw q []).2 c).1.length:=fun c=>by
  induction c with
  | zero=>exact Nat.zero_lt_one
  | succ c ih =>
   unfold zah
   split
   · unfold zhl;simp
   · exact ih
 have hn:(zaL q).2.2=(zah q (zw q []).2 4).2:=rfl;have h1:(zaL q).1=(zw q []).1:=rfl;have h2:(zaL q).2.1=(zah q (zw q []).2 4).1:=rfl;rw [hn,h1,h2]
 refine⟨fun x hx => ?_,?_,b,?_,e 4⟩
 · rcases List.mem_append.1 hx with h | h
   · have:=a.mem x h;have:=c.lo;omega
   · exact c.mem x h
 · have:=a.hi;have:=c.hi;simp only [List.length_nil] at *;omega
 · rw [List.length_append];omega
end Go.Proofs.YthaoifcebimkfaaGreatDoor

namespace Go.Proofs.YthaoifcebimkfaaGreatDoor
open Go Go.AL

theorem zcN {s:List Nd} (hw:Wf s) {d:Nat} {o:List Nat} (ho : ∀ x∈o,x < 29+s.length) : ∀ i,i≤o.length → Cov s d (yn s d o ⟨[],List.replicate d []⟩ i).2
 | 0,_=>Cov.none s d
 | i+1,hi=>(zaA hw d _ _ (zcN hw ho i (by omega)) (Nat.le_refl _) (ho _ (by rw [zg hi];exact List.getElem_mem _))).1
theorem zfD {s:List Nd} (hw:Wf s) {o:List Nat} (ho : ∀ x∈o,x < 29+s.length):(zbr s o).length=depth s o:=by
 unfold zbr;dsimp only;rw [List.length_set];exact (zcN (d:=depth s o) hw ho o.length (Nat.le_refl _)).len
theorem zhH {s:List Nd} (hw:Wf s) {o:List Nat} (ho : ∀ x∈o,x < 29+s.length) {m:Nat} (h:o.length≤m) (h':29+s.length≤m) : ∀ x∈zbr s o,x.length≤m:=by
 intro x hx;unfold zbr at hx;dsimp only at hx
 rcases List.mem_or_eq_of_mem_set hx with e | e
 · obtain⟨k,hk,rfl⟩:=List.getElem_of_mem e
   have:=(zcN (d:=depth s o) hw ho o.length (Nat.le_refl _)).le k
   rw [zg hk] at this;omega
 · rw [e,zd5];exact h
theorem zz2 {c:Nat} {p:LBS} {x:Nat} (h:x∈p.1) : ∀ k,x∈(zT c p k).o
 | 0=>h
 | k+1=>by
  have ih:=zz2 (c:=c) h k;unfold zT zS
  split<;>simp [ih]
theorem zcO {q:Qry} {s:List Nd} : ∀ c,(chk s 4).1∈(zah q s c).1
 | 0=>by simp [zah]
 | c+1=>by
  have ih:=zcO (q:=q) (s:=s) c;unfold zah
  split
  · unfold zhl;simp [zz2 ih]
  · exact ih
section walks
variable {G:Globs} {r1:Nat} {m1:List (Int × Int)}
set_option maxHeartbeats 16000000 in
set_option maxRecDepth 20000 in
theorem zee (g:GW G r1 m1) (q:Qry) (hk:okI q.kind) (H:Hp):ACall Tryz.prog G 10 [.p (qry q)] H (fun r H'=>(r = .tup [.p (zcv (zK q).1),.p (i64 (zK q).2)]∧(y7 q=0 → Wf (zaL q).2.2))∧H'=H):=by
 refine ACall.backZ ?_
 refine ACall.of_run (raw:=[]) Tryz.func10 rfl Tryz.ntmps10 (by simp) fun hbel => ?_
 refine .qt rfl ?_;simp (disch:=first|exact zb|fail) only [go_sem,seval]
 cases hv:vQ q with
 | false =>
  have he:y7 q=1:=by rw [y7,hv];rfl
  have hc:zK q=(⟨0,[],0⟩,1):=by rw [zK,he];rfl
  rw [hc];refine .qt rfl ?_;simp (disch:=first|exact zb|fail) only [go_sem,seval];refine CallK.of (fun R h=>zc3 q hk _ R h) ?_;simp (disch:=first|exact zb|fail) only [go_sem,seval,hv];refine .qT rfl ?_;refine .qt rfl ?_;simp (disch:=first|exact zb|fail) only [go_sem,seval];refine .qr rfl Tryz.func10 (by rw [Tryz.results10]) ?_;simp (disch:=first|exact zb|fail) only [go_sem,seval]
  exact fun e=>by rw [he] at e;cases e
 | true =>
  refine .qt rfl ?_;simp (disch:=first|exact zb|fail) only [go_sem,seval];refine CallK.of (fun R h=>zc3 q hk _ R h) ?_;simp (disch:=first|exact zb|fail) only [go_sem,seval,hv];refine .qF rfl ?_;refine .skip ?_;refine .qt rfl ?_;simp (disch:=first|exact zb|fail) only [go_sem,seval];refine CallK.ex (zhF g q hk _) ?_
  rintro _ _ ⟨⟨x,rfl⟩,rfl⟩
  simp (disch:=first|exact zb|fail) only [go_sem,seval]
  rcases Classical.em (y7 q=0) with he | he
  · rw [he];refine .qt rfl ?_;simp (disch:=first|exact zb|fail) only [go_sem,seval];refine .qF rfl ?_;refine .skip ?_
    obtain⟨X,hX⟩ : ∃ X,X=((H.new (.cells [.p (i64 q.kind),.p (i64 q.col),.p (i64 q.k),.p (.sl false 1 (pl yt q.fl))])).new (.cells [.p (i64 0),.p (.sl true 1 []),.p (i64 0)])).new (.cells [.p x]):=⟨_,rfl⟩
    have hXn:X.n=H.n+3:=by rw [hX,n_new',n_new',n_new']
    have hX0:X.f H.n=some (.cells [.p (i64 q.kind),.p (i64 q.col),.p (i64 q.k),.p (.sl false 1 (pl yt q.fl))]):=by rw [hX];simp (disch:=first|exact zb|fail) only [go_sem,seval]
    have hXl : ∀ b,b < H.n → X.f b=H.f b:=fun b hb=>by rw [hX];simp (disch:=first|exact zb|fail) only [go_sem,seval]
    have hX1:X.f (H.n+1)=some (.cells [.p (i64 0),.p (.sl true 1 []),.p (i64 0)]):=by rw [hX];simp (disch:=first|exact zb|fail) only [go_sem,seval]
    have hXb:Bel H.n X:=by
     rw [hX]
     repeat (first | with_reducible refine zaC ?_ zb | with_reducible refine zaU ?_ zb | with_reducible exact hbel)
    rw [←hX]
    clear hX
    refine .qt rfl ?_;simp (disch:=first|exact zb|fail) only [go_sem,seval];refine CallK.ex (zuW _) ?_
    rintro _ H1 ⟨ad,hB,rfl,hn1,hf1⟩
    rw [hXn] at hB hf1 hn1 ⊢;have q1:=(hf1 H.n (by omega)).trans hX0;simp (disch:=first|exact zb|fail) only [go_sem,seval];refine .qt rfl ?_;simp (disch:=first|exact zb|fail) only [go_sem,seval,q1];refine CallK.ex (zuT g q hv hB (by decide)) ?_
    rintro _ H2 ⟨ad2,hB2,n2,rfl⟩
    have q2:=(n2.f H.n (by omega)).trans q1
    obtain⟨o1,o2⟩:=zhG hv
    have o3:=o1.hi;have o4:=o1.mem;simp only [List.length_nil,Nat.zero_add] at o3;simp (disch:=first|exact zb|fail) only [go_sem,seval];refine .qt rfl ?_;simp (disch:=first|exact zb|fail) only [go_sem,seval,q2];refine CallK.ex (zpY g q hv hB2 (by omega)) ?_
    rintro _ H3 ⟨ad3,hB3,n3,rfl⟩
    have q3:=(n3.f H.n (by omega)).trans q2;rw [zmR (ad:=ad2) (ad':=ad3) fun x hx=>n3.ad x (o4 x hx)];have hb3:AV.p (.sl true 1 [.sl false 1 (pl (fun i=>ptp (ad3 i)) (zw q []).1),.sl false 1 (pl (fun i=>ptp (ad3 i)) (yc q (zw q []).2).1)]) = .p (.sl true 1 (pl (pn ad3) [(zw q []).1,(yc q (zw q []).2).1])):=rfl
    have hold : ∀ b,b < H.n+3 → H3.f b=X.f b:=fun b hb=>(n3.f b (by omega)).trans ((n2.f b (by omega)).trans (hf1 b hb))
    have hn3:H.n+3≤H3.n:=by have:=n3.n;have:=n2.n;omega
    obtain⟨p1,p2,p3,p4,p5⟩:=zgv hv
    have hC:=zqe q;have hWf:Wf (zaL q).2.2:=hB3.wf
    have hcQ:zK q=if zig (zbr (yc q (zw q []).2).2 ((zw q []).1++(yc q (zw q []).2).1)) then (⟨0,[],0⟩,2) else (⟨29,zbr (yc q (zw q []).2).2 ((zw q []).1++(yc q (zw q []).2).1),(zw q []).1.length⟩,0):=by
     unfold zK;rw [if_pos he];rfl
    rw [hcQ]
    change ∀ x∈(zw q []).1++(yc q (zw q []).2).1,x < 29+(yc q (zw q []).2).2.length at p1
    change (yc q (zw q []).2).2.length≤305 at p2
    change (zw q []).1.length≤32 at p3
    change ((zw q []).1++(yc q (zw q []).2).1).length≤69 at p4
    change SmC (yc q (zw q []).2).2 at hC
    have p6 : ∃ y∈(zw q []).1++(yc q (zw q []).2).1,0 < lev (yc q (zw q []).2).2 y:=by
     have hm:=zcO (q:=q) (s:=(zw q []).2) 4
     refine⟨_,List.mem_append_right _ hm,?_⟩
     have h29:29≤(chk (zw q []).2 4).1:=by unfold chk;rw [zay];omega
     refine Nat.pos_of_ne_zero fun h0 => ?_
     have:=zdE hB3.wf (p1 _ (List.mem_append_right _ hm)) h0
     omega
    clear hcQ o4
    simp (disch:=first|exact zb|fail) only [go_sem,seval,hb3]
    generalize (zw q []).1=a at *
    generalize yc q (zw q []).2=z at *
    obtain⟨b,S⟩:=z
    simp only at hB3 p1 p2 p3 p4 p6 hC ⊢;have hcat:zmL [a,b] 2=a++b:=rfl
    have htot:zdb [a,b] 2=(a++b).length:=by rw [←hcat,zmM]
    have hlab:0 < (a++b).length:=by
     obtain⟨y,hy,_⟩:=p6
     exact List.length_pos_of_mem hy
    have hdp:0 < depth S (a++b):=by
     obtain⟨y,hy,hy0⟩:=p6
     have:=zbu (s:=S) hy
     omega
    have hlw:=zfD hB3.wf p1;have hll:=zhH hB3.wf p1 (m:=1000) (by omega) (by omega)
    have hdl:depth S (a++b)≤1000:=zdL fun x hx=>by have:=p1 x hx;have:=zbB hB3.wf x this;omega
    refine CallK.of (fun R h=>zfc ad3 [a,b] (by show 2≤1000;omega) (by show 0 < zdb [a,b] 2;omega) (by show zdb [a,b] 2≤_;omega) _ R h) ?_;simp (disch:=first|exact zb|fail) only [go_sem,seval];rw [hcat];refine CallK.ex (zm3 hB3.wf hC hB3.inj (by omega) (a++b) p1 (by omega) hdp H3 hB3.nd) ?_
    rintro _ H4 ⟨rfl,hH4⟩
    rw [hH4]
    clear hH4
    generalize zbr S (a++b)=ls at *
    have qX:=(hold (H.n+1) (by omega)).trans hX1
    have hbel:Bel H.n H3:=fun b x hb hx=>hXb b x hb (by rw [←hold b (by omega)];exact hx)
    have hend:(H3.trunc H.n).f=H.f:=funext fun b=>by
     rw [Hp.f_trunc]
     split
     · exact (hold b (by omega)).trans (hXl b (by omega))
     · exact (H.wf b (by omega)).symm
    simp (disch:=first|exact zb|fail) only [go_sem,seval];refine .qt rfl ?_;simp (disch:=first|exact zb|fail) only [go_sem,seval];refine CallK.of (fun R h=>zp2 ls (by omega) (fun x hx=>by have:=hll x hx;omega) _ R h) ?_;simp (disch:=first|exact zb|fail) only [go_sem,seval]
    cases hbg:zig ls with
    | true =>
     refine .q ?_;refine .ifT (by simp (disch:=first|exact zb|fail) only [go_sem,seval,hbg]) ?_;refine .qt rfl ?_;simp (disch:=first|exact zb|fail) only [go_sem,seval,qX];refine .qr rfl Tryz.func10 (by rw [Tryz.results10]) ?_;simp (disch:=first|exact zb|fail) only [go_sem,seval]
     exact⟨hWf,hend,rfl⟩
    | false =>
     refine .q ?_;refine .ifF (by simp (disch:=first|exact zb|fail) only [go_sem,seval,hbg]) ?_;refine .skip ?_;refine .qt rfl ?_;simp (disch:=first|exact zb|fail) only [go_sem,seval,qX];refine .qr rfl Tryz.func10 (by rw [Tryz.results10]) ?_;simp (disch:=first|exact zb|fail) only [go_sem,seval]
     exact⟨hWf,hend,rfl⟩
  · have hc:zK q=(⟨0,[],0⟩,y7 q):=by rw [zK,if_neg he]
    rw [hc];refine .qt rfl ?_;simp (disch:=first|exact zb|fail) only [go_sem,seval];refine .q ?_;refine .ifT (by simp (disch:=first|exact zb|fail) only [go_sem,seval,he]) ?_;refine .qt rfl ?_;simp (disch:=first|exact zb|fail) only [go_sem,seval];refine .qr rfl Tryz.func10 (by rw [Tryz.results10]) ?_;simp (disch:=first|exact zb|fail) only [go_sem,seval]
    exact fun e=>absurd e he
theorem za2 (g:GW G r1 m1) (q:Qry) (hk:okI q.kind) (H:Hp):ACall Tryz.prog G 10 [.p (qry q)] H (fun r H'=>r = .tup [.p (zcv (zK q).1),.p (i64 (zK q).2)]∧H'=H) :=
 (zee g q hk H).mono fun r H' h=>⟨h.1.1,h.2⟩
end walks
end Go.Proofs.YthaoifcebimkfaaGreatDoor

namespace Go.Proofs.YthaoifcebimkfaaGreatDoor
open Go Go.AL

theorem zCs {n:Int} (h0:n < 0) (h1 : -1152921504606846976≤n):(18446744069414584321#64:U) - (BitVec.ofInt 64 (-(n+1))+1#64)=fi n:=by
 obtain⟨m,hm⟩:=Int.eq_ofNat_of_zero_le (show 0 ≤ -(n+1) by omega)
 rw [hm,BitVec.ofInt_natCast,fi,if_pos h0]
 have:(-n).toNat=m+1:=by omega
 rw [this]
 congr 1
 apply BitVec.eq_of_toNat_eq;rw [BitVec.toNat_add,BitVec.toNat_ofNat,BitVec.toNat_ofNat,BitVec.toNat_ofNat];omega
section walks
variable {G:Globs}
theorem zbi (n:Int) (h1 : -1152921504606846976≤n) (h2:n≤1152921504606846976) (H:Hp) (R:AV → Hp → Prop) (h:R (.p (zh (fi n))) H):ACall Tryz.prog G 65 [.p (i64 n)] H R:=by
 refine ACall.of_run (raw:=[]) Tryz.func65 rfl Tryz.ntmps65 (by simp) fun hbel => ?_
 refine .qt rfl ?_;simp (disch:=first|exact zb|fail) only [go_sem,seval];refine .qt rfl ?_;simp (disch:=first|exact zb|fail) only [go_sem,seval]
 rcases Int.lt_or_le n 0 with h0 | h0
 · have e0:(0:Int) - (n+1) = -(n+1):=by omega
   rw [←zCs h0 h1] at h;refine .qF rfl ?_;refine .skip ?_;refine .qt rfl ?_;simp (disch:=first|exact zb|fail) only [go_sem,seval,e0];refine .qr rfl Tryz.func65 (by rw [Tryz.results65]) ?_;simp (disch:=first|exact zb|fail) only [go_sem,seval];exact h
 · rw [←zzA h0] at h;refine .qT rfl ?_;refine .qt rfl ?_;simp (disch:=first|exact zb|fail) only [go_sem,seval];refine .qr rfl Tryz.func65 (by rw [Tryz.results65]) ?_;simp (disch:=first|exact zb|fail) only [go_sem,seval];exact h
theorem zbN (H:Hp) (R:AV → Hp → Prop) (h:R (.p (i64 29)) H):ACall Tryz.prog G 49 [] H R:=by
 refine ACall.of_run (raw:=[]) Tryz.func49 rfl Tryz.ntmps49 (by simp) fun hbel => ?_
 refine .qt rfl ?_;simp (disch:=first|exact zb|fail) only [go_sem,seval];refine .qt rfl ?_;simp (disch:=first|exact zb|fail) only [go_sem,seval];refine .qr rfl Tryz.func49 (by rw [Tryz.results49]) ?_;simp (disch:=first|exact zb|fail) only [go_sem,seval];exact h
theorem yM (c:Nat) (hc:c < 4) (H:Hp) (R:AV → Hp → Prop) (h:R (.p (i64 (yf c:Nat))) H):ACall Tryz.prog G 29 [.p (i64 c)] H R:=by
 refine ACall.of_run (raw:=[]) Tryz.func29 rfl Tryz.ntmps29 (by simp) fun hbel => ?_
 match c,hc with
 | 0,_ =>
  refine .qt rfl ?_;simp (disch:=first|exact zb|fail) only [go_sem,seval];refine .qt rfl ?_;simp (disch:=first|exact zb|fail) only [go_sem,seval];refine .qT rfl ?_;refine .qt rfl ?_;simp (disch:=first|exact zb|fail) only [go_sem,seval];refine .qr rfl Tryz.func29 (by rw [Tryz.results29]) ?_;simp (disch:=first|exact zb|fail) only [go_sem,seval];exact h
 | 1,_ =>
  refine .qt rfl ?_;simp (disch:=first|exact zb|fail) only [go_sem,seval];refine .qt rfl ?_;simp (disch:=first|exact zb|fail) only [go_sem,seval];refine .qF rfl ?_;refine .skip ?_;refine .qt rfl ?_;simp (disch:=first|exact zb|fail) only [go_sem,seval];refine .qr rfl Tryz.func29 (by rw [Tryz.results29]) ?_;simp (disch:=first|exact zb|fail) only [go_sem,seval];exact h
 | 2,_ =>
  refine .qt rfl ?_;simp (disch:=first|exact zb|fail) only [go_sem,seval];refine .qt rfl ?_;simp (disch:=first|exact zb|fail) only [go_sem,seval];refine .qT rfl ?_;refine .qt rfl ?_;simp (disch:=first|exact zb|fail) only [go_sem,seval];refine .qr rfl Tryz.func29 (by rw [Tryz.results29]) ?_;simp (disch:=first|exact zb|fail) only [go_sem,seval];exact h
 | 3,_ =>
  refine .qt rfl ?_;simp (disch:=first|exact zb|fail) only [go_sem,seval];refine .qt rfl ?_;simp (disch:=first|exact zb|fail) only [go_sem,seval];refine .qF rfl ?_;refine .skip ?_;refine .qt rfl ?_;simp (disch:=first|exact zb|fail) only [go_sem,seval];refine .qr rfl Tryz.func29 (by rw [Tryz.results29]) ?_;simp (disch:=first|exact zb|fail) only [go_sem,seval];exact h
 | c+4,h=>omega
theorem zbv (c:Nat) (hc:c < 4) (H:Hp) (R:AV → Hp → Prop) (h:R (.p (i64 (zi c:Nat))) H):ACall Tryz.prog G 28 [.p (i64 c)] H R:=by
 refine ACall.of_run (raw:=[]) Tryz.func28 rfl Tryz.ntmps28 (by simp) fun hbel => ?_
 match c,hc with
 | 0,_ =>
  refine .qt rfl ?_;simp (disch:=first|exact zb|fail) only [go_sem,seval];refine .qt rfl ?_;simp (disch:=first|exact zb|fail) only [go_sem,seval];refine .qr rfl Tryz.func28 (by rw [Tryz.results28]) ?_;simp (disch:=first|exact zb|fail) only [go_sem,seval];exact h
 | 1,_ =>
  refine .qt rfl ?_;simp (disch:=first|exact zb|fail) only [go_sem,seval];refine .qt rfl ?_;simp (disch:=first|exact zb|fail) only [go_sem,seval];refine .qr rfl Tryz.func28 (by rw [Tryz.results28]) ?_;simp (disch:=first|exact zb|fail) only [go_sem,seval];exact h
 | 2,_ =>
  refine .qt rfl ?_;simp (disch:=first|exact zb|fail) only [go_sem,seval];refine .qt rfl ?_;simp (disch:=first|exact zb|fail) only [go_sem,seval];refine .qr rfl Tryz.func28 (by rw [Tryz.results28]) ?_;simp (disch:=first|exact zb|fail) only [go_sem,seval];exact h
 | 3,_ =>
  refine .qt rfl ?_;simp (disch:=first|exact zb|fail) only [go_sem,seval];refine .qt rfl ?_;simp (disch:=first|exact zb|fail) only [go_sem,seval];refine .qr rfl Tryz.func28 (by rw [Tryz.results28]) ?_;simp (disch:=first|exact zb|fail) only [go_sem,seval];exact h
 | c+4,h=>omega
theorem zjc (c:Nat) (hc:c < 4) (H:Hp) (R:AV → Hp → Prop) (h:R (.p (i64 (yQ c))) H):ACall Tryz.prog G 70 [.p (i64 c)] H R:=by
 have hsh:=zrr hc;have htb:=zfe c
 have hsub:yQ c+1 - 1=yQ c:=by omega
 refine ACall.of_run (raw:=[]) Tryz.func70 rfl Tryz.ntmps70 (by simp) fun hbel => ?_
 refine .qt rfl ?_;simp (disch:=first|exact zb|fail) only [go_sem,seval];refine .qt rfl ?_;simp (disch:=first|exact zb|fail) only [go_sem,seval];refine CallK.of (fun R h=>yM c hc _ R h) ?_;simp (disch:=first|exact zb|fail) only [go_sem,seval,hsh,hsub];refine .qr rfl Tryz.func70 (by rw [Tryz.results70]) ?_;simp (disch:=first|exact zb|fail) only [go_sem,seval];exact h
end walks
end Go.Proofs.YthaoifcebimkfaaGreatDoor

namespace Go.Proofs.YthaoifcebimkfaaGreatDoor
open Go Go.AL

structure RNd where
 g:Gate
 lv:Int
instance:Inhabited RNd:=⟨⟨⟨0,0,0#64,0#64,0#64,0#64⟩,0⟩⟩
def rnd (x:RNd):PV := .agg [i64 x.g.l,i64 x.g.r,zh x.g.c,zh x.g.a,zh x.g.b,zh x.g.d,i64 x.lv]
def gOf (l r:Nat) (k:Cf):Gate:=⟨l,r,fi k.c,fi k.a,fi k.b,fi k.d⟩
def rOf (x:Nd):RNd:=⟨gOf x.l x.r x.k,x.lv⟩
def rN (s:List Nd):List RNd:=List.replicate 29 default++s.map rOf
section enc
variable {x:RNd} {i s n:Int} {a b c d:U} {l:List RNd}
theorem zqf:zj (.p (rnd x))=some [.p (i64 x.g.l),.p (i64 x.g.r),.p (zh x.g.c),.p (zh x.g.a),.p (zh x.g.b),.p (zh x.g.d),.p (i64 x.lv)]:=rfl
theorem zvi:(rnd x).cells=[i64 x.g.l,i64 x.g.r,zh x.g.c,zh x.g.a,zh x.g.b,zh x.g.d,i64 x.lv]:=rfl
theorem zvj:(rnd x).isAgg=true:=rfl
theorem zqg:(AV.p (rnd x)).isAggV=true:=rfl
theorem zz3:(rnd x).weak=rnd x:=rfl
theorem zvk:(rnd x).weak1=rnd x:=rfl
theorem zvl:(rnd x).aggOf 0 7=rnd x:=rfl
theorem zqh:(rnd x).aggOf 0 6=zG x.g:=rfl
theorem zvm:zx [.p (i64 i),.p (i64 s),.p (zh a),.p (zh b),.p (zh c),.p (zh d),.p (i64 n)] = .p (rnd ⟨⟨i,s,a,b,c,d⟩,n⟩):=rfl
theorem zz4:PV.agg [i64 i,i64 s,zh a,zh b,zh c,zh d,i64 n]=rnd ⟨⟨i,s,a,b,c,d⟩,n⟩:=rfl
theorem zCt:(⟨⟨x.g.l,x.g.r,x.g.c,x.g.a,x.g.b,x.g.d⟩,x.lv⟩:RNd)=x:=rfl
end enc
attribute [go_sem] zqf zvi zvj zqg zz3 zvk zvl zqh zvm zz4 zCt
theorem zkr (s:List Nd):(rN s).length=29+s.length:=by rw [rN,List.length_append,List.length_replicate,List.length_map]
theorem zz5 {s:List Nd} {j:Nat} (h:j < s.length):nth (rN s) (29+j)=rOf (nth s j):=by
 unfold rN;rw [z8 (by rw [List.length_replicate];omega),List.length_replicate,Nat.add_sub_cancel_left];simp [nth,h]
theorem zry {s:List Nd} {n:Nat} (h:n < 29+s.length):(nth (rN s) n).lv=(lev s n:Nat):=by
 by_cases e:n < 29
 · rw [zfs n e];unfold rN;rw [z5 (by rw [List.length_replicate];exact e),nth,List.getElem?_replicate,if_pos e];rfl
 · obtain⟨j,rfl⟩ : ∃ j,n=29+j:=⟨n - 29,by omega⟩
   rw [zz5 (by omega)];unfold lev;rw [if_neg e,Nat.add_sub_cancel_left];rfl
theorem zCu (s:List Nd) (x:Nd):rN s++[rOf x]=rN (s++[x]):=by rw [rN,rN,List.map_append,List.append_assoc];rfl
structure RB (H:Hp) (s:List Nd) (bb al:Nat):Prop where
 bld:H.f bb=some (.cells [.sl al (29+s.length) 7 (pl rnd (rN s))])
 tl:H.f al=some (.tail (29+s.length))
 wf:Wf s
 sm:SmC s
structure RF (bb al:Nat) (H H':Hp):Prop where
 n:H'.n=H.n
 f : ∀ b,b≠bb → b≠al → H'.f b=H.f b
theorem RF.refl {bb al:Nat} {H:Hp}:RF bb al H H:=⟨rfl,fun _ _ _=>rfl⟩
theorem RF.trans {bb al:Nat} {H H1 H2:Hp} (h:RF bb al H H1) (h':RF bb al H1 H2):RF bb al H H2:=⟨h'.n.trans h.n,fun b h1 h2=>(h'.f b h1 h2).trans (h.f b h1 h2)⟩
def RR (bb al:Nat) (H:Hp) (f:BS) (r:AV) (H':Hp):Prop:=RB H' f.2 bb al∧RF bb al H H'∧r = .p (i64 (f.1:Nat))
theorem RB.ne {H:Hp} {s:List Nd} {bb al:Nat} (h:RB H s bb al):bb≠al:=by rintro rfl;have:=h.bld;rw [h.tl] at this;cases this
theorem RB.lt {H:Hp} {s:List Nd} {bb al:Nat} (h:RB H s bb al):bb < H.n∧al < H.n:=⟨Hp.lt h.bld,Hp.lt h.tl⟩
theorem RB.new {H:Hp} {s:List Nd} {bb al:Nat} (h:RB H s bb al) (x:AB):RB (H.new x) s bb al:=by
 obtain⟨h1,h2⟩:=h.lt
 exact⟨by rw [zc (by omega)];exact h.bld,by rw [zc (by omega)];exact h.tl,h.wf,h.sm⟩
theorem RB.set {H:Hp} {s:List Nd} {bb al b:Nat} (h:RB H s bb al) (x:AB) (h1:b≠bb) (h2:b≠al):RB (H.set b x) s bb al :=
 ⟨by rw [f_set_ne' h1.symm];exact h.bld,by rw [f_set_ne' h2.symm];exact h.tl,h.wf,h.sm⟩
theorem RB.trunc {H:Hp} {s:List Nd} {bb al n:Nat} (h:RB H s bb al) (h1:bb < n) (h2:al < n):RB (H.trunc n) s bb al :=
 ⟨by rw [Hp.f_trunc,if_pos h1];exact h.bld,by rw [Hp.f_trunc,if_pos h2];exact h.tl,h.wf,h.sm⟩
structure RW (bb al:Nat) (H H':Hp):Prop where
 n:H.n≤H'.n
 f : ∀ b,b < H.n → b≠bb → b≠al → H'.f b=H.f b
theorem RF.w {bb al:Nat} {H H':Hp} (h:RF bb al H H'):RW bb al H H':=⟨by rw [h.n];exact Nat.le_refl _,fun b _ h1 h2=>h.f b h1 h2⟩
theorem RW.refl {bb al:Nat} {H:Hp}:RW bb al H H:=⟨Nat.le_refl _,fun _ _ _ _=>rfl⟩
theorem RW.trans {bb al:Nat} {H H1 H2:Hp} (h:RW bb al H H1) (h':RW bb al H1 H2):RW bb al H H2:=⟨Nat.le_trans h.n h'.n,fun b h0 h1 h2=>(h'.f b (Nat.lt_of_lt_of_le h0 h.n) h1 h2).trans (h.f b h0 h1 h2)⟩
theorem RW.new {bb al:Nat} {H:Hp} (x:AB):RW bb al H (H.new x):=⟨by rw [n_new'];omega,fun b h0 _ _=>zc (by omega)⟩
theorem RW.set {bb al b:Nat} {H H':Hp} (h:RW bb al H H') (x:AB) (hb:b=bb ∨ b=al ∨ H.n≤b):RW bb al H (H'.set b x) :=
 ⟨by rw [n_set'];exact h.n,fun c h0 h1 h2=>by rw [f_set_ne' (by rintro rfl;rcases hb with hb | hb | hb;exact h1 hb;exact h2 hb;omega)];exact h.f c h0 h1 h2⟩
theorem RW.back {bb al:Nat} {H H':Hp} (h:RW bb al H H') (h1:bb < H.n) (h2:al < H.n):RF bb al H (H'.trunc H.n) :=
 ⟨rfl,fun b e1 e2=>by
  by_cases hb:b < H.n
  · rw [Hp.f_trunc,if_pos hb];exact h.f b hb e1 e2
  · rw [Hp.f_trunc,if_neg hb];exact (H.wf b (by omega)).symm⟩
theorem RB.bel {H H':Hp} {s:List Nd} {bb al n:Nat} (hB:RB H' s bb al) (hal:al < n) (hb:Bel n H) (hf : ∀ b,b < n → b≠bb → b≠al → H'.f b=H.f b):Bel n H':=fun b x hbn hx y hy=>by
 by_cases e:b=bb
 · subst e;rw [hB.bld] at hx;cases hx;simp only [AB.vals,List.mem_singleton] at hy;subst hy;exact .sl _ _ _ _ hal
 · by_cases e2:b=al
   · subst e2;rw [hB.tl] at hx;cases hx;cases hy
   · rw [hf b hbn e e2] at hx;exact hb b x hbn hx y hy
theorem zks {a b:Int} (ha : -1000≤a∧a≤1000) (hb : -1000≤b∧b≤1000) (h:fi a=fi b):a=b:=by
 have hpp:(pp:BitVec 64).toNat=18446744069414584321:=rfl
 have hn : ∀ n:Int,-1000≤n∧n≤1000 → (fi n).toNat=if n < 0 then 18446744069414584321 - (-n).toNat else n.toNat:=fun n hn=>by
  unfold fi
  split
  · rw [BitVec.toNat_sub,BitVec.toNat_ofNat,hpp];omega
  · rw [BitVec.toNat_ofNat];omega
 have h1:=congrArg BitVec.toNat h;rw [hn a ha,hn b hb] at h1;split at h1<;>split at h1<;>omega
theorem zCv {l r l' r':Nat} {k k':Cf} (hk:okC k) (hk':okC k'):gOf l r k=gOf l' r' k' ↔ k=k'∧l=l'∧r=r':=by
 refine⟨fun h => ?_,fun ⟨a,b,c⟩=>by rw [a,b,c]⟩
 simp only [gOf,Gate.mk.injEq] at h
 obtain⟨h1,h2,h3,h4,h5,h6⟩:=h
 obtain⟨a1,a2,a3,a4⟩:=hk
 obtain⟨b1,b2,b3,b4⟩:=hk'
 refine⟨?_,by omega,by omega⟩
 obtain⟨c,a,b,d⟩:=k
 obtain⟨c',a',b',d'⟩:=k'
 have e1:c=c':=zks a1 b1 h3;have e2:a=a':=zks a2 b2 h4;have e3:b=b':=zks a3 b3 h5;have e4:d=d':=zks a4 b4 h6;subst e1;subst e2;subst e3;subst e4;rfl
end Go.Proofs.YthaoifcebimkfaaGreatDoor

namespace Go.Proofs.YthaoifcebimkfaaGreatDoor
open Go Go.AL

section zcH
variable {a0 a1 a2 a3 a4 a5 a6 x0 x1 x2 x3 x4 x5:AV}
theorem zvn:setAt [a0,a1,a2,a3,a4,a5,a6] 0 [x0,x1,x2,x3,x4,x5]=[x0,x1,x2,x3,x4,x5,a6]:=rfl
end zcH
attribute [go_sem] zvn
section walks
variable {G:Globs}
set_option maxHeartbeats 8000000 in
set_option maxRecDepth 20000 in
theorem yJ {s:List Nd} {bb al:Nat} (l r:Nat) (k:Cf) (hk:okC k) {H:Hp} (hB:RB H s bb al) (hl:l < 29+s.length) (hr:r < 29+s.length) (hlen:s.length≤1000) :
 ACall Tryz.prog G 107 [.ptr bb 0,.p (i64 l),.p (i64 r),.p (cfP k)] H (RR bb al H (addN s l r k)):=by
 refine ACall.of_run (raw:=[]) Tryz.func107 rfl Tryz.ntmps107 (by simp) fun hbel => ?_
 obtain⟨l1,l2⟩:=hB.lt
 have hk0:=hk
 obtain⟨⟨t1,t2⟩,⟨t3,t4⟩,⟨t5,t6⟩,⟨t7,t8⟩⟩:=hk
 refine .qt rfl ?_;simp (disch:=first|exact zb|fail) only [go_sem,seval];refine .q ?_;refine .openQ 15 16 [15,16] follows (by kernel_rfl) (by kernel_rfl) ?_;simp (disch:=first|exact zb|fail) only [go_sem,seval];refine CallQE.of (fun H R h=>zbi _ (by omega) (by omega) H R h) (by first | exact .p _ | simp (disch:=first|exact zb|fail) only [go_sem,seval]) ?_;simp (disch:=first|exact zb|fail) only [go_sem,seval];refine CallQE.of (fun H R h=>zbi _ (by omega) (by omega) H R h) (by first | exact .p _ | simp (disch:=first|exact zb|fail) only [go_sem,seval]) ?_;simp (disch:=first|exact zb|fail) only [go_sem,seval];refine CallQE.of (fun H R h=>zbi _ (by omega) (by omega) H R h) (by first | exact .p _ | simp (disch:=first|exact zb|fail) only [go_sem,seval]) ?_;simp (disch:=first|exact zb|fail) only [go_sem,seval];refine CallQE.of (fun H R h=>zbi _ (by omega) (by omega) H R h) (by first | exact .p _ | simp (disch:=first|exact zb|fail) only [go_sem,seval]) ?_;simp (disch:=first|exact zb|fail) only [go_sem,seval]
 obtain⟨X,hX⟩ : ∃ X,X=(H.new (.cells [.p (i64 k.c),.p (i64 k.a),.p (i64 k.b),.p (i64 k.d)])).new (.cells [.p (i64 l),.p (i64 r),.p (zh (fi k.c)),.p (zh (fi k.a)),.p (zh (fi k.b)),.p (zh (fi k.d))]):=⟨_,rfl⟩
 have hXB:RB X s bb al:=by rw [hX];exact (hB.new _).new _
 have hXg:X.f (H.n+1)=some (.cells [.p (i64 l),.p (i64 r),.p (zh (fi k.c)),.p (zh (fi k.a)),.p (zh (fi k.b)),.p (zh (fi k.d))]):=by rw [hX];exact zm (by rw [n_new'])
 have hXW:RW bb al H X:=by rw [hX];exact (RW.new _).trans (RW.new _)
 have hXn:X.n=H.n+2:=by rw [hX,n_new',n_new']
 rw [←hX]
 clear hX
 have hXbel:Bel H.n X:=hXB.bel l2 hbel hXW.f;have hrl:=zkr s;have hlv1:=zry hl;have hlv2:=zry hr;refine .qt rfl ?_;simp (disch:=first|exact zb|fail) only [go_sem,seval];refine CallK.of (fun R h=>zbN _ R h) ?_;simp (disch:=first|exact zb|fail) only [go_sem,seval];refine .q ?_;refine .count (fun i env H'=>env 0 = .ptr bb 0∧env 1 = .p (i64 l)∧env 2 = .p (i64 r)∧env 9 = .ptr (H.n+1) 0∧env 10 = .p (i64 i)∧H'=X ∧ ∀ j,29+j < i → ¬ ((nth s j).k=k∧(nth s j).l=l∧(nth s j).r=r)) 29 (29+s.length) (by omega) ?_ ?_ ?_
 · refine⟨?_,?_,?_,?_,?_,rfl,fun j hj=>absurd hj (by omega)⟩<;>simp (disch:=first|exact zb|fail) only [go_sem,seval]
 · rintro env H' ⟨e0,e1,e2,e9,e10,rfl,hno⟩
   have hpos : ¬ zad s k l r < s.length:=fun hp=>by
    have hx:=List.findIdx_getElem (w:=hp);simp only [decide_eq_true_eq] at hx;refine hno (zad s k l r) (by omega) ?_;rw [zg hp];exact hx
   refine .qt rfl ?_;simp (disch:=first|exact zb|fail) only [go_sem,seval,e0,e10,hXB.bld];refine .qF rfl ?_;have hb1:=zbB hXB.wf l hl;have hb2:=zbB hXB.wf r hr
   have hmx:max (lev s l:Int) (lev s r:Int)=((max (lev s l) (lev s r):Nat):Int):=by omega
   have hmx2:(1:Int)+((max (lev s l) (lev s r):Nat):Int)=((1+max (lev s l) (lev s r):Nat):Int):=by omega
   have hne:=hXB.ne;have hbl:(rN s++[⟨⟨(l:Int),(r:Int),fi k.c,fi k.a,fi k.b,fi k.d⟩,((1+max (lev s l) (lev s r):Nat):Int)⟩])=rN (s++[⟨k,l,r,1+max (lev s l) (lev s r)⟩]):=zCu s ⟨k,l,r,1+max (lev s l) (lev s r)⟩
   have hmb:1+max (lev s l) (lev s r)≤2000:=by omega
   generalize hmg:1+max (lev s l) (lev s r)=mm at *
   have hlen2:=zkr (s++[⟨k,l,r,mm⟩])
   have hlen3:(s++[(⟨k,l,r,mm⟩:Nd)]).length=s.length+1:=by simp
   have hJ0:H'.f bb=some (.cells [.sl al (29+s.length) 7 (pl rnd (rN s))])∧H'.f (H.n+1)=some (.cells [.p (i64 l),.p (i64 r),.p (zh (fi k.c)),.p (zh (fi k.a)),.p (zh (fi k.b)),.p (zh (fi k.d))]):=⟨hXB.bld,hXg⟩
   refine .q ?_;refine .openJ (E := ?E1) (fun H2=>H2.f bb=some (.cells [.sl al (29+s.length) 7 (pl rnd (rN s))])∧H2.f (H.n+1)=some (.cells [.p (i64 l),.p (i64 r),.p (zh (fi k.c)),.p (zh (fi k.a)),.p (zh (fi k.b)),.p (zh (fi k.d))])) [0,1,2,3,4,5,6,7,8,9,10,11,12,13,14,15,16,17,18,19,20,21,22,23,24,25] [] [26,27,28,29] [true,false,false,false] follows (by kernel_rfl) (by first | exact rfl | assumption | simp (disch:=first|exact zb|fail) only [go_sem,seval]) (fun H2 hJ => ?hP1) ?_;(case hP1=>((try dsimp only at hJ);simp (disch:=first|exact zb|fail) only [go_sem,seval,e0,e1,e2,e9,hXB.bld,hXB.tl,hXg,hlv1,hlv2,hmx,hmx2,hrl,hbl,hJ];(try exact rfl)));simp (disch:=first|exact zb|fail) only [go_sem,seval,e0,e1,e2,e9,hXB.bld,hXB.tl,hXg,hlv1,hlv2,hmx,hmx2,hrl,hbl]
   have hap:addN s l r k=(29+s.length,s++[⟨k,l,r,mm⟩]):=by
    refine Prod.ext ?_ ?_
    · rw [zay]
      have:=zj2 s k l r
      show 29+zad s k l r=29+s.length
      omega
    · rw [zao,if_neg hpos,hmg]
   obtain⟨Y,hY⟩ : ∃ Y,Y=(H'.set al (.tail (29+s.length+1))).set bb (.cells [.sl al (29+s.length+1) 7 (pl rnd (rN (s++[⟨k,l,r,mm⟩])))]):=⟨_,rfl⟩
   rw [←hY];have hwf:=hXB.wf.add hl hr k;rw [hap] at hwf;have hsm:=(zbM s l r hk0).sm hXB.sm;rw [hap] at hsm
   have hYB:RB Y (s++[⟨k,l,r,mm⟩]) bb al:=⟨by rw [hY,zo rfl (by rw [n_set'];omega),hlen3];rfl,by rw [hY,f_set_ne' hne.symm,zo rfl (by omega),hlen3];rfl,hwf,hsm⟩
   have hYW:RW bb al H Y:=by rw [hY];exact (hXW.set _ (.inr (.inl rfl))).set _ (.inl rfl)
   have hbel:Bel H.n Y:=hYB.bel l2 hbel hYW.f;rw [hap]
   have hl29:(29:Int)+((s++[(⟨k,l,r,mm⟩:Nd)]).length:Nat) - 1=((29+s.length:Nat):Int):=by rw [hlen3];omega
   have hl30:(((rN (s++[(⟨k,l,r,mm⟩:Nd)])).length:Nat):Int) - 1=((29+s.length:Nat):Int):=by rw [hlen2,hlen3];omega
   refine .qt rfl ?_;simp (disch:=first|exact zb|fail) only [go_sem,seval,e0,hYB.bld,hl30];refine .qr rfl Tryz.func107 (by rw [Tryz.results107]) ?_;simp (disch:=first|exact zb|fail) only [go_sem,seval]
   exact⟨hYB.trunc l1 l2,hYW.back l1 l2,rfl⟩
 · rintro i env H' hi0 hi ⟨e0,e1,e2,e9,e10,rfl,hno⟩ ih
   have hm:i - 29 < s.length:=by omega
   have hrm:nth (rN s) i=rOf (nth s (i - 29)):=by rw [←zz5 hm];congr 1;omega
   have hop:=hXB.wf.op (i - 29) hm
   have heq:zI Tryz.prog .eql 72 (.p (zG (rOf (nth s (i - 29))).g)) (.p (zG ⟨(l:Int),(r:Int),fi k.c,fi k.a,fi k.b,fi k.d⟩))=some (.p (bo (decide ((nth s (i - 29)).k=k∧(nth s (i - 29)).l=l∧(nth s (i - 29)).r=r)))):=by
    have:=(zj1 (a:=(rOf (nth s (i - 29))).g) (b:=gOf l r k) ⟨by simp only [rOf,gOf];omega,by simp only [rOf,gOf];omega,by simp only [rOf,gOf];omega,by simp only [rOf,gOf];omega⟩ ⟨by simp only [gOf];omega,by simp only [gOf];omega,by simp only [gOf];omega,by simp only [gOf];omega⟩).1
    have h2:((rOf (nth s (i - 29))).g=gOf l r k) ↔ ((nth s (i - 29)).k=k∧(nth s (i - 29)).l=l∧(nth s (i - 29)).r=r):=zCv (hXB.sm _ hm) hk0;rw [decide_eq_decide.2 h2] at this;exact this
   refine .qt rfl ?_;simp (disch:=first|exact zb|fail) only [go_sem,seval,e0,e10,hXB.bld];refine .qT rfl ?_;refine .q ?_;refine .open [] follows (by kernel_rfl) ?_;simp (disch:=first|exact zb|fail) only [go_sem,seval,e0,e9,e10,hXB.bld,hXg,hrm,heq]
   rcases Classical.em ((nth s (i - 29)).k=k∧(nth s (i - 29)).l=l∧(nth s (i - 29)).r=r) with hd | hd
   · have hpos:zad s k l r=i - 29:=by
      unfold zad;rw [List.findIdx_eq hm]
      refine⟨by rw [←zg hm];simpa using hd,fun j hj => ?_⟩
      have:=hno j (by omega)
      rw [zg (by omega)] at this
      simpa using this
     have ha:addN s l r k=(i,s):=by
      refine Prod.ext ?_ ?_
      · rw [zay,hpos];omega
      · rw [zao,hpos,if_pos hm]
     rw [ha];refine .q ?_;refine .ifT (by simp (disch:=first|exact zb|fail) only [go_sem,seval,hd]) ?_;refine .qt rfl ?_;simp (disch:=first|exact zb|fail) only [go_sem,seval,e10];have hbel:=hXbel;refine .qr rfl Tryz.func107 (by rw [Tryz.results107]) ?_;simp (disch:=first|exact zb|fail) only [go_sem,seval]
     exact⟨hXB.trunc l1 l2,hXW.back l1 l2,rfl⟩
   · refine .q ?_;refine .ifF (by simp (disch:=first|exact zb|fail) only [go_sem,seval,hd]) ?_;refine .skip ?_;refine .qt rfl ?_;simp (disch:=first|exact zb|fail) only [go_sem,seval,e10];refine ih _ _ ⟨?_,?_,?_,?_,?_,rfl,fun j hj => ?_⟩
     · simp (disch:=first|exact zb|fail) only [go_sem,seval,e0]
     · simp (disch:=first|exact zb|fail) only [go_sem,seval,e1]
     · simp (disch:=first|exact zb|fail) only [go_sem,seval,e2]
     · simp (disch:=first|exact zb|fail) only [go_sem,seval,e9]
     · simp (disch:=first|exact zb|fail) only [go_sem,seval]
     · by_cases e:29+j=i
       · rw [show j=i - 29 by omega];exact hd
       · exact hno j (by omega)
end walks
end Go.Proofs.YthaoifcebimkfaaGreatDoor

namespace Go.Proofs.YthaoifcebimkfaaGreatDoor
open Go Go.AL

def oI (o:Option Nat):Int:=match o with | none => -1 | some g=>g
theorem zrz:oI none = -1:=rfl
theorem zrA {g:Nat}:oI (some g)=g:=rfl
theorem zz6 (n i:Nat):((n:Int) / 2 ^ i % 2 == 0) = !bt n i:=by
 have e:(n:Int) / 2 ^ i % 2=((n / 2 ^ i % 2:Nat):Int):=by simp
 rw [e];unfold bt
 rcases Nat.mod_two_eq_zero_or_one (n / 2 ^ i) with h' | h'<;>rw [h']<;>rfl
def CRR (bb al:Nat) (H:Hp) (f:Option Nat × List Nd) (r:AV) (H':Hp):Prop:=RB H' f.2 bb al∧RF bb al H H'∧r = .p (i64 (oI f.1))
section walks
variable {G:Globs}
theorem yB {s:List Nd} {bb al:Nat} (l r:Nat) {H:Hp} (hB:RB H s bb al) (hl:l < 29+s.length) (hr:r < 29+s.length) (hlen:s.length≤1000) :
 ACall Tryz.prog G 105 [.ptr bb 0,.p (i64 l),.p (i64 r)] H (RR bb al H (prN s l r)):=by
 refine ACall.of_run (raw:=[]) Tryz.func105 rfl Tryz.ntmps105 (by simp) fun hbel => ?_
 obtain⟨l1,l2⟩:=hB.lt
 refine .qt rfl ?_;simp (disch:=first|exact zb|fail) only [go_sem,seval];refine .qt rfl ?_;simp (disch:=first|exact zb|fail) only [go_sem,seval];refine CallK.ex (yJ l r ⟨1,0,0,0⟩ yF hB hl hr hlen) ?_
 rintro _ H1 ⟨hB1,n1,rfl⟩
 simp (disch:=first|exact zb|fail) only [go_sem,seval];have hbel:Bel H.n H1:=hB1.bel l2 hbel n1.w.f;refine .qr rfl Tryz.func105 (by rw [Tryz.results105]) ?_;simp (disch:=first|exact zb|fail) only [go_sem,seval]
 exact⟨hB1.trunc l1 l2,n1.w.back l1 l2,rfl⟩
set_option maxHeartbeats 8000000 in
set_option maxRecDepth 20000 in
theorem zkt {s:List Nd} {bb al:Nat} (c:Nat) (hc:c < 4) (n:Nat) (hn:n≤255) {H:Hp} (hB:RB H s bb al) (hlen:s.length≤900) :
 ACall Tryz.prog G 144 [.ptr bb 0,.p (i64 c),.p (i64 n)] H (CRR bb al H (yv false n c s (yf c))):=by
 refine ACall.of_run (raw:=[]) Tryz.func144 rfl Tryz.ntmps144 (by simp) fun hbel => ?_
 obtain⟨l1,l2⟩:=hB.lt
 have hw:=zaY c;have hfw:=zfa hc;refine .qt rfl ?_;simp (disch:=first|exact zb|fail) only [go_sem,seval];refine .qt rfl ?_;simp (disch:=first|exact zb|fail) only [go_sem,seval];refine .qt rfl ?_;simp (disch:=first|exact zb|fail) only [go_sem,seval];refine .q ?_;refine .count (fun i env H'=>RB H' (yv false n c s i).2 bb al∧RW bb al H H'∧env 0 = .ptr bb 0∧env 1 = .p (i64 c)∧env 2 = .p (i64 n)∧env 7 = .p (i64 (oI (yv false n c s i).1))∧env 8 = .p (i64 i)) 0 (yf c) (by omega) ?_ ?_ ?_
 · refine⟨hB,.refl,?_⟩
   simp (disch:=first|exact zb|fail) only [go_sem,seval];rfl
 · intro env H' ⟨hB',hN,e0,e1,e2,e7,e8⟩;have hbel:Bel H.n H':=hB'.bel l2 hbel hN.f;refine .qt rfl ?_;simp (disch:=first|exact zb|fail) only [go_sem,seval,e1,e8];refine CallK.of (fun R h=>yM c hc _ R h) ?_;simp (disch:=first|exact zb|fail) only [go_sem,seval];refine .qF rfl ?_;refine .qt rfl ?_;simp (disch:=first|exact zb|fail) only [go_sem,seval,e7];refine .qr rfl Tryz.func144 (by rw [Tryz.results144]) ?_;simp (disch:=first|exact zb|fail) only [go_sem,seval]
   exact⟨hB'.trunc l1 l2,hN.back l1 l2,rfl⟩
 · intro i env H' hi0 hi ⟨hB',hN,e0,e1,e2,e7,e8⟩ ih;have hln:=zhr false n c s i;have hs:=zgp (most:=false) (n:=n) (s:=s) hc i (by omega);have hnext:yv false n c s (i+1)=za4 false n (zi c+i) i (yv false n c s i):=rfl
   generalize yv false n c s i=z at hB' e7 hln hs hnext
   obtain⟨o,s'⟩:=z
   simp only at hB' e7 hln hs
   obtain⟨x,hxd⟩ : ∃ x,x=zi c+i:=⟨_,rfl⟩
   rw [←hxd] at hnext
   have hcast:(zi c:Int)+(i:Int)=(x:Int):=by omega
   refine .qt rfl ?_;simp (disch:=first|exact zb|fail) only [go_sem,seval,e1,e8];refine CallK.of (fun R h=>yM c hc _ R h) ?_;simp (disch:=first|exact zb|fail) only [go_sem,seval];refine .qT rfl ?_;refine .qt rfl ?_;simp (disch:=first|exact zb|fail) only [go_sem,seval,e1,e8];refine CallK.of (fun R h=>zbv c hc _ R h) ?_;simp (disch:=first|exact zb|fail) only [go_sem,seval,e8,hcast]
   have hx:x < 29+s'.length:=by omega
   cases o with
   | none =>
    rw [zrz] at e7;refine .qt rfl ?_;simp (disch:=first|exact zb|fail) only [go_sem,seval,e7];refine .qT rfl ?_;refine .qt rfl ?_;simp (disch:=first|exact zb|fail) only [go_sem,seval,e2,e8,zzr]
    cases hb:bt n i with
    | true =>
     have hf:yv false n c s (i+1)=(some x,s'):=by rw [hnext];simp [za4,hb]
     refine .q ?_;refine .ifT (by simp (disch:=first|exact zb|fail) only [go_sem,seval,hb]) ?_;refine .qt rfl ?_;simp (disch:=first|exact zb|fail) only [go_sem,seval];refine .qt rfl ?_;simp (disch:=first|exact zb|fail) only [go_sem,seval,e8];refine ih _ _ ⟨by rw [hf];exact hB',hN,?_⟩;rw [hf];simp (disch:=first|exact zb|fail) only [go_sem,seval,e0,e1,e2];rfl
    | false =>
     have hf:yv false n c s (i+1)=(none,s'):=by rw [hnext];simp [za4,hb]
     refine .q ?_;refine .ifF (by simp (disch:=first|exact zb|fail) only [go_sem,seval,hb]) ?_;refine .skip ?_;refine .qt rfl ?_;simp (disch:=first|exact zb|fail) only [go_sem,seval,e8];refine ih _ _ ⟨by rw [hf];exact hB',hN,?_⟩;rw [hf];simp (disch:=first|exact zb|fail) only [go_sem,seval,e0,e1,e2,e7];rfl
   | some q =>
    rw [zrA] at e7;have hq:=hs q rfl;have hbel:Bel H.n H':=hB'.bel l2 hbel hN.f;refine .qt rfl ?_;simp (disch:=first|exact zb|fail) only [go_sem,seval,e7];refine .qF rfl ?_;refine .qt rfl ?_;simp (disch:=first|exact zb|fail) only [go_sem,seval,e2,e8,zzr]
    cases hb:bt n i with
    | true =>
     have hf:yv false n c s (i+1)=(some (prN s' x q).1,(prN s' x q).2):=by rw [hnext];simp [za4,zgd,hb];exact⟨rfl,rfl⟩
     refine .q ?_;refine .ifT (by simp (disch:=first|exact zb|fail) only [go_sem,seval,hb]) ?_;refine .qt rfl ?_;simp (disch:=first|exact zb|fail) only [go_sem,seval,e0,e7];refine CallK.ex (yB x q hB' hx hq (by omega)) ?_
     rintro _ H2 ⟨hB2,n2,rfl⟩
     simp (disch:=first|exact zb|fail) only [go_sem,seval];refine .qt rfl ?_;simp (disch:=first|exact zb|fail) only [go_sem,seval,e8];refine ih _ _ ⟨by rw [hf];exact hB2,hN.trans n2.w,?_⟩;rw [hf];simp (disch:=first|exact zb|fail) only [go_sem,seval,e0,e1,e2];rfl
    | false =>
     have hf:yv false n c s (i+1)=(some (addN s' x q ⟨-1,1,1,0⟩).1,(addN s' x q ⟨-1,1,1,0⟩).2):=by rw [hnext];simp [za4,zgd,hb]
     refine .q ?_;refine .ifF (by simp (disch:=first|exact zb|fail) only [go_sem,seval,hb]) ?_;refine .qt rfl ?_;simp (disch:=first|exact zb|fail) only [go_sem,seval,e0,e7];refine CallK.ex (yJ x q ⟨-1,1,1,0⟩ yF hB' hx hq (by omega)) ?_
     rintro _ H2 ⟨hB2,n2,rfl⟩
     simp (disch:=first|exact zb|fail) only [go_sem,seval];refine .qt rfl ?_;simp (disch:=first|exact zb|fail) only [go_sem,seval,e8];refine ih _ _ ⟨by rw [hf];exact hB2,hN.trans n2.w,?_⟩;rw [hf];simp (disch:=first|exact zb|fail) only [go_sem,seval,e0,e1,e2];rfl
set_option maxHeartbeats 8000000 in
set_option maxRecDepth 20000 in
theorem zm5 {s:List Nd} {bb al:Nat} (c:Nat) (hc:c < 4) (n:Nat) (hn:n≤255) {H:Hp} (hB:RB H s bb al) (hlen:s.length≤900) :
 ACall Tryz.prog G 145 [.ptr bb 0,.p (i64 c),.p (i64 n)] H (CRR bb al H (yv true n c s (yf c))):=by
 refine ACall.of_run (raw:=[]) Tryz.func145 rfl Tryz.ntmps145 (by simp) fun hbel => ?_
 obtain⟨l1,l2⟩:=hB.lt
 have hw:=zaY c;have hfw:=zfa hc;refine .qt rfl ?_;simp (disch:=first|exact zb|fail) only [go_sem,seval];refine .qt rfl ?_;simp (disch:=first|exact zb|fail) only [go_sem,seval];refine .qt rfl ?_;simp (disch:=first|exact zb|fail) only [go_sem,seval];refine .q ?_;refine .count (fun i env H'=>RB H' (yv true n c s i).2 bb al∧RW bb al H H'∧env 0 = .ptr bb 0∧env 1 = .p (i64 c)∧env 2 = .p (i64 n)∧env 7 = .p (i64 (oI (yv true n c s i).1))∧env 8 = .p (i64 i)) 0 (yf c) (by omega) ?_ ?_ ?_
 · refine⟨hB,.refl,?_⟩
   simp (disch:=first|exact zb|fail) only [go_sem,seval];rfl
 · intro env H' ⟨hB',hN,e0,e1,e2,e7,e8⟩;have hbel:Bel H.n H':=hB'.bel l2 hbel hN.f;refine .qt rfl ?_;simp (disch:=first|exact zb|fail) only [go_sem,seval,e1,e8];refine CallK.of (fun R h=>yM c hc _ R h) ?_;simp (disch:=first|exact zb|fail) only [go_sem,seval];refine .qF rfl ?_;refine .qt rfl ?_;simp (disch:=first|exact zb|fail) only [go_sem,seval,e7];refine .qr rfl Tryz.func145 (by rw [Tryz.results145]) ?_;simp (disch:=first|exact zb|fail) only [go_sem,seval]
   exact⟨hB'.trunc l1 l2,hN.back l1 l2,rfl⟩
 · intro i env H' hi0 hi ⟨hB',hN,e0,e1,e2,e7,e8⟩ ih;have hln:=zhr true n c s i;have hs:=zgp (most:=true) (n:=n) (s:=s) hc i (by omega);have hnext:yv true n c s (i+1)=za4 true n (zi c+i) i (yv true n c s i):=rfl
   generalize yv true n c s i=z at hB' e7 hln hs hnext
   obtain⟨o,s'⟩:=z
   simp only at hB' e7 hln hs
   obtain⟨x,hxd⟩ : ∃ x,x=zi c+i:=⟨_,rfl⟩
   rw [←hxd] at hnext
   have hcast:(zi c:Int)+(i:Int)=(x:Int):=by omega
   refine .qt rfl ?_;simp (disch:=first|exact zb|fail) only [go_sem,seval,e1,e8];refine CallK.of (fun R h=>yM c hc _ R h) ?_;simp (disch:=first|exact zb|fail) only [go_sem,seval];refine .qT rfl ?_;refine .qt rfl ?_;simp (disch:=first|exact zb|fail) only [go_sem,seval,e1,e8];refine CallK.of (fun R h=>zbv c hc _ R h) ?_;simp (disch:=first|exact zb|fail) only [go_sem,seval,e8,hcast]
   have hx:x < 29+s'.length:=by omega
   cases o with
   | none =>
    rw [zrz] at e7;refine .qt rfl ?_;simp (disch:=first|exact zb|fail) only [go_sem,seval,e7];refine .qT rfl ?_;refine .qt rfl ?_;simp (disch:=first|exact zb|fail) only [go_sem,seval,e2,e8,zz6]
    cases hb:bt n i with
    | false =>
     have hf:yv true n c s (i+1)=(some (addN s' x x ⟨0,-1,0,1⟩).1,(addN s' x x ⟨0,-1,0,1⟩).2):=by rw [hnext];simp [za4,hb]
     refine .q ?_;refine .ifT (by simp (disch:=first|exact zb|fail) only [go_sem,seval,hb]) ?_;refine .qt rfl ?_;simp (disch:=first|exact zb|fail) only [go_sem,seval,e0];refine CallK.ex (yJ x x ⟨0,-1,0,1⟩ yF hB' hx hx (by omega)) ?_
     rintro _ H2 ⟨hB2,n2,rfl⟩
     simp (disch:=first|exact zb|fail) only [go_sem,seval];refine .qt rfl ?_;simp (disch:=first|exact zb|fail) only [go_sem,seval,e8];refine ih _ _ ⟨by rw [hf];exact hB2,hN.trans n2.w,?_⟩;rw [hf];simp (disch:=first|exact zb|fail) only [go_sem,seval,e0,e1,e2];rfl
    | true =>
     have hf:yv true n c s (i+1)=(none,s'):=by rw [hnext];simp [za4,hb]
     refine .q ?_;refine .ifF (by simp (disch:=first|exact zb|fail) only [go_sem,seval,hb]) ?_;refine .skip ?_;refine .qt rfl ?_;simp (disch:=first|exact zb|fail) only [go_sem,seval,e8];refine ih _ _ ⟨by rw [hf];exact hB',hN,?_⟩;rw [hf];simp (disch:=first|exact zb|fail) only [go_sem,seval,e0,e1,e2,e7];rfl
   | some q =>
    rw [zrA] at e7;have hq:=hs q rfl;have hbel:Bel H.n H':=hB'.bel l2 hbel hN.f;refine .qt rfl ?_;simp (disch:=first|exact zb|fail) only [go_sem,seval,e7];refine .qF rfl ?_;refine .qt rfl ?_;simp (disch:=first|exact zb|fail) only [go_sem,seval,e2,e8,zz6]
    cases hb:bt n i with
    | false =>
     have hf:yv true n c s (i+1)=(some (addN s' x q ⟨-1,0,1,0⟩).1,(addN s' x q ⟨-1,0,1,0⟩).2):=by rw [hnext];simp [za4,zgd,hb]
     refine .q ?_;refine .ifT (by simp (disch:=first|exact zb|fail) only [go_sem,seval,hb]) ?_;refine .qt rfl ?_;simp (disch:=first|exact zb|fail) only [go_sem,seval,e0,e7];refine CallK.ex (yJ x q ⟨-1,0,1,0⟩ yF hB' hx hq (by omega)) ?_
     rintro _ H2 ⟨hB2,n2,rfl⟩
     simp (disch:=first|exact zb|fail) only [go_sem,seval];refine .qt rfl ?_;simp (disch:=first|exact zb|fail) only [go_sem,seval,e8];refine ih _ _ ⟨by rw [hf];exact hB2,hN.trans n2.w,?_⟩;rw [hf];simp (disch:=first|exact zb|fail) only [go_sem,seval,e0,e1,e2];rfl
    | true =>
     have hf:yv true n c s (i+1)=(some (addN s' x q ⟨1,-1,0,1⟩).1,(addN s' x q ⟨1,-1,0,1⟩).2):=by rw [hnext];simp [za4,zgd,hb]
     refine .q ?_;refine .ifF (by simp (disch:=first|exact zb|fail) only [go_sem,seval,hb]) ?_;refine .qt rfl ?_;simp (disch:=first|exact zb|fail) only [go_sem,seval,e0,e7];refine CallK.ex (yJ x q ⟨1,-1,0,1⟩ yF hB' hx hq (by omega)) ?_
     rintro _ H2 ⟨hB2,n2,rfl⟩
     simp (disch:=first|exact zb|fail) only [go_sem,seval];refine .qt rfl ?_;simp (disch:=first|exact zb|fail) only [go_sem,seval,e8];refine ih _ _ ⟨by rw [hf];exact hB2,hN.trans n2.w,?_⟩;rw [hf];simp (disch:=first|exact zb|fail) only [go_sem,seval,e0,e1,e2];rfl
theorem zjd (most:Bool) {s:List Nd} {bb al:Nat} (c:Nat) (hc:c < 4) (n:Nat) (hn:n≤255) {H:Hp} (hB:RB H s bb al) (hlen:s.length≤900) (h:if most then n < 2 ^ yf c - 1 else 0 < n∧n < 2 ^ yf c) :
 ACall Tryz.prog G (if most then 145 else 144) [.ptr bb 0,.p (i64 c),.p (i64 n)] H (RR bb al H (zbI most n c s)):=by
 cases most with
 | true=>exact (zm5 c hc n hn hB hlen).mono fun r H' ⟨q1,q2,q3⟩=>⟨q1,q2,by rw [q3,zd2 h];rfl⟩
 | false=>exact (zkt c hc n hn hB hlen).mono fun r H' ⟨q1,q2,q3⟩=>⟨q1,q2,by rw [q3,zd2 h];rfl⟩
end walks
end Go.Proofs.YthaoifcebimkfaaGreatDoor

namespace Go.Proofs.YthaoifcebimkfaaGreatDoor
open Go Go.AL

section walks
variable {G:Globs}
set_option maxHeartbeats 8000000 in
theorem zhI {s:List Nd} {bb al:Nat} (l r u:Nat) (hu:u < 4) {H:Hp} (hB:RB H s bb al) (hl:l < 29+s.length) (hr:r < 29+s.length) (hlen:s.length≤1000) :
 ACall Tryz.prog G 146 [.ptr bb 0,.p (i64 l),.p (i64 r),.p (i64 u)] H (RR bb al H (addN s l r (yA u))):=by
 refine ACall.of_run (raw:=[]) Tryz.func146 rfl Tryz.ntmps146 (by simp) fun hbel => ?_
 obtain⟨l1,l2⟩:=hB.lt
 match u,hu with
 | 0,_ =>
  refine .qt rfl ?_;simp (disch:=first|exact zb|fail) only [go_sem,seval];refine .qt rfl ?_;simp (disch:=first|exact zb|fail) only [go_sem,seval];refine .qF rfl ?_;refine .skip ?_;refine .qt rfl ?_;simp (disch:=first|exact zb|fail) only [go_sem,seval];refine .qF rfl ?_;refine .skip ?_;refine .qt rfl ?_;simp (disch:=first|exact zb|fail) only [go_sem,seval];refine .qF rfl ?_;refine .skip ?_;refine .qt rfl ?_;simp (disch:=first|exact zb|fail) only [go_sem,seval];refine CallK.ex (yJ l r ⟨1,-1,-1,1⟩ yF hB hl hr hlen) ?_
  rintro _ H1 ⟨hB1,n1,rfl⟩
  simp (disch:=first|exact zb|fail) only [go_sem,seval];have hbel:Bel H.n H1:=hB1.bel l2 hbel n1.w.f;refine .qr rfl Tryz.func146 (by rw [Tryz.results146]) ?_;simp (disch:=first|exact zb|fail) only [go_sem,seval]
  exact⟨hB1.trunc l1 l2,n1.w.back l1 l2,rfl⟩
 | 1,_ =>
  refine .qt rfl ?_;simp (disch:=first|exact zb|fail) only [go_sem,seval];refine .qt rfl ?_;simp (disch:=first|exact zb|fail) only [go_sem,seval];refine .qF rfl ?_;refine .skip ?_;refine .qt rfl ?_;simp (disch:=first|exact zb|fail) only [go_sem,seval];refine .qT rfl ?_;refine .qt rfl ?_;simp (disch:=first|exact zb|fail) only [go_sem,seval];refine CallK.ex (yJ l r ⟨-1,1,0,0⟩ yF hB hl hr hlen) ?_
  rintro _ H1 ⟨hB1,n1,rfl⟩
  simp (disch:=first|exact zb|fail) only [go_sem,seval];have hbel:Bel H.n H1:=hB1.bel l2 hbel n1.w.f;refine .qr rfl Tryz.func146 (by rw [Tryz.results146]) ?_;simp (disch:=first|exact zb|fail) only [go_sem,seval]
  exact⟨hB1.trunc l1 l2,n1.w.back l1 l2,rfl⟩
 | 2,_ =>
  refine .qt rfl ?_;simp (disch:=first|exact zb|fail) only [go_sem,seval];refine .qt rfl ?_;simp (disch:=first|exact zb|fail) only [go_sem,seval];refine .qF rfl ?_;refine .skip ?_;refine .qt rfl ?_;simp (disch:=first|exact zb|fail) only [go_sem,seval];refine .qF rfl ?_;refine .skip ?_;refine .qt rfl ?_;simp (disch:=first|exact zb|fail) only [go_sem,seval];refine .qT rfl ?_;refine .qt rfl ?_;simp (disch:=first|exact zb|fail) only [go_sem,seval];refine CallK.ex (yJ l r ⟨-1,0,1,0⟩ yF hB hl hr hlen) ?_
  rintro _ H1 ⟨hB1,n1,rfl⟩
  simp (disch:=first|exact zb|fail) only [go_sem,seval];have hbel:Bel H.n H1:=hB1.bel l2 hbel n1.w.f;refine .qr rfl Tryz.func146 (by rw [Tryz.results146]) ?_;simp (disch:=first|exact zb|fail) only [go_sem,seval]
  exact⟨hB1.trunc l1 l2,n1.w.back l1 l2,rfl⟩
 | 3,_ =>
  refine .qt rfl ?_;simp (disch:=first|exact zb|fail) only [go_sem,seval];refine .qt rfl ?_;simp (disch:=first|exact zb|fail) only [go_sem,seval];refine .qT rfl ?_;refine .qt rfl ?_;simp (disch:=first|exact zb|fail) only [go_sem,seval];refine CallK.ex (yB l r hB hl hr hlen) ?_
  rintro _ H1 ⟨hB1,n1,rfl⟩
  simp (disch:=first|exact zb|fail) only [go_sem,seval];have hbel:Bel H.n H1:=hB1.bel l2 hbel n1.w.f;refine .qr rfl Tryz.func146 (by rw [Tryz.results146]) ?_;simp (disch:=first|exact zb|fail) only [go_sem,seval]
  exact⟨hB1.trunc l1 l2,n1.w.back l1 l2,rfl⟩
 | u+4,h=>omega
theorem zCS {v u:Nat} (hv:v < 16) (hu:u=v % 4):zI Tryz.prog .and 3 (.p (i64 v)) (.p (i64 3))=some (.p (i64 (u:Nat))):=by
 have hm:((v:Int) % 4)=((u:Nat):Int):=by omega
 rw [←hm];exact zat Tryz.prog 3 v 2 (by omega)
set_option maxHeartbeats 8000000 in
theorem zvo {s:List Nd} {bb al:Nat} (c v:Nat) (hc:c < 4) (hv:v < 16) {H:Hp} (hB:RB H s bb al) (hlen:s.length≤990) :
 ACall Tryz.prog G 106 [.ptr bb 0,.p (i64 c),.p (i64 v)] H (RR bb al H (zbq c v s)):=by
 refine ACall.of_run (raw:=[]) Tryz.func106 rfl Tryz.ntmps106 (by simp) fun hbel => ?_
 obtain⟨l1,l2⟩:=hB.lt
 obtain⟨hf,hw4⟩:=zht hc
 obtain⟨u,hu⟩ : ∃ u,u=v % 4:=⟨_,rfl⟩
 obtain⟨u2,hu2⟩ : ∃ u2,u2=v / 4:=⟨_,rfl⟩
 have hand:=zCS hv hu;have hand2:=zCS (v:=u2) (u:=u2) (by omega) (by omega)
 have hv4:(v:Int) / 4=(u2:Int):=by omega
 have hin:zbq c v s=prN (addN (addN s (zi c) (zi c+1) (yA u)).2 (zi c+2) (zi c+3) (yA u2)).2 (addN s (zi c) (zi c+1) (yA u)).1 (addN (addN s (zi c) (zi c+1) (yA u)).2 (zi c+2) (zi c+3) (yA u2)).1:=by
  unfold zbq;rw [←hu,←hu2]
 rw [hin]
 obtain⟨x,hx⟩ : ∃ x,x=zi c:=⟨_,rfl⟩
 obtain⟨x1,hx1⟩ : ∃ x1,x1=x+1:=⟨_,rfl⟩
 obtain⟨x2,hx2⟩ : ∃ x2,x2=x+2:=⟨_,rfl⟩
 obtain⟨x3,hx3⟩ : ∃ x3,x3=x+3:=⟨_,rfl⟩
 rw [←hx,←hx1,←hx2,←hx3]
 have y1:(x:Int)+1=(x1:Int):=by omega
 have y2:(x:Int)+2=(x2:Int):=by omega
 have y3:(x:Int)+3=(x3:Int):=by omega
 refine .qt rfl ?_;simp (disch:=first|exact zb|fail) only [go_sem,seval];refine .qt rfl ?_;simp (disch:=first|exact zb|fail) only [go_sem,seval];refine CallK.of (fun R h=>zbv c hc _ R h) ?_;simp (disch:=first|exact zb|fail) only [go_sem,seval];rw [←hx];refine .qt rfl ?_;simp (disch:=first|exact zb|fail) only [go_sem,seval,hand,y1];refine CallK.ex (zhI x x1 u (by omega) hB (by omega) (by omega) (by omega)) ?_
 rintro _ H1 ⟨hB1,n1,rfl⟩
 have p1:=yG s x x1 (yA u);have p2:=zbh s x x1 (yA u);have p3:=zb8 s x x1 (yA u)
 generalize addN s x x1 (yA u)=p at *
 simp (disch:=first|exact zb|fail) only [go_sem,seval];refine .qt rfl ?_;simp (disch:=first|exact zb|fail) only [go_sem,seval,y2,y3,zDI,hv4,hand2];refine CallK.ex (zhI x2 x3 u2 (by omega) hB1 (by omega) (by omega) (by omega)) ?_
 rintro _ H2 ⟨hB2,n2,rfl⟩
 have q1:=yG p.2 x2 x3 (yA u2);have q2:=zbh p.2 x2 x3 (yA u2);have q3:=zb8 p.2 x2 x3 (yA u2)
 generalize addN p.2 x2 x3 (yA u2)=q at *
 simp (disch:=first|exact zb|fail) only [go_sem,seval];refine .qt rfl ?_;simp (disch:=first|exact zb|fail) only [go_sem,seval];refine CallK.ex (yB p.1 q.1 hB2 (by omega) (by omega) (by omega)) ?_
 rintro _ H3 ⟨hB3,n3,rfl⟩
 simp (disch:=first|exact zb|fail) only [go_sem,seval];have n03:=(n1.trans n2).trans n3;have hbel:Bel H.n H3:=hB3.bel l2 hbel n03.w.f;refine .qr rfl Tryz.func106 (by rw [Tryz.results106]) ?_;simp (disch:=first|exact zb|fail) only [go_sem,seval]
 exact⟨hB3.trunc l1 l2,n03.w.back l1 l2,rfl⟩
set_option maxHeartbeats 8000000 in
set_option maxRecDepth 20000 in
theorem zef {s:List Nd} {bb al:Nat} (l:List Cnd) (hl:vF l=true) {H:Hp} (hB:RB H s bb al) (hlen:s.length≤800) :
 ACall Tryz.prog G 104 [.ptr bb 0,.p (.sl false 3 (pl cnd l))] H (RR bb al H (zZ l s)):=by
 refine ACall.of_run (raw:=[]) Tryz.func104 rfl Tryz.ntmps104 (by simp) fun hbel => ?_
 obtain⟨l1,l2⟩:=hB.lt
 have hl3:=zfA hl;refine .qt rfl ?_;simp (disch:=first|exact zb|fail) only [go_sem,seval];refine .qt rfl ?_;simp (disch:=first|exact zb|fail) only [go_sem,seval];refine .qt rfl ?_;simp (disch:=first|exact zb|fail) only [go_sem,seval];refine .q ?_;refine .count (fun i env H'=>RB H' (zbJ l s i).2 bb al∧RW bb al H H'∧env 0 = .ptr bb 0∧env 1 = .p (.sl false 3 (pl cnd l))∧env 5 = .p (i64 ((zbJ l s i).1:Nat))∧env 6 = .p (i64 i)) 0 l.length (by omega) ?_ ?_ ?_
 · refine⟨hB,.refl,?_⟩
   simp (disch:=first|exact zb|fail) only [go_sem,seval];rfl
 · intro env H' ⟨hB',hN,e0,e1,e5,e6⟩;have hbel:Bel H.n H':=hB'.bel l2 hbel hN.f;refine .qt rfl ?_;simp (disch:=first|exact zb|fail) only [go_sem,seval,e1,e6];refine .qF rfl ?_;refine .qt rfl ?_;simp (disch:=first|exact zb|fail) only [go_sem,seval,e5];refine .qr rfl Tryz.func104 (by rw [Tryz.results104]) ?_;simp (disch:=first|exact zb|fail) only [go_sem,seval]
   exact⟨hB'.trunc l1 l2,hN.back l1 l2,rfl⟩
 · intro i env H' hi0 hi ⟨hB',hN,e0,e1,e5,e6⟩ ih;have hci:=zzS hl hi;rw [zzt] at hci
   obtain⟨v1,v2,v3,v4,v5⟩:=hci
   have v6:=zrq (nth l i).col.toNat
   obtain⟨c,hc⟩:=Int.eq_ofNat_of_zero_le v1
   obtain⟨a,ha⟩:=Int.eq_ofNat_of_zero_le v3
   obtain⟨b,hb⟩:=Int.eq_ofNat_of_zero_le (show 0≤(nth l i).hi by omega)
   have hx:nth l i=⟨(c:Int),(a:Int),(b:Int)⟩:=by rw [←hc,←ha,←hb]
   rw [hc] at v2 v5 v6;rw [hb] at v5;rw [ha,hb] at v4
   have hc4:c < 4:=by omega
   have htw:=zrp (c:=c);simp only [Int.toNat_natCast] at v5 v6
   have hnext:zbJ l s (i+1)=mt2 ⟨(c:Int),(a:Int),(b:Int)⟩ (mt1 ⟨(c:Int),(a:Int),(b:Int)⟩ (zbJ l s i)):=by rw [←hx];rfl
   have hln:=zmH l s i;have hlt:=zd3 (l:=l) (s:=s) i
   generalize zbJ l s i=z at hB' e5 hln hlt hnext
   obtain⟨m,s'⟩:=z
   simp only at hB' e5 hln hlt
   obtain⟨k1,k2⟩:=hB'.lt
   have hbel:Bel H.n H':=hB'.bel l2 hbel hN.f;have hn1:=hN.n;refine .qt rfl ?_;simp (disch:=first|exact zb|fail) only [go_sem,seval,e1,e6];refine .qT rfl ?_;refine .qt rfl ?_;simp (disch:=first|exact zb|fail) only [go_sem,seval,e1,e6,hx];refine .qt rfl ?_;simp (disch:=first|exact zb|fail) only [go_sem,seval]
   obtain⟨X,hX⟩ : ∃ X:Cnd,X=⟨(c:Int),(a:Int),(b:Int)⟩:=⟨_,rfl⟩
   rw [←hX] at hnext;have hcell:(H'.new (.cells [.p (i64 c),.p (i64 a),.p (i64 b)])).f H'.n=some (.cells [.p (i64 c),.p (i64 a),.p (i64 b)]):=Hp.f_new_self _ _;have hpw:=Nat.two_pow_pos (yf c);refine .q ?_;refine .ifJ (fun env2 H2=>RB H2 (mt1 X (m,s')).2 bb al∧RW bb al H H2∧H'.n < H2.n∧H2.f H'.n=some (.cells [.p (i64 c),.p (i64 a),.p (i64 b)])∧env2 7 = .ptr H'.n 0∧env2 0 = .ptr bb 0∧env2 1 = .p (.sl false 3 (pl cnd l))∧env2 5 = .p (i64 ((mt1 X (m,s')).1:Nat))∧env2 6 = .p (i64 i)) (by simp (disch:=first|exact zb|fail) only [go_sem,seval];rfl) (fun hc ih => ?_) (fun hc ih => ?_) ?_
   · have hlo:0 < a:=by simpa using hc
     have hm1:mt1 X (m,s')=prN (zbI false a c s').2 m (zbI false a c s').1:=by subst hX;unfold mt1;rw [if_pos (by simp only;omega)];simp only [Int.toNat_natCast]
     have hq:=zgq (most:=false) (n:=a) (s:=s') hc4 ⟨hlo,by omega⟩;have hln2:=(zaz false a c).len s';have hln3:=((zaz false a c).ext s').len;refine .qt rfl ?_;simp (disch:=first|exact zb|fail) only [go_sem,seval,hcell,e0,e5];refine CallK.ex (zjd false c hc4 a (by omega) (hB'.new _) (by omega) ⟨hlo,by omega⟩) ?_
     rintro _ H2 ⟨hB2,n2,rfl⟩
     simp (disch:=first|exact zb|fail) only [go_sem,seval,e5];refine CallK.ex (yB m (zbI false a c s').1 hB2 (by omega) hq (by omega)) ?_
     rintro _ H3 ⟨hB3,n3,rfl⟩
     simp (disch:=first|exact zb|fail) only [go_sem,seval];have n23:=n2.trans n3;refine ih _ _ ⟨by rw [hm1];exact hB3,(hN.trans (.new _)).trans n23.w,by rw [n23.n,n_new'];omega,by rw [n23.f _ (by omega) (by omega)];exact hcell,?_⟩;rw [hm1];simp (disch:=first|exact zb|fail) only [go_sem,seval,e0,e1,e6]
     try rfl
   · have hlo : ¬ 0 < a:=by simpa using hc
     have hm1:mt1 X (m,s')=(m,s'):=by subst hX;unfold mt1;rw [if_neg (by simp only;omega)]
     refine .skip (ih _ _ ⟨by rw [hm1];exact hB'.new _,hN.trans (.new _),by rw [n_new'];omega,hcell,?_⟩);rw [hm1];simp (disch:=first|exact zb|fail) only [go_sem,seval,e0,e1,e5,e6]
     try rfl
   intro env2 H2 ⟨hB2,hN2,hn2,hc2,f7,f0,f1,f5,f6⟩
   have hlen1:(mt1 X (m,s')).2.length≤s'.length+9∧s'.length≤(mt1 X (m,s')).2.length:=⟨(ze4 X m).len s',((ze4 X m).ext s').len⟩
   have hlt1:(mt1 X (m,s')).1 < 29+(mt1 X (m,s')).2.length:=by
    unfold mt1
    split
    · exact yG _ _ _ _
    · exact hlt
   generalize mt1 X (m,s')=z1 at hB2 f5 hlen1 hlt1 hnext
   obtain⟨p,s1⟩:=z1
   simp only at hB2 f5 hlen1 hlt1;have hn3:=hN2.n
   obtain⟨k3,k4⟩:=hB2.lt
   refine .q ?_;refine .open [] follows (by kernel_rfl) ?_;simp (disch:=first|exact zb|fail) only [go_sem,seval,f7,hc2];refine CallD.still (fun R h=>zjc c hc4 _ R h) ?_;simp (disch:=first|exact zb|fail) only [go_sem,seval,f7,hc2];refine .q ?_;refine .ifJ (fun env2 H2=>RB H2 (mt2 X (p,s1)).2 bb al∧RW bb al H H2∧env2 0 = .ptr bb 0∧env2 1 = .p (.sl false 3 (pl cnd l))∧env2 5 = .p (i64 ((mt2 X (p,s1)).1:Nat))∧env2 6 = .p (i64 i)) (by simp (disch:=first|exact zb|fail) only [go_sem,seval];rfl) (fun hc ih => ?_) (fun hc ih => ?_) ?_
   · have hhi:(b:Int) < yQ c:=by simpa using hc
     have hb':b < 2 ^ yf c - 1:=by omega
     have hm:mt2 X (p,s1)=prN (zbI true b c s1).2 p (zbI true b c s1).1:=by subst hX;unfold mt2;rw [if_pos (by simpa using hhi)];simp only [Int.toNat_natCast]
     have hq:=zgq (most:=true) (n:=b) (s:=s1) hc4 hb';have hln2:=(zaz true b c).len s1;have hln3:=((zaz true b c).ext s1).len;refine .qt rfl ?_;simp (disch:=first|exact zb|fail) only [go_sem,seval,hc2,f0,f5,f7];refine CallK.ex (zjd true c hc4 b (by omega) hB2 (by omega) hb') ?_
     rintro _ H3 ⟨hB3,n3,rfl⟩
     simp (disch:=first|exact zb|fail) only [go_sem,seval,f5];refine CallK.ex (yB p (zbI true b c s1).1 hB3 (by omega) hq (by omega)) ?_
     rintro _ H4 ⟨hB4,n4,rfl⟩
     simp (disch:=first|exact zb|fail) only [go_sem,seval];refine ih _ _ ⟨by rw [hm];exact hB4,hN2.trans (n3.trans n4).w,?_⟩;rw [hm];simp (disch:=first|exact zb|fail) only [go_sem,seval,f0,f1,f6]
     try rfl
   · have hhi : ¬ (b:Int) < yQ c:=by simpa using hc
     have hm:mt2 X (p,s1)=(p,s1):=by subst hX;unfold mt2;rw [if_neg (by simpa using hhi)]
     refine .skip (ih _ _ ⟨by rw [hm];exact hB2,hN2,?_⟩);rw [hm];simp (disch:=first|exact zb|fail) only [go_sem,seval,f0,f1,f5,f6]
     try rfl
   intro env3 H3 ⟨hB3,hN3,g0,g1,g5,g6⟩;rw [←hnext] at hB3 g5;refine .qt rfl ?_;simp (disch:=first|exact zb|fail) only [go_sem,seval,g6];refine ih _ _ ⟨hB3,hN3,?_⟩;simp (disch:=first|exact zb|fail) only [go_sem,seval,g0,g1,g5]
   try rfl
end walks
end Go.Proofs.YthaoifcebimkfaaGreatDoor

namespace Go.Proofs.YthaoifcebimkfaaGreatDoor
open Go Go.AL

def nI (n:Nat):PV:=i64 n
theorem zz7 {n:Nat}:(.p (nI n):AV) = .p (i64 n):=rfl
theorem zm6 {n:Nat}:(nI n).cells=[nI n]:=rfl
def zbd (q:Qry) (c:Nat) (s:List Nd):Nat → LBS
 | 0=>([],(zZ (nth q.fl 0) s).2)
 | i+1=>((zbd q c s i).1++(y6 (nth q.fl i) c (zbd q c s i).2).1,(y6 (nth q.fl i) c (zbd q c s i).2).2)
theorem zqi (l:List Cnd) (c:Nat) (s:List Nd):y6 l c (zZ l s).2=y6 l c s:=by unfold y6;rw [zpu]
theorem zje (q:Qry) (c:Nat) (s:List Nd):zbd q c s 0=([],(zZ (nth q.fl 0) s).2):=rfl
theorem zd6 (q:Qry) (c:Nat) (s:List Nd) (i:Nat):zbd q c s (i+1)=((zbd q c s i).1++(y6 (nth q.fl i) c (zbd q c s i).2).1,(y6 (nth q.fl i) c (zbd q c s i).2).2):=rfl
theorem zz8 (l:List Cnd) (c:Nat) (s:List Nd):(y6 l c s).1.length=16:=za1 16
theorem zm7 (q:Qry) (c:Nat) (s:List Nd):zbd q c s 1=y6 (nth q.fl 0) c s:=by
 rw [zd6,zje];simp only [List.nil_append];rw [zqi]
theorem zvp {q:Qry} {s:List Nd} (h1:q.kind≠1) (h2 : ¬ (q.kind=2 ∨ q.kind=3)):zw q s=zbd q (if q.kind=7 then 0 else q.col.toNat) s (if q.kind=7 then 2 else 1):=by
 unfold zw;rw [if_neg h1,if_neg h2];by_cases h7:q.kind=7
 · rw [if_pos h7,if_pos h7,if_pos h7,zd6,zm7]
 · rw [if_neg h7,if_neg h7,if_neg h7,zm7]
theorem zm8 {q:Qry} {c:Nat} {s:List Nd} (hf : ∀ i,i < q.fl.length → (nth q.fl i).length≤3) (h0:0 < q.fl.length) : ∀ i,i≤q.fl.length → (zbd q c s i).2.length≤s.length+54+118*i∧(zbd q c s i).1.length=16*i
 | 0,_=>by
  have:=(zap (nth q.fl 0)).len s
  have:=hf 0 h0
  rw [zje]
  refine⟨?_,rfl⟩
  dsimp only;omega
 | i+1,hi=>by
  obtain⟨a,b⟩:=zm8 (c:=c) (s:=s) hf h0 i (by omega)
  have h3:=hf i (by omega);have h4:=(zdx (nth q.fl i) c).len (zbd q c s i).2;have h5:=zz8 (nth q.fl i) c (zbd q c s i).2;rw [zd6];dsimp only
  generalize y6 (nth q.fl i) c (zbd q c s i).2=z at *
  refine⟨by omega,?_⟩
  rw [List.length_append,b,h5];omega
def LRR (bb al:Nat) (H:Hp) (f:LBS) (r:AV) (H':Hp):Prop:=RB H' f.2 bb al∧RF bb al H H'∧r = .p (.sl false 1 (pl nI f.1))
section walks
variable {G:Globs}
set_option maxHeartbeats 16000000 in
set_option maxRecDepth 20000 in
theorem zqj {s:List Nd} {bb al:Nat} (q:Qry) (hq:vQ q=true) {H:Hp} (hB:RB H s bb al) (hlen:s.length≤300) :
 ACall Tryz.prog G 46 [.ptr bb 0,.p (qry q)] H (LRR bb al H (zw q s)):=by
 refine ACall.of_run (raw:=[]) Tryz.func46 rfl Tryz.ntmps46 (by simp) fun hbel => ?_
 obtain⟨l1,l2⟩:=hB.lt
 have hlf:q.fl.length=if q.kind=7 then 2 else 1:=by
  simp only [vQ,Bool.and_eq_true,decide_eq_true_eq] at hq;exact hq.2.2.2.2.1
 obtain⟨hcol,hk⟩:(0≤q.col∧q.col < 4)∧(min (yw q.kind) 1≤q.k∧q.k≤yw q.kind):=by
  simp only [vQ,Bool.and_eq_true,decide_eq_true_eq] at hq;exact⟨hq.2.1,hq.2.2.2.1⟩
 have hl0:0 < q.fl.length:=by rw [hlf];split<;>decide
 have hf0:=zb7 hq hl0;refine .qt rfl ?_;simp (disch:=first|exact zb|fail) only [go_sem,seval];have hB0:=hB.new (.cells [.p (i64 q.kind),.p (i64 q.col),.p (i64 q.k),.p (.sl false 1 (pl yt q.fl))]);refine .qt rfl ?_;simp (disch:=first|exact zb|fail) only [go_sem,seval];refine CallK.ex (zef (nth q.fl 0) hf0 hB0 (by omega)) ?_
 rintro _ H1 ⟨hB1,n1,rfl⟩
 have w1:RW bb al H H1:=(RW.new _).trans n1.w;have hq1:H1.f H.n=some (.cells [.p (i64 q.kind),.p (i64 q.col),.p (i64 q.k),.p (.sl false 1 (pl yt q.fl))]):=(n1.f _ (by omega) (by omega)).trans (zm rfl)
 have hn1:H1.n=H.n+1:=by rw [n1.n,n_new']
 have hM:=(zap (nth q.fl 0)).len s;have hMl:=zfA hf0;have hMm:(zZ (nth q.fl 0) s).1 < 29+(zZ (nth q.fl 0) s).2.length:=zkq;simp (disch:=first|exact zb|fail) only [go_sem,seval]
 rcases Classical.em (q.kind=1) with h1 | h1
 · rw [zw,if_pos h1];refine .qt rfl ?_;simp (disch:=first|exact zb|fail) only [go_sem,seval,hq1];refine .qT rfl ?_;refine .qt rfl ?_;simp (disch:=first|exact zb|fail) only [go_sem,seval];have hbel:Bel H.n H1:=hB1.bel l2 hbel w1.f;refine .qr rfl Tryz.func46 (by rw [Tryz.results46]) ?_;simp (disch:=first|exact zb|fail) only [go_sem,seval]
   exact⟨hB1.trunc l1 l2,w1.back l1 l2,rfl⟩
 · refine .qt rfl ?_;simp (disch:=first|exact zb|fail) only [go_sem,seval,hq1];refine .qF rfl ?_;refine .skip ?_
   rcases Classical.em (q.kind=2 ∨ q.kind=3) with h2 | h2
   · have hsn:zw q s=([(prN (zaX q.col.toNat (zZ (nth q.fl 0) s).2 (q.k - 1).toNat).2 (zZ (nth q.fl 0) s).1 (zaX q.col.toNat (zZ (nth q.fl 0) s).2 (q.k - 1).toNat).1).1],(prN (zaX q.col.toNat (zZ (nth q.fl 0) s).2 (q.k - 1).toNat).2 (zZ (nth q.fl 0) s).1 (zaX q.col.toNat (zZ (nth q.fl 0) s).2 (q.k - 1).toNat).1).2):=by
      rw [zw,if_neg h1,if_pos h2]
     rw [hsn]
     have hk6:0≤q.k∧q.k≤6:=by
      rcases h2 with e | e
      · rw [e] at hk;have a:yw 2=0:=rfl;rw [a] at hk;omega
      · rw [e] at hk;have a:yw 3=6:=rfl;rw [a] at hk;omega
     obtain⟨c,hc⟩:=Int.eq_ofNat_of_zero_le hcol.1
     have hct:q.col.toNat=c:=by omega
     have hc4:c < 4:=by omega
     rw [hct]
     generalize zZ (nth q.fl 0) s=M at *
     have hg:(if q.kind=2 then True else q.kind=3):=by rcases h2 with e | e<;>simp [e]
     have hbel1:Bel H.n H1:=hB1.bel l2 hbel w1.f;refine .q ?_;refine .cut (fun env2 H2=>H2=H1∧env2 0 = .ptr bb 0∧env2 3 = .ptr H.n 0∧env2 5 = .p (i64 (M.1:Nat))∧env2 30 = .p (bo true)) (fun ih => ?_) ?_
     · rcases Classical.em (q.kind=2) with h3 | h3
       · refine .qt rfl ?_;simp (disch:=first|exact zb|fail) only [go_sem,seval,hq1,h3];refine ih _ _ ⟨rfl,?_,?_,?_,?_⟩<;>simp (disch:=first|exact zb|fail) only [go_sem,seval]
       · have h4:q.kind=3:=by omega
         refine .qt rfl ?_;simp (disch:=first|exact zb|fail) only [go_sem,seval,hq1,h4];refine ih _ _ ⟨rfl,?_,?_,?_,?_⟩<;>simp (disch:=first|exact zb|fail) only [go_sem,seval]
     rintro env H2 ⟨rfl,e0,e3,e5,e30⟩
     refine .q ?_;refine .ifT (by simp (disch:=first|exact zb|fail) only [go_sem,seval,e30]) ?_;refine .qt rfl ?_;simp (disch:=first|exact zb|fail) only [go_sem,seval,e3,hq1];refine .qt rfl ?_;simp (disch:=first|exact zb|fail) only [go_sem,seval];refine .q ?_
     have hpl:=fun i=>(zdy c i).len M.2
     have hpe:=fun i=>((zdy c i).ext M.2).len
     have hpm:=fun i=>zkf (c:=c) (s:=M.2) (by omega) i
     refine .count (fun i env H'=>RB H' (zaX c M.2 (i - 1)).2 bb al∧RW bb al H H'∧H'.n=H.n+1∧H'.f H.n=some (.cells [.p (i64 q.kind),.p (i64 q.col),.p (i64 q.k),.p (.sl false 1 (pl yt q.fl))])∧env 0 = .ptr bb 0∧env 3 = .ptr H.n 0∧env 5 = .p (i64 (M.1:Nat))∧env 6 = .p (i64 ((zaX c M.2 (i - 1)).1:Nat))∧env 7 = .p (i64 i)) 1 ((q.k - 1).toNat+1) (by omega) ?_ ?_ ?_
     · refine⟨hB1,w1,hn1,hq1,?_,?_,?_,?_,?_⟩
       · simp (disch:=first|exact zb|fail) only [go_sem,seval,e0]
       · simp (disch:=first|exact zb|fail) only [go_sem,seval,e3]
       · simp (disch:=first|exact zb|fail) only [go_sem,seval,e5]
       · simp (disch:=first|exact zb|fail) only [go_sem,seval,hc];rfl
       · simp (disch:=first|exact zb|fail) only [go_sem,seval]
     · intro env H' ⟨hB',hN,hn',hq',e0,e3,e5,e6,e7⟩;rw [Nat.add_sub_cancel] at hB' e6;have hx:=hpl (q.k - 1).toNat;have hx2:=hpe (q.k - 1).toNat;have hx3:=hpm (q.k - 1).toNat
       generalize zaX c M.2 (q.k - 1).toNat=P at *
       refine .qt rfl ?_;simp (disch:=first|exact zb|fail) only [go_sem,seval,e3,e7,hq'];refine .qF rfl ?_;refine .qt rfl ?_;simp (disch:=first|exact zb|fail) only [go_sem,seval,e0,e5,e6];refine CallK.ex (yB M.1 P.1 hB' (by omega) hx3 (by omega)) ?_
       rintro _ H3 ⟨hB3,n3,rfl⟩
       simp (disch:=first|exact zb|fail) only [go_sem,seval];have w3:=hN.trans n3.w;have hbel:Bel H.n H3:=hB3.bel l2 hbel w3.f;refine .qr rfl Tryz.func46 (by rw [Tryz.results46]) ?_;simp (disch:=first|exact zb|fail) only [go_sem,seval]
       exact⟨hB3.trunc l1 l2,w3.back l1 l2,rfl⟩
     · intro i env H' hi0 hi ⟨hB',hN,hn',hq',e0,e3,e5,e6,e7⟩ ih;have hx:=hpl (i - 1);have hx2:=hpe (i - 1);have hx3:=hpm (i - 1)
       have hnx:zaX c M.2 (i+1 - 1)=prN (zaX c M.2 (i - 1)).2 (zaX c M.2 (i - 1)).1 c:=by
        rw [show i+1 - 1=(i - 1)+1 by omega];rfl
       generalize zaX c M.2 (i - 1)=P at *
       refine .qt rfl ?_;simp (disch:=first|exact zb|fail) only [go_sem,seval,e3,e7,hq'];refine .qT rfl ?_;refine .qt rfl ?_;simp (disch:=first|exact zb|fail) only [go_sem,seval,e0,e3,e6,hq',hc];refine CallK.ex (yB P.1 c hB' hx3 (by omega) (by omega)) ?_
       rintro _ H3 ⟨hB3,n3,rfl⟩
       simp (disch:=first|exact zb|fail) only [go_sem,seval];refine .qt rfl ?_;simp (disch:=first|exact zb|fail) only [go_sem,seval,e7];refine ih _ _ ⟨by rw [hnx];exact hB3,hN.trans n3.w,by rw [n3.n,hn'],(n3.f H.n (by omega) (by omega)).trans hq',?_,?_,?_,?_,?_⟩
       · simp (disch:=first|exact zb|fail) only [go_sem,seval,e0]
       · simp (disch:=first|exact zb|fail) only [go_sem,seval,e3]
       · simp (disch:=first|exact zb|fail) only [go_sem,seval,e5]
       · rw [hnx];simp (disch:=first|exact zb|fail) only [go_sem,seval]
       · simp (disch:=first|exact zb|fail) only [go_sem,seval]
   · have h3 : ¬ q.kind=2:=fun e=>h2 (.inl e)
     have h4 : ¬ q.kind=3:=fun e=>h2 (.inr e)
     rw [zvp h1 h2];refine .qt rfl ?_;simp (disch:=first|exact zb|fail) only [go_sem,seval,hq1,h3,h4];refine .qF rfl ?_;refine .skip ?_
     obtain⟨C,hC⟩ : ∃ C,C=if q.kind=7 then 0 else q.col.toNat:=⟨_,rfl⟩
     have hC4:C < 4:=by rw [hC];split<;>omega
     rw [←hC,←hlf]
     have hfl3 : ∀ i,i < q.fl.length → (nth q.fl i).length≤3:=fun i hi=>zfA (zb7 hq hi)
     have hfl2:q.fl.length≤2:=by rw [hlf];split<;>decide
     have hgl:=fun i hi=>zm8 (q:=q) (c:=C) (s:=s) hfl3 hl0 i hi
     refine .qt rfl ?_;simp (disch:=first|exact zb|fail) only [go_sem,seval];refine .q ?_;refine .own 8 (by simp (disch:=first|exact zb|fail) only [go_sem,seval];rfl) ?_;rw [hn1];have hB2:=hB1.new (.tail 0);have w2:RW bb al H (H1.new (.tail 0)):=w1.trans (.new _);have hq2:(H1.new (.tail 0)).f H.n=some (.cells [.p (i64 q.kind),.p (i64 q.col),.p (i64 q.k),.p (.sl false 1 (pl yt q.fl))]):=(zc (by omega)).trans hq1;have ht2:(H1.new (.tail 0)).f (H.n+1)=some (.tail 0):=zm hn1.symm
     have hn2:(H1.new (.tail 0)).n=H.n+2:=by rw [n_new',hn1]
     generalize H1.new (.tail 0)=H2 at *
     refine .qt rfl ?_;simp (disch:=first|exact zb|fail) only [go_sem,seval,hq2];refine .qt rfl ?_;simp (disch:=first|exact zb|fail) only [go_sem,seval,hq2];refine .q ?_;refine .ifJ (fun env2 H3=>H3=H2∧env2 0 = .ptr bb 0∧env2 3 = .ptr H.n 0∧env2 8 = .sl (H.n+1) 0 1 []∧env2 9 = .p (i64 (C:Nat))) (by simp (disch:=first|exact zb|fail) only [go_sem,seval];rfl) (fun hc ih => ?_) (fun hc ih => ?_) ?_
     · have h7:q.kind=7:=by simpa using hc
       have hC0:C=0:=by rw [hC,if_pos h7]
       refine .qt rfl ?_;simp (disch:=first|exact zb|fail) only [go_sem,seval];refine ih _ _ ⟨rfl,?_,?_,?_,?_⟩
       · simp (disch:=first|exact zb|fail) only [go_sem,seval]
       · simp (disch:=first|exact zb|fail) only [go_sem,seval]
       · simp (disch:=first|exact zb|fail) only [go_sem,seval]
       · rw [hC0];simp (disch:=first|exact zb|fail) only [go_sem,seval]
     · have h7 : ¬ q.kind=7:=by simpa using hc
       have hC0:(C:Int)=q.col:=by rw [hC,if_neg h7];omega
       refine .skip (ih _ _ ⟨rfl,?_,?_,?_,?_⟩)
       · simp (disch:=first|exact zb|fail) only [go_sem,seval]
       · simp (disch:=first|exact zb|fail) only [go_sem,seval]
       · simp (disch:=first|exact zb|fail) only [go_sem,seval]
       · rw [hC0];simp (disch:=first|exact zb|fail) only [go_sem,seval]
     rintro env H3 ⟨rfl,e0,e3,e8,e9⟩
     refine .qt rfl ?_;simp (disch:=first|exact zb|fail) only [go_sem,seval];refine .q ?_;refine .count (fun i env H'=>RB H' (zbd q C s i).2 bb al∧RW bb al H H'∧H'.n=H.n+2∧H'.f H.n=some (.cells [.p (i64 q.kind),.p (i64 q.col),.p (i64 q.k),.p (.sl false 1 (pl yt q.fl))])∧H'.f (H.n+1)=some (.tail (zbd q C s i).1.length)∧env 0 = .ptr bb 0∧env 3 = .ptr H.n 0∧env 8 = .sl (H.n+1) (zbd q C s i).1.length 1 (pl nI (zbd q C s i).1)∧env 9 = .p (i64 (C:Nat))∧env 10 = .p (i64 i)) 0 q.fl.length (by omega) ?_ ?_ ?_
     · refine⟨hB2,w2,hn2,hq2,ht2,?_,?_,?_,?_,?_⟩
       · simp (disch:=first|exact zb|fail) only [go_sem,seval,e0]
       · simp (disch:=first|exact zb|fail) only [go_sem,seval,e3]
       · simp (disch:=first|exact zb|fail) only [go_sem,seval,e8];rfl
       · simp (disch:=first|exact zb|fail) only [go_sem,seval,e9]
       · simp (disch:=first|exact zb|fail) only [go_sem,seval]
     · intro env H' ⟨hB',hN,hn',hq',ht',e0,e3,e8,e9,e10⟩
       generalize zbd q C s q.fl.length=P at *
       refine .qt rfl ?_;simp (disch:=first|exact zb|fail) only [go_sem,seval,e3,e10,hq'];refine .qF rfl ?_;refine .qt rfl ?_;simp (disch:=first|exact zb|fail) only [go_sem,seval,e8];have hbel:Bel H.n H':=hB'.bel l2 hbel hN.f;refine .qr rfl Tryz.func46 (by rw [Tryz.results46]) ?_;simp (disch:=first|exact zb|fail) only [go_sem,seval]
       exact⟨hB'.trunc l1 l2,hN.back l1 l2,rfl⟩
     · intro i env H' hi0 hi ⟨hB',hN,hn',hq',ht',e0,e3,e8,e9,e10⟩ ih
       obtain⟨g1,g2⟩:=hgl i (by omega)
       have hfi:=zb7 hq hi
       have hnx:zbd q C s (i+1)=((zbd q C s i).1++(yI (zZ (nth q.fl i) (zbd q C s i).2).1 C (zZ (nth q.fl i) (zbd q C s i).2).2 16).1,(yI (zZ (nth q.fl i) (zbd q C s i).2).1 C (zZ (nth q.fl i) (zbd q C s i).2).2 16).2):=by
        rw [zd6,y6]
       generalize zbd q C s i=P at *
       have m1:=(zap (nth q.fl i)).len P.2;have m2:=zfA hfi;have m3:(zZ (nth q.fl i) P.2).1 < 29+(zZ (nth q.fl i) P.2).2.length:=zkq;refine .qt rfl ?_;simp (disch:=first|exact zb|fail) only [go_sem,seval,e3,e10,hq'];refine .qT rfl ?_;refine .qt rfl ?_;simp (disch:=first|exact zb|fail) only [go_sem,seval,e0,e3,e10,hq'];refine CallK.ex (zef (nth q.fl i) hfi hB' (by omega)) ?_
       rintro _ H4 ⟨hB4,n4,rfl⟩
       generalize zZ (nth q.fl i) P.2=M at *
       have hq4:=(n4.f H.n (by omega) (by omega)).trans hq';have ht4:=(n4.f (H.n+1) (by omega) (by omega)).trans ht';have hn4:=n4.n.trans hn';have w4:=hN.trans n4.w
       have z1:=fun v=>(zdw M.1 C v).len M.2
       have z2:=fun v=>((zdw M.1 C v).ext M.2).len
       have z3:=fun v=>za1 (m:=M.1) (c:=C) (s:=M.2) v
       simp (disch:=first|exact zb|fail) only [go_sem,seval];refine .qt rfl ?_;simp (disch:=first|exact zb|fail) only [go_sem,seval];refine .q ?_;refine .count (fun v env H'=>RB H' (yI M.1 C M.2 v).2 bb al∧RW bb al H H'∧H'.n=H.n+2∧H'.f H.n=some (.cells [.p (i64 q.kind),.p (i64 q.col),.p (i64 q.k),.p (.sl false 1 (pl yt q.fl))])∧H'.f (H.n+1)=some (.tail (P.1++(yI M.1 C M.2 v).1).length)∧env 0 = .ptr bb 0∧env 3 = .ptr H.n 0∧env 5 = .p (i64 (M.1:Nat))∧env 8 = .sl (H.n+1) (P.1++(yI M.1 C M.2 v).1).length 1 (pl nI (P.1++(yI M.1 C M.2 v).1))∧env 9 = .p (i64 (C:Nat))∧env 10 = .p (i64 i)∧env 11 = .p (i64 v)) 0 16 (by omega) ?_ ?_ ?_
       · have e0':P.1++(yI M.1 C M.2 0).1=P.1:=List.append_nil _;rw [e0']
         refine⟨hB4,w4,hn4,hq4,ht4,?_,?_,?_,?_,?_,?_,?_⟩
         · simp (disch:=first|exact zb|fail) only [go_sem,seval,e0]
         · simp (disch:=first|exact zb|fail) only [go_sem,seval,e3]
         · simp (disch:=first|exact zb|fail) only [go_sem,seval]
         · simp (disch:=first|exact zb|fail) only [go_sem,seval,e8]
         · simp (disch:=first|exact zb|fail) only [go_sem,seval,e9]
         · simp (disch:=first|exact zb|fail) only [go_sem,seval,e10]
         · simp (disch:=first|exact zb|fail) only [go_sem,seval]
       · intro env H' ⟨hB',hN,hn',hq',ht',e0,e3,e5,e8,e9,e10,e11⟩
         generalize yI M.1 C M.2 16=Q at *
         refine .qt rfl ?_;simp (disch:=first|exact zb|fail) only [go_sem,seval,e11];refine .qF rfl ?_;refine .qt rfl ?_;simp (disch:=first|exact zb|fail) only [go_sem,seval,e10];refine ih _ _ ⟨by rw [hnx];exact hB',hN,hn',hq',by rw [hnx];exact ht',?_,?_,?_,?_,?_⟩
         · simp (disch:=first|exact zb|fail) only [go_sem,seval,e0]
         · simp (disch:=first|exact zb|fail) only [go_sem,seval,e3]
         · rw [hnx];simp (disch:=first|exact zb|fail) only [go_sem,seval,e8]
         · simp (disch:=first|exact zb|fail) only [go_sem,seval,e9]
         · simp (disch:=first|exact zb|fail) only [go_sem,seval]
       · intro v env H' hv0 hv ⟨hB',hN,hn',hq',ht',e0,e3,e5,e8,e9,e10,e11⟩ ihv;have y1:=z1 v;have y2:=z2 v;have y3:=z3 v;have hnv:yI M.1 C M.2 (v+1)=((yI M.1 C M.2 v).1++[(prN (zbq C v (yI M.1 C M.2 v).2).2 M.1 (zbq C v (yI M.1 C M.2 v).2).1).1],(prN (zbq C v (yI M.1 C M.2 v).2).2 M.1 (zbq C v (yI M.1 C M.2 v).2).1).2):=rfl
         generalize yI M.1 C M.2 v=Q at *
         have x1:=(zcJ C v).len Q.2;have x2:=((zcJ C v).ext Q.2).len;have x3:(zbq C v Q.2).1 < 29+(zbq C v Q.2).2.length:=yG ..
         have hlq:(P.1++Q.1).length=P.1.length+v:=by rw [List.length_append,y3]
         refine .qt rfl ?_;simp (disch:=first|exact zb|fail) only [go_sem,seval,e11];refine .qT rfl ?_;refine .qt rfl ?_;simp (disch:=first|exact zb|fail) only [go_sem,seval,e0,e5,e8,e9,e11];refine CallK.ex (zvo C v hC4 hv hB' (by omega)) ?_
         rintro _ H5 ⟨hB5,n5,rfl⟩
         generalize zbq C v Q.2=I at *
         simp (disch:=first|exact zb|fail) only [go_sem,seval];refine CallK.ex (yB M.1 I.1 hB5 (by omega) (by omega) (by omega)) ?_
         rintro _ H6 ⟨hB6,n6,rfl⟩
         generalize prN I.2 M.1 I.1=J at *
         have n56:=n5.trans n6;have ht6:=(n56.f (H.n+1) (by omega) (by omega)).trans ht';have hq6:=(n56.f H.n (by omega) (by omega)).trans hq';have hn6:=n56.n.trans hn'
         have hpl:pl nI (P.1++Q.1)++[i64 (J.1:Nat)]=pl nI (P.1++(Q.1++[J.1])):=by simp [pl,nI]
         have hll:(P.1++(Q.1++[J.1])).length=(P.1++Q.1).length+1:=by simp;omega
         simp (disch:=first|exact zb|fail) only [go_sem,seval,ht6,hpl];refine .qt rfl ?_;simp (disch:=first|exact zb|fail) only [go_sem,seval,e11];refine ihv _ _ ⟨by rw [hnv];exact hB6.set _ (by omega) (by omega),(hN.trans n56.w).set _ (by omega),by rw [n_set',hn6],by rw [f_set_ne' (by omega)];exact hq6,by rw [hnv,zo rfl (by omega),hll,List.length_append],?_,?_,?_,?_,?_,?_,?_⟩
         · simp (disch:=first|exact zb|fail) only [go_sem,seval,e0]
         · simp (disch:=first|exact zb|fail) only [go_sem,seval,e3]
         · simp (disch:=first|exact zb|fail) only [go_sem,seval,e5]
         · rw [hnv,hll];simp (disch:=first|exact zb|fail) only [go_sem,seval]
         · simp (disch:=first|exact zb|fail) only [go_sem,seval,e9]
         · simp (disch:=first|exact zb|fail) only [go_sem,seval,e10]
         · simp (disch:=first|exact zb|fail) only [go_sem,seval]
end walks
end Go.Proofs.YthaoifcebimkfaaGreatDoor

namespace Go.Proofs.YthaoifcebimkfaaGreatDoor
open Go Go.AL

section walks
variable {G:Globs}
set_option maxHeartbeats 16000000 in
set_option maxRecDepth 20000 in
theorem zqk (q:Qry) (hq:vQ q=true) (c:Nat) (hc:c < 4) (H:Hp) (R:AV → Hp → Prop) (h:R (.p (bo (yP q c))) H):ACall Tryz.prog G 27 [.p (qry q),.p (i64 c)] H R:=by
 refine ACall.of_run (raw:=[]) Tryz.func27 rfl Tryz.ntmps27 (by simp) fun hbel => ?_
 obtain⟨hf2,hf3⟩:=zCO hq
 refine .qt rfl ?_;simp (disch:=first|exact zb|fail) only [go_sem,seval];refine .qt rfl ?_;simp (disch:=first|exact zb|fail) only [go_sem,seval]
 refine .q ?_;first | refine .loopF0 [1,2] (fun i=>[(5,.p (i64 i))]) (fun i => ∀ j,j < i → zge c (nth q.fl j)=false) (0) (q.fl.length) (by omega) ?_ ?_ ?_ ?_ | refine .loopF [1,2] (fun i=>[(5,.p (i64 i))]) (fun _=>[]) (fun i => ∀ j,j < i → zge c (nth q.fl j)=false) (0) (q.fl.length) (by omega) ?_ (by rfl) ?_ ?_ ?_
 · simp (disch:=first|exact zb|fail) only [go_sem,seval]<;>(repeat' (first | rfl | refine And.intro ?_ ?_))
 rotate_left 1
 intro env T A hQ;simp (disch:=first|exact zb|fail) only [go_sem,seval] at A
 rotate_left 1
 intro i env T hi0 hi A hQ ihA;simp (disch:=first|exact zb|fail) only [go_sem,seval] at A
 rotate_left 1
 · exact fun j hj=>absurd hj (by omega)
 · have hany:(q.fl.any fun l=>l.any (yK c))=false:=by
    rw [List.any_eq_false];intro x hx
    obtain⟨j,hj,rfl⟩:=List.getElem_of_mem hx
    have:=hQ j hj
    rw [zg hj] at this;rw [show ((q.fl[j]).any (yK c))=zge c q.fl[j] from rfl,this]
    decide
   refine .qt rfl ?_;simp (disch:=first|exact zb|fail) only [go_sem,seval,A];refine .qF rfl ?_
   rcases Classical.em (q.kind=4) with hk4 | hk4
   · rcases Classical.em (q.col=(c:Int)) with h5 | h5
     · have hr:yP q c=true:=by unfold yP;rw [hany];simp [hk4,h5]
       rw [hr] at h;refine .qt rfl ?_;simp (disch:=first|exact zb|fail) only [go_sem,seval,A,hk4];refine .qt rfl ?_;simp (disch:=first|exact zb|fail) only [go_sem,seval,A,hk4,h5];refine .qr rfl Tryz.func27 (by rw [Tryz.results27]) (hx:=by simp (disch:=first|exact zb|fail) only [go_sem,seval,A];rfl) ?_;simp (disch:=first|exact zb|fail) only [go_sem,seval,A];exact h
     · have hr:yP q c=false:=by unfold yP;rw [hany];simp [hk4,h5]
       rw [hr] at h;refine .qt rfl ?_;simp (disch:=first|exact zb|fail) only [go_sem,seval,A,hk4];refine .qt rfl ?_;simp (disch:=first|exact zb|fail) only [go_sem,seval,A,hk4,h5];refine .qr rfl Tryz.func27 (by rw [Tryz.results27]) (hx:=by simp (disch:=first|exact zb|fail) only [go_sem,seval,A];rfl) ?_;simp (disch:=first|exact zb|fail) only [go_sem,seval,A];exact h
   rcases Classical.em (q.kind=5) with hk5 | hk5
   · rcases Classical.em (q.col=(c:Int)) with h5 | h5
     · have hr:yP q c=true:=by unfold yP;rw [hany];simp [hk5,h5]
       rw [hr] at h;refine .qt rfl ?_;simp (disch:=first|exact zb|fail) only [go_sem,seval,A,hk4,hk5];refine .qt rfl ?_;simp (disch:=first|exact zb|fail) only [go_sem,seval,A,hk4,hk5,h5];refine .qr rfl Tryz.func27 (by rw [Tryz.results27]) (hx:=by simp (disch:=first|exact zb|fail) only [go_sem,seval,A];rfl) ?_;simp (disch:=first|exact zb|fail) only [go_sem,seval,A];exact h
     · have hr:yP q c=false:=by unfold yP;rw [hany];simp [hk5,h5]
       rw [hr] at h;refine .qt rfl ?_;simp (disch:=first|exact zb|fail) only [go_sem,seval,A,hk4,hk5];refine .qt rfl ?_;simp (disch:=first|exact zb|fail) only [go_sem,seval,A,hk4,hk5,h5];refine .qr rfl Tryz.func27 (by rw [Tryz.results27]) (hx:=by simp (disch:=first|exact zb|fail) only [go_sem,seval,A];rfl) ?_;simp (disch:=first|exact zb|fail) only [go_sem,seval,A];exact h
   rcases Classical.em (q.kind=6) with hk6 | hk6
   · rcases Classical.em (q.col=(c:Int)) with h5 | h5
     · have hr:yP q c=true:=by unfold yP;rw [hany];simp [hk6,h5]
       rw [hr] at h;refine .qt rfl ?_;simp (disch:=first|exact zb|fail) only [go_sem,seval,A,hk4,hk5,hk6];refine .qt rfl ?_;simp (disch:=first|exact zb|fail) only [go_sem,seval,A,hk4,hk5,hk6,h5];refine .qr rfl Tryz.func27 (by rw [Tryz.results27]) (hx:=by simp (disch:=first|exact zb|fail) only [go_sem,seval,A];rfl) ?_;simp (disch:=first|exact zb|fail) only [go_sem,seval,A];exact h
     · have hr:yP q c=false:=by unfold yP;rw [hany];simp [hk6,h5]
       rw [hr] at h;refine .qt rfl ?_;simp (disch:=first|exact zb|fail) only [go_sem,seval,A,hk4,hk5,hk6];refine .qt rfl ?_;simp (disch:=first|exact zb|fail) only [go_sem,seval,A,hk4,hk5,hk6,h5];refine .qr rfl Tryz.func27 (by rw [Tryz.results27]) (hx:=by simp (disch:=first|exact zb|fail) only [go_sem,seval,A];rfl) ?_;simp (disch:=first|exact zb|fail) only [go_sem,seval,A];exact h
   rcases Classical.em (q.kind=7) with hk7 | hk7
   · rcases Classical.em (c=0) with h5 | h5
     · have hr:yP q c=true:=by unfold yP;rw [hany];simp [hk7,h5]
       rw [hr] at h;subst h5;refine .qt rfl ?_;simp (disch:=first|exact zb|fail) only [go_sem,seval,A,hk7];refine .qt rfl ?_;simp (disch:=first|exact zb|fail) only [go_sem,seval,A,hk7];refine .qr rfl Tryz.func27 (by rw [Tryz.results27]) (hx:=by simp (disch:=first|exact zb|fail) only [go_sem,seval,A];rfl) ?_;simp (disch:=first|exact zb|fail) only [go_sem,seval,A];exact h
     · have hr:yP q c=false:=by unfold yP;rw [hany];simp [hk7,h5]
       rw [hr] at h
       have h6 : ¬ ((c:Int)=0):=by omega
       refine .qt rfl ?_;simp (disch:=first|exact zb|fail) only [go_sem,seval,A,hk7];refine .qt rfl ?_;simp (disch:=first|exact zb|fail) only [go_sem,seval,A,hk7,h6];refine .qr rfl Tryz.func27 (by rw [Tryz.results27]) (hx:=by simp (disch:=first|exact zb|fail) only [go_sem,seval,A];rfl) ?_;simp (disch:=first|exact zb|fail) only [go_sem,seval,A];exact h
   · have hr:yP q c=false:=by unfold yP;rw [hany];simp [hk4,hk5,hk6,hk7]
     rw [hr] at h;refine .qt rfl ?_;simp (disch:=first|exact zb|fail) only [go_sem,seval,A,hk4,hk5,hk6];refine .qt rfl ?_;simp (disch:=first|exact zb|fail) only [go_sem,seval,A,hk7];refine .qr rfl Tryz.func27 (by rw [Tryz.results27]) (hx:=by simp (disch:=first|exact zb|fail) only [go_sem,seval,A];rfl) ?_;simp (disch:=first|exact zb|fail) only [go_sem,seval,A];exact h
 · have hl3:(nth q.fl i).length≤3:=hf3 _ (by rw [zg hi];exact List.getElem_mem _);have hQ0:=hQ;refine .qt rfl ?_;simp (disch:=first|exact zb|fail) only [go_sem,seval,A];refine .qT rfl ?_;refine .qt rfl ?_;simp (disch:=first|exact zb|fail) only [go_sem,seval,A]
   refine .q ?_;first | refine .loopF0 [1,2,5] (fun k=>[(6,.p (i64 k))]) (fun k => ∀ j,j < k → yK c (nth (nth q.fl i) j)=false) (0) ((nth q.fl i).length) (by omega) ?_ ?_ ?_ ?_ | refine .loopF [1,2,5] (fun k=>[(6,.p (i64 k))]) (fun _=>[]) (fun k => ∀ j,j < k → yK c (nth (nth q.fl i) j)=false) (0) ((nth q.fl i).length) (by omega) ?_ (by rfl) ?_ ?_ ?_
   · simp (disch:=first|exact zb|fail) only [go_sem,seval,A]<;>(repeat' (first | rfl | refine And.intro ?_ ?_))
   rotate_left 1
   intro env T B hQ;simp (disch:=first|exact zb|fail) only [go_sem,seval,A] at B
   rotate_left 1
   intro k env T hk0 hk B hQ ihB;simp (disch:=first|exact zb|fail) only [go_sem,seval,A] at B
   rotate_left 1
   · exact fun j hj=>absurd hj (by omega)
   · have hno:zge c (nth q.fl i)=false:=by
      unfold zge;rw [List.any_eq_false];intro x hx
      obtain⟨j,hj,rfl⟩:=List.getElem_of_mem hx
      have:=hQ j hj
      rw [zg hj] at this;rw [this];decide
     refine .qt rfl ?_;simp (disch:=first|exact zb|fail) only [go_sem,seval,B,A,zQ];refine .qF rfl ?_;refine .qt rfl ?_;simp (disch:=first|exact zb|fail) only [go_sem,seval,B,A]
     first | (refine ihA _ _ ?_ (zM hQ0 hno) ?_) | (refine .z rfl ?_;refine ihA _ _ ?_ (zM hQ0 hno) ?_) | (refine .z rfl ?_;refine .z rfl ?_;refine ihA _ _ ?_ (zM hQ0 hno) ?_) | (refine .z rfl ?_;refine .z rfl ?_;refine .z rfl ?_;refine ihA _ _ ?_ (zM hQ0 hno) ?_)
     · simp (disch:=first|exact zb|fail) only [go_sem,seval,B,A]<;>(repeat' (first | rfl | refine And.intro ?_ ?_))
     · first | exact .mk _ rfl | exact .mk [] rfl | (apply Later.mk;simp (disch:=first|exact zb|fail) only [go_sem,seval,zv,B,A];exact rfl) | (apply Later.mk;simp (disch:=first|exact zb|fail) only [go_sem,seval,zv,yq,List.append_assoc,B,A]<;>(try rfl))
   · obtain⟨x,hx⟩ : ∃ x,x=nth (nth q.fl i) k:=⟨_,rfl⟩
     have htrue:yK c x=true → R (.p (bo true)) H:=fun hr=>by
      have:yP q c=true:=by
       have ha:(q.fl.any fun l=>l.any (yK c))=true:=List.any_eq_true.2 ⟨_,List.getElem_mem hi,List.any_eq_true.2 ⟨_,List.getElem_mem (by rw [←zg hi];exact hk),by
        have e:(q.fl[i])[k]'(by rw [←zg hi];exact hk)=x:=by
         rw [hx,←zg (l:=q.fl[i]) (by rw [←zg hi];exact hk),←zg hi]
        rw [e];exact hr⟩⟩
       unfold yP;rw [ha];rfl
      rwa [this] at h
     refine .qt rfl ?_;simp (disch:=first|exact zb|fail) only [go_sem,seval,B,A,zQ];refine .qT rfl ?_;refine .qt rfl ?_;simp (disch:=first|exact zb|fail) only [go_sem,seval,B,A,zQ];rw [←hx]
     have hsucc:yK c x=false → ∀ j,j < k+1 → yK c (nth (nth q.fl i) j)=false:=fun hr j hj=>by
      by_cases e:j=k
      · subst e;rw [←hx];exact hr
      · exact hQ j (by omega)
     rcases Classical.em (x.col=(c:Int)) with h1 | h1
     · rcases Classical.em (0 < x.lo) with h2 | h2
       · have hr:yK c x=true:=by simp [yK,h1,h2]
         refine .q ?_;refine .open [] follows (by kernel_rfl) ?_;simp (disch:=first|exact zb|fail) only [go_sem,seval,B,A,h1];refine .qT rfl ?_;refine .qt rfl ?_;simp (disch:=first|exact zb|fail) only [go_sem,seval,B,A];refine .qr rfl Tryz.func27 (by rw [Tryz.results27]) (hx:=by simp (disch:=first|exact zb|fail) only [go_sem,seval,B,A];rfl) ?_;simp (disch:=first|exact zb|fail) only [go_sem,seval,B,A];exact htrue hr
       · refine .q ?_;refine .open [] follows (by kernel_rfl) ?_;simp (disch:=first|exact zb|fail) only [go_sem,seval,B,A,h1];refine CallD.still (fun R h=>zjc c hc _ R h) ?_;simp (disch:=first|exact zb|fail) only [go_sem,seval,B,A]
         rcases Classical.em (x.hi < yQ c) with h3 | h3
         · have hr:yK c x=true:=by simp [yK,h1,h3]
           refine .q ?_;refine .ifT (by simp (disch:=first|exact zb|fail) only [go_sem,seval,h3]) ?_;refine .qt rfl ?_;simp (disch:=first|exact zb|fail) only [go_sem,seval,B,A];refine .qr rfl Tryz.func27 (by rw [Tryz.results27]) (hx:=by simp (disch:=first|exact zb|fail) only [go_sem,seval,B,A];rfl) ?_;simp (disch:=first|exact zb|fail) only [go_sem,seval,B,A];exact htrue hr
         · have hr:yK c x=false:=by simp [yK,h2,h3]
           refine .q ?_;refine .ifF (by simp (disch:=first|exact zb|fail) only [go_sem,seval,h3]) ?_;refine .skip ?_;refine .qt rfl ?_;simp (disch:=first|exact zb|fail) only [go_sem,seval,B,A]
           first | (refine ihB _ _ ?_ (hsucc hr) ?_) | (refine .z rfl ?_;refine ihB _ _ ?_ (hsucc hr) ?_) | (refine .z rfl ?_;refine .z rfl ?_;refine ihB _ _ ?_ (hsucc hr) ?_) | (refine .z rfl ?_;refine .z rfl ?_;refine .z rfl ?_;refine ihB _ _ ?_ (hsucc hr) ?_)
           · simp (disch:=first|exact zb|fail) only [go_sem,seval,B,A]<;>(repeat' (first | rfl | refine And.intro ?_ ?_))
           · first | exact .mk _ rfl | exact .mk [] rfl | (apply Later.mk;simp (disch:=first|exact zb|fail) only [go_sem,seval,zv,B,A];exact rfl) | (apply Later.mk;simp (disch:=first|exact zb|fail) only [go_sem,seval,zv,yq,List.append_assoc,B,A]<;>(try rfl))
     · have hr:yK c x=false:=by simp [yK,h1]
       refine .q ?_;refine .open [] follows (by kernel_rfl) ?_;simp (disch:=first|exact zb|fail) only [go_sem,seval,B,A,h1];refine .qF rfl ?_;refine .skip ?_;refine .qt rfl ?_;simp (disch:=first|exact zb|fail) only [go_sem,seval,B,A]
       first | (refine ihB _ _ ?_ (hsucc hr) ?_) | (refine .z rfl ?_;refine ihB _ _ ?_ (hsucc hr) ?_) | (refine .z rfl ?_;refine .z rfl ?_;refine ihB _ _ ?_ (hsucc hr) ?_) | (refine .z rfl ?_;refine .z rfl ?_;refine .z rfl ?_;refine ihB _ _ ?_ (hsucc hr) ?_)
       · simp (disch:=first|exact zb|fail) only [go_sem,seval,B,A]<;>(repeat' (first | rfl | refine And.intro ?_ ?_))
       · first | exact .mk _ rfl | exact .mk [] rfl | (apply Later.mk;simp (disch:=first|exact zb|fail) only [go_sem,seval,zv,B,A];exact rfl) | (apply Later.mk;simp (disch:=first|exact zb|fail) only [go_sem,seval,zv,yq,List.append_assoc,B,A]<;>(try rfl))
end walks
end Go.Proofs.YthaoifcebimkfaaGreatDoor

namespace Go.Proofs.YthaoifcebimkfaaGreatDoor
open Go Go.AL

theorem zCw {k:Nat} (hk:k < 8):(2:Int) ^ k≤128∧0 < (2:Int) ^ k:=by
 have e:(2:Int) ^ k=((2 ^ k:Nat):Int):=by simp
 have h1:2 ^ k≤2 ^ 7:=Nat.pow_le_pow_right (by decide) (by omega);have h3:=Nat.two_pow_pos k;have h4:2 ^ 7=128:=rfl;omega
section walks
variable {G:Globs}
set_option maxHeartbeats 16000000 in
set_option maxRecDepth 20000 in
theorem zm9 {s:List Nd} {bb al:Nat} (q:Qry) (hq:vQ q=true) {H:Hp} (hB:RB H s bb al) (hlen:s.length≤600) :
 ACall Tryz.prog G 47 [.ptr bb 0,.p (qry q)] H (LRR bb al H (yc q s)):=by
 refine ACall.of_run (raw:=[]) Tryz.func47 rfl Tryz.ntmps47 (by simp) fun hbel => ?_
 obtain⟨l1,l2⟩:=hB.lt
 refine .qt rfl ?_;simp (disch:=first|exact zb|fail) only [go_sem,seval];refine .qt rfl ?_;simp (disch:=first|exact zb|fail) only [go_sem,seval]
 obtain⟨X,hX⟩ : ∃ X,X=(H.new (.cells [.p (i64 q.kind),.p (i64 q.col),.p (i64 q.k),.p (.sl false 1 (pl yt q.fl))])).new (.cells [.p (i64 1),.p (i64 (-1)),.p (i64 0),.p (i64 0)]):=⟨_,rfl⟩
 have hXB:RB X s bb al:=by rw [hX];exact (hB.new _).new _
 have hX0:X.f H.n=some (.cells [.p (i64 q.kind),.p (i64 q.col),.p (i64 q.k),.p (.sl false 1 (pl yt q.fl))]):=by rw [hX];simp (disch:=first|exact zb|fail) only [go_sem,seval]
 have hX1:X.f (H.n+1)=some (.cells [.p (i64 1),.p (i64 (-1)),.p (i64 0),.p (i64 0)]):=by rw [hX];simp (disch:=first|exact zb|fail) only [go_sem,seval]
 have hXn:X.n=H.n+2:=by rw [hX];simp (disch:=first|exact zb|fail) only [go_sem,seval]
 have hXW:RW bb al H X:=by rw [hX];exact (RW.new _).trans (.new _)
 rw [←hX]
 clear hX
 refine .qt rfl ?_;simp (disch:=first|exact zb|fail) only [go_sem,seval,hX1];refine CallK.ex (yJ 4 4 ⟨1,-1,0,0⟩ yF hXB (by omega) (by omega) (by omega)) ?_
 rintro _ H1 ⟨hB1,n1,rfl⟩
 have q1:=(n1.f H.n (by omega) (by omega)).trans hX0;have c1:=(n1.f (H.n+1) (by omega) (by omega)).trans hX1;have hn1:=n1.n.trans hXn;have w1:=hXW.trans n1.w;have hz0:zah q s 0=([(addN s 4 4 ⟨1,-1,0,0⟩).1],(addN s 4 4 ⟨1,-1,0,0⟩).2):=rfl;simp (disch:=first|exact zb|fail) only [go_sem,seval];refine .q ?_;refine .own 6 (by simp (disch:=first|exact zb|fail) only [go_sem,seval];rfl) ?_;rw [hn1];have hB2:=hB1.new (.tail 0);have w2:RW bb al H (H1.new (.tail 0)):=w1.trans (.new _);have q2:(H1.new (.tail 0)).f H.n=some (.cells [.p (i64 q.kind),.p (i64 q.col),.p (i64 q.k),.p (.sl false 1 (pl yt q.fl))]):=(zc (by omega)).trans q1;have c2:(H1.new (.tail 0)).f (H.n+1)=some (.cells [.p (i64 1),.p (i64 (-1)),.p (i64 0),.p (i64 0)]):=(zc (by omega)).trans c1;have t2:(H1.new (.tail 0)).f (H.n+2)=some (.tail 0):=zm hn1.symm
 have hn2:(H1.new (.tail 0)).n=H.n+3:=by rw [n_new',hn1]
 generalize H1.new (.tail 0)=H2 at *
 have hok:=fun c hc=>zgr (q:=q) (s:=s) c hc
 have hzl:=fun c hc=>zfd (q:=q) (s:=s) c hc
 refine .qt rfl ?_;simp (disch:=first|exact zb|fail) only [go_sem,seval];refine .q ?_;refine .count (fun c env H'=>RB H' (zah q s c).2 bb al∧RW bb al H H'∧H'.n=H.n+3∧H'.f H.n=some (.cells [.p (i64 q.kind),.p (i64 q.col),.p (i64 q.k),.p (.sl false 1 (pl yt q.fl))])∧H'.f (H.n+1)=some (.cells [.p (i64 1),.p (i64 (-1)),.p (i64 0),.p (i64 0)])∧H'.f (H.n+2)=some (.tail ((zah q s c).1.length - 1))∧env 0 = .ptr bb 0∧env 3 = .ptr H.n 0∧env 5 = .ptr (H.n+1) 0∧env 6 = .sl (H.n+2) ((zah q s c).1.length - 1) 1 (pl nI (zah q s c).1)∧env 7 = .p (i64 c)) 0 4 (by omega) ?_ ?_ ?_
 · rw [hz0]
   refine⟨hB2,w2,hn2,q2,c2,t2,?_,?_,?_,?_,?_⟩
   · simp (disch:=first|exact zb|fail) only [go_sem,seval]
   · simp (disch:=first|exact zb|fail) only [go_sem,seval]
   · simp (disch:=first|exact zb|fail) only [go_sem,seval]
   · simp (disch:=first|exact zb|fail) only [go_sem,seval];rfl
   · simp (disch:=first|exact zb|fail) only [go_sem,seval]
 · intro env H' ⟨hB',hN,hn',hq',hc',ht',e0,e3,e5,e6,e7⟩;have hzz:yc q s=zah q s 4:=rfl;rw [hzz]
   generalize zah q s 4=P at *
   refine .qt rfl ?_;simp (disch:=first|exact zb|fail) only [go_sem,seval,e7];refine .qF rfl ?_;refine .qt rfl ?_;simp (disch:=first|exact zb|fail) only [go_sem,seval,e6];have hbel:Bel H.n H':=hB'.bel l2 hbel hN.f;refine .qr rfl Tryz.func47 (by rw [Tryz.results47]) ?_;simp (disch:=first|exact zb|fail) only [go_sem,seval]
   exact⟨hB'.trunc l1 l2,hN.back l1 l2,rfl⟩
 · intro c env H' hc0 hc ⟨hB',hN,hn',hq',hc',ht',e0,e3,e5,e6,e7⟩ ih;have ok:=hok c (by omega);have olo:=ok.lo;have ohi:=ok.hi;have olen:=hzl c (by omega)
   have hnx:zah q s (c+1)=if yP q c then zhl c (zah q s c) else zah q s c:=rfl
   obtain⟨P,hPe⟩ : ∃ P,P=zah q s c:=⟨_,rfl⟩
   have hP0:0 < P.1.length:=by rw [hPe];exact List.length_pos_of_mem (zcO (q:=q) (s:=s) c)
   rw [←hPe] at hnx hB' ht' e6 ok olo ohi olen
   clear hPe
   refine .qt rfl ?_;simp (disch:=first|exact zb|fail) only [go_sem,seval,e7];refine .qT rfl ?_;refine .qt rfl ?_;simp (disch:=first|exact zb|fail) only [go_sem,seval,e3,e7,hq',zhC];refine CallK.of (fun R h=>zqk q hq c hc _ R h) ?_;simp (disch:=first|exact zb|fail) only [go_sem,seval]
   cases hu:yP q c with
   | false =>
    rw [hu,if_neg (by decide)] at hnx;refine .q ?_;refine .ifT (by simp (disch:=first|exact zb|fail) only [go_sem,seval,hu]) ?_;refine .qt rfl ?_;simp (disch:=first|exact zb|fail) only [go_sem,seval,e7];refine ih _ _ ⟨by rw [hnx];exact hB',hN,hn',hq',hc',by rw [hnx];exact ht',?_,?_,?_,?_,?_⟩
    · simp (disch:=first|exact zb|fail) only [go_sem,seval,e0]
    · simp (disch:=first|exact zb|fail) only [go_sem,seval,e3]
    · simp (disch:=first|exact zb|fail) only [go_sem,seval,e5]
    · rw [hnx];simp (disch:=first|exact zb|fail) only [go_sem,seval,e6]
    · simp (disch:=first|exact zb|fail) only [go_sem,seval]
   | true =>
    rw [hu,if_pos rfl] at hnx
    obtain⟨hf,hw4⟩:=zht hc
    have hw8:=zaY c;refine .q ?_;refine .ifF (by simp (disch:=first|exact zb|fail) only [go_sem,seval,hu]) ?_;refine .skip ?_;refine .qt rfl ?_;simp (disch:=first|exact zb|fail) only [go_sem,seval,e7];refine CallK.of (fun R h=>zbv c hc _ R h) ?_;simp (disch:=first|exact zb|fail) only [go_sem,seval]
    have zok:=fun k=>(zmQ (show zi c < 29 by omega) ok k)
    have zlen:=fun k=>zhv (c:=c) (p:=P) k
    refine .qt rfl ?_;simp (disch:=first|exact zb|fail) only [go_sem,seval];refine .q ?_;refine .count (fun k env H'=>RB H' (zT c P k).s bb al∧RW bb al H H'∧H'.n=H.n+3∧H'.f H.n=some (.cells [.p (i64 q.kind),.p (i64 q.col),.p (i64 q.k),.p (.sl false 1 (pl yt q.fl))])∧H'.f (H.n+1)=some (.cells [.p (i64 1),.p (i64 (-1)),.p (i64 0),.p (i64 0)])∧H'.f (H.n+2)=some (.tail ((zT c P k).o.length - 1))∧env 0 = .ptr bb 0∧env 3 = .ptr H.n 0∧env 5 = .ptr (H.n+1) 0∧env 6 = .sl (H.n+2) ((zT c P k).o.length - 1) 1 (pl nI (zT c P k).o)∧env 7 = .p (i64 c)∧env 8 = .p (i64 ((zT c P k).sum:Nat))∧env 9 = .p (i64 k)) 0 (yf c) (by omega) ?_ ?_ ?_
    · refine⟨hB',hN,hn',hq',hc',ht',?_,?_,?_,?_,?_,?_,?_⟩
      · simp (disch:=first|exact zb|fail) only [go_sem,seval,e0]
      · simp (disch:=first|exact zb|fail) only [go_sem,seval,e3]
      · simp (disch:=first|exact zb|fail) only [go_sem,seval,e5]
      · simp (disch:=first|exact zb|fail) only [go_sem,seval,e6];rfl
      · simp (disch:=first|exact zb|fail) only [go_sem,seval,e7]
      · simp (disch:=first|exact zb|fail) only [go_sem,seval];rfl
      · simp (disch:=first|exact zb|fail) only [go_sem,seval]
    · intro env H' ⟨hB',hN,hn',hq',hc',ht',e0,e3,e5,e6,e7,e8,e9⟩
      obtain⟨k1,k2⟩:=zok (yf c)
      have k3:=zlen (yf c);have klo:=k1.lo;have khi:=k1.hi;have hzc:zhl c P=((zT c P (yf c)).o++[(addN (zT c P (yf c)).s (zT c P (yf c)).sum c ⟨0,1,-1,0⟩).1],(addN (zT c P (yf c)).s (zT c P (yf c)).sum c ⟨0,1,-1,0⟩).2):=rfl;rw [hzc] at hnx
      generalize zT c P (yf c)=Z at *
      refine .qt rfl ?_;simp (disch:=first|exact zb|fail) only [go_sem,seval,e7,e9];refine CallK.of (fun R h=>yM c hc _ R h) ?_;simp (disch:=first|exact zb|fail) only [go_sem,seval];refine .qF rfl ?_;refine .qt rfl ?_;simp (disch:=first|exact zb|fail) only [go_sem,seval,e0,e6,e7,e8];refine CallK.ex (yJ Z.sum c ⟨0,1,-1,0⟩ yF hB' k2 (by omega) (by omega)) ?_
      rintro _ H5 ⟨hB5,n5,rfl⟩
      generalize addN Z.s Z.sum c ⟨0,1,-1,0⟩=A at *
      have ht5:=(n5.f (H.n+2) (by omega) (by omega)).trans ht';have hq5:=(n5.f H.n (by omega) (by omega)).trans hq';have hc5:=(n5.f (H.n+1) (by omega) (by omega)).trans hc';have hn5:=n5.n.trans hn'
      have hpl:pl nI Z.o++[i64 (A.1:Nat)]=pl nI (Z.o++[A.1]):=by simp [pl,nI]
      have hll:(Z.o++[A.1]).length - 1=Z.o.length - 1+1:=by simp;omega
      simp (disch:=first|exact zb|fail) only [go_sem,seval,ht5,hpl];refine .qt rfl ?_;simp (disch:=first|exact zb|fail) only [go_sem,seval,e7];refine ih _ _ ⟨by rw [hnx];exact hB5.set _ (by omega) (by omega),(hN.trans n5.w).set _ (by omega),by rw [n_set',hn5],by rw [f_set_ne' (by omega)];exact hq5,by rw [f_set_ne' (by omega)];exact hc5,by rw [hnx,zo rfl (by omega),hll],?_,?_,?_,?_,?_⟩
      · simp (disch:=first|exact zb|fail) only [go_sem,seval,e0]
      · simp (disch:=first|exact zb|fail) only [go_sem,seval,e3]
      · simp (disch:=first|exact zb|fail) only [go_sem,seval,e5]
      · rw [hnx,hll];simp (disch:=first|exact zb|fail) only [go_sem,seval]
      · simp (disch:=first|exact zb|fail) only [go_sem,seval]
    · intro k env H' hk0 hk ⟨hB',hN,hn',hq',hc',ht',e0,e3,e5,e6,e7,e8,e9⟩ ihk
      obtain⟨k1,k2⟩:=zok k
      have k3:=zlen k;have klo:=k1.lo;have khi:=k1.hi;have hnk:zT c P (k+1)=zS c k (zT c P k):=rfl
      generalize zT c P k=Z at *
      obtain⟨x,hxd⟩ : ∃ x,x=zi c+k:=⟨_,rfl⟩
      have hcast:(zi c:Int)+(k:Int)=(x:Int):=by omega
      refine .qt rfl ?_;simp (disch:=first|exact zb|fail) only [go_sem,seval,e7,e9];refine CallK.of (fun R h=>yM c hc _ R h) ?_;simp (disch:=first|exact zb|fail) only [go_sem,seval];refine .qT rfl ?_;refine .qt rfl ?_;simp (disch:=first|exact zb|fail) only [go_sem,seval,e7,e9];refine CallK.of (fun R h=>zbv c hc _ R h) ?_;simp (disch:=first|exact zb|fail) only [go_sem,seval,e9,hcast];refine .qt rfl ?_;simp (disch:=first|exact zb|fail) only [go_sem,seval,e0,e5,e6,hc'];refine CallK.ex (yJ x x ⟨1,-1,0,0⟩ yF hB' (by omega) (by omega) (by omega)) ?_
      rintro _ H5 ⟨hB5,n5,rfl⟩
      have hzS:zS c k Z=if k=0 then ⟨Z.o++[(addN Z.s x x ⟨1,-1,0,0⟩).1],Z.sum,(addN Z.s x x ⟨1,-1,0,0⟩).2⟩ else ⟨Z.o++[(addN Z.s x x ⟨1,-1,0,0⟩).1],(addN (addN Z.s x x ⟨1,-1,0,0⟩).2 Z.sum x ⟨0,1,2 ^ k,0⟩).1,(addN (addN Z.s x x ⟨1,-1,0,0⟩).2 Z.sum x ⟨0,1,2 ^ k,0⟩).2⟩:=by rw [hxd];rfl
      rw [hzS] at hnk;have a1:=zbh Z.s x x ⟨1,-1,0,0⟩;have a2:=zb8 Z.s x x ⟨1,-1,0,0⟩
      generalize addN Z.s x x ⟨1,-1,0,0⟩=A at *
      have ht5:=(n5.f (H.n+2) (by omega) (by omega)).trans ht';have hq5:=(n5.f H.n (by omega) (by omega)).trans hq';have hc5:=(n5.f (H.n+1) (by omega) (by omega)).trans hc';have hn5:=n5.n.trans hn'
      have hpl:pl nI Z.o++[i64 (A.1:Nat)]=pl nI (Z.o++[A.1]):=by simp [pl,nI]
      have hll:(Z.o++[A.1]).length - 1=Z.o.length - 1+1:=by simp;omega
      simp (disch:=first|exact zb|fail) only [go_sem,seval,ht5,hpl];have hB6:=hB5.set (b:=H.n+2) (.tail (Z.o.length - 1+1)) (by omega) (by omega);have w6:RW bb al H (H5.set (H.n+2) (.tail (Z.o.length - 1+1))):=(hN.trans n5.w).set _ (by omega)
      have hn6:(H5.set (H.n+2) (.tail (Z.o.length - 1+1))).n=H.n+3:=by rw [n_set',hn5]
      have hq6:(H5.set (H.n+2) (.tail (Z.o.length - 1+1))).f H.n=some (.cells [.p (i64 q.kind),.p (i64 q.col),.p (i64 q.k),.p (.sl false 1 (pl yt q.fl))]):=by rw [f_set_ne' (by omega)];exact hq5
      have hc6:(H5.set (H.n+2) (.tail (Z.o.length - 1+1))).f (H.n+1)=some (.cells [.p (i64 1),.p (i64 (-1)),.p (i64 0),.p (i64 0)]):=by rw [f_set_ne' (by omega)];exact hc5
      have ht6:(H5.set (H.n+2) (.tail (Z.o.length - 1+1))).f (H.n+2)=some (.tail (Z.o.length - 1+1)):=zo rfl (by omega)
      generalize H5.set (H.n+2) (.tail (Z.o.length - 1+1))=H6 at *
      refine .qt rfl ?_;simp (disch:=first|exact zb|fail) only [go_sem,seval,e9]
      rcases Nat.eq_zero_or_pos k with hk | hk
      · rw [if_pos hk] at hnk;refine .qF rfl ?_;refine .skip ?_;refine .qt rfl ?_;simp (disch:=first|exact zb|fail) only [go_sem,seval,e9];refine ihk _ _ ⟨by rw [hnk];exact hB6,w6,hn6,hq6,hc6,by rw [hnk,hll];exact ht6,?_,?_,?_,?_,?_,?_,?_⟩
        · simp (disch:=first|exact zb|fail) only [go_sem,seval,e0]
        · simp (disch:=first|exact zb|fail) only [go_sem,seval,e3]
        · simp (disch:=first|exact zb|fail) only [go_sem,seval,e5]
        · rw [hnk,hll];simp (disch:=first|exact zb|fail) only [go_sem,seval]
        · simp (disch:=first|exact zb|fail) only [go_sem,seval,e7]
        · rw [hnk];simp (disch:=first|exact zb|fail) only [go_sem,seval,e8]
        · simp (disch:=first|exact zb|fail) only [go_sem,seval]
      · rw [if_neg (by omega)] at hnk;have hsh:=zE3 (P:=Tryz.prog) (t:=2) (k:=k) (by omega);have hp7:=zCw (k:=k) (by omega);refine .qT rfl ?_;refine .qt rfl ?_;simp (disch:=first|exact zb|fail) only [go_sem,seval,e0,e8,e9,hsh];refine CallK.ex (yJ Z.sum x ⟨0,1,2 ^ k,0⟩ (yF (by omega) (by omega) (by omega) (by omega)) hB6 (by omega) (by omega) (by omega)) ?_
        rintro _ H7 ⟨hB7,n7,rfl⟩
        generalize addN A.2 Z.sum x ⟨0,1,2 ^ k,0⟩=D at *
        have ht7:=(n7.f (H.n+2) (by omega) (by omega)).trans ht6;have hq7:=(n7.f H.n (by omega) (by omega)).trans hq6;have hc7:=(n7.f (H.n+1) (by omega) (by omega)).trans hc6;have hn7:=n7.n.trans hn6;simp (disch:=first|exact zb|fail) only [go_sem,seval];refine .qt rfl ?_;simp (disch:=first|exact zb|fail) only [go_sem,seval,e9];refine ihk _ _ ⟨by rw [hnk];exact hB7,w6.trans n7.w,hn7,hq7,hc7,by rw [hnk,hll];exact ht7,?_,?_,?_,?_,?_,?_,?_⟩
        · simp (disch:=first|exact zb|fail) only [go_sem,seval,e0]
        · simp (disch:=first|exact zb|fail) only [go_sem,seval,e3]
        · simp (disch:=first|exact zb|fail) only [go_sem,seval,e5]
        · rw [hnk,hll];simp (disch:=first|exact zb|fail) only [go_sem,seval]
        · simp (disch:=first|exact zb|fail) only [go_sem,seval,e7]
        · rw [hnk];simp (disch:=first|exact zb|fail) only [go_sem,seval]
        · simp (disch:=first|exact zb|fail) only [go_sem,seval]
end walks
end Go.Proofs.YthaoifcebimkfaaGreatDoor

namespace Go.Proofs.YthaoifcebimkfaaGreatDoor
open Go Go.AL

section walks
variable {G:Globs}
set_option maxHeartbeats 8000000 in
set_option maxRecDepth 20000 in
theorem zna (H:Hp):ACall Tryz.prog G 45 [] H (fun r H'=>r = .ptr H.n 0∧RB H' [] H.n (H.n+1)∧H'.n=H.n+2 ∧ ∀ b,b < H.n → H'.f b=H.f b):=by
 refine ACall.of_run (raw:=[]) Tryz.func45 rfl Tryz.ntmps45 (by simp) fun hbel => ?_
 refine .qt rfl ?_;simp (disch:=first|exact zb|fail) only [go_sem,seval];refine .qt rfl ?_;simp (disch:=first|exact zb|fail) only [go_sem,seval];refine .q ?_;refine .ownC H.n 0 (by simp (disch:=first|exact zb|fail) only [go_sem,seval];rfl) (by rfl) ?_;simp (disch:=first|exact zb|fail) only [go_sem,seval,List.set_cons_zero,List.set_cons_succ];refine .qt rfl ?_;simp (disch:=first|exact zb|fail) only [go_sem,seval];refine .q ?_;refine .count (fun i env H'=>env 1 = .ptr H.n 0∧env 2 = .p (i64 i)∧H'=(H.new (.cells [.sl (H.n+1) i 7 (pl rnd (List.replicate i default))])).new (.tail i)) 0 29 (by omega) ?_ ?_ ?_
 · refine⟨?_,?_,rfl⟩
   · simp (disch:=first|exact zb|fail) only [go_sem,seval]
   · simp (disch:=first|exact zb|fail) only [go_sem,seval]
 · rintro env H' ⟨e1,e2,rfl⟩
   refine .qt rfl ?_;simp (disch:=first|exact zb|fail) only [go_sem,seval,e2];refine CallK.of (fun R h=>zbN _ R h) ?_;simp (disch:=first|exact zb|fail) only [go_sem,seval];refine .qF rfl ?_;refine .qt rfl ?_;simp (disch:=first|exact zb|fail) only [go_sem,seval,e1];refine .q ?_;refine .retKeep Tryz.func45 (by rw [Tryz.results45]) (by simp (disch:=first|exact zb|fail) only [go_sem,seval];rfl) ?_;(try simp (disch:=first|exact zb|fail) only [go_sem,seval])
   refine⟨⟨?_,?_,Wf.nil,SmC.nil⟩,fun b hb => ?_⟩
   · rw [zc (by rw [n_new'];omega),zm rfl];rfl
   · rw [zm (by rw [n_new'])];rfl
   · rw [zc (by rw [n_new'];omega),zc (by omega)]
 · rintro i env H' hi0 hi ⟨e1,e2,rfl⟩ ih
   have hpl:pl rnd (List.replicate i default)++[rnd ⟨⟨0,0,0#64,0#64,0#64,0#64⟩,0⟩]=pl rnd (List.replicate (i+1) default):=by
    rw [List.replicate_succ',←ye];rfl
   have hrl:(List.replicate i (default:RNd)).length=i:=List.length_replicate;refine .qt rfl ?_;simp (disch:=first|exact zb|fail) only [go_sem,seval,e2];refine CallK.of (fun R h=>zbN _ R h) ?_;simp (disch:=first|exact zb|fail) only [go_sem,seval];refine .qT rfl ?_;refine .qt rfl ?_;simp (disch:=first|exact zb|fail) only [go_sem,seval,e1,hpl,hrl];refine .qt rfl ?_;simp (disch:=first|exact zb|fail) only [go_sem,seval,e2];refine ih _ _ ⟨?_,?_,?_⟩
   · simp (disch:=first|exact zb|fail) only [go_sem,seval,e1]
   · simp (disch:=first|exact zb|fail) only [go_sem,seval]
   · simp (disch:=first|exact zb|fail) only [go_sem,seval]
end walks
end Go.Proofs.YthaoifcebimkfaaGreatDoor

namespace Go.AL
open Go
section own
variable {C:Cx} {todo:List Item} {env:Env} {H:Hp} {R:AV → Hp → Prop}
theorem ARun.ownVs (b n:Nat) {sz:Nat} (hb:H.f b=some (.vec (List.replicate n (.p (.sl true sz [])))))
 (h:ARun C todo env (app (H.set b (.vec (ym (fun j => .sl (H.n+j) 0 sz []) n))) (List.replicate n (.tail 0))) R):ARun C todo env H R:=by
 have hlt:b < H.n:=Hp.lt hb
 have key : ∀ d m,m+d=n → ARun C todo env (app (H.set b (.vec (ym (fun j=>if j < m then .sl (H.n+j) 0 sz [] else .p (.sl true sz [])) n))) (List.replicate m (.tail 0))) R:=by
  intro d
  induction d with
  | zero =>
   intro m hm
   have:m=n:=by omega
   subst this
   have e:ym (fun j=>if j < m then AV.sl (H.n+j) 0 sz [] else .p (.sl true sz [])) m=ym (fun j => .sl (H.n+j) 0 sz []) m:=yO fun i hi=>by rw [if_pos hi]
   rw [e];exact h
  | succ d ih =>
   intro m hm
   have hn:(app (H.set b (.vec (ym (fun j=>if j < m then .sl (H.n+j) 0 sz [] else .p (.sl true sz [])) n))) (List.replicate m (.tail 0))).n=H.n+m:=by
    rw [app_n',n_set',List.length_replicate]
   refine .ownV b m (cs:=ym (fun j=>if j < m then .sl (H.n+j) 0 sz [] else .p (.sl true sz [])) n) (sz:=sz) ?_ ?_ ?_
   · rw [zcn (by rw [n_set'];exact hlt),zo rfl hlt];rfl
   · rw [zam (by omega),if_neg (by omega)]
   · rw [hn,zv,zjR (by rw [n_set'];exact hlt),set_set',zdv]
     have:=ih (m+1) (by omega)
     rw [List.replicate_succ'] at this
     have e:ym (fun j=>if j=m then AV.sl (H.n+m) 0 sz [] else if j < m then .sl (H.n+j) 0 sz [] else .p (.sl true sz [])) n=ym (fun j=>if j < m+1 then .sl (H.n+j) 0 sz [] else .p (.sl true sz [])) n:=yO fun i hi=>by
      by_cases e1:i=m
      · rw [if_pos e1,if_pos (by omega),e1]
      · by_cases e2:i < m
        · rw [if_neg e1,if_pos e2,if_pos (by omega)]
        · rw [if_neg e1,if_neg e2,if_neg (by omega)]
     rw [e];exact this
 have:=key n 0 (by omega)
 have e:ym (fun j=>if j < 0 then AV.sl (H.n+j) 0 sz [] else .p (.sl true sz [])) n=List.replicate n (.p (.sl true sz [])):=by
  apply List.ext_getElem?;intro i;by_cases hi:i < n
  · rw [zam hi,if_neg (by omega),List.getElem?_replicate,if_pos hi]
  · rw [List.getElem?_eq_none (by rw [zan];omega),List.getElem?_eq_none (by rw [List.length_replicate];omega)]
 rw [e,Hp.set_same _ _ _ hb] at this;exact this
theorem ARun.weakV (b:Nat) {cs:List AV} (hb:(H.f b).bind AB.vec? = some cs) (h:ARun C todo env (H.set b (.vec (cs.map AV.weak))) R):ARun C todo env H R :=
 .ghost (fun σ w a m hpre=>by
  obtain⟨k0,hk⟩:=vec?_inv hb
  obtain⟨hkl,hnone,hcells⟩:=hpre.rel.vec b k0 cs hk
  obtain⟨r2,e2⟩:=zaf (G:=C.G) hpre.rel hk (w':=w) (Nat.le_refl _) (fun _ _ _=>rfl) (fun _ _ _ _ _ _ _ h=>h) rfl rfl (cs.map AV.weak).length (some (cs.map AV.weak)) (σ.t b)
   ⟨by rw [List.length_map];omega,fun _=>rfl⟩ (fun g o' s hh=>⟨.inr ⟨o',hh,Nat.le_refl _⟩,hpre.rel.tail b k0 _ g o' s hk hh⟩) (fun ds hd=>by
    cases hd
    refine⟨rfl,fun hh=>by rw [hnone hh];rfl,fun g o' s hh => ?_⟩
    obtain⟨p0,p1,p2⟩:=hcells g o' s hh
    refine⟨p0,by rw [List.length_map];exact p1,fun i x hx => ?_⟩
    rw [List.getElem?_map] at hx
    cases hy:cs[i]? with
    | none=>rw [hy] at hx;cases hx
    | some y =>
     rw [hy] at hx;cases hx
     obtain⟨v,hv,hrc⟩:=p2 i y hy
     exact⟨v,hv,hrc.1.weak,hrc.2⟩)
  exact⟨_,r2,fun i=>(hpre.fr.slot i).mono e2,e2⟩) h
end own
end Go.AL
namespace Go.Proofs.YthaoifcebimkfaaGreatDoor
open Go Go.AL
def atI (st:LS) (i k:Nat):Int:=match zL (i,k) st.at' with | some j=>j | none => -1
def atR (st:LS) (d i:Nat):List AV:=ym (fun k => .p (i64 (atI st i k))) (d+1)
structure EH (H:Hp) (s:List Nd) (d eb A L r0 t0:Nat) (X:AV) (st:LS):Prop where
 em:H.f eb=some (.cells [X,.vr A (29+s.length) 1,.vr L d 1])
 ats:H.f A=some (.vec (ym (fun i => .vr (r0+2*i) (d+1) 1) (29+s.length)))
 rows : ∀ i,i < 29+s.length → H.f (r0+2*i)=some (.vec (atR st d i))
 lay:H.f L=some (.vec (zar t0 st.ls d))
 tl : ∀ k,k < d → H.f (t0+k)=some (.tail (nth st.ls k).length)
 ord:eb < A∧A < L∧L < r0∧r0+2*(29+s.length)≤t0
structure EN (H H':Hp) (m d L r0 t0:Nat):Prop where
 n:H.n≤H'.n
 f : ∀ b,b < H.n → b≠L → (∀ i,i < m → b≠r0+2*i) → ¬ (t0≤b∧b < t0+d) → H'.f b=H.f b
theorem EN.refl {H:Hp} {m d L r0 t0:Nat}:EN H H m d L r0 t0:=⟨Nat.le_refl _,fun _ _ _ _ _=>rfl⟩
theorem EN.trans {H H1 H2:Hp} {m d L r0 t0:Nat} (h:EN H H1 m d L r0 t0) (h':EN H1 H2 m d L r0 t0):EN H H2 m d L r0 t0 :=
 ⟨Nat.le_trans h.n h'.n,fun b b1 b2 b3 b4=>(h'.f b (Nat.lt_of_lt_of_le b1 h.n) b2 b3 b4).trans (h.f b b1 b2 b3 b4)⟩
theorem EN.new {H:Hp} {m d L r0 t0:Nat} (x:AB):EN H (H.new x) m d L r0 t0:=⟨by rw [n_new'];omega,fun b hb _ _ _=>zc (by omega)⟩
theorem EN.set {H H':Hp} {m d L r0 t0 b:Nat} (h:EN H H' m d L r0 t0) (x:AB) (hb:b=L ∨ (∃ i,i < m∧b=r0+2*i) ∨ (t0≤b∧b < t0+d) ∨ H.n≤b):EN H (H'.set b x) m d L r0 t0 :=
 ⟨by rw [n_set'];exact h.n,fun c c1 c2 c3 c4=>by
  rw [f_set_ne' (by rintro rfl;rcases hb with hb | hb | hb | hb;exact c2 hb;exact (hb.elim fun i hi=>c3 i hi.1 hi.2);exact c4 hb;omega)]
  exact h.f c c1 c2 c3 c4⟩
theorem EN.trunc {H H':Hp} {m d L r0 t0:Nat} (h:EN H H' m d L r0 t0):EN H (H'.trunc H.n) m d L r0 t0 :=
 ⟨Nat.le_refl _,fun b b1 b2 b3 b4=>by rw [Hp.f_trunc,if_pos b1];exact h.f b b1 b2 b3 b4⟩
section EH
variable {H:Hp} {s:List Nd} {d eb A L r0 t0:Nat} {X:AV} {st:LS}
theorem EH.lt (h:EH H s d eb A L r0 t0 X st):eb < H.n∧A < H.n∧L < H.n∧r0+2*(28+s.length) < H.n:=by
 have h1:=Hp.lt h.em;have h2:=Hp.lt h.ats;have h3:=Hp.lt h.lay;have h4:=Hp.lt (h.rows (28+s.length) (by omega));omega
theorem EH.alN (h:EH H s d eb A L r0 t0 X st) (hd:0 < d):t0+d≤H.n:=by have:=Hp.lt (h.tl (d - 1) (by omega));omega
theorem EH.new (h:EH H s d eb A L r0 t0 X st) (x:AB):EH (H.new x) s d eb A L r0 t0 X st:=by
 have hl:=h.lt
 exact⟨by rw [zc (by omega)];exact h.em,by rw [zc (by omega)];exact h.ats,fun i hi=>by have:=Hp.lt (h.rows i hi);rw [zc (by omega)];exact h.rows i hi,by rw [zc (by omega)];exact h.lay,
  fun k hk=>by have:=Hp.lt (h.tl k hk);rw [zc (by omega)];exact h.tl k hk,h.ord⟩
theorem EH.set (h:EH H s d eb A L r0 t0 X st) {b:Nat} (x:AB) (hb:t0≤b) (hb2 : ¬ (t0≤b∧b < t0+d)):EH (H.set b x) s d eb A L r0 t0 X st:=by
 have ho:=h.ord
 exact⟨by rw [f_set_ne' (by omega)];exact h.em,by rw [f_set_ne' (by omega)];exact h.ats,fun i hi=>by rw [f_set_ne' (by omega)];exact h.rows i hi,by rw [f_set_ne' (by omega)];exact h.lay,
  fun k hk=>by rw [f_set_ne' (by omega)];exact h.tl k hk,h.ord⟩
theorem EH.trunc (h:EH H s d eb A L r0 t0 X st) {n:Nat} (h2:t0+d≤n):EH (H.trunc n) s d eb A L r0 t0 X st:=by
 have ho:=h.ord
 exact⟨by rw [Hp.f_trunc,if_pos (by omega)];exact h.em,by rw [Hp.f_trunc,if_pos (by omega)];exact h.ats,fun i hi=>by rw [Hp.f_trunc,if_pos (by omega)];exact h.rows i hi,by rw [Hp.f_trunc,if_pos (by omega)];exact h.lay,
  fun k hk=>by rw [Hp.f_trunc,if_pos (by omega)];exact h.tl k hk,h.ord⟩
theorem EH.bel {H':Hp} {n:Nat} (h:EH H' s d eb A L r0 t0 X st) (hb:Bel n H) (hn:t0+d≤n) (hf : ∀ b,b < n → b≠L → (∀ i,i < 29+s.length → b≠r0+2*i) → ¬ (t0≤b∧b < t0+d) → H'.f b=H.f b):Bel n H':=fun b x hbn hx y hy=>by
 by_cases e1:b=L
 · subst e1;rw [h.lay] at hx;cases hx;simp only [AB.vals,zar,ym,Option.getD_some,List.mem_map,List.mem_range] at hy
   obtain⟨k,hk,rfl⟩:=hy
   exact .sl _ _ _ _ (by omega)
 · by_cases e2 : ∃ i,i < 29+s.length∧b=r0+2*i
   · obtain⟨i,hi,rfl⟩:=e2
     rw [h.rows i hi] at hx;cases hx;simp only [AB.vals,atR,ym,Option.getD_some,List.mem_map,List.mem_range] at hy
     obtain⟨k,hk,rfl⟩:=hy
     exact .p _
   · by_cases e3:t0≤b∧b < t0+d
     · have:=h.tl (b - t0) (by omega)
       rw [show t0+(b - t0)=b by omega,hx] at this
       cases this
       cases hy
     · rw [hf b hbn e1 (fun i hi e=>e2 ⟨i,hi,e⟩) e3] at hx;exact hb b x hbn hx y hy
end EH
theorem zhJ {n k i j:Nat} {g:Gate} {st:LS}:atI (zae n k g st).2 i j=if (n,k+1)=(i,j) then ((nth st.ls k).length:Int) else atI st i j:=by
 unfold atI
 show (match zL (i,j) (zbG (n,k+1) (nth st.ls k).length st.at') with | some j=>(j:Int) | none => -1)=_
 rw [y5]
 by_cases e:(n,k+1)=(i,j)
 · rw [if_pos e,if_pos e]
 · rw [if_neg e,if_neg e]
theorem zCx {n k d:Nat} {g:Gate} {st:LS} (hk:k < d):(atR st d n).set (k+1) (.p (i64 ((nth st.ls k).length:Nat)))=atR (zae n k g st).2 d n:=by
 unfold atR;rw [zdv]
 refine yO fun j hj => ?_
 rw [zhJ];by_cases e:j=k+1
 · subst e;rw [if_pos rfl,if_pos rfl]
 · rw [if_neg e,if_neg (fun h=>e (by simp only [Prod.mk.injEq] at h;omega))]
theorem zD9 {n k d i:Nat} {g:Gate} {st:LS} (h:i≠n):atR (zae n k g st).2 d i=atR st d i:=by
 unfold atR
 refine yO fun j hj => ?_
 rw [zhJ,if_neg (fun e=>h (by simp only [Prod.mk.injEq] at e;omega))]
end Go.Proofs.YthaoifcebimkfaaGreatDoor

namespace Go.Proofs.YthaoifcebimkfaaGreatDoor
open Go Go.AL

section walks
variable {G:Globs}
set_option maxHeartbeats 16000000 in
set_option maxRecDepth 20000 in
theorem zql {s:List Nd} {d eb A L r0 t0:Nat} (hw:Wf s) (hC:SmC s) (hlen:s.length≤1000) (hd:d≤1000) (hd0:0 < d) :
 ∀ k n st H,EH H s d eb A L r0 t0 (.p (.sl false 7 (pl rnd (rN s)))) st → LOk s [] d st → Cov s d st → k≤d → n < 29+s.length → lev s n≤k →
  ACall Tryz.prog G 48 [.ptr eb 0,.p (i64 n),.p (i64 k)] H (fun r H'=>r = .p (i64 ((need s k n st).1:Nat))∧EH H' s d eb A L r0 t0 (.p (.sl false 7 (pl rnd (rN s)))) (need s k n st).2∧EN H H' (29+s.length) d L r0 t0∧H'.n=H.n):=by
 intro k
 induction k with
 | zero =>
  intro n st H hL hO hV hk hn hl
  refine ACall.of_run (raw:=[]) Tryz.func48 rfl Tryz.ntmps48 (by simp) fun hbel => ?_
  refine .qt rfl ?_;simp (disch:=first|exact zb|fail) only [go_sem,seval];refine .qt rfl ?_;simp (disch:=first|exact zb|fail) only [go_sem,seval];refine .qT rfl ?_;refine .qt rfl ?_;simp (disch:=first|exact zb|fail) only [go_sem,seval];refine .q ?_;refine .retKeep Tryz.func48 (by rw [Tryz.results48]) (by simp (disch:=first|exact zb|fail) only [go_sem,seval];rfl) ?_;(try simp (disch:=first|exact zb|fail) only [go_sem,seval])
  exact⟨rfl,hL,.refl⟩
 | succ k ihk =>
  intro n st H hL hO hV hk hn hl
  obtain⟨kk,hkk⟩ : ∃ kk,kk=k+1:=⟨_,rfl⟩
  rw [←hkk] at hk hl ⊢
  have hk0:0 < kk:=by omega
  have hsub:(kk:Int) - 1=(k:Nat):=by omega
  obtain⟨l1,l2,l3,l4⟩:=hL.lt
  obtain⟨o1,o2,o3,o4⟩:=hL.ord
  have hal:=hL.alN hd0;have hrl:=zkr s;have hta:(ym (fun i=>AV.vr (r0+2*i) (d+1) 1) (29+s.length))[n]? = some (.vr (r0+2*n) (d+1) 1):=zam hn;have hla:(ym (fun i=>AV.vr (r0+2*i) (d+1) 1) (29+s.length)).length=29+s.length:=zan
  have har : ∀ st:LS,(atR st d n)[kk]? = some (.p (i64 (atI st n kk))):=fun st=>zam (by omega)
  have hlr : ∀ st:LS,(atR st d n).length=d+1:=fun st=>zan
  have hro:=hL.rows n hn
  refine ACall.of_run (raw:=[]) Tryz.func48 rfl Tryz.ntmps48 (by simp) fun hbel => ?_
  refine .qt rfl ?_;simp (disch:=first|exact zb|fail) only [go_sem,seval];refine .qt rfl ?_;simp (disch:=first|exact zb|fail) only [go_sem,seval];refine .qF rfl ?_;refine .skip ?_;refine .qt rfl ?_;simp (disch:=first|exact zb|fail) only [go_sem,seval,hL.em,hL.ats,hta,hla,hro,har,hlr]
  cases ha:zL (n,kk) st.at' with
  | some i =>
   have hai:atI st n kk=i:=by unfold atI;rw [ha]
   have hne:need s kk n st=(i,st):=by rw [hkk,zaJ,←hkk,ha]
   rw [hne,hai];refine .qT rfl ?_;refine .qt rfl ?_;simp (disch:=first|exact zb|fail) only [go_sem,seval,hL.em,hL.ats,hta,hla,hro,har,hlr,hai];refine .q ?_;refine .retKeep Tryz.func48 (by rw [Tryz.results48]) (by simp (disch:=first|exact zb|fail) only [go_sem,seval];rfl) ?_;(try simp (disch:=first|exact zb|fail) only [go_sem,seval])
   exact⟨hL,.refl⟩
  | none =>
   have hai:atI st n kk = -1:=by unfold atI;rw [ha]
   have hlv:=zbB hw n hn;have hnlv:=zry hn;rw [hai];refine .qF rfl ?_;refine .skip ?_;refine .qt rfl ?_;simp (disch:=first|exact zb|fail) only [go_sem,seval];refine .qt rfl ?_;simp (disch:=first|exact zb|fail) only [go_sem,seval,hL.em,hrl,hnlv]
   obtain⟨X,hX⟩ : ∃ X,X=H.new (.cells [.p (i64 0),.p (i64 0),.p (zh 0#64),.p (zh 1#64),.p (zh 0#64),.p (zh 0#64)]):=⟨_,rfl⟩
   have x1:X.f H.n=some (.cells [.p (i64 0),.p (i64 0),.p (zh 0#64),.p (zh 1#64),.p (zh 0#64),.p (zh 0#64)]):=by rw [hX,zm rfl]
   have xn:X.n=H.n+1:=by rw [hX,n_new']
   have xL:EN H X (29+s.length) d L r0 t0:=by rw [hX];exact .new _
   have hL2:EH X s d eb A L r0 t0 (.p (.sl false 7 (pl rnd (rN s)))) st:=by rw [hX];exact hL.new _
   rw [←hX]
   have hfr : ∀ {X1:Hp},EN X X1 (29+s.length) d L r0 t0 → X1.f H.n=X.f H.n:=fun h1=>h1.f _ (by omega) (by omega) (fun i hi=>by omega) (by omega)
   refine .q ?_;refine .ifJ (fun env2 H2 => ∃ g st1,env2 0 = .ptr eb 0∧env2 1 = .p (i64 n)∧env2 2 = .p (i64 kk)∧env2 7 = .ptr H.n 0∧H2.f H.n=some (.cells [.p (i64 g.l),.p (i64 g.r),.p (zh g.c),.p (zh g.a),.p (zh g.b),.p (zh g.d)])∧H2.n=H.n+1∧EN H H2 (29+s.length) d L r0 t0∧EH H2 s d eb A L r0 t0 (.p (.sl false 7 (pl rnd (rN s)))) st1∧Cov s d st1∧zL (n,kk) st1.at'=none∧need s kk n st=zae n k g st1) (by simp (disch:=first|exact zb|fail) only [go_sem,seval];rfl) (fun hc ih => ?_) (fun hc ih => ?_) ?_
   · have hlt:lev s n < kk:=by
      rw [decide_eq_true_iff] at hc;omega
     refine .qt rfl ?_;simp (disch:=first|exact zb|fail) only [go_sem,seval,hsub];refine CallK.ex (ihk n st X hL2 hO hV (by omega) hn (by omega)) ?_
     rintro _ X1 ⟨rfl,hL3,hN3,hn3⟩
     have y1:=(hfr hN3).trans x1
     obtain⟨v1,v2⟩:=zaA hw k n st hV (by omega) hn
     have hbd:=zbg hw hC.fv zcx k n st hO (by omega) hn (by omega)
     have hneed:need s kk n st=zae n k ⟨(need s k n st).1,(need s k n st).1,0,1,0,0⟩ (need s k n st).2:=by rw [hkk,zaJ,←hkk,ha];simp only;rw [if_pos hlt]
     generalize need s k n st=z at *
     simp (disch:=first|exact zb|fail) only [go_sem,seval,y1];refine .qt rfl ?_;simp (disch:=first|exact zb|fail) only [go_sem,seval,y1];refine ih _ _ ⟨⟨z.1,z.1,0,1,0,0⟩,z.2,?_,?_,?_,?_,?_,?_,(xL.trans hN3).set _ (by omega),hL3.set _ (by omega) (by omega),v1,?_,hneed⟩
     · simp (disch:=first|exact zb|fail) only [go_sem,seval]
     · simp (disch:=first|exact zb|fail) only [go_sem,seval]
     · simp (disch:=first|exact zb|fail) only [go_sem,seval]
     · simp (disch:=first|exact zb|fail) only [go_sem,seval]
     · rw [zo rfl (by omega)];rfl
     · rw [n_set',hn3,xn]
     · have:=v2 n k (Nat.le_refl _)
       rw [hkk] at ha ⊢;rw [this];exact ha
   · have hge : ¬ lev s n < kk:=by
      rw [decide_eq_false_iff_not] at hc;omega
     have h29 : ¬ n < 29:=fun h'=>by rw [zfs n h'] at hge;omega
     obtain⟨j,hnj⟩ : ∃ j,n=29+j:=⟨n - 29,by omega⟩
     have hj:j < s.length:=by omega
     obtain⟨p1,p2⟩:=hw.op j hj
     have hlvj:=hw.lv j hj
     have hle:(nth s j).lv≤kk:=by
      have e:lev s n=(nth s j).lv:=by unfold lev;rw [if_neg h29,hnj,Nat.add_sub_cancel_left]
      rw [←e];exact hl
     have hr:nth (rN s) n=rOf (nth s j):=by rw [hnj];exact zz5 hj
     have hr1:(rOf (nth s j)).g=⟨((nth s j).l:Nat),((nth s j).r:Nat),fi (nth s j).k.c,fi (nth s j).k.a,fi (nth s j).k.b,fi (nth s j).k.d⟩:=rfl
     have hneed:need s kk n st=zae n k ⟨(need s k (nth s j).l st).1,(need s k (nth s j).r (need s k (nth s j).l st).2).1,fi (nth s j).k.c,fi (nth s j).k.a,fi (nth s j).k.b,fi (nth s j).k.d⟩ (need s k (nth s j).r (need s k (nth s j).l st).2).2:=by
      rw [hkk,zaJ,←hkk,ha];simp only;rw [if_neg hge,hnj,Nat.add_sub_cancel_left]
     obtain⟨v1,v2⟩:=zaA hw k (nth s j).l st hV (by omega) (by omega)
     obtain⟨q1,q2,q3,q4,q5⟩:=zbg hw hC.fv zcx k (nth s j).l st hO (by omega) (by omega) (by omega)
     refine .qt rfl ?_;simp (disch:=first|exact zb|fail) only [go_sem,seval,hL2.em,hrl,x1,hr,hr1];have hL2':=hL2.set (b:=H.n) (.cells [.p (i64 ((nth s j).l:Nat)),.p (i64 ((nth s j).r:Nat)),.p (zh (fi (nth s j).k.c)),.p (zh (fi (nth s j).k.a)),.p (zh (fi (nth s j).k.b)),.p (zh (fi (nth s j).k.d))]) (by omega) (by omega);refine .qt rfl ?_;simp (disch:=first|exact zb|fail) only [go_sem,seval,hL2'.em,hrl,hr,hr1,hsub];refine CallK.ex (ihk (nth s j).l st _ hL2' hO hV (by omega) (by omega) (by omega)) ?_
     rintro _ X1 ⟨rfl,hL3,hN3,hn3⟩
     have y0:=(hN3.f H.n (by rw [n_set'];omega) (by omega) (fun i hi=>by omega) (by omega)).trans (zo rfl (by omega));rw [n_set'] at hn3;have hN3':=(xL.set (b:=H.n) (.cells [.p (i64 ((nth s j).l:Nat)),.p (i64 ((nth s j).r:Nat)),.p (zh (fi (nth s j).k.c)),.p (zh (fi (nth s j).k.a)),.p (zh (fi (nth s j).k.b)),.p (zh (fi (nth s j).k.d))]) (by omega)).trans hN3;have v2':=v2 n k (Nat.le_refl _)
     generalize need s k (nth s j).l st=z at *
     obtain⟨w1,w2⟩:=zaA hw k (nth s j).r z.2 v1 (by omega) (by omega)
     obtain⟨r1,r2,r3,r4,r5⟩:=zbg hw hC.fv zcx k (nth s j).r z.2 q1 (by omega) (by omega) (by omega)
     simp (disch:=first|exact zb|fail) only [go_sem,seval,y0];have hL3':=hL3.set (b:=H.n) (.cells [.p (i64 (z.1:Nat)),.p (i64 ((nth s j).r:Nat)),.p (zh (fi (nth s j).k.c)),.p (zh (fi (nth s j).k.a)),.p (zh (fi (nth s j).k.b)),.p (zh (fi (nth s j).k.d))]) (by omega) (by omega);have hN3'':=hN3'.set (b:=H.n) (.cells [.p (i64 (z.1:Nat)),.p (i64 ((nth s j).r:Nat)),.p (zh (fi (nth s j).k.c)),.p (zh (fi (nth s j).k.a)),.p (zh (fi (nth s j).k.b)),.p (zh (fi (nth s j).k.d))]) (by omega);refine .qt rfl ?_;simp (disch:=first|exact zb|fail) only [go_sem,seval,hL3'.em,hrl,hr,hr1,hsub];refine CallK.ex (ihk (nth s j).r z.2 _ hL3' q1 v1 (by omega) (by omega) (by omega)) ?_
     rintro _ X2 ⟨rfl,hL4,hN4,hn4⟩
     have u0:=(hN4.f H.n (by rw [n_set'];omega) (by omega) (fun i hi=>by omega) (by omega)).trans (zo rfl (by omega));rw [n_set'] at hn4;have w2':=w2 n k (Nat.le_refl _)
     generalize need s k (nth s j).r z.2=zz at *
     simp (disch:=first|exact zb|fail) only [go_sem,seval,u0];refine ih _ _ ⟨⟨z.1,zz.1,fi (nth s j).k.c,fi (nth s j).k.a,fi (nth s j).k.b,fi (nth s j).k.d⟩,zz.2,?_,?_,?_,?_,?_,?_,(hN3''.trans hN4).set _ (by omega),hL4.set _ (by omega) (by omega),w1,?_,hneed⟩
     · simp (disch:=first|exact zb|fail) only [go_sem,seval]
     · simp (disch:=first|exact zb|fail) only [go_sem,seval]
     · simp (disch:=first|exact zb|fail) only [go_sem,seval]
     · simp (disch:=first|exact zb|fail) only [go_sem,seval]
     · rw [zo rfl (by omega)]
     · rw [n_set',hn4,hn3,xn]
     · rw [hkk] at ha ⊢;rw [w2',v2'];exact ha
   rintro env H2 ⟨g,st1,e0,e1,e2,e7,y1,hn2,hN2,hLL,hV2,ha2,hneed⟩
   obtain⟨Lc,hLd⟩ : ∃ L,L=(nth st1.ls k).length:=⟨_,rfl⟩
   have hLle:Lc≤1029:=by rw [hLd];have:=hV2.le k;omega
   have htk:(zar t0 st1.ls d)[k]? = some (.sl (t0+k) Lc 6 (pl zG (nth st1.ls k))):=by rw [hLd];exact zam (by omega)
   have htl:=hLL.tl k (by omega);rw [←hLd] at htl;have hLd':=hLd.symm;have hl2:=hLL.lt;have hal2:=hLL.alN hd0;have hro2:=hLL.rows n hn;have hwl:(zar t0 st1.ls d).length=d:=zan;refine .q ?_;refine .open [18] follows (by kernel_rfl) ?_;simp (disch:=first|exact zb|fail) only [go_sem,seval,e0,e1,e2,hLL.em,hLL.ats,hta,hla,hro2,hlr,hLL.lay,htk,hwl,hsub,hLd']
   obtain⟨Y,hY⟩ : ∃ Y,Y=H2.set (r0+2*n) (.vec ((atR st1 d n).set kk (.p (i64 Lc)))):=⟨_,rfl⟩
   rw [←hY]
   have ze:Y.f eb=some (.cells [.p (.sl false 7 (pl rnd (rN s))),.vr A (29+s.length) 1,.vr L d 1]):=by rw [hY,f_set_ne' (by omega)];exact hLL.em
   have zA:Y.f A=some (.vec (ym (fun i => .vr (r0+2*i) (d+1) 1) (29+s.length))):=by rw [hY,f_set_ne' (by omega)];exact hLL.ats
   have zr:Y.f L=some (.vec (zar t0 st1.ls d)):=by rw [hY,f_set_ne' (by omega)];exact hLL.lay
   have zt:Y.f (t0+k)=some (.tail Lc):=by rw [hY,f_set_ne' (by omega)];exact htl
   have z1:Y.f H.n=some (.cells [.p (i64 g.l),.p (i64 g.r),.p (zh g.c),.p (zh g.a),.p (zh g.b),.p (zh g.d)]):=by rw [hY,f_set_ne' (by omega)];exact y1
   have zn:Y.n=H.n+1:=by rw [hY,n_set',hn2]
   have hJ0:Y.f eb=some (.cells [.p (.sl false 7 (pl rnd (rN s))),.vr A (29+s.length) 1,.vr L d 1])∧Y.f L=some (.vec (zar t0 st1.ls d))∧Y.f H.n=some (.cells [.p (i64 g.l),.p (i64 g.r),.p (zh g.c),.p (zh g.a),.p (zh g.b),.p (zh g.d)]):=⟨ze,zr,z1⟩
   refine .q ?_;refine .openJ (E := ?E1) (fun H'=>H'.f eb=some (.cells [.p (.sl false 7 (pl rnd (rN s))),.vr A (29+s.length) 1,.vr L d 1])∧H'.f L=some (.vec (zar t0 st1.ls d))∧H'.f H.n=some (.cells [.p (i64 g.l),.p (i64 g.r),.p (zh g.c),.p (zh g.a),.p (zh g.b),.p (zh g.d)])) [0,1,2,3,4,5,6,7,8,9,10,11,12,13,14,15] [] [16,17,18] [true,false,false] follows (by kernel_rfl) (by first | exact rfl | assumption | simp (disch:=first|exact zb|fail) only [go_sem,seval]) (fun H2 hJ => ?hP1) ?_;(case hP1=>((try dsimp only at hJ);simp (disch:=first|exact zb|fail) only [go_sem,seval,e0,e2,e7,ze,zr,htk,zt,z1,hsub,hwl,hLd',hJ];(try exact rfl)));simp (disch:=first|exact zb|fail) only [go_sem,seval,e0,e2,e7,ze,zr,htk,zt,z1,hsub,hwl,hLd']
   have hkl:k < st1.ls.length:=by rw [hV2.len];omega
   have hls:(zae n k g st1).2.ls=st1.ls.set k (nth st1.ls k++[g]):=rfl
   have hZ:EH ((Y.set (t0+k) (.tail (Lc+1))).set L (.vec ((zar t0 st1.ls d).set k (.sl (t0+k) (Lc+1) 6 (pl zG (nth st1.ls k++[g])))))) s d eb A L r0 t0 (.p (.sl false 7 (pl rnd (rN s)))) (zae n k g st1).2:=by
    refine⟨?_,?_,fun i hi => ?_,?_,fun j hj => ?_,hLL.ord⟩
    · rw [f_set_ne' (by omega),f_set_ne' (by omega)];exact ze
    · rw [f_set_ne' (by omega),f_set_ne' (by omega)];exact zA
    · rw [f_set_ne' (by omega),f_set_ne' (by omega),hY];by_cases e:i=n
      · subst e;rw [zo rfl (by omega),hLd,hkk,zCx (by omega)]
      · rw [f_set_ne' (by omega),zD9 e];exact hLL.rows i hi
    · rw [zo rfl (by rw [n_set'];omega)];unfold zar;rw [zdv]
      congr 2
      refine yO fun j hj => ?_
      by_cases e:j=k
      · subst e;rw [if_pos rfl,hls,zfu hkl,List.length_append,←hLd];rfl
      · rw [if_neg e,hls,put_ne e]
    · rw [f_set_ne' (by omega)];by_cases e:j=k
      · subst e;rw [zo rfl (by omega),hls,zfu hkl,List.length_append,←hLd];rfl
      · rw [f_set_ne' (by omega),hls,put_ne e,hY,f_set_ne' (by omega)];exact hLL.tl j hj
   have hNZ:EN H ((Y.set (t0+k) (.tail (Lc+1))).set L (.vec ((zar t0 st1.ls d).set k (.sl (t0+k) (Lc+1) 6 (pl zG (nth st1.ls k++[g])))))) (29+s.length) d L r0 t0:=by
    rw [hY];exact ((hN2.set _ (Or.inr (Or.inl ⟨n,hn,rfl⟩))).set _ (by omega)).set _ (by omega)
   have hai2:atI (zae n k g st1).2 n kk=Lc:=by rw [zhJ,if_pos (by rw [hkk]),hLd]
   have hro3:=hZ.rows n hn;have hem:=hZ.em;have hat:=hZ.ats
   generalize (Y.set (t0+k) (.tail (Lc+1))).set L (.vec ((zar t0 st1.ls d).set k (.sl (t0+k) (Lc+1) 6 (pl zG (nth st1.ls k++[g])))))=Z at *
   have hbel:Bel H.n Z:=hZ.bel hbel hal hNZ.f;refine .qt rfl ?_;simp (disch:=first|exact zb|fail) only [go_sem,seval,e0,e1,e2,hem,hat,hta,hla,hro3,har,hlr,hai2];refine .qr rfl Tryz.func48 (by rw [Tryz.results48]) ?_;simp (disch:=first|exact zb|fail) only [go_sem,seval];rw [hneed]
   refine⟨?_,hZ.trunc (by omega),hNZ.trunc,rfl⟩
   show _=AV.p (i64 ((nth st1.ls k).length:Nat))
   rw [hLd']
end walks
end Go.Proofs.YthaoifcebimkfaaGreatDoor

namespace Go.Proofs.YthaoifcebimkfaaGreatDoor
open Go Go.AL

theorem zbw {α:Type} [Inhabited α] {P:α → Bool} {l:List α} {i:Nat} (h : ∀ j,j < i → P (nth l j)=true) (h1:P (nth l i)=true) : ∀ j,j < i+1 → P (nth l j)=true:=fun j hj=>by
 by_cases e:j=i
 · rw [e];exact h1
 · exact h j (by omega)
section walks
variable {G:Globs}
theorem zda (k:Int) (hk:okI k) (H:Hp) (R:AV → Hp → Prop) (h:R (.p (bo (zb3 k))) H):ACall Tryz.prog G 96 [.p (i64 k)] H R:=by
 refine ACall.of_run (raw:=[]) Tryz.func96 rfl Tryz.ntmps96 (by simp) fun hbel => ?_
 refine .qt rfl ?_;simp (disch:=first|exact zb|fail) only [go_sem,seval]
 rcases Classical.em (2≤k) with a | a
 · have hv:zb3 k=decide (k≤6):=by simp [zb3,a]
   rw [hv] at h;refine .qt rfl ?_;simp (disch:=first|exact zb|fail) only [go_sem,seval];refine .qr rfl Tryz.func96 (by rw [Tryz.results96]) ?_;simp (disch:=first|exact zb|fail) only [go_sem,seval];exact h
 · have hv:zb3 k=false:=by simp [zb3,a]
   rw [hv] at h;refine .qt rfl ?_;simp (disch:=first|exact zb|fail) only [go_sem,seval];refine .qr rfl Tryz.func96 (by rw [Tryz.results96]) ?_;simp (disch:=first|exact zb|fail) only [go_sem,seval];exact h
theorem y9 (k:Int) (hk:okI k) (H:Hp) (R:AV → Hp → Prop) (h:R (.p (i64 (yw k))) H):ACall Tryz.prog G 97 [.p (i64 k)] H R:=by
 refine ACall.of_run (raw:=[]) Tryz.func97 rfl Tryz.ntmps97 (by simp) fun hbel => ?_
 refine .qt rfl ?_;simp (disch:=first|exact zb|fail) only [go_sem,seval];unfold yw at h
 rcases Classical.em (k=3) with a | a
 · rw [if_pos a] at h;refine .qt rfl ?_;simp (disch:=first|exact zb|fail) only [go_sem,seval];refine .qT rfl ?_;refine .qt rfl ?_;simp (disch:=first|exact zb|fail) only [go_sem,seval];refine .qr rfl Tryz.func97 (by rw [Tryz.results97]) ?_;simp (disch:=first|exact zb|fail) only [go_sem,seval];exact h
 rw [if_neg a] at h
 rcases Classical.em (k=6) with b | b
 · rw [if_pos b] at h;refine .qt rfl ?_;simp (disch:=first|exact zb|fail) only [go_sem,seval];refine .qF rfl ?_;refine .skip ?_;refine .qt rfl ?_;simp (disch:=first|exact zb|fail) only [go_sem,seval];refine .qT rfl ?_;refine .qt rfl ?_;simp (disch:=first|exact zb|fail) only [go_sem,seval];refine .qr rfl Tryz.func97 (by rw [Tryz.results97]) ?_;simp (disch:=first|exact zb|fail) only [go_sem,seval];exact h
 · rw [if_neg b] at h;refine .qt rfl ?_;simp (disch:=first|exact zb|fail) only [go_sem,seval];refine .qF rfl ?_;refine .skip ?_;refine .qt rfl ?_;simp (disch:=first|exact zb|fail) only [go_sem,seval];refine .qF rfl ?_;refine .skip ?_;refine .qt rfl ?_;simp (disch:=first|exact zb|fail) only [go_sem,seval];refine .qr rfl Tryz.func97 (by rw [Tryz.results97]) ?_;simp (disch:=first|exact zb|fail) only [go_sem,seval];exact h
theorem zd7 (c:Int) (hc:0≤c∧c < 4) (H:Hp) (R:AV → Hp → Prop) (h:R (.p (i64 (yQ c.toNat))) H):ACall Tryz.prog G 141 [.p (i64 c)] H R:=by
 have:c=0 ∨ c=1 ∨ c=2 ∨ c=3:=by omega
 refine ACall.of_run (raw:=[]) Tryz.func141 rfl Tryz.ntmps141 (by simp) fun hbel => ?_
 refine .qt rfl ?_;simp (disch:=first|exact zb|fail) only [go_sem,seval]
 rcases this with rfl | rfl | rfl | rfl
 · refine .qt rfl ?_;simp (disch:=first|exact zb|fail) only [go_sem,seval];refine .qT rfl ?_;refine .qt rfl ?_;simp (disch:=first|exact zb|fail) only [go_sem,seval];refine .qr rfl Tryz.func141 (by rw [Tryz.results141]) ?_;simp (disch:=first|exact zb|fail) only [go_sem,seval];exact h
 · refine .qt rfl ?_;simp (disch:=first|exact zb|fail) only [go_sem,seval];refine .qF rfl ?_;refine .skip ?_;refine .qt rfl ?_;simp (disch:=first|exact zb|fail) only [go_sem,seval];refine .qr rfl Tryz.func141 (by rw [Tryz.results141]) ?_;simp (disch:=first|exact zb|fail) only [go_sem,seval];exact h
 · refine .qt rfl ?_;simp (disch:=first|exact zb|fail) only [go_sem,seval];refine .qT rfl ?_;refine .qt rfl ?_;simp (disch:=first|exact zb|fail) only [go_sem,seval];refine .qr rfl Tryz.func141 (by rw [Tryz.results141]) ?_;simp (disch:=first|exact zb|fail) only [go_sem,seval];exact h
 · refine .qt rfl ?_;simp (disch:=first|exact zb|fail) only [go_sem,seval];refine .qF rfl ?_;refine .skip ?_;refine .qt rfl ?_;simp (disch:=first|exact zb|fail) only [go_sem,seval];refine .qr rfl Tryz.func141 (by rw [Tryz.results141]) ?_;simp (disch:=first|exact zb|fail) only [go_sem,seval];exact h
set_option maxHeartbeats 8000000 in
set_option maxRecDepth 20000 in
theorem zfh (l:List Cnd) (H:Hp) (R:AV → Hp → Prop) (h:R (.p (bo (vF l))) H):ACall Tryz.prog G 98 [.p (yt l)] H R:=by
 refine ACall.of_run (raw:=[]) Tryz.func98 rfl Tryz.ntmps98 (by simp) fun hbel => ?_
 refine .qt rfl ?_;simp (disch:=first|exact zb|fail) only [go_sem,seval];refine .qt rfl ?_;simp (disch:=first|exact zb|fail) only [go_sem,seval,zQ]
 rcases Classical.em (l.length≤3) with hl | hl
 · refine .qF rfl ?_;refine .skip ?_;refine .qt rfl ?_;simp (disch:=first|exact zb|fail) only [go_sem,seval]
   refine .q ?_;first | refine .loopF0 [0] (fun i=>[(3,.p (i64 i))]) (fun i => ∀ j,j < i → vC (nth l j)=true) (0) (l.length) (by omega) ?_ ?_ ?_ ?_ | refine .loopF [0] (fun i=>[(3,.p (i64 i))]) (fun _=>[]) (fun i => ∀ j,j < i → vC (nth l j)=true) (0) (l.length) (by omega) ?_ (by rfl) ?_ ?_ ?_
   · simp (disch:=first|exact zb|fail) only [go_sem,seval]<;>(repeat' (first | rfl | refine And.intro ?_ ?_))
   rotate_left 1
   intro env T A hQ;simp (disch:=first|exact zb|fail) only [go_sem,seval] at A
   rotate_left 1
   intro i env T hi0 hi A hQ ihA;simp (disch:=first|exact zb|fail) only [go_sem,seval] at A
   rotate_left 1
   · exact fun j hj=>absurd hj (by omega)
   · have hv:vF l=true:=by
      simp only [vF,Bool.and_eq_true,decide_eq_true_eq,List.all_eq_true]
      refine⟨hl,fun x hx => ?_⟩
      obtain⟨j,hj,rfl⟩:=List.getElem_of_mem hx
      have:=hQ j hj
      rwa [zg hj] at this
     rw [hv] at h;refine .qt rfl ?_;simp (disch:=first|exact zb|fail) only [go_sem,seval,A];refine .qF rfl ?_;refine .qt rfl ?_;simp (disch:=first|exact zb|fail) only [go_sem,seval,A];refine .qr rfl Tryz.func98 (by rw [Tryz.results98]) (hx:=by simp (disch:=first|exact zb|fail) only [go_sem,seval,A];rfl) ?_;simp (disch:=first|exact zb|fail) only [go_sem,seval,A];exact h
   · have hno:vC (nth l i)=false → vF l=false:=fun e=>by
      simp only [vF,Bool.and_eq_false_iff]
      right
      rw [List.all_eq_false]
      exact⟨_,List.getElem_mem hi,by rw [←zg hi,e];decide⟩
     refine .qt rfl ?_;simp (disch:=first|exact zb|fail) only [go_sem,seval,A];refine .qT rfl ?_
     generalize hc:nth l i=c at *
     rcases Classical.em (c.col < 0) with a | a
     · rw [hno (by simp [vC];omega)] at h;refine .q ?_;refine .open [] follows (by kernel_rfl) ?_;simp (disch:=first|exact zb|fail) only [go_sem,seval,A,hc,zQ];refine .qT rfl ?_;refine .qt rfl ?_;simp (disch:=first|exact zb|fail) only [go_sem,seval,A];refine .qr rfl Tryz.func98 (by rw [Tryz.results98]) (hx:=by simp (disch:=first|exact zb|fail) only [go_sem,seval,A];rfl) ?_;simp (disch:=first|exact zb|fail) only [go_sem,seval,A];exact h
     rcases Classical.em (c.col > 3) with a2 | a2
     · rw [hno (by simp [vC];omega)] at h;refine .q ?_;refine .open [] follows (by kernel_rfl) ?_;simp (disch:=first|exact zb|fail) only [go_sem,seval,A,hc,zQ];refine .qT rfl ?_;refine .qt rfl ?_;simp (disch:=first|exact zb|fail) only [go_sem,seval,A];refine .qr rfl Tryz.func98 (by rw [Tryz.results98]) (hx:=by simp (disch:=first|exact zb|fail) only [go_sem,seval,A];rfl) ?_;simp (disch:=first|exact zb|fail) only [go_sem,seval,A];exact h
     rcases Classical.em (c.lo < 0) with a3 | a3
     · rw [hno (by simp [vC];omega)] at h;refine .q ?_;refine .open [] follows (by kernel_rfl) ?_;simp (disch:=first|exact zb|fail) only [go_sem,seval,A,hc,zQ];refine .qT rfl ?_;refine .qt rfl ?_;simp (disch:=first|exact zb|fail) only [go_sem,seval,A];refine .qr rfl Tryz.func98 (by rw [Tryz.results98]) (hx:=by simp (disch:=first|exact zb|fail) only [go_sem,seval,A];rfl) ?_;simp (disch:=first|exact zb|fail) only [go_sem,seval,A];exact h
     rcases Classical.em (c.hi < c.lo) with a4 | a4
     · rw [hno (by simp [vC];omega)] at h;refine .q ?_;refine .open [] follows (by kernel_rfl) ?_;simp (disch:=first|exact zb|fail) only [go_sem,seval,A,hc,zQ];refine .qT rfl ?_;refine .qt rfl ?_;simp (disch:=first|exact zb|fail) only [go_sem,seval,A];refine .qr rfl Tryz.func98 (by rw [Tryz.results98]) (hx:=by simp (disch:=first|exact zb|fail) only [go_sem,seval,A];rfl) ?_;simp (disch:=first|exact zb|fail) only [go_sem,seval,A];exact h
     refine .q ?_;refine .open [] follows (by kernel_rfl) ?_;simp (disch:=first|exact zb|fail) only [go_sem,seval,A,hc,zQ];refine CallD.still (fun R h=>zd7 c.col (by omega) _ R h) ?_;simp (disch:=first|exact zb|fail) only [go_sem,seval,A,hc,zQ]
     rcases Classical.em (c.hi > yQ c.col.toNat) with a5 | a5
     · rw [hno (by simp [vC];omega)] at h;refine .qT rfl ?_;refine .qt rfl ?_;simp (disch:=first|exact zb|fail) only [go_sem,seval,A];refine .qr rfl Tryz.func98 (by rw [Tryz.results98]) (hx:=by simp (disch:=first|exact zb|fail) only [go_sem,seval,A];rfl) ?_;simp (disch:=first|exact zb|fail) only [go_sem,seval,A];exact h
     · have hw:vC (nth l i)=true:=by rw [hc];simp [vC];omega
       refine .qF rfl ?_;refine .skip ?_;refine .qt rfl ?_;simp (disch:=first|exact zb|fail) only [go_sem,seval,A]
       first | (refine ihA _ _ ?_ (zbw hQ hw) ?_) | (refine .z rfl ?_;refine ihA _ _ ?_ (zbw hQ hw) ?_) | (refine .z rfl ?_;refine .z rfl ?_;refine ihA _ _ ?_ (zbw hQ hw) ?_) | (refine .z rfl ?_;refine .z rfl ?_;refine .z rfl ?_;refine ihA _ _ ?_ (zbw hQ hw) ?_)
       · simp (disch:=first|exact zb|fail) only [go_sem,seval,A]<;>(repeat' (first | rfl | refine And.intro ?_ ?_))
       · first | exact .mk _ rfl | exact .mk [] rfl | (apply Later.mk;simp (disch:=first|exact zb|fail) only [go_sem,seval,zv,A];exact rfl) | (apply Later.mk;simp (disch:=first|exact zb|fail) only [go_sem,seval,zv,yq,List.append_assoc,A]<;>(try rfl))
 · have hv:vF l=false:=by simp [vF,hl]
   rw [hv] at h;refine .qT rfl ?_;refine .qt rfl ?_;simp (disch:=first|exact zb|fail) only [go_sem,seval];refine .qr rfl Tryz.func98 (by rw [Tryz.results98]) ?_;simp (disch:=first|exact zb|fail) only [go_sem,seval];exact h
set_option maxHeartbeats 16000000 in
set_option maxRecDepth 20000 in
theorem zcr (q:Qry) (hk:okI q.kind) (H:Hp) (R:AV → Hp → Prop) (h:R (.p (bo (vQ q))) H):ACall Tryz.prog G 43 [.p (qry q)] H R:=by
 refine ACall.of_run (raw:=[]) Tryz.func43 rfl Tryz.ntmps43 (by simp) fun hbel => ?_
 refine .qt rfl ?_;simp (disch:=first|exact zb|fail) only [go_sem,seval]
 have hm:yw q.kind=0 ∨ 0 < yw q.kind:=by unfold yw;split;omega;split<;>omega
 rcases Classical.em (q.kind < 1) with a1 | a1
 · have hv:vQ q=false:=by simp [vQ];omega
   rw [hv] at h;refine .qt rfl ?_;simp (disch:=first|exact zb|fail) only [go_sem,seval];refine .qT rfl ?_;refine .qt rfl ?_;simp (disch:=first|exact zb|fail) only [go_sem,seval];refine .qr rfl Tryz.func43 (by rw [Tryz.results43]) ?_;simp (disch:=first|exact zb|fail) only [go_sem,seval];exact h
 rcases Classical.em (q.kind > 7) with a2 | a2
 · have hv:vQ q=false:=by simp [vQ];omega
   rw [hv] at h;refine .qt rfl ?_;simp (disch:=first|exact zb|fail) only [go_sem,seval];refine .qT rfl ?_;refine .qt rfl ?_;simp (disch:=first|exact zb|fail) only [go_sem,seval];refine .qr rfl Tryz.func43 (by rw [Tryz.results43]) ?_;simp (disch:=first|exact zb|fail) only [go_sem,seval];exact h
 rcases Classical.em (q.col < 0) with a3 | a3
 · have hv:vQ q=false:=by simp [vQ];omega
   rw [hv] at h;refine .qt rfl ?_;simp (disch:=first|exact zb|fail) only [go_sem,seval];refine .qT rfl ?_;refine .qt rfl ?_;simp (disch:=first|exact zb|fail) only [go_sem,seval];refine .qr rfl Tryz.func43 (by rw [Tryz.results43]) ?_;simp (disch:=first|exact zb|fail) only [go_sem,seval];exact h
 rcases Classical.em (q.col > 3) with a4 | a4
 · have hv:vQ q=false:=by simp [vQ];omega
   rw [hv] at h;refine .qt rfl ?_;simp (disch:=first|exact zb|fail) only [go_sem,seval];refine .qT rfl ?_;refine .qt rfl ?_;simp (disch:=first|exact zb|fail) only [go_sem,seval];refine .qr rfl Tryz.func43 (by rw [Tryz.results43]) ?_;simp (disch:=first|exact zb|fail) only [go_sem,seval];exact h
 have b1:(1≤q.kind∧q.kind≤7):=by omega
 have b2:(0≤q.col∧q.col < 4):=by omega
 refine .q ?_;refine .cut (fun env2 H2=>env2 1 = .ptr H.n 0∧H2=H.new (.cells [.p (i64 q.kind),.p (i64 q.col),.p (i64 q.k),.p (.sl false 1 (pl yt q.fl))])∧env2 33 = .p (bo (!(zb3 q.kind || decide (q.col=0))))) (fun ih => ?_) ?_
 · rcases Classical.em (q.col=0) with c1 | c1
   · have d1:(zb3 q.kind || decide (q.col=0))=true:=by simp [c1]
     rw [d1] at ih;refine .qt rfl ?_;simp (disch:=first|exact zb|fail) only [go_sem,seval];refine ih _ _ ⟨?_,rfl,?_⟩<;>simp (disch:=first|exact zb|fail) only [go_sem,seval]
   · have d1:(zb3 q.kind || decide (q.col=0))=zb3 q.kind:=by simp [c1]
     rw [d1] at ih;refine .qt rfl ?_;simp (disch:=first|exact zb|fail) only [go_sem,seval];refine CallK.of (fun R h=>zda q.kind hk _ R h) ?_;simp (disch:=first|exact zb|fail) only [go_sem,seval];refine ih _ _ ⟨?_,rfl,?_⟩<;>simp (disch:=first|exact zb|fail) only [go_sem,seval]
 rintro env H2 ⟨e1,rfl,e33⟩
 have hq0:(H.new (.cells [.p (i64 q.kind),.p (i64 q.col),.p (i64 q.k),.p (.sl false 1 (pl yt q.fl))])).f H.n=some (.cells [.p (i64 q.kind),.p (i64 q.col),.p (i64 q.k),.p (.sl false 1 (pl yt q.fl))]):=zm rfl
 cases hcc:(zb3 q.kind || decide (q.col=0)) with
 | false =>
  rw [hcc] at e33
  have hv:vQ q=false:=by unfold vQ;rw [hcc];simp
  rw [hv] at h;refine .q ?_;refine .ifT (by simp (disch:=first|exact zb|fail) only [go_sem,seval,e33]) ?_;refine .qt rfl ?_;simp (disch:=first|exact zb|fail) only [go_sem,seval];refine .qr rfl Tryz.func43 (by rw [Tryz.results43]) ?_;simp (disch:=first|exact zb|fail) only [go_sem,seval];exact h
 | true =>
 rw [hcc] at e33
 have hv0:vQ q=(decide (min (yw q.kind) 1≤q.k∧q.k≤yw q.kind) && (decide (q.fl.length=if q.kind=7 then 2 else 1) && q.fl.all vF)):=by
  unfold vQ;rw [hcc];simp [b1,b2]
 refine .q ?_;refine .ifF (by simp (disch:=first|exact zb|fail) only [go_sem,seval,e33]) ?_;refine .skip ?_
 rcases Classical.em (q.k < 0) with k1 | k1
 · have hv:vQ q=false:=by rw [hv0];simp;omega
   rw [hv] at h;refine .q ?_;refine .open [] follows (by kernel_rfl) ?_;simp (disch:=first|exact zb|fail) only [go_sem,seval,e1,hq0];refine .qT rfl ?_;refine .qt rfl ?_;simp (disch:=first|exact zb|fail) only [go_sem,seval];refine .qr rfl Tryz.func43 (by rw [Tryz.results43]) ?_;simp (disch:=first|exact zb|fail) only [go_sem,seval];exact h
 rcases Classical.em (q.k > yw q.kind) with k2 | k2
 · have hv:vQ q=false:=by rw [hv0];simp;omega
   rw [hv] at h;refine .q ?_;refine .open [] follows (by kernel_rfl) ?_;simp (disch:=first|exact zb|fail) only [go_sem,seval,e1,hq0];refine CallD.still (fun R h=>y9 q.kind hk _ R h) ?_;simp (disch:=first|exact zb|fail) only [go_sem,seval,e1,hq0];refine .qT rfl ?_;refine .qt rfl ?_;simp (disch:=first|exact zb|fail) only [go_sem,seval];refine .qr rfl Tryz.func43 (by rw [Tryz.results43]) ?_;simp (disch:=first|exact zb|fail) only [go_sem,seval];exact h
 rcases Classical.em (0 < yw q.kind∧q.k=0) with k3 | k3
 · have hv:vQ q=false:=by rw [hv0];simp;omega
   rw [hv] at h
   obtain⟨k3,k4⟩:=k3
   refine .q ?_;refine .open [] follows (by kernel_rfl) ?_;simp (disch:=first|exact zb|fail) only [go_sem,seval,e1,hq0];refine CallD.still (fun R h=>y9 q.kind hk _ R h) ?_;simp (disch:=first|exact zb|fail) only [go_sem,seval,e1,hq0];refine CallD.still (fun R h=>y9 q.kind hk _ R h) ?_;simp (disch:=first|exact zb|fail) only [go_sem,seval,e1,hq0];refine .qT rfl ?_;refine .qt rfl ?_;simp (disch:=first|exact zb|fail) only [go_sem,seval];refine .qr rfl Tryz.func43 (by rw [Tryz.results43]) ?_;simp (disch:=first|exact zb|fail) only [go_sem,seval];exact h
 have hv1:vQ q=(decide (q.fl.length=if q.kind=7 then 2 else 1) && q.fl.all vF):=by
  have:decide (min (yw q.kind) 1≤q.k∧q.k≤yw q.kind)=true:=by simp;omega
  rw [hv0,this,Bool.true_and]
 refine .q ?_;refine .cut2 (fun env2 H2=>env2 1 = .ptr H.n 0∧H2=H.new (.cells [.p (i64 q.kind),.p (i64 q.col),.p (i64 q.k),.p (.sl false 1 (pl yt q.fl))])) (fun ih => ?_) ?_
 · rcases hm with hm | hm
   · refine .q ?_;refine .open [] follows (by kernel_rfl) ?_;simp (disch:=first|exact zb|fail) only [go_sem,seval,e1,hq0];refine CallD.still (fun R h=>y9 q.kind hk _ R h) ?_;simp (disch:=first|exact zb|fail) only [go_sem,seval,e1,hq0];refine CallD.still (fun R h=>y9 q.kind hk _ R h) ?_;simp (disch:=first|exact zb|fail) only [go_sem,seval,e1,hq0];refine .qF rfl ?_;refine .skip ?_;refine ih _ _ ⟨?_,rfl⟩;simp (disch:=first|exact zb|fail) only [go_sem,seval,e1]
   · have k4:q.k≠0:=by omega
     refine .q ?_;refine .open [] follows (by kernel_rfl) ?_;simp (disch:=first|exact zb|fail) only [go_sem,seval,e1,hq0];refine CallD.still (fun R h=>y9 q.kind hk _ R h) ?_;simp (disch:=first|exact zb|fail) only [go_sem,seval,e1,hq0];refine CallD.still (fun R h=>y9 q.kind hk _ R h) ?_;simp (disch:=first|exact zb|fail) only [go_sem,seval,e1,hq0];refine .qF rfl ?_;refine .skip ?_;refine ih _ _ ⟨?_,rfl⟩;simp (disch:=first|exact zb|fail) only [go_sem,seval,e1]
 rintro env H2 ⟨e1,rfl⟩
 generalize hFk:(if q.kind=7 then (2:Int) else 1)=F
 have hF:q.kind=7∧F=2 ∨ q.kind≠7∧F=1:=by rw [←hFk];split<;>simp_all
 refine .qt rfl ?_;simp (disch:=first|exact zb|fail) only [go_sem,seval];refine .q ?_;refine .cut2 (fun env2 H2=>env2 1 = .ptr H.n 0∧env2 3 = .p (i64 F)∧H2=H.new (.cells [.p (i64 q.kind),.p (i64 q.col),.p (i64 q.k),.p (.sl false 1 (pl yt q.fl))])) (fun ih => ?_) ?_
 · rcases hF with ⟨f1,rfl⟩ | ⟨f1,rfl⟩
   · refine .qt rfl ?_;simp (disch:=first|exact zb|fail) only [go_sem,seval,e1,hq0];refine .qT rfl ?_;refine .qt rfl ?_;simp (disch:=first|exact zb|fail) only [go_sem,seval];refine ih _ _ ⟨?_,?_,rfl⟩<;>simp (disch:=first|exact zb|fail) only [go_sem,seval,e1]
   · refine .qt rfl ?_;simp (disch:=first|exact zb|fail) only [go_sem,seval,e1,hq0];refine .qF rfl ?_;refine .skip ?_;refine ih _ _ ⟨?_,?_,rfl⟩<;>simp (disch:=first|exact zb|fail) only [go_sem,seval,e1]
 rintro env H2 ⟨e1,e3,rfl⟩
 rcases Classical.em (((q.fl.length:Nat):Int)=F) with k5 | k5
 · have hk2:q.fl.length=if q.kind=7 then 2 else 1:=by rcases hF with ⟨f1,f2⟩ | ⟨f1,f2⟩<;>simp only [f1,if_true,if_false]<;>omega
   have hv2:vQ q=q.fl.all vF:=by rw [hv1,hk2];simp
   rw [hv2] at h
   have hL2:q.fl.length≤2:=by omega
   rw [←k5] at e3;refine .qt rfl ?_;simp (disch:=first|exact zb|fail) only [go_sem,seval,e1,e3,hq0];refine .qF rfl ?_;refine .skip ?_;refine .qt rfl ?_;simp (disch:=first|exact zb|fail) only [go_sem,seval]
   refine .q ?_;first | refine .loopF0 [1,3] (fun i=>[(4,.p (i64 i))]) (fun i => ∀ j,j < i → vF (nth q.fl j)=true) (0) (q.fl.length) (by omega) ?_ ?_ ?_ ?_ | refine .loopF [1,3] (fun i=>[(4,.p (i64 i))]) (fun _=>[]) (fun i => ∀ j,j < i → vF (nth q.fl j)=true) (0) (q.fl.length) (by omega) ?_ (by rfl) ?_ ?_ ?_
   · simp (disch:=first|exact zb|fail) only [go_sem,seval,e1,e3]<;>(repeat' (first | rfl | refine And.intro ?_ ?_))
   rotate_left 1
   intro env T A hQ;simp (disch:=first|exact zb|fail) only [go_sem,seval,e1,e3] at A
   rotate_left 1
   intro i env T hi0 hi A hQ ihA;simp (disch:=first|exact zb|fail) only [go_sem,seval,e1,e3] at A
   rotate_left 1
   · exact fun j hj=>absurd hj (by omega)
   · have ha:q.fl.all vF=true:=by
      rw [List.all_eq_true];intro x hx
      obtain⟨j,hj,rfl⟩:=List.getElem_of_mem hx
      have:=hQ j hj
      rwa [zg hj] at this
     rw [ha] at h;refine .qt rfl ?_;simp (disch:=first|exact zb|fail) only [go_sem,seval,A];refine .qF rfl ?_;refine .qt rfl ?_;simp (disch:=first|exact zb|fail) only [go_sem,seval,A];refine .qr rfl Tryz.func43 (by rw [Tryz.results43]) (hx:=by simp (disch:=first|exact zb|fail) only [go_sem,seval,A];rfl) ?_;simp (disch:=first|exact zb|fail) only [go_sem,seval,A];exact h
   · have hno:vF (nth q.fl i)=false → q.fl.all vF=false:=fun e=>by
      rw [List.all_eq_false]
      exact⟨_,List.getElem_mem hi,by rw [←zg hi,e];decide⟩
     refine .qt rfl ?_;simp (disch:=first|exact zb|fail) only [go_sem,seval,A];refine .qT rfl ?_;refine .qt rfl ?_;simp (disch:=first|exact zb|fail) only [go_sem,seval,A,hq0];refine CallK.of (fun R h=>zfh (nth q.fl i) _ R h) ?_;simp (disch:=first|exact zb|fail) only [go_sem,seval]
     cases ha:vF (nth q.fl i) with
     | false =>
      rw [hno ha] at h;refine .q ?_;refine .ifT (by simp (disch:=first|exact zb|fail) only [go_sem,seval,ha]) ?_;refine .qt rfl ?_;simp (disch:=first|exact zb|fail) only [go_sem,seval,A];refine .qr rfl Tryz.func43 (by rw [Tryz.results43]) (hx:=by simp (disch:=first|exact zb|fail) only [go_sem,seval,A];rfl) ?_;simp (disch:=first|exact zb|fail) only [go_sem,seval,A];exact h
     | true =>
      refine .q ?_;refine .ifF (by simp (disch:=first|exact zb|fail) only [go_sem,seval,ha]) ?_;refine .skip ?_;refine .qt rfl ?_;simp (disch:=first|exact zb|fail) only [go_sem,seval,A]
      first | (refine ihA _ _ ?_ (zbw hQ ha) ?_) | (refine .z rfl ?_;refine ihA _ _ ?_ (zbw hQ ha) ?_) | (refine .z rfl ?_;refine .z rfl ?_;refine ihA _ _ ?_ (zbw hQ ha) ?_) | (refine .z rfl ?_;refine .z rfl ?_;refine .z rfl ?_;refine ihA _ _ ?_ (zbw hQ ha) ?_)
      · simp (disch:=first|exact zb|fail) only [go_sem,seval,A,e1,e3]<;>(repeat' (first | rfl | refine And.intro ?_ ?_))
      · first | exact .mk _ rfl | exact .mk [] rfl | (apply Later.mk;simp (disch:=first|exact zb|fail) only [go_sem,seval,zv,A,e1,e3];exact rfl) | (apply Later.mk;simp (disch:=first|exact zb|fail) only [go_sem,seval,zv,yq,List.append_assoc,A,e1,e3]<;>(try rfl))
 · have hv:vQ q=false:=by
    rw [hv1,Bool.and_eq_false_iff]
    left
    rcases hF with ⟨f1,f2⟩ | ⟨f1,f2⟩<;>simp only [f1,if_true,if_false,decide_eq_false_iff_not]<;>omega
   rw [hv] at h;refine .qt rfl ?_;simp (disch:=first|exact zb|fail) only [go_sem,seval,e1,e3,hq0];refine .qT rfl ?_;refine .qt rfl ?_;simp (disch:=first|exact zb|fail) only [go_sem,seval];refine .qr rfl Tryz.func43 (by rw [Tryz.results43]) ?_;simp (disch:=first|exact zb|fail) only [go_sem,seval];exact h
end walks
end Go.Proofs.YthaoifcebimkfaaGreatDoor

namespace Go.Proofs.YthaoifcebimkfaaGreatDoor
open Go Go.AL

def zgf (c v:Int) (x:Cnd):Bool:=decide (x.col=c) && (decide (v < x.lo) || decide (x.hi < v))
def zku (l:List Cnd) (c v:Int):Bool := !(l.any (zgf c v)) && (decide (0≤v) && decide (v≤yQ c.toNat))
def lrg (l:List Cnd) (c:Int):Nat → Int
 | 0 => -1
 | n+1=>if zku l c n then n else lrg l c n
def zfE (l:List Cnd) (c:Int):Int:=lrg l c ((yQ c.toNat).toNat+1)
def znb (l:List Cnd):Bool:=four.all fun c=>decide (0≤zfE l c)
theorem zz9 (l:List Cnd) (c:Int) : ∀ n,-1≤lrg l c n∧lrg l c n < n
 | 0=>by unfold lrg;omega
 | n+1=>by
  have:=zz9 l c n
  unfold lrg;split<;>omega
theorem zhK (c:Nat):yQ c=15 ∨ yQ c=255:=by unfold yQ;split<;>simp
def pw (n m i:Nat):Nat:=n*m ^ i
section walks
variable {G:Globs}
set_option maxHeartbeats 8000000 in
set_option maxRecDepth 20000 in
theorem zeg (l:List Cnd) (hl:l.length≤3) (c:Int) (hc:0≤c∧c < 4) (v:Int) (H:Hp) (R:AV → Hp → Prop) (h:R (.p (bo (zku l c v))) H):ACall Tryz.prog G 142 [.p (yt l),.p (i64 c),.p (i64 v)] H R:=by
 refine ACall.of_run (raw:=[]) Tryz.func142 rfl Tryz.ntmps142 (by simp) fun hbel => ?_
 refine .qt rfl ?_;simp (disch:=first|exact zb|fail) only [go_sem,seval];refine .qt rfl ?_;simp (disch:=first|exact zb|fail) only [go_sem,seval]
 refine .q ?_;first | refine .loopF0 [0,1,2] (fun i=>[(7,.p (i64 i))]) (fun i => ∀ j,j < i → zgf c v (nth l j)=false) (0) (l.length) (by omega) ?_ ?_ ?_ ?_ | refine .loopF [0,1,2] (fun i=>[(7,.p (i64 i))]) (fun _=>[]) (fun i => ∀ j,j < i → zgf c v (nth l j)=false) (0) (l.length) (by omega) ?_ (by rfl) ?_ ?_ ?_
 · simp (disch:=first|exact zb|fail) only [go_sem,seval]<;>(repeat' (first | rfl | refine And.intro ?_ ?_))
 rotate_left 1
 intro env T A hQ;simp (disch:=first|exact zb|fail) only [go_sem,seval] at A
 rotate_left 1
 intro i env T hi0 hi A hQ ihA;simp (disch:=first|exact zb|fail) only [go_sem,seval] at A
 rotate_left 1
 · exact fun j hj=>absurd hj (by omega)
 · have hv:zku l c v=(decide (0≤v) && decide (v≤yQ c.toNat)):=by
    have:l.any (zgf c v)=false:=by
     rw [List.any_eq_false];intro x hx
     obtain⟨j,hj,rfl⟩:=List.getElem_of_mem hx
     have:=hQ j hj
     rw [zg hj] at this;rw [this];decide
    unfold zku;rw [this];rfl
   rw [hv] at h;refine .qt rfl ?_;simp (disch:=first|exact zb|fail) only [go_sem,seval,A,zQ];refine .qF rfl ?_
   rcases Classical.em (0≤v) with a | a
   · have e:decide (0≤v)=true:=by simp [a]
     rw [e,Bool.true_and] at h;refine .qt rfl ?_;simp (disch:=first|exact zb|fail) only [go_sem,seval,A];refine CallK.of (fun R h=>zd7 c hc _ R h) ?_;simp (disch:=first|exact zb|fail) only [go_sem,seval,A];refine .qr rfl Tryz.func142 (by rw [Tryz.results142]) (hx:=by simp (disch:=first|exact zb|fail) only [go_sem,seval,A];rfl) ?_;simp (disch:=first|exact zb|fail) only [go_sem,seval,A];exact h
   · have e:decide (0≤v)=false:=by simp [a]
     rw [e,Bool.false_and] at h;refine .qt rfl ?_;simp (disch:=first|exact zb|fail) only [go_sem,seval,A];refine .qr rfl Tryz.func142 (by rw [Tryz.results142]) (hx:=by simp (disch:=first|exact zb|fail) only [go_sem,seval,A];rfl) ?_;simp (disch:=first|exact zb|fail) only [go_sem,seval,A];exact h
 · have hno:zgf c v (nth l i)=true → zku l c v=false:=fun e=>by
    have:l.any (zgf c v)=true:=List.any_eq_true.2 ⟨_,List.getElem_mem hi,by rw [←zg hi];exact e⟩
    unfold zku;rw [this];rfl
   refine .qt rfl ?_;simp (disch:=first|exact zb|fail) only [go_sem,seval,A,zQ];refine .qT rfl ?_
   generalize hx:nth l i=x at *
   rcases Classical.em (x.col=c) with b1 | b1
   · rcases Classical.em (v < x.lo) with b2 | b2
     · rw [hno (by simp [zgf,b1,b2])] at h;refine .qt rfl ?_;simp (disch:=first|exact zb|fail) only [go_sem,seval,A,zQ,hx];refine .qT rfl ?_;refine .qt rfl ?_;simp (disch:=first|exact zb|fail) only [go_sem,seval,A];refine .qr rfl Tryz.func142 (by rw [Tryz.results142]) (hx:=by simp (disch:=first|exact zb|fail) only [go_sem,seval,A];rfl) ?_;simp (disch:=first|exact zb|fail) only [go_sem,seval,A];exact h
     rcases Classical.em (x.hi < v) with b3 | b3
     · rw [hno (by simp [zgf,b1,b3])] at h;refine .qt rfl ?_;simp (disch:=first|exact zb|fail) only [go_sem,seval,A,zQ,hx];refine .qT rfl ?_;refine .qt rfl ?_;simp (disch:=first|exact zb|fail) only [go_sem,seval,A];refine .qr rfl Tryz.func142 (by rw [Tryz.results142]) (hx:=by simp (disch:=first|exact zb|fail) only [go_sem,seval,A];rfl) ?_;simp (disch:=first|exact zb|fail) only [go_sem,seval,A];exact h
     · have hw:zgf c v (nth l i)=false:=by rw [hx];simp [zgf,b2,b3]
       refine .qt rfl ?_;simp (disch:=first|exact zb|fail) only [go_sem,seval,A,zQ,hx];refine .qF rfl ?_;refine .skip ?_;refine .qt rfl ?_;simp (disch:=first|exact zb|fail) only [go_sem,seval,A]
       first | (refine ihA _ _ ?_ (zM hQ hw) ?_) | (refine .z rfl ?_;refine ihA _ _ ?_ (zM hQ hw) ?_) | (refine .z rfl ?_;refine .z rfl ?_;refine ihA _ _ ?_ (zM hQ hw) ?_) | (refine .z rfl ?_;refine .z rfl ?_;refine .z rfl ?_;refine ihA _ _ ?_ (zM hQ hw) ?_)
       · simp (disch:=first|exact zb|fail) only [go_sem,seval,A]<;>(repeat' (first | rfl | refine And.intro ?_ ?_))
       · first | exact .mk _ rfl | exact .mk [] rfl | (apply Later.mk;simp (disch:=first|exact zb|fail) only [go_sem,seval,zv,A];exact rfl) | (apply Later.mk;simp (disch:=first|exact zb|fail) only [go_sem,seval,zv,yq,List.append_assoc,A]<;>(try rfl))
   · have hw:zgf c v (nth l i)=false:=by rw [hx];simp [zgf,b1]
     refine .qt rfl ?_;simp (disch:=first|exact zb|fail) only [go_sem,seval,A,zQ,hx];refine .qF rfl ?_;refine .skip ?_;refine .qt rfl ?_;simp (disch:=first|exact zb|fail) only [go_sem,seval,A]
     first | (refine ihA _ _ ?_ (zM hQ hw) ?_) | (refine .z rfl ?_;refine ihA _ _ ?_ (zM hQ hw) ?_) | (refine .z rfl ?_;refine .z rfl ?_;refine ihA _ _ ?_ (zM hQ hw) ?_) | (refine .z rfl ?_;refine .z rfl ?_;refine .z rfl ?_;refine ihA _ _ ?_ (zM hQ hw) ?_)
     · simp (disch:=first|exact zb|fail) only [go_sem,seval,A]<;>(repeat' (first | rfl | refine And.intro ?_ ?_))
     · first | exact .mk _ rfl | exact .mk [] rfl | (apply Later.mk;simp (disch:=first|exact zb|fail) only [go_sem,seval,zv,A];exact rfl) | (apply Later.mk;simp (disch:=first|exact zb|fail) only [go_sem,seval,zv,yq,List.append_assoc,A]<;>(try rfl))
set_option maxHeartbeats 8000000 in
theorem zbO (l:List Cnd) (hl:l.length≤3) (c:Int) (hc:0≤c∧c < 4) (H:Hp) (R:AV → Hp → Prop) (h:R (.p (i64 (zfE l c))) H):ACall Tryz.prog G 103 [.p (yt l),.p (i64 c)] H R:=by
 refine ACall.of_run (raw:=[]) Tryz.func103 rfl Tryz.ntmps103 (by simp) fun hbel => ?_
 have ht:=zhK c.toNat
 obtain⟨n,hn⟩ : ∃ n:Nat,yQ c.toNat=n:=⟨(yQ c.toNat).toNat,by omega⟩
 have hL:zfE l c=lrg l c (n+1):=by unfold zfE;rw [hn];rfl
 rw [hL] at h;refine .qt rfl ?_;simp (disch:=first|exact zb|fail) only [go_sem,seval];refine .qt rfl ?_;simp (disch:=first|exact zb|fail) only [go_sem,seval];refine CallK.of (fun R h=>zd7 c hc _ R h) ?_;simp (disch:=first|exact zb|fail) only [go_sem,seval,hn]
 refine .q ?_;first | refine .loopF0 [0,1] (fun i=>[(5,.p (i64 ((n:Int) - i)))]) (fun i=>lrg l c (n+1)=lrg l c (n+1 - i)) (0) (n+1) (by omega) ?_ ?_ ?_ ?_ | refine .loopF [0,1] (fun i=>[(5,.p (i64 ((n:Int) - i)))]) (fun _=>[]) (fun i=>lrg l c (n+1)=lrg l c (n+1 - i)) (0) (n+1) (by omega) ?_ (by rfl) ?_ ?_ ?_
 · simp (disch:=first|exact zb|fail) only [go_sem,seval]<;>(repeat' (first | rfl | refine And.intro ?_ ?_))
 rotate_left 1
 intro env T A hQ;simp (disch:=first|exact zb|fail) only [go_sem,seval] at A
 rotate_left 1
 intro i env T hi0 hi A hQ ihA;simp (disch:=first|exact zb|fail) only [go_sem,seval] at A
 rotate_left 1
 · rfl
 · rw [hQ,Nat.sub_self] at h
   have e:((n:Int) - ((n:Int)+1)) = -1:=by omega
   rw [e] at A;refine .qt rfl ?_;simp (disch:=first|exact zb|fail) only [go_sem,seval,A];refine .qF rfl ?_;refine .qt rfl ?_;simp (disch:=first|exact zb|fail) only [go_sem,seval,A];refine .qr rfl Tryz.func103 (by rw [Tryz.results103]) (hx:=by simp (disch:=first|exact zb|fail) only [go_sem,seval,A];rfl) ?_;simp (disch:=first|exact zb|fail) only [go_sem,seval,A];exact h
 · obtain⟨v,hv⟩ : ∃ v:Nat,v=n - i:=⟨_,rfl⟩
   have e:((n:Int) - (i:Int))=(v:Int):=by omega
   have e2:((n:Int) - ((i+1:Nat):Int))=(v:Int) - 1:=by omega
   have e3:n+1 - i=v+1:=by omega
   have e4:n+1 - (i+1)=v:=by omega
   rw [e3] at hQ;rw [hQ] at h;rw [e] at A;rw [e2,e4] at ihA;refine .qt rfl ?_;simp (disch:=first|exact zb|fail) only [go_sem,seval,A];refine .qT rfl ?_;refine .qt rfl ?_;simp (disch:=first|exact zb|fail) only [go_sem,seval,A];refine CallK.of (fun R h=>zeg l hl c hc v _ R h) ?_;simp (disch:=first|exact zb|fail) only [go_sem,seval,A]
   have hr:lrg l c (v+1)=if zku l c v then (v:Int) else lrg l c v:=rfl
   rw [hr] at h hQ
   cases hp:zku l c v with
   | true =>
    rw [hp,if_pos rfl] at h;refine .q ?_;refine .ifT (by simp (disch:=first|exact zb|fail) only [go_sem,seval,hp]) ?_;refine .qt rfl ?_;simp (disch:=first|exact zb|fail) only [go_sem,seval,A];refine .qr rfl Tryz.func103 (by rw [Tryz.results103]) (hx:=by simp (disch:=first|exact zb|fail) only [go_sem,seval,A];rfl) ?_;simp (disch:=first|exact zb|fail) only [go_sem,seval,A];exact h
   | false =>
    rw [hp,if_neg (by decide)] at h hQ;refine .q ?_;refine .ifF (by simp (disch:=first|exact zb|fail) only [go_sem,seval,hp]) ?_;refine .skip ?_;refine .qt rfl ?_;simp (disch:=first|exact zb|fail) only [go_sem,seval,A]
    first | (refine ihA _ _ ?_ hQ ?_) | (refine .z rfl ?_;refine ihA _ _ ?_ hQ ?_) | (refine .z rfl ?_;refine .z rfl ?_;refine ihA _ _ ?_ hQ ?_) | (refine .z rfl ?_;refine .z rfl ?_;refine .z rfl ?_;refine ihA _ _ ?_ hQ ?_)
    · simp (disch:=first|exact zb|fail) only [go_sem,seval,A]<;>(repeat' (first | rfl | refine And.intro ?_ ?_))
    · first | exact .mk _ rfl | exact .mk [] rfl | (apply Later.mk;simp (disch:=first|exact zb|fail) only [go_sem,seval,zv,A];exact rfl) | (apply Later.mk;simp (disch:=first|exact zb|fail) only [go_sem,seval,zv,yq,List.append_assoc,A]<;>(try rfl))
set_option maxHeartbeats 8000000 in
theorem zd8 (l:List Cnd) (hl:l.length≤3) (H:Hp) (R:AV → Hp → Prop) (h:R (.p (bo (znb l))) H):ACall Tryz.prog G 101 [.p (yt l)] H R:=by
 refine ACall.of_run (raw:=[]) Tryz.func101 rfl Tryz.ntmps101 (by simp) fun hbel => ?_
 refine .qt rfl ?_;simp (disch:=first|exact zb|fail) only [go_sem,seval];refine .qt rfl ?_;simp (disch:=first|exact zb|fail) only [go_sem,seval]
 refine .q ?_;first | refine .loopF0 [0] (fun i=>[(3,.p (i64 i))]) (fun i => ∀ j:Nat,j < i → 0≤zfE l j) (0) (4) (by omega) ?_ ?_ ?_ ?_ | refine .loopF [0] (fun i=>[(3,.p (i64 i))]) (fun _=>[]) (fun i => ∀ j:Nat,j < i → 0≤zfE l j) (0) (4) (by omega) ?_ (by rfl) ?_ ?_ ?_
 · simp (disch:=first|exact zb|fail) only [go_sem,seval]<;>(repeat' (first | rfl | refine And.intro ?_ ?_))
 rotate_left 1
 intro env T A hQ;simp (disch:=first|exact zb|fail) only [go_sem,seval] at A
 rotate_left 1
 intro i env T hi0 hi A hQ ihA;simp (disch:=first|exact zb|fail) only [go_sem,seval] at A
 rotate_left 1
 · exact fun j hj=>absurd hj (by omega)
 · have hv:znb l=true:=by
    have h0:=hQ 0 (by omega);have h1:=hQ 1 (by omega);have h2:=hQ 2 (by omega);have h3:=hQ 3 (by omega);have e0:0≤zfE l 0:=h0;have e1:0≤zfE l 1:=h1;have e2:0≤zfE l 2:=h2;have e3:0≤zfE l 3:=h3;simp [znb,four,e0,e1,e2,e3]
   rw [hv] at h;refine .qt rfl ?_;simp (disch:=first|exact zb|fail) only [go_sem,seval,A];refine .qF rfl ?_;refine .qt rfl ?_;simp (disch:=first|exact zb|fail) only [go_sem,seval,A];refine .qr rfl Tryz.func101 (by rw [Tryz.results101]) (hx:=by simp (disch:=first|exact zb|fail) only [go_sem,seval,A];rfl) ?_;simp (disch:=first|exact zb|fail) only [go_sem,seval,A];exact h
 · refine .qt rfl ?_;simp (disch:=first|exact zb|fail) only [go_sem,seval,A];refine .qT rfl ?_;refine .qt rfl ?_;simp (disch:=first|exact zb|fail) only [go_sem,seval,A];refine CallK.of (fun R h=>zbO l hl (i:Int) (by omega) _ R h) ?_;simp (disch:=first|exact zb|fail) only [go_sem,seval,A]
   rcases Classical.em (zfE l i < 0) with a | a
   · have hv:znb l=false:=by
      unfold znb;rw [List.all_eq_false]
      refine⟨(i:Int),?_,by simp;omega⟩
      have:i=0 ∨ i=1 ∨ i=2 ∨ i=3:=by omega
      rcases this with rfl | rfl | rfl | rfl<;>simp [four]
     rw [hv] at h;refine .qT rfl ?_;refine .qt rfl ?_;simp (disch:=first|exact zb|fail) only [go_sem,seval,A];refine .qr rfl Tryz.func101 (by rw [Tryz.results101]) (hx:=by simp (disch:=first|exact zb|fail) only [go_sem,seval,A];rfl) ?_;simp (disch:=first|exact zb|fail) only [go_sem,seval,A];exact h
   · refine .qF rfl ?_;refine .skip ?_;refine .qt rfl ?_;simp (disch:=first|exact zb|fail) only [go_sem,seval,A]
     first | (refine ihA _ _ ?_ (fun j hj=>by by_cases e:j=i;(subst e;omega);exact hQ j (by omega)) ?_) | (refine .z rfl ?_;refine ihA _ _ ?_ (fun j hj=>by by_cases e:j=i;(subst e;omega);exact hQ j (by omega)) ?_) | (refine .z rfl ?_;refine .z rfl ?_;refine ihA _ _ ?_ (fun j hj=>by by_cases e:j=i;(subst e;omega);exact hQ j (by omega)) ?_) | (refine .z rfl ?_;refine .z rfl ?_;refine .z rfl ?_;refine ihA _ _ ?_ (fun j hj=>by by_cases e:j=i;(subst e;omega);exact hQ j (by omega)) ?_)
     · simp (disch:=first|exact zb|fail) only [go_sem,seval,A]<;>(repeat' (first | rfl | refine And.intro ?_ ?_))
     · first | exact .mk _ rfl | exact .mk [] rfl | (apply Later.mk;simp (disch:=first|exact zb|fail) only [go_sem,seval,zv,A];exact rfl) | (apply Later.mk;simp (disch:=first|exact zb|fail) only [go_sem,seval,zv,yq,List.append_assoc,A]<;>(try rfl))
theorem zhL (c:Int) (hc:0≤c∧c < 4) (H:Hp) (R:AV → Hp → Prop) (h:R (.p (i64 (if c=1 ∨ c=3 then 8 else 4))) H):ACall Tryz.prog G 99 [.p (i64 c)] H R:=by
 have:c=0 ∨ c=1 ∨ c=2 ∨ c=3:=by omega
 refine ACall.of_run (raw:=[]) Tryz.func99 rfl Tryz.ntmps99 (by simp) fun hbel => ?_
 refine .qt rfl ?_;simp (disch:=first|exact zb|fail) only [go_sem,seval];refine .qt rfl ?_;simp (disch:=first|exact zb|fail) only [go_sem,seval]
 rcases this with rfl | rfl | rfl | rfl
 · refine .qt rfl ?_;simp (disch:=first|exact zb|fail) only [go_sem,seval];refine .qT rfl ?_;refine .qt rfl ?_;simp (disch:=first|exact zb|fail) only [go_sem,seval];refine .qr rfl Tryz.func99 (by rw [Tryz.results99]) ?_;simp (disch:=first|exact zb|fail) only [go_sem,seval];exact h
 · refine .qt rfl ?_;simp (disch:=first|exact zb|fail) only [go_sem,seval];refine .qF rfl ?_;refine .qt rfl ?_;simp (disch:=first|exact zb|fail) only [go_sem,seval];refine .qT rfl ?_;refine .qt rfl ?_;simp (disch:=first|exact zb|fail) only [go_sem,seval];refine .qr rfl Tryz.func99 (by rw [Tryz.results99]) ?_;simp (disch:=first|exact zb|fail) only [go_sem,seval];exact h
 · refine .qt rfl ?_;simp (disch:=first|exact zb|fail) only [go_sem,seval];refine .qF rfl ?_;refine .qt rfl ?_;simp (disch:=first|exact zb|fail) only [go_sem,seval];refine .qF rfl ?_;refine .qt rfl ?_;simp (disch:=first|exact zb|fail) only [go_sem,seval];refine .qT rfl ?_;refine .qt rfl ?_;simp (disch:=first|exact zb|fail) only [go_sem,seval];refine .qr rfl Tryz.func99 (by rw [Tryz.results99]) ?_;simp (disch:=first|exact zb|fail) only [go_sem,seval];exact h
 · refine .qt rfl ?_;simp (disch:=first|exact zb|fail) only [go_sem,seval];refine .qF rfl ?_;refine .qt rfl ?_;simp (disch:=first|exact zb|fail) only [go_sem,seval];refine .qF rfl ?_;refine .qt rfl ?_;simp (disch:=first|exact zb|fail) only [go_sem,seval];refine .qF rfl ?_;refine .qt rfl ?_;simp (disch:=first|exact zb|fail) only [go_sem,seval];refine .qT rfl ?_;refine .qt rfl ?_;simp (disch:=first|exact zb|fail) only [go_sem,seval];refine .qr rfl Tryz.func99 (by rw [Tryz.results99]) ?_;simp (disch:=first|exact zb|fail) only [go_sem,seval];exact h
set_option maxHeartbeats 8000000 in
theorem zqm (x y z:Nat) (hz:x*y=z) (hx:z < 17596287801000001) (hx1:x < 17596287801000001) (hy:y < 256) (hxy:x=0 ∨ y≤4611686018427387903 / x) (H:Hp) (R:AV → Hp → Prop) (h:R (.tup [.p (i64 z),.p (bo true)]) H):ACall Tryz.prog G 143 [.p (i64 x),.p (i64 y)] H R:=by
 refine ACall.of_run (raw:=[]) Tryz.func143 rfl Tryz.ntmps143 (by simp) fun hbel => ?_
 have hzi:(x:Int)*(y:Int)=(z:Int):=by rw [←hz];exact (Int.natCast_mul ..).symm
 refine .qt rfl ?_;simp (disch:=first|exact zb|fail) only [go_sem,seval]
 rcases Classical.em (x=0) with a | a
 · refine .qt rfl ?_;simp (disch:=first|exact zb|fail) only [go_sem,seval];refine .qF rfl ?_;refine .skip ?_;refine .qt rfl ?_;simp (disch:=first|exact zb|fail) only [go_sem,seval,hzi];refine .qr rfl Tryz.func143 (by rw [Tryz.results143]) ?_;simp (disch:=first|exact zb|fail) only [go_sem,seval];exact h
 · have hq:(4611686018427387903:Int) / (x:Int)=((4611686018427387903 / x:Nat):Int):=(Int.natCast_ediv 4611686018427387903 x).symm;have hy2:y≤4611686018427387903 / x:=hxy.resolve_left a;refine .qt rfl ?_;simp (disch:=first|exact zb|fail) only [go_sem,seval,hq]
   generalize 4611686018427387903 / x=k at *
   refine .qF rfl ?_;refine .skip ?_;refine .qt rfl ?_;simp (disch:=first|exact zb|fail) only [go_sem,seval,hzi];refine .qr rfl Tryz.func143 (by rw [Tryz.results143]) ?_;simp (disch:=first|exact zb|fail) only [go_sem,seval];exact h
set_option maxHeartbeats 8000000 in
theorem zdM (n m k:Nat) (hn:n≤64) (hm:m≤255) (hk:k≤6) (H:Hp) (R:AV → Hp → Prop) (h:R (.tup [.p (i64 (pw n m k:Nat)),.p (bo true)]) H):ACall Tryz.prog G 102 [.p (i64 n),.p (i64 m),.p (i64 k)] H R:=by
 refine ACall.of_run (raw:=[]) Tryz.func102 rfl Tryz.ntmps102 (by simp) fun hbel => ?_
 have h00:pw n m 0=n:=by simp [pw]
 refine .qt rfl ?_;simp (disch:=first|exact zb|fail) only [go_sem,seval];refine .qt rfl ?_;simp (disch:=first|exact zb|fail) only [go_sem,seval];refine .qt rfl ?_;simp (disch:=first|exact zb|fail) only [go_sem,seval]
 refine .q ?_;first | refine .loopF0 [1,2] (fun i=>[(8,.p (i64 (pw n m i:Nat))),(9,.p (bo true)),(10,.p (i64 i))]) (fun i=>True) (0) (k) (by omega) ?_ ?_ ?_ ?_ | refine .loopF [1,2] (fun i=>[(8,.p (i64 (pw n m i:Nat))),(9,.p (bo true)),(10,.p (i64 i))]) (fun _=>[]) (fun i=>True) (0) (k) (by omega) ?_ (by rfl) ?_ ?_ ?_
 · simp (disch:=first|exact zb|fail) only [go_sem,seval,h00]<;>(repeat' (first | rfl | refine And.intro ?_ ?_))
 · exact trivial
 intro env T E hQ;simp (disch:=first|exact zb|fail) only [go_sem,seval,h00] at E
 rotate_left 1
 intro i env T hi0 hi E hQ ihE;simp (disch:=first|exact zb|fail) only [go_sem,seval,h00] at E
 rotate_left 1
 · refine .qt rfl ?_;simp (disch:=first|exact zb|fail) only [go_sem,seval,E];refine .qF rfl ?_;refine .qt rfl ?_;simp (disch:=first|exact zb|fail) only [go_sem,seval,E];refine .qr rfl Tryz.func102 (by rw [Tryz.results102]) (hx:=by simp (disch:=first|exact zb|fail) only [go_sem,seval,E];rfl) ?_;simp (disch:=first|exact zb|fail) only [go_sem,seval,E];exact h
 · have h1:=zd4 hm (show i≤6 by omega);have h2:=zd4 hm (show i+1≤6 by omega);have h1':pw n m i≤64*274941996890625:=Nat.mul_le_mul hn h1;have h2':pw n m (i+1)≤64*274941996890625:=Nat.mul_le_mul hn h2
   have h3:pw n m i*m=pw n m (i+1):=by unfold pw;rw [Nat.pow_succ,Nat.mul_assoc]
   have h4:pw n m i=0 ∨ m≤4611686018427387903 / (pw n m i):=by
    rcases Nat.eq_zero_or_pos (pw n m i) with e | e
    · exact .inl e
    · right
      rw [Nat.le_div_iff_mul_le e,Nat.mul_comm,h3];omega
   clear h1 h2
   refine .qt rfl ?_;simp (disch:=first|exact zb|fail) only [go_sem,seval,E];refine .qT rfl ?_
   generalize pw n m (i+1)=z at *
   generalize pw n m i=x at *
   refine .qt rfl ?_;simp (disch:=first|exact zb|fail) only [go_sem,seval,E];refine CallK.of (fun R h=>zqm x m z h3 (by omega) (by omega) (by omega) h4 _ R h) ?_;simp (disch:=first|exact zb|fail) only [go_sem,seval,E];refine .qt rfl ?_;simp (disch:=first|exact zb|fail) only [go_sem,seval,E];refine .qt rfl ?_;simp (disch:=first|exact zb|fail) only [go_sem,seval,E];refine .qt rfl ?_;simp (disch:=first|exact zb|fail) only [go_sem,seval,E]
   first | (refine ihE _ _ ?_ trivial ?_) | (refine .z rfl ?_;refine ihE _ _ ?_ trivial ?_) | (refine .z rfl ?_;refine .z rfl ?_;refine ihE _ _ ?_ trivial ?_) | (refine .z rfl ?_;refine .z rfl ?_;refine .z rfl ?_;refine ihE _ _ ?_ trivial ?_)
   · simp (disch:=first|exact zb|fail) only [go_sem,seval,E]<;>(repeat' (first | rfl | refine And.intro ?_ ?_))
   · first | exact .mk _ rfl | exact .mk [] rfl | (apply Later.mk;simp (disch:=first|exact zb|fail) only [go_sem,seval,zv,E];exact rfl) | (apply Later.mk;simp (disch:=first|exact zb|fail) only [go_sem,seval,zv,yq,List.append_assoc,E]<;>(try rfl))
end walks
end Go.Proofs.YthaoifcebimkfaaGreatDoor
