/- Proofs. -/
import Derived.Test.YthaoifcebimkfaaGreatDoorPkS2
import Derived.Shelf.Spec.SlicesGrow
set_option linter.unusedSectionVars false
set_option linter.unusedSimpArgs false
set_option linter.unusedVariables false
namespace Go.AL
open Go
theorem ACall.backZ {P:Program} {G:Globs} {f:FuncId} {args:List AV} {H:Hp} {S:AV → Prop} (h:ACall P G f args H (fun r H'=>S r∧H'.f=H.f∧H'.n=H.n)):ACall P G f args H (fun r H'=>S r∧H'=H):=by
 intro σ w vs hr ha;refine (h σ w vs hr ha).mono ?_
 rintro e w' ⟨r,⟨f',n',wf',z'⟩,σ',v,⟨hS,hf,hn⟩,he,hrel,hv,hev⟩
 simp only at hf hn;subst hf;subst hn
 have hb:Ev H.n σ' ⟨H.f,H.n,wf',z'⟩ w' σ' H w' :=
  ⟨fun _ _ _ a b=>⟨a,b⟩,fun _ _=>rfl,Nat.le_refl _,fun _ _ k c hk=>⟨k,c,hk,Nat.le_refl _,fun _=>rfl⟩,Nat.le_refl _,fun _ _ h=>⟨rfl,⟨h.1,h.2,h.3⟩⟩,rfl,rfl⟩
 have hev2:Ev H.n σ H w σ' H w':=hev.trans (n1:=H.n) hb (Nat.le_refl _)
 refine⟨r,H,σ',v,⟨hS,rfl⟩,he,?_,hv.mono hb,hev2⟩
 refine⟨fun b cs h => ?_,hrel.tail,fun b k cs h => ?_,hrel.cc,hrel.ct,hrel.tt,hrel.glob_mono hb,fun b vs S h => ?_,hrel.oo,hrel.gm_mono hb,fun g' sz' xs' h=>(hr.z g' sz' xs' h).mono hev2⟩
 · obtain⟨c,e,q1,q2,q3⟩:=hrel.cells b cs h
   exact⟨c,e,q1,q2,fun i y hy=>let ⟨v,p,q⟩:=q3 i y hy;⟨v,p,q.mono hb⟩⟩
 · obtain⟨q0,q1,q2⟩:=hrel.vec b k cs h
   exact⟨q0,q1,fun g o s hg=>let ⟨p0,p1,p2⟩:=q2 g o s hg;⟨p0,p1,fun i x hx=>let ⟨v,a,b'⟩:=p2 i x hx;⟨v,a,b'.mono hb⟩⟩⟩
 · obtain⟨o,us,q1,q2,q3,q4⟩:=hrel.objs b vs S h
   exact⟨o,us,q1,q2,q3.mono hb,q4⟩
end Go.AL
namespace Go.Proofs.YthaoifcebimkfaaGreatDoor
open Go Go.AL
def Ap (s t:List Nd):Prop := ∃ u,t=s++u ∧ ∀ x∈u,okC x.k
theorem Ap.refl (s:List Nd):Ap s s:=⟨[],by simp,by simp⟩
theorem Ap.trans {s t u:List Nd} (h:Ap s t) (h':Ap t u):Ap s u:=by
 obtain⟨a,rfl,ha⟩:=h
 obtain⟨b,rfl,hb⟩:=h'
 exact⟨a++b,by simp,fun x hx=>(List.mem_append.1 hx).elim (ha x) (hb x)⟩
theorem Ap.sm {s t:List Nd} (h:Ap s t) (hs:SmC s):SmC t:=fun j hj=>by
 obtain⟨u,rfl,hu⟩:=h
 by_cases e:j < s.length
 · rw [zI e];exact hs j e
 · rw [zA (by omega),zh (by simp at hj;omega)];exact hu _ (List.getElem_mem _)
theorem za9 (s:List Nd) (l r:Nat) {k:Cf} (hk:okC k):Ap s (addN s l r k).2:=by
 rw [yP]
 split
 · exact .refl s
 · exact⟨[_],rfl,by simpa using hk⟩
theorem yX {c a b d:Int} (h : -1000≤c∧c≤1000:=by omega) (h' : -1000≤a∧a≤1000:=by omega) (h'' : -1000≤b∧b≤1000:=by omega) (h3 : -1000≤d∧d≤1000:=by omega):okC ⟨c,a,b,d⟩:=⟨h,h',h'',h3⟩
theorem zeM (s:List Nd) (l r:Nat):Ap s (prN s l r).2:=za9 s l r yX
theorem zqg (m o:Bool):okC (ziY m o):=by cases m<;>cases o<;>exact yX
theorem zAe (most:Bool) (n x i:Nat) (p:Option Nat × List Nd):Ap p.2 (zaR most n x i p).2:=by
 unfold zaR
 split
 · split
   · split
     · exact .refl _
     · exact za9 _ _ _ yX
   · split<;>exact .refl _
 · exact za9 _ _ _ (zqg _ _)
theorem zjo (most:Bool) (n c:Nat) (s:List Nd) : ∀ i,Ap s (yB most n c s i).2
 | 0 => .refl s
 | i+1=>(zjo most n c s i).trans (zAe ..)
theorem zBZ (c:Cnd) (p:BS):Ap p.2 (mt1 c p).2:=by
 unfold mt1
 split
 · exact (zjo ..).trans (zeM ..)
 · exact .refl _
theorem zB0 (c:Cnd) (p:BS):Ap p.2 (mt2 c p).2:=by
 unfold mt2
 split
 · exact (zjo ..).trans (zeM ..)
 · exact .refl _
theorem zfA (l:List Cnd) (s:List Nd) : ∀ i,Ap s (zbV l s i).2
 | 0 => .refl s
 | i+1=>((zfA l s i).trans (zBZ ..)).trans (zB0 ..)
theorem zgN (u:Nat):okC (zap u):=by
 match u with
 | 0=>exact yX
 | 1=>exact yX
 | 2=>exact yX
 | 3=>exact yX
 | u+4=>exact yX
theorem zAf (c v:Nat) (s:List Nd):Ap s (zcR c v s).2 :=
 ((za9 _ _ _ (zgN _)).trans (za9 _ _ _ (zgN _))).trans (zeM ..)
theorem zqh (m c:Nat) (s:List Nd) : ∀ i,Ap s (yQ m c s i).2
 | 0 => .refl s
 | i+1=>((zqh m c s i).trans (zAf ..)).trans (zeM ..)
theorem zjp (l:List Cnd) (c:Nat) (s:List Nd):Ap s (y5 l c s).2:=(zfA l s l.length).trans (zqh (yl l s).1 c (yl l s).2 16)
theorem zqi (c:Nat) (s:List Nd) : ∀ i,Ap s (zbW c s i).2
 | 0 => .refl s
 | i+1=>(zqi c s i).trans (zeM ..)
theorem zx4 (q:Qry) (s:List Nd):Ap s (zB q s).2:=by
 unfold zB
 split
 · exact zfA (nth q.fl 0) s (nth q.fl 0).length
 · split
   · exact ((zfA (nth q.fl 0) s (nth q.fl 0).length).trans (zqi q.col.toNat (yl (nth q.fl 0) s).2 (q.k - 1).toNat)).trans (zeM _ _ _)
   · split
     · dsimp only;exact Ap.trans (t:=(y5 (nth q.fl 0) 0 s).2) (zjp (nth q.fl 0) 0 s) (zjp (nth q.fl 1) 0 (y5 (nth q.fl 0) 0 s).2)
     · exact zjp (nth q.fl 0) q.col.toNat s
theorem zo8 (s:List Nd) (x:Nat):Ap s (chk s x).2:=za9 _ _ _ yX
theorem zAI {c:Nat} (p:LBS) : ∀ k,k≤8 → Ap p.2 (zT c p k).s
 | 0,_ => .refl _
 | k+1,hk=>by
  have ih:=zAI (c:=c) p k (by omega);unfold zT zS
  split
  · exact ih.trans (zo8 (zT c p k).s (zf c+k))
  · have h2:(2:Int) ^ k≤128∧0 < (2:Int) ^ k:=by
     have e:(2:Int) ^ k=((2 ^ k:Nat):Int):=by simp
     have h1:2 ^ k≤2 ^ 7:=Nat.pow_le_pow_right (by decide) (by omega);have h3:=Nat.two_pow_pos k;have h4:2 ^ 7=128:=rfl;omega
    exact (ih.trans (zo8 (zT c p k).s (zf c+k))).trans (za9 (chk (zT c p k).s (zf c+k)).2 (zT c p k).sum (zf c+k) (k:=⟨0,1,2 ^ k,0⟩) (yX (by omega) (by omega) (by omega) (by omega)))
theorem zAg (c:Nat) (p:LBS):Ap p.2 (zec c p).2:=(zAI p (zR c) (zaz c)).trans (za9 (zT c p (zR c)).s (zT c p (zR c)).sum c (k:=⟨0,1,-1,0⟩) yX)
theorem zjq (q:Qry) (s:List Nd) : ∀ c,Ap s (yR q s c).2
 | 0=>zo8 s 4
 | c+1=>by
  unfold yR
  split
  · exact (zjq q s c).trans (zAg c (yR q s c))
  · exact zjq q s c
theorem SmC.nil:SmC []:=fun j h=>absurd h (Nat.not_lt_zero _)
theorem zx5 (q:Qry):SmC (yt q).2.2:=((zx4 q []).trans (zjq q _ 4)).sm SmC.nil
theorem zAh {l:List Cnd} {s:List Nd}:(yl l s).1 < 29+(yl l s).2.length:=zeo (l:=l) (s:=s) l.length
theorem zlU {q:Qry} (hq:vQ q=true):ZOk [] (zB q []).1 236 (zB q []).2∧(zB q []).1.length≤32:=by
 obtain⟨hfl,hlf⟩:q.fl.length=(if q.kind=7 then 2 else 1) ∧ ∀ x∈q.fl,vF x=true:=by
  simp only [vQ,Bool.and_eq_true,decide_eq_true_eq,List.all_eq_true] at hq;exact⟨hq.2.2.2.2.1,hq.2.2.2.2.2⟩
 have hK:q.k≤yd q.kind:=by
  simp only [vQ,Bool.and_eq_true,decide_eq_true_eq] at hq;exact hq.2.2.2.1.2
 have h3 : ∀ i,i < q.fl.length → (nth q.fl i).length≤3:=fun i hi=>zoZ (zbL hq hi)
 have h0:=h3 0 (by rw [hfl];split<;>decide)
 have g1 : ∀ (l:List Cnd) (s:List Nd),l.length≤3 → (yl l s).2.length≤s.length+54∧s.length≤(yl l s).2.length:=fun l s h=>⟨by have:=(zbp l).len s;omega,((zbp l).ext s).len⟩
 have g2 : ∀ (l:List Cnd) (c:Nat) (s:List Nd),l.length≤3 → ZOk s (y5 l c s).1 118 (y5 l c s).2∧(y5 l c s).1.length=16:=fun l c s h =>
  ⟨⟨((zee l c).ext s).len,by have:=(zee l c).len s;omega,fun x hx=>zep 16 x hx⟩,zbt 16⟩
 unfold zB
 split
 · have:=g1 (nth q.fl 0) [] h0
   refine⟨⟨Nat.zero_le _,by simp only [List.length_nil] at *;omega,fun x hx => ?_⟩,by simp⟩
   simp only [List.mem_singleton] at hx;subst hx;exact zAh
 · split
   · rename_i h1 h2
     have hk:q.k≤6:=by
      rcases h2 with e | e<;>rw [e] at hK
      · have:yd 2=0:=rfl
        omega
      · exact hK
     have a:=g1 (nth q.fl 0) [] h0;have b:=(zgv q.col.toNat (q.k - 1).toNat).len (yl (nth q.fl 0) []).2;have c:=zoI (zbW q.col.toNat (yl (nth q.fl 0) []).2 (q.k - 1).toNat).2 (yl (nth q.fl 0) []).1 (zbW q.col.toNat (yl (nth q.fl 0) []).2 (q.k - 1).toNat).1;have d:=(zcm (yl (nth q.fl 0) []).1 (zbW q.col.toNat (yl (nth q.fl 0) []).2 (q.k - 1).toNat).1).len (zbW q.col.toNat (yl (nth q.fl 0) []).2 (q.k - 1).toNat).2
     refine⟨⟨Nat.zero_le _,by simp only [List.length_nil] at *;omega,fun x hx => ?_⟩,by simp⟩
     simp only [List.mem_singleton] at hx;subst hx;exact c
   · split
     · rename_i h7;have h1:=h3 1 (by rw [hfl,if_pos h7];decide)
       obtain⟨a1,a2⟩:=g2 (nth q.fl 0) 0 [] h0
       obtain⟨b1,b2⟩:=g2 (nth q.fl 1) 0 (y5 (nth q.fl 0) 0 []).2 h1
       dsimp only
       refine⟨⟨Nat.zero_le _,?_,fun x hx => ?_⟩,?_⟩
       · have:=a1.hi;have:=b1.hi;simp only [List.length_nil] at *;omega
       · rcases List.mem_append.1 hx with e | e
         · have:=a1.mem x e;have:=b1.lo;omega
         · exact b1.mem x e
       · rw [List.length_append,a2,b2];exact Nat.le_refl _
     · obtain⟨a1,a2⟩:=g2 (nth q.fl 0) q.col.toNat [] h0
       exact⟨a1.more (by omega),by rw [a2];omega⟩
theorem zfB {q:Qry} (hq:vQ q=true):(∀ x∈(yt q).1++(yt q).2.1,x < 29+(yt q).2.2.length)∧(yt q).2.2.length≤305∧(yt q).1.length≤32∧((yt q).1++(yt q).2.1).length≤69∧0 < (yt q).2.1.length:=by
 obtain⟨a,b⟩:=zlU hq
 have c:=zje (q:=q) (s:=(zB q []).2) 4 (Nat.le_refl _);have d:=zgB (q:=q) (s:=(zB q []).2) 4 (Nat.le_refl _)
 have e : ∀ c,0 < (yR q (zB q []).2 c).1.length:=fun c=>by
  induction c with
  | zero=>exact Nat.zero_lt_one
  | succ c ih =>
   unfold yR
   split
   · unfold zec;simp
   · exact ih
 have hn:(yt q).2.2=(yR q (zB q []).2 4).2:=rfl;have h1:(yt q).1=(zB q []).1:=rfl;have h2:(yt q).2.1=(yR q (zB q []).2 4).1:=rfl;rw [hn,h1,h2]
 refine⟨fun x hx => ?_,?_,b,?_,e 4⟩
 · rcases List.mem_append.1 hx with h | h
   · have:=a.mem x h;have:=c.lo;omega
   · exact c.mem x h
 · have:=a.hi;have:=c.hi;simp only [List.length_nil] at *;omega
 · rw [List.length_append];omega
end Go.Proofs.YthaoifcebimkfaaGreatDoor

namespace Go.Proofs.YthaoifcebimkfaaGreatDoor
open Go Go.AL

theorem zb2 {s:List Nd} (hw:Wf s) {d:Nat} {o:List Nat} (ho : ∀ x∈o,x < 29+s.length) : ∀ i,i≤o.length → Cov s d (yI s d o ⟨[],List.replicate d []⟩ i).2
 | 0,_=>Cov.none s d
 | i+1,hi=>(zb0 hw d _ _ (zb2 hw ho i (by omega)) (Nat.le_refl _) (ho _ (by rw [zh hi];exact List.getElem_mem _))).1
theorem zh8 {s:List Nd} (hw:Wf s) {o:List Nat} (ho : ∀ x∈o,x < 29+s.length):(zbn s o).length=depth s o:=by
 unfold zbn;dsimp only;rw [List.length_set];exact (zb2 (d:=depth s o) hw ho o.length (Nat.le_refl _)).len
theorem zlV {s:List Nd} (hw:Wf s) {o:List Nat} (ho : ∀ x∈o,x < 29+s.length) {m:Nat} (h:o.length≤m) (h':29+s.length≤m) : ∀ x∈zbn s o,x.length≤m:=by
 intro x hx;unfold zbn at hx;dsimp only at hx
 rcases List.mem_or_eq_of_mem_set hx with e | e
 · obtain⟨k,hk,rfl⟩:=List.getElem_of_mem e
   have:=(zb2 (d:=depth s o) hw ho o.length (Nat.le_refl _)).le k
   rw [zh hk] at this;omega
 · rw [e,zb1];exact h
theorem zx6 {c:Nat} {p:LBS} {x:Nat} (h:x∈p.1) : ∀ k,x∈(zT c p k).o
 | 0=>h
 | k+1=>by
  have ih:=zx6 (c:=c) h k;unfold zT zS
  split<;>simp [ih]
theorem zeN {q:Qry} {s:List Nd} : ∀ c,(chk s 4).1∈(yR q s c).1
 | 0=>by simp [yR]
 | c+1=>by
  have ih:=zeN (q:=q) (s:=s) c;unfold yR
  split
  · unfold zec;simp [zx6 ih]
  · exact ih
section walks
variable {G:Globs} {r1:Nat} {m1:List (Int × Int)}
set_option maxHeartbeats 16000000 in
set_option maxRecDepth 20000 in
theorem zdt (g:GW G r1 m1) (q:Qry) (hk:okI q.kind) (H:Hp):ACall Tryz.prog G 10 [.p (qry q)] H (fun r H'=>(r = .tup [.p (zbK (yz q).1),.p (i64 (yz q).2)]∧(yi q=0 → Wf (yt q).2.2))∧H'=H):=by
 refine ACall.backZ ?_
 refine ACall.of_run (raw:=[]) Tryz.func10 rfl Tryz.ntmps10 (by simp) fun hbel => ?_
 refine .qt rfl ?_;simp (disch:=first|exact za|fail) only [go_sem,seval]
 cases hv:vQ q with
 | false =>
  have he:yi q=1:=by rw [yi,hv];rfl
  have hc:yz q=(⟨0,[],0⟩,1):=by rw [yz,he];rfl
  rw [hc];refine .qt rfl ?_;simp (disch:=first|exact za|fail) only [go_sem,seval];refine CallK.of (fun R h=>zcs q hk _ R h) ?_;simp (disch:=first|exact za|fail) only [go_sem,seval,hv];refine .qT rfl ?_;refine .qt rfl ?_;simp (disch:=first|exact za|fail) only [go_sem,seval];refine .qr rfl Tryz.func10 (by rw [Tryz.results10]) ?_;simp (disch:=first|exact za|fail) only [go_sem,seval]
  exact fun e=>by rw [he] at e;cases e
 | true =>
  refine .qt rfl ?_;simp (disch:=first|exact za|fail) only [go_sem,seval];refine CallK.of (fun R h=>zcs q hk _ R h) ?_;simp (disch:=first|exact za|fail) only [go_sem,seval,hv];refine .qF rfl ?_;refine .skip ?_;refine .qt rfl ?_;simp (disch:=first|exact za|fail) only [go_sem,seval];refine CallK.ex (zgL g q hk _) ?_
  rintro _ _ ⟨⟨x,rfl⟩,rfl⟩
  simp (disch:=first|exact za|fail) only [go_sem,seval]
  rcases Classical.em (yi q=0) with he | he
  · rw [he];refine .qt rfl ?_;simp (disch:=first|exact za|fail) only [go_sem,seval];refine .qF rfl ?_;refine .skip ?_
    obtain⟨X,hX⟩ : ∃ X,X=((H.new (.cells [.p (i64 q.kind),.p (i64 q.col),.p (i64 q.k),.p (.sl false 1 (pl yp q.fl))])).new (.cells [.p (i64 0),.p (.sl true 1 []),.p (i64 0)])).new (.cells [.p x]):=⟨_,rfl⟩
    have hXn:X.n=H.n+3:=by rw [hX,n_new',n_new',n_new']
    have hX0:X.f H.n=some (.cells [.p (i64 q.kind),.p (i64 q.col),.p (i64 q.k),.p (.sl false 1 (pl yp q.fl))]):=by rw [hX];simp (disch:=first|exact za|fail) only [go_sem,seval]
    have hXl : ∀ b,b < H.n → X.f b=H.f b:=fun b hb=>by rw [hX];simp (disch:=first|exact za|fail) only [go_sem,seval]
    have hX1:X.f (H.n+1)=some (.cells [.p (i64 0),.p (.sl true 1 []),.p (i64 0)]):=by rw [hX];simp (disch:=first|exact za|fail) only [go_sem,seval]
    have hXb:Bel H.n X:=by
     rw [hX]
     repeat (first | with_reducible refine zam ?_ za | with_reducible refine zaG ?_ za | with_reducible exact hbel)
    rw [←hX]
    clear hX
    refine .qt rfl ?_;simp (disch:=first|exact za|fail) only [go_sem,seval];refine CallK.ex (ztw _) ?_
    rintro _ H1 ⟨ad,hB,rfl,hn1,hf1⟩
    rw [hXn] at hB hf1 hn1 ⊢;have q1:=(hf1 H.n (by omega)).trans hX0;simp (disch:=first|exact za|fail) only [go_sem,seval];refine .qt rfl ?_;simp (disch:=first|exact za|fail) only [go_sem,seval,q1];refine CallK.ex (ztt g q hv hB (by decide)) ?_
    rintro _ H2 ⟨ad2,hB2,n2,rfl⟩
    have q2:=(n2.f H.n (by omega)).trans q1
    obtain⟨o1,o2⟩:=zlU hv
    have o3:=o1.hi;have o4:=o1.mem;simp only [List.length_nil,Nat.zero_add] at o3;simp (disch:=first|exact za|fail) only [go_sem,seval];refine .qt rfl ?_;simp (disch:=first|exact za|fail) only [go_sem,seval,q2];refine CallK.ex (zoS g q hv hB2 (by omega)) ?_
    rintro _ H3 ⟨ad3,hB3,n3,rfl⟩
    have q3:=(n3.f H.n (by omega)).trans q2;rw [zlH (ad:=ad2) (ad':=ad3) fun x hx=>n3.ad x (o4 x hx)];have hb3:AV.p (.sl true 1 [.sl false 1 (pl (fun i=>ptp (ad3 i)) (zB q []).1),.sl false 1 (pl (fun i=>ptp (ad3 i)) (yV q (zB q []).2).1)]) = .p (.sl true 1 (pl (pn ad3) [(zB q []).1,(yV q (zB q []).2).1])):=rfl
    have hold : ∀ b,b < H.n+3 → H3.f b=X.f b:=fun b hb=>(n3.f b (by omega)).trans ((n2.f b (by omega)).trans (hf1 b hb))
    have hn3:H.n+3≤H3.n:=by have:=n3.n;have:=n2.n;omega
    obtain⟨p1,p2,p3,p4,p5⟩:=zfB hv
    have hC:=zx5 q;have hWf:Wf (yt q).2.2:=hB3.wf
    have hcQ:yz q=if zgr (zbn (yV q (zB q []).2).2 ((zB q []).1++(yV q (zB q []).2).1)) then (⟨0,[],0⟩,2) else (⟨29,zbn (yV q (zB q []).2).2 ((zB q []).1++(yV q (zB q []).2).1),(zB q []).1.length⟩,0):=by
     unfold yz;rw [if_pos he];rfl
    rw [hcQ]
    change ∀ x∈(zB q []).1++(yV q (zB q []).2).1,x < 29+(yV q (zB q []).2).2.length at p1
    change (yV q (zB q []).2).2.length≤305 at p2
    change (zB q []).1.length≤32 at p3
    change ((zB q []).1++(yV q (zB q []).2).1).length≤69 at p4
    change SmC (yV q (zB q []).2).2 at hC
    have p6 : ∃ y∈(zB q []).1++(yV q (zB q []).2).1,0 < lev (yV q (zB q []).2).2 y:=by
     have hm:=zeN (q:=q) (s:=(zB q []).2) 4
     refine⟨_,List.mem_append_right _ hm,?_⟩
     have h29:29≤(chk (zB q []).2 4).1:=by unfold chk;rw [zaq];omega
     refine Nat.pos_of_ne_zero fun h0 => ?_
     have:=zel hB3.wf (p1 _ (List.mem_append_right _ hm)) h0
     omega
    clear hcQ o4
    simp (disch:=first|exact za|fail) only [go_sem,seval,hb3]
    generalize (zB q []).1=a at *
    generalize yV q (zB q []).2=z at *
    obtain⟨b,S⟩:=z
    simp only at hB3 p1 p2 p3 p4 p6 hC ⊢;have hcat:zlC [a,b] 2=a++b:=rfl
    have htot:zcy [a,b] 2=(a++b).length:=by rw [←hcat,zlD]
    have hlab:0 < (a++b).length:=by
     obtain⟨y,hy,_⟩:=p6
     exact List.length_pos_of_mem hy
    have hdp:0 < depth S (a++b):=by
     obtain⟨y,hy,hy0⟩:=p6
     have:=zbx (s:=S) hy
     omega
    have hlw:=zh8 hB3.wf p1;have hll:=zlV hB3.wf p1 (m:=1000) (by omega) (by omega)
    have hdl:depth S (a++b)≤1000:=zc6 fun x hx=>by have:=p1 x hx;have:=zdO hB3.wf x this;omega
    refine CallK.of (fun R h=>zeq ad3 [a,b] (by show 2≤1000;omega) (by show 0 < zcy [a,b] 2;omega) (by show zcy [a,b] 2≤_;omega) _ R h) ?_;simp (disch:=first|exact za|fail) only [go_sem,seval];rw [hcat];refine CallK.ex (zlT hB3.wf hC hB3.inj (by omega) (a++b) p1 (by omega) hdp H3 hB3.nd) ?_
    rintro _ H4 ⟨rfl,hH4⟩
    rw [hH4]
    clear hH4
    generalize zbn S (a++b)=ls at *
    have qX:=(hold (H.n+1) (by omega)).trans hX1
    have hbel:Bel H.n H3:=fun b x hb hx=>hXb b x hb (by rw [←hold b (by omega)];exact hx)
    have hend:(H3.trunc H.n).f=H.f:=funext fun b=>by
     rw [Hp.f_trunc]
     split
     · exact (hold b (by omega)).trans (hXl b (by omega))
     · exact (H.wf b (by omega)).symm
    simp (disch:=first|exact za|fail) only [go_sem,seval];refine .qt rfl ?_;simp (disch:=first|exact za|fail) only [go_sem,seval];refine CallK.of (fun R h=>zoW ls (by omega) (fun x hx=>by have:=hll x hx;omega) _ R h) ?_;simp (disch:=first|exact za|fail) only [go_sem,seval]
    cases hbg:zgr ls with
    | true =>
     refine .q ?_;refine .ifT (by simp (disch:=first|exact za|fail) only [go_sem,seval,hbg]) ?_;refine .qt rfl ?_;simp (disch:=first|exact za|fail) only [go_sem,seval,qX];refine .qr rfl Tryz.func10 (by rw [Tryz.results10]) ?_;simp (disch:=first|exact za|fail) only [go_sem,seval]
     exact⟨hWf,hend,rfl⟩
    | false =>
     refine .q ?_;refine .ifF (by simp (disch:=first|exact za|fail) only [go_sem,seval,hbg]) ?_;refine .skip ?_;refine .qt rfl ?_;simp (disch:=first|exact za|fail) only [go_sem,seval,qX];refine .qr rfl Tryz.func10 (by rw [Tryz.results10]) ?_;simp (disch:=first|exact za|fail) only [go_sem,seval]
     exact⟨hWf,hend,rfl⟩
  · have hc:yz q=(⟨0,[],0⟩,yi q):=by rw [yz,if_neg he]
    rw [hc];refine .qt rfl ?_;simp (disch:=first|exact za|fail) only [go_sem,seval];refine .q ?_;refine .ifT (by simp (disch:=first|exact za|fail) only [go_sem,seval,he]) ?_;refine .qt rfl ?_;simp (disch:=first|exact za|fail) only [go_sem,seval];refine .qr rfl Tryz.func10 (by rw [Tryz.results10]) ?_;simp (disch:=first|exact za|fail) only [go_sem,seval]
    exact fun e=>absurd e he
theorem zat (g:GW G r1 m1) (q:Qry) (hk:okI q.kind) (H:Hp):ACall Tryz.prog G 10 [.p (qry q)] H (fun r H'=>r = .tup [.p (zbK (yz q).1),.p (i64 (yz q).2)]∧H'=H) :=
 (zdt g q hk H).mono fun r H' h=>⟨h.1.1,h.2⟩
end walks
end Go.Proofs.YthaoifcebimkfaaGreatDoor

namespace Go.Proofs.YthaoifcebimkfaaGreatDoor
open Go Go.AL

section walks
variable {G:Globs}
end walks
end Go.Proofs.YthaoifcebimkfaaGreatDoor

namespace Go.Proofs.YthaoifcebimkfaaGreatDoor
open Go Go.AL

structure RNd where
 g:Gate
 lv:Int
instance:Inhabited RNd:=⟨⟨⟨0,0,0#64,0#64,0#64,0#64⟩,0⟩⟩
def rnd (x:RNd):PV := .agg [i64 x.g.l,i64 x.g.r,zl x.g.c,zl x.g.a,zl x.g.b,zl x.g.d,i64 x.lv]
def gOf (l r:Nat) (k:Cf):Gate:=⟨l,r,fi k.c,fi k.a,fi k.b,fi k.d⟩
def rOf (x:Nd):RNd:=⟨gOf x.l x.r x.k,x.lv⟩
def rN (s:List Nd):List RNd:=List.replicate 29 default++s.map rOf
section enc
variable {x:RNd} {i s n:Int} {a b c d:U} {l:List RNd}
theorem zo9:ze (.p (rnd x))=some [.p (i64 x.g.l),.p (i64 x.g.r),.p (zl x.g.c),.p (zl x.g.a),.p (zl x.g.b),.p (zl x.g.d),.p (i64 x.lv)]:=rfl
theorem ztS:(rnd x).cells=[i64 x.g.l,i64 x.g.r,zl x.g.c,zl x.g.a,zl x.g.b,zl x.g.d,i64 x.lv]:=rfl
theorem ztT:(rnd x).isAgg=true:=rfl
theorem zpa:(AV.p (rnd x)).isAggV=true:=rfl
theorem zx7:(rnd x).weak=rnd x:=rfl
theorem ztU:(rnd x).weak1=rnd x:=rfl
theorem ztV:(rnd x).aggOf 0 7=rnd x:=rfl
theorem zpb:(rnd x).aggOf 0 6=zG x.g:=rfl
theorem ztW:zm [.p (i64 i),.p (i64 s),.p (zl a),.p (zl b),.p (zl c),.p (zl d),.p (i64 n)] = .p (rnd ⟨⟨i,s,a,b,c,d⟩,n⟩):=rfl
theorem zx8:PV.agg [i64 i,i64 s,zl a,zl b,zl c,zl d,i64 n]=rnd ⟨⟨i,s,a,b,c,d⟩,n⟩:=rfl
theorem zAi:(⟨⟨x.g.l,x.g.r,x.g.c,x.g.a,x.g.b,x.g.d⟩,x.lv⟩:RNd)=x:=rfl
end enc
attribute [go_sem] zo9 ztS ztT zpa zx7 ztU ztV zpb ztW zx8 zAi
structure RB (H:Hp) (s:List Nd) (bb al:Nat):Prop where
 bld:H.f bb=some (.cells [.sl al (29+s.length) 7 (pl rnd (rN s))])
 tl:H.f al=some (.tail (29+s.length))
 wf:Wf s
 sm:SmC s
structure RF (bb al:Nat) (H H':Hp):Prop where
 n:H'.n=H.n
 f : ∀ b,b≠bb → b≠al → H'.f b=H.f b
theorem RF.refl {bb al:Nat} {H:Hp}:RF bb al H H:=⟨rfl,fun _ _ _=>rfl⟩
theorem RF.trans {bb al:Nat} {H H1 H2:Hp} (h:RF bb al H H1) (h':RF bb al H1 H2):RF bb al H H2:=⟨h'.n.trans h.n,fun b h1 h2=>(h'.f b h1 h2).trans (h.f b h1 h2)⟩
theorem RB.ne {H:Hp} {s:List Nd} {bb al:Nat} (h:RB H s bb al):bb≠al:=by rintro rfl;have:=h.bld;rw [h.tl] at this;cases this
theorem RB.lt {H:Hp} {s:List Nd} {bb al:Nat} (h:RB H s bb al):bb < H.n∧al < H.n:=⟨Hp.lt h.bld,Hp.lt h.tl⟩
theorem RB.new {H:Hp} {s:List Nd} {bb al:Nat} (h:RB H s bb al) (x:AB):RB (H.new x) s bb al:=by
 obtain⟨h1,h2⟩:=h.lt
 exact⟨by rw [zb (by omega)];exact h.bld,by rw [zb (by omega)];exact h.tl,h.wf,h.sm⟩
theorem RB.set {H:Hp} {s:List Nd} {bb al b:Nat} (h:RB H s bb al) (x:AB) (h1:b≠bb) (h2:b≠al):RB (H.set b x) s bb al :=
 ⟨by rw [f_set_ne' h1.symm];exact h.bld,by rw [f_set_ne' h2.symm];exact h.tl,h.wf,h.sm⟩
theorem RB.trunc {H:Hp} {s:List Nd} {bb al n:Nat} (h:RB H s bb al) (h1:bb < n) (h2:al < n):RB (H.trunc n) s bb al :=
 ⟨by rw [Hp.f_trunc,if_pos h1];exact h.bld,by rw [Hp.f_trunc,if_pos h2];exact h.tl,h.wf,h.sm⟩
structure RW (bb al:Nat) (H H':Hp):Prop where
 n:H.n≤H'.n
 f : ∀ b,b < H.n → b≠bb → b≠al → H'.f b=H.f b
theorem RF.w {bb al:Nat} {H H':Hp} (h:RF bb al H H'):RW bb al H H':=⟨by rw [h.n];exact Nat.le_refl _,fun b _ h1 h2=>h.f b h1 h2⟩
theorem RW.refl {bb al:Nat} {H:Hp}:RW bb al H H:=⟨Nat.le_refl _,fun _ _ _ _=>rfl⟩
theorem RW.trans {bb al:Nat} {H H1 H2:Hp} (h:RW bb al H H1) (h':RW bb al H1 H2):RW bb al H H2:=⟨Nat.le_trans h.n h'.n,fun b h0 h1 h2=>(h'.f b (Nat.lt_of_lt_of_le h0 h.n) h1 h2).trans (h.f b h0 h1 h2)⟩
theorem RW.new {bb al:Nat} {H:Hp} (x:AB):RW bb al H (H.new x):=⟨by rw [n_new'];omega,fun b h0 _ _=>zb (by omega)⟩
theorem RW.set {bb al b:Nat} {H H':Hp} (h:RW bb al H H') (x:AB) (hb:b=bb ∨ b=al ∨ H.n≤b):RW bb al H (H'.set b x) :=
 ⟨by rw [n_set'];exact h.n,fun c h0 h1 h2=>by rw [f_set_ne' (by rintro rfl;rcases hb with hb | hb | hb;exact h1 hb;exact h2 hb;omega)];exact h.f c h0 h1 h2⟩
theorem RW.back {bb al:Nat} {H H':Hp} (h:RW bb al H H') (h1:bb < H.n) (h2:al < H.n):RF bb al H (H'.trunc H.n) :=
 ⟨rfl,fun b e1 e2=>by
  by_cases hb:b < H.n
  · rw [Hp.f_trunc,if_pos hb];exact h.f b hb e1 e2
  · rw [Hp.f_trunc,if_neg hb];exact (H.wf b (by omega)).symm⟩
theorem RB.bel {H H':Hp} {s:List Nd} {bb al n:Nat} (hB:RB H' s bb al) (hal:al < n) (hb:Bel n H) (hf : ∀ b,b < n → b≠bb → b≠al → H'.f b=H.f b):Bel n H':=fun b x hbn hx y hy=>by
 by_cases e:b=bb
 · subst e;rw [hB.bld] at hx;cases hx;simp only [AB.vals,List.mem_singleton] at hy;subst hy;exact .sl _ _ _ _ hal
 · by_cases e2:b=al
   · subst e2;rw [hB.tl] at hx;cases hx;cases hy
   · rw [hf b hbn e e2] at hx;exact hb b x hbn hx y hy
end Go.Proofs.YthaoifcebimkfaaGreatDoor

namespace Go.Proofs.YthaoifcebimkfaaGreatDoor
open Go Go.AL

section zbT
variable {a0 a1 a2 a3 a4 a5 a6 x0 x1 x2 x3 x4 x5:AV}
theorem ztX:setAt [a0,a1,a2,a3,a4,a5,a6] 0 [x0,x1,x2,x3,x4,x5]=[x0,x1,x2,x3,x4,x5,a6]:=rfl
end zbT
attribute [go_sem] ztX
section walks
variable {G:Globs}
end walks
end Go.Proofs.YthaoifcebimkfaaGreatDoor

namespace Go.Proofs.YthaoifcebimkfaaGreatDoor
open Go Go.AL

section walks
variable {G:Globs}
end walks
end Go.Proofs.YthaoifcebimkfaaGreatDoor

namespace Go.Proofs.YthaoifcebimkfaaGreatDoor
open Go Go.AL

section walks
variable {G:Globs}
end walks
end Go.Proofs.YthaoifcebimkfaaGreatDoor

namespace Go.Proofs.YthaoifcebimkfaaGreatDoor
open Go Go.AL

section walks
variable {G:Globs}
end walks
end Go.Proofs.YthaoifcebimkfaaGreatDoor

namespace Go.Proofs.YthaoifcebimkfaaGreatDoor
open Go Go.AL

section walks
variable {G:Globs}
end walks
end Go.Proofs.YthaoifcebimkfaaGreatDoor

namespace Go.Proofs.YthaoifcebimkfaaGreatDoor
open Go Go.AL

section walks
variable {G:Globs}
end walks
end Go.Proofs.YthaoifcebimkfaaGreatDoor

namespace Go.Proofs.YthaoifcebimkfaaGreatDoor
open Go Go.AL

section walks
variable {G:Globs}
end walks
end Go.Proofs.YthaoifcebimkfaaGreatDoor

namespace Go.AL
open Go
section own
variable {C:Cx} {todo:List Item} {env:Env} {H:Hp} {R:AV → Hp → Prop}
end own
end Go.AL
namespace Go.Proofs.YthaoifcebimkfaaGreatDoor
open Go Go.AL
def atI (st:LS) (i k:Nat):Int:=match zD (i,k) st.at' with | some j=>j | none => -1
def atR (st:LS) (d i:Nat):List AV:=yZ (fun k => .p (i64 (atI st i k))) (d+1)
structure EH (H:Hp) (s:List Nd) (d eb A L r0 t0:Nat) (X:AV) (st:LS):Prop where
 em:H.f eb=some (.cells [X,.vr A (29+s.length) 1,.vr L d 1])
 ats:H.f A=some (.vec (yZ (fun i => .vr (r0+2*i) (d+1) 1) (29+s.length)))
 rows : ∀ i,i < 29+s.length → H.f (r0+2*i)=some (.vec (atR st d i))
 lay:H.f L=some (.vec (zbM t0 st.ls d))
 tl : ∀ k,k < d → H.f (t0+k)=some (.tail (nth st.ls k).length)
 ord:eb < A∧A < L∧L < r0∧r0+2*(29+s.length)≤t0
structure EN (H H':Hp) (m d L r0 t0:Nat):Prop where
 n:H.n≤H'.n
 f : ∀ b,b < H.n → b≠L → (∀ i,i < m → b≠r0+2*i) → ¬ (t0≤b∧b < t0+d) → H'.f b=H.f b
theorem EN.refl {H:Hp} {m d L r0 t0:Nat}:EN H H m d L r0 t0:=⟨Nat.le_refl _,fun _ _ _ _ _=>rfl⟩
theorem EN.trans {H H1 H2:Hp} {m d L r0 t0:Nat} (h:EN H H1 m d L r0 t0) (h':EN H1 H2 m d L r0 t0):EN H H2 m d L r0 t0 :=
 ⟨Nat.le_trans h.n h'.n,fun b b1 b2 b3 b4=>(h'.f b (Nat.lt_of_lt_of_le b1 h.n) b2 b3 b4).trans (h.f b b1 b2 b3 b4)⟩
theorem EN.new {H:Hp} {m d L r0 t0:Nat} (x:AB):EN H (H.new x) m d L r0 t0:=⟨by rw [n_new'];omega,fun b hb _ _ _=>zb (by omega)⟩
theorem EN.set {H H':Hp} {m d L r0 t0 b:Nat} (h:EN H H' m d L r0 t0) (x:AB) (hb:b=L ∨ (∃ i,i < m∧b=r0+2*i) ∨ (t0≤b∧b < t0+d) ∨ H.n≤b):EN H (H'.set b x) m d L r0 t0 :=
 ⟨by rw [n_set'];exact h.n,fun c c1 c2 c3 c4=>by
  rw [f_set_ne' (by rintro rfl;rcases hb with hb | hb | hb | hb;exact c2 hb;exact (hb.elim fun i hi=>c3 i hi.1 hi.2);exact c4 hb;omega)]
  exact h.f c c1 c2 c3 c4⟩
theorem EN.trunc {H H':Hp} {m d L r0 t0:Nat} (h:EN H H' m d L r0 t0):EN H (H'.trunc H.n) m d L r0 t0 :=
 ⟨Nat.le_refl _,fun b b1 b2 b3 b4=>by rw [Hp.f_trunc,if_pos b1];exact h.f b b1 b2 b3 b4⟩
section EH
variable {H:Hp} {s:List Nd} {d eb A L r0 t0:Nat} {X:AV} {st:LS}
theorem EH.lt (h:EH H s d eb A L r0 t0 X st):eb < H.n∧A < H.n∧L < H.n∧r0+2*(28+s.length) < H.n:=by
 have h1:=Hp.lt h.em;have h2:=Hp.lt h.ats;have h3:=Hp.lt h.lay;have h4:=Hp.lt (h.rows (28+s.length) (by omega));omega
theorem EH.alN (h:EH H s d eb A L r0 t0 X st) (hd:0 < d):t0+d≤H.n:=by have:=Hp.lt (h.tl (d - 1) (by omega));omega
theorem EH.new (h:EH H s d eb A L r0 t0 X st) (x:AB):EH (H.new x) s d eb A L r0 t0 X st:=by
 have hl:=h.lt
 exact⟨by rw [zb (by omega)];exact h.em,by rw [zb (by omega)];exact h.ats,fun i hi=>by have:=Hp.lt (h.rows i hi);rw [zb (by omega)];exact h.rows i hi,by rw [zb (by omega)];exact h.lay,
  fun k hk=>by have:=Hp.lt (h.tl k hk);rw [zb (by omega)];exact h.tl k hk,h.ord⟩
theorem EH.set (h:EH H s d eb A L r0 t0 X st) {b:Nat} (x:AB) (hb:t0≤b) (hb2 : ¬ (t0≤b∧b < t0+d)):EH (H.set b x) s d eb A L r0 t0 X st:=by
 have ho:=h.ord
 exact⟨by rw [f_set_ne' (by omega)];exact h.em,by rw [f_set_ne' (by omega)];exact h.ats,fun i hi=>by rw [f_set_ne' (by omega)];exact h.rows i hi,by rw [f_set_ne' (by omega)];exact h.lay,
  fun k hk=>by rw [f_set_ne' (by omega)];exact h.tl k hk,h.ord⟩
theorem EH.trunc (h:EH H s d eb A L r0 t0 X st) {n:Nat} (h2:t0+d≤n):EH (H.trunc n) s d eb A L r0 t0 X st:=by
 have ho:=h.ord
 exact⟨by rw [Hp.f_trunc,if_pos (by omega)];exact h.em,by rw [Hp.f_trunc,if_pos (by omega)];exact h.ats,fun i hi=>by rw [Hp.f_trunc,if_pos (by omega)];exact h.rows i hi,by rw [Hp.f_trunc,if_pos (by omega)];exact h.lay,
  fun k hk=>by rw [Hp.f_trunc,if_pos (by omega)];exact h.tl k hk,h.ord⟩
theorem EH.bel {H':Hp} {n:Nat} (h:EH H' s d eb A L r0 t0 X st) (hb:Bel n H) (hn:t0+d≤n) (hf : ∀ b,b < n → b≠L → (∀ i,i < 29+s.length → b≠r0+2*i) → ¬ (t0≤b∧b < t0+d) → H'.f b=H.f b):Bel n H':=fun b x hbn hx y hy=>by
 by_cases e1:b=L
 · subst e1;rw [h.lay] at hx;cases hx;simp only [AB.vals,zbM,yZ,Option.getD_some,List.mem_map,List.mem_range] at hy
   obtain⟨k,hk,rfl⟩:=hy
   exact .sl _ _ _ _ (by omega)
 · by_cases e2 : ∃ i,i < 29+s.length∧b=r0+2*i
   · obtain⟨i,hi,rfl⟩:=e2
     rw [h.rows i hi] at hx;cases hx;simp only [AB.vals,atR,yZ,Option.getD_some,List.mem_map,List.mem_range] at hy
     obtain⟨k,hk,rfl⟩:=hy
     exact .p _
   · by_cases e3:t0≤b∧b < t0+d
     · have:=h.tl (b - t0) (by omega)
       rw [show t0+(b - t0)=b by omega,hx] at this
       cases this
       cases hy
     · rw [hf b hbn e1 (fun i hi e=>e2 ⟨i,hi,e⟩) e3] at hx;exact hb b x hbn hx y hy
end EH
end Go.Proofs.YthaoifcebimkfaaGreatDoor

namespace Go.Proofs.YthaoifcebimkfaaGreatDoor
open Go Go.AL

section walks
variable {G:Globs}
end walks
end Go.Proofs.YthaoifcebimkfaaGreatDoor

namespace Go.Proofs.YthaoifcebimkfaaGreatDoor
open Go Go.AL

theorem zaU {α:Type} [Inhabited α] {P:α → Bool} {l:List α} {i:Nat} (h : ∀ j,j < i → P (nth l j)=true) (h1:P (nth l i)=true) : ∀ j,j < i+1 → P (nth l j)=true:=fun j hj=>by
 by_cases e:j=i
 · rw [e];exact h1
 · exact h j (by omega)
section walks
variable {G:Globs}
theorem zcw (k:Int) (hk:okI k) (H:Hp) (R:AV → Hp → Prop) (h:R (.p (bo (zbo k))) H):ACall Tryz.prog G 96 [.p (i64 k)] H R:=by
 refine ACall.of_run (raw:=[]) Tryz.func96 rfl Tryz.ntmps96 (by simp) fun hbel => ?_
 refine .qt rfl ?_;simp (disch:=first|exact za|fail) only [go_sem,seval]
 rcases Classical.em (2≤k) with a | a
 · have hv:zbo k=decide (k≤6):=by simp [zbo,a]
   rw [hv] at h;refine .qt rfl ?_;simp (disch:=first|exact za|fail) only [go_sem,seval];refine .qr rfl Tryz.func96 (by rw [Tryz.results96]) ?_;simp (disch:=first|exact za|fail) only [go_sem,seval];exact h
 · have hv:zbo k=false:=by simp [zbo,a]
   rw [hv] at h;refine .qt rfl ?_;simp (disch:=first|exact za|fail) only [go_sem,seval];refine .qr rfl Tryz.func96 (by rw [Tryz.results96]) ?_;simp (disch:=first|exact za|fail) only [go_sem,seval];exact h
theorem yF (k:Int) (hk:okI k) (H:Hp) (R:AV → Hp → Prop) (h:R (.p (i64 (yd k))) H):ACall Tryz.prog G 97 [.p (i64 k)] H R:=by
 refine ACall.of_run (raw:=[]) Tryz.func97 rfl Tryz.ntmps97 (by simp) fun hbel => ?_
 refine .qt rfl ?_;simp (disch:=first|exact za|fail) only [go_sem,seval];unfold yd at h
 rcases Classical.em (k=3) with a | a
 · rw [if_pos a] at h;refine .qt rfl ?_;simp (disch:=first|exact za|fail) only [go_sem,seval];refine .qT rfl ?_;refine .qt rfl ?_;simp (disch:=first|exact za|fail) only [go_sem,seval];refine .qr rfl Tryz.func97 (by rw [Tryz.results97]) ?_;simp (disch:=first|exact za|fail) only [go_sem,seval];exact h
 rw [if_neg a] at h
 rcases Classical.em (k=6) with b | b
 · rw [if_pos b] at h;refine .qt rfl ?_;simp (disch:=first|exact za|fail) only [go_sem,seval];refine .qF rfl ?_;refine .skip ?_;refine .qt rfl ?_;simp (disch:=first|exact za|fail) only [go_sem,seval];refine .qT rfl ?_;refine .qt rfl ?_;simp (disch:=first|exact za|fail) only [go_sem,seval];refine .qr rfl Tryz.func97 (by rw [Tryz.results97]) ?_;simp (disch:=first|exact za|fail) only [go_sem,seval];exact h
 · rw [if_neg b] at h;refine .qt rfl ?_;simp (disch:=first|exact za|fail) only [go_sem,seval];refine .qF rfl ?_;refine .skip ?_;refine .qt rfl ?_;simp (disch:=first|exact za|fail) only [go_sem,seval];refine .qF rfl ?_;refine .skip ?_;refine .qt rfl ?_;simp (disch:=first|exact za|fail) only [go_sem,seval];refine .qr rfl Tryz.func97 (by rw [Tryz.results97]) ?_;simp (disch:=first|exact za|fail) only [go_sem,seval];exact h
theorem zdj (c:Int) (hc:0≤c∧c < 4) (H:Hp) (R:AV → Hp → Prop) (h:R (.p (i64 (yu c.toNat))) H):ACall Tryz.prog G 141 [.p (i64 c)] H R:=by
 have:c=0 ∨ c=1 ∨ c=2 ∨ c=3:=by omega
 refine ACall.of_run (raw:=[]) Tryz.func141 rfl Tryz.ntmps141 (by simp) fun hbel => ?_
 refine .qt rfl ?_;simp (disch:=first|exact za|fail) only [go_sem,seval]
 rcases this with rfl | rfl | rfl | rfl
 · refine .qt rfl ?_;simp (disch:=first|exact za|fail) only [go_sem,seval];refine .qT rfl ?_;refine .qt rfl ?_;simp (disch:=first|exact za|fail) only [go_sem,seval];refine .qr rfl Tryz.func141 (by rw [Tryz.results141]) ?_;simp (disch:=first|exact za|fail) only [go_sem,seval];exact h
 · refine .qt rfl ?_;simp (disch:=first|exact za|fail) only [go_sem,seval];refine .qF rfl ?_;refine .skip ?_;refine .qt rfl ?_;simp (disch:=first|exact za|fail) only [go_sem,seval];refine .qr rfl Tryz.func141 (by rw [Tryz.results141]) ?_;simp (disch:=first|exact za|fail) only [go_sem,seval];exact h
 · refine .qt rfl ?_;simp (disch:=first|exact za|fail) only [go_sem,seval];refine .qT rfl ?_;refine .qt rfl ?_;simp (disch:=first|exact za|fail) only [go_sem,seval];refine .qr rfl Tryz.func141 (by rw [Tryz.results141]) ?_;simp (disch:=first|exact za|fail) only [go_sem,seval];exact h
 · refine .qt rfl ?_;simp (disch:=first|exact za|fail) only [go_sem,seval];refine .qF rfl ?_;refine .skip ?_;refine .qt rfl ?_;simp (disch:=first|exact za|fail) only [go_sem,seval];refine .qr rfl Tryz.func141 (by rw [Tryz.results141]) ?_;simp (disch:=first|exact za|fail) only [go_sem,seval];exact h
set_option maxHeartbeats 8000000 in
set_option maxRecDepth 20000 in
theorem zet (l:List Cnd) (H:Hp) (R:AV → Hp → Prop) (h:R (.p (bo (vF l))) H):ACall Tryz.prog G 98 [.p (yp l)] H R:=by
 refine ACall.of_run (raw:=[]) Tryz.func98 rfl Tryz.ntmps98 (by simp) fun hbel => ?_
 refine .qt rfl ?_;simp (disch:=first|exact za|fail) only [go_sem,seval];refine .qt rfl ?_;simp (disch:=first|exact za|fail) only [go_sem,seval,zP]
 rcases Classical.em (l.length≤3) with hl | hl
 · refine .qF rfl ?_;refine .skip ?_;refine .qt rfl ?_;simp (disch:=first|exact za|fail) only [go_sem,seval]
   refine .q ?_;first | refine .loopF0 [0] (fun i=>[(3,.p (i64 i))]) (fun i => ∀ j,j < i → vC (nth l j)=true) (0) (l.length) (by omega) ?_ ?_ ?_ ?_ | refine .loopF [0] (fun i=>[(3,.p (i64 i))]) (fun _=>[]) (fun i => ∀ j,j < i → vC (nth l j)=true) (0) (l.length) (by omega) ?_ (by rfl) ?_ ?_ ?_
   · simp (disch:=first|exact za|fail) only [go_sem,seval]<;>(repeat' (first | rfl | refine And.intro ?_ ?_))
   rotate_left 1
   intro env T A hQ;simp (disch:=first|exact za|fail) only [go_sem,seval] at A
   rotate_left 1
   intro i env T hi0 hi A hQ ihA;simp (disch:=first|exact za|fail) only [go_sem,seval] at A
   rotate_left 1
   · exact fun j hj=>absurd hj (by omega)
   · have hv:vF l=true:=by
      simp only [vF,Bool.and_eq_true,decide_eq_true_eq,List.all_eq_true]
      refine⟨hl,fun x hx => ?_⟩
      obtain⟨j,hj,rfl⟩:=List.getElem_of_mem hx
      have:=hQ j hj
      rwa [zh hj] at this
     rw [hv] at h;refine .qt rfl ?_;simp (disch:=first|exact za|fail) only [go_sem,seval,A];refine .qF rfl ?_;refine .qt rfl ?_;simp (disch:=first|exact za|fail) only [go_sem,seval,A];refine .qr rfl Tryz.func98 (by rw [Tryz.results98]) (hx:=by simp (disch:=first|exact za|fail) only [go_sem,seval,A];rfl) ?_;simp (disch:=first|exact za|fail) only [go_sem,seval,A];exact h
   · have hno:vC (nth l i)=false → vF l=false:=fun e=>by
      simp only [vF,Bool.and_eq_false_iff]
      right
      rw [List.all_eq_false]
      exact⟨_,List.getElem_mem hi,by rw [←zh hi,e];decide⟩
     refine .qt rfl ?_;simp (disch:=first|exact za|fail) only [go_sem,seval,A];refine .qT rfl ?_
     generalize hc:nth l i=c at *
     rcases Classical.em (c.col < 0) with a | a
     · rw [hno (by simp [vC];omega)] at h;refine .q ?_;refine .open [] follows (by kernel_rfl) ?_;simp (disch:=first|exact za|fail) only [go_sem,seval,A,hc,zP];refine .qT rfl ?_;refine .qt rfl ?_;simp (disch:=first|exact za|fail) only [go_sem,seval,A];refine .qr rfl Tryz.func98 (by rw [Tryz.results98]) (hx:=by simp (disch:=first|exact za|fail) only [go_sem,seval,A];rfl) ?_;simp (disch:=first|exact za|fail) only [go_sem,seval,A];exact h
     rcases Classical.em (c.col > 3) with a2 | a2
     · rw [hno (by simp [vC];omega)] at h;refine .q ?_;refine .open [] follows (by kernel_rfl) ?_;simp (disch:=first|exact za|fail) only [go_sem,seval,A,hc,zP];refine .qT rfl ?_;refine .qt rfl ?_;simp (disch:=first|exact za|fail) only [go_sem,seval,A];refine .qr rfl Tryz.func98 (by rw [Tryz.results98]) (hx:=by simp (disch:=first|exact za|fail) only [go_sem,seval,A];rfl) ?_;simp (disch:=first|exact za|fail) only [go_sem,seval,A];exact h
     rcases Classical.em (c.lo < 0) with a3 | a3
     · rw [hno (by simp [vC];omega)] at h;refine .q ?_;refine .open [] follows (by kernel_rfl) ?_;simp (disch:=first|exact za|fail) only [go_sem,seval,A,hc,zP];refine .qT rfl ?_;refine .qt rfl ?_;simp (disch:=first|exact za|fail) only [go_sem,seval,A];refine .qr rfl Tryz.func98 (by rw [Tryz.results98]) (hx:=by simp (disch:=first|exact za|fail) only [go_sem,seval,A];rfl) ?_;simp (disch:=first|exact za|fail) only [go_sem,seval,A];exact h
     rcases Classical.em (c.hi < c.lo) with a4 | a4
     · rw [hno (by simp [vC];omega)] at h;refine .q ?_;refine .open [] follows (by kernel_rfl) ?_;simp (disch:=first|exact za|fail) only [go_sem,seval,A,hc,zP];refine .qT rfl ?_;refine .qt rfl ?_;simp (disch:=first|exact za|fail) only [go_sem,seval,A];refine .qr rfl Tryz.func98 (by rw [Tryz.results98]) (hx:=by simp (disch:=first|exact za|fail) only [go_sem,seval,A];rfl) ?_;simp (disch:=first|exact za|fail) only [go_sem,seval,A];exact h
     refine .q ?_;refine .open [] follows (by kernel_rfl) ?_;simp (disch:=first|exact za|fail) only [go_sem,seval,A,hc,zP];refine CallD.still (fun R h=>zdj c.col (by omega) _ R h) ?_;simp (disch:=first|exact za|fail) only [go_sem,seval,A,hc,zP]
     rcases Classical.em (c.hi > yu c.col.toNat) with a5 | a5
     · rw [hno (by simp [vC];omega)] at h;refine .qT rfl ?_;refine .qt rfl ?_;simp (disch:=first|exact za|fail) only [go_sem,seval,A];refine .qr rfl Tryz.func98 (by rw [Tryz.results98]) (hx:=by simp (disch:=first|exact za|fail) only [go_sem,seval,A];rfl) ?_;simp (disch:=first|exact za|fail) only [go_sem,seval,A];exact h
     · have hw:vC (nth l i)=true:=by rw [hc];simp [vC];omega
       refine .qF rfl ?_;refine .skip ?_;refine .qt rfl ?_;simp (disch:=first|exact za|fail) only [go_sem,seval,A]
       first | (refine ihA _ _ ?_ (zaU hQ hw) ?_) | (refine .z rfl ?_;refine ihA _ _ ?_ (zaU hQ hw) ?_) | (refine .z rfl ?_;refine .z rfl ?_;refine ihA _ _ ?_ (zaU hQ hw) ?_) | (refine .z rfl ?_;refine .z rfl ?_;refine .z rfl ?_;refine ihA _ _ ?_ (zaU hQ hw) ?_)
       · simp (disch:=first|exact za|fail) only [go_sem,seval,A]<;>(repeat' (first | rfl | refine And.intro ?_ ?_))
       · first | exact .mk _ rfl | exact .mk [] rfl | (apply Later.mk;simp (disch:=first|exact za|fail) only [go_sem,seval,zj,A];exact rfl) | (apply Later.mk;simp (disch:=first|exact za|fail) only [go_sem,seval,zj,yh,List.append_assoc,A]<;>(try rfl))
 · have hv:vF l=false:=by simp [vF,hl]
   rw [hv] at h;refine .qT rfl ?_;refine .qt rfl ?_;simp (disch:=first|exact za|fail) only [go_sem,seval];refine .qr rfl Tryz.func98 (by rw [Tryz.results98]) ?_;simp (disch:=first|exact za|fail) only [go_sem,seval];exact h
set_option maxHeartbeats 16000000 in
set_option maxRecDepth 20000 in
theorem ze5 (q:Qry) (hk:okI q.kind) (H:Hp) (R:AV → Hp → Prop) (h:R (.p (bo (vQ q))) H):ACall Tryz.prog G 43 [.p (qry q)] H R:=by
 refine ACall.of_run (raw:=[]) Tryz.func43 rfl Tryz.ntmps43 (by simp) fun hbel => ?_
 refine .qt rfl ?_;simp (disch:=first|exact za|fail) only [go_sem,seval]
 have hm:yd q.kind=0 ∨ 0 < yd q.kind:=by unfold yd;split;omega;split<;>omega
 rcases Classical.em (q.kind < 1) with a1 | a1
 · have hv:vQ q=false:=by simp [vQ];omega
   rw [hv] at h;refine .qt rfl ?_;simp (disch:=first|exact za|fail) only [go_sem,seval];refine .qT rfl ?_;refine .qt rfl ?_;simp (disch:=first|exact za|fail) only [go_sem,seval];refine .qr rfl Tryz.func43 (by rw [Tryz.results43]) ?_;simp (disch:=first|exact za|fail) only [go_sem,seval];exact h
 rcases Classical.em (q.kind > 7) with a2 | a2
 · have hv:vQ q=false:=by simp [vQ];omega
   rw [hv] at h;refine .qt rfl ?_;simp (disch:=first|exact za|fail) only [go_sem,seval];refine .qT rfl ?_;refine .qt rfl ?_;simp (disch:=first|exact za|fail) only [go_sem,seval];refine .qr rfl Tryz.func43 (by rw [Tryz.results43]) ?_;simp (disch:=first|exact za|fail) only [go_sem,seval];exact h
 rcases Classical.em (q.col < 0) with a3 | a3
 · have hv:vQ q=false:=by simp [vQ];omega
   rw [hv] at h;refine .qt rfl ?_;simp (disch:=first|exact za|fail) only [go_sem,seval];refine .qT rfl ?_;refine .qt rfl ?_;simp (disch:=first|exact za|fail) only [go_sem,seval];refine .qr rfl Tryz.func43 (by rw [Tryz.results43]) ?_;simp (disch:=first|exact za|fail) only [go_sem,seval];exact h
 rcases Classical.em (q.col > 3) with a4 | a4
 · have hv:vQ q=false:=by simp [vQ];omega
   rw [hv] at h;refine .qt rfl ?_;simp (disch:=first|exact za|fail) only [go_sem,seval];refine .qT rfl ?_;refine .qt rfl ?_;simp (disch:=first|exact za|fail) only [go_sem,seval];refine .qr rfl Tryz.func43 (by rw [Tryz.results43]) ?_;simp (disch:=first|exact za|fail) only [go_sem,seval];exact h
 have b1:(1≤q.kind∧q.kind≤7):=by omega
 have b2:(0≤q.col∧q.col < 4):=by omega
 refine .q ?_;refine .cut (fun env2 H2=>env2 1 = .ptr H.n 0∧H2=H.new (.cells [.p (i64 q.kind),.p (i64 q.col),.p (i64 q.k),.p (.sl false 1 (pl yp q.fl))])∧env2 33 = .p (bo (!(zbo q.kind || decide (q.col=0))))) (fun ih => ?_) ?_
 · rcases Classical.em (q.col=0) with c1 | c1
   · have d1:(zbo q.kind || decide (q.col=0))=true:=by simp [c1]
     rw [d1] at ih;refine .qt rfl ?_;simp (disch:=first|exact za|fail) only [go_sem,seval];refine ih _ _ ⟨?_,rfl,?_⟩<;>simp (disch:=first|exact za|fail) only [go_sem,seval]
   · have d1:(zbo q.kind || decide (q.col=0))=zbo q.kind:=by simp [c1]
     rw [d1] at ih;refine .qt rfl ?_;simp (disch:=first|exact za|fail) only [go_sem,seval];refine CallK.of (fun R h=>zcw q.kind hk _ R h) ?_;simp (disch:=first|exact za|fail) only [go_sem,seval];refine ih _ _ ⟨?_,rfl,?_⟩<;>simp (disch:=first|exact za|fail) only [go_sem,seval]
 rintro env H2 ⟨e1,rfl,e33⟩
 have hq0:(H.new (.cells [.p (i64 q.kind),.p (i64 q.col),.p (i64 q.k),.p (.sl false 1 (pl yp q.fl))])).f H.n=some (.cells [.p (i64 q.kind),.p (i64 q.col),.p (i64 q.k),.p (.sl false 1 (pl yp q.fl))]):=zu rfl
 cases hcc:(zbo q.kind || decide (q.col=0)) with
 | false =>
  rw [hcc] at e33
  have hv:vQ q=false:=by unfold vQ;rw [hcc];simp
  rw [hv] at h;refine .q ?_;refine .ifT (by simp (disch:=first|exact za|fail) only [go_sem,seval,e33]) ?_;refine .qt rfl ?_;simp (disch:=first|exact za|fail) only [go_sem,seval];refine .qr rfl Tryz.func43 (by rw [Tryz.results43]) ?_;simp (disch:=first|exact za|fail) only [go_sem,seval];exact h
 | true =>
 rw [hcc] at e33
 have hv0:vQ q=(decide (min (yd q.kind) 1≤q.k∧q.k≤yd q.kind) && (decide (q.fl.length=if q.kind=7 then 2 else 1) && q.fl.all vF)):=by
  unfold vQ;rw [hcc];simp [b1,b2]
 refine .q ?_;refine .ifF (by simp (disch:=first|exact za|fail) only [go_sem,seval,e33]) ?_;refine .skip ?_
 rcases Classical.em (q.k < 0) with k1 | k1
 · have hv:vQ q=false:=by rw [hv0];simp;omega
   rw [hv] at h;refine .q ?_;refine .open [] follows (by kernel_rfl) ?_;simp (disch:=first|exact za|fail) only [go_sem,seval,e1,hq0];refine .qT rfl ?_;refine .qt rfl ?_;simp (disch:=first|exact za|fail) only [go_sem,seval];refine .qr rfl Tryz.func43 (by rw [Tryz.results43]) ?_;simp (disch:=first|exact za|fail) only [go_sem,seval];exact h
 rcases Classical.em (q.k > yd q.kind) with k2 | k2
 · have hv:vQ q=false:=by rw [hv0];simp;omega
   rw [hv] at h;refine .q ?_;refine .open [] follows (by kernel_rfl) ?_;simp (disch:=first|exact za|fail) only [go_sem,seval,e1,hq0];refine CallD.still (fun R h=>yF q.kind hk _ R h) ?_;simp (disch:=first|exact za|fail) only [go_sem,seval,e1,hq0];refine .qT rfl ?_;refine .qt rfl ?_;simp (disch:=first|exact za|fail) only [go_sem,seval];refine .qr rfl Tryz.func43 (by rw [Tryz.results43]) ?_;simp (disch:=first|exact za|fail) only [go_sem,seval];exact h
 rcases Classical.em (0 < yd q.kind∧q.k=0) with k3 | k3
 · have hv:vQ q=false:=by rw [hv0];simp;omega
   rw [hv] at h
   obtain⟨k3,k4⟩:=k3
   refine .q ?_;refine .open [] follows (by kernel_rfl) ?_;simp (disch:=first|exact za|fail) only [go_sem,seval,e1,hq0];refine CallD.still (fun R h=>yF q.kind hk _ R h) ?_;simp (disch:=first|exact za|fail) only [go_sem,seval,e1,hq0];refine CallD.still (fun R h=>yF q.kind hk _ R h) ?_;simp (disch:=first|exact za|fail) only [go_sem,seval,e1,hq0];refine .qT rfl ?_;refine .qt rfl ?_;simp (disch:=first|exact za|fail) only [go_sem,seval];refine .qr rfl Tryz.func43 (by rw [Tryz.results43]) ?_;simp (disch:=first|exact za|fail) only [go_sem,seval];exact h
 have hv1:vQ q=(decide (q.fl.length=if q.kind=7 then 2 else 1) && q.fl.all vF):=by
  have:decide (min (yd q.kind) 1≤q.k∧q.k≤yd q.kind)=true:=by simp;omega
  rw [hv0,this,Bool.true_and]
 refine .q ?_;refine .cut2 (fun env2 H2=>env2 1 = .ptr H.n 0∧H2=H.new (.cells [.p (i64 q.kind),.p (i64 q.col),.p (i64 q.k),.p (.sl false 1 (pl yp q.fl))])) (fun ih => ?_) ?_
 · rcases hm with hm | hm
   · refine .q ?_;refine .open [] follows (by kernel_rfl) ?_;simp (disch:=first|exact za|fail) only [go_sem,seval,e1,hq0];refine CallD.still (fun R h=>yF q.kind hk _ R h) ?_;simp (disch:=first|exact za|fail) only [go_sem,seval,e1,hq0];refine CallD.still (fun R h=>yF q.kind hk _ R h) ?_;simp (disch:=first|exact za|fail) only [go_sem,seval,e1,hq0];refine .qF rfl ?_;refine .skip ?_;refine ih _ _ ⟨?_,rfl⟩;simp (disch:=first|exact za|fail) only [go_sem,seval,e1]
   · have k4:q.k≠0:=by omega
     refine .q ?_;refine .open [] follows (by kernel_rfl) ?_;simp (disch:=first|exact za|fail) only [go_sem,seval,e1,hq0];refine CallD.still (fun R h=>yF q.kind hk _ R h) ?_;simp (disch:=first|exact za|fail) only [go_sem,seval,e1,hq0];refine CallD.still (fun R h=>yF q.kind hk _ R h) ?_;simp (disch:=first|exact za|fail) only [go_sem,seval,e1,hq0];refine .qF rfl ?_;refine .skip ?_;refine ih _ _ ⟨?_,rfl⟩;simp (disch:=first|exact za|fail) only [go_sem,seval,e1]
 rintro env H2 ⟨e1,rfl⟩
 generalize hFk:(if q.kind=7 then (2:Int) else 1)=F
 have hF:q.kind=7∧F=2 ∨ q.kind≠7∧F=1:=by rw [←hFk];split<;>simp_all
 refine .qt rfl ?_;simp (disch:=first|exact za|fail) only [go_sem,seval];refine .q ?_;refine .cut2 (fun env2 H2=>env2 1 = .ptr H.n 0∧env2 3 = .p (i64 F)∧H2=H.new (.cells [.p (i64 q.kind),.p (i64 q.col),.p (i64 q.k),.p (.sl false 1 (pl yp q.fl))])) (fun ih => ?_) ?_
 · rcases hF with ⟨f1,rfl⟩ | ⟨f1,rfl⟩
   · refine .qt rfl ?_;simp (disch:=first|exact za|fail) only [go_sem,seval,e1,hq0];refine .qT rfl ?_;refine .qt rfl ?_;simp (disch:=first|exact za|fail) only [go_sem,seval];refine ih _ _ ⟨?_,?_,rfl⟩<;>simp (disch:=first|exact za|fail) only [go_sem,seval,e1]
   · refine .qt rfl ?_;simp (disch:=first|exact za|fail) only [go_sem,seval,e1,hq0];refine .qF rfl ?_;refine .skip ?_;refine ih _ _ ⟨?_,?_,rfl⟩<;>simp (disch:=first|exact za|fail) only [go_sem,seval,e1]
 rintro env H2 ⟨e1,e3,rfl⟩
 rcases Classical.em (((q.fl.length:Nat):Int)=F) with k5 | k5
 · have hk2:q.fl.length=if q.kind=7 then 2 else 1:=by rcases hF with ⟨f1,f2⟩ | ⟨f1,f2⟩<;>simp only [f1,if_true,if_false]<;>omega
   have hv2:vQ q=q.fl.all vF:=by rw [hv1,hk2];simp
   rw [hv2] at h
   have hL2:q.fl.length≤2:=by omega
   rw [←k5] at e3;refine .qt rfl ?_;simp (disch:=first|exact za|fail) only [go_sem,seval,e1,e3,hq0];refine .qF rfl ?_;refine .skip ?_;refine .qt rfl ?_;simp (disch:=first|exact za|fail) only [go_sem,seval]
   refine .q ?_;first | refine .loopF0 [1,3] (fun i=>[(4,.p (i64 i))]) (fun i => ∀ j,j < i → vF (nth q.fl j)=true) (0) (q.fl.length) (by omega) ?_ ?_ ?_ ?_ | refine .loopF [1,3] (fun i=>[(4,.p (i64 i))]) (fun _=>[]) (fun i => ∀ j,j < i → vF (nth q.fl j)=true) (0) (q.fl.length) (by omega) ?_ (by rfl) ?_ ?_ ?_
   · simp (disch:=first|exact za|fail) only [go_sem,seval,e1,e3]<;>(repeat' (first | rfl | refine And.intro ?_ ?_))
   rotate_left 1
   intro env T A hQ;simp (disch:=first|exact za|fail) only [go_sem,seval,e1,e3] at A
   rotate_left 1
   intro i env T hi0 hi A hQ ihA;simp (disch:=first|exact za|fail) only [go_sem,seval,e1,e3] at A
   rotate_left 1
   · exact fun j hj=>absurd hj (by omega)
   · have ha:q.fl.all vF=true:=by
      rw [List.all_eq_true];intro x hx
      obtain⟨j,hj,rfl⟩:=List.getElem_of_mem hx
      have:=hQ j hj
      rwa [zh hj] at this
     rw [ha] at h;refine .qt rfl ?_;simp (disch:=first|exact za|fail) only [go_sem,seval,A];refine .qF rfl ?_;refine .qt rfl ?_;simp (disch:=first|exact za|fail) only [go_sem,seval,A];refine .qr rfl Tryz.func43 (by rw [Tryz.results43]) (hx:=by simp (disch:=first|exact za|fail) only [go_sem,seval,A];rfl) ?_;simp (disch:=first|exact za|fail) only [go_sem,seval,A];exact h
   · have hno:vF (nth q.fl i)=false → q.fl.all vF=false:=fun e=>by
      rw [List.all_eq_false]
      exact⟨_,List.getElem_mem hi,by rw [←zh hi,e];decide⟩
     refine .qt rfl ?_;simp (disch:=first|exact za|fail) only [go_sem,seval,A];refine .qT rfl ?_;refine .qt rfl ?_;simp (disch:=first|exact za|fail) only [go_sem,seval,A,hq0];refine CallK.of (fun R h=>zet (nth q.fl i) _ R h) ?_;simp (disch:=first|exact za|fail) only [go_sem,seval]
     cases ha:vF (nth q.fl i) with
     | false =>
      rw [hno ha] at h;refine .q ?_;refine .ifT (by simp (disch:=first|exact za|fail) only [go_sem,seval,ha]) ?_;refine .qt rfl ?_;simp (disch:=first|exact za|fail) only [go_sem,seval,A];refine .qr rfl Tryz.func43 (by rw [Tryz.results43]) (hx:=by simp (disch:=first|exact za|fail) only [go_sem,seval,A];rfl) ?_;simp (disch:=first|exact za|fail) only [go_sem,seval,A];exact h
     | true =>
      refine .q ?_;refine .ifF (by simp (disch:=first|exact za|fail) only [go_sem,seval,ha]) ?_;refine .skip ?_;refine .qt rfl ?_;simp (disch:=first|exact za|fail) only [go_sem,seval,A]
      first | (refine ihA _ _ ?_ (zaU hQ ha) ?_) | (refine .z rfl ?_;refine ihA _ _ ?_ (zaU hQ ha) ?_) | (refine .z rfl ?_;refine .z rfl ?_;refine ihA _ _ ?_ (zaU hQ ha) ?_) | (refine .z rfl ?_;refine .z rfl ?_;refine .z rfl ?_;refine ihA _ _ ?_ (zaU hQ ha) ?_)
      · simp (disch:=first|exact za|fail) only [go_sem,seval,A,e1,e3]<;>(repeat' (first | rfl | refine And.intro ?_ ?_))
      · first | exact .mk _ rfl | exact .mk [] rfl | (apply Later.mk;simp (disch:=first|exact za|fail) only [go_sem,seval,zj,A,e1,e3];exact rfl) | (apply Later.mk;simp (disch:=first|exact za|fail) only [go_sem,seval,zj,yh,List.append_assoc,A,e1,e3]<;>(try rfl))
 · have hv:vQ q=false:=by
    rw [hv1,Bool.and_eq_false_iff]
    left
    rcases hF with ⟨f1,f2⟩ | ⟨f1,f2⟩<;>simp only [f1,if_true,if_false,decide_eq_false_iff_not]<;>omega
   rw [hv] at h;refine .qt rfl ?_;simp (disch:=first|exact za|fail) only [go_sem,seval,e1,e3,hq0];refine .qT rfl ?_;refine .qt rfl ?_;simp (disch:=first|exact za|fail) only [go_sem,seval];refine .qr rfl Tryz.func43 (by rw [Tryz.results43]) ?_;simp (disch:=first|exact za|fail) only [go_sem,seval];exact h
end walks
end Go.Proofs.YthaoifcebimkfaaGreatDoor

namespace Go.Proofs.YthaoifcebimkfaaGreatDoor
open Go Go.AL

def zfn (c v:Int) (x:Cnd):Bool:=decide (x.col=c) && (decide (v < x.lo) || decide (x.hi < v))
def zjr (l:List Cnd) (c v:Int):Bool := !(l.any (zfn c v)) && (decide (0≤v) && decide (v≤yu c.toNat))
def lrg (l:List Cnd) (c:Int):Nat → Int
 | 0 => -1
 | n+1=>if zjr l c n then n else lrg l c n
def zeO (l:List Cnd) (c:Int):Int:=lrg l c ((yu c.toNat).toNat+1)
def zlW (l:List Cnd):Bool:=four.all fun c=>decide (0≤zeO l c)
theorem zx9 (l:List Cnd) (c:Int) : ∀ n,-1≤lrg l c n∧lrg l c n < n
 | 0=>by unfold lrg;omega
 | n+1=>by
  have:=zx9 l c n
  unfold lrg;split<;>omega
theorem zgO (c:Nat):yu c=15 ∨ yu c=255:=by unfold yu;split<;>simp
def pw (n m i:Nat):Nat:=n*m ^ i
section walks
variable {G:Globs}
set_option maxHeartbeats 8000000 in
set_option maxRecDepth 20000 in
theorem zdu (l:List Cnd) (hl:l.length≤3) (c:Int) (hc:0≤c∧c < 4) (v:Int) (H:Hp) (R:AV → Hp → Prop) (h:R (.p (bo (zjr l c v))) H):ACall Tryz.prog G 142 [.p (yp l),.p (i64 c),.p (i64 v)] H R:=by
 refine ACall.of_run (raw:=[]) Tryz.func142 rfl Tryz.ntmps142 (by simp) fun hbel => ?_
 refine .qt rfl ?_;simp (disch:=first|exact za|fail) only [go_sem,seval];refine .qt rfl ?_;simp (disch:=first|exact za|fail) only [go_sem,seval]
 refine .q ?_;first | refine .loopF0 [0,1,2] (fun i=>[(7,.p (i64 i))]) (fun i => ∀ j,j < i → zfn c v (nth l j)=false) (0) (l.length) (by omega) ?_ ?_ ?_ ?_ | refine .loopF [0,1,2] (fun i=>[(7,.p (i64 i))]) (fun _=>[]) (fun i => ∀ j,j < i → zfn c v (nth l j)=false) (0) (l.length) (by omega) ?_ (by rfl) ?_ ?_ ?_
 · simp (disch:=first|exact za|fail) only [go_sem,seval]<;>(repeat' (first | rfl | refine And.intro ?_ ?_))
 rotate_left 1
 intro env T A hQ;simp (disch:=first|exact za|fail) only [go_sem,seval] at A
 rotate_left 1
 intro i env T hi0 hi A hQ ihA;simp (disch:=first|exact za|fail) only [go_sem,seval] at A
 rotate_left 1
 · exact fun j hj=>absurd hj (by omega)
 · have hv:zjr l c v=(decide (0≤v) && decide (v≤yu c.toNat)):=by
    have:l.any (zfn c v)=false:=by
     rw [List.any_eq_false];intro x hx
     obtain⟨j,hj,rfl⟩:=List.getElem_of_mem hx
     have:=hQ j hj
     rw [zh hj] at this;rw [this];decide
    unfold zjr;rw [this];rfl
   rw [hv] at h;refine .qt rfl ?_;simp (disch:=first|exact za|fail) only [go_sem,seval,A,zP];refine .qF rfl ?_
   rcases Classical.em (0≤v) with a | a
   · have e:decide (0≤v)=true:=by simp [a]
     rw [e,Bool.true_and] at h;refine .qt rfl ?_;simp (disch:=first|exact za|fail) only [go_sem,seval,A];refine CallK.of (fun R h=>zdj c hc _ R h) ?_;simp (disch:=first|exact za|fail) only [go_sem,seval,A];refine .qr rfl Tryz.func142 (by rw [Tryz.results142]) (hx:=by simp (disch:=first|exact za|fail) only [go_sem,seval,A];rfl) ?_;simp (disch:=first|exact za|fail) only [go_sem,seval,A];exact h
   · have e:decide (0≤v)=false:=by simp [a]
     rw [e,Bool.false_and] at h;refine .qt rfl ?_;simp (disch:=first|exact za|fail) only [go_sem,seval,A];refine .qr rfl Tryz.func142 (by rw [Tryz.results142]) (hx:=by simp (disch:=first|exact za|fail) only [go_sem,seval,A];rfl) ?_;simp (disch:=first|exact za|fail) only [go_sem,seval,A];exact h
 · have hno:zfn c v (nth l i)=true → zjr l c v=false:=fun e=>by
    have:l.any (zfn c v)=true:=List.any_eq_true.2 ⟨_,List.getElem_mem hi,by rw [←zh hi];exact e⟩
    unfold zjr;rw [this];rfl
   refine .qt rfl ?_;simp (disch:=first|exact za|fail) only [go_sem,seval,A,zP];refine .qT rfl ?_
   generalize hx:nth l i=x at *
   rcases Classical.em (x.col=c) with b1 | b1
   · rcases Classical.em (v < x.lo) with b2 | b2
     · rw [hno (by simp [zfn,b1,b2])] at h;refine .qt rfl ?_;simp (disch:=first|exact za|fail) only [go_sem,seval,A,zP,hx];refine .qT rfl ?_;refine .qt rfl ?_;simp (disch:=first|exact za|fail) only [go_sem,seval,A];refine .qr rfl Tryz.func142 (by rw [Tryz.results142]) (hx:=by simp (disch:=first|exact za|fail) only [go_sem,seval,A];rfl) ?_;simp (disch:=first|exact za|fail) only [go_sem,seval,A];exact h
     rcases Classical.em (x.hi < v) with b3 | b3
     · rw [hno (by simp [zfn,b1,b3])] at h;refine .qt rfl ?_;simp (disch:=first|exact za|fail) only [go_sem,seval,A,zP,hx];refine .qT rfl ?_;refine .qt rfl ?_;simp (disch:=first|exact za|fail) only [go_sem,seval,A];refine .qr rfl Tryz.func142 (by rw [Tryz.results142]) (hx:=by simp (disch:=first|exact za|fail) only [go_sem,seval,A];rfl) ?_;simp (disch:=first|exact za|fail) only [go_sem,seval,A];exact h
     · have hw:zfn c v (nth l i)=false:=by rw [hx];simp [zfn,b2,b3]
       refine .qt rfl ?_;simp (disch:=first|exact za|fail) only [go_sem,seval,A,zP,hx];refine .qF rfl ?_;refine .skip ?_;refine .qt rfl ?_;simp (disch:=first|exact za|fail) only [go_sem,seval,A]
       first | (refine ihA _ _ ?_ (zJ hQ hw) ?_) | (refine .z rfl ?_;refine ihA _ _ ?_ (zJ hQ hw) ?_) | (refine .z rfl ?_;refine .z rfl ?_;refine ihA _ _ ?_ (zJ hQ hw) ?_) | (refine .z rfl ?_;refine .z rfl ?_;refine .z rfl ?_;refine ihA _ _ ?_ (zJ hQ hw) ?_)
       · simp (disch:=first|exact za|fail) only [go_sem,seval,A]<;>(repeat' (first | rfl | refine And.intro ?_ ?_))
       · first | exact .mk _ rfl | exact .mk [] rfl | (apply Later.mk;simp (disch:=first|exact za|fail) only [go_sem,seval,zj,A];exact rfl) | (apply Later.mk;simp (disch:=first|exact za|fail) only [go_sem,seval,zj,yh,List.append_assoc,A]<;>(try rfl))
   · have hw:zfn c v (nth l i)=false:=by rw [hx];simp [zfn,b1]
     refine .qt rfl ?_;simp (disch:=first|exact za|fail) only [go_sem,seval,A,zP,hx];refine .qF rfl ?_;refine .skip ?_;refine .qt rfl ?_;simp (disch:=first|exact za|fail) only [go_sem,seval,A]
     first | (refine ihA _ _ ?_ (zJ hQ hw) ?_) | (refine .z rfl ?_;refine ihA _ _ ?_ (zJ hQ hw) ?_) | (refine .z rfl ?_;refine .z rfl ?_;refine ihA _ _ ?_ (zJ hQ hw) ?_) | (refine .z rfl ?_;refine .z rfl ?_;refine .z rfl ?_;refine ihA _ _ ?_ (zJ hQ hw) ?_)
     · simp (disch:=first|exact za|fail) only [go_sem,seval,A]<;>(repeat' (first | rfl | refine And.intro ?_ ?_))
     · first | exact .mk _ rfl | exact .mk [] rfl | (apply Later.mk;simp (disch:=first|exact za|fail) only [go_sem,seval,zj,A];exact rfl) | (apply Later.mk;simp (disch:=first|exact za|fail) only [go_sem,seval,zj,yh,List.append_assoc,A]<;>(try rfl))
set_option maxHeartbeats 8000000 in
theorem zba (l:List Cnd) (hl:l.length≤3) (c:Int) (hc:0≤c∧c < 4) (H:Hp) (R:AV → Hp → Prop) (h:R (.p (i64 (zeO l c))) H):ACall Tryz.prog G 103 [.p (yp l),.p (i64 c)] H R:=by
 refine ACall.of_run (raw:=[]) Tryz.func103 rfl Tryz.ntmps103 (by simp) fun hbel => ?_
 have ht:=zgO c.toNat
 obtain⟨n,hn⟩ : ∃ n:Nat,yu c.toNat=n:=⟨(yu c.toNat).toNat,by omega⟩
 have hL:zeO l c=lrg l c (n+1):=by unfold zeO;rw [hn];rfl
 rw [hL] at h;refine .qt rfl ?_;simp (disch:=first|exact za|fail) only [go_sem,seval];refine .qt rfl ?_;simp (disch:=first|exact za|fail) only [go_sem,seval];refine CallK.of (fun R h=>zdj c hc _ R h) ?_;simp (disch:=first|exact za|fail) only [go_sem,seval,hn]
 refine .q ?_;first | refine .loopF0 [0,1] (fun i=>[(5,.p (i64 ((n:Int) - i)))]) (fun i=>lrg l c (n+1)=lrg l c (n+1 - i)) (0) (n+1) (by omega) ?_ ?_ ?_ ?_ | refine .loopF [0,1] (fun i=>[(5,.p (i64 ((n:Int) - i)))]) (fun _=>[]) (fun i=>lrg l c (n+1)=lrg l c (n+1 - i)) (0) (n+1) (by omega) ?_ (by rfl) ?_ ?_ ?_
 · simp (disch:=first|exact za|fail) only [go_sem,seval]<;>(repeat' (first | rfl | refine And.intro ?_ ?_))
 rotate_left 1
 intro env T A hQ;simp (disch:=first|exact za|fail) only [go_sem,seval] at A
 rotate_left 1
 intro i env T hi0 hi A hQ ihA;simp (disch:=first|exact za|fail) only [go_sem,seval] at A
 rotate_left 1
 · rfl
 · rw [hQ,Nat.sub_self] at h
   have e:((n:Int) - ((n:Int)+1)) = -1:=by omega
   rw [e] at A;refine .qt rfl ?_;simp (disch:=first|exact za|fail) only [go_sem,seval,A];refine .qF rfl ?_;refine .qt rfl ?_;simp (disch:=first|exact za|fail) only [go_sem,seval,A];refine .qr rfl Tryz.func103 (by rw [Tryz.results103]) (hx:=by simp (disch:=first|exact za|fail) only [go_sem,seval,A];rfl) ?_;simp (disch:=first|exact za|fail) only [go_sem,seval,A];exact h
 · obtain⟨v,hv⟩ : ∃ v:Nat,v=n - i:=⟨_,rfl⟩
   have e:((n:Int) - (i:Int))=(v:Int):=by omega
   have e2:((n:Int) - ((i+1:Nat):Int))=(v:Int) - 1:=by omega
   have e3:n+1 - i=v+1:=by omega
   have e4:n+1 - (i+1)=v:=by omega
   rw [e3] at hQ;rw [hQ] at h;rw [e] at A;rw [e2,e4] at ihA;refine .qt rfl ?_;simp (disch:=first|exact za|fail) only [go_sem,seval,A];refine .qT rfl ?_;refine .qt rfl ?_;simp (disch:=first|exact za|fail) only [go_sem,seval,A];refine CallK.of (fun R h=>zdu l hl c hc v _ R h) ?_;simp (disch:=first|exact za|fail) only [go_sem,seval,A]
   have hr:lrg l c (v+1)=if zjr l c v then (v:Int) else lrg l c v:=rfl
   rw [hr] at h hQ
   cases hp:zjr l c v with
   | true =>
    rw [hp,if_pos rfl] at h;refine .q ?_;refine .ifT (by simp (disch:=first|exact za|fail) only [go_sem,seval,hp]) ?_;refine .qt rfl ?_;simp (disch:=first|exact za|fail) only [go_sem,seval,A];refine .qr rfl Tryz.func103 (by rw [Tryz.results103]) (hx:=by simp (disch:=first|exact za|fail) only [go_sem,seval,A];rfl) ?_;simp (disch:=first|exact za|fail) only [go_sem,seval,A];exact h
   | false =>
    rw [hp,if_neg (by decide)] at h hQ;refine .q ?_;refine .ifF (by simp (disch:=first|exact za|fail) only [go_sem,seval,hp]) ?_;refine .skip ?_;refine .qt rfl ?_;simp (disch:=first|exact za|fail) only [go_sem,seval,A]
    first | (refine ihA _ _ ?_ hQ ?_) | (refine .z rfl ?_;refine ihA _ _ ?_ hQ ?_) | (refine .z rfl ?_;refine .z rfl ?_;refine ihA _ _ ?_ hQ ?_) | (refine .z rfl ?_;refine .z rfl ?_;refine .z rfl ?_;refine ihA _ _ ?_ hQ ?_)
    · simp (disch:=first|exact za|fail) only [go_sem,seval,A]<;>(repeat' (first | rfl | refine And.intro ?_ ?_))
    · first | exact .mk _ rfl | exact .mk [] rfl | (apply Later.mk;simp (disch:=first|exact za|fail) only [go_sem,seval,zj,A];exact rfl) | (apply Later.mk;simp (disch:=first|exact za|fail) only [go_sem,seval,zj,yh,List.append_assoc,A]<;>(try rfl))
set_option maxHeartbeats 8000000 in
theorem zdk (l:List Cnd) (hl:l.length≤3) (H:Hp) (R:AV → Hp → Prop) (h:R (.p (bo (zlW l))) H):ACall Tryz.prog G 101 [.p (yp l)] H R:=by
 refine ACall.of_run (raw:=[]) Tryz.func101 rfl Tryz.ntmps101 (by simp) fun hbel => ?_
 refine .qt rfl ?_;simp (disch:=first|exact za|fail) only [go_sem,seval];refine .qt rfl ?_;simp (disch:=first|exact za|fail) only [go_sem,seval]
 refine .q ?_;first | refine .loopF0 [0] (fun i=>[(3,.p (i64 i))]) (fun i => ∀ j:Nat,j < i → 0≤zeO l j) (0) (4) (by omega) ?_ ?_ ?_ ?_ | refine .loopF [0] (fun i=>[(3,.p (i64 i))]) (fun _=>[]) (fun i => ∀ j:Nat,j < i → 0≤zeO l j) (0) (4) (by omega) ?_ (by rfl) ?_ ?_ ?_
 · simp (disch:=first|exact za|fail) only [go_sem,seval]<;>(repeat' (first | rfl | refine And.intro ?_ ?_))
 rotate_left 1
 intro env T A hQ;simp (disch:=first|exact za|fail) only [go_sem,seval] at A
 rotate_left 1
 intro i env T hi0 hi A hQ ihA;simp (disch:=first|exact za|fail) only [go_sem,seval] at A
 rotate_left 1
 · exact fun j hj=>absurd hj (by omega)
 · have hv:zlW l=true:=by
    have h0:=hQ 0 (by omega);have h1:=hQ 1 (by omega);have h2:=hQ 2 (by omega);have h3:=hQ 3 (by omega);have e0:0≤zeO l 0:=h0;have e1:0≤zeO l 1:=h1;have e2:0≤zeO l 2:=h2;have e3:0≤zeO l 3:=h3;simp [zlW,four,e0,e1,e2,e3]
   rw [hv] at h;refine .qt rfl ?_;simp (disch:=first|exact za|fail) only [go_sem,seval,A];refine .qF rfl ?_;refine .qt rfl ?_;simp (disch:=first|exact za|fail) only [go_sem,seval,A];refine .qr rfl Tryz.func101 (by rw [Tryz.results101]) (hx:=by simp (disch:=first|exact za|fail) only [go_sem,seval,A];rfl) ?_;simp (disch:=first|exact za|fail) only [go_sem,seval,A];exact h
 · refine .qt rfl ?_;simp (disch:=first|exact za|fail) only [go_sem,seval,A];refine .qT rfl ?_;refine .qt rfl ?_;simp (disch:=first|exact za|fail) only [go_sem,seval,A];refine CallK.of (fun R h=>zba l hl (i:Int) (by omega) _ R h) ?_;simp (disch:=first|exact za|fail) only [go_sem,seval,A]
   rcases Classical.em (zeO l i < 0) with a | a
   · have hv:zlW l=false:=by
      unfold zlW;rw [List.all_eq_false]
      refine⟨(i:Int),?_,by simp;omega⟩
      have:i=0 ∨ i=1 ∨ i=2 ∨ i=3:=by omega
      rcases this with rfl | rfl | rfl | rfl<;>simp [four]
     rw [hv] at h;refine .qT rfl ?_;refine .qt rfl ?_;simp (disch:=first|exact za|fail) only [go_sem,seval,A];refine .qr rfl Tryz.func101 (by rw [Tryz.results101]) (hx:=by simp (disch:=first|exact za|fail) only [go_sem,seval,A];rfl) ?_;simp (disch:=first|exact za|fail) only [go_sem,seval,A];exact h
   · refine .qF rfl ?_;refine .skip ?_;refine .qt rfl ?_;simp (disch:=first|exact za|fail) only [go_sem,seval,A]
     first | (refine ihA _ _ ?_ (fun j hj=>by by_cases e:j=i;(subst e;omega);exact hQ j (by omega)) ?_) | (refine .z rfl ?_;refine ihA _ _ ?_ (fun j hj=>by by_cases e:j=i;(subst e;omega);exact hQ j (by omega)) ?_) | (refine .z rfl ?_;refine .z rfl ?_;refine ihA _ _ ?_ (fun j hj=>by by_cases e:j=i;(subst e;omega);exact hQ j (by omega)) ?_) | (refine .z rfl ?_;refine .z rfl ?_;refine .z rfl ?_;refine ihA _ _ ?_ (fun j hj=>by by_cases e:j=i;(subst e;omega);exact hQ j (by omega)) ?_)
     · simp (disch:=first|exact za|fail) only [go_sem,seval,A]<;>(repeat' (first | rfl | refine And.intro ?_ ?_))
     · first | exact .mk _ rfl | exact .mk [] rfl | (apply Later.mk;simp (disch:=first|exact za|fail) only [go_sem,seval,zj,A];exact rfl) | (apply Later.mk;simp (disch:=first|exact za|fail) only [go_sem,seval,zj,yh,List.append_assoc,A]<;>(try rfl))
theorem zgP (c:Int) (hc:0≤c∧c < 4) (H:Hp) (R:AV → Hp → Prop) (h:R (.p (i64 (if c=1 ∨ c=3 then 8 else 4))) H):ACall Tryz.prog G 99 [.p (i64 c)] H R:=by
 have:c=0 ∨ c=1 ∨ c=2 ∨ c=3:=by omega
 refine ACall.of_run (raw:=[]) Tryz.func99 rfl Tryz.ntmps99 (by simp) fun hbel => ?_
 refine .qt rfl ?_;simp (disch:=first|exact za|fail) only [go_sem,seval];refine .qt rfl ?_;simp (disch:=first|exact za|fail) only [go_sem,seval]
 rcases this with rfl | rfl | rfl | rfl
 · refine .qt rfl ?_;simp (disch:=first|exact za|fail) only [go_sem,seval];refine .qT rfl ?_;refine .qt rfl ?_;simp (disch:=first|exact za|fail) only [go_sem,seval];refine .qr rfl Tryz.func99 (by rw [Tryz.results99]) ?_;simp (disch:=first|exact za|fail) only [go_sem,seval];exact h
 · refine .qt rfl ?_;simp (disch:=first|exact za|fail) only [go_sem,seval];refine .qF rfl ?_;refine .qt rfl ?_;simp (disch:=first|exact za|fail) only [go_sem,seval];refine .qT rfl ?_;refine .qt rfl ?_;simp (disch:=first|exact za|fail) only [go_sem,seval];refine .qr rfl Tryz.func99 (by rw [Tryz.results99]) ?_;simp (disch:=first|exact za|fail) only [go_sem,seval];exact h
 · refine .qt rfl ?_;simp (disch:=first|exact za|fail) only [go_sem,seval];refine .qF rfl ?_;refine .qt rfl ?_;simp (disch:=first|exact za|fail) only [go_sem,seval];refine .qF rfl ?_;refine .qt rfl ?_;simp (disch:=first|exact za|fail) only [go_sem,seval];refine .qT rfl ?_;refine .qt rfl ?_;simp (disch:=first|exact za|fail) only [go_sem,seval];refine .qr rfl Tryz.func99 (by rw [Tryz.results99]) ?_;simp (disch:=first|exact za|fail) only [go_sem,seval];exact h
 · refine .qt rfl ?_;simp (disch:=first|exact za|fail) only [go_sem,seval];refine .qF rfl ?_;refine .qt rfl ?_;simp (disch:=first|exact za|fail) only [go_sem,seval];refine .qF rfl ?_;refine .qt rfl ?_;simp (disch:=first|exact za|fail) only [go_sem,seval];refine .qF rfl ?_;refine .qt rfl ?_;simp (disch:=first|exact za|fail) only [go_sem,seval];refine .qT rfl ?_;refine .qt rfl ?_;simp (disch:=first|exact za|fail) only [go_sem,seval];refine .qr rfl Tryz.func99 (by rw [Tryz.results99]) ?_;simp (disch:=first|exact za|fail) only [go_sem,seval];exact h
set_option maxHeartbeats 8000000 in
theorem zpc (x y z:Nat) (hz:x*y=z) (hx:z < 17596287801000001) (hx1:x < 17596287801000001) (hy:y < 256) (hxy:x=0 ∨ y≤4611686018427387903 / x) (H:Hp) (R:AV → Hp → Prop) (h:R (.tup [.p (i64 z),.p (bo true)]) H):ACall Tryz.prog G 143 [.p (i64 x),.p (i64 y)] H R:=by
 refine ACall.of_run (raw:=[]) Tryz.func143 rfl Tryz.ntmps143 (by simp) fun hbel => ?_
 have hzi:(x:Int)*(y:Int)=(z:Int):=by rw [←hz];exact (Int.natCast_mul ..).symm
 refine .qt rfl ?_;simp (disch:=first|exact za|fail) only [go_sem,seval]
 rcases Classical.em (x=0) with a | a
 · refine .qt rfl ?_;simp (disch:=first|exact za|fail) only [go_sem,seval];refine .qF rfl ?_;refine .skip ?_;refine .qt rfl ?_;simp (disch:=first|exact za|fail) only [go_sem,seval,hzi];refine .qr rfl Tryz.func143 (by rw [Tryz.results143]) ?_;simp (disch:=first|exact za|fail) only [go_sem,seval];exact h
 · have hq:(4611686018427387903:Int) / (x:Int)=((4611686018427387903 / x:Nat):Int):=(Int.natCast_ediv 4611686018427387903 x).symm;have hy2:y≤4611686018427387903 / x:=hxy.resolve_left a;refine .qt rfl ?_;simp (disch:=first|exact za|fail) only [go_sem,seval,hq]
   generalize 4611686018427387903 / x=k at *
   refine .qF rfl ?_;refine .skip ?_;refine .qt rfl ?_;simp (disch:=first|exact za|fail) only [go_sem,seval,hzi];refine .qr rfl Tryz.func143 (by rw [Tryz.results143]) ?_;simp (disch:=first|exact za|fail) only [go_sem,seval];exact h
set_option maxHeartbeats 8000000 in
theorem zc7 (n m k:Nat) (hn:n≤64) (hm:m≤255) (hk:k≤6) (H:Hp) (R:AV → Hp → Prop) (h:R (.tup [.p (i64 (pw n m k:Nat)),.p (bo true)]) H):ACall Tryz.prog G 102 [.p (i64 n),.p (i64 m),.p (i64 k)] H R:=by
 refine ACall.of_run (raw:=[]) Tryz.func102 rfl Tryz.ntmps102 (by simp) fun hbel => ?_
 have h00:pw n m 0=n:=by simp [pw]
 refine .qt rfl ?_;simp (disch:=first|exact za|fail) only [go_sem,seval];refine .qt rfl ?_;simp (disch:=first|exact za|fail) only [go_sem,seval];refine .qt rfl ?_;simp (disch:=first|exact za|fail) only [go_sem,seval]
 refine .q ?_;first | refine .loopF0 [1,2] (fun i=>[(8,.p (i64 (pw n m i:Nat))),(9,.p (bo true)),(10,.p (i64 i))]) (fun i=>True) (0) (k) (by omega) ?_ ?_ ?_ ?_ | refine .loopF [1,2] (fun i=>[(8,.p (i64 (pw n m i:Nat))),(9,.p (bo true)),(10,.p (i64 i))]) (fun _=>[]) (fun i=>True) (0) (k) (by omega) ?_ (by rfl) ?_ ?_ ?_
 · simp (disch:=first|exact za|fail) only [go_sem,seval,h00]<;>(repeat' (first | rfl | refine And.intro ?_ ?_))
 · exact trivial
 intro env T E hQ;simp (disch:=first|exact za|fail) only [go_sem,seval,h00] at E
 rotate_left 1
 intro i env T hi0 hi E hQ ihE;simp (disch:=first|exact za|fail) only [go_sem,seval,h00] at E
 rotate_left 1
 · refine .qt rfl ?_;simp (disch:=first|exact za|fail) only [go_sem,seval,E];refine .qF rfl ?_;refine .qt rfl ?_;simp (disch:=first|exact za|fail) only [go_sem,seval,E];refine .qr rfl Tryz.func102 (by rw [Tryz.results102]) (hx:=by simp (disch:=first|exact za|fail) only [go_sem,seval,E];rfl) ?_;simp (disch:=first|exact za|fail) only [go_sem,seval,E];exact h
 · have h1:=zdi hm (show i≤6 by omega);have h2:=zdi hm (show i+1≤6 by omega);have h1':pw n m i≤64*274941996890625:=Nat.mul_le_mul hn h1;have h2':pw n m (i+1)≤64*274941996890625:=Nat.mul_le_mul hn h2
   have h3:pw n m i*m=pw n m (i+1):=by unfold pw;rw [Nat.pow_succ,Nat.mul_assoc]
   have h4:pw n m i=0 ∨ m≤4611686018427387903 / (pw n m i):=by
    rcases Nat.eq_zero_or_pos (pw n m i) with e | e
    · exact .inl e
    · right
      rw [Nat.le_div_iff_mul_le e,Nat.mul_comm,h3];omega
   clear h1 h2
   refine .qt rfl ?_;simp (disch:=first|exact za|fail) only [go_sem,seval,E];refine .qT rfl ?_
   generalize pw n m (i+1)=z at *
   generalize pw n m i=x at *
   refine .qt rfl ?_;simp (disch:=first|exact za|fail) only [go_sem,seval,E];refine CallK.of (fun R h=>zpc x m z h3 (by omega) (by omega) (by omega) h4 _ R h) ?_;simp (disch:=first|exact za|fail) only [go_sem,seval,E];refine .qt rfl ?_;simp (disch:=first|exact za|fail) only [go_sem,seval,E];refine .qt rfl ?_;simp (disch:=first|exact za|fail) only [go_sem,seval,E];refine .qt rfl ?_;simp (disch:=first|exact za|fail) only [go_sem,seval,E]
   first | (refine ihE _ _ ?_ trivial ?_) | (refine .z rfl ?_;refine ihE _ _ ?_ trivial ?_) | (refine .z rfl ?_;refine .z rfl ?_;refine ihE _ _ ?_ trivial ?_) | (refine .z rfl ?_;refine .z rfl ?_;refine .z rfl ?_;refine ihE _ _ ?_ trivial ?_)
   · simp (disch:=first|exact za|fail) only [go_sem,seval,E]<;>(repeat' (first | rfl | refine And.intro ?_ ?_))
   · first | exact .mk _ rfl | exact .mk [] rfl | (apply Later.mk;simp (disch:=first|exact za|fail) only [go_sem,seval,zj,E];exact rfl) | (apply Later.mk;simp (disch:=first|exact za|fail) only [go_sem,seval,zj,yh,List.append_assoc,E]<;>(try rfl))
end walks
end Go.Proofs.YthaoifcebimkfaaGreatDoor

namespace Go.Proofs.YthaoifcebimkfaaGreatDoor
open Go Go.AL

section walks
variable {G:Globs}
set_option maxHeartbeats 8000000 in
set_option maxRecDepth 20000 in
theorem zpd (n:Nat) (l:List Cnd) (hl:l.length≤3) (c:Int) (hc:0≤c∧c < 4) (H:Hp) (R:AV → Hp → Prop) (h : ∀ xs:List Int,xs.length=16 → R (.sl H.n 0 1 (pl i64 xs)) (H.new (.tail 0))):ACall Tryz.prog G 100 [.p (yp l),  .p (i64 c),.p (i64 n)] H R:=by
 refine ACall.of_run (raw:=[]) Tryz.func100 rfl Tryz.ntmps100 (by simp) fun hbel => ?_
 refine .qt rfl ?_;simp (disch:=first|exact za|fail) only [go_sem,seval];refine .qt rfl ?_;simp (disch:=first|exact za|fail) only [go_sem,seval];refine .q ?_;refine .own 7 (by simp (disch:=first|exact za|fail) only [go_sem,seval];rfl) ?_;refine .qt rfl ?_;simp (disch:=first|exact za|fail) only [go_sem,seval];refine .q ?_;refine .count (fun i env H'=>env 0 = .p (yp l)∧env 1 = .p (i64 c)∧env 2 = .p (i64 n)∧env 8 = .p (i64 i)∧H'=H.new (.tail i) ∧ ∃ xs:List Int,xs.length=i∧env 7 = .sl H.n i 1 (pl i64 xs)) 0 16 (by omega) ?_ ?_ ?_
 · refine⟨?_,?_,?_,?_,rfl,[],rfl,?_⟩<;>simp (disch:=first|exact za|fail) only [go_sem,seval,zeA]
 · rintro env H' ⟨e0,e1,e2,e8,rfl,xs,hx,e7⟩
   refine .qt rfl ?_;simp (disch:=first|exact za|fail) only [go_sem,seval,e8];refine .qF rfl ?_;refine .qt rfl ?_;simp (disch:=first|exact za|fail) only [go_sem,seval,e7];refine .q ?_;refine .retOwn Tryz.func100 (by rw [Tryz.results100]) (by simp (disch:=first|exact za|fail) only [go_sem,seval,e7];rfl) (by simp (disch:=first|exact za|fail) only [go_sem,seval,e7]) (by first | exact Nat.le_refl _ | (dsimp only;omega)) (by (try dsimp only);repeat (first | with_reducible refine zam ?_ za | with_reducible refine zd8 ?_ za | with_reducible refine zaG ?_ za | with_reducible refine znz ?_ | with_reducible exact hbel | with_reducible exact hbel _)) ?_;simp (disch:=first|exact za|fail) only [go_sem,seval,e7];exact h xs hx
 · rintro i env H' hi0 hi ⟨e0,e1,e2,e8,rfl,xs,hx,e7⟩ ihO
   refine .qt rfl ?_;simp (disch:=first|exact za|fail) only [go_sem,seval,e8];refine .qT rfl ?_;refine .qt rfl ?_;simp (disch:=first|exact za|fail) only [go_sem,seval];refine .q ?_;refine .cut2 (fun env2 H2 => ∃ v:Int,env2 0 = .p (yp l)∧env2 1 = .p (i64 c)∧env2 2 = .p (i64 n)∧env2 8 = .p (i64 i)∧env2 7 = .sl H.n i 1 (pl i64 xs)∧env2 9 = .p (i64 v)∧H2=H.new (.tail i)) (fun ih => ?_) ?_
   · cases hs:zlW l with
     | false =>
      refine .qt rfl ?_;simp (disch:=first|exact za|fail) only [go_sem,seval,e0];refine CallK.of (fun R h=>zdk l hl _ R h) ?_;simp (disch:=first|exact za|fail) only [go_sem,seval,hs];refine .qF rfl ?_;refine .skip ?_;refine ih _ _ ⟨0,?_,?_,?_,?_,?_,?_,rfl⟩<;>simp (disch:=first|exact za|fail) only [go_sem,seval,e0,e1,e2,e7,e8]
     | true =>
      refine .qt rfl ?_;simp (disch:=first|exact za|fail) only [go_sem,seval,e0];refine CallK.of (fun R h=>zdk l hl _ R h) ?_;simp (disch:=first|exact za|fail) only [go_sem,seval,hs,e0,e1,e8];refine CallK.of (fun R h=>zdu l hl c hc i _ R h) ?_;simp (disch:=first|exact za|fail) only [go_sem,seval,e0,e1,e8]
      cases hp:zjr l c i with
      | false =>
       refine .q ?_;refine .ifF (by simp (disch:=first|exact za|fail) only [go_sem,seval,hp]) ?_;refine .skip ?_;refine ih _ _ ⟨0,?_,?_,?_,?_,?_,?_,rfl⟩<;>simp (disch:=first|exact za|fail) only [go_sem,seval,e0,e1,e2,e7,e8]
      | true =>
       refine .q ?_;refine .ifT (by simp (disch:=first|exact za|fail) only [go_sem,seval,hp]) ?_;refine .qt rfl ?_;simp (disch:=first|exact za|fail) only [go_sem,seval,e2];refine ih _ _ ⟨n,?_,?_,?_,?_,?_,?_,rfl⟩<;>simp (disch:=first|exact za|fail) only [go_sem,seval,e0,e1,e2,e7,e8]
   rintro env H2 ⟨v,e0,e1,e2,e8,e7,e9,rfl⟩
   have hxs:pl i64 xs++[i64 v]=pl i64 (xs++[v]):=by rw [←yr];rfl
   refine .qt rfl ?_;simp (disch:=first|exact za|fail) only [go_sem,seval,e7,e9,hxs,hx];refine .qt rfl ?_;simp (disch:=first|exact za|fail) only [go_sem,seval,e8];refine ihO _ _ ⟨?_,?_,?_,?_,?_,xs++[v],by simp [hx],?_⟩<;>simp (disch:=first|exact za|fail) only [go_sem,seval,e0,e1,e2]
theorem zbz (n:Nat) (l:List Cnd) (hl:l.length≤3) (c:Int) (hc:0≤c∧c < 4) (H:Hp):ACall Tryz.prog G 100 [.p (yp l),  .p (i64 c),.p (i64 n)] H (fun r H'=>(∃ xs:List Int,xs.length=16∧r = .sl H.n 0 1 (pl i64 xs))∧H'=H.new (.tail 0)) :=
 zpd n l hl c hc H _ fun xs hx=>⟨⟨xs,hx,rfl⟩,rfl⟩
set_option maxHeartbeats 16000000 in
set_option maxRecDepth 20000 in
theorem zlX (n:Nat) (hn64:n≤64) (q:Qry) (hk:okI q.kind) (H:Hp) (R:AV → Hp → Prop) (h : ∀ x,R (.tup [.p (.agg [x]),.p (i64 (yi q))]) H):ACall Tryz.prog G 44 [.p (qry q),.p (i64 n)] H R:=by
 refine ACall.of_run (raw:=[]) Tryz.func44 rfl Tryz.ntmps44 (by simp) fun hbel => ?_
 refine .qt rfl ?_;simp (disch:=first|exact za|fail) only [go_sem,seval]
 cases hv:vQ q with
 | false =>
  have he:yi q=1:=by rw [yi,hv];rfl
  rw [he] at h;refine .qt rfl ?_;simp (disch:=first|exact za|fail) only [go_sem,seval];refine CallK.of (fun R h=>ze5 q hk _ R h) ?_;simp (disch:=first|exact za|fail) only [go_sem,seval,hv];refine .qT rfl ?_;refine .qt rfl ?_;simp (disch:=first|exact za|fail) only [go_sem,seval];refine .qr rfl Tryz.func44 (by rw [Tryz.results44]) ?_;simp (disch:=first|exact za|fail) only [go_sem,seval];exact h _
 | true =>
  obtain⟨hk7,hcol,hK,hlf,hall⟩:(1≤q.kind∧q.kind≤7)∧(0≤q.col∧q.col < 4)∧(min (yd q.kind) 1≤q.k∧q.k≤yd q.kind)∧(q.fl.length=if q.kind=7 then 2 else 1)∧q.fl.all vF=true:=by
   have hq:=hv;simp only [vQ,Bool.and_eq_true,decide_eq_true_eq] at hq;exact⟨hq.1,hq.2.1,hq.2.2.2.1,hq.2.2.2.2.1,hq.2.2.2.2.2⟩
  have hl0:0 < q.fl.length:=by rw [hlf];split<;>decide
  have hl3:(nth q.fl 0).length≤3:=by
   have:=zbL hv hl0
   simp only [vF,Bool.and_eq_true,decide_eq_true_eq] at this;exact this.1
  refine .qt rfl ?_;simp (disch:=first|exact za|fail) only [go_sem,seval];refine CallK.of (fun R h=>ze5 q hk _ R h) ?_;simp (disch:=first|exact za|fail) only [go_sem,seval,hv];refine .qF rfl ?_;refine .skip ?_
  rcases Classical.em (4≤q.kind∧q.kind≤6∧(q.col=1 ∨ q.col=3)) with hE | hE
  · have he:yi q=140:=by rw [yi,hv,if_pos rfl,if_pos hE]
    rw [he] at h
    obtain⟨x1,x2,x3⟩:=hE
    refine .qt rfl ?_;simp (disch:=first|exact za|fail) only [go_sem,seval];refine CallK.of (fun R h=>zgP q.col hcol _ R h) ?_;simp (disch:=first|exact za|fail) only [go_sem,seval];refine .qT rfl ?_;refine .qt rfl ?_;simp (disch:=first|exact za|fail) only [go_sem,seval];refine .qr rfl Tryz.func44 (by rw [Tryz.results44]) ?_;simp (disch:=first|exact za|fail) only [go_sem,seval];exact h _
  have he:yi q=0:=by rw [yi,hv,if_pos rfl,if_neg hE]
  rw [he] at h
  have hq0:((H.new (.cells [.p (i64 q.kind),.p (i64 q.col),.p (i64 q.k),.p (.sl false 1 (pl yp q.fl))])).new (.cells [.p (.sl true 1 [])])).f H.n=some (.cells [.p (i64 q.kind),.p (i64 q.col),.p (i64 q.k),.p (.sl false 1 (pl yp q.fl))]):=by simp (disch:=first|exact za|fail) only [go_sem,seval]
  have hb3:Bel H.n ((H.new (.cells [.p (i64 q.kind),.p (i64 q.col),.p (i64 q.k),.p (.sl false 1 (pl yp q.fl))])).new (.cells [.p (.sl true 1 [])])):=by
   repeat (first | with_reducible refine zam ?_ za | with_reducible refine zaG ?_ za | with_reducible exact hbel)
  have hn3:((H.new (.cells [.p (i64 q.kind),.p (i64 q.col),.p (i64 q.k),.p (.sl false 1 (pl yp q.fl))])).new (.cells [.p (.sl true 1 [])])).f (H.n+1)=some (.cells [.p (.sl true 1 [])]):=by simp (disch:=first|exact za|fail) only [go_sem,seval]
  have ht3:((H.new (.cells [.p (i64 q.kind),.p (i64 q.col),.p (i64 q.k),.p (.sl false 1 (pl yp q.fl))])).new (.cells [.p (.sl true 1 [])])).trunc H.n=H:=by simp (disch:=first|exact za|fail) only [go_sem,seval]
  refine .q ?_;refine .cut2 (fun env2 H2=>env2 1 = .p (i64 n)∧env2 2 = .ptr H.n 0∧env2 4 = .ptr (H.n+1) 0∧H2=((H.new (.cells [.p (i64 q.kind),.p (i64 q.col),.p (i64 q.k),.p (.sl false 1 (pl yp q.fl))])).new (.cells [.p (.sl true 1 [])]))) (fun ih => ?_) ?_
  · rcases Classical.em (4≤q.kind) with k1 | k1
    · rcases Classical.em (q.kind≤6) with k2 | k2
      · have hc : ¬ (q.col=1 ∨ q.col=3):=fun e=>hE ⟨k1,k2,e⟩
        refine .qt rfl ?_;simp (disch:=first|exact za|fail) only [go_sem,seval];refine CallK.of (fun R h=>zgP q.col hcol _ R h) ?_;simp (disch:=first|exact za|fail) only [go_sem,seval];refine .qF rfl ?_;refine .skip ?_;refine ih _ _ ⟨?_,?_,?_,rfl⟩<;>simp (disch:=first|exact za|fail) only [go_sem,seval]
      · refine .qt rfl ?_;simp (disch:=first|exact za|fail) only [go_sem,seval];refine .qF rfl ?_;refine .skip ?_;refine ih _ _ ⟨?_,?_,?_,rfl⟩<;>simp (disch:=first|exact za|fail) only [go_sem,seval]
    · refine .qt rfl ?_;simp (disch:=first|exact za|fail) only [go_sem,seval];refine .qF rfl ?_;refine .skip ?_;refine ih _ _ ⟨?_,?_,?_,rfl⟩<;>simp (disch:=first|exact za|fail) only [go_sem,seval]
  rintro env H2 ⟨e1,e2,e4,hH2⟩
  rw [←hH2] at hq0 hb3 hn3 ht3;have hbel:=hb3;have hl2:=Hp.lt hn3;rw [←ht3] at h
  clear hH2
  refine .qt rfl ?_;simp (disch:=first|exact za|fail) only [go_sem,seval,e2,hq0];refine .qt rfl ?_;simp (disch:=first|exact za|fail) only [go_sem,seval,e2,hq0]
  rcases Classical.em (q.kind=4) with k4 | k4
  · refine .qt rfl ?_;simp (disch:=first|exact za|fail) only [go_sem,seval,k4];refine .qT rfl ?_;refine .qt rfl ?_;simp (disch:=first|exact za|fail) only [go_sem,seval,e1,e2,hq0]
    refine (zbz n (nth q.fl 0) hl3 q.col hcol _).mono fun r H' hr => ?_
    obtain⟨⟨xs,hxs,rfl⟩,rfl⟩:=hr
    refine AOps.weak 50 (x := .sl H2.n 0 1 (pl i64 xs)) (y := .p (.sl false 1 (pl i64 xs))) (by simp (disch:=first|exact za|fail) only [go_sem,seval]) (by simp (disch:=first|exact za|fail) only [go_sem,seval,AV.weak]) (AOps.run ?_);simp (disch:=first|exact za|fail) only [go_sem,seval,e4,hn3];refine .qr rfl Tryz.func44 (by rw [Tryz.results44]) (hx:=by simp (disch:=first|exact za|fail) only [go_sem,seval,e4];rfl) ?_;simp (disch:=first|exact za|fail) only [go_sem,seval,e4];exact h _
  refine .qt rfl ?_;simp (disch:=first|exact za|fail) only [go_sem,seval];refine .qF rfl ?_
  rcases Classical.em (q.kind=5) with k5 | k5
  · refine .qt rfl ?_;simp (disch:=first|exact za|fail) only [go_sem,seval,k5];refine .qT rfl ?_;refine .qt rfl ?_;simp (disch:=first|exact za|fail) only [go_sem,seval,e1,e2,hq0]
    refine (zbz n (nth q.fl 0) hl3 q.col hcol _).mono fun r H' hr => ?_
    obtain⟨⟨xs,hxs,rfl⟩,rfl⟩:=hr
    refine AOps.weak 58 (x := .sl H2.n 0 1 (pl i64 xs)) (y := .p (.sl false 1 (pl i64 xs))) (by simp (disch:=first|exact za|fail) only [go_sem,seval]) (by simp (disch:=first|exact za|fail) only [go_sem,seval,AV.weak]) (AOps.run ?_);simp (disch:=first|exact za|fail) only [go_sem,seval,e4,hn3];refine .qr rfl Tryz.func44 (by rw [Tryz.results44]) (hx:=by simp (disch:=first|exact za|fail) only [go_sem,seval,e4];rfl) ?_;simp (disch:=first|exact za|fail) only [go_sem,seval,e4];exact h _
  refine .qt rfl ?_;simp (disch:=first|exact za|fail) only [go_sem,seval];refine .qF rfl ?_
  rcases Classical.em (q.kind=6) with k6 | k6
  · refine .qt rfl ?_;simp (disch:=first|exact za|fail) only [go_sem,seval,k6];refine .qT rfl ?_;refine .qt rfl ?_;simp (disch:=first|exact za|fail) only [go_sem,seval,e1,e2,hq0]
    refine (zbz n (nth q.fl 0) hl3 q.col hcol _).mono fun r H' hr => ?_
    obtain⟨⟨xs,hxs,rfl⟩,rfl⟩:=hr
    refine AOps.weak 66 (x := .sl H2.n 0 1 (pl i64 xs)) (y := .p (.sl false 1 (pl i64 xs))) (by simp (disch:=first|exact za|fail) only [go_sem,seval]) (by simp (disch:=first|exact za|fail) only [go_sem,seval,AV.weak]) (AOps.run ?_);simp (disch:=first|exact za|fail) only [go_sem,seval,e4,hn3];refine .qr rfl Tryz.func44 (by rw [Tryz.results44]) (hx:=by simp (disch:=first|exact za|fail) only [go_sem,seval,e4];rfl) ?_;simp (disch:=first|exact za|fail) only [go_sem,seval,e4];exact h _
  refine .qt rfl ?_;simp (disch:=first|exact za|fail) only [go_sem,seval];refine .qF rfl ?_
  rcases Classical.em (q.kind=7) with k7 | k7
  · have hl2:q.fl.length=2:=by rw [hlf,if_pos k7]
    have hl32:(nth q.fl 1).length≤3:=by
     have:=zbL hv (show 1 < q.fl.length by omega)
     simp only [vF,Bool.and_eq_true,decide_eq_true_eq] at this;exact this.1
    refine .qt rfl ?_;simp (disch:=first|exact za|fail) only [go_sem,seval,k7];refine .qT rfl ?_;refine .qt rfl ?_;simp (disch:=first|exact za|fail) only [go_sem,seval,e1,e2,hq0];refine CallK.ex (zbz n (nth q.fl 0) hl3 0 (by omega) _) ?_
    rintro _ _ ⟨⟨xs,hxs,rfl⟩,rfl⟩
    simp (disch:=first|exact za|fail) only [go_sem,seval];refine .qt rfl ?_;simp (disch:=first|exact za|fail) only [go_sem,seval,e1,e2,hq0,hl2]
    refine (zbz n (nth q.fl 1) hl32 0 (by omega) _).mono fun r H' hr => ?_
    obtain⟨⟨ys,hys,rfl⟩,rfl⟩:=hr
    refine AOps.one rfl (x := .sl H2.n 1 1 (pl i64 (xs++ys))) (H':=((H2.new (.tail 0)).new (.tail 0)).set H2.n (.tail 1)) (by simp (disch:=first|exact za|fail) only [go_sem,seval,hxs,hys]) rfl ?_;refine AOps.weak 80 (x := .sl H2.n 1 1 (pl i64 (xs++ys))) (y := .p (.sl false 1 (pl i64 (xs++ys)))) (by simp (disch:=first|exact za|fail) only [go_sem,seval]) (by simp (disch:=first|exact za|fail) only [go_sem,seval,AV.weak]) (AOps.run ?_);simp (disch:=first|exact za|fail) only [go_sem,seval,e4,hn3];refine .qr rfl Tryz.func44 (by rw [Tryz.results44]) (hx:=by simp (disch:=first|exact za|fail) only [go_sem,seval,e4];rfl) ?_;simp (disch:=first|exact za|fail) only [go_sem,seval,e4];exact h _
  refine .qt rfl ?_;simp (disch:=first|exact za|fail) only [go_sem,seval];refine .qF rfl ?_
  cases hs:zlW (nth q.fl 0) with
  | false =>
   refine .qt rfl ?_;simp (disch:=first|exact za|fail) only [go_sem,seval];refine CallK.of (fun R h=>zdk (nth q.fl 0) hl3 _ R h) ?_;simp (disch:=first|exact za|fail) only [go_sem,seval,hs];refine .qT rfl ?_;refine .qt rfl ?_;simp (disch:=first|exact za|fail) only [go_sem,seval,e4,hn3];refine .qr rfl Tryz.func44 (by rw [Tryz.results44]) (hx:=by simp (disch:=first|exact za|fail) only [go_sem,seval,e4];rfl) ?_;simp (disch:=first|exact za|fail) only [go_sem,seval,e4];exact h _
  | true =>
   obtain⟨m,hm⟩ : ∃ m:Nat,zeO (nth q.fl 0) q.col=m:=by
    have hc:q.col=0 ∨ q.col=1 ∨ q.col=2 ∨ q.col=3:=by omega
    have hh:=hs;unfold zlW at hh;rw [List.all_eq_true] at hh
    have:=hh q.col (by rcases hc with e | e | e | e<;>rw [e]<;>simp [four])
    rw [decide_eq_true_eq] at this
    exact⟨_,(Int.toNat_of_nonneg this).symm⟩
   have hm2:m≤255:=by
    have h1:=(zx9 (nth q.fl 0) q.col ((yu q.col.toNat).toNat+1)).2;have h2:=zgO q.col.toNat;unfold zeO at hm;rw [hm] at h1;omega
   refine .qt rfl ?_;simp (disch:=first|exact za|fail) only [go_sem,seval];refine CallK.of (fun R h=>zdk (nth q.fl 0) hl3 _ R h) ?_;simp (disch:=first|exact za|fail) only [go_sem,seval,hs];refine .qF rfl ?_;refine .skip ?_
   have hc:q.kind=1 ∨ q.kind=2 ∨ q.kind=3:=by omega
   rcases hc with k1 | k1 | k1
   · refine .qt rfl ?_;simp (disch:=first|exact za|fail) only [go_sem,seval];refine .qt rfl ?_;simp (disch:=first|exact za|fail) only [go_sem,seval,e2,hq0,k1];refine .qF rfl ?_;refine .skip ?_;refine .qt rfl ?_;simp (disch:=first|exact za|fail) only [go_sem,seval,e2,hq0,k1];refine .qF rfl ?_;refine .skip ?_;refine .qt rfl ?_;simp (disch:=first|exact za|fail) only [go_sem,seval,e1,e2,hq0];refine CallK.of (fun R h=>zba (nth q.fl 0) hl3 q.col hcol _ R h) ?_;simp (disch:=first|exact za|fail) only [go_sem,seval,hm];refine CallK.of (fun R h=>zc7 n m 0 hn64 hm2 (by omega) _ R h) ?_;simp (disch:=first|exact za|fail) only [go_sem,seval,hm];refine .qt rfl ?_;simp (disch:=first|exact za|fail) only [go_sem,seval];refine .qF rfl ?_;refine .skip ?_;refine .qt rfl ?_;simp (disch:=first|exact za|fail) only [go_sem,seval,e4,hn3];refine .qr rfl Tryz.func44 (by rw [Tryz.results44]) (hx:=by simp (disch:=first|exact za|fail) only [go_sem,seval,e4];rfl) ?_;simp (disch:=first|exact za|fail) only [go_sem,seval,e4];exact h _
   · refine .qt rfl ?_;simp (disch:=first|exact za|fail) only [go_sem,seval];refine .qt rfl ?_;simp (disch:=first|exact za|fail) only [go_sem,seval,e2,hq0,k1];refine .qT rfl ?_;refine .qt rfl ?_;simp (disch:=first|exact za|fail) only [go_sem,seval];refine .qt rfl ?_;simp (disch:=first|exact za|fail) only [go_sem,seval,e2,hq0,k1];refine .qF rfl ?_;refine .skip ?_;refine .qt rfl ?_;simp (disch:=first|exact za|fail) only [go_sem,seval,e1,e2,hq0];refine CallK.of (fun R h=>zba (nth q.fl 0) hl3 q.col hcol _ R h) ?_;simp (disch:=first|exact za|fail) only [go_sem,seval,hm];refine CallK.of (fun R h=>zc7 n m 1 hn64 hm2 (by omega) _ R h) ?_;simp (disch:=first|exact za|fail) only [go_sem,seval,hm];refine .qt rfl ?_;simp (disch:=first|exact za|fail) only [go_sem,seval];refine .qF rfl ?_;refine .skip ?_;refine .qt rfl ?_;simp (disch:=first|exact za|fail) only [go_sem,seval,e4,hn3];refine .qr rfl Tryz.func44 (by rw [Tryz.results44]) (hx:=by simp (disch:=first|exact za|fail) only [go_sem,seval,e4];rfl) ?_;simp (disch:=first|exact za|fail) only [go_sem,seval,e4];exact h _
   · have hk3:yd q.kind=6:=by rw [k1];rfl
     obtain⟨kk,hkk⟩ : ∃ kk:Nat,q.k=kk:=⟨q.k.toNat,by omega⟩
     refine .qt rfl ?_;simp (disch:=first|exact za|fail) only [go_sem,seval];refine .qt rfl ?_;simp (disch:=first|exact za|fail) only [go_sem,seval,e2,hq0,k1];refine .qF rfl ?_;refine .skip ?_;refine .qt rfl ?_;simp (disch:=first|exact za|fail) only [go_sem,seval,e2,hq0,k1];refine .qT rfl ?_;refine .qt rfl ?_;simp (disch:=first|exact za|fail) only [go_sem,seval,e2,hq0];refine .qt rfl ?_;simp (disch:=first|exact za|fail) only [go_sem,seval,e1,e2,hq0];refine CallK.of (fun R h=>zba (nth q.fl 0) hl3 q.col hcol _ R h) ?_;simp (disch:=first|exact za|fail) only [go_sem,seval,hm,hkk];refine CallK.of (fun R h=>zc7 n m kk hn64 hm2 (by omega) _ R h) ?_;simp (disch:=first|exact za|fail) only [go_sem,seval,hm];refine .qt rfl ?_;simp (disch:=first|exact za|fail) only [go_sem,seval];refine .qF rfl ?_;refine .skip ?_;refine .qt rfl ?_;simp (disch:=first|exact za|fail) only [go_sem,seval,e4,hn3];refine .qr rfl Tryz.func44 (by rw [Tryz.results44]) (hx:=by simp (disch:=first|exact za|fail) only [go_sem,seval,e4];rfl) ?_;simp (disch:=first|exact za|fail) only [go_sem,seval,e4];exact h _
theorem zlY (n:Nat) (hn:n≤64) (q:Qry) (hk:okI q.kind) (H:Hp):ACall Tryz.prog G 44 [.p (qry q),.p (i64 n)] H (fun r H'=>(∃ x,r = .tup [.p (.agg [x]),.p (i64 (yi q))])∧H'=H):=zlX n hn q hk H _ fun x=>⟨⟨x,rfl⟩,rfl⟩
theorem zlZ (q:Qry) (hk:1≤q.kind∧q.kind≤7) (H:Hp) (R:AV → Hp → Prop) (h:R (.p (i64 (zeL q.kind).s)) H):ACall Tryz.prog G 31 [.p (qry q)] H R:=by
 refine ACall.of_run (raw:=[]) Tryz.func31 rfl Tryz.ntmps31 (by simp) fun hbel => ?_
 refine .qt rfl ?_;simp (disch:=first|exact za|fail) only [go_sem,seval]
 have hc:q.kind=1 ∨ q.kind=2 ∨ q.kind=3 ∨ q.kind=4 ∨ q.kind=5 ∨ q.kind=6 ∨ q.kind=7:=by omega
 refine .qt rfl ?_;simp (disch:=first|exact za|fail) only [go_sem,seval];refine .qF rfl ?_;refine .skip ?_
 rcases hc with e | e | e | e | e | e | e<;>rw [e] at h
 · refine .qt rfl ?_;simp (disch:=first|exact za|fail) only [go_sem,seval,e];refine .qr rfl Tryz.func31 (by rw [Tryz.results31]) ?_;simp (disch:=first|exact za|fail) only [go_sem,seval];exact h
 · refine .qt rfl ?_;simp (disch:=first|exact za|fail) only [go_sem,seval,e];refine .qr rfl Tryz.func31 (by rw [Tryz.results31]) ?_;simp (disch:=first|exact za|fail) only [go_sem,seval];exact h
 · refine .qt rfl ?_;simp (disch:=first|exact za|fail) only [go_sem,seval,e];refine .qr rfl Tryz.func31 (by rw [Tryz.results31]) ?_;simp (disch:=first|exact za|fail) only [go_sem,seval];exact h
 · refine .qt rfl ?_;simp (disch:=first|exact za|fail) only [go_sem,seval,e];refine .qr rfl Tryz.func31 (by rw [Tryz.results31]) ?_;simp (disch:=first|exact za|fail) only [go_sem,seval];exact h
 · refine .qt rfl ?_;simp (disch:=first|exact za|fail) only [go_sem,seval,e];refine .qr rfl Tryz.func31 (by rw [Tryz.results31]) ?_;simp (disch:=first|exact za|fail) only [go_sem,seval];exact h
 · refine .qt rfl ?_;simp (disch:=first|exact za|fail) only [go_sem,seval,e];refine .qr rfl Tryz.func31 (by rw [Tryz.results31]) ?_;simp (disch:=first|exact za|fail) only [go_sem,seval];exact h
 · refine .qt rfl ?_;simp (disch:=first|exact za|fail) only [go_sem,seval,e];refine .qr rfl Tryz.func31 (by rw [Tryz.results31]) ?_;simp (disch:=first|exact za|fail) only [go_sem,seval];exact h
end walks
end Go.Proofs.YthaoifcebimkfaaGreatDoor

namespace Go.Proofs.YthaoifcebimkfaaGreatDoor
open Go Go.AL

section walks
variable {G:Globs}
end walks
end Go.Proofs.YthaoifcebimkfaaGreatDoor

namespace Go.Proofs.YthaoifcebimkfaaGreatDoor
open Go Go.AL

section walks
variable {G:Globs}
set_option maxHeartbeats 8000000 in
set_option maxRecDepth 20000 in
theorem zgQ (a:Circ) (hl:a.layers.length≤1000000) (hx : ∀ x∈a.layers,x.length≤1000000 ∧ ∀ g∈x,okG g) (H:Hp) (R:AV → Hp → Prop) (h:R (.p (bo true)) H):ACall Tryz.prog G 12 [.p (zbK a),.p (zbK a)] H R:=by
 refine ACall.of_run (raw:=[]) Tryz.func12 rfl Tryz.ntmps12 (by simp) fun hbel => ?_
 refine .qt rfl ?_;simp (disch:=first|exact za|fail) only [go_sem,seval];refine .qt rfl ?_;simp (disch:=first|exact za|fail) only [go_sem,seval];refine .qF rfl ?_;refine .skip ?_;refine .qt rfl ?_;simp (disch:=first|exact za|fail) only [go_sem,seval]
 refine .q ?_;first | refine .loopF0 [2,3] (fun i=>[(5,.p (i64 i))]) (fun i=>True) (0) (a.layers.length) (by omega) ?_ ?_ ?_ ?_ | refine .loopF [2,3] (fun i=>[(5,.p (i64 i))]) (fun _=>[]) (fun i=>True) (0) (a.layers.length) (by omega) ?_ (by rfl) ?_ ?_ ?_
 · simp (disch:=first|exact za|fail) only [go_sem,seval]<;>(repeat' (first | rfl | refine And.intro ?_ ?_))
 · exact trivial
 intro env T A hQ;simp (disch:=first|exact za|fail) only [go_sem,seval] at A
 rotate_left 1
 intro i env T hi0 hi A hQ ihA;simp (disch:=first|exact za|fail) only [go_sem,seval] at A
 rotate_left 1
 · refine .qt rfl ?_;simp (disch:=first|exact za|fail) only [go_sem,seval,A];refine .qF rfl ?_;refine .qt rfl ?_;simp (disch:=first|exact za|fail) only [go_sem,seval,A];refine .qr rfl Tryz.func12 (by rw [Tryz.results12]) (hx:=by simp (disch:=first|exact za|fail) only [go_sem,seval,A];rfl) ?_;simp (disch:=first|exact za|fail) only [go_sem,seval,A];exact h
 · obtain⟨h1,h2⟩:=hx (nth a.layers i) (by rw [zh hi];exact List.getElem_mem hi)
   refine .qt rfl ?_;simp (disch:=first|exact za|fail) only [go_sem,seval,A];refine .qT rfl ?_;refine .q ?_;refine .open [] follows (by kernel_rfl) ?_;simp (disch:=first|exact za|fail) only [go_sem,seval,A,yb];refine .qF rfl ?_;refine .skip ?_;refine .qt rfl ?_;simp (disch:=first|exact za|fail) only [go_sem,seval,A]
   refine .q ?_;first | refine .loopF0 [2,3,5] (fun k=>[(6,.p (i64 k))]) (fun k=>True) (0) ((nth a.layers i).length) (by omega) ?_ ?_ ?_ ?_ | refine .loopF [2,3,5] (fun k=>[(6,.p (i64 k))]) (fun _=>[]) (fun k=>True) (0) ((nth a.layers i).length) (by omega) ?_ (by rfl) ?_ ?_ ?_
   · simp (disch:=first|exact za|fail) only [go_sem,seval,A]<;>(repeat' (first | rfl | refine And.intro ?_ ?_))
   · exact trivial
   intro env T B hQ;simp (disch:=first|exact za|fail) only [go_sem,seval,A] at B
   rotate_left 1
   intro k env T hk0 hk B hQ ihB;simp (disch:=first|exact za|fail) only [go_sem,seval,A] at B
   rotate_left 1
   · refine .qt rfl ?_;simp (disch:=first|exact za|fail) only [go_sem,seval,B,A,yb];refine .qF rfl ?_;refine .qt rfl ?_;simp (disch:=first|exact za|fail) only [go_sem,seval,B,A]
     first | (refine ihA _ _ ?_ trivial ?_) | (refine .z rfl ?_;refine ihA _ _ ?_ trivial ?_) | (refine .z rfl ?_;refine .z rfl ?_;refine ihA _ _ ?_ trivial ?_) | (refine .z rfl ?_;refine .z rfl ?_;refine .z rfl ?_;refine ihA _ _ ?_ trivial ?_)
     · simp (disch:=first|exact za|fail) only [go_sem,seval,B,A]<;>(repeat' (first | rfl | refine And.intro ?_ ?_))
     · first | exact .mk _ rfl | exact .mk [] rfl | (apply Later.mk;simp (disch:=first|exact za|fail) only [go_sem,seval,zj,B,A];exact rfl) | (apply Later.mk;simp (disch:=first|exact za|fail) only [go_sem,seval,zj,yh,List.append_assoc,B,A]<;>(try rfl))
   · have hg:=h2 (nth (nth a.layers i) k) (by rw [zh hk];exact List.getElem_mem hk);have heq:=(zpY hg hg).2;rw [decide_eq_true rfl] at heq;refine .qt rfl ?_;simp (disch:=first|exact za|fail) only [go_sem,seval,B,A,yb];refine .qT rfl ?_;refine .q ?_;refine .open [] follows (by kernel_rfl) ?_;simp (disch:=first|exact za|fail) only [go_sem,seval,B,A,yb,heq];refine .qF rfl ?_;refine .skip ?_;refine .qt rfl ?_;simp (disch:=first|exact za|fail) only [go_sem,seval,B,A]
     first | (refine ihB _ _ ?_ trivial ?_) | (refine .z rfl ?_;refine ihB _ _ ?_ trivial ?_) | (refine .z rfl ?_;refine .z rfl ?_;refine ihB _ _ ?_ trivial ?_) | (refine .z rfl ?_;refine .z rfl ?_;refine .z rfl ?_;refine ihB _ _ ?_ trivial ?_)
     · simp (disch:=first|exact za|fail) only [go_sem,seval,B,A]<;>(repeat' (first | rfl | refine And.intro ?_ ?_))
     · first | exact .mk _ rfl | exact .mk [] rfl | (apply Later.mk;simp (disch:=first|exact za|fail) only [go_sem,seval,zj,B,A];exact rfl) | (apply Later.mk;simp (disch:=first|exact za|fail) only [go_sem,seval,zj,yh,List.append_assoc,B,A]<;>(try rfl))
set_option maxHeartbeats 8000000 in
theorem zpe (l:List Int) (hl:l.length≤1000000) (H:Hp) (R:AV → Hp → Prop) (h:R (.p (bo true)) H):ACall Tryz.prog G 20 [.p (.sl false 1 (pl i64 l)),.p (.sl false 1 (pl i64 l))] H R:=by
 refine ACall.of_run (raw:=[]) Tryz.func20 rfl Tryz.ntmps20 (by simp) fun hbel => ?_
 refine .qt rfl ?_;simp (disch:=first|exact za|fail) only [go_sem,seval];refine .qt rfl ?_;simp (disch:=first|exact za|fail) only [go_sem,seval];refine .qF rfl ?_;refine .skip ?_;refine .qt rfl ?_;simp (disch:=first|exact za|fail) only [go_sem,seval]
 refine .q ?_;first | refine .loopF0 [0,1] (fun i=>[(5,.p (i64 i))]) (fun i=>True) (0) (l.length) (by omega) ?_ ?_ ?_ ?_ | refine .loopF [0,1] (fun i=>[(5,.p (i64 i))]) (fun _=>[]) (fun i=>True) (0) (l.length) (by omega) ?_ (by rfl) ?_ ?_ ?_
 · simp (disch:=first|exact za|fail) only [go_sem,seval]<;>(repeat' (first | rfl | refine And.intro ?_ ?_))
 · exact trivial
 intro env T A hQ;simp (disch:=first|exact za|fail) only [go_sem,seval] at A
 rotate_left 1
 intro i env T hi0 hi A hQ ihA;simp (disch:=first|exact za|fail) only [go_sem,seval] at A
 rotate_left 1
 · refine .qt rfl ?_;simp (disch:=first|exact za|fail) only [go_sem,seval,A];refine .qF rfl ?_;refine .qt rfl ?_;simp (disch:=first|exact za|fail) only [go_sem,seval,A];refine .qr rfl Tryz.func20 (by rw [Tryz.results20]) (hx:=by simp (disch:=first|exact za|fail) only [go_sem,seval,A];rfl) ?_;simp (disch:=first|exact za|fail) only [go_sem,seval,A];exact h
 · refine .qt rfl ?_;simp (disch:=first|exact za|fail) only [go_sem,seval,A];refine .qT rfl ?_;refine .q ?_;refine .open [] follows (by kernel_rfl) ?_;simp (disch:=first|exact za|fail) only [go_sem,seval,A];refine .qF rfl ?_;refine .skip ?_;refine .qt rfl ?_;simp (disch:=first|exact za|fail) only [go_sem,seval,A]
   first | (refine ihA _ _ ?_ trivial ?_) | (refine .z rfl ?_;refine ihA _ _ ?_ trivial ?_) | (refine .z rfl ?_;refine .z rfl ?_;refine ihA _ _ ?_ trivial ?_) | (refine .z rfl ?_;refine .z rfl ?_;refine .z rfl ?_;refine ihA _ _ ?_ trivial ?_)
   · simp (disch:=first|exact za|fail) only [go_sem,seval,A]<;>(repeat' (first | rfl | refine And.intro ?_ ?_))
   · first | exact .mk _ rfl | exact .mk [] rfl | (apply Later.mk;simp (disch:=first|exact za|fail) only [go_sem,seval,zj,A];exact rfl) | (apply Later.mk;simp (disch:=first|exact za|fail) only [go_sem,seval,zj,yh,List.append_assoc,A]<;>(try rfl))
end walks
end Go.Proofs.YthaoifcebimkfaaGreatDoor

namespace Go.Proofs.YthaoifcebimkfaaGreatDoor
open Go Go.AL

theorem zAJ (v:Int):zE Tryz.prog .and 3 (.p (i64 v)) (.p (i64 3))=some (.p (i64 (v % 4))):=zan Tryz.prog 3 v 2 (by omega)
structure MI (H' H:Hp) (q:Qry) (kd c k:Int) (L:List (List Cnd)):Prop where
 q:H'.f H.n=some (.cells [.p (i64 q.kind),.p (i64 q.col),.p (i64 q.k),.p (.sl false 1 (pl yp q.fl))])
 r:H'.f (H.n+1)=some (.cells [.p (i64 0),.p (i64 0),.p (i64 0),.p (.sl true 1 [])])
 m:H'.f (H.n+2)=some (.cells [.p (i64 kd),.p (i64 c),.p (i64 k),.sl (H.n+3) L.length 1 (pl yp L)])
 t:H'.f (H.n+3)=some (.tail L.length)
 n:H.n+4≤H'.n
 low : ∀ b,b < H.n → H'.f b=H.f b
 z:H'.z=H.z
section walks
variable {G:Globs}
set_option maxHeartbeats 8000000 in
set_option maxRecDepth 20000 in
theorem zhm (c:Cnd) (H:Hp) (R:AV → Hp → Prop) (h : ∀ x,vC x=true → R (.p (cnd x)) H):ACall Tryz.prog G 108 [.p (cnd c)] H R:=by
 refine ACall.of_run (raw:=[]) Tryz.func108 rfl Tryz.ntmps108 (by simp) fun hbel => ?_
 have ht:=zgO (c.col % 4).toNat
 obtain⟨m,hm⟩ : ∃ m:Nat,yu (c.col % 4).toNat=m:=⟨(yu (c.col % 4).toNat).toNat,by omega⟩
 refine .qt rfl ?_;simp (disch:=first|exact za|fail) only [go_sem,seval];refine .qt rfl ?_;simp (disch:=first|exact za|fail) only [go_sem,seval,zAJ];refine .qt rfl ?_;simp (disch:=first|exact za|fail) only [go_sem,seval];refine CallK.of (fun R h=>zdj (c.col % 4) (by omega) _ R h) ?_;simp (disch:=first|exact za|fail) only [go_sem,seval,hm];refine .q ?_;refine .open [] follows (by kernel_rfl) ?_;simp (disch:=first|exact za|fail) only [go_sem,seval]
 have hp:(0:Int) < (m:Int)+1:=by omega
 have a1:0≤c.lo % 65536 % ((m:Int)+1):=Int.emod_nonneg _ (by omega);have a2:c.lo % 65536 % ((m:Int)+1) < (m:Int)+1:=Int.emod_lt_of_pos _ hp;have b1:0≤c.hi % 65536 % ((m:Int)+1):=Int.emod_nonneg _ (by omega);have b2:c.hi % 65536 % ((m:Int)+1) < (m:Int)+1:=Int.emod_lt_of_pos _ hp
 generalize c.lo % 65536 % ((m:Int)+1)=u at *
 generalize c.hi % 65536 % ((m:Int)+1)=v at *
 refine .qt rfl ?_;simp (disch:=first|exact za|fail) only [go_sem,seval];refine .qt rfl ?_;simp (disch:=first|exact za|fail) only [go_sem,seval];refine .qt rfl ?_;simp (disch:=first|exact za|fail) only [go_sem,seval];refine .qr rfl Tryz.func108 (by rw [Tryz.results108]) ?_;simp (disch:=first|exact za|fail) only [go_sem,seval];refine h ⟨c.col % 4,min u v,max u v⟩ ?_;simp only [vC,decide_eq_true_eq];rw [hm];omega
theorem zhn (c:Cnd) (H:Hp):ACall Tryz.prog G 108 [.p (cnd c)] H (fun r H'=>(∃ x,vC x=true∧r = .p (cnd x))∧H'=H):=zhm c H _ fun x hx=>⟨⟨x,hx,rfl⟩,rfl⟩
set_option maxHeartbeats 16000000 in
set_option maxRecDepth 20000 in
theorem zl0 (q:Qry) (hl:q.fl.length≤9223372036854775807) (H:Hp) (R:AV → Hp → Prop) (h : ∀ p,vQ p=true → R (.p (qry p)) H):ACall Tryz.prog G 50 [.p (qry q)] H R:=by
 refine ACall.of_run (raw:=[]) Tryz.func50 rfl Tryz.ntmps50 (by simp) fun hbel => ?_
 obtain⟨kd,hkd⟩ : ∃ kd:Int,kd=1+q.kind % 256 % 7:=⟨_,rfl⟩
 have hk7:1≤kd∧kd≤7:=by omega
 have hki:okI kd:=by unfold okI;omega
 have hak:ze (zm [AV.p (i64 kd),AV.p (i64 0),AV.p (i64 0),AV.p (PV.sl true 1 [])])=some [AV.p (i64 kd),AV.p (i64 0),AV.p (i64 0),AV.p (PV.sl true 1 [])]:=rfl
 have hm:yd kd=0 ∨ yd kd=6 ∨ yd kd=65536:=by unfold yd;split;omega;split<;>omega
 refine .qt rfl ?_;simp (disch:=first|exact za|fail) only [go_sem,seval];refine .qt rfl ?_;simp (disch:=first|exact za|fail) only [go_sem,seval,←hkd,hak]
 have hq0 : ∀ x,(((H.new (.cells [.p (i64 q.kind),.p (i64 q.col),.p (i64 q.k),.p (.sl false 1 (pl yp q.fl))])).new (.cells [.p (i64 0),.p (i64 0),.p (i64 0),.p (.sl true 1 [])])).new x).f H.n=some (.cells [.p (i64 q.kind),.p (i64 q.col),.p (i64 q.k),.p (.sl false 1 (pl yp q.fl))]):=fun x=>by simp (disch:=first|exact za|fail) only [go_sem,seval]
 refine .q ?_;refine .cut2 (fun env2 H2 => ∃ c:Int,env2 1 = .ptr H.n 0∧env2 2 = .ptr (H.n+1) 0∧env2 3 = .ptr (H.n+2) 0∧(0≤c∧c < 4∧(zbo kd=false → c=0))∧H2=((H.new (.cells [.p (i64 q.kind),.p (i64 q.col),.p (i64 q.k),.p (.sl false 1 (pl yp q.fl))])).new (.cells [.p (i64 0),.p (i64 0),.p (i64 0),.p (.sl true 1 [])])).new (.cells [.p (i64 kd),.p (i64 c),.p (i64 0),.p (.sl true 1 [])])) (fun ih => ?_) ?_
 · refine .qt rfl ?_;simp (disch:=first|exact za|fail) only [go_sem,seval];refine CallK.of (fun R h=>zcw kd hki _ R h) ?_;simp (disch:=first|exact za|fail) only [go_sem,seval]
   cases hC:zbo kd with
   | true =>
    refine .q ?_;refine .ifT (by simp (disch:=first|exact za|fail) only [go_sem,seval,hC]) ?_;refine .qt rfl ?_;simp (disch:=first|exact za|fail) only [go_sem,seval,zAJ];refine ih _ _ ⟨q.col % 4,?_,?_,?_,⟨by omega,by omega,fun e=>by rw [hC] at e;cases e⟩,?_⟩<;>simp (disch:=first|exact za|fail) only [go_sem,seval]
   | false =>
    refine .q ?_;refine .ifF (by simp (disch:=first|exact za|fail) only [go_sem,seval,hC]) ?_;refine .skip ?_;refine ih _ _ ⟨0,?_,?_,?_,⟨by omega,by omega,fun _=>rfl⟩,?_⟩<;>simp (disch:=first|exact za|fail) only [go_sem,seval]
 rintro env H2 ⟨c,e1,e2,e3,⟨c1,c2,c3⟩,rfl⟩
 refine .q ?_;refine .cut2 (fun env2 H2 => ∃ k:Int,env2 1 = .ptr H.n 0∧env2 2 = .ptr (H.n+1) 0∧env2 3 = .ptr (H.n+2) 0∧(min (yd kd) 1≤k∧k≤yd kd)∧H2=((H.new (.cells [.p (i64 q.kind),.p (i64 q.col),.p (i64 q.k),.p (.sl false 1 (pl yp q.fl))])).new (.cells [.p (i64 0),.p (i64 0),.p (i64 0),.p (.sl true 1 [])])).new (.cells [.p (i64 kd),.p (i64 c),.p (i64 k),.p (.sl true 1 [])])) (fun ih => ?_) ?_
 · refine .qt rfl ?_;simp (disch:=first|exact za|fail) only [go_sem,seval,e3];refine CallK.of (fun R h=>yF kd hki _ R h) ?_;simp (disch:=first|exact za|fail) only [go_sem,seval]
   rcases hm with hm0 | hm0
   · refine .q ?_;refine .ifF (by simp (disch:=first|exact za|fail) only [go_sem,seval,hm0]) ?_;refine .skip ?_;refine ih _ _ ⟨0,?_,?_,?_,by omega,?_⟩<;>simp (disch:=first|exact za|fail) only [go_sem,seval,e1,e2,e3]
   · have hp:0 < yd kd:=by omega
     have a1:0≤q.k % 65536 % yd kd:=Int.emod_nonneg _ (by omega);have a2:q.k % 65536 % yd kd < yd kd:=Int.emod_lt_of_pos _ hp;refine .qT rfl ?_;refine .q ?_;refine .open [9] follows (by kernel_rfl) ?_;simp (disch:=first|exact za|fail) only [go_sem,seval,e1,e3];refine CallD.still (fun R h=>yF kd hki _ R h) ?_;simp (disch:=first|exact za|fail) only [go_sem,seval,e1,e3];refine ih _ _ ⟨1+q.k % 65536 % yd kd,?_,?_,?_,by omega,?_⟩<;>simp (disch:=first|exact za|fail) only [go_sem,seval,e1,e2,e3]
 rintro env H2 ⟨k,e1,e2,e3,hk,rfl⟩
 refine .qt rfl ?_;simp (disch:=first|exact za|fail) only [go_sem,seval]
 generalize hFk:(if kd=7 then 2 else 1)=F
 have hF:kd=7∧F=2 ∨ kd≠7∧F=1:=by rw [←hFk];split;exact .inl ⟨by assumption,rfl⟩;exact .inr ⟨by assumption,rfl⟩
 refine .q ?_;refine .cut2 (fun env2 H2=>env2 1 = .ptr H.n 0∧env2 2 = .ptr (H.n+1) 0∧env2 3 = .ptr (H.n+2) 0∧env2 4 = .p (i64 (F:Nat))∧H2=((H.new (.cells [.p (i64 q.kind),.p (i64 q.col),.p (i64 q.k),.p (.sl false 1 (pl yp q.fl))])).new (.cells [.p (i64 0),.p (i64 0),.p (i64 0),.p (.sl true 1 [])])).new (.cells [.p (i64 kd),.p (i64 c),.p (i64 k),.p (.sl true 1 [])])) (fun ih => ?_) ?_
 · rcases hF with ⟨f1,rfl⟩ | ⟨f1,rfl⟩
   · refine .qt rfl ?_;simp (disch:=first|exact za|fail) only [go_sem,seval,e3];refine .qT rfl ?_;refine .qt rfl ?_;simp (disch:=first|exact za|fail) only [go_sem,seval];refine ih _ _ ⟨?_,?_,?_,?_,rfl⟩<;>simp (disch:=first|exact za|fail) only [go_sem,seval,e1,e2,e3]
   · refine .qt rfl ?_;simp (disch:=first|exact za|fail) only [go_sem,seval,e3];refine .qF rfl ?_;refine .skip ?_;refine ih _ _ ⟨?_,?_,?_,?_,rfl⟩<;>simp (disch:=first|exact za|fail) only [go_sem,seval,e1,e2,e3]
 rintro env H2 ⟨e1,e2,e3,e4,rfl⟩
 refine .q ?_;refine .ownC (H.n+2) 3 (by simp (disch:=first|exact za|fail) only [go_sem,seval];rfl) (by rfl) ?_;simp (disch:=first|exact za|fail) only [go_sem,seval,List.set_cons_zero,List.set_cons_succ];refine .qt rfl ?_;simp (disch:=first|exact za|fail) only [go_sem,seval]
 obtain⟨K,hK⟩ : ∃ K,K=(((H.new (.cells [.p (i64 q.kind),.p (i64 q.col),.p (i64 q.k),.p (.sl false 1 (pl yp q.fl))])).new (.cells [.p (i64 0),.p (i64 0),.p (i64 0),.p (.sl true 1 [])])).new (.cells [.p (i64 kd),.p (i64 c),.p (i64 k),.sl (H.n+3) 0 1 []])).new (.tail 0):=⟨_,rfl⟩
 have hM0:MI K H q kd c k []:=by
  rw [hK]
  refine⟨?_,?_,?_,?_,?_,fun b hb => ?_,rfl⟩
  · simp (disch:=first|exact za|fail) only [go_sem,seval]
  · simp (disch:=first|exact za|fail) only [go_sem,seval]
  · simp (disch:=first|exact za|fail) only [go_sem,seval,zeA]
  · simp (disch:=first|exact za|fail) only [go_sem,seval]
  · simp only [n_new'];omega
  · simp (disch:=first|exact za|fail) only [go_sem,seval]
 rw [←hK]
 clear hK
 have hF2:F≤2:=by omega
 refine .q ?_;refine .count (fun i env H'=>env 1 = .ptr H.n 0∧env 2 = .ptr (H.n+1) 0∧env 3 = .ptr (H.n+2) 0∧env 4 = .p (i64 (F:Nat))∧env 5 = .p (i64 i) ∧ ∃ L,L.length=i∧L.all vF=true∧MI H' H q kd c k L) 0 F (by omega) ?_ ?_ ?_
 · refine⟨?_,?_,?_,?_,?_,[],rfl,rfl,hM0⟩<;>simp (disch:=first|exact za|fail) only [go_sem,seval,e1,e2,e3,e4]
 · rintro env H' ⟨e1,e2,e3,e4,e5,L,hLl,hLv,hM⟩
   refine .qt rfl ?_;simp (disch:=first|exact za|fail) only [go_sem,seval,e4,e5];refine .qF rfl ?_;have hn:=hM.n;have hak2:ze (zm [AV.p (i64 kd),AV.p (i64 c),AV.p (i64 k),.sl (H.n+3) F 1 (pl yp L)])=some [AV.p (i64 kd),AV.p (i64 c),AV.p (i64 k),.p (.sl false 1 (pl yp L))]:=rfl;have hm2:=hM.m;rw [hLl] at hm2
   have hvp:vQ ⟨kd,c,k,L⟩=true:=by
    simp only [vQ,Bool.and_eq_true,decide_eq_true_eq,Bool.or_eq_true]
    refine⟨hk7,⟨c1,c2⟩,?_,hk,?_,hLv⟩
    · cases hC:zbo kd with
      | true=>exact .inl rfl
      | false=>exact .inr (c3 hC)
    · rw [hLl]
      rcases hF with ⟨f1,f2⟩ | ⟨f1,f2⟩
      · rw [if_pos f1];exact f2
      · rw [if_neg f1];exact f2
   have hfin:=h ⟨kd,c,k,L⟩ hvp
   have htr:H'.trunc H.n=H:=by
    refine Hp.ext (fun b => ?_) rfl hM.z;rw [Hp.f_trunc]
    split
    · exact hM.low b (by assumption)
    · exact (H.wf b (by omega)).symm
   have hbel:Bel H.n H':=fun b x hb hx=>hbel b x hb (by rw [←hM.low b hb];exact hx)
   refine .qt rfl ?_;simp (disch:=first|exact za|fail) only [go_sem,seval,e2,e3,hm2,hM.r,hak2];refine .qr rfl Tryz.func50 (by rw [Tryz.results50]) (hx:=by simp (disch:=first|exact za|fail) only [go_sem,seval,e2];rfl) ?_;simp (disch:=first|exact za|fail) only [go_sem,seval,e2];rw [htr];exact hfin
 · rintro i env H' hi0 hi ⟨e1,e2,e3,e4,e5,L,hLl,hLv,hM⟩ ihO
   have hn:=hM.n
   obtain⟨mm,hmm⟩ : ∃ mm,mm=if i < q.fl.length then min 3 (nth q.fl i).length else 0:=⟨_,rfl⟩
   have hm1:mm≤3:=by rw [hmm];split<;>omega
   refine .qt rfl ?_;simp (disch:=first|exact za|fail) only [go_sem,seval,e4,e5];refine .qT rfl ?_;refine .qt rfl ?_;simp (disch:=first|exact za|fail) only [go_sem,seval];refine .q ?_;refine .own 6 (by simp (disch:=first|exact za|fail) only [go_sem,seval];rfl) ?_;refine .qt rfl ?_;simp (disch:=first|exact za|fail) only [go_sem,seval];refine .q ?_;refine .count (fun j env W=>env 1 = .ptr H.n 0∧env 2 = .ptr (H.n+1) 0∧env 3 = .ptr (H.n+2) 0∧env 4 = .p (i64 (F:Nat))∧env 5 = .p (i64 i)∧env 7 = .p (i64 j) ∧ ∃ M:List Cnd,M.length=j∧M.all vC=true∧env 6 = .sl H'.n j 3 (pl cnd M)∧W=H'.new (.tail j)) 0 mm (by omega) ?_ ?_ ?_
   · refine⟨?_,?_,?_,?_,?_,?_,[],rfl,rfl,?_,rfl⟩<;>simp (disch:=first|exact za|fail) only [go_sem,seval,e1,e2,e3,e4,e5,zeA]
   · rintro env W ⟨e1,e2,e3,e4,e5,e7,M,hMl,hMv,e6,rfl⟩
     have hq1:(H'.new (.tail mm)).f H.n=some (.cells [.p (i64 q.kind),.p (i64 q.col),.p (i64 q.k),.p (.sl false 1 (pl yp q.fl))]):=by rw [zb (by omega)];exact hM.q
     have hmx:(H'.new (.tail mm)).f (H.n+2)=some (.cells [.p (i64 kd),.p (i64 c),.p (i64 k),.sl (H.n+3) L.length 1 (pl yp L)]):=by rw [zb (by omega)];exact hM.m
     have htx:(H'.new (.tail mm)).f (H.n+3)=some (.tail L.length):=by rw [zb (by omega)];exact hM.t
     have hap:pl yp L++[.sl false 3 (pl cnd M)]=pl yp (L++[M]):=by rw [←yr];rfl
     have hvF:vF M=true:=by simp only [vF,Bool.and_eq_true,decide_eq_true_eq];exact⟨by omega,hMv⟩
     have hM2:MI (((H'.new (.tail mm)).set (H.n+3) (.tail (L.length+1))).set (H.n+2) (.cells [.p (i64 kd),.p (i64 c),.p (i64 k),.sl (H.n+3) (L.length+1) 1 (pl yp (L++[M]))])) H q kd c k (L++[M]):=by
      refine⟨?_,?_,?_,?_,?_,fun b hb => ?_,hM.z⟩
      · rw [f_set_ne' (by omega),f_set_ne' (by omega)];exact hq1
      · rw [f_set_ne' (by omega),f_set_ne' (by omega),zb (by omega)];exact hM.r
      · rw [zN rfl (by rw [n_set',n_new'];omega)];simp
      · rw [f_set_ne' (by omega),zN rfl (by rw [n_new'];omega)];simp
      · rw [n_set',n_set',n_new'];omega
      · rw [f_set_ne' (by omega),f_set_ne' (by omega),zb (by omega)];exact hM.low b hb
     rw [hLl] at hM2
     generalize H'.new (.tail mm)=W at *
     rcases Classical.em (i < q.fl.length) with a1 | a1
     · rw [if_pos a1] at hmm
       rcases Classical.em (mm < (nth q.fl i).length) with a2 | a2
       · have a3:mm=3:=by omega
         refine .qt rfl ?_;simp (disch:=first|exact za|fail) only [go_sem,seval,e5,e7,e1,hq1,zP];refine .qF rfl ?_;refine .qt rfl ?_;simp (disch:=first|exact za|fail) only [go_sem,seval,e3,e6,hmx,htx,hap,hLl];refine .qt rfl ?_;simp (disch:=first|exact za|fail) only [go_sem,seval,e5];refine ihO _ _ ⟨?_,?_,?_,?_,?_,L++[M],by simp [hLl],by rw [List.all_append,hLv];simp [hvF],hM2⟩<;>simp (disch:=first|exact za|fail) only [go_sem,seval,e1,e2,e3,e4]
       · refine .qt rfl ?_;simp (disch:=first|exact za|fail) only [go_sem,seval,e5,e7,e1,hq1,zP];refine .qF rfl ?_;refine .qt rfl ?_;simp (disch:=first|exact za|fail) only [go_sem,seval,e3,e6,hmx,htx,hap,hLl];refine .qt rfl ?_;simp (disch:=first|exact za|fail) only [go_sem,seval,e5];refine ihO _ _ ⟨?_,?_,?_,?_,?_,L++[M],by simp [hLl],by rw [List.all_append,hLv];simp [hvF],hM2⟩<;>simp (disch:=first|exact za|fail) only [go_sem,seval,e1,e2,e3,e4]
     · refine .qt rfl ?_;simp (disch:=first|exact za|fail) only [go_sem,seval,e5,e7,e1,hq1,zP];refine .qF rfl ?_;refine .qt rfl ?_;simp (disch:=first|exact za|fail) only [go_sem,seval,e3,e6,hmx,htx,hap,hLl];refine .qt rfl ?_;simp (disch:=first|exact za|fail) only [go_sem,seval,e5];refine ihO _ _ ⟨?_,?_,?_,?_,?_,L++[M],by simp [hLl],by rw [List.all_append,hLv];simp [hvF],hM2⟩<;>simp (disch:=first|exact za|fail) only [go_sem,seval,e1,e2,e3,e4]
   · rintro j env W hj0 hj ⟨e1,e2,e3,e4,e5,e7,M,hMl,hMv,e6,rfl⟩ ihI
     have a1:i < q.fl.length:=by
      refine Decidable.byContradiction fun e => ?_
      rw [if_neg e] at hmm;omega
     rw [if_pos a1] at hmm
     have a2:j < (nth q.fl i).length:=by omega
     have a3:j < 3:=by omega
     have hq1:(H'.new (.tail j)).f H.n=some (.cells [.p (i64 q.kind),.p (i64 q.col),.p (i64 q.k),.p (.sl false 1 (pl yp q.fl))]):=by rw [zb (by omega)];exact hM.q
     refine .qt rfl ?_;simp (disch:=first|exact za|fail) only [go_sem,seval,e5,e7,e1,hq1,zP];refine .qT rfl ?_;refine .qt rfl ?_;simp (disch:=first|exact za|fail) only [go_sem,seval,e5,e6,e7,e1,hq1,zP];refine CallK.ex (zhn _ _) ?_
     rintro _ _ ⟨⟨x,hx,rfl⟩,rfl⟩
     have hap:pl cnd M++[cnd x]=pl cnd (M++[x]):=by rw [←yr];rfl
     simp (disch:=first|exact za|fail) only [go_sem,seval,hap,hMl];refine .qt rfl ?_;simp (disch:=first|exact za|fail) only [go_sem,seval,e7];refine ihI _ _ ⟨?_,?_,?_,?_,?_,?_,M++[x],by simp [hMl],by rw [List.all_append,hMv];simp [hx],?_,?_⟩<;>simp (disch:=first|exact za|fail) only [go_sem,seval,e1,e2,e3,e4,e5]
end walks
end Go.Proofs.YthaoifcebimkfaaGreatDoor

namespace Go.Proofs.YthaoifcebimkfaaGreatDoor
open Go Go.AL

section walks
variable {G:Globs}
theorem zl1 (q:Qry) (hl:q.fl.length≤9223372036854775807) (H:Hp):ACall Tryz.prog G 50 [.p (qry q)] H (fun r H'=>(∃ p,vQ p=true∧r = .p (qry p))∧H'=H):=zl0 q hl H _ fun p hp=>⟨⟨p,hp,rfl⟩,rfl⟩
set_option maxHeartbeats 16000000 in
set_option maxRecDepth 20000 in
theorem zl2 (q:Qry) (hl:q.fl.length≤9223372036854775807) (H:Hp) (R:AV → Hp → Prop) (h : ∀ p,vQ p=true → yi p=0 → R (.p (qry p)) H):ACall Tryz.prog G 13 [.p (qry q)] H R:=by
 refine ACall.of_run (raw:=[]) Tryz.func13 rfl Tryz.ntmps13 (by simp) fun hbel => ?_
 refine .qt rfl ?_;simp (disch:=first|exact za|fail) only [go_sem,seval];refine .qt rfl ?_;simp (disch:=first|exact za|fail) only [go_sem,seval];refine CallK.ex (zl1 q hl _) ?_
 rintro _ _ ⟨⟨p,hp,rfl⟩,rfl⟩
 obtain⟨hk7,hcol,hcK,hK,hlf,hall⟩:(1≤p.kind∧p.kind≤7)∧(0≤p.col∧p.col < 4)∧(zbo p.kind || decide (p.col=0))=true∧(min (yd p.kind) 1≤p.k∧p.k≤yd p.kind)∧(p.fl.length=if p.kind=7 then 2 else 1)∧p.fl.all vF=true:=by
  have hq:=hp;simp only [vQ,Bool.and_eq_true,decide_eq_true_eq] at hq;exact⟨hq.1,hq.2.1,hq.2.2.1,hq.2.2.2.1,hq.2.2.2.2.1,hq.2.2.2.2.2⟩
 simp (disch:=first|exact za|fail) only [go_sem,seval]
 obtain⟨X,hX⟩ : ∃ X,X=(H.new (.cells [.p (i64 q.kind),.p (i64 q.col),.p (i64 q.k),.p (.sl false 1 (pl yp q.fl))])).new (.cells [.p (i64 0),.p (i64 0),.p (i64 0),.p (.sl true 1 [])]):=⟨_,rfl⟩
 have hXn:X.n=H.n+2:=by rw [hX,n_new',n_new']
 refine .q ?_;refine .cut2 (fun env2 H2 => ∃ c:Int,env2 2 = .ptr (H.n+1) 0∧env2 3 = .ptr (H.n+2) 0∧(0≤c∧c < 4∧(zbo p.kind || decide (c=0))=true∧(4≤p.kind∧p.kind≤6 → ¬ (c=1 ∨ c=3)))∧H2=X.new (.cells [.p (i64 p.kind),.p (i64 c),.p (i64 p.k),.p (.sl false 1 (pl yp p.fl))])) (fun ih => ?_) ?_
 · rw [←hX]
   rcases Classical.em (4≤p.kind∧p.kind≤6) with k1 | k1
   · have hC:zbo p.kind=true:=by simp [zbo];omega
     have h3:p.kind=4 ∨ p.kind=5 ∨ p.kind=6:=by omega
     rcases h3 with e | e | e
     · refine .qt rfl ?_;simp (disch:=first|exact za|fail) only [go_sem,seval,e];refine .qT rfl ?_;refine .qt rfl ?_;simp (disch:=first|exact za|fail) only [go_sem,seval];refine ih _ _ ⟨2*(p.col % 2),?_,?_,⟨by omega,by omega,by rw [hC];rfl,fun _=>by omega⟩,?_⟩<;>simp (disch:=first|exact za|fail) only [go_sem,seval,e]
     · refine .qt rfl ?_;simp (disch:=first|exact za|fail) only [go_sem,seval,e];refine .qT rfl ?_;refine .qt rfl ?_;simp (disch:=first|exact za|fail) only [go_sem,seval];refine ih _ _ ⟨2*(p.col % 2),?_,?_,⟨by omega,by omega,by rw [hC];rfl,fun _=>by omega⟩,?_⟩<;>simp (disch:=first|exact za|fail) only [go_sem,seval,e]
     · refine .qt rfl ?_;simp (disch:=first|exact za|fail) only [go_sem,seval,e];refine .qT rfl ?_;refine .qt rfl ?_;simp (disch:=first|exact za|fail) only [go_sem,seval];refine ih _ _ ⟨2*(p.col % 2),?_,?_,⟨by omega,by omega,by rw [hC];rfl,fun _=>by omega⟩,?_⟩<;>simp (disch:=first|exact za|fail) only [go_sem,seval,e]
   · have n4 : ¬ p.kind=4:=by omega
     have n5 : ¬ p.kind=5:=by omega
     have n6 : ¬ p.kind=6:=by omega
     refine .qt rfl ?_;simp (disch:=first|exact za|fail) only [go_sem,seval];refine .qF rfl ?_;refine .skip ?_;refine ih _ _ ⟨p.col,?_,?_,⟨by omega,by omega,hcK,fun e=>absurd e k1⟩,?_⟩<;>simp (disch:=first|exact za|fail) only [go_sem,seval]
 rintro env H2 ⟨c,e2,e3,⟨c1,c2,c3,c4⟩,rfl⟩
 have hX1:X.f (H.n+1)=some (.cells [.p (i64 0),.p (i64 0),.p (i64 0),.p (.sl true 1 [])]):=by rw [hX];simp (disch:=first|exact za|fail) only [go_sem,seval]
 have hXl : ∀ b,b < H.n → X.f b=H.f b:=fun b hb=>by rw [hX];simp (disch:=first|exact za|fail) only [go_sem,seval]
 have hXz:X.z=H.z:=by rw [hX];rfl
 have htr:X.trunc H.n=H:=by rw [hX];simp (disch:=first|exact za|fail) only [go_sem,seval]
 have hXb:Bel H.n X:=by
  rw [hX]
  repeat (first | with_reducible refine zam ?_ za | with_reducible refine zaG ?_ za | with_reducible exact hbel)
 clear hX
 refine .q ?_;refine .cut2 (fun env2 H2 => ∃ k:Int,env2 2 = .ptr (H.n+1) 0∧env2 3 = .ptr (H.n+2) 0∧(min (yd p.kind) 1≤k∧k≤yd p.kind)∧H2=X.new (.cells [.p (i64 p.kind),.p (i64 c),.p (i64 k),.p (.sl false 1 (pl yp p.fl))])) (fun ih => ?_) ?_
 · have hXe : ∀ x,(X.new x).f (H.n+2)=some x:=fun x=>zu hXn.symm
   rcases Classical.em (p.kind=6) with e | e
   · have hm6:yd p.kind=65536:=by rw [e];rfl
     refine .qt rfl ?_;simp (disch:=first|exact za|fail) only [go_sem,seval,e3,hXe,e];refine .qT rfl ?_;refine .qt rfl ?_;simp (disch:=first|exact za|fail) only [go_sem,seval,e3,hXe];rw [hm6] at ih hK;refine ih _ _ ⟨1+p.k % 12,?_,?_,by omega,?_⟩
     · simp (disch:=first|exact za|fail) only [go_sem,seval,e2]
     · simp (disch:=first|exact za|fail) only [go_sem,seval,e3]
     · rw [e]
   · refine .qt rfl ?_;simp (disch:=first|exact za|fail) only [go_sem,seval,e3,hXe];refine .qF rfl ?_;refine .skip ?_;refine ih _ _ ⟨p.k,?_,?_,hK,rfl⟩<;>simp (disch:=first|exact za|fail) only [go_sem,seval,e2,e3]
 rintro env H2 ⟨k,e2,e3,hk,rfl⟩
 have hXe : ∀ x,(X.new x).f (H.n+2)=some x:=fun x=>zu hXn.symm
 have hvp:vQ ⟨p.kind,c,k,p.fl⟩=true:=by
  simp only [vQ,Bool.and_eq_true,decide_eq_true_eq]
  exact⟨hk7,⟨c1,c2⟩,c3,hk,hlf,hall⟩
 have hep:yi ⟨p.kind,c,k,p.fl⟩=0:=by
  unfold yi;rw [hvp,if_pos rfl]
  exact if_neg fun e=>c4 ⟨e.1,e.2.1⟩ e.2.2
 have hfin:=h _ hvp hep;refine .qt rfl ?_;simp (disch:=first|exact za|fail) only [go_sem,seval,e3,hXe];refine CallK.ex (zlY 64 (by decide) ⟨p.kind,c,k,p.fl⟩ (by unfold okI;simp only;omega) _) ?_
 rintro _ _ ⟨⟨x,rfl⟩,rfl⟩
 rw [hep];simp (disch:=first|exact za|fail) only [go_sem,seval];refine .qt rfl ?_;simp (disch:=first|exact za|fail) only [go_sem,seval];refine .qF rfl ?_;refine .skip ?_;have hak:ze (zm [AV.p (i64 p.kind),AV.p (i64 c),AV.p (i64 k),AV.p (PV.sl false 1 (pl yp p.fl))])=some [AV.p (i64 p.kind),AV.p (i64 c),AV.p (i64 k),AV.p (PV.sl false 1 (pl yp p.fl))]:=rfl;refine .qt rfl ?_;simp (disch:=first|exact za|fail) only [go_sem,seval,e2,e3,hXe,hX1,hak];have hbel:=hXb;refine .qr rfl Tryz.func13 (by rw [Tryz.results13]) (hx:=by simp (disch:=first|exact za|fail) only [go_sem,seval,e2];rfl) ?_;simp (disch:=first|exact za|fail) only [go_sem,seval,e2];rw [htr];exact hfin
end walks
end Go.Proofs.YthaoifcebimkfaaGreatDoor

namespace Go.Proofs.YthaoifcebimkfaaGreatDoor
open Go Go.AL

structure Rdg where
 who:Int
 whn:Int
 knd:Int
 val:Int
 deriving DecidableEq
instance:Inhabited Rdg:=⟨⟨0,0,0,0⟩⟩
structure Strm where
 l:List Rdg
 gone:List Bool
 deriving DecidableEq
def vR (r:Rdg):Prop:=(0≤r.who∧r.who < 16)∧(0≤r.whn∧r.whn < 256)∧(0≤r.knd∧r.knd < 16)∧(0≤r.val∧r.val < 256)
instance {r:Rdg}:Decidable (vR r):=by unfold vR;infer_instance
def fR (r:Rdg):Nat → Int
 | 0=>r.who
 | 1=>r.whn
 | 2=>r.knd
 | _=>r.val
def rdL (r:Rdg):List PV:=[i64 r.who,i64 r.whn,i64 r.knd,i64 r.val]
def rdg (r:Rdg):PV := .agg (rdL r)
def stm (s:Strm):PV := .agg [.sl false 4 (pl rdg s.l),.sl false 1 (pl bo s.gone)]
section rd
variable {r:Rdg} {l:List Rdg}
theorem zB1:ze (.p (rdg r))=some [.p (i64 r.who),.p (i64 r.whn),.p (i64 r.knd),.p (i64 r.val)]:=rfl
theorem ztZ:(rdg r).cells=[i64 r.who,i64 r.whn,i64 r.knd,i64 r.val]:=rfl
theorem zt0:(rdg r).isAgg=true:=rfl
theorem zpf:(AV.p (rdg r)).isAggV=true:=rfl
theorem zya:(rdg r).weak=rdg r:=rfl
theorem zt1:(rdg r).weak1=rdg r:=rfl
theorem zt2:(rdg r).aggOf 0 4=rdg r:=rfl
theorem zAj:(⟨r.who,r.whn,r.knd,r.val⟩:Rdg)=r:=rfl
theorem zB2 {s:Strm}:ze (.p (stm s))=some [.p (.sl false 4 (pl rdg s.l)),.p (.sl false 1 (pl bo s.gone))]:=rfl
theorem zB3 {α n β m:Nat} {l:List Rdg} {g:List Bool}:zm [.sl α n 4 (pl rdg l),.sl β m 1 (pl bo g)] = .p (stm ⟨l,g⟩):=rfl
theorem zB4 {a b c d:Int}:cfP ⟨a,b,c,d⟩=rdg ⟨a,b,c,d⟩:=rfl
theorem zB5 {x y:PV}:zm [.p x,.p y] = .p (.agg [x,y]):=rfl
theorem zB6 {x y:PV}:ze (.p (.agg [x,y]))=some [.p x,.p y]:=rfl
end rd
attribute [go_sem] zB4 zB5 zB6 zB1 ztZ zt0 zpf zya zt1 zt2 zAj zB2 zB3
def z0S:Strm:=⟨[],[]⟩
def zB7 (s:Strm) (i:Int):Strm × Int :=
 if i < 0 ∨ (s.l.length:Int)≤i then (z0S,4) else if nth s.gone i.toNat then (z0S,120) else (⟨s.l,s.gone.set i.toNat true⟩,0)
section walks
variable {G:Globs}
end walks
end Go.Proofs.YthaoifcebimkfaaGreatDoor

namespace Go.Proofs.YthaoifcebimkfaaGreatDoor
open Go Go.AL

structure SOp where
 a:BitVec 8
 b:BitVec 8
 c:BitVec 8
 back:Bool
instance:Inhabited SOp:=⟨⟨0,0,0,false⟩⟩
structure okS (m:Nat) (s:Strm):Prop where
 len:s.l.length≤m
 gl:s.gone.length=s.l.length
 v : ∀ r∈s.l,vR r
theorem okS.nil (m:Nat):okS m ⟨[],[]⟩:=⟨Nat.zero_le _,rfl,fun _ h=>by cases h⟩
theorem okS.take {m:Nat} {s:Strm} (h:okS m s) {r:Rdg} (hr:vR r) (hl:s.l.length < m):okS m ⟨s.l++[r],s.gone++[false]⟩ :=
 ⟨by simp;omega,by simp [h.gl],fun x hx=>by
  rcases List.mem_append.1 hx with e | e
  · exact h.v x e
  · rw [List.mem_singleton.1 e];exact hr⟩
theorem okS.ret {m:Nat} {s:Strm} (h:okS m s) {i:Int} (h0:(zB7 s i).2=0):okS m (zB7 s i).1:=by
 unfold zB7 at h0 ⊢
 split
 · rename_i e;rw [if_pos e] at h0;cases h0
 · rename_i e;rw [if_neg e] at h0
   split
   · rename_i e2;rw [if_pos e2] at h0;cases h0
   · exact⟨h.len,by simp [h.gl],h.v⟩
section walks
variable {G:Globs}
end walks
end Go.Proofs.YthaoifcebimkfaaGreatDoor

namespace Go.Proofs.YthaoifcebimkfaaGreatDoor
open Go Go.AL

def elC (s:Strm) (c i:Nat):U:=if i < s.l.length then (if c < 4 then BitVec.ofInt 64 (fR (nth s.l i) c) else if nth s.gone i then 0#64 else 1#64) else 0#64
def zl3 (s:Strm) (n c:Nat):List U:=(List.range n).map (elC s c)
def y6 (s:Strm) (n:Nat):List (List U):=(List.range 5).map (zl3 s n)
def zt3 (s:Strm) (n c b:Nat):List U:=(List.range n).map fun i=>(elC s c i >>> b) &&& 1#64
def zt4 (s:Strm) (k:Int):Int:=if k < 0 ∨ 16 < k then 1 else if 2 ^ k.toNat < s.l.length then 2 else 0
structure LowE (H H':Hp):Prop where
 n:H.n≤H'.n
 f : ∀ b,b < H.n → H'.f b=H.f b
 z:H'.z=H.z
theorem LowE.refl {H:Hp}:LowE H H:=⟨Nat.le_refl _,fun _ _=>rfl,rfl⟩
theorem LowE.trans {H H1 H2:Hp} (h:LowE H H1) (h':LowE H1 H2):LowE H H2:=⟨Nat.le_trans h.n h'.n,fun b hb=>(h'.f b (Nat.lt_of_lt_of_le hb h.n)).trans (h.f b hb),h'.z.trans h.z⟩
theorem LowE.new {H:Hp} (x:AB):LowE H (H.new x):=⟨by rw [n_new'];omega,fun b hb=>zb (by omega),rfl⟩
theorem LowE.set {H H':Hp} {b:Nat} (h:LowE H H') (x:AB) (hb:H.n≤b):LowE H (H'.set b x):=⟨by rw [n_set'];exact h.n,fun c hc=>by rw [f_set_ne' (by omega)];exact h.f c hc,h.z⟩
theorem LowE.back {H H':Hp} (h:LowE H H'):H'.trunc H.n=H:=by
 refine Hp.ext (fun b => ?_) rfl h.z;rw [Hp.f_trunc]
 split
 · exact h.f b (by assumption)
 · exact (H.wf b (by omega)).symm
theorem LowE.bel {H H':Hp} (h:LowE H H') (hb:Bel H.n H):Bel H.n H':=fun b x hb' hx=>hb b x hb' (by rw [←h.f b hb'];exact hx)
section walks
variable {G:Globs}
theorem zqj {k n:Nat} (hk:k≤5) (hn:n=2 ^ k):zE Tryz.prog .shl 3 (.p (i64 1)) (.p (i64 k))=some (.p (i64 n)):=by
 subst hn
 have:k=0 ∨ k=1 ∨ k=2 ∨ k=3 ∨ k=4 ∨ k=5:=by omega
 rcases this with rfl | rfl | rfl | rfl | rfl | rfl<;>rfl
end walks
end Go.Proofs.YthaoifcebimkfaaGreatDoor

namespace Go.Proofs.YthaoifcebimkfaaGreatDoor
open Go Go.AL

def za0 (s:Strm) (n:Nat):Nat → List (List U)
 | 0=>[]
 | c+1=>za0 s n c++(List.range (zR c)).map (zt3 s n c)
def wdT:Nat → Nat
 | 0=>0
 | c+1=>wdT c+zR c
theorem zeP {s:Strm} {n:Nat} : ∀ c,(za0 s n c).length=wdT c
 | 0=>rfl
 | c+1=>by simp [za0,wdT,zeP c]
theorem zB8 (c:Nat):wdT c≤8*c:=by
 induction c with
 | zero=>exact Nat.le_refl _
 | succ c ih=>have:=zaz c;unfold wdT;omega
section walks
variable {G:Globs}
end walks
end Go.Proofs.YthaoifcebimkfaaGreatDoor

namespace Go.Proofs.YthaoifcebimkfaaGreatDoor
open Go Go.AL

def zAk (s:Strm) (n:Nat):List (List U):=y6 s n++za0 s n 4
section walks
variable {G:Globs}
end walks
end Go.Proofs.YthaoifcebimkfaaGreatDoor

namespace Go.Proofs.YthaoifcebimkfaaGreatDoor
open Go Go.AL

def fldL:List AV:=[.clo 147 [] [],.p (i64 4),.clo 148 [] [],.p (i64 8),.clo 149 [] [],.p (i64 4),.clo 150 [] [],.p (i64 8)]
def fld:AV := .agg fldL
def gnk (k:Nat):FuncId:=nth [147,148,149,150] k
theorem zB9:y9 Tryz.prog 177 fld (.p (i64 0))=some (.agg [.clo 147 [] [],.p (i64 4)]):=by kernel_rfl
theorem zDz:enters Tryz.prog 147=true:=by kernel_rfl
theorem zCa:y9 Tryz.prog 177 fld (.p (i64 1))=some (.agg [.clo 148 [] [],.p (i64 8)]):=by kernel_rfl
theorem zDA:enters Tryz.prog 148=true:=by kernel_rfl
theorem zCb:y9 Tryz.prog 177 fld (.p (i64 2))=some (.agg [.clo 149 [] [],.p (i64 4)]):=by kernel_rfl
theorem zDB:enters Tryz.prog 149=true:=by kernel_rfl
theorem zCc:y9 Tryz.prog 177 fld (.p (i64 3))=some (.agg [.clo 150 [] [],.p (i64 8)]):=by kernel_rfl
theorem zDC:enters Tryz.prog 150=true:=by kernel_rfl
theorem zh9 {k:Nat} (h:k < 4):y9 Tryz.prog 177 fld (.p (i64 k))=some (.agg [.clo (gnk k) [] [],.p (i64 (zR k:Nat))]):=by
 have:k=0 ∨ k=1 ∨ k=2 ∨ k=3:=by omega
 rcases this with rfl | rfl | rfl | rfl
 · exact zB9
 · exact zCa
 · exact zCb
 · exact zCc
theorem zgR {k:Nat} (h:k < 4):enters Tryz.prog (gnk k)=true:=by
 have:k=0 ∨ k=1 ∨ k=2 ∨ k=3:=by omega
 rcases this with rfl | rfl | rfl | rfl
 · exact zDz
 · exact zDA
 · exact zDB
 · exact zDC
section zbT
variable {a0 a1 a2 a3 a4 a5 a6 a7 x0 x1:AV} {f:FuncId} {x:PV}
theorem zCd:ze (zm [.clo f [] [],.p x])=some [.clo f [] [],.p x]:=rfl
theorem zCe:setAt [a0,a1,a2,a3,a4,a5,a6,a7] 0 [x0,x1]=[x0,x1,a2,a3,a4,a5,a6,a7]:=rfl
theorem zCf:setAt [a0,a1,a2,a3,a4,a5,a6,a7] 2 [x0,x1]=[a0,a1,x0,x1,a4,a5,a6,a7]:=rfl
theorem zCg:setAt [a0,a1,a2,a3,a4,a5,a6,a7] 4 [x0,x1]=[a0,a1,a2,a3,x0,x1,a6,a7]:=rfl
theorem zCh:setAt [a0,a1,a2,a3,a4,a5,a6,a7] 6 [x0,x1]=[a0,a1,a2,a3,a4,a5,x0,x1]:=rfl
theorem zCi:zm [.clo 147 [] [],.p (i64 4),.clo 148 [] [],.p (i64 8),.clo 149 [] [],.p (i64 4),.clo 150 [] [],.p (i64 8)]=fld:=rfl
theorem zCj:ze fld=some fldL:=rfl
theorem zgS:fldL.length=8:=rfl
theorem zqk:zm (List.take 8 fldL)=fld:=rfl
theorem zl4:zm fldL=fld:=rfl
end zbT
def zfo (s:Strm) (n:Nat) (g:Nat → U):List U:=(List.range n).map fun i=>if i < s.l.length then g i else 0#64
def zhp (s:Strm) (n:Nat) (g:Nat → U) (i:Nat):List U:=(List.range n).map fun j=>if j < i then g j else 0#64
theorem zl5 {s:Strm} {n:Nat} {g:Nat → U} {i:Nat}:(zhp s n g i).length=n:=by simp [zhp]
theorem zt6 {s:Strm} {n:Nat} {g:Nat → U}:zhp s n g 0=List.replicate n 0#64:=by
 apply List.ext_getElem<;>simp [zhp]
theorem zyb {s:Strm} {n:Nat} {g:Nat → U}:zhp s n g s.l.length=zfo s n g:=rfl
theorem zt7 {s:Strm} {n:Nat} {g:Nat → U} {i:Nat} (h:i < n):(zhp s n g i).set i (g i)=zhp s n g (i+1):=by
 apply List.ext_getElem
 · simp [zhp]
 · intro j h1 h2;simp only [zhp,List.getElem_set,List.getElem_map,List.getElem_range];by_cases e:i=j
   · subst e;simp
   · rw [if_neg e];by_cases e2:j < i
     · rw [if_pos e2,if_pos (by omega)]
     · rw [if_neg e2,if_neg (by omega)]
section walks
variable {G:Globs}
theorem ze6 (H:Hp) (R:AV → Hp → Prop) (h:R fld (H.new (.cells fldL))):ACall Tryz.prog G 112 [] H R:=by
 refine ACall.of_run (raw:=[]) Tryz.func112 rfl Tryz.ntmps112 (by simp) fun hbel => ?_
 refine .qt rfl ?_;simp (disch:=first|exact za|fail) only [go_sem,seval];refine .qt rfl ?_;simp (disch:=first|exact za|fail) only [go_sem,seval,zCd,zCe,zCf,zCg,zCh,zCi,zCj,zgS];refine .q ?_;refine .retKeep Tryz.func112 (by rw [Tryz.results112]) (by simp (disch:=first|exact za|fail) only [go_sem,seval,zgS,zqk,zl4];rfl) ?_;(try simp (disch:=first|exact za|fail) only [go_sem,seval,zgS,zqk,zl4]);exact h
theorem zt8 (r:Rdg) (H:Hp) (R:AV → Hp → Prop) (h:R (.p (i64 (fR r 0))) H):ACall Tryz.prog G 147 [.p (rdg r)] H R:=by
 refine ACall.of_run (raw:=[]) Tryz.func147 rfl Tryz.ntmps147 (by simp) fun hbel => ?_
 refine .qt rfl ?_;simp (disch:=first|exact za|fail) only [go_sem,seval];refine .qt rfl ?_;simp (disch:=first|exact za|fail) only [go_sem,seval];refine .qr rfl Tryz.func147 (by rw [Tryz.results147]) ?_;simp (disch:=first|exact za|fail) only [go_sem,seval];exact h
theorem zt9 (r:Rdg) (H:Hp) (R:AV → Hp → Prop) (h:R (.p (i64 (fR r 1))) H):ACall Tryz.prog G 148 [.p (rdg r)] H R:=by
 refine ACall.of_run (raw:=[]) Tryz.func148 rfl Tryz.ntmps148 (by simp) fun hbel => ?_
 refine .qt rfl ?_;simp (disch:=first|exact za|fail) only [go_sem,seval];refine .qt rfl ?_;simp (disch:=first|exact za|fail) only [go_sem,seval];refine .qr rfl Tryz.func148 (by rw [Tryz.results148]) ?_;simp (disch:=first|exact za|fail) only [go_sem,seval];exact h
theorem zua (r:Rdg) (H:Hp) (R:AV → Hp → Prop) (h:R (.p (i64 (fR r 2))) H):ACall Tryz.prog G 149 [.p (rdg r)] H R:=by
 refine ACall.of_run (raw:=[]) Tryz.func149 rfl Tryz.ntmps149 (by simp) fun hbel => ?_
 refine .qt rfl ?_;simp (disch:=first|exact za|fail) only [go_sem,seval];refine .qt rfl ?_;simp (disch:=first|exact za|fail) only [go_sem,seval];refine .qr rfl Tryz.func149 (by rw [Tryz.results149]) ?_;simp (disch:=first|exact za|fail) only [go_sem,seval];exact h
theorem zub (r:Rdg) (H:Hp) (R:AV → Hp → Prop) (h:R (.p (i64 (fR r 3))) H):ACall Tryz.prog G 150 [.p (rdg r)] H R:=by
 refine ACall.of_run (raw:=[]) Tryz.func150 rfl Tryz.ntmps150 (by simp) fun hbel => ?_
 refine .qt rfl ?_;simp (disch:=first|exact za|fail) only [go_sem,seval];refine .qt rfl ?_;simp (disch:=first|exact za|fail) only [go_sem,seval];refine .qr rfl Tryz.func150 (by rw [Tryz.results150]) ?_;simp (disch:=first|exact za|fail) only [go_sem,seval];exact h
theorem zl6 (r:Rdg) (k:Nat) (hk:k < 4) (H:Hp) (R:AV → Hp → Prop) (h:R (.p (i64 (fR r k))) H):ACall Tryz.prog G (gnk k) [.p (rdg r)] H R:=by
 have:k=0 ∨ k=1 ∨ k=2 ∨ k=3:=by omega
 rcases this with rfl | rfl | rfl | rfl
 · exact zt8 r H R h
 · exact zt9 r H R h
 · exact zua r H R h
 · exact zub r H R h
set_option maxHeartbeats 8000000 in
theorem zgT (s:Strm) (m:Nat) (hs:okS m s) (k:Int) (hk:k≤5 ∨ 16 < k) (H:Hp) (R:AV → Hp → Prop) (h:R (.p (i64 (zt4 s k))) H):ACall Tryz.prog G 111 [.p (stm s),.p (i64 k)] H R:=by
 refine ACall.of_run (raw:=[]) Tryz.func111 rfl Tryz.ntmps111 (by simp) fun hbel => ?_
 unfold zt4 at h;refine .qt rfl ?_;simp (disch:=first|exact za|fail) only [go_sem,seval]
 rcases Classical.em (k < 0) with k1 | k1
 · rw [if_pos (.inl k1)] at h;refine .qt rfl ?_;simp (disch:=first|exact za|fail) only [go_sem,seval];refine .qT rfl ?_;refine .qt rfl ?_;simp (disch:=first|exact za|fail) only [go_sem,seval];refine .qr rfl Tryz.func111 (by rw [Tryz.results111]) ?_;simp (disch:=first|exact za|fail) only [go_sem,seval];exact h
 rcases Classical.em (16 < k) with k2 | k2
 · rw [if_pos (.inr k2)] at h;refine .qt rfl ?_;simp (disch:=first|exact za|fail) only [go_sem,seval];refine .qT rfl ?_;refine .qt rfl ?_;simp (disch:=first|exact za|fail) only [go_sem,seval];refine .qr rfl Tryz.func111 (by rw [Tryz.results111]) ?_;simp (disch:=first|exact za|fail) only [go_sem,seval];exact h
 rw [if_neg (by omega)] at h
 obtain⟨kn,rfl⟩ : ∃ kn:Nat,k=kn:=⟨k.toNat,by omega⟩
 obtain⟨n,hn⟩ : ∃ n,n=2 ^ kn:=⟨_,rfl⟩
 have hsh:=zqj (by omega:kn≤5) hn;rw [Int.toNat_natCast,←hn] at h;have hl:=hs.len
 rcases Classical.em (n < s.l.length) with h2 | h2
 · rw [if_pos h2] at h;refine .qt rfl ?_;simp (disch:=first|exact za|fail) only [go_sem,seval];refine .qF rfl ?_;refine .q ?_;refine .open [] follows (by kernel_rfl) ?_;simp (disch:=first|exact za|fail) only [go_sem,seval,hsh];refine .qT rfl ?_;refine .qt rfl ?_;simp (disch:=first|exact za|fail) only [go_sem,seval];refine .qr rfl Tryz.func111 (by rw [Tryz.results111]) ?_;simp (disch:=first|exact za|fail) only [go_sem,seval];exact h
 · rw [if_neg h2] at h;refine .qt rfl ?_;simp (disch:=first|exact za|fail) only [go_sem,seval];refine .qF rfl ?_;refine .q ?_;refine .open [] follows (by kernel_rfl) ?_;simp (disch:=first|exact za|fail) only [go_sem,seval,hsh];refine .qF rfl ?_;refine .qt rfl ?_;simp (disch:=first|exact za|fail) only [go_sem,seval];refine .qr rfl Tryz.func111 (by rw [Tryz.results111]) ?_;simp (disch:=first|exact za|fail) only [go_sem,seval];exact h
set_option maxHeartbeats 8000000 in
set_option maxRecDepth 20000 in
theorem zc8 (s:Strm) (m:Nat) (hs:okS m s) (k n:Nat) (hk:k≤5) (hn:n=2 ^ k) (hl:s.l.length≤n) (F:FuncId) (fvs:List AV) (hfw:fvs.map AV.weak=fvs) (hen:enters Tryz.prog F=true) (g:Nat → U) (H:Hp)
 (hf : ∀ i,i < s.l.length → ∀ (W:Hp),LowE H W → ∀ (R:AV → Hp → Prop),R (.p (zl (g i))) W → ACall Tryz.prog G F (.p (i64 i) :: fvs) W R)
 (R:AV → Hp → Prop) (h:R (.p (.sl false 1 (pl zl (zfo s n g)))) H):ACall Tryz.prog G 113 [.p (stm s),.p (i64 k),.clo F [] fvs] H R:=by
 refine ACall.of_run (raw:=[]) Tryz.func113 rfl Tryz.ntmps113 (by simp) fun hbel => ?_
 have hsh:=zqj hk hn
 have hn32:n≤32:=by
  have:2 ^ k≤2 ^ 5:=Nat.pow_le_pow_right (by decide) hk
  omega
 have hcl:=zl5 (s:=s) (n:=n) (g:=g) (i:=s.l.length);refine .qt rfl ?_;simp (disch:=first|exact za|fail) only [go_sem,seval];refine .qt rfl ?_;simp (disch:=first|exact za|fail) only [go_sem,seval,hsh];refine .qt rfl ?_;simp (disch:=first|exact za|fail) only [go_sem,seval];rw [←zt6 (s:=s) (g:=g)];refine .q ?_;refine .loopH [2,7,14] (fun i=>[(15,.p (i64 i))]) (fun i=>(H.new (.cells [.p (.sl false 4 (pl rdg s.l)),.p (.sl false 1 (pl bo s.gone))])).new (.cells (cl zl (zhp s n g i)))) (fun i=>True) (0) (s.l.length) (by omega) ?_ (by first | rfl | (simp (disch:=first|exact za|fail) only [go_sem,seval]<;>rfl)) ?_ ?_ ?_
 · simp (disch:=first|exact za|fail) only [go_sem,seval]<;>(repeat' (first | rfl | refine And.intro ?_ ?_))
 · exact trivial
 intro env E hQ;simp (disch:=first|exact za|fail) only [go_sem,seval] at E
 rotate_left 1
 intro i env hi0 hi E hQ ihE;simp (disch:=first|exact za|fail) only [go_sem,seval] at E
 rotate_left 1
 · rw [zyb]
   have hcl2:(zfo s n g).length=n:=by simp [zfo]
   refine .qt rfl ?_;simp (disch:=first|exact za|fail) only [go_sem,seval,E];refine .qF rfl ?_
   have htk:((zfo s n g).drop 0).take n=zfo s n g:=by rw [List.drop_zero];exact List.take_of_length_le (by omega)
   refine .q ?_;refine .frzS 7 (by simp (disch:=first|exact za|fail) only [go_sem,seval,E,hcl2,htk];rfl) (by simp (disch:=first|exact za|fail) only [go_sem,seval,E,hcl2,htk]<;>rfl) (fun _=>rfl) (by first | exact za | fail) ?_;(try simp (disch:=first|exact za|fail) only [go_sem,seval,E,hcl2,htk]);refine .qt rfl ?_;simp (disch:=first|exact za|fail) only [go_sem,seval,E];refine .qr rfl Tryz.func113 (by rw [Tryz.results113]) (hx:=by simp (disch:=first|exact za|fail) only [go_sem,seval,E];rfl) ?_;simp (disch:=first|exact za|fail) only [go_sem,seval,E];exact h
 · have hfl:=zl5 (s:=s) (n:=n) (g:=g) (i:=i)
   have hin:i < n:=by omega
   have hset:=zt7 (s:=s) (g:=g) hin;refine .qt rfl ?_;simp (disch:=first|exact za|fail) only [go_sem,seval,E];refine .qT rfl ?_;refine .qt rfl ?_;simp (disch:=first|exact za|fail) only [go_sem,seval,E];refine .qt rfl ?_;simp (disch:=first|exact za|fail) only [go_sem,seval,E,hen,hfw];refine CallK.of (fun R h=>hf i hi _ ((LowE.new _).trans (.new _)) R h) ?_;simp (disch:=first|exact za|fail) only [go_sem,seval,E,hfl,hfw];rw [hset];refine .qt rfl ?_;simp (disch:=first|exact za|fail) only [go_sem,seval,E]
   first | (refine ihE _ _ ?_ trivial ?_) | (refine .z rfl ?_;refine ihE _ _ ?_ trivial ?_) | (refine .z rfl ?_;refine .z rfl ?_;refine ihE _ _ ?_ trivial ?_) | (refine .z rfl ?_;refine .z rfl ?_;refine .z rfl ?_;refine ihE _ _ ?_ trivial ?_)
   · simp (disch:=first|exact za|fail) only [go_sem,seval,E]<;>(repeat' (first | rfl | refine And.intro ?_ ?_))
   · first | rfl | (simp (disch:=first|exact za|fail) only [go_sem,seval,E]<;>(try rfl))
end walks
end Go.Proofs.YthaoifcebimkfaaGreatDoor

namespace Go.Proofs.YthaoifcebimkfaaGreatDoor
open Go Go.AL

section walks
variable {G:Globs}
set_option maxHeartbeats 8000000 in
theorem zpg (s:Strm) (c:Nat) (hc:c < 4) (i:Nat) (hi:i < s.l.length) (cb sb:Nat) (H:Hp) (hcb:H.f cb=some (.cells [.clo (gnk c) [] [],.p (i64 (zR c:Nat))])) (hsb:H.f sb=some (.cells [.p (.sl false 4 (pl rdg s.l)),.p (.sl false 1 (pl bo s.gone))]))
 (R:AV → Hp → Prop) (h:R (.p (zl (BitVec.ofInt 64 (fR (nth s.l i) c)))) H):ACall Tryz.prog G 114 [.p (i64 i),.ptr cb 0,.ptr sb 0] H R:=by
 refine ACall.of_run (raw:=[]) Tryz.func114 rfl Tryz.ntmps114 (by simp) fun hbel => ?_
 have hen:=zgR hc;refine .qt rfl ?_;simp (disch:=first|exact za|fail) only [go_sem,seval];refine .q ?_;refine .open [] follows (by kernel_rfl) ?_;simp (disch:=first|exact za|fail) only [go_sem,seval,hcb,hsb,hen];refine CallD.still (fun R h=>zl6 (nth s.l i) c hc _ R h) ?_;simp (disch:=first|exact za|fail) only [go_sem,seval];refine .qr rfl Tryz.func114 (by rw [Tryz.results114]) ?_;simp (disch:=first|exact za|fail) only [go_sem,seval];exact h
set_option maxHeartbeats 8000000 in
theorem zph (s:Strm) (i:Nat) (hi:i < s.gone.length) (sb:Nat) (H:Hp) (hsb:H.f sb=some (.cells [.p (.sl false 4 (pl rdg s.l)),.p (.sl false 1 (pl bo s.gone))]))
 (R:AV → Hp → Prop) (h:R (.p (zl (if nth s.gone i then 0#64 else 1#64))) H):ACall Tryz.prog G 115 [.p (i64 i),.ptr sb 0] H R:=by
 refine ACall.of_run (raw:=[]) Tryz.func115 rfl Tryz.ntmps115 (by simp) fun hbel => ?_
 refine .qt rfl ?_;simp (disch:=first|exact za|fail) only [go_sem,seval]
 cases hg:nth s.gone i with
 | true =>
  rw [hg] at h;refine .qt rfl ?_;simp (disch:=first|exact za|fail) only [go_sem,seval,hsb];refine .q ?_;refine .ifT (by simp (disch:=first|exact za|fail) only [go_sem,seval,hg]) ?_;refine .qt rfl ?_;simp (disch:=first|exact za|fail) only [go_sem,seval];refine .qr rfl Tryz.func115 (by rw [Tryz.results115]) ?_;simp (disch:=first|exact za|fail) only [go_sem,seval];exact h
 | false =>
  rw [hg] at h;refine .qt rfl ?_;simp (disch:=first|exact za|fail) only [go_sem,seval,hsb];refine .q ?_;refine .ifF (by simp (disch:=first|exact za|fail) only [go_sem,seval,hg]) ?_;refine .skip ?_;refine .qt rfl ?_;simp (disch:=first|exact za|fail) only [go_sem,seval];refine .qr rfl Tryz.func115 (by rw [Tryz.results115]) ?_;simp (disch:=first|exact za|fail) only [go_sem,seval];exact h
set_option maxHeartbeats 8000000 in
theorem zuc (s:Strm) (c:Nat) (hc:c < 4) (b i:Nat) (hb:b < 8) (hi:i < s.l.length) (cb sb kb:Nat) (H:Hp) (hcb:H.f cb=some (.cells [.clo (gnk c) [] [],.p (i64 (zR c:Nat))])) (hsb:H.f sb=some (.cells [.p (.sl false 4 (pl rdg s.l)),.p (.sl false 1 (pl bo s.gone))])) (hkb:H.f kb=some (.cells [.p (i64 b)]))
 (R:AV → Hp → Prop) (h:R (.p (zl ((BitVec.ofInt 64 (fR (nth s.l i) c) >>> b) &&& 1#64))) H):ACall Tryz.prog G 116 [.p (i64 i),.ptr cb 0,.ptr sb 0,.ptr kb 0] H R:=by
 refine ACall.of_run (raw:=[]) Tryz.func116 rfl Tryz.ntmps116 (by simp) fun hbel => ?_
 have hen:=zgR hc;refine .qt rfl ?_;simp (disch:=first|exact za|fail) only [go_sem,seval];refine .q ?_;refine .open [] follows (by kernel_rfl) ?_;simp (disch:=first|exact za|fail) only [go_sem,seval,hcb,hsb,hkb,hen];refine CallD.still (fun R h=>zl6 (nth s.l i) c hc _ R h) ?_;simp (disch:=first|exact za|fail) only [go_sem,seval,hkb];refine .qr rfl Tryz.func116 (by rw [Tryz.results116]) ?_;simp (disch:=first|exact za|fail) only [go_sem,seval];exact h
theorem zCk {s:Strm} {n c:Nat} (hc:c < 4):zfo s n (fun i=>BitVec.ofInt 64 (fR (nth s.l i) c))=zl3 s n c:=by
 unfold zfo zl3
 refine List.map_congr_left fun i _ => ?_
 unfold elC;rw [if_pos hc]
theorem zCl {s:Strm} {n:Nat}:zfo s n (fun i=>if nth s.gone i then 0#64 else 1#64)=zl3 s n 4:=by
 unfold zfo zl3
 refine List.map_congr_left fun i _ => ?_
 unfold elC;rw [if_neg (by decide : ¬ 4 < 4)]
theorem zCm {s:Strm} {n c b:Nat} (hc:c < 4):zfo s n (fun i=>(BitVec.ofInt 64 (fR (nth s.l i) c) >>> b) &&& 1#64)=zt3 s n c b:=by
 unfold zfo zt3
 refine List.map_congr_left fun i _ => ?_
 unfold elC;rw [if_pos hc]
 split
 · rfl
 · simp
set_option maxHeartbeats 8000000 in
set_option maxRecDepth 20000 in
theorem zhq (s:Strm) (m:Nat) (hs:okS m s) (k n:Nat) (hk:k≤5) (hn:n=2 ^ k) (hl:s.l.length≤n) (H:Hp) (R:AV → Hp → Prop) (h:R (.tup [.p (.sl false 1 (pl (sle 1 zl) (y6 s n))),.p (i64 0)]) H):ACall Tryz.prog G 54 [.p (stm s),.p (i64 k)] H R:=by
 refine ACall.of_run (raw:=[]) Tryz.func54 rfl Tryz.ntmps54 (by simp) fun hbel => ?_
 have he:zt4 s k=0:=by
  unfold zt4;rw [if_neg (by omega),Int.toNat_natCast,←hn,if_neg (by omega)]
 have hc5:(y6 s n).length=5:=by simp [y6]
 refine .qt rfl ?_;simp (disch:=first|exact za|fail) only [go_sem,seval];refine .qt rfl ?_;simp (disch:=first|exact za|fail) only [go_sem,seval];refine CallK.of (fun R h=>zgT s m hs k (by omega) _ R h) ?_;simp (disch:=first|exact za|fail) only [go_sem,seval,he];refine .qt rfl ?_;simp (disch:=first|exact za|fail) only [go_sem,seval];refine .qF rfl ?_;refine .skip ?_;refine .qt rfl ?_;simp (disch:=first|exact za|fail) only [go_sem,seval];refine .q ?_;refine .own 7 (by simp (disch:=first|exact za|fail) only [go_sem,seval];rfl) ?_;refine .qt rfl ?_;simp (disch:=first|exact za|fail) only [go_sem,seval];refine CallK.of (fun R h=>ze6 _ R h) ?_;simp (disch:=first|exact za|fail) only [go_sem,seval];refine .q ?_;refine .count (fun c env W=>env 1 = .p (i64 k)∧env 2 = .ptr H.n 0∧env 7 = .sl (H.n+1) c 1 (pl (sle 1 zl) ((y6 s n).take c))∧env 16=fld∧env 17 = .p (i64 c)∧W.f H.n=some (.cells [.p (.sl false 4 (pl rdg s.l)),.p (.sl false 1 (pl bo s.gone))])∧W.f (H.n+1)=some (.tail c)∧H.n+3≤W.n∧LowE H W) 0 4 (by omega) ?_ ?_ ?_
 · refine⟨?_,?_,?_,?_,?_,?_,?_,?_,((LowE.new _).trans (.new _)).trans (.new _)⟩
   · simp (disch:=first|exact za|fail) only [go_sem,seval]
   · simp (disch:=first|exact za|fail) only [go_sem,seval]
   · simp (disch:=first|exact za|fail) only [go_sem,seval,zeA,List.take_zero]
   · simp (disch:=first|exact za|fail) only [go_sem,seval]
   · simp (disch:=first|exact za|fail) only [go_sem,seval]
   · simp (disch:=first|exact za|fail) only [go_sem,seval]
   · simp (disch:=first|exact za|fail) only [go_sem,seval]
   · simp only [n_new'];omega
 · rintro env W ⟨e1,e2,e7,e16,e17,h1,h2,hWn,hW⟩
   have hw:([.ptr H.n 0]:List AV).map AV.weak=[.ptr H.n 0]:=rfl
   have hen:enters Tryz.prog 115=true:=by kernel_rfl
   have hap:pl (sle 1 zl) ((y6 s n).take 4)++[.sl false 1 (pl zl (zl3 s n 4))]=pl (sle 1 zl) (y6 s n):=by
    have h5:y6 s n=(y6 s n).take 4++[zl3 s n 4]:=rfl
    conv=>rhs;rw [h5,←yr]
    rfl
   have hbel:Bel H.n W:=hW.bel hbel;refine .qt rfl ?_;simp (disch:=first|exact za|fail) only [go_sem,seval,e17];refine .qF rfl ?_;refine .qt rfl ?_;simp (disch:=first|exact za|fail) only [go_sem,seval,e1,e2,e7,h1];refine CallK.of (fun R h=>zc8 s m hs k n hk hn hl 115 [.ptr H.n 0] hw hen (fun i=>if nth s.gone i then 0#64 else 1#64) _ (fun i hi V hV R h=>zph s i (by rw [hs.gl];exact hi) H.n V ((hV.f H.n (by omega)).trans h1) R h) R h) ?_;simp (disch:=first|exact za|fail) only [go_sem,seval,h2,zCl,hap,hc5];refine .qr rfl Tryz.func54 (by rw [Tryz.results54]) ?_;simp (disch:=first|exact za|fail) only [go_sem,seval];rw [hW.back];exact h
 · rintro c env W hc0 hc ⟨e1,e2,e7,e16,e17,h1,h2,hWn,hW⟩ ihO
   have hfi:=zh9 hc;have hw:([.ptr W.n 0,.ptr H.n 0]:List AV).map AV.weak=[.ptr W.n 0,.ptr H.n 0]:=rfl
   have hen:enters Tryz.prog 114=true:=by kernel_rfl
   have hap:pl (sle 1 zl) ((y6 s n).take c)++[.sl false 1 (pl zl (zl3 s n c))]=pl (sle 1 zl) ((y6 s n).take (c+1)):=by
    have hlt:c < (y6 s n).length:=by omega
    rw [List.take_succ_eq_append_getElem hlt,←yr]
    congr 1
    simp [y6,pl,sle]
   refine .qt rfl ?_;simp (disch:=first|exact za|fail) only [go_sem,seval,e17];refine .qT rfl ?_;refine .qt rfl ?_;simp (disch:=first|exact za|fail) only [go_sem,seval,e16,e17,hfi]
   have h1':(W.new (.cells [.clo (gnk c) [] [],.p (i64 (zR c:Nat))])).f H.n=some (.cells [.p (.sl false 4 (pl rdg s.l)),.p (.sl false 1 (pl bo s.gone))]):=by rw [zb (by omega)];exact h1
   have h2':(W.new (.cells [.clo (gnk c) [] [],.p (i64 (zR c:Nat))])).f (H.n+1)=some (.tail c):=by rw [zb (by omega)];exact h2
   have h3':(W.new (.cells [.clo (gnk c) [] [],.p (i64 (zR c:Nat))])).f W.n=some (.cells [.clo (gnk c) [] [],.p (i64 (zR c:Nat))]):=zu rfl;have hWL:LowE H (W.new (.cells [.clo (gnk c) [] [],.p (i64 (zR c:Nat))])):=hW.trans (.new _);have hVn:(W.new (.cells [.clo (gnk c) [] [],.p (i64 (zR c:Nat))])).n=W.n+1:=n_new'
   generalize W.new (.cells [.clo (gnk c) [] [],.p (i64 (zR c:Nat))])=V at *
   refine .qt rfl ?_;simp (disch:=first|exact za|fail) only [go_sem,seval,e1,e2,e7,h1'];refine CallK.of (fun R h=>zc8 s m hs k n hk hn hl 114 [.ptr W.n 0,.ptr H.n 0] hw hen (fun i=>BitVec.ofInt 64 (fR (nth s.l i) c)) _ (fun i hi U hU R h=>zpg s c hc i hi W.n H.n U ((hU.f W.n (by omega)).trans h3') ((hU.f H.n (by omega)).trans h1') R h) R h) ?_;simp (disch:=first|exact za|fail) only [go_sem,seval,h2',zCk hc,hap,hc5];refine .qt rfl ?_;simp (disch:=first|exact za|fail) only [go_sem,seval,e17];refine ihO _ _ ⟨?_,?_,?_,?_,?_,?_,zN rfl (by omega),by rw [n_set'];omega,hWL.set _ (by omega)⟩
   · simp (disch:=first|exact za|fail) only [go_sem,seval,e1]
   · simp (disch:=first|exact za|fail) only [go_sem,seval,e2]
   · simp (disch:=first|exact za|fail) only [go_sem,seval]
   · simp (disch:=first|exact za|fail) only [go_sem,seval,e16]
   · simp (disch:=first|exact za|fail) only [go_sem,seval]
   · rw [f_set_ne' (by omega)];exact h1'
end walks
end Go.Proofs.YthaoifcebimkfaaGreatDoor

namespace Go.Proofs.YthaoifcebimkfaaGreatDoor
open Go Go.AL Go.Proofs Go.Shelf

def renC:Ren:=⟨fun n=>if n=4 then 117 else n,fun n=>if n=25 then 27 else if n=22 then 43 else if n=20 then 20 else if n=9 then 9 else if n=4 then 4 else if n=3 then 3 else if n=0 then 0 else n,fun n=>n⟩

theorem zpi:Lays8.n4 Tryz.prog renC where
  mixed:=follows
  f4 := ⟨"slices.Grow[[][]uint64,[]uint64]", by decide, by kernel_rfl⟩
  t0:=Tryz.underlying0
  a0:=fun w=>by kernel_rfl
  z0:=fun w=>by kernel_rfl
  v0:=fun w=>by kernel_rfl
  t3:=Tryz.underlying3
  a3:=fun w=>by kernel_rfl
  z3:=fun w=>by kernel_rfl
  v3:=fun w=>by kernel_rfl
  t4:=Tryz.underlying4
  a4:=fun w=>by kernel_rfl
  z4:=fun w=>by kernel_rfl
  v4:=fun w=>by kernel_rfl
  t9:=Tryz.underlying9
  a9:=fun w=>by kernel_rfl
  z9:=fun w=>by kernel_rfl
  v9:=fun w=>by kernel_rfl
  t20:=Tryz.underlying20
  a20:=fun w=>by kernel_rfl
  z20:=fun w=>by kernel_rfl
  v20:=fun w=>by kernel_rfl
  t22:=Tryz.underlying43
  a22:=fun w=>by kernel_rfl
  z22:=fun w=>by kernel_rfl
  v22:=fun w=>by kernel_rfl

theorem zDb:Tryz.prog.info? 27=some Tryz.t27:=by kernel_rfl

theorem zpj {G:Globs} (n:Nat) (hn0:0 < n) (hn:n≤1000000) (H:Hp) (R:AV → Hp → Prop) (h:R (.sl H.n 0 1 []) (H.new (.tail 0))) :
 ACall Tryz.prog G 117 [.p (.s (.slice none 0 0)),.p (i64 n)] H R:=by
 intro σ w vs hr hvs;have hs:vs.size=2:=hvs.1;have r0:=hvs.2 0 _ vs[0] rfl (by simp);have r1:=hvs.2 1 _ vs[1] rfl (by simp)
 have e1:vs[1] = .int .i64 n:=by
  generalize vs[1]=v at r1
  cases r1 with | p r=>cases r;rfl
 obtain⟨base,e0⟩ : ∃ base,vs[0] = .slice base 0 0:=by
  generalize vs[0]=v at r0
  cases r0 with | p r =>
  cases r;exact⟨none,rfl⟩
 have hv:vs = #[.slice base 0 0,.int .i64 n]:=by
  apply Array.ext
  · simp [hs]
  · intro i h1 h2
    have:i=0 ∨ i=1:=by simp at h2;omega
    rcases this with rfl | rfl
    · simpa using e0
    · simpa using e1
 have hc:=Any8.slices_Grow_grow zpi Tryz.t27 (.slice none 0 0) zDb rfl (by decide) base 0 0 n [] w (Nat.le_refl _) (by omega) (by show (0+n)*24≤_;omega) (by omega) rfl (fun _=>rfl) (by simp);rw [hv];refine Calls.mono hc ?_
 rintro e w' ⟨rfl,rfl⟩
 generalize hC:(([]:List Value).toArray++Builtin.zeroCells (Value.slice none 0 0).cells (0+n - 0)++Builtin.zeroCells (Value.slice none 0 0).cells (grownCap w (0+n) 0 (renC.t 25) - (0+n)))=C
 have hCs:grownCap w (0+n) 0 (renC.t 25)≤C.size:=by
  rw [←hC];simp [Builtin.zeroCells,Value.cells];omega
 have hmax:grownCap w (0+n) 0 (renC.t 25)≤maxLen:=grownCap_le_maxLen w _ _ _ (by unfold maxLen;omega)
 generalize grownCap w (0+n) 0 (renC.t 25)=cap at hCs hmax
 obtain⟨h1,h2⟩:=yK hr (w':=w.drew.alloc (.cells C (renC.t 25))) (by show w.drew.heap.size≤_;simp) (fun g hg=>heap_alloc_old w.drew _ hg) rfl rfl
  (some (w.heap.size,0,C.size)) (fun g o s hh=>by cases hh;exact⟨Nat.le_refl _,_,_,heap_alloc_new w.drew _,rfl⟩)
 refine⟨_,_,_,_,h,rfl,h1,.sl ?_ ⟨by simp [Hp.n_new],fun k0 d hk0 => ?_⟩,h2⟩
 · exact .sl false _ [] _ 0 _ (fun _=>undef) (by simp) ⟨by simp,hmax⟩ (by simp) (by simp) (by simp [flat])
 · simp [Hp.f_new] at hk0
   exact⟨by omega,fun _ => .inr ⟨w.heap.size,0,0,cap,C.size,by simp,by simp [Gh.withT],by omega⟩⟩

def pcc (l:List (List U)):PV := .sl false 1 (pl (sle 1 zl) l)
theorem zia (l:List (List U)):(pcc l).cells=[pcc l]:=rfl
theorem zql (l:List (List U)):AV.p (pcc l) = .p (.sl false 1 (pl (sle 1 zl) l)):=rfl
def zc9 (ps:List (List (List U))):Nat → Nat
 | 0=>0
 | i+1=>zc9 ps i+(nth ps i).length
def zpk (ps:List (List (List U))):Nat → List (List U)
 | 0=>[]
 | i+1=>zpk ps i++nth ps i
theorem zyc (ps:List (List (List U))) (i:Nat):(zpk ps i).length=zc9 ps i:=by
 induction i with
 | zero=>rfl
 | succ i ih=>simp [zpk,zc9,ih]
theorem zib (ps:List (List (List U))) {i j:Nat} (h:i≤j):zc9 ps i≤zc9 ps j:=by
  induction j with
  | zero => have : i = 0 := by omega
            subst this;exact Nat.le_refl _
  | succ j ih =>
    by_cases e:i=j+1
    · rw [e];exact Nat.le_refl _
    · have:=ih (by omega);simp only [zc9];omega

set_option maxHeartbeats 8000000 in
theorem zjs {G:Globs} (ps:List (List (List U))) (hn:ps.length≤1000) (h0:0 < zc9 ps ps.length) (h1:zc9 ps ps.length≤1000000) (H:Hp) (R:AV → Hp → Prop) (h:R (.p (.sl false 1 (pl (sle 1 zl) (zpk ps ps.length)))) H) :
 ACall Tryz.prog G 56 [.p (.sl false 1 (pl pcc ps))] H R:=by
 refine ACall.of_run (raw:=[117]) Tryz.func56 rfl Tryz.ntmps56 (by simp) fun hbel => ?_
 refine .qt rfl ?_;simp (disch:=first|exact za|fail) only [go_sem,seval];refine .qt rfl ?_;simp (disch:=first|exact za|fail) only [go_sem,seval];refine .qt rfl ?_;simp (disch:=first|exact za|fail) only [go_sem,seval];refine .q ?_;refine .count (fun i env H'=>env 0 = .p (.sl false 1 (pl pcc ps))∧env 3 = .p (i64 (zc9 ps i))∧env 9 = .p (.sl false 1 (pl pcc ps))∧env 10 = .p (i64 ps.length)∧env 11 = .p (i64 i)∧H'=H) 0 ps.length (by omega) ?_ ?_ ?_
 · simp (disch:=first|exact za|fail) only [go_sem,seval];rfl
 · intro env H' ⟨e0,e3,e9,e10,e11,eH⟩;subst eH;refine .qt rfl ?_;simp (disch:=first|exact za|fail) only [go_sem,seval,e10,e11];refine .qF rfl ?_;refine .qt rfl ?_;simp (disch:=first|exact za|fail) only [go_sem,seval,e3];refine CallK.of (fun R h=>zpj _ h0 (by omega) _ R h) ?_;simp (disch:=first|exact za|fail) only [go_sem,seval];refine .qt rfl ?_;simp (disch:=first|exact za|fail) only [go_sem,seval,e0];refine .q ?_;refine .count (fun i env H2=>env 6 = .sl H'.n i 1 (pl (sle 1 zl) (zpk ps i))∧env 25 = .p (.sl false 1 (pl pcc ps))∧env 26 = .p (i64 ps.length)∧env 27 = .p (i64 i)∧H2=H'.new (.tail i)) 0 ps.length (by omega) ?_ ?_ ?_
   · simp (disch:=first|exact za|fail) only [go_sem,seval];rfl
   · intro env H2 ⟨e6,e25,e26,e27,eH⟩;subst eH;refine .qt rfl ?_;simp (disch:=first|exact za|fail) only [go_sem,seval,e26,e27];refine .qF rfl ?_;refine .qt rfl ?_;simp (disch:=first|exact za|fail) only [go_sem,seval,e6];refine .qr rfl Tryz.func56 (by rw [Tryz.results56]) ?_;simp (disch:=first|exact za|fail) only [go_sem,seval];exact h
   · intro i env H2 _ hi ⟨e6,e25,e26,e27,eH⟩ ih;subst eH;have hm:=zib ps (show i+1≤ps.length by omega);have hs:zc9 ps (i+1)=zc9 ps i+(nth ps i).length:=rfl;have hcl:(zpk ps i).length=zc9 ps i:=zyc ps i;refine .qt rfl ?_;simp (disch:=first|exact za|fail) only [go_sem,seval,e26,e27];refine .qT rfl ?_;refine .qt rfl ?_;simp (disch:=first|exact za|fail) only [go_sem,seval,e25,e27,zia,zql];refine .qt rfl ?_;simp (disch:=first|exact za|fail) only [go_sem,seval,e6];refine .qt rfl ?_;simp (disch:=first|exact za|fail) only [go_sem,seval,e27];refine ih _ _ ?_;simp (disch:=first|exact za|fail) only [go_sem,seval,e6,e25,e26,e27];rfl
 · intro i env H' _ hi ⟨e0,e3,e9,e10,e11,eH⟩ ih;subst eH;have hm:=zib ps (show i+1≤ps.length by omega);have hs:zc9 ps (i+1)=zc9 ps i+(nth ps i).length:=rfl;refine .qt rfl ?_;simp (disch:=first|exact za|fail) only [go_sem,seval,e10,e11];refine .qT rfl ?_;refine .qt rfl ?_;simp (disch:=first|exact za|fail) only [go_sem,seval,e9,e11,zia,zql];refine .qt rfl ?_;simp (disch:=first|exact za|fail) only [go_sem,seval,e3];refine .qt rfl ?_;simp (disch:=first|exact za|fail) only [go_sem,seval];refine .qF rfl ?_;refine .qt rfl ?_;simp (disch:=first|exact za|fail) only [go_sem,seval,e11];refine ih _ _ ?_;simp (disch:=first|exact za|fail) only [go_sem,seval,e0,e3,e9,e10,e11];rw [hs];rfl

end Go.Proofs.YthaoifcebimkfaaGreatDoor

namespace Go.Proofs.YthaoifcebimkfaaGreatDoor
open Go Go.AL

section walks
variable {G:Globs}
def ze7 (s:Strm) (n c b:Nat):List (List U):=za0 s n c++(List.range b).map (zt3 s n c)
theorem zpl {s:Strm} {n c:Nat}:ze7 s n c 0=za0 s n c:=by simp [ze7]
theorem zud {s:Strm} {n c b:Nat}:(ze7 s n c b).length=wdT c+b:=by simp [ze7,zeP]
theorem zpm {s:Strm} {n c b:Nat}:pl (sle 1 zl) (ze7 s n c b)++[.sl false 1 (pl zl (zt3 s n c b))]=pl (sle 1 zl) (ze7 s n c (b+1)):=by
 unfold ze7;rw [List.range_succ,List.map_append,←List.append_assoc,←yr (l:=za0 s n c++(List.range b).map (zt3 s n c))];rfl
set_option maxHeartbeats 8000000 in
set_option maxRecDepth 20000 in
theorem zpn (s:Strm) (m:Nat) (hs:okS m s) (k n:Nat) (hk:k≤5) (hn:n=2 ^ k) (hl:s.l.length≤n) (H:Hp) (R:AV → Hp → Prop) (h:R (.tup [.p (.sl false 1 (pl (sle 1 zl) (za0 s n 4))),.p (i64 0)]) H):ACall Tryz.prog G 55 [.p (stm s),.p (i64 k)] H R:=by
 refine ACall.of_run (raw:=[]) Tryz.func55 rfl Tryz.ntmps55 (by simp) fun hbel => ?_
 have he:zt4 s k=0:=by
  unfold zt4;rw [if_neg (by omega),Int.toNat_natCast,←hn,if_neg (by omega)]
 refine .qt rfl ?_;simp (disch:=first|exact za|fail) only [go_sem,seval];refine .qt rfl ?_;simp (disch:=first|exact za|fail) only [go_sem,seval];refine CallK.of (fun R h=>zgT s m hs k (by omega) _ R h) ?_;simp (disch:=first|exact za|fail) only [go_sem,seval,he];refine .qt rfl ?_;simp (disch:=first|exact za|fail) only [go_sem,seval];refine .qF rfl ?_;refine .skip ?_;refine .qt rfl ?_;simp (disch:=first|exact za|fail) only [go_sem,seval];refine .q ?_;refine .own 7 (by simp (disch:=first|exact za|fail) only [go_sem,seval];rfl) ?_;refine .qt rfl ?_;simp (disch:=first|exact za|fail) only [go_sem,seval];refine CallK.of (fun R h=>ze6 _ R h) ?_;simp (disch:=first|exact za|fail) only [go_sem,seval];refine .q ?_;refine .count (fun c env W=>env 1 = .p (i64 k)∧env 2 = .ptr H.n 0∧env 7 = .sl (H.n+1) (wdT c) 1 (pl (sle 1 zl) (za0 s n c))∧env 17=fld∧env 18 = .p (i64 c)∧W.f H.n=some (.cells [.p (.sl false 4 (pl rdg s.l)),.p (.sl false 1 (pl bo s.gone))])∧W.f (H.n+1)=some (.tail (wdT c))∧H.n+3≤W.n∧LowE H W) 0 4 (by omega) ?_ ?_ ?_
 · refine⟨?_,?_,?_,?_,?_,?_,?_,?_,((LowE.new _).trans (.new _)).trans (.new _)⟩
   · simp (disch:=first|exact za|fail) only [go_sem,seval]
   · simp (disch:=first|exact za|fail) only [go_sem,seval]
   · simp (disch:=first|exact za|fail) only [go_sem,seval];rfl
   · simp (disch:=first|exact za|fail) only [go_sem,seval]
   · simp (disch:=first|exact za|fail) only [go_sem,seval]
   · simp (disch:=first|exact za|fail) only [go_sem,seval]
   · simp (disch:=first|exact za|fail) only [go_sem,seval];rfl
   · simp only [n_new'];omega
 · rintro env W ⟨e1,e2,e7,e17,e18,h1,h2,hWn,hW⟩
   have hbel:Bel H.n W:=hW.bel hbel;refine .qt rfl ?_;simp (disch:=first|exact za|fail) only [go_sem,seval,e18];refine .qF rfl ?_;refine .qt rfl ?_;simp (disch:=first|exact za|fail) only [go_sem,seval,e7];refine .qr rfl Tryz.func55 (by rw [Tryz.results55]) ?_;simp (disch:=first|exact za|fail) only [go_sem,seval];rw [hW.back];exact h
 · rintro c env W hc0 hc ⟨e1,e2,e7,e17,e18,h1,h2,hWn,hW⟩ ihO
   have hfi:=zh9 hc;have hwb:=zaz c;have hwt:=zB8 c;refine .qt rfl ?_;simp (disch:=first|exact za|fail) only [go_sem,seval,e18];refine .qT rfl ?_;refine .qt rfl ?_;simp (disch:=first|exact za|fail) only [go_sem,seval,e17,e18,hfi]
   have h1':(W.new (.cells [.clo (gnk c) [] [],.p (i64 (zR c:Nat))])).f H.n=some (.cells [.p (.sl false 4 (pl rdg s.l)),.p (.sl false 1 (pl bo s.gone))]):=by rw [zb (by omega)];exact h1
   have h2':(W.new (.cells [.clo (gnk c) [] [],.p (i64 (zR c:Nat))])).f (H.n+1)=some (.tail (wdT c)):=by rw [zb (by omega)];exact h2
   have h3':(W.new (.cells [.clo (gnk c) [] [],.p (i64 (zR c:Nat))])).f W.n=some (.cells [.clo (gnk c) [] [],.p (i64 (zR c:Nat))]):=zu rfl;have hWL:LowE H (W.new (.cells [.clo (gnk c) [] [],.p (i64 (zR c:Nat))])):=hW.trans (.new _);have hVn:(W.new (.cells [.clo (gnk c) [] [],.p (i64 (zR c:Nat))])).n=W.n+1:=n_new'
   generalize W.new (.cells [.clo (gnk c) [] [],.p (i64 (zR c:Nat))])=V at *
   refine .qt rfl ?_;simp (disch:=first|exact za|fail) only [go_sem,seval,h3'];refine .q ?_;refine .count (fun b env U=>env 1 = .p (i64 k)∧env 2 = .ptr H.n 0∧env 7 = .sl (H.n+1) (wdT c+b) 1 (pl (sle 1 zl) (ze7 s n c b))∧env 9 = .ptr W.n 0∧env 17=fld∧env 18 = .p (i64 c)∧env 22 = .p (i64 (zR c:Nat))∧env 23 = .p (i64 b)∧U.f H.n=some (.cells [.p (.sl false 4 (pl rdg s.l)),.p (.sl false 1 (pl bo s.gone))])∧U.f (H.n+1)=some (.tail (wdT c+b))∧U.f W.n=some (.cells [.clo (gnk c) [] [],.p (i64 (zR c:Nat))])∧W.n+1≤U.n∧LowE H U) 0 (zR c) (by omega) ?_ ?_ ?_
   · refine⟨?_,?_,?_,?_,?_,?_,?_,?_,h1',h2',h3',by omega,hWL⟩
     · simp (disch:=first|exact za|fail) only [go_sem,seval,e1]
     · simp (disch:=first|exact za|fail) only [go_sem,seval,e2]
     · simp (disch:=first|exact za|fail) only [go_sem,seval,e7,zpl]
     · simp (disch:=first|exact za|fail) only [go_sem,seval]
     · simp (disch:=first|exact za|fail) only [go_sem,seval,e17]
     · simp (disch:=first|exact za|fail) only [go_sem,seval,e18]
     · simp (disch:=first|exact za|fail) only [go_sem,seval]
     · simp (disch:=first|exact za|fail) only [go_sem,seval]
   · rintro env U ⟨e1,e2,e7,e9,e17,e18,e22,e23,g1,g2,g3,gn,gL⟩
     refine .qt rfl ?_;simp (disch:=first|exact za|fail) only [go_sem,seval,e22,e23];refine .qF rfl ?_;refine .qt rfl ?_;simp (disch:=first|exact za|fail) only [go_sem,seval,e18];refine ihO _ _ ⟨?_,?_,?_,?_,?_,g1,g2,by omega,gL⟩
     · simp (disch:=first|exact za|fail) only [go_sem,seval,e1]
     · simp (disch:=first|exact za|fail) only [go_sem,seval,e2]
     · simp (disch:=first|exact za|fail) only [go_sem,seval,e7];rfl
     · simp (disch:=first|exact za|fail) only [go_sem,seval,e17]
     · simp (disch:=first|exact za|fail) only [go_sem,seval]
   · rintro b env U hb0 hb ⟨e1,e2,e7,e9,e17,e18,e22,e23,g1,g2,g3,gn,gL⟩ ihI
     have hw:([.ptr W.n 0,.ptr H.n 0,.ptr U.n 0]:List AV).map AV.weak=[.ptr W.n 0,.ptr H.n 0,.ptr U.n 0]:=rfl
     have hen:enters Tryz.prog 116=true:=by kernel_rfl
     have hap:=zpm (s:=s) (n:=n) (c:=c) (b:=b);have hbl:=zud (s:=s) (n:=n) (c:=c) (b:=b);refine .qt rfl ?_;simp (disch:=first|exact za|fail) only [go_sem,seval,e22,e23];refine .qT rfl ?_;refine .qt rfl ?_;simp (disch:=first|exact za|fail) only [go_sem,seval,e23]
     have g1':(U.new (.cells [.p (i64 b)])).f H.n=some (.cells [.p (.sl false 4 (pl rdg s.l)),.p (.sl false 1 (pl bo s.gone))]):=by rw [zb (by omega)];exact g1
     have g2':(U.new (.cells [.p (i64 b)])).f (H.n+1)=some (.tail (wdT c+b)):=by rw [zb (by omega)];exact g2
     have g3':(U.new (.cells [.p (i64 b)])).f W.n=some (.cells [.clo (gnk c) [] [],.p (i64 (zR c:Nat))]):=by rw [zb (by omega)];exact g3
     have g4':(U.new (.cells [.p (i64 b)])).f U.n=some (.cells [.p (i64 b)]):=zu rfl;have gL':LowE H (U.new (.cells [.p (i64 b)])):=gL.trans (.new _);have gn':(U.new (.cells [.p (i64 b)])).n=U.n+1:=n_new'
     generalize U.new (.cells [.p (i64 b)])=T at *
     refine .qt rfl ?_;simp (disch:=first|exact za|fail) only [go_sem,seval,e1,e2,e7,e9,g1'];refine CallK.of (fun R h=>zc8 s m hs k n hk hn hl 116 [.ptr W.n 0,.ptr H.n 0,.ptr U.n 0] hw hen (fun i=>(BitVec.ofInt 64 (fR (nth s.l i) c) >>> b) &&& 1#64) _ (fun i hi Q hQ R h=>zuc s c hc b i (by omega) hi W.n H.n U.n Q ((hQ.f W.n (by omega)).trans g3') ((hQ.f H.n (by omega)).trans g1') ((hQ.f U.n (by omega)).trans g4') R h) R h) ?_;simp (disch:=first|exact za|fail) only [go_sem,seval,g2',zCm hc,hap,hbl];refine .qt rfl ?_;simp (disch:=first|exact za|fail) only [go_sem,seval,e23];refine ihI _ _ ⟨?_,?_,?_,?_,?_,?_,?_,?_,?_,zN rfl (by omega),?_,by rw [n_set'];omega,gL'.set _ (by omega)⟩
     · simp (disch:=first|exact za|fail) only [go_sem,seval,e1]
     · simp (disch:=first|exact za|fail) only [go_sem,seval,e2]
     · simp (disch:=first|exact za|fail) only [go_sem,seval];rfl
     · simp (disch:=first|exact za|fail) only [go_sem,seval,e9]
     · simp (disch:=first|exact za|fail) only [go_sem,seval,e17]
     · simp (disch:=first|exact za|fail) only [go_sem,seval,e18]
     · simp (disch:=first|exact za|fail) only [go_sem,seval,e22]
     · simp (disch:=first|exact za|fail) only [go_sem,seval]
     · rw [f_set_ne' (by omega)];exact g1'
     · rw [f_set_ne' (by omega)];exact g3'
set_option maxHeartbeats 8000000 in
set_option maxRecDepth 20000 in
theorem zhr (s:Strm) (m:Nat) (hs:okS m s) (k n:Nat) (hk:k≤5) (hn:n=2 ^ k) (hl:s.l.length≤n) (H:Hp) (R:AV → Hp → Prop) (h:R (.tup [.p (.sl false 1 (pl (sle 1 zl) (zAk s n))),.p (i64 0)]) H):ACall Tryz.prog G 15 [.p (stm s),.p (i64 k)] H R:=by
 refine ACall.of_run (raw:=[]) Tryz.func15 rfl Tryz.ntmps15 (by simp) fun hbel => ?_
 refine .qt rfl ?_;simp (disch:=first|exact za|fail) only [go_sem,seval];refine .qt rfl ?_;simp (disch:=first|exact za|fail) only [go_sem,seval];refine CallK.of (fun R h=>zhq s m hs k n hk hn hl _ R h) ?_;simp (disch:=first|exact za|fail) only [go_sem,seval];refine .qt rfl ?_;simp (disch:=first|exact za|fail) only [go_sem,seval];refine .qF rfl ?_;refine .skip ?_;refine .qt rfl ?_;simp (disch:=first|exact za|fail) only [go_sem,seval];refine CallK.of (fun R h=>zpn s m hs k n hk hn hl _ R h) ?_;simp (disch:=first|exact za|fail) only [go_sem,seval];refine .qt rfl ?_;simp (disch:=first|exact za|fail) only [go_sem,seval];refine .qF rfl ?_;refine .skip ?_
 have hc5:(y6 s n).length=5:=by simp [y6]
 have hl4:(za0 s n 4).length=24:=by rw [zeP];rfl
 have hb:AV.p (.sl true 1 [.sl false 1 (pl (sle 1 zl) (y6 s n)),.sl false 1 (pl (sle 1 zl) (za0 s n 4))]) = .p (.sl true 1 (pl pcc [y6 s n,za0 s n 4])):=rfl
 have htot:zc9 [y6 s n,za0 s n 4] 2=29:=by
  show 0+(y6 s n).length+(za0 s n 4).length=29
  rw [hc5,hl4]
 have hcat:zpk [y6 s n,za0 s n 4] 2=zAk s n:=rfl;refine .qt rfl ?_;simp (disch:=first|exact za|fail) only [go_sem,seval,hb];refine CallK.of (fun R h=>zjs [y6 s n,za0 s n 4] (by show 2≤1000;omega) (by show 0 < zc9 _ 2;omega) (by show zc9 _ 2≤_;omega) _ R h) ?_;simp (disch:=first|exact za|fail) only [go_sem,seval];rw [hcat];refine .qr rfl Tryz.func15 (by rw [Tryz.results15]) ?_;simp (disch:=first|exact za|fail) only [go_sem,seval];exact h
set_option maxHeartbeats 8000000 in
set_option maxRecDepth 20000 in
theorem zl7 (H:Hp) (R:AV → Hp → Prop) (h:R (.p (i64 29)) H):ACall Tryz.prog G 33 [] H R:=by
 refine ACall.of_run (raw:=[]) Tryz.func33 rfl Tryz.ntmps33 (by simp) fun hbel => ?_
 refine .qt rfl ?_;simp (disch:=first|exact za|fail) only [go_sem,seval];refine .qt rfl ?_;simp (disch:=first|exact za|fail) only [go_sem,seval];refine .qr rfl Tryz.func33 (by rw [Tryz.results33]) ?_;simp (disch:=first|exact za|fail) only [go_sem,seval];exact h
end walks
end Go.Proofs.YthaoifcebimkfaaGreatDoor

namespace Go.Proofs.YthaoifcebimkfaaGreatDoor
open Go Go.AL

def zpo (x:U):Bool:=decide (4611686018427387904#64 < x)
def toI (x:U):Int:=(x.toNat:Int)
def zue (q:Qry) (v:List U):List Int × Int :=
 if (v.length:Int)=(zeL q.kind).s then if v.any zpo then ([],141) else (v.map toI,0) else ([],1)
theorem zyd {x:U} (h:zpo x=false):IntKind.i64.wrap (x.toNat:Int)=toI x:=by
 have : ¬ 4611686018427387904#64 < x:=by simpa [zpo] using h
 rw [BitVec.lt_def] at this;have e:(4611686018427387904#64).toNat=4611686018427387904:=rfl;exact zd3 (by omega) (by omega)
def zhs (v:List U) (i:Nat):List Int:=(v.take i).map toI++List.replicate (v.length - i) 0
theorem zye {v:List U} {i:Nat} (h:i≤v.length):(zhs v i).length=v.length:=by simp [zhs];omega
theorem zuf {v:List U}:zhs v 0=List.replicate v.length 0:=by simp [zhs]
theorem zyf {v:List U}:zhs v v.length=v.map toI:=by simp [zhs]
theorem zug {v:List U} {i:Nat} (h:i < v.length):(zhs v i).set i (toI (nth v i))=zhs v (i+1):=by
 have hl:((v.take i).map toI).length=i:=by rw [List.length_map,List.length_take];omega
 unfold zhs;rw [List.set_append_right _ _ (by omega),hl,Nat.sub_self,show v.length - i=(v.length - (i+1))+1 by omega,List.replicate_succ,List.set_cons_zero,List.take_succ_eq_append_getElem h,List.map_append,List.append_assoc,zh h];rfl
section walks
variable {G:Globs} {r1:Nat} {m1:List (Int × Int)}
set_option maxHeartbeats 8000000 in
set_option maxRecDepth 20000 in
theorem zdS (g:GW G r1 m1) (q:Qry) (hv:vQ q=true) (he:yi q=0) (v:List U) (hl:v.length≤1000) (H:Hp) (R:AV → Hp → Prop) (h:R (.tup [.p (.sl false 1 (pl i64 (zue q v).1)),.p (i64 (zue q v).2)]) H):ACall Tryz.prog G 17 [.p (qry q),.p (.sl false 1 (pl zl v))] H R:=by
 refine ACall.of_run (raw:=[]) Tryz.func17 rfl Tryz.ntmps17 (by simp) fun hbel => ?_
 have hk7:1≤q.kind∧q.kind≤7:=by
  have hq:=hv;simp only [vQ,Bool.and_eq_true,decide_eq_true_eq] at hq;exact hq.1
 unfold zue at h;refine .qt rfl ?_;simp (disch:=first|exact za|fail) only [go_sem,seval];refine .qt rfl ?_;simp (disch:=first|exact za|fail) only [go_sem,seval];refine CallK.ex (zgL g q (by unfold okI;omega) _) ?_
 rintro _ _ ⟨⟨x,rfl⟩,rfl⟩
 rw [he];simp (disch:=first|exact za|fail) only [go_sem,seval]
 rcases Classical.em ((v.length:Int)=(zeL q.kind).s) with e | e
 · rw [if_pos e] at h;refine .qt rfl ?_;simp (disch:=first|exact za|fail) only [go_sem,seval];refine CallK.of (fun R h=>zgK q hk7 _ R h) ?_;simp (disch:=first|exact za|fail) only [go_sem,seval,e];refine .qF rfl ?_;refine .skip ?_;refine .qt rfl ?_;simp (disch:=first|exact za|fail) only [go_sem,seval];rw [←zuf];refine .qt rfl ?_;simp (disch:=first|exact za|fail) only [go_sem,seval];refine .q ?_;refine .loopH [8,28,29] (fun i=>[(30,.p (i64 i))]) (fun i=>((H.new (.cells [.p (i64 q.kind),.p (i64 q.col),.p (i64 q.k),.p (.sl false 1 (pl yp q.fl))])).new (.cells [.p x])).new (.cells (cl i64 (zhs v i)))) (fun i => ∀ j,j < i → zpo (nth v j)=false) (0) (v.length) (by omega) ?_ (by first | rfl | (simp (disch:=first|exact za|fail) only [go_sem,seval]<;>rfl)) ?_ ?_ ?_
   · simp (disch:=first|exact za|fail) only [go_sem,seval]<;>(repeat' (first | rfl | refine And.intro ?_ ?_))
   rotate_left 1
   intro env A hQ;simp (disch:=first|exact za|fail) only [go_sem,seval] at A
   rotate_left 1
   intro i env hi0 hi A hQ ihA;simp (disch:=first|exact za|fail) only [go_sem,seval] at A
   rotate_left 1
   · exact fun j hj=>absurd hj (by omega)
   · have ha:v.any zpo=false:=by
      rw [List.any_eq_false];intro y hy
      obtain⟨j,hj,rfl⟩:=List.getElem_of_mem hy
      have:=hQ j hj
      rw [zh hj] at this;rw [this];decide
     rw [ha] at h;rw [zyf];have hml:(v.map toI).length=v.length:=List.length_map ..
     have htk:((v.map toI).drop 0).take v.length=v.map toI:=by rw [List.drop_zero];exact List.take_of_length_le (by omega)
     refine .qt rfl ?_;simp (disch:=first|exact za|fail) only [go_sem,seval,A];refine .qF rfl ?_;refine .q ?_;refine .frzS 8 (by simp (disch:=first|exact za|fail) only [go_sem,seval,A,hml,htk];rfl) (by simp (disch:=first|exact za|fail) only [go_sem,seval,A,hml,htk]<;>rfl) (fun _=>rfl) (by first | exact za | fail) ?_;(try simp (disch:=first|exact za|fail) only [go_sem,seval,A,hml,htk]);refine .qt rfl ?_;simp (disch:=first|exact za|fail) only [go_sem,seval,A];refine .qr rfl Tryz.func17 (by rw [Tryz.results17]) (hx:=by simp (disch:=first|exact za|fail) only [go_sem,seval,A];rfl) ?_;simp (disch:=first|exact za|fail) only [go_sem,seval,A];exact h
   · have hlt:=zye (v:=v) (i:=i) (by omega);have hset:=zug hi;refine .qt rfl ?_;simp (disch:=first|exact za|fail) only [go_sem,seval,A];refine .qT rfl ?_;refine .qt rfl ?_;simp (disch:=first|exact za|fail) only [go_sem,seval,A];refine .qt rfl ?_;simp (disch:=first|exact za|fail) only [go_sem,seval,A]
     cases hb:zpo (nth v i) with
     | true =>
      have ha:v.any zpo=true:=List.any_eq_true.2 ⟨_,List.getElem_mem hi,by rw [←zh hi];exact hb⟩;rw [ha] at h;have hb':decide (4611686018427387904#64 < nth v i)=true:=hb;refine .q ?_;refine .ifT (by simp (disch:=first|exact za|fail) only [go_sem,seval,hb']) ?_;refine .qt rfl ?_;simp (disch:=first|exact za|fail) only [go_sem,seval,A];refine .qr rfl Tryz.func17 (by rw [Tryz.results17]) (hx:=by simp (disch:=first|exact za|fail) only [go_sem,seval,A];rfl) ?_;simp (disch:=first|exact za|fail) only [go_sem,seval,A];exact h
     | false =>
      have hb':decide (4611686018427387904#64 < nth v i)=false:=hb;have hcv:=zyd hb;refine .q ?_;refine .ifF (by simp (disch:=first|exact za|fail) only [go_sem,seval,hb']) ?_;refine .skip ?_;refine .qt rfl ?_;simp (disch:=first|exact za|fail) only [go_sem,seval,A,hcv,hlt];rw [hset];refine .qt rfl ?_;simp (disch:=first|exact za|fail) only [go_sem,seval,A]
      first | (refine ihA _ _ ?_ (fun j hj=>by by_cases e:j=i;(subst e;exact hb);exact hQ j (by omega)) ?_) | (refine .z rfl ?_;refine ihA _ _ ?_ (fun j hj=>by by_cases e:j=i;(subst e;exact hb);exact hQ j (by omega)) ?_) | (refine .z rfl ?_;refine .z rfl ?_;refine ihA _ _ ?_ (fun j hj=>by by_cases e:j=i;(subst e;exact hb);exact hQ j (by omega)) ?_) | (refine .z rfl ?_;refine .z rfl ?_;refine .z rfl ?_;refine ihA _ _ ?_ (fun j hj=>by by_cases e:j=i;(subst e;exact hb);exact hQ j (by omega)) ?_)
      · simp (disch:=first|exact za|fail) only [go_sem,seval,A]<;>(repeat' (first | rfl | refine And.intro ?_ ?_))
      · first | rfl | (simp (disch:=first|exact za|fail) only [go_sem,seval,A]<;>(try rfl))
 · rw [if_neg e] at h;refine .qt rfl ?_;simp (disch:=first|exact za|fail) only [go_sem,seval];refine CallK.of (fun R h=>zgK q hk7 _ R h) ?_;simp (disch:=first|exact za|fail) only [go_sem,seval,e];refine .qT rfl ?_;refine .qt rfl ?_;simp (disch:=first|exact za|fail) only [go_sem,seval];refine .qr rfl Tryz.func17 (by rw [Tryz.results17]) ?_;simp (disch:=first|exact za|fail) only [go_sem,seval];exact h
end walks
end Go.Proofs.YthaoifcebimkfaaGreatDoor

namespace Go.Proofs.YthaoifcebimkfaaGreatDoor
open Go Go.AL

def qC:Qry:=⟨1,0,0,[[]]⟩
def qT:Qry:=⟨2,3,0,[[]]⟩
def qH:Qry:=⟨1,0,0,[[⟨2,8,15⟩]]⟩
def qB:Qry:=⟨9,0,0,[[]]⟩
def qE:Qry:=⟨4,1,0,[[]]⟩
def zAm:Gate:=⟨4,4,1#64,18446744069414584320#64,0#64,0#64⟩
theorem cqC:yz qC=(⟨29,[[⟨4,4,0#64,1#64,0#64,0#64⟩,zAm]],1⟩,0):=by decide +kernel
theorem cqT:yz qT=(⟨29,[[⟨4,3,1#64,0#64,0#64,0#64⟩,zAm]],1⟩,0):=by decide +kernel
theorem cqB:yz qB=(⟨0,[],0⟩,1):=by decide +kernel
theorem cqE:yz qE=(⟨0,[],0⟩,140):=by decide +kernel
def cH:Circ:=(yz qH).1
theorem cqH:yz qH=(cH,0):=Prod.ext rfl (by decide +kernel)
theorem zDD:cH.sums=1:=by decide +kernel
theorem zDE:cH.layers.length=4:=by decide +kernel
theorem zDF:(nth cH.layers 3).length=7:=by decide +kernel
theorem zDc:nth (nth cH.layers 0) 0=⟨4,20,1#64,0#64,0#64,0#64⟩:=by decide +kernel
theorem zDd:nth (nth cH.layers 3) 0=⟨0,0,0#64,1#64,0#64,0#64⟩:=by decide +kernel
theorem zDe:0 < (nth cH.layers 0).length:=by decide +kernel
theorem zDG:((((nth cH.layers 0).length:Nat):Int) == 0)=false:=by decide +kernel
theorem sm7:zue qC [7#64]=([7],0):=by decide +kernel
theorem smB:zue qC [4611686018427387905#64]=([],141):=by decide +kernel
theorem smN:zue qC []=([],1):=by decide +kernel
def sSt:Strm:=⟨[⟨3,0,0,0⟩],[false]⟩
def cS:List (List U):=zAk sSt 1
theorem zDH:cS.length=29:=by decide +kernel
theorem zDI:nth cS 0=[3#64]:=by decide +kernel
theorem zDJ:nth cS 4=[1#64]:=by decide +kernel
theorem zDK:nth cS 5=[1#64]:=by decide +kernel
theorem zDL:nth cS 6=[1#64]:=by decide +kernel
theorem zDM:nth cS 7=[0#64]:=by decide +kernel
theorem zDN:okS 1 sSt:=⟨by decide,rfl,fun r hr=>by
 rw [show sSt.l=[⟨3,0,0,0⟩] from rfl,List.mem_singleton] at hr
 subst hr;decide⟩
end Go.Proofs.YthaoifcebimkfaaGreatDoor

namespace Go.Proofs.YthaoifcebimkfaaGreatDoor
open Go Go.AL

section walks
variable {G:Globs} {r1:Nat} {m1:List (Int × Int)}
theorem mkq {a b c:Int}:(zm [.p (i64 a),.p (i64 b),.p (i64 c),.p (.sl true 1 [.sl false 3 []])]).weak = .p (qry ⟨a,b,c,[ [] ]⟩):=rfl
theorem zl8 {a b c:Int} {x:Cnd}:(zm [.p (i64 a),.p (i64 b),.p (i64 c),.p (.sl true 1 [.sl false 3 [cnd x]])]).weak = .p (qry ⟨a,b,c,[ [x] ]⟩):=rfl
theorem ACall.nil1 {P:Program} {G:Globs} {f:FuncId} {x:AV} {l:List AV} {H:Hp} {S:AV → Hp → Prop} (sz:Nat) (h:ACall P G f (x :: .p (.sl false sz []) :: l) H S):ACall P G f (x :: (AV.p (.s (.slice none 0 0))).weak :: l) H S:=by
 intro σ w vs hr ha;refine h σ w vs hr ⟨by simpa using ha.1,fun i y v hy hv => ?_⟩
 rcases i with _ | _ | i
 · exact ha.2 0 y v (by simpa using hy) hv
 · simp only [List.getElem?_cons_succ,List.getElem?_cons_zero,Option.some.injEq] at hy;subst hy
   have:=ha.2 1 _ v rfl hv
   cases this with | p h=>cases h;exact .p (.nil false sz)
 · exact ha.2 (i+2) y v (by simpa using hy) hv
theorem zpp (g:GW G r1 m1) (H:Hp):ACall Tryz.prog G 17 [.p (qry qC),(AV.p (.s (.slice none 0 0))).weak] H (fun r H'=>r = .tup [.p (.sl false 1 []),.p (i64 1)]∧H'=H) :=
 ACall.nil1 1 (zdS g qC (by decide) (by decide) [] (by decide) H _ (by rw [smN];exact⟨rfl,rfl⟩))
theorem zDO:(zm [.p (.sl true 4 [rdg ⟨3,0,0,0⟩]),.p (.sl true 1 [bo false])]).weak = .p (stm sSt):=rfl
theorem zCn {x y:Gate}:(zm [.p (i64 29),.p (.sl true 1 [.sl false 6 [zG x,zG y] ]),.p (i64 1)]).weak = .p (zbK ⟨29,[ [x,y] ],1⟩):=rfl
theorem zqm {x y:Gate} (hx:okG x) (hy:okG y) : ∀ z∈(⟨29,[ [x,y] ],1⟩:Circ).layers,z.length≤1000000 ∧ ∀ g∈z,okG g:=by
 intro z hz;rw [List.mem_singleton] at hz;subst hz
 refine⟨by simp,fun g hg => ?_⟩
 rcases List.mem_cons.1 hg with rfl | hg
 · exact hx
 · rw [List.mem_singleton] at hg;subst hg;exact hy
theorem zbd {l r:Int} {c a b d:U} (hl:0≤l∧l≤100) (hr:0≤r∧r≤100):okG ⟨l,r,c,a,b,d⟩:=by unfold okG;simp only;omega
theorem zic {x:Gate} (h:okG x):zE Tryz.prog .eql 72 (.p (zG x)) (.p (zG x))=some (.p (bo true)):=by
 have:=(zpY h h).1
 rwa [decide_eq_true rfl] at this
theorem zl9 (H:Hp) (R:AV → Hp → Prop) (h:R (.p (zl 18446744069414584320#64)) H):ACall Tryz.prog G 32 [.p (zl 1#64)] H R:=by
 refine ACall.of_run (raw:=[]) Tryz.func32 rfl Tryz.ntmps32 (by simp) fun hbel => ?_
 refine .qt rfl ?_;simp (disch:=first|exact za|fail) only [go_sem,seval];refine .qt rfl ?_;simp (disch:=first|exact za|fail) only [go_sem,seval];refine .qF rfl ?_;refine .skip ?_;refine .qt rfl ?_;simp (disch:=first|exact za|fail) only [go_sem,seval];refine .qr rfl Tryz.func32 (by rw [Tryz.results32]) ?_;simp (disch:=first|exact za|fail) only [go_sem,seval];exact h
set_option maxHeartbeats 64000000 in
set_option maxRecDepth 20000 in
theorem zma (g:GW G r1 m1) (H:Hp) (R:AV → Hp → Prop) (h:R (.p (bo true)) H):ACall Tryz.prog G 8 [] H R:=by
 refine ACall.of_run (raw:=[]) Tryz.func8 rfl Tryz.ntmps8 (by simp) fun hbel => ?_
 refine .qt rfl ?_;simp (disch:=first|exact za|fail) only [go_sem,seval];refine .qt rfl ?_;simp (disch:=first|exact za|fail) only [go_sem,seval];refine .qt rfl ?_;simp (disch:=first|exact za|fail) only [go_sem,seval];refine CallK.of (fun R h=>zl9 _ R h) ?_;simp (disch:=first|exact za|fail) only [go_sem,seval];refine .qt rfl ?_;simp (disch:=first|exact za|fail) only [go_sem,seval];refine .qt rfl ?_;simp (disch:=first|exact za|fail) only [go_sem,seval,mkq,zl8];refine CallK.ex (zat g qC (by decide) _) ?_
 rintro _ _ ⟨rfl,rfl⟩
 rw [cqC];simp (disch:=first|exact za|fail) only [go_sem,seval];refine .qt rfl ?_;simp (disch:=first|exact za|fail) only [go_sem,seval,mkq,zl8];refine CallK.ex (zat g qT (by decide) _) ?_
 rintro _ _ ⟨rfl,rfl⟩
 rw [cqT];simp (disch:=first|exact za|fail) only [go_sem,seval];refine .qt rfl ?_;simp (disch:=first|exact za|fail) only [go_sem,seval,mkq,zl8];refine CallK.ex (zat g qH (by decide) _) ?_
 rintro _ _ ⟨rfl,rfl⟩
 rw [cqH];simp (disch:=first|exact za|fail) only [go_sem,seval];refine .qt rfl ?_;simp (disch:=first|exact za|fail) only [go_sem,seval,mkq,zl8];refine CallK.ex (zat g qB (by decide) _) ?_
 rintro _ _ ⟨rfl,rfl⟩
 rw [cqB];simp (disch:=first|exact za|fail) only [go_sem,seval];refine .qt rfl ?_;simp (disch:=first|exact za|fail) only [go_sem,seval,mkq,zl8];refine CallK.ex (zat g qE (by decide) _) ?_
 rintro _ _ ⟨rfl,rfl⟩
 rw [cqE];simp (disch:=first|exact za|fail) only [go_sem,seval]
 have hw1 : ∀ x:U,AV.p (PV.sl false 1 [zl x]) = .p (.sl false 1 (pl zl [x])):=fun _=>rfl
 have hw0:AV.p (PV.sl false 1 []) = .p (.sl false 1 (pl zl [])):=rfl;refine .qt rfl ?_;simp (disch:=first|exact za|fail) only [go_sem,seval,mkq,zl8];refine CallK.of (fun R h=>zdS g qC (by decide) (by decide) [7#64] (by decide) _ R h) ?_;simp (disch:=first|exact za|fail) only [go_sem,seval,sm7];refine .qt rfl ?_;simp (disch:=first|exact za|fail) only [go_sem,seval,mkq,zl8];refine CallK.of (fun R h=>zdS g qC (by decide) (by decide) [4611686018427387905#64] (by decide) _ R h) ?_;simp (disch:=first|exact za|fail) only [go_sem,seval,smB];refine .qt rfl ?_;simp (disch:=first|exact za|fail) only [go_sem,seval,mkq,zl8];refine CallK.ex (zpp g _) ?_
 rintro _ _ ⟨rfl,rfl⟩
 simp (disch:=first|exact za|fail) only [go_sem,seval];refine .qt rfl ?_;simp (disch:=first|exact za|fail) only [go_sem,seval,zDO];refine CallK.of (fun R h=>zhr sSt 1 zDN 0 1 (by decide) rfl (by decide) _ R h) ?_;simp (disch:=first|exact za|fail) only [go_sem,seval];have hcS:zAk sSt 1=cS:=rfl;rw [hcS];have f0:=zDe;have f1:=zDE;have f2:=zDF;have f3:=zDH;have f4:=zDG;refine .qt rfl ?_;simp (disch:=first|exact za|fail) only [go_sem,seval,yb,f1,f2,f3,f4];refine .qF rfl ?_;refine .skip ?_;have f5:=zDc;have f6:=zDd;have f7:=zDD;have c0:=zDI;have c4:=zDJ;have c5:=zDK;have c6:=zDL;have c7:=zDM;have g1:=zic (x:=⟨4,20,1#64,0#64,0#64,0#64⟩) (zbd (by omega) (by omega));have g2:=zic (x:=⟨0,0,0#64,1#64,0#64,0#64⟩) (zbd (by omega) (by omega));refine .qt rfl ?_;simp (disch:=first|exact za|fail) only [go_sem,seval,List.append_eq,yb,zCn];refine CallK.of (fun R h=>zgQ ⟨29,[ [⟨4,4,0#64,1#64,0#64,0#64⟩,zAm] ],1⟩ (by decide) (zqm (zbd (by omega) (by omega)) (zbd (by omega) (by omega))) _ R h) ?_;simp (disch:=first|exact za|fail) only [go_sem,seval,List.append_eq,yb,zCn];refine CallK.of (fun R h=>zgQ ⟨29,[ [⟨4,3,1#64,0#64,0#64,0#64⟩,zAm] ],1⟩ (by decide) (zqm (zbd (by omega) (by omega)) (zbd (by omega) (by omega))) _ R h) ?_;simp (disch:=first|exact za|fail) only [go_sem,seval,List.append_eq,yb,zfu,zCn,f1,f2,f3,f4,f5,f6,f7,c0,c4,c5,c6,c7,g1,g2];have h7:AV.p (PV.sl false 1 [i64 7]) = .p (.sl false 1 (pl i64 [7])):=rfl;refine CallK.of (fun R h=>zpe [7] (by decide) _ R h) ?_;simp (disch:=first|exact za|fail) only [go_sem,seval,List.append_eq,yb,zfu,f1,f2,f3,f4,f5,f6,f7,c0,c4,c5,c6,c7,g1,g2]
 have b3:(nth [3#64] 0 == 3#64)=true:=by decide
 have b1:(nth [1#64] 0 == 1#64)=true:=by decide
 have b0:(nth [0#64] 0 == 0#64)=true:=by decide
 refine CallK.of (fun R h=>zl7 _ R h) ?_;simp (disch:=first|exact za|fail) only [go_sem,seval,List.append_eq,yb,zfu,f1,f2,f3,f4,f5,f6,f7,c0,c4,c5,c6,c7,g1,g2,b0,b1,b3];refine .qr rfl Tryz.func8 (by rw [Tryz.results8]) ?_;simp (disch:=first|exact za|fail) only [go_sem,seval];exact h
end walks
end Go.Proofs.YthaoifcebimkfaaGreatDoor

namespace Go.Proofs.YthaoifcebimkfaaGreatDoor
open Go Go.AL

theorem zgU {s:List Nd} (hw:Wf s) (hC:SmC s) {o:List Nat} (ho : ∀ x∈o,x < 29+s.length) : ∀ i,i≤o.length → LOk s [] (depth s o) (yI s (depth s o) o ⟨[],List.replicate (depth s o) []⟩ i).2
 | 0,_=>LOk.none s _
 | i+1,hi=>by
  have hm:nth o i∈o:=by rw [zh (by omega)];exact List.getElem_mem _
  exact (zcp hw hC.fv zaZ _ _ _ (zgU hw hC ho i (by omega)) (Nat.le_refl _) (ho _ hm) (zbx hm)).1
theorem zmb {a b:Int} (h:a≤b) {g:Gate} (hg:opG a g):opG b g:=⟨hg.1,by have:=hg.2.1;omega,hg.2.2.1,by have:=hg.2.2.2;omega⟩
theorem zqn {s:List Nd} {d:Nat} {st:LS} (h:Cov s d st) (k:Nat):za5 st.ls k≤29+s.length:=by
 unfold za5
 split
 · omega
 · exact h.le _
theorem zmc {s:List Nd} (hw:Wf s) (hC:SmC s) {o:List Nat} (ho : ∀ x∈o,x < 29+s.length) (hd:0 < depth s o) :
 ∀ i,i≤o.length → ∀ g∈(yI s (depth s o) o ⟨[],List.replicate (depth s o) []⟩ i).1,opG (29+s.length:Nat) g
 | 0,_,g,hg=>by simp [yI] at hg
 | i+1,hi,g,hg=>by
  have hm:nth o i∈o:=by rw [zh (by omega)];exact List.getElem_mem _
  have h0:=zgU hw hC ho i (by omega)
  obtain⟨w1,w2,w3,w4,w5⟩:=zcp hw hC.fv zaZ _ _ _ h0 (Nat.le_refl _) (ho _ hm) (zbx hm)
  have hcov:=(zb0 hw (depth s o) (nth o i) _ (zb2 hw ho i (by omega)) (Nat.le_refl _) (ho _ hm)).1;simp only [yI,List.mem_append,List.mem_singleton] at hg
  rcases hg with hg | rfl
  · exact zmc hw hC ho hd i (by omega) g hg
  · rw [za5,if_neg (by omega)] at w3;refine zmb ?_ (w1.op (depth s o - 1) _ w3);exact Int.ofNat_le.2 (zqn hcov _)
theorem zyg {s:List Nd} (hw:Wf s) (hC:SmC s) {o:List Nat} (ho : ∀ x∈o,x < 29+s.length) (hd:0 < depth s o) : ∀ x∈zbn s o,∀ g∈x,opG (29+s.length:Nat) g:=by
 intro x hx g hg;unfold zbn at hx;dsimp only at hx
 rcases List.mem_or_eq_of_mem_set hx with e | e
 · obtain⟨k,hk,rfl⟩:=List.getElem_of_mem e
   obtain⟨j,hj,rfl⟩:=List.getElem_of_mem hg
   have hc:=zb2 (d:=depth s o) hw ho o.length (Nat.le_refl _);have hop:=(zgU hw hC ho o.length (Nat.le_refl _)).op k j (by rw [zh hk];exact hj);rw [zh hk,zh hj] at hop;exact zmb (Int.ofNat_le.2 (zqn hc _)) hop
 · rw [e] at hg;exact zmc hw hC ho hd o.length (Nat.le_refl _) g hg
theorem zid {q:Qry} (hW:Wf (yt q).2.2) (hv:vQ q=true):0 < depth (yt q).2.2 ((yt q).1++(yt q).2.1):=by
 have p1:=(zfB hv).1;have hm:(chk (zB q []).2 4).1∈(yt q).1++(yt q).2.1:=List.mem_append_right _ (zeN (q:=q) (s:=(zB q []).2) 4)
 have h29:29≤(chk (zB q []).2 4).1:=by unfold chk;rw [zaq];omega
 have h0:0 < lev (yt q).2.2 (chk (zB q []).2 4).1:=by
  refine Nat.pos_of_ne_zero fun h0 => ?_
  have:=zel hW (p1 _ hm) h0
  omega
 have:=zbx (s:=(yt q).2.2) hm
 omega
theorem zmd {q:Qry} (he:yi q=0):vQ q=true:=by
 unfold yi at he;split at he
 · assumption
 · cases he
theorem zyh {q:Qry} (hW:yi q=0 → Wf (yt q).2.2):(yz q).1.layers.length≤1000000 ∧ ∀ x∈(yz q).1.layers,x.length≤1000000 ∧ ∀ g∈x,okG g:=by
 unfold yz;by_cases he:yi q=0
 · rw [if_pos he];have hv:=zmd he;have hw:=hW he
   obtain⟨p1,p2,p3,p4,p5⟩:=zfB hv
   by_cases hb:zgr (yW q)=true
   · rw [if_pos hb];exact⟨Nat.zero_le _,fun x hx=>by cases hx⟩
   · rw [if_neg hb];have hd:=zid hw hv
     have hdl:depth (yt q).2.2 ((yt q).1++(yt q).2.1)≤1000:=zc6 fun x hx=>by have:=p1 x hx;have:=zdO hw x this;omega
     refine⟨?_,fun x hx=>⟨?_,fun g hg => ?_⟩⟩
     · show (yW q).length≤_
       unfold yW;rw [zh8 hw p1];omega
     · have:=zlV hw p1 (m:=1000) (by omega) (by omega) x hx
       omega
     · obtain⟨a1,a2,a3,a4⟩:=zyg hw (zx5 q) p1 hd x hx g hg
       unfold okG;omega
 · rw [if_neg he];exact⟨Nat.zero_le _,fun x hx=>by cases hx⟩
end Go.Proofs.YthaoifcebimkfaaGreatDoor

namespace Go.Proofs.YthaoifcebimkfaaGreatDoor
open Go Go.AL

section walks
variable {G:Globs} {r1:Nat} {m1:List (Int × Int)}
theorem zpq (g:GW G r1 m1) (q:Qry) (hk:okI q.kind) (H:Hp):ACall Tryz.prog G 10 [.p (qry q)] H (fun r H'=>(r = .tup [.p (zbK (yz q).1),.p (i64 (yz q).2)]∧((yz q).1.layers.length≤1000000 ∧ ∀ x∈(yz q).1.layers,x.length≤1000000 ∧ ∀ g∈x,okG g))∧H'=H) :=
 (zdt g q hk H).mono fun r H' h=>⟨⟨h.1.1,zyh h.1.2⟩,h.2⟩
theorem zme (q:Qry) (hl:q.fl.length≤9223372036854775807) (H:Hp):ACall Tryz.prog G 13 [.p (qry q)] H (fun r H'=>(∃ p,vQ p=true∧yi p=0∧r = .p (qry p))∧H'=H):=zl2 q hl H _ fun p h1 h2=>⟨⟨p,h1,h2,rfl⟩,rfl⟩
end walks
end Go.Proofs.YthaoifcebimkfaaGreatDoor
