/-
  Sessions: a play of two sides.
-/
import Derived.Test.YtmoecjgehdkhkaaDoorPkS3
import Derived.WideKeyElems2
import Derived.LaidHandle
import Derived.Test.YtmoecjgehdkhkaaDoorCards
import Derived.Test.YtmoecjgehdkhkaaDoorTie
import Derived.LaidMore
import Derived.Deep.DeepWitnessRowRef
set_option linter.unusedSimpArgs false
set_option linter.unusedVariables false
namespace Go.Proofs.YtmoecjgehdkhkaaDoor
open Go Go.AL

theorem zgF {C:Cx} {ops:Array Oper} {o:Oper} {rest:List Oper} {k:List Item} {env:Env} {H H':Hp} {R:AV → Hp → Prop} {f:FuncId} {xs xs':List AV} {r:AV} (hg:o.guard=none) (hs:zo C.P C.G o.op o.type env H = .call f xs) (hargs:yg C.raw f xs=xs') (hd:zQ C.nt o.dst=true)
 (hc : ∀ R:AV → Hp → Prop,R r H' → ACall C.P C.G f xs' H R) (h:AOps C ops rest k (env.put o.dst r) H' R):AOps C ops (o :: rest) k env H R :=
 .of_op true (by rw [hg];rfl) fun σ w a m hpre K Q hK=>aOp1.wp (K:=fun y H2=>y=r∧H2=H') (by unfold aOp1;rw [hs];simp only [hargs,sOp];exact ⟨hd,hc _ ⟨rfl,rfl⟩⟩) hpre.rel hpre.fr fun y v H2 σ' w' ⟨e1,e2⟩ q1 q2 q3 q4=>by
  subst e1 e2;exact hK _ v _ σ' w' h q1 q2 q3 q4
structure Good (i:Nat) (s:Ses):Prop where
 id:okI s.id
 due:s.due=100
 step:0≤s.step∧s.step≤i
 bytes:0≤s.bytes∧s.bytes≤3000*i
 rounds:0≤s.rounds∧s.rounds≤i
 words:0≤s.words∧s.words≤200*i
 lstep:0≤s.last.step
 last:s.last.Ok
theorem Good.ok {i:Nat} {s:Ses} (h:Good i s) (hi:i≤1000):s.Ok:=by
 obtain ⟨h1,_,h3,h4,h5,h6,h7,_⟩:=h
 exact ⟨h1,by omega,h7,by omega,by omega,by omega⟩
theorem Good.cmp {i:Nat} {s:Ses} (h:Good i s) (hi:i≤1000):s.Cmp:=by
 obtain ⟨_,_,_,h4,h5,h6,_,h8⟩:=h
 exact ⟨h8,⟨by omega,by omega⟩,⟨by omega,by omega⟩,⟨by omega,by omega⟩⟩
theorem Good.mono {i j:Nat} {s:Ses} (h:Good i s) (hi:i≤j):Good j s:=by
 obtain ⟨h1,h2,h3,h4,h5,h6,h7,h8⟩:=h
 exact ⟨h1,h2,by omega,by omega,by omega,by omega,h7,h8⟩
theorem Good.new:Good 0 (zdM 5 100):=⟨⟨by decide,by decide⟩,rfl,⟨by decide,by decide⟩,⟨by decide,by decide⟩,⟨by decide,by decide⟩,⟨by decide,by decide⟩,by decide,zAG⟩
theorem Good.add {i:Nat} {s:Ses} (h:Good i s) {m:Msg} (hv:valid m=true) {b:By} (hb:b.length≤3000):Good (i+1) (zdO s m b):=by
 obtain ⟨h1,h2,h3,h4,h5,h6,h7,h8⟩:=h
 obtain ⟨_,v2,v3⟩:=zc2 hv
 exact ⟨h1,h2,by show 0≤s.step+1∧s.step+1≤_;omega,by show 0≤s.bytes+(b.length:Int)∧s.bytes+(b.length:Int)≤_;omega,by show 0≤s.rounds+1∧s.rounds+1≤_;omega,by show 0≤s.words+(m.sums.length:Int)+2*(m.values.length:Int)∧s.words+(m.sums.length:Int)+2*(m.values.length:Int)≤_;omega,h7,h8⟩
theorem Good.send {i:Nat} {s:Ses} (h:Good i s) (hi:i≤1000) {m:Msg} (hm:m.Ok):Good (i+1) (send s m).1:=by
 unfold Go.Proofs.YtmoecjgehdkhkaaDoor.send
 split
 · exact h.mono (by omega)
 · split
   · rename_i hv
     have h1:=h.add hv (b:=enc (zd5 s m)) zpo
     obtain ⟨h1,h2,h3,h4,h5,h6,h7,h8⟩:=h1
     have hst:=h.step
     exact ⟨h1,h2,h3,h4,h5,h6,hst.1,⟨hm.kind,h.id,⟨by show _≤s.step;omega,by show s.step≤_;omega⟩,hm.text,hm.sums,hm.values⟩⟩
   · exact h.mono (by omega)
theorem zA7 {s:Ses} {m:Msg}:(send s m).2.1.length≤3000:=by
 unfold send
 split
 · simp
 · split
   · exact zpo
   · simp
theorem Good.recv {i:Nat} {s:Ses} (h:Good i s) {b:By} (hb:b.length≤3000) (now:Int):Good (i+1) (recv s b now).1:=by
 unfold Go.Proofs.YtmoecjgehdkhkaaDoor.recv
 split
 · exact h.mono (by omega)
 · split
   · obtain ⟨h1,h2,h3,h4,h5,h6,h7,h8⟩:=h.mono (show i≤i+1 by omega)
     exact ⟨h1,h2,h3,h4,h5,h6,h7,h8⟩
   · split
     · exact h.mono (by omega)
     · rename_i h0
       have hc:(dec b).2=0:=by
        have h0:zc8 s b=0:=by simpa using h0
        unfold zc8 rC at h0
        split at h0
        · rename_i hc;rw [h0] at hc;simp at hc
        · rename_i hc;simpa using hc
       exact h.add (ztX hc) hb
def rw2 (p:Nat → Ses):List AV:=yC (p 0)++yC (p 1)
def upd (p:Nat → Ses) (k:Nat) (x:Ses):Nat → Ses:=fun j=>if j=k then x else p j
section rw
variable {p:Nat → Ses} {k:Nat}
theorem zqC:(rw2 p).length=156:=by simp [rw2,yJ]
theorem zl8 (hk:k < 2):((rw2 p).drop (k*78)).take 78=yC (p k):=by
 have:k=0 ∨ k=1:=by omega
 rcases this with rfl | rfl
 · rw [Nat.zero_mul,List.drop_zero,rw2,List.take_left' yJ]
 · rw [Nat.one_mul,rw2,List.drop_left' yJ,zgk]
theorem zqD (hk:k < 2) {j:Nat} (hj:j < 78):(rw2 p)[k*78+j]? = (yC (p k))[j]? := by
 rw [←zl8 hk,List.getElem?_take,if_pos hj,List.getElem?_drop]
theorem zA8 (hk:k < 2):(rw2 p)[k*78+1]? = some (.p (i64 (p k).step)):=(zqD hk (by omega)).trans zPy
theorem zt1 (hk:k < 2):(rw2 p)[k*78+2]? = some (.p (i64 (p k).state)):=(zqD hk (by omega)).trans zPz
theorem zJr (hk:k < 2) {x:Ses}:setAt (rw2 p) (k*78) (yC x)=rw2 (upd p k x):=by
 rw [yR _ _ _ (by rw [zqC,yJ];omega)]
 have:k=0 ∨ k=1:=by omega
 rcases this with rfl | rfl
 · rw [Nat.zero_mul,List.take_zero,yJ,rw2,List.drop_left' yJ];simp [rw2,upd]
 · rw [Nat.one_mul,yJ,rw2,List.take_left' yJ,List.drop_of_length_le (by simp [yJ])];simp [rw2,upd]
theorem zcV {i j:Nat} {x:Ses} (h : ∀ k,k < 2 → Good i (p k)) (hj:i≤j) (hx:Good j x) : ∀ l,l < 2 → Good j (upd p k x l):=fun l hl=>by
 unfold upd;split
 · exact hx
 · exact (h l hl).mono hj
end rw
def pB (H:Hp) (p:Nat → Ses) (v:Nat):Hp:=(((H.new (.cells (nC 0 0))).new (.cells (nC 0 0))).new (.cells (rw2 p))).new (.tail v)
def qB (H:Hp) (T:List AB):Nat:=H.n+4+T.length
def pQ (H:Hp) (p:Nat → Ses) (v:Nat) (T L:List AB):Hp:=app (pB H p v) (T++L)
section pq
variable {H:Hp} {p p':Nat → Ses} {v v':Nat} {T L:List AB} {a b c d x:AB}
theorem zA9:(pB H p v).n=H.n+4:=by simp [pB,Hp.n_new]
theorem zJs:(pQ H p v T L).n=H.n+4+T.length+L.length:=by rw [pQ,app_n',zA9,List.length_append];omega
theorem zpu:(pQ H p v T L).new x=pQ H p v T (L++[x]):=by rw [pQ,zbg,List.append_assoc];rfl
theorem zjg {i:Nat} {y:AB} (h:(pB H p v).f i=some y):(pQ H p v T L).f i=some y:=app_f' h
theorem zQm:(pQ H p v T L).f H.n=some (.cells (nC 0 0)):=zjg (by simp (disch:=first|exact zb|fail) only [pB,go_sem,seval])
theorem zQn:(pQ H p v T L).f (H.n+1)=some (.cells (nC 0 0)):=zjg (by simp (disch:=first|exact zb|fail) only [pB,go_sem,seval])
theorem zJ7:(pQ H p v T L).f (H.n+2)=some (.cells (rw2 p)):=zjg (by simp (disch:=first|exact zb|fail) only [pB,go_sem,seval])
theorem zQo:(pQ H p v T L).f (H.n+3)=some (.tail v):=zjg (by simp (disch:=first|exact zb|fail) only [pB,go_sem,seval])
theorem zJt:(pQ H p v T L).set (H.n+2) (.cells (rw2 p'))=pQ H p' v T L:=by
 rw [pQ,zbU (by rw [zA9];omega),pQ];congr 1;simp (disch:=first|exact zb|fail) only [pB,go_sem,seval]
theorem zJu:(pQ H p v T L).set (H.n+3) (.tail v')=pQ H p v' T L:=by
 rw [pQ,zbU (by rw [zA9];omega),pQ];congr 1;simp (disch:=first|exact zb|fail) only [pB,go_sem,seval]
theorem zqE {j:Nat}:(pQ H p v T L).f ((qB H T)+j)=L[j]? := by
 rw [qB,show H.n+4+T.length+j=(pB H p v).n+(T.length+j) by rw [zA9];omega,pQ,zbZ,List.getElem?_append_right (by omega),Nat.add_sub_cancel_left]
theorem zJ8:(pQ H p v T (a :: L)).f (qB H T)=some a:=(zqE (j:=0)).trans rfl
theorem zJ9:(pQ H p v T (a :: b :: L)).f ((qB H T)+1)=some b:=(zqE (j:=1)).trans rfl
theorem zKa:(pQ H p v T (a :: b :: c :: L)).f ((qB H T)+2)=some c:=(zqE (j:=2)).trans rfl
theorem zQp:(pQ H p v T (a :: b :: c :: d :: L)).f ((qB H T)+3)=some d:=(zqE (j:=3)).trans rfl
theorem zjh {j:Nat} (hj:j < L.length):(pQ H p v T L).set ((qB H T)+j) x=pQ H p v T (L.set j x):=by
 rw [qB,show H.n+4+T.length+j=(pB H p v).n+(T.length+j) by rw [zA9];omega,pQ,zco (by rw [List.length_append];omega),List.set_append_right _ _ (by omega),Nat.add_sub_cancel_left];rfl
theorem zQq:(pQ H p v T (a :: L)).set (qB H T) x=pQ H p v T (x :: L):=(zjh (j:=0) (by simp)).trans rfl
theorem zKb:(pQ H p v T (a :: b :: L)).set ((qB H T)+1) x=pQ H p v T (a :: x :: L):=(zjh (j:=1) (by simp)).trans rfl
theorem zKc:(pQ H p v T (a :: b :: c :: L)).set ((qB H T)+2) x=pQ H p v T (a :: b :: x :: L):=(zjh (j:=2) (by simp)).trans rfl
theorem zQr:(pQ H p v T (a :: b :: c :: d :: L)).set ((qB H T)+3) x=pQ H p v T (a :: b :: c :: x :: L):=(zjh (j:=3) (by simp)).trans rfl
theorem zQs:(pQ H p v T []).n=(qB H T):=by rw [zJs];rfl
theorem zKd:(pQ H p v T [a]).n=(qB H T)+1:=by rw [zJs];rfl
theorem zKe:(pQ H p v T [a,b]).n=(qB H T)+2:=by rw [zJs];rfl
theorem zQt:(pQ H p v T [a,b,c]).n=(qB H T)+3:=by rw [zJs];rfl
theorem zBa:pQ H p v T L=pQ H p v (T++L) []:=by simp [pQ]
end pq
def pR (H:Hp) (o o':List AV) (p:Nat → Ses) (v:Nat) (T:List AB):Hp:=app ((((H.new (.cells o)).new (.cells o')).new (.cells (rw2 p))).new (.tail v)) T
section pr
variable {H:Hp} {p:Nat → Ses} {v:Nat} {T:List AB} {o o' x:List AV}
theorem zQu:(pR H o o' p v T).f H.n=some (.cells o):=app_f' (by simp (disch:=first|exact zb|fail) only [go_sem,seval])
theorem zQv:(pR H o o' p v T).f (H.n+1)=some (.cells o'):=app_f' (by simp (disch:=first|exact zb|fail) only [go_sem,seval])
theorem zQw:(pR H o o' p v T).f (H.n+2)=some (.cells (rw2 p)):=app_f' (by simp (disch:=first|exact zb|fail) only [go_sem,seval])
theorem zJv:(pR H o o' p v T).set H.n (.cells x)=pR H x o' p v T:=by
 rw [pR,zbU (by simp only [Hp.n_new];omega),pR];congr 1;simp (disch:=first|exact zb|fail) only [go_sem,seval]
theorem zJw:(pR H o o' p v T).set (H.n+1) (.cells x)=pR H o x p v T:=by
 rw [pR,zbU (by simp only [Hp.n_new];omega),pR];congr 1;simp (disch:=first|exact zb|fail) only [go_sem,seval]
theorem zBb:(pR H o o' p v T).trunc H.n=H:=by
 rw [pR,zhw (by simp only [Hp.n_new];omega)];simp (disch:=first|exact zb|fail) only [go_sem,seval]
theorem zBc (h:Bel H.n H):Bel H.n (pR H o o' p v T):=by
 unfold pR
 refine zan ?_ (by simp only [n_new'];omega)
 exact zy (zy (zy (zy h (Nat.le_refl _)) (by simp only [n_new'];omega)) (by simp only [n_new'];omega)) (by simp only [n_new'];omega)
theorem zBd:pQ H p v T []=pR H (nC 0 0) (nC 0 0) p v T:=by simp [pQ,pR,pB]
end pr
attribute [go_sem] zQu zQv zQw zJv zJw zBb zgD
attribute [go_sem] zQs zKd zKe zQt zJ8 zJ9 zKa zQp zQq zKb zKc zQr zpu zQm zQn zJ7 zQo zJt zJu zl8 zA8 zt1 zJr zqC
theorem ze2 {P:Program} {a b:Nat} {ty ty':TypeId} {env:Env} {H:Hp}:zb7 P [.cell a ty,.cell b ty'] env H=zOk (zai P H ty (env a)) (zai P H ty' (env b)):=by
 simp only [zb7,zaN,zbs]
 cases zai P H ty (env a)<;>cases zai P H ty' (env b)<;>rfl
theorem yt {p:Nat → Ses}:(rw2 p).take 78=yC (p 0):=by rw [rw2,List.take_left' yJ]
theorem yu {p:Nat → Ses}:((rw2 p).drop 78).take 78=yC (p 1):=by rw [rw2,List.drop_left' yJ,zgk]
structure PlS where
 i:Nat
 p:Nat → Ses
 P:List By
 T:List AB
def pT (H:Hp) (p:Nat → Ses) (v:Nat) (T:List AB) (a:AB) (o o':Option AB):Hp:=pQ H p v T (a :: (o.toList++o'.toList))
section pt
variable {H:Hp} {p p':Nat → Ses} {v v':Nat} {T L:List AB} {a b c x:AB} {o o':Option AB}
theorem zQx:(pT H p v T a o o').f (H.n+2)=some (.cells (rw2 p)):=zJ7
theorem zRl:(pT H p v T a o o').f (qB H T)=some a:=zJ8
theorem zQy:(pT H p v T a none none).n=(qB H T)+1:=zKd
theorem zQz:(pT H p v T a (some b) none).n=(qB H T)+2:=zKe
theorem zJx:(pT H p v T a none none).new x=pT H p v T a (some x) none:=zpu
theorem zJy:(pT H p v T a (some b) none).new x=pT H p v T a (some b) (some x):=zpu
theorem zQA:(pT H p v T a (some b) o').f ((qB H T)+1)=some b:=zJ9
theorem zQB:(pT H p v T a (some b) (some c)).f ((qB H T)+2)=some c:=zKa
theorem zQC:(pT H p v T a (some b) o').set ((qB H T)+1) x=pT H p v T a (some x) o':=zKb
theorem zQD:(pT H p v T a (some b) (some c)).set ((qB H T)+2) x=pT H p v T a (some b) (some x):=zKc
theorem zOS:pQ H p v T [a]=pT H p v T a none none:=rfl
theorem zQE:pT H p v T a (some b) none=pQ H p v T [a,b]:=rfl
theorem zQF:pT H p v T a (some b) (some c)=pQ H p v T [a,b,c]:=rfl
end pt
attribute [go_sem] zQx zJx zJy zRl zQy zQz zQA zQB zQC zQD
def zAct:List AV:=AV.p (b8 0#8) :: AV.p (b8 0#8) :: AV.p (i64 0) :: AV.p (i64 0) :: AV.p (i64 0) :: AV.p (str ByteArray.empty) :: List.map AV.p (pl b8 (List.replicate 32 0#8)++[PV.sl true 1 [],PV.sl true 2 [],b8 0#8,b8 0#8])
theorem zJz:AV.p (b8 0#8) :: AV.p (b8 0#8) :: AV.p (i64 0) :: AV.p (i64 0) :: AV.p (i64 0) :: AV.p (str ByteArray.empty) :: List.map AV.p (pl b8 (List.replicate 32 0#8)++[PV.sl true 1 [],PV.sl true 2 [],b8 0#8,b8 0#8])=zAct:=rfl
theorem zl9:zAct.length=42:=rfl
theorem zBe {x:Act}:setAt zAct 0 (acl x)=acl x:=yM (by rw [zjf,zl9])
theorem zOT {d:Msg}:setAt mZ 0 (mcl d)=mcl d:=yM (by rw [yI];rfl)
theorem zOU:AV.p (i64 0) :: AV.p (i64 0) :: AV.p (i64 0) :: AV.p (str ByteArray.empty) :: List.map AV.p (pl b8 (List.replicate 32 0#8)++[PV.sl true 1 [],PV.sl true 2 []])=mZ:=by simp [mZ,mG,cl,pl,zaG]
theorem zOV:mZ.length=38:=rfl
attribute [go_sem] zJz zl9 zBe zOT zOU zOV zl
def PlI (H:Hp) (l:List Act) (i:Nat) (T:List AB) (env:Env) (H':Hp):Prop := ∃ (p:Nat → Ses) (P:List By) (v:Nat) (L:List AB),
 (env 0 = .p (.sl false 42 (pl act l))∧env 1 = .p (i64 40)∧env 4 = .ptr H.n 0∧env 5 = .ptr (H.n+1) 0∧env 6 = .ref (H.n+2) 0 2 78∧env 7 = .sl (H.n+3) v 1 (pl (sle 1 b8) P)∧env 8 = .p (i64 i)) ∧
 H'=pQ H p v T L∧v=P.length∧(∀ k,k < 2 → Good (i+1) (p k))∧P.length≤i+1 ∧ ∀ b∈P,b.length≤3000
structure PlQ (n:Nat) (s:PlS):Prop where
 i:s.i≤n
 p : ∀ k,k < 2 → Good s.i (s.p k)
 P:s.P.length≤s.i
 b : ∀ b∈s.P,b.length≤3000
section walks
variable {G:Globs} {r1 r2:Nat} {m1:List (Int × Rule)} {m2:List (Int × Int)}
set_option maxHeartbeats 2000000 in
set_option maxRecDepth 20000 in
theorem zt2 (g:GR G r1 r2 m1 m2) (l:List Act) (hl:l.length≤9223372036854775807) (hlm : ∀ i,i < l.length → (nth l i).m.text.length≤9223372036854775807∧(nth l i).m.sums.length≤9223372036854775807∧(nth l i).m.values.length≤9223372036854775807) (H:Hp) (R:AV → Hp → Prop)
 (h : ∀ a b,Good 40 a → Good 40 b → R (.tup [.p (yG a),.p (yG b)]) H):ACall Tryd.prog G 26 [.p (.sl false 42 (pl act l)),.p (i64 40)] H R:=by
 refine ACall.of_run (raw:=[]) Tryd.func26 rfl Tryd.ntmps26 (by simp) fun hbel => ?_
 (refine .q ?_);refine .text ?_;simp (disch:=first|exact zb|fail) only [go_sem,seval,-List.reduceReplicate,zl]
 (refine .q ?_);refine .region ?_
 refine zgF rfl (by simp (disch:=first|exact zb|fail) only [go_sem,seval,-List.reduceReplicate]<;>rfl) rfl rfl (fun R h=>zce 5 100 _ R h) ?_
 refine zgF rfl (by simp (disch:=first|exact zb|fail) only [go_sem,seval,-List.reduceReplicate]<;>rfl) rfl rfl (fun R h=>zce 5 100 _ R h) ?_
 refine .buildRow (sz:=78) (cs:=rw2 fun _=>zdM 5 100) (by simp (disch:=first|exact zb|fail) only [go_sem,seval,-List.reduceReplicate,zaq,zak]<;>rfl) (by rfl) ?_
 refine .run ?_
 simp (disch:=first|exact zb|fail) only [go_sem,seval,-List.reduceReplicate]
 (refine .q ?_);refine .own 7 (by simp (disch:=first|exact zb|fail) only [go_sem,seval,-List.reduceReplicate];rfl) ?_
 (refine .q ?_);refine .text ?_;simp (disch:=first|exact zb|fail) only [go_sem,seval,-List.reduceReplicate]
 (refine .q ?_);refine .loopK (S:=PlS) [0,1,4,5,6] (fun s=>[(7,.sl (H.n+3) s.P.length 1 (pl (sle 1 b8) s.P)),(8,.p (i64 (s.i:Nat)))]) (fun s=>pQ H s.p s.P.length s.T []) (fun s=>PlQ 40 s) (fun s=>l.length+40 - s.i) ((⟨0,fun _=>zdM 5 100,[],[]⟩:PlS)) ?_ (by first | rfl | (simp (disch:=first|exact zb|fail) only [go_sem,seval,-List.reduceReplicate]<;>rfl)) ?_ ?_
 · simp (disch:=first|exact zb|fail) only [go_sem,seval,-List.reduceReplicate]<;>(repeat' (first | rfl | refine And.intro ?_ ?_))
 rotate_left 1
 intro s env E hQ ihE;simp (disch:=first|exact zb|fail) only [go_sem,seval,-List.reduceReplicate] at E
 rotate_left 1
 · exact ⟨by decide,fun k hk=>Good.new,by decide,fun b hb=>by cases hb⟩
 · obtain ⟨i,p,P,T⟩:=s
   obtain ⟨hi,hp,hP,hb⟩:=hQ
   simp only at hi hp hP hb E
   by_cases c1:i < l.length
   · have d1:decide ((i:Int) < (l.length:Int))=true:=decide_eq_true (by omega)
     by_cases c2:i < 40
     · have d2:decide ((i:Int) < 40)=true:=decide_eq_true (by omega)
       (refine .q ?_);refine .text ?_;simp (disch:=first|exact zb|fail) only [go_sem,seval,-List.reduceReplicate,E,d1,d2]
       (refine .q ?_);refine .ifT (by simp (disch:=first|exact zb|fail) only [go_sem,seval,-List.reduceReplicate]) ?_
       (repeat refine .zs rfl ?_);refine .cut (PlI H l i T) (fun ih => ?_) ?_
       · skip
         (refine .q ?_);refine .text ?_;simp (disch:=first|exact zb|fail) only [go_sem,seval,-List.reduceReplicate,E]
         generalize hx:nth l i=x at *
         have hxm:=hlm i c1
         rw [hx] at hxm
         obtain ⟨hx1,hx2,hx3⟩:=hxm
         obtain ⟨k,hk⟩ : ∃ k,(x.who &&& 1#8).toNat=k:=⟨_,rfl⟩
         have hk2:k < 2:=by
          rw [←hk,BitVec.toNat_and]
          exact Nat.lt_of_le_of_lt Nat.and_le_right (by decide)
         have wk:=wrap_small (n:=k) (by omega)
         have h6:(6#8:BitVec 8)≠0#8:=by decide
         have hgk:=hp k hk2
         have hok:=hgk.ok (by omega)
         have hkl:(k:Int) < 2:=by omega
         have hlen : ∀ e:By,(P++[e]).length=P.length+1:=fun e=>by simp
         have hP2 : ∀ e:By,e.length≤3000 → ∀ b∈P++[e],b.length≤3000:=fun e he b hbm=>by
          rcases List.mem_append.1 hbm with q1 | q1
          · exact hb b q1
          · rw [List.mem_singleton.1 q1];exact he
         have hp1 : ∀ k,k < 2 → Good (i+1) (p k):=fun k hk=>(hp k hk).mono (by omega)
         have hko:=hgk.step
         obtain ⟨n,hn,hn2⟩ : ∃ n:Nat,(p k).step % 256=(n:Int)∧n≤255:=⟨((p k).step % 256).toNat,by omega,by omega⟩
         have hM:=zhR (m:=x.m) hn2
         have hmade : ∀ a o R,R (.p (msg (zaT x.m n))) (pT H p P.length T a o none) → ACall Tryd.prog G 8 [.p (msg x.m),.p (i64 n)] (pT H p P.length T a o none) R:=fun a o R h=>zgB x.m hx1 hx2 hx3 n hn2 _ R h
         have hsend : ∀ a o R,R (.tup [.p (yG (send (p k) (zaT x.m n)).1),.p (.sl false 1 (pl b8 (send (p k) (zaT x.m n)).2.1)),.p (i64 (send (p k) (zaT x.m n)).2.2)]) (pT H p P.length T a o none) → ACall Tryd.prog G 19 [.p (yG (p k)),.p (msg (zaT x.m n))] (pT H p P.length T a o none) R:=fun a o R h=>zat g (p k) hok _ hM _ R h
         have gS:=hgk.send (by omega) hM
         have gE:(send (p k) (zaT x.m n)).2.1.length≤3000:=zA7
         have hpk : ∀ a o o' R,R (.p (.sl false 1 (pl b8 (pkt P x)))) (pT H p P.length T a o o') → ACall Tryd.prog G 22 [.p (.sl false 1 (pl (sle 1 b8) P)),.p (act x)] (pT H p P.length T a o o') R:=fun a o o' R h=>zl6 P (by omega) (fun b hbm=>by have:=hb b hbm;omega) x _ R h
         have gP:(pkt P x).length≤3000:=zOK hb
         have hrc : ∀ a o o' R,R (.tup [.p (yG (recv (p k) (pkt P x) 1).1),.p (msg (recv (p k) (pkt P x) 1).2.1),.p (i64 (recv (p k) (pkt P x) 1).2.2)]) (pT H p P.length T a o o') → ACall Tryd.prog G 23 [.p (yG (p k)),.p (.sl false 1 (pl b8 (pkt P x))),.p (i64 1)] (pT H p P.length T a o o') R:=fun a o o' R h=>yE g (p k) hok _ (by omega) 1 _ R h
         have gR:=hgk.recv gP 1
         generalize send (p k) (zaT x.m n)=sd at *
         generalize zaT x.m n=M at *
         generalize recv (p k) (pkt P x) 1=rc at *
         generalize pkt P x=pb at *
         obtain ⟨S,e,c⟩:=sd
         obtain ⟨S3,M3,c3⟩:=rc
         simp only at gS gE gR hsend hrc
         (refine .q ?_);refine .text ?_;simp (disch:=first|exact zb|fail) only [go_sem,seval,-List.reduceReplicate,E,hk,wk]
         (refine .q ?_);refine .text ?_;simp (disch:=first|exact zb|fail) only [go_sem,seval,-List.reduceReplicate,E]
         (refine .q ?_);refine .text ?_;simp (disch:=first|exact zb|fail) only [go_sem,seval,-List.reduceReplicate]
         cases w0:x.what % 6#8 == 0#8 with
         | true =>
          (refine .q ?_);refine .ifT (by simp (disch:=first|exact zb|fail) only [go_sem,seval,-List.reduceReplicate,w0]) ?_
          (refine .q ?_);refine .text ?_;simp (disch:=first|exact zb|fail) only [go_sem,seval,-List.reduceReplicate,E]
          refine CallK.of (fun R h=>zcU g (p k) hgk.last _ R h) ?_;simp (disch:=first|exact zb|fail) only [go_sem,seval,-List.reduceReplicate,E]
          (refine .q ?_)
          refine ih _ _ ?_
          exact ⟨p,P++[enc (p k).last],P.length+1,[.cells (acl x)],(by simp (disch:=first|exact zb|fail) only [go_sem,seval,-List.reduceReplicate,E]<;>(repeat' (first | rfl | refine And.intro ?_ ?_))),rfl,by simp,hp1,(by rw [hlen];omega),(hP2 _ zpo)⟩
         | false =>
          (refine .q ?_);refine .ifF (by simp (disch:=first|exact zb|fail) only [go_sem,seval,-List.reduceReplicate,w0]) ?_
          (refine .q ?_);refine .text ?_;simp (disch:=first|exact zb|fail) only [go_sem,seval,-List.reduceReplicate]
          cases w1:x.what % 6#8 == 1#8 with
          | true =>
           (refine .q ?_);refine .ifT (by simp (disch:=first|exact zb|fail) only [go_sem,seval,-List.reduceReplicate,w1]) ?_
           (refine .q ?_);refine .cutE [0,1,4,5,6,7,8,9,10] [(86,.p (bo (((k:Int) == 0) || ((p k).state != 0))))] [] (fun ihW => ?_) (fun env W => ?_)
           rotate_left 1
           simp (disch:=first|exact zb|fail) only [go_sem,seval,-List.reduceReplicate,E] at W
           rotate_left 1
           · (refine .q ?_);refine .text ?_;simp (disch:=first|exact zb|fail) only [go_sem,seval,-List.reduceReplicate,E]
             cases b0:((k:Int) == 0) with
             | true =>
              rw [b0,Bool.true_or] at ihW
              simp (disch:=first|exact zb|fail) only [go_sem,seval,-List.reduceReplicate,b0,E]
              first | (refine ihW _ _ ?_ ?_) | (refine .z rfl ?_;refine ihW _ _ ?_ ?_) | (refine .z rfl ?_;refine .z rfl ?_;refine ihW _ _ ?_ ?_) | (refine .z rfl ?_;refine .z rfl ?_;refine .z rfl ?_;refine ihW _ _ ?_ ?_)
              · simp (disch:=first|exact zb|fail) only [go_sem,seval,-List.reduceReplicate,E]<;>(repeat' (first | rfl | refine And.intro ?_ ?_))
              · first | rfl | (simp (disch:=first|exact zb|fail) only [go_sem,seval,-List.reduceReplicate,E]<;>(try rfl))
             | false =>
              rw [b0,Bool.false_or] at ihW
              simp (disch:=first|exact zb|fail) only [go_sem,seval,-List.reduceReplicate,b0,E]
              first | (refine ihW _ _ ?_ ?_) | (refine .z rfl ?_;refine ihW _ _ ?_ ?_) | (refine .z rfl ?_;refine .z rfl ?_;refine ihW _ _ ?_ ?_) | (refine .z rfl ?_;refine .z rfl ?_;refine .z rfl ?_;refine ihW _ _ ?_ ?_)
              · simp (disch:=first|exact zb|fail) only [go_sem,seval,-List.reduceReplicate,E]<;>(repeat' (first | rfl | refine And.intro ?_ ?_))
              · first | rfl | (simp (disch:=first|exact zb|fail) only [go_sem,seval,-List.reduceReplicate,E]<;>(try rfl))
           rw [yp]
           cases b1:((k:Int) == 0) || ((p k).state != 0) with
           | false =>
            (refine .q ?_);refine .ifF (by simp (disch:=first|exact zb|fail) only [go_sem,seval,-List.reduceReplicate,W,b1]) ?_
            refine .skip ?_
            (refine .q ?_)
            refine ih _ _ ?_
            exact ⟨p,P,P.length,[.cells (acl x)],(by simp (disch:=first|exact zb|fail) only [go_sem,seval,-List.reduceReplicate,W,E]<;>(repeat' (first | rfl | refine And.intro ?_ ?_))),rfl,by simp,hp1,(by omega),hb⟩
           | true =>
            (refine .q ?_);refine .ifT (by simp (disch:=first|exact zb|fail) only [go_sem,seval,-List.reduceReplicate,W,b1]) ?_
            rw [zOS]
            (refine .q ?_)
            refine .openInv (fun L env' H'=>kF env' [(0,.p (.sl false 42 (pl act l))),(1,.p (i64 40)),(4,.ptr H.n 0),(5,.ptr (H.n+1) 0),(6,.ref (H.n+2) 0 2 78),(7,.sl (H.n+3) P.length 1 (pl (sle 1 b8) P)),(8,.p (i64 i)),(9,.ptr (qB H T) 0),(10,.p (i64 k))]∧kI L env' [(0,88,.ref (H.n+2) 0 2 78),(1,89,.p (i64 k)),(2,90,.ptr (H.n+2) (k*78)),(3,91,.p (yG (p k))),(4,92,.ptr (qB H T) 2),(5,93,.p (msg x.m)),(6,94,.ref (H.n+2) 0 2 78),(7,95,.p (i64 k)),(8,96,.ptr (H.n+2) (k*78)),(9,97,.ptr (H.n+2) (k*78+1)),(10,98,.p (i64 (p k).step)),(11,99,.p (i64 n)),(12,100,.p (msg M)),(13,101,.tup [.p (yG S),.p (.sl false 1 (pl b8 e)),.p (i64 c)]),(14,87,.tup [.p (yG S),.p (.sl false 1 (pl b8 e)),.p (i64 c)]),(15,102,.p (yG S)),(16,103,.p (.sl false 1 (pl b8 e))),(17,104,.p (i64 c)),(18,11,.ptr (qB H T+1) 0),(20,12,.p (.sl false 1 (pl b8 e))),(21,13,.p (i64 c))]∧(L 19=true → allT L [0,1,2,3,4,5,6,7,8,9,10,11,12,13,14,15,18])∧H'=(pT H p P.length T (.cells (acl x)) (if L 19 then some (.cells (yC S)) else if L 18 then some (.cells (nC 0 0)) else none) none)) follows (by kernel_rfl) ?_ ?_ ?_
            · exact ⟨(yQ (by simp (disch:=first|exact zb|fail) only [go_sem,seval,-List.reduceReplicate,W,E,ze,hn]) (yQ (by simp (disch:=first|exact zb|fail) only [go_sem,seval,-List.reduceReplicate,W,E,ze,hn]) (yQ (by simp (disch:=first|exact zb|fail) only [go_sem,seval,-List.reduceReplicate,W,E,ze,hn]) (yQ (by simp (disch:=first|exact zb|fail) only [go_sem,seval,-List.reduceReplicate,W,E,ze,hn]) (yQ (by simp (disch:=first|exact zb|fail) only [go_sem,seval,-List.reduceReplicate,W,E,ze,hn]) (yQ (by simp (disch:=first|exact zb|fail) only [go_sem,seval,-List.reduceReplicate,W,E,ze,hn]) (yQ (by simp (disch:=first|exact zb|fail) only [go_sem,seval,-List.reduceReplicate,W,E,ze,hn]) (yQ (by simp (disch:=first|exact zb|fail) only [go_sem,seval,-List.reduceReplicate,W,E,ze,hn]) (yQ (by simp (disch:=first|exact zb|fail) only [go_sem,seval,-List.reduceReplicate,W,E,ze,hn]) kF0))))))))),(fun _ _ h=>by cases h),(fun h=>by cases h),(by first | rfl | (simp only [Bool.false_eq_true,if_false];first | rfl | (simp (disch:=first|exact zb|fail) only [go_sem,seval,-List.reduceReplicate,W,E,ze,hn]<;>rfl)))⟩
            · intro i o L env' H' ho hL hall hI
              obtain ⟨KF,KG,m19,rfl⟩:=hI
              rcases i with _ | _ | _ | _ | _ | _ | _ | _ | _ | _ | _ | _ | _ | _ | _ | _ | _ | _ | _ | _ | _ | _ | i
              · cases ho
                have n19:=zu m19 hL
                have f4:=zU KF 4 rfl
                refine zf (.ref (H.n+2) 0 2 78) rfl rfl (by simp (disch:=first|exact zb|fail) only [go_sem,seval,-List.reduceReplicate,reduceIte,Bool.false_eq_true,if_false,if_true,f4,n19,hL,ze,hn]<;>rfl) rfl ?_
                exact ⟨(zH KF),(zK KG),(ka m19),(by rw [za (by decide),za (by decide)])⟩
              · cases ho
                have n19:=zu m19 hL
                have f8:=zU KF 8 rfl
                refine zf (.p (i64 k)) rfl rfl (by simp (disch:=first|exact zb|fail) only [go_sem,seval,-List.reduceReplicate,reduceIte,Bool.false_eq_true,if_false,if_true,f8,n19,hL,ze,hn]<;>rfl) rfl ?_
                exact ⟨(zH KF),(zK KG),(ka m19),(by rw [za (by decide),za (by decide)])⟩
              · cases ho
                have h0:=kL hall 0 rfl rfl
                have d0:=zw KG 0 rfl h0
                have h1:=kL hall 1 rfl rfl
                have d1:=zw KG 1 rfl h1
                have n19:=zu m19 hL
                refine zf (.ptr (H.n+2) (k*78)) rfl rfl (by simp (disch:=first|exact zb|fail) only [go_sem,seval,-List.reduceReplicate,reduceIte,Bool.false_eq_true,if_false,if_true,d0,d1,n19,hL,ze,hn]<;>rfl) rfl ?_
                exact ⟨(zH KF),(zK KG),(ka m19),(by rw [za (by decide),za (by decide)])⟩
              · cases ho
                have h2:=kL hall 0 rfl rfl
                have d2:=zw KG 2 rfl h2
                have n19:=zu m19 hL
                refine zf (.p (yG (p k))) rfl rfl (by simp (disch:=first|exact zb|fail) only [go_sem,seval,-List.reduceReplicate,reduceIte,Bool.false_eq_true,if_false,if_true,d2,n19,hL,ze,hn]<;>rfl) rfl ?_
                exact ⟨(zH KF),(zK KG),(ka m19),(by rw [za (by decide),za (by decide)])⟩
              · cases ho
                have n19:=zu m19 hL
                have f7:=zU KF 7 rfl
                refine zf (.ptr (qB H T) 2) rfl rfl (by simp (disch:=first|exact zb|fail) only [go_sem,seval,-List.reduceReplicate,reduceIte,Bool.false_eq_true,if_false,if_true,f7,n19,hL,ze,hn]<;>rfl) rfl ?_
                exact ⟨(zH KF),(zK KG),(ka m19),(by rw [za (by decide),za (by decide)])⟩
              · cases ho
                have h4:=kL hall 0 rfl rfl
                have d4:=zw KG 4 rfl h4
                have n19:=zu m19 hL
                refine zf (.p (msg x.m)) rfl rfl (by simp (disch:=first|exact zb|fail) only [go_sem,seval,-List.reduceReplicate,reduceIte,Bool.false_eq_true,if_false,if_true,d4,n19,hL,ze,hn]<;>rfl) rfl ?_
                exact ⟨(zH KF),(zK KG),(ka m19),(by rw [za (by decide),za (by decide)])⟩
              · cases ho
                have n19:=zu m19 hL
                have f4:=zU KF 4 rfl
                refine zf (.ref (H.n+2) 0 2 78) rfl rfl (by simp (disch:=first|exact zb|fail) only [go_sem,seval,-List.reduceReplicate,reduceIte,Bool.false_eq_true,if_false,if_true,f4,n19,hL,ze,hn]<;>rfl) rfl ?_
                exact ⟨(zH KF),(zK KG),(ka m19),(by rw [za (by decide),za (by decide)])⟩
              · cases ho
                have n19:=zu m19 hL
                have f8:=zU KF 8 rfl
                refine zf (.p (i64 k)) rfl rfl (by simp (disch:=first|exact zb|fail) only [go_sem,seval,-List.reduceReplicate,reduceIte,Bool.false_eq_true,if_false,if_true,f8,n19,hL,ze,hn]<;>rfl) rfl ?_
                exact ⟨(zH KF),(zK KG),(ka m19),(by rw [za (by decide),za (by decide)])⟩
              · cases ho
                have h6:=kL hall 0 rfl rfl
                have d6:=zw KG 6 rfl h6
                have h7:=kL hall 1 rfl rfl
                have d7:=zw KG 7 rfl h7
                have n19:=zu m19 hL
                refine zf (.ptr (H.n+2) (k*78)) rfl rfl (by simp (disch:=first|exact zb|fail) only [go_sem,seval,-List.reduceReplicate,reduceIte,Bool.false_eq_true,if_false,if_true,d6,d7,n19,hL,ze,hn]<;>rfl) rfl ?_
                exact ⟨(zH KF),(zK KG),(ka m19),(by rw [za (by decide),za (by decide)])⟩
              · cases ho
                have h8:=kL hall 0 rfl rfl
                have d8:=zw KG 8 rfl h8
                have n19:=zu m19 hL
                refine zf (.ptr (H.n+2) (k*78+1)) rfl rfl (by simp (disch:=first|exact zb|fail) only [go_sem,seval,-List.reduceReplicate,reduceIte,Bool.false_eq_true,if_false,if_true,d8,n19,hL,ze,hn]<;>rfl) rfl ?_
                exact ⟨(zH KF),(zK KG),(ka m19),(by rw [za (by decide),za (by decide)])⟩
              · cases ho
                have h9:=kL hall 0 rfl rfl
                have d9:=zw KG 9 rfl h9
                have n19:=zu m19 hL
                refine zf (.p (i64 (p k).step)) rfl rfl (by simp (disch:=first|exact zb|fail) only [go_sem,seval,-List.reduceReplicate,reduceIte,Bool.false_eq_true,if_false,if_true,d9,n19,hL,ze,hn]<;>rfl) rfl ?_
                exact ⟨(zH KF),(zK KG),(ka m19),(by rw [za (by decide),za (by decide)])⟩
              · cases ho
                have h10:=kL hall 0 rfl rfl
                have d10:=zw KG 10 rfl h10
                have n19:=zu m19 hL
                refine zf (.p (i64 n)) rfl rfl (by simp (disch:=first|exact zb|fail) only [go_sem,seval,-List.reduceReplicate,reduceIte,Bool.false_eq_true,if_false,if_true,d10,n19,hL,ze,hn]<;>rfl) rfl ?_
                exact ⟨(zH KF),(zK KG),(ka m19),(by rw [za (by decide),za (by decide)])⟩
              · cases ho
                have h5:=kL hall 0 rfl rfl
                have d5:=zw KG 5 rfl h5
                have h11:=kL hall 1 rfl rfl
                have d11:=zw KG 11 rfl h11
                have n19:=zu m19 hL
                (try simp only [n19,if_true,if_false,Bool.false_eq_true])
                refine yi rfl rfl (by simp (disch:=first|exact zb|fail) only [go_sem,seval,-List.reduceReplicate,reduceIte,Bool.false_eq_true,if_false,if_true,d5,d11,n19,hL,ze,hn]<;>rfl) rfl (by simp (disch:=first|exact zb|fail) only [go_sem,seval,-List.reduceReplicate,reduceIte,Bool.false_eq_true,if_false,if_true,d5,d11,n19,hL,ze,hn]<;>rfl) (fun R h=>hmade _ _ R h) ?_
                exact ⟨(zH KF),(zK KG),(ka m19),(by (have e18:more L 12 18=L 18:=za (by decide));(have e19:more L 12 19=L 19:=za (by decide));(try simp only [e18,e19,n19]);first | done | rfl | (simp only [e18,e19,n19,if_true,if_false,Bool.false_eq_true];first | done | rfl | (simp (disch:=first|exact zb|fail) only [go_sem,seval,-List.reduceReplicate,e18,e19,n19,ze,hn]<;>rfl)))⟩
              · cases ho
                have h3:=kL hall 0 rfl rfl
                have d3:=zw KG 3 rfl h3
                have h12:=kL hall 1 rfl rfl
                have d12:=zw KG 12 rfl h12
                have n19:=zu m19 hL
                (try simp only [n19,if_true,if_false,Bool.false_eq_true])
                refine yi rfl rfl (by simp (disch:=first|exact zb|fail) only [go_sem,seval,-List.reduceReplicate,reduceIte,Bool.false_eq_true,if_false,if_true,d3,d12,n19,hL,ze,hn]<;>rfl) rfl (by simp (disch:=first|exact zb|fail) only [go_sem,seval,-List.reduceReplicate,reduceIte,Bool.false_eq_true,if_false,if_true,d3,d12,n19,hL,ze,hn]<;>rfl) (fun R h=>hsend _ _ R h) ?_
                exact ⟨(zH KF),(zK KG),(ka m19),(by (have e18:more L 13 18=L 18:=za (by decide));(have e19:more L 13 19=L 19:=za (by decide));(try simp only [e18,e19,n19]);first | done | rfl | (simp only [e18,e19,n19,if_true,if_false,Bool.false_eq_true];first | done | rfl | (simp (disch:=first|exact zb|fail) only [go_sem,seval,-List.reduceReplicate,e18,e19,n19,ze,hn]<;>rfl)))⟩
              · cases ho
                have h13:=kL hall 0 rfl rfl
                have d13:=zw KG 13 rfl h13
                have n19:=zu m19 hL
                refine zf (.tup [.p (yG S),.p (.sl false 1 (pl b8 e)),.p (i64 c)]) rfl rfl (by simp (disch:=first|exact zb|fail) only [go_sem,seval,-List.reduceReplicate,reduceIte,Bool.false_eq_true,if_false,if_true,d13,n19,hL,ze,hn]<;>rfl) rfl ?_
                exact ⟨(zH KF),(zK KG),(ka m19),(by rw [za (by decide),za (by decide)])⟩
              · cases ho
                have h14:=kL hall 0 rfl rfl
                have d14:=zw KG 14 rfl h14
                have n19:=zu m19 hL
                refine zf (.p (yG S)) rfl rfl (by simp (disch:=first|exact zb|fail) only [go_sem,seval,-List.reduceReplicate,reduceIte,Bool.false_eq_true,if_false,if_true,d14,n19,hL,ze,hn]<;>rfl) rfl ?_
                exact ⟨(zH KF),(zK KG),(ka m19),(by rw [za (by decide),za (by decide)])⟩
              · cases ho
                have h14:=kL hall 0 rfl rfl
                have d14:=zw KG 14 rfl h14
                refine zf (.p (.sl false 1 (pl b8 e))) rfl rfl (by simp (disch:=first|exact zb|fail) only [go_sem,seval,-List.reduceReplicate,d14,ze,hn]<;>rfl) rfl ?_
                exact ⟨(zH KF),(zK KG),(ka m19),(by rw [za (by decide),za (by decide)])⟩
              · cases ho
                have h14:=kL hall 0 rfl rfl
                have d14:=zw KG 14 rfl h14
                refine zf (.p (i64 c)) rfl rfl (by simp (disch:=first|exact zb|fail) only [go_sem,seval,-List.reduceReplicate,d14,ze,hn]<;>rfl) rfl ?_
                exact ⟨(zH KF),(zK KG),(ka m19),(by rw [za (by decide),za (by decide)])⟩
              · cases ho
                have n19:=zu m19 hL
                (try simp only [n19,hL,if_true,if_false,Bool.false_eq_true])
                refine yh (.ptr (qB H T+1) 0) rfl rfl (by simp (disch:=first|exact zb|fail) only [go_sem,seval,-List.reduceReplicate,reduceIte,Bool.false_eq_true,if_false,if_true,n19,hL,ze,hn]<;>rfl) rfl ?_
                exact ⟨(zH KF),(zK KG),(ka m19),(by (have e18:more L 18 18=true:=zv);(have e19:more L 18 19=L 19:=za (by decide));(try simp only [e18,e19,n19,hL]);first | done | rfl | (simp only [e18,e19,n19,hL,if_true,if_false,Bool.false_eq_true];first | done | rfl | (simp (disch:=first|exact zb|fail) only [go_sem,seval,-List.reduceReplicate,e18,e19,n19,hL,ze,hn]<;>rfl)))⟩
              · cases ho
                have h18:=kL hall 0 rfl rfl
                have d18:=zw KG 18 rfl h18
                have h15:=kL hall 1 rfl rfl
                have d15:=zw KG 15 rfl h15
                have h13:=kL hall 2 rfl rfl
                have h0:=kL hall 3 rfl rfl
                have h1:=kL hall 4 rfl rfl
                have h2:=kL hall 5 rfl rfl
                have h3:=kL hall 6 rfl rfl
                have h4:=kL hall 7 rfl rfl
                have h5:=kL hall 8 rfl rfl
                have h6:=kL hall 9 rfl rfl
                have h7:=kL hall 10 rfl rfl
                have h8:=kL hall 11 rfl rfl
                have h9:=kL hall 12 rfl rfl
                have h10:=kL hall 13 rfl rfl
                have h11:=kL hall 14 rfl rfl
                have h12:=kL hall 15 rfl rfl
                have h14:=kL hall 17 rfl rfl
                refine yd rfl rfl (by simp (disch:=first|exact zb|fail) only [go_sem,seval,-List.reduceReplicate,reduceIte,Bool.false_eq_true,if_false,if_true,d15,d18,h18,hL,ze,hn]<;>rfl) rfl ?_
                exact ⟨KF,(kIs KG),(fun _=>kt (zc h0 (zc h1 (zc h2 (zc h3 (zc h4 (zc h5 (zc h6 (zc h7 (zc h8 (zc h9 (zc h10 (zc h11 (zc h12 (zc h13 (zc h14 (zc h15 (zc h18 zB)))))))))))))))))),(by (have e18:more L 19 18=L 18:=za (by decide));(have e19:more L 19 19=true:=zv);(try simp only [e18,e19,h18,hL]);first | done | rfl | (simp only [e18,e19,h18,hL,if_true,if_false,Bool.false_eq_true];first | done | rfl | (simp (disch:=first|exact zb|fail) only [go_sem,seval,-List.reduceReplicate,e18,e19,h18,hL,ze,hn]<;>rfl)))⟩
              · cases ho
                have h16:=kL hall 0 rfl rfl
                have d16:=zw KG 16 rfl h16
                have h19:=kL hall 1 rfl rfl
                have h18:=kL hall 20 rfl rfl
                refine zf (.p (.sl false 1 (pl b8 e))) rfl rfl (by simp (disch:=first|exact zb|fail) only [go_sem,seval,-List.reduceReplicate,reduceIte,Bool.false_eq_true,if_false,if_true,d16,h18,h19,hL,ze,hn]<;>rfl) rfl ?_
                exact ⟨(zH KF),(zK KG),(ka m19),(by rw [za (by decide),za (by decide)])⟩
              · cases ho
                have h17:=kL hall 0 rfl rfl
                have d17:=zw KG 17 rfl h17
                have h18:=kL hall 20 rfl rfl
                have h19:=kL hall 21 rfl rfl
                refine zf (.p (i64 c)) rfl rfl (by simp (disch:=first|exact zb|fail) only [go_sem,seval,-List.reduceReplicate,reduceIte,Bool.false_eq_true,if_false,if_true,d17,h18,h19,hL,ze,hn]<;>rfl) rfl ?_
                exact ⟨(zH KF),(zK KG),(ka m19),(by rw [za (by decide),za (by decide)])⟩
              · simp at ho
            · intro L env' H' hall hI
              obtain ⟨KF,KG,_,rfl⟩:=hI
              have l18:=hall 18 (by decide)
              have l19:=hall 19 (by decide)
              have f0:=zU KF 0 rfl
              have f1:=zU KF 1 rfl
              have f2:=zU KF 2 rfl
              have f3:=zU KF 3 rfl
              have f4:=zU KF 4 rfl
              have f5:=zU KF 5 rfl
              have f6:=zU KF 6 rfl
              have f7:=zU KF 7 rfl
              have f8:=zU KF 8 rfl
              have g1:=zw KG 1 rfl (hall 1 (by decide))
              have g2:=zw KG 2 rfl (hall 2 (by decide))
              have g3:=zw KG 3 rfl (hall 3 (by decide))
              have g12:=zw KG 12 rfl (hall 12 (by decide))
              have g18:=zw KG 18 rfl (hall 18 (by decide))
              have g20:=zw KG 19 rfl (hall 20 (by decide))
              have g21:=zw KG 20 rfl (hall 21 (by decide))
              simp only [l18,l19,if_true]
              clear hall
              rw [zQE]
              (refine .q ?_);refine .text ?_;simp (disch:=first|exact zb|fail) only [go_sem,seval,-List.reduceReplicate,g21]
              cases b2:c == 0 with
              | false =>
               (refine .q ?_);refine .ifF (by simp (disch:=first|exact zb|fail) only [go_sem,seval,-List.reduceReplicate,b2]) ?_
               refine .skip ?_
               (refine .q ?_)
               refine ih _ _ ?_
               exact ⟨p,P,P.length,[.cells (acl x),.cells (yC S)],(by simp (disch:=first|exact zb|fail) only [go_sem,seval,-List.reduceReplicate,f0,f1,f2,f3,f4,f5,f6,f7,f8,g18,g20,g21]<;>(repeat' (first | rfl | refine And.intro ?_ ?_))),rfl,by simp,hp1,(by omega),hb⟩
              | true =>
               (refine .q ?_);refine .ifT (by simp (disch:=first|exact zb|fail) only [go_sem,seval,-List.reduceReplicate,b2]) ?_
               (refine .q ?_);refine .text ?_;simp (disch:=first|exact zb|fail) only [go_sem,seval,-List.reduceReplicate,f0,f1,f2,f3,f4,f5,f6,f7,f8,g18,g20,g21]
               (refine .q ?_);refine .text ?_;simp (disch:=first|exact zb|fail) only [go_sem,seval,-List.reduceReplicate,f0,f1,f2,f3,f4,f5,f6,f7,f8,g18,g20,g21]
               (refine .q ?_)
               refine ih _ _ ?_
               exact ⟨upd p k S,P++[e],P.length+1,[.cells (acl x),.cells (yC S)],(by simp (disch:=first|exact zb|fail) only [go_sem,seval,-List.reduceReplicate,f0,f1,f2,f3,f4,f5,f6,f7,f8,g18,g20,g21]<;>(repeat' (first | rfl | refine And.intro ?_ ?_))),rfl,by simp,(zcV hp (by omega) gS),(by rw [hlen];omega),(hP2 _ gE)⟩
          | false =>
           (refine .q ?_);refine .ifF (by simp (disch:=first|exact zb|fail) only [go_sem,seval,-List.reduceReplicate,w1]) ?_
           (refine .q ?_);refine .text ?_;simp (disch:=first|exact zb|fail) only [go_sem,seval,-List.reduceReplicate]
           cases w2:x.what % 6#8 == 2#8 with
           | true =>
            (refine .q ?_);refine .ifT (by simp (disch:=first|exact zb|fail) only [go_sem,seval,-List.reduceReplicate,w2]) ?_
            (refine .q ?_);refine .cutE [0,1,4,5,6,7,8,9,10] [(126,.p (bo (((k:Int) == 0) || ((p k).state != 0))))] [] (fun ihW => ?_) (fun env W => ?_)
            rotate_left 1
            simp (disch:=first|exact zb|fail) only [go_sem,seval,-List.reduceReplicate,E] at W
            rotate_left 1
            · (refine .q ?_);refine .text ?_;simp (disch:=first|exact zb|fail) only [go_sem,seval,-List.reduceReplicate,E]
              cases b0:((k:Int) == 0) with
              | true =>
               rw [b0,Bool.true_or] at ihW
               simp (disch:=first|exact zb|fail) only [go_sem,seval,-List.reduceReplicate,b0,E]
               first | (refine ihW _ _ ?_ ?_) | (refine .z rfl ?_;refine ihW _ _ ?_ ?_) | (refine .z rfl ?_;refine .z rfl ?_;refine ihW _ _ ?_ ?_) | (refine .z rfl ?_;refine .z rfl ?_;refine .z rfl ?_;refine ihW _ _ ?_ ?_)
               · simp (disch:=first|exact zb|fail) only [go_sem,seval,-List.reduceReplicate,E]<;>(repeat' (first | rfl | refine And.intro ?_ ?_))
               · first | rfl | (simp (disch:=first|exact zb|fail) only [go_sem,seval,-List.reduceReplicate,E]<;>(try rfl))
              | false =>
               rw [b0,Bool.false_or] at ihW
               simp (disch:=first|exact zb|fail) only [go_sem,seval,-List.reduceReplicate,b0,E]
               first | (refine ihW _ _ ?_ ?_) | (refine .z rfl ?_;refine ihW _ _ ?_ ?_) | (refine .z rfl ?_;refine .z rfl ?_;refine ihW _ _ ?_ ?_) | (refine .z rfl ?_;refine .z rfl ?_;refine .z rfl ?_;refine ihW _ _ ?_ ?_)
               · simp (disch:=first|exact zb|fail) only [go_sem,seval,-List.reduceReplicate,E]<;>(repeat' (first | rfl | refine And.intro ?_ ?_))
               · first | rfl | (simp (disch:=first|exact zb|fail) only [go_sem,seval,-List.reduceReplicate,E]<;>(try rfl))
            rw [yp]
            cases b1:((k:Int) == 0) || ((p k).state != 0) with
            | false =>
             (refine .q ?_);refine .ifF (by simp (disch:=first|exact zb|fail) only [go_sem,seval,-List.reduceReplicate,W,b1]) ?_
             refine .skip ?_
             (refine .q ?_)
             refine ih _ _ ?_
             exact ⟨p,P,P.length,[.cells (acl x)],(by simp (disch:=first|exact zb|fail) only [go_sem,seval,-List.reduceReplicate,W,E]<;>(repeat' (first | rfl | refine And.intro ?_ ?_))),rfl,by simp,hp1,(by omega),hb⟩
            | true =>
             (refine .q ?_);refine .ifT (by simp (disch:=first|exact zb|fail) only [go_sem,seval,-List.reduceReplicate,W,b1]) ?_
             rw [zOS]
             (refine .q ?_)
             refine .openInv (fun L env' H'=>kF env' [(0,.p (.sl false 42 (pl act l))),(1,.p (i64 40)),(4,.ptr H.n 0),(5,.ptr (H.n+1) 0),(6,.ref (H.n+2) 0 2 78),(7,.sl (H.n+3) P.length 1 (pl (sle 1 b8) P)),(8,.p (i64 i)),(9,.ptr (qB H T) 0),(10,.p (i64 k))]∧kI L env' [(0,128,.ref (H.n+2) 0 2 78),(1,129,.p (i64 k)),(2,130,.ptr (H.n+2) (k*78)),(3,131,.p (yG (p k))),(4,132,.ptr (qB H T) 2),(5,133,.p (msg x.m)),(6,134,.ref (H.n+2) 0 2 78),(7,135,.p (i64 k)),(8,136,.ptr (H.n+2) (k*78)),(9,137,.ptr (H.n+2) (k*78+1)),(10,138,.p (i64 (p k).step)),(11,139,.p (i64 n)),(12,140,.p (msg M)),(13,141,.tup [.p (yG S),.p (.sl false 1 (pl b8 e)),.p (i64 c)]),(14,127,.tup [.p (yG S),.p (.sl false 1 (pl b8 e)),.p (i64 c)]),(15,142,.p (yG S)),(16,143,.p (.sl false 1 (pl b8 e))),(17,144,.p (i64 c)),(18,14,.ptr (qB H T+1) 0),(20,15,.p (.sl false 1 (pl b8 e))),(21,16,.p (i64 c))]∧(L 19=true → allT L [0,1,2,3,4,5,6,7,8,9,10,11,12,13,14,15,18])∧H'=(pT H p P.length T (.cells (acl x)) (if L 19 then some (.cells (yC S)) else if L 18 then some (.cells (nC 0 0)) else none) none)) follows (by kernel_rfl) ?_ ?_ ?_
             · exact ⟨(yQ (by simp (disch:=first|exact zb|fail) only [go_sem,seval,-List.reduceReplicate,W,E,ze,hn]) (yQ (by simp (disch:=first|exact zb|fail) only [go_sem,seval,-List.reduceReplicate,W,E,ze,hn]) (yQ (by simp (disch:=first|exact zb|fail) only [go_sem,seval,-List.reduceReplicate,W,E,ze,hn]) (yQ (by simp (disch:=first|exact zb|fail) only [go_sem,seval,-List.reduceReplicate,W,E,ze,hn]) (yQ (by simp (disch:=first|exact zb|fail) only [go_sem,seval,-List.reduceReplicate,W,E,ze,hn]) (yQ (by simp (disch:=first|exact zb|fail) only [go_sem,seval,-List.reduceReplicate,W,E,ze,hn]) (yQ (by simp (disch:=first|exact zb|fail) only [go_sem,seval,-List.reduceReplicate,W,E,ze,hn]) (yQ (by simp (disch:=first|exact zb|fail) only [go_sem,seval,-List.reduceReplicate,W,E,ze,hn]) (yQ (by simp (disch:=first|exact zb|fail) only [go_sem,seval,-List.reduceReplicate,W,E,ze,hn]) kF0))))))))),(fun _ _ h=>by cases h),(fun h=>by cases h),(by first | rfl | (simp only [Bool.false_eq_true,if_false];first | rfl | (simp (disch:=first|exact zb|fail) only [go_sem,seval,-List.reduceReplicate,W,E,ze,hn]<;>rfl)))⟩
             · intro i o L env' H' ho hL hall hI
               obtain ⟨KF,KG,m19,rfl⟩:=hI
               rcases i with _ | _ | _ | _ | _ | _ | _ | _ | _ | _ | _ | _ | _ | _ | _ | _ | _ | _ | _ | _ | _ | _ | i
               · cases ho
                 have n19:=zu m19 hL
                 have f4:=zU KF 4 rfl
                 refine zf (.ref (H.n+2) 0 2 78) rfl rfl (by simp (disch:=first|exact zb|fail) only [go_sem,seval,-List.reduceReplicate,reduceIte,Bool.false_eq_true,if_false,if_true,f4,n19,hL,ze,hn]<;>rfl) rfl ?_
                 exact ⟨(zH KF),(zK KG),(ka m19),(by rw [za (by decide),za (by decide)])⟩
               · cases ho
                 have n19:=zu m19 hL
                 have f8:=zU KF 8 rfl
                 refine zf (.p (i64 k)) rfl rfl (by simp (disch:=first|exact zb|fail) only [go_sem,seval,-List.reduceReplicate,reduceIte,Bool.false_eq_true,if_false,if_true,f8,n19,hL,ze,hn]<;>rfl) rfl ?_
                 exact ⟨(zH KF),(zK KG),(ka m19),(by rw [za (by decide),za (by decide)])⟩
               · cases ho
                 have h0:=kL hall 0 rfl rfl
                 have d0:=zw KG 0 rfl h0
                 have h1:=kL hall 1 rfl rfl
                 have d1:=zw KG 1 rfl h1
                 have n19:=zu m19 hL
                 refine zf (.ptr (H.n+2) (k*78)) rfl rfl (by simp (disch:=first|exact zb|fail) only [go_sem,seval,-List.reduceReplicate,reduceIte,Bool.false_eq_true,if_false,if_true,d0,d1,n19,hL,ze,hn]<;>rfl) rfl ?_
                 exact ⟨(zH KF),(zK KG),(ka m19),(by rw [za (by decide),za (by decide)])⟩
               · cases ho
                 have h2:=kL hall 0 rfl rfl
                 have d2:=zw KG 2 rfl h2
                 have n19:=zu m19 hL
                 refine zf (.p (yG (p k))) rfl rfl (by simp (disch:=first|exact zb|fail) only [go_sem,seval,-List.reduceReplicate,reduceIte,Bool.false_eq_true,if_false,if_true,d2,n19,hL,ze,hn]<;>rfl) rfl ?_
                 exact ⟨(zH KF),(zK KG),(ka m19),(by rw [za (by decide),za (by decide)])⟩
               · cases ho
                 have n19:=zu m19 hL
                 have f7:=zU KF 7 rfl
                 refine zf (.ptr (qB H T) 2) rfl rfl (by simp (disch:=first|exact zb|fail) only [go_sem,seval,-List.reduceReplicate,reduceIte,Bool.false_eq_true,if_false,if_true,f7,n19,hL,ze,hn]<;>rfl) rfl ?_
                 exact ⟨(zH KF),(zK KG),(ka m19),(by rw [za (by decide),za (by decide)])⟩
               · cases ho
                 have h4:=kL hall 0 rfl rfl
                 have d4:=zw KG 4 rfl h4
                 have n19:=zu m19 hL
                 refine zf (.p (msg x.m)) rfl rfl (by simp (disch:=first|exact zb|fail) only [go_sem,seval,-List.reduceReplicate,reduceIte,Bool.false_eq_true,if_false,if_true,d4,n19,hL,ze,hn]<;>rfl) rfl ?_
                 exact ⟨(zH KF),(zK KG),(ka m19),(by rw [za (by decide),za (by decide)])⟩
               · cases ho
                 have n19:=zu m19 hL
                 have f4:=zU KF 4 rfl
                 refine zf (.ref (H.n+2) 0 2 78) rfl rfl (by simp (disch:=first|exact zb|fail) only [go_sem,seval,-List.reduceReplicate,reduceIte,Bool.false_eq_true,if_false,if_true,f4,n19,hL,ze,hn]<;>rfl) rfl ?_
                 exact ⟨(zH KF),(zK KG),(ka m19),(by rw [za (by decide),za (by decide)])⟩
               · cases ho
                 have n19:=zu m19 hL
                 have f8:=zU KF 8 rfl
                 refine zf (.p (i64 k)) rfl rfl (by simp (disch:=first|exact zb|fail) only [go_sem,seval,-List.reduceReplicate,reduceIte,Bool.false_eq_true,if_false,if_true,f8,n19,hL,ze,hn]<;>rfl) rfl ?_
                 exact ⟨(zH KF),(zK KG),(ka m19),(by rw [za (by decide),za (by decide)])⟩
               · cases ho
                 have h6:=kL hall 0 rfl rfl
                 have d6:=zw KG 6 rfl h6
                 have h7:=kL hall 1 rfl rfl
                 have d7:=zw KG 7 rfl h7
                 have n19:=zu m19 hL
                 refine zf (.ptr (H.n+2) (k*78)) rfl rfl (by simp (disch:=first|exact zb|fail) only [go_sem,seval,-List.reduceReplicate,reduceIte,Bool.false_eq_true,if_false,if_true,d6,d7,n19,hL,ze,hn]<;>rfl) rfl ?_
                 exact ⟨(zH KF),(zK KG),(ka m19),(by rw [za (by decide),za (by decide)])⟩
               · cases ho
                 have h8:=kL hall 0 rfl rfl
                 have d8:=zw KG 8 rfl h8
                 have n19:=zu m19 hL
                 refine zf (.ptr (H.n+2) (k*78+1)) rfl rfl (by simp (disch:=first|exact zb|fail) only [go_sem,seval,-List.reduceReplicate,reduceIte,Bool.false_eq_true,if_false,if_true,d8,n19,hL,ze,hn]<;>rfl) rfl ?_
                 exact ⟨(zH KF),(zK KG),(ka m19),(by rw [za (by decide),za (by decide)])⟩
               · cases ho
                 have h9:=kL hall 0 rfl rfl
                 have d9:=zw KG 9 rfl h9
                 have n19:=zu m19 hL
                 refine zf (.p (i64 (p k).step)) rfl rfl (by simp (disch:=first|exact zb|fail) only [go_sem,seval,-List.reduceReplicate,reduceIte,Bool.false_eq_true,if_false,if_true,d9,n19,hL,ze,hn]<;>rfl) rfl ?_
                 exact ⟨(zH KF),(zK KG),(ka m19),(by rw [za (by decide),za (by decide)])⟩
               · cases ho
                 have h10:=kL hall 0 rfl rfl
                 have d10:=zw KG 10 rfl h10
                 have n19:=zu m19 hL
                 refine zf (.p (i64 n)) rfl rfl (by simp (disch:=first|exact zb|fail) only [go_sem,seval,-List.reduceReplicate,reduceIte,Bool.false_eq_true,if_false,if_true,d10,n19,hL,ze,hn]<;>rfl) rfl ?_
                 exact ⟨(zH KF),(zK KG),(ka m19),(by rw [za (by decide),za (by decide)])⟩
               · cases ho
                 have h5:=kL hall 0 rfl rfl
                 have d5:=zw KG 5 rfl h5
                 have h11:=kL hall 1 rfl rfl
                 have d11:=zw KG 11 rfl h11
                 have n19:=zu m19 hL
                 (try simp only [n19,if_true,if_false,Bool.false_eq_true])
                 refine yi rfl rfl (by simp (disch:=first|exact zb|fail) only [go_sem,seval,-List.reduceReplicate,reduceIte,Bool.false_eq_true,if_false,if_true,d5,d11,n19,hL,ze,hn]<;>rfl) rfl (by simp (disch:=first|exact zb|fail) only [go_sem,seval,-List.reduceReplicate,reduceIte,Bool.false_eq_true,if_false,if_true,d5,d11,n19,hL,ze,hn]<;>rfl) (fun R h=>hmade _ _ R h) ?_
                 exact ⟨(zH KF),(zK KG),(ka m19),(by (have e18:more L 12 18=L 18:=za (by decide));(have e19:more L 12 19=L 19:=za (by decide));(try simp only [e18,e19,n19]);first | done | rfl | (simp only [e18,e19,n19,if_true,if_false,Bool.false_eq_true];first | done | rfl | (simp (disch:=first|exact zb|fail) only [go_sem,seval,-List.reduceReplicate,e18,e19,n19,ze,hn]<;>rfl)))⟩
               · cases ho
                 have h3:=kL hall 0 rfl rfl
                 have d3:=zw KG 3 rfl h3
                 have h12:=kL hall 1 rfl rfl
                 have d12:=zw KG 12 rfl h12
                 have n19:=zu m19 hL
                 (try simp only [n19,if_true,if_false,Bool.false_eq_true])
                 refine yi rfl rfl (by simp (disch:=first|exact zb|fail) only [go_sem,seval,-List.reduceReplicate,reduceIte,Bool.false_eq_true,if_false,if_true,d3,d12,n19,hL,ze,hn]<;>rfl) rfl (by simp (disch:=first|exact zb|fail) only [go_sem,seval,-List.reduceReplicate,reduceIte,Bool.false_eq_true,if_false,if_true,d3,d12,n19,hL,ze,hn]<;>rfl) (fun R h=>hsend _ _ R h) ?_
                 exact ⟨(zH KF),(zK KG),(ka m19),(by (have e18:more L 13 18=L 18:=za (by decide));(have e19:more L 13 19=L 19:=za (by decide));(try simp only [e18,e19,n19]);first | done | rfl | (simp only [e18,e19,n19,if_true,if_false,Bool.false_eq_true];first | done | rfl | (simp (disch:=first|exact zb|fail) only [go_sem,seval,-List.reduceReplicate,e18,e19,n19,ze,hn]<;>rfl)))⟩
               · cases ho
                 have h13:=kL hall 0 rfl rfl
                 have d13:=zw KG 13 rfl h13
                 have n19:=zu m19 hL
                 refine zf (.tup [.p (yG S),.p (.sl false 1 (pl b8 e)),.p (i64 c)]) rfl rfl (by simp (disch:=first|exact zb|fail) only [go_sem,seval,-List.reduceReplicate,reduceIte,Bool.false_eq_true,if_false,if_true,d13,n19,hL,ze,hn]<;>rfl) rfl ?_
                 exact ⟨(zH KF),(zK KG),(ka m19),(by rw [za (by decide),za (by decide)])⟩
               · cases ho
                 have h14:=kL hall 0 rfl rfl
                 have d14:=zw KG 14 rfl h14
                 have n19:=zu m19 hL
                 refine zf (.p (yG S)) rfl rfl (by simp (disch:=first|exact zb|fail) only [go_sem,seval,-List.reduceReplicate,reduceIte,Bool.false_eq_true,if_false,if_true,d14,n19,hL,ze,hn]<;>rfl) rfl ?_
                 exact ⟨(zH KF),(zK KG),(ka m19),(by rw [za (by decide),za (by decide)])⟩
               · cases ho
                 have h14:=kL hall 0 rfl rfl
                 have d14:=zw KG 14 rfl h14
                 refine zf (.p (.sl false 1 (pl b8 e))) rfl rfl (by simp (disch:=first|exact zb|fail) only [go_sem,seval,-List.reduceReplicate,d14,ze,hn]<;>rfl) rfl ?_
                 exact ⟨(zH KF),(zK KG),(ka m19),(by rw [za (by decide),za (by decide)])⟩
               · cases ho
                 have h14:=kL hall 0 rfl rfl
                 have d14:=zw KG 14 rfl h14
                 refine zf (.p (i64 c)) rfl rfl (by simp (disch:=first|exact zb|fail) only [go_sem,seval,-List.reduceReplicate,d14,ze,hn]<;>rfl) rfl ?_
                 exact ⟨(zH KF),(zK KG),(ka m19),(by rw [za (by decide),za (by decide)])⟩
               · cases ho
                 have n19:=zu m19 hL
                 (try simp only [n19,hL,if_true,if_false,Bool.false_eq_true])
                 refine yh (.ptr (qB H T+1) 0) rfl rfl (by simp (disch:=first|exact zb|fail) only [go_sem,seval,-List.reduceReplicate,reduceIte,Bool.false_eq_true,if_false,if_true,n19,hL,ze,hn]<;>rfl) rfl ?_
                 exact ⟨(zH KF),(zK KG),(ka m19),(by (have e18:more L 18 18=true:=zv);(have e19:more L 18 19=L 19:=za (by decide));(try simp only [e18,e19,n19,hL]);first | done | rfl | (simp only [e18,e19,n19,hL,if_true,if_false,Bool.false_eq_true];first | done | rfl | (simp (disch:=first|exact zb|fail) only [go_sem,seval,-List.reduceReplicate,e18,e19,n19,hL,ze,hn]<;>rfl)))⟩
               · cases ho
                 have h18:=kL hall 0 rfl rfl
                 have d18:=zw KG 18 rfl h18
                 have h15:=kL hall 1 rfl rfl
                 have d15:=zw KG 15 rfl h15
                 have h13:=kL hall 2 rfl rfl
                 have h0:=kL hall 3 rfl rfl
                 have h1:=kL hall 4 rfl rfl
                 have h2:=kL hall 5 rfl rfl
                 have h3:=kL hall 6 rfl rfl
                 have h4:=kL hall 7 rfl rfl
                 have h5:=kL hall 8 rfl rfl
                 have h6:=kL hall 9 rfl rfl
                 have h7:=kL hall 10 rfl rfl
                 have h8:=kL hall 11 rfl rfl
                 have h9:=kL hall 12 rfl rfl
                 have h10:=kL hall 13 rfl rfl
                 have h11:=kL hall 14 rfl rfl
                 have h12:=kL hall 15 rfl rfl
                 have h14:=kL hall 17 rfl rfl
                 refine yd rfl rfl (by simp (disch:=first|exact zb|fail) only [go_sem,seval,-List.reduceReplicate,reduceIte,Bool.false_eq_true,if_false,if_true,d15,d18,h18,hL,ze,hn]<;>rfl) rfl ?_
                 exact ⟨KF,(kIs KG),(fun _=>kt (zc h0 (zc h1 (zc h2 (zc h3 (zc h4 (zc h5 (zc h6 (zc h7 (zc h8 (zc h9 (zc h10 (zc h11 (zc h12 (zc h13 (zc h14 (zc h15 (zc h18 zB)))))))))))))))))),(by (have e18:more L 19 18=L 18:=za (by decide));(have e19:more L 19 19=true:=zv);(try simp only [e18,e19,h18,hL]);first | done | rfl | (simp only [e18,e19,h18,hL,if_true,if_false,Bool.false_eq_true];first | done | rfl | (simp (disch:=first|exact zb|fail) only [go_sem,seval,-List.reduceReplicate,e18,e19,h18,hL,ze,hn]<;>rfl)))⟩
               · cases ho
                 have h16:=kL hall 0 rfl rfl
                 have d16:=zw KG 16 rfl h16
                 have h19:=kL hall 1 rfl rfl
                 have h18:=kL hall 20 rfl rfl
                 refine zf (.p (.sl false 1 (pl b8 e))) rfl rfl (by simp (disch:=first|exact zb|fail) only [go_sem,seval,-List.reduceReplicate,reduceIte,Bool.false_eq_true,if_false,if_true,d16,h18,h19,hL,ze,hn]<;>rfl) rfl ?_
                 exact ⟨(zH KF),(zK KG),(ka m19),(by rw [za (by decide),za (by decide)])⟩
               · cases ho
                 have h17:=kL hall 0 rfl rfl
                 have d17:=zw KG 17 rfl h17
                 have h18:=kL hall 20 rfl rfl
                 have h19:=kL hall 21 rfl rfl
                 refine zf (.p (i64 c)) rfl rfl (by simp (disch:=first|exact zb|fail) only [go_sem,seval,-List.reduceReplicate,reduceIte,Bool.false_eq_true,if_false,if_true,d17,h18,h19,hL,ze,hn]<;>rfl) rfl ?_
                 exact ⟨(zH KF),(zK KG),(ka m19),(by rw [za (by decide),za (by decide)])⟩
               · simp at ho
             · intro L env' H' hall hI
               obtain ⟨KF,KG,_,rfl⟩:=hI
               have l18:=hall 18 (by decide)
               have l19:=hall 19 (by decide)
               have f0:=zU KF 0 rfl
               have f1:=zU KF 1 rfl
               have f2:=zU KF 2 rfl
               have f3:=zU KF 3 rfl
               have f4:=zU KF 4 rfl
               have f5:=zU KF 5 rfl
               have f6:=zU KF 6 rfl
               have f7:=zU KF 7 rfl
               have f8:=zU KF 8 rfl
               have g1:=zw KG 1 rfl (hall 1 (by decide))
               have g2:=zw KG 2 rfl (hall 2 (by decide))
               have g3:=zw KG 3 rfl (hall 3 (by decide))
               have g12:=zw KG 12 rfl (hall 12 (by decide))
               have g18:=zw KG 18 rfl (hall 18 (by decide))
               have g20:=zw KG 19 rfl (hall 20 (by decide))
               have g21:=zw KG 20 rfl (hall 21 (by decide))
               simp only [l18,l19,if_true]
               clear hall
               rw [zQE]
               (refine .q ?_);refine .text ?_;simp (disch:=first|exact zb|fail) only [go_sem,seval,-List.reduceReplicate,g21]
               cases b2:c == 0 with
               | false =>
                (refine .q ?_);refine .ifF (by simp (disch:=first|exact zb|fail) only [go_sem,seval,-List.reduceReplicate,b2]) ?_
                refine .skip ?_
                (refine .q ?_)
                refine ih _ _ ?_
                exact ⟨p,P,P.length,[.cells (acl x),.cells (yC S)],(by simp (disch:=first|exact zb|fail) only [go_sem,seval,-List.reduceReplicate,f0,f1,f2,f3,f4,f5,f6,f7,f8,g18,g20,g21]<;>(repeat' (first | rfl | refine And.intro ?_ ?_))),rfl,by simp,hp1,(by omega),hb⟩
               | true =>
                (refine .q ?_);refine .ifT (by simp (disch:=first|exact zb|fail) only [go_sem,seval,-List.reduceReplicate,b2]) ?_
                (refine .q ?_);refine .text ?_;simp (disch:=first|exact zb|fail) only [go_sem,seval,-List.reduceReplicate,f0,f1,f2,f3,f4,f5,f6,f7,f8,g18,g20,g21]
                obtain ⟨k2,hk3,hk4⟩ : ∃ k2:Nat,k2 < 2∧(1:Int) - (k:Int)=(k2:Int):=⟨1 - k,by omega,by omega⟩
                have hk5:(k2:Int) < 2:=by omega
                have hp2 : ∀ j,j < 2 → Good (i+1) (upd p k S j):=(zcV hp (by omega) gS)
                have hk6:k2≠k:=by omega
                have hu:upd p k S k2=p k2:=if_neg hk6
                have hok2:=(hp k2 hk3).ok (by omega)
                have gR2:=(hp k2 hk3).recv gE 1
                (refine .q ?_);refine .text ?_;simp (disch:=first|exact zb|fail) only [go_sem,seval,-List.reduceReplicate,f0,f1,f2,f3,f4,f5,f6,f7,f8,g18,g20,g21,hk4,hu]
                refine CallK.of (fun R h=>yE g (p k2) hok2 e (by omega) 1 _ R h) ?_;simp (disch:=first|exact zb|fail) only [go_sem,seval,-List.reduceReplicate,f0,f1,f2,f3,f4,f5,f6,f7,f8,g18,g20,g21]
                generalize recv (p k2) e 1=rc2 at *
                obtain ⟨S2,M2,c2⟩:=rc2
                simp only at gR2
                (refine .q ?_);refine .text ?_;simp (disch:=first|exact zb|fail) only [go_sem,seval,-List.reduceReplicate,f0,f1,f2,f3,f4,f5,f6,f7,f8,g18,g20,g21]
                (refine .q ?_);refine .text ?_;simp (disch:=first|exact zb|fail) only [go_sem,seval,-List.reduceReplicate,f0,f1,f2,f3,f4,f5,f6,f7,f8,g18,g20,g21]
                cases b3:c2 == 0 with
                | false =>
                 (refine .q ?_);refine .ifF (by simp (disch:=first|exact zb|fail) only [go_sem,seval,-List.reduceReplicate,b3]) ?_
                 refine .skip ?_
                 (refine .q ?_)
                 refine ih _ _ ?_
                 exact ⟨upd p k S,P++[e],P.length+1,[.cells (acl x),.cells (yC S),.cells (yC S2),.cells (mcl M2)],(by simp (disch:=first|exact zb|fail) only [go_sem,seval,-List.reduceReplicate,f0,f1,f2,f3,f4,f5,f6,f7,f8,g18,g20,g21]<;>(repeat' (first | rfl | refine And.intro ?_ ?_))),rfl,by simp,hp2,(by rw [hlen];omega),(hP2 _ gE)⟩
                | true =>
                 (refine .q ?_);refine .ifT (by simp (disch:=first|exact zb|fail) only [go_sem,seval,-List.reduceReplicate,b3]) ?_
                 (refine .q ?_);refine .text ?_;simp (disch:=first|exact zb|fail) only [go_sem,seval,-List.reduceReplicate,f0,f1,f2,f3,f4,f5,f6,f7,f8,g18,g20,g21,hk4]
                 (refine .q ?_)
                 refine ih _ _ ?_
                 exact ⟨upd (upd p k S) k2 S2,P++[e],P.length+1,[.cells (acl x),.cells (yC S),.cells (yC S2),.cells (mcl M2)],(by simp (disch:=first|exact zb|fail) only [go_sem,seval,-List.reduceReplicate,f0,f1,f2,f3,f4,f5,f6,f7,f8,g18,g20,g21]<;>(repeat' (first | rfl | refine And.intro ?_ ?_))),rfl,by simp,(zcV hp2 (by omega) gR2),(by rw [hlen];omega),(hP2 _ gE)⟩
           | false =>
            (refine .q ?_);refine .ifF (by simp (disch:=first|exact zb|fail) only [go_sem,seval,-List.reduceReplicate,w2]) ?_
            rw [zOS]
            (refine .q ?_)
            refine .openInv (fun L env' H'=>(kF env' [(0,.p (.sl false 42 (pl act l))),(1,.p (i64 40)),(4,.ptr H.n 0),(5,.ptr (H.n+1) 0),(6,.ref (H.n+2) 0 2 78),(7,.sl (H.n+3) P.length 1 (pl (sle 1 b8) P)),(8,.p (i64 i)),(9,.ptr (qB H T) 0),(10,.p (i64 k))]∧kI L env' [(0,50,.ref (H.n+2) 0 2 78),(1,51,.p (i64 k)),(2,52,.ptr (H.n+2) (k*78)),(3,53,.p (yG (p k))),(4,54,.sl (H.n+3) P.length 1 (pl (sle 1 b8) P)),(5,55,.p (act x)),(6,56,.p (.sl false 1 (pl b8 pb))),(7,57,.tup [.p (yG S3),.p (msg M3),.p (i64 c3)]),(8,49,.tup [.p (yG S3),.p (msg M3),.p (i64 c3)]),(9,58,.p (yG S3)),(10,59,.p (msg M3)),(11,60,.p (i64 c3)),(12,20,.ptr (qB H T+1) 0),(13,21,.ptr (qB H T+2) 0),(16,22,.p (i64 c3))]∧(L 13=true → allT L [12])∧(L 14=true → allT L [0,1,2,3,4,5,6,7,8,9,12,13])∧(L 15=true → allT L [0,1,2,3,4,5,6,7,8,9,10,12,13,14])∧H'=(pT H p P.length T (.cells (acl x)) (if L 14 then some (.cells (yC S3)) else if L 12 then some (.cells (nC 0 0)) else none) (if L 15 then some (.cells (mcl M3)) else if L 13 then some (.cells mZ) else none))) ∨ (kF env' [(0,.p (.sl false 42 (pl act l))),(1,.p (i64 40)),(4,.ptr H.n 0),(5,.ptr (H.n+1) 0),(6,.ref (H.n+2) 0 2 78),(7,.sl (H.n+3) P.length 1 (pl (sle 1 b8) P)),(8,.p (i64 i)),(9,.ptr (qB H T) 0),(10,.p (i64 k))]∧kI L env' [(0,50,.ref (H.n+2) 0 2 78),(1,51,.p (i64 k)),(2,52,.ptr (H.n+2) (k*78)),(3,53,.p (yG (p k))),(4,54,.sl (H.n+3) P.length 1 (pl (sle 1 b8) P)),(5,55,.p (act x)),(6,56,.p (.sl false 1 (pl b8 pb))),(7,57,.tup [.p (yG S3),.p (msg M3),.p (i64 c3)]),(8,49,.tup [.p (yG S3),.p (msg M3),.p (i64 c3)]),(9,58,.p (yG S3)),(10,59,.p (msg M3)),(11,60,.p (i64 c3)),(12,20,.ptr (qB H T+2) 0),(13,21,.ptr (qB H T+1) 0),(16,22,.p (i64 c3))]∧(L 12=true → allT L [13])∧(L 14=true → allT L [0,1,2,3,4,5,6,7,8,9,12,13])∧(L 15=true → allT L [0,1,2,3,4,5,6,7,8,9,10,12,13,14])∧H'=(pT H p P.length T (.cells (acl x)) (if L 15 then some (.cells (mcl M3)) else if L 13 then some (.cells mZ) else none) (if L 14 then some (.cells (yC S3)) else if L 12 then some (.cells (nC 0 0)) else none)))) follows (by kernel_rfl) ?_ ?_ ?_
            · exact .inl ⟨(yQ (by simp (disch:=first|exact zb|fail) only [go_sem,seval,-List.reduceReplicate,E]) (yQ (by simp (disch:=first|exact zb|fail) only [go_sem,seval,-List.reduceReplicate,E]) (yQ (by simp (disch:=first|exact zb|fail) only [go_sem,seval,-List.reduceReplicate,E]) (yQ (by simp (disch:=first|exact zb|fail) only [go_sem,seval,-List.reduceReplicate,E]) (yQ (by simp (disch:=first|exact zb|fail) only [go_sem,seval,-List.reduceReplicate,E]) (yQ (by simp (disch:=first|exact zb|fail) only [go_sem,seval,-List.reduceReplicate,E]) (yQ (by simp (disch:=first|exact zb|fail) only [go_sem,seval,-List.reduceReplicate,E]) (yQ (by simp (disch:=first|exact zb|fail) only [go_sem,seval,-List.reduceReplicate,E]) (yQ (by simp (disch:=first|exact zb|fail) only [go_sem,seval,-List.reduceReplicate,E]) kF0))))))))),(fun _ _ h=>by cases h),(fun h=>by cases h),(fun h=>by cases h),(fun h=>by cases h),(by first | rfl | (simp only [Bool.false_eq_true,if_false];first | rfl | (simp (disch:=first|exact zb|fail) only [go_sem,seval,-List.reduceReplicate,E]<;>rfl)))⟩
            · intro i o L env' H' ho hL hall hI
              rcases hI with hI | hI
              · obtain ⟨KF,KG,m13,m14,m15,rfl⟩:=hI
                rcases i with _ | _ | _ | _ | _ | _ | _ | _ | _ | _ | _ | _ | _ | _ | _ | _ | _ | i
                · cases ho
                  have n14:=zu m14 hL
                  have n15:=zu m15 hL
                  have f4:=zU KF 4 rfl
                  refine zf (.ref (H.n+2) 0 2 78) rfl rfl (by simp (disch:=first|exact zb|fail) only [go_sem,seval,-List.reduceReplicate,reduceIte,Bool.false_eq_true,if_false,if_true,f4,n14,n15]<;>rfl) rfl ?_
                  exact .inl ⟨(zH KF),(zK KG),(ka m13),(ka m14),(ka m15),(by rw [za (by decide),za (by decide),za (by decide),za (by decide)])⟩
                · cases ho
                  have n14:=zu m14 hL
                  have n15:=zu m15 hL
                  have f8:=zU KF 8 rfl
                  refine zf (.p (i64 k)) rfl rfl (by simp (disch:=first|exact zb|fail) only [go_sem,seval,-List.reduceReplicate,reduceIte,Bool.false_eq_true,if_false,if_true,f8,n14,n15]<;>rfl) rfl ?_
                  exact .inl ⟨(zH KF),(zK KG),(ka m13),(ka m14),(ka m15),(by rw [za (by decide),za (by decide),za (by decide),za (by decide)])⟩
                · cases ho
                  have h0:=kL hall 0 rfl rfl
                  have d0:=zw KG 0 rfl h0
                  have h1:=kL hall 1 rfl rfl
                  have d1:=zw KG 1 rfl h1
                  have n14:=zu m14 hL
                  have n15:=zu m15 hL
                  refine zf (.ptr (H.n+2) (k*78)) rfl rfl (by simp (disch:=first|exact zb|fail) only [go_sem,seval,-List.reduceReplicate,reduceIte,Bool.false_eq_true,if_false,if_true,d0,d1,n14,n15]<;>rfl) rfl ?_
                  exact .inl ⟨(zH KF),(zK KG),(ka m13),(ka m14),(ka m15),(by rw [za (by decide),za (by decide),za (by decide),za (by decide)])⟩
                · cases ho
                  have h2:=kL hall 0 rfl rfl
                  have d2:=zw KG 2 rfl h2
                  have n14:=zu m14 hL
                  have n15:=zu m15 hL
                  refine zf (.p (yG (p k))) rfl rfl (by simp (disch:=first|exact zb|fail) only [go_sem,seval,-List.reduceReplicate,reduceIte,Bool.false_eq_true,if_false,if_true,d2,n14,n15]<;>rfl) rfl ?_
                  exact .inl ⟨(zH KF),(zK KG),(ka m13),(ka m14),(ka m15),(by rw [za (by decide),za (by decide),za (by decide),za (by decide)])⟩
                · cases ho
                  have n14:=zu m14 hL
                  have n15:=zu m15 hL
                  have f5:=zU KF 5 rfl
                  refine zf (.sl (H.n+3) P.length 1 (pl (sle 1 b8) P)) rfl rfl (by simp (disch:=first|exact zb|fail) only [go_sem,seval,-List.reduceReplicate,reduceIte,Bool.false_eq_true,if_false,if_true,f5,n14,n15]<;>rfl) rfl ?_
                  exact .inl ⟨(zH KF),(zK KG),(ka m13),(ka m14),(ka m15),(by rw [za (by decide),za (by decide),za (by decide),za (by decide)])⟩
                · cases ho
                  have n14:=zu m14 hL
                  have n15:=zu m15 hL
                  have f7:=zU KF 7 rfl
                  refine zf (.p (act x)) rfl rfl (by simp (disch:=first|exact zb|fail) only [go_sem,seval,-List.reduceReplicate,reduceIte,Bool.false_eq_true,if_false,if_true,f7,n14,n15]<;>rfl) rfl ?_
                  exact .inl ⟨(zH KF),(zK KG),(ka m13),(ka m14),(ka m15),(by rw [za (by decide),za (by decide),za (by decide),za (by decide)])⟩
                · cases ho
                  have h4:=kL hall 0 rfl rfl
                  have d4:=zw KG 4 rfl h4
                  have h5:=kL hall 1 rfl rfl
                  have d5:=zw KG 5 rfl h5
                  have n14:=zu m14 hL
                  have n15:=zu m15 hL
                  (try simp only [n14,n15,if_true,if_false,Bool.false_eq_true])
                  refine yi rfl rfl (by simp (disch:=first|exact zb|fail) only [go_sem,seval,-List.reduceReplicate,reduceIte,Bool.false_eq_true,if_false,if_true,d4,d5,n14,n15]<;>rfl) rfl (by simp (disch:=first|exact zb|fail) only [go_sem,seval,-List.reduceReplicate,reduceIte,Bool.false_eq_true,if_false,if_true,d4,d5,n14,n15]<;>rfl) (fun R h=>hpk _ _ _ R h) ?_
                  exact .inl ⟨(zH KF),(zK KG),(ka m13),(ka m14),(ka m15),(by (have e12:more L 6 12=L 12:=za (by decide));(have e13:more L 6 13=L 13:=za (by decide));(have e14:more L 6 14=L 14:=za (by decide));(have e15:more L 6 15=L 15:=za (by decide));(try simp only [e12,e13,e14,e15,n14,n15]);first | done | rfl | (simp only [e12,e13,e14,e15,n14,n15,if_true,if_false,Bool.false_eq_true];first | done | rfl | (simp (disch:=first|exact zb|fail) only [go_sem,seval,-List.reduceReplicate,e12,e13,e14,e15,n14,n15]<;>rfl)))⟩
                · cases ho
                  have h3:=kL hall 0 rfl rfl
                  have d3:=zw KG 3 rfl h3
                  have h6:=kL hall 1 rfl rfl
                  have d6:=zw KG 6 rfl h6
                  have n14:=zu m14 hL
                  have n15:=zu m15 hL
                  (try simp only [n14,n15,if_true,if_false,Bool.false_eq_true])
                  refine yi rfl rfl (by simp (disch:=first|exact zb|fail) only [go_sem,seval,-List.reduceReplicate,reduceIte,Bool.false_eq_true,if_false,if_true,d3,d6,n14,n15]<;>rfl) rfl (by simp (disch:=first|exact zb|fail) only [go_sem,seval,-List.reduceReplicate,reduceIte,Bool.false_eq_true,if_false,if_true,d3,d6,n14,n15]<;>rfl) (fun R h=>hrc _ _ _ R h) ?_
                  exact .inl ⟨(zH KF),(zK KG),(ka m13),(ka m14),(ka m15),(by (have e12:more L 7 12=L 12:=za (by decide));(have e13:more L 7 13=L 13:=za (by decide));(have e14:more L 7 14=L 14:=za (by decide));(have e15:more L 7 15=L 15:=za (by decide));(try simp only [e12,e13,e14,e15,n14,n15]);first | done | rfl | (simp only [e12,e13,e14,e15,n14,n15,if_true,if_false,Bool.false_eq_true];first | done | rfl | (simp (disch:=first|exact zb|fail) only [go_sem,seval,-List.reduceReplicate,e12,e13,e14,e15,n14,n15]<;>rfl)))⟩
                · cases ho
                  have h7:=kL hall 0 rfl rfl
                  have d7:=zw KG 7 rfl h7
                  have n14:=zu m14 hL
                  have n15:=zu m15 hL
                  refine zf (.tup [.p (yG S3),.p (msg M3),.p (i64 c3)]) rfl rfl (by simp (disch:=first|exact zb|fail) only [go_sem,seval,-List.reduceReplicate,reduceIte,Bool.false_eq_true,if_false,if_true,d7,n14,n15]<;>rfl) rfl ?_
                  exact .inl ⟨(zH KF),(zK KG),(ka m13),(ka m14),(ka m15),(by rw [za (by decide),za (by decide),za (by decide),za (by decide)])⟩
                · cases ho
                  have h8:=kL hall 0 rfl rfl
                  have d8:=zw KG 8 rfl h8
                  have n14:=zu m14 hL
                  have n15:=zu m15 hL
                  refine zf (.p (yG S3)) rfl rfl (by simp (disch:=first|exact zb|fail) only [go_sem,seval,-List.reduceReplicate,reduceIte,Bool.false_eq_true,if_false,if_true,d8,n14,n15]<;>rfl) rfl ?_
                  exact .inl ⟨(zH KF),(zK KG),(ka m13),(ka m14),(ka m15),(by rw [za (by decide),za (by decide),za (by decide),za (by decide)])⟩
                · cases ho
                  have h8:=kL hall 0 rfl rfl
                  have d8:=zw KG 8 rfl h8
                  have n15:=zu m15 hL
                  refine zf (.p (msg M3)) rfl rfl (by simp (disch:=first|exact zb|fail) only [go_sem,seval,-List.reduceReplicate,reduceIte,Bool.false_eq_true,if_false,if_true,d8,n15]<;>rfl) rfl ?_
                  exact .inl ⟨(zH KF),(zK KG),(ka m13),(ka m14),(ka m15),(by rw [za (by decide),za (by decide),za (by decide),za (by decide)])⟩
                · cases ho
                  have h8:=kL hall 0 rfl rfl
                  have d8:=zw KG 8 rfl h8
                  refine zf (.p (i64 c3)) rfl rfl (by simp (disch:=first|exact zb|fail) only [go_sem,seval,-List.reduceReplicate,d8]<;>rfl) rfl ?_
                  exact .inl ⟨(zH KF),(zK KG),(ka m13),(ka m14),(ka m15),(by rw [za (by decide),za (by decide),za (by decide),za (by decide)])⟩
                · cases ho
                  have n13:=zu m13 hL
                  have n14:=zu m14 hL
                  have n15:=zu m15 hL
                  (try simp only [n13,n14,n15,hL,if_true,if_false,Bool.false_eq_true])
                  refine yh (.ptr (qB H T+1) 0) rfl rfl (by simp (disch:=first|exact zb|fail) only [go_sem,seval,-List.reduceReplicate,reduceIte,Bool.false_eq_true,if_false,if_true,n13,n14,n15,hL]<;>rfl) rfl ?_
                  exact .inl ⟨(zH KF),(zK KG),(ka m13),(ka m14),(ka m15),(by (have e12:more L 12 12=true:=zv);(have e13:more L 12 13=L 13:=za (by decide));(have e14:more L 12 14=L 14:=za (by decide));(have e15:more L 12 15=L 15:=za (by decide));(try simp only [e12,e13,e14,e15,n13,n14,n15,hL]);first | done | rfl | (simp only [e12,e13,e14,e15,n13,n14,n15,hL,if_true,if_false,Bool.false_eq_true];first | done | rfl | (simp (disch:=first|exact zb|fail) only [go_sem,seval,-List.reduceReplicate,e12,e13,e14,e15,n13,n14,n15,hL]<;>rfl)))⟩
                · cases ho
                  have n14:=zu m14 hL
                  have n15:=zu m15 hL
                  cases e0:L 12
                  · skip
                    (try simp only [n14,n15,hL,e0,if_true,if_false,Bool.false_eq_true])
                    refine yh (.ptr (qB H T+1) 0) rfl rfl (by simp (disch:=first|exact zb|fail) only [go_sem,seval,-List.reduceReplicate,reduceIte,Bool.false_eq_true,if_false,if_true,n14,n15,hL,e0]<;>rfl) rfl ?_
                    exact .inr ⟨(zH KF),(kIj KG e0),(fun _=>kt1),(ka m14),(ka m15),(by (have e12:more L 13 12=L 12:=za (by decide));(have e13:more L 13 13=true:=zv);(have e14:more L 13 14=L 14:=za (by decide));(have e15:more L 13 15=L 15:=za (by decide));(try simp only [e12,e13,e14,e15,n14,n15,hL,e0]);first | done | rfl | (simp only [e12,e13,e14,e15,n14,n15,hL,e0,if_true,if_false,Bool.false_eq_true];first | done | rfl | (simp (disch:=first|exact zb|fail) only [go_sem,seval,-List.reduceReplicate,e12,e13,e14,e15,n14,n15,hL,e0]<;>rfl)))⟩
                  · have h12:L 12=true:=e0
                    (try simp only [h12,n14,n15,hL,if_true,if_false,Bool.false_eq_true])
                    refine yh (.ptr (qB H T+2) 0) rfl rfl (by simp (disch:=first|exact zb|fail) only [go_sem,seval,-List.reduceReplicate,reduceIte,Bool.false_eq_true,if_false,if_true,h12,n14,n15,hL]<;>rfl) rfl ?_
                    exact .inl ⟨(zH KF),(zK KG),(fun _=>kt (zc h12 zB)),(ka m14),(ka m15),(by (have e12:more L 13 12=L 12:=za (by decide));(have e13:more L 13 13=true:=zv);(have e14:more L 13 14=L 14:=za (by decide));(have e15:more L 13 15=L 15:=za (by decide));(try simp only [e12,e13,e14,e15,h12,n14,n15,hL]);first | done | rfl | (simp only [e12,e13,e14,e15,h12,n14,n15,hL,if_true,if_false,Bool.false_eq_true];first | done | rfl | (simp (disch:=first|exact zb|fail) only [go_sem,seval,-List.reduceReplicate,e12,e13,e14,e15,h12,n14,n15,hL]<;>rfl)))⟩
                · cases ho
                  have h0:=kL hall 3 rfl rfl
                  have h1:=kL hall 4 rfl rfl
                  have h2:=kL hall 5 rfl rfl
                  have h3:=kL hall 6 rfl rfl
                  have h4:=kL hall 7 rfl rfl
                  have h5:=kL hall 8 rfl rfl
                  have h6:=kL hall 9 rfl rfl
                  have h7:=kL hall 2 rfl rfl
                  have h8:=kL hall 11 rfl rfl
                  have h9:=kL hall 1 rfl rfl
                  have d9:=zw KG 9 rfl h9
                  have h12:=kL hall 0 rfl rfl
                  have d12:=zw KG 12 rfl h12
                  have h13:=kL hall 16 rfl rfl
                  have n15:=zu m15 hL
                  refine yd rfl rfl (by simp (disch:=first|exact zb|fail) only [go_sem,seval,-List.reduceReplicate,reduceIte,Bool.false_eq_true,if_false,if_true,d9,d12,h12,h13,n15,hL]<;>rfl) rfl ?_
                  exact .inl ⟨KF,(kIs KG),(ka m13),(fun _=>kt (zc h0 (zc h1 (zc h2 (zc h3 (zc h4 (zc h5 (zc h6 (zc h7 (zc h8 (zc h9 (zc h12 (zc h13 zB))))))))))))),(ka m15),(by (have e12:more L 14 12=L 12:=za (by decide));(have e13:more L 14 13=L 13:=za (by decide));(have e14:more L 14 14=true:=zv);(have e15:more L 14 15=L 15:=za (by decide));(try simp only [e12,e13,e14,e15,h12,h13,n15,hL]);first | done | rfl | (simp only [e12,e13,e14,e15,h12,h13,n15,hL,if_true,if_false,Bool.false_eq_true];first | done | rfl | (simp (disch:=first|exact zb|fail) only [go_sem,seval,-List.reduceReplicate,e12,e13,e14,e15,h12,h13,n15,hL]<;>rfl)))⟩
                · cases ho
                  have h0:=kL hall 3 rfl rfl
                  have h1:=kL hall 4 rfl rfl
                  have h2:=kL hall 5 rfl rfl
                  have h3:=kL hall 6 rfl rfl
                  have h4:=kL hall 7 rfl rfl
                  have h5:=kL hall 8 rfl rfl
                  have h6:=kL hall 9 rfl rfl
                  have h7:=kL hall 10 rfl rfl
                  have h8:=kL hall 11 rfl rfl
                  have h9:=kL hall 12 rfl rfl
                  have h10:=kL hall 1 rfl rfl
                  have d10:=zw KG 10 rfl h10
                  have h12:=kL hall 15 rfl rfl
                  have h13:=kL hall 0 rfl rfl
                  have d13:=zw KG 13 rfl h13
                  have h14:=kL hall 2 rfl rfl
                  refine yd rfl rfl (by simp (disch:=first|exact zb|fail) only [go_sem,seval,-List.reduceReplicate,reduceIte,Bool.false_eq_true,if_false,if_true,d10,d13,h12,h13,h14,hL]<;>rfl) rfl ?_
                  exact .inl ⟨KF,(kIs KG),(ka m13),(ka m14),(fun _=>kt (zc h0 (zc h1 (zc h2 (zc h3 (zc h4 (zc h5 (zc h6 (zc h7 (zc h8 (zc h9 (zc h10 (zc h12 (zc h13 (zc h14 zB))))))))))))))),(by (have e12:more L 15 12=L 12:=za (by decide));(have e13:more L 15 13=L 13:=za (by decide));(have e14:more L 15 14=L 14:=za (by decide));(have e15:more L 15 15=true:=zv);(try simp only [e12,e13,e14,e15,h12,h13,h14,hL]);first | done | rfl | (simp only [e12,e13,e14,e15,h12,h13,h14,hL,if_true,if_false,Bool.false_eq_true];first | done | rfl | (simp (disch:=first|exact zb|fail) only [go_sem,seval,-List.reduceReplicate,e12,e13,e14,e15,h12,h13,h14,hL]<;>rfl)))⟩
                · cases ho
                  have h0:=kL hall 2 rfl rfl
                  have h1:=kL hall 3 rfl rfl
                  have h2:=kL hall 4 rfl rfl
                  have h3:=kL hall 5 rfl rfl
                  have h4:=kL hall 6 rfl rfl
                  have h5:=kL hall 7 rfl rfl
                  have h6:=kL hall 8 rfl rfl
                  have h7:=kL hall 9 rfl rfl
                  have h8:=kL hall 10 rfl rfl
                  have h9:=kL hall 11 rfl rfl
                  have h10:=kL hall 12 rfl rfl
                  have h11:=kL hall 0 rfl rfl
                  have d11:=zw KG 11 rfl h11
                  have h12:=kL hall 14 rfl rfl
                  have h13:=kL hall 15 rfl rfl
                  have h14:=kL hall 16 rfl rfl
                  have h15:=kL hall 1 rfl rfl
                  refine zf (.p (i64 c3)) rfl rfl (by simp (disch:=first|exact zb|fail) only [go_sem,seval,-List.reduceReplicate,reduceIte,Bool.false_eq_true,if_false,if_true,d11,h12,h13,h14,h15]<;>rfl) rfl ?_
                  exact .inl ⟨(zH KF),(zK KG),(ka m13),(ka m14),(ka m15),(by rw [za (by decide),za (by decide),za (by decide),za (by decide)])⟩
                · simp at ho
              · obtain ⟨KF,KG,m12,m14,m15,rfl⟩:=hI
                rcases i with _ | _ | _ | _ | _ | _ | _ | _ | _ | _ | _ | _ | _ | _ | _ | _ | _ | i
                · cases ho
                  have n14:=zu m14 hL
                  have n15:=zu m15 hL
                  have f4:=zU KF 4 rfl
                  refine zf (.ref (H.n+2) 0 2 78) rfl rfl (by simp (disch:=first|exact zb|fail) only [go_sem,seval,-List.reduceReplicate,reduceIte,Bool.false_eq_true,if_false,if_true,f4,n14,n15]<;>rfl) rfl ?_
                  exact .inr ⟨(zH KF),(zK KG),(ka m12),(ka m14),(ka m15),(by rw [za (by decide),za (by decide),za (by decide),za (by decide)])⟩
                · cases ho
                  have n14:=zu m14 hL
                  have n15:=zu m15 hL
                  have f8:=zU KF 8 rfl
                  refine zf (.p (i64 k)) rfl rfl (by simp (disch:=first|exact zb|fail) only [go_sem,seval,-List.reduceReplicate,reduceIte,Bool.false_eq_true,if_false,if_true,f8,n14,n15]<;>rfl) rfl ?_
                  exact .inr ⟨(zH KF),(zK KG),(ka m12),(ka m14),(ka m15),(by rw [za (by decide),za (by decide),za (by decide),za (by decide)])⟩
                · cases ho
                  have h0:=kL hall 0 rfl rfl
                  have d0:=zw KG 0 rfl h0
                  have h1:=kL hall 1 rfl rfl
                  have d1:=zw KG 1 rfl h1
                  have n14:=zu m14 hL
                  have n15:=zu m15 hL
                  refine zf (.ptr (H.n+2) (k*78)) rfl rfl (by simp (disch:=first|exact zb|fail) only [go_sem,seval,-List.reduceReplicate,reduceIte,Bool.false_eq_true,if_false,if_true,d0,d1,n14,n15]<;>rfl) rfl ?_
                  exact .inr ⟨(zH KF),(zK KG),(ka m12),(ka m14),(ka m15),(by rw [za (by decide),za (by decide),za (by decide),za (by decide)])⟩
                · cases ho
                  have h2:=kL hall 0 rfl rfl
                  have d2:=zw KG 2 rfl h2
                  have n14:=zu m14 hL
                  have n15:=zu m15 hL
                  refine zf (.p (yG (p k))) rfl rfl (by simp (disch:=first|exact zb|fail) only [go_sem,seval,-List.reduceReplicate,reduceIte,Bool.false_eq_true,if_false,if_true,d2,n14,n15]<;>rfl) rfl ?_
                  exact .inr ⟨(zH KF),(zK KG),(ka m12),(ka m14),(ka m15),(by rw [za (by decide),za (by decide),za (by decide),za (by decide)])⟩
                · cases ho
                  have n14:=zu m14 hL
                  have n15:=zu m15 hL
                  have f5:=zU KF 5 rfl
                  refine zf (.sl (H.n+3) P.length 1 (pl (sle 1 b8) P)) rfl rfl (by simp (disch:=first|exact zb|fail) only [go_sem,seval,-List.reduceReplicate,reduceIte,Bool.false_eq_true,if_false,if_true,f5,n14,n15]<;>rfl) rfl ?_
                  exact .inr ⟨(zH KF),(zK KG),(ka m12),(ka m14),(ka m15),(by rw [za (by decide),za (by decide),za (by decide),za (by decide)])⟩
                · cases ho
                  have n14:=zu m14 hL
                  have n15:=zu m15 hL
                  have f7:=zU KF 7 rfl
                  refine zf (.p (act x)) rfl rfl (by simp (disch:=first|exact zb|fail) only [go_sem,seval,-List.reduceReplicate,reduceIte,Bool.false_eq_true,if_false,if_true,f7,n14,n15]<;>rfl) rfl ?_
                  exact .inr ⟨(zH KF),(zK KG),(ka m12),(ka m14),(ka m15),(by rw [za (by decide),za (by decide),za (by decide),za (by decide)])⟩
                · cases ho
                  have h4:=kL hall 0 rfl rfl
                  have d4:=zw KG 4 rfl h4
                  have h5:=kL hall 1 rfl rfl
                  have d5:=zw KG 5 rfl h5
                  have n14:=zu m14 hL
                  have n15:=zu m15 hL
                  (try simp only [n14,n15,if_true,if_false,Bool.false_eq_true])
                  refine yi rfl rfl (by simp (disch:=first|exact zb|fail) only [go_sem,seval,-List.reduceReplicate,reduceIte,Bool.false_eq_true,if_false,if_true,d4,d5,n14,n15]<;>rfl) rfl (by simp (disch:=first|exact zb|fail) only [go_sem,seval,-List.reduceReplicate,reduceIte,Bool.false_eq_true,if_false,if_true,d4,d5,n14,n15]<;>rfl) (fun R h=>hpk _ _ _ R h) ?_
                  exact .inr ⟨(zH KF),(zK KG),(ka m12),(ka m14),(ka m15),(by (have e12:more L 6 12=L 12:=za (by decide));(have e13:more L 6 13=L 13:=za (by decide));(have e14:more L 6 14=L 14:=za (by decide));(have e15:more L 6 15=L 15:=za (by decide));(try simp only [e12,e13,e14,e15,n14,n15]);first | done | rfl | (simp only [e12,e13,e14,e15,n14,n15,if_true,if_false,Bool.false_eq_true];first | done | rfl | (simp (disch:=first|exact zb|fail) only [go_sem,seval,-List.reduceReplicate,e12,e13,e14,e15,n14,n15]<;>rfl)))⟩
                · cases ho
                  have h3:=kL hall 0 rfl rfl
                  have d3:=zw KG 3 rfl h3
                  have h6:=kL hall 1 rfl rfl
                  have d6:=zw KG 6 rfl h6
                  have n14:=zu m14 hL
                  have n15:=zu m15 hL
                  (try simp only [n14,n15,if_true,if_false,Bool.false_eq_true])
                  refine yi rfl rfl (by simp (disch:=first|exact zb|fail) only [go_sem,seval,-List.reduceReplicate,reduceIte,Bool.false_eq_true,if_false,if_true,d3,d6,n14,n15]<;>rfl) rfl (by simp (disch:=first|exact zb|fail) only [go_sem,seval,-List.reduceReplicate,reduceIte,Bool.false_eq_true,if_false,if_true,d3,d6,n14,n15]<;>rfl) (fun R h=>hrc _ _ _ R h) ?_
                  exact .inr ⟨(zH KF),(zK KG),(ka m12),(ka m14),(ka m15),(by (have e12:more L 7 12=L 12:=za (by decide));(have e13:more L 7 13=L 13:=za (by decide));(have e14:more L 7 14=L 14:=za (by decide));(have e15:more L 7 15=L 15:=za (by decide));(try simp only [e12,e13,e14,e15,n14,n15]);first | done | rfl | (simp only [e12,e13,e14,e15,n14,n15,if_true,if_false,Bool.false_eq_true];first | done | rfl | (simp (disch:=first|exact zb|fail) only [go_sem,seval,-List.reduceReplicate,e12,e13,e14,e15,n14,n15]<;>rfl)))⟩
                · cases ho
                  have h7:=kL hall 0 rfl rfl
                  have d7:=zw KG 7 rfl h7
                  have n14:=zu m14 hL
                  have n15:=zu m15 hL
                  refine zf (.tup [.p (yG S3),.p (msg M3),.p (i64 c3)]) rfl rfl (by simp (disch:=first|exact zb|fail) only [go_sem,seval,-List.reduceReplicate,reduceIte,Bool.false_eq_true,if_false,if_true,d7,n14,n15]<;>rfl) rfl ?_
                  exact .inr ⟨(zH KF),(zK KG),(ka m12),(ka m14),(ka m15),(by rw [za (by decide),za (by decide),za (by decide),za (by decide)])⟩
                · cases ho
                  have h8:=kL hall 0 rfl rfl
                  have d8:=zw KG 8 rfl h8
                  have n14:=zu m14 hL
                  have n15:=zu m15 hL
                  refine zf (.p (yG S3)) rfl rfl (by simp (disch:=first|exact zb|fail) only [go_sem,seval,-List.reduceReplicate,reduceIte,Bool.false_eq_true,if_false,if_true,d8,n14,n15]<;>rfl) rfl ?_
                  exact .inr ⟨(zH KF),(zK KG),(ka m12),(ka m14),(ka m15),(by rw [za (by decide),za (by decide),za (by decide),za (by decide)])⟩
                · cases ho
                  have h8:=kL hall 0 rfl rfl
                  have d8:=zw KG 8 rfl h8
                  have n15:=zu m15 hL
                  refine zf (.p (msg M3)) rfl rfl (by simp (disch:=first|exact zb|fail) only [go_sem,seval,-List.reduceReplicate,reduceIte,Bool.false_eq_true,if_false,if_true,d8,n15]<;>rfl) rfl ?_
                  exact .inr ⟨(zH KF),(zK KG),(ka m12),(ka m14),(ka m15),(by rw [za (by decide),za (by decide),za (by decide),za (by decide)])⟩
                · cases ho
                  have h8:=kL hall 0 rfl rfl
                  have d8:=zw KG 8 rfl h8
                  refine zf (.p (i64 c3)) rfl rfl (by simp (disch:=first|exact zb|fail) only [go_sem,seval,-List.reduceReplicate,d8]<;>rfl) rfl ?_
                  exact .inr ⟨(zH KF),(zK KG),(ka m12),(ka m14),(ka m15),(by rw [za (by decide),za (by decide),za (by decide),za (by decide)])⟩
                · cases ho
                  have n14:=zu m14 hL
                  have n15:=zu m15 hL
                  cases e0:L 13
                  · skip
                    (try simp only [n14,n15,hL,e0,if_true,if_false,Bool.false_eq_true])
                    refine yh (.ptr (qB H T+1) 0) rfl rfl (by simp (disch:=first|exact zb|fail) only [go_sem,seval,-List.reduceReplicate,reduceIte,Bool.false_eq_true,if_false,if_true,n14,n15,hL,e0]<;>rfl) rfl ?_
                    exact .inl ⟨(zH KF),(kIj KG e0),(fun _=>kt1),(ka m14),(ka m15),(by (have e12:more L 12 12=true:=zv);(have e13:more L 12 13=L 13:=za (by decide));(have e14:more L 12 14=L 14:=za (by decide));(have e15:more L 12 15=L 15:=za (by decide));(try simp only [e12,e13,e14,e15,n14,n15,hL,e0]);first | done | rfl | (simp only [e12,e13,e14,e15,n14,n15,hL,e0,if_true,if_false,Bool.false_eq_true];first | done | rfl | (simp (disch:=first|exact zb|fail) only [go_sem,seval,-List.reduceReplicate,e12,e13,e14,e15,n14,n15,hL,e0]<;>rfl)))⟩
                  · have h13:L 13=true:=e0
                    (try simp only [h13,n14,n15,hL,if_true,if_false,Bool.false_eq_true])
                    refine yh (.ptr (qB H T+2) 0) rfl rfl (by simp (disch:=first|exact zb|fail) only [go_sem,seval,-List.reduceReplicate,reduceIte,Bool.false_eq_true,if_false,if_true,h13,n14,n15,hL]<;>rfl) rfl ?_
                    exact .inr ⟨(zH KF),(zK KG),(fun _=>kt (zc h13 zB)),(ka m14),(ka m15),(by (have e12:more L 12 12=true:=zv);(have e13:more L 12 13=L 13:=za (by decide));(have e14:more L 12 14=L 14:=za (by decide));(have e15:more L 12 15=L 15:=za (by decide));(try simp only [e12,e13,e14,e15,h13,n14,n15,hL]);first | done | rfl | (simp only [e12,e13,e14,e15,h13,n14,n15,hL,if_true,if_false,Bool.false_eq_true];first | done | rfl | (simp (disch:=first|exact zb|fail) only [go_sem,seval,-List.reduceReplicate,e12,e13,e14,e15,h13,n14,n15,hL]<;>rfl)))⟩
                · cases ho
                  have n12:=zu m12 hL
                  have n14:=zu m14 hL
                  have n15:=zu m15 hL
                  (try simp only [n12,n14,n15,hL,if_true,if_false,Bool.false_eq_true])
                  refine yh (.ptr (qB H T+1) 0) rfl rfl (by simp (disch:=first|exact zb|fail) only [go_sem,seval,-List.reduceReplicate,reduceIte,Bool.false_eq_true,if_false,if_true,n12,n14,n15,hL]<;>rfl) rfl ?_
                  exact .inr ⟨(zH KF),(zK KG),(ka m12),(ka m14),(ka m15),(by (have e12:more L 13 12=L 12:=za (by decide));(have e13:more L 13 13=true:=zv);(have e14:more L 13 14=L 14:=za (by decide));(have e15:more L 13 15=L 15:=za (by decide));(try simp only [e12,e13,e14,e15,n12,n14,n15,hL]);first | done | rfl | (simp only [e12,e13,e14,e15,n12,n14,n15,hL,if_true,if_false,Bool.false_eq_true];first | done | rfl | (simp (disch:=first|exact zb|fail) only [go_sem,seval,-List.reduceReplicate,e12,e13,e14,e15,n12,n14,n15,hL]<;>rfl)))⟩
                · cases ho
                  have h0:=kL hall 3 rfl rfl
                  have h1:=kL hall 4 rfl rfl
                  have h2:=kL hall 5 rfl rfl
                  have h3:=kL hall 6 rfl rfl
                  have h4:=kL hall 7 rfl rfl
                  have h5:=kL hall 8 rfl rfl
                  have h6:=kL hall 9 rfl rfl
                  have h7:=kL hall 2 rfl rfl
                  have h8:=kL hall 11 rfl rfl
                  have h9:=kL hall 1 rfl rfl
                  have d9:=zw KG 9 rfl h9
                  have h12:=kL hall 0 rfl rfl
                  have d12:=zw KG 12 rfl h12
                  have h13:=kL hall 16 rfl rfl
                  have n15:=zu m15 hL
                  refine yd rfl rfl (by simp (disch:=first|exact zb|fail) only [go_sem,seval,-List.reduceReplicate,reduceIte,Bool.false_eq_true,if_false,if_true,d9,d12,h12,h13,n15,hL]<;>rfl) rfl ?_
                  exact .inr ⟨KF,(kIs KG),(ka m12),(fun _=>kt (zc h0 (zc h1 (zc h2 (zc h3 (zc h4 (zc h5 (zc h6 (zc h7 (zc h8 (zc h9 (zc h12 (zc h13 zB))))))))))))),(ka m15),(by (have e12:more L 14 12=L 12:=za (by decide));(have e13:more L 14 13=L 13:=za (by decide));(have e14:more L 14 14=true:=zv);(have e15:more L 14 15=L 15:=za (by decide));(try simp only [e12,e13,e14,e15,h12,h13,n15,hL]);first | done | rfl | (simp only [e12,e13,e14,e15,h12,h13,n15,hL,if_true,if_false,Bool.false_eq_true];first | done | rfl | (simp (disch:=first|exact zb|fail) only [go_sem,seval,-List.reduceReplicate,e12,e13,e14,e15,h12,h13,n15,hL]<;>rfl)))⟩
                · cases ho
                  have h0:=kL hall 3 rfl rfl
                  have h1:=kL hall 4 rfl rfl
                  have h2:=kL hall 5 rfl rfl
                  have h3:=kL hall 6 rfl rfl
                  have h4:=kL hall 7 rfl rfl
                  have h5:=kL hall 8 rfl rfl
                  have h6:=kL hall 9 rfl rfl
                  have h7:=kL hall 10 rfl rfl
                  have h8:=kL hall 11 rfl rfl
                  have h9:=kL hall 12 rfl rfl
                  have h10:=kL hall 1 rfl rfl
                  have d10:=zw KG 10 rfl h10
                  have h12:=kL hall 15 rfl rfl
                  have h13:=kL hall 0 rfl rfl
                  have d13:=zw KG 13 rfl h13
                  have h14:=kL hall 2 rfl rfl
                  refine yd rfl rfl (by simp (disch:=first|exact zb|fail) only [go_sem,seval,-List.reduceReplicate,reduceIte,Bool.false_eq_true,if_false,if_true,d10,d13,h12,h13,h14,hL]<;>rfl) rfl ?_
                  exact .inr ⟨KF,(kIs KG),(ka m12),(ka m14),(fun _=>kt (zc h0 (zc h1 (zc h2 (zc h3 (zc h4 (zc h5 (zc h6 (zc h7 (zc h8 (zc h9 (zc h10 (zc h12 (zc h13 (zc h14 zB))))))))))))))),(by (have e12:more L 15 12=L 12:=za (by decide));(have e13:more L 15 13=L 13:=za (by decide));(have e14:more L 15 14=L 14:=za (by decide));(have e15:more L 15 15=true:=zv);(try simp only [e12,e13,e14,e15,h12,h13,h14,hL]);first | done | rfl | (simp only [e12,e13,e14,e15,h12,h13,h14,hL,if_true,if_false,Bool.false_eq_true];first | done | rfl | (simp (disch:=first|exact zb|fail) only [go_sem,seval,-List.reduceReplicate,e12,e13,e14,e15,h12,h13,h14,hL]<;>rfl)))⟩
                · cases ho
                  have h0:=kL hall 2 rfl rfl
                  have h1:=kL hall 3 rfl rfl
                  have h2:=kL hall 4 rfl rfl
                  have h3:=kL hall 5 rfl rfl
                  have h4:=kL hall 6 rfl rfl
                  have h5:=kL hall 7 rfl rfl
                  have h6:=kL hall 8 rfl rfl
                  have h7:=kL hall 9 rfl rfl
                  have h8:=kL hall 10 rfl rfl
                  have h9:=kL hall 11 rfl rfl
                  have h10:=kL hall 12 rfl rfl
                  have h11:=kL hall 0 rfl rfl
                  have d11:=zw KG 11 rfl h11
                  have h12:=kL hall 14 rfl rfl
                  have h13:=kL hall 15 rfl rfl
                  have h14:=kL hall 16 rfl rfl
                  have h15:=kL hall 1 rfl rfl
                  refine zf (.p (i64 c3)) rfl rfl (by simp (disch:=first|exact zb|fail) only [go_sem,seval,-List.reduceReplicate,reduceIte,Bool.false_eq_true,if_false,if_true,d11,h12,h13,h14,h15]<;>rfl) rfl ?_
                  exact .inr ⟨(zH KF),(zK KG),(ka m12),(ka m14),(ka m15),(by rw [za (by decide),za (by decide),za (by decide),za (by decide)])⟩
                · simp at ho
            · intro L env' H' hall hI
              rcases hI with hI | hI
              (obtain ⟨KF,KG,_,_,_,rfl⟩:=hI;have l12:=hall 12 (by decide);have l13:=hall 13 (by decide);have l14:=hall 14 (by decide);have l15:=hall 15 (by decide);have f0:=zU KF 0 rfl;have f1:=zU KF 1 rfl;have f2:=zU KF 2 rfl;have f3:=zU KF 3 rfl;have f4:=zU KF 4 rfl;have f5:=zU KF 5 rfl;have f6:=zU KF 6 rfl;have f7:=zU KF 7 rfl;have f8:=zU KF 8 rfl;have g1:=zw KG 1 rfl (hall 1 (by decide));have g2:=zw KG 2 rfl (hall 2 (by decide));have g3:=zw KG 3 rfl (hall 3 (by decide));have g12:=zw KG 12 rfl (hall 12 (by decide));simp only [l12,l13,l14,l15,if_true];clear hall);rotate_left
              (obtain ⟨KF,KG,_,_,_,rfl⟩:=hI;have l12:=hall 12 (by decide);have l13:=hall 13 (by decide);have l14:=hall 14 (by decide);have l15:=hall 15 (by decide);have f0:=zU KF 0 rfl;have f1:=zU KF 1 rfl;have f2:=zU KF 2 rfl;have f3:=zU KF 3 rfl;have f4:=zU KF 4 rfl;have f5:=zU KF 5 rfl;have f6:=zU KF 6 rfl;have f7:=zU KF 7 rfl;have f8:=zU KF 8 rfl;have g1:=zw KG 1 rfl (hall 1 (by decide));have g2:=zw KG 2 rfl (hall 2 (by decide));have g3:=zw KG 3 rfl (hall 3 (by decide));have g12:=zw KG 12 rfl (hall 12 (by decide));simp only [l12,l13,l14,l15,if_true];clear hall);rotate_left
              · rw [zQF]
                (refine .q ?_);refine .text ?_;simp (disch:=first|exact zb|fail) only [go_sem,seval,-List.reduceReplicate,f0,f1,f2,f3,f4,f5,f6,f7,f8,g12]
                (refine .q ?_)
                refine ih _ _ ?_
                exact ⟨upd p k S3,P,P.length,[.cells (acl x),.cells (yC S3),.cells (mcl M3)],(by simp (disch:=first|exact zb|fail) only [go_sem,seval,-List.reduceReplicate,f0,f1,f2,f3,f4,f5,f6,f7,f8,g12]<;>(repeat' (first | rfl | refine And.intro ?_ ?_))),rfl,by simp,(zcV hp (by omega) gR),(by omega),hb⟩
              · rw [zQF]
                (refine .q ?_);refine .text ?_;simp (disch:=first|exact zb|fail) only [go_sem,seval,-List.reduceReplicate,f0,f1,f2,f3,f4,f5,f6,f7,f8,g12]
                (refine .q ?_)
                refine ih _ _ ?_
                exact ⟨upd p k S3,P,P.length,[.cells (acl x),.cells (mcl M3),.cells (yC S3)],(by simp (disch:=first|exact zb|fail) only [go_sem,seval,-List.reduceReplicate,f0,f1,f2,f3,f4,f5,f6,f7,f8,g12]<;>(repeat' (first | rfl | refine And.intro ?_ ?_))),rfl,by simp,(zcV hp (by omega) gR),(by omega),hb⟩
       · rintro env' H' ⟨p',P',v',L',⟨e0,e1,e4,e5,e6,e7,e8⟩,rfl,rfl,g1,g2,g3⟩
         (refine .q ?_);refine .text ?_;simp (disch:=first|exact zb|fail) only [go_sem,seval,-List.reduceReplicate,e8]
         first | (refine ihE ((⟨i+1,p',P',T++L'⟩:PlS)) _ _ ?_ ?_ ⟨by dsimp only;omega,g1,g2,g3⟩ ?_) | (refine .z rfl ?_;refine ihE ((⟨i+1,p',P',T++L'⟩:PlS)) _ _ ?_ ?_ ⟨by dsimp only;omega,g1,g2,g3⟩ ?_) | (refine .z rfl ?_;refine .z rfl ?_;refine ihE ((⟨i+1,p',P',T++L'⟩:PlS)) _ _ ?_ ?_ ⟨by dsimp only;omega,g1,g2,g3⟩ ?_) | (refine .z rfl ?_;refine .z rfl ?_;refine .z rfl ?_;refine ihE ((⟨i+1,p',P',T++L'⟩:PlS)) _ _ ?_ ?_ ⟨by dsimp only;omega,g1,g2,g3⟩ ?_)
         rotate_left 1
         · simp (disch:=first|exact zb|fail) only [go_sem,seval,-List.reduceReplicate,e0,e1,e4,e5,e6,e7,e8,zBa]<;>(repeat' (first | rfl | refine And.intro ?_ ?_))
         · first | rfl | (simp (disch:=first|exact zb|fail) only [go_sem,seval,-List.reduceReplicate,e0,e1,e4,e5,e6,e7,e8,zBa]<;>(try rfl))
         dsimp only;omega
     · have d2:decide ((i:Int) < 40)=false:=decide_eq_false (by omega)
       have hi40:i=40:=by omega
       subst hi40
       (refine .q ?_);refine .text ?_;simp (disch:=first|exact zb|fail) only [go_sem,seval,-List.reduceReplicate,E,d1,d2]
       (refine .q ?_);refine .ifF (by simp (disch:=first|exact zb|fail) only [go_sem,seval,-List.reduceReplicate]) ?_
       rw [zBd]
       have hbel:=fun o o'=>zBc (o:=o) (o':=o') (p:=p) (v:=P.length) (T:=T) hbel
       (refine .q ?_)
       refine .openInv (fun L env' H'=>kF env' [(4,.ptr H.n 0),(5,.ptr (H.n+1) 0),(6,.ref (H.n+2) 0 2 78)]∧kI L env' [(0,173,.ref (H.n+2) 0 2 78),(1,174,.ptr (H.n+2) 0),(2,175,.p (yG (p 0))),(3,176,.ref (H.n+2) 0 2 78),(4,177,.ptr (H.n+2) 78),(5,178,.p (yG (p 1)))]∧(L 6=true → allT L [0,1,2])∧(L 7=true → allT L [0,1,2,3,4,5,6])∧H'=(pR H (if L 6 then yC (p 0) else nC 0 0) (if L 7 then yC (p 1) else nC 0 0) p P.length T)) follows (by kernel_rfl) ?_ ?_ ?_
       · exact ⟨(yQ (by simp (disch:=first|exact zb|fail) only [go_sem,seval,-List.reduceReplicate,E,yt,yu]) (yQ (by simp (disch:=first|exact zb|fail) only [go_sem,seval,-List.reduceReplicate,E,yt,yu]) (yQ (by simp (disch:=first|exact zb|fail) only [go_sem,seval,-List.reduceReplicate,E,yt,yu]) kF0))),(fun _ _ h=>by cases h),(fun h=>by cases h),(fun h=>by cases h),(by first | rfl | (simp only [Bool.false_eq_true,if_false];first | rfl | (simp (disch:=first|exact zb|fail) only [go_sem,seval,-List.reduceReplicate,E,yt,yu]<;>rfl)))⟩
       · intro i o L env' H' ho hL hall hI
         obtain ⟨KF,KG,m6,m7,rfl⟩:=hI
         rcases i with _ | _ | _ | _ | _ | _ | _ | _ | i
         · cases ho
           have n6:=zu m6 hL
           have n7:=zu m7 hL
           have f2:=zU KF 2 rfl
           refine zf (.ref (H.n+2) 0 2 78) rfl rfl (by simp (disch:=first|exact zb|fail) only [go_sem,seval,-List.reduceReplicate,reduceIte,Bool.false_eq_true,if_false,if_true,f2,n6,n7,hL,yt,yu]<;>rfl) rfl ?_
           exact ⟨(zH KF),(zK KG),(ka m6),(ka m7),(by rw [za (by decide),za (by decide)])⟩
         · cases ho
           have h0:=kL hall 0 rfl rfl
           have d0:=zw KG 0 rfl h0
           have n6:=zu m6 hL
           have n7:=zu m7 hL
           refine zf (.ptr (H.n+2) 0) rfl rfl (by simp (disch:=first|exact zb|fail) only [go_sem,seval,-List.reduceReplicate,reduceIte,Bool.false_eq_true,if_false,if_true,d0,n6,n7,hL,yt,yu]<;>rfl) rfl ?_
           exact ⟨(zH KF),(zK KG),(ka m6),(ka m7),(by rw [za (by decide),za (by decide)])⟩
         · cases ho
           have h1:=kL hall 0 rfl rfl
           have d1:=zw KG 1 rfl h1
           have n6:=zu m6 hL
           have n7:=zu m7 hL
           refine zf (.p (yG (p 0))) rfl rfl (by simp (disch:=first|exact zb|fail) only [go_sem,seval,-List.reduceReplicate,reduceIte,Bool.false_eq_true,if_false,if_true,d1,n6,n7,hL,yt,yu]<;>rfl) rfl ?_
           exact ⟨(zH KF),(zK KG),(ka m6),(ka m7),(by rw [za (by decide),za (by decide)])⟩
         · cases ho
           have n7:=zu m7 hL
           have f2:=zU KF 2 rfl
           refine zf (.ref (H.n+2) 0 2 78) rfl rfl (by simp (disch:=first|exact zb|fail) only [go_sem,seval,-List.reduceReplicate,reduceIte,Bool.false_eq_true,if_false,if_true,f2,n7,hL,yt,yu]<;>rfl) rfl ?_
           exact ⟨(zH KF),(zK KG),(ka m6),(ka m7),(by rw [za (by decide),za (by decide)])⟩
         · cases ho
           have h3:=kL hall 0 rfl rfl
           have d3:=zw KG 3 rfl h3
           have n7:=zu m7 hL
           refine zf (.ptr (H.n+2) 78) rfl rfl (by simp (disch:=first|exact zb|fail) only [go_sem,seval,-List.reduceReplicate,reduceIte,Bool.false_eq_true,if_false,if_true,d3,n7,hL,yt,yu]<;>rfl) rfl ?_
           exact ⟨(zH KF),(zK KG),(ka m6),(ka m7),(by rw [za (by decide),za (by decide)])⟩
         · cases ho
           have h4:=kL hall 0 rfl rfl
           have d4:=zw KG 4 rfl h4
           have n7:=zu m7 hL
           refine zf (.p (yG (p 1))) rfl rfl (by simp (disch:=first|exact zb|fail) only [go_sem,seval,-List.reduceReplicate,reduceIte,Bool.false_eq_true,if_false,if_true,d4,n7,hL,yt,yu]<;>rfl) rfl ?_
           exact ⟨(zH KF),(zK KG),(ka m6),(ka m7),(by rw [za (by decide),za (by decide)])⟩
         · cases ho
           have h2:=kL hall 0 rfl rfl
           have d2:=zw KG 2 rfl h2
           have h0:=kL hall 1 rfl rfl
           have h1:=kL hall 2 rfl rfl
           have n7:=zu m7 hL
           have f0:=zU KF 0 rfl
           refine yd rfl rfl (by simp (disch:=first|exact zb|fail) only [go_sem,seval,-List.reduceReplicate,reduceIte,Bool.false_eq_true,if_false,if_true,f0,d2,n7,hL,yt,yu]<;>rfl) rfl ?_
           exact ⟨KF,(kIs KG),(fun _=>kt (zc h0 (zc h1 (zc h2 zB)))),(ka m7),(by (have e6:more L 6 6=true:=zv);(have e7:more L 6 7=L 7:=za (by decide));(try simp only [e6,e7,n7,hL]);first | done | rfl | (simp only [e6,e7,n7,hL,if_true,if_false,Bool.false_eq_true];first | done | rfl | (simp (disch:=first|exact zb|fail) only [go_sem,seval,-List.reduceReplicate,e6,e7,n7,hL,yt,yu]<;>rfl)))⟩
         · cases ho
           have h5:=kL hall 0 rfl rfl
           have d5:=zw KG 5 rfl h5
           have h6:=kL hall 1 rfl rfl
           have h0:=kL hall 2 rfl rfl
           have h1:=kL hall 3 rfl rfl
           have h2:=kL hall 4 rfl rfl
           have h3:=kL hall 5 rfl rfl
           have h4:=kL hall 6 rfl rfl
           have f1:=zU KF 1 rfl
           refine yd rfl rfl (by simp (disch:=first|exact zb|fail) only [go_sem,seval,-List.reduceReplicate,reduceIte,Bool.false_eq_true,if_false,if_true,f1,d5,h6,hL,yt,yu]<;>rfl) rfl ?_
           exact ⟨KF,(kIs KG),(ka m6),(fun _=>kt (zc h0 (zc h1 (zc h2 (zc h3 (zc h4 (zc h5 (zc h6 zB)))))))),(by (have e6:more L 7 6=L 6:=za (by decide));(have e7:more L 7 7=true:=zv);(try simp only [e6,e7,h6,hL]);first | done | rfl | (simp only [e6,e7,h6,hL,if_true,if_false,Bool.false_eq_true];first | done | rfl | (simp (disch:=first|exact zb|fail) only [go_sem,seval,-List.reduceReplicate,e6,e7,h6,hL,yt,yu]<;>rfl)))⟩
         · simp at ho
       · intro L env' H' hall hI
         obtain ⟨KF,KG,_,_,rfl⟩:=hI
         have l6:=hall 6 (by decide)
         have l7:=hall 7 (by decide)
         have f0:=zU KF 0 rfl
         have f1:=zU KF 1 rfl
         have f2:=zU KF 2 rfl
         simp only [l6,l7,if_true]
         clear hall
         (refine .q ?_);refine .rt Tryd.func26 (by rw [Tryd.results26]) (hx:=by simp (disch:=first|exact zb|fail) only [go_sem,seval,-List.reduceReplicate,f0,f1,ze2];rfl) (hR := ?_);simp (disch:=first|exact zb|fail) only [go_sem,seval,-List.reduceReplicate,f0,f1,ze2]
         exact h _ _ (hp 0 (by decide)) (hp 1 (by decide))
   · have d1:decide ((i:Int) < (l.length:Int))=false:=decide_eq_false (by omega)
     (refine .q ?_);refine .text ?_;simp (disch:=first|exact zb|fail) only [go_sem,seval,-List.reduceReplicate,E,d1]
     (refine .q ?_);refine .ifF (by simp (disch:=first|exact zb|fail) only [go_sem,seval,-List.reduceReplicate]) ?_
     rw [zBd]
     have hbel:=fun o o'=>zBc (o:=o) (o':=o') (p:=p) (v:=P.length) (T:=T) hbel
     (refine .q ?_)
     refine .openInv (fun L env' H'=>kF env' [(4,.ptr H.n 0),(5,.ptr (H.n+1) 0),(6,.ref (H.n+2) 0 2 78)]∧kI L env' [(0,173,.ref (H.n+2) 0 2 78),(1,174,.ptr (H.n+2) 0),(2,175,.p (yG (p 0))),(3,176,.ref (H.n+2) 0 2 78),(4,177,.ptr (H.n+2) 78),(5,178,.p (yG (p 1)))]∧(L 6=true → allT L [0,1,2])∧(L 7=true → allT L [0,1,2,3,4,5,6])∧H'=(pR H (if L 6 then yC (p 0) else nC 0 0) (if L 7 then yC (p 1) else nC 0 0) p P.length T)) follows (by kernel_rfl) ?_ ?_ ?_
     · exact ⟨(yQ (by simp (disch:=first|exact zb|fail) only [go_sem,seval,-List.reduceReplicate,E,yt,yu]) (yQ (by simp (disch:=first|exact zb|fail) only [go_sem,seval,-List.reduceReplicate,E,yt,yu]) (yQ (by simp (disch:=first|exact zb|fail) only [go_sem,seval,-List.reduceReplicate,E,yt,yu]) kF0))),(fun _ _ h=>by cases h),(fun h=>by cases h),(fun h=>by cases h),(by first | rfl | (simp only [Bool.false_eq_true,if_false];first | rfl | (simp (disch:=first|exact zb|fail) only [go_sem,seval,-List.reduceReplicate,E,yt,yu]<;>rfl)))⟩
     · intro i o L env' H' ho hL hall hI
       obtain ⟨KF,KG,m6,m7,rfl⟩:=hI
       rcases i with _ | _ | _ | _ | _ | _ | _ | _ | i
       · cases ho
         have n6:=zu m6 hL
         have n7:=zu m7 hL
         have f2:=zU KF 2 rfl
         refine zf (.ref (H.n+2) 0 2 78) rfl rfl (by simp (disch:=first|exact zb|fail) only [go_sem,seval,-List.reduceReplicate,reduceIte,Bool.false_eq_true,if_false,if_true,f2,n6,n7,hL,yt,yu]<;>rfl) rfl ?_
         exact ⟨(zH KF),(zK KG),(ka m6),(ka m7),(by rw [za (by decide),za (by decide)])⟩
       · cases ho
         have h0:=kL hall 0 rfl rfl
         have d0:=zw KG 0 rfl h0
         have n6:=zu m6 hL
         have n7:=zu m7 hL
         refine zf (.ptr (H.n+2) 0) rfl rfl (by simp (disch:=first|exact zb|fail) only [go_sem,seval,-List.reduceReplicate,reduceIte,Bool.false_eq_true,if_false,if_true,d0,n6,n7,hL,yt,yu]<;>rfl) rfl ?_
         exact ⟨(zH KF),(zK KG),(ka m6),(ka m7),(by rw [za (by decide),za (by decide)])⟩
       · cases ho
         have h1:=kL hall 0 rfl rfl
         have d1:=zw KG 1 rfl h1
         have n6:=zu m6 hL
         have n7:=zu m7 hL
         refine zf (.p (yG (p 0))) rfl rfl (by simp (disch:=first|exact zb|fail) only [go_sem,seval,-List.reduceReplicate,reduceIte,Bool.false_eq_true,if_false,if_true,d1,n6,n7,hL,yt,yu]<;>rfl) rfl ?_
         exact ⟨(zH KF),(zK KG),(ka m6),(ka m7),(by rw [za (by decide),za (by decide)])⟩
       · cases ho
         have n7:=zu m7 hL
         have f2:=zU KF 2 rfl
         refine zf (.ref (H.n+2) 0 2 78) rfl rfl (by simp (disch:=first|exact zb|fail) only [go_sem,seval,-List.reduceReplicate,reduceIte,Bool.false_eq_true,if_false,if_true,f2,n7,hL,yt,yu]<;>rfl) rfl ?_
         exact ⟨(zH KF),(zK KG),(ka m6),(ka m7),(by rw [za (by decide),za (by decide)])⟩
       · cases ho
         have h3:=kL hall 0 rfl rfl
         have d3:=zw KG 3 rfl h3
         have n7:=zu m7 hL
         refine zf (.ptr (H.n+2) 78) rfl rfl (by simp (disch:=first|exact zb|fail) only [go_sem,seval,-List.reduceReplicate,reduceIte,Bool.false_eq_true,if_false,if_true,d3,n7,hL,yt,yu]<;>rfl) rfl ?_
         exact ⟨(zH KF),(zK KG),(ka m6),(ka m7),(by rw [za (by decide),za (by decide)])⟩
       · cases ho
         have h4:=kL hall 0 rfl rfl
         have d4:=zw KG 4 rfl h4
         have n7:=zu m7 hL
         refine zf (.p (yG (p 1))) rfl rfl (by simp (disch:=first|exact zb|fail) only [go_sem,seval,-List.reduceReplicate,reduceIte,Bool.false_eq_true,if_false,if_true,d4,n7,hL,yt,yu]<;>rfl) rfl ?_
         exact ⟨(zH KF),(zK KG),(ka m6),(ka m7),(by rw [za (by decide),za (by decide)])⟩
       · cases ho
         have h2:=kL hall 0 rfl rfl
         have d2:=zw KG 2 rfl h2
         have h0:=kL hall 1 rfl rfl
         have h1:=kL hall 2 rfl rfl
         have n7:=zu m7 hL
         have f0:=zU KF 0 rfl
         refine yd rfl rfl (by simp (disch:=first|exact zb|fail) only [go_sem,seval,-List.reduceReplicate,reduceIte,Bool.false_eq_true,if_false,if_true,f0,d2,n7,hL,yt,yu]<;>rfl) rfl ?_
         exact ⟨KF,(kIs KG),(fun _=>kt (zc h0 (zc h1 (zc h2 zB)))),(ka m7),(by (have e6:more L 6 6=true:=zv);(have e7:more L 6 7=L 7:=za (by decide));(try simp only [e6,e7,n7,hL]);first | done | rfl | (simp only [e6,e7,n7,hL,if_true,if_false,Bool.false_eq_true];first | done | rfl | (simp (disch:=first|exact zb|fail) only [go_sem,seval,-List.reduceReplicate,e6,e7,n7,hL,yt,yu]<;>rfl)))⟩
       · cases ho
         have h5:=kL hall 0 rfl rfl
         have d5:=zw KG 5 rfl h5
         have h6:=kL hall 1 rfl rfl
         have h0:=kL hall 2 rfl rfl
         have h1:=kL hall 3 rfl rfl
         have h2:=kL hall 4 rfl rfl
         have h3:=kL hall 5 rfl rfl
         have h4:=kL hall 6 rfl rfl
         have f1:=zU KF 1 rfl
         refine yd rfl rfl (by simp (disch:=first|exact zb|fail) only [go_sem,seval,-List.reduceReplicate,reduceIte,Bool.false_eq_true,if_false,if_true,f1,d5,h6,hL,yt,yu]<;>rfl) rfl ?_
         exact ⟨KF,(kIs KG),(ka m6),(fun _=>kt (zc h0 (zc h1 (zc h2 (zc h3 (zc h4 (zc h5 (zc h6 zB)))))))),(by (have e6:more L 7 6=L 6:=za (by decide));(have e7:more L 7 7=true:=zv);(try simp only [e6,e7,h6,hL]);first | done | rfl | (simp only [e6,e7,h6,hL,if_true,if_false,Bool.false_eq_true];first | done | rfl | (simp (disch:=first|exact zb|fail) only [go_sem,seval,-List.reduceReplicate,e6,e7,h6,hL,yt,yu]<;>rfl)))⟩
       · simp at ho
     · intro L env' H' hall hI
       obtain ⟨KF,KG,_,_,rfl⟩:=hI
       have l6:=hall 6 (by decide)
       have l7:=hall 7 (by decide)
       have f0:=zU KF 0 rfl
       have f1:=zU KF 1 rfl
       have f2:=zU KF 2 rfl
       simp only [l6,l7,if_true]
       clear hall
       (refine .q ?_);refine .rt Tryd.func26 (by rw [Tryd.results26]) (hx:=by simp (disch:=first|exact zb|fail) only [go_sem,seval,-List.reduceReplicate,f0,f1,ze2];rfl) (hR := ?_);simp (disch:=first|exact zb|fail) only [go_sem,seval,-List.reduceReplicate,f0,f1,ze2]
       exact h _ _ ((hp 0 (by decide)).mono hi) ((hp 1 (by decide)).mono hi)
end walks
end Go.Proofs.YtmoecjgehdkhkaaDoor

/-
  Sessions: what happens after the deadline.
-/
namespace Go.Proofs.YtmoecjgehdkhkaaDoor
open Go Go.AL

def oB (B:Hp) (o:Option AB):Hp:=match o with | none=>B | some x=>B.new x
section ob
variable {B:Hp} {o:Option AB} {b k:Nat} {x y:AB}
theorem zRm (h:b < B.n):(oB B o).f b=B.f b:=by cases o with | none=>rfl | some x=>exact Hp.f_new_old _ _ _ h
theorem zRn:(oB B none).n=B.n:=rfl
theorem zOW:(oB B none).new x=oB B (some x):=rfl
theorem zJA (h:k=B.n):(oB B (some x)).f k=some x:=by subst h;show (B.new x).f B.n=_;rw [Hp.f_new,if_pos rfl]
theorem zOX (h:k=B.n):(oB B (some x)).set k y=oB B (some y):=by
 subst h;show (B.new x).set B.n y=B.new y
 simp (disch:=first|exact zb|fail) only [go_sem,seval]
theorem zBf {n:Nat} (h:n≤B.n):(oB B (some x)).trunc n=B.trunc n:=by
 show (B.new x).trunc n=_
 simp (disch:=first|exact zb|fail) only [go_sem,seval]
theorem zBg {n:Nat} (hb:Bel n B) (h:n≤B.n):Bel n (oB B (some x)):=zy hb h
end ob
attribute [go_sem] zRm zRn zOW zJA zOX zBf
theorem zgG {s:Ses} {m:Msg} (h:3≤s.state):send s m=(s,[],290):=by
 unfold send zgx
 rw [decide_eq_true h];rfl
theorem zgH {s:Ses} {b:By} {now:Int} (h:3≤s.state):recv s b now=(s,zM,290):=if_pos h
theorem zt3 {s:Ses} {b:By} {now:Int} (h : ¬ 3≤s.state) (h2:s.due < now):recv s b now=({ s with state:=5 },zM,291):=by
 unfold recv;rw [if_neg h,if_pos h2]
section walks
variable {G:Globs} {r1 r2:Nat} {m1:List (Int × Rule)} {m2:List (Int × Int)}
set_option maxHeartbeats 2000000 in
set_option maxRecDepth 20000 in
theorem zhg (g:GR G r1 r2 m1 m2) (l:List Act) (hl:l.length≤9223372036854775807) (hlm : ∀ i,i < l.length → (nth l i).m.text.length≤9223372036854775807∧(nth l i).m.sums.length≤9223372036854775807∧(nth l i).m.values.length≤9223372036854775807) (b:By) (hb:b.length≤9223372036854775807)
 (m:Msg) (h1:m.text.length≤9223372036854775807) (h2:m.sums.length≤9223372036854775807) (h3:m.values.length≤9223372036854775807) (H:Hp) (R:AV → Hp → Prop) (h:R (.p (bo true)) H) :
 ACall Tryd.prog G 6 [.p (.sl false 42 (pl act l)),.p (.sl false 1 (pl b8 b)),.p (msg m)] H R:=by
 refine ACall.of_run (raw:=[]) Tryd.func6 rfl Tryd.ntmps6 (by simp) fun hbel => ?_
 (refine .q ?_);refine .text ?_;simp (disch:=first|exact zb|fail) only [go_sem,seval,-List.reduceReplicate]
 (refine .q ?_);refine .text ?_;simp (disch:=first|exact zb|fail) only [go_sem,seval,-List.reduceReplicate]
 refine CallK.of (fun R h=>zl7 g _ R h) ?_;simp (disch:=first|exact zb|fail) only [go_sem,seval,-List.reduceReplicate]
 (refine .q ?_);refine .text ?_;simp (disch:=first|exact zb|fail) only [go_sem,seval,-List.reduceReplicate]
 refine CallK.ex (S:=fun r H' => ∃ a a2,r = .tup [.p (yG a),.p (yG a2)]∧H'=H.new (.cells (mcl m))∧Good 40 a∧Good 40 a2) (zt2 g l hl hlm _ _ fun a a2 ga ga2=>⟨a,a2,rfl,rfl,ga,ga2⟩) ?_
 rintro _ _ ⟨a,a2,rfl,rfl,ga,ga2⟩
 simp (disch:=first|exact zb|fail) only [go_sem,seval,-List.reduceReplicate]
 have hok:=ga.ok (by decide)
 have hcmp:=ga.cmp (by decide)
 have hdue:a.due < 101:=by rw [ga.due];decide
 have hst:=ga.step
 have hb0:3≤a.state ∨ a.due < 101 ∨ b.length≤140737488353000 := .inr (.inl hdue)
 have hce:((290:Int) == 290)=true:=rfl
 have hle:((([]:By).length:Int) == 0)=true:=rfl
 obtain ⟨n,hn,hn2⟩ : ∃ n:Nat,a.step % 256=(n:Int)∧n≤255:=⟨(a.step % 256).toNat,by omega,by omega⟩
 have hM:=zhR (m:=m) hn2
 have hmade : ∀ (B':Hp) R,R (.p (msg (zaT m n))) B' → ACall Tryd.prog G 8 [.p (msg m),.p (i64 n)] B' R:=fun B' R h=>zgB m h1 h2 h3 n hn2 B' R h
 generalize zaT m n=M at *
 (refine .q ?_);refine .text ?_;simp (disch:=first|exact zb|fail) only [go_sem,seval,-List.reduceReplicate]
 by_cases c:3≤a.state
 · have d:decide (3≤a.state)=true:=decide_eq_true c
   have hr:=zgH (b:=b) (now:=101) c
   have hsd:=zgG (m:=M) c
   have hsend : ∀ (B':Hp) R,R (.tup [.p (yG a),.p (.sl false 1 []),.p (i64 290)]) B' → ACall Tryd.prog G 19 [.p (yG a),.p (msg M)] B' R:=fun B' R h=>zat g a hok M hM B' R (by rw [hsd];exact h)
   refine CallK.of (fun R h=>zbW g a hok b 101 hb0 _ R h) ?_;simp (disch:=first|exact zb|fail) only [go_sem,seval,-List.reduceReplicate,hr]
   (refine .q ?_);refine .text ?_;simp (disch:=first|exact zb|fail) only [go_sem,seval,-List.reduceReplicate]
   (refine .q ?_);refine .ifT (by simp (disch:=first|exact zb|fail) only [go_sem,seval,-List.reduceReplicate,d]) ?_
   refine zgE fun B hB => ?_
   have hBn:B.n=H.n+5:=by rw [hB];simp only [Hp.n_new]
   have r0:B.f H.n=some (.cells (mcl m)):=by rw [hB];simp (disch:=first|exact zb|fail) only [go_sem,seval,-List.reduceReplicate]
   have ra:B.f (H.n+1)=some (.cells (yC a)):=by rw [hB];simp (disch:=first|exact zb|fail) only [go_sem,seval,-List.reduceReplicate]
   have rb:B.f (H.n+3)=some (.cells (yC a)):=by rw [hB];simp (disch:=first|exact zb|fail) only [go_sem,seval,-List.reduceReplicate]
   have hBt:B.trunc H.n=H:=by rw [hB];simp (disch:=first|exact zb|fail) only [go_sem,seval,-List.reduceReplicate]
   have hBb:Bel H.n B:=by
    rw [hB]
    exact zy (zy (zy (zy (zy hbel (Nat.le_refl _)) (by simp only [n_new'];omega)) (by simp only [n_new'];omega)) (by simp only [n_new'];omega)) (by simp only [n_new'];omega)
   clear hB
   have hbel : ∀ x,Bel H.n (oB B (some x)):=fun x=>zBg hBb (by omega)
   change ARun _ _ _ (oB B none) R
   (refine .q ?_)
   refine .openInv (fun L env' H'=>kF env' [(5,.ptr H.n 0),(7,.p (bo true)),(8,.ptr (H.n+1) 0),(10,.ptr (H.n+3) 0),(12,.p (i64 290))]∧kI L env' [(0,40,.p (yG a)),(1,41,.p (msg m)),(2,42,.ptr (H.n+1) 1),(3,43,.p (i64 a.step)),(4,44,.p (i64 n)),(5,45,.p (msg M)),(6,46,.tup [.p (yG a),.p (.sl false 1 []),.p (i64 290)]),(7,39,.tup [.p (yG a),.p (.sl false 1 []),.p (i64 290)]),(8,47,.p (yG a)),(9,48,.p (.sl false 1 [])),(10,49,.p (i64 290)),(11,13,.ptr (H.n+5) 0),(13,14,.p (.sl false 1 [])),(14,15,.p (i64 290))]∧(L 12=true → allT L [0,1,2,3,4,5,6,7,8,11])∧H'=(oB B (if L 12 then some (.cells (yC a)) else if L 11 then some (.cells (nC 0 0)) else none))) follows (by kernel_rfl) ?_ ?_ ?_
   · exact ⟨(yQ (by simp (disch:=first|exact zb|fail) only [go_sem,seval,-List.reduceReplicate,r0,ra,rb,hBn,hn,ze]) (yQ (by simp (disch:=first|exact zb|fail) only [go_sem,seval,-List.reduceReplicate,r0,ra,rb,hBn,hn,ze]) (yQ (by simp (disch:=first|exact zb|fail) only [go_sem,seval,-List.reduceReplicate,r0,ra,rb,hBn,hn,ze]) (yQ (by simp (disch:=first|exact zb|fail) only [go_sem,seval,-List.reduceReplicate,r0,ra,rb,hBn,hn,ze]) (yQ (by simp (disch:=first|exact zb|fail) only [go_sem,seval,-List.reduceReplicate,r0,ra,rb,hBn,hn,ze]) kF0))))),(fun _ _ h=>by cases h),(fun h=>by cases h),(by first | rfl | (simp only [Bool.false_eq_true,if_false];first | rfl | (simp (disch:=first|exact zb|fail) only [go_sem,seval,-List.reduceReplicate,r0,ra,rb,hBn,hn,ze]<;>rfl)))⟩
   · intro i o L env' H' ho hL hall hI
     obtain ⟨KF,KG,m12,rfl⟩:=hI
     rcases i with _ | _ | _ | _ | _ | _ | _ | _ | _ | _ | _ | _ | _ | _ | _ | i
     · cases ho
       have n12:=zu m12 hL
       have f2:=zU KF 2 rfl
       refine zf (.p (yG a)) rfl rfl (by simp (disch:=first|exact zb|fail) only [go_sem,seval,-List.reduceReplicate,reduceIte,Bool.false_eq_true,if_false,if_true,f2,n12,hL,r0,ra,rb,hBn,hn,ze]<;>rfl) rfl ?_
       exact ⟨(zH KF),(zK KG),(ka m12),(by rw [za (by decide),za (by decide)])⟩
     · cases ho
       have n12:=zu m12 hL
       have f0:=zU KF 0 rfl
       refine zf (.p (msg m)) rfl rfl (by simp (disch:=first|exact zb|fail) only [go_sem,seval,-List.reduceReplicate,reduceIte,Bool.false_eq_true,if_false,if_true,f0,n12,hL,r0,ra,rb,hBn,hn,ze]<;>rfl) rfl ?_
       exact ⟨(zH KF),(zK KG),(ka m12),(by rw [za (by decide),za (by decide)])⟩
     · cases ho
       have n12:=zu m12 hL
       have f2:=zU KF 2 rfl
       refine zf (.ptr (H.n+1) 1) rfl rfl (by simp (disch:=first|exact zb|fail) only [go_sem,seval,-List.reduceReplicate,reduceIte,Bool.false_eq_true,if_false,if_true,f2,n12,hL,r0,ra,rb,hBn,hn,ze]<;>rfl) rfl ?_
       exact ⟨(zH KF),(zK KG),(ka m12),(by rw [za (by decide),za (by decide)])⟩
     · cases ho
       have h2:=kL hall 0 rfl rfl
       have d2:=zw KG 2 rfl h2
       have n12:=zu m12 hL
       refine zf (.p (i64 a.step)) rfl rfl (by simp (disch:=first|exact zb|fail) only [go_sem,seval,-List.reduceReplicate,reduceIte,Bool.false_eq_true,if_false,if_true,d2,n12,hL,r0,ra,rb,hBn,hn,ze]<;>rfl) rfl ?_
       exact ⟨(zH KF),(zK KG),(ka m12),(by rw [za (by decide),za (by decide)])⟩
     · cases ho
       have h3:=kL hall 0 rfl rfl
       have d3:=zw KG 3 rfl h3
       have n12:=zu m12 hL
       refine zf (.p (i64 n)) rfl rfl (by simp (disch:=first|exact zb|fail) only [go_sem,seval,-List.reduceReplicate,reduceIte,Bool.false_eq_true,if_false,if_true,d3,n12,hL,r0,ra,rb,hBn,hn,ze]<;>rfl) rfl ?_
       exact ⟨(zH KF),(zK KG),(ka m12),(by rw [za (by decide),za (by decide)])⟩
     · cases ho
       have h1:=kL hall 0 rfl rfl
       have d1:=zw KG 1 rfl h1
       have h4:=kL hall 1 rfl rfl
       have d4:=zw KG 4 rfl h4
       have n12:=zu m12 hL
       (try simp only [n12,if_true,if_false,Bool.false_eq_true])
       refine yi rfl rfl (by simp (disch:=first|exact zb|fail) only [go_sem,seval,-List.reduceReplicate,reduceIte,Bool.false_eq_true,if_false,if_true,d1,d4,n12,hL,r0,ra,rb,hBn,hn,ze]<;>rfl) rfl (by simp (disch:=first|exact zb|fail) only [go_sem,seval,-List.reduceReplicate,reduceIte,Bool.false_eq_true,if_false,if_true,d1,d4,n12,hL,r0,ra,rb,hBn,hn,ze]<;>rfl) (fun R h=>hmade _ R h) ?_
       exact ⟨(zH KF),(zK KG),(ka m12),(by (have e11:more L 5 11=L 11:=za (by decide));(have e12:more L 5 12=L 12:=za (by decide));(try simp only [e11,e12,n12]);first | done | rfl | (simp only [e11,e12,n12,if_true,if_false,Bool.false_eq_true];first | done | rfl | (simp (disch:=first|exact zb|fail) only [go_sem,seval,-List.reduceReplicate,e11,e12,n12,r0,ra,rb,hBn,hn,ze]<;>rfl)))⟩
     · cases ho
       have h0:=kL hall 0 rfl rfl
       have d0:=zw KG 0 rfl h0
       have h5:=kL hall 1 rfl rfl
       have d5:=zw KG 5 rfl h5
       have n12:=zu m12 hL
       (try simp only [n12,if_true,if_false,Bool.false_eq_true])
       refine yi rfl rfl (by simp (disch:=first|exact zb|fail) only [go_sem,seval,-List.reduceReplicate,reduceIte,Bool.false_eq_true,if_false,if_true,d0,d5,n12,hL,r0,ra,rb,hBn,hn,ze]<;>rfl) rfl (by simp (disch:=first|exact zb|fail) only [go_sem,seval,-List.reduceReplicate,reduceIte,Bool.false_eq_true,if_false,if_true,d0,d5,n12,hL,r0,ra,rb,hBn,hn,ze]<;>rfl) (fun R h=>hsend _ R h) ?_
       exact ⟨(zH KF),(zK KG),(ka m12),(by (have e11:more L 6 11=L 11:=za (by decide));(have e12:more L 6 12=L 12:=za (by decide));(try simp only [e11,e12,n12]);first | done | rfl | (simp only [e11,e12,n12,if_true,if_false,Bool.false_eq_true];first | done | rfl | (simp (disch:=first|exact zb|fail) only [go_sem,seval,-List.reduceReplicate,e11,e12,n12,r0,ra,rb,hBn,hn,ze]<;>rfl)))⟩
     · cases ho
       have h6:=kL hall 0 rfl rfl
       have d6:=zw KG 6 rfl h6
       have n12:=zu m12 hL
       refine zf (.tup [.p (yG a),.p (.sl false 1 []),.p (i64 290)]) rfl rfl (by simp (disch:=first|exact zb|fail) only [go_sem,seval,-List.reduceReplicate,reduceIte,Bool.false_eq_true,if_false,if_true,d6,n12,hL,r0,ra,rb,hBn,hn,ze]<;>rfl) rfl ?_
       exact ⟨(zH KF),(zK KG),(ka m12),(by rw [za (by decide),za (by decide)])⟩
     · cases ho
       have h7:=kL hall 0 rfl rfl
       have d7:=zw KG 7 rfl h7
       have n12:=zu m12 hL
       refine zf (.p (yG a)) rfl rfl (by simp (disch:=first|exact zb|fail) only [go_sem,seval,-List.reduceReplicate,reduceIte,Bool.false_eq_true,if_false,if_true,d7,n12,hL,r0,ra,rb,hBn,hn,ze]<;>rfl) rfl ?_
       exact ⟨(zH KF),(zK KG),(ka m12),(by rw [za (by decide),za (by decide)])⟩
     · cases ho
       have h7:=kL hall 0 rfl rfl
       have d7:=zw KG 7 rfl h7
       refine zf (.p (.sl false 1 [])) rfl rfl (by simp (disch:=first|exact zb|fail) only [go_sem,seval,-List.reduceReplicate,d7,r0,ra,rb,hBn,hn,ze]<;>rfl) rfl ?_
       exact ⟨(zH KF),(zK KG),(ka m12),(by rw [za (by decide),za (by decide)])⟩
     · cases ho
       have h7:=kL hall 0 rfl rfl
       have d7:=zw KG 7 rfl h7
       refine zf (.p (i64 290)) rfl rfl (by simp (disch:=first|exact zb|fail) only [go_sem,seval,-List.reduceReplicate,d7,r0,ra,rb,hBn,hn,ze]<;>rfl) rfl ?_
       exact ⟨(zH KF),(zK KG),(ka m12),(by rw [za (by decide),za (by decide)])⟩
     · cases ho
       have n12:=zu m12 hL
       (try simp only [n12,hL,if_true,if_false,Bool.false_eq_true])
       refine yh (.ptr (H.n+5) 0) rfl rfl (by simp (disch:=first|exact zb|fail) only [go_sem,seval,-List.reduceReplicate,reduceIte,Bool.false_eq_true,if_false,if_true,n12,hL,r0,ra,rb,hBn,hn,ze]<;>rfl) rfl ?_
       exact ⟨(zH KF),(zK KG),(ka m12),(by (have e11:more L 11 11=true:=zv);(have e12:more L 11 12=L 12:=za (by decide));(try simp only [e11,e12,n12,hL]);first | done | rfl | (simp only [e11,e12,n12,hL,if_true,if_false,Bool.false_eq_true];first | done | rfl | (simp (disch:=first|exact zb|fail) only [go_sem,seval,-List.reduceReplicate,e11,e12,n12,hL,r0,ra,rb,hBn,hn,ze]<;>rfl)))⟩
     · cases ho
       have h11:=kL hall 0 rfl rfl
       have d11:=zw KG 11 rfl h11
       have h8:=kL hall 1 rfl rfl
       have d8:=zw KG 8 rfl h8
       have h6:=kL hall 2 rfl rfl
       have h0:=kL hall 3 rfl rfl
       have h1:=kL hall 4 rfl rfl
       have h2:=kL hall 5 rfl rfl
       have h3:=kL hall 6 rfl rfl
       have h4:=kL hall 7 rfl rfl
       have h5:=kL hall 8 rfl rfl
       have h7:=kL hall 10 rfl rfl
       refine yd rfl rfl (by simp (disch:=first|exact zb|fail) only [go_sem,seval,-List.reduceReplicate,reduceIte,Bool.false_eq_true,if_false,if_true,d8,d11,h11,hL,r0,ra,rb,hBn,hn,ze]<;>rfl) rfl ?_
       exact ⟨KF,(kIs KG),(fun _=>kt (zc h0 (zc h1 (zc h2 (zc h3 (zc h4 (zc h5 (zc h6 (zc h7 (zc h8 (zc h11 zB))))))))))),(by (have e11:more L 12 11=L 11:=za (by decide));(have e12:more L 12 12=true:=zv);(try simp only [e11,e12,h11,hL]);first | done | rfl | (simp only [e11,e12,h11,hL,if_true,if_false,Bool.false_eq_true];first | done | rfl | (simp (disch:=first|exact zb|fail) only [go_sem,seval,-List.reduceReplicate,e11,e12,h11,hL,r0,ra,rb,hBn,hn,ze]<;>rfl)))⟩
     · cases ho
       have h9:=kL hall 0 rfl rfl
       have d9:=zw KG 9 rfl h9
       have h12:=kL hall 1 rfl rfl
       have h11:=kL hall 13 rfl rfl
       refine zf (.p (.sl false 1 [])) rfl rfl (by simp (disch:=first|exact zb|fail) only [go_sem,seval,-List.reduceReplicate,reduceIte,Bool.false_eq_true,if_false,if_true,d9,h11,h12,hL,r0,ra,rb,hBn,hn,ze]<;>rfl) rfl ?_
       exact ⟨(zH KF),(zK KG),(ka m12),(by rw [za (by decide),za (by decide)])⟩
     · cases ho
       have h10:=kL hall 0 rfl rfl
       have d10:=zw KG 10 rfl h10
       have h11:=kL hall 13 rfl rfl
       have h12:=kL hall 14 rfl rfl
       refine zf (.p (i64 290)) rfl rfl (by simp (disch:=first|exact zb|fail) only [go_sem,seval,-List.reduceReplicate,reduceIte,Bool.false_eq_true,if_false,if_true,d10,h11,h12,hL,r0,ra,rb,hBn,hn,ze]<;>rfl) rfl ?_
       exact ⟨(zH KF),(zK KG),(ka m12),(by rw [za (by decide),za (by decide)])⟩
     · simp at ho
   · intro L env' H' hall hI
     obtain ⟨KF,KG,_,rfl⟩:=hI
     have l11:=hall 11 (by decide)
     have l12:=hall 12 (by decide)
     have f0:=zU KF 0 rfl
     have f1:=zU KF 1 rfl
     have f2:=zU KF 2 rfl
     have f3:=zU KF 3 rfl
     have f4:=zU KF 4 rfl
     have g11:=zw KG 11 rfl (hall 11 (by decide))
     have g13:=zw KG 12 rfl (hall 13 (by decide))
     have g14:=zw KG 13 rfl (hall 14 (by decide))
     simp only [l11,l12,if_true]
     clear hall
     (refine .q ?_);refine .text ?_;simp (disch:=first|exact zb|fail) only [go_sem,seval,-List.reduceReplicate,f0,f1,f2,f3,f4,g11,g13,g14,r0,ra,rb,hBn,hce,hle]
     refine CallK.of (fun R h=>zbX a hcmp _ R h) ?_;simp (disch:=first|exact zb|fail) only [go_sem,seval,-List.reduceReplicate,f0,f1,f2,f3,f4,g11,g13,g14,r0,ra,rb,hBn,hce,hle]
     refine CallK.of (fun R h=>zbX a hcmp _ R h) ?_;simp (disch:=first|exact zb|fail) only [go_sem,seval,-List.reduceReplicate,f0,f1,f2,f3,f4,g11,g13,g14,r0,ra,rb,hBn,hce,hle]
     (refine .q ?_);refine .rt Tryd.func6 (by rw [Tryd.results6]) (hx:=by simp (disch:=first|exact zb|fail) only [go_sem,seval,-List.reduceReplicate,hBt];rfl) (hR := ?_);simp (disch:=first|exact zb|fail) only [go_sem,seval,-List.reduceReplicate,hBt]
     exact h
 · have d:decide (3≤a.state)=false:=decide_eq_false c
   have hr:=zt3 (b:=b) c hdue
   obtain ⟨X,hX⟩ : ∃ X,({ a with state:=5 }:Ses)=X:=⟨_,rfl⟩
   rw [hX] at hr
   have hXs:3≤X.state:=by rw [←hX];show (3:Int)≤5;decide
   have gX:Good 40 X:=by
    obtain ⟨q1,q2,q3,q4,q5,q6,q7,q8⟩:=ga
    rw [←hX];exact ⟨q1,q2,q3,q4,q5,q6,q7,q8⟩
   have hokX:=gX.ok (by decide)
   have hcmpX:=gX.cmp (by decide)
   have hce2:((291:Int) == 291)=true:=rfl
   have hr2:=zgH (b:=b) (now:=1) hXs
   have hsd:=zgG (m:=M) hXs
   have hsend : ∀ (B':Hp) R,R (.tup [.p (yG X),.p (.sl false 1 []),.p (i64 290)]) B' → ACall Tryd.prog G 19 [.p (yG X),.p (msg M)] B' R:=fun B' R h=>zat g X hokX M hM B' R (by rw [hsd];exact h)
   refine CallK.of (fun R h=>zbW g a hok b 101 hb0 _ R h) ?_;simp (disch:=first|exact zb|fail) only [go_sem,seval,-List.reduceReplicate,hr]
   (refine .q ?_);refine .text ?_;simp (disch:=first|exact zb|fail) only [go_sem,seval,-List.reduceReplicate]
   (refine .q ?_);refine .ifF (by simp (disch:=first|exact zb|fail) only [go_sem,seval,-List.reduceReplicate,d]) ?_
   (refine .q ?_);refine .text ?_;simp (disch:=first|exact zb|fail) only [go_sem,seval,-List.reduceReplicate]
   (refine .q ?_);refine .text ?_;simp (disch:=first|exact zb|fail) only [go_sem,seval,-List.reduceReplicate,hX]
   (refine .q ?_);refine .text ?_;simp (disch:=first|exact zb|fail) only [go_sem,seval,-List.reduceReplicate]
   refine CallK.of (fun R h=>zbW g X hokX b 1 (.inl hXs) _ R h) ?_;simp (disch:=first|exact zb|fail) only [go_sem,seval,-List.reduceReplicate,hr2]
   refine zgE fun B hB => ?_
   have hBn:B.n=H.n+8:=by rw [hB];simp only [Hp.n_new]
   have r0:B.f H.n=some (.cells (mcl m)):=by rw [hB];simp (disch:=first|exact zb|fail) only [go_sem,seval,-List.reduceReplicate]
   have ra:B.f (H.n+1)=some (.cells (yC a)):=by rw [hB];simp (disch:=first|exact zb|fail) only [go_sem,seval,-List.reduceReplicate]
   have rb:B.f (H.n+3)=some (.cells (yC X)):=by rw [hB];simp (disch:=first|exact zb|fail) only [go_sem,seval,-List.reduceReplicate]
   have rc:B.f (H.n+5)=some (.cells (yC X)):=by rw [hB];simp (disch:=first|exact zb|fail) only [go_sem,seval,-List.reduceReplicate]
   have rd2:B.f (H.n+6)=some (.cells (yC X)):=by rw [hB];simp (disch:=first|exact zb|fail) only [go_sem,seval,-List.reduceReplicate]
   have hBt:B.trunc H.n=H:=by rw [hB];simp (disch:=first|exact zb|fail) only [go_sem,seval,-List.reduceReplicate]
   have hBb:Bel H.n B:=by
    rw [hB]
    exact zy (zy (zy (zy (zy (zy (zy (zy hbel (Nat.le_refl _)) (by simp only [n_new'];omega)) (by simp only [n_new'];omega)) (by simp only [n_new'];omega)) (by simp only [n_new'];omega)) (by simp only [n_new'];omega)) (by simp only [n_new'];omega)) (by simp only [n_new'];omega)
   clear hB
   have hbel : ∀ x,Bel H.n (oB B (some x)):=fun x=>zBg hBb (by omega)
   change ARun _ _ _ (oB B none) R
   (refine .q ?_)
   refine .openInv (fun L env' H'=>kF env' [(5,.ptr H.n 0),(7,.p (bo true)),(8,.ptr (H.n+1) 0),(10,.ptr (H.n+3) 0),(12,.p (i64 291)),(16,.ptr (H.n+5) 0),(17,.ptr (H.n+6) 0),(19,.p (i64 290))]∧kI L env' [(0,84,.p (yG X)),(1,85,.p (msg m)),(2,86,.ptr (H.n+1) 1),(3,87,.p (i64 a.step)),(4,88,.p (i64 n)),(5,89,.p (msg M)),(6,90,.tup [.p (yG X),.p (.sl false 1 []),.p (i64 290)]),(7,83,.tup [.p (yG X),.p (.sl false 1 []),.p (i64 290)]),(8,91,.p (yG X)),(9,92,.p (.sl false 1 [])),(10,93,.p (i64 290)),(11,20,.ptr (H.n+8) 0),(13,21,.p (.sl false 1 [])),(14,22,.p (i64 290))]∧(L 12=true → allT L [0,1,2,3,4,5,6,7,8,11])∧H'=(oB B (if L 12 then some (.cells (yC X)) else if L 11 then some (.cells (nC 0 0)) else none))) follows (by kernel_rfl) ?_ ?_ ?_
   · exact ⟨(yQ (by simp (disch:=first|exact zb|fail) only [go_sem,seval,-List.reduceReplicate,r0,ra,rb,hBn,hn,ze]) (yQ (by simp (disch:=first|exact zb|fail) only [go_sem,seval,-List.reduceReplicate,r0,ra,rb,hBn,hn,ze]) (yQ (by simp (disch:=first|exact zb|fail) only [go_sem,seval,-List.reduceReplicate,r0,ra,rb,hBn,hn,ze]) (yQ (by simp (disch:=first|exact zb|fail) only [go_sem,seval,-List.reduceReplicate,r0,ra,rb,hBn,hn,ze]) (yQ (by simp (disch:=first|exact zb|fail) only [go_sem,seval,-List.reduceReplicate,r0,ra,rb,hBn,hn,ze]) (yQ (by simp (disch:=first|exact zb|fail) only [go_sem,seval,-List.reduceReplicate,r0,ra,rb,hBn,hn,ze]) (yQ (by simp (disch:=first|exact zb|fail) only [go_sem,seval,-List.reduceReplicate,r0,ra,rb,hBn,hn,ze]) (yQ (by simp (disch:=first|exact zb|fail) only [go_sem,seval,-List.reduceReplicate,r0,ra,rb,hBn,hn,ze]) kF0)))))))),(fun _ _ h=>by cases h),(fun h=>by cases h),(by first | rfl | (simp only [Bool.false_eq_true,if_false];first | rfl | (simp (disch:=first|exact zb|fail) only [go_sem,seval,-List.reduceReplicate,r0,ra,rb,hBn,hn,ze]<;>rfl)))⟩
   · intro i o L env' H' ho hL hall hI
     obtain ⟨KF,KG,m12,rfl⟩:=hI
     rcases i with _ | _ | _ | _ | _ | _ | _ | _ | _ | _ | _ | _ | _ | _ | _ | i
     · cases ho
       have n12:=zu m12 hL
       have f3:=zU KF 3 rfl
       refine zf (.p (yG X)) rfl rfl (by simp (disch:=first|exact zb|fail) only [go_sem,seval,-List.reduceReplicate,reduceIte,Bool.false_eq_true,if_false,if_true,f3,n12,hL,r0,ra,rb,hBn,hn,ze]<;>rfl) rfl ?_
       exact ⟨(zH KF),(zK KG),(ka m12),(by rw [za (by decide),za (by decide)])⟩
     · cases ho
       have n12:=zu m12 hL
       have f0:=zU KF 0 rfl
       refine zf (.p (msg m)) rfl rfl (by simp (disch:=first|exact zb|fail) only [go_sem,seval,-List.reduceReplicate,reduceIte,Bool.false_eq_true,if_false,if_true,f0,n12,hL,r0,ra,rb,hBn,hn,ze]<;>rfl) rfl ?_
       exact ⟨(zH KF),(zK KG),(ka m12),(by rw [za (by decide),za (by decide)])⟩
     · cases ho
       have n12:=zu m12 hL
       have f2:=zU KF 2 rfl
       refine zf (.ptr (H.n+1) 1) rfl rfl (by simp (disch:=first|exact zb|fail) only [go_sem,seval,-List.reduceReplicate,reduceIte,Bool.false_eq_true,if_false,if_true,f2,n12,hL,r0,ra,rb,hBn,hn,ze]<;>rfl) rfl ?_
       exact ⟨(zH KF),(zK KG),(ka m12),(by rw [za (by decide),za (by decide)])⟩
     · cases ho
       have h2:=kL hall 0 rfl rfl
       have d2:=zw KG 2 rfl h2
       have n12:=zu m12 hL
       refine zf (.p (i64 a.step)) rfl rfl (by simp (disch:=first|exact zb|fail) only [go_sem,seval,-List.reduceReplicate,reduceIte,Bool.false_eq_true,if_false,if_true,d2,n12,hL,r0,ra,rb,hBn,hn,ze]<;>rfl) rfl ?_
       exact ⟨(zH KF),(zK KG),(ka m12),(by rw [za (by decide),za (by decide)])⟩
     · cases ho
       have h3:=kL hall 0 rfl rfl
       have d3:=zw KG 3 rfl h3
       have n12:=zu m12 hL
       refine zf (.p (i64 n)) rfl rfl (by simp (disch:=first|exact zb|fail) only [go_sem,seval,-List.reduceReplicate,reduceIte,Bool.false_eq_true,if_false,if_true,d3,n12,hL,r0,ra,rb,hBn,hn,ze]<;>rfl) rfl ?_
       exact ⟨(zH KF),(zK KG),(ka m12),(by rw [za (by decide),za (by decide)])⟩
     · cases ho
       have h1:=kL hall 0 rfl rfl
       have d1:=zw KG 1 rfl h1
       have h4:=kL hall 1 rfl rfl
       have d4:=zw KG 4 rfl h4
       have n12:=zu m12 hL
       (try simp only [n12,if_true,if_false,Bool.false_eq_true])
       refine yi rfl rfl (by simp (disch:=first|exact zb|fail) only [go_sem,seval,-List.reduceReplicate,reduceIte,Bool.false_eq_true,if_false,if_true,d1,d4,n12,hL,r0,ra,rb,hBn,hn,ze]<;>rfl) rfl (by simp (disch:=first|exact zb|fail) only [go_sem,seval,-List.reduceReplicate,reduceIte,Bool.false_eq_true,if_false,if_true,d1,d4,n12,hL,r0,ra,rb,hBn,hn,ze]<;>rfl) (fun R h=>hmade _ R h) ?_
       exact ⟨(zH KF),(zK KG),(ka m12),(by (have e11:more L 5 11=L 11:=za (by decide));(have e12:more L 5 12=L 12:=za (by decide));(try simp only [e11,e12,n12]);first | done | rfl | (simp only [e11,e12,n12,if_true,if_false,Bool.false_eq_true];first | done | rfl | (simp (disch:=first|exact zb|fail) only [go_sem,seval,-List.reduceReplicate,e11,e12,n12,r0,ra,rb,hBn,hn,ze]<;>rfl)))⟩
     · cases ho
       have h0:=kL hall 0 rfl rfl
       have d0:=zw KG 0 rfl h0
       have h5:=kL hall 1 rfl rfl
       have d5:=zw KG 5 rfl h5
       have n12:=zu m12 hL
       (try simp only [n12,if_true,if_false,Bool.false_eq_true])
       refine yi rfl rfl (by simp (disch:=first|exact zb|fail) only [go_sem,seval,-List.reduceReplicate,reduceIte,Bool.false_eq_true,if_false,if_true,d0,d5,n12,hL,r0,ra,rb,hBn,hn,ze]<;>rfl) rfl (by simp (disch:=first|exact zb|fail) only [go_sem,seval,-List.reduceReplicate,reduceIte,Bool.false_eq_true,if_false,if_true,d0,d5,n12,hL,r0,ra,rb,hBn,hn,ze]<;>rfl) (fun R h=>hsend _ R h) ?_
       exact ⟨(zH KF),(zK KG),(ka m12),(by (have e11:more L 6 11=L 11:=za (by decide));(have e12:more L 6 12=L 12:=za (by decide));(try simp only [e11,e12,n12]);first | done | rfl | (simp only [e11,e12,n12,if_true,if_false,Bool.false_eq_true];first | done | rfl | (simp (disch:=first|exact zb|fail) only [go_sem,seval,-List.reduceReplicate,e11,e12,n12,r0,ra,rb,hBn,hn,ze]<;>rfl)))⟩
     · cases ho
       have h6:=kL hall 0 rfl rfl
       have d6:=zw KG 6 rfl h6
       have n12:=zu m12 hL
       refine zf (.tup [.p (yG X),.p (.sl false 1 []),.p (i64 290)]) rfl rfl (by simp (disch:=first|exact zb|fail) only [go_sem,seval,-List.reduceReplicate,reduceIte,Bool.false_eq_true,if_false,if_true,d6,n12,hL,r0,ra,rb,hBn,hn,ze]<;>rfl) rfl ?_
       exact ⟨(zH KF),(zK KG),(ka m12),(by rw [za (by decide),za (by decide)])⟩
     · cases ho
       have h7:=kL hall 0 rfl rfl
       have d7:=zw KG 7 rfl h7
       have n12:=zu m12 hL
       refine zf (.p (yG X)) rfl rfl (by simp (disch:=first|exact zb|fail) only [go_sem,seval,-List.reduceReplicate,reduceIte,Bool.false_eq_true,if_false,if_true,d7,n12,hL,r0,ra,rb,hBn,hn,ze]<;>rfl) rfl ?_
       exact ⟨(zH KF),(zK KG),(ka m12),(by rw [za (by decide),za (by decide)])⟩
     · cases ho
       have h7:=kL hall 0 rfl rfl
       have d7:=zw KG 7 rfl h7
       refine zf (.p (.sl false 1 [])) rfl rfl (by simp (disch:=first|exact zb|fail) only [go_sem,seval,-List.reduceReplicate,d7,r0,ra,rb,hBn,hn,ze]<;>rfl) rfl ?_
       exact ⟨(zH KF),(zK KG),(ka m12),(by rw [za (by decide),za (by decide)])⟩
     · cases ho
       have h7:=kL hall 0 rfl rfl
       have d7:=zw KG 7 rfl h7
       refine zf (.p (i64 290)) rfl rfl (by simp (disch:=first|exact zb|fail) only [go_sem,seval,-List.reduceReplicate,d7,r0,ra,rb,hBn,hn,ze]<;>rfl) rfl ?_
       exact ⟨(zH KF),(zK KG),(ka m12),(by rw [za (by decide),za (by decide)])⟩
     · cases ho
       have n12:=zu m12 hL
       (try simp only [n12,hL,if_true,if_false,Bool.false_eq_true])
       refine yh (.ptr (H.n+8) 0) rfl rfl (by simp (disch:=first|exact zb|fail) only [go_sem,seval,-List.reduceReplicate,reduceIte,Bool.false_eq_true,if_false,if_true,n12,hL,r0,ra,rb,hBn,hn,ze]<;>rfl) rfl ?_
       exact ⟨(zH KF),(zK KG),(ka m12),(by (have e11:more L 11 11=true:=zv);(have e12:more L 11 12=L 12:=za (by decide));(try simp only [e11,e12,n12,hL]);first | done | rfl | (simp only [e11,e12,n12,hL,if_true,if_false,Bool.false_eq_true];first | done | rfl | (simp (disch:=first|exact zb|fail) only [go_sem,seval,-List.reduceReplicate,e11,e12,n12,hL,r0,ra,rb,hBn,hn,ze]<;>rfl)))⟩
     · cases ho
       have h11:=kL hall 0 rfl rfl
       have d11:=zw KG 11 rfl h11
       have h8:=kL hall 1 rfl rfl
       have d8:=zw KG 8 rfl h8
       have h6:=kL hall 2 rfl rfl
       have h0:=kL hall 3 rfl rfl
       have h1:=kL hall 4 rfl rfl
       have h2:=kL hall 5 rfl rfl
       have h3:=kL hall 6 rfl rfl
       have h4:=kL hall 7 rfl rfl
       have h5:=kL hall 8 rfl rfl
       have h7:=kL hall 10 rfl rfl
       refine yd rfl rfl (by simp (disch:=first|exact zb|fail) only [go_sem,seval,-List.reduceReplicate,reduceIte,Bool.false_eq_true,if_false,if_true,d8,d11,h11,hL,r0,ra,rb,hBn,hn,ze]<;>rfl) rfl ?_
       exact ⟨KF,(kIs KG),(fun _=>kt (zc h0 (zc h1 (zc h2 (zc h3 (zc h4 (zc h5 (zc h6 (zc h7 (zc h8 (zc h11 zB))))))))))),(by (have e11:more L 12 11=L 11:=za (by decide));(have e12:more L 12 12=true:=zv);(try simp only [e11,e12,h11,hL]);first | done | rfl | (simp only [e11,e12,h11,hL,if_true,if_false,Bool.false_eq_true];first | done | rfl | (simp (disch:=first|exact zb|fail) only [go_sem,seval,-List.reduceReplicate,e11,e12,h11,hL,r0,ra,rb,hBn,hn,ze]<;>rfl)))⟩
     · cases ho
       have h9:=kL hall 0 rfl rfl
       have d9:=zw KG 9 rfl h9
       have h12:=kL hall 1 rfl rfl
       have h11:=kL hall 13 rfl rfl
       refine zf (.p (.sl false 1 [])) rfl rfl (by simp (disch:=first|exact zb|fail) only [go_sem,seval,-List.reduceReplicate,reduceIte,Bool.false_eq_true,if_false,if_true,d9,h11,h12,hL,r0,ra,rb,hBn,hn,ze]<;>rfl) rfl ?_
       exact ⟨(zH KF),(zK KG),(ka m12),(by rw [za (by decide),za (by decide)])⟩
     · cases ho
       have h10:=kL hall 0 rfl rfl
       have d10:=zw KG 10 rfl h10
       have h11:=kL hall 13 rfl rfl
       have h12:=kL hall 14 rfl rfl
       refine zf (.p (i64 290)) rfl rfl (by simp (disch:=first|exact zb|fail) only [go_sem,seval,-List.reduceReplicate,reduceIte,Bool.false_eq_true,if_false,if_true,d10,h11,h12,hL,r0,ra,rb,hBn,hn,ze]<;>rfl) rfl ?_
       exact ⟨(zH KF),(zK KG),(ka m12),(by rw [za (by decide),za (by decide)])⟩
     · simp at ho
   · intro L env' H' hall hI
     obtain ⟨KF,KG,_,rfl⟩:=hI
     have l11:=hall 11 (by decide)
     have l12:=hall 12 (by decide)
     have f0:=zU KF 0 rfl
     have f1:=zU KF 1 rfl
     have f2:=zU KF 2 rfl
     have f3:=zU KF 3 rfl
     have f4:=zU KF 4 rfl
     have f5:=zU KF 5 rfl
     have f6:=zU KF 6 rfl
     have f7:=zU KF 7 rfl
     have g11:=zw KG 11 rfl (hall 11 (by decide))
     have g13:=zw KG 12 rfl (hall 13 (by decide))
     have g14:=zw KG 13 rfl (hall 14 (by decide))
     simp only [l11,l12,if_true]
     clear hall
     (refine .q ?_);refine .text ?_;simp (disch:=first|exact zb|fail) only [go_sem,seval,-List.reduceReplicate,f0,f1,f2,f3,f4,f5,f6,f7,g11,g13,g14,r0,ra,rb,rc,rd2,hBn,hce,hce2]
     refine CallK.of (fun R h=>zbX X hcmpX _ R h) ?_;simp (disch:=first|exact zb|fail) only [go_sem,seval,-List.reduceReplicate,f0,f1,f2,f3,f4,f5,f6,f7,g11,g13,g14,r0,ra,rb,rc,rd2,hBn,hce,hce2]
     refine CallK.of (fun R h=>zbX X hcmpX _ R h) ?_;simp (disch:=first|exact zb|fail) only [go_sem,seval,-List.reduceReplicate,f0,f1,f2,f3,f4,f5,f6,f7,g11,g13,g14,r0,ra,rb,rc,rd2,hBn,hce,hce2]
     (refine .q ?_);refine .rt Tryd.func6 (by rw [Tryd.results6]) (hx:=by simp (disch:=first|exact zb|fail) only [go_sem,seval,-List.reduceReplicate,hBt];rfl) (hR := ?_);simp (disch:=first|exact zb|fail) only [go_sem,seval,-List.reduceReplicate,hBt]
     exact h
end walks
end Go.Proofs.YtmoecjgehdkhkaaDoor

/-
  Sessions: every string that is decoded is the encoding of its message.
-/
namespace Go.Proofs.YtmoecjgehdkhkaaDoor
open Go Go.AL

section walks
variable {G:Globs} {r1 r2:Nat} {m1:List (Int × Rule)} {m2:List (Int × Int)}
end walks
end Go.Proofs.YtmoecjgehdkhkaaDoor

/-
  Sessions: the package-level maps,read from what the rows say is laid.
-/
namespace Go.Proofs.YtmoecjgehdkhkaaDoor
open Go Go.AL Go.WideElems

section maps
variable {H:Type} {enc:TypeId × Value → H} {P:Program} {W:World} {sp:Nat → Bool} {held:Bool} {t k e:TypeId} {α:Type}
theorem insert_perm {x:Lit × DataW H} : ∀ l,(DataW.insert x l).Perm (x :: l)
 | [] => .refl _
 | y :: r=>by
  unfold DataW.insert
  split
  · exact .refl _
  · exact ((insert_perm r).cons y).trans (.swap x y r)
theorem sorted_perm : ∀ l:List (Lit × DataW H),(l.foldr DataW.insert []).Perm l
 | [] => .refl _
 | x :: l=>(insert_perm _).trans ((sorted_perm l).cons x)
theorem zma {κ α:Type} [DecidableEq κ] {T:κ → Option α} {k:κ} : ∀ {m:List (κ × α)},(∀ p∈m,T p.1=some p.2) → (∀ v,T k=some v → ∃ p∈m,p.1=k) → zaQ k m=T k
 | [],_,h2=>by
  cases e:T k with
  | none=>rfl
  | some v=>obtain ⟨p,hp,_⟩:=h2 v e;cases hp
 | (a,x) :: m,h1,h2=>by
  unfold zaQ
  split
  · rename_i h;subst h;exact (h1 _ (List.mem_cons_self ..)).symm
  · rename_i h
    exact zma (fun p hp=>h1 p (List.mem_cons_of_mem _ hp)) fun v hv=>by
     obtain ⟨p,hp,hk⟩:=h2 v hv
     rcases List.mem_cons.1 hp with rfl | hp
     · exact absurd hk h
     · exact ⟨p,hp,hk⟩
theorem zeo {α β:Type} {Q:α → β → Prop} : ∀ {l:List α},(∀ x∈l,∃ y,Q x y) → ∃ m:List β,m.length=l.length ∧ ∀ (j:Nat) x y,l[j]? = some x → m[j]? = some y → Q x y
 | [],_=>⟨[],rfl,fun j x y h=>by simp at h⟩
 | a :: l,h=>by
  obtain ⟨y,hy⟩:=h a (List.mem_cons_self ..)
  obtain ⟨m,hm,hq⟩:=zeo (l:=l) fun x hx=>h x (List.mem_cons_of_mem _ hx)
  refine ⟨y :: m,by simp [hm],fun j => ?_⟩
  cases j with
  | zero=>intro x z h1 h2;simp at h1 h2;subst h1 h2;exact hy
  | succ j=>intro x z h1 h2;simp at h1 h2;exact hq j x z h1 h2
theorem zJB (hk:P.underlying k=some (.int .i64)) {v:Value} {kl:Lit} (h:keyOf P k v=some kl) : ∃ z,v=iev z∧kl = .int .i64 z∧okI z:=by
 unfold keyOf at h
 rw [hk] at h
 unfold mapKey at h
 rw [hk] at h
 cases v with
 | int q n =>
  simp only at h
  split at h
  · rename_i hc
    obtain ⟨rfl,hw⟩:=hc
    cases h
    simp only [Lit.wf,Bool.and_eq_true,decide_eq_true_eq] at hw
    exact ⟨n,rfl,rfl,hw⟩
  · cases h
 | _=>cases h
theorem zqF (ht:P.underlying t=some (.map k e)) (hk:P.underlying k=some (.int .i64)) {fuel:Nat} {cs:List Value} {L:List (Lit × DataW H)} {p:List MemPlace} (h:DataW.trod enc P W 0 sp held fuel t cs=some (.map L,p)) (T:Int → Option α) (f:α → AV)
 (hbel : ∀ v n,BelowN n (f v))
 (hL : ∀ (n:Nat) kk d,(kk,d)∈L → ∀ v q,elemAt enc P W 0 sp held n e v=some (d,q) → ∃ z x,kk = .int .i64 z∧T z=some x∧RelV σ0 H0 W (f x) v)
 (hT : ∀ z x,T z=some x → ∃ d,(Lit.int .i64 z,d)∈L) :
 ∃ b m,cs=[.map (some b)]∧GMap σ0 H0 W b (tm iev f m)∧(∀ q∈m,okI q.1) ∧ ∀ z,zaQ z m=T z:=by
 rcases open_map ht h with ⟨_,hx⟩ | ⟨b,es,clock,n,_,hcs,hb,_,F,hx⟩
 · cases hx
 · obtain ⟨s1,s2,s3⟩:=F.stamped
   have hLe:L=(es.toList.map (rg P k (elemAt enc P W 0 sp held n e))).foldr DataW.insert []:=by
    have:=congrArg Prod.fst hx
    simpa using this
   have hperm:=sorted_perm (es.toList.map (rg P k (elemAt enc P W 0 sp held n e)))
   rw [←hLe] at hperm
   obtain ⟨m,hm,hq⟩:=zeo (Q:=fun (x:MapEntry) (q:Int × α)=>x.key=iev q.1∧okI q.1∧T q.1=some q.2∧RelV σ0 H0 W (f q.2) x.val∧(rg P k (elemAt enc P W 0 sp held n e) x).1 = .int .i64 q.1) (l:=es.toList) fun x hx=>by
    obtain ⟨y,hy⟩:=F.reads x hx
    have hr:=rg_of hy
    obtain ⟨w,hw,hy2⟩:=rd_val hy
    have hmem:(y.1,y.2)∈L:=hperm.mem_iff.2 (List.mem_map.2 ⟨x,hx,hr⟩)
    obtain ⟨z,hz1,hz2,hz3⟩:=zJB hk (rd_key hy)
    obtain ⟨z',a,h1,h2,h3⟩:=hL n y.1 y.2 hmem x.val w.2 (by rw [hw,hy2])
    rw [hz2] at h1
    cases h1
    exact ⟨(z,a),hz1,hz3,h2,h3,by rw [hr];exact hz2⟩
   have hget : ∀ {q:Int × α},q∈m → ∃ x∈es.toList,x.key=iev q.1∧okI q.1∧T q.1=some q.2:=fun {q} hqm=>by
    obtain ⟨j,hj⟩:=List.getElem?_of_mem hqm
    have hlt:j < es.toList.length:=by have:=(List.getElem?_eq_some_iff.1 hj).1;omega
    obtain ⟨h1,h2,h3,_⟩:=hq j _ q (List.getElem?_eq_getElem hlt) hj
    exact ⟨_,List.getElem_mem hlt,h1,h2,h3⟩
   have hkeys:(tm iev f m).map (·.1)=es.toList.map (·.key):=by
    apply List.ext_getElem?
    intro j
    simp only [tm,List.map_map,List.getElem?_map]
    cases hj:m[j]? with
    | none =>
     have:es.toList[j]? = none:=by
      rw [List.getElem?_eq_none_iff] at hj ⊢;omega
     rw [this];rfl
    | some q =>
     have hlt:j < es.toList.length:=by have:=(List.getElem?_eq_some_iff.1 hj).1;omega
     rw [List.getElem?_eq_getElem hlt]
     obtain ⟨h1,_⟩:=hq j _ q (List.getElem?_eq_getElem hlt) hj
     simpa using h1.symm
   refine ⟨b,m,hcs,⟨⟨es,clock,hb,by simp [tm,hm],?_,?_⟩,zJL b,?_⟩,?_,?_⟩
   · rw [hkeys]
     exact s3
   · intro j x q hx hq'
     simp only [tm,List.getElem?_map,Option.map_eq_some_iff] at hq'
     obtain ⟨q0,hq0,rfl⟩:=hq'
     obtain ⟨h1,_,_,h4,_⟩:=hq j x q0 (by simpa using hx) hq0
     exact ⟨h1,h4⟩
   · intro q hq' n
     simp only [tm,List.mem_map] at hq'
     obtain ⟨q0,_,rfl⟩:=hq'
     exact hbel _ _
   · intro q hqm
     obtain ⟨_,_,_,h,_⟩:=hget hqm
     exact h
   · intro z
     refine zma (fun q hqm => ?_) fun v hv => ?_
     · obtain ⟨_,_,_,_,h⟩:=hget hqm
       exact h
     · obtain ⟨d,hd⟩:=hT z v hv
       obtain ⟨x,hx,hr⟩:=List.mem_map.1 (hperm.mem_iff.1 hd)
       obtain ⟨j,hj⟩:=List.getElem?_of_mem hx
       have hlt:j < m.length:=by have:=(List.getElem?_eq_some_iff.1 hj).1;omega
       obtain ⟨_,_,_,_,h5⟩:=hq j x _ hj (List.getElem?_eq_getElem hlt)
       refine ⟨m[j],List.getElem_mem hlt,?_⟩
       rw [hr] at h5
       cases h5
       rfl
theorem trod_int {q:IntKind} (ht:P.underlying t=some (.int q)) {fuel:Nat} {c:Value} {z:Int} {kd:IntKind} {p:List MemPlace} (h:DataW.trod enc P W 0 sp held fuel t [c]=some (.lit (.int kd z),p)):c = .int q z:=by
 cases fuel with
 | zero=>simp [DataW.trod] at h
 | succ n =>
  rw [DataW.trod_step] at h
  unfold DataW.trodStep at h
  rw [ht] at h
  cases c<;>simp at h
  obtain ⟨⟨rfl,_⟩,⟨_,rfl⟩,_⟩:=h
  rfl
end maps
theorem zBh {P:Program} {W:World} {sp:Nat → Bool} {held:Bool} {H:Type} {enc:TypeId × Value → H} {e:TypeId} (he:P.underlying e=some (.int .i64)) {n:Nat} {v:Value} {z:Int} {kd:IntKind} {q:List MemPlace} (h:elemAt enc P W 0 sp held n e v=some (.lit (.int kd z),q)):v = .int .i64 z:=by
 unfold elemAt at h
 split at h
 · rename_i hf
   cases v with
   | agg cs=>simp [Value.formed,he] at hf
   | tuple cs=>simp [Value.formed] at hf
   | _=>exact trod_int he h
 · cases h
theorem zpv {W:World} {fuel:Nat} {cs:List Value} {p:List MemPlace} {sp:Nat → Bool} {held:Bool} {enc:TypeId × Value → Unit} (h:DataW.trod enc Tryd.prog W 0 sp held fuel 120 cs=some (Rows.laid_attestor_session_states,p)) :
 ∃ b m,cs=[.map (some b)]∧GMap σ0 H0 W b (tm iev ivv m)∧(∀ q∈m,okI q.1) ∧ ∀ z,zaQ z m=zd2 z:=by
 refine zqF Tryd.underlying120 Tryd.underlying3 h zd2 ivv (fun v n => .p _) ?_ ?_
 · intro n kk d hm v q he
   simp only [List.mem_cons,List.not_mem_nil,or_false,Prod.mk.injEq] at hm
   (rcases hm with ⟨rfl,rfl⟩ | ⟨rfl,rfl⟩ | ⟨rfl,rfl⟩ | ⟨rfl,rfl⟩ | ⟨rfl,rfl⟩ | ⟨rfl,rfl⟩ | ⟨rfl,rfl⟩)<;>(obtain rfl:=zBh Tryd.underlying3 he;exact ⟨_,_,rfl,rfl,.p (.s _ rfl)⟩)
 · intro z x hz
   have hk:z=1 ∨ z=2 ∨ z=3 ∨ z=4 ∨ z=5 ∨ z=6 ∨ z=7:=by
    unfold zd2 at hz
    repeat' split at hz
    all_goals first | omega | cases hz
   (rcases hk with rfl | rfl | rfl | rfl | rfl | rfl | rfl)<;>exact ⟨_,by simp [Rows.laid_attestor_session_states];rfl⟩

theorem trod_func {H:Type} {enc:TypeId × Value → H} {P:Program} {W:World} {sp:Nat → Bool} {t:TypeId} {ps rs:Array TypeId} {va:Bool} (ht:P.underlying t=some (.func ps rs va)) {fuel:Nat} {c:Value} {x:H} {p:List MemPlace} (h:DataW.trod enc P W 0 sp true fuel t [c]=some (.held x,p)) : ∃ fn a b,c = .func fn a b∧enc (t,c)=x:=by
 cases fuel with
 | zero=>simp [DataW.trod] at h
 | succ n =>
  rw [DataW.trod_step] at h
  unfold DataW.trodStep at h
  rw [ht] at h
  cases c<;>simp at h
  exact ⟨_,_,_,rfl,h.1⟩
theorem zt4 {W:World} {sp:Nat → Bool} {H:Type} {enc:TypeId × Value → H} {n:Nat} {v:Value} {a b:Int} {ka kb:IntKind} {x:H} {q:List MemPlace} (h:elemAt enc Tryd.prog W 0 sp true n 111 v=some (.agg [.lit (.int ka a),.lit (.int kb b),.held x],q)) :
 ∃ fn c d,v = .agg #[.int .i64 a,.int .i64 b,.func fn c d]∧enc (109,.func fn c d)=x:=by
 unfold elemAt at h
 split at h
 · rename_i hf
   cases v with
   | agg cs =>
    simp only [Value.formed,Tryd.underlying111,zga,beq_iff_eq] at hf
    obtain ⟨c1,c2,c3,rfl⟩ : ∃ c1 c2 c3,cs = #[c1,c2,c3]:=by
     obtain ⟨l⟩:=cs
     match l,hf with
     | [c1,c2,c3],_=>exact ⟨c1,c2,c3,rfl⟩
    cases n with
    | zero=>simp [DataW.trod] at h
    | succ n =>
     rw [DataW.trod_step] at h
     unfold DataW.trodStep at h
     simp only [Tryd.underlying111,zga,Value.cells] at h
     simp only [List.length_cons,List.length_nil,if_true,Option.map_eq_some_iff,Prod.mk.injEq,DataW.agg.injEq] at h
     obtain ⟨xs,hm,hx,_⟩:=h
     simp only [List.mapM_cons,List.mapM_nil,cells3,zlk,List.drop_zero,List.drop_succ_cons,List.take_succ_cons,List.take_zero,Option.bind_eq_bind,Option.bind_eq_some_iff,Option.pure_def,Option.some.injEq] at hm
     obtain ⟨y1,h1,y23,⟨y2,h2,y3s,⟨y3,h3,hn,rfl,rfl⟩,rfl⟩,rfl⟩:=hm
     obtain ⟨d1,q1⟩:=y1
     obtain ⟨d2,q2⟩:=y2
     obtain ⟨d3,q3⟩:=y3
     simp only [List.map_cons,List.map_nil,List.cons.injEq,and_true] at hx
     obtain ⟨rfl,rfl,rfl⟩:=hx
     obtain rfl:=trod_int Tryd.underlying3 h1
     obtain rfl:=trod_int Tryd.underlying3 h2
     obtain ⟨fn,c,d,rfl,h4⟩:=trod_func Tryd.underlying109 h3
     exact ⟨fn,c,d,rfl,h4⟩
   | tuple cs=>simp [Value.formed] at hf
   | _=>simp [Value.formed,Tryd.underlying111] at hf
 · cases h

theorem zpw {a b:String} (h:a.toUTF8.data.toList=b.toUTF8.data.toList):a=b:=by
 refine String.toByteArray_inj.1 ?_
 show a.toUTF8=b.toUTF8
 have:=Array.toList_inj.1 h
 cases ha:a.toUTF8;cases hb:b.toUTF8
 rw [ha,hb] at this
 cases this;rfl
theorem zbP {W:World} {sp:Nat → Bool} {n:Nat} {v:Value} {a b:Int} {ka kb:IntKind} {nm:String} {fid:FuncId} {q:List MemPlace} {x:UInt8} {r:List UInt8} (hx:nm.toUTF8.data.toList=x :: r) (hf:Tryd.prog.funcNamed nm=some fid)
 (h:elemAt (funcToken Tryd.prog) Tryd.prog W 0 sp true n 111 v=some (.agg [.lit (.int ka a),.lit (.int kb b),.held (x :: r)],q)):RelV σ0 H0 W (rlv ⟨a,b,fid⟩) v:=by
 obtain ⟨fn,c,d,rfl,h1⟩:=zt4 h
 obtain ⟨f,g,h2,_,h4,h5⟩:=funcToken_tells h1
 cases h2
 have hn:g.name=nm:=zpw (h5.trans hx.symm)
 rw [hn,hf] at h4
 cases h4
 refine .agg _ rfl ?_ ?_
 · intro i v hv
   rcases i with _ | _ | _ | i<;>simp at hv<;>subst hv<;>rfl
 · intro i y v hy hv
   rcases i with _ | _ | _ | i<;>simp at hy hv<;>subst hy<;>subst hv
   · exact .p (.s _ rfl)
   · exact .p (.s _ rfl)
   · exact .clo _ _ rfl rfl (fun i x v h=>by simp at h) (fun i x v h=>by simp at h)
def rulesD:DataW Unit:=match (Rows.laid_attestor_session_rules:DataW Unit) with
 | .iface _ d=>d
 | d=>d
theorem zt5 {W:World} {fuel:Nat} {cs:List Value} {p:List MemPlace} {sp:Nat → Bool} (h:DataW.trod (funcToken Tryd.prog) Tryd.prog W 0 sp true fuel 112 cs=some (rulesD.funcsOut,p)) :
    ∃ b m,cs=[.map (some b)]∧GMap σ0 H0 W b (tm iev rlv m)∧(∀ q∈m,okI q.1) ∧ ∀ z,zaQ z m=zax z:=by
  refine zqF Tryd.underlying112 Tryd.underlying3 h zax rlv (fun v n => ?_) ?_ ?_
  · refine .agg _ fun i y hy => ?_
    rcases i with _ | _ | _ | i<;>simp at hy<;>subst hy
    · exact .p _
    · exact .p _
    · exact .clo _ _ _ (fun i y hy=>by simp at hy) (fun i y hy=>by simp at hy)
  · intro n kk d hm v q he
    simp only [DataW.funcsOut,DataW.funcsOutAll,DataW.funcsOutEntries,List.mem_cons,List.not_mem_nil,or_false,Prod.mk.injEq] at hm
    rcases hm with ⟨rfl,rfl⟩ | ⟨rfl,rfl⟩ | ⟨rfl,rfl⟩ | ⟨rfl,rfl⟩ | ⟨rfl,rfl⟩ | ⟨rfl,rfl⟩ | ⟨rfl,rfl⟩
    · exact ⟨_, _, rfl, rfl, zbP (nm := "attestor/session.rules$1") rfl (by kernel_rfl) he⟩
    · exact ⟨_, _, rfl, rfl, zbP (nm := "attestor/session.empty") rfl (by kernel_rfl) he⟩
    · exact ⟨_, _, rfl, rfl, zbP (nm := "attestor/session.rules$2") rfl (by kernel_rfl) he⟩
    · exact ⟨_, _, rfl, rfl, zbP (nm := "attestor/session.rules$3") rfl (by kernel_rfl) he⟩
    · exact ⟨_, _, rfl, rfl, zbP (nm := "attestor/session.rules$4") rfl (by kernel_rfl) he⟩
    · exact ⟨_, _, rfl, rfl, zbP (nm := "attestor/session.empty") rfl (by kernel_rfl) he⟩
    · exact ⟨_, _, rfl, rfl, zbP (nm := "attestor/session.empty") rfl (by kernel_rfl) he⟩
  · intro z x hz
    have hk:z=1 ∨ z=2 ∨ z=3 ∨ z=4 ∨ z=5 ∨ z=6 ∨ z=7:=by
      unfold zax at hz
      repeat' split at hz
      all_goals first | omega | cases hz
    rcases hk with rfl | rfl | rfl | rfl | rfl | rfl | rfl
    · exact ⟨_,.head _⟩
    · exact ⟨_,.tail _ (.head _)⟩
    · exact ⟨_,.tail _ (.tail _ (.head _))⟩
    · exact ⟨_,.tail _ (.tail _ (.tail _ (.head _)))⟩
    · exact ⟨_,.tail _ (.tail _ (.tail _ (.tail _ (.head _))))⟩
    · exact ⟨_,.tail _ (.tail _ (.tail _ (.tail _ (.tail _ (.head _)))))⟩
    · exact ⟨_,.tail _ (.tail _ (.tail _ (.tail _ (.tail _ (.tail _ (.head _))))))⟩
end Go.Proofs.YtmoecjgehdkhkaaDoor

/-
  What the laws' rows give their walks: the tables and the maps,a world for the witness,what the arguments read as.
-/
namespace Go.Proofs.YtmoecjgehdkhkaaDoor
open Go Go.AL Go.ChangeShapes Go.WideShapes Go.ChangeAt Go.RowKit

theorem own:ownKnob Tryd.prog.godebug=none:=by kernel_rfl
theorem laidOut:laidOutB Tryd.prog=true:=by kernel_rfl
def zJC:String:=Rows.sessionCanonicalRow.named[0]!
def zQG:String:=Rows.sessionCanonicalRow.named[1]!
def zQH:String:=Rows.sessionCanonicalRow.named[2]!
def zQI:String:=Rows.sessionCanonicalRow.named[3]!
theorem zBi:Tryd.prog.globalNamed zQH=some 3:=by kernel_rfl
theorem zKf:Tryd.prog.globalNamed zQG=some 1:=by kernel_rfl
theorem gRules:Tryd.prog.globalNamed zJC=some 0:=by kernel_rfl
theorem gStates:Tryd.prog.globalNamed zQI=some 2:=by kernel_rfl
theorem zJD:(Tryd.prog.globals[3]?).map (·.type)=some 121:=by kernel_rfl
theorem zOY:(Tryd.prog.globals[1]?).map (·.type)=some 94:=by kernel_rfl
theorem gRulesT:(Tryd.prog.globals[0]?).map (·.type)=some 112:=by kernel_rfl
theorem gStatesT:(Tryd.prog.globals[2]?).map (·.type)=some 120:=by kernel_rfl

def kz:List Int:=ks.map fun x=>(x.toNat:Int)
def iz:List Int:=inits.map fun x=>(x.toNat:Int)
theorem zmb {P:Program} {x:String × DataW Unit} {l:List (String × DataW Unit)} {W:World} (h:laidMet P (x :: l) W):laidMet P l W:=by
 obtain ⟨ps,⟨g',t',cs,fuel,p,q,_,_,_,_,hq,hps⟩,hn,ha⟩:=h
 subst hps
 exact ⟨q,hq,(List.nodup_append.1 hn).2.1,fun b off hb=>ha b off (List.mem_append_right _ hb)⟩
theorem zmc {W:World} {n:String} {g b:Nat} {cs:Array Value} (hg:Tryd.prog.globalNamed n=some g) (hv:W.var? Tryd.prog n=some cs) (hc:cs.toList=[.map (some b)]):RelV σ0 H0 W (.ip 1 [.s (.map (some b))] 0 0) (.pointer (some ⟨g,0,none⟩)):=by
 have hcell:W.cell? ⟨g,0,none⟩=some (.map (some b)):=by
  unfold World.var? at hv
  rw [hg] at hv
  simp only [Option.bind_some] at hv
  unfold World.cell?
  split at hv
  · rename_i c t f hh
    simp only [hh]
    obtain rfl:=Option.some.inj hv
    obtain ⟨l⟩:=c
    obtain rfl:l=[.map (some b)]:=hc
    rfl
  · cases hv
 have:=RelV.ip (σ:=σ0) (H:=H0) (w:=W) (sz:=1) (xs:=[.s (.map (some b))]) (i:=0) (sub:=0) (g:=g) (off:=0) (cap:=1)
  (.sl false _ _ _ 0 1 (fun k => .map (some b)) (by simp) ⟨by simp,by unfold maxLen;omega⟩ (fun x hx=>by simp only [List.mem_singleton] at hx;subst hx;rfl)
   (fun k hk=>by
    simp only [List.length_singleton,Nat.one_mul] at hk
    obtain rfl:k=0:=by omega
    exact ⟨ziL _ _,hcell,rfl⟩)
   (fun k y hy=>by
    have:flat [PV.s (.map (some b))]=[.s (.map (some b))]:=by simp [flat,PV.cells]
    rw [this] at hy
    cases k with
    | zero=>simp at hy;subst hy;exact .s _ rfl
    | succ k=>simp at hy)) (by simp) (by omega)
 simpa using this
theorem zhT {κ α:Type} [DecidableEq κ] {k:κ} {v:α} : ∀ {m:List (κ × α)},zaQ k m=some v → (k,v)∈m
 | [],h=>by cases h
 | (a,x) :: m,h=>by
  unfold zaQ at h
  split at h
  · rename_i e;subst e;cases h;exact List.mem_cons_self ..
  · exact List.mem_cons_of_mem _ (zhT h)
theorem zJE {W:World} {r1 r2:Nat} {m1:List (Int × Rule)} {m2:List (Int × Int)} (h1:GMap σ0 H0 W r1 (tm iev rlv m1)) (h2:GMap σ0 H0 W r2 (tm iev ivv m2)) (t1 : ∀ z,zaQ z m1=zax z):r1≠r2:=by
 rintro rfl
 obtain ⟨⟨es,clock,a1,a2,_,a4⟩,_⟩:=h1
 obtain ⟨⟨es',clock',b1,b2,_,b4⟩,_⟩:=h2
 rw [a1] at b1
 cases b1
 have hm:=zhT ((t1 1).trans (show zax 1=some _ from rfl))
 have hl:0 < m1.length:=List.length_pos_of_mem hm
 simp only [tm,List.length_map] at a2 b2
 have he:es[0]? = some es[0]:=Array.getElem?_eq_getElem (by omega)
 obtain ⟨q1,hq1⟩ : ∃ q,m1[0]? = some q:=⟨_,List.getElem?_eq_getElem hl⟩
 obtain ⟨q2,hq2⟩ : ∃ q,m2[0]? = some q:=⟨_,List.getElem?_eq_getElem (by omega)⟩
 have r1:=(a4 0 _ _ he (by simp only [tm,List.getElem?_map,hq1];rfl)).2
 have r2:=(b4 0 _ _ he (by simp only [tm,List.getElem?_map,hq2];rfl)).2
 simp only [rlv,ivv] at r1 r2
 generalize es[0].val=v at r1 r2
 cases r1
 cases r2 with
 | p h=>cases h

def GG (r1 r2:Nat) (m1:List (Int × Rule)) (m2:List (Int × Int)):Globs :=
 ⟨fun g=>if g=1 then some (8,[.agg (pl zF inits)]) else if g=3 then some (64,[.agg (pl zF ks)]) else if g=0 then some (1,[.s (.map (some r1))]) else if g=2 then some (1,[.s (.map (some r2))]) else none,
  fun r=>if r=r1 then some (tm iev rlv m1) else if r=r2 then some (tm iev ivv m2) else none⟩
theorem zt6 {W:World} (h:laidMetH Tryd.prog Rows.sessionCanonicalRow.laid W) : ∃ r1 r2 m1 m2,GR (GG r1 r2 m1 m2) r1 r2 m1 m2∧Rel (GG r1 r2 m1 m2) σ0 H0 W:=by
 have h':laidMet Tryd.prog [(zQH,Lib.tabData .u32 kz),(zQG,Lib.tabData .u32 iz),(zQI,Rows.laid_attestor_session_states)] W∧handlesMet Tryd.prog [(zJC,Rows.laid_attestor_session_rules)] W:=h
 obtain ⟨hd,hh⟩:=h'
 have tC:=Lib.tabIs_of_head zBi zJD Tryd.underlying121 Tryd.underlying93 ziU zlo hd
 have hd2:=zmb hd
 have tI:=Lib.tabIs_of_head zKf zOY Tryd.underlying94 Tryd.underlying93 ziU zqc hd2
 have hd3:=zmb hd2
 obtain ⟨_,⟨g2,t2,c2,f2,p2,_,hg2,ht2,hv2,hr2,_⟩,_⟩:=hd3
 obtain rfl:=Option.some.inj (gStates.symm.trans hg2)
 obtain rfl:=Option.some.inj (gStatesT.symm.trans ht2)
 obtain ⟨b2,m2,hb2,gm2,k2,a2⟩:=zpv hr2
 have hh1:funcsAt Tryd.prog W zJC rulesD:=hh (zJC,Rows.laid_attestor_session_rules) (List.mem_cons_self ..)
 obtain ⟨g1,t1,c1,f1,p1,hg1,ht1,hv1,hr1⟩:=hh1
 obtain rfl:=Option.some.inj (gRules.symm.trans hg1)
 obtain rfl:=Option.some.inj (gRulesT.symm.trans ht1)
 obtain ⟨b1,m1,hb1,gm1,k1,a1⟩:=zt5 hr1
 have hne:=zJE gm1 gm2 a1
 refine ⟨b1,b2,m1,m2,⟨rfl,rfl,rfl,rfl,if_pos rfl,?_,k1,k2,a1,a2⟩,zQR (fun g sz xs hg => ?_) fun r m hm => ?_⟩
 · show (if b2=b1 then _ else _)=_
   rw [if_neg (Ne.symm hne),if_pos rfl]
 · simp only [GG] at hg
   split at hg
   · rename_i e;subst e;cases hg
     exact zf3 (l:=inits) tI zKf rfl (by decide)
   · split at hg
     · rename_i e;subst e;cases hg
       exact zf3 (l:=ks) tC zBi rfl (by decide)
     · split at hg
       · rename_i e;subst e;cases hg
         exact zmc gRules hv1 hb1
       · split at hg
         · rename_i e;subst e;cases hg
           exact zmc gStates hv2 hb2
         · cases hg
 · simp only [GG] at hm
   split at hm
   · rename_i e;subst e;cases hm;exact gm1
   · split at hm
     · rename_i e;subst e;cases hm;exact gm2
     · cases hm

noncomputable def laidWorld (os:Os):World:=World.doorLaid Tryd.prog 2000 os
set_option maxRecDepth 100000 in
theorem laid_met (os:Os) (args:Array Value):laidMetH Tryd.prog Rows.sessionCanonicalRow.laid ((laidWorld os).forCall (fun _ _=>0) ⟨#[],args,[]⟩).memory :=
 laidMetH_of_parts3 (fuel:=8) (laidMet_of_run' 8 (by kernel_rfl) (by kernel_rfl)) (by kernel_rfl) (by kernel_rfl)

set_option maxRecDepth 100000
section read
variable {k:Nat} {y:List PV}
theorem zBj (h:Reads Tryd.prog (k+2) 28 y) : ∃ l:By,l.length≤9223372036854775807∧y=[.sl false 1 (pl b8 l)]:=by
 obtain ⟨l,h1,rfl,-⟩:=Reads.sl b8 (fun _=>True) Tryd.underlying28 cells5 zJP h fun y hy=>by
  obtain ⟨b,rfl⟩:=Reads.u8 Tryd.underlying5 hy
  exact ⟨b,rfl,trivial⟩
 exact ⟨l,h1,rfl⟩
end read
section rel
variable {W:World} {v:Value} {H:Type} {enc:TypeId × Value → H} {d:DataW H} {ps:List MemPlace} {base:Nat}
theorem zt7 (hval:Value.okWide Tryd.prog W .any base 28 v) (h:DataW.Trod enc Tryd.prog W 0 (fun _=>true) true 28 v d ps) : ∃ l:By,l.length≤9223372036854775807∧RelV σ0 H0 W (.p (.sl false 1 (pl b8 l))) v:=by
 obtain ⟨xs,hx,e⟩:=zf4 2 (by kernel_rfl) hval h
 obtain ⟨l,h1,rfl⟩:=zBj (k:=0) hx
 rw [zvu] at e
 exact ⟨l,h1,e⟩
end rel
end Go.Proofs.YtmoecjgehdkhkaaDoor

/-
  Sessions: what messages and lists of acts read as.
-/
namespace Go.Proofs.YtmoecjgehdkhkaaDoor
open Go Go.AL Go.ChangeShapes Go.WideShapes Go.ChangeAt Go.RowKit

structure Msg.In (m:Msg):Prop where
 kind:okI m.kind
 session:okI m.session
 step:okI m.step
 text:m.text.length≤9223372036854775807
 sums:m.sums.length≤9223372036854775807
 values:m.values.length≤9223372036854775807
 wide : ∀ x∈m.sums,okI x
theorem of_string (s:ByteArray) : ∃ t:By,s=bytesOf t∧t.length=s.size:=by
 refine ⟨s.data.toList.map UInt8.toBitVec,?_,by rw [List.length_map,Array.length_toList];rfl⟩
 apply ByteArray.ext
 simp [bytesOf,Function.comp_def]
set_option maxRecDepth 100000
section read
variable {k:Nat} {y:List PV}
theorem zJF (h:Reads Tryd.prog (k+2) 24 y) : ∃ l:List Int,l.length≤9223372036854775807∧y=[.sl false 1 (pl i64 l)] ∧ ∀ x∈l,okI x :=
 Reads.sl i64 okI Tryd.underlying24 cells2 zJO h fun y hy=>by
  obtain ⟨z,h1,h2,rfl⟩:=Reads.i64 Tryd.underlying2 hy
  exact ⟨z,rfl,h1,h2⟩
theorem zJG (h:Reads Tryd.prog (k+3) 25 y) : ∃ l:List Ext,l.length≤9223372036854775807∧y=[.sl false 2 (pl ext l)]:=by
 obtain ⟨l,h1,h2,-⟩:=Reads.sl ext (fun _=>True) Tryd.underlying25 ziT zvx h fun y hy=>by
  obtain ⟨y1,z1,rfl,-,r1,y2,z2,rfl,-,r2,rfl⟩:=Reads.struct Tryd.underlying63 hy
  obtain ⟨a,rfl⟩:=Reads.u64 Tryd.underlying61 r1
  obtain ⟨b,rfl⟩:=Reads.u64 Tryd.underlying61 r2
  exact ⟨⟨a,b⟩,rfl,trivial⟩
 exact ⟨l,h1,h2⟩
theorem zBk (h:Reads Tryd.prog (k+4) 27 y) : ∃ m:Msg,m.In∧y=zd1 m:=by
 obtain ⟨y1,z1,rfl,-,r1,y2,z2,rfl,-,r2,y3,z3,rfl,-,r3,y4,z4,rfl,-,r4,y5,z5,rfl,-,r5,y6,z6,rfl,-,r6,y7,z7,rfl,-,r7,rfl⟩:=Reads.struct Tryd.underlying27 h
 obtain ⟨kd,a1,a2,rfl⟩:=Reads.i64 Tryd.underlying3 r1
 obtain ⟨se,b1,b2,rfl⟩:=Reads.i64 Tryd.underlying3 r2
 obtain ⟨sp,c1,c2,rfl⟩:=Reads.i64 Tryd.underlying3 r3
 obtain ⟨s,hs,rfl⟩:=Reads.str Tryd.underlying9 r4
 obtain ⟨t,rfl,ht⟩:=of_string s
 obtain ⟨d,hd,rfl⟩:=Reads.arr b8 Tryd.underlying23 r5 fun y hy=>Reads.u8 Tryd.underlying5 hy
 obtain ⟨su,e1,rfl,e2⟩:=zJF r6
 obtain ⟨va,f1,rfl⟩:=zJG r7
 exact ⟨⟨kd,se,sp,t,⟨d,hd⟩,su,va⟩,⟨⟨a1,a2⟩,⟨b1,b2⟩,⟨c1,c2⟩,by show t.length≤_;omega,e1,f1,e2⟩,by simp [zd1]⟩
end read
section rel
variable {W:World} {v:Value} {H:Type} {enc:TypeId × Value → H} {d:DataW H} {ps:List MemPlace} {base:Nat}
theorem zJH (hval:Value.okWide Tryd.prog W .any base 27 v) (h:DataW.Trod enc Tryd.prog W 0 (fun _=>true) true 27 v d ps) : ∃ m:Msg,m.In∧RelV σ0 H0 W (.p (msg m)) v:=by
 obtain ⟨xs,hx,e⟩:=zf4 8 (by kernel_rfl) hval h
 obtain ⟨m,h1,rfl⟩:=zBk (k:=4) hx
 rw [zvt] at e
 exact ⟨m,h1,e⟩
end rel
def wM:Value := .agg ⟨[.int .i64 0,.int .i64 0,.int .i64 0,.string ByteArray.empty]++(List.replicate 32 (.int .u8 0)++[.slice none 0 0,.slice none 0 0])⟩
def rM {H:Type}:DataW H := .agg [.lit (.int .i64 0),.lit (.int .i64 0),.lit (.int .i64 0),.lit (.string []),.agg (List.replicate 32 (.lit (.int .u8 0))),.nil,.nil]
end Go.Proofs.YtmoecjgehdkhkaaDoor

/-
  Sessions: what lists of acts read as.
-/
namespace Go.Proofs.YtmoecjgehdkhkaaDoor
open Go Go.AL Go.ChangeShapes Go.WideShapes Go.ChangeAt Go.RowKit

set_option maxRecDepth 100000
section read
variable {k:Nat} {y:List PV}
theorem zOZ (h:Reads Tryd.prog (k+5) 47 y) : ∃ x:Act,x.m.In∧y=zgC x:=by
 obtain ⟨y1,z1,rfl,-,r1,y2,z2,rfl,-,r2,y3,z3,rfl,-,r3,y4,z4,rfl,-,r4,y5,z5,rfl,-,r5,rfl⟩:=Reads.struct Tryd.underlying47 h
 obtain ⟨a,rfl⟩:=Reads.u8 Tryd.underlying5 r1
 obtain ⟨b,rfl⟩:=Reads.u8 Tryd.underlying5 r2
 obtain ⟨m,hm,rfl⟩:=zBk r3
 obtain ⟨c,rfl⟩:=Reads.u8 Tryd.underlying5 r4
 obtain ⟨d,rfl⟩:=Reads.u8 Tryd.underlying5 r5
 exact ⟨⟨a,b,m,c,d⟩,hm,by simp [zgC]⟩
theorem zJI (h:Reads Tryd.prog (k+6) 38 y) : ∃ l:List Act,l.length≤9223372036854775807∧y=[.sl false 42 (pl act l)] ∧ ∀ x∈l,x.m.In :=
 Reads.sl act (fun x=>x.m.In) Tryd.underlying38 cells47 zvw h fun y hy=>by
  obtain ⟨x,h1,rfl⟩:=zOZ hy
  exact ⟨x,rfl,h1⟩
end read
section rel
variable {W:World} {v:Value} {H:Type} {enc:TypeId × Value → H} {d:DataW H} {ps:List MemPlace} {base:Nat}
theorem zBl (hval:Value.okWide Tryd.prog W .any base 38 v) (h:DataW.Trod enc Tryd.prog W 0 (fun _=>true) true 38 v d ps) : ∃ l:List Act,l.length≤9223372036854775807∧(∀ i,i < l.length → (nth l i).m.In)∧RelV σ0 H0 W (.p (.sl false 42 (pl act l))) v:=by
 obtain ⟨xs,hx,e⟩:=zf4 8 (by kernel_rfl) hval h
 obtain ⟨l,h1,rfl,h2⟩:=zJI (k:=2) hx
 rw [zvv] at e
 exact ⟨l,h1,fun i hi=>h2 _ (by rw [show nth l i=l[i] by simp [nth,hi]];exact List.getElem_mem hi),e⟩
end rel
end Go.Proofs.YtmoecjgehdkhkaaDoor
