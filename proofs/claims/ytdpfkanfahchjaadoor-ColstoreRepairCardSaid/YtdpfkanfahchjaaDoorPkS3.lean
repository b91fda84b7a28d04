/-
  The log of readings: runs of operations.
-/
import Derived.Test.YtdpfkanfahchjaaDoorPkS2
import Derived.Test.YtdpfkanfahchjaaDoorCards
import Derived.Test.YtdpfkanfahchjaaDoorTie
set_option linter.unusedSimpArgs false
set_option linter.unusedVariables false
namespace Go.Proofs.YtdpfkanfahchjaaDoor
open Go Go.AL

theorem ztp {s:Sto} {l:List Rdg} (h:WS s) (h2:(y7 s l).2=0):WS (y7 s l).1:=by
 unfold y7 at h2 ⊢
 split at h2<;>split
 · cases h2
 · contradiction
 · contradiction
 · split at h2
   · cases h2
   · rename_i c
     rw [if_neg c]
     have:=zfK (d:=s.1)
     have h1:=h.1
     refine⟨?_,?_⟩<;>dsimp only
     · omega
     · rw [List.length_append,List.length_take];omega
theorem zuT {s:Sto} {i:Int} (h:WS s) (h2:(rtV s i).2=0):WS (rtV s i).1:=by
 unfold rtV at h2 ⊢
 split at h2
 · rename_i c;exact absurd h2 c
 · rename_i c
   rw [if_neg c]
   have:=zfK (d:=s.1)
   have h1:=h.1
   refine⟨?_,?_⟩<;>dsimp only
   · omega
   · rw [List.length_append,List.length_take];omega
theorem zuU {d:By} {s k:Int} (h:0≤s∧s≤d.length):crN d s k≤d.length:=by unfold crN;omega
theorem zuV {s:Sto} {x:Op} (h:WS s):WS (apV s x):=by
 unfold apV
 split
 · split
   · exact h
   · split
     · rename_i c;exact zuT h c
     · exact h
 · split
   · exact⟨by dsimp only;omega,by dsimp only;omega⟩
   · split
     · have:=zuU (d:=s.1) (k:=x.a.toNat) h
       exact⟨by dsimp only;omega,by dsimp only;rw [List.length_take];omega⟩
     · split
       · rename_i c;exact ztp h c
       · exact h
theorem ztq {s:Sto} {x:Op}:(apV s x).1.length≤s.1.length+300:=by
 unfold apV
 split
 · split
   · omega
   · split
     · rename_i c
       unfold rtV at c ⊢
       split at c
       · rename_i q;exact absurd c q
       · rename_i q
         rw [if_neg q]
         dsimp only
         rw [List.length_append,List.length_take,yA,zv];omega
     · omega
 · split
   · dsimp only;omega
   · split
     · dsimp only;rw [List.length_take];omega
     · split
       · rename_i c
         have hp:=zdz (l:=rds x.l)
         have hr:=zcC (l:=x.l)
         unfold y7 at c ⊢
         split
         · dsimp only;rw [List.length_nil];omega
         · split
           · dsimp only;rw [List.length_nil];omega
           · dsimp only
             rw [List.length_append,List.length_take,yA];omega
       · omega
noncomputable def za3 (l:List Op) (i:Nat):Sto:=(l.take i).foldl apV ([],0)
theorem zcD {l:List Op} {i:Nat} (h:i < l.length):za3 l (i+1)=apV (za3 l i) (l[i]):=by
 rw [za3,List.take_succ_eq_append_getElem h,List.foldl_append];rfl
theorem zh0 {l:List Op} : ∀ {i:Nat},i≤l.length → WS (za3 l i)∧(za3 l i).1.length≤300*i
 | 0,_=>⟨⟨Int.le_refl _,Int.le_refl _⟩,Nat.le_refl _⟩
 | i+1,h=>by
  obtain⟨h1,h2⟩:=zh0 (l:=l) (i:=i) (by omega)
  rw [zcD (by omega)]
  exact⟨zuV h1,by have:=ztq (s:=za3 l i) (x:=l[i]);omega⟩
noncomputable def runV (l:List Op):Sto:=za3 l (min 12 l.length)
theorem ztr {l:List Op}:WS (runV l)∧(runV l).1.length≤3600:=by
 obtain⟨n,hn⟩ : ∃ n,n=min 12 l.length:=⟨_,rfl⟩
 have h1:n≤l.length:=by omega
 have h2:n≤12:=by omega
 have:=zh0 (l:=l) (i:=n) h1
 unfold runV
 rw [←hn]
 exact⟨this.1,Nat.le_trans this.2 (Nat.mul_le_mul_left 300 h2)⟩
instance:Inhabited Op:=⟨⟨0#8,[],0#16⟩⟩
section walks
variable {G:Globs}
set_option maxRecDepth 20000 in
theorem zfQ (H:Hp) (R:AV → Hp → Prop) (h:R (.p (sto [] 0)) H):ACall Tryd.prog G 34 [] H R:=by
 refine ACall.of_run (raw:=[]) Tryd.func34 rfl Tryd.ntmps34 (by simp) fun hbel => ?_
 refine .q ?_;refine .text ?_;simp (disch:=first|exact za|fail) only [go_sem,seval,-List.reduceReplicate]
 refine .q ?_;refine .text ?_;simp (disch:=first|exact za|fail) only [go_sem,seval,-List.reduceReplicate]
 refine .q ?_;refine .rt Tryd.func34 (by rw [Tryd.results34]) (hR := ?_);simp (disch:=first|exact za|fail) only [go_sem,seval,-List.reduceReplicate]
 exact h
set_option maxHeartbeats 4000000 in
set_option maxRecDepth 20000 in
theorem zr5 (hG0:G 0=some (8,[.agg (pl zG inits)])) (hG1:G 1=some (64,[.agg (pl zG ks)])) (l:List Op) (hl:l.length≤9223372036854775807) (hx : ∀ x∈l,x.l.length≤9223372036854775807) (H:Hp) (R:AV → Hp → Prop)
 (h:R (.p (sto (runV l).1 (runV l).2)) H):ACall Tryd.prog G 10 [.p (.sl false 3 (pl opv l))] H R:=by
 have hag : ∀ x,(opv x).aggOf 0 3=opv x:=fun _=>rfl
 have how : ∀ x,(opv x).weak=opv x:=fun _=>rfl
 have hol : ∀ x,(opv x).cells.length=3:=fun _=>rfl
 have r0:za3 l 0=([],0):=rfl
 refine ACall.of_run (raw:=[]) Tryd.func10 rfl Tryd.ntmps10 (by simp) fun hbel => ?_
 refine .q ?_;refine .text ?_;simp (disch:=first|exact za|fail) only [go_sem,seval,-List.reduceReplicate]
 refine .q ?_;refine .text ?_;simp (disch:=first|exact za|fail) only [go_sem,seval,-List.reduceReplicate]
 refine CallK.of (fun R h=>zfQ _ R h) ?_;simp (disch:=first|exact za|fail) only [go_sem,seval,-List.reduceReplicate]
 refine .q ?_;refine .text ?_;simp (disch:=first|exact za|fail) only [go_sem,seval,-List.reduceReplicate]
 refine .q ?_;refine .loopE [0,2,3] (fun i=>[(4,.p (i64 i))]) (fun i=>[(H.n+1,.cells [.p (.sl false 1 (pl b8 (za3 l i).1)),.p (i64 (za3 l i).2)])]) (fun i=>True) (0) (min 12 l.length) (by omega) ?_ (by first | rfl | (simp (disch:=first|exact za|fail) only [go_sem,seval,-List.reduceReplicate,r0]<;>rfl)) ?_ ?_ ?_
 · simp (disch:=first|exact za|fail) only [go_sem,seval,-List.reduceReplicate,r0]<;>(repeat' (first | rfl | refine And.intro ?_ ?_))
 · exact trivial
 intro env E hQ;simp (disch:=first|exact za|fail) only [go_sem,seval,-List.reduceReplicate,r0] at E
 rotate_left 1
 intro i env hi0 hi E hQ ihE;simp (disch:=first|exact za|fail) only [go_sem,seval,-List.reduceReplicate,r0] at E
 rotate_left 1
 · unfold runV at h
   obtain⟨n,hn⟩ : ∃ n,n=min 12 l.length:=⟨_,rfl⟩
   rw [←hn] at h E ⊢
   by_cases c1:l.length≤12
   · have d1:decide ((n:Int) < (l.length:Int))=false:=decide_eq_false (by omega)
     refine .q ?_;refine .text ?_;simp (disch:=first|exact za|fail) only [go_sem,seval,-List.reduceReplicate,E,zj,zm,d1]
     refine .q ?_;refine .ifF (by simp (disch:=first|exact za|fail) only [go_sem,seval,-List.reduceReplicate]) ?_
     refine .q ?_;refine .text ?_;simp (disch:=first|exact za|fail) only [go_sem,seval,-List.reduceReplicate,E,zj,zm]
     refine .q ?_;refine .rt Tryd.func10 (by rw [Tryd.results10]) (hx:=by simp (disch:=first|exact za|fail) only [go_sem,seval,-List.reduceReplicate,E];rfl) (hR := ?_);simp (disch:=first|exact za|fail) only [go_sem,seval,-List.reduceReplicate,E]
     exact h
   · have d1:decide ((n:Int) < (l.length:Int))=true:=decide_eq_true (by omega)
     have d2:decide ((n:Int) < 12)=false:=decide_eq_false (by omega)
     refine .q ?_;refine .text ?_;simp (disch:=first|exact za|fail) only [go_sem,seval,-List.reduceReplicate,E,zj,zm,d1,d2]
     refine .q ?_;refine .ifF (by simp (disch:=first|exact za|fail) only [go_sem,seval,-List.reduceReplicate]) ?_
     refine .q ?_;refine .text ?_;simp (disch:=first|exact za|fail) only [go_sem,seval,-List.reduceReplicate,E,zj,zm]
     refine .q ?_;refine .rt Tryd.func10 (by rw [Tryd.results10]) (hx:=by simp (disch:=first|exact za|fail) only [go_sem,seval,-List.reduceReplicate,E];rfl) (hR := ?_);simp (disch:=first|exact za|fail) only [go_sem,seval,-List.reduceReplicate,E]
     exact h
 · have hil:i < l.length:=by omega
   have d1:decide ((i:Int) < (l.length:Int))=true:=decide_eq_true (by omega)
   have d2:decide ((i:Int) < 12)=true:=decide_eq_true (by omega)
   obtain⟨hws,hle⟩:=zh0 (l:=l) (i:=i) (by omega)
   have hnl:l[i]=nth l i:=by simp [nth,hil]
   have hsu:=zcD hil
   rw [hnl] at hsu
   have hap : ∀ (B:Hp) (R:AV → Hp → Prop),R (.p (sto (za3 l (i+1)).1 (za3 l (i+1)).2)) B → ACall Tryd.prog G 35 [.p (sto (za3 l i).1 (za3 l i).2),.p (opv (nth l i))] B R:=fun B R h=>zhZ hG0 hG1 (za3 l i).1 (za3 l i).2 (nth l i) hws (by omega) (hx _ (zbd hil)) B R (by rw [hsu] at h;exact h)
   have hst:PV.agg [.sl false 1 (pl b8 (za3 l i).1),i64 (za3 l i).2]=sto (za3 l i).1 (za3 l i).2:=rfl
   refine .q ?_;refine .text ?_;simp (disch:=first|exact za|fail) only [go_sem,seval,-List.reduceReplicate,E,zj,zm,d1,d2]
   refine .q ?_;refine .ifT (by simp (disch:=first|exact za|fail) only [go_sem,seval,-List.reduceReplicate]) ?_
   refine .q ?_;refine .openT [6] follows (by kernel_rfl) ?_;simp (disch:=first|exact za|fail) only [go_sem,seval,-List.reduceReplicate,E,zj,zm,hag,how,hol,hst]
   refine CallD.still (fun R h=>hap _ R h) ?_;simp (disch:=first|exact za|fail) only [go_sem,seval,-List.reduceReplicate,E]
   refine .q ?_;refine .text ?_;simp (disch:=first|exact za|fail) only [go_sem,seval,-List.reduceReplicate,E,zj,zm]
   first | (refine ihE _ _ ?_ trivial ?_) | (refine .z rfl ?_;refine ihE _ _ ?_ trivial ?_) | (refine .z rfl ?_;refine .z rfl ?_;refine ihE _ _ ?_ trivial ?_) | (refine .z rfl ?_;refine .z rfl ?_;refine .z rfl ?_;refine ihE _ _ ?_ trivial ?_)
   · simp (disch:=first|exact za|fail) only [go_sem,seval,-List.reduceReplicate,E,zj,zm]<;>(repeat' (first | rfl | refine And.intro ?_ ?_))
   · first | rfl | (simp (disch:=first|exact za|fail) only [go_sem,seval,-List.reduceReplicate,E,zj,zm]<;>(try rfl))
end walks
end Go.Proofs.YtdpfkanfahchjaaDoor

/-
  The log of readings: the streams after each change.
-/
namespace Go.Proofs.YtdpfkanfahchjaaDoor
open Go Go.AL

instance:Inhabited Strm:=⟨z0S⟩
def lst (o:List Strm):Strm:=nth o (o.length - 1)
structure Hs where
 o:List Strm
 y:Nat
def hstep (h:Hs) (x:Op):Hs :=
 ⟨if x.k % 4#8 < 2#8 then (if (chg (lst h.o) x).2=true then h.o++[(chg (lst h.o) x).1] else h.o) else h.o,if x.k % 4#8=2#8 then h.o.length - 1 else h.y⟩
def zmb (l:List Op) (i:Nat):Hs:=(l.take i).foldl hstep ⟨[z0S],0⟩
theorem zoY {l:List Op} {i:Nat} (h:i < l.length):zmb l (i+1)=hstep (zmb l i) (nth l i):=by
 rw [zmb,List.take_succ_eq_append_getElem h,List.foldl_append,show l[i]=nth l i by simp [nth,h]];rfl
theorem zoZ {s:Strm} {i:Int} (h:(yc s i).2=0):(yc s i).1=⟨s.l,s.gone.set i.toNat true⟩:=by
 unfold yc at h ⊢
 split
 · rename_i c;rw [if_pos c] at h;cases h
 · rename_i c
   rw [if_neg c] at h
   split
   · rename_i d;rw [if_pos d] at h;cases h
   · rfl
def SL (n:Nat) (s:Strm):Prop:=s.gone.length=s.l.length∧s.l.length≤n ∧ ∀ r∈s.l,vR r
theorem zr6 {s:Strm} {x:Op} {n:Nat} (h:SL n s):SL (n+20) (chg s x).1:=by
 obtain⟨h1,h2,h3⟩:=h
 unfold chg
 split
 · split
   · exact⟨h1,by dsimp only;omega,h3⟩
   · split
     · exact⟨h1,by dsimp only;omega,h3⟩
     · rename_i c
       rw [show ((yc s (x.a.toNat % s.l.length:Nat)).1,true).1=(yc s (x.a.toNat % s.l.length:Nat)).1 from rfl,zoZ (Decidable.not_not.1 c)]
       exact⟨by dsimp only;rw [List.length_set];exact h1,by dsimp only;omega,h3⟩
 · have:=zcC (l:=x.l)
   refine⟨?_,?_,?_⟩<;>dsimp only
   · simp [h1]
   · rw [List.length_append];omega
   · intro r hr
     rcases List.mem_append.1 hr with hr | hr
     · exact h3 r hr
     · exact zgT r hr
theorem zts {o:List Strm} (h:1≤o.length):lst o∈o:=zbd (by omega)
theorem SL.mono {s:Strm} {n m:Nat} (h:SL n s) (hm:n≤m):SL m s:=⟨h.1,Nat.le_trans h.2.1 hm,h.2.2⟩
def his (l:List Op):Hs:=zmb l (min 12 l.length)
structure HhS where
 B:Hp
 i:Nat
structure HI (H:Hp) (l:List Op) (x:HhS):Prop where
 i:x.i≤min 12 l.length
 n:H.n+1≤x.B.n
 f:x.B.f H.n=some (.tail ((zmb l x.i).o.length - 1))
 tr:x.B.trunc H.n=H
section walks
variable {G:Globs}
end walks
end Go.Proofs.YtdpfkanfahchjaaDoor

/-
  The log of readings: a record with a right digest.
-/
namespace Go.Proofs.YtdpfkanfahchjaaDoor
open Go Go.AL

section walks
variable {G:Globs}
end walks
end Go.Proofs.YtdpfkanfahchjaaDoor

/-
  The log of readings: plain facts for the laws.
-/
namespace Go.Proofs.YtdpfkanfahchjaaDoor
open Go Go.AL

theorem zuW {s s':Strm} {k:BitVec 8} {p:By} (h:ym s k p=some s') (hs : ∀ r∈s.l,vR r) : ∀ r∈s'.l,vR r:=by
 unfold ym at h
 split at h
 · split at h
   · split at h
     · rename_i q
       cases h
       intro r hr
       rcases List.mem_append.1 hr with hr | hr
       · exact hs r hr
       · exact zto q.2.2.1 r hr
     · cases h
   · cases h
 · split at h
   · unfold zdS at h
     split at h
     · cases h;exact hs
     · cases h
   · cases h
theorem Log.v {s t:Strm} {b:By} (h:Log s b t) (hs : ∀ r∈s.l,vR r) : ∀ r∈t.l,vR r:=by
 induction h with
 | nil s=>exact hs
 | cons _ h _ ih=>exact ih (zuW h hs)
theorem zr7 {l:List Rdg} (h : ∀ r∈l,vR r) (hl:l.length≤4096):za2 (l.length:Int) (pkc l 4)=(l,0):=by
 have hsn:zlN l.length (fun k=>(pkc l 4)[k]?.getD []):=fun k hk=>by
  dsimp only
  rw [zag hk];exact zjF h k hk
 have hseg:zc4 l.length (fun k=>(pkc l 4)[k]?.getD [])=l:=by
  have:=zec h
  unfold zc4 at this ⊢
  conv=>rhs;rw [←this]
  apply List.map_congr_left
  intro i _
  simp only [mkR,zag (show 0 < 4 by decide),zag (show 1 < 4 by decide),zag (show 2 < 4 by decide),zag (show 3 < 4 by decide)]
 have hok:zl3 (l.length:Int) (pkc l 4):=⟨by omega,by omega,zcz,by rw [Int.toNat_natCast];exact hsn⟩
 unfold za2
 rw [if_pos hok,Int.toNat_natCast]
 exact Prod.ext hseg rfl
def sr0:Rdg:=⟨1,2,3,7⟩
def sr1:Rdg:=⟨1,3,3,7⟩
def sr2:Rdg:=⟨1,4,3,9⟩
def sl3:List Rdg:=[sr0,sr1,sr2]
theorem zj1 : ∀ r∈sl3,vR r:=by
 intro r hr
 simp only [sl3,List.mem_cons,List.not_mem_nil,or_false] at hr
 rcases hr with rfl | rfl | rfl<;>(simp only [vR,sr0,sr1,sr2];omega)
theorem zj2:pkc sl3 4=[[1#8,2#8],[2#8,0#8,3#8,0#8,4#8,0#8],[3#8,2#8],[7#8,1#8,9#8,0#8]]:=by
 have g : ∀ v:BitVec 8,∀ t,y6 (v :: t)=(v,lead v t 255) :: y6 (t.drop (lead v t 255)):=fun _ _=>za0
 have c0:zH sl3 0=[1#8,1#8,1#8]:=rfl
 have c1:zH sl3 1=[2#8,3#8,4#8]:=rfl
 have c2:zH sl3 2=[3#8,3#8,3#8]:=rfl
 have c3:zH sl3 3=[7#8,7#8,9#8]:=rfl
 have e:pkc sl3 4=[rle (zH sl3 0),rle (zH sl3 1),rle (zH sl3 2),rle (zH sl3 3)]:=rfl
 rw [e,c0,c1,c2,c3]
 simp [rle,za0,zdq,lead,flq]
theorem zmc:lS []=z0S:=by unfold lS;rw [za1]
theorem zr8:lN []=0:=by unfold lN;rw [za1];rfl
theorem zuX:lE []=0:=by unfold lE;rw [za1];rfl
noncomputable def sD1:By:=y9 1#8 (pcl sl3)
noncomputable def sD2:By:=sD1++y9 2#8 (yj 4 1)
def ss1:Strm:=⟨sl3,[false,false,false]⟩
def ss2:Strm:=⟨sl3,[false,true,false]⟩
theorem zj3:(pcl sl3).length=32:=by
 unfold pcl zoF
 rw [zj2]
 simp [zZ,zv]
theorem zeG:sD1.length=45:=by unfold sD1;rw [yA,zj3]
theorem zh1:sD2.length=62:=by unfold sD2;rw [List.length_append,zeG,yA,zv]
theorem zmd:Log z0S sD1 ss1:=by
 have h:=zdA (s:=z0S) (l:=sl3) (by decide) (by decide) zj1 (by decide)
 have:=Log.snoc (a:=[]) (.nil z0S) (by rw [zj3];decide) h
 exact this
theorem zuY:yc ss1 1=(ss2,0):=rfl
theorem zme:Log z0S sD2 ss2:=by
 have h:=zdB (s:=ss1) (i:=1) (by decide)
 rw [zhV,show yc ss1 ((1:Nat):Int)=(ss2,0) from rfl] at h
 exact Log.snoc zmd (by rw [zv];decide) h
theorem zvB:y7 ([],0) sl3=((sD1,0),0):=by
 unfold y7
 rw [if_neg (by rintro (h | h | h);exact absurd h (by decide);exact absurd h (by decide);exact h zj1)]
 dsimp only
 rw [zmc,zr8,if_neg (by decide)]
 rfl
theorem zvV:rtV (sD1,0) 1=((sD2,0),0):=by
 have h:=zco zmd
 unfold rtV
 dsimp only
 rw [h.1,h.2.1,zuY,if_neg (by decide),List.take_length]
 exact Prod.ext (Prod.ext rfl (by show min (0:Int) _=0;omega)) rfl
theorem ztt:(rtV (sD2,0) 1).2=120:=by
 have h:=zco zme
 unfold rtV
 dsimp only
 rw [h.1,show yc ss2 1=(z0S,120) from rfl,if_pos (by decide)]
theorem zuZ:(rtV (sD2,0) 3).2=4:=by
 have h:=zco zme
 unfold rtV
 dsimp only
 rw [h.1,show yc ss2 3=(z0S,4) from rfl,if_pos (by decide)]
theorem ztu:(y7 (sD1,0) []).2=1:=by
 unfold y7
 rw [if_pos (.inl (by decide))]
def sr9:Rdg:=⟨99,0,0,0⟩
theorem zvD:(y7 (sD1,0) [sr9]).2=1:=by
 unfold y7
 rw [if_pos (.inr (.inr fun h=>absurd (h sr9 (by simp)) (by decide)))]
theorem zvE:sD2.take 61=sD1++(y9 2#8 (yj 4 1)).take 16:=by
 unfold sD2
 rw [List.take_append,zeG,List.take_of_length_le (by rw [zeG];decide)]
theorem zu0:lS (sD2.take 61)=ss1∧lN (sD2.take 61)=45∧lE (sD2.take 61)=270:=by
 have hr:(y9 2#8 (yj 4 1)).length=17:=by rw [yA,zv]
 have hl:((y9 2#8 (yj 4 1)).take 16).length=16:=by rw [List.length_take,hr];rfl
 have hc:=zeC (k:=2#8) (p:=yj 4 1) (r:=[]) (n:=16) (by rw [zv];decide) (by rw [zv];decide)
 rw [List.append_nil] at hc
 have h:ld z0S (sD2.take 61)=(ss1,16,false):=by
  rw [zvE,zlO zmd,zbN (by rw [hl];decide) hc,hl]
 have hl2:(sD2.take 61).length=61:=by rw [List.length_take,zh1];rfl
 unfold lS lN lE
 rw [h,hl2]
 exact⟨rfl,rfl,rfl⟩
theorem zvF:crN sD2 0 61=61:=by unfold crN;rw [zh1];rfl
theorem zvG:za2 1 [[1#8],[1#8,0#8],[1#8,0#8],[1#8,0#8]]=([],270):=by
 unfold za2
 rw [if_neg]
 rintro ⟨_,_,_,h⟩
 exact absurd (h 0 (by decide)).1 (by decide)
theorem ztv:za2 2 [[1#8,0#8,1#8,0#8],[1#8,1#8],[1#8,1#8],[1#8,1#8]]=([],270):=by
 unfold za2
 rw [if_neg]
 rintro ⟨_,_,_,h⟩
 have:=(h 0 (by decide)).2.2.1
 exact absurd (this.2.1 rfl) (by decide)
end Go.Proofs.YtdpfkanfahchjaaDoor

/-
  The log of readings: the fixed examples of the laws.
-/
namespace Go.Proofs.YtdpfkanfahchjaaDoor
open Go Go.AL

def sC1:List By:=[[1#8],[1#8,0#8],[1#8,0#8],[1#8,0#8]]
def sC2:List By:=[[1#8,0#8,1#8,0#8],[1#8,1#8],[1#8,1#8],[1#8,1#8]]
theorem s_odd':za2 1 sC1=([],270):=zvG
theorem s_split':za2 2 sC2=([],270):=ztv
theorem eqR {a b:Rdg} (ha:vR a) (hb:vR b):zo Tryd.prog .eql 24 (.p (zK a)) (.p (zK b))=some (.p (bo (decide (a=b)))):=by
 have h:=neR ha hb
 have f1 : ∀ P t xs ys,zo P .eql t (.p (.agg xs)) (.p (.agg ys))=(zb8 P t xs ys).map fun r => .p (.s (.bool r)):=fun _ _ _ _=>rfl
 have f2 : ∀ P t xs ys,zo P .neq t (.p (.agg xs)) (.p (.agg ys))=(zb8 P t xs ys).map fun r => .p (.s (.bool !r)):=fun _ _ _ _=>rfl
 unfold zK at h ⊢
 rw [f2] at h
 rw [f1]
 cases e:zb8 Tryd.prog 24 (rdL a) (rdL b) with
 | none=>rw [e] at h;cases h
 | some r =>
  rw [e] at h
  simp only [Option.map_some,bo,Option.some.injEq,AV.p.injEq,PV.s.injEq,Value.bool.injEq] at h
  have:r=decide (a=b):=by
   cases r<;>cases hd:decide (a=b)<;>simp_all
  rw [this];rfl
section walks
variable {G:Globs}
set_option maxHeartbeats 4000000 in
set_option maxRecDepth 20000 in
theorem zfR (d:By) (s0:Int) (H:Hp) (R:AV → Hp → Prop) (h:R (.tup [.p (sto [] 0),.p (i64 1)]) H):ACall Tryd.prog G 13 [.p (sto d s0),.p (.s (.slice none 0 0))] H R:=by
 refine ACall.of_run (raw:=[]) Tryd.func13 rfl Tryd.ntmps13 (by simp) fun hbel => ?_
 refine .nilS 1 4 rfl ?_
 refine .q ?_;refine .text ?_;simp (disch:=first|exact za|fail) only [go_sem,seval,-List.reduceReplicate]
 refine .q ?_;refine .text ?_;simp (disch:=first|exact za|fail) only [go_sem,seval,-List.reduceReplicate]
 have d1:decide ((([]:List PV).length:Int) < 1)=true:=rfl
 refine .q ?_;refine .text ?_;simp (disch:=first|exact za|fail) only [go_sem,seval,-List.reduceReplicate,d1]
 refine .q ?_;refine .ifT (by simp (disch:=first|exact za|fail) only [go_sem,seval,-List.reduceReplicate]) ?_
 refine .q ?_;refine .text ?_;simp (disch:=first|exact za|fail) only [go_sem,seval,-List.reduceReplicate]
 refine .q ?_;refine .rt Tryd.func13 (by rw [Tryd.results13]) (hR := ?_);simp (disch:=first|exact za|fail) only [go_sem,seval,-List.reduceReplicate]
 exact h
set_option maxHeartbeats 16000000 in
set_option maxRecDepth 40000 in
theorem zj4 (hG0:G 0=some (8,[.agg (pl zG inits)])) (hG1:G 1=some (64,[.agg (pl zG ks)])) (H:Hp) (R:AV → Hp → Prop) (h:R (.p (bo true)) H):ACall Tryd.prog G 9 [] H R:=by
 have hlit:[PV.agg [i64 1,i64 2,i64 3,i64 7],PV.agg [i64 1,i64 3,i64 3,i64 7],PV.agg [i64 1,i64 4,i64 3,i64 9]]=pl zK sl3:=rfl
 have hsl:sl3.length=3:=rfl
 refine ACall.of_run (raw:=[]) Tryd.func9 rfl Tryd.ntmps9 (by simp) fun hbel => ?_
 refine .q ?_;refine .text ?_;simp (disch:=first|exact za|fail) only [go_sem,seval,-List.reduceReplicate,hlit]
 refine .q ?_;refine .text ?_;simp (disch:=first|exact za|fail) only [go_sem,seval,-List.reduceReplicate,hlit]
 refine .q ?_;refine .text ?_;simp (disch:=first|exact za|fail) only [go_sem,seval,-List.reduceReplicate]
 refine CallK.of (fun R h=>zgK sl3 (by decide) _ R h) ?_;simp (disch:=first|exact za|fail) only [go_sem,seval,-List.reduceReplicate,hsl]
 refine .q ?_;refine .text ?_;simp (disch:=first|exact za|fail) only [go_sem,seval,-List.reduceReplicate]
 refine CallK.of (fun R h=>zbe 3 (pkc sl3 4) (fun c hc=>Nat.le_trans (zl9 c hc) (by decide)) _ R h) ?_;simp (disch:=first|exact za|fail) only [go_sem,seval,-List.reduceReplicate]
 have hu:za2 3 (pkc sl3 4)=(sl3,0):=zr7 zj1 (by decide)
 rw [hu]
 simp (disch:=first|exact za|fail) only [go_sem,seval,-List.reduceReplicate]
 refine .q ?_;refine .text ?_;simp (disch:=first|exact za|fail) only [go_sem,seval,-List.reduceReplicate]
 refine CallK.of (fun R h=>zfQ _ R h) ?_;simp (disch:=first|exact za|fail) only [go_sem,seval,-List.reduceReplicate]
 have hsw : ∀ d s,(sto d s).weak=sto d s:=fun _ _=>rfl
 have hseg : ∀ r c,(seg r c).weak=seg r c:=fun _ _=>rfl
 simp (disch:=first|exact za|fail) only [go_sem,seval,-List.reduceReplicate,hsw]
 refine CallK.of (fun R h=>yD hG0 hG1 [] 0 (by decide) _ R h) ?_;simp (disch:=first|exact za|fail) only [go_sem,seval,-List.reduceReplicate,zmc,zr8,zuX]
 refine .q ?_;refine .text ?_;simp (disch:=first|exact za|fail) only [go_sem,seval,-List.reduceReplicate]
 refine CallK.of (fun R h=>zfQ _ R h) ?_;simp (disch:=first|exact za|fail) only [go_sem,seval,-List.reduceReplicate,hsw]
 refine CallK.of (fun R h=>zah hG0 hG1 [] 0 sl3 (by decide) (by decide) _ R h) ?_;simp (disch:=first|exact za|fail) only [go_sem,seval,-List.reduceReplicate,zvB]
 have hd1:=zeG
 have hd2:=zh1
 obtain⟨D1,hD1⟩ : ∃ D,D=sD1:=⟨_,rfl⟩
 obtain⟨D2,hD2⟩ : ∃ D,D=sD2:=⟨_,rfl⟩
 have e_rt:=zvV
 have e_again:=ztt
 have e_none:=zuZ
 have e_empty:=ztu
 have e_bad:=zvD
 have e_log:=zco zme
 have e_torn:=zu0
 have e_crN:=zvF
 rw [←hD1] at hd1 e_rt e_empty e_bad ⊢
 rw [←hD2] at hd2 e_rt e_again e_none e_log e_torn e_crN
 refine .q ?_;refine .text ?_;simp (disch:=first|exact za|fail) only [go_sem,seval,-List.reduceReplicate,hsw]
 refine CallK.of (fun R h=>yy hG0 hG1 D1 0 1 (by omega) _ R h) ?_;simp (disch:=first|exact za|fail) only [go_sem,seval,-List.reduceReplicate,e_rt]
 refine .q ?_;refine .text ?_;simp (disch:=first|exact za|fail) only [go_sem,seval,-List.reduceReplicate,hsw]
 obtain⟨A1,a1⟩ : ∃ A:Sto,rtV (D2,0) 1=(A,120):=⟨_,Prod.ext rfl e_again⟩
 obtain⟨A2,a2⟩ : ∃ A:Sto,rtV (D2,0) 3=(A,4):=⟨_,Prod.ext rfl e_none⟩
 obtain⟨A4,a4⟩ : ∃ A:Sto,y7 (D1,0) [sr9]=(A,1):=⟨_,Prod.ext rfl e_bad⟩
 refine CallK.of (fun R h=>yy hG0 hG1 D2 0 1 (by omega) _ R h) ?_;simp (disch:=first|exact za|fail) only [go_sem,seval,-List.reduceReplicate,a1]
 refine .q ?_;refine .text ?_;simp (disch:=first|exact za|fail) only [go_sem,seval,-List.reduceReplicate,hsw]
 refine CallK.of (fun R h=>yy hG0 hG1 D2 0 3 (by omega) _ R h) ?_;simp (disch:=first|exact za|fail) only [go_sem,seval,-List.reduceReplicate,a2]
 refine .q ?_;refine .text ?_;simp (disch:=first|exact za|fail) only [go_sem,seval,-List.reduceReplicate,hsw]
 refine CallK.of (fun R h=>zfR D1 0 _ R h) ?_;simp (disch:=first|exact za|fail) only [go_sem,seval,-List.reduceReplicate]
 have hl9:[PV.agg [i64 99,i64 0,i64 0,i64 0]]=pl zK [sr9]:=rfl
 refine .q ?_;refine .text ?_;simp (disch:=first|exact za|fail) only [go_sem,seval,-List.reduceReplicate,hsw,hl9]
 refine CallK.of (fun R h=>zah hG0 hG1 D1 0 [sr9] (by omega) (by decide) _ R h) ?_;simp (disch:=first|exact za|fail) only [go_sem,seval,-List.reduceReplicate,a4]
 refine .q ?_;refine .text ?_;simp (disch:=first|exact za|fail) only [go_sem,seval,-List.reduceReplicate,hsw]
 refine CallK.of (fun R h=>yD hG0 hG1 D2 0 (by omega) _ R h) ?_;simp (disch:=first|exact za|fail) only [go_sem,seval,-List.reduceReplicate,e_log.1,e_log.2.1,e_log.2.2]
 have h61:(D2.length:Int) - 1=61:=by omega
 refine .q ?_;refine .text ?_;simp (disch:=first|exact za|fail) only [go_sem,seval,-List.reduceReplicate,hsw,h61]
 refine CallK.of (fun R h=>zc5 D2 0 61 ⟨by omega,by omega⟩ (by omega) ⟨by omega,by omega⟩ _ R h) ?_;simp (disch:=first|exact za|fail) only [go_sem,seval,-List.reduceReplicate,e_crN,hsw]
 have h61l:(D2.take 61).length≤140737488353000:=by rw [List.length_take];omega
 refine CallK.of (fun R h=>yD hG0 hG1 (D2.take 61) 61 h61l _ R h) ?_;simp (disch:=first|exact za|fail) only [go_sem,seval,-List.reduceReplicate,e_torn.1,e_torn.2.1,e_torn.2.2]
 refine .q ?_;refine .text ?_;simp (disch:=first|exact za|fail) only [go_sem,seval,-List.reduceReplicate]
 refine CallK.of (fun R h=>zbe 1 sC1 (by decide) _ R h) ?_;simp (disch:=first|exact za|fail) only [go_sem,seval,-List.reduceReplicate,s_odd']
 refine .q ?_;refine .text ?_;simp (disch:=first|exact za|fail) only [go_sem,seval,-List.reduceReplicate]
 refine CallK.of (fun R h=>zbe 2 sC2 (by decide) _ R h) ?_;simp (disch:=first|exact za|fail) only [go_sem,seval,-List.reduceReplicate,s_split']
 have hpk:(pkc sl3 4).length=4:=zcz
 have hg2:ss2.gone.length=3:=rfl
 refine .q ?_;refine .text ?_;simp (disch:=first|exact za|fail) only [go_sem,seval,-List.reduceReplicate,hpk,hsl,hg2]
 refine .q ?_;refine .ifF (by simp (disch:=first|exact za|fail) only [go_sem,seval,-List.reduceReplicate]) ?_
 refine .skip ?_
 have hc:=zj2
 obtain⟨c3,hc3'⟩ : ∃ c:By,c=[7#8,1#8,9#8,0#8]:=⟨_,rfl⟩
 obtain⟨c0,hc0'⟩ : ∃ c:By,c=[1#8,2#8]:=⟨_,rfl⟩
 have hc3:nth (pkc sl3 4) 3=c3:=by rw [hc,hc3'];rfl
 have hc0:nth (pkc sl3 4) 0=c0:=by rw [hc,hc0'];rfl
 have hb3:[b8 7#8,b8 1#8,b8 9#8,b8 0#8]=pl b8 c3:=by rw [hc3'];rfl
 have hb0:[b8 1#8,b8 2#8]=pl b8 c0:=by rw [hc0'];rfl
 have hal : ∀ c:By,((pl b8 c).all fun x=>x.cells.length == 1)=true:=fun c=>by
  rw [List.all_eq_true];intro x hx;simp only [pl,List.mem_map] at hx;obtain⟨y,_,rfl⟩:=hx;rfl
 have hpw : ∀ c:By,(pl b8 c).map PV.weak=pl b8 c:=fun c=>zdg fun _=>rfl
 have hrw : ∀ r,(zK r).weak=zK r:=fun _=>rfl
 have hrc : ∀ r,(zK r).cells.length=4:=fun _=>rfl
 have hr2:(⟨1,4,3,9⟩:Rdg)=sr2:=rfl
 have hdq : ∀ c:By,decide (c=c)=true:=fun c=>by simp
 have hz:z0S.l.length=0:=rfl
 have hg1:nth ss2.gone 1=true:=rfl
 have hg0:nth ss2.gone 0=false:=rfl
 have hs1:ss1.l.length=3:=rfl
 have hag : ∀ r,(zK r).aggOf 0 4=zK r:=fun _=>rfl
 have hn2:nth sl3 2=sr2:=rfl
 have heq:zo Tryd.prog .eql 24 (.p (zK sr2)) (.p (zK sr2))=some (.p (bo true)):=by
  rw [eqR (zj1 _ (by simp [sl3])) (zj1 _ (by simp [sl3]))];simp
 refine .q ?_;refine .openStill follows (by kernel_rfl) ?_;simp (disch:=first|exact za|fail) only [go_sem,seval,-List.reduceReplicate,List.append_eq,hrw,hrc,hr2,hal,hpw,hb3,hb0,hdq,hpk,hsl,hg2,hc3,hc0,hz,hg1,hg0,hs1,hd1,hd2,hag,hn2,heq,yx,zeF]
 refine CallD.still (fun R h=>zgL D1 0 _ R h) ?_;simp (disch:=first|exact za|fail) only [go_sem,seval,-List.reduceReplicate,List.append_eq,hsw,hd1]
 refine CallD.still (fun R h=>zfF D1 D1 45 45 _ R h) ?_;simp (disch:=first|exact za|fail) only [go_sem,seval,-List.reduceReplicate,List.append_eq,hdq]
 refine .q ?_;refine .rt Tryd.func9 (by rw [Tryd.results9]) (hR := ?_);simp (disch:=first|exact za|fail) only [go_sem,seval,-List.reduceReplicate]
 exact h
end walks
end Go.Proofs.YtdpfkanfahchjaaDoor

/-
  The log of readings: a run without crashes and its history.
-/
namespace Go.Proofs.YtdpfkanfahchjaaDoor
open Go Go.AL

structure Inv (n:Nat) (s:Sto) (h:Hs) (rc:Recs):Prop where
 ok:zrG rc
 len:h.o.length=rc.length+1
 sq:Sqn (fun j=>nth h.o j) rc
 z:nth h.o 0=z0S
 disk:s.1=lg rc
 syn:s.2=((lg (rc.take h.y)).length:Nat)
 y:h.y≤rc.length
 sl : ∀ t∈h.o,SL n t
theorem zmf {rc:Recs} {i:Nat}:(lg (rc.take i)).length≤(lg rc).length:=by
 conv=>rhs;rw [←List.take_append_drop i rc,zlP,List.length_append]
 omega
theorem zbP {α:Type} [Inhabited α] {l m:List α} {i:Nat} (h:i < l.length):nth (l++m) i=nth l i:=by
 simp [nth,List.getElem?_append_left h]
theorem zj5 {α:Type} [Inhabited α] {l:List α} {x:α}:nth (l++[x]) l.length=x:=by simp [nth]
theorem Inv.last {n:Nat} {s:Sto} {h:Hs} {rc:Recs} (i:Inv n s h rc):lS s.1=lst h.o∧lN s.1=s.1.length∧lE s.1=0:=by
 have hl:=zmS i.ok i.sq
 rw [i.z,←i.disk] at hl
 have:=zco hl
 rw [show rc.length=h.o.length - 1 by rw [i.len];rfl] at this
 exact this
theorem Inv.snoc {n:Nat} {s:Sto} {h:Hs} {rc:Recs} (i:Inv n s h rc) {k:BitVec 8} {p:By} {u:Strm} (hp:p.length≤1048576) (h2:ym (lst h.o) k p=some u) (hu:SL (n+20) u) :
 Inv (n+20) (s.1++y9 k p,s.2) ⟨h.o++[u],h.y⟩ (rc++[(k,p)]):=by
 have hl:=i.len
 have ho:h.o.length - 1=rc.length:=by omega
 refine⟨?_,?_,?_,?_,?_,?_,?_,?_⟩<;>(try dsimp only)
 · intro q hq
   rcases List.mem_append.1 hq with hq | hq
   · exact i.ok q hq
   · rw [List.mem_singleton.1 hq];exact hp
 · rw [List.length_append,List.length_append,hl];rfl
 · intro j q hj
   by_cases c:j < rc.length
   · rw [List.getElem?_append_left c] at hj
     have:=i.sq j q hj
     dsimp only at this ⊢
     rw [zbP (by omega),zbP (by omega)]
     exact this
   · have hjl:j < (rc++[(k,p)]).length:=(List.getElem?_eq_some_iff.1 hj).1
     rw [List.length_append] at hjl
     simp only [List.length_singleton] at hjl
     have e:j=rc.length:=by omega
     subst e
     have hq:q=(k,p):=by simpa using hj.symm
     subst hq
     dsimp only
     rw [zbP (by omega),show rc.length+1=h.o.length by omega,zj5,show nth h.o rc.length=lst h.o by unfold lst;rw [ho]]
     exact h2
 · rw [zbP (by omega)];exact i.z
 · rw [zs5,i.disk]
 · rw [List.take_append_of_le_length i.y];exact i.syn
 · rw [List.length_append];have:=i.y;omega
 · intro t ht
   rcases List.mem_append.1 ht with ht | ht
   · exact (i.sl t ht).mono (by omega)
   · rw [List.mem_singleton.1 ht];exact hu
theorem Inv.mono {n m:Nat} {s:Sto} {h:Hs} {rc:Recs} (i:Inv n s h rc) (hm:n≤m):Inv m s h rc:=⟨i.ok,i.len,i.sq,i.z,i.disk,i.syn,i.y,fun t ht=>(i.sl t ht).mono hm⟩
theorem zu1 (k:BitVec 8):k % 4#8=0#8 ∨ k % 4#8=1#8 ∨ k % 4#8=2#8 ∨ k % 4#8=3#8:=by
 have h:(k % 4#8).toNat < 4:=by rw [BitVec.toNat_umod];exact Nat.mod_lt _ (by decide)
 have:(k % 4#8).toNat=0 ∨ (k % 4#8).toNat=1 ∨ (k % 4#8).toNat=2 ∨ (k % 4#8).toNat=3:=by omega
 rcases this with e | e | e | e
 · exact .inl (BitVec.eq_of_toNat_eq e)
 · exact .inr (.inl (BitVec.eq_of_toNat_eq e))
 · exact .inr (.inr (.inl (BitVec.eq_of_toNat_eq e)))
 · exact .inr (.inr (.inr (BitVec.eq_of_toNat_eq e)))
theorem Inv.step {n:Nat} {s:Sto} {h:Hs} {rc:Recs} (i:Inv n s h rc) (hn:n≤1000) {x:Op} (hx:x.k % 4#8≠3#8) : ∃ rc',Inv (n+20) (apV s x) (hstep h x) rc':=by
 obtain⟨hS,hN,hE⟩:=i.last
 have hl:=i.len
 have hsl:=i.sl _ (zts (by omega:1≤h.o.length))
 obtain⟨t,ht⟩ : ∃ t,t=lst h.o:=⟨_,rfl⟩
 rw [←ht] at hS hsl
 have hc:=zr6 (x:=x) hsl
 have hsyn:s.2≤s.1.length:=by rw [i.syn,i.disk];have:=zmf (rc:=rc) (i:=h.y);omega
 have hmin:min s.2 ((s.1.length:Nat):Int)=s.2:=by omega
 have happ : ∀ (k:BitVec 8) (p:By) (u:Strm),p.length≤1048576 → ym t k p=some u → SL (n+20) u → ∃ rc',Inv (n+20) (s.1.take s.1.length++y9 k p,min s.2 ((s.1.length:Nat):Int)) ⟨h.o++[u],h.y⟩ rc':=fun k p u hp h2 hu=>by
  rw [List.take_length,hmin]
  exact⟨_,i.snoc hp (by rw [←ht];exact h2) hu⟩
 have hsame : ∃ rc',Inv (n+20) s ⟨h.o,h.y⟩ rc':=⟨_,i.mono (by omega)⟩
 unfold hstep apV
 rw [←ht]
 rcases zu1 x.k with e | e | e | e
 · rw [e,if_neg (show ¬ (0#8:BitVec 8)=1#8 by decide),if_neg (show ¬ (0#8:BitVec 8)=2#8 by decide),if_neg (show ¬ (0#8:BitVec 8)=3#8 by decide),if_pos (show (0#8:BitVec 8) < 2#8 by decide)]
   try rw [if_neg (show ¬ (0#8:BitVec 8)=2#8 by decide)]
   have hch:chg t x=(⟨t.l++rds x.l,t.gone++List.replicate (rds x.l).length false⟩,decide (0 < (rds x.l).length)):=by
    unfold chg;rw [e,if_neg (by decide)]
   rw [hch] at hc ⊢
   dsimp only at hc ⊢
   have hr:=zcC (l:=x.l)
   by_cases c:0 < (rds x.l).length
   · have hs:=zdA (s:=t) (l:=rds x.l) c (by omega) zgT (by have:=hsl.2.1;omega)
     have hp:=zdz (l:=rds x.l)
     have hv:y7 s (rds x.l)=((s.1.take (lN s.1)++y9 1#8 (pcl (rds x.l)),min s.2 (lN s.1)),0):=by
      unfold y7
      rw [if_neg (by rintro (q | q | q);exact absurd q (by omega);exact absurd q (by omega);exact q zgT),hS,if_neg (by have:=hsl.2.1;omega)]
     rw [hv,hN,if_pos rfl,decide_eq_true c,if_pos rfl]
     exact happ _ _ _ (by omega) hs hc
   · have hv:(y7 s (rds x.l)).2=1:=by unfold y7;rw [if_pos (.inl (by omega))]
     rw [hv,if_neg (by decide),decide_eq_false c,if_neg (by decide)]
     exact hsame
 · rw [e,if_pos (show (1#8:BitVec 8)=1#8 from rfl),if_pos (show (1#8:BitVec 8) < 2#8 by decide),if_neg (show ¬ (1#8:BitVec 8)=2#8 by decide),hS]
   by_cases c0:t.l.length=0
   · have hch:chg t x=(t,false):=by unfold chg;rw [e,if_pos rfl,if_pos c0]
     rw [if_pos c0,hch,if_neg (show ¬ (t,false).2=true from Bool.false_ne_true)]
     exact hsame
   rw [if_neg c0]
   obtain⟨m,hm⟩ : ∃ m,m=x.a.toNat % t.l.length:=⟨_,rfl⟩
   have hml:m < t.l.length:=by rw [hm];exact Nat.mod_lt _ (by omega)
   rw [←hm]
   have hch:chg t x=if (yc t (m:Nat)).2≠0 then (t,false) else ((yc t (m:Nat)).1,true):=by
    unfold chg;rw [e,if_pos rfl,if_neg c0,←hm]
   by_cases c1:(yc t (m:Nat)).2=0
   · rw [if_neg (by rw [c1];decide)] at hch
     have hs:=zdB (s:=t) (i:=m) (by have:=hsl.2.1;omega)
     rw [zhV,if_pos c1] at hs
     have hv:rtV s (m:Nat)=((s.1.take (lN s.1)++y9 2#8 (yj 4 m),min s.2 (lN s.1)),0):=by
      unfold rtV
      rw [hS,if_neg (by rw [c1];decide),Int.toNat_natCast]
     rw [hch] at hc
     rw [hv,hN,if_pos rfl,hch,if_pos rfl]
     exact happ _ _ _ (by rw [zv];decide) hs hc
   · rw [if_pos c1] at hch
     have hv:(rtV s (m:Nat)).2≠0:=by unfold rtV;rw [hS,if_pos c1];exact c1
     rw [if_neg hv,hch,if_neg (show ¬ (t,false).2=true from Bool.false_ne_true)]
     exact hsame
 · rw [e,if_neg (show ¬ (2#8:BitVec 8)=1#8 by decide),if_pos (show (2#8:BitVec 8)=2#8 from rfl),if_neg (show ¬ (2#8:BitVec 8) < 2#8 by decide)]
   try rw [if_pos (show (2#8:BitVec 8)=2#8 from rfl)]
   refine⟨rc,i.ok,i.len,i.sq,i.z,i.disk,?_,?_,fun t ht=>(i.sl t ht).mono (by omega)⟩<;>dsimp only
   · rw [show h.o.length - 1=rc.length by omega,List.take_length,i.disk]
   · omega
 · exact absurd e hx
theorem Inv.run {l:List Op} (hl : ∀ x∈l,x.k % 4#8≠3#8) : ∀ {i:Nat},i≤l.length → i≤12 → ∃ rc,Inv (20*i) (za3 l i) (zmb l i) rc
 | 0,_,_=>by
  refine⟨[],fun q hq=>(by cases hq),rfl,fun j q hj=>(by cases hj),rfl,rfl,rfl,Nat.le_refl _,fun t ht => ?_⟩
  have:t=z0S:=by simpa [zmb] using ht
  subst this
  exact⟨rfl,Nat.le_refl _,fun r hr=>by cases hr⟩
 | i+1,h,h12=>by
  obtain⟨rc,hi⟩:=Inv.run hl (i:=i) (by omega) (by omega)
  rw [zcD (by omega),zoY (by omega),show nth l i=l[i] by simp [nth,show i < l.length by omega]]
  exact hi.step (by omega) (hl _ (List.getElem_mem _))
theorem Inv.cut {n:Nat} {s:Sto} {h:Hs} {rc:Recs} (i:Inv n s h rc) {c:Nat} (h1:s.2≤c) (h2:c≤s.1.length) :
 lN (s.1.take c)≤s.1.length ∧ ∃ j,h.y≤j∧j < h.o.length∧lS (s.1.take c)=nth h.o j:=by
 obtain⟨j,a1,a2,a3,a4,a5⟩:=zrH i.ok i.sq (n:=c) (by rw [←i.disk];exact h2)
 rw [i.z,←i.disk] at a4 a5
 have hl:=i.len
 refine⟨Nat.le_trans zfK (by rw [List.length_take];omega),j,a3 _ i.y (by have:=i.syn;omega),by omega,a4⟩
end Go.Proofs.YtdpfkanfahchjaaDoor

/-
  The log of readings: how many readings a run leaves.
-/
namespace Go.Proofs.YtdpfkanfahchjaaDoor
open Go Go.AL

def QL (n:Nat) (s:Sto):Prop := ∀ c,SL n (lS (s.1.take c))
theorem QL.self {n:Nat} {s:Sto} (h:QL n s):SL n (lS s.1):=by
 have:=h s.1.length
 rwa [List.take_length] at this
theorem QL.mono {n m:Nat} {s:Sto} (h:QL n s) (hm:n≤m):QL m s:=fun c=>(h c).mono hm
theorem zgU (d:By):Log z0S (d.take (lN d)) (lS d):=zfJ.1
theorem QL.snoc {n:Nat} {s:Sto} (h:QL n s) {k:BitVec 8} {p:By} {u:Strm} {y:Int} (hp:p.length≤1048576) (h2:ym (lS s.1) k p=some u) (hu:SL (n+20) u):QL (n+20) (s.1.take (lN s.1)++y9 k p,y):=fun c=>by
 have hl:=zgU s.1
 have hN:=zfK (d:=s.1)
 obtain⟨A,hA⟩ : ∃ A,A=s.1.take (lN s.1):=⟨_,rfl⟩
 have hAl:A.length=lN s.1:=by rw [hA,List.length_take];omega
 dsimp only
 rw [←hA] at hl ⊢
 by_cases c1:c≤A.length
 · rw [List.take_append_of_le_length c1,hA,List.take_take]
   exact (h _).mono (by omega)
 have hr:(y9 k p).length=13+p.length:=yA
 by_cases c2:c < A.length+(13+p.length)
 · have e:(A++y9 k p).take c=A++(y9 k p).take (c - A.length):=by rw [List.take_append,List.take_of_length_le (by omega)]
   have hlt:((y9 k p).take (c - A.length)).length=c - A.length:=by rw [List.length_take,hr];omega
   have hc:=zeC (k:=k) (p:=p) (r:=[]) (n:=c - A.length) hp (by omega)
   rw [List.append_nil] at hc
   have:lS ((A++y9 k p).take c)=lS s.1:=by
    conv=>lhs;unfold lS
    rw [e,zlO hl,zbN (by rw [hlt];omega) hc]
   rw [this]
   exact h.self.mono (by omega)
 · rw [List.take_of_length_le (by rw [List.length_append,hr];omega),(zco (hl.snoc hp h2)).1]
   exact hu
theorem QL.step {n:Nat} {s:Sto} (h:QL n s) (hn:n≤1000) (x:Op):QL (n+20) (apV s x):=by
 have hsl:=h.self
 have hc:=zr6 (x:=x) hsl
 unfold apV
 split
 · rename_i k1
   split
   · exact h.mono (by omega)
   · rename_i c0
     obtain⟨m,hm⟩ : ∃ m,m=x.a.toNat % (lS s.1).l.length:=⟨_,rfl⟩
     have hml:m < (lS s.1).l.length:=by rw [hm];exact Nat.mod_lt _ (by omega)
     rw [←hm]
     have hch:chg (lS s.1) x=if (yc (lS s.1) (m:Nat)).2≠0 then (lS s.1,false) else ((yc (lS s.1) (m:Nat)).1,true):=by
      unfold chg;rw [if_pos k1,if_neg c0,←hm]
     by_cases c1:(yc (lS s.1) (m:Nat)).2=0
     · rw [if_neg (by rw [c1];decide)] at hch
       have hs:=zdB (s:=lS s.1) (i:=m) (by have:=hsl.2.1;omega)
       rw [zhV,if_pos c1] at hs
       have hv:rtV s (m:Nat)=((s.1.take (lN s.1)++y9 2#8 (yj 4 m),min s.2 (lN s.1)),0):=by
        unfold rtV
        rw [if_neg (by rw [c1];decide),Int.toNat_natCast]
       rw [hch] at hc
       rw [hv,if_pos rfl]
       exact h.snoc (by rw [zv];decide) hs hc
     · have hv:(rtV s (m:Nat)).2≠0:=by unfold rtV;rw [if_pos c1];exact c1
       rw [if_neg hv]
       exact h.mono (by omega)
 · rename_i k1
   split
   · exact fun c=>(h c).mono (by omega)
   · split
     · intro c
       dsimp only
       rw [List.take_take]
       exact (h _).mono (by omega)
     · have hch:chg (lS s.1) x=(⟨(lS s.1).l++rds x.l,(lS s.1).gone++List.replicate (rds x.l).length false⟩,decide (0 < (rds x.l).length)):=by
        unfold chg;rw [if_neg k1]
       rw [hch] at hc
       dsimp only at hc
       have hr:=zcC (l:=x.l)
       by_cases c:0 < (rds x.l).length
       · have hs:=zdA (s:=lS s.1) (l:=rds x.l) c (by omega) zgT (by have:=hsl.2.1;omega)
         have hp:=zdz (l:=rds x.l)
         have hv:y7 s (rds x.l)=((s.1.take (lN s.1)++y9 1#8 (pcl (rds x.l)),min s.2 (lN s.1)),0):=by
          unfold y7
          rw [if_neg (by rintro (q | q | q);exact absurd q (by omega);exact absurd q (by omega);exact q zgT),if_neg (by have:=hsl.2.1;omega)]
         rw [hv,if_pos rfl]
         exact h.snoc (by omega) hs hc
       · have hv:(y7 s (rds x.l)).2=1:=by unfold y7;rw [if_pos (.inl (by omega))]
         rw [hv,if_neg (by decide)]
         exact h.mono (by omega)
theorem QL.run {l:List Op} : ∀ {i:Nat},i≤l.length → i≤12 → QL (20*i) (za3 l i)
 | 0,_,_=>fun c=>by
  have:lS (([]:By).take c)=z0S:=by rw [List.take_nil,zmc]
  show SL _ (lS (([]:By).take c))
  rw [this]
  exact⟨rfl,Nat.le_refl _,fun r hr=>by cases hr⟩
 | i+1,h,h12=>by
  rw [zcD (by omega)]
  exact (QL.run (by omega) (by omega)).step (by omega) _
theorem QL.runV (l:List Op):QL 240 (Go.Proofs.YtdpfkanfahchjaaDoor.runV l):=(QL.run (l:=l) (i:=min 12 l.length) (by omega) (by omega)).mono (by omega)
end Go.Proofs.YtdpfkanfahchjaaDoor

/-
  The log of readings: the law Repair.
-/
namespace Go.Proofs.YtdpfkanfahchjaaDoor
open Go Go.AL

section walks
variable {G:Globs}
set_option maxHeartbeats 16000000 in
set_option maxRecDepth 40000 in
theorem zo1 (hG0:G 0=some (8,[.agg (pl zG inits)])) (hG1:G 1=some (64,[.agg (pl zG ks)])) (l:List Op) (w:BitVec 16) (t:List T3) (hl:l.length≤9223372036854775807) (hx : ∀ x∈l,x.l.length≤9223372036854775807) (ht:t.length≤9223372036854775807) (H:Hp) (R:AV → Hp → Prop) (h:R (.p (bo true)) H) :
 ACall Tryd.prog G 8 [.p (.sl false 3 (pl opv l)),.p (w16 w),.p (.sl false 3 (pl tri t))] H R:=by
 have hsw : ∀ d s,(sto d s).weak=sto d s:=fun _ _=>rfl
 have hmw : ∀ s,(stm s).weak=stm s:=fun _=>rfl
 obtain⟨hws,hrl⟩:=ztr (l:=l)
 have hq:=QL.runV l
 obtain⟨d,hd⟩ : ∃ d,d=(runV l).1:=⟨_,rfl⟩
 obtain⟨s,hs⟩ : ∃ s,s=(runV l).2:=⟨_,rfl⟩
 have hrun : ∀ (B:Hp) (R:AV → Hp → Prop),R (.p (sto d s)) B → ACall Tryd.prog G 10 [.p (.sl false 3 (pl opv l))] B R:=fun B R h=>zr5 hG0 hG1 l hl hx B R (by rw [←hd,←hs];exact h)
 rw [show runV l=(d,s) by rw [hd,hs]] at hws hrl hq
 obtain⟨hs0,hs1⟩:=hws
 dsimp only at hs0 hs1 hrl
 have hwl:=w.isLt
 obtain⟨c,hc⟩ : ∃ c,c=crN d s (w.toNat:Nat):=⟨_,rfl⟩
 have hcs:s≤c∧c≤d.length:=by rw [hc];unfold crN;omega
 have hcr : ∀ (B:Hp) (R:AV → Hp → Prop),R (.p (sto (d.take c) (c:Nat))) B → ACall Tryd.prog G 21 [.p (sto d s),.p (i64 (w.toNat:Nat))] B R:=fun B R h=>zc5 d s (w.toNat:Nat) ⟨hs0,hs1⟩ (by omega) ⟨by omega,by omega⟩ B R (by rw [←hc];exact h)
 have hqc:SL 240 (lS (d.take c)):=hq c
 obtain⟨D,hD⟩ : ∃ D,D=d.take c:=⟨_,rfl⟩
 have hDl:D.length=c:=by rw [hD,List.length_take];omega
 rw [←hD] at hcr hqc
 obtain⟨S,hS⟩ : ∃ S,S=lS D:=⟨_,rfl⟩
 obtain⟨N,hN⟩ : ∃ N,N=lN D:=⟨_,rfl⟩
 obtain⟨E0,hE0⟩ : ∃ E,E=lE D:=⟨_,rfl⟩
 have hNl:N≤D.length:=by rw [hN];exact zfK
 have hlog:=zgU D
 rw [←hN,←hS] at hlog
 rw [←hS] at hqc
 have hSg:=hqc.1
 have hSl:=hqc.2.1
 have hSv:=hqc.2.2
 obtain⟨A,hA⟩ : ∃ A,A=rds t:=⟨_,rfl⟩
 have hAl:A.length≤20:=by rw [hA,zcC];omega
 have hAv : ∀ r∈A,vR r:=by rw [hA];exact zgT
 have hrd : ∀ (B:Hp) (R:AV → Hp → Prop),R (.p (.sl false 4 (pl zK A))) B → ACall Tryd.prog G 31 [.p (.sl false 3 (pl tri t))] B R:=fun B R h=>zcq t ht B R (by rw [←hA];exact h)
 refine ACall.of_run (raw:=[]) Tryd.func8 rfl Tryd.ntmps8 (by simp) fun hbel => ?_
 refine .q ?_;refine .text ?_;simp (disch:=first|exact za|fail) only [go_sem,seval,-List.reduceReplicate]
 refine .q ?_;refine .text ?_;simp (disch:=first|exact za|fail) only [go_sem,seval,-List.reduceReplicate]
 refine CallK.of (fun R h=>zj4 hG0 hG1 _ R h) ?_;simp (disch:=first|exact za|fail) only [go_sem,seval,-List.reduceReplicate]
 refine .q ?_;refine .text ?_;simp (disch:=first|exact za|fail) only [go_sem,seval,-List.reduceReplicate]
 refine CallK.of (fun R h=>hrun _ R h) ?_;simp (disch:=first|exact za|fail) only [go_sem,seval,-List.reduceReplicate,hsw]
 refine CallK.of (fun R h=>hcr _ R h) ?_;simp (disch:=first|exact za|fail) only [go_sem,seval,-List.reduceReplicate,hsw]
 refine .q ?_;refine .text ?_;simp (disch:=first|exact za|fail) only [go_sem,seval,-List.reduceReplicate,hsw]
 refine CallK.of (fun R h=>yD hG0 hG1 D (c:Nat) (by omega) _ R h) ?_;simp (disch:=first|exact za|fail) only [go_sem,seval,-List.reduceReplicate,←hS,←hN,←hE0]
 refine .q ?_;refine .text ?_;simp (disch:=first|exact za|fail) only [go_sem,seval,-List.reduceReplicate]
 refine CallK.of (fun R h=>hrd _ R h) ?_;simp (disch:=first|exact za|fail) only [go_sem,seval,-List.reduceReplicate]
 by_cases c0:A.length=0
 · have d0:((A.length:Int) == 0)=true:=beq_iff_eq.2 (by omega)
   refine .q ?_;refine .text ?_;simp (disch:=first|exact za|fail) only [go_sem,seval,-List.reduceReplicate,d0]
   refine .q ?_;refine .ifT (by simp (disch:=first|exact za|fail) only [go_sem,seval,-List.reduceReplicate]) ?_
   refine .q ?_;refine .text ?_;simp (disch:=first|exact za|fail) only [go_sem,seval,-List.reduceReplicate]
   refine .q ?_;refine .rt Tryd.func8 (by rw [Tryd.results8]) (hR := ?_);simp (disch:=first|exact za|fail) only [go_sem,seval,-List.reduceReplicate]
   exact h
 have d0:((A.length:Int) == 0)=false:=beq_eq_false_iff_ne.2 (by omega)
 have hsA:=zdA (s:=S) (l:=A) (by omega) (by omega) hAv (by omega)
 have hpl:=zdz (l:=A)
 obtain⟨T,hT⟩ : ∃ T,T=D.take N++y9 1#8 (pcl A):=⟨_,rfl⟩
 have hTl:T.length≤10000:=by rw [hT,List.length_append,List.length_take,yA];omega
 obtain⟨W,hW⟩ : ∃ W:Strm,W=⟨S.l++A,S.gone++List.replicate A.length false⟩:=⟨_,rfl⟩
 have hlogT:Log z0S T W:=by rw [hT,hW];exact hlog.snoc (by omega) hsA
 obtain⟨f1,f2,f3⟩:=zco hlogT
 have hWl:W.l.length=S.l.length+A.length:=by rw [hW];simp
 have hWg:W.gone.length=W.l.length:=by rw [hWl,hW];simp [hSg]
 have hWv : ∀ r∈W.l,vR r:=fun r hr=>by
  rw [hW] at hr
  rcases List.mem_append.1 hr with hr | hr
  · exact hSv r hr
  · exact hAv r hr
 have hap:y7 (D,(c:Int)) A=((T,min (c:Int) N),0):=by
  unfold y7
  rw [if_neg (by rintro (q | q | q);exact absurd q (by omega);exact absurd q (by omega);exact q hAv)]
  dsimp only
  rw [←hS,←hN,if_neg (by omega),hT]
 obtain⟨ts,hts⟩ : ∃ z:Int,z=min (c:Int) N:=⟨_,rfl⟩
 have hts2:0≤ts∧ts≤N:=by omega
 rw [←hts] at hap
 refine .q ?_;refine .text ?_;simp (disch:=first|exact za|fail) only [go_sem,seval,-List.reduceReplicate,d0]
 refine .q ?_;refine .ifF (by simp (disch:=first|exact za|fail) only [go_sem,seval,-List.reduceReplicate]) ?_
 refine .skip ?_
 refine .q ?_;refine .text ?_;simp (disch:=first|exact za|fail) only [go_sem,seval,-List.reduceReplicate,hsw]
 refine CallK.of (fun R h=>zah hG0 hG1 D (c:Nat) A (by omega) (by omega) _ R h) ?_;simp (disch:=first|exact za|fail) only [go_sem,seval,-List.reduceReplicate,hap]
 refine .q ?_;refine .text ?_;simp (disch:=first|exact za|fail) only [go_sem,seval,-List.reduceReplicate,hsw]
 refine CallK.of (fun R h=>yD hG0 hG1 T ts (by omega) _ R h) ?_;simp (disch:=first|exact za|fail) only [go_sem,seval,-List.reduceReplicate,f1,f2,f3]
 refine .q ?_;refine .text ?_;simp (disch:=first|exact za|fail) only [go_sem,seval,-List.reduceReplicate,hmw]
 refine .q ?_;refine .text ?_;simp (disch:=first|exact za|fail) only [go_sem,seval,-List.reduceReplicate]
 have hw1:S.l++A=W.l:=by rw [hW]
 have hw2:S.gone++List.replicate A.length false=W.gone:=by rw [hW]
 obtain⟨m,hm⟩ : ∃ m,m=W.l.length - 1:=⟨_,rfl⟩
 have hml:m < W.l.length:=by omega
 have hmi:(W.l.length:Int) - 1=(m:Int):=by omega
 have hmn:nth W.gone m=false:=by
  rw [hW]
  show nth (S.gone++List.replicate A.length false) m=false
  have:S.gone.length≤m:=by omega
  simp only [nth,List.getElem?_append_right this,List.getElem?_replicate]
  split<;>rfl
 obtain⟨W2,hW2⟩ : ∃ W2:Strm,W2=⟨W.l,W.gone.set m true⟩:=⟨_,rfl⟩
 have hrv:yc W (m:Nat)=(W2,0):=by
  unfold yc
  rw [if_neg (by omega),Int.toNat_natCast,hmn,if_neg (by decide),hW2]
 have hW2v : ∀ r∈W2.l,vR r:=by rw [hW2];exact hWv
 have hW2l:W2.l.length=W.l.length:=by rw [hW2]
 have hW2g:W2.gone.length=W.l.length:=by rw [hW2];simp [hWg]
 obtain⟨U,hU⟩ : ∃ U,U=T++y9 2#8 (yj 4 m):=⟨_,rfl⟩
 have hUl:U.length≤11000:=by rw [hU,List.length_append,yA,zv];omega
 have hsR:=zdB (s:=W) (i:=m) (by omega)
 rw [zhV,hrv,if_pos rfl] at hsR
 have hlogU:Log z0S U W2:=by rw [hU];exact hlogT.snoc (by rw [zv];decide) hsR
 obtain⟨u1,u2,u3⟩:=zco hlogU
 obtain⟨us,hus⟩ : ∃ z:Int,z=min ts (T.length:Nat):=⟨_,rfl⟩
 have hrt:rtV (T,ts) (m:Nat)=((U,us),0):=by
  unfold rtV
  dsimp only
  rw [f1,hrv,if_neg (show ¬ (W2,(0:Int)).2≠0 from fun e=>e rfl),f2,List.take_length,hU,Int.toNat_natCast,hus]
 have hle:decide (us≤(T.length:Int))=true:=decide_eq_true (by omega)
 have hne : ∀ z:Int,(z != z)=false:=fun z=>by simp
 have hdw:decide (W=W)=true:=by simp
 have hdw2:decide (W2=W2)=true:=by simp
 have ht0:A.take 0=[]:=rfl
 have hta:A.take A.length=A:=List.take_length
 refine .q ?_;refine .loopE [7,12,13,14,15,16,17,18] (fun j=>[(19,.p (i64 j))]) (fun j=>[(H.n+4,.cells [.p (.sl false 4 (pl zK (S.l++A.take j))),.p (.sl false 1 (pl bo (S.gone++List.replicate j false)))])]) (fun j=>True) (0) (A.length) (by omega) ?_ (by first | rfl | (simp (disch:=first|exact za|fail) only [go_sem,seval,-List.reduceReplicate,ht0,List.append_nil,List.replicate_zero]<;>rfl)) ?_ ?_ ?_
 · simp (disch:=first|exact za|fail) only [go_sem,seval,-List.reduceReplicate,ht0,List.append_nil,List.replicate_zero]<;>(repeat' (first | rfl | refine And.intro ?_ ?_))
 rotate_left 1
 intro env M hQ;simp (disch:=first|exact za|fail) only [go_sem,seval,-List.reduceReplicate,ht0,List.append_nil,List.replicate_zero] at M
 rotate_left 1
 intro j env hj0 hj M hQ ihM;simp (disch:=first|exact za|fail) only [go_sem,seval,-List.reduceReplicate,ht0,List.append_nil,List.replicate_zero] at M
 rotate_left 1
 · trivial
 · refine .q ?_;refine .text ?_;simp (disch:=first|exact za|fail) only [go_sem,seval,-List.reduceReplicate,M]
   refine .q ?_;refine .ifF (by simp (disch:=first|exact za|fail) only [go_sem,seval,-List.reduceReplicate]) ?_
   refine .q ?_;refine .text ?_;simp (disch:=first|exact za|fail) only [go_sem,seval,-List.reduceReplicate,M,hta,hw1,hw2,hne,hmw]
   refine CallK.of (fun R h=>zfP W W hWv hWv (by omega) (by omega) _ R h) ?_;simp (disch:=first|exact za|fail) only [go_sem,seval,-List.reduceReplicate,M,hdw]
   refine .q ?_;refine .ifF (by simp (disch:=first|exact za|fail) only [go_sem,seval,-List.reduceReplicate]) ?_
   refine .skip ?_
   refine .q ?_;refine .text ?_;simp (disch:=first|exact za|fail) only [go_sem,seval,-List.reduceReplicate,M,hta,hw1,hw2,hsw,hmi]
   refine CallK.of (fun R h=>yy hG0 hG1 T ts (m:Nat) (by omega) _ R h) ?_;simp (disch:=first|exact za|fail) only [go_sem,seval,-List.reduceReplicate,M,hrt,hta,hw1,hw2,hsw]
   refine .q ?_;refine .text ?_;simp (disch:=first|exact za|fail) only [go_sem,seval,-List.reduceReplicate,M,hta,hw1,hw2,hsw]
   refine CallK.of (fun R h=>yD hG0 hG1 U us (by omega) _ R h) ?_;simp (disch:=first|exact za|fail) only [go_sem,seval,-List.reduceReplicate,M,u1,u2,u3]
   refine .q ?_;refine .text ?_;simp (disch:=first|exact za|fail) only [go_sem,seval,-List.reduceReplicate,M,hta,hw1,hw2,hmw,hmi]
   refine CallK.of (fun R h=>zga W (m:Nat) (by omega) hWg _ R h) ?_;simp (disch:=first|exact za|fail) only [go_sem,seval,-List.reduceReplicate,M,hrv]
   refine .q ?_;refine .text ?_;simp (disch:=first|exact za|fail) only [go_sem,seval,-List.reduceReplicate,M,hmw]
   refine CallK.of (fun R h=>zfP W2 W2 hW2v hW2v (by omega) (by omega) _ R h) ?_;simp (disch:=first|exact za|fail) only [go_sem,seval,-List.reduceReplicate,M,hdw2,hle]
   refine .q ?_;refine .rt Tryd.func8 (by rw [Tryd.results8]) (hx:=by simp (disch:=first|exact za|fail) only [go_sem,seval,-List.reduceReplicate,M];rfl) (hR := ?_);simp (disch:=first|exact za|fail) only [go_sem,seval,-List.reduceReplicate,M]
   exact h
 · refine .q ?_;refine .text ?_;simp (disch:=first|exact za|fail) only [go_sem,seval,-List.reduceReplicate,M]
   refine .q ?_;refine .ifT (by simp (disch:=first|exact za|fail) only [go_sem,seval,-List.reduceReplicate]) ?_
   have hjl:j < A.length:=by omega
   have hag : ∀ r,(zK r).aggOf 0 4=zK r:=fun _=>rfl
   have hrw : ∀ r,(zK r).weak=zK r:=fun _=>rfl
   have hagg : ∀ x y,PV.agg [PV.sl false 4 (pl zK x),PV.sl false 1 (pl bo y)]=stm ⟨x,y⟩:=fun _ _=>rfl
   have hnm:nth A j∈A:=zbd hjl
   have htk:S.l++A.take j++[nth A j]=S.l++A.take (j+1):=by
    rw [List.append_assoc,List.take_add_one,List.getElem?_eq_getElem hjl]
    simp [nth,hjl]
   have hrp:S.gone++List.replicate j false++[false]=S.gone++List.replicate (j+1) false:=by rw [List.append_assoc,←List.replicate_succ']
   have htl:(A.take j).length=j:=by rw [List.length_take];omega
   refine .q ?_;refine .openT [9] follows (by kernel_rfl) ?_;simp (disch:=first|exact za|fail) only [go_sem,seval,-List.reduceReplicate,M,hag,hrw,hagg]
   refine CallD.still (fun R h=>zlX ⟨S.l++A.take j,S.gone++List.replicate j false⟩ (nth A j) (by rw [List.length_append,htl];omega) (by rw [List.length_append,List.length_replicate];omega) (hAv _ hnm) _ R h) ?_;simp (disch:=first|exact za|fail) only [go_sem,seval,-List.reduceReplicate,M]
   refine .q ?_;refine .text ?_;simp (disch:=first|exact za|fail) only [go_sem,seval,-List.reduceReplicate,M]
   first | (refine ihM _ _ ?_ trivial ?_) | (refine .z rfl ?_;refine ihM _ _ ?_ trivial ?_) | (refine .z rfl ?_;refine .z rfl ?_;refine ihM _ _ ?_ trivial ?_) | (refine .z rfl ?_;refine .z rfl ?_;refine .z rfl ?_;refine ihM _ _ ?_ trivial ?_)
   · simp (disch:=first|exact za|fail) only [go_sem,seval,-List.reduceReplicate,M,htk,hrp]<;>(repeat' (first | rfl | refine And.intro ?_ ?_))
   · first | rfl | (simp (disch:=first|exact za|fail) only [go_sem,seval,-List.reduceReplicate,M,htk,hrp]<;>(try rfl))
end walks
end Go.Proofs.YtdpfkanfahchjaaDoor

/-
  The log of readings: what the laws' rows give their walks: the tables,a world for the witness,what the arguments read as.
-/
namespace Go.Proofs.YtdpfkanfahchjaaDoor
open Go Go.AL Go.ChangeShapes Go.WideShapes Go.ChangeAt Go.RowKit

theorem own:ownKnob Tryd.prog.godebug=none:=by kernel_rfl
theorem laidOut:laidOutB Tryd.prog=true:=by kernel_rfl
def nI:String:=Rows.colstoreMatchesReferenceRow.named[0]!
def nC:String:=Rows.colstoreMatchesReferenceRow.named[1]!
theorem zr9:Tryd.prog.globalNamed nC=some 1:=by kernel_rfl
theorem ztH:Tryd.prog.globalNamed nI=some 0:=by kernel_rfl
theorem ztw:(Tryd.prog.globals[1]?).map (·.type)=some 148:=by kernel_rfl
theorem zu2:(Tryd.prog.globals[0]?).map (·.type)=some 133:=by kernel_rfl
def kz:List Int:=ks.map fun x=>(x.toNat:Int)
def iz:List Int:=inits.map fun x=>(x.toNat:Int)
theorem zsa {P:Program} {x:String × DataW Unit} {l:List (String × DataW Unit)} {W:World} (h:laidMet P (x :: l) W):laidMet P l W:=by
 obtain⟨ps,⟨g',t',cs,fuel,p,q,_,_,_,_,hq,hps⟩,hn,ha⟩:=h
 subst hps
 exact⟨q,hq,(List.nodup_append.1 hn).2.1,fun b off hb=>ha b off (List.mem_append_right _ hb)⟩
theorem tables {W:World} (h:laidMetH Tryd.prog Rows.colstoreMatchesReferenceRow.laid W):Lib.TabIs Tryd.prog W nC .u32 kz∧Lib.TabIs Tryd.prog W nI .u32 iz:=by
 have h:laidMet Tryd.prog [(nC,Lib.tabData .u32 kz),(nI,Lib.tabData .u32 iz)] W:=h
 have h2:=zsa h
 exact⟨Lib.tabIs_of_head zr9 ztw Tryd.underlying148 Tryd.underlying132 zfv zjv h,
  Lib.tabIs_of_head ztH zu2 Tryd.underlying133 Tryd.underlying132 zfv zju h2⟩
def GG:Globs:=⟨fun g=>if g=0 then some (8,[.agg (pl zG inits)]) else if g=1 then some (64,[.agg (pl zG ks)]) else none,fun _=>none⟩
theorem zvW:GG 0=some (8,[.agg (pl zG inits)]):=rfl
theorem zvX:GG 1=some (64,[.agg (pl zG ks)]):=rfl
theorem zo2 {W:World} (h:laidMetH Tryd.prog Rows.colstoreMatchesReferenceRow.laid W):Rel GG σ0 H0 W:=zvK (fun g sz xs hg=>by
 obtain⟨h1,h0⟩:=tables h
 simp only [GG] at hg
 split at hg
 · rename_i e;subst e;cases hg
   exact zfh (l:=inits) h0 ztH rfl (by decide)
 · split at hg
   · rename_i e;subst e;cases hg
     exact zfh (l:=ks) h1 zr9 rfl (by decide)
   · cases hg) fun r m hm=>by cases hm
noncomputable def laidWorld (os:Os):World :=
 let w:=World.holding Tryd.prog os ⟨#[],#[],[]⟩
 { w with heap:=(w.heap.modify 0 fun
  | .cells _ t frozen => .cells (iz.map fun z=>Value.int .u32 z).toArray t frozen
  | o=>o).modify 1 fun
  | .cells _ t frozen => .cells (kz.map fun z=>Value.int .u32 z).toArray t frozen
  | o=>o }
set_option maxRecDepth 100000 in
theorem laid_met (os:Os) (args:Array Value):laidMet Tryd.prog Rows.colstoreMatchesReferenceRow.laid ((laidWorld os).forCall (fun _ _=>0) ⟨#[],args,[]⟩).memory :=
 laidMet_of_run' 8 (by kernel_rfl) (by kernel_rfl)

set_option maxRecDepth 100000
section read
variable {k:Nat} {y:List PV}
theorem zm8 (h:Reads Tryd.prog (k+3) 61 y) : ∃ l:List T3,l.length≤9223372036854775807∧y=[.sl false 3 (pl tri l)]:=by
 obtain⟨l,h1,rfl,-⟩:=Reads.sl tri (fun _=>True) Tryd.underlying61 zmH zqn h fun y hy=>by
  obtain⟨l,h1,rfl⟩:=Reads.arr b8 Tryd.underlying63 hy fun y hy=>Reads.u8 Tryd.underlying5 hy
  match l,h1 with
  | [a,b,c],_=>exact⟨(a,b,c),rfl,trivial⟩
 exact⟨l,h1,rfl⟩
theorem zvH (h:Reads Tryd.prog (k+4) 74 y) : ∃ x:Op,za7 true y=opv x∧x.l.length≤9223372036854775807:=by
 obtain⟨y1,z1,rfl,-,r1,y2,z2,rfl,-,r2,y3,z3,rfl,-,r3,rfl⟩:=Reads.struct Tryd.underlying74 h
 obtain⟨a,rfl⟩:=Reads.u8 Tryd.underlying5 r1
 obtain⟨l,h1,rfl⟩:=zm8 r2
 obtain⟨c,rfl⟩:=Reads.u16 Tryd.underlying46 r3
 exact⟨⟨a,l,c⟩,rfl,h1⟩
theorem zu3 (h:Reads Tryd.prog (k+5) 22 y) : ∃ l:List Op,l.length≤9223372036854775807∧y=[.sl false 3 (pl opv l)] ∧ ∀ x∈l,x.l.length≤9223372036854775807 :=
 Reads.sl opv (fun x=>x.l.length≤9223372036854775807) Tryd.underlying22 zmI zqo h fun y hy=>zvH hy
end read
section rel
variable {W:World} {v:Value} {H:Type} {enc:TypeId × Value → H} {d:DataW H} {ps:List MemPlace} {base:Nat}
theorem ztx (hval:Value.okWide Tryd.prog W .any base 22 v) (h:DataW.Trod enc Tryd.prog W 0 (fun _=>true) true 22 v d ps) :
 ∃ l:List Op,l.length≤9223372036854775807∧(∀ x∈l,x.l.length≤9223372036854775807)∧RelV σ0 H0 W (.p (.sl false 3 (pl opv l))) v:=by
 obtain⟨xs,hx,e⟩:=zfi 8 (by kernel_rfl) hval h
 obtain⟨l,h1,rfl,h2⟩:=zu3 (k:=3) hx
 rw [zqk] at e
 exact⟨l,h1,h2,e⟩
theorem zsb (hval:Value.okWide Tryd.prog W .any base 61 v) (h:DataW.Trod enc Tryd.prog W 0 (fun _=>true) true 61 v d ps) :
 ∃ l:List T3,l.length≤9223372036854775807∧RelV σ0 H0 W (.p (.sl false 3 (pl tri l))) v:=by
 obtain⟨xs,hx,e⟩:=zfi 8 (by kernel_rfl) hval h
 obtain⟨l,h1,rfl⟩:=zm8 (k:=5) hx
 rw [zqm] at e
 exact⟨l,h1,e⟩
theorem zty (hval:Value.okWide Tryd.prog W .any base 46 v) (h:DataW.Trod enc Tryd.prog W 0 (fun _=>true) true 46 v d ps) : ∃ b:BitVec 16,RelV σ0 H0 W (.p (w16 b)) v:=by
 obtain⟨xs,hx,e⟩:=zfi 1 (by kernel_rfl) hval h
 obtain⟨b,rfl⟩:=Reads.u16 (k:=0) Tryd.underlying46 hx
 rw [zql] at e
 exact⟨b,e⟩
end rel
end Go.Proofs.YtdpfkanfahchjaaDoor
