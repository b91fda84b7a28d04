/-
  Audits: the reference's honest sessions.
-/
import Derived.Test.YtgflpgcogkdpgaaGreatDoorPkS3
set_option linter.unusedSimpArgs false
set_option linter.unusedVariables false
namespace Go.Proofs.YtgflpgcogkdpgaaGreatDoor
open Go Go.AL

structure Tk where
 id:Int
 text:By
 root:By
 sums:List Int
 vals:List (List Ext)
 fin:BitVec 8
def tkv (x:Tk):PV := .agg [i64 x.id,str (bytesOf x.text),.sl false 1 (pl b8 x.root),.sl false 1 (pl i64 x.sums),.sl false 1 (pl (sle 2 ext) x.vals),b8 x.fin]
def tkc (x:Tk):List AV:=[.p (i64 x.id),.p (str (bytesOf x.text)),.p (.sl false 1 (pl b8 x.root)),.p (.sl false 1 (pl i64 x.sums)),.p (.sl false 1 (pl (sle 2 ext) x.vals)),.p (b8 x.fin)]
theorem zCk {x:Tk}:zh (.p (tkv x))=some (tkc x):=rfl
theorem zDa {x:Tk}:(tkv x).weak=tkv x:=rfl
theorem zCl {x:Tk}:(tkc x)[0]? = some (.p (i64 x.id)):=rfl
theorem zCm {x:Tk}:(tkc x)[1]? = some (.p (str (bytesOf x.text))):=rfl
theorem zCn {x:Tk}:(tkc x)[2]? = some (.p (.sl false 1 (pl b8 x.root))):=rfl
theorem zCo {x:Tk}:(tkc x)[3]? = some (.p (.sl false 1 (pl i64 x.sums))):=rfl
theorem zCp {x:Tk}:(tkc x)[4]? = some (.p (.sl false 1 (pl (sle 2 ext) x.vals))):=rfl
theorem zCq {x:Tk}:(tkc x)[5]? = some (.p (b8 x.fin)):=rfl
attribute [go_sem] zCk zDa zCl zCm zCn zCo zCp zCq
def yf:By:=[99#8,111#8,117#8,110#8,116#8]
def tid (x:Tk):Int:=x.id % 65536
def tx0 (x:Tk):By:=if (x.text.take 40).length=0 then yf else x.text.take 40
def pmk (k:Int) (t:By) (s:List Int) (v:List Ext):Msg:=⟨k,0,0,t,zD,s,v⟩
def zeX (x:Tk) (i:Nat):By:=x.root.take i++List.replicate (32 - i) 0#8
theorem zeC {x:Tk} {i:Nat} (h:i≤x.root.length) (h2:i≤32):(zeX x i).length=32:=by simp [zeX];omega
def rn (x:Tk):Nat:=min x.root.length 32
def pm1 (x:Tk) (i:Nat):Msg:=if h:(zeX x i).length=32 then ⟨2,0,0,[],⟨zeX x i,h⟩,[],[]⟩ else zM
def pv (x:Tk) (i:Nat):Msg:=if i=1 then pmk 3 [] (x.sums.take 8) [] else if i % 2=1 then pmk 5 [] [] (zbg (nth x.vals i) (min (nth x.vals i).length 6)) else pmk 4 [] [] (zbg (nth x.vals i) 1)
def vn (x:Tk):Nat:=min x.vals.length 10
def zat (x:Tk) (i:Nat):List Msg:=[pmk 1 (tx0 x) [] [],pm1 x (rn x)]++tab (pv x) i
def cT (x:Tk):Bool:=(((2+(vn x:Int)) % 2 == 0) && decide ((4:Int)≤(2+(vn x:Int)))) && decide (0#8 < x.fin % 3#8)
def zaG (x:Tk):List Msg:=if cT x then zat x (vn x)++[pmk (5+((x.fin % 3#8).toNat:Nat)) [] [] []] else zat x (vn x)
def zbn (l:List Msg):List AV:=(flat (pl msg l)).map .p
theorem zlB {l m:List Msg}:zbn (l++m)=zbn l++zbn m:=by simp [zbn,flat,pl]
theorem zaM {m:Msg} {l:List Msg}:zbn (m :: l)=yV m++zbn l:=by simp [zbn,flat,pl,zgJ,yV]
theorem zgS:zbn []=[]:=rfl
theorem zek : ∀ {l:List Msg},(zbn l).length=l.length*38
 | []=>rfl
 | m :: l=>by rw [zaM,List.length_append,zF,zek];simp;omega
theorem zvS {f g:Bool} {k:Int} {t:By} {S:List Int} {V:List Ext}:(zn (mG k 0 0 t (List.replicate 32 0#8) (.p (.sl f 1 (pl i64 S))) (.p (.sl g 2 (pl ext V))))).weak = .p (msg (pmk k t S V)):=by
 rw [zi2]
 show AV.p (PV.agg (List.map PV.weak1 _))=AV.p (.agg (zew (pmk k t S V)))
 congr 2
theorem zCr {f g:Bool} {k:Int} {t:By} {S:List Int} {V:List Ext}:(mG k 0 0 t (List.replicate 32 0#8) (.p (.sl f 1 (pl i64 S))) (.p (.sl g 2 (pl ext V)))).map AV.weak=yV (pmk k t S V):=by
 rw [yZ]
 unfold mG
 have h:(cl b8 (List.replicate 32 0#8)).map AV.weak=cl b8 (List.replicate 32 0#8):=by rw [cl,List.map_map];rfl
 simp only [List.map_cons,List.map_append,List.map_nil,h]
 rfl
def mU (f g:Bool) (k:Int) (S:List Int) (V:List Ext):List AV:=mG k 0 0 [] (List.replicate 32 0#8) (.p (.sl f 1 (pl i64 S))) (.p (.sl g 2 (pl ext V)))
def mUv (f g:Bool) (k:Int) (S:List Int) (V:List Ext):PV:=mV k 0 0 [] (List.replicate 32 0#8) (.sl f 1 (pl i64 S)) (.sl g 2 (pl ext V))
section mb
variable {f g f' g':Bool} {k k':Int} {S S':List Int} {V V':List Ext}
theorem zAE:(mU f g k S V).length=38:=zgy (by simp)
theorem zvT:zn (mU f g k S V) = .p (mUv f g k S V):=zi2
theorem zvU:zh (.p (mUv f g k S V))=some (mU f g k S V):=zvr
theorem zDb:mZ.set 0 (.p (i64 k))=mU true true k [] []:=rfl
theorem zCt:(mU f g k S V).set 37 (.p (.sl g' 2 (pl ext V')))=mU f g' k S V':=by unfold mU;rw [zk5 (by simp)]
theorem zCu:(mU f g k S V).set 36 (.p (.sl f' 1 (pl i64 S')))=mU f' g k S' V:=by unfold mU;rw [zk4 (by simp)]
theorem zDc {t:By}:zn ((mU f g k S V).set 3 (.p (str (bytesOf t))))=zn (mG k 0 0 t (List.replicate 32 0#8) (.p (.sl f 1 (pl i64 S))) (.p (.sl g 2 (pl ext V)))):=rfl
theorem zvV:(mUv f g k S V).weak=msg (pmk k [] S V):=by
 have h:=zvS (f:=f) (g:=g) (k:=k) (t:=[]) (S:=S) (V:=V)
 rw [zi2] at h
 exact AV.p.inj h
theorem zcx:(mU f g k S V).map AV.weak=yV (pmk k [] S V):=zCr
end mb
theorem zAF {f g:Bool} {k:Int} {S:List Int} {V:List Ext}:(mUv f g k S V).cells.length=38:=by simp [mUv,mV,PV.cells,pl]
attribute [go_sem] zAF zAE zvT zvU zDb zCt zCu zvV
theorem zlC {x:Tk}:pm1 x 0=pmk 2 [] [] []:=by
 unfold pm1
 rw [dif_pos (zeC (by omega) (by omega))]
 rfl
theorem zrF {f:BitVec 8 → AV} {l:By} {i:Nat} {v:BitVec 8}:(l.map f).set i (f v)=(l.set i v).map f:=by rw [List.map_set]
theorem zrG {x:Tk} {i:Nat} (h:i < x.root.length) (h2:i < 32):(zeX x i).set i (nth x.root i)=zeX x (i+1):=by
 unfold zeX
 rw [List.set_append_right _ _ (by rw [List.length_take];omega),List.length_take,Nat.min_eq_left (by omega),Nat.sub_self,show 32 - i=(32 - (i+1))+1 by omega,List.replicate_succ,List.set_cons_zero,zQ h]
 simp
theorem zvW {x:Tk} {i:Nat} (h:i≤x.root.length) (h2:i≤32):yV (pm1 x i) = .p (i64 2) :: .p (i64 0) :: .p (i64 0) :: .p (str (bytesOf [])) :: (cl b8 (zeX x i)++[.p (.sl false 1 (pl i64 [])),.p (.sl false 2 (pl ext []))]):=by
 unfold pm1
 rw [dif_pos (zeC h h2),yZ]
theorem zyo {a:Msg} {x:Tk} {i:Nat} (h:i < x.root.length) (h2:i < 32):(zbn [a,pm1 x i]).set (42+i) (.p (b8 (nth x.root i)))=zbn [a,pm1 x (i+1)]:=by
 have hl:=zeC (x:=x) (i:=i) (by omega) (by omega)
 rw [zaM,zaM,zaM,zaM,zgS,List.append_nil,List.append_nil,List.set_append_right _ _ (by rw [zF];omega),zF,zvW (by omega) (by omega),zvW (by omega) (by omega),show 42+i - 38=i+4 by omega]
 simp only [List.set_cons_succ]
 rw [List.set_append_left _ _ (by rw [cl,List.length_map,hl];exact h2),cl,zrF,zrG h h2]
 rfl
theorem zyp {l:List Msg} : ∀ y∈pl msg l,y.cells.length=38:=fun y hy=>by
 simp only [pl,List.mem_map] at hy
 obtain⟨m,_,rfl⟩:=hy
 exact zvw
theorem zh3 {H:Hp} {a b0 b1 c0 c1 d z x0 x1 y1 y2 y3:AB} {T0 T:List AB} :
 Later ((app ((app ((((H.new a).new b0).new c0).new d) T0).new z) T).new x0) [(H.n+1,b1),(H.n+2,c1),(H.n+4+T0.length+1+T.length,x1)] ((((((app ((app ((((H.new a).new b1).new c1).new d) T0).new z) T).new x1).new y1).new y2).new y3)):=by
 refine .mk [y1,y2,y3] ?_
 have h1:((app ((app ((((H.new a).new b0).new c0).new d) T0).new z) T).new x0).set (H.n+1) b1=(app ((app ((((H.new a).new b1).new c0).new d) T0).new z) T).new x0:=by
  simp (disch:=first|exact za|fail) only [go_sem,seval]
 have h2:((app ((app ((((H.new a).new b1).new c0).new d) T0).new z) T).new x0).set (H.n+2) c1=(app ((app ((((H.new a).new b1).new c1).new d) T0).new z) T).new x0:=by
  simp (disch:=first|exact za|fail) only [go_sem,seval]
 have h3:((app ((app ((((H.new a).new b1).new c1).new d) T0).new z) T).new x0).set (H.n+4+T0.length+1+T.length) x1=(app ((app ((((H.new a).new b1).new c1).new d) T0).new z) T).new x1:=by
  have hn:H.n+4+T0.length+1+T.length=(app ((app ((((H.new a).new b1).new c1).new d) T0).new z) T).n:=by simp only [app_n',n_new']
  rw [hn];exact Hp.set_new_self _ _ _
 rw [zc,zc,zc,zf,h1,h2,h3]
 simp only [zR,zaP]
theorem zod {H:Hp} {a b0 b1 c0 c1 d z0 z1 x1:AB} {T0 T T':List AB} :
 Later ((app ((((H.new a).new b0).new c0).new d) T0).new z0) [(H.n+1,b1),(H.n+2,c1),(H.n+4+T0.length,z1)] (app ((app ((app ((((H.new a).new b1).new c1).new d) T0).new z1) T).new x1) T'):=by
 refine .mk (T++x1 :: T') ?_
 have h1:((app ((((H.new a).new b0).new c0).new d) T0).new z0).set (H.n+1) b1=(app ((((H.new a).new b1).new c0).new d) T0).new z0:=by
  simp (disch:=first|exact za|fail) only [go_sem,seval]
 have h2:((app ((((H.new a).new b1).new c0).new d) T0).new z0).set (H.n+2) c1=(app ((((H.new a).new b1).new c1).new d) T0).new z0:=by
  simp (disch:=first|exact za|fail) only [go_sem,seval]
 have h3:((app ((((H.new a).new b1).new c1).new d) T0).new z0).set (H.n+4+T0.length) z1=(app ((((H.new a).new b1).new c1).new d) T0).new z1:=by
  have hn:H.n+4+T0.length=(app ((((H.new a).new b1).new c1).new d) T0).n:=by simp only [app_n',n_new']
  rw [hn];exact Hp.set_new_self _ _ _
 rw [zc,zc,zc,zf,h1,h2,h3,←zC,zR]
theorem zdb {x:Tk} {p:Msg → Prop} (h0:p zM) (h1:p (pmk 1 (tx0 x) [] [])) (h2 : ∀ i,p (pm1 x i)) (h3 : ∀ i,p (pv x i)) (h4 : ∀ k:Nat,k < 256 → p (pmk (5+(k:Int)) [] [] [])) : ∀ i,p (nth (zaG x) i):=by
 have hb : ∀ l:List Msg,(∀ m∈l,p m) → ∀ i,p (nth l i):=fun l hl i=>by
  by_cases hi:i < l.length
  · rw [show nth l i=l[i] by simp [nth,hi]];exact hl _ (List.getElem_mem hi)
  · rw [show nth l i=zM by simp only [nth,List.getElem?_eq_none (Nat.le_of_not_lt hi)];rfl];exact h0
 have hp : ∀ n,∀ m∈zat x n,p m:=fun n m hm=>by
  unfold zat tab at hm
  simp only [List.mem_append,List.mem_cons,List.not_mem_nil,or_false,List.mem_map] at hm
  rcases hm with (rfl | rfl) | ⟨j,_,rfl⟩
  · exact h1
  · exact h2 _
  · exact h3 _
 refine hb _ fun m hm => ?_
 unfold zaG at hm
 split at hm
 · simp only [List.mem_append,List.mem_cons,List.not_mem_nil,or_false] at hm
   rcases hm with hm | rfl
   · exact hp _ m hm
   · exact h4 _ (x.fin % 3#8).isLt
 · exact hp _ m hm
theorem zpi {x:Tk} (hs : ∀ s∈x.sums,okI s):PlOk (zaG x):=by
 have hml : ∀ {l:List Ext} {n:Nat},(zbg l n).length=n:=fun {l n}=>zeA
 have hk : ∀ k:Int,0≤k → k≤1000 → okI k:=fun k h1 h2=>⟨by omega,by omega⟩
 have k0:okI 0:=hk 0 (by decide) (by decide)
 have k1:okI 1:=hk 1 (by decide) (by decide)
 have k2:okI 2:=hk 2 (by decide) (by decide)
 have k3:okI 3:=hk 3 (by decide) (by decide)
 have k4:okI 4:=hk 4 (by decide) (by decide)
 have k5:okI 5:=hk 5 (by decide) (by decide)
 have z0:0≤140737488355000:=Nat.zero_le _
 have htx:(tx0 x).length≤40:=by unfold tx0;split<;>simp [yf];omega
 refine⟨?_,?_,?_,?_,?_,?_⟩
 · have:(zat x (vn x)).length=2+vn x:=by simp [zat,zco];omega
   have h2:vn x≤10:=by unfold vn;omega
   unfold zaG;split<;>simp [this]<;>omega
 · refine zdb (p:=fun m=>okI m.kind) k0 k1 (fun i => ?_) (fun i => ?_) (fun k h=>hk _ (by show (0:Int)≤5+(k:Int);omega) (by show (5+(k:Int))≤1000;omega))
   · unfold pm1;split
     · exact k2
     · exact k0
   · unfold pv;(repeat' split)
     · exact k3
     · exact k5
     · exact k4
 · refine zdb (p:=fun m=>m.text.length≤140737488355000) z0 (by show (tx0 x).length≤_;omega) (fun i => ?_) (fun i => ?_) (fun k h=>z0)
   · unfold pm1;split<;>exact z0
   · unfold pv;(repeat' split)<;>exact z0
 · refine zdb (p:=fun m=>m.sums.length≤140737488355000) z0 z0 (fun i => ?_) (fun i => ?_) (fun k h=>z0)
   · unfold pm1;split<;>exact z0
   · unfold pv;(repeat' split)
     · show (x.sums.take 8).length≤_;rw [List.length_take];omega
     · exact z0
     · exact z0
 · refine zdb (p:=fun m=>m.values.length≤140737488355000) z0 z0 (fun i => ?_) (fun i => ?_) (fun k h=>z0)
   · unfold pm1;split<;>exact z0
   · unfold pv;(repeat' split)
     · exact z0
     · show (zbg _ _).length≤_;rw [hml];omega
     · show (zbg _ _).length≤_;rw [hml];omega
 · refine zdb (p:=fun m => ∀ y∈m.sums,okI y) (fun y hy=>by cases hy) (fun y hy=>by cases hy) (fun i => ?_) (fun i => ?_) (fun k h y hy=>by cases hy)
   · unfold pm1;split<;>exact fun y hy=>by cases hy
   · unfold pv;(repeat' split)
     · exact fun y hy=>hs y (List.mem_of_mem_take hy)
     · exact fun y hy=>by cases hy
     · exact fun y hy=>by cases hy
section walks
variable {G:Globs}
set_option maxHeartbeats 2000000 in
set_option maxRecDepth 20000 in
theorem zhr (x:Tk) (hid:okI x.id) (ht:x.text.length≤9223372036854775807) (hr:x.root.length≤9223372036854775807) (hs:x.sums.length≤9223372036854775807) (hv:x.vals.length≤9223372036854775807) (hvv : ∀ i,i < x.vals.length → (nth x.vals i).length≤9223372036854775807)
 (hso : ∀ s∈x.sums,okI s) (H:Hp) (R:AV → Hp → Prop) (h : ∀ n,n≤13 → (∀ j,j < n → ser (tid x) (zaG x) j=0) → (n=(zaG x).length ∨ ser (tid x) (zaG x) n≠0) → R (.p (.sl false 38 (pl msg (zgQ (tid x) (zaG x) n)))) H):ACall Tryz.prog G 10 [.p (tkv x)] H R:=by
 refine ACall.of_run (raw:=[]) Tryz.func10 rfl Tryz.ntmps10 (by simp) fun hbel => ?_
 have hw:IntKind.i64.wrap x.id=x.id:=zdT hid.1 hid.2
 refine .q ?_;refine .text ?_;simp (disch:=first|exact za|fail) only [go_sem,seval,-List.reduceReplicate]
 refine .q ?_;refine .text ?_;simp (disch:=first|exact za|fail) only [go_sem,seval,-List.reduceReplicate]
 refine .q ?_;refine .text ?_;simp (disch:=first|exact za|fail) only [go_sem,seval,-List.reduceReplicate]
 refine CallK.of (fun R h=>zgF (x.id % 65536) 1 _ R h) ?_;simp (disch:=first|exact za|fail) only [go_sem,seval,-List.reduceReplicate]
 rw [show x.id % 65536=tid x from rfl]
 refine .q ?_;refine .text ?_;simp (disch:=first|exact za|fail) only [go_sem,seval,-List.reduceReplicate,show x.id % 65536=tid x from rfl]
 refine CallK.of (fun R h=>zgF (tid x) 1 _ R h) ?_;simp (disch:=first|exact za|fail) only [go_sem,seval,-List.reduceReplicate]
 refine .q ?_;refine .text ?_;simp (disch:=first|exact za|fail) only [go_sem,seval,-List.reduceReplicate]
 have hmn:((min (x.text.length:Int) 40)).toNat=min x.text.length 40:=by omega
 have htk:x.text.take (min x.text.length 40)=x.text.take 40:=by rw [List.take_eq_take_iff];omega
 refine .q ?_;refine .text ?_;simp (disch:=first|exact za|fail) only [go_sem,seval,-List.reduceReplicate,hmn,bytesOf_take,htk]
 refine .q ?_;refine .text ?_;simp (disch:=first|exact za|fail) only [go_sem,seval,-List.reduceReplicate]
 refine .q ?_;refine .cutE [1,3,4,5,6] [(7,.p (str (bytesOf (tx0 x))))] [] (fun ihF => ?_) (fun env F => ?_)
 rotate_left 1
 simp (disch:=first|exact za|fail) only [go_sem,seval,-List.reduceReplicate] at F
 rotate_left 1
 · unfold tx0 at ihF
   by_cases c:(x.text.take 40).length=0
   · have d:(((min 40 x.text.length:Nat):Int) == 0)=true:=by rw [←List.length_take,c];rfl
     rw [if_pos c] at ihF
     refine .q ?_;refine .ifT (by simp (disch:=first|exact za|fail) only [go_sem,seval,-List.reduceReplicate,d]) ?_
     refine .q ?_;refine .text ?_;simp (disch:=first|exact za|fail) only [go_sem,seval,-List.reduceReplicate]
     first | (refine ihF _ _ ?_ ?_) | (refine .z rfl ?_;refine ihF _ _ ?_ ?_) | (refine .z rfl ?_;refine .z rfl ?_;refine ihF _ _ ?_ ?_) | (refine .z rfl ?_;refine .z rfl ?_;refine .z rfl ?_;refine ihF _ _ ?_ ?_)
     · simp (disch:=first|exact za|fail) only [go_sem,seval,-List.reduceReplicate]<;>(repeat' (first | rfl | refine And.intro ?_ ?_))
     · first | rfl | (simp (disch:=first|exact za|fail) only [go_sem,seval,-List.reduceReplicate]<;>(try rfl))
   · have d:(((min 40 x.text.length:Nat):Int) == 0)=false:=by rw [←List.length_take];exact beq_eq_false_iff_ne.2 (by omega)
     rw [if_neg c] at ihF
     refine .q ?_;refine .ifF (by simp (disch:=first|exact za|fail) only [go_sem,seval,-List.reduceReplicate,d]) ?_
     refine .skip ?_
     first | (refine ihF _ _ ?_ ?_) | (refine .z rfl ?_;refine ihF _ _ ?_ ?_) | (refine .z rfl ?_;refine .z rfl ?_;refine ihF _ _ ?_ ?_) | (refine .z rfl ?_;refine .z rfl ?_;refine .z rfl ?_;refine ihF _ _ ?_ ?_)
     · simp (disch:=first|exact za|fail) only [go_sem,seval,-List.reduceReplicate]<;>(repeat' (first | rfl | refine And.intro ?_ ?_))
     · first | rfl | (simp (disch:=first|exact za|fail) only [go_sem,seval,-List.reduceReplicate]<;>(try rfl))
 · refine .q ?_;refine .region ?_
   refine .one rfl (by simp (disch:=first|exact za|fail) only [go_sem,seval,-List.reduceReplicate,F]<;>rfl) rfl ?_
   refine .one rfl (by simp (disch:=first|exact za|fail) only [go_sem,seval,-List.reduceReplicate,F]<;>rfl) rfl ?_
   refine .one rfl (by simp (disch:=first|exact za|fail) only [go_sem,seval,-List.reduceReplicate,F]<;>rfl) rfl ?_
   refine .weak 45 (y := .p (msg (pmk 1 (tx0 x) [] []))) (by simp (disch:=first|exact za|fail) only [go_sem,seval,-List.reduceReplicate,F]<;>rfl) (by rw [zDc,zvS]) ?_
   refine .weak 46 (y := .p (msg (pm1 x 0))) (by simp (disch:=first|exact za|fail) only [go_sem,seval,-List.reduceReplicate,F]<;>rfl) (by rw [←zvT];unfold mU;rw [zvS,zlC]) ?_
   refine .buildVec (sz:=38) (cs:=zbn [pmk 1 (tx0 x) [] [],pm1 x 0]) (by simp (disch:=first|exact za|fail) only [go_sem,seval,-List.reduceReplicate,yC,zab]<;>rfl) (by rfl) ?_
   refine .run ?_
   simp (disch:=first|exact za|fail) only [go_sem,seval,-List.reduceReplicate]
   refine .q ?_;refine .text ?_;simp (disch:=first|exact za|fail) only [go_sem,seval,-List.reduceReplicate]
   have hrn:rn x≤x.root.length∧rn x≤32∧(rn x=x.root.length ∨ rn x=32):=by unfold rn;omega
   (repeat refine .zs rfl ?_);refine .cutE [1,3,4,5,6,8] [] [(H.n+3,.vec (zbn [pmk 1 (tx0 x) [] [],pm1 x (rn x)]))] (fun ihJ => ?_) (fun env J => ?_)
   rotate_left 1
   simp (disch:=first|exact za|fail) only [go_sem,seval,-List.reduceReplicate,F] at J
   rotate_left 1
   · refine .q ?_;refine .loopE [1,3,4,5,6,8] (fun i=>[(9,.p (i64 i))]) (fun i=>[(H.n+3,.vec (zbn [pmk 1 (tx0 x) [] [],pm1 x i]))]) (fun i=>True) (0) (rn x) (by omega) ?_ (by first | rfl | (simp (disch:=first|exact za|fail) only [go_sem,seval,-List.reduceReplicate,F]<;>rfl)) ?_ ?_ ?_
     · simp (disch:=first|exact za|fail) only [go_sem,seval,-List.reduceReplicate,F]<;>(repeat' (first | rfl | refine And.intro ?_ ?_))
     · exact trivial
     intro env E hQ;simp (disch:=first|exact za|fail) only [go_sem,seval,-List.reduceReplicate,F] at E
     rotate_left 1
     intro i env hi0 hi E hQ ihE;simp (disch:=first|exact za|fail) only [go_sem,seval,-List.reduceReplicate,F] at E
     rotate_left 1
     · by_cases q:rn x < x.root.length
       · have d1:decide ((rn x:Int) < (x.root.length:Int))=true:=decide_eq_true (by omega)
         have d2:decide ((rn x:Int) < 32)=false:=decide_eq_false (by omega)
         refine .q ?_;refine .text ?_;simp (disch:=first|exact za|fail) only [go_sem,seval,-List.reduceReplicate,E,F,zc,zf,d1,d2]
         refine .q ?_;refine .ifF (by simp (disch:=first|exact za|fail) only [go_sem,seval,-List.reduceReplicate]) ?_
         first | (refine ihJ _ _ ?_ ?_) | (refine .z rfl ?_;refine ihJ _ _ ?_ ?_) | (refine .z rfl ?_;refine .z rfl ?_;refine ihJ _ _ ?_ ?_) | (refine .z rfl ?_;refine .z rfl ?_;refine .z rfl ?_;refine ihJ _ _ ?_ ?_)
         · simp (disch:=first|exact za|fail) only [go_sem,seval,-List.reduceReplicate,E,F,zc,zf]<;>(repeat' (first | rfl | refine And.intro ?_ ?_))
         · first | rfl | (simp (disch:=first|exact za|fail) only [go_sem,seval,-List.reduceReplicate,E,F,zc,zf]<;>(try rfl))
       · have d1:decide ((rn x:Int) < (x.root.length:Int))=false:=decide_eq_false (by omega)
         refine .q ?_;refine .text ?_;simp (disch:=first|exact za|fail) only [go_sem,seval,-List.reduceReplicate,E,F,zc,zf,d1]
         refine .q ?_;refine .ifF (by simp (disch:=first|exact za|fail) only [go_sem,seval,-List.reduceReplicate]) ?_
         first | (refine ihJ _ _ ?_ ?_) | (refine .z rfl ?_;refine ihJ _ _ ?_ ?_) | (refine .z rfl ?_;refine .z rfl ?_;refine ihJ _ _ ?_ ?_) | (refine .z rfl ?_;refine .z rfl ?_;refine .z rfl ?_;refine ihJ _ _ ?_ ?_)
         · simp (disch:=first|exact za|fail) only [go_sem,seval,-List.reduceReplicate,E,F,zc,zf]<;>(repeat' (first | rfl | refine And.intro ?_ ?_))
         · first | rfl | (simp (disch:=first|exact za|fail) only [go_sem,seval,-List.reduceReplicate,E,F,zc,zf]<;>(try rfl))
     · have d1:decide ((i:Int) < (x.root.length:Int))=true:=decide_eq_true (by omega)
       have hli:i < x.root.length:=by omega
       have hvl:(zbn [pmk 1 (tx0 x) [] [],pm1 x i]).length=76:=zek
       have hst:=zyo (a:=pmk 1 (tx0 x) [] []) hli (show i < 32 by omega)
       refine .q ?_;refine .text ?_;simp (disch:=first|exact za|fail) only [go_sem,seval,-List.reduceReplicate,E,F,zc,zf,d1]
       refine .q ?_;refine .ifT (by simp (disch:=first|exact za|fail) only [go_sem,seval,-List.reduceReplicate]) ?_
       refine .q ?_;refine .open [10] follows (by kernel_rfl) ?_;simp (disch:=first|exact za|fail) only [go_sem,seval,-List.reduceReplicate,E,F,hvl,hst]
       refine .q ?_;refine .text ?_;simp (disch:=first|exact za|fail) only [go_sem,seval,-List.reduceReplicate,E]
       first | (refine ihE _ _ ?_ trivial ?_) | (refine .z rfl ?_;refine ihE _ _ ?_ trivial ?_) | (refine .z rfl ?_;refine .z rfl ?_;refine ihE _ _ ?_ trivial ?_) | (refine .z rfl ?_;refine .z rfl ?_;refine .z rfl ?_;refine ihE _ _ ?_ trivial ?_)
       · simp (disch:=first|exact za|fail) only [go_sem,seval,-List.reduceReplicate,E,F,zc,zf]<;>(repeat' (first | rfl | refine And.intro ?_ ?_))
       · first | rfl | (simp (disch:=first|exact za|fail) only [go_sem,seval,-List.reduceReplicate,E,F,zc,zf]<;>(try rfl))
   have hvn:vn x≤x.vals.length∧vn x≤10∧(vn x=x.vals.length ∨ vn x=10):=by unfold vn;omega
   have hp0:[pmk 1 (tx0 x) [] [],pm1 x (rn x)]=zat x 0:=rfl
   rw [hp0]
   have hpl : ∀ i,(zat x i).length=2+i:=fun i=>by simp [zat,zco];omega
   have hps : ∀ i,zat x (i+1)=zat x i++[pv x i]:=fun i=>by simp [zat,yG]
   refine .q ?_;refine .text ?_;simp (disch:=first|exact za|fail) only [go_sem,seval,-List.reduceReplicate,J,zc,zf]
   (repeat refine .zs rfl ?_);refine .cutF [1,3,4,5,6] [(8,.vr (H.n+3) (2+vn x) 38)] [(H.n+3,.vec (zbn (zat x (vn x))))] (fun ihK => ?_) (fun env T K => ?_)
   rotate_left 1
   simp (disch:=first|exact za|fail) only [go_sem,seval,-List.reduceReplicate,J] at K
   rotate_left 1
   · refine .q ?_;refine .loopF [1,3,4,5,6] (fun i=>[(8,.vr (H.n+3) (2+i) 38),(10,.p (i64 i))]) (fun i=>[(H.n+3,.vec (zbn (zat x i)))]) (fun i=>True) (0) (vn x) (by omega) ?_ (by first | rfl | (simp (disch:=first|exact za|fail) only [go_sem,seval,-List.reduceReplicate,J]<;>rfl)) ?_ ?_ ?_
     · simp (disch:=first|exact za|fail) only [go_sem,seval,-List.reduceReplicate,J]<;>(repeat' (first | rfl | refine And.intro ?_ ?_))
     · exact trivial
     intro env T E hQ;simp (disch:=first|exact za|fail) only [go_sem,seval,-List.reduceReplicate,J] at E
     rotate_left 1
     intro i env T hi0 hi E hQ ihE;simp (disch:=first|exact za|fail) only [go_sem,seval,-List.reduceReplicate,J] at E
     rotate_left 1
     · by_cases q:vn x < x.vals.length
       · have d1:decide ((vn x:Int) < (x.vals.length:Int))=true:=decide_eq_true (by omega)
         have d2:decide ((vn x:Int) < 10)=false:=decide_eq_false (by omega)
         refine .q ?_;refine .text ?_;simp (disch:=first|exact za|fail) only [go_sem,seval,-List.reduceReplicate,E,J,zc,zf,d1,d2]
         refine .q ?_;refine .ifF (by simp (disch:=first|exact za|fail) only [go_sem,seval,-List.reduceReplicate]) ?_
         first | (refine ihK _ _ ?_ ?_) | (refine .z rfl ?_;refine ihK _ _ ?_ ?_) | (refine .z rfl ?_;refine .z rfl ?_;refine ihK _ _ ?_ ?_) | (refine .z rfl ?_;refine .z rfl ?_;refine .z rfl ?_;refine ihK _ _ ?_ ?_)
         · simp (disch:=first|exact za|fail) only [go_sem,seval,-List.reduceReplicate,E,J,zc,zf]<;>(repeat' (first | rfl | refine And.intro ?_ ?_))
         · first | exact .mk _ rfl | exact .mk [] rfl | (apply Later.mk;simp (disch:=first|exact za|fail) only [go_sem,seval,-List.reduceReplicate,zj,E,J,zc,zf];exact rfl) | (apply Later.mk;simp (disch:=first|exact za|fail) only [go_sem,seval,-List.reduceReplicate,zj,zC,List.append_assoc,E,J,zc,zf]<;>(try rfl))
       · have d1:decide ((vn x:Int) < (x.vals.length:Int))=false:=decide_eq_false (by omega)
         refine .q ?_;refine .text ?_;simp (disch:=first|exact za|fail) only [go_sem,seval,-List.reduceReplicate,E,J,zc,zf,d1]
         refine .q ?_;refine .ifF (by simp (disch:=first|exact za|fail) only [go_sem,seval,-List.reduceReplicate]) ?_
         first | (refine ihK _ _ ?_ ?_) | (refine .z rfl ?_;refine ihK _ _ ?_ ?_) | (refine .z rfl ?_;refine .z rfl ?_;refine ihK _ _ ?_ ?_) | (refine .z rfl ?_;refine .z rfl ?_;refine .z rfl ?_;refine ihK _ _ ?_ ?_)
         · simp (disch:=first|exact za|fail) only [go_sem,seval,-List.reduceReplicate,E,J,zc,zf]<;>(repeat' (first | rfl | refine And.intro ?_ ?_))
         · first | exact .mk _ rfl | exact .mk [] rfl | (apply Later.mk;simp (disch:=first|exact za|fail) only [go_sem,seval,-List.reduceReplicate,zj,E,J,zc,zf];exact rfl) | (apply Later.mk;simp (disch:=first|exact za|fail) only [go_sem,seval,-List.reduceReplicate,zj,zC,List.append_assoc,E,J,zc,zf]<;>(try rfl))
     · have d1:decide ((i:Int) < (x.vals.length:Int))=true:=decide_eq_true (by omega)
       have hli:i < x.vals.length:=by omega
       have hvi:=hvv i hli
       refine .q ?_;refine .text ?_;simp (disch:=first|exact za|fail) only [go_sem,seval,-List.reduceReplicate,E,J,zc,zf,d1]
       refine .q ?_;refine .ifT (by simp (disch:=first|exact za|fail) only [go_sem,seval,-List.reduceReplicate]) ?_
       refine .q ?_;refine .text ?_;simp (disch:=first|exact za|fail) only [go_sem,seval,-List.reduceReplicate,E,J]
       refine CallK.of (fun R h=>zee (nth x.vals i) hvi 1 (by omega) _ R h) ?_;simp (disch:=first|exact za|fail) only [go_sem,seval,-List.reduceReplicate,E,J]
       refine .q ?_;refine .text ?_;simp (disch:=first|exact za|fail) only [go_sem,seval,-List.reduceReplicate,E]
       obtain⟨B,hB⟩ : ∃ B,B=H.n+4+T.length:=⟨_,rfl⟩
       refine .q ?_;refine .cutE [1,3,4,5,6,8,10,11] [] [(H.n+4+T.length,.cells (yV (pv x i)))] (fun ihQ => ?_) (fun env Q => ?_)
       rotate_left 1
       simp (disch:=first|exact za|fail) only [go_sem,seval,-List.reduceReplicate,E,J] at Q
       rotate_left 1
       · unfold pv at ihQ
         by_cases c1:i=1
         · have e1:((i:Int) == 1)=true:=by rw [c1];rfl
           rw [if_pos c1] at ihQ
           have hmn8:((min (x.sums.length:Int) 8)).toNat=min x.sums.length 8:=by omega
           have htk8:x.sums.take (min x.sums.length 8)=x.sums.take 8:=by rw [List.take_eq_take_iff];omega
           refine .q ?_;refine .ifT (by simp (disch:=first|exact za|fail) only [go_sem,seval,-List.reduceReplicate,e1]) ?_
           refine .q ?_;refine .text ?_;simp (disch:=first|exact za|fail) only [go_sem,seval,-List.reduceReplicate,E,J,hmn8,htk8]
           refine .q ?_;refine .weakC (H.n+4+T.length) (by simp (disch:=first|exact za|fail) only [go_sem,seval,-List.reduceReplicate,zcx];rfl) ?_;(try simp (disch:=first|exact za|fail) only [go_sem,seval,-List.reduceReplicate,List.map_replicate,List.map_cons,List.map_nil,AV.weak,PV.weak,zcx])
           first | (refine ihQ _ _ ?_ ?_) | (refine .z rfl ?_;refine ihQ _ _ ?_ ?_) | (refine .z rfl ?_;refine .z rfl ?_;refine ihQ _ _ ?_ ?_) | (refine .z rfl ?_;refine .z rfl ?_;refine .z rfl ?_;refine ihQ _ _ ?_ ?_)
           · simp (disch:=first|exact za|fail) only [go_sem,seval,-List.reduceReplicate,E,J,zcx,zc,zf]<;>(repeat' (first | rfl | refine And.intro ?_ ?_))
           · first | rfl | (simp (disch:=first|exact za|fail) only [go_sem,seval,-List.reduceReplicate,E,J,zcx,zc,zf]<;>(try rfl))
         · have e1:((i:Int) == 1)=false:=beq_eq_false_iff_ne.2 (by omega)
           rw [if_neg c1] at ihQ
           refine .q ?_;refine .ifF (by simp (disch:=first|exact za|fail) only [go_sem,seval,-List.reduceReplicate,e1]) ?_
           by_cases c2:i % 2=1
           · have e2:((i:Int) % 2 == 1)=true:=by rw [show (i:Int) % 2=1 by omega];rfl
             rw [if_pos c2] at ihQ
             have hmn6:(min ((nth x.vals i).length:Int) 6)=((min (nth x.vals i).length 6:Nat):Int):=by omega
             refine .q ?_;refine .text ?_;simp (disch:=first|exact za|fail) only [go_sem,seval,-List.reduceReplicate,E,J]
             refine .q ?_;refine .ifT (by simp (disch:=first|exact za|fail) only [go_sem,seval,-List.reduceReplicate,e2]) ?_
             refine .q ?_;refine .open [14] follows (by kernel_rfl) ?_;simp (disch:=first|exact za|fail) only [go_sem,seval,-List.reduceReplicate,E,J,hmn6]
             refine CallD.still (fun R h=>zee (nth x.vals i) hvi _ (by omega) _ R h) ?_;simp (disch:=first|exact za|fail) only [go_sem,seval,-List.reduceReplicate,E,J]
             refine .q ?_;refine .weakC (H.n+4+T.length) (by simp (disch:=first|exact za|fail) only [go_sem,seval,-List.reduceReplicate,zcx];rfl) ?_;(try simp (disch:=first|exact za|fail) only [go_sem,seval,-List.reduceReplicate,List.map_replicate,List.map_cons,List.map_nil,AV.weak,PV.weak,zcx])
             first | (refine ihQ _ _ ?_ ?_) | (refine .z rfl ?_;refine ihQ _ _ ?_ ?_) | (refine .z rfl ?_;refine .z rfl ?_;refine ihQ _ _ ?_ ?_) | (refine .z rfl ?_;refine .z rfl ?_;refine .z rfl ?_;refine ihQ _ _ ?_ ?_)
             · simp (disch:=first|exact za|fail) only [go_sem,seval,-List.reduceReplicate,E,J,zcx,zc,zf]<;>(repeat' (first | rfl | refine And.intro ?_ ?_))
             · first | rfl | (simp (disch:=first|exact za|fail) only [go_sem,seval,-List.reduceReplicate,E,J,zcx,zc,zf]<;>(try rfl))
           · have e2:((i:Int) % 2 == 1)=false:=beq_eq_false_iff_ne.2 (by omega)
             rw [if_neg c2] at ihQ
             refine .q ?_;refine .text ?_;simp (disch:=first|exact za|fail) only [go_sem,seval,-List.reduceReplicate,E,J]
             refine .q ?_;refine .ifF (by simp (disch:=first|exact za|fail) only [go_sem,seval,-List.reduceReplicate,e2]) ?_
             refine .skip ?_
             refine .q ?_;refine .weakC (H.n+4+T.length) (by simp (disch:=first|exact za|fail) only [go_sem,seval,-List.reduceReplicate,zcx];rfl) ?_;(try simp (disch:=first|exact za|fail) only [go_sem,seval,-List.reduceReplicate,List.map_replicate,List.map_cons,List.map_nil,AV.weak,PV.weak,zcx])
             first | (refine ihQ _ _ ?_ ?_) | (refine .z rfl ?_;refine ihQ _ _ ?_ ?_) | (refine .z rfl ?_;refine .z rfl ?_;refine ihQ _ _ ?_ ?_) | (refine .z rfl ?_;refine .z rfl ?_;refine .z rfl ?_;refine ihQ _ _ ?_ ?_)
             · simp (disch:=first|exact za|fail) only [go_sem,seval,-List.reduceReplicate,E,J,zcx,zc,zf]<;>(repeat' (first | rfl | refine And.intro ?_ ?_))
             · first | rfl | (simp (disch:=first|exact za|fail) only [go_sem,seval,-List.reduceReplicate,E,J,zcx,zc,zf]<;>(try rfl))
       · have hvl:(zbn (zat x i)).length=(2+i)*38:=by rw [zek,hpl]
         have hvp:zbn (zat x i)++(msg (pv x i)).cells.map .p=zbn (zat x (i+1)):=by rw [hps,zlB,zaM,zgS,List.append_nil];rfl
         refine .q ?_;refine .text ?_;simp (disch:=first|exact za|fail) only [go_sem,seval,-List.reduceReplicate,Q,zc,zf,hpl,hvl,hvp]
         refine .q ?_;refine .text ?_;simp (disch:=first|exact za|fail) only [go_sem,seval,-List.reduceReplicate,Q,E]
         first | (refine ihE _ _ ?_ trivial ?_) | (refine .z rfl ?_;refine ihE _ _ ?_ trivial ?_) | (refine .z rfl ?_;refine .z rfl ?_;refine ihE _ _ ?_ trivial ?_) | (refine .z rfl ?_;refine .z rfl ?_;refine .z rfl ?_;refine ihE _ _ ?_ trivial ?_)
         · simp (disch:=first|exact za|fail) only [go_sem,seval,-List.reduceReplicate,Q,E,J,zc,zf,Nat.add_assoc]<;>(repeat' (first | rfl | refine And.intro ?_ ?_))
         · first | exact .mk _ rfl | exact .mk [] rfl | (apply Later.mk;simp (disch:=first|exact za|fail) only [go_sem,seval,-List.reduceReplicate,zj,Q,E,J,zc,zf,Nat.add_assoc];exact rfl) | (apply Later.mk;simp (disch:=first|exact za|fail) only [go_sem,seval,-List.reduceReplicate,zj,zC,List.append_assoc,Q,E,J,zc,zf,Nat.add_assoc]<;>(try rfl))
   · obtain⟨T0,rfl⟩ : ∃ T0,T0=T:=⟨_,rfl⟩
     have h3:(3#8:BitVec 8)≠0#8:=by decide
     refine .q ?_;refine .cutE [1,3,4,5,6,8] [(132,.p (bo (cT x)))] [] (fun ihW => ?_) (fun env W => ?_)
     rotate_left 1
     simp (disch:=first|exact za|fail) only [go_sem,seval,-List.reduceReplicate,K] at W
     rotate_left 1
     · unfold cT at ihW
       cases e1:((2+(vn x:Int)) % 2 == 0) with
       | false =>
        rw [e1] at ihW
        refine .q ?_;refine .text ?_;simp (disch:=first|exact za|fail) only [go_sem,seval,-List.reduceReplicate,K,zc,zf,e1]
        first | (refine ihW _ _ ?_ ?_) | (refine .z rfl ?_;refine ihW _ _ ?_ ?_) | (refine .z rfl ?_;refine .z rfl ?_;refine ihW _ _ ?_ ?_) | (refine .z rfl ?_;refine .z rfl ?_;refine .z rfl ?_;refine ihW _ _ ?_ ?_)
        · simp (disch:=first|exact za|fail) only [go_sem,seval,-List.reduceReplicate,K,zc,zf]<;>(repeat' (first | rfl | refine And.intro ?_ ?_))
        · first | rfl | (simp (disch:=first|exact za|fail) only [go_sem,seval,-List.reduceReplicate,K,zc,zf]<;>(try rfl))
       | true =>
        rw [e1] at ihW
        cases e2:decide ((4:Int)≤(2+(vn x:Int))) with
        | false =>
         rw [e2] at ihW
         refine .q ?_;refine .text ?_;simp (disch:=first|exact za|fail) only [go_sem,seval,-List.reduceReplicate,K,zc,zf,e1,e2]
         first | (refine ihW _ _ ?_ ?_) | (refine .z rfl ?_;refine ihW _ _ ?_ ?_) | (refine .z rfl ?_;refine .z rfl ?_;refine ihW _ _ ?_ ?_) | (refine .z rfl ?_;refine .z rfl ?_;refine .z rfl ?_;refine ihW _ _ ?_ ?_)
         · simp (disch:=first|exact za|fail) only [go_sem,seval,-List.reduceReplicate,K,zc,zf]<;>(repeat' (first | rfl | refine And.intro ?_ ?_))
         · first | rfl | (simp (disch:=first|exact za|fail) only [go_sem,seval,-List.reduceReplicate,K,zc,zf]<;>(try rfl))
        | true =>
         rw [e2] at ihW
         refine .q ?_;refine .text ?_;simp (disch:=first|exact za|fail) only [go_sem,seval,-List.reduceReplicate,K,zc,zf,e1,e2]
         first | (refine ihW _ _ ?_ ?_) | (refine .z rfl ?_;refine ihW _ _ ?_ ?_) | (refine .z rfl ?_;refine .z rfl ?_;refine ihW _ _ ?_ ?_) | (refine .z rfl ?_;refine .z rfl ?_;refine .z rfl ?_;refine ihW _ _ ?_ ?_)
         · simp (disch:=first|exact za|fail) only [go_sem,seval,-List.reduceReplicate,K,zc,zf]<;>(repeat' (first | rfl | refine And.intro ?_ ?_))
         · first | rfl | (simp (disch:=first|exact za|fail) only [go_sem,seval,-List.reduceReplicate,K,zc,zf]<;>(try rfl))
     · have hvl:(zbn (zat x (vn x))).length=(2+vn x)*38:=by rw [zek,hpl]
       have hpp:(zaG x).length=if cT x then 2+vn x+1 else 2+vn x:=by
        unfold zaG;split<;>simp [hpl]
       refine .q ?_;refine .cutE [3,4,5,6] [(8,.vr (H.n+3) (zaG x).length 38)] [(H.n+3,.vec (zbn (zaG x)))] (fun ihU => ?_) (fun env U => ?_)
       rotate_left 1
       simp (disch:=first|exact za|fail) only [go_sem,seval,-List.reduceReplicate,W,K] at U
       rotate_left 1
       · rw [hpp] at ihU
         unfold zaG at ihU
         cases hc:cT x with
         | false =>
          rw [hc] at ihU
          simp only [Bool.false_eq_true,if_false] at ihU
          refine .q ?_;refine .ifF (by simp (disch:=first|exact za|fail) only [go_sem,seval,-List.reduceReplicate,W,hc]) ?_
          refine .skip ?_
          first | (refine ihU _ _ ?_ ?_) | (refine .z rfl ?_;refine ihU _ _ ?_ ?_) | (refine .z rfl ?_;refine .z rfl ?_;refine ihU _ _ ?_ ?_) | (refine .z rfl ?_;refine .z rfl ?_;refine .z rfl ?_;refine ihU _ _ ?_ ?_)
          · simp (disch:=first|exact za|fail) only [go_sem,seval,-List.reduceReplicate,W,K,zc,zf]<;>(repeat' (first | rfl | refine And.intro ?_ ?_))
          · first | rfl | (simp (disch:=first|exact za|fail) only [go_sem,seval,-List.reduceReplicate,W,K,zc,zf]<;>(try rfl))
         | true =>
          rw [hc] at ihU
          simp only [if_true] at ihU
          have hk6:(6:Int)+((x.fin % 3#8).toNat:Int) - 1=5+((x.fin % 3#8).toNat:Int):=by omega
          have hvp:zbn (zat x (vn x))++(msg (pmk (5+((x.fin % 3#8).toNat:Nat)) [] [] [])).cells.map .p=zbn (zat x (vn x)++[pmk (5+((x.fin % 3#8).toNat:Nat)) [] [] []]):=by rw [zlB,zaM,zgS,List.append_nil];rfl
          have hf3:=(x.fin % 3#8).isLt
          refine .q ?_;refine .ifT (by simp (disch:=first|exact za|fail) only [go_sem,seval,-List.reduceReplicate,W,hc]) ?_
          refine .q ?_;refine .text ?_;simp (disch:=first|exact za|fail) only [go_sem,seval,-List.reduceReplicate,W,K,zc,zf,hpl,hvl,hk6,hvp]
          first | (refine ihU _ _ ?_ ?_) | (refine .z rfl ?_;refine ihU _ _ ?_ ?_) | (refine .z rfl ?_;refine .z rfl ?_;refine ihU _ _ ?_ ?_) | (refine .z rfl ?_;refine .z rfl ?_;refine .z rfl ?_;refine ihU _ _ ?_ ?_)
          · simp (disch:=first|exact za|fail) only [go_sem,seval,-List.reduceReplicate,W,K,zc,zf]<;>(repeat' (first | rfl | refine And.intro ?_ ?_))
          · first | rfl | (simp (disch:=first|exact za|fail) only [go_sem,seval,-List.reduceReplicate,W,K,zc,zf]<;>(try rfl))
       · have hlp:(zaG x).length≤13:=by rw [hpp];split<;>omega
         refine .q ?_;refine .frzV 8 (by simp (disch:=first|exact za|fail) only [go_sem,seval,-List.reduceReplicate,U,W,K,zc,zf];rfl) (by simp (disch:=first|exact za|fail) only [go_sem,seval,-List.reduceReplicate,U,W,K,zc,zf]<;>rfl) (xs:=pl msg (zaG x)) rfl (zcg) (zyp) ?_;(try simp (disch:=first|exact za|fail) only [go_sem,seval,-List.reduceReplicate,U,W,K,zc,zf])
         have hP:=zpi hso
         have hidt:0≤tid x∧tid x≤65535:=by unfold tid;omega
         generalize tid x=id at *
         generalize zaG x=P at *
         clear hpp hvl hpl hps hp0
         refine .q ?_;refine .own 6 (by simp (disch:=first|exact za|fail) only [go_sem,seval,-List.reduceReplicate,U,W,K];rfl) ?_
         refine .q ?_;refine .text ?_;simp (disch:=first|exact za|fail) only [go_sem,seval,-List.reduceReplicate]
         refine .q ?_;refine .loopF [3,4,5,8] (fun i=>[(6,.sl (H.n+4+T0.length) i 38 (pl msg (zgQ id P i))),(12,.p (i64 i))]) (fun i=>[(H.n+1,.cells (yl (yS id P 1 i 0))),(H.n+2,.cells (yl (yS id P 1 i 1))),(H.n+4+T0.length,.tail i)]) (fun i => ∀ j,j < i → ser id P j=0) (0) (P.length) (by omega) ?_ (by first | rfl | (simp (disch:=first|exact za|fail) only [go_sem,seval,-List.reduceReplicate,U,W,K]<;>rfl)) ?_ ?_ ?_
         · simp (disch:=first|exact za|fail) only [go_sem,seval,-List.reduceReplicate,U,W,K]<;>(repeat' (first | rfl | refine And.intro ?_ ?_))
         rotate_left 1
         intro env T E hQ;simp (disch:=first|exact za|fail) only [go_sem,seval,-List.reduceReplicate,U,W,K] at E
         rotate_left 1
         intro i env T hi0 hi E hQ ihE;simp (disch:=first|exact za|fail) only [go_sem,seval,-List.reduceReplicate,U,W,K] at E
         rotate_left 1
         · exact fun j hj=>absurd hj (by omega)
         · refine .q ?_;refine .text ?_;simp (disch:=first|exact za|fail) only [go_sem,seval,-List.reduceReplicate,E,zc,zf]
           refine .q ?_;refine .ifF (by simp (disch:=first|exact za|fail) only [go_sem,seval,-List.reduceReplicate]) ?_
           refine .q ?_;refine .text ?_;simp (disch:=first|exact za|fail) only [go_sem,seval,-List.reduceReplicate,E]
           refine .q ?_;refine .rt Tryz.func10 (by rw [Tryz.results10]) (hx:=by simp (disch:=first|exact za|fail) only [go_sem,seval,-List.reduceReplicate,E];rfl) (hR := ?_);simp (disch:=first|exact za|fail) only [go_sem,seval,-List.reduceReplicate,E]
           exact h P.length hlp hQ (.inl rfl)
         · have hgd:=zlA hP hidt (D:=1) (by decide) i (by omega) hQ
           have o0:=(hgd 0 (by omega)).ok (by omega)
           have o1:=(hgd 1 (by omega)).ok (by omega)
           have hmi:=zvP (i:=i) hP hidt (by omega)
           have hon:(zgQ id P i).length=i:=zgR
           have hos:zgQ id P (i+1)=zgQ id P i++[mi id P i]:=yG
           have hii:okI (i:Int):=zpg (by omega)
           refine .q ?_;refine .text ?_;simp (disch:=first|exact za|fail) only [go_sem,seval,-List.reduceReplicate,E,zc,zf]
           refine .q ?_;refine .ifT (by simp (disch:=first|exact za|fail) only [go_sem,seval,-List.reduceReplicate]) ?_
           refine .q ?_;refine .text ?_;simp (disch:=first|exact za|fail) only [go_sem,seval,-List.reduceReplicate,E]
           refine .q ?_;refine .text ?_;simp (disch:=first|exact za|fail) only [go_sem,seval,-List.reduceReplicate,E]
           refine .q ?_;refine .text ?_;simp (disch:=first|exact za|fail) only [go_sem,seval,-List.reduceReplicate,E]
           refine .q ?_;refine .text ?_;simp (disch:=first|exact za|fail) only [go_sem,seval,-List.reduceReplicate,E]
           have hm1:(nth P i).kind=2 → mi id P i=⟨(nth P i).kind,id,i,(nth P i).text,(nth P i).root,(nth P i).sums,(nth P i).values⟩:=fun q=>by unfold mi mqq;rw [if_neg (by simp [q])]
           have hm2:(nth P i).kind≠2 → mi id P i=⟨(nth P i).kind,id,i,(nth P i).text,(com id P i).seen,(nth P i).sums,(nth P i).values⟩:=fun q=>by unfold mi mqq;rw [if_pos q]
           have hs0:(yS id P 1 i 0).seen=(com id P i).seen:=rfl
           have hs1:(yS id P 1 i 1).seen=(com id P i).seen:=rfl
           have hsl:=(com id P i).seen.len
           have hpar:i % 2=0 ∨ i % 2=1:=by omega
           by_cases hz:ser id P i=0
           · have hall : ∀ j,j≤i → ser id P j=0:=fun j hj=>by
              rcases Nat.lt_or_ge j i with q | q
              · exact hQ j q
              · rw [show j=i by omega];exact hz
             refine .q ?_;refine .cutF [3,4,5,6,8,12,13] [] [(H.n+1,.cells (yl (yS id P 1 (i+1) 0))),(H.n+2,.cells (yl (yS id P 1 (i+1) 1))),(H.n+4+T0.length+1+T.length,.cells (yV (mi id P i)))] (fun ihV => ?_) (fun env T V => ?_)
             rotate_left 1
             simp (disch:=first|exact za|fail) only [go_sem,seval,-List.reduceReplicate,E] at V
             rotate_left 1
             · skip
               rcases hpar with hp0 | hp1
               · have dp:((i:Int) % 2 == 0)=true:=by rw [show (i:Int) % 2=0 by omega];rfl
                 refine .q ?_;refine .ifT (by simp (disch:=first|exact za|fail) only [go_sem,seval,-List.reduceReplicate,dp]) ?_
                 refine .q ?_;refine .text ?_;simp (disch:=first|exact za|fail) only [go_sem,seval,-List.reduceReplicate,E]
                 refine .q ?_;refine .cutE [3,4,5,6,8,12,13] [] [(H.n+4+T0.length+1+T.length,.cells (yV (mi id P i)))] (fun ihX => ?_) (fun env X => ?_)
                 rotate_left 1
                 simp (disch:=first|exact za|fail) only [go_sem,seval,-List.reduceReplicate,E] at X
                 rotate_left 1
                 · by_cases hk:(nth P i).kind=2
                   · have dk:((nth P i).kind != 2)=false:=by simpa using hk
                     rw [hm1 hk] at ihX
                     refine .q ?_;refine .ifF (by simp (disch:=first|exact za|fail) only [go_sem,seval,-List.reduceReplicate,dk]) ?_
                     refine .skip ?_
                     first | (refine ihX _ _ ?_ ?_) | (refine .z rfl ?_;refine ihX _ _ ?_ ?_) | (refine .z rfl ?_;refine .z rfl ?_;refine ihX _ _ ?_ ?_) | (refine .z rfl ?_;refine .z rfl ?_;refine .z rfl ?_;refine ihX _ _ ?_ ?_)
                     · simp (disch:=first|exact za|fail) only [go_sem,seval,-List.reduceReplicate,E,zc,zf]<;>(repeat' (first | rfl | refine And.intro ?_ ?_))
                     · first | rfl | (simp (disch:=first|exact za|fail) only [go_sem,seval,-List.reduceReplicate,E,zc,zf]<;>(try rfl))
                   · have dk:((nth P i).kind != 2)=true:=by simpa using hk
                     rw [hm2 hk] at ihX
                     refine .q ?_;refine .ifT (by simp (disch:=first|exact za|fail) only [go_sem,seval,-List.reduceReplicate,dk]) ?_
                     refine .q ?_;refine .text ?_;simp (disch:=first|exact za|fail) only [go_sem,seval,-List.reduceReplicate,E,hsl]
                     first | (refine ihX _ _ ?_ ?_) | (refine .z rfl ?_;refine ihX _ _ ?_ ?_) | (refine .z rfl ?_;refine .z rfl ?_;refine ihX _ _ ?_ ?_) | (refine .z rfl ?_;refine .z rfl ?_;refine .z rfl ?_;refine ihX _ _ ?_ ?_)
                     · simp (disch:=first|exact za|fail) only [go_sem,seval,-List.reduceReplicate,E,zc,zf,hs0]<;>(repeat' (first | rfl | refine And.intro ?_ ?_))
                     · first | rfl | (simp (disch:=first|exact za|fail) only [go_sem,seval,-List.reduceReplicate,E,zc,zf,hs0]<;>(try rfl))
                 · have hse:send (yS id P 1 i 0) (mi id P i)=(yS id P 1 (i+1) 0,enc (mi id P i),0):=zc9 hz hp0
                   have hrv:recv (yS id P 1 i 1) (enc (mi id P i)) 0=(yS id P 1 (i+1) 1,mi id P i,0):=zda hall hP.okI (by omega) (by decide)
                   have hel:(enc (mi id P i)).length≤3000:=zdJ
                   refine .q ?_;refine .text ?_;simp (disch:=first|exact za|fail) only [go_sem,seval,-List.reduceReplicate,X,E,zc,zf]
                   refine CallK.of (fun R h=>zbQ (yS id P 1 i 0) o0 (mi id P i) hmi _ R h) ?_;simp (disch:=first|exact za|fail) only [go_sem,seval,-List.reduceReplicate,hse]
                   refine .q ?_;refine .text ?_;simp (disch:=first|exact za|fail) only [go_sem,seval,-List.reduceReplicate]
                   refine .q ?_;refine .ifF (by simp (disch:=first|exact za|fail) only [go_sem,seval,-List.reduceReplicate]) ?_
                   refine .skip ?_
                   refine .q ?_;refine .text ?_;simp (disch:=first|exact za|fail) only [go_sem,seval,-List.reduceReplicate,X,E]
                   refine .q ?_;refine .text ?_;simp (disch:=first|exact za|fail) only [go_sem,seval,-List.reduceReplicate,X,E]
                   refine CallK.of (fun R h=>zc5 (yS id P 1 i 1) o1 (enc (mi id P i)) (by omega) 0 _ R h) ?_;simp (disch:=first|exact za|fail) only [go_sem,seval,-List.reduceReplicate,hrv]
                   refine .q ?_;refine .text ?_;simp (disch:=first|exact za|fail) only [go_sem,seval,-List.reduceReplicate,X,E]
                   first | (refine ihV _ _ ?_ ?_) | (refine .z rfl ?_;refine ihV _ _ ?_ ?_) | (refine .z rfl ?_;refine .z rfl ?_;refine ihV _ _ ?_ ?_) | (refine .z rfl ?_;refine .z rfl ?_;refine .z rfl ?_;refine ihV _ _ ?_ ?_)
                   · simp (disch:=first|exact za|fail) only [go_sem,seval,-List.reduceReplicate,X,E]<;>(repeat' (first | rfl | refine And.intro ?_ ?_))
                   · exact zh3
               · have dp:((i:Int) % 2 == 0)=false:=by rw [show (i:Int) % 2=1 by omega];rfl
                 refine .q ?_;refine .ifF (by simp (disch:=first|exact za|fail) only [go_sem,seval,-List.reduceReplicate,dp]) ?_
                 refine .q ?_;refine .text ?_;simp (disch:=first|exact za|fail) only [go_sem,seval,-List.reduceReplicate,E]
                 refine .q ?_;refine .cutE [3,4,5,6,8,12,13] [] [(H.n+4+T0.length+1+T.length,.cells (yV (mi id P i)))] (fun ihX => ?_) (fun env X => ?_)
                 rotate_left 1
                 simp (disch:=first|exact za|fail) only [go_sem,seval,-List.reduceReplicate,E] at X
                 rotate_left 1
                 · by_cases hk:(nth P i).kind=2
                   · have dk:((nth P i).kind != 2)=false:=by simpa using hk
                     rw [hm1 hk] at ihX
                     refine .q ?_;refine .ifF (by simp (disch:=first|exact za|fail) only [go_sem,seval,-List.reduceReplicate,dk]) ?_
                     refine .skip ?_
                     first | (refine ihX _ _ ?_ ?_) | (refine .z rfl ?_;refine ihX _ _ ?_ ?_) | (refine .z rfl ?_;refine .z rfl ?_;refine ihX _ _ ?_ ?_) | (refine .z rfl ?_;refine .z rfl ?_;refine .z rfl ?_;refine ihX _ _ ?_ ?_)
                     · simp (disch:=first|exact za|fail) only [go_sem,seval,-List.reduceReplicate,E,zc,zf]<;>(repeat' (first | rfl | refine And.intro ?_ ?_))
                     · first | rfl | (simp (disch:=first|exact za|fail) only [go_sem,seval,-List.reduceReplicate,E,zc,zf]<;>(try rfl))
                   · have dk:((nth P i).kind != 2)=true:=by simpa using hk
                     rw [hm2 hk] at ihX
                     refine .q ?_;refine .ifT (by simp (disch:=first|exact za|fail) only [go_sem,seval,-List.reduceReplicate,dk]) ?_
                     refine .q ?_;refine .text ?_;simp (disch:=first|exact za|fail) only [go_sem,seval,-List.reduceReplicate,E,hsl]
                     first | (refine ihX _ _ ?_ ?_) | (refine .z rfl ?_;refine ihX _ _ ?_ ?_) | (refine .z rfl ?_;refine .z rfl ?_;refine ihX _ _ ?_ ?_) | (refine .z rfl ?_;refine .z rfl ?_;refine .z rfl ?_;refine ihX _ _ ?_ ?_)
                     · simp (disch:=first|exact za|fail) only [go_sem,seval,-List.reduceReplicate,E,zc,zf,hs1]<;>(repeat' (first | rfl | refine And.intro ?_ ?_))
                     · first | rfl | (simp (disch:=first|exact za|fail) only [go_sem,seval,-List.reduceReplicate,E,zc,zf,hs1]<;>(try rfl))
                 · have hse:send (yS id P 1 i 1) (mi id P i)=(yS id P 1 (i+1) 1,enc (mi id P i),0):=zc9 hz hp1
                   have hrv:recv (yS id P 1 i 0) (enc (mi id P i)) 0=(yS id P 1 (i+1) 0,mi id P i,0):=zda hall hP.okI (by omega) (by decide)
                   have hel:(enc (mi id P i)).length≤3000:=zdJ
                   refine .q ?_;refine .text ?_;simp (disch:=first|exact za|fail) only [go_sem,seval,-List.reduceReplicate,X,E,zc,zf]
                   refine CallK.of (fun R h=>zbQ (yS id P 1 i 1) o1 (mi id P i) hmi _ R h) ?_;simp (disch:=first|exact za|fail) only [go_sem,seval,-List.reduceReplicate,hse]
                   refine .q ?_;refine .text ?_;simp (disch:=first|exact za|fail) only [go_sem,seval,-List.reduceReplicate]
                   refine .q ?_;refine .ifF (by simp (disch:=first|exact za|fail) only [go_sem,seval,-List.reduceReplicate]) ?_
                   refine .skip ?_
                   refine .q ?_;refine .text ?_;simp (disch:=first|exact za|fail) only [go_sem,seval,-List.reduceReplicate,X,E]
                   refine .q ?_;refine .text ?_;simp (disch:=first|exact za|fail) only [go_sem,seval,-List.reduceReplicate,X,E]
                   refine CallK.of (fun R h=>zc5 (yS id P 1 i 0) o0 (enc (mi id P i)) (by omega) 0 _ R h) ?_;simp (disch:=first|exact za|fail) only [go_sem,seval,-List.reduceReplicate,hrv]
                   refine .q ?_;refine .text ?_;simp (disch:=first|exact za|fail) only [go_sem,seval,-List.reduceReplicate,X,E]
                   first | (refine ihV _ _ ?_ ?_) | (refine .z rfl ?_;refine ihV _ _ ?_ ?_) | (refine .z rfl ?_;refine .z rfl ?_;refine ihV _ _ ?_ ?_) | (refine .z rfl ?_;refine .z rfl ?_;refine .z rfl ?_;refine ihV _ _ ?_ ?_)
                   · simp (disch:=first|exact za|fail) only [go_sem,seval,-List.reduceReplicate,X,E]<;>(repeat' (first | rfl | refine And.intro ?_ ?_))
                   · exact zh3
             · refine .q ?_;refine .text ?_;simp (disch:=first|exact za|fail) only [go_sem,seval,-List.reduceReplicate,V,zc,zf,hon,←hos]
               refine .q ?_;refine .text ?_;simp (disch:=first|exact za|fail) only [go_sem,seval,-List.reduceReplicate,V]
               first | (refine ihE _ _ ?_ (zg hQ hz) ?_) | (refine .z rfl ?_;refine ihE _ _ ?_ (zg hQ hz) ?_) | (refine .z rfl ?_;refine .z rfl ?_;refine ihE _ _ ?_ (zg hQ hz) ?_) | (refine .z rfl ?_;refine .z rfl ?_;refine .z rfl ?_;refine ihE _ _ ?_ (zg hQ hz) ?_)
               · simp (disch:=first|exact za|fail) only [go_sem,seval,-List.reduceReplicate,V,E,U,W,K,J,zc,zf]<;>(repeat' (first | rfl | refine And.intro ?_ ?_))
               · exact zod
           · skip
             rcases hpar with hp0 | hp1
             · have dp:((i:Int) % 2 == 0)=true:=by rw [show (i:Int) % 2=0 by omega];rfl
               refine .q ?_;refine .ifT (by simp (disch:=first|exact za|fail) only [go_sem,seval,-List.reduceReplicate,dp]) ?_
               refine .q ?_;refine .text ?_;simp (disch:=first|exact za|fail) only [go_sem,seval,-List.reduceReplicate,E]
               refine .q ?_;refine .cutE [3,4,5,6,8,12,13] [] [(H.n+4+T0.length+1+T.length,.cells (yV (mi id P i)))] (fun ihX => ?_) (fun env X => ?_)
               rotate_left 1
               simp (disch:=first|exact za|fail) only [go_sem,seval,-List.reduceReplicate,E] at X
               rotate_left 1
               · by_cases hk:(nth P i).kind=2
                 · have dk:((nth P i).kind != 2)=false:=by simpa using hk
                   rw [hm1 hk] at ihX
                   refine .q ?_;refine .ifF (by simp (disch:=first|exact za|fail) only [go_sem,seval,-List.reduceReplicate,dk]) ?_
                   refine .skip ?_
                   first | (refine ihX _ _ ?_ ?_) | (refine .z rfl ?_;refine ihX _ _ ?_ ?_) | (refine .z rfl ?_;refine .z rfl ?_;refine ihX _ _ ?_ ?_) | (refine .z rfl ?_;refine .z rfl ?_;refine .z rfl ?_;refine ihX _ _ ?_ ?_)
                   · simp (disch:=first|exact za|fail) only [go_sem,seval,-List.reduceReplicate,E,zc,zf]<;>(repeat' (first | rfl | refine And.intro ?_ ?_))
                   · first | rfl | (simp (disch:=first|exact za|fail) only [go_sem,seval,-List.reduceReplicate,E,zc,zf]<;>(try rfl))
                 · have dk:((nth P i).kind != 2)=true:=by simpa using hk
                   rw [hm2 hk] at ihX
                   refine .q ?_;refine .ifT (by simp (disch:=first|exact za|fail) only [go_sem,seval,-List.reduceReplicate,dk]) ?_
                   refine .q ?_;refine .text ?_;simp (disch:=first|exact za|fail) only [go_sem,seval,-List.reduceReplicate,E,hsl]
                   first | (refine ihX _ _ ?_ ?_) | (refine .z rfl ?_;refine ihX _ _ ?_ ?_) | (refine .z rfl ?_;refine .z rfl ?_;refine ihX _ _ ?_ ?_) | (refine .z rfl ?_;refine .z rfl ?_;refine .z rfl ?_;refine ihX _ _ ?_ ?_)
                   · simp (disch:=first|exact za|fail) only [go_sem,seval,-List.reduceReplicate,E,zc,zf,hs0]<;>(repeat' (first | rfl | refine And.intro ?_ ?_))
                   · first | rfl | (simp (disch:=first|exact za|fail) only [go_sem,seval,-List.reduceReplicate,E,zc,zf,hs0]<;>(try rfl))
               · have hne:(send (yS id P 1 i 0) (mi id P i)).2.2≠0:=by have:=hz;unfold ser at this;rwa [hp0] at this
                 have dz:((send (yS id P 1 i 0) (mi id P i)).2.2 != 0)=true:=by simpa using hne
                 refine .q ?_;refine .text ?_;simp (disch:=first|exact za|fail) only [go_sem,seval,-List.reduceReplicate,X,E,zc,zf]
                 refine CallK.of (fun R h=>zbQ (yS id P 1 i 0) o0 (mi id P i) hmi _ R h) ?_;simp (disch:=first|exact za|fail) only [go_sem,seval,-List.reduceReplicate]
                 refine .q ?_;refine .text ?_;simp (disch:=first|exact za|fail) only [go_sem,seval,-List.reduceReplicate]
                 refine .q ?_;refine .ifT (by simp (disch:=first|exact za|fail) only [go_sem,seval,-List.reduceReplicate,dz]) ?_
                 refine .q ?_;refine .text ?_;simp (disch:=first|exact za|fail) only [go_sem,seval,-List.reduceReplicate,X,E]
                 refine .q ?_;refine .rt Tryz.func10 (by rw [Tryz.results10]) (hx:=by simp (disch:=first|exact za|fail) only [go_sem,seval,-List.reduceReplicate,X,E];rfl) (hR := ?_);simp (disch:=first|exact za|fail) only [go_sem,seval,-List.reduceReplicate,X,E]
                 exact h i (by omega) hQ (.inr hz)
             · have dp:((i:Int) % 2 == 0)=false:=by rw [show (i:Int) % 2=1 by omega];rfl
               refine .q ?_;refine .ifF (by simp (disch:=first|exact za|fail) only [go_sem,seval,-List.reduceReplicate,dp]) ?_
               refine .q ?_;refine .text ?_;simp (disch:=first|exact za|fail) only [go_sem,seval,-List.reduceReplicate,E]
               refine .q ?_;refine .cutE [3,4,5,6,8,12,13] [] [(H.n+4+T0.length+1+T.length,.cells (yV (mi id P i)))] (fun ihX => ?_) (fun env X => ?_)
               rotate_left 1
               simp (disch:=first|exact za|fail) only [go_sem,seval,-List.reduceReplicate,E] at X
               rotate_left 1
               · by_cases hk:(nth P i).kind=2
                 · have dk:((nth P i).kind != 2)=false:=by simpa using hk
                   rw [hm1 hk] at ihX
                   refine .q ?_;refine .ifF (by simp (disch:=first|exact za|fail) only [go_sem,seval,-List.reduceReplicate,dk]) ?_
                   refine .skip ?_
                   first | (refine ihX _ _ ?_ ?_) | (refine .z rfl ?_;refine ihX _ _ ?_ ?_) | (refine .z rfl ?_;refine .z rfl ?_;refine ihX _ _ ?_ ?_) | (refine .z rfl ?_;refine .z rfl ?_;refine .z rfl ?_;refine ihX _ _ ?_ ?_)
                   · simp (disch:=first|exact za|fail) only [go_sem,seval,-List.reduceReplicate,E,zc,zf]<;>(repeat' (first | rfl | refine And.intro ?_ ?_))
                   · first | rfl | (simp (disch:=first|exact za|fail) only [go_sem,seval,-List.reduceReplicate,E,zc,zf]<;>(try rfl))
                 · have dk:((nth P i).kind != 2)=true:=by simpa using hk
                   rw [hm2 hk] at ihX
                   refine .q ?_;refine .ifT (by simp (disch:=first|exact za|fail) only [go_sem,seval,-List.reduceReplicate,dk]) ?_
                   refine .q ?_;refine .text ?_;simp (disch:=first|exact za|fail) only [go_sem,seval,-List.reduceReplicate,E,hsl]
                   first | (refine ihX _ _ ?_ ?_) | (refine .z rfl ?_;refine ihX _ _ ?_ ?_) | (refine .z rfl ?_;refine .z rfl ?_;refine ihX _ _ ?_ ?_) | (refine .z rfl ?_;refine .z rfl ?_;refine .z rfl ?_;refine ihX _ _ ?_ ?_)
                   · simp (disch:=first|exact za|fail) only [go_sem,seval,-List.reduceReplicate,E,zc,zf,hs1]<;>(repeat' (first | rfl | refine And.intro ?_ ?_))
                   · first | rfl | (simp (disch:=first|exact za|fail) only [go_sem,seval,-List.reduceReplicate,E,zc,zf,hs1]<;>(try rfl))
               · have hne:(send (yS id P 1 i 1) (mi id P i)).2.2≠0:=by have:=hz;unfold ser at this;rwa [hp1] at this
                 have dz:((send (yS id P 1 i 1) (mi id P i)).2.2 != 0)=true:=by simpa using hne
                 refine .q ?_;refine .text ?_;simp (disch:=first|exact za|fail) only [go_sem,seval,-List.reduceReplicate,X,E,zc,zf]
                 refine CallK.of (fun R h=>zbQ (yS id P 1 i 1) o1 (mi id P i) hmi _ R h) ?_;simp (disch:=first|exact za|fail) only [go_sem,seval,-List.reduceReplicate]
                 refine .q ?_;refine .text ?_;simp (disch:=first|exact za|fail) only [go_sem,seval,-List.reduceReplicate]
                 refine .q ?_;refine .ifT (by simp (disch:=first|exact za|fail) only [go_sem,seval,-List.reduceReplicate,dz]) ?_
                 refine .q ?_;refine .text ?_;simp (disch:=first|exact za|fail) only [go_sem,seval,-List.reduceReplicate,X,E]
                 refine .q ?_;refine .rt Tryz.func10 (by rw [Tryz.results10]) (hx:=by simp (disch:=first|exact za|fail) only [go_sem,seval,-List.reduceReplicate,X,E];rfl) (hR := ?_);simp (disch:=first|exact za|fail) only [go_sem,seval,-List.reduceReplicate,X,E]
                 exact h i (by omega) hQ (.inr hz)
end walks
end Go.Proofs.YtgflpgcogkdpgaaGreatDoor

/-
  Audits: the laws' meters.
-/
namespace Go.Proofs.YtgflpgcogkdpgaaGreatDoor
open Go Go.AL

def zi9 (b:BitVec 8) (k:Nat):Bool:=(b >>> k) &&& 1#8 == 1#8
def mt (l:By) (i:Nat):Mt:=⟨BitVec.ofInt 64 i,[tab (zi9 (nth l i)) 4]++(if nth l i &&& 128#8 != 0#8 then [ [nth l i &&& 64#8 != 0#8] ] else [])⟩
def mts (l:By):List Mt:=tab (mt l) (min l.length 12)
theorem mk5 {a b c d e:PV}:zn [.p a,.p b,.p c,.p d,.p e] = .p (.agg [a,b,c,d,e]):=rfl
theorem ac5 {a b c d e:PV}:zh (.p (.agg [a,b,c,d,e]))=some [.p a,.p b,.p c,.p d,.p e]:=rfl
def epT (ps:List Bool):PV := .agg [i64 0,i64 0,bo false,.sl false 3 (pl pnt ps),.sl true 32 []]
section ept
variable {ps:List Bool} {a v:Nat}
theorem zAG:zn [.p (i64 0),.p (i64 0),.p (bo false),.sl a v 3 (pl pnt ps),.p (.sl true 32 [])] = .p (epT ps):=rfl
theorem zCv:(epT ps).weak=epo ps:=rfl
theorem zAH:(epT ps).cells.length=5:=rfl
def epV (b:Bool) (ps:List Bool):PV := .agg [i64 0,i64 0,bo false,.sl b 3 (pl pnt ps),.sl true 32 []]
theorem zAI {b:Bool}:zn [.p (i64 0),.p (i64 0),.p (bo false),.p (.sl b 3 (pl pnt ps)),.p (.sl true 32 [])] = .p (epV b ps):=rfl
theorem zCw {b:Bool}:(epV b ps).weak=epo ps:=rfl
theorem zAJ {b:Bool}:(epV b ps).cells.length=5:=rfl
end ept
attribute [go_sem] zAG zCv zAH zAI zCw zAJ
def mtU (v:BitVec 64) (x:AV):List AV := .p (zt v) :: (cl b8 (List.replicate 32 0#8)++[x])
def zvY (v:BitVec 64) (x:PV):PV := .agg (zt v :: (pl b8 (List.replicate 32 0#8)++[x]))
section mtu
variable {v:BitVec 64} {x y:AV} {a b:PV} {es:List (List Bool)} {α k:Nat} {c:Bool}
theorem zyq:AV.p (zt v) :: (List.map AV.p (pl b8 (List.replicate 32 0#8)++[PV.sl true 5 []])).set 32 y=mtU v y:=by
 rw [List.map_append,List.set_append_right _ _ (by simp [pl])];simp [mtU,cl,pl]
theorem zyr:(mtU v x).length=34:=by simp [mtU,cl]
theorem zof:(mtU v x)[33]? = some x:=by
 simp only [mtU,List.getElem?_cons_succ];rw [List.getElem?_append_right (by simp [cl])];simp [cl]
theorem zja:(mtU v x).set 33 y=mtU v y:=by
 simp only [mtU,List.set_cons_succ];rw [List.set_append_right _ _ (by simp [cl])];simp [cl]
theorem zlD:(zt v :: (pl b8 (List.replicate 32 0#8)++[a])).map AV.p=mtU v (.p a):=by simp [mtU,cl,pl]
theorem zAK:zn (mtU v (.p a)) = .p (zvY v a):=by rw [←zlD,zn,zdr];rfl
theorem zAL:zh (.p (zvY v a))=some (mtU v (.p a)):=by show some (List.map AV.p _)=_;rw [zlD]
theorem zys:zn (mtU v (.sl α k 5 (pl epo es))) = .p (mtr ⟨v,es⟩):=by
 have h:pvs? (mtU v (.sl α k 5 (pl epo es)))=some (zhn ⟨v,es⟩):=by
  have h0 : ∀ l:List PV,pvs? (l.map AV.p++[.sl α k 5 (pl epo es)])=some (l++[.sl false 5 (pl epo es)]):=fun l=>by
   induction l with
   | nil=>rfl
   | cons a l ih=>simp only [List.map_cons,List.cons_append,pvs?,ih];rfl
  have:=h0 (zt v :: pl b8 (List.replicate 32 0#8))
  rw [List.map_cons,List.cons_append,zmS] at this
  exact this
 unfold zn
 rw [h];rfl
theorem zAM:(zvY v (.sl c 5 (pl epo es))).weak=mtr ⟨v,es⟩:=by
 show PV.agg (List.map PV.weak1 _)=_
 have h:(pl b8 (List.replicate 32 0#8)).map PV.weak1=pl b8 (List.replicate 32 0#8):=zdW fun _=>rfl
 simp only [List.map_cons,List.map_append,List.map_nil,h];rfl
theorem zyt:(zvY v a).cells.length=34:=by simp [zvY,PV.cells,pl]
end mtu
attribute [go_sem] zyq zyr zof zja zAK zAL zys zAM zyt
section walks
variable {G:Globs}
set_option maxHeartbeats 2000000 in
set_option maxRecDepth 20000 in
theorem zbR (l:By) (hl:l.length≤9223372036854775807) (H:Hp) (R:AV → Hp → Prop) (h:R (.p (.sl false 34 (pl mtr (mts l)))) H):ACall Tryz.prog G 17 [.p (.sl false 1 (pl b8 l))] H R:=by
 obtain⟨n,hn⟩ : ∃ n,n=min l.length 12:=⟨_,rfl⟩
 unfold mts at h
 rw [←hn] at h
 refine ACall.of_run (raw:=[]) Tryz.func17 rfl Tryz.ntmps17 (by simp) fun hbel => ?_
 refine .q ?_;refine .text ?_;simp (disch:=first|exact za|fail) only [go_sem,seval,-List.reduceReplicate]
 refine .q ?_;refine .text ?_;simp (disch:=first|exact za|fail) only [go_sem,seval,-List.reduceReplicate]
 refine .q ?_;refine .own 3 (by simp (disch:=first|exact za|fail) only [go_sem,seval,-List.reduceReplicate];rfl) ?_
 refine .q ?_;refine .text ?_;simp (disch:=first|exact za|fail) only [go_sem,seval,-List.reduceReplicate]
 (repeat refine .zs rfl ?_);refine .cutF [] [(3,.sl H.n n 34 (pl mtr (tab (mt l) n)))] [(H.n,.tail n)] (fun ihJ => ?_) (fun env T J => ?_)
 rotate_left 1
 simp (disch:=first|exact za|fail) only [go_sem,seval,-List.reduceReplicate] at J
 rotate_left 1
 · refine .q ?_;refine .loopF [0] (fun i=>[(3,.sl H.n i 34 (pl mtr (tab (mt l) i))),(4,.p (i64 i))]) (fun i=>[(H.n,.tail i)]) (fun i=>True) (0) (n) (by omega) ?_ (by first | rfl | (simp (disch:=first|exact za|fail) only [go_sem,seval,-List.reduceReplicate]<;>rfl)) ?_ ?_ ?_
   · simp (disch:=first|exact za|fail) only [go_sem,seval,-List.reduceReplicate]<;>(repeat' (first | rfl | refine And.intro ?_ ?_))
   · exact trivial
   intro env T E hQ;simp (disch:=first|exact za|fail) only [go_sem,seval,-List.reduceReplicate] at E
   rotate_left 1
   intro i env T hi0 hi E hQ ihE;simp (disch:=first|exact za|fail) only [go_sem,seval,-List.reduceReplicate] at E
   rotate_left 1
   · by_cases q:n < l.length
     · have d1:decide ((n:Int) < (l.length:Int))=true:=decide_eq_true (by omega)
       have d2:decide ((n:Int) < 12)=false:=decide_eq_false (by omega)
       refine .q ?_;refine .text ?_;simp (disch:=first|exact za|fail) only [go_sem,seval,-List.reduceReplicate,E,zc,zf,d1,d2]
       refine .q ?_;refine .ifF (by simp (disch:=first|exact za|fail) only [go_sem,seval,-List.reduceReplicate]) ?_
       first | (refine ihJ _ _ ?_ ?_) | (refine .z rfl ?_;refine ihJ _ _ ?_ ?_) | (refine .z rfl ?_;refine .z rfl ?_;refine ihJ _ _ ?_ ?_) | (refine .z rfl ?_;refine .z rfl ?_;refine .z rfl ?_;refine ihJ _ _ ?_ ?_)
       · simp (disch:=first|exact za|fail) only [go_sem,seval,-List.reduceReplicate,E,zc,zf]<;>(repeat' (first | rfl | refine And.intro ?_ ?_))
       · first | exact .mk _ rfl | exact .mk [] rfl | (apply Later.mk;simp (disch:=first|exact za|fail) only [go_sem,seval,-List.reduceReplicate,zj,E,zc,zf];exact rfl) | (apply Later.mk;simp (disch:=first|exact za|fail) only [go_sem,seval,-List.reduceReplicate,zj,zC,List.append_assoc,E,zc,zf]<;>(try rfl))
     · have d1:decide ((n:Int) < (l.length:Int))=false:=decide_eq_false (by omega)
       refine .q ?_;refine .text ?_;simp (disch:=first|exact za|fail) only [go_sem,seval,-List.reduceReplicate,E,zc,zf,d1]
       refine .q ?_;refine .ifF (by simp (disch:=first|exact za|fail) only [go_sem,seval,-List.reduceReplicate]) ?_
       first | (refine ihJ _ _ ?_ ?_) | (refine .z rfl ?_;refine ihJ _ _ ?_ ?_) | (refine .z rfl ?_;refine .z rfl ?_;refine ihJ _ _ ?_ ?_) | (refine .z rfl ?_;refine .z rfl ?_;refine .z rfl ?_;refine ihJ _ _ ?_ ?_)
       · simp (disch:=first|exact za|fail) only [go_sem,seval,-List.reduceReplicate,E,zc,zf]<;>(repeat' (first | rfl | refine And.intro ?_ ?_))
       · first | exact .mk _ rfl | exact .mk [] rfl | (apply Later.mk;simp (disch:=first|exact za|fail) only [go_sem,seval,-List.reduceReplicate,zj,E,zc,zf];exact rfl) | (apply Later.mk;simp (disch:=first|exact za|fail) only [go_sem,seval,-List.reduceReplicate,zj,zC,List.append_assoc,E,zc,zf]<;>(try rfl))
   · have d1:decide ((i:Int) < (l.length:Int))=true:=decide_eq_true (by omega)
     have hli:i < l.length:=by omega
     refine .q ?_;refine .text ?_;simp (disch:=first|exact za|fail) only [go_sem,seval,-List.reduceReplicate,E,zc,zf,d1]
     refine .q ?_;refine .ifT (by simp (disch:=first|exact za|fail) only [go_sem,seval,-List.reduceReplicate]) ?_
     refine .q ?_;refine .text ?_;simp (disch:=first|exact za|fail) only [go_sem,seval,-List.reduceReplicate,E,mk5,ac5]
     refine .q ?_;refine .ownC (H.n+1+T.length) 3 (by simp (disch:=first|exact za|fail) only [go_sem,seval,-List.reduceReplicate];rfl) (by rfl) ?_;simp (disch:=first|exact za|fail) only [go_sem,seval,-List.reduceReplicate,List.set_cons_zero,List.set_cons_succ]
     refine .q ?_;refine .text ?_;simp (disch:=first|exact za|fail) only [go_sem,seval,-List.reduceReplicate]
     refine .q ?_;refine .loopE [0,3,4,5] (fun k=>[(6,.p (i64 k))]) (fun k=>[(H.n+1+T.length,.cells [.p (i64 0),.p (i64 0),.p (bo false),.sl (H.n+1+T.length+1) k 3 (pl pnt (tab (zi9 (nth l i)) k)),.p (.sl true 32 [])]),(H.n+1+T.length+1,.tail k)]) (fun k=>True) (0) (4) (by omega) ?_ (by first | rfl | (simp (disch:=first|exact za|fail) only [go_sem,seval,-List.reduceReplicate,E,zei]<;>rfl)) ?_ ?_ ?_
     · simp (disch:=first|exact za|fail) only [go_sem,seval,-List.reduceReplicate,E,zei]<;>(repeat' (first | rfl | refine And.intro ?_ ?_))
     · exact trivial
     intro env K hQ;simp (disch:=first|exact za|fail) only [go_sem,seval,-List.reduceReplicate,E,zei] at K
     rotate_left 1
     intro k env hk0 hk K hQ ihK;simp (disch:=first|exact za|fail) only [go_sem,seval,-List.reduceReplicate,E,zei] at K
     rotate_left 1
     · refine .q ?_;refine .text ?_;simp (disch:=first|exact za|fail) only [go_sem,seval,-List.reduceReplicate,K,zc,zf]
       refine .q ?_;refine .ifF (by simp (disch:=first|exact za|fail) only [go_sem,seval,-List.reduceReplicate]) ?_
       have h1e : ∀ p,[epo p]=pl epo [p]:=fun _=>rfl
       have h1p : ∀ u,PV.agg [.sl false 2 [],.sl false 2 [],bo u]=pnt u:=fun _=>rfl
       have h1q : ∀ u,[pnt u]=pl pnt [u]:=fun _=>rfl
       have hee : ∀ a b:List Bool,pl epo [a]++pl epo [b]=pl epo [a,b]:=fun _ _=>rfl
       have hmt:mt l i=⟨BitVec.ofInt 64 i,[tab (zi9 (nth l i)) 4]++(if nth l i &&& 128#8 != 0#8 then [ [nth l i &&& 64#8 != 0#8] ] else [])⟩:=rfl
       refine .q ?_;refine .text ?_;simp (disch:=first|exact za|fail) only [go_sem,seval,-List.reduceReplicate,E,K,h1e]
       refine .q ?_;refine .text ?_;simp (disch:=first|exact za|fail) only [go_sem,seval,-List.reduceReplicate,K,E]
       cases hb:nth l i &&& 128#8 != 0#8 with
       | true =>
        have hmt2:mtr ⟨BitVec.ofInt 64 i,[tab (zi9 (nth l i)) 4,[nth l i &&& 64#8 != 0#8] ]⟩=mtr (mt l i):=by rw [hmt,hb];rfl
        refine .q ?_;refine .ifT (by simp (disch:=first|exact za|fail) only [go_sem,seval,-List.reduceReplicate,hb]) ?_
        refine .q ?_;refine .ownC (H.n+1+T.length+2) 33 (by simp (disch:=first|exact za|fail) only [go_sem,seval,-List.reduceReplicate,zof,zja];rfl) (by rfl) ?_;simp (disch:=first|exact za|fail) only [go_sem,seval,-List.reduceReplicate,List.set_cons_zero,List.set_cons_succ,zof,zja]
        refine .q ?_;refine .open [12,14] follows (by kernel_rfl) ?_;simp (disch:=first|exact za|fail) only [go_sem,seval,-List.reduceReplicate,E,K,h1p,h1q,h1e,hee]
        refine .q ?_;refine .text ?_;simp (disch:=first|exact za|fail) only [go_sem,seval,-List.reduceReplicate,K,E,hmt2]
        refine .q ?_;refine .text ?_;simp (disch:=first|exact za|fail) only [go_sem,seval,-List.reduceReplicate,K,E]
        first | (refine ihE _ _ ?_ trivial ?_) | (refine .z rfl ?_;refine ihE _ _ ?_ trivial ?_) | (refine .z rfl ?_;refine .z rfl ?_;refine ihE _ _ ?_ trivial ?_) | (refine .z rfl ?_;refine .z rfl ?_;refine .z rfl ?_;refine ihE _ _ ?_ trivial ?_)
        · simp (disch:=first|exact za|fail) only [go_sem,seval,-List.reduceReplicate,K,E,zc,zf,yG]<;>(repeat' (first | rfl | refine And.intro ?_ ?_))
        · first | exact .mk _ rfl | exact .mk [] rfl | (apply Later.mk;simp (disch:=first|exact za|fail) only [go_sem,seval,-List.reduceReplicate,zj,K,E,zc,zf,yG];exact rfl) | (apply Later.mk;simp (disch:=first|exact za|fail) only [go_sem,seval,-List.reduceReplicate,zj,zC,List.append_assoc,K,E,zc,zf,yG]<;>(try rfl))
       | false =>
        have hmt2:mtr ⟨BitVec.ofInt 64 i,[tab (zi9 (nth l i)) 4]⟩=mtr (mt l i):=by rw [hmt,hb];rfl
        refine .q ?_;refine .ifF (by simp (disch:=first|exact za|fail) only [go_sem,seval,-List.reduceReplicate,hb]) ?_
        refine .skip ?_
        refine .q ?_;refine .text ?_;simp (disch:=first|exact za|fail) only [go_sem,seval,-List.reduceReplicate,K,E,hmt2]
        refine .q ?_;refine .text ?_;simp (disch:=first|exact za|fail) only [go_sem,seval,-List.reduceReplicate,K,E]
        first | (refine ihE _ _ ?_ trivial ?_) | (refine .z rfl ?_;refine ihE _ _ ?_ trivial ?_) | (refine .z rfl ?_;refine .z rfl ?_;refine ihE _ _ ?_ trivial ?_) | (refine .z rfl ?_;refine .z rfl ?_;refine .z rfl ?_;refine ihE _ _ ?_ trivial ?_)
        · simp (disch:=first|exact za|fail) only [go_sem,seval,-List.reduceReplicate,K,E,zc,zf,yG]<;>(repeat' (first | rfl | refine And.intro ?_ ?_))
        · first | exact .mk _ rfl | exact .mk [] rfl | (apply Later.mk;simp (disch:=first|exact za|fail) only [go_sem,seval,-List.reduceReplicate,zj,K,E,zc,zf,yG];exact rfl) | (apply Later.mk;simp (disch:=first|exact za|fail) only [go_sem,seval,-List.reduceReplicate,zj,zC,List.append_assoc,K,E,zc,zf,yG]<;>(try rfl))
     · have hst:PV.agg [.sl false 2 [],.sl false 2 [],bo (nth l i >>> k &&& 1#8 == 1#8)]=pnt (zi9 (nth l i) k):=rfl
       refine .q ?_;refine .text ?_;simp (disch:=first|exact za|fail) only [go_sem,seval,-List.reduceReplicate,K,zc,zf]
       refine .q ?_;refine .ifT (by simp (disch:=first|exact za|fail) only [go_sem,seval,-List.reduceReplicate]) ?_
       refine .q ?_;refine .open [12,14] follows (by kernel_rfl) ?_;simp (disch:=first|exact za|fail) only [go_sem,seval,-List.reduceReplicate,K,E,hst]
       refine .q ?_;refine .text ?_;simp (disch:=first|exact za|fail) only [go_sem,seval,-List.reduceReplicate,K]
       first | (refine ihK _ _ ?_ trivial ?_) | (refine .z rfl ?_;refine ihK _ _ ?_ trivial ?_) | (refine .z rfl ?_;refine .z rfl ?_;refine ihK _ _ ?_ trivial ?_) | (refine .z rfl ?_;refine .z rfl ?_;refine .z rfl ?_;refine ihK _ _ ?_ trivial ?_)
       · simp (disch:=first|exact za|fail) only [go_sem,seval,-List.reduceReplicate,K,E,zc,zf,yG]<;>(repeat' (first | rfl | refine And.intro ?_ ?_))
       · first | rfl | (simp (disch:=first|exact za|fail) only [go_sem,seval,-List.reduceReplicate,K,E,zc,zf,yG]<;>(try rfl))
 · refine .q ?_;refine .text ?_;simp (disch:=first|exact za|fail) only [go_sem,seval,-List.reduceReplicate,J,zc,zf]
   refine .q ?_;refine .rt Tryz.func17 (by rw [Tryz.results17]) (hx:=by simp (disch:=first|exact za|fail) only [go_sem,seval,-List.reduceReplicate,J];rfl) (hR := ?_);simp (disch:=first|exact za|fail) only [go_sem,seval,-List.reduceReplicate,J]
   exact h
end walks
end Go.Proofs.YtgflpgcogkdpgaaGreatDoor

/-
  Audits: the laws' fixed examples (plain).
-/
namespace Go.Proofs.YtgflpgcogkdpgaaGreatDoor
open Go Go.AL

theorem zpj {P:Program} {G:Globs} {f:FuncId} {x y:AV} {H:Hp} {R:AV → Hp → Prop} (hxy : ∀ σ w v,RelV σ H w x v → RelV σ H w y v) (h:ACall P G f [y] H R):ACall P G f [x] H R :=
 fun σ w vs hr hvs=>h σ w vs hr ⟨hvs.1,fun i z v h1 h2=>by
  match i with
  | 0=>simp only [List.getElem?_cons_zero,Option.some.injEq] at h1;subst h1;exact hxy _ _ _ (hvs.2 0 x v rfl h2)
  | i+1=>simp at h1⟩
theorem zlE {P:Program} {G:Globs} {f:FuncId} {fl:Bool} {sz:Nat} {H:Hp} {R:AV → Hp → Prop} (h:ACall P G f [.p (.sl fl sz [])] H R):ACall P G f [.p (.s (.slice none 0 0))] H R :=
 zpj (fun _ _ _=>zzQ) h
theorem zAN {w:World} {S:Nat → Nat → Prop} {sz sz':Nat} {v:Value} (h:RelP w S (.sl false sz []) v):RelP w S (.sl false sz' []) v:=by
 cases h with
 | emp _ _ a cap h hc=>exact .emp _ _ a cap h hc
 | sl _ _ _ g off cap f hfl hcap hsz hrd hc=>exact .emp _ _ _ cap (fun e=>by cases e) hcap.2
theorem zAO {w:World} {S:Nat → Nat → Prop} {a c:List PV} {n m sz:Nat} {v:Value} (h:RelP w S (.sl false 1 [.sl false n a,.sl false 0 [],.sl false m c]) v):RelP w S (.sl false 1 [.sl false n a,.sl false sz [],.sl false m c]) v:=by
 cases h with
 | sl _ _ _ g off cap f hfl hcap hsz hrd hc =>
  refine .sl _ _ _ g off cap f (fun e=>by cases e) hcap (fun x hx => ?_) hrd fun k y hk => ?_
  · simp only [List.mem_cons,List.not_mem_nil,or_false] at hx
    rcases hx with rfl | rfl | rfl<;>rfl
  · have e1:flat [PV.sl false n a,.sl false sz [],.sl false m c]=[.sl false n a,.sl false sz [],.sl false m c]:=rfl
    have e2:flat [PV.sl false n a,.sl false 0 [],.sl false m c]=[.sl false n a,.sl false 0 [],.sl false m c]:=rfl
    rw [e1] at hk
    rw [e2] at hc
    match k with
    | 0=>exact hc 0 y hk
    | 1=>simp at hk;subst hk;exact zAN (hc 1 _ rfl)
    | 2=>exact hc 2 y hk
    | k+3=>simp at hk
/-! ### Honest sessions of a sound plan -/
def gd (id:Int) (P:List Msg) (i:Nat):Bool:=small id && small i && fits (nth P i).kind i && holds (nth P i).kind (nth P i).text.length (nth P i).sums.length (nth P i).values.length && !((nth P i).values.any fun x => !zas x) && decide ((zbe (nth P i).kind).getD 0 < 3)
theorem zAP {id:Int} {P:List Msg} : ∀ i,(∀ j,j≤i → gd id P j=true) → ∀ j,j≤i → ser id P j=0:=by
 suffices hs : ∀ i,(∀ j,j≤i → gd id P j=true) → (∀ j,j < i → ser id P j=0) → ser id P i=0 by
  intro i
  induction i with
  | zero =>
   intro h j hj
   obtain rfl:j=0:=(by omega)
   exact hs 0 h fun j hj=>by omega
  | succ i ih =>
   intro h j hj
   have hi:=ih fun j hj=>h j (by omega)
   rcases Nat.lt_or_ge j (i+1) with q | q
   · exact hi j (by omega)
   · obtain rfl:j=i+1:=(by omega)
     exact hs (i+1) h fun j hj=>hi j (by omega)
 intro i h hp
 have hg:=h i (Nat.le_refl _)
 unfold gd at hg
 simp only [Bool.and_eq_true] at hg
 obtain⟨⟨⟨⟨⟨g1,g2⟩,g3⟩,g4⟩,g5⟩,_⟩:=hg
 have hv:valid (mi id P i)=true:=by
  unfold valid
  simp only [Bool.and_eq_true]
  exact⟨⟨⟨⟨g1,g2⟩,g3⟩,g4⟩,g5⟩
 have hst:decide (3≤(yS id P 1 i (i % 2)).state)=false:=by
  cases i with
  | zero=>rfl
  | succ i =>
   have hgi:=h i (by omega)
   unfold gd at hgi
   simp only [Bool.and_eq_true,decide_eq_true_eq] at hgi
   have:(yS id P 1 (i+1) ((i+1) % 2)).state=(zbe (nth P i).kind).getD 0:=rfl
   rw [this]
   exact decide_eq_false (by have:=hgi.2;omega)
 have hse:((yS id P 1 i (i % 2)).state != 0 && !za7 (yS id P 1 i (i % 2)))=false:=by
  by_cases h0:i=0
  · subst h0
    rw [show (yS id P 1 0 (0 % 2)).state=0 from rfl];rfl
  · have hs:za7 (yS id P 1 i (i % 2))=true:=by
     have hstep:(yS id P 1 i (i % 2)).step=i:=zbH i
     have hlast:(yS id P 1 i (i % 2)).last=la id P (i % 2) i:=rfl
     unfold za7
     rw [hstep,hlast]
     have hi2:i % 2=0 ∨ i % 2=1:=by omega
     rcases hi2 with q | q
     · obtain⟨l1,l2⟩:=zi8 i hp 0 (by omega) (by omega)
       rw [q,l2,show ((la id P 0 i).kind != 0)=true by simpa using l1,show ((i:Int) % 2)=0 by omega];rfl
     · by_cases h1:i=1
       · subst h1;rfl
       · obtain⟨l1,l2⟩:=zi8 i hp 1 (by omega) (by omega)
         rw [q,l2,show ((la id P 1 i).kind != 0)=true by simpa using l1,show ((i:Int) % 2)=1 by omega];rfl
    rw [hs];simp
 have hb:zcz (yS id P 1 i (i % 2)) (mi id P i)=false:=by
  unfold zcz
  rw [hst,hse,show (yS id P 1 i (i % 2)).step=i from zbH i,show (mi id P i).kind=(nth P i).kind from rfl,g3];rfl
 unfold ser Go.Proofs.YtgflpgcogkdpgaaGreatDoor.send
 rw [hb,zgP,hv]
 rfl
def xT:Tk:=⟨7,yf,[],[3],[ [⟨5#64,0#64⟩],[],[⟨6#64,0#64⟩] ],0#8⟩
def xP:List Msg:=[pmk 1 yf [] [],pmk 2 [] [] [],pmk 4 [] [] [⟨5#64,0#64⟩],pmk 3 [] [3] [],pmk 4 [] [] [⟨6#64,0#64⟩] ]
theorem zpk:zaG xT=xP:=by
 have h1:pm1 xT (rn xT)=pmk 2 [] [] []:=zlC
 have h2:zaG xT=[pmk 1 (tx0 xT) [] [],pm1 xT (rn xT)]++tab (pv xT) 3:=rfl
 rw [h2,h1]
 have e0:zgI ⟨5#64,0#64⟩=⟨5#64,0#64⟩:=by decide
 have e1:zgI ⟨6#64,0#64⟩=⟨6#64,0#64⟩:=by decide
 have p0:pv xT 0=pmk 4 [] [] [zgI ⟨5#64,0#64⟩]:=rfl
 have p1:pv xT 1=pmk 3 [] [3] []:=rfl
 have p2:pv xT 2=pmk 4 [] [] [zgI ⟨6#64,0#64⟩]:=rfl
 rw [e0] at p0
 rw [e1] at p2
 show _++[pv xT 0,pv xT 1,pv xT 2]=_
 rw [p0,p1,p2]
 rfl
theorem zCx:tid xT=7:=by decide
theorem zCy : ∀ j,j≤4 → gd 7 xP j=true:=by decide
theorem zog : ∀ j,j < 5 → ser 7 xP j=0:=fun j hj=>zAP 4 zCy j (by omega)
theorem zyZ:PlOk xP:=by
 rw [←zpk]
 exact zpi fun s hs=>by
  rw [List.mem_singleton.1 hs]
  exact⟨by decide,by decide⟩
def xL:List Msg:=zgQ 7 xP 5
theorem zAQ:aud xL=0:=zvQ zyZ ⟨by decide,by decide⟩ zog
theorem zeD:xL.length=5:=zgR
theorem zgT {j:Nat} (hj:j < 5):(enc (nth xL j)).length=53+(nth xP j).text.length+8*(nth xP j).sums.length+16*(nth xP j).values.length:=by
 rw [xL,zah hj,zc3 (zdn (zog j hj)).2]
 rfl
theorem zvZ:zyf xL=usV 310 5 5:=by
 unfold zyf
 have hb:uB xL 5=310:=by
  simp only [uB]
  rw [zgT (by decide),zgT (by decide),zgT (by decide),zgT (by decide),zgT (by decide)]
  rfl
 have hw:uW xL 5=5:=by
  simp only [uW,xL,zah (show 0 < 5 by decide),zah (show 1 < 5 by decide),zah (show 2 < 5 by decide),zah (show 3 < 5 by decide),zah (show 4 < 5 by decide)]
  rfl
 rw [zeD,hb,hw];rfl
theorem zpl {m:Msg} {l:List Msg} (h0:0≤m.session∧m.session≤2147483647) (hf:fits m.kind 0=false):aud (m :: l)=290:=by
 have hs:(send (zez m.session 2147483647) m).2.2=290:=by
  have hb:zcz (zez m.session 2147483647) m=true:=by
   unfold zcz
   rw [show (zez m.session 2147483647).step=0 from rfl,hf];simp
  unfold Go.Proofs.YtgflpgcogkdpgaaGreatDoor.send
  rw [hb];rfl
 have he:er (zbm m.session) (m :: l) 0=290:=by
  unfold er zfe
  show (if (send (zez m.session 2147483647) m).2.2≠0 then _ else _:(Nat → Ses) × Int).2=290
  rw [if_pos (by rw [hs];decide)]
  exact hs
 unfold aud
 rw [if_neg (by simp),show (nth (m :: l) 0)=m from rfl,if_neg (by omega),zeg (i:=0) rfl (by rw [he];decide) _ (by simp),he]
theorem zyu:aud (xL.drop 1)=290:=by
 have:xL.drop 1=mi 7 xP 1 :: [mi 7 xP 2,mi 7 xP 3,mi 7 xP 4]:=rfl
 rw [this]
 exact zpl ⟨by show (0:Int)≤7;decide,by show (7:Int)≤_;decide⟩ rfl
theorem zv0:aud [pmk 2 [] [] [] ]=290:=zpl ⟨by decide,by decide⟩ rfl
theorem zyv:aud [{ pmk 0 [] [] [] with session := -1 }]=1:=rfl
theorem zyw:aud []=0:=rfl
end Go.Proofs.YtgflpgcogkdpgaaGreatDoor

/-
  Audits: the laws' fixed examples of meters,certificates and bounds (plain).
-/
namespace Go.Proofs.YtgflpgcogkdpgaaGreatDoor
open Go Go.AL

def zv1 (ms:List Mt) (i:Nat):Bool:=(List.range (nth ms i).eps.length).any fun e=>(List.range (nth (nth ms i).eps e).length).any fun k => !nth (nth (nth ms i).eps e) k && (List.range i).any fun j=>decide (e < (nth ms j).eps.length) && (decide (k < (nth (nth ms j).eps e).length) && nth (nth (nth ms j).eps e) k)
theorem zgU {ms:List Mt} {i:Nat}:zv1 ms i=true ↔ zej ms i:=by
 unfold zv1 zej zho zbZ
 simp only [List.any_eq_true,List.mem_range,Bool.and_eq_true,Bool.not_eq_true',decide_eq_true_eq]
 constructor
 · rintro ⟨e,he,k,hk,h1,j,hj,h2⟩;exact⟨e,k,he,hk,h1,j,hj,h2⟩
 · rintro ⟨e,k,he,hk,h1,j,hj,h2⟩;exact⟨e,he,k,hk,h1,j,hj,h2⟩
theorem SpR.yes {ms:List Mt} {i:Nat} (h1:i < ms.length) (h2:zv1 ms i=true) (h3 : ∀ j,j < i → zv1 ms j=false):SpR ms i true :=
 .inl ⟨rfl,h1,zgU.1 h2,fun j hj h=>by have:=zgU.2 h;rw [h3 j hj] at this;cases this⟩
theorem SpR.no {ms:List Mt} (h3 : ∀ j,j < ms.length → zv1 ms j=false):SpR ms 0 false :=
 .inr ⟨rfl,rfl,fun j hj h=>by have:=zgU.2 h;rw [h3 j hj] at this;cases this⟩
theorem zDf:SpR (mts [1#8,0#8]) 1 true := .yes (by decide) (by decide) (by decide)
theorem zDg:SpR (mts [0#8,1#8,3#8,7#8]) 0 false := .no (by decide)
theorem zDh:SpR (mts [2#8,3#8,3#8,1#8]) 3 true := .yes (by decide) (by decide) (by decide)
theorem zgV {l:By}:Sm (mts l):=by
 have h : ∀ i,i < (mts l).length → nth (mts l) i=mt l i:=fun i hi=>by
  unfold mts at hi ⊢
  rw [zfn (by simpa [zco] using hi)]
 refine⟨by unfold mts;rw [zco];omega,fun i hi => ?_,fun i hi e he => ?_⟩
 · rw [h i hi];unfold mt;split<;>simp
 · rw [h i hi] at he ⊢
   unfold mt at he ⊢
   dsimp only at he ⊢
   match e with
   | 0=>rw [show nth ([tab (zi9 (nth l i)) 4]++(if nth l i &&& 128#8 != 0#8 then [ [nth l i &&& 64#8 != 0#8] ] else [])) 0=tab (zi9 (nth l i)) 4 from rfl,zco];omega
   | e+1 =>
    by_cases c:(nth l i &&& 128#8 != 0#8)=true
    · rw [if_pos c] at he ⊢
      have:e=0:=by simp at he;omega
      subst this
      rw [show nth ([tab (zi9 (nth l i)) 4]++[ [nth l i &&& 64#8 != 0#8] ]) (0+1)=[nth l i &&& 64#8 != 0#8] from rfl];simp
    · rw [if_neg c] at he;simp at he
/-! ### Certificates -/
def crx (q:By) (g:Int) (s:List Int) (mid rest:List PV) (hm:mid.length=4) (hl:rest.length=10):Crt:=⟨q,g,List.replicate 32 0#8,mid,s,rest,rfl,hm,hl⟩
section cr
variable {mid rest:List PV} {hm:mid.length=4} {hl:rest.length=10}
theorem zoh {q:By} {g:Int} {s:List Int} (h1:okI g) (h2:q.length≤100) (h3:s.length≤100):CrtOk (crx q g s mid rest hm hl):=⟨h1,Nat.le_trans h2 (by decide),Nat.le_trans h3 (by decide)⟩
theorem zAR:smB []=true:=zpe fun a b ha=>absurd ha (by simp)
theorem zAS:smB [crx yf 0 [3] mid rest hm hl,crx yf 0 [3] mid rest hm hl,crx yf 1 [4] mid rest hm hl]=true:=zpe fun a b ha hb e=>by
 have k0:nth [crx yf 0 [3] mid rest hm hl,crx yf 0 [3] mid rest hm hl,crx yf 1 [4] mid rest hm hl] 0=crx yf 0 [3] mid rest hm hl:=rfl
 have k1:nth [crx yf 0 [3] mid rest hm hl,crx yf 0 [3] mid rest hm hl,crx yf 1 [4] mid rest hm hl] 1=crx yf 0 [3] mid rest hm hl:=rfl
 have k2:nth [crx yf 0 [3] mid rest hm hl,crx yf 0 [3] mid rest hm hl,crx yf 1 [4] mid rest hm hl] 2=crx yf 1 [4] mid rest hm hl:=rfl
 have c : ∀ x:Nat,x < 3 → x=0 ∨ x=1 ∨ x=2:=by omega
 have hne:(crx yf 0 [3] mid rest hm hl).key≠(crx yf 1 [4] mid rest hm hl).key:=fun e=>by
  have:=congrArg (fun q:Qn=>q.2.1) e
  simp [Crt.key,crx] at this
 rcases c a ha with rfl | rfl | rfl<;>rcases c b hb with rfl | rfl | rfl<;>simp only [k0,k1,k2] at e ⊢
 · exact absurd e hne
 · exact absurd e hne
 · exact absurd e.symm hne
 · exact absurd e.symm hne
theorem zAT:smB [crx yf 0 [3] mid rest hm hl,crx yf 1 [4] mid rest hm hl,crx yf 0 [4] mid rest hm hl]=false:=zvL fun h=>by
 have:=h 0 2 (by simp) (by simp) rfl
 have e0:(nth [crx yf 0 [3] mid rest hm hl,crx yf 1 [4] mid rest hm hl,crx yf 0 [4] mid rest hm hl] 0).sums=[3]:=rfl
 have e2:(nth [crx yf 0 [3] mid rest hm hl,crx yf 1 [4] mid rest hm hl,crx yf 0 [4] mid rest hm hl] 2).sums=[4]:=rfl
 rw [e0,e2] at this
 simp at this
end cr
/-! ### Bounds -/
def zrH (n:Nat):Circ:=⟨n,[ [⟨0,0,0#64,1#64,0#64,0#64⟩] ],1⟩
theorem zjb {n:Nat} (h:n≤1000):Cn (zrH n) n:=⟨rfl,h,by show 1≤1000;decide,fun k hk=>by
 have:k=0:=by simp [zrH] at hk;omega
 subst this;show 1≤1000;decide⟩
theorem zv2:zeV (zrH 1) 1 0=2:=by decide
theorem zCz:zvE 310 5 5 2=true:=by decide
theorem zCA:zvE 0 1000 0 2=false:=by decide
theorem zCB:zvE (-1) 0 0 2=false:=by decide
end Go.Proofs.YtgflpgcogkdpgaaGreatDoor

/-
  Audits: the fixed examples of the laws.
-/
namespace Go.Proofs.YtgflpgcogkdpgaaGreatDoor
open Go Go.AL

def tk0:PV := .agg [i64 7,str (bytesOf yf),.sl false 1 [],.sl false 1 (pl i64 [3]),.sl false 1 [.sl false 2 (pl ext [⟨5#64,0#64⟩]),.sl false 0 [],.sl false 2 (pl ext [⟨6#64,0#64⟩])],b8 0]
theorem zCC {σ:Gh} {H:Hp} {w:World} {v:Value} (h:RelV σ H w (.p tk0) v):RelV σ H w (.p (tkv xT)) v:=by
 cases h with
 | p h =>
  cases h with
  | agg xs vs hl h1 h =>
   refine .p (.agg _ vs hl h1 fun i x v hx hv => ?_)
   match i with
   | 0=>exact h 0 x v hx hv
   | 1=>exact h 1 x v hx hv
   | 2=>exact h 2 x v hx hv
   | 3=>exact h 3 x v hx hv
   | 4 =>
    have:=h 4 _ v rfl hv
    obtain rfl:=Option.some.inj hx
    exact zAO this
   | 5=>exact h 5 x v hx hv
   | i+6=>simp at hx
/-! ### Certificates as they are written down -/
def cTl (S:PV):List PV:=pl b8 (List.replicate 32 0#8)++[i64 0,i64 0,i64 0,i64 0,S,PV.sl true 1 [],PV.sl true 6 [],PV.sl true 6 [],PV.sl true 1 [],zt 0#64,zt 0#64,PV.sl true 2 [],PV.sl true 2 [],PV.sl true 1 [],PV.sl true 32 [] ]
def cP (q:By) (k:Int) (S:PV):PV := .agg (str (bytesOf q) :: i64 k :: cTl S)
def cC (q:By) (k:Int) (S:PV):List AV:=(str (bytesOf q) :: i64 k :: cTl S).map .p
def zDi:List PV:=[i64 0,i64 0,i64 0,i64 0]
def zCD:List PV:=[PV.sl false 1 [],PV.sl false 6 [],PV.sl false 6 [],PV.sl false 1 [],zt 0#64,zt 0#64,PV.sl false 2 [],PV.sl false 2 [],PV.sl false 1 [],PV.sl false 32 [] ]
def cX (q:By) (k:Int) (s:List Int):Crt:=crx q k s zDi zCD rfl rfl
section cp
variable {q q':By} {k k':Int} {S S':PV} {s:List Int}
theorem zpm:(cTl S).length=47:=by simp [cTl,pl]
theorem zAU:(cC q k S).length=49:=by simp [cC,zpm]
theorem zCE:(cP q k S).cells.length=49:=by simp [cP,PV.cells,zpm]
theorem zCF:zh (.p (cP q k S))=some (cC q k S):=rfl
theorem zCG:zn (cC q k S) = .p (cP q k S):=by unfold zn cC;rw [zdr];rfl
theorem zDj:AV.p (str ByteArray.empty) :: AV.p (i64 0) :: List.map AV.p (pl b8 (List.replicate 32 0#8)++[i64 0,i64 0,i64 0,i64 0,PV.sl true 1 [],PV.sl true 1 [],PV.sl true 6 [],PV.sl true 6 [],PV.sl true 1 [],zt 0#64,zt 0#64,PV.sl true 2 [],PV.sl true 2 [],PV.sl true 1 [],PV.sl true 32 [] ])=cC [] 0 (.sl true 1 []):=rfl
theorem zCH:(cC q k S).set 0 (.p (str (bytesOf q')))=cC q' k S:=rfl
theorem zCI:(cC q k S).set 1 (.p (i64 k'))=cC q k' S:=rfl
theorem zAV:(cC q k S).set 38 (.p S')=cC q k S':=rfl
theorem zAW {b:Bool}:(cP q k (.sl b 1 (pl i64 s))).weak=crt (cX q k s):=by
 show PV.agg (List.map PV.weak1 (_ :: _ :: (pl b8 (List.replicate 32 0#8)++_)))=_
 simp only [List.map_cons,List.map_append,List.map_nil]
 rw [zdW fun _=>rfl]
 rfl
end cp
attribute [go_sem] zCE zCF zAU zCG zDj zCH zCI zAV
theorem zDk:ser 7 xP 5≠0:=by
 have hb:zcz (yS 7 xP 1 5 (5 % 2)) (mi 7 xP 5)=true:=by
  unfold zcz
  rw [show (yS 7 xP 1 5 (5 % 2)).step=5 from zbH 5,show fits (mi 7 xP 5).kind 5=false from rfl];simp
 unfold ser Go.Proofs.YtgflpgcogkdpgaaGreatDoor.send
 rw [hb];exact (by decide:(290:Int)≠0)
def mNeg:PV:=mV 0 (-1) 0 [] (List.replicate 32 0#8) (.sl true 1 []) (.sl true 2 [])
theorem zyx:mNeg.cells.length=38:=by simp [mNeg,mV,PV.cells,pl]
theorem zAX:mNeg.weak=msg { pmk 0 [] [] [] with session := -1 }:=zx0 (su:=[]) (va:=[]) (by simp) rfl rfl
theorem zAY:(pmk 2 [] [] []).Ok:=⟨⟨by decide,by decide⟩,⟨by decide,by decide⟩,⟨by decide,by decide⟩,by decide,by decide,by decide⟩
theorem nth_drop {α:Type} [Inhabited α] {l:List α} {n i:Nat}:nth (l.drop n) i=nth l (n+i):=by simp [nth]
theorem ok3 {a b c:Crt} (ha:CrtOk a) (hb:CrtOk b) (hc:CrtOk c) : ∀ i,i < [a,b,c].length → CrtOk (nth [a,b,c] i):=fun i hi=>by
 match i with
 | 0=>exact ha
 | 1=>exact hb
 | 2=>exact hc
 | i+3=>exact absurd hi (by simp)
section walks
variable {G:Globs} {r1 r2:Nat} {m1:List (Int × Rule)} {m2:List (Int × Int)}
theorem zem {ms:List Mt} (hs:Sm ms) {i:Nat} {b:Bool} (hu:SpR ms i b) (H:Hp) (R:AV → Hp → Prop) (h:R (.tup [.p (i64 (i:Nat)),.p (bo b)]) H):ACall Tryz.prog G 18 [.p (.sl false 34 (pl mtr ms))] H R :=
 zn8 ms hs H R fun i' b' h'=>by
  obtain⟨rfl,rfl⟩:=SpR.uniq h' hu
  exact h
set_option maxHeartbeats 4000000 in
set_option maxRecDepth 20000 in
theorem zlF (g:GR G r1 r2 m1 m2) (H:Hp) (R:AV → Hp → Prop) (h:R (.p (bo true)) H):ACall Tryz.prog G 9 [] H R:=by
 refine ACall.of_run (raw:=[]) Tryz.func9 rfl Tryz.ntmps9 (by simp) fun hbel => ?_
 have cn:zV (Value.slice none 0 0) = .p (.sl true 0 []):=rfl
 have hM : ∀ R:AV → Hp → Prop,R (.p (.sl false 38 (pl msg xL))) H → ACall Tryz.prog G 10 [.p tk0] H R:=fun R h=>zpj (fun σ w v=>zCC) (zhr xT ⟨by decide,by decide⟩ (by decide) (by decide) (by decide) (by decide) (fun i hi=>by
  match i with
  | 0=>decide
  | 1=>decide
  | 2=>decide
  | i+3=>exact absurd hi (by simp [xT])) (fun s hs=>by
   rw [List.mem_singleton.1 hs];exact⟨by decide,by decide⟩) H R fun n _ h1 h2=>by
  rw [zCx,zpk] at h1 h2 ⊢
  have hn:n=5:=by
   rcases h2 with e | e
   · exact e
   · rcases Nat.lt_or_ge n 5 with q | q
     · exact absurd (zog n q) e
     · rcases Nat.lt_or_ge 5 n with q2 | q2
       · exact absurd (h1 5 q2) zDk
       · exact Nat.le_antisymm q2 q
  rw [hn];exact h)
 refine .q ?_;refine .text ?_;simp (disch:=first|exact za|fail) only [go_sem,seval,-List.reduceReplicate]
 refine .q ?_;refine .text ?_;simp (disch:=first|exact za|fail) only [go_sem,seval,-List.reduceReplicate,cn,zzP]
 refine CallK.of (fun R h=>hM R h) ?_;simp (disch:=first|exact za|fail) only [go_sem,seval,-List.reduceReplicate,cn]
 have d5:(((xL.length:Nat):Int) != 5)=false:=by rw [zeD];rfl
 have okL : ∀ i,i < xL.length → (nth xL i).Ok:=fun i hi=>by
  rw [xL,zah (by rwa [zeD] at hi)]
  exact zvP zyZ ⟨by decide,by decide⟩ (by rw [zeD] at hi;omega)
 have lnL:xL.length≤1000:=by rw [zeD];decide
 refine .q ?_;refine .text ?_;simp (disch:=first|exact za|fail) only [go_sem,seval,-List.reduceReplicate]
 refine .q ?_;refine .ifF (by simp (disch:=first|exact za|fail) only [go_sem,seval,-List.reduceReplicate,d5]) ?_
 refine .skip ?_
 refine .q ?_;refine .text ?_;simp (disch:=first|exact za|fail) only [go_sem,seval,-List.reduceReplicate]
 refine CallK.of (fun R h=>zlt g xL lnL okL _ R h) ?_;simp (disch:=first|exact za|fail) only [go_sem,seval,-List.reduceReplicate,zvZ]
 refine .q ?_;refine .text ?_;simp (disch:=first|exact za|fail) only [go_sem,seval,-List.reduceReplicate]
 refine CallK.of (fun R h=>zbR [1#8,0#8] (by decide) _ R h) ?_;simp (disch:=first|exact za|fail) only [go_sem,seval,-List.reduceReplicate]
 refine CallK.of (fun R h=>zem zgV zDf _ R h) ?_;simp (disch:=first|exact za|fail) only [go_sem,seval,-List.reduceReplicate]
 refine .q ?_;refine .text ?_;simp (disch:=first|exact za|fail) only [go_sem,seval,-List.reduceReplicate]
 refine CallK.of (fun R h=>zbR [0#8,1#8,3#8,7#8] (by decide) _ R h) ?_;simp (disch:=first|exact za|fail) only [go_sem,seval,-List.reduceReplicate]
 refine CallK.of (fun R h=>zem zgV zDg _ R h) ?_;simp (disch:=first|exact za|fail) only [go_sem,seval,-List.reduceReplicate]
 refine .q ?_;refine .text ?_;simp (disch:=first|exact za|fail) only [go_sem,seval,-List.reduceReplicate]
 refine CallK.of (fun R h=>zbR [2#8,3#8,3#8,1#8] (by decide) _ R h) ?_;simp (disch:=first|exact za|fail) only [go_sem,seval,-List.reduceReplicate]
 refine CallK.of (fun R h=>zem zgV zDh _ R h) ?_;simp (disch:=first|exact za|fail) only [go_sem,seval,-List.reduceReplicate]
 refine .q ?_;refine .text ?_;simp (disch:=first|exact za|fail) only [go_sem,seval,-List.reduceReplicate]
 refine .q ?_;refine .text ?_;simp (disch:=first|exact za|fail) only [go_sem,seval,-List.reduceReplicate]
 refine .q ?_;refine .text ?_;simp (disch:=first|exact za|fail) only [go_sem,seval,-List.reduceReplicate]
 refine .q ?_;refine .text ?_;simp (disch:=first|exact za|fail) only [go_sem,seval,-List.reduceReplicate]
 simp only [List.append_eq,List.cons_append,List.nil_append]
 refine .q ?_;refine .text ?_;simp (disch:=first|exact za|fail) only [go_sem,seval,-List.reduceReplicate]
 refine CallK.of (fun R h=>zaD g xL lnL okL _ R h) ?_;simp (disch:=first|exact za|fail) only [go_sem,seval,-List.reduceReplicate,zAQ]
 refine CallK.of (fun R h=>zlE (fl:=false) (sz:=38) (zaD g [] (by decide) (fun i hi=>absurd hi (by simp)) _ R h)) ?_;simp (disch:=first|exact za|fail) only [go_sem,seval,-List.reduceReplicate,zyw]
 have hN:zn (mZ.set 1 (.p (i64 (-1)))) = .p mNeg:=zi2
 refine CallK.of (fun R h=>zaD g [pmk 2 [] [] [] ] (by simp) (fun i hi=>by
  obtain rfl:i=0:=(by simp at hi;exact hi)
  exact zAY) _ R h) ?_;simp (disch:=first|exact za|fail) only [go_sem,seval,-List.reduceReplicate,zv0,hN,zyx,zAX]
 refine CallK.of (fun R h=>zaD g [{ pmk 0 [] [] [] with session := -1 }] (by simp) (fun i hi=>by
  obtain rfl:i=0:=(by simp at hi;exact hi)
  exact⟨⟨by decide,by decide⟩,⟨by decide,by decide⟩,⟨by decide,by decide⟩,by decide,by decide,by decide⟩) _ R h) ?_;simp (disch:=first|exact za|fail) only [go_sem,seval,-List.reduceReplicate,zyv,zeD]
 have okT : ∀ i,i < (xL.drop 1).length → (nth (xL.drop 1) i).Ok:=fun i hi=>by
  rw [nth_drop]
  exact okL _ (by rw [List.length_drop] at hi;omega)
 have hE:zr Tryz.prog .eql 29 (.p (usV 310 5 5)) (.p (usV 310 5 5))=some (.p (bo true)):=(zz1 ⟨by decide,by decide⟩ ⟨by decide,by decide⟩ ⟨by decide,by decide⟩).1
 have k1:(i64 3).weak=i64 3:=rfl
 have kA:(cP [99#8,111#8,117#8,110#8,116#8] 0 (PV.sl true 1 [i64 3])).weak=crt (cX yf 0 [3]):=zAW (s:=[3])
 have kB:(cP [99#8,111#8,117#8,110#8,116#8] 0 (PV.sl true 1 [i64 4])).weak=crt (cX yf 0 [4]):=zAW (s:=[4])
 have kC:(cP [99#8,111#8,117#8,110#8,116#8] 1 (PV.sl true 1 [i64 4])).weak=crt (cX yf 1 [4]):=zAW (s:=[4])
 have s1:smB [cX yf 0 [3],cX yf 0 [3],cX yf 1 [4] ]=true:=zAS
 have s2:smB [cX yf 0 [3],cX yf 1 [4],cX yf 0 [4] ]=false:=zAT
 have o1:CrtOk (cX yf 0 [3]):=zoh ⟨by decide,by decide⟩ (by decide) (by decide)
 have o2:CrtOk (cX yf 0 [4]):=zoh ⟨by decide,by decide⟩ (by decide) (by decide)
 have o3:CrtOk (cX yf 1 [4]):=zoh ⟨by decide,by decide⟩ (by decide) (by decide)
 refine CallK.of (fun R h=>zaD g (xL.drop 1) (by rw [List.length_drop];omega) okT _ R h) ?_;simp (disch:=first|exact za|fail) only [go_sem,seval,-List.reduceReplicate,zyu,hE,kA,kB,kC]
 refine CallK.of (fun R h=>zcq [cX yf 0 [3],cX yf 0 [3],cX yf 1 [4] ] (by simp) (ok3 o1 o1 o3) _ R h) ?_;simp (disch:=first|exact za|fail) only [go_sem,seval,-List.reduceReplicate,s1,hE,kA,kB,kC]
 refine CallK.of (fun R h=>zcq [cX yf 0 [3],cX yf 1 [4],cX yf 0 [4] ] (by simp) (ok3 o1 o3 o2) _ R h) ?_;simp (disch:=first|exact za|fail) only [go_sem,seval,-List.reduceReplicate,s2,hE,kA,kB,kC]
 refine CallK.of (fun R h=>zlE (fl:=false) (sz:=49) (zcq [] (by decide) (fun i hi=>absurd hi (by simp)) _ R h)) ?_;simp (disch:=first|exact za|fail) only [go_sem,seval,-List.reduceReplicate,zAR]
 refine CallK.of (fun R h=>zc8 310 5 5 (zrH 1) 1 (zjb (by decide)) 0 ⟨by decide,by decide⟩ _ R h) ?_;simp (disch:=first|exact za|fail) only [go_sem,seval,-List.reduceReplicate,zv2,zCz]
 refine CallK.of (fun R h=>zc8 0 1000 0 (zrH 1) 1 (zjb (by decide)) 0 ⟨by decide,by decide⟩ _ R h) ?_;simp (disch:=first|exact za|fail) only [go_sem,seval,-List.reduceReplicate,zv2,zCA]
 refine CallK.of (fun R h=>zc8 (-1) 0 0 (zrH 1) 1 (zjb (by decide)) 0 ⟨by decide,by decide⟩ _ R h) ?_;simp (disch:=first|exact za|fail) only [go_sem,seval,-List.reduceReplicate,zv2,zCB]
 refine .q ?_;refine .rt Tryz.func9 (by rw [Tryz.results9]) (hR := ?_);simp (disch:=first|exact za|fail) only [go_sem,seval,-List.reduceReplicate]
 exact h
end walks
end Go.Proofs.YtgflpgcogkdpgaaGreatDoor

/-
  Audits: the law of states and certificates,walked.
-/
namespace Go.Proofs.YtgflpgcogkdpgaaGreatDoor
open Go Go.AL

theorem SpR.ex (ms:List Mt) : ∃ i b,SpR ms i b:=by
 by_cases h : ∃ i,i < ms.length∧zej ms i
 · suffices hs : ∀ n,(∀ j,j < n → ¬zej ms j) ∨ ∃ i,i < n∧zej ms i ∧ ∀ j,j < i → ¬zej ms j by
    obtain⟨i,hi,hv⟩:=h
    rcases hs ms.length with q | ⟨j,h1,h2,h3⟩
    · exact absurd hv (q i hi)
    · exact⟨j,true,.inl ⟨rfl,h1,h2,h3⟩⟩
   intro n
   induction n with
   | zero=>exact .inl fun j hj=>absurd hj (by omega)
   | succ n ih =>
    rcases ih with q | ⟨i,h1,h2,h3⟩
    · by_cases hn:zej ms n
      · exact .inr ⟨n,by omega,hn,q⟩
      · refine .inl fun j hj => ?_
        rcases Nat.lt_or_ge j n with c | c
        · exact q j c
        · obtain rfl:j=n:=by omega
          exact hn
    · exact .inr ⟨i,by omega,h2,h3⟩
 · exact⟨0,false,.inr ⟨rfl,rfl,fun j hj hv=>h ⟨j,hj,hv⟩⟩⟩
theorem zyy {c:Crt}:(zhp c)[38]? = some (.sl false 1 (pl i64 c.sums)):=by
 have:=zvK (c:=c)
 unfold crc at this
 rw [List.getElem?_map] at this
 cases h:(zhp c)[38]? with
 | none=>rw [h] at this;cases this
 | some x=>rw [h] at this;simp at this;rw [this]
section walks
variable {G:Globs} {r1 r2:Nat} {m1:List (Int × Rule)} {m2:List (Int × Int)}
theorem zoi {ms:List Mt} (hs:Sm ms) {i:Nat} {b:Bool} (hu:SpR ms i b) (H:Hp) (R:AV → Hp → Prop) (h:R (.tup [.p (i64 (i:Nat)),.p (bo b)]) H):ACall Tryz.prog G 19 [.p (.sl false 34 (pl mtr ms))] H R :=
 zi6 ms hs H R fun i' b' h'=>by
  obtain⟨rfl,rfl⟩:=SpR.uniq h' hu
  exact h
set_option maxHeartbeats 2000000 in
set_option maxRecDepth 20000 in
theorem zlG (g:GR G r1 r2 m1 m2) (l:By) (hl:l.length≤9223372036854775807) (cs:List Crt) (hcl:cs.length≤9223372036854775807) (hc : ∀ i,i < cs.length → CrtOk (nth cs i)) (H:Hp) (R:AV → Hp → Prop) (h:R (.p (bo true)) H):ACall Tryz.prog G 4 [.p (.sl false 1 (pl b8 l)),.p (.sl false 49 (pl crt cs))] H R:=by
 obtain⟨i0,b0,hu⟩:=SpR.ex (mts l)
 obtain⟨n,hn⟩ : ∃ n,n=min cs.length 8:=⟨_,rfl⟩
 have hmn:((min (cs.length:Int) 8)).toNat=n:=by omega
 have hfl:(cs.take n).length=n:=by rw [List.length_take];omega
 have hfc : ∀ i,i < (cs.take n).length → CrtOk (nth (cs.take n) i):=fun i hi=>by
  rw [show nth (cs.take n) i=nth cs i by simp [nth,List.getElem?_take,hfl ▸ hi]]
  exact hc i (by omega)
 refine ACall.of_run (raw:=[]) Tryz.func4 rfl Tryz.ntmps4 (by simp) fun hbel => ?_
 refine .q ?_;refine .text ?_;simp (disch:=first|exact za|fail) only [go_sem,seval,-List.reduceReplicate]
 refine .q ?_;refine .text ?_;simp (disch:=first|exact za|fail) only [go_sem,seval,-List.reduceReplicate]
 refine CallK.of (fun R h=>zlF g _ R h) ?_;simp (disch:=first|exact za|fail) only [go_sem,seval,-List.reduceReplicate]
 refine .q ?_;refine .text ?_;simp (disch:=first|exact za|fail) only [go_sem,seval,-List.reduceReplicate]
 refine CallK.of (fun R h=>zbR l hl _ R h) ?_;simp (disch:=first|exact za|fail) only [go_sem,seval,-List.reduceReplicate]
 refine .q ?_;refine .text ?_;simp (disch:=first|exact za|fail) only [go_sem,seval,-List.reduceReplicate]
 refine CallK.of (fun R h=>zem zgV hu _ R h) ?_;simp (disch:=first|exact za|fail) only [go_sem,seval,-List.reduceReplicate]
 refine .q ?_;refine .text ?_;simp (disch:=first|exact za|fail) only [go_sem,seval,-List.reduceReplicate]
 refine CallK.of (fun R h=>zoi zgV hu _ R h) ?_;simp (disch:=first|exact za|fail) only [go_sem,seval,-List.reduceReplicate]
 refine .q ?_;refine .text ?_;simp (disch:=first|exact za|fail) only [go_sem,seval,-List.reduceReplicate,hmn]
 generalize cs.take n=fs at hfl hfc ⊢
 refine .q ?_;refine .text ?_;simp (disch:=first|exact za|fail) only [go_sem,seval,-List.reduceReplicate]
 refine .q ?_;first | refine .loopF0 [5,7,8,9,10,11] (fun i=>[(12,.p (i64 i))]) (fun i=>True) (0) (fs.length) (by omega) ?_ ?_ ?_ ?_ | refine .loopF [5,7,8,9,10,11] (fun i=>[(12,.p (i64 i))]) (fun _=>[]) (fun i=>True) (0) (fs.length) (by omega) ?_ (by rfl) ?_ ?_ ?_
 · simp (disch:=first|exact za|fail) only [go_sem,seval,-List.reduceReplicate]<;>(repeat' (first | rfl | refine And.intro ?_ ?_))
 · exact trivial
 intro env T E hQ;simp (disch:=first|exact za|fail) only [go_sem,seval,-List.reduceReplicate] at E
 rotate_left 1
 intro i env T hi0 hi E hQ ihE;simp (disch:=first|exact za|fail) only [go_sem,seval,-List.reduceReplicate] at E
 rotate_left 1
 · refine .q ?_;refine .text ?_;simp (disch:=first|exact za|fail) only [go_sem,seval,-List.reduceReplicate,E]
   refine .q ?_;refine .ifF (by simp (disch:=first|exact za|fail) only [go_sem,seval,-List.reduceReplicate]) ?_
   refine .q ?_;refine .text ?_;simp (disch:=first|exact za|fail) only [go_sem,seval,-List.reduceReplicate,E,beq_self_eq_true]
   refine CallK.of (fun R h=>zcq fs (by omega) hfc _ R h) ?_;simp (disch:=first|exact za|fail) only [go_sem,seval,-List.reduceReplicate,E,beq_self_eq_true]
   refine CallK.of (fun R h=>zlw fs (by omega) hfc _ R h) ?_;simp (disch:=first|exact za|fail) only [go_sem,seval,-List.reduceReplicate,E,beq_self_eq_true]
   refine .q ?_;refine .rt Tryz.func4 (by rw [Tryz.results4]) (hx:=by simp (disch:=first|exact za|fail) only [go_sem,seval,-List.reduceReplicate,E];rfl) (hR := ?_);simp (disch:=first|exact za|fail) only [go_sem,seval,-List.reduceReplicate,E]
   exact h
 · refine .q ?_;refine .text ?_;simp (disch:=first|exact za|fail) only [go_sem,seval,-List.reduceReplicate,E]
   refine .q ?_;refine .ifT (by simp (disch:=first|exact za|fail) only [go_sem,seval,-List.reduceReplicate]) ?_
   refine .q ?_;refine .text ?_;simp (disch:=first|exact za|fail) only [go_sem,seval,-List.reduceReplicate,E,zyy]
   by_cases q:50 < (nth fs i).sums.length
   · have d:decide ((50:Int) < ((nth fs i).sums.length:Int))=true:=decide_eq_true (by omega)
     refine .q ?_;refine .ifT (by simp (disch:=first|exact za|fail) only [go_sem,seval,-List.reduceReplicate,d]) ?_
     refine .q ?_;refine .text ?_;simp (disch:=first|exact za|fail) only [go_sem,seval,-List.reduceReplicate,E]
     refine .q ?_;refine .rt Tryz.func4 (by rw [Tryz.results4]) (hx:=by simp (disch:=first|exact za|fail) only [go_sem,seval,-List.reduceReplicate,E];rfl) (hR := ?_);simp (disch:=first|exact za|fail) only [go_sem,seval,-List.reduceReplicate,E]
     exact h
   · have d:decide ((50:Int) < ((nth fs i).sums.length:Int))=false:=decide_eq_false (by omega)
     refine .q ?_;refine .ifF (by simp (disch:=first|exact za|fail) only [go_sem,seval,-List.reduceReplicate,d]) ?_
     refine .skip ?_
     refine .q ?_;refine .text ?_;simp (disch:=first|exact za|fail) only [go_sem,seval,-List.reduceReplicate,E]
     first | (refine ihE _ _ ?_ trivial ?_) | (refine .z rfl ?_;refine ihE _ _ ?_ trivial ?_) | (refine .z rfl ?_;refine .z rfl ?_;refine ihE _ _ ?_ trivial ?_) | (refine .z rfl ?_;refine .z rfl ?_;refine .z rfl ?_;refine ihE _ _ ?_ trivial ?_)
     · simp (disch:=first|exact za|fail) only [go_sem,seval,-List.reduceReplicate,E]<;>(repeat' (first | rfl | refine And.intro ?_ ?_))
     · first | exact .mk _ rfl | exact .mk [] rfl | (apply Later.mk;simp (disch:=first|exact za|fail) only [go_sem,seval,-List.reduceReplicate,zj,E];exact rfl) | (apply Later.mk;simp (disch:=first|exact za|fail) only [go_sem,seval,-List.reduceReplicate,zj,zC,List.append_assoc,E]<;>(try rfl))
end walks
end Go.Proofs.YtgflpgcogkdpgaaGreatDoor

/-
  Audits: what the laws' arguments read as.
-/
namespace Go.Proofs.YtgflpgcogkdpgaaGreatDoor
open Go Go.AL Go.ChangeShapes Go.WideShapes Go.ChangeAt Go.RowKit

set_option maxRecDepth 100000
theorem zyz {α:Type} [Inhabited α] {l:List α} {i:Nat} (h:i < l.length):nth l i∈l:=by
 have:nth l i=l[i]:=by simp [nth,h]
 rw [this];exact List.getElem_mem h
section read
variable {k:Nat} {y:List PV}
theorem zAZ (h:Reads Tryz.prog (k+3) 69 y) : ∃ c:Crt,CrtOk c∧y=zhp c:=by
 obtain⟨y1,z1,rfl,-,r1,y2,z2,rfl,-,r2,y3,z3,rfl,-,r3,y4,z4,rfl,n4,r4,y5,z5,rfl,-,r5,y6,z6,rfl,n6,r6,y7,z7,rfl,n7,r7,y8,z8,rfl,n8,r8,y9,z9,rfl,n9,r9,rfl⟩:=Reads.struct Tryz.underlying69 h
 obtain⟨s,hs,rfl⟩:=Reads.str Tryz.underlying9 r1
 obtain⟨q,rfl,hq⟩:=of_string s
 obtain⟨lg,a1,a2,rfl⟩:=Reads.i64 Tryz.underlying3 r2
 obtain⟨d,hd,rfl⟩:=Reads.arr b8 Tryz.underlying33 r3 fun y hy=>Reads.u8 Tryz.underlying5 hy
 obtain⟨su,e1,rfl,e2⟩:=zx1 r5
 have c4:y4.length=4:=n4
 have c6:y6.length=3:=n6
 have c7:y7.length=1:=n7
 have c8:y8.length=2:=n8
 have c9:y9.length=4:=n9
 exact⟨⟨q,lg,d,y4,su,y6++(y7++(y8++y9)),hd,c4,by simp [c6,c7,c8,c9]⟩,⟨⟨a1,a2⟩,by unfold maxLen;show q.length≤_;omega,e1⟩,by simp [zhp]⟩
theorem zyA (h:Reads Tryz.prog (k+4) 49 y) : ∃ l:List Crt,l.length≤9223372036854775807∧y=[.sl false 49 (pl crt l)] ∧ ∀ c∈l,CrtOk c :=
 Reads.sl crt CrtOk Tryz.underlying49 cells69 zsU h fun y hy=>by
  obtain⟨m,h1,rfl⟩:=zAZ hy
  exact⟨m,rfl,h1⟩
structure Tk.In (x:Tk):Prop where
 id:okI x.id
 text:x.text.length≤9223372036854775807
 root:x.root.length≤9223372036854775807
 sums:x.sums.length≤9223372036854775807
 vals:x.vals.length≤9223372036854775807
 val : ∀ i,i < x.vals.length → (nth x.vals i).length≤9223372036854775807
 wide : ∀ s∈x.sums,okI s
end read
section rel
variable {W:World} {v:Value} {H:Type} {enc:TypeId × Value → H} {d:DataW H} {ps:List MemPlace} {base:Nat}
theorem zv3 (hval:Value.okWide Tryz.prog W .any base 49 v) (h:DataW.Trod enc Tryz.prog W 0 (fun _=>true) true 49 v d ps) : ∃ l:List Crt,l.length≤9223372036854775807∧(∀ i,i < l.length → CrtOk (nth l i))∧RelV σ0 H0 W (.p (.sl false 49 (pl crt l))) v:=by
 obtain⟨xs,hx,e⟩:=zks 20 (by kernel_rfl) hval h
 obtain⟨l,h1,rfl,h2⟩:=zyA (k:=16) hx
 rw [zsT] at e
 exact⟨l,h1,fun i hi=>h2 _ (zyz hi),e⟩
end rel
end Go.Proofs.YtgflpgcogkdpgaaGreatDoor
