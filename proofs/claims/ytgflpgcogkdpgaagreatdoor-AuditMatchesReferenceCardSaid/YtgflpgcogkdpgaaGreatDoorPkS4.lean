/-
  Audits: the reference's honest sessions.
-/
import Derived.Test.YtgflpgcogkdpgaaGreatDoorPkS3
import Derived.WideKeyElems2
import Derived.LaidHandle
import Derived.Test.YtgflpgcogkdpgaaGreatDoorCards
import Derived.Test.YtgflpgcogkdpgaaGreatDoorTie
import Derived.LaidMore
import Derived.Deep.DeepWitnessRowRef
set_option linter.unusedSimpArgs false
set_option linter.unusedVariables false
namespace Go.Proofs.YtgflpgcogkdpgaaGreatDoor
open Go Go.AL

structure Tk where
 id:Int
 text:By
 root:By
 sums:List Int
 vals:List (List Ext)
 fin:BitVec 8
def tkv (x:Tk):PV := .agg [i64 x.id,str (bytesOf x.text),.sl false 1 (pl b8 x.root),.sl false 1 (pl i64 x.sums),.sl false 1 (pl (sle 2 ext) x.vals),b8 x.fin]
def tkc (x:Tk):List AV:=[.p (i64 x.id),.p (str (bytesOf x.text)),.p (.sl false 1 (pl b8 x.root)),.p (.sl false 1 (pl i64 x.sums)),.p (.sl false 1 (pl (sle 2 ext) x.vals)),.p (b8 x.fin)]
theorem zDs {x:Tk}:zi (.p (tkv x))=some (tkc x):=rfl
theorem zEo {x:Tk}:(tkv x).weak=tkv x:=rfl
theorem zDt {x:Tk}:(tkc x)[0]? = some (.p (i64 x.id)):=rfl
theorem zDu {x:Tk}:(tkc x)[1]? = some (.p (str (bytesOf x.text))):=rfl
theorem zDv {x:Tk}:(tkc x)[2]? = some (.p (.sl false 1 (pl b8 x.root))):=rfl
theorem zDw {x:Tk}:(tkc x)[3]? = some (.p (.sl false 1 (pl i64 x.sums))):=rfl
theorem zDx {x:Tk}:(tkc x)[4]? = some (.p (.sl false 1 (pl (sle 2 ext) x.vals))):=rfl
theorem zDy {x:Tk}:(tkc x)[5]? = some (.p (b8 x.fin)):=rfl
attribute [go_sem] zDs zEo zDt zDu zDv zDw zDx zDy
def yp:By:=[99#8,111#8,117#8,110#8,116#8]
def tid (x:Tk):Int:=x.id % 65536
def tx0 (x:Tk):By:=if (x.text.take 40).length=0 then yp else x.text.take 40
def pmk (k:Int) (t:By) (s:List Int) (v:List Ext):Msg:=⟨k,0,0,t,zD,s,v⟩
def zfd (x:Tk) (i:Nat):By:=x.root.take i++List.replicate (32 - i) 0#8
theorem zeU {x:Tk} {i:Nat} (h:i≤x.root.length) (h2:i≤32):(zfd x i).length=32:=by simp [zfd];omega
def rn (x:Tk):Nat:=min x.root.length 32
def pm1 (x:Tk) (i:Nat):Msg:=if h:(zfd x i).length=32 then ⟨2,0,0,[],⟨zfd x i,h⟩,[],[]⟩ else zM
def pv (x:Tk) (i:Nat):Msg:=if i=1 then pmk 3 [] (x.sums.take 8) [] else if i % 2=1 then pmk 5 [] [] (zbm (nth x.vals i) (min (nth x.vals i).length 6)) else pmk 4 [] [] (zbm (nth x.vals i) 1)
def vn (x:Tk):Nat:=min x.vals.length 10
def zai (x:Tk) (i:Nat):List Msg:=[pmk 1 (tx0 x) [] [],pm1 x (rn x)]++tab (pv x) i
def cT (x:Tk):Bool:=(((2+(vn x:Int)) % 2 == 0) && decide ((4:Int)≤(2+(vn x:Int)))) && decide (0#8 < x.fin % 3#8)
def yA (x:Tk):List Msg:=if cT x then zai x (vn x)++[pmk (5+((x.fin % 3#8).toNat:Nat)) [] [] []] else zai x (vn x)
def yL (l:List Msg):List AV:=(flat (pl ym l)).map .p
theorem zeC {l m:List Msg}:yL (l++m)=yL l++yL m:=by simp [yL,flat,pl]
theorem zag {m:Msg} {l:List Msg}:yL (m :: l)=yR m++yL l:=by simp [yL,flat,pl,zdZ,yR]
theorem zg9:yL []=[]:=rfl
theorem zbP : ∀ {l:List Msg},(yL l).length=l.length*38
 | []=>rfl
 | m :: l=>by rw [zag,List.length_append,zE,zbP];simp;omega
theorem zwv {f g:Bool} {k:Int} {t:By} {S:List Int} {V:List Ext}:(zq (mG k 0 0 t (List.replicate 32 0#8) (.p (.sl f 1 (pl i64 S))) (.p (.sl g 2 (pl ext V))))).weak = .p (ym (pmk k t S V)):=by
 rw [zjo]
 show AV.p (PV.agg (List.map PV.weak1 _))=AV.p (.agg (zdA (pmk k t S V)))
 congr 2
theorem zDz {f g:Bool} {k:Int} {t:By} {S:List Int} {V:List Ext}:(mG k 0 0 t (List.replicate 32 0#8) (.p (.sl f 1 (pl i64 S))) (.p (.sl g 2 (pl ext V)))).map AV.weak=yR (pmk k t S V):=by
 rw [zal]
 unfold mG
 have h:(cl b8 (List.replicate 32 0#8)).map AV.weak=cl b8 (List.replicate 32 0#8):=by rw [cl,List.map_map];rfl
 simp only [List.map_cons,List.map_append,List.map_nil,h]
 rfl
def mU (f g:Bool) (k:Int) (S:List Int) (V:List Ext):List AV:=mG k 0 0 [] (List.replicate 32 0#8) (.p (.sl f 1 (pl i64 S))) (.p (.sl g 2 (pl ext V)))
def mUv (f g:Bool) (k:Int) (S:List Int) (V:List Ext):PV:=mV k 0 0 [] (List.replicate 32 0#8) (.sl f 1 (pl i64 S)) (.sl g 2 (pl ext V))
section mb
variable {f g f' g':Bool} {k k':Int} {S S':List Int} {V V':List Ext}
theorem zBv:(mU f g k S V).length=38:=zgQ (by simp)
theorem zww:zq (mU f g k S V) = .p (mUv f g k S V):=zjo
theorem zwx:zi (.p (mUv f g k S V))=some (mU f g k S V):=zv4
theorem zEp:mZ.set 0 (.p (i64 k))=mU true true k [] []:=rfl
theorem zDB:(mU f g k S V).set 37 (.p (.sl g' 2 (pl ext V')))=mU f g' k S V':=by unfold mU;rw [zlw (by simp)]
theorem zDC:(mU f g k S V).set 36 (.p (.sl f' 1 (pl i64 S')))=mU f' g k S' V:=by unfold mU;rw [zlv (by simp)]
theorem zEq {t:By}:zq ((mU f g k S V).set 3 (.p (str (bytesOf t))))=zq (mG k 0 0 t (List.replicate 32 0#8) (.p (.sl f 1 (pl i64 S))) (.p (.sl g 2 (pl ext V)))):=rfl
theorem zwy:(mUv f g k S V).weak=ym (pmk k [] S V):=by
 have h:=zwv (f:=f) (g:=g) (k:=k) (t:=[]) (S:=S) (V:=V)
 rw [zjo] at h
 exact AV.p.inj h
theorem zcL:(mU f g k S V).map AV.weak=yR (pmk k [] S V):=zDz
end mb
theorem zBw {f g:Bool} {k:Int} {S:List Int} {V:List Ext}:(mUv f g k S V).cells.length=38:=by simp [mUv,mV,PV.cells,pl]
attribute [go_sem] zBw zBv zww zwx zEp zDB zDC zwy
theorem zlZ {x:Tk}:pm1 x 0=pmk 2 [] [] []:=by
 unfold pm1
 rw [dif_pos (zeU (by omega) (by omega))]
 rfl
theorem zsf {f:BitVec 8 → AV} {l:By} {i:Nat} {v:BitVec 8}:(l.map f).set i (f v)=(l.set i v).map f:=by rw [List.map_set]
theorem zsg {x:Tk} {i:Nat} (h:i < x.root.length) (h2:i < 32):(zfd x i).set i (nth x.root i)=zfd x (i+1):=by
 unfold zfd
 rw [List.set_append_right _ _ (by rw [List.length_take];omega),List.length_take,Nat.min_eq_left (by omega),Nat.sub_self,show 32 - i=(32 - (i+1))+1 by omega,List.replicate_succ,List.set_cons_zero,zX h]
 simp
theorem zwz {x:Tk} {i:Nat} (h:i≤x.root.length) (h2:i≤32):yR (pm1 x i) = .p (i64 2) :: .p (i64 0) :: .p (i64 0) :: .p (str (bytesOf [])) :: (cl b8 (zfd x i)++[.p (.sl false 1 (pl i64 [])),.p (.sl false 2 (pl ext []))]):=by
 unfold pm1
 rw [dif_pos (zeU h h2),zal]
theorem zy5 {a:Msg} {x:Tk} {i:Nat} (h:i < x.root.length) (h2:i < 32):(yL [a,pm1 x i]).set (42+i) (.p (b8 (nth x.root i)))=yL [a,pm1 x (i+1)]:=by
 have hl:=zeU (x:=x) (i:=i) (by omega) (by omega)
 rw [zag,zag,zag,zag,zg9,List.append_nil,List.append_nil,List.set_append_right _ _ (by rw [zE];omega),zE,zwz (by omega) (by omega),zwz (by omega) (by omega),show 42+i - 38=i+4 by omega]
 simp only [List.set_cons_succ]
 rw [List.set_append_left _ _ (by rw [cl,List.length_map,hl];exact h2),cl,zsf,zsg h h2]
 rfl
theorem zpP {l:List Msg} : ∀ y∈pl ym l,y.cells.length=38:=fun y hy=>by
 simp only [pl,List.mem_map] at hy
 obtain⟨m,_,rfl⟩:=hy
 exact zwa
theorem zin {H:Hp} {a b0 b1 c0 c1 d z x0 x1 y1 y2 y3:AB} {T0 T:List AB} :
 Later ((app ((app ((((H.new a).new b0).new c0).new d) T0).new z) T).new x0) [(H.n+1,b1),(H.n+2,c1),(H.n+4+T0.length+1+T.length,x1)] ((((((app ((app ((((H.new a).new b1).new c1).new d) T0).new z) T).new x1).new y1).new y2).new y3)):=by
 refine .mk [y1,y2,y3] ?_
 have h1:((app ((app ((((H.new a).new b0).new c0).new d) T0).new z) T).new x0).set (H.n+1) b1=(app ((app ((((H.new a).new b1).new c0).new d) T0).new z) T).new x0:=by
  simp (disch:=first|exact za|fail) only [go_sem,seval]
 have h2:((app ((app ((((H.new a).new b1).new c0).new d) T0).new z) T).new x0).set (H.n+2) c1=(app ((app ((((H.new a).new b1).new c1).new d) T0).new z) T).new x0:=by
  simp (disch:=first|exact za|fail) only [go_sem,seval]
 have h3:((app ((app ((((H.new a).new b1).new c1).new d) T0).new z) T).new x0).set (H.n+4+T0.length+1+T.length) x1=(app ((app ((((H.new a).new b1).new c1).new d) T0).new z) T).new x1:=by
  have hn:H.n+4+T0.length+1+T.length=(app ((app ((((H.new a).new b1).new c1).new d) T0).new z) T).n:=by simp only [app_n',n_new']
  rw [hn];exact Hp.set_new_self _ _ _
 rw [zc,zc,zc,zf,h1,h2,h3]
 simp only [zY,zaS]
theorem zoH {H:Hp} {a b0 b1 c0 c1 d z0 z1 x1:AB} {T0 T T':List AB} :
 Later ((app ((((H.new a).new b0).new c0).new d) T0).new z0) [(H.n+1,b1),(H.n+2,c1),(H.n+4+T0.length,z1)] (app ((app ((app ((((H.new a).new b1).new c1).new d) T0).new z1) T).new x1) T'):=by
 refine .mk (T++x1 :: T') ?_
 have h1:((app ((((H.new a).new b0).new c0).new d) T0).new z0).set (H.n+1) b1=(app ((((H.new a).new b1).new c0).new d) T0).new z0:=by
  simp (disch:=first|exact za|fail) only [go_sem,seval]
 have h2:((app ((((H.new a).new b1).new c0).new d) T0).new z0).set (H.n+2) c1=(app ((((H.new a).new b1).new c1).new d) T0).new z0:=by
  simp (disch:=first|exact za|fail) only [go_sem,seval]
 have h3:((app ((((H.new a).new b1).new c1).new d) T0).new z0).set (H.n+4+T0.length) z1=(app ((((H.new a).new b1).new c1).new d) T0).new z1:=by
  have hn:H.n+4+T0.length=(app ((((H.new a).new b1).new c1).new d) T0).n:=by simp only [app_n',n_new']
  rw [hn];exact Hp.set_new_self _ _ _
 rw [zc,zc,zc,zf,h1,h2,h3,←zO,zY]
theorem zdk {x:Tk} {p:Msg → Prop} (h0:p zM) (h1:p (pmk 1 (tx0 x) [] [])) (h2 : ∀ i,p (pm1 x i)) (h3 : ∀ i,p (pv x i)) (h4 : ∀ k:Nat,k < 256 → p (pmk (5+(k:Int)) [] [] [])) : ∀ i,p (nth (yA x) i):=by
 have hb : ∀ l:List Msg,(∀ m∈l,p m) → ∀ i,p (nth l i):=fun l hl i=>by
  by_cases hi:i < l.length
  · rw [show nth l i=l[i] by simp [nth,hi]];exact hl _ (List.getElem_mem hi)
  · rw [show nth l i=zM by simp only [nth,List.getElem?_eq_none (Nat.le_of_not_lt hi)];rfl];exact h0
 have hp : ∀ n,∀ m∈zai x n,p m:=fun n m hm=>by
  unfold zai tab at hm
  simp only [List.mem_append,List.mem_cons,List.not_mem_nil,or_false,List.mem_map] at hm
  rcases hm with (rfl | rfl) | ⟨j,_,rfl⟩
  · exact h1
  · exact h2 _
  · exact h3 _
 refine hb _ fun m hm => ?_
 unfold yA at hm
 split at hm
 · simp only [List.mem_append,List.mem_cons,List.not_mem_nil,or_false] at hm
   rcases hm with hm | rfl
   · exact hp _ m hm
   · exact h4 _ (x.fin % 3#8).isLt
 · exact hp _ m hm
theorem zfJ {x:Tk} (hs : ∀ s∈x.sums,okI s):PlOk (yA x):=by
 have hml : ∀ {l:List Ext} {n:Nat},(zbm l n).length=n:=fun {l n}=>zeS
 have hk : ∀ k:Int,0≤k → k≤1000 → okI k:=fun k h1 h2=>⟨by omega,by omega⟩
 have k0:okI 0:=hk 0 (by decide) (by decide)
 have k1:okI 1:=hk 1 (by decide) (by decide)
 have k2:okI 2:=hk 2 (by decide) (by decide)
 have k3:okI 3:=hk 3 (by decide) (by decide)
 have k4:okI 4:=hk 4 (by decide) (by decide)
 have k5:okI 5:=hk 5 (by decide) (by decide)
 have z0:0≤140737488355000:=Nat.zero_le _
 have htx:(tx0 x).length≤40:=by unfold tx0;split<;>simp [yp];omega
 refine⟨?_,?_,?_,?_,?_,?_⟩
 · have:(zai x (vn x)).length=2+vn x:=by simp [zai,zbZ];omega
   have h2:vn x≤10:=by unfold vn;omega
   unfold yA;split<;>simp [this]<;>omega
 · refine zdk (p:=fun m=>okI m.kind) k0 k1 (fun i => ?_) (fun i => ?_) (fun k h=>hk _ (by show (0:Int)≤5+(k:Int);omega) (by show (5+(k:Int))≤1000;omega))
   · unfold pm1;split
     · exact k2
     · exact k0
   · unfold pv;(repeat' split)
     · exact k3
     · exact k5
     · exact k4
 · refine zdk (p:=fun m=>m.text.length≤140737488355000) z0 (by show (tx0 x).length≤_;omega) (fun i => ?_) (fun i => ?_) (fun k h=>z0)
   · unfold pm1;split<;>exact z0
   · unfold pv;(repeat' split)<;>exact z0
 · refine zdk (p:=fun m=>m.sums.length≤140737488355000) z0 z0 (fun i => ?_) (fun i => ?_) (fun k h=>z0)
   · unfold pm1;split<;>exact z0
   · unfold pv;(repeat' split)
     · show (x.sums.take 8).length≤_;rw [List.length_take];omega
     · exact z0
     · exact z0
 · refine zdk (p:=fun m=>m.values.length≤140737488355000) z0 z0 (fun i => ?_) (fun i => ?_) (fun k h=>z0)
   · unfold pm1;split<;>exact z0
   · unfold pv;(repeat' split)
     · exact z0
     · show (zbm _ _).length≤_;rw [hml];omega
     · show (zbm _ _).length≤_;rw [hml];omega
 · refine zdk (p:=fun m => ∀ y∈m.sums,okI y) (fun y hy=>by cases hy) (fun y hy=>by cases hy) (fun i => ?_) (fun i => ?_) (fun k h y hy=>by cases hy)
   · unfold pm1;split<;>exact fun y hy=>by cases hy
   · unfold pv;(repeat' split)
     · exact fun y hy=>hs y (List.mem_of_mem_take hy)
     · exact fun y hy=>by cases hy
     · exact fun y hy=>by cases hy
section walks
variable {G:Globs}
set_option maxHeartbeats 2000000 in
set_option maxRecDepth 20000 in
theorem zdH (x:Tk) (hid:okI x.id) (ht:x.text.length≤9223372036854775807) (hr:x.root.length≤9223372036854775807) (hs:x.sums.length≤9223372036854775807) (hv:x.vals.length≤9223372036854775807) (hvv : ∀ i,i < x.vals.length → (nth x.vals i).length≤9223372036854775807)
 (hso : ∀ s∈x.sums,okI s) (H:Hp) (R:AV → Hp → Prop) (h : ∀ n,n≤13 → (∀ j,j < n → ser (tid x) (yA x) j=0) → (n=(yA x).length ∨ ser (tid x) (yA x) n≠0) → R (.p (.sl false 38 (pl ym (yb (tid x) (yA x) n)))) H):ACall Tryz.prog G 10 [.p (tkv x)] H R:=by
 refine ACall.of_run (raw:=[]) Tryz.func10 rfl Tryz.ntmps10 (by simp) fun hbel => ?_
 have hw:IntKind.i64.wrap x.id=x.id:=zea hid.1 hid.2
 refine .q ?_;refine .text ?_;simp (disch:=first|exact za|fail) only [go_sem,seval,-List.reduceReplicate]
 refine .q ?_;refine .text ?_;simp (disch:=first|exact za|fail) only [go_sem,seval,-List.reduceReplicate]
 refine .q ?_;refine .text ?_;simp (disch:=first|exact za|fail) only [go_sem,seval,-List.reduceReplicate]
 refine CallK.of (fun R h=>zcC (x.id % 65536) 1 _ R h) ?_;simp (disch:=first|exact za|fail) only [go_sem,seval,-List.reduceReplicate]
 rw [show x.id % 65536=tid x from rfl]
 refine .q ?_;refine .text ?_;simp (disch:=first|exact za|fail) only [go_sem,seval,-List.reduceReplicate,show x.id % 65536=tid x from rfl]
 refine CallK.of (fun R h=>zcC (tid x) 1 _ R h) ?_;simp (disch:=first|exact za|fail) only [go_sem,seval,-List.reduceReplicate]
 refine .q ?_;refine .text ?_;simp (disch:=first|exact za|fail) only [go_sem,seval,-List.reduceReplicate]
 have hmn:((min (x.text.length:Int) 40)).toNat=min x.text.length 40:=by omega
 have htk:x.text.take (min x.text.length 40)=x.text.take 40:=by rw [List.take_eq_take_iff];omega
 refine .q ?_;refine .text ?_;simp (disch:=first|exact za|fail) only [go_sem,seval,-List.reduceReplicate,hmn,bytesOf_take,htk]
 refine .q ?_;refine .text ?_;simp (disch:=first|exact za|fail) only [go_sem,seval,-List.reduceReplicate]
 refine .q ?_;refine .cutE [1,3,4,5,6] [(7,.p (str (bytesOf (tx0 x))))] [] (fun ihF => ?_) (fun env F => ?_)
 rotate_left 1
 simp (disch:=first|exact za|fail) only [go_sem,seval,-List.reduceReplicate] at F
 rotate_left 1
 · unfold tx0 at ihF
   by_cases c:(x.text.take 40).length=0
   · have d:(((min 40 x.text.length:Nat):Int) == 0)=true:=by rw [←List.length_take,c];rfl
     rw [if_pos c] at ihF
     refine .q ?_;refine .ifT (by simp (disch:=first|exact za|fail) only [go_sem,seval,-List.reduceReplicate,d]) ?_
     refine .q ?_;refine .text ?_;simp (disch:=first|exact za|fail) only [go_sem,seval,-List.reduceReplicate]
     first | (refine ihF _ _ ?_ ?_) | (refine .z rfl ?_;refine ihF _ _ ?_ ?_) | (refine .z rfl ?_;refine .z rfl ?_;refine ihF _ _ ?_ ?_) | (refine .z rfl ?_;refine .z rfl ?_;refine .z rfl ?_;refine ihF _ _ ?_ ?_)
     · simp (disch:=first|exact za|fail) only [go_sem,seval,-List.reduceReplicate]<;>(repeat' (first | rfl | refine And.intro ?_ ?_))
     · first | rfl | (simp (disch:=first|exact za|fail) only [go_sem,seval,-List.reduceReplicate]<;>(try rfl))
   · have d:(((min 40 x.text.length:Nat):Int) == 0)=false:=by rw [←List.length_take];exact beq_eq_false_iff_ne.2 (by omega)
     rw [if_neg c] at ihF
     refine .q ?_;refine .ifF (by simp (disch:=first|exact za|fail) only [go_sem,seval,-List.reduceReplicate,d]) ?_
     refine .skip ?_
     first | (refine ihF _ _ ?_ ?_) | (refine .z rfl ?_;refine ihF _ _ ?_ ?_) | (refine .z rfl ?_;refine .z rfl ?_;refine ihF _ _ ?_ ?_) | (refine .z rfl ?_;refine .z rfl ?_;refine .z rfl ?_;refine ihF _ _ ?_ ?_)
     · simp (disch:=first|exact za|fail) only [go_sem,seval,-List.reduceReplicate]<;>(repeat' (first | rfl | refine And.intro ?_ ?_))
     · first | rfl | (simp (disch:=first|exact za|fail) only [go_sem,seval,-List.reduceReplicate]<;>(try rfl))
 · refine .q ?_;refine .region ?_
   refine .one rfl (by simp (disch:=first|exact za|fail) only [go_sem,seval,-List.reduceReplicate,F]<;>rfl) rfl ?_
   refine .one rfl (by simp (disch:=first|exact za|fail) only [go_sem,seval,-List.reduceReplicate,F]<;>rfl) rfl ?_
   refine .one rfl (by simp (disch:=first|exact za|fail) only [go_sem,seval,-List.reduceReplicate,F]<;>rfl) rfl ?_
   refine .weak 45 (y := .p (ym (pmk 1 (tx0 x) [] []))) (by simp (disch:=first|exact za|fail) only [go_sem,seval,-List.reduceReplicate,F]<;>rfl) (by rw [zEq,zwv]) ?_
   refine .weak 46 (y := .p (ym (pm1 x 0))) (by simp (disch:=first|exact za|fail) only [go_sem,seval,-List.reduceReplicate,F]<;>rfl) (by rw [←zww];unfold mU;rw [zwv,zlZ]) ?_
   refine .buildVec (sz:=38) (cs:=yL [pmk 1 (tx0 x) [] [],pm1 x 0]) (by simp (disch:=first|exact za|fail) only [go_sem,seval,-List.reduceReplicate,yy,zab]<;>rfl) (by rfl) ?_
   refine .run ?_
   simp (disch:=first|exact za|fail) only [go_sem,seval,-List.reduceReplicate]
   refine .q ?_;refine .text ?_;simp (disch:=first|exact za|fail) only [go_sem,seval,-List.reduceReplicate]
   have hrn:rn x≤x.root.length∧rn x≤32∧(rn x=x.root.length ∨ rn x=32):=by unfold rn;omega
   (repeat refine .zs rfl ?_);refine .cutE [1,3,4,5,6,8] [] [(H.n+3,.vec (yL [pmk 1 (tx0 x) [] [],pm1 x (rn x)]))] (fun ihJ => ?_) (fun env J => ?_)
   rotate_left 1
   simp (disch:=first|exact za|fail) only [go_sem,seval,-List.reduceReplicate,F] at J
   rotate_left 1
   · refine .q ?_;refine .loopE [1,3,4,5,6,8] (fun i=>[(9,.p (i64 i))]) (fun i=>[(H.n+3,.vec (yL [pmk 1 (tx0 x) [] [],pm1 x i]))]) (fun i=>True) (0) (rn x) (by omega) ?_ (by first | rfl | (simp (disch:=first|exact za|fail) only [go_sem,seval,-List.reduceReplicate,F]<;>rfl)) ?_ ?_ ?_
     · simp (disch:=first|exact za|fail) only [go_sem,seval,-List.reduceReplicate,F]<;>(repeat' (first | rfl | refine And.intro ?_ ?_))
     · exact trivial
     intro env E hQ;simp (disch:=first|exact za|fail) only [go_sem,seval,-List.reduceReplicate,F] at E
     rotate_left 1
     intro i env hi0 hi E hQ ihE;simp (disch:=first|exact za|fail) only [go_sem,seval,-List.reduceReplicate,F] at E
     rotate_left 1
     · by_cases q:rn x < x.root.length
       · have d1:decide ((rn x:Int) < (x.root.length:Int))=true:=decide_eq_true (by omega)
         have d2:decide ((rn x:Int) < 32)=false:=decide_eq_false (by omega)
         refine .q ?_;refine .text ?_;simp (disch:=first|exact za|fail) only [go_sem,seval,-List.reduceReplicate,E,F,zc,zf,d1,d2]
         refine .q ?_;refine .ifF (by simp (disch:=first|exact za|fail) only [go_sem,seval,-List.reduceReplicate]) ?_
         first | (refine ihJ _ _ ?_ ?_) | (refine .z rfl ?_;refine ihJ _ _ ?_ ?_) | (refine .z rfl ?_;refine .z rfl ?_;refine ihJ _ _ ?_ ?_) | (refine .z rfl ?_;refine .z rfl ?_;refine .z rfl ?_;refine ihJ _ _ ?_ ?_)
         · simp (disch:=first|exact za|fail) only [go_sem,seval,-List.reduceReplicate,E,F,zc,zf]<;>(repeat' (first | rfl | refine And.intro ?_ ?_))
         · first | rfl | (simp (disch:=first|exact za|fail) only [go_sem,seval,-List.reduceReplicate,E,F,zc,zf]<;>(try rfl))
       · have d1:decide ((rn x:Int) < (x.root.length:Int))=false:=decide_eq_false (by omega)
         refine .q ?_;refine .text ?_;simp (disch:=first|exact za|fail) only [go_sem,seval,-List.reduceReplicate,E,F,zc,zf,d1]
         refine .q ?_;refine .ifF (by simp (disch:=first|exact za|fail) only [go_sem,seval,-List.reduceReplicate]) ?_
         first | (refine ihJ _ _ ?_ ?_) | (refine .z rfl ?_;refine ihJ _ _ ?_ ?_) | (refine .z rfl ?_;refine .z rfl ?_;refine ihJ _ _ ?_ ?_) | (refine .z rfl ?_;refine .z rfl ?_;refine .z rfl ?_;refine ihJ _ _ ?_ ?_)
         · simp (disch:=first|exact za|fail) only [go_sem,seval,-List.reduceReplicate,E,F,zc,zf]<;>(repeat' (first | rfl | refine And.intro ?_ ?_))
         · first | rfl | (simp (disch:=first|exact za|fail) only [go_sem,seval,-List.reduceReplicate,E,F,zc,zf]<;>(try rfl))
     · have d1:decide ((i:Int) < (x.root.length:Int))=true:=decide_eq_true (by omega)
       have hli:i < x.root.length:=by omega
       have hvl:(yL [pmk 1 (tx0 x) [] [],pm1 x i]).length=76:=zbP
       have hst:=zy5 (a:=pmk 1 (tx0 x) [] []) hli (show i < 32 by omega)
       refine .q ?_;refine .text ?_;simp (disch:=first|exact za|fail) only [go_sem,seval,-List.reduceReplicate,E,F,zc,zf,d1]
       refine .q ?_;refine .ifT (by simp (disch:=first|exact za|fail) only [go_sem,seval,-List.reduceReplicate]) ?_
       refine .q ?_;refine .open [10] follows (by kernel_rfl) ?_;simp (disch:=first|exact za|fail) only [go_sem,seval,-List.reduceReplicate,E,F,hvl,hst]
       refine .q ?_;refine .text ?_;simp (disch:=first|exact za|fail) only [go_sem,seval,-List.reduceReplicate,E]
       first | (refine ihE _ _ ?_ trivial ?_) | (refine .z rfl ?_;refine ihE _ _ ?_ trivial ?_) | (refine .z rfl ?_;refine .z rfl ?_;refine ihE _ _ ?_ trivial ?_) | (refine .z rfl ?_;refine .z rfl ?_;refine .z rfl ?_;refine ihE _ _ ?_ trivial ?_)
       · simp (disch:=first|exact za|fail) only [go_sem,seval,-List.reduceReplicate,E,F,zc,zf]<;>(repeat' (first | rfl | refine And.intro ?_ ?_))
       · first | rfl | (simp (disch:=first|exact za|fail) only [go_sem,seval,-List.reduceReplicate,E,F,zc,zf]<;>(try rfl))
   have hvn:vn x≤x.vals.length∧vn x≤10∧(vn x=x.vals.length ∨ vn x=10):=by unfold vn;omega
   have hp0:[pmk 1 (tx0 x) [] [],pm1 x (rn x)]=zai x 0:=rfl
   rw [hp0]
   have hpl : ∀ i,(zai x i).length=2+i:=fun i=>by simp [zai,zbZ];omega
   have hps : ∀ i,zai x (i+1)=zai x i++[pv x i]:=fun i=>by simp [zai,yU]
   refine .q ?_;refine .text ?_;simp (disch:=first|exact za|fail) only [go_sem,seval,-List.reduceReplicate,J,zc,zf]
   (repeat refine .zs rfl ?_);refine .cutF [1,3,4,5,6] [(8,.vr (H.n+3) (2+vn x) 38)] [(H.n+3,.vec (yL (zai x (vn x))))] (fun ihK => ?_) (fun env T K => ?_)
   rotate_left 1
   simp (disch:=first|exact za|fail) only [go_sem,seval,-List.reduceReplicate,J] at K
   rotate_left 1
   · refine .q ?_;refine .loopF [1,3,4,5,6] (fun i=>[(8,.vr (H.n+3) (2+i) 38),(10,.p (i64 i))]) (fun i=>[(H.n+3,.vec (yL (zai x i)))]) (fun i=>True) (0) (vn x) (by omega) ?_ (by first | rfl | (simp (disch:=first|exact za|fail) only [go_sem,seval,-List.reduceReplicate,J]<;>rfl)) ?_ ?_ ?_
     · simp (disch:=first|exact za|fail) only [go_sem,seval,-List.reduceReplicate,J]<;>(repeat' (first | rfl | refine And.intro ?_ ?_))
     · exact trivial
     intro env T E hQ;simp (disch:=first|exact za|fail) only [go_sem,seval,-List.reduceReplicate,J] at E
     rotate_left 1
     intro i env T hi0 hi E hQ ihE;simp (disch:=first|exact za|fail) only [go_sem,seval,-List.reduceReplicate,J] at E
     rotate_left 1
     · by_cases q:vn x < x.vals.length
       · have d1:decide ((vn x:Int) < (x.vals.length:Int))=true:=decide_eq_true (by omega)
         have d2:decide ((vn x:Int) < 10)=false:=decide_eq_false (by omega)
         refine .q ?_;refine .text ?_;simp (disch:=first|exact za|fail) only [go_sem,seval,-List.reduceReplicate,E,J,zc,zf,d1,d2]
         refine .q ?_;refine .ifF (by simp (disch:=first|exact za|fail) only [go_sem,seval,-List.reduceReplicate]) ?_
         first | (refine ihK _ _ ?_ ?_) | (refine .z rfl ?_;refine ihK _ _ ?_ ?_) | (refine .z rfl ?_;refine .z rfl ?_;refine ihK _ _ ?_ ?_) | (refine .z rfl ?_;refine .z rfl ?_;refine .z rfl ?_;refine ihK _ _ ?_ ?_)
         · simp (disch:=first|exact za|fail) only [go_sem,seval,-List.reduceReplicate,E,J,zc,zf]<;>(repeat' (first | rfl | refine And.intro ?_ ?_))
         · first | exact .mk _ rfl | exact .mk [] rfl | (apply Later.mk;simp (disch:=first|exact za|fail) only [go_sem,seval,-List.reduceReplicate,zm,E,J,zc,zf];exact rfl) | (apply Later.mk;simp (disch:=first|exact za|fail) only [go_sem,seval,-List.reduceReplicate,zm,zO,List.append_assoc,E,J,zc,zf]<;>(try rfl))
       · have d1:decide ((vn x:Int) < (x.vals.length:Int))=false:=decide_eq_false (by omega)
         refine .q ?_;refine .text ?_;simp (disch:=first|exact za|fail) only [go_sem,seval,-List.reduceReplicate,E,J,zc,zf,d1]
         refine .q ?_;refine .ifF (by simp (disch:=first|exact za|fail) only [go_sem,seval,-List.reduceReplicate]) ?_
         first | (refine ihK _ _ ?_ ?_) | (refine .z rfl ?_;refine ihK _ _ ?_ ?_) | (refine .z rfl ?_;refine .z rfl ?_;refine ihK _ _ ?_ ?_) | (refine .z rfl ?_;refine .z rfl ?_;refine .z rfl ?_;refine ihK _ _ ?_ ?_)
         · simp (disch:=first|exact za|fail) only [go_sem,seval,-List.reduceReplicate,E,J,zc,zf]<;>(repeat' (first | rfl | refine And.intro ?_ ?_))
         · first | exact .mk _ rfl | exact .mk [] rfl | (apply Later.mk;simp (disch:=first|exact za|fail) only [go_sem,seval,-List.reduceReplicate,zm,E,J,zc,zf];exact rfl) | (apply Later.mk;simp (disch:=first|exact za|fail) only [go_sem,seval,-List.reduceReplicate,zm,zO,List.append_assoc,E,J,zc,zf]<;>(try rfl))
     · have d1:decide ((i:Int) < (x.vals.length:Int))=true:=decide_eq_true (by omega)
       have hli:i < x.vals.length:=by omega
       have hvi:=hvv i hli
       refine .q ?_;refine .text ?_;simp (disch:=first|exact za|fail) only [go_sem,seval,-List.reduceReplicate,E,J,zc,zf,d1]
       refine .q ?_;refine .ifT (by simp (disch:=first|exact za|fail) only [go_sem,seval,-List.reduceReplicate]) ?_
       refine .q ?_;refine .text ?_;simp (disch:=first|exact za|fail) only [go_sem,seval,-List.reduceReplicate,E,J]
       refine CallK.of (fun R h=>zex (nth x.vals i) hvi 1 (by omega) _ R h) ?_;simp (disch:=first|exact za|fail) only [go_sem,seval,-List.reduceReplicate,E,J]
       refine .q ?_;refine .text ?_;simp (disch:=first|exact za|fail) only [go_sem,seval,-List.reduceReplicate,E]
       obtain⟨B,hB⟩ : ∃ B,B=H.n+4+T.length:=⟨_,rfl⟩
       refine .q ?_;refine .cutE [1,3,4,5,6,8,10,11] [] [(H.n+4+T.length,.cells (yR (pv x i)))] (fun ihQ => ?_) (fun env Q => ?_)
       rotate_left 1
       simp (disch:=first|exact za|fail) only [go_sem,seval,-List.reduceReplicate,E,J] at Q
       rotate_left 1
       · unfold pv at ihQ
         by_cases c1:i=1
         · have e1:((i:Int) == 1)=true:=by rw [c1];rfl
           rw [if_pos c1] at ihQ
           have hmn8:((min (x.sums.length:Int) 8)).toNat=min x.sums.length 8:=by omega
           have htk8:x.sums.take (min x.sums.length 8)=x.sums.take 8:=by rw [List.take_eq_take_iff];omega
           refine .q ?_;refine .ifT (by simp (disch:=first|exact za|fail) only [go_sem,seval,-List.reduceReplicate,e1]) ?_
           refine .q ?_;refine .text ?_;simp (disch:=first|exact za|fail) only [go_sem,seval,-List.reduceReplicate,E,J,hmn8,htk8]
           refine .q ?_;refine .weakC (H.n+4+T.length) (by simp (disch:=first|exact za|fail) only [go_sem,seval,-List.reduceReplicate,zcL];rfl) ?_;(try simp (disch:=first|exact za|fail) only [go_sem,seval,-List.reduceReplicate,List.map_replicate,List.map_cons,List.map_nil,AV.weak,PV.weak,zcL])
           first | (refine ihQ _ _ ?_ ?_) | (refine .z rfl ?_;refine ihQ _ _ ?_ ?_) | (refine .z rfl ?_;refine .z rfl ?_;refine ihQ _ _ ?_ ?_) | (refine .z rfl ?_;refine .z rfl ?_;refine .z rfl ?_;refine ihQ _ _ ?_ ?_)
           · simp (disch:=first|exact za|fail) only [go_sem,seval,-List.reduceReplicate,E,J,zcL,zc,zf]<;>(repeat' (first | rfl | refine And.intro ?_ ?_))
           · first | rfl | (simp (disch:=first|exact za|fail) only [go_sem,seval,-List.reduceReplicate,E,J,zcL,zc,zf]<;>(try rfl))
         · have e1:((i:Int) == 1)=false:=beq_eq_false_iff_ne.2 (by omega)
           rw [if_neg c1] at ihQ
           refine .q ?_;refine .ifF (by simp (disch:=first|exact za|fail) only [go_sem,seval,-List.reduceReplicate,e1]) ?_
           by_cases c2:i % 2=1
           · have e2:((i:Int) % 2 == 1)=true:=by rw [show (i:Int) % 2=1 by omega];rfl
             rw [if_pos c2] at ihQ
             have hmn6:(min ((nth x.vals i).length:Int) 6)=((min (nth x.vals i).length 6:Nat):Int):=by omega
             refine .q ?_;refine .text ?_;simp (disch:=first|exact za|fail) only [go_sem,seval,-List.reduceReplicate,E,J]
             refine .q ?_;refine .ifT (by simp (disch:=first|exact za|fail) only [go_sem,seval,-List.reduceReplicate,e2]) ?_
             refine .q ?_;refine .open [14] follows (by kernel_rfl) ?_;simp (disch:=first|exact za|fail) only [go_sem,seval,-List.reduceReplicate,E,J,hmn6]
             refine CallD.still (fun R h=>zex (nth x.vals i) hvi _ (by omega) _ R h) ?_;simp (disch:=first|exact za|fail) only [go_sem,seval,-List.reduceReplicate,E,J]
             refine .q ?_;refine .weakC (H.n+4+T.length) (by simp (disch:=first|exact za|fail) only [go_sem,seval,-List.reduceReplicate,zcL];rfl) ?_;(try simp (disch:=first|exact za|fail) only [go_sem,seval,-List.reduceReplicate,List.map_replicate,List.map_cons,List.map_nil,AV.weak,PV.weak,zcL])
             first | (refine ihQ _ _ ?_ ?_) | (refine .z rfl ?_;refine ihQ _ _ ?_ ?_) | (refine .z rfl ?_;refine .z rfl ?_;refine ihQ _ _ ?_ ?_) | (refine .z rfl ?_;refine .z rfl ?_;refine .z rfl ?_;refine ihQ _ _ ?_ ?_)
             · simp (disch:=first|exact za|fail) only [go_sem,seval,-List.reduceReplicate,E,J,zcL,zc,zf]<;>(repeat' (first | rfl | refine And.intro ?_ ?_))
             · first | rfl | (simp (disch:=first|exact za|fail) only [go_sem,seval,-List.reduceReplicate,E,J,zcL,zc,zf]<;>(try rfl))
           · have e2:((i:Int) % 2 == 1)=false:=beq_eq_false_iff_ne.2 (by omega)
             rw [if_neg c2] at ihQ
             refine .q ?_;refine .text ?_;simp (disch:=first|exact za|fail) only [go_sem,seval,-List.reduceReplicate,E,J]
             refine .q ?_;refine .ifF (by simp (disch:=first|exact za|fail) only [go_sem,seval,-List.reduceReplicate,e2]) ?_
             refine .skip ?_
             refine .q ?_;refine .weakC (H.n+4+T.length) (by simp (disch:=first|exact za|fail) only [go_sem,seval,-List.reduceReplicate,zcL];rfl) ?_;(try simp (disch:=first|exact za|fail) only [go_sem,seval,-List.reduceReplicate,List.map_replicate,List.map_cons,List.map_nil,AV.weak,PV.weak,zcL])
             first | (refine ihQ _ _ ?_ ?_) | (refine .z rfl ?_;refine ihQ _ _ ?_ ?_) | (refine .z rfl ?_;refine .z rfl ?_;refine ihQ _ _ ?_ ?_) | (refine .z rfl ?_;refine .z rfl ?_;refine .z rfl ?_;refine ihQ _ _ ?_ ?_)
             · simp (disch:=first|exact za|fail) only [go_sem,seval,-List.reduceReplicate,E,J,zcL,zc,zf]<;>(repeat' (first | rfl | refine And.intro ?_ ?_))
             · first | rfl | (simp (disch:=first|exact za|fail) only [go_sem,seval,-List.reduceReplicate,E,J,zcL,zc,zf]<;>(try rfl))
       · have hvl:(yL (zai x i)).length=(2+i)*38:=by rw [zbP,hpl]
         have hvp:yL (zai x i)++(ym (pv x i)).cells.map .p=yL (zai x (i+1)):=by rw [hps,zeC,zag,zg9,List.append_nil];rfl
         refine .q ?_;refine .text ?_;simp (disch:=first|exact za|fail) only [go_sem,seval,-List.reduceReplicate,Q,zc,zf,hpl,hvl,hvp]
         refine .q ?_;refine .text ?_;simp (disch:=first|exact za|fail) only [go_sem,seval,-List.reduceReplicate,Q,E]
         first | (refine ihE _ _ ?_ trivial ?_) | (refine .z rfl ?_;refine ihE _ _ ?_ trivial ?_) | (refine .z rfl ?_;refine .z rfl ?_;refine ihE _ _ ?_ trivial ?_) | (refine .z rfl ?_;refine .z rfl ?_;refine .z rfl ?_;refine ihE _ _ ?_ trivial ?_)
         · simp (disch:=first|exact za|fail) only [go_sem,seval,-List.reduceReplicate,Q,E,J,zc,zf,Nat.add_assoc]<;>(repeat' (first | rfl | refine And.intro ?_ ?_))
         · first | exact .mk _ rfl | exact .mk [] rfl | (apply Later.mk;simp (disch:=first|exact za|fail) only [go_sem,seval,-List.reduceReplicate,zm,Q,E,J,zc,zf,Nat.add_assoc];exact rfl) | (apply Later.mk;simp (disch:=first|exact za|fail) only [go_sem,seval,-List.reduceReplicate,zm,zO,List.append_assoc,Q,E,J,zc,zf,Nat.add_assoc]<;>(try rfl))
   · obtain⟨T0,rfl⟩ : ∃ T0,T0=T:=⟨_,rfl⟩
     have h3:(3#8:BitVec 8)≠0#8:=by decide
     refine .q ?_;refine .cutE [1,3,4,5,6,8] [(132,.p (bo (cT x)))] [] (fun ihW => ?_) (fun env W => ?_)
     rotate_left 1
     simp (disch:=first|exact za|fail) only [go_sem,seval,-List.reduceReplicate,K] at W
     rotate_left 1
     · unfold cT at ihW
       cases e1:((2+(vn x:Int)) % 2 == 0) with
       | false =>
        rw [e1] at ihW
        refine .q ?_;refine .text ?_;simp (disch:=first|exact za|fail) only [go_sem,seval,-List.reduceReplicate,K,zc,zf,e1]
        first | (refine ihW _ _ ?_ ?_) | (refine .z rfl ?_;refine ihW _ _ ?_ ?_) | (refine .z rfl ?_;refine .z rfl ?_;refine ihW _ _ ?_ ?_) | (refine .z rfl ?_;refine .z rfl ?_;refine .z rfl ?_;refine ihW _ _ ?_ ?_)
        · simp (disch:=first|exact za|fail) only [go_sem,seval,-List.reduceReplicate,K,zc,zf]<;>(repeat' (first | rfl | refine And.intro ?_ ?_))
        · first | rfl | (simp (disch:=first|exact za|fail) only [go_sem,seval,-List.reduceReplicate,K,zc,zf]<;>(try rfl))
       | true =>
        rw [e1] at ihW
        cases e2:decide ((4:Int)≤(2+(vn x:Int))) with
        | false =>
         rw [e2] at ihW
         refine .q ?_;refine .text ?_;simp (disch:=first|exact za|fail) only [go_sem,seval,-List.reduceReplicate,K,zc,zf,e1,e2]
         first | (refine ihW _ _ ?_ ?_) | (refine .z rfl ?_;refine ihW _ _ ?_ ?_) | (refine .z rfl ?_;refine .z rfl ?_;refine ihW _ _ ?_ ?_) | (refine .z rfl ?_;refine .z rfl ?_;refine .z rfl ?_;refine ihW _ _ ?_ ?_)
         · simp (disch:=first|exact za|fail) only [go_sem,seval,-List.reduceReplicate,K,zc,zf]<;>(repeat' (first | rfl | refine And.intro ?_ ?_))
         · first | rfl | (simp (disch:=first|exact za|fail) only [go_sem,seval,-List.reduceReplicate,K,zc,zf]<;>(try rfl))
        | true =>
         rw [e2] at ihW
         refine .q ?_;refine .text ?_;simp (disch:=first|exact za|fail) only [go_sem,seval,-List.reduceReplicate,K,zc,zf,e1,e2]
         first | (refine ihW _ _ ?_ ?_) | (refine .z rfl ?_;refine ihW _ _ ?_ ?_) | (refine .z rfl ?_;refine .z rfl ?_;refine ihW _ _ ?_ ?_) | (refine .z rfl ?_;refine .z rfl ?_;refine .z rfl ?_;refine ihW _ _ ?_ ?_)
         · simp (disch:=first|exact za|fail) only [go_sem,seval,-List.reduceReplicate,K,zc,zf]<;>(repeat' (first | rfl | refine And.intro ?_ ?_))
         · first | rfl | (simp (disch:=first|exact za|fail) only [go_sem,seval,-List.reduceReplicate,K,zc,zf]<;>(try rfl))
     · have hvl:(yL (zai x (vn x))).length=(2+vn x)*38:=by rw [zbP,hpl]
       have hpp:(yA x).length=if cT x then 2+vn x+1 else 2+vn x:=by
        unfold yA;split<;>simp [hpl]
       refine .q ?_;refine .cutE [3,4,5,6] [(8,.vr (H.n+3) (yA x).length 38)] [(H.n+3,.vec (yL (yA x)))] (fun ihU => ?_) (fun env U => ?_)
       rotate_left 1
       simp (disch:=first|exact za|fail) only [go_sem,seval,-List.reduceReplicate,W,K] at U
       rotate_left 1
       · rw [hpp] at ihU
         unfold yA at ihU
         cases hc:cT x with
         | false =>
          rw [hc] at ihU
          simp only [Bool.false_eq_true,if_false] at ihU
          refine .q ?_;refine .ifF (by simp (disch:=first|exact za|fail) only [go_sem,seval,-List.reduceReplicate,W,hc]) ?_
          refine .skip ?_
          first | (refine ihU _ _ ?_ ?_) | (refine .z rfl ?_;refine ihU _ _ ?_ ?_) | (refine .z rfl ?_;refine .z rfl ?_;refine ihU _ _ ?_ ?_) | (refine .z rfl ?_;refine .z rfl ?_;refine .z rfl ?_;refine ihU _ _ ?_ ?_)
          · simp (disch:=first|exact za|fail) only [go_sem,seval,-List.reduceReplicate,W,K,zc,zf]<;>(repeat' (first | rfl | refine And.intro ?_ ?_))
          · first | rfl | (simp (disch:=first|exact za|fail) only [go_sem,seval,-List.reduceReplicate,W,K,zc,zf]<;>(try rfl))
         | true =>
          rw [hc] at ihU
          simp only [if_true] at ihU
          have hk6:(6:Int)+((x.fin % 3#8).toNat:Int) - 1=5+((x.fin % 3#8).toNat:Int):=by omega
          have hvp:yL (zai x (vn x))++(ym (pmk (5+((x.fin % 3#8).toNat:Nat)) [] [] [])).cells.map .p=yL (zai x (vn x)++[pmk (5+((x.fin % 3#8).toNat:Nat)) [] [] []]):=by rw [zeC,zag,zg9,List.append_nil];rfl
          have hf3:=(x.fin % 3#8).isLt
          refine .q ?_;refine .ifT (by simp (disch:=first|exact za|fail) only [go_sem,seval,-List.reduceReplicate,W,hc]) ?_
          refine .q ?_;refine .text ?_;simp (disch:=first|exact za|fail) only [go_sem,seval,-List.reduceReplicate,W,K,zc,zf,hpl,hvl,hk6,hvp]
          first | (refine ihU _ _ ?_ ?_) | (refine .z rfl ?_;refine ihU _ _ ?_ ?_) | (refine .z rfl ?_;refine .z rfl ?_;refine ihU _ _ ?_ ?_) | (refine .z rfl ?_;refine .z rfl ?_;refine .z rfl ?_;refine ihU _ _ ?_ ?_)
          · simp (disch:=first|exact za|fail) only [go_sem,seval,-List.reduceReplicate,W,K,zc,zf]<;>(repeat' (first | rfl | refine And.intro ?_ ?_))
          · first | rfl | (simp (disch:=first|exact za|fail) only [go_sem,seval,-List.reduceReplicate,W,K,zc,zf]<;>(try rfl))
       · have hlp:(yA x).length≤13:=by rw [hpp];split<;>omega
         refine .q ?_;refine .frzV 8 (by simp (disch:=first|exact za|fail) only [go_sem,seval,-List.reduceReplicate,U,W,K,zc,zf];rfl) (by simp (disch:=first|exact za|fail) only [go_sem,seval,-List.reduceReplicate,U,W,K,zc,zf]<;>rfl) (xs:=pl ym (yA x)) rfl (zb2) (zpP) ?_;(try simp (disch:=first|exact za|fail) only [go_sem,seval,-List.reduceReplicate,U,W,K,zc,zf])
         have hP:=zfJ hso
         have hidt:0≤tid x∧tid x≤65535:=by unfold tid;omega
         generalize tid x=id at *
         generalize yA x=P at *
         clear hpp hvl hpl hps hp0
         refine .q ?_;refine .own 6 (by simp (disch:=first|exact za|fail) only [go_sem,seval,-List.reduceReplicate,U,W,K];rfl) ?_
         refine .q ?_;refine .text ?_;simp (disch:=first|exact za|fail) only [go_sem,seval,-List.reduceReplicate]
         refine .q ?_;refine .loopF [3,4,5,8] (fun i=>[(6,.sl (H.n+4+T0.length) i 38 (pl ym (yb id P i))),(12,.p (i64 i))]) (fun i=>[(H.n+1,.cells (zJ (zZ id P 1 i 0))),(H.n+2,.cells (zJ (zZ id P 1 i 1))),(H.n+4+T0.length,.tail i)]) (fun i => ∀ j,j < i → ser id P j=0) (0) (P.length) (by omega) ?_ (by first | rfl | (simp (disch:=first|exact za|fail) only [go_sem,seval,-List.reduceReplicate,U,W,K]<;>rfl)) ?_ ?_ ?_
         · simp (disch:=first|exact za|fail) only [go_sem,seval,-List.reduceReplicate,U,W,K]<;>(repeat' (first | rfl | refine And.intro ?_ ?_))
         rotate_left 1
         intro env T E hQ;simp (disch:=first|exact za|fail) only [go_sem,seval,-List.reduceReplicate,U,W,K] at E
         rotate_left 1
         intro i env T hi0 hi E hQ ihE;simp (disch:=first|exact za|fail) only [go_sem,seval,-List.reduceReplicate,U,W,K] at E
         rotate_left 1
         · exact fun j hj=>absurd hj (by omega)
         · refine .q ?_;refine .text ?_;simp (disch:=first|exact za|fail) only [go_sem,seval,-List.reduceReplicate,E,zc,zf]
           refine .q ?_;refine .ifF (by simp (disch:=first|exact za|fail) only [go_sem,seval,-List.reduceReplicate]) ?_
           refine .q ?_;refine .text ?_;simp (disch:=first|exact za|fail) only [go_sem,seval,-List.reduceReplicate,E]
           refine .q ?_;refine .rt Tryz.func10 (by rw [Tryz.results10]) (hx:=by simp (disch:=first|exact za|fail) only [go_sem,seval,-List.reduceReplicate,E];rfl) (hR := ?_);simp (disch:=first|exact za|fail) only [go_sem,seval,-List.reduceReplicate,E]
           exact h P.length hlp hQ (.inl rfl)
         · have hgd:=zeB hP hidt (D:=1) (by decide) i (by omega) hQ
           have o0:=(hgd 0 (by omega)).ok (by omega)
           have o1:=(hgd 1 (by omega)).ok (by omega)
           have hmi:=zlY (i:=i) hP hidt (by omega)
           have hon:(yb id P i).length=i:=zh
           have hos:yb id P (i+1)=yb id P i++[mi id P i]:=yU
           have hii:okI (i:Int):=zpM (by omega)
           refine .q ?_;refine .text ?_;simp (disch:=first|exact za|fail) only [go_sem,seval,-List.reduceReplicate,E,zc,zf]
           refine .q ?_;refine .ifT (by simp (disch:=first|exact za|fail) only [go_sem,seval,-List.reduceReplicate]) ?_
           refine .q ?_;refine .text ?_;simp (disch:=first|exact za|fail) only [go_sem,seval,-List.reduceReplicate,E]
           refine .q ?_;refine .text ?_;simp (disch:=first|exact za|fail) only [go_sem,seval,-List.reduceReplicate,E]
           refine .q ?_;refine .text ?_;simp (disch:=first|exact za|fail) only [go_sem,seval,-List.reduceReplicate,E]
           refine .q ?_;refine .text ?_;simp (disch:=first|exact za|fail) only [go_sem,seval,-List.reduceReplicate,E]
           have hm1:(nth P i).kind=2 → mi id P i=⟨(nth P i).kind,id,i,(nth P i).text,(nth P i).root,(nth P i).sums,(nth P i).values⟩:=fun q=>by unfold mi mqq;rw [if_neg (by simp [q])]
           have hm2:(nth P i).kind≠2 → mi id P i=⟨(nth P i).kind,id,i,(nth P i).text,(com id P i).seen,(nth P i).sums,(nth P i).values⟩:=fun q=>by unfold mi mqq;rw [if_pos q]
           have hs0:(zZ id P 1 i 0).seen=(com id P i).seen:=rfl
           have hs1:(zZ id P 1 i 1).seen=(com id P i).seen:=rfl
           have hsl:=(com id P i).seen.len
           have hpar:i % 2=0 ∨ i % 2=1:=by omega
           by_cases hz:ser id P i=0
           · have hall : ∀ j,j≤i → ser id P j=0:=fun j hj=>by
              rcases Nat.lt_or_ge j i with q | q
              · exact hQ j q
              · rw [show j=i by omega];exact hz
             refine .q ?_;refine .cutF [3,4,5,6,8,12,13] [] [(H.n+1,.cells (zJ (zZ id P 1 (i+1) 0))),(H.n+2,.cells (zJ (zZ id P 1 (i+1) 1))),(H.n+4+T0.length+1+T.length,.cells (yR (mi id P i)))] (fun ihV => ?_) (fun env T V => ?_)
             rotate_left 1
             simp (disch:=first|exact za|fail) only [go_sem,seval,-List.reduceReplicate,E] at V
             rotate_left 1
             · skip
               rcases hpar with hp0 | hp1
               · have dp:((i:Int) % 2 == 0)=true:=by rw [show (i:Int) % 2=0 by omega];rfl
                 refine .q ?_;refine .ifT (by simp (disch:=first|exact za|fail) only [go_sem,seval,-List.reduceReplicate,dp]) ?_
                 refine .q ?_;refine .text ?_;simp (disch:=first|exact za|fail) only [go_sem,seval,-List.reduceReplicate,E]
                 refine .q ?_;refine .cutE [3,4,5,6,8,12,13] [] [(H.n+4+T0.length+1+T.length,.cells (yR (mi id P i)))] (fun ihX => ?_) (fun env X => ?_)
                 rotate_left 1
                 simp (disch:=first|exact za|fail) only [go_sem,seval,-List.reduceReplicate,E] at X
                 rotate_left 1
                 · by_cases hk:(nth P i).kind=2
                   · have dk:((nth P i).kind != 2)=false:=by simpa using hk
                     rw [hm1 hk] at ihX
                     refine .q ?_;refine .ifF (by simp (disch:=first|exact za|fail) only [go_sem,seval,-List.reduceReplicate,dk]) ?_
                     refine .skip ?_
                     first | (refine ihX _ _ ?_ ?_) | (refine .z rfl ?_;refine ihX _ _ ?_ ?_) | (refine .z rfl ?_;refine .z rfl ?_;refine ihX _ _ ?_ ?_) | (refine .z rfl ?_;refine .z rfl ?_;refine .z rfl ?_;refine ihX _ _ ?_ ?_)
                     · simp (disch:=first|exact za|fail) only [go_sem,seval,-List.reduceReplicate,E,zc,zf]<;>(repeat' (first | rfl | refine And.intro ?_ ?_))
                     · first | rfl | (simp (disch:=first|exact za|fail) only [go_sem,seval,-List.reduceReplicate,E,zc,zf]<;>(try rfl))
                   · have dk:((nth P i).kind != 2)=true:=by simpa using hk
                     rw [hm2 hk] at ihX
                     refine .q ?_;refine .ifT (by simp (disch:=first|exact za|fail) only [go_sem,seval,-List.reduceReplicate,dk]) ?_
                     refine .q ?_;refine .text ?_;simp (disch:=first|exact za|fail) only [go_sem,seval,-List.reduceReplicate,E,hsl]
                     first | (refine ihX _ _ ?_ ?_) | (refine .z rfl ?_;refine ihX _ _ ?_ ?_) | (refine .z rfl ?_;refine .z rfl ?_;refine ihX _ _ ?_ ?_) | (refine .z rfl ?_;refine .z rfl ?_;refine .z rfl ?_;refine ihX _ _ ?_ ?_)
                     · simp (disch:=first|exact za|fail) only [go_sem,seval,-List.reduceReplicate,E,zc,zf,hs0]<;>(repeat' (first | rfl | refine And.intro ?_ ?_))
                     · first | rfl | (simp (disch:=first|exact za|fail) only [go_sem,seval,-List.reduceReplicate,E,zc,zf,hs0]<;>(try rfl))
                 · have hse:send (zZ id P 1 i 0) (mi id P i)=(zZ id P 1 (i+1) 0,enc (mi id P i),0):=zbN hz hp0
                   have hrv:recv (zZ id P 1 i 1) (enc (mi id P i)) 0=(zZ id P 1 (i+1) 1,mi id P i,0):=zbO hall hP.okI (by omega) (by decide)
                   have hel:(enc (mi id P i)).length≤3000:=zcD
                   refine .q ?_;refine .text ?_;simp (disch:=first|exact za|fail) only [go_sem,seval,-List.reduceReplicate,X,E,zc,zf]
                   refine CallK.of (fun R h=>zbd (zZ id P 1 i 0) o0 (mi id P i) hmi _ R h) ?_;simp (disch:=first|exact za|fail) only [go_sem,seval,-List.reduceReplicate,hse]
                   refine .q ?_;refine .text ?_;simp (disch:=first|exact za|fail) only [go_sem,seval,-List.reduceReplicate]
                   refine .q ?_;refine .ifF (by simp (disch:=first|exact za|fail) only [go_sem,seval,-List.reduceReplicate]) ?_
                   refine .skip ?_
                   refine .q ?_;refine .text ?_;simp (disch:=first|exact za|fail) only [go_sem,seval,-List.reduceReplicate,X,E]
                   refine .q ?_;refine .text ?_;simp (disch:=first|exact za|fail) only [go_sem,seval,-List.reduceReplicate,X,E]
                   refine CallK.of (fun R h=>zbL (zZ id P 1 i 1) o1 (enc (mi id P i)) (by omega) 0 _ R h) ?_;simp (disch:=first|exact za|fail) only [go_sem,seval,-List.reduceReplicate,hrv]
                   refine .q ?_;refine .text ?_;simp (disch:=first|exact za|fail) only [go_sem,seval,-List.reduceReplicate,X,E]
                   first | (refine ihV _ _ ?_ ?_) | (refine .z rfl ?_;refine ihV _ _ ?_ ?_) | (refine .z rfl ?_;refine .z rfl ?_;refine ihV _ _ ?_ ?_) | (refine .z rfl ?_;refine .z rfl ?_;refine .z rfl ?_;refine ihV _ _ ?_ ?_)
                   · simp (disch:=first|exact za|fail) only [go_sem,seval,-List.reduceReplicate,X,E]<;>(repeat' (first | rfl | refine And.intro ?_ ?_))
                   · exact zin
               · have dp:((i:Int) % 2 == 0)=false:=by rw [show (i:Int) % 2=1 by omega];rfl
                 refine .q ?_;refine .ifF (by simp (disch:=first|exact za|fail) only [go_sem,seval,-List.reduceReplicate,dp]) ?_
                 refine .q ?_;refine .text ?_;simp (disch:=first|exact za|fail) only [go_sem,seval,-List.reduceReplicate,E]
                 refine .q ?_;refine .cutE [3,4,5,6,8,12,13] [] [(H.n+4+T0.length+1+T.length,.cells (yR (mi id P i)))] (fun ihX => ?_) (fun env X => ?_)
                 rotate_left 1
                 simp (disch:=first|exact za|fail) only [go_sem,seval,-List.reduceReplicate,E] at X
                 rotate_left 1
                 · by_cases hk:(nth P i).kind=2
                   · have dk:((nth P i).kind != 2)=false:=by simpa using hk
                     rw [hm1 hk] at ihX
                     refine .q ?_;refine .ifF (by simp (disch:=first|exact za|fail) only [go_sem,seval,-List.reduceReplicate,dk]) ?_
                     refine .skip ?_
                     first | (refine ihX _ _ ?_ ?_) | (refine .z rfl ?_;refine ihX _ _ ?_ ?_) | (refine .z rfl ?_;refine .z rfl ?_;refine ihX _ _ ?_ ?_) | (refine .z rfl ?_;refine .z rfl ?_;refine .z rfl ?_;refine ihX _ _ ?_ ?_)
                     · simp (disch:=first|exact za|fail) only [go_sem,seval,-List.reduceReplicate,E,zc,zf]<;>(repeat' (first | rfl | refine And.intro ?_ ?_))
                     · first | rfl | (simp (disch:=first|exact za|fail) only [go_sem,seval,-List.reduceReplicate,E,zc,zf]<;>(try rfl))
                   · have dk:((nth P i).kind != 2)=true:=by simpa using hk
                     rw [hm2 hk] at ihX
                     refine .q ?_;refine .ifT (by simp (disch:=first|exact za|fail) only [go_sem,seval,-List.reduceReplicate,dk]) ?_
                     refine .q ?_;refine .text ?_;simp (disch:=first|exact za|fail) only [go_sem,seval,-List.reduceReplicate,E,hsl]
                     first | (refine ihX _ _ ?_ ?_) | (refine .z rfl ?_;refine ihX _ _ ?_ ?_) | (refine .z rfl ?_;refine .z rfl ?_;refine ihX _ _ ?_ ?_) | (refine .z rfl ?_;refine .z rfl ?_;refine .z rfl ?_;refine ihX _ _ ?_ ?_)
                     · simp (disch:=first|exact za|fail) only [go_sem,seval,-List.reduceReplicate,E,zc,zf,hs1]<;>(repeat' (first | rfl | refine And.intro ?_ ?_))
                     · first | rfl | (simp (disch:=first|exact za|fail) only [go_sem,seval,-List.reduceReplicate,E,zc,zf,hs1]<;>(try rfl))
                 · have hse:send (zZ id P 1 i 1) (mi id P i)=(zZ id P 1 (i+1) 1,enc (mi id P i),0):=zbN hz hp1
                   have hrv:recv (zZ id P 1 i 0) (enc (mi id P i)) 0=(zZ id P 1 (i+1) 0,mi id P i,0):=zbO hall hP.okI (by omega) (by decide)
                   have hel:(enc (mi id P i)).length≤3000:=zcD
                   refine .q ?_;refine .text ?_;simp (disch:=first|exact za|fail) only [go_sem,seval,-List.reduceReplicate,X,E,zc,zf]
                   refine CallK.of (fun R h=>zbd (zZ id P 1 i 1) o1 (mi id P i) hmi _ R h) ?_;simp (disch:=first|exact za|fail) only [go_sem,seval,-List.reduceReplicate,hse]
                   refine .q ?_;refine .text ?_;simp (disch:=first|exact za|fail) only [go_sem,seval,-List.reduceReplicate]
                   refine .q ?_;refine .ifF (by simp (disch:=first|exact za|fail) only [go_sem,seval,-List.reduceReplicate]) ?_
                   refine .skip ?_
                   refine .q ?_;refine .text ?_;simp (disch:=first|exact za|fail) only [go_sem,seval,-List.reduceReplicate,X,E]
                   refine .q ?_;refine .text ?_;simp (disch:=first|exact za|fail) only [go_sem,seval,-List.reduceReplicate,X,E]
                   refine CallK.of (fun R h=>zbL (zZ id P 1 i 0) o0 (enc (mi id P i)) (by omega) 0 _ R h) ?_;simp (disch:=first|exact za|fail) only [go_sem,seval,-List.reduceReplicate,hrv]
                   refine .q ?_;refine .text ?_;simp (disch:=first|exact za|fail) only [go_sem,seval,-List.reduceReplicate,X,E]
                   first | (refine ihV _ _ ?_ ?_) | (refine .z rfl ?_;refine ihV _ _ ?_ ?_) | (refine .z rfl ?_;refine .z rfl ?_;refine ihV _ _ ?_ ?_) | (refine .z rfl ?_;refine .z rfl ?_;refine .z rfl ?_;refine ihV _ _ ?_ ?_)
                   · simp (disch:=first|exact za|fail) only [go_sem,seval,-List.reduceReplicate,X,E]<;>(repeat' (first | rfl | refine And.intro ?_ ?_))
                   · exact zin
             · refine .q ?_;refine .text ?_;simp (disch:=first|exact za|fail) only [go_sem,seval,-List.reduceReplicate,V,zc,zf,hon,←hos]
               refine .q ?_;refine .text ?_;simp (disch:=first|exact za|fail) only [go_sem,seval,-List.reduceReplicate,V]
               first | (refine ihE _ _ ?_ (zk hQ hz) ?_) | (refine .z rfl ?_;refine ihE _ _ ?_ (zk hQ hz) ?_) | (refine .z rfl ?_;refine .z rfl ?_;refine ihE _ _ ?_ (zk hQ hz) ?_) | (refine .z rfl ?_;refine .z rfl ?_;refine .z rfl ?_;refine ihE _ _ ?_ (zk hQ hz) ?_)
               · simp (disch:=first|exact za|fail) only [go_sem,seval,-List.reduceReplicate,V,E,U,W,K,J,zc,zf]<;>(repeat' (first | rfl | refine And.intro ?_ ?_))
               · exact zoH
           · skip
             rcases hpar with hp0 | hp1
             · have dp:((i:Int) % 2 == 0)=true:=by rw [show (i:Int) % 2=0 by omega];rfl
               refine .q ?_;refine .ifT (by simp (disch:=first|exact za|fail) only [go_sem,seval,-List.reduceReplicate,dp]) ?_
               refine .q ?_;refine .text ?_;simp (disch:=first|exact za|fail) only [go_sem,seval,-List.reduceReplicate,E]
               refine .q ?_;refine .cutE [3,4,5,6,8,12,13] [] [(H.n+4+T0.length+1+T.length,.cells (yR (mi id P i)))] (fun ihX => ?_) (fun env X => ?_)
               rotate_left 1
               simp (disch:=first|exact za|fail) only [go_sem,seval,-List.reduceReplicate,E] at X
               rotate_left 1
               · by_cases hk:(nth P i).kind=2
                 · have dk:((nth P i).kind != 2)=false:=by simpa using hk
                   rw [hm1 hk] at ihX
                   refine .q ?_;refine .ifF (by simp (disch:=first|exact za|fail) only [go_sem,seval,-List.reduceReplicate,dk]) ?_
                   refine .skip ?_
                   first | (refine ihX _ _ ?_ ?_) | (refine .z rfl ?_;refine ihX _ _ ?_ ?_) | (refine .z rfl ?_;refine .z rfl ?_;refine ihX _ _ ?_ ?_) | (refine .z rfl ?_;refine .z rfl ?_;refine .z rfl ?_;refine ihX _ _ ?_ ?_)
                   · simp (disch:=first|exact za|fail) only [go_sem,seval,-List.reduceReplicate,E,zc,zf]<;>(repeat' (first | rfl | refine And.intro ?_ ?_))
                   · first | rfl | (simp (disch:=first|exact za|fail) only [go_sem,seval,-List.reduceReplicate,E,zc,zf]<;>(try rfl))
                 · have dk:((nth P i).kind != 2)=true:=by simpa using hk
                   rw [hm2 hk] at ihX
                   refine .q ?_;refine .ifT (by simp (disch:=first|exact za|fail) only [go_sem,seval,-List.reduceReplicate,dk]) ?_
                   refine .q ?_;refine .text ?_;simp (disch:=first|exact za|fail) only [go_sem,seval,-List.reduceReplicate,E,hsl]
                   first | (refine ihX _ _ ?_ ?_) | (refine .z rfl ?_;refine ihX _ _ ?_ ?_) | (refine .z rfl ?_;refine .z rfl ?_;refine ihX _ _ ?_ ?_) | (refine .z rfl ?_;refine .z rfl ?_;refine .z rfl ?_;refine ihX _ _ ?_ ?_)
                   · simp (disch:=first|exact za|fail) only [go_sem,seval,-List.reduceReplicate,E,zc,zf,hs0]<;>(repeat' (first | rfl | refine And.intro ?_ ?_))
                   · first | rfl | (simp (disch:=first|exact za|fail) only [go_sem,seval,-List.reduceReplicate,E,zc,zf,hs0]<;>(try rfl))
               · have hne:(send (zZ id P 1 i 0) (mi id P i)).2.2≠0:=by have:=hz;unfold ser at this;rwa [hp0] at this
                 have dz:((send (zZ id P 1 i 0) (mi id P i)).2.2 != 0)=true:=by simpa using hne
                 refine .q ?_;refine .text ?_;simp (disch:=first|exact za|fail) only [go_sem,seval,-List.reduceReplicate,X,E,zc,zf]
                 refine CallK.of (fun R h=>zbd (zZ id P 1 i 0) o0 (mi id P i) hmi _ R h) ?_;simp (disch:=first|exact za|fail) only [go_sem,seval,-List.reduceReplicate]
                 refine .q ?_;refine .text ?_;simp (disch:=first|exact za|fail) only [go_sem,seval,-List.reduceReplicate]
                 refine .q ?_;refine .ifT (by simp (disch:=first|exact za|fail) only [go_sem,seval,-List.reduceReplicate,dz]) ?_
                 refine .q ?_;refine .text ?_;simp (disch:=first|exact za|fail) only [go_sem,seval,-List.reduceReplicate,X,E]
                 refine .q ?_;refine .rt Tryz.func10 (by rw [Tryz.results10]) (hx:=by simp (disch:=first|exact za|fail) only [go_sem,seval,-List.reduceReplicate,X,E];rfl) (hR := ?_);simp (disch:=first|exact za|fail) only [go_sem,seval,-List.reduceReplicate,X,E]
                 exact h i (by omega) hQ (.inr hz)
             · have dp:((i:Int) % 2 == 0)=false:=by rw [show (i:Int) % 2=1 by omega];rfl
               refine .q ?_;refine .ifF (by simp (disch:=first|exact za|fail) only [go_sem,seval,-List.reduceReplicate,dp]) ?_
               refine .q ?_;refine .text ?_;simp (disch:=first|exact za|fail) only [go_sem,seval,-List.reduceReplicate,E]
               refine .q ?_;refine .cutE [3,4,5,6,8,12,13] [] [(H.n+4+T0.length+1+T.length,.cells (yR (mi id P i)))] (fun ihX => ?_) (fun env X => ?_)
               rotate_left 1
               simp (disch:=first|exact za|fail) only [go_sem,seval,-List.reduceReplicate,E] at X
               rotate_left 1
               · by_cases hk:(nth P i).kind=2
                 · have dk:((nth P i).kind != 2)=false:=by simpa using hk
                   rw [hm1 hk] at ihX
                   refine .q ?_;refine .ifF (by simp (disch:=first|exact za|fail) only [go_sem,seval,-List.reduceReplicate,dk]) ?_
                   refine .skip ?_
                   first | (refine ihX _ _ ?_ ?_) | (refine .z rfl ?_;refine ihX _ _ ?_ ?_) | (refine .z rfl ?_;refine .z rfl ?_;refine ihX _ _ ?_ ?_) | (refine .z rfl ?_;refine .z rfl ?_;refine .z rfl ?_;refine ihX _ _ ?_ ?_)
                   · simp (disch:=first|exact za|fail) only [go_sem,seval,-List.reduceReplicate,E,zc,zf]<;>(repeat' (first | rfl | refine And.intro ?_ ?_))
                   · first | rfl | (simp (disch:=first|exact za|fail) only [go_sem,seval,-List.reduceReplicate,E,zc,zf]<;>(try rfl))
                 · have dk:((nth P i).kind != 2)=true:=by simpa using hk
                   rw [hm2 hk] at ihX
                   refine .q ?_;refine .ifT (by simp (disch:=first|exact za|fail) only [go_sem,seval,-List.reduceReplicate,dk]) ?_
                   refine .q ?_;refine .text ?_;simp (disch:=first|exact za|fail) only [go_sem,seval,-List.reduceReplicate,E,hsl]
                   first | (refine ihX _ _ ?_ ?_) | (refine .z rfl ?_;refine ihX _ _ ?_ ?_) | (refine .z rfl ?_;refine .z rfl ?_;refine ihX _ _ ?_ ?_) | (refine .z rfl ?_;refine .z rfl ?_;refine .z rfl ?_;refine ihX _ _ ?_ ?_)
                   · simp (disch:=first|exact za|fail) only [go_sem,seval,-List.reduceReplicate,E,zc,zf,hs1]<;>(repeat' (first | rfl | refine And.intro ?_ ?_))
                   · first | rfl | (simp (disch:=first|exact za|fail) only [go_sem,seval,-List.reduceReplicate,E,zc,zf,hs1]<;>(try rfl))
               · have hne:(send (zZ id P 1 i 1) (mi id P i)).2.2≠0:=by have:=hz;unfold ser at this;rwa [hp1] at this
                 have dz:((send (zZ id P 1 i 1) (mi id P i)).2.2 != 0)=true:=by simpa using hne
                 refine .q ?_;refine .text ?_;simp (disch:=first|exact za|fail) only [go_sem,seval,-List.reduceReplicate,X,E,zc,zf]
                 refine CallK.of (fun R h=>zbd (zZ id P 1 i 1) o1 (mi id P i) hmi _ R h) ?_;simp (disch:=first|exact za|fail) only [go_sem,seval,-List.reduceReplicate]
                 refine .q ?_;refine .text ?_;simp (disch:=first|exact za|fail) only [go_sem,seval,-List.reduceReplicate]
                 refine .q ?_;refine .ifT (by simp (disch:=first|exact za|fail) only [go_sem,seval,-List.reduceReplicate,dz]) ?_
                 refine .q ?_;refine .text ?_;simp (disch:=first|exact za|fail) only [go_sem,seval,-List.reduceReplicate,X,E]
                 refine .q ?_;refine .rt Tryz.func10 (by rw [Tryz.results10]) (hx:=by simp (disch:=first|exact za|fail) only [go_sem,seval,-List.reduceReplicate,X,E];rfl) (hR := ?_);simp (disch:=first|exact za|fail) only [go_sem,seval,-List.reduceReplicate,X,E]
                 exact h i (by omega) hQ (.inr hz)
end walks
end Go.Proofs.YtgflpgcogkdpgaaGreatDoor

/-
  Audits: the laws' meters.
-/
namespace Go.Proofs.YtgflpgcogkdpgaaGreatDoor
open Go Go.AL

def zjx (b:BitVec 8) (k:Nat):Bool:=(b >>> k) &&& 1#8 == 1#8
def mt (l:By) (i:Nat):Mt:=⟨BitVec.ofInt 64 i,[tab (zjx (nth l i)) 4]++(if nth l i &&& 128#8 != 0#8 then [ [nth l i &&& 64#8 != 0#8] ] else [])⟩
def mts (l:By):List Mt:=tab (mt l) (min l.length 12)
theorem mk5 {a b c d e:PV}:zq [.p a,.p b,.p c,.p d,.p e] = .p (.agg [a,b,c,d,e]):=rfl
theorem ac5 {a b c d e:PV}:zi (.p (.agg [a,b,c,d,e]))=some [.p a,.p b,.p c,.p d,.p e]:=rfl
def epT (ps:List Bool):PV := .agg [i64 0,i64 0,bo false,.sl false 3 (pl pnt ps),.sl true 32 []]
section ept
variable {ps:List Bool} {a v:Nat}
theorem zBx:zq [.p (i64 0),.p (i64 0),.p (bo false),.sl a v 3 (pl pnt ps),.p (.sl true 32 [])] = .p (epT ps):=rfl
theorem zDD:(epT ps).weak=epo ps:=rfl
theorem zBy:(epT ps).cells.length=5:=rfl
def epV (b:Bool) (ps:List Bool):PV := .agg [i64 0,i64 0,bo false,.sl b 3 (pl pnt ps),.sl true 32 []]
theorem zBz {b:Bool}:zq [.p (i64 0),.p (i64 0),.p (bo false),.p (.sl b 3 (pl pnt ps)),.p (.sl true 32 [])] = .p (epV b ps):=rfl
theorem zDE {b:Bool}:(epV b ps).weak=epo ps:=rfl
theorem zBA {b:Bool}:(epV b ps).cells.length=5:=rfl
end ept
attribute [go_sem] zBx zDD zBy zBz zDE zBA
def mtU (v:BitVec 64) (x:AV):List AV := .p (zw v) :: (cl b8 (List.replicate 32 0#8)++[x])
def zwA (v:BitVec 64) (x:PV):PV := .agg (zw v :: (pl b8 (List.replicate 32 0#8)++[x]))
section mtu
variable {v:BitVec 64} {x y:AV} {a b:PV} {es:List (List Bool)} {α k:Nat} {c:Bool}
theorem zy6:AV.p (zw v) :: (List.map AV.p (pl b8 (List.replicate 32 0#8)++[PV.sl true 5 []])).set 32 y=mtU v y:=by
 rw [List.map_append,List.set_append_right _ _ (by simp [pl])];simp [mtU,cl,pl]
theorem zy7:(mtU v x).length=34:=by simp [mtU,cl]
theorem zoJ:(mtU v x)[33]? = some x:=by
 simp only [mtU,List.getElem?_cons_succ];rw [List.getElem?_append_right (by simp [cl])];simp [cl]
theorem zjy:(mtU v x).set 33 y=mtU v y:=by
 simp only [mtU,List.set_cons_succ];rw [List.set_append_right _ _ (by simp [cl])];simp [cl]
theorem zl0:(zw v :: (pl b8 (List.replicate 32 0#8)++[a])).map AV.p=mtU v (.p a):=by simp [mtU,cl,pl]
theorem zBB:zq (mtU v (.p a)) = .p (zwA v a):=by rw [←zl0,zq,zdF];rfl
theorem zBC:zi (.p (zwA v a))=some (mtU v (.p a)):=by show some (List.map AV.p _)=_;rw [zl0]
theorem zy8:zq (mtU v (.sl α k 5 (pl epo es))) = .p (mtr ⟨v,es⟩):=by
 have h:pvs? (mtU v (.sl α k 5 (pl epo es)))=some (zhF ⟨v,es⟩):=by
  have h0 : ∀ l:List PV,pvs? (l.map AV.p++[.sl α k 5 (pl epo es)])=some (l++[.sl false 5 (pl epo es)]):=fun l=>by
   induction l with
   | nil=>rfl
   | cons a l ih=>simp only [List.map_cons,List.cons_append,pvs?,ih];rfl
  have:=h0 (zw v :: pl b8 (List.replicate 32 0#8))
  rw [List.map_cons,List.cons_append,zni] at this
  exact this
 unfold zq
 rw [h];rfl
theorem zBD:(zwA v (.sl c 5 (pl epo es))).weak=mtr ⟨v,es⟩:=by
 show PV.agg (List.map PV.weak1 _)=_
 have h:(pl b8 (List.replicate 32 0#8)).map PV.weak1=pl b8 (List.replicate 32 0#8):=zed fun _=>rfl
 simp only [List.map_cons,List.map_append,List.map_nil,h];rfl
theorem zy9:(zwA v a).cells.length=34:=by simp [zwA,PV.cells,pl]
end mtu
attribute [go_sem] zy6 zy7 zoJ zjy zBB zBC zy8 zBD zy9
section walks
variable {G:Globs}
set_option maxHeartbeats 2000000 in
set_option maxRecDepth 20000 in
theorem zdl (l:By) (hl:l.length≤9223372036854775807) (H:Hp) (R:AV → Hp → Prop) (h:R (.p (.sl false 34 (pl mtr (mts l)))) H):ACall Tryz.prog G 17 [.p (.sl false 1 (pl b8 l))] H R:=by
 obtain⟨n,hn⟩ : ∃ n,n=min l.length 12:=⟨_,rfl⟩
 unfold mts at h
 rw [←hn] at h
 refine ACall.of_run (raw:=[]) Tryz.func17 rfl Tryz.ntmps17 (by simp) fun hbel => ?_
 refine .q ?_;refine .text ?_;simp (disch:=first|exact za|fail) only [go_sem,seval,-List.reduceReplicate]
 refine .q ?_;refine .text ?_;simp (disch:=first|exact za|fail) only [go_sem,seval,-List.reduceReplicate]
 refine .q ?_;refine .own 3 (by simp (disch:=first|exact za|fail) only [go_sem,seval,-List.reduceReplicate];rfl) ?_
 refine .q ?_;refine .text ?_;simp (disch:=first|exact za|fail) only [go_sem,seval,-List.reduceReplicate]
 (repeat refine .zs rfl ?_);refine .cutF [] [(3,.sl H.n n 34 (pl mtr (tab (mt l) n)))] [(H.n,.tail n)] (fun ihJ => ?_) (fun env T J => ?_)
 rotate_left 1
 simp (disch:=first|exact za|fail) only [go_sem,seval,-List.reduceReplicate] at J
 rotate_left 1
 · refine .q ?_;refine .loopF [0] (fun i=>[(3,.sl H.n i 34 (pl mtr (tab (mt l) i))),(4,.p (i64 i))]) (fun i=>[(H.n,.tail i)]) (fun i=>True) (0) (n) (by omega) ?_ (by first | rfl | (simp (disch:=first|exact za|fail) only [go_sem,seval,-List.reduceReplicate]<;>rfl)) ?_ ?_ ?_
   · simp (disch:=first|exact za|fail) only [go_sem,seval,-List.reduceReplicate]<;>(repeat' (first | rfl | refine And.intro ?_ ?_))
   · exact trivial
   intro env T E hQ;simp (disch:=first|exact za|fail) only [go_sem,seval,-List.reduceReplicate] at E
   rotate_left 1
   intro i env T hi0 hi E hQ ihE;simp (disch:=first|exact za|fail) only [go_sem,seval,-List.reduceReplicate] at E
   rotate_left 1
   · by_cases q:n < l.length
     · have d1:decide ((n:Int) < (l.length:Int))=true:=decide_eq_true (by omega)
       have d2:decide ((n:Int) < 12)=false:=decide_eq_false (by omega)
       refine .q ?_;refine .text ?_;simp (disch:=first|exact za|fail) only [go_sem,seval,-List.reduceReplicate,E,zc,zf,d1,d2]
       refine .q ?_;refine .ifF (by simp (disch:=first|exact za|fail) only [go_sem,seval,-List.reduceReplicate]) ?_
       first | (refine ihJ _ _ ?_ ?_) | (refine .z rfl ?_;refine ihJ _ _ ?_ ?_) | (refine .z rfl ?_;refine .z rfl ?_;refine ihJ _ _ ?_ ?_) | (refine .z rfl ?_;refine .z rfl ?_;refine .z rfl ?_;refine ihJ _ _ ?_ ?_)
       · simp (disch:=first|exact za|fail) only [go_sem,seval,-List.reduceReplicate,E,zc,zf]<;>(repeat' (first | rfl | refine And.intro ?_ ?_))
       · first | exact .mk _ rfl | exact .mk [] rfl | (apply Later.mk;simp (disch:=first|exact za|fail) only [go_sem,seval,-List.reduceReplicate,zm,E,zc,zf];exact rfl) | (apply Later.mk;simp (disch:=first|exact za|fail) only [go_sem,seval,-List.reduceReplicate,zm,zO,List.append_assoc,E,zc,zf]<;>(try rfl))
     · have d1:decide ((n:Int) < (l.length:Int))=false:=decide_eq_false (by omega)
       refine .q ?_;refine .text ?_;simp (disch:=first|exact za|fail) only [go_sem,seval,-List.reduceReplicate,E,zc,zf,d1]
       refine .q ?_;refine .ifF (by simp (disch:=first|exact za|fail) only [go_sem,seval,-List.reduceReplicate]) ?_
       first | (refine ihJ _ _ ?_ ?_) | (refine .z rfl ?_;refine ihJ _ _ ?_ ?_) | (refine .z rfl ?_;refine .z rfl ?_;refine ihJ _ _ ?_ ?_) | (refine .z rfl ?_;refine .z rfl ?_;refine .z rfl ?_;refine ihJ _ _ ?_ ?_)
       · simp (disch:=first|exact za|fail) only [go_sem,seval,-List.reduceReplicate,E,zc,zf]<;>(repeat' (first | rfl | refine And.intro ?_ ?_))
       · first | exact .mk _ rfl | exact .mk [] rfl | (apply Later.mk;simp (disch:=first|exact za|fail) only [go_sem,seval,-List.reduceReplicate,zm,E,zc,zf];exact rfl) | (apply Later.mk;simp (disch:=first|exact za|fail) only [go_sem,seval,-List.reduceReplicate,zm,zO,List.append_assoc,E,zc,zf]<;>(try rfl))
   · have d1:decide ((i:Int) < (l.length:Int))=true:=decide_eq_true (by omega)
     have hli:i < l.length:=by omega
     refine .q ?_;refine .text ?_;simp (disch:=first|exact za|fail) only [go_sem,seval,-List.reduceReplicate,E,zc,zf,d1]
     refine .q ?_;refine .ifT (by simp (disch:=first|exact za|fail) only [go_sem,seval,-List.reduceReplicate]) ?_
     refine .q ?_;refine .text ?_;simp (disch:=first|exact za|fail) only [go_sem,seval,-List.reduceReplicate,E,mk5,ac5]
     refine .q ?_;refine .ownC (H.n+1+T.length) 3 (by simp (disch:=first|exact za|fail) only [go_sem,seval,-List.reduceReplicate];rfl) (by rfl) ?_;simp (disch:=first|exact za|fail) only [go_sem,seval,-List.reduceReplicate,List.set_cons_zero,List.set_cons_succ]
     refine .q ?_;refine .text ?_;simp (disch:=first|exact za|fail) only [go_sem,seval,-List.reduceReplicate]
     refine .q ?_;refine .loopE [0,3,4,5] (fun k=>[(6,.p (i64 k))]) (fun k=>[(H.n+1+T.length,.cells [.p (i64 0),.p (i64 0),.p (bo false),.sl (H.n+1+T.length+1) k 3 (pl pnt (tab (zjx (nth l i)) k)),.p (.sl true 32 [])]),(H.n+1+T.length+1,.tail k)]) (fun k=>True) (0) (4) (by omega) ?_ (by first | rfl | (simp (disch:=first|exact za|fail) only [go_sem,seval,-List.reduceReplicate,E,zez]<;>rfl)) ?_ ?_ ?_
     · simp (disch:=first|exact za|fail) only [go_sem,seval,-List.reduceReplicate,E,zez]<;>(repeat' (first | rfl | refine And.intro ?_ ?_))
     · exact trivial
     intro env K hQ;simp (disch:=first|exact za|fail) only [go_sem,seval,-List.reduceReplicate,E,zez] at K
     rotate_left 1
     intro k env hk0 hk K hQ ihK;simp (disch:=first|exact za|fail) only [go_sem,seval,-List.reduceReplicate,E,zez] at K
     rotate_left 1
     · refine .q ?_;refine .text ?_;simp (disch:=first|exact za|fail) only [go_sem,seval,-List.reduceReplicate,K,zc,zf]
       refine .q ?_;refine .ifF (by simp (disch:=first|exact za|fail) only [go_sem,seval,-List.reduceReplicate]) ?_
       have h1e : ∀ p,[epo p]=pl epo [p]:=fun _=>rfl
       have h1p : ∀ u,PV.agg [.sl false 2 [],.sl false 2 [],bo u]=pnt u:=fun _=>rfl
       have h1q : ∀ u,[pnt u]=pl pnt [u]:=fun _=>rfl
       have hee : ∀ a b:List Bool,pl epo [a]++pl epo [b]=pl epo [a,b]:=fun _ _=>rfl
       have hmt:mt l i=⟨BitVec.ofInt 64 i,[tab (zjx (nth l i)) 4]++(if nth l i &&& 128#8 != 0#8 then [ [nth l i &&& 64#8 != 0#8] ] else [])⟩:=rfl
       refine .q ?_;refine .text ?_;simp (disch:=first|exact za|fail) only [go_sem,seval,-List.reduceReplicate,E,K,h1e]
       refine .q ?_;refine .text ?_;simp (disch:=first|exact za|fail) only [go_sem,seval,-List.reduceReplicate,K,E]
       cases hb:nth l i &&& 128#8 != 0#8 with
       | true =>
        have hmt2:mtr ⟨BitVec.ofInt 64 i,[tab (zjx (nth l i)) 4,[nth l i &&& 64#8 != 0#8] ]⟩=mtr (mt l i):=by rw [hmt,hb];rfl
        refine .q ?_;refine .ifT (by simp (disch:=first|exact za|fail) only [go_sem,seval,-List.reduceReplicate,hb]) ?_
        refine .q ?_;refine .ownC (H.n+1+T.length+2) 33 (by simp (disch:=first|exact za|fail) only [go_sem,seval,-List.reduceReplicate,zoJ,zjy];rfl) (by rfl) ?_;simp (disch:=first|exact za|fail) only [go_sem,seval,-List.reduceReplicate,List.set_cons_zero,List.set_cons_succ,zoJ,zjy]
        refine .q ?_;refine .open [12,14] follows (by kernel_rfl) ?_;simp (disch:=first|exact za|fail) only [go_sem,seval,-List.reduceReplicate,E,K,h1p,h1q,h1e,hee]
        refine .q ?_;refine .text ?_;simp (disch:=first|exact za|fail) only [go_sem,seval,-List.reduceReplicate,K,E,hmt2]
        refine .q ?_;refine .text ?_;simp (disch:=first|exact za|fail) only [go_sem,seval,-List.reduceReplicate,K,E]
        first | (refine ihE _ _ ?_ trivial ?_) | (refine .z rfl ?_;refine ihE _ _ ?_ trivial ?_) | (refine .z rfl ?_;refine .z rfl ?_;refine ihE _ _ ?_ trivial ?_) | (refine .z rfl ?_;refine .z rfl ?_;refine .z rfl ?_;refine ihE _ _ ?_ trivial ?_)
        · simp (disch:=first|exact za|fail) only [go_sem,seval,-List.reduceReplicate,K,E,zc,zf,yU]<;>(repeat' (first | rfl | refine And.intro ?_ ?_))
        · first | exact .mk _ rfl | exact .mk [] rfl | (apply Later.mk;simp (disch:=first|exact za|fail) only [go_sem,seval,-List.reduceReplicate,zm,K,E,zc,zf,yU];exact rfl) | (apply Later.mk;simp (disch:=first|exact za|fail) only [go_sem,seval,-List.reduceReplicate,zm,zO,List.append_assoc,K,E,zc,zf,yU]<;>(try rfl))
       | false =>
        have hmt2:mtr ⟨BitVec.ofInt 64 i,[tab (zjx (nth l i)) 4]⟩=mtr (mt l i):=by rw [hmt,hb];rfl
        refine .q ?_;refine .ifF (by simp (disch:=first|exact za|fail) only [go_sem,seval,-List.reduceReplicate,hb]) ?_
        refine .skip ?_
        refine .q ?_;refine .text ?_;simp (disch:=first|exact za|fail) only [go_sem,seval,-List.reduceReplicate,K,E,hmt2]
        refine .q ?_;refine .text ?_;simp (disch:=first|exact za|fail) only [go_sem,seval,-List.reduceReplicate,K,E]
        first | (refine ihE _ _ ?_ trivial ?_) | (refine .z rfl ?_;refine ihE _ _ ?_ trivial ?_) | (refine .z rfl ?_;refine .z rfl ?_;refine ihE _ _ ?_ trivial ?_) | (refine .z rfl ?_;refine .z rfl ?_;refine .z rfl ?_;refine ihE _ _ ?_ trivial ?_)
        · simp (disch:=first|exact za|fail) only [go_sem,seval,-List.reduceReplicate,K,E,zc,zf,yU]<;>(repeat' (first | rfl | refine And.intro ?_ ?_))
        · first | exact .mk _ rfl | exact .mk [] rfl | (apply Later.mk;simp (disch:=first|exact za|fail) only [go_sem,seval,-List.reduceReplicate,zm,K,E,zc,zf,yU];exact rfl) | (apply Later.mk;simp (disch:=first|exact za|fail) only [go_sem,seval,-List.reduceReplicate,zm,zO,List.append_assoc,K,E,zc,zf,yU]<;>(try rfl))
     · have hst:PV.agg [.sl false 2 [],.sl false 2 [],bo (nth l i >>> k &&& 1#8 == 1#8)]=pnt (zjx (nth l i) k):=rfl
       refine .q ?_;refine .text ?_;simp (disch:=first|exact za|fail) only [go_sem,seval,-List.reduceReplicate,K,zc,zf]
       refine .q ?_;refine .ifT (by simp (disch:=first|exact za|fail) only [go_sem,seval,-List.reduceReplicate]) ?_
       refine .q ?_;refine .open [12,14] follows (by kernel_rfl) ?_;simp (disch:=first|exact za|fail) only [go_sem,seval,-List.reduceReplicate,K,E,hst]
       refine .q ?_;refine .text ?_;simp (disch:=first|exact za|fail) only [go_sem,seval,-List.reduceReplicate,K]
       first | (refine ihK _ _ ?_ trivial ?_) | (refine .z rfl ?_;refine ihK _ _ ?_ trivial ?_) | (refine .z rfl ?_;refine .z rfl ?_;refine ihK _ _ ?_ trivial ?_) | (refine .z rfl ?_;refine .z rfl ?_;refine .z rfl ?_;refine ihK _ _ ?_ trivial ?_)
       · simp (disch:=first|exact za|fail) only [go_sem,seval,-List.reduceReplicate,K,E,zc,zf,yU]<;>(repeat' (first | rfl | refine And.intro ?_ ?_))
       · first | rfl | (simp (disch:=first|exact za|fail) only [go_sem,seval,-List.reduceReplicate,K,E,zc,zf,yU]<;>(try rfl))
 · refine .q ?_;refine .text ?_;simp (disch:=first|exact za|fail) only [go_sem,seval,-List.reduceReplicate,J,zc,zf]
   refine .q ?_;refine .rt Tryz.func17 (by rw [Tryz.results17]) (hx:=by simp (disch:=first|exact za|fail) only [go_sem,seval,-List.reduceReplicate,J];rfl) (hR := ?_);simp (disch:=first|exact za|fail) only [go_sem,seval,-List.reduceReplicate,J]
   exact h
end walks
end Go.Proofs.YtgflpgcogkdpgaaGreatDoor

/-
  Audits: the laws' fixed examples (plain).
-/
namespace Go.Proofs.YtgflpgcogkdpgaaGreatDoor
open Go Go.AL

theorem zpQ {P:Program} {G:Globs} {f:FuncId} {x y:AV} {H:Hp} {R:AV → Hp → Prop} (hxy : ∀ σ w v,RelV σ H w x v → RelV σ H w y v) (h:ACall P G f [y] H R):ACall P G f [x] H R :=
 fun σ w vs hr hvs=>h σ w vs hr ⟨hvs.1,fun i z v h1 h2=>by
  match i with
  | 0=>simp only [List.getElem?_cons_zero,Option.some.injEq] at h1;subst h1;exact hxy _ _ _ (hvs.2 0 x v rfl h2)
  | i+1=>simp at h1⟩
theorem zl1 {P:Program} {G:Globs} {f:FuncId} {fl:Bool} {sz:Nat} {H:Hp} {R:AV → Hp → Prop} (h:ACall P G f [.p (.sl fl sz [])] H R):ACall P G f [.p (.s (.slice none 0 0))] H R :=
 zpQ (fun _ _ _=>zAR) h
theorem zBE {w:World} {S:Nat → Nat → Prop} {sz sz':Nat} {v:Value} (h:RelP w S (.sl false sz []) v):RelP w S (.sl false sz' []) v:=by
 cases h with
 | emp _ _ a cap h hc=>exact .emp _ _ a cap h hc
 | sl _ _ _ g off cap f hfl hcap hsz hrd hc=>exact .emp _ _ _ cap (fun e=>by cases e) hcap.2
theorem zBF {w:World} {S:Nat → Nat → Prop} {a c:List PV} {n m sz:Nat} {v:Value} (h:RelP w S (.sl false 1 [.sl false n a,.sl false 0 [],.sl false m c]) v):RelP w S (.sl false 1 [.sl false n a,.sl false sz [],.sl false m c]) v:=by
 cases h with
 | sl _ _ _ g off cap f hfl hcap hsz hrd hc =>
  refine .sl _ _ _ g off cap f (fun e=>by cases e) hcap (fun x hx => ?_) hrd fun k y hk => ?_
  · simp only [List.mem_cons,List.not_mem_nil,or_false] at hx
    rcases hx with rfl | rfl | rfl<;>rfl
  · have e1:flat [PV.sl false n a,.sl false sz [],.sl false m c]=[.sl false n a,.sl false sz [],.sl false m c]:=rfl
    have e2:flat [PV.sl false n a,.sl false 0 [],.sl false m c]=[.sl false n a,.sl false 0 [],.sl false m c]:=rfl
    rw [e1] at hk
    rw [e2] at hc
    match k with
    | 0=>exact hc 0 y hk
    | 1=>simp at hk;subst hk;exact zBE (hc 1 _ rfl)
    | 2=>exact hc 2 y hk
    | k+3=>simp at hk
/-! ### Honest sessions of a sound plan -/
def gd (id:Int) (P:List Msg) (i:Nat):Bool:=small id && small i && fits (nth P i).kind i && holds (nth P i).kind (nth P i).text.length (nth P i).sums.length (nth P i).values.length && !((nth P i).values.any fun x => !zaB x) && decide ((zbk (nth P i).kind).getD 0 < 3)
theorem zBG {id:Int} {P:List Msg} : ∀ i,(∀ j,j≤i → gd id P j=true) → ∀ j,j≤i → ser id P j=0:=by
 suffices hs : ∀ i,(∀ j,j≤i → gd id P j=true) → (∀ j,j < i → ser id P j=0) → ser id P i=0 by
  intro i
  induction i with
  | zero =>
   intro h j hj
   obtain rfl:j=0:=(by omega)
   exact hs 0 h fun j hj=>by omega
  | succ i ih =>
   intro h j hj
   have hi:=ih fun j hj=>h j (by omega)
   rcases Nat.lt_or_ge j (i+1) with q | q
   · exact hi j (by omega)
   · obtain rfl:j=i+1:=(by omega)
     exact hs (i+1) h fun j hj=>hi j (by omega)
 intro i h hp
 have hg:=h i (Nat.le_refl _)
 unfold gd at hg
 simp only [Bool.and_eq_true] at hg
 obtain⟨⟨⟨⟨⟨g1,g2⟩,g3⟩,g4⟩,g5⟩,_⟩:=hg
 have hv:valid (mi id P i)=true:=by
  unfold valid
  simp only [Bool.and_eq_true]
  exact⟨⟨⟨⟨g1,g2⟩,g3⟩,g4⟩,g5⟩
 have hst:decide (3≤(zZ id P 1 i (i % 2)).state)=false:=by
  cases i with
  | zero=>rfl
  | succ i =>
   have hgi:=h i (by omega)
   unfold gd at hgi
   simp only [Bool.and_eq_true,decide_eq_true_eq] at hgi
   have:(zZ id P 1 (i+1) ((i+1) % 2)).state=(zbk (nth P i).kind).getD 0:=rfl
   rw [this]
   exact decide_eq_false (by have:=hgi.2;omega)
 have hse:((zZ id P 1 i (i % 2)).state != 0 && !zbc (zZ id P 1 i (i % 2)))=false:=by
  by_cases h0:i=0
  · subst h0
    rw [show (zZ id P 1 0 (0 % 2)).state=0 from rfl];rfl
  · have hs:zbc (zZ id P 1 i (i % 2))=true:=by
     have hstep:(zZ id P 1 i (i % 2)).step=i:=zbe i
     have hlast:(zZ id P 1 i (i % 2)).last=la id P (i % 2) i:=rfl
     unfold zbc
     rw [hstep,hlast]
     have hi2:i % 2=0 ∨ i % 2=1:=by omega
     rcases hi2 with q | q
     · obtain⟨l1,l2⟩:=zjw i hp 0 (by omega) (by omega)
       rw [q,l2,show ((la id P 0 i).kind != 0)=true by simpa using l1,show ((i:Int) % 2)=0 by omega];rfl
     · by_cases h1:i=1
       · subst h1;rfl
       · obtain⟨l1,l2⟩:=zjw i hp 1 (by omega) (by omega)
         rw [q,l2,show ((la id P 1 i).kind != 0)=true by simpa using l1,show ((i:Int) % 2)=1 by omega];rfl
    rw [hs];simp
 have hb:zcj (zZ id P 1 i (i % 2)) (mi id P i)=false:=by
  unfold zcj
  rw [hst,hse,show (zZ id P 1 i (i % 2)).step=i from zbe i,show (mi id P i).kind=(nth P i).kind from rfl,g3];rfl
 unfold ser Go.Proofs.YtgflpgcogkdpgaaGreatDoor.send
 rw [hb,zg7,hv]
 rfl
def xT:Tk:=⟨7,yp,[],[3],[ [⟨5#64,0#64⟩],[],[⟨6#64,0#64⟩] ],0#8⟩
def xP:List Msg:=[pmk 1 yp [] [],pmk 2 [] [] [],pmk 4 [] [] [⟨5#64,0#64⟩],pmk 3 [] [3] [],pmk 4 [] [] [⟨6#64,0#64⟩] ]
theorem zpR:yA xT=xP:=by
 have h1:pm1 xT (rn xT)=pmk 2 [] [] []:=zlZ
 have h2:yA xT=[pmk 1 (tx0 xT) [] [],pm1 xT (rn xT)]++tab (pv xT) 3:=rfl
 rw [h2,h1]
 have e0:zg0 ⟨5#64,0#64⟩=⟨5#64,0#64⟩:=by decide
 have e1:zg0 ⟨6#64,0#64⟩=⟨6#64,0#64⟩:=by decide
 have p0:pv xT 0=pmk 4 [] [] [zg0 ⟨5#64,0#64⟩]:=rfl
 have p1:pv xT 1=pmk 3 [] [3] []:=rfl
 have p2:pv xT 2=pmk 4 [] [] [zg0 ⟨6#64,0#64⟩]:=rfl
 rw [e0] at p0
 rw [e1] at p2
 show _++[pv xT 0,pv xT 1,pv xT 2]=_
 rw [p0,p1,p2]
 rfl
theorem zDF:tid xT=7:=by decide
theorem zDG : ∀ j,j≤4 → gd 7 xP j=true:=by decide
theorem zoK : ∀ j,j < 5 → ser 7 xP j=0:=fun j hj=>zBG 4 zDG j (by omega)
theorem zzO:PlOk xP:=by
 rw [←zpR]
 exact zfJ fun s hs=>by
  rw [List.mem_singleton.1 hs]
  exact⟨by decide,by decide⟩
def xL:List Msg:=yb 7 xP 5
theorem zBH:aud xL=0:=zg8 zzO ⟨by decide,by decide⟩ zoK
theorem zeV:xL.length=5:=zh
theorem zha {j:Nat} (hj:j < 5):(enc (nth xL j)).length=53+(nth xP j).text.length+8*(nth xP j).sums.length+16*(nth xP j).values.length:=by
 rw [xL,yK hj,zde (zdz (zoK j hj)).2]
 rfl
theorem zwB:zg4 xL=usV 310 5 5:=by
 unfold zg4
 have hb:uB xL 5=310:=by
  simp only [uB]
  rw [zha (by decide),zha (by decide),zha (by decide),zha (by decide),zha (by decide)]
  rfl
 have hw:uW xL 5=5:=by
  simp only [uW,xL,yK (show 0 < 5 by decide),yK (show 1 < 5 by decide),yK (show 2 < 5 by decide),yK (show 3 < 5 by decide),yK (show 4 < 5 by decide)]
  rfl
 rw [zeV,hb,hw];rfl
theorem zpS {m:Msg} {l:List Msg} (h0:0≤m.session∧m.session≤2147483647) (hf:fits m.kind 0=false):aud (m :: l)=290:=by
 have hs:(send (zeQ m.session 2147483647) m).2.2=290:=by
  have hb:zcj (zeQ m.session 2147483647) m=true:=by
   unfold zcj
   rw [show (zeQ m.session 2147483647).step=0 from rfl,hf];simp
  unfold Go.Proofs.YtgflpgcogkdpgaaGreatDoor.send
  rw [hb];rfl
 have he:er (zam m.session) (m :: l) 0=290:=by
  unfold er zdX
  show (if (send (zeQ m.session 2147483647) m).2.2≠0 then _ else _:(Nat → Ses) × Int).2=290
  rw [if_pos (by rw [hs];decide)]
  exact hs
 unfold aud
 rw [if_neg (by simp),show (nth (m :: l) 0)=m from rfl,if_neg (by omega),zdg (i:=0) rfl (by rw [he];decide) _ (by simp),he]
theorem zza:aud (xL.drop 1)=290:=by
 have:xL.drop 1=mi 7 xP 1 :: [mi 7 xP 2,mi 7 xP 3,mi 7 xP 4]:=rfl
 rw [this]
 exact zpS ⟨by show (0:Int)≤7;decide,by show (7:Int)≤_;decide⟩ rfl
theorem zwC:aud [pmk 2 [] [] [] ]=290:=zpS ⟨by decide,by decide⟩ rfl
theorem zzb:aud [{ pmk 0 [] [] [] with session := -1 }]=1:=rfl
theorem zzc:aud []=0:=rfl
end Go.Proofs.YtgflpgcogkdpgaaGreatDoor

/-
  Audits: the laws' fixed examples of meters,certificates and bounds (plain).
-/
namespace Go.Proofs.YtgflpgcogkdpgaaGreatDoor
open Go Go.AL

def zwD (ms:List Mt) (i:Nat):Bool:=(List.range (nth ms i).eps.length).any fun e=>(List.range (nth (nth ms i).eps e).length).any fun k => !nth (nth (nth ms i).eps e) k && (List.range i).any fun j=>decide (e < (nth ms j).eps.length) && (decide (k < (nth (nth ms j).eps e).length) && nth (nth (nth ms j).eps e) k)
theorem zhb {ms:List Mt} {i:Nat}:zwD ms i=true ↔ zfy ms i:=by
 unfold zwD zfy zoz zju
 simp only [List.any_eq_true,List.mem_range,Bool.and_eq_true,Bool.not_eq_true',decide_eq_true_eq]
 constructor
 · rintro ⟨e,he,k,hk,h1,j,hj,h2⟩;exact⟨e,k,he,hk,h1,j,hj,h2⟩
 · rintro ⟨e,k,he,hk,h1,j,hj,h2⟩;exact⟨e,he,k,hk,h1,j,hj,h2⟩
theorem SpR.yes {ms:List Mt} {i:Nat} (h1:i < ms.length) (h2:zwD ms i=true) (h3 : ∀ j,j < i → zwD ms j=false):SpR ms i true :=
 .inl ⟨rfl,h1,zhb.1 h2,fun j hj h=>by have:=zhb.2 h;rw [h3 j hj] at this;cases this⟩
theorem SpR.no {ms:List Mt} (h3 : ∀ j,j < ms.length → zwD ms j=false):SpR ms 0 false :=
 .inr ⟨rfl,rfl,fun j hj h=>by have:=zhb.2 h;rw [h3 j hj] at this;cases this⟩
theorem zEt:SpR (mts [1#8,0#8]) 1 true := .yes (by decide) (by decide) (by decide)
theorem zEu:SpR (mts [0#8,1#8,3#8,7#8]) 0 false := .no (by decide)
theorem zEv:SpR (mts [2#8,3#8,3#8,1#8]) 3 true := .yes (by decide) (by decide) (by decide)
theorem zoL {l:By}:Sm (mts l):=by
 have h : ∀ i,i < (mts l).length → nth (mts l) i=mt l i:=fun i hi=>by
  unfold mts at hi ⊢
  rw [zfG (by simpa [zbZ] using hi)]
 refine⟨by unfold mts;rw [zbZ];omega,fun i hi => ?_,fun i hi e he => ?_⟩
 · rw [h i hi];unfold mt;split<;>simp
 · rw [h i hi] at he ⊢
   unfold mt at he ⊢
   dsimp only at he ⊢
   match e with
   | 0=>rw [show nth ([tab (zjx (nth l i)) 4]++(if nth l i &&& 128#8 != 0#8 then [ [nth l i &&& 64#8 != 0#8] ] else [])) 0=tab (zjx (nth l i)) 4 from rfl,zbZ];omega
   | e+1 =>
    by_cases c:(nth l i &&& 128#8 != 0#8)=true
    · rw [if_pos c] at he ⊢
      have:e=0:=by simp at he;omega
      subst this
      rw [show nth ([tab (zjx (nth l i)) 4]++[ [nth l i &&& 64#8 != 0#8] ]) (0+1)=[nth l i &&& 64#8 != 0#8] from rfl];simp
    · rw [if_neg c] at he;simp at he
/-! ### Certificates -/
def crx (q:By) (g:Int) (s:List Int) (mid rest:List PV) (hm:mid.length=4) (hl:rest.length=10):Crt:=⟨q,g,List.replicate 32 0#8,mid,s,rest,rfl,hm,hl⟩
section cr
variable {mid rest:List PV} {hm:mid.length=4} {hl:rest.length=10}
theorem zoM {q:By} {g:Int} {s:List Int} (h1:okI g) (h2:q.length≤100) (h3:s.length≤100):CrtOk (crx q g s mid rest hm hl):=⟨h1,Nat.le_trans h2 (by decide),Nat.le_trans h3 (by decide)⟩
theorem zBI:smB []=true:=zwr fun a b ha=>absurd ha (by simp)
theorem zBJ:smB [crx yp 0 [3] mid rest hm hl,crx yp 0 [3] mid rest hm hl,crx yp 1 [4] mid rest hm hl]=true:=zwr fun a b ha hb e=>by
 have k0:nth [crx yp 0 [3] mid rest hm hl,crx yp 0 [3] mid rest hm hl,crx yp 1 [4] mid rest hm hl] 0=crx yp 0 [3] mid rest hm hl:=rfl
 have k1:nth [crx yp 0 [3] mid rest hm hl,crx yp 0 [3] mid rest hm hl,crx yp 1 [4] mid rest hm hl] 1=crx yp 0 [3] mid rest hm hl:=rfl
 have k2:nth [crx yp 0 [3] mid rest hm hl,crx yp 0 [3] mid rest hm hl,crx yp 1 [4] mid rest hm hl] 2=crx yp 1 [4] mid rest hm hl:=rfl
 have c : ∀ x:Nat,x < 3 → x=0 ∨ x=1 ∨ x=2:=by omega
 have hne:(crx yp 0 [3] mid rest hm hl).key≠(crx yp 1 [4] mid rest hm hl).key:=fun e=>by
  have:=congrArg (fun q:Qn=>q.2.1) e
  simp [Crt.key,crx] at this
 rcases c a ha with rfl | rfl | rfl<;>rcases c b hb with rfl | rfl | rfl<;>simp only [k0,k1,k2] at e ⊢
 · exact absurd e hne
 · exact absurd e hne
 · exact absurd e.symm hne
 · exact absurd e.symm hne
theorem zBK:smB [crx yp 0 [3] mid rest hm hl,crx yp 1 [4] mid rest hm hl,crx yp 0 [4] mid rest hm hl]=false:=zzL fun h=>by
 have:=h 0 2 (by simp) (by simp) rfl
 have e0:(nth [crx yp 0 [3] mid rest hm hl,crx yp 1 [4] mid rest hm hl,crx yp 0 [4] mid rest hm hl] 0).sums=[3]:=rfl
 have e2:(nth [crx yp 0 [3] mid rest hm hl,crx yp 1 [4] mid rest hm hl,crx yp 0 [4] mid rest hm hl] 2).sums=[4]:=rfl
 rw [e0,e2] at this
 simp at this
end cr
/-! ### Bounds -/
def zl2 (n:Nat):Circ:=⟨n,[ [⟨0,0,0#64,1#64,0#64,0#64⟩] ],1⟩
theorem zeE {n:Nat} (h:n≤1000):Cn (zl2 n) n:=⟨rfl,h,by show 1≤1000;decide,fun k hk=>by
 have:k=0:=by simp [zl2] at hk;omega
 subst this;show 1≤1000;decide⟩
theorem zwE:zco (zl2 1) 1 0=2:=by decide
theorem zDH:zlT 310 5 5 2=true:=by decide
theorem zDI:zlT 0 1000 0 2=false:=by decide
theorem zDJ:zlT (-1) 0 0 2=false:=by decide
end Go.Proofs.YtgflpgcogkdpgaaGreatDoor

/-
  Audits: the fixed examples of the laws.
-/
namespace Go.Proofs.YtgflpgcogkdpgaaGreatDoor
open Go Go.AL

def tk0:PV := .agg [i64 7,str (bytesOf yp),.sl false 1 [],.sl false 1 (pl i64 [3]),.sl false 1 [.sl false 2 (pl ext [⟨5#64,0#64⟩]),.sl false 0 [],.sl false 2 (pl ext [⟨6#64,0#64⟩])],b8 0]
theorem zDK {σ:Gh} {H:Hp} {w:World} {v:Value} (h:RelV σ H w (.p tk0) v):RelV σ H w (.p (tkv xT)) v:=by
 cases h with
 | p h =>
  cases h with
  | agg xs vs hl h1 h =>
   refine .p (.agg _ vs hl h1 fun i x v hx hv => ?_)
   match i with
   | 0=>exact h 0 x v hx hv
   | 1=>exact h 1 x v hx hv
   | 2=>exact h 2 x v hx hv
   | 3=>exact h 3 x v hx hv
   | 4 =>
    have:=h 4 _ v rfl hv
    obtain rfl:=Option.some.inj hx
    exact zBF this
   | 5=>exact h 5 x v hx hv
   | i+6=>simp at hx
/-! ### Certificates as they are written down -/
def cTl (S:PV):List PV:=pl b8 (List.replicate 32 0#8)++[i64 0,i64 0,i64 0,i64 0,S,PV.sl true 1 [],PV.sl true 6 [],PV.sl true 6 [],PV.sl true 1 [],zw 0#64,zw 0#64,PV.sl true 2 [],PV.sl true 2 [],PV.sl true 1 [],PV.sl true 32 [] ]
def cP (q:By) (k:Int) (S:PV):PV := .agg (str (bytesOf q) :: i64 k :: cTl S)
def cC (q:By) (k:Int) (S:PV):List AV:=(str (bytesOf q) :: i64 k :: cTl S).map .p
def zEw:List PV:=[i64 0,i64 0,i64 0,i64 0]
def zDL:List PV:=[PV.sl false 1 [],PV.sl false 6 [],PV.sl false 6 [],PV.sl false 1 [],zw 0#64,zw 0#64,PV.sl false 2 [],PV.sl false 2 [],PV.sl false 1 [],PV.sl false 32 [] ]
def cX (q:By) (k:Int) (s:List Int):Crt:=crx q k s zEw zDL rfl rfl
section cp
variable {q q':By} {k k':Int} {S S':PV} {s:List Int}
theorem zpT:(cTl S).length=47:=by simp [cTl,pl]
theorem zBL:(cC q k S).length=49:=by simp [cC,zpT]
theorem zDM:(cP q k S).cells.length=49:=by simp [cP,PV.cells,zpT]
theorem zDN:zi (.p (cP q k S))=some (cC q k S):=rfl
theorem zDO:zq (cC q k S) = .p (cP q k S):=by unfold zq cC;rw [zdF];rfl
theorem zEx:AV.p (str ByteArray.empty) :: AV.p (i64 0) :: List.map AV.p (pl b8 (List.replicate 32 0#8)++[i64 0,i64 0,i64 0,i64 0,PV.sl true 1 [],PV.sl true 1 [],PV.sl true 6 [],PV.sl true 6 [],PV.sl true 1 [],zw 0#64,zw 0#64,PV.sl true 2 [],PV.sl true 2 [],PV.sl true 1 [],PV.sl true 32 [] ])=cC [] 0 (.sl true 1 []):=rfl
theorem zDP:(cC q k S).set 0 (.p (str (bytesOf q')))=cC q' k S:=rfl
theorem zDQ:(cC q k S).set 1 (.p (i64 k'))=cC q k' S:=rfl
theorem zBM:(cC q k S).set 38 (.p S')=cC q k S':=rfl
theorem zBN {b:Bool}:(cP q k (.sl b 1 (pl i64 s))).weak=crt (cX q k s):=by
 show PV.agg (List.map PV.weak1 (_ :: _ :: (pl b8 (List.replicate 32 0#8)++_)))=_
 simp only [List.map_cons,List.map_append,List.map_nil]
 rw [zed fun _=>rfl]
 rfl
end cp
attribute [go_sem] zDM zDN zBL zDO zEx zDP zDQ zBM
theorem zEy:ser 7 xP 5≠0:=by
 have hb:zcj (zZ 7 xP 1 5 (5 % 2)) (mi 7 xP 5)=true:=by
  unfold zcj
  rw [show (zZ 7 xP 1 5 (5 % 2)).step=5 from zbe 5,show fits (mi 7 xP 5).kind 5=false from rfl];simp
 unfold ser Go.Proofs.YtgflpgcogkdpgaaGreatDoor.send
 rw [hb];exact (by decide:(290:Int)≠0)
def mNeg:PV:=mV 0 (-1) 0 [] (List.replicate 32 0#8) (.sl true 1 []) (.sl true 2 [])
theorem zzd:mNeg.cells.length=38:=by simp [mNeg,mV,PV.cells,pl]
theorem zBO:mNeg.weak=ym { pmk 0 [] [] [] with session := -1 }:=zyE (su:=[]) (va:=[]) (by simp) rfl rfl
theorem zBP:(pmk 2 [] [] []).Ok:=⟨⟨by decide,by decide⟩,⟨by decide,by decide⟩,⟨by decide,by decide⟩,by decide,by decide,by decide⟩
theorem nth_drop {α:Type} [Inhabited α] {l:List α} {n i:Nat}:nth (l.drop n) i=nth l (n+i):=by simp [nth]
theorem ok3 {a b c:Crt} (ha:CrtOk a) (hb:CrtOk b) (hc:CrtOk c) : ∀ i,i < [a,b,c].length → CrtOk (nth [a,b,c] i):=fun i hi=>by
 match i with
 | 0=>exact ha
 | 1=>exact hb
 | 2=>exact hc
 | i+3=>exact absurd hi (by simp)
section walks
variable {G:Globs} {r1 r2:Nat} {m1:List (Int × Rule)} {m2:List (Int × Int)}
theorem zhc {ms:List Mt} (hs:Sm ms) {i:Nat} {b:Bool} (hu:SpR ms i b) (H:Hp) (R:AV → Hp → Prop) (h:R (.tup [.p (i64 (i:Nat)),.p (bo b)]) H):ACall Tryz.prog G 18 [.p (.sl false 34 (pl mtr ms))] H R :=
 zoB ms hs H R fun i' b' h'=>by
  obtain⟨rfl,rfl⟩:=SpR.uniq h' hu
  exact h
set_option maxHeartbeats 4000000 in
set_option maxRecDepth 20000 in
theorem zfe (g:GR G r1 r2 m1 m2) (H:Hp) (R:AV → Hp → Prop) (h:R (.p (bo true)) H):ACall Tryz.prog G 9 [] H R:=by
 refine ACall.of_run (raw:=[]) Tryz.func9 rfl Tryz.ntmps9 (by simp) fun hbel => ?_
 have cn:ye (Value.slice none 0 0) = .p (.sl true 0 []):=rfl
 have hM : ∀ R:AV → Hp → Prop,R (.p (.sl false 38 (pl ym xL))) H → ACall Tryz.prog G 10 [.p tk0] H R:=fun R h=>zpQ (fun σ w v=>zDK) (zdH xT ⟨by decide,by decide⟩ (by decide) (by decide) (by decide) (by decide) (fun i hi=>by
  match i with
  | 0=>decide
  | 1=>decide
  | 2=>decide
  | i+3=>exact absurd hi (by simp [xT])) (fun s hs=>by
   rw [List.mem_singleton.1 hs];exact⟨by decide,by decide⟩) H R fun n _ h1 h2=>by
  rw [zDF,zpR] at h1 h2 ⊢
  have hn:n=5:=by
   rcases h2 with e | e
   · exact e
   · rcases Nat.lt_or_ge n 5 with q | q
     · exact absurd (zoK n q) e
     · rcases Nat.lt_or_ge 5 n with q2 | q2
       · exact absurd (h1 5 q2) zEy
       · exact Nat.le_antisymm q2 q
  rw [hn];exact h)
 refine .q ?_;refine .text ?_;simp (disch:=first|exact za|fail) only [go_sem,seval,-List.reduceReplicate]
 refine .q ?_;refine .text ?_;simp (disch:=first|exact za|fail) only [go_sem,seval,-List.reduceReplicate,cn,zAQ]
 refine CallK.of (fun R h=>hM R h) ?_;simp (disch:=first|exact za|fail) only [go_sem,seval,-List.reduceReplicate,cn]
 have d5:(((xL.length:Nat):Int) != 5)=false:=by rw [zeV];rfl
 have okL : ∀ i,i < xL.length → (nth xL i).Ok:=fun i hi=>by
  rw [xL,yK (by rwa [zeV] at hi)]
  exact zlY zzO ⟨by decide,by decide⟩ (by rw [zeV] at hi;omega)
 have lnL:xL.length≤1000:=by rw [zeV];decide
 refine .q ?_;refine .text ?_;simp (disch:=first|exact za|fail) only [go_sem,seval,-List.reduceReplicate]
 refine .q ?_;refine .ifF (by simp (disch:=first|exact za|fail) only [go_sem,seval,-List.reduceReplicate,d5]) ?_
 refine .skip ?_
 refine .q ?_;refine .text ?_;simp (disch:=first|exact za|fail) only [go_sem,seval,-List.reduceReplicate]
 refine CallK.of (fun R h=>zdi g xL lnL okL _ R h) ?_;simp (disch:=first|exact za|fail) only [go_sem,seval,-List.reduceReplicate,zwB]
 refine .q ?_;refine .text ?_;simp (disch:=first|exact za|fail) only [go_sem,seval,-List.reduceReplicate]
 refine CallK.of (fun R h=>zdl [1#8,0#8] (by decide) _ R h) ?_;simp (disch:=first|exact za|fail) only [go_sem,seval,-List.reduceReplicate]
 refine CallK.of (fun R h=>zhc zoL zEt _ R h) ?_;simp (disch:=first|exact za|fail) only [go_sem,seval,-List.reduceReplicate]
 refine .q ?_;refine .text ?_;simp (disch:=first|exact za|fail) only [go_sem,seval,-List.reduceReplicate]
 refine CallK.of (fun R h=>zdl [0#8,1#8,3#8,7#8] (by decide) _ R h) ?_;simp (disch:=first|exact za|fail) only [go_sem,seval,-List.reduceReplicate]
 refine CallK.of (fun R h=>zhc zoL zEu _ R h) ?_;simp (disch:=first|exact za|fail) only [go_sem,seval,-List.reduceReplicate]
 refine .q ?_;refine .text ?_;simp (disch:=first|exact za|fail) only [go_sem,seval,-List.reduceReplicate]
 refine CallK.of (fun R h=>zdl [2#8,3#8,3#8,1#8] (by decide) _ R h) ?_;simp (disch:=first|exact za|fail) only [go_sem,seval,-List.reduceReplicate]
 refine CallK.of (fun R h=>zhc zoL zEv _ R h) ?_;simp (disch:=first|exact za|fail) only [go_sem,seval,-List.reduceReplicate]
 refine .q ?_;refine .text ?_;simp (disch:=first|exact za|fail) only [go_sem,seval,-List.reduceReplicate]
 refine .q ?_;refine .text ?_;simp (disch:=first|exact za|fail) only [go_sem,seval,-List.reduceReplicate]
 refine .q ?_;refine .text ?_;simp (disch:=first|exact za|fail) only [go_sem,seval,-List.reduceReplicate]
 refine .q ?_;refine .text ?_;simp (disch:=first|exact za|fail) only [go_sem,seval,-List.reduceReplicate]
 simp only [List.append_eq,List.cons_append,List.nil_append]
 refine .q ?_;refine .text ?_;simp (disch:=first|exact za|fail) only [go_sem,seval,-List.reduceReplicate]
 refine CallK.of (fun R h=>yh g xL lnL okL _ R h) ?_;simp (disch:=first|exact za|fail) only [go_sem,seval,-List.reduceReplicate,zBH]
 refine CallK.of (fun R h=>zl1 (fl:=false) (sz:=38) (yh g [] (by decide) (fun i hi=>absurd hi (by simp)) _ R h)) ?_;simp (disch:=first|exact za|fail) only [go_sem,seval,-List.reduceReplicate,zzc]
 have hN:zq (mZ.set 1 (.p (i64 (-1)))) = .p mNeg:=zjo
 refine CallK.of (fun R h=>yh g [pmk 2 [] [] [] ] (by simp) (fun i hi=>by
  obtain rfl:i=0:=(by simp at hi;exact hi)
  exact zBP) _ R h) ?_;simp (disch:=first|exact za|fail) only [go_sem,seval,-List.reduceReplicate,zwC,hN,zzd,zBO]
 refine CallK.of (fun R h=>yh g [{ pmk 0 [] [] [] with session := -1 }] (by simp) (fun i hi=>by
  obtain rfl:i=0:=(by simp at hi;exact hi)
  exact⟨⟨by decide,by decide⟩,⟨by decide,by decide⟩,⟨by decide,by decide⟩,by decide,by decide,by decide⟩) _ R h) ?_;simp (disch:=first|exact za|fail) only [go_sem,seval,-List.reduceReplicate,zzb,zeV]
 have okT : ∀ i,i < (xL.drop 1).length → (nth (xL.drop 1) i).Ok:=fun i hi=>by
  rw [nth_drop]
  exact okL _ (by rw [List.length_drop] at hi;omega)
 have hE:zt Tryz.prog .eql 29 (.p (usV 310 5 5)) (.p (usV 310 5 5))=some (.p (bo true)):=(zn8 ⟨by decide,by decide⟩ ⟨by decide,by decide⟩ ⟨by decide,by decide⟩).1
 have k1:(i64 3).weak=i64 3:=rfl
 have kA:(cP [99#8,111#8,117#8,110#8,116#8] 0 (PV.sl true 1 [i64 3])).weak=crt (cX yp 0 [3]):=zBN (s:=[3])
 have kB:(cP [99#8,111#8,117#8,110#8,116#8] 0 (PV.sl true 1 [i64 4])).weak=crt (cX yp 0 [4]):=zBN (s:=[4])
 have kC:(cP [99#8,111#8,117#8,110#8,116#8] 1 (PV.sl true 1 [i64 4])).weak=crt (cX yp 1 [4]):=zBN (s:=[4])
 have s1:smB [cX yp 0 [3],cX yp 0 [3],cX yp 1 [4] ]=true:=zBJ
 have s2:smB [cX yp 0 [3],cX yp 1 [4],cX yp 0 [4] ]=false:=zBK
 have o1:CrtOk (cX yp 0 [3]):=zoM ⟨by decide,by decide⟩ (by decide) (by decide)
 have o2:CrtOk (cX yp 0 [4]):=zoM ⟨by decide,by decide⟩ (by decide) (by decide)
 have o3:CrtOk (cX yp 1 [4]):=zoM ⟨by decide,by decide⟩ (by decide) (by decide)
 refine CallK.of (fun R h=>yh g (xL.drop 1) (by rw [List.length_drop];omega) okT _ R h) ?_;simp (disch:=first|exact za|fail) only [go_sem,seval,-List.reduceReplicate,zza,hE,kA,kB,kC]
 refine CallK.of (fun R h=>zd0 [cX yp 0 [3],cX yp 0 [3],cX yp 1 [4] ] (by simp) (ok3 o1 o1 o3) _ R h) ?_;simp (disch:=first|exact za|fail) only [go_sem,seval,-List.reduceReplicate,s1,hE,kA,kB,kC]
 refine CallK.of (fun R h=>zd0 [cX yp 0 [3],cX yp 1 [4],cX yp 0 [4] ] (by simp) (ok3 o1 o3 o2) _ R h) ?_;simp (disch:=first|exact za|fail) only [go_sem,seval,-List.reduceReplicate,s2,hE,kA,kB,kC]
 refine CallK.of (fun R h=>zl1 (fl:=false) (sz:=49) (zd0 [] (by decide) (fun i hi=>absurd hi (by simp)) _ R h)) ?_;simp (disch:=first|exact za|fail) only [go_sem,seval,-List.reduceReplicate,zBI]
 refine CallK.of (fun R h=>zb0 310 5 5 (zl2 1) 1 (zeE (by decide)) 0 ⟨by decide,by decide⟩ _ R h) ?_;simp (disch:=first|exact za|fail) only [go_sem,seval,-List.reduceReplicate,zwE,zDH]
 refine CallK.of (fun R h=>zb0 0 1000 0 (zl2 1) 1 (zeE (by decide)) 0 ⟨by decide,by decide⟩ _ R h) ?_;simp (disch:=first|exact za|fail) only [go_sem,seval,-List.reduceReplicate,zwE,zDI]
 refine CallK.of (fun R h=>zb0 (-1) 0 0 (zl2 1) 1 (zeE (by decide)) 0 ⟨by decide,by decide⟩ _ R h) ?_;simp (disch:=first|exact za|fail) only [go_sem,seval,-List.reduceReplicate,zwE,zDJ]
 refine .q ?_;refine .rt Tryz.func9 (by rw [Tryz.results9]) (hR := ?_);simp (disch:=first|exact za|fail) only [go_sem,seval,-List.reduceReplicate]
 exact h
end walks
end Go.Proofs.YtgflpgcogkdpgaaGreatDoor

/-
  Audits: the law of states and certificates,walked.
-/
namespace Go.Proofs.YtgflpgcogkdpgaaGreatDoor
open Go Go.AL

theorem SpR.ex (ms:List Mt) : ∃ i b,SpR ms i b:=by
 by_cases h : ∃ i,i < ms.length∧zfy ms i
 · suffices hs : ∀ n,(∀ j,j < n → ¬zfy ms j) ∨ ∃ i,i < n∧zfy ms i ∧ ∀ j,j < i → ¬zfy ms j by
    obtain⟨i,hi,hv⟩:=h
    rcases hs ms.length with q | ⟨j,h1,h2,h3⟩
    · exact absurd hv (q i hi)
    · exact⟨j,true,.inl ⟨rfl,h1,h2,h3⟩⟩
   intro n
   induction n with
   | zero=>exact .inl fun j hj=>absurd hj (by omega)
   | succ n ih =>
    rcases ih with q | ⟨i,h1,h2,h3⟩
    · by_cases hn:zfy ms n
      · exact .inr ⟨n,by omega,hn,q⟩
      · refine .inl fun j hj => ?_
        rcases Nat.lt_or_ge j n with c | c
        · exact q j c
        · obtain rfl:j=n:=by omega
          exact hn
    · exact .inr ⟨i,by omega,h2,h3⟩
 · exact⟨0,false,.inr ⟨rfl,rfl,fun j hj hv=>h ⟨j,hj,hv⟩⟩⟩
section walks
variable {G:Globs} {r1 r2:Nat} {m1:List (Int × Rule)} {m2:List (Int × Int)}
end walks
end Go.Proofs.YtgflpgcogkdpgaaGreatDoor

/-
  Sessions: every string that is decoded is the encoding of its message.
-/
namespace Go.Proofs.YtgflpgcogkdpgaaGreatDoor
open Go Go.AL

section walks
variable {G:Globs} {r1 r2:Nat} {m1:List (Int × Rule)} {m2:List (Int × Int)}
end walks
end Go.Proofs.YtgflpgcogkdpgaaGreatDoor

/-
  Sessions: the package-level maps,read from what the rows say is laid.
-/
namespace Go.Proofs.YtgflpgcogkdpgaaGreatDoor
open Go Go.AL Go.WideElems

section maps
variable {H:Type} {enc:TypeId × Value → H} {P:Program} {W:World} {sp:Nat → Bool} {held:Bool} {t k e:TypeId} {α:Type}
theorem insert_perm {x:Lit × DataW H} : ∀ l,(DataW.insert x l).Perm (x :: l)
 | [] => .refl _
 | y :: r=>by
  unfold DataW.insert
  split
  · exact .refl _
  · exact ((insert_perm r).cons y).trans (.swap x y r)
theorem sorted_perm : ∀ l:List (Lit × DataW H),(l.foldr DataW.insert []).Perm l
 | [] => .refl _
 | x :: l=>(insert_perm _).trans ((sorted_perm l).cons x)
theorem zl3 {κ α:Type} [DecidableEq κ] {T:κ → Option α} {k:κ} : ∀ {m:List (κ × α)},(∀ p∈m,T p.1=some p.2) → (∀ v,T k=some v → ∃ p∈m,p.1=k) → yw k m=T k
 | [],_,h2=>by
  cases e:T k with
  | none=>rfl
  | some v=>obtain⟨p,hp,_⟩:=h2 v e;cases hp
 | (a,x) :: m,h1,h2=>by
  unfold yw
  split
  · rename_i h;subst h;exact (h1 _ (List.mem_cons_self ..)).symm
  · rename_i h
    exact zl3 (fun p hp=>h1 p (List.mem_cons_of_mem _ hp)) fun v hv=>by
     obtain⟨p,hp,hk⟩:=h2 v hv
     rcases List.mem_cons.1 hp with rfl | hp
     · exact absurd hk h
     · exact⟨p,hp,hk⟩
theorem zff {α β:Type} {Q:α → β → Prop} : ∀ {l:List α},(∀ x∈l,∃ y,Q x y) → ∃ m:List β,m.length=l.length ∧ ∀ (j:Nat) x y,l[j]? = some x → m[j]? = some y → Q x y
 | [],_=>⟨[],rfl,fun j x y h=>by simp at h⟩
 | a :: l,h=>by
  obtain⟨y,hy⟩:=h a (List.mem_cons_self ..)
  obtain⟨m,hm,hq⟩:=zff (l:=l) fun x hx=>h x (List.mem_cons_of_mem _ hx)
  refine⟨y :: m,by simp [hm],fun j => ?_⟩
  cases j with
  | zero=>intro x z h1 h2;simp at h1 h2;subst h1 h2;exact hy
  | succ j=>intro x z h1 h2;simp at h1 h2;exact hq j x z h1 h2
theorem zze (hk:P.underlying k=some (.int .i64)) {v:Value} {kl:Lit} (h:keyOf P k v=some kl) : ∃ z,v=iev z∧kl = .int .i64 z∧okI z:=by
 unfold keyOf at h
 rw [hk] at h
 unfold mapKey at h
 rw [hk] at h
 cases v with
 | int q n =>
  simp only at h
  split at h
  · rename_i hc
    obtain⟨rfl,hw⟩:=hc
    cases h
    simp only [Lit.wf,Bool.and_eq_true,decide_eq_true_eq] at hw
    exact⟨n,rfl,rfl,hw⟩
  · cases h
 | _=>cases h
theorem zpU (ht:P.underlying t=some (.map k e)) (hk:P.underlying k=some (.int .i64)) {fuel:Nat} {cs:List Value} {L:List (Lit × DataW H)} {p:List MemPlace} (h:DataW.trod enc P W 0 sp held fuel t cs=some (.map L,p)) (T:Int → Option α) (f:α → AV)
 (hbel : ∀ v n,BelowN n (f v))
 (hL : ∀ (n:Nat) kk d,(kk,d)∈L → ∀ v q,elemAt enc P W 0 sp held n e v=some (d,q) → ∃ z x,kk = .int .i64 z∧T z=some x∧RelV σ0 H0 W (f x) v)
 (hT : ∀ z x,T z=some x → ∃ d,(Lit.int .i64 z,d)∈L) :
 ∃ b m,cs=[.map (some b)]∧GMap σ0 H0 W b (tm iev f m)∧(∀ q∈m,okI q.1) ∧ ∀ z,yw z m=T z:=by
 rcases open_map ht h with ⟨_,hx⟩ | ⟨b,es,clock,n,_,hcs,hb,_,F,hx⟩
 · cases hx
 · obtain⟨s1,s2,s3⟩:=F.stamped
   have hLe:L=(es.toList.map (rg P k (elemAt enc P W 0 sp held n e))).foldr DataW.insert []:=by
    have:=congrArg Prod.fst hx
    simpa using this
   have hperm:=sorted_perm (es.toList.map (rg P k (elemAt enc P W 0 sp held n e)))
   rw [←hLe] at hperm
   obtain⟨m,hm,hq⟩:=zff (Q:=fun (x:MapEntry) (q:Int × α)=>x.key=iev q.1∧okI q.1∧T q.1=some q.2∧RelV σ0 H0 W (f q.2) x.val∧(rg P k (elemAt enc P W 0 sp held n e) x).1 = .int .i64 q.1) (l:=es.toList) fun x hx=>by
    obtain⟨y,hy⟩:=F.reads x hx
    have hr:=rg_of hy
    obtain⟨w,hw,hy2⟩:=rd_val hy
    have hmem:(y.1,y.2)∈L:=hperm.mem_iff.2 (List.mem_map.2 ⟨x,hx,hr⟩)
    obtain⟨z,hz1,hz2,hz3⟩:=zze hk (rd_key hy)
    obtain⟨z',a,h1,h2,h3⟩:=hL n y.1 y.2 hmem x.val w.2 (by rw [hw,hy2])
    rw [hz2] at h1
    cases h1
    exact⟨(z,a),hz1,hz3,h2,h3,by rw [hr];exact hz2⟩
   have hget : ∀ {q:Int × α},q∈m → ∃ x∈es.toList,x.key=iev q.1∧okI q.1∧T q.1=some q.2:=fun {q} hqm=>by
    obtain⟨j,hj⟩:=List.getElem?_of_mem hqm
    have hlt:j < es.toList.length:=by have:=(List.getElem?_eq_some_iff.1 hj).1;omega
    obtain⟨h1,h2,h3,_⟩:=hq j _ q (List.getElem?_eq_getElem hlt) hj
    exact⟨_,List.getElem_mem hlt,h1,h2,h3⟩
   have hkeys:(tm iev f m).map (·.1)=es.toList.map (·.key):=by
    apply List.ext_getElem?
    intro j
    simp only [tm,List.map_map,List.getElem?_map]
    cases hj:m[j]? with
    | none =>
     have:es.toList[j]? = none:=by
      rw [List.getElem?_eq_none_iff] at hj ⊢;omega
     rw [this];rfl
    | some q =>
     have hlt:j < es.toList.length:=by have:=(List.getElem?_eq_some_iff.1 hj).1;omega
     rw [List.getElem?_eq_getElem hlt]
     obtain⟨h1,_⟩:=hq j _ q (List.getElem?_eq_getElem hlt) hj
     simpa using h1.symm
   refine⟨b,m,hcs,⟨⟨es,clock,hb,by simp [tm,hm],?_,?_⟩,zzp b,?_⟩,?_,?_⟩
   · rw [hkeys]
     exact s3
   · intro j x q hx hq'
     simp only [tm,List.getElem?_map,Option.map_eq_some_iff] at hq'
     obtain⟨q0,hq0,rfl⟩:=hq'
     obtain⟨h1,_,_,h4,_⟩:=hq j x q0 (by simpa using hx) hq0
     exact⟨h1,h4⟩
   · intro q hq' n
     simp only [tm,List.mem_map] at hq'
     obtain⟨q0,_,rfl⟩:=hq'
     exact hbel _ _
   · intro q hqm
     obtain⟨_,_,_,h,_⟩:=hget hqm
     exact h
   · intro z
     refine zl3 (fun q hqm => ?_) fun v hv => ?_
     · obtain⟨_,_,_,_,h⟩:=hget hqm
       exact h
     · obtain⟨d,hd⟩:=hT z v hv
       obtain⟨x,hx,hr⟩:=List.mem_map.1 (hperm.mem_iff.1 hd)
       obtain⟨j,hj⟩:=List.getElem?_of_mem hx
       have hlt:j < m.length:=by have:=(List.getElem?_eq_some_iff.1 hj).1;omega
       obtain⟨_,_,_,_,h5⟩:=hq j x _ hj (List.getElem?_eq_getElem hlt)
       refine⟨m[j],List.getElem_mem hlt,?_⟩
       rw [hr] at h5
       cases h5
       rfl
theorem trod_int {q:IntKind} (ht:P.underlying t=some (.int q)) {fuel:Nat} {c:Value} {z:Int} {kd:IntKind} {p:List MemPlace} (h:DataW.trod enc P W 0 sp held fuel t [c]=some (.lit (.int kd z),p)):c = .int q z:=by
 cases fuel with
 | zero=>simp [DataW.trod] at h
 | succ n =>
  rw [DataW.trod_step] at h
  unfold DataW.trodStep at h
  rw [ht] at h
  cases c<;>simp at h
  obtain⟨⟨rfl,_⟩,⟨_,rfl⟩,_⟩:=h
  rfl
end maps
theorem zwF {P:Program} {W:World} {sp:Nat → Bool} {held:Bool} {H:Type} {enc:TypeId × Value → H} {e:TypeId} (he:P.underlying e=some (.int .i64)) {n:Nat} {v:Value} {z:Int} {kd:IntKind} {q:List MemPlace} (h:elemAt enc P W 0 sp held n e v=some (.lit (.int kd z),q)):v = .int .i64 z:=by
 unfold elemAt at h
 split at h
 · rename_i hf
   cases v with
   | agg cs=>simp [Value.formed,he] at hf
   | tuple cs=>simp [Value.formed] at hf
   | _=>exact trod_int he h
 · cases h
theorem zoN {W:World} {fuel:Nat} {cs:List Value} {p:List MemPlace} {sp:Nat → Bool} {held:Bool} {enc:TypeId × Value → Unit} (h:DataW.trod enc Tryz.prog W 0 sp held fuel 144 cs=some (Rows.laid_attestor_session_states,p)) :
 ∃ b m,cs=[.map (some b)]∧GMap σ0 H0 W b (tm iev ivv m)∧(∀ q∈m,okI q.1) ∧ ∀ z,yw z m=zbk z:=by
 refine zpU Tryz.underlying144 Tryz.underlying3 h zbk ivv (fun v n => .p _) ?_ ?_
 · intro n kk d hm v q he
   simp only [List.mem_cons,List.not_mem_nil,or_false,Prod.mk.injEq] at hm
   (rcases hm with ⟨rfl,rfl⟩ | ⟨rfl,rfl⟩ | ⟨rfl,rfl⟩ | ⟨rfl,rfl⟩ | ⟨rfl,rfl⟩ | ⟨rfl,rfl⟩ | ⟨rfl,rfl⟩)<;>(obtain rfl:=zwF Tryz.underlying3 he;exact⟨_,_,rfl,rfl,.p (.s _ rfl)⟩)
 · intro z x hz
   have hk:z=1 ∨ z=2 ∨ z=3 ∨ z=4 ∨ z=5 ∨ z=6 ∨ z=7:=by
    unfold zbk at hz
    repeat' split at hz
    all_goals first | omega | cases hz
   (rcases hk with rfl | rfl | rfl | rfl | rfl | rfl | rfl)<;>exact⟨_,by simp [Rows.laid_attestor_session_states];rfl⟩

theorem trod_func {H:Type} {enc:TypeId × Value → H} {P:Program} {W:World} {sp:Nat → Bool} {t:TypeId} {ps rs:Array TypeId} {va:Bool} (ht:P.underlying t=some (.func ps rs va)) {fuel:Nat} {c:Value} {x:H} {p:List MemPlace} (h:DataW.trod enc P W 0 sp true fuel t [c]=some (.held x,p)) : ∃ fn a b,c = .func fn a b∧enc (t,c)=x:=by
 cases fuel with
 | zero=>simp [DataW.trod] at h
 | succ n =>
  rw [DataW.trod_step] at h
  unfold DataW.trodStep at h
  rw [ht] at h
  cases c<;>simp at h
  exact⟨_,_,_,rfl,h.1⟩
theorem zsh {W:World} {sp:Nat → Bool} {H:Type} {enc:TypeId × Value → H} {n:Nat} {v:Value} {a b:Int} {ka kb:IntKind} {x:H} {q:List MemPlace} (h:elemAt enc Tryz.prog W 0 sp true n 140 v=some (.agg [.lit (.int ka a),.lit (.int kb b),.held x],q)) :
 ∃ fn c d,v = .agg #[.int .i64 a,.int .i64 b,.func fn c d]∧enc (138,.func fn c d)=x:=by
 unfold elemAt at h
 split at h
 · rename_i hf
   cases v with
   | agg cs =>
    simp only [Value.formed,Tryz.underlying140,zgz,beq_iff_eq] at hf
    obtain⟨c1,c2,c3,rfl⟩ : ∃ c1 c2 c3,cs = #[c1,c2,c3]:=by
     obtain⟨l⟩:=cs
     match l,hf with
     | [c1,c2,c3],_=>exact⟨c1,c2,c3,rfl⟩
    cases n with
    | zero=>simp [DataW.trod] at h
    | succ n =>
     rw [DataW.trod_step] at h
     unfold DataW.trodStep at h
     simp only [Tryz.underlying140,zgz,Value.cells] at h
     simp only [List.length_cons,List.length_nil,if_true,Option.map_eq_some_iff,Prod.mk.injEq,DataW.agg.injEq] at h
     obtain⟨xs,hm,hx,_⟩:=h
     simp only [List.mapM_cons,List.mapM_nil,cells3,zk2,List.drop_zero,List.drop_succ_cons,List.take_succ_cons,List.take_zero,Option.bind_eq_bind,Option.bind_eq_some_iff,Option.pure_def,Option.some.injEq] at hm
     obtain⟨y1,h1,y23,⟨y2,h2,y3s,⟨y3,h3,hn,rfl,rfl⟩,rfl⟩,rfl⟩:=hm
     obtain⟨d1,q1⟩:=y1
     obtain⟨d2,q2⟩:=y2
     obtain⟨d3,q3⟩:=y3
     simp only [List.map_cons,List.map_nil,List.cons.injEq,and_true] at hx
     obtain⟨rfl,rfl,rfl⟩:=hx
     obtain rfl:=trod_int Tryz.underlying3 h1
     obtain rfl:=trod_int Tryz.underlying3 h2
     obtain⟨fn,c,d,rfl,h4⟩:=trod_func Tryz.underlying138 h3
     exact⟨fn,c,d,rfl,h4⟩
   | tuple cs=>simp [Value.formed] at hf
   | _=>simp [Value.formed,Tryz.underlying140] at hf
 · cases h

theorem zoO {a b:String} (h:a.toUTF8.data.toList=b.toUTF8.data.toList):a=b:=by
 refine String.toByteArray_inj.1 ?_
 show a.toUTF8=b.toUTF8
 have:=Array.toList_inj.1 h
 cases ha:a.toUTF8;cases hb:b.toUTF8
 rw [ha,hb] at this
 cases this;rfl
theorem zbQ {W:World} {sp:Nat → Bool} {n:Nat} {v:Value} {a b:Int} {ka kb:IntKind} {nm:String} {fid:FuncId} {q:List MemPlace} {x:UInt8} {r:List UInt8} (hx:nm.toUTF8.data.toList=x :: r) (hf:Tryz.prog.funcNamed nm=some fid)
 (h:elemAt (funcToken Tryz.prog) Tryz.prog W 0 sp true n 140 v=some (.agg [.lit (.int ka a),.lit (.int kb b),.held (x :: r)],q)):RelV σ0 H0 W (rlv ⟨a,b,fid⟩) v:=by
 obtain⟨fn,c,d,rfl,h1⟩:=zsh h
 obtain⟨f,g,h2,_,h4,h5⟩:=funcToken_tells h1
 cases h2
 have hn:g.name=nm:=zoO (h5.trans hx.symm)
 rw [hn,hf] at h4
 cases h4
 refine .agg _ rfl ?_ ?_
 · intro i v hv
   rcases i with _ | _ | _ | i<;>simp at hv<;>subst hv<;>rfl
 · intro i y v hy hv
   rcases i with _ | _ | _ | i<;>simp at hy hv<;>subst hy<;>subst hv
   · exact .p (.s _ rfl)
   · exact .p (.s _ rfl)
   · exact .clo _ _ rfl rfl (fun i x v h=>by simp at h) (fun i x v h=>by simp at h)
def rulesD:DataW Unit:=match (Rows.laid_attestor_session_rules:DataW Unit) with
 | .iface _ d=>d
 | d=>d
theorem zsi {W:World} {fuel:Nat} {cs:List Value} {p:List MemPlace} {sp:Nat → Bool} (h:DataW.trod (funcToken Tryz.prog) Tryz.prog W 0 sp true fuel 142 cs=some (rulesD.funcsOut,p)) :
    ∃ b m,cs=[.map (some b)]∧GMap σ0 H0 W b (tm iev rlv m)∧(∀ q∈m,okI q.1) ∧ ∀ z,yw z m=zao z:=by
  refine zpU Tryz.underlying142 Tryz.underlying3 h zao rlv (fun v n => ?_) ?_ ?_
  · refine .agg _ fun i y hy => ?_
    rcases i with _ | _ | _ | i<;>simp at hy<;>subst hy
    · exact .p _
    · exact .p _
    · exact .clo _ _ _ (fun i y hy=>by simp at hy) (fun i y hy=>by simp at hy)
  · intro n kk d hm v q he
    simp only [DataW.funcsOut,DataW.funcsOutAll,DataW.funcsOutEntries,List.mem_cons,List.not_mem_nil,or_false,Prod.mk.injEq] at hm
    rcases hm with ⟨rfl,rfl⟩ | ⟨rfl,rfl⟩ | ⟨rfl,rfl⟩ | ⟨rfl,rfl⟩ | ⟨rfl,rfl⟩ | ⟨rfl,rfl⟩ | ⟨rfl,rfl⟩
    · exact ⟨_, _, rfl, rfl, zbQ (nm := "attestor/session.rules$1") rfl (by kernel_rfl) he⟩
    · exact ⟨_, _, rfl, rfl, zbQ (nm := "attestor/session.empty") rfl (by kernel_rfl) he⟩
    · exact ⟨_, _, rfl, rfl, zbQ (nm := "attestor/session.rules$2") rfl (by kernel_rfl) he⟩
    · exact ⟨_, _, rfl, rfl, zbQ (nm := "attestor/session.rules$3") rfl (by kernel_rfl) he⟩
    · exact ⟨_, _, rfl, rfl, zbQ (nm := "attestor/session.rules$4") rfl (by kernel_rfl) he⟩
    · exact ⟨_, _, rfl, rfl, zbQ (nm := "attestor/session.empty") rfl (by kernel_rfl) he⟩
    · exact ⟨_, _, rfl, rfl, zbQ (nm := "attestor/session.empty") rfl (by kernel_rfl) he⟩
  · intro z x hz
    have hk:z=1 ∨ z=2 ∨ z=3 ∨ z=4 ∨ z=5 ∨ z=6 ∨ z=7:=by
      unfold zao at hz
      repeat' split at hz
      all_goals first | omega | cases hz
    rcases hk with rfl | rfl | rfl | rfl | rfl | rfl | rfl
    · exact⟨_,.head _⟩
    · exact⟨_,.tail _ (.head _)⟩
    · exact⟨_,.tail _ (.tail _ (.head _))⟩
    · exact⟨_,.tail _ (.tail _ (.tail _ (.head _)))⟩
    · exact⟨_,.tail _ (.tail _ (.tail _ (.tail _ (.head _))))⟩
    · exact⟨_,.tail _ (.tail _ (.tail _ (.tail _ (.tail _ (.head _)))))⟩
    · exact⟨_,.tail _ (.tail _ (.tail _ (.tail _ (.tail _ (.tail _ (.head _))))))⟩
end Go.Proofs.YtgflpgcogkdpgaaGreatDoor

/-
  What the laws' rows give their walks: the tables and the maps,a world for the witness,what the arguments read as.
-/
namespace Go.Proofs.YtgflpgcogkdpgaaGreatDoor
open Go Go.AL Go.ChangeShapes Go.WideShapes Go.ChangeAt Go.RowKit

theorem own:ownKnob Tryz.prog.godebug=none:=by kernel_rfl
theorem laidOut:laidOutB Tryz.prog=true:=by kernel_rfl
def zzf:String:=Rows.auditPointsRow.named[0]!
def zDR:String:=Rows.auditPointsRow.named[1]!
def zDS:String:=Rows.auditPointsRow.named[2]!
def zDT:String:=Rows.auditPointsRow.named[3]!
theorem zwG:Tryz.prog.globalNamed zDS=some 3:=by kernel_rfl
theorem zzP:Tryz.prog.globalNamed zDR=some 2:=by kernel_rfl
theorem gRules:Tryz.prog.globalNamed zzf=some 0:=by kernel_rfl
theorem gStates:Tryz.prog.globalNamed zDT=some 1:=by kernel_rfl
theorem zzg:(Tryz.prog.globals[3]?).map (·.type)=some 192:=by kernel_rfl
theorem zBQ:(Tryz.prog.globals[2]?).map (·.type)=some 172:=by kernel_rfl
theorem gRulesT:(Tryz.prog.globals[0]?).map (·.type)=some 142:=by kernel_rfl
theorem gStatesT:(Tryz.prog.globals[1]?).map (·.type)=some 144:=by kernel_rfl

def kz:List Int:=ks.map fun x=>(x.toNat:Int)
def iz:List Int:=inits.map fun x=>(x.toNat:Int)
theorem zl4 {P:Program} {x:String × DataW Unit} {l:List (String × DataW Unit)} {W:World} (h:laidMet P (x :: l) W):laidMet P l W:=by
 obtain⟨ps,⟨g',t',cs,fuel,p,q,_,_,_,_,hq,hps⟩,hn,ha⟩:=h
 subst hps
 exact⟨q,hq,(List.nodup_append.1 hn).2.1,fun b off hb=>ha b off (List.mem_append_right _ hb)⟩
theorem zl5 {W:World} {n:String} {g b:Nat} {cs:Array Value} (hg:Tryz.prog.globalNamed n=some g) (hv:W.var? Tryz.prog n=some cs) (hc:cs.toList=[.map (some b)]):RelV σ0 H0 W (.ip 1 [.s (.map (some b))] 0 0) (.pointer (some ⟨g,0,none⟩)):=by
 have hcell:W.cell? ⟨g,0,none⟩=some (.map (some b)):=by
  unfold World.var? at hv
  rw [hg] at hv
  simp only [Option.bind_some] at hv
  unfold World.cell?
  split at hv
  · rename_i c t f hh
    simp only [hh]
    obtain rfl:=Option.some.inj hv
    obtain⟨l⟩:=c
    obtain rfl:l=[.map (some b)]:=hc
    rfl
  · cases hv
 have:=RelV.ip (σ:=σ0) (H:=H0) (w:=W) (sz:=1) (xs:=[.s (.map (some b))]) (i:=0) (sub:=0) (g:=g) (off:=0) (cap:=1)
  (.sl false _ _ _ 0 1 (fun k => .map (some b)) (by simp) ⟨by simp,by unfold maxLen;omega⟩ (fun x hx=>by simp only [List.mem_singleton] at hx;subst hx;rfl)
   (fun k hk=>by
    simp only [List.length_singleton,Nat.one_mul] at hk
    obtain rfl:k=0:=by omega
    exact⟨ziY _ _,hcell,rfl⟩)
   (fun k y hy=>by
    have:flat [PV.s (.map (some b))]=[.s (.map (some b))]:=by simp [flat,PV.cells]
    rw [this] at hy
    cases k with
    | zero=>simp at hy;subst hy;exact .s _ rfl
    | succ k=>simp at hy)) (by simp) (by omega)
 simpa using this
theorem zio {κ α:Type} [DecidableEq κ] {k:κ} {v:α} : ∀ {m:List (κ × α)},yw k m=some v → (k,v)∈m
 | [],h=>by cases h
 | (a,x) :: m,h=>by
  unfold yw at h
  split at h
  · rename_i e;subst e;cases h;exact List.mem_cons_self ..
  · exact List.mem_cons_of_mem _ (zio h)
theorem zzh {W:World} {r1 r2:Nat} {m1:List (Int × Rule)} {m2:List (Int × Int)} (h1:GMap σ0 H0 W r1 (tm iev rlv m1)) (h2:GMap σ0 H0 W r2 (tm iev ivv m2)) (t1 : ∀ z,yw z m1=zao z):r1≠r2:=by
 rintro rfl
 obtain⟨⟨es,clock,a1,a2,_,a4⟩,_⟩:=h1
 obtain⟨⟨es',clock',b1,b2,_,b4⟩,_⟩:=h2
 rw [a1] at b1
 cases b1
 have hm:=zio ((t1 1).trans (show zao 1=some _ from rfl))
 have hl:0 < m1.length:=List.length_pos_of_mem hm
 simp only [tm,List.length_map] at a2 b2
 have he:es[0]? = some es[0]:=Array.getElem?_eq_getElem (by omega)
 obtain⟨q1,hq1⟩ : ∃ q,m1[0]? = some q:=⟨_,List.getElem?_eq_getElem hl⟩
 obtain⟨q2,hq2⟩ : ∃ q,m2[0]? = some q:=⟨_,List.getElem?_eq_getElem (by omega)⟩
 have r1:=(a4 0 _ _ he (by simp only [tm,List.getElem?_map,hq1];rfl)).2
 have r2:=(b4 0 _ _ he (by simp only [tm,List.getElem?_map,hq2];rfl)).2
 simp only [rlv,ivv] at r1 r2
 generalize es[0].val=v at r1 r2
 cases r1
 cases r2 with
 | p h=>cases h

def GG (r1 r2:Nat) (m1:List (Int × Rule)) (m2:List (Int × Int)):Globs :=
 ⟨fun g=>if g=2 then some (8,[.agg (pl zN inits)]) else if g=3 then some (64,[.agg (pl zN ks)]) else if g=0 then some (1,[.s (.map (some r1))]) else if g=1 then some (1,[.s (.map (some r2))]) else none,
  fun r=>if r=r1 then some (tm iev rlv m1) else if r=r2 then some (tm iev ivv m2) else none⟩
theorem ziq {W:World} (h:laidMetH Tryz.prog Rows.auditPointsRow.laid W) : ∃ r1 r2 m1 m2,GR (GG r1 r2 m1 m2) r1 r2 m1 m2∧Rel (GG r1 r2 m1 m2) σ0 H0 W:=by
 have h':laidMet Tryz.prog [(zDS,Lib.tabData .u32 kz),(zDR,Lib.tabData .u32 iz),(zDT,Rows.laid_attestor_session_states)] W∧handlesMet Tryz.prog [(zzf,Rows.laid_attestor_session_rules)] W:=h
 obtain⟨hd,hh⟩:=h'
 have tC:=Lib.tabIs_of_head zwG zzg Tryz.underlying192 Tryz.underlying171 zgA zk6 hd
 have hd2:=zl4 hd
 have tI:=Lib.tabIs_of_head zzP zBQ Tryz.underlying172 Tryz.underlying171 zgA zk4 hd2
 have hd3:=zl4 hd2
 obtain⟨_,⟨g2,t2,c2,f2,p2,_,hg2,ht2,hv2,hr2,_⟩,_⟩:=hd3
 obtain rfl:=Option.some.inj (gStates.symm.trans hg2)
 obtain rfl:=Option.some.inj (gStatesT.symm.trans ht2)
 obtain⟨b2,m2,hb2,gm2,k2,a2⟩:=zoN hr2
 have hh1:funcsAt Tryz.prog W zzf rulesD:=hh (zzf,Rows.laid_attestor_session_rules) (List.mem_cons_self ..)
 obtain⟨g1,t1,c1,f1,p1,hg1,ht1,hv1,hr1⟩:=hh1
 obtain rfl:=Option.some.inj (gRules.symm.trans hg1)
 obtain rfl:=Option.some.inj (gRulesT.symm.trans ht1)
 obtain⟨b1,m1,hb1,gm1,k1,a1⟩:=zsi hr1
 have hne:=zzh gm1 gm2 a1
 refine⟨b1,b2,m1,m2,⟨rfl,rfl,rfl,rfl,if_pos rfl,?_,k1,k2,a1,a2⟩,zD0 (fun g sz xs hg => ?_) fun r m hm => ?_⟩
 · show (if b2=b1 then _ else _)=_
   rw [if_neg (Ne.symm hne),if_pos rfl]
 · simp only [GG] at hg
   split at hg
   · rename_i e;subst e;cases hg
     exact zgr (l:=inits) tI zzP rfl (by decide)
   · split at hg
     · rename_i e;subst e;cases hg
       exact zgr (l:=ks) tC zwG rfl (by decide)
     · split at hg
       · rename_i e;subst e;cases hg
         exact zl5 gRules hv1 hb1
       · split at hg
         · rename_i e;subst e;cases hg
           exact zl5 gStates hv2 hb2
         · cases hg
 · simp only [GG] at hm
   split at hm
   · rename_i e;subst e;cases hm;exact gm1
   · split at hm
     · rename_i e;subst e;cases hm;exact gm2
     · cases hm

noncomputable def laidWorld (os:Os):World:=World.doorLaid Tryz.prog 2000 os
set_option maxRecDepth 100000 in
theorem laid_met (os:Os) (args:Array Value):laidMetH Tryz.prog Rows.auditPointsRow.laid ((laidWorld os).forCall (fun _ _=>0) ⟨#[],args,[]⟩).memory :=
 laidMetH_of_parts3 (fuel:=8) (laidMet_of_run' 8 (by kernel_rfl) (by kernel_rfl)) (by kernel_rfl) (by kernel_rfl)

set_option maxRecDepth 100000
section read
variable {k:Nat} {y:List PV}
theorem zwH (h:Reads Tryz.prog (k+2) 22 y) : ∃ l:By,l.length≤9223372036854775807∧y=[.sl false 1 (pl b8 l)]:=by
 obtain⟨l,h1,rfl,-⟩:=Reads.sl b8 (fun _=>True) Tryz.underlying22 cells5 ztt h fun y hy=>by
  obtain⟨b,rfl⟩:=Reads.u8 Tryz.underlying5 hy
  exact⟨b,rfl,trivial⟩
 exact⟨l,h1,rfl⟩
end read
section rel
variable {W:World} {v:Value} {H:Type} {enc:TypeId × Value → H} {d:DataW H} {ps:List MemPlace} {base:Nat}
end rel
end Go.Proofs.YtgflpgcogkdpgaaGreatDoor

/-
  Sessions: what messages and lists of acts read as.
-/
namespace Go.Proofs.YtgflpgcogkdpgaaGreatDoor
open Go Go.AL Go.ChangeShapes Go.WideShapes Go.ChangeAt Go.RowKit

structure Msg.In (m:Msg):Prop where
 kind:okI m.kind
 session:okI m.session
 step:okI m.step
 text:m.text.length≤9223372036854775807
 sums:m.sums.length≤9223372036854775807
 values:m.values.length≤9223372036854775807
 wide : ∀ x∈m.sums,okI x
theorem of_string (s:ByteArray) : ∃ t:By,s=bytesOf t∧t.length=s.size:=by
 refine⟨s.data.toList.map UInt8.toBitVec,?_,by rw [List.length_map,Array.length_toList];rfl⟩
 apply ByteArray.ext
 simp [bytesOf,Function.comp_def]
set_option maxRecDepth 100000
section read
variable {k:Nat} {y:List PV}
theorem zpV (h:Reads Tryz.prog (k+2) 23 y) : ∃ l:List Int,l.length≤9223372036854775807∧y=[.sl false 1 (pl i64 l)] ∧ ∀ x∈l,okI x :=
 Reads.sl i64 okI Tryz.underlying23 cells2 zzs h fun y hy=>by
  obtain⟨z,h1,h2,rfl⟩:=Reads.i64 Tryz.underlying2 hy
  exact⟨z,rfl,h1,h2⟩
theorem zpW (h:Reads Tryz.prog (k+3) 34 y) : ∃ l:List Ext,l.length≤9223372036854775807∧y=[.sl false 2 (pl ext l)]:=by
 obtain⟨l,h1,h2,-⟩:=Reads.sl ext (fun _=>True) Tryz.underlying34 zpe ztz h fun y hy=>by
  obtain⟨y1,z1,rfl,-,r1,y2,z2,rfl,-,r2,rfl⟩:=Reads.struct Tryz.underlying61 hy
  obtain⟨a,rfl⟩:=Reads.u64 Tryz.underlying37 r1
  obtain⟨b,rfl⟩:=Reads.u64 Tryz.underlying37 r2
  exact⟨⟨a,b⟩,rfl,trivial⟩
 exact⟨l,h1,h2⟩
theorem zBR (h:Reads Tryz.prog (k+4) 36 y) : ∃ m:Msg,m.In∧y=zdA m:=by
 obtain⟨y1,z1,rfl,-,r1,y2,z2,rfl,-,r2,y3,z3,rfl,-,r3,y4,z4,rfl,-,r4,y5,z5,rfl,-,r5,y6,z6,rfl,-,r6,y7,z7,rfl,-,r7,rfl⟩:=Reads.struct Tryz.underlying36 h
 obtain⟨kd,a1,a2,rfl⟩:=Reads.i64 Tryz.underlying3 r1
 obtain⟨se,b1,b2,rfl⟩:=Reads.i64 Tryz.underlying3 r2
 obtain⟨sp,c1,c2,rfl⟩:=Reads.i64 Tryz.underlying3 r3
 obtain⟨s,hs,rfl⟩:=Reads.str Tryz.underlying9 r4
 obtain⟨t,rfl,ht⟩:=of_string s
 obtain⟨d,hd,rfl⟩:=Reads.arr b8 Tryz.underlying33 r5 fun y hy=>Reads.u8 Tryz.underlying5 hy
 obtain⟨su,e1,rfl,e2⟩:=zpV r6
 obtain⟨va,f1,rfl⟩:=zpW r7
 exact⟨⟨kd,se,sp,t,⟨d,hd⟩,su,va⟩,⟨⟨a1,a2⟩,⟨b1,b2⟩,⟨c1,c2⟩,by show t.length≤_;omega,e1,f1,e2⟩,by simp [zdA]⟩
end read
section rel
variable {W:World} {v:Value} {H:Type} {enc:TypeId × Value → H} {d:DataW H} {ps:List MemPlace} {base:Nat}
theorem zwI (hval:Value.okWide Tryz.prog W .any base 5 v) (h:DataW.Trod enc Tryz.prog W 0 (fun _=>true) true 5 v d ps) : ∃ b:BitVec 8,RelV σ0 H0 W (.p (b8 b)) v:=by
 obtain⟨xs,hx,e⟩:=zek 1 (by kernel_rfl) hval h
 obtain⟨b,rfl⟩:=Reads.u8 (k:=0) Tryz.underlying5 hx
 rw [ztt] at e
 exact⟨b,e⟩
end rel
end Go.Proofs.YtgflpgcogkdpgaaGreatDoor

/-
  Audits: what the laws' arguments read as.
-/
namespace Go.Proofs.YtgflpgcogkdpgaaGreatDoor
open Go Go.AL Go.ChangeShapes Go.WideShapes Go.ChangeAt Go.RowKit

set_option maxRecDepth 100000
theorem zpX {α:Type} [Inhabited α] {l:List α} {i:Nat} (h:i < l.length):nth l i∈l:=by
 have:nth l i=l[i]:=by simp [nth,h]
 rw [this];exact List.getElem_mem h
section read
variable {k:Nat} {y:List PV}
theorem zzi (h:Reads Tryz.prog (k+5) 27 y) : ∃ l:List Msg,l.length≤9223372036854775807∧y=[.sl false 38 (pl ym l)] ∧ ∀ m∈l,m.In :=
 Reads.sl ym Msg.In Tryz.underlying27 cells36 zty h fun y hy=>by
  obtain⟨m,h1,rfl⟩:=zBR hy
  exact⟨m,rfl,h1⟩
theorem zwJ (h:Reads Tryz.prog (k+2) 29 y) : ∃ a b c:Int,okI a∧okI b∧okI c∧y=[i64 a,i64 b,i64 c]:=by
 obtain⟨y1,z1,rfl,-,r1,y2,z2,rfl,-,r2,y3,z3,rfl,-,r3,rfl⟩:=Reads.struct Tryz.underlying29 h
 obtain⟨a,a1,a2,rfl⟩:=Reads.i64 Tryz.underlying3 r1
 obtain⟨b,b1,b2,rfl⟩:=Reads.i64 Tryz.underlying3 r2
 obtain⟨c,c1,c2,rfl⟩:=Reads.i64 Tryz.underlying3 r3
 exact⟨a,b,c,⟨a1,a2⟩,⟨b1,b2⟩,⟨c1,c2⟩,rfl⟩
theorem zzj (h:Reads Tryz.prog (k+4) 24 y) : ∃ l:List (List Ext),l.length≤9223372036854775807∧y=[.sl false 1 (pl (sle 2 ext) l)] ∧ ∀ x∈l,x.length≤9223372036854775807 :=
 Reads.sl (sle 2 ext) (fun x=>x.length≤9223372036854775807) Tryz.underlying24 cells34 ztx h fun y hy=>by
  obtain⟨x,h1,rfl⟩:=zpW hy
  exact⟨x,rfl,h1⟩
structure Tk.In (x:Tk):Prop where
 id:okI x.id
 text:x.text.length≤9223372036854775807
 root:x.root.length≤9223372036854775807
 sums:x.sums.length≤9223372036854775807
 vals:x.vals.length≤9223372036854775807
 val : ∀ i,i < x.vals.length → (nth x.vals i).length≤9223372036854775807
 wide : ∀ s∈x.sums,okI s
theorem zzk (h:Reads Tryz.prog (k+5) 26 y) : ∃ x:Tk,x.In∧y=[i64 x.id,str (bytesOf x.text),.sl false 1 (pl b8 x.root),.sl false 1 (pl i64 x.sums),.sl false 1 (pl (sle 2 ext) x.vals),b8 x.fin]:=by
 obtain⟨y1,z1,rfl,-,r1,y2,z2,rfl,-,r2,y3,z3,rfl,-,r3,y4,z4,rfl,-,r4,y5,z5,rfl,-,r5,y6,z6,rfl,-,r6,rfl⟩:=Reads.struct Tryz.underlying26 h
 obtain⟨a,a1,a2,rfl⟩:=Reads.i64 Tryz.underlying3 r1
 obtain⟨s,hs,rfl⟩:=Reads.str Tryz.underlying9 r2
 obtain⟨t,rfl,ht⟩:=of_string s
 obtain⟨ro,b1,rfl⟩:=zwH r3
 obtain⟨su,e1,rfl,e2⟩:=zpV r4
 obtain⟨va,f1,rfl,f2⟩:=zzj r5
 obtain⟨fin,rfl⟩:=Reads.u8 Tryz.underlying5 r6
 exact⟨⟨a,t,ro,su,va,fin⟩,⟨⟨a1,a2⟩,by show t.length≤_;omega,b1,e1,f1,fun i hi=>f2 _ (zpX hi),e2⟩,rfl⟩
end read
section rel
variable {W:World} {v:Value} {H:Type} {enc:TypeId × Value → H} {d:DataW H} {ps:List MemPlace} {base:Nat}
theorem zwK (hval:Value.okWide Tryz.prog W .any base 27 v) (h:DataW.Trod enc Tryz.prog W 0 (fun _=>true) true 27 v d ps) : ∃ l:List Msg,l.length≤9223372036854775807∧(∀ i,i < l.length → (nth l i).In)∧RelV σ0 H0 W (.p (.sl false 38 (pl ym l))) v:=by
 obtain⟨xs,hx,e⟩:=zek 12 (by kernel_rfl) hval h
 obtain⟨l,h1,rfl,h2⟩:=zzi (k:=7) hx
 rw [ztv] at e
 exact⟨l,h1,fun i hi=>h2 _ (zpX hi),e⟩
theorem zsj (hval:Value.okWide Tryz.prog W .any base 29 v) (h:DataW.Trod enc Tryz.prog W 0 (fun _=>true) true 29 v d ps) : ∃ a b c:Int,okI a∧okI b∧okI c∧RelV σ0 H0 W (.p (usV a b c)) v:=by
 obtain⟨xs,hx,e⟩:=zek 8 (by kernel_rfl) hval h
 obtain⟨a,b,c,h1,h2,h3,rfl⟩:=zwJ (k:=6) hx
 rw [ztw] at e
 exact⟨a,b,c,h1,h2,h3,e⟩
theorem zl6 (hval:Value.okWide Tryz.prog W .any base 26 v) (h:DataW.Trod enc Tryz.prog W 0 (fun _=>true) true 26 v d ps) : ∃ x:Tk,x.In∧RelV σ0 H0 W (.p (tkv x)) v:=by
 obtain⟨xs,hx,e⟩:=zek 12 (by kernel_rfl) hval h
 obtain⟨x,h1,rfl⟩:=zzk (k:=7) hx
 rw [ztu] at e
 exact⟨x,h1,e⟩
end rel
end Go.Proofs.YtgflpgcogkdpgaaGreatDoor

/-
  Audits: how many messages an honest session has.
-/
namespace Go.Proofs.YtgflpgcogkdpgaaGreatDoor
open Go Go.AL

theorem zpY {id:Int} {P:List Msg}:ser id P P.length≠0:=by
 have hn:nth P P.length=zM:=by simp [nth];rfl
 have hf:fits (mi id P P.length).kind (P.length:Int)=false:=by
  rw [show (mi id P P.length).kind=(nth P P.length).kind from rfl,hn];rfl
 have hb:zcj (zZ id P 1 P.length (P.length % 2)) (mi id P P.length)=true:=by
  unfold zcj
  rw [show (zZ id P 1 P.length (P.length % 2)).step=P.length from zbe P.length,hf];simp
 unfold ser Go.Proofs.YtgflpgcogkdpgaaGreatDoor.send
 rw [hb];exact (by decide:(290:Int)≠0)
def Sent (id:Int) (P:List Msg) (n:Nat):Prop:=(∀ j,j < n → ser id P j=0)∧ser id P n≠0
theorem Sent.uniq {id:Int} {P:List Msg} {n m:Nat} (h1:Sent id P n) (h2:Sent id P m):n=m:=by
 rcases Nat.lt_trichotomy n m with q | q | q
 · exact absurd (h2.1 n q) h1.2
 · exact q
 · exact absurd (h1.1 m q) h2.2
theorem Sent.ex (id:Int) (P:List Msg) : ∃ n,n≤P.length∧Sent id P n:=by
 suffices hs : ∀ n,(∀ j,j < n → ser id P j=0) ∨ ∃ m,m < n∧Sent id P m by
  rcases hs (P.length+1) with q | ⟨m,h1,h2⟩
  · exact absurd (q P.length (by omega)) zpY
  · exact⟨m,by omega,h2⟩
 intro n
 induction n with
 | zero=>exact .inl fun j hj=>absurd hj (by omega)
 | succ n ih =>
  rcases ih with q | ⟨m,h1,h2⟩
  · by_cases hz:ser id P n=0
    · refine .inl fun j hj => ?_
      rcases Nat.lt_or_ge j n with c | c
      · exact q j c
      · obtain rfl:j=n:=(by omega)
        exact hz
    · exact .inr ⟨n,by omega,q,hz⟩
  · exact .inr ⟨m,by omega,h2⟩
section sent
variable {id:Int} {P:List Msg} {n k:Nat}
theorem zjz (hP:PlOk P) (hid:0≤id∧id≤65535) (hn:n≤1000) : ∀ i,i < (yb id P n).length → (nth (yb id P n) i).Ok:=fun i hi=>by
 rw [zh] at hi
 rw [yK hi]
 exact zlY hP hid (by omega)
end sent
theorem zir {x:Tk}:(yA x).length≤13:=by
 have h1:(zai x (vn x)).length=2+vn x:=by simp [zai,zbZ];omega
 have h2:vn x≤10:=by unfold vn;omega
 unfold yA
 split
 · simp [h1];omega
 · omega
theorem zwL {x:Tk}:0≤tid x∧tid x≤65535:=by unfold tid;omega
section walks
variable {G:Globs}
theorem zfg (x:Tk) (hx:x.In) {n:Nat} (hn:Sent (tid x) (yA x) n) (H:Hp) (R:AV → Hp → Prop) (h:R (.p (.sl false 38 (pl ym (yb (tid x) (yA x) n)))) H):ACall Tryz.prog G 10 [.p (tkv x)] H R :=
 zdH x hx.id hx.text hx.root hx.sums hx.vals hx.val hx.wide H R fun m _ h1 h2=>by
  have hm:Sent (tid x) (yA x) m:=⟨h1,by
   rcases h2 with e | e
   · rw [e];exact zpY
   · exact e⟩
  rw [hm.uniq hn];exact h
end walks
end Go.Proofs.YtgflpgcogkdpgaaGreatDoor

/-
  Audits: the law of honest sessions,walked.
-/
namespace Go.Proofs.YtgflpgcogkdpgaaGreatDoor
open Go Go.AL

def oB (B:Hp) (o:Option AB):Hp:=match o with | none=>B | some x=>B.new x
section ob
variable {B:Hp} {o:Option AB} {b k:Nat} {x y:AB}
theorem zEz (h:b < B.n):(oB B o).f b=B.f b:=by cases o with | none=>rfl | some x=>exact Hp.f_new_old _ _ _ h
theorem zEA:(oB B none).n=B.n:=rfl
theorem zBS:(oB B none).new x=oB B (some x):=rfl
theorem zzl (h:k=B.n):(oB B (some x)).f k=some x:=by subst h;show (B.new x).f B.n=_;rw [Hp.f_new,if_pos rfl]
theorem zBT (h:k=B.n):(oB B (some x)).set k y=oB B (some y):=by
 subst h;show (B.new x).set B.n y=B.new y
 simp (disch:=first|exact za|fail) only [go_sem,seval]
end ob
attribute [go_sem] zEz zEA zBS zzl zBT
theorem zl7 {id:Int} {P:List Msg} {n i:Nat} (h:i < n):(yb id P n)[i]? = some (mi id P i):=by simp [yb,tab,h]
theorem zzm {x:Tk}:(tkc x).length=6:=rfl
theorem zwM {x:Tk}:(tkc x).take 6=tkc x:=rfl
theorem zBU {x:Tk}:zq (tkc x) = .p (tkv x):=rfl
attribute [go_sem] zzm zwM zBU
section walks
variable {G:Globs} {r1 r2:Nat} {m1:List (Int × Rule)} {m2:List (Int × Int)}
set_option maxHeartbeats 4000000 in
set_option maxRecDepth 20000 in
theorem zl8 (g:GR G r1 r2 m1 m2) (x:Tk) (hx:x.In) (z:BitVec 8) (H:Hp) (R:AV → Hp → Prop) (h:R (.p (bo true)) H):ACall Tryz.prog G 8 [.p (tkv x),.p (b8 z)] H R:=by
 have hP:PlOk (yA x):=zfJ hx.wide
 have hid:=zwL (x:=x)
 have hln:=zir (x:=x)
 obtain⟨n,hn,hs⟩:=Sent.ex (tid x) (yA x)
 have hM:=fun H R=>zfg (G:=G) x hx hs H R
 generalize tid x=id at hid hs hM
 generalize yA x=P at hP hln hn hs hM
 have hz:=z.isLt
 obtain⟨k,hk⟩ : ∃ k,k=z.toNat % (n+1):=⟨_,rfl⟩
 have hkn:k≤n:=by have:=Nat.mod_lt z.toNat (show 0 < n+1 by omega);omega
 have hze:((z.toNat:Nat):Int) % ((n:Int)+1)=(k:Int):=by rw [hk];push_cast;rfl
 have a1:aud (yb id P n)=0:=zg8 hP hid hs.1
 have a2:aud (yb id P k)=0:=zg8 hP hid fun j hj=>hs.1 j (by omega)
 have ht:(yb id P n).take k=yb id P k:=zse hkn
 have l1:(yb id P n).length≤1000:=by rw [zh];omega
 have l2:(yb id P k).length≤1000:=by rw [zh];omega
 have k1:=zjz hP hid (n:=n) (by omega)
 have k2:=zjz hP hid (n:=k) (by omega)
 refine ACall.of_run (raw:=[]) Tryz.func8 rfl Tryz.ntmps8 (by simp) fun hbel => ?_
 refine .q ?_;refine .text ?_;simp (disch:=first|exact za|fail) only [go_sem,seval,-List.reduceReplicate]
 refine .q ?_;refine .text ?_;simp (disch:=first|exact za|fail) only [go_sem,seval,-List.reduceReplicate]
 refine CallK.of (fun R h=>zfe g _ R h) ?_;simp (disch:=first|exact za|fail) only [go_sem,seval,-List.reduceReplicate]
 refine .q ?_;refine .text ?_;simp (disch:=first|exact za|fail) only [go_sem,seval,-List.reduceReplicate]
 refine CallK.of (fun R h=>hM _ R h) ?_;simp (disch:=first|exact za|fail) only [go_sem,seval,-List.reduceReplicate]
 refine .q ?_;refine .text ?_;simp (disch:=first|exact za|fail) only [go_sem,seval,-List.reduceReplicate,zh,hze]
 refine .q ?_;refine .text ?_;simp (disch:=first|exact za|fail) only [go_sem,seval,-List.reduceReplicate,zh]
 refine CallK.of (fun R h=>yh g (yb id P n) l1 k1 _ R h) ?_;simp (disch:=first|exact za|fail) only [go_sem,seval,-List.reduceReplicate,a1,zh,ht]
 refine CallK.of (fun R h=>yh g (yb id P k) l2 k2 _ R h) ?_;simp (disch:=first|exact za|fail) only [go_sem,seval,-List.reduceReplicate,a2]
 refine .q ?_;refine .ifF (by simp (disch:=first|exact za|fail) only [go_sem,seval,-List.reduceReplicate]) ?_
 refine .skip ?_
 refine .q ?_;refine .text ?_;simp (disch:=first|exact za|fail) only [go_sem,seval,-List.reduceReplicate,zh]
 by_cases h0:n=0
 · have d0:((n:Int) == 0)=true:=by rw [h0];rfl
   refine .q ?_;refine .ifT (by simp (disch:=first|exact za|fail) only [go_sem,seval,-List.reduceReplicate,d0,zh]) ?_
   refine .q ?_;refine .text ?_;simp (disch:=first|exact za|fail) only [go_sem,seval,-List.reduceReplicate]
   refine .q ?_;refine .rt Tryz.func8 (by rw [Tryz.results8]) (hR := ?_);simp (disch:=first|exact za|fail) only [go_sem,seval,-List.reduceReplicate]
   exact h
 · have d0:((n:Int) == 0)=false:=by simpa using h0
   refine .q ?_;refine .ifF (by simp (disch:=first|exact za|fail) only [go_sem,seval,-List.reduceReplicate,d0,zh]) ?_
   refine .skip ?_
   have hp0:(pl ym (yb id P n))[0]? = some (ym (mi id P 0)):=by
    rw [pl,List.getElem?_map,zl7 (by omega)];rfl
   have hp1:(ym (mi id P 0)).cells[1]? = some (i64 id):=rfl
   refine .q ?_;refine .text ?_;simp (disch:=first|exact za|fail) only [go_sem,seval,-List.reduceReplicate,zh,hp0,hp1]
   refine CallK.of (fun R h=>zet id 100 _ R h) ?_;simp (disch:=first|exact za|fail) only [go_sem,seval,-List.reduceReplicate,zn]
   refine .q ?_;refine .text ?_;simp (disch:=first|exact za|fail) only [go_sem,seval,-List.reduceReplicate,zh,hp0,hp1]
   refine CallK.of (fun R h=>zet id 100 _ R h) ?_;simp (disch:=first|exact za|fail) only [go_sem,seval,-List.reduceReplicate,zn]
   refine .q ?_;refine .text ?_;simp (disch:=first|exact za|fail) only [go_sem,seval,-List.reduceReplicate]
   refine .q ?_;refine .loopF [5,6,7,8,9] (fun i=>[(10,.p (i64 i))]) (fun i=>[(H.n+1,.cells (zJ (zZ id P 100 i 0))),(H.n+2,.cells (zJ (zZ id P 100 i 1)))]) (fun i=>True) (0) (k) (by omega) ?_ (by first | rfl | (simp (disch:=first|exact za|fail) only [go_sem,seval,-List.reduceReplicate,zdj]<;>rfl)) ?_ ?_ ?_
   · simp (disch:=first|exact za|fail) only [go_sem,seval,-List.reduceReplicate,zdj]<;>(repeat' (first | rfl | refine And.intro ?_ ?_))
   · exact trivial
   intro env T E hQ;simp (disch:=first|exact za|fail) only [go_sem,seval,-List.reduceReplicate,zdj] at E
   rotate_left 1
   intro i env T hi0 hi E hQ ihE;simp (disch:=first|exact za|fail) only [go_sem,seval,-List.reduceReplicate,zdj] at E
   rotate_left 1
   · refine .q ?_;refine .text ?_;simp (disch:=first|exact za|fail) only [go_sem,seval,-List.reduceReplicate,E,zc,zf]
     refine .q ?_;refine .ifF (by simp (disch:=first|exact za|fail) only [go_sem,seval,-List.reduceReplicate]) ?_
     refine .q ?_;refine .text ?_;simp (disch:=first|exact za|fail) only [go_sem,seval,-List.reduceReplicate,E,zc,zf,zh,ht]
     have hgk:=zeB (D:=100) hP hid (by decide) k (by omega) fun j hj=>hs.1 j (by omega)
     have hg0:=hgk 0 (by omega)
     have q1:=hg0.bytes
     have q2:=hg0.rounds
     have q3:=hg0.words
     obtain⟨ub,eb⟩ : ∃ u,u=(zZ id P 100 k 0).bytes:=⟨_,rfl⟩
     obtain⟨ur,er⟩ : ∃ u,u=(zZ id P 100 k 0).rounds:=⟨_,rfl⟩
     obtain⟨uw,ew⟩ : ∃ u,u=(zZ id P 100 k 0).words:=⟨_,rfl⟩
     rw [←eb] at q1
     rw [←er] at q2
     rw [←ew] at q3
     have hu0:zif (zZ id P 100 k 0)=usV ub ur uw:=by rw [eb,er,ew];rfl
     have hu1:zif (zZ id P 100 k 1)=usV ub ur uw:=by rw [eb,er,ew];rfl
     have hu:zg4 (yb id P k)=usV ub ur uw:=by rw [←hu0];exact zoF
     have hE:zt Tryz.prog .eql 29 (.p (usV ub ur uw)) (.p (usV ub ur uw))=some (.p (bo true)):=(zn8 ⟨by omega,by omega⟩ ⟨by omega,by omega⟩ ⟨by omega,by omega⟩).1
     refine CallK.of (fun R h=>zdi g (yb id P k) l2 k2 _ R h) ?_;simp (disch:=first|exact za|fail) only [go_sem,seval,-List.reduceReplicate,E,hu]
     refine .q ?_;refine .open [13] follows (by kernel_rfl) ?_;simp (disch:=first|exact za|fail) only [go_sem,seval,-List.reduceReplicate,E,hu0,hu1,hE]
     refine CallD.still (fun R h=>zgX (zZ id P 100 k 0) _ R h) ?_;simp (disch:=first|exact za|fail) only [go_sem,seval,-List.reduceReplicate,E,hu0,hu1,hE]
     refine CallD.still (fun R h=>zgX (zZ id P 100 k 1) _ R h) ?_;simp (disch:=first|exact za|fail) only [go_sem,seval,-List.reduceReplicate,E,hu0,hu1,hE]
     refine .q ?_;refine .rt Tryz.func8 (by rw [Tryz.results8]) (hx:=by simp (disch:=first|exact za|fail) only [go_sem,seval,-List.reduceReplicate,E];rfl) (hR := ?_);simp (disch:=first|exact za|fail) only [go_sem,seval,-List.reduceReplicate,E]
     exact h
   · have hz0:ser id P i=0:=hs.1 i (by omega)
     have hall : ∀ j,j≤i → ser id P j=0:=fun j hj=>hs.1 j (by omega)
     have hgd:=zeB (D:=100) hP hid (by decide) i (by omega) fun j hj=>hs.1 j (by omega)
     have o0:=(hgd 0 (by omega)).ok (by omega)
     have o1:=(hgd 1 (by omega)).ok (by omega)
     have hmi:(mi id P i).Ok:=zlY hP hid (by omega)
     have hpi:(pl ym (yb id P n))[i]? = some (ym (mi id P i)):=by
      rw [pl,List.getElem?_map,zl7 (by omega)];rfl
     have hel:(enc (mi id P i)).length≤3000:=zcD
     refine .q ?_;refine .text ?_;simp (disch:=first|exact za|fail) only [go_sem,seval,-List.reduceReplicate,E,zc,zf]
     refine .q ?_;refine .ifT (by simp (disch:=first|exact za|fail) only [go_sem,seval,-List.reduceReplicate]) ?_
     refine .q ?_;refine .text ?_;simp (disch:=first|exact za|fail) only [go_sem,seval,-List.reduceReplicate,E]
     have hpar:i % 2=0 ∨ i % 2=1:=by omega
     rcases hpar with hp | hp
     · have dp:((i:Int) % 2 == 0)=true:=by rw [show (i:Int) % 2=0 by omega];rfl
       have hse:send (zZ id P 100 i 0) (mi id P i)=(zZ id P 100 (i+1) 0,enc (mi id P i),0):=zbN hz0 hp
       have hrv:recv (zZ id P 100 i 1) (enc (mi id P i)) 5=(zZ id P 100 (i+1) 1,mi id P i,0):=zbO hall hP.okI (by omega) (by decide)
       refine .q ?_;refine .ifT (by simp (disch:=first|exact za|fail) only [go_sem,seval,-List.reduceReplicate,dp]) ?_
       refine zlG fun B hB => ?_
       have hBn:B.n=H.n+3+T.length:=by rw [hB];simp (disch:=first|exact za|fail) only [go_sem,seval,-List.reduceReplicate]
       have hB1:B.f (H.n+1)=some (.cells (zJ (zZ id P 100 i 0))):=by rw [hB];simp (disch:=first|exact za|fail) only [go_sem,seval,-List.reduceReplicate]
       have hB2:B.f (H.n+2)=some (.cells (zJ (zZ id P 100 i 1))):=by rw [hB];simp (disch:=first|exact za|fail) only [go_sem,seval,-List.reduceReplicate]
       change ARun _ _ _ (oB B none) R
       have hsend : ∀ (B':Hp) R,R (.tup [.p (y9 (zZ id P 100 (i+1) 0)),.p (.sl false 1 (pl b8 (enc (mi id P i)))),.p (i64 0)]) B' → ACall Tryz.prog G 26 [.p (y9 (zZ id P 100 i 0)),.p (ym (mi id P i))] B' R:=fun B' R h=>zeR g (zZ id P 100 i 0) o0 (mi id P i) hmi B' R (by rw [hse];exact h)
       (refine .q ?_)
       refine .openInv (fun L env' H'=>kF env' [(5,.p (bo true)),(6,.p (.sl false 38 (pl ym (yb id P n)))),(7,.p (i64 k)),(8,.ptr (H.n+1) 0),(9,.ptr (H.n+2) 0),(10,.p (i64 i))]∧kI L env' [(0,66,.p (y9 (zZ id P 100 i 0))),(1,67,.p (.sl false 38 (pl ym (yb id P n)))),(2,68,.p (i64 i)),(3,69,.ip 38 (pl ym (yb id P n)) i 0),(4,70,.p (ym (mi id P i))),(5,71,.tup [.p (y9 (zZ id P 100 (i+1) 0)),.p (.sl false 1 (pl b8 (enc (mi id P i)))),.p (i64 0)]),(6,65,.tup [.p (y9 (zZ id P 100 (i+1) 0)),.p (.sl false 1 (pl b8 (enc (mi id P i)))),.p (i64 0)]),(7,72,.p (y9 (zZ id P 100 (i+1) 0))),(8,73,.p (.sl false 1 (pl b8 (enc (mi id P i))))),(9,74,.p (i64 0)),(10,11,.ptr (H.n+3+T.length) 0),(12,12,.p (.sl false 1 (pl b8 (enc (mi id P i))))),(13,13,.p (i64 0))]∧(L 11=true → allT L [0,1,2,3,4,5,6,7,10])∧H'=(oB B (if L 11 then some (.cells (zJ (zZ id P 100 (i+1) 0))) else if L 10 then some (.cells (nC 0 0)) else none))) follows (by kernel_rfl) ?_ ?_ ?_
       · exact⟨(by simp (disch:=first|exact za|fail) only [go_sem,seval,-List.reduceReplicate,kFi,kFn,and_self,E,hpi,zh,hBn,hB1,hB2,zn]),(fun _ _ h=>by cases h),(fun h=>by cases h),(by first | rfl | (simp only [Bool.false_eq_true,if_false];first | rfl | (simp (disch:=first|exact za|fail) only [go_sem,seval,-List.reduceReplicate,E,hpi,zh,hBn,hB1,hB2,zn]<;>rfl)))⟩
       · intro i o L env' H' ho hL hall hI
         obtain⟨KF,KG,m11,rfl⟩:=hI
         rcases i with _ | _ | _ | _ | _ | _ | _ | _ | _ | _ | _ | _ | _ | _ | i
         · cases ho;have n11:=y8 m11 hL;have f3:=yl KF 3 rfl;refine zg (.p (y9 (zZ id P 100 i 0))) rfl rfl (by simp (disch:=first|exact za|fail) only [go_sem,seval,-List.reduceReplicate,reduceIte,Bool.false_eq_true,if_false,if_true,f3,n11,hL,hpi,zh,hBn,hB1,hB2,zn]<;>rfl) rfl ?_;exact⟨zT KF,zU KG,ka m11,(by rw [zb (by decide),zb (by decide)])⟩
         · cases ho;have f1:=yl KF 1 rfl;refine zg (.p (.sl false 38 (pl ym (yb id P n)))) rfl rfl (by simp (disch:=first|exact za|fail) only [go_sem,seval,-List.reduceReplicate,f1,hpi,zh,hBn,hB1,hB2,zn]<;>rfl) rfl ?_;exact⟨zT KF,zU KG,ka m11,(by rw [zb (by decide),zb (by decide)])⟩
         · cases ho;have f5:=yl KF 5 rfl;refine zg (.p (i64 i)) rfl rfl (by simp (disch:=first|exact za|fail) only [go_sem,seval,-List.reduceReplicate,f5,hpi,zh,hBn,hB1,hB2,zn]<;>rfl) rfl ?_;exact⟨zT KF,zU KG,ka m11,(by rw [zb (by decide),zb (by decide)])⟩
         · cases ho;have d1:=zG KG 1 rfl (kL hall 0 rfl rfl);have d2:=zG KG 2 rfl (kL hall 1 rfl rfl);refine zg (.ip 38 (pl ym (yb id P n)) i 0) rfl rfl (by simp (disch:=first|exact za|fail) only [go_sem,seval,-List.reduceReplicate,d1,d2,hpi,zh,hBn,hB1,hB2,zn]<;>rfl) rfl ?_;exact⟨zT KF,zU KG,ka m11,(by rw [zb (by decide),zb (by decide)])⟩
         · cases ho;have d3:=zG KG 3 rfl (kL hall 0 rfl rfl);have n11:=y8 m11 hL;refine zg (.p (ym (mi id P i))) rfl rfl (by simp (disch:=first|exact za|fail) only [go_sem,seval,-List.reduceReplicate,reduceIte,Bool.false_eq_true,if_false,if_true,d3,n11,hL,hpi,zh,hBn,hB1,hB2,zn]<;>rfl) rfl ?_;exact⟨zT KF,zU KG,ka m11,(by rw [zb (by decide),zb (by decide)])⟩
         · cases ho;have d0:=zG KG 0 rfl (kL hall 0 rfl rfl);have d4:=zG KG 4 rfl (kL hall 1 rfl rfl);have n11:=y8 m11 hL;(try simp only [n11,if_true,if_false,Bool.false_eq_true]);refine yT rfl rfl (by simp (disch:=first|exact za|fail) only [go_sem,seval,-List.reduceReplicate,reduceIte,Bool.false_eq_true,if_false,if_true,d0,d4,n11,hL,hpi,zh,hBn,hB1,hB2,zn]<;>rfl) rfl (by simp (disch:=first|exact za|fail) only [go_sem,seval,-List.reduceReplicate,reduceIte,Bool.false_eq_true,if_false,if_true,d0,d4,n11,hL,hpi,zh,hBn,hB1,hB2,zn]<;>rfl) (fun R h=>hsend _ R h) ?_;exact⟨zT KF,zU KG,ka m11,(by (have e10:more L 5 10=L 10:=zb (by decide));(have e11:more L 5 11=L 11:=zb (by decide));(try simp only [e10,e11,n11]);first | done | rfl | (simp only [e10,e11,n11,if_true,if_false,Bool.false_eq_true];first | done | rfl | (simp (disch:=first|exact za|fail) only [go_sem,seval,-List.reduceReplicate,e10,e11,n11,hpi,zh,hBn,hB1,hB2,zn]<;>rfl)))⟩
         · cases ho;have d5:=zG KG 5 rfl (kL hall 0 rfl rfl);refine zg (.tup [.p (y9 (zZ id P 100 (i+1) 0)),.p (.sl false 1 (pl b8 (enc (mi id P i)))),.p (i64 0)]) rfl rfl (by simp (disch:=first|exact za|fail) only [go_sem,seval,-List.reduceReplicate,d5,hpi,zh,hBn,hB1,hB2,zn]<;>rfl) rfl ?_;exact⟨zT KF,zU KG,ka m11,(by rw [zb (by decide),zb (by decide)])⟩
         · cases ho;have d6:=zG KG 6 rfl (kL hall 0 rfl rfl);refine zg (.p (y9 (zZ id P 100 (i+1) 0))) rfl rfl (by simp (disch:=first|exact za|fail) only [go_sem,seval,-List.reduceReplicate,d6,hpi,zh,hBn,hB1,hB2,zn]<;>rfl) rfl ?_;exact⟨zT KF,zU KG,ka m11,(by rw [zb (by decide),zb (by decide)])⟩
         · cases ho;have d6:=zG KG 6 rfl (kL hall 0 rfl rfl);refine zg (.p (.sl false 1 (pl b8 (enc (mi id P i))))) rfl rfl (by simp (disch:=first|exact za|fail) only [go_sem,seval,-List.reduceReplicate,d6,hpi,zh,hBn,hB1,hB2,zn]<;>rfl) rfl ?_;exact⟨zT KF,zU KG,ka m11,(by rw [zb (by decide),zb (by decide)])⟩
         · cases ho;have d6:=zG KG 6 rfl (kL hall 0 rfl rfl);refine zg (.p (i64 0)) rfl rfl (by simp (disch:=first|exact za|fail) only [go_sem,seval,-List.reduceReplicate,d6,hpi,zh,hBn,hB1,hB2,zn]<;>rfl) rfl ?_;exact⟨zT KF,zU KG,ka m11,(by rw [zb (by decide),zb (by decide)])⟩
         · cases ho;have n11:=y8 m11 hL;(try simp only [n11,hL,if_true,if_false,Bool.false_eq_true]);refine za8 (.ptr (H.n+3+T.length) 0) rfl rfl (by simp (disch:=first|exact za|fail) only [go_sem,seval,-List.reduceReplicate,reduceIte,Bool.false_eq_true,if_false,if_true,n11,hL,hpi,zh,hBn,hB1,hB2,zn]<;>rfl) rfl ?_;exact⟨zT KF,zU KG,ka m11,(by (have e10:more L 10 10=true:=zF);(have e11:more L 10 11=L 11:=zb (by decide));(try simp only [e10,e11,n11,hL]);first | done | rfl | (simp only [e10,e11,n11,hL,if_true,if_false,Bool.false_eq_true];first | done | rfl | (simp (disch:=first|exact za|fail) only [go_sem,seval,-List.reduceReplicate,e10,e11,n11,hL,hpi,zh,hBn,hB1,hB2,zn]<;>rfl)))⟩
         · cases ho;have h10:=kL hall 0 rfl rfl;have d10:=zG KG 10 rfl h10;have h7:=kL hall 1 rfl rfl;have d7:=zG KG 7 rfl h7;have h5:=kL hall 2 rfl rfl;have h0:=kL hall 3 rfl rfl;have h1:=kL hall 4 rfl rfl;have h2:=kL hall 5 rfl rfl;have h3:=kL hall 6 rfl rfl;have h4:=kL hall 7 rfl rfl;have h6:=kL hall 9 rfl rfl;refine yz rfl rfl (by simp (disch:=first|exact za|fail) only [go_sem,seval,-List.reduceReplicate,reduceIte,Bool.false_eq_true,if_false,if_true,d7,d10,h10,hL,hpi,zh,hBn,hB1,hB2,zn]<;>rfl) rfl ?_;exact⟨KF,kIs KG,(fun _=>kt (ze h0 (ze h1 (ze h2 (ze h3 (ze h4 (ze h5 (ze h6 (ze h7 (ze h10 zz)))))))))),(by (have e10:more L 11 10=L 10:=zb (by decide));(have e11:more L 11 11=true:=zF);(try simp only [e10,e11,h10,hL]);first | done | rfl | (simp only [e10,e11,h10,hL,if_true,if_false,Bool.false_eq_true];first | done | rfl | (simp (disch:=first|exact za|fail) only [go_sem,seval,-List.reduceReplicate,e10,e11,h10,hL,hpi,zh,hBn,hB1,hB2,zn]<;>rfl)))⟩
         · cases ho;have d8:=zG KG 8 rfl (kL hall 0 rfl rfl);refine zg (.p (.sl false 1 (pl b8 (enc (mi id P i))))) rfl rfl (by simp (disch:=first|exact za|fail) only [go_sem,seval,-List.reduceReplicate,d8,hpi,zh,hBn,hB1,hB2,zn]<;>rfl) rfl ?_;exact⟨zT KF,zU KG,ka m11,(by rw [zb (by decide),zb (by decide)])⟩
         · cases ho;have d9:=zG KG 9 rfl (kL hall 0 rfl rfl);refine zg (.p (i64 0)) rfl rfl (by simp (disch:=first|exact za|fail) only [go_sem,seval,-List.reduceReplicate,d9,hpi,zh,hBn,hB1,hB2,zn]<;>rfl) rfl ?_;exact⟨zT KF,zU KG,ka m11,(by rw [zb (by decide),zb (by decide)])⟩
         · simp at ho
       · intro L env' H' hall hI
         obtain⟨KF,KG,_,rfl⟩:=hI
         have l10:=hall 10 (by decide)
         have l11:=hall 11 (by decide)
         have f0:=yl KF 0 rfl
         have f1:=yl KF 1 rfl
         have f2:=yl KF 2 rfl
         have f3:=yl KF 3 rfl
         have f4:=yl KF 4 rfl
         have f5:=yl KF 5 rfl
         have g10:=zG KG 10 rfl (hall 10 (by decide))
         have g12:=zG KG 11 rfl (hall 12 (by decide))
         have g13:=zG KG 12 rfl (hall 13 (by decide))
         simp only [l10,l11,if_true]
         clear hall
         change ARun _ _ _ (B.new _) R
         rw [hB]
         refine .q ?_;refine .text ?_;simp (disch:=first|exact za|fail) only [go_sem,seval,-List.reduceReplicate,f0,f1,f2,f3,f4,f5,g10,g12,g13]
         refine CallK.of (fun R h=>zcB g (zZ id P 100 i 1) o1 (enc (mi id P i)) (by omega) 5 _ R h) ?_;simp (disch:=first|exact za|fail) only [go_sem,seval,-List.reduceReplicate,f0,f1,f2,f3,f4,f5,g10,g12,g13,hrv]
         refine .q ?_;refine .text ?_;simp (disch:=first|exact za|fail) only [go_sem,seval,-List.reduceReplicate,f0,f1,f2,f3,f4,f5,g10,g12,g13]
         refine .q ?_;refine .ifF (by simp (disch:=first|exact za|fail) only [go_sem,seval,-List.reduceReplicate]) ?_
         refine .skip ?_
         refine .q ?_;refine .text ?_;simp (disch:=first|exact za|fail) only [go_sem,seval,-List.reduceReplicate,f0,f1,f2,f3,f4,f5,g10,g12,g13]
         refine .q ?_;refine .text ?_;simp (disch:=first|exact za|fail) only [go_sem,seval,-List.reduceReplicate,f0,f1,f2,f3,f4,f5,g10,g12,g13]
         refine .q ?_;refine .text ?_;simp (disch:=first|exact za|fail) only [go_sem,seval,-List.reduceReplicate,f0,f1,f2,f3,f4,f5,g10,g12,g13]
         first | (refine ihE _ _ ?_ trivial ?_) | (refine .z rfl ?_;refine ihE _ _ ?_ trivial ?_) | (refine .z rfl ?_;refine .z rfl ?_;refine ihE _ _ ?_ trivial ?_) | (refine .z rfl ?_;refine .z rfl ?_;refine .z rfl ?_;refine ihE _ _ ?_ trivial ?_)
         · simp (disch:=first|exact za|fail) only [go_sem,seval,-List.reduceReplicate,f0,f1,f2,f3,f4,f5,g10,g12,g13,zc,zf]<;>(repeat' (first | rfl | refine And.intro ?_ ?_))
         · first | exact .mk _ rfl | exact .mk [] rfl | (apply Later.mk;simp (disch:=first|exact za|fail) only [go_sem,seval,-List.reduceReplicate,zm,f0,f1,f2,f3,f4,f5,g10,g12,g13,zc,zf];exact rfl) | (apply Later.mk;simp (disch:=first|exact za|fail) only [go_sem,seval,-List.reduceReplicate,zm,zO,List.append_assoc,f0,f1,f2,f3,f4,f5,g10,g12,g13,zc,zf]<;>(try rfl))
     · have dp:((i:Int) % 2 == 0)=false:=by rw [show (i:Int) % 2=1 by omega];rfl
       have hse:send (zZ id P 100 i 1) (mi id P i)=(zZ id P 100 (i+1) 1,enc (mi id P i),0):=zbN hz0 hp
       have hrv:recv (zZ id P 100 i 0) (enc (mi id P i)) 5=(zZ id P 100 (i+1) 0,mi id P i,0):=zbO hall hP.okI (by omega) (by decide)
       refine .q ?_;refine .ifF (by simp (disch:=first|exact za|fail) only [go_sem,seval,-List.reduceReplicate,dp]) ?_
       refine zlG fun B hB => ?_
       have hBn:B.n=H.n+3+T.length:=by rw [hB];simp (disch:=first|exact za|fail) only [go_sem,seval,-List.reduceReplicate]
       have hB1:B.f (H.n+1)=some (.cells (zJ (zZ id P 100 i 0))):=by rw [hB];simp (disch:=first|exact za|fail) only [go_sem,seval,-List.reduceReplicate]
       have hB2:B.f (H.n+2)=some (.cells (zJ (zZ id P 100 i 1))):=by rw [hB];simp (disch:=first|exact za|fail) only [go_sem,seval,-List.reduceReplicate]
       change ARun _ _ _ (oB B none) R
       have hsend : ∀ (B':Hp) R,R (.tup [.p (y9 (zZ id P 100 (i+1) 1)),.p (.sl false 1 (pl b8 (enc (mi id P i)))),.p (i64 0)]) B' → ACall Tryz.prog G 26 [.p (y9 (zZ id P 100 i 1)),.p (ym (mi id P i))] B' R:=fun B' R h=>zeR g (zZ id P 100 i 1) o1 (mi id P i) hmi B' R (by rw [hse];exact h)
       (refine .q ?_)
       refine .openInv (fun L env' H'=>kF env' [(5,.p (bo true)),(6,.p (.sl false 38 (pl ym (yb id P n)))),(7,.p (i64 k)),(8,.ptr (H.n+1) 0),(9,.ptr (H.n+2) 0),(10,.p (i64 i))]∧kI L env' [(0,91,.p (y9 (zZ id P 100 i 1))),(1,92,.p (.sl false 38 (pl ym (yb id P n)))),(2,93,.p (i64 i)),(3,94,.ip 38 (pl ym (yb id P n)) i 0),(4,95,.p (ym (mi id P i))),(5,96,.tup [.p (y9 (zZ id P 100 (i+1) 1)),.p (.sl false 1 (pl b8 (enc (mi id P i)))),.p (i64 0)]),(6,90,.tup [.p (y9 (zZ id P 100 (i+1) 1)),.p (.sl false 1 (pl b8 (enc (mi id P i)))),.p (i64 0)]),(7,97,.p (y9 (zZ id P 100 (i+1) 1))),(8,98,.p (.sl false 1 (pl b8 (enc (mi id P i))))),(9,99,.p (i64 0)),(10,17,.ptr (H.n+3+T.length) 0),(12,18,.p (.sl false 1 (pl b8 (enc (mi id P i))))),(13,19,.p (i64 0))]∧(L 11=true → allT L [0,1,2,3,4,5,6,7,10])∧H'=(oB B (if L 11 then some (.cells (zJ (zZ id P 100 (i+1) 1))) else if L 10 then some (.cells (nC 0 0)) else none))) follows (by kernel_rfl) ?_ ?_ ?_
       · exact⟨(by simp (disch:=first|exact za|fail) only [go_sem,seval,-List.reduceReplicate,kFi,kFn,and_self,E,hpi,zh,hBn,hB1,hB2,zn]),(fun _ _ h=>by cases h),(fun h=>by cases h),(by first | rfl | (simp only [Bool.false_eq_true,if_false];first | rfl | (simp (disch:=first|exact za|fail) only [go_sem,seval,-List.reduceReplicate,E,hpi,zh,hBn,hB1,hB2,zn]<;>rfl)))⟩
       · intro i o L env' H' ho hL hall hI
         obtain⟨KF,KG,m11,rfl⟩:=hI
         rcases i with _ | _ | _ | _ | _ | _ | _ | _ | _ | _ | _ | _ | _ | _ | i
         · cases ho;have n11:=y8 m11 hL;have f4:=yl KF 4 rfl;refine zg (.p (y9 (zZ id P 100 i 1))) rfl rfl (by simp (disch:=first|exact za|fail) only [go_sem,seval,-List.reduceReplicate,reduceIte,Bool.false_eq_true,if_false,if_true,f4,n11,hL,hpi,zh,hBn,hB1,hB2,zn]<;>rfl) rfl ?_;exact⟨zT KF,zU KG,ka m11,(by rw [zb (by decide),zb (by decide)])⟩
         · cases ho;have f1:=yl KF 1 rfl;refine zg (.p (.sl false 38 (pl ym (yb id P n)))) rfl rfl (by simp (disch:=first|exact za|fail) only [go_sem,seval,-List.reduceReplicate,f1,hpi,zh,hBn,hB1,hB2,zn]<;>rfl) rfl ?_;exact⟨zT KF,zU KG,ka m11,(by rw [zb (by decide),zb (by decide)])⟩
         · cases ho;have f5:=yl KF 5 rfl;refine zg (.p (i64 i)) rfl rfl (by simp (disch:=first|exact za|fail) only [go_sem,seval,-List.reduceReplicate,f5,hpi,zh,hBn,hB1,hB2,zn]<;>rfl) rfl ?_;exact⟨zT KF,zU KG,ka m11,(by rw [zb (by decide),zb (by decide)])⟩
         · cases ho;have d1:=zG KG 1 rfl (kL hall 0 rfl rfl);have d2:=zG KG 2 rfl (kL hall 1 rfl rfl);refine zg (.ip 38 (pl ym (yb id P n)) i 0) rfl rfl (by simp (disch:=first|exact za|fail) only [go_sem,seval,-List.reduceReplicate,d1,d2,hpi,zh,hBn,hB1,hB2,zn]<;>rfl) rfl ?_;exact⟨zT KF,zU KG,ka m11,(by rw [zb (by decide),zb (by decide)])⟩
         · cases ho;have d3:=zG KG 3 rfl (kL hall 0 rfl rfl);have n11:=y8 m11 hL;refine zg (.p (ym (mi id P i))) rfl rfl (by simp (disch:=first|exact za|fail) only [go_sem,seval,-List.reduceReplicate,reduceIte,Bool.false_eq_true,if_false,if_true,d3,n11,hL,hpi,zh,hBn,hB1,hB2,zn]<;>rfl) rfl ?_;exact⟨zT KF,zU KG,ka m11,(by rw [zb (by decide),zb (by decide)])⟩
         · cases ho;have d0:=zG KG 0 rfl (kL hall 0 rfl rfl);have d4:=zG KG 4 rfl (kL hall 1 rfl rfl);have n11:=y8 m11 hL;(try simp only [n11,if_true,if_false,Bool.false_eq_true]);refine yT rfl rfl (by simp (disch:=first|exact za|fail) only [go_sem,seval,-List.reduceReplicate,reduceIte,Bool.false_eq_true,if_false,if_true,d0,d4,n11,hL,hpi,zh,hBn,hB1,hB2,zn]<;>rfl) rfl (by simp (disch:=first|exact za|fail) only [go_sem,seval,-List.reduceReplicate,reduceIte,Bool.false_eq_true,if_false,if_true,d0,d4,n11,hL,hpi,zh,hBn,hB1,hB2,zn]<;>rfl) (fun R h=>hsend _ R h) ?_;exact⟨zT KF,zU KG,ka m11,(by (have e10:more L 5 10=L 10:=zb (by decide));(have e11:more L 5 11=L 11:=zb (by decide));(try simp only [e10,e11,n11]);first | done | rfl | (simp only [e10,e11,n11,if_true,if_false,Bool.false_eq_true];first | done | rfl | (simp (disch:=first|exact za|fail) only [go_sem,seval,-List.reduceReplicate,e10,e11,n11,hpi,zh,hBn,hB1,hB2,zn]<;>rfl)))⟩
         · cases ho;have d5:=zG KG 5 rfl (kL hall 0 rfl rfl);refine zg (.tup [.p (y9 (zZ id P 100 (i+1) 1)),.p (.sl false 1 (pl b8 (enc (mi id P i)))),.p (i64 0)]) rfl rfl (by simp (disch:=first|exact za|fail) only [go_sem,seval,-List.reduceReplicate,d5,hpi,zh,hBn,hB1,hB2,zn]<;>rfl) rfl ?_;exact⟨zT KF,zU KG,ka m11,(by rw [zb (by decide),zb (by decide)])⟩
         · cases ho;have d6:=zG KG 6 rfl (kL hall 0 rfl rfl);refine zg (.p (y9 (zZ id P 100 (i+1) 1))) rfl rfl (by simp (disch:=first|exact za|fail) only [go_sem,seval,-List.reduceReplicate,d6,hpi,zh,hBn,hB1,hB2,zn]<;>rfl) rfl ?_;exact⟨zT KF,zU KG,ka m11,(by rw [zb (by decide),zb (by decide)])⟩
         · cases ho;have d6:=zG KG 6 rfl (kL hall 0 rfl rfl);refine zg (.p (.sl false 1 (pl b8 (enc (mi id P i))))) rfl rfl (by simp (disch:=first|exact za|fail) only [go_sem,seval,-List.reduceReplicate,d6,hpi,zh,hBn,hB1,hB2,zn]<;>rfl) rfl ?_;exact⟨zT KF,zU KG,ka m11,(by rw [zb (by decide),zb (by decide)])⟩
         · cases ho;have d6:=zG KG 6 rfl (kL hall 0 rfl rfl);refine zg (.p (i64 0)) rfl rfl (by simp (disch:=first|exact za|fail) only [go_sem,seval,-List.reduceReplicate,d6,hpi,zh,hBn,hB1,hB2,zn]<;>rfl) rfl ?_;exact⟨zT KF,zU KG,ka m11,(by rw [zb (by decide),zb (by decide)])⟩
         · cases ho;have n11:=y8 m11 hL;(try simp only [n11,hL,if_true,if_false,Bool.false_eq_true]);refine za8 (.ptr (H.n+3+T.length) 0) rfl rfl (by simp (disch:=first|exact za|fail) only [go_sem,seval,-List.reduceReplicate,reduceIte,Bool.false_eq_true,if_false,if_true,n11,hL,hpi,zh,hBn,hB1,hB2,zn]<;>rfl) rfl ?_;exact⟨zT KF,zU KG,ka m11,(by (have e10:more L 10 10=true:=zF);(have e11:more L 10 11=L 11:=zb (by decide));(try simp only [e10,e11,n11,hL]);first | done | rfl | (simp only [e10,e11,n11,hL,if_true,if_false,Bool.false_eq_true];first | done | rfl | (simp (disch:=first|exact za|fail) only [go_sem,seval,-List.reduceReplicate,e10,e11,n11,hL,hpi,zh,hBn,hB1,hB2,zn]<;>rfl)))⟩
         · cases ho;have h10:=kL hall 0 rfl rfl;have d10:=zG KG 10 rfl h10;have h7:=kL hall 1 rfl rfl;have d7:=zG KG 7 rfl h7;have h5:=kL hall 2 rfl rfl;have h0:=kL hall 3 rfl rfl;have h1:=kL hall 4 rfl rfl;have h2:=kL hall 5 rfl rfl;have h3:=kL hall 6 rfl rfl;have h4:=kL hall 7 rfl rfl;have h6:=kL hall 9 rfl rfl;refine yz rfl rfl (by simp (disch:=first|exact za|fail) only [go_sem,seval,-List.reduceReplicate,reduceIte,Bool.false_eq_true,if_false,if_true,d7,d10,h10,hL,hpi,zh,hBn,hB1,hB2,zn]<;>rfl) rfl ?_;exact⟨KF,kIs KG,(fun _=>kt (ze h0 (ze h1 (ze h2 (ze h3 (ze h4 (ze h5 (ze h6 (ze h7 (ze h10 zz)))))))))),(by (have e10:more L 11 10=L 10:=zb (by decide));(have e11:more L 11 11=true:=zF);(try simp only [e10,e11,h10,hL]);first | done | rfl | (simp only [e10,e11,h10,hL,if_true,if_false,Bool.false_eq_true];first | done | rfl | (simp (disch:=first|exact za|fail) only [go_sem,seval,-List.reduceReplicate,e10,e11,h10,hL,hpi,zh,hBn,hB1,hB2,zn]<;>rfl)))⟩
         · cases ho;have d8:=zG KG 8 rfl (kL hall 0 rfl rfl);refine zg (.p (.sl false 1 (pl b8 (enc (mi id P i))))) rfl rfl (by simp (disch:=first|exact za|fail) only [go_sem,seval,-List.reduceReplicate,d8,hpi,zh,hBn,hB1,hB2,zn]<;>rfl) rfl ?_;exact⟨zT KF,zU KG,ka m11,(by rw [zb (by decide),zb (by decide)])⟩
         · cases ho;have d9:=zG KG 9 rfl (kL hall 0 rfl rfl);refine zg (.p (i64 0)) rfl rfl (by simp (disch:=first|exact za|fail) only [go_sem,seval,-List.reduceReplicate,d9,hpi,zh,hBn,hB1,hB2,zn]<;>rfl) rfl ?_;exact⟨zT KF,zU KG,ka m11,(by rw [zb (by decide),zb (by decide)])⟩
         · simp at ho
       · intro L env' H' hall hI
         obtain⟨KF,KG,_,rfl⟩:=hI
         have l10:=hall 10 (by decide)
         have l11:=hall 11 (by decide)
         have f0:=yl KF 0 rfl
         have f1:=yl KF 1 rfl
         have f2:=yl KF 2 rfl
         have f3:=yl KF 3 rfl
         have f4:=yl KF 4 rfl
         have f5:=yl KF 5 rfl
         have g10:=zG KG 10 rfl (hall 10 (by decide))
         have g12:=zG KG 11 rfl (hall 12 (by decide))
         have g13:=zG KG 12 rfl (hall 13 (by decide))
         simp only [l10,l11,if_true]
         clear hall
         change ARun _ _ _ (B.new _) R
         rw [hB]
         refine .q ?_;refine .text ?_;simp (disch:=first|exact za|fail) only [go_sem,seval,-List.reduceReplicate,f0,f1,f2,f3,f4,f5,g10,g12,g13]
         refine CallK.of (fun R h=>zcB g (zZ id P 100 i 0) o0 (enc (mi id P i)) (by omega) 5 _ R h) ?_;simp (disch:=first|exact za|fail) only [go_sem,seval,-List.reduceReplicate,f0,f1,f2,f3,f4,f5,g10,g12,g13,hrv]
         refine .q ?_;refine .text ?_;simp (disch:=first|exact za|fail) only [go_sem,seval,-List.reduceReplicate,f0,f1,f2,f3,f4,f5,g10,g12,g13]
         refine .q ?_;refine .ifF (by simp (disch:=first|exact za|fail) only [go_sem,seval,-List.reduceReplicate]) ?_
         refine .skip ?_
         refine .q ?_;refine .text ?_;simp (disch:=first|exact za|fail) only [go_sem,seval,-List.reduceReplicate,f0,f1,f2,f3,f4,f5,g10,g12,g13]
         refine .q ?_;refine .text ?_;simp (disch:=first|exact za|fail) only [go_sem,seval,-List.reduceReplicate,f0,f1,f2,f3,f4,f5,g10,g12,g13]
         refine .q ?_;refine .text ?_;simp (disch:=first|exact za|fail) only [go_sem,seval,-List.reduceReplicate,f0,f1,f2,f3,f4,f5,g10,g12,g13]
         first | (refine ihE _ _ ?_ trivial ?_) | (refine .z rfl ?_;refine ihE _ _ ?_ trivial ?_) | (refine .z rfl ?_;refine .z rfl ?_;refine ihE _ _ ?_ trivial ?_) | (refine .z rfl ?_;refine .z rfl ?_;refine .z rfl ?_;refine ihE _ _ ?_ trivial ?_)
         · simp (disch:=first|exact za|fail) only [go_sem,seval,-List.reduceReplicate,f0,f1,f2,f3,f4,f5,g10,g12,g13,zc,zf]<;>(repeat' (first | rfl | refine And.intro ?_ ?_))
         · first | exact .mk _ rfl | exact .mk [] rfl | (apply Later.mk;simp (disch:=first|exact za|fail) only [go_sem,seval,-List.reduceReplicate,zm,f0,f1,f2,f3,f4,f5,g10,g12,g13,zc,zf];exact rfl) | (apply Later.mk;simp (disch:=first|exact za|fail) only [go_sem,seval,-List.reduceReplicate,zm,zO,List.append_assoc,f0,f1,f2,f3,f4,f5,g10,g12,g13,zc,zf]<;>(try rfl))
end walks
end Go.Proofs.YtgflpgcogkdpgaaGreatDoor

/-
  Audits: the law of the reference,walked.
-/
namespace Go.Proofs.YtgflpgcogkdpgaaGreatDoor
open Go Go.AL

theorem zwN {l:List Msg} {i:Nat} {m:Msg} (h:i < l.length):setAt (yL l) (i*38) (yR m)=yL (l.set i m):=by
 have hl:yL l=yL (l.take i)++(yR l[i]++yL (l.drop (i+1))):=by
  rw [←zag,←List.drop_eq_getElem_cons h,←zeC,List.take_append_drop]
 have hs:yL (l.set i m)=yL (l.take i)++(yR m++yL (l.drop (i+1))):=by
  rw [←zag,←zeC,List.set_eq_take_append_cons_drop,if_pos h]
 have ht:(yL (l.take i)).length=i*38:=by rw [zbP,List.length_take,Nat.min_eq_left (by omega)]
 rw [yd _ _ _ (by rw [zbP,zE];omega),hs,hl,zE,List.take_left' ht]
 have:(yL (l.take i)++(yR l[i]++yL (l.drop (i+1)))).drop (i*38+38)=yL (l.drop (i+1)):=by
  rw [←List.append_assoc,List.drop_left' (by rw [List.length_append,ht,zE])]
 rw [this,List.append_assoc]
def zDU (m:Msg):Prop:=m.text.length≤500∧m.sums.length≤80∧m.values.length≤80
theorem zBV {m:Msg} (h:m.In) (h2:zDU m):m.Ok:=⟨h.kind,h.session,h.step,by have:=h2.1;omega,by have:=h2.2.1;omega,by have:=h2.2.2;omega⟩
theorem zjA {m:Msg}:(ym m).cells[3]? = some (str (bytesOf m.text)):=zot zCf
section walks
variable {G:Globs} {r1 r2:Nat} {m1:List (Int × Rule)} {m2:List (Int × Int)}
set_option maxHeartbeats 4000000 in
set_option maxRecDepth 20000 in
theorem zoP (g:GR G r1 r2 m1 m2) (x:Tk) (hx:x.In) (raw:List Msg) (hraw:raw.length≤9223372036854775807) (hrm : ∀ i,i < raw.length → (nth raw i).In) (z:BitVec 8) (ub ur uw:Int) (H:Hp) (R:AV → Hp → Prop) (h:R (.p (bo true)) H) :
 ACall Tryz.prog G 3 [.p (tkv x),.p (.sl false 38 (pl ym raw)),.p (b8 z),.p (usV ub ur uw)] H R:=by
 have hP:PlOk (yA x):=zfJ hx.wide
 have hid:=zwL (x:=x)
 have hln:=zir (x:=x)
 obtain⟨n,hn,hs⟩:=Sent.ex (tid x) (yA x)
 have hM:=fun H R=>zfg (G:=G) x hx hs H R
 generalize tid x=id at hid hs hM
 generalize yA x=P at hP hln hn hs hM
 have hz:=z.isLt
 have l1:(yb id P n).length≤1000:=by rw [zh];omega
 have k1:=zjz hP hid (n:=n) (by omega)
 refine ACall.of_run (raw:=[]) Tryz.func3 rfl Tryz.ntmps3 (by simp) fun hbel => ?_
 refine .q ?_;refine .text ?_;simp (disch:=first|exact za|fail) only [go_sem,seval,-List.reduceReplicate]
 refine .q ?_;refine .text ?_;simp (disch:=first|exact za|fail) only [go_sem,seval,-List.reduceReplicate]
 refine CallK.of (fun R h=>zfe g _ R h) ?_;simp (disch:=first|exact za|fail) only [go_sem,seval,-List.reduceReplicate]
 refine .q ?_;refine .text ?_;simp (disch:=first|exact za|fail) only [go_sem,seval,-List.reduceReplicate]
 refine CallK.of (fun R h=>hM _ R h) ?_;simp (disch:=first|exact za|fail) only [go_sem,seval,-List.reduceReplicate]
 refine .q ?_;refine .text ?_;simp (disch:=first|exact za|fail) only [go_sem,seval,-List.reduceReplicate]
 by_cases h6:6 < raw.length
 · have d6:decide ((6:Int) < (raw.length:Int))=true:=decide_eq_true (by omega)
   refine .q ?_;refine .ifT (by simp (disch:=first|exact za|fail) only [go_sem,seval,-List.reduceReplicate,d6]) ?_
   refine .q ?_;refine .text ?_;simp (disch:=first|exact za|fail) only [go_sem,seval,-List.reduceReplicate]
   refine .q ?_;refine .rt Tryz.func3 (by rw [Tryz.results3]) (hR := ?_);simp (disch:=first|exact za|fail) only [go_sem,seval,-List.reduceReplicate]
   exact h
 · have d6:decide ((6:Int) < (raw.length:Int))=false:=decide_eq_false (by omega)
   refine .q ?_;refine .ifF (by simp (disch:=first|exact za|fail) only [go_sem,seval,-List.reduceReplicate,d6]) ?_
   refine .skip ?_
   refine .q ?_;refine .text ?_;simp (disch:=first|exact za|fail) only [go_sem,seval,-List.reduceReplicate]
   refine .q ?_;refine .loopE [1,2,7,9,10] (fun i=>[(11,.p (i64 i))]) (fun i=>[]) (fun i => ∀ j,j < i → zDU (nth raw j)) (0) (raw.length) (by omega) ?_ (by first | rfl | (simp (disch:=first|exact za|fail) only [go_sem,seval,-List.reduceReplicate]<;>rfl)) ?_ ?_ ?_
   · simp (disch:=first|exact za|fail) only [go_sem,seval,-List.reduceReplicate]<;>(repeat' (first | rfl | refine And.intro ?_ ?_))
   rotate_left 1
   intro env E hQ;simp (disch:=first|exact za|fail) only [go_sem,seval,-List.reduceReplicate] at E
   rotate_left 1
   intro i env hi0 hi E hQ ihE;simp (disch:=first|exact za|fail) only [go_sem,seval,-List.reduceReplicate] at E
   rotate_left 1
   · exact fun j hj=>absurd hj (by omega)
   · refine .q ?_;refine .text ?_;simp (disch:=first|exact za|fail) only [go_sem,seval,-List.reduceReplicate,E]
     refine .q ?_;refine .ifF (by simp (disch:=first|exact za|fail) only [go_sem,seval,-List.reduceReplicate]) ?_
     have okR : ∀ i,i < raw.length → (nth raw i).Ok:=fun i hi=>zBV (hrm i hi) (hQ i hi)
     refine .q ?_;refine .region ?_
     refine .buildVec (sz:=38) (cs:=[]) (by simp (disch:=first|exact za|fail) only [go_sem,seval,-List.reduceReplicate,yy,zab]<;>rfl) (by rfl) ?_
     refine .run ?_
     have hvec : ∀ l:List Msg,List.map AV.p (flat (pl ym l))=yL l:=fun _=>rfl
     simp (disch:=first|exact za|fail) only [go_sem,seval,-List.reduceReplicate,E,zh,hvec]
     obtain⟨ch,hch⟩ : ∃ ch,ch=if 0 < raw.length∧0 < n then (yb id P n).set (z.toNat % n) (nth raw 0) else yb id P n:=⟨_,rfl⟩
     have hcl:ch.length=n:=by rw [hch];split<;>simp [zh]
     obtain⟨c,hcc⟩ : ∃ c,c=decide (0 < raw.length∧0 < n):=⟨_,rfl⟩
     refine .q ?_;refine .cutE [1,2,7,9,10,12] [(63,.p (bo c))] [] (fun ihV => ?_) (fun env V => ?_)
     rotate_left 1
     simp (disch:=first|exact za|fail) only [go_sem,seval,-List.reduceReplicate,E] at V
     rotate_left 1
     · by_cases hr0:raw.length=0
       · have e1:decide ((0:Int) < (raw.length:Int))=false:=decide_eq_false (by omega)
         have hce:c=false:=by rw [hcc];exact decide_eq_false (by omega)
         refine .q ?_;refine .text ?_;simp (disch:=first|exact za|fail) only [go_sem,seval,-List.reduceReplicate,E,zh,e1]
         first | (refine ihV _ _ ?_ ?_) | (refine .z rfl ?_;refine ihV _ _ ?_ ?_) | (refine .z rfl ?_;refine .z rfl ?_;refine ihV _ _ ?_ ?_) | (refine .z rfl ?_;refine .z rfl ?_;refine .z rfl ?_;refine ihV _ _ ?_ ?_)
         · simp (disch:=first|exact za|fail) only [go_sem,seval,-List.reduceReplicate,E,hce]<;>(repeat' (first | rfl | refine And.intro ?_ ?_))
         · first | rfl | (simp (disch:=first|exact za|fail) only [go_sem,seval,-List.reduceReplicate,E,hce]<;>(try rfl))
       · have e1:decide ((0:Int) < (raw.length:Int))=true:=decide_eq_true (by omega)
         have hce:decide ((0:Int) < (n:Int))=c:=by rw [hcc];exact decide_eq_decide.2 ⟨fun q=>⟨by omega,by omega⟩,fun q=>by omega⟩
         refine .q ?_;refine .text ?_;simp (disch:=first|exact za|fail) only [go_sem,seval,-List.reduceReplicate,E,zh,e1,hce]
         first | (refine ihV _ _ ?_ ?_) | (refine .z rfl ?_;refine ihV _ _ ?_ ?_) | (refine .z rfl ?_;refine .z rfl ?_;refine ihV _ _ ?_ ?_) | (refine .z rfl ?_;refine .z rfl ?_;refine .z rfl ?_;refine ihV _ _ ?_ ?_)
         · simp (disch:=first|exact za|fail) only [go_sem,seval,-List.reduceReplicate,E]<;>(repeat' (first | rfl | refine And.intro ?_ ?_))
         · first | rfl | (simp (disch:=first|exact za|fail) only [go_sem,seval,-List.reduceReplicate,E]<;>(try rfl))
     · refine .q ?_;refine .cutE [1,2,7,9,10] [(12,.vr (H.n+2) n 38)] [(H.n+2,.vec (yL ch))] (fun ihU => ?_) (fun env U => ?_)
       rotate_left 1
       simp (disch:=first|exact za|fail) only [go_sem,seval,-List.reduceReplicate,V,E] at U
       rotate_left 1
       · by_cases hb:0 < raw.length∧0 < n
         · have hct:c=true:=by rw [hcc];exact decide_eq_true hb
           obtain⟨k,hk⟩ : ∃ k,k=z.toNat % n:=⟨_,rfl⟩
           have hkn:k < n:=by rw [hk];exact Nat.mod_lt _ hb.2
           have hr0:=hb.1
           have hce:ch=(yb id P n).set k (nth raw 0):=by rw [hch,if_pos hb,hk]
           have hze:((z.toNat:Nat):Int) % (n:Int)=(k:Int):=by rw [hk];push_cast;rfl
           have hvs:setAt (yL (yb id P n)) (k*38) (yR (nth raw 0))=yL ((yb id P n).set k (nth raw 0)):=zwN (by rw [zh];exact hkn)
           have hvl:(yL (yb id P n)).length=n*38:=by rw [zbP,zh]
           refine .q ?_;refine .ifT (by simp (disch:=first|exact za|fail) only [go_sem,seval,-List.reduceReplicate,V,hct]) ?_
           refine .q ?_;refine .open [10] follows (by kernel_rfl) ?_;simp (disch:=first|exact za|fail) only [go_sem,seval,-List.reduceReplicate,V,E,zh,hze,hvs,hvl]
           first | (refine ihU _ _ ?_ ?_) | (refine .z rfl ?_;refine ihU _ _ ?_ ?_) | (refine .z rfl ?_;refine .z rfl ?_;refine ihU _ _ ?_ ?_) | (refine .z rfl ?_;refine .z rfl ?_;refine .z rfl ?_;refine ihU _ _ ?_ ?_)
           · simp (disch:=first|exact za|fail) only [go_sem,seval,-List.reduceReplicate,V,E,zc,zf,hce]<;>(repeat' (first | rfl | refine And.intro ?_ ?_))
           · first | rfl | (simp (disch:=first|exact za|fail) only [go_sem,seval,-List.reduceReplicate,V,E,zc,zf,hce]<;>(try rfl))
         · have hct:c=false:=by rw [hcc];exact decide_eq_false hb
           have hce:ch=yb id P n:=by rw [hch,if_neg hb]
           refine .q ?_;refine .ifF (by simp (disch:=first|exact za|fail) only [go_sem,seval,-List.reduceReplicate,V,hct]) ?_
           refine .skip ?_
           first | (refine ihU _ _ ?_ ?_) | (refine .z rfl ?_;refine ihU _ _ ?_ ?_) | (refine .z rfl ?_;refine .z rfl ?_;refine ihU _ _ ?_ ?_) | (refine .z rfl ?_;refine .z rfl ?_;refine .z rfl ?_;refine ihU _ _ ?_ ?_)
           · simp (disch:=first|exact za|fail) only [go_sem,seval,-List.reduceReplicate,V,E,zc,zf,hce]<;>(repeat' (first | rfl | refine And.intro ?_ ?_))
           · first | rfl | (simp (disch:=first|exact za|fail) only [go_sem,seval,-List.reduceReplicate,V,E,zc,zf,hce]<;>(try rfl))
       · refine .q ?_;refine .frzV 12 (by simp (disch:=first|exact za|fail) only [go_sem,seval,-List.reduceReplicate,U,V,E,zc,zf];rfl) (by simp (disch:=first|exact za|fail) only [go_sem,seval,-List.reduceReplicate,U,V,E,zc,zf]<;>rfl) (xs:=pl ym ch) rfl (by rw [zb2,hcl]) (zpP) ?_;(try simp (disch:=first|exact za|fail) only [go_sem,seval,-List.reduceReplicate,U,V,E,zc,zf])
         have okC : ∀ i,i < ch.length → (nth ch i).Ok:=fun i hi=>by
          rw [hcl] at hi
          rw [hch]
          split
          · rename_i hb
            by_cases hi2:z.toNat % n=i
            · rw [hi2,show nth ((yb id P n).set i (nth raw 0)) i=nth raw 0 by simp [nth,zh,hi]]
              exact okR 0 hb.1
            · rw [show nth ((yb id P n).set (z.toNat % n) (nth raw 0)) i=nth (yb id P n) i by simp [nth,List.getElem?_set,hi2]]
              exact k1 i (by rw [zh];exact hi)
          · exact k1 i (by rw [zh];exact hi)
         have l2:ch.length≤1000:=by omega
         have l3:raw.length≤1000:=by omega
         have r5:zt Tryz.prog .rem 5 (.p (b8 z)) (.p (b8 5#8))=some (.p (b8 (z % 5#8))):=zf7 _ _ _ _ (by decide)
         have hk0:0≤((z % 5#8).toNat:Int)∧((z % 5#8).toNat:Int)≤1000:=by have:=(z % 5#8).isLt;omega
         generalize hkk:((z % 5#8).toNat:Int)=k at hk0
         have b1:=zpF ch ch.length
         have b2:=zpG okC ch.length (Nat.le_refl _)
         have hE:zt Tryz.prog .eql 29 (.p (zg4 ch)) (.p (zg4 ch))=some (.p (bo true)):=(zn8 ⟨by omega,by omega⟩ ⟨by omega,by omega⟩ ⟨by omega,by omega⟩).1
         refine .q ?_;refine .text ?_;simp (disch:=first|exact za|fail) only [go_sem,seval,-List.reduceReplicate,U,V,E]
         refine .q ?_;refine .open [44] follows (by kernel_rfl) ?_;simp (disch:=first|exact za|fail) only [go_sem,seval,-List.reduceReplicate,U,V,E,beq_self_eq_true,hE,r5,hkk]
         refine CallD.still (fun R h=>yh g (yb id P n) l1 k1 _ R h) ?_;simp (disch:=first|exact za|fail) only [go_sem,seval,-List.reduceReplicate,U,V,E,beq_self_eq_true,hE,r5,hkk]
         refine CallD.still (fun R h=>zbM g (yb id P n) l1 k1 _ R h) ?_;simp (disch:=first|exact za|fail) only [go_sem,seval,-List.reduceReplicate,U,V,E,beq_self_eq_true,hE,r5,hkk]
         refine CallD.still (fun R h=>yh g ch l2 okC _ R h) ?_;simp (disch:=first|exact za|fail) only [go_sem,seval,-List.reduceReplicate,U,V,E,beq_self_eq_true,hE,r5,hkk]
         refine CallD.still (fun R h=>zbM g ch l2 okC _ R h) ?_;simp (disch:=first|exact za|fail) only [go_sem,seval,-List.reduceReplicate,U,V,E,beq_self_eq_true,hE,r5,hkk]
         refine CallD.still (fun R h=>yh g raw l3 okR _ R h) ?_;simp (disch:=first|exact za|fail) only [go_sem,seval,-List.reduceReplicate,U,V,E,beq_self_eq_true,hE,r5,hkk]
         refine CallD.still (fun R h=>zbM g raw l3 okR _ R h) ?_;simp (disch:=first|exact za|fail) only [go_sem,seval,-List.reduceReplicate,U,V,E,beq_self_eq_true,hE,r5,hkk]
         refine CallD.still (fun R h=>zdi g ch l2 okC _ R h) ?_;simp (disch:=first|exact za|fail) only [go_sem,seval,-List.reduceReplicate,U,V,E,beq_self_eq_true,hE,r5,hkk]
         refine CallD.still (fun R h=>zjt ch l2 okC _ R h) ?_;simp (disch:=first|exact za|fail) only [go_sem,seval,-List.reduceReplicate,U,V,E,beq_self_eq_true,hE,r5,hkk]
         refine CallD.still (fun R h=>zb0 ub ur uw (zl2 2) 2 (zeE (by decide)) k hk0 _ R h) ?_;simp (disch:=first|exact za|fail) only [go_sem,seval,-List.reduceReplicate,U,V,E,beq_self_eq_true,hE,r5,hkk]
         refine CallD.still (fun R h=>zhE ub ur uw (zl2 2) 2 (zeE (by decide)) k hk0 _ R h) ?_;simp (disch:=first|exact za|fail) only [go_sem,seval,-List.reduceReplicate,U,V,E,beq_self_eq_true,hE,r5,hkk]
         refine .q ?_;refine .rt Tryz.func3 (by rw [Tryz.results3]) (hx:=by simp (disch:=first|exact za|fail) only [go_sem,seval,-List.reduceReplicate,U,V,E];rfl) (hR := ?_);simp (disch:=first|exact za|fail) only [go_sem,seval,-List.reduceReplicate,U,V,E]
         exact h
   · refine .q ?_;refine .text ?_;simp (disch:=first|exact za|fail) only [go_sem,seval,-List.reduceReplicate,E]
     refine .q ?_;refine .ifT (by simp (disch:=first|exact za|fail) only [go_sem,seval,-List.reduceReplicate]) ?_
     by_cases c1:500 < (nth raw i).text.length
     · have d1:decide ((500:Int) < ((nth raw i).text.length:Int))=true:=decide_eq_true (by omega)
       refine .q ?_;refine .text ?_;simp (disch:=first|exact za|fail) only [go_sem,seval,-List.reduceReplicate,E,zjA,d1]
       refine .q ?_;refine .ifT (by simp (disch:=first|exact za|fail) only [go_sem,seval,-List.reduceReplicate]) ?_
       refine .q ?_;refine .text ?_;simp (disch:=first|exact za|fail) only [go_sem,seval,-List.reduceReplicate,E]
       refine .q ?_;refine .rt Tryz.func3 (by rw [Tryz.results3]) (hx:=by simp (disch:=first|exact za|fail) only [go_sem,seval,-List.reduceReplicate,E];rfl) (hR := ?_);simp (disch:=first|exact za|fail) only [go_sem,seval,-List.reduceReplicate,E]
       exact h
     · have d1:decide ((500:Int) < ((nth raw i).text.length:Int))=false:=decide_eq_false (by omega)
       by_cases c2:80 < (nth raw i).sums.length
       · have d2:decide ((80:Int) < ((nth raw i).sums.length:Int))=true:=decide_eq_true (by omega)
         refine .q ?_;refine .text ?_;simp (disch:=first|exact za|fail) only [go_sem,seval,-List.reduceReplicate,E,zjA,d1,d2]
         refine .q ?_;refine .ifT (by simp (disch:=first|exact za|fail) only [go_sem,seval,-List.reduceReplicate]) ?_
         refine .q ?_;refine .text ?_;simp (disch:=first|exact za|fail) only [go_sem,seval,-List.reduceReplicate,E]
         refine .q ?_;refine .rt Tryz.func3 (by rw [Tryz.results3]) (hx:=by simp (disch:=first|exact za|fail) only [go_sem,seval,-List.reduceReplicate,E];rfl) (hR := ?_);simp (disch:=first|exact za|fail) only [go_sem,seval,-List.reduceReplicate,E]
         exact h
       · have d2:decide ((80:Int) < ((nth raw i).sums.length:Int))=false:=decide_eq_false (by omega)
         by_cases c3:80 < (nth raw i).values.length
         · have d3:decide ((80:Int) < ((nth raw i).values.length:Int))=true:=decide_eq_true (by omega)
           refine .q ?_;refine .text ?_;simp (disch:=first|exact za|fail) only [go_sem,seval,-List.reduceReplicate,E,zjA,d1,d2,d3]
           refine .q ?_;refine .ifT (by simp (disch:=first|exact za|fail) only [go_sem,seval,-List.reduceReplicate]) ?_
           refine .q ?_;refine .text ?_;simp (disch:=first|exact za|fail) only [go_sem,seval,-List.reduceReplicate,E]
           refine .q ?_;refine .rt Tryz.func3 (by rw [Tryz.results3]) (hx:=by simp (disch:=first|exact za|fail) only [go_sem,seval,-List.reduceReplicate,E];rfl) (hR := ?_);simp (disch:=first|exact za|fail) only [go_sem,seval,-List.reduceReplicate,E]
           exact h
         · have d3:decide ((80:Int) < ((nth raw i).values.length:Int))=false:=decide_eq_false (by omega)
           refine .q ?_;refine .text ?_;simp (disch:=first|exact za|fail) only [go_sem,seval,-List.reduceReplicate,E,zjA,d1,d2,d3]
           refine .q ?_;refine .ifF (by simp (disch:=first|exact za|fail) only [go_sem,seval,-List.reduceReplicate]) ?_
           refine .skip ?_
           refine .q ?_;refine .text ?_;simp (disch:=first|exact za|fail) only [go_sem,seval,-List.reduceReplicate,E]
           first | (refine ihE _ _ ?_ (zk hQ ⟨by omega,by omega,by omega⟩) ?_) | (refine .z rfl ?_;refine ihE _ _ ?_ (zk hQ ⟨by omega,by omega,by omega⟩) ?_) | (refine .z rfl ?_;refine .z rfl ?_;refine ihE _ _ ?_ (zk hQ ⟨by omega,by omega,by omega⟩) ?_) | (refine .z rfl ?_;refine .z rfl ?_;refine .z rfl ?_;refine ihE _ _ ?_ (zk hQ ⟨by omega,by omega,by omega⟩) ?_)
           · simp (disch:=first|exact za|fail) only [go_sem,seval,-List.reduceReplicate,E]<;>(repeat' (first | rfl | refine And.intro ?_ ?_))
           · first | rfl | (simp (disch:=first|exact za|fail) only [go_sem,seval,-List.reduceReplicate,E]<;>(try rfl))
end walks
end Go.Proofs.YtgflpgcogkdpgaaGreatDoor
