/-
  Audits: the reference's honest sessions.
-/
import Derived.Test.YtgflpgcogkdpgaaGreatDoorPkS3
set_option linter.unusedSimpArgs false
set_option linter.unusedVariables false
namespace Go.Proofs.YtgflpgcogkdpgaaGreatDoor
open Go Go.AL

structure Tk where
 id:Int
 text:By
 root:By
 sums:List Int
 vals:List (List Ext)
 fin:BitVec 8
def tkv (x:Tk):PV := .agg [i64 x.id,str (bytesOf x.text),.sl false 1 (pl b8 x.root),.sl false 1 (pl i64 x.sums),.sl false 1 (pl (sle 2 ext) x.vals),b8 x.fin]
def tkc (x:Tk):List AV:=[.p (i64 x.id),.p (str (bytesOf x.text)),.p (.sl false 1 (pl b8 x.root)),.p (.sl false 1 (pl i64 x.sums)),.p (.sl false 1 (pl (sle 2 ext) x.vals)),.p (b8 x.fin)]
theorem zDR {x:Tk}:zh (.p (tkv x))=some (tkc x):=rfl
theorem zEI {x:Tk}:(tkv x).weak=tkv x:=rfl
theorem zDS {x:Tk}:(tkc x)[0]? = some (.p (i64 x.id)):=rfl
theorem zDT {x:Tk}:(tkc x)[1]? = some (.p (str (bytesOf x.text))):=rfl
theorem zDU {x:Tk}:(tkc x)[2]? = some (.p (.sl false 1 (pl b8 x.root))):=rfl
theorem zDV {x:Tk}:(tkc x)[3]? = some (.p (.sl false 1 (pl i64 x.sums))):=rfl
theorem zDW {x:Tk}:(tkc x)[4]? = some (.p (.sl false 1 (pl (sle 2 ext) x.vals))):=rfl
theorem zDX {x:Tk}:(tkc x)[5]? = some (.p (b8 x.fin)):=rfl
attribute [go_sem] zDR zEI zDS zDT zDU zDV zDW zDX
def yi:By:=[99#8,111#8,117#8,110#8,116#8]
def tid (x:Tk):Int:=x.id % 65536
def tx0 (x:Tk):By:=if (x.text.take 40).length=0 then yi else x.text.take 40
def pmk (k:Int) (t:By) (s:List Int) (v:List Ext):Msg:=⟨k,0,0,t,zD,s,v⟩
def zfr (x:Tk) (i:Nat):By:=x.root.take i++List.replicate (32 - i) 0#8
theorem ze6 {x:Tk} {i:Nat} (h:i≤x.root.length) (h2:i≤32):(zfr x i).length=32:=by simp [zfr];omega
def rn (x:Tk):Nat:=min x.root.length 32
def pm1 (x:Tk) (i:Nat):Msg:=if h:(zfr x i).length=32 then ⟨2,0,0,[],⟨zfr x i,h⟩,[],[]⟩ else zM
def pv (x:Tk) (i:Nat):Msg:=if i=1 then pmk 3 [] (x.sums.take 8) [] else if i % 2=1 then pmk 5 [] [] (zbq (nth x.vals i) (min (nth x.vals i).length 6)) else pmk 4 [] [] (zbq (nth x.vals i) 1)
def vn (x:Tk):Nat:=min x.vals.length 10
def zay (x:Tk) (i:Nat):List Msg:=[pmk 1 (tx0 x) [] [],pm1 x (rn x)]++tab (pv x) i
def cT (x:Tk):Bool:=(((2+(vn x:Int)) % 2 == 0) && decide ((4:Int)≤(2+(vn x:Int)))) && decide (0#8 < x.fin % 3#8)
def zaM (x:Tk):List Msg:=if cT x then zay x (vn x)++[pmk (5+((x.fin % 3#8).toNat:Nat)) [] [] []] else zay x (vn x)
def zbx (l:List Msg):List AV:=(flat (pl msg l)).map .p
theorem zmf {l m:List Msg}:zbx (l++m)=zbx l++zbx m:=by simp [zbx,flat,pl]
theorem zaU {m:Msg} {l:List Msg}:zbx (m :: l)=mcl m++zbx l:=by simp [zbx,flat,pl,zha,mcl]
theorem zhi:zbx []=[]:=rfl
theorem zeG : ∀ {l:List Msg},(zbx l).length=l.length*38
 | []=>rfl
 | m :: l=>by rw [zaU,List.length_append,zF,zeG];simp;omega
theorem zw4 {f g:Bool} {k:Int} {t:By} {S:List Int} {V:List Ext}:(zn (mG k 0 0 t (List.replicate 32 0#8) (.p (.sl f 1 (pl i64 S))) (.p (.sl g 2 (pl ext V))))).weak = .p (msg (pmk k t S V)):=by
 rw [zjz]
 show AV.p (PV.agg (List.map PV.weak1 _))=AV.p (.agg (zeY (pmk k t S V)))
 congr 2
theorem zDY {f g:Bool} {k:Int} {t:By} {S:List Int} {V:List Ext}:(mG k 0 0 t (List.replicate 32 0#8) (.p (.sl f 1 (pl i64 S))) (.p (.sl g 2 (pl ext V)))).map AV.weak=mcl (pmk k t S V):=by
 rw [zad]
 unfold mG
 have h:(cl b8 (List.replicate 32 0#8)).map AV.weak=cl b8 (List.replicate 32 0#8):=by rw [cl,List.map_map];rfl
 simp only [List.map_cons,List.map_append,List.map_nil,h]
 rfl
def mU (f g:Bool) (k:Int) (S:List Int) (V:List Ext):List AV:=mG k 0 0 [] (List.replicate 32 0#8) (.p (.sl f 1 (pl i64 S))) (.p (.sl g 2 (pl ext V)))
def mUv (f g:Bool) (k:Int) (S:List Int) (V:List Ext):PV:=mV k 0 0 [] (List.replicate 32 0#8) (.sl f 1 (pl i64 S)) (.sl g 2 (pl ext V))
section mb
variable {f g f' g':Bool} {k k':Int} {S S':List Int} {V V':List Ext}
theorem zB3:(mU f g k S V).length=38:=zgZ (by simp)
theorem zw5:zn (mU f g k S V) = .p (mUv f g k S V):=zjz
theorem zw6:zh (.p (mUv f g k S V))=some (mU f g k S V):=zwF
theorem zEJ:mZ.set 0 (.p (i64 k))=mU true true k [] []:=rfl
theorem zD0:(mU f g k S V).set 37 (.p (.sl g' 2 (pl ext V')))=mU f g' k S V':=by unfold mU;rw [zlH (by simp)]
theorem zD1:(mU f g k S V).set 36 (.p (.sl f' 1 (pl i64 S')))=mU f' g k S' V:=by unfold mU;rw [zlG (by simp)]
theorem zEK {t:By}:zn ((mU f g k S V).set 3 (.p (str (bytesOf t))))=zn (mG k 0 0 t (List.replicate 32 0#8) (.p (.sl f 1 (pl i64 S))) (.p (.sl g 2 (pl ext V)))):=rfl
theorem zw7:(mUv f g k S V).weak=msg (pmk k [] S V):=by
 have h:=zw4 (f:=f) (g:=g) (k:=k) (t:=[]) (S:=S) (V:=V)
 rw [zjz] at h
 exact AV.p.inj h
theorem zcK:(mU f g k S V).map AV.weak=mcl (pmk k [] S V):=zDY
end mb
theorem zB4 {f g:Bool} {k:Int} {S:List Int} {V:List Ext}:(mUv f g k S V).cells.length=38:=by simp [mUv,mV,PV.cells,pl]
attribute [go_sem] zB4 zB3 zw5 zw6 zEJ zD0 zD1 zw7
theorem zmg {x:Tk}:pm1 x 0=pmk 2 [] [] []:=by
 unfold pm1
 rw [dif_pos (ze6 (by omega) (by omega))]
 rfl
theorem zsI {f:BitVec 8 → AV} {l:By} {i:Nat} {v:BitVec 8}:(l.map f).set i (f v)=(l.set i v).map f:=by rw [List.map_set]
theorem zsJ {x:Tk} {i:Nat} (h:i < x.root.length) (h2:i < 32):(zfr x i).set i (nth x.root i)=zfr x (i+1):=by
 unfold zfr
 rw [List.set_append_right _ _ (by rw [List.length_take];omega),List.length_take,Nat.min_eq_left (by omega),Nat.sub_self,show 32 - i=(32 - (i+1))+1 by omega,List.replicate_succ,List.set_cons_zero,zR h]
 simp
theorem zw8 {x:Tk} {i:Nat} (h:i≤x.root.length) (h2:i≤32):mcl (pm1 x i) = .p (i64 2) :: .p (i64 0) :: .p (i64 0) :: .p (str (bytesOf [])) :: (cl b8 (zfr x i)++[.p (.sl false 1 (pl i64 [])),.p (.sl false 2 (pl ext []))]):=by
 unfold pm1
 rw [dif_pos (ze6 h h2),zad]
theorem zzK {a:Msg} {x:Tk} {i:Nat} (h:i < x.root.length) (h2:i < 32):(zbx [a,pm1 x i]).set (42+i) (.p (b8 (nth x.root i)))=zbx [a,pm1 x (i+1)]:=by
 have hl:=ze6 (x:=x) (i:=i) (by omega) (by omega)
 rw [zaU,zaU,zaU,zaU,zhi,List.append_nil,List.append_nil,List.set_append_right _ _ (by rw [zF];omega),zF,zw8 (by omega) (by omega),zw8 (by omega) (by omega),show 42+i - 38=i+4 by omega]
 simp only [List.set_cons_succ]
 rw [List.set_append_left _ _ (by rw [cl,List.length_map,hl];exact h2),cl,zsI,zsJ h h2]
 rfl
theorem zzL {l:List Msg} : ∀ y∈pl msg l,y.cells.length=38:=fun y hy=>by
 simp only [pl,List.mem_map] at hy
 obtain⟨m,_,rfl⟩:=hy
 exact zwK
theorem ziy {H:Hp} {a b0 b1 c0 c1 d z x0 x1 y1 y2 y3:AB} {T0 T:List AB} :
 Later ((app ((app ((((H.new a).new b0).new c0).new d) T0).new z) T).new x0) [(H.n+1,b1),(H.n+2,c1),(H.n+4+T0.length+1+T.length,x1)] ((((((app ((app ((((H.new a).new b1).new c1).new d) T0).new z) T).new x1).new y1).new y2).new y3)):=by
 refine .mk [y1,y2,y3] ?_
 have h1:((app ((app ((((H.new a).new b0).new c0).new d) T0).new z) T).new x0).set (H.n+1) b1=(app ((app ((((H.new a).new b1).new c0).new d) T0).new z) T).new x0:=by
  simp (disch:=first|exact za|fail) only [go_sem,seval]
 have h2:((app ((app ((((H.new a).new b1).new c0).new d) T0).new z) T).new x0).set (H.n+2) c1=(app ((app ((((H.new a).new b1).new c1).new d) T0).new z) T).new x0:=by
  simp (disch:=first|exact za|fail) only [go_sem,seval]
 have h3:((app ((app ((((H.new a).new b1).new c1).new d) T0).new z) T).new x0).set (H.n+4+T0.length+1+T.length) x1=(app ((app ((((H.new a).new b1).new c1).new d) T0).new z) T).new x1:=by
  have hn:H.n+4+T0.length+1+T.length=(app ((app ((((H.new a).new b1).new c1).new d) T0).new z) T).n:=by simp only [app_n',n_new']
  rw [hn];exact Hp.set_new_self _ _ _
 rw [zc,zc,zc,ze,h1,h2,h3]
 simp only [zS,zaX]
theorem zo2 {H:Hp} {a b0 b1 c0 c1 d z0 z1 x1:AB} {T0 T T':List AB} :
 Later ((app ((((H.new a).new b0).new c0).new d) T0).new z0) [(H.n+1,b1),(H.n+2,c1),(H.n+4+T0.length,z1)] (app ((app ((app ((((H.new a).new b1).new c1).new d) T0).new z1) T).new x1) T'):=by
 refine .mk (T++x1 :: T') ?_
 have h1:((app ((((H.new a).new b0).new c0).new d) T0).new z0).set (H.n+1) b1=(app ((((H.new a).new b1).new c0).new d) T0).new z0:=by
  simp (disch:=first|exact za|fail) only [go_sem,seval]
 have h2:((app ((((H.new a).new b1).new c0).new d) T0).new z0).set (H.n+2) c1=(app ((((H.new a).new b1).new c1).new d) T0).new z0:=by
  simp (disch:=first|exact za|fail) only [go_sem,seval]
 have h3:((app ((((H.new a).new b1).new c1).new d) T0).new z0).set (H.n+4+T0.length) z1=(app ((((H.new a).new b1).new c1).new d) T0).new z1:=by
  have hn:H.n+4+T0.length=(app ((((H.new a).new b1).new c1).new d) T0).n:=by simp only [app_n',n_new']
  rw [hn];exact Hp.set_new_self _ _ _
 rw [zc,zc,zc,ze,h1,h2,h3,←zw,zS]
theorem zdm {x:Tk} {p:Msg → Prop} (h0:p zM) (h1:p (pmk 1 (tx0 x) [] [])) (h2 : ∀ i,p (pm1 x i)) (h3 : ∀ i,p (pv x i)) (h4 : ∀ k:Nat,k < 256 → p (pmk (5+(k:Int)) [] [] [])) : ∀ i,p (nth (zaM x) i):=by
 have hb : ∀ l:List Msg,(∀ m∈l,p m) → ∀ i,p (nth l i):=fun l hl i=>by
  by_cases hi:i < l.length
  · rw [show nth l i=l[i] by simp [nth,hi]];exact hl _ (List.getElem_mem hi)
  · rw [show nth l i=zM by simp only [nth,List.getElem?_eq_none (Nat.le_of_not_lt hi)];rfl];exact h0
 have hp : ∀ n,∀ m∈zay x n,p m:=fun n m hm=>by
  unfold zay tab at hm
  simp only [List.mem_append,List.mem_cons,List.not_mem_nil,or_false,List.mem_map] at hm
  rcases hm with (rfl | rfl) | ⟨j,_,rfl⟩
  · exact h1
  · exact h2 _
  · exact h3 _
 refine hb _ fun m hm => ?_
 unfold zaM at hm
 split at hm
 · simp only [List.mem_append,List.mem_cons,List.not_mem_nil,or_false] at hm
   rcases hm with hm | rfl
   · exact hp _ m hm
   · exact h4 _ (x.fin % 3#8).isLt
 · exact hp _ m hm
theorem zqh {x:Tk} (hs : ∀ s∈x.sums,okI s):PlOk (zaM x):=by
 have hml : ∀ {l:List Ext} {n:Nat},(zbq l n).length=n:=fun {l n}=>ze3
 have hk : ∀ k:Int,0≤k → k≤1000 → okI k:=fun k h1 h2=>⟨by omega,by omega⟩
 have k0:okI 0:=hk 0 (by decide) (by decide)
 have k1:okI 1:=hk 1 (by decide) (by decide)
 have k2:okI 2:=hk 2 (by decide) (by decide)
 have k3:okI 3:=hk 3 (by decide) (by decide)
 have k4:okI 4:=hk 4 (by decide) (by decide)
 have k5:okI 5:=hk 5 (by decide) (by decide)
 have z0:0≤140737488355000:=Nat.zero_le _
 have htx:(tx0 x).length≤40:=by unfold tx0;split<;>simp [yi];omega
 refine⟨?_,?_,?_,?_,?_,?_⟩
 · have:(zay x (vn x)).length=2+vn x:=by simp [zay,yL];omega
   have h2:vn x≤10:=by unfold vn;omega
   unfold zaM;split<;>simp [this]<;>omega
 · refine zdm (p:=fun m=>okI m.kind) k0 k1 (fun i => ?_) (fun i => ?_) (fun k h=>hk _ (by show (0:Int)≤5+(k:Int);omega) (by show (5+(k:Int))≤1000;omega))
   · unfold pm1;split
     · exact k2
     · exact k0
   · unfold pv;(repeat' split)
     · exact k3
     · exact k5
     · exact k4
 · refine zdm (p:=fun m=>m.text.length≤140737488355000) z0 (by show (tx0 x).length≤_;omega) (fun i => ?_) (fun i => ?_) (fun k h=>z0)
   · unfold pm1;split<;>exact z0
   · unfold pv;(repeat' split)<;>exact z0
 · refine zdm (p:=fun m=>m.sums.length≤140737488355000) z0 z0 (fun i => ?_) (fun i => ?_) (fun k h=>z0)
   · unfold pm1;split<;>exact z0
   · unfold pv;(repeat' split)
     · show (x.sums.take 8).length≤_;rw [List.length_take];omega
     · exact z0
     · exact z0
 · refine zdm (p:=fun m=>m.values.length≤140737488355000) z0 z0 (fun i => ?_) (fun i => ?_) (fun k h=>z0)
   · unfold pm1;split<;>exact z0
   · unfold pv;(repeat' split)
     · exact z0
     · show (zbq _ _).length≤_;rw [hml];omega
     · show (zbq _ _).length≤_;rw [hml];omega
 · refine zdm (p:=fun m => ∀ y∈m.sums,okI y) (fun y hy=>by cases hy) (fun y hy=>by cases hy) (fun i => ?_) (fun i => ?_) (fun k h y hy=>by cases hy)
   · unfold pm1;split<;>exact fun y hy=>by cases hy
   · unfold pv;(repeat' split)
     · exact fun y hy=>hs y (List.mem_of_mem_take hy)
     · exact fun y hy=>by cases hy
     · exact fun y hy=>by cases hy
section walks
variable {G:Globs}
set_option maxHeartbeats 2000000 in
set_option maxRecDepth 20000 in
theorem zhT (x:Tk) (hid:okI x.id) (ht:x.text.length≤9223372036854775807) (hr:x.root.length≤9223372036854775807) (hs:x.sums.length≤9223372036854775807) (hv:x.vals.length≤9223372036854775807) (hvv : ∀ i,i < x.vals.length → (nth x.vals i).length≤9223372036854775807)
 (hso : ∀ s∈x.sums,okI s) (H:Hp) (R:AV → Hp → Prop) (h : ∀ n,n≤13 → (∀ j,j < n → ser (tid x) (zaM x) j=0) → (n=(zaM x).length ∨ ser (tid x) (zaM x) n≠0) → R (.p (.sl false 38 (pl msg (zhg (tid x) (zaM x) n)))) H):ACall Tryz.prog G 10 [.p (tkv x)] H R:=by
 refine ACall.of_run (raw:=[]) Tryz.func10 rfl Tryz.ntmps10 (by simp) fun hbel => ?_
 have hw:IntKind.i64.wrap x.id=x.id:=zed hid.1 hid.2
 refine .q ?_;refine .text ?_;simp (disch:=first|exact za|fail) only [go_sem,seval,-List.reduceReplicate]
 refine .q ?_;refine .text ?_;simp (disch:=first|exact za|fail) only [go_sem,seval,-List.reduceReplicate]
 refine .q ?_;refine .text ?_;simp (disch:=first|exact za|fail) only [go_sem,seval,-List.reduceReplicate]
 refine CallK.of (fun R h=>zg6 (x.id % 65536) 1 _ R h) ?_;simp (disch:=first|exact za|fail) only [go_sem,seval,-List.reduceReplicate]
 rw [show x.id % 65536=tid x from rfl]
 refine .q ?_;refine .text ?_;simp (disch:=first|exact za|fail) only [go_sem,seval,-List.reduceReplicate,show x.id % 65536=tid x from rfl]
 refine CallK.of (fun R h=>zg6 (tid x) 1 _ R h) ?_;simp (disch:=first|exact za|fail) only [go_sem,seval,-List.reduceReplicate]
 refine .q ?_;refine .text ?_;simp (disch:=first|exact za|fail) only [go_sem,seval,-List.reduceReplicate]
 have hmn:((min (x.text.length:Int) 40)).toNat=min x.text.length 40:=by omega
 have htk:x.text.take (min x.text.length 40)=x.text.take 40:=by rw [List.take_eq_take_iff];omega
 refine .q ?_;refine .text ?_;simp (disch:=first|exact za|fail) only [go_sem,seval,-List.reduceReplicate,hmn,bytesOf_take,htk]
 refine .q ?_;refine .text ?_;simp (disch:=first|exact za|fail) only [go_sem,seval,-List.reduceReplicate]
 refine .q ?_;refine .cutE [1,3,4,5,6] [(7,.p (str (bytesOf (tx0 x))))] [] (fun ihF => ?_) (fun env F => ?_)
 rotate_left 1
 simp (disch:=first|exact za|fail) only [go_sem,seval,-List.reduceReplicate] at F
 rotate_left 1
 · unfold tx0 at ihF
   by_cases c:(x.text.take 40).length=0
   · have d:(((min 40 x.text.length:Nat):Int) == 0)=true:=by rw [←List.length_take,c];rfl
     rw [if_pos c] at ihF
     refine .q ?_;refine .ifT (by simp (disch:=first|exact za|fail) only [go_sem,seval,-List.reduceReplicate,d]) ?_
     refine .q ?_;refine .text ?_;simp (disch:=first|exact za|fail) only [go_sem,seval,-List.reduceReplicate]
     first | (refine ihF _ _ ?_ ?_) | (refine .z rfl ?_;refine ihF _ _ ?_ ?_) | (refine .z rfl ?_;refine .z rfl ?_;refine ihF _ _ ?_ ?_) | (refine .z rfl ?_;refine .z rfl ?_;refine .z rfl ?_;refine ihF _ _ ?_ ?_)
     · simp (disch:=first|exact za|fail) only [go_sem,seval,-List.reduceReplicate]<;>(repeat' (first | rfl | refine And.intro ?_ ?_))
     · first | rfl | (simp (disch:=first|exact za|fail) only [go_sem,seval,-List.reduceReplicate]<;>(try rfl))
   · have d:(((min 40 x.text.length:Nat):Int) == 0)=false:=by rw [←List.length_take];exact beq_eq_false_iff_ne.2 (by omega)
     rw [if_neg c] at ihF
     refine .q ?_;refine .ifF (by simp (disch:=first|exact za|fail) only [go_sem,seval,-List.reduceReplicate,d]) ?_
     refine .skip ?_
     first | (refine ihF _ _ ?_ ?_) | (refine .z rfl ?_;refine ihF _ _ ?_ ?_) | (refine .z rfl ?_;refine .z rfl ?_;refine ihF _ _ ?_ ?_) | (refine .z rfl ?_;refine .z rfl ?_;refine .z rfl ?_;refine ihF _ _ ?_ ?_)
     · simp (disch:=first|exact za|fail) only [go_sem,seval,-List.reduceReplicate]<;>(repeat' (first | rfl | refine And.intro ?_ ?_))
     · first | rfl | (simp (disch:=first|exact za|fail) only [go_sem,seval,-List.reduceReplicate]<;>(try rfl))
 · refine .q ?_;refine .region ?_
   refine .one rfl (by simp (disch:=first|exact za|fail) only [go_sem,seval,-List.reduceReplicate,F]<;>rfl) rfl ?_
   refine .one rfl (by simp (disch:=first|exact za|fail) only [go_sem,seval,-List.reduceReplicate,F]<;>rfl) rfl ?_
   refine .one rfl (by simp (disch:=first|exact za|fail) only [go_sem,seval,-List.reduceReplicate,F]<;>rfl) rfl ?_
   refine .weak 45 (y := .p (msg (pmk 1 (tx0 x) [] []))) (by simp (disch:=first|exact za|fail) only [go_sem,seval,-List.reduceReplicate,F]<;>rfl) (by rw [zEK,zw4]) ?_
   refine .weak 46 (y := .p (msg (pm1 x 0))) (by simp (disch:=first|exact za|fail) only [go_sem,seval,-List.reduceReplicate,F]<;>rfl) (by rw [←zw5];unfold mU;rw [zw4,zmg]) ?_
   refine .buildVec (sz:=38) (cs:=zbx [pmk 1 (tx0 x) [] [],pm1 x 0]) (by simp (disch:=first|exact za|fail) only [go_sem,seval,-List.reduceReplicate,yG,zaf]<;>rfl) (by rfl) ?_
   refine .run ?_
   simp (disch:=first|exact za|fail) only [go_sem,seval,-List.reduceReplicate]
   refine .q ?_;refine .text ?_;simp (disch:=first|exact za|fail) only [go_sem,seval,-List.reduceReplicate]
   have hrn:rn x≤x.root.length∧rn x≤32∧(rn x=x.root.length ∨ rn x=32):=by unfold rn;omega
   (repeat refine .zs rfl ?_);refine .cutE [1,3,4,5,6,8] [] [(H.n+3,.vec (zbx [pmk 1 (tx0 x) [] [],pm1 x (rn x)]))] (fun ihJ => ?_) (fun env J => ?_)
   rotate_left 1
   simp (disch:=first|exact za|fail) only [go_sem,seval,-List.reduceReplicate,F] at J
   rotate_left 1
   · refine .q ?_;refine .loopE [1,3,4,5,6,8] (fun i=>[(9,.p (i64 i))]) (fun i=>[(H.n+3,.vec (zbx [pmk 1 (tx0 x) [] [],pm1 x i]))]) (fun i=>True) (0) (rn x) (by omega) ?_ (by first | rfl | (simp (disch:=first|exact za|fail) only [go_sem,seval,-List.reduceReplicate,F]<;>rfl)) ?_ ?_ ?_
     · simp (disch:=first|exact za|fail) only [go_sem,seval,-List.reduceReplicate,F]<;>(repeat' (first | rfl | refine And.intro ?_ ?_))
     · exact trivial
     intro env E hQ;simp (disch:=first|exact za|fail) only [go_sem,seval,-List.reduceReplicate,F] at E
     rotate_left 1
     intro i env hi0 hi E hQ ihE;simp (disch:=first|exact za|fail) only [go_sem,seval,-List.reduceReplicate,F] at E
     rotate_left 1
     · by_cases q:rn x < x.root.length
       · have d1:decide ((rn x:Int) < (x.root.length:Int))=true:=decide_eq_true (by omega)
         have d2:decide ((rn x:Int) < 32)=false:=decide_eq_false (by omega)
         refine .q ?_;refine .text ?_;simp (disch:=first|exact za|fail) only [go_sem,seval,-List.reduceReplicate,E,F,zc,ze,d1,d2]
         refine .q ?_;refine .ifF (by simp (disch:=first|exact za|fail) only [go_sem,seval,-List.reduceReplicate]) ?_
         first | (refine ihJ _ _ ?_ ?_) | (refine .z rfl ?_;refine ihJ _ _ ?_ ?_) | (refine .z rfl ?_;refine .z rfl ?_;refine ihJ _ _ ?_ ?_) | (refine .z rfl ?_;refine .z rfl ?_;refine .z rfl ?_;refine ihJ _ _ ?_ ?_)
         · simp (disch:=first|exact za|fail) only [go_sem,seval,-List.reduceReplicate,E,F,zc,ze]<;>(repeat' (first | rfl | refine And.intro ?_ ?_))
         · first | rfl | (simp (disch:=first|exact za|fail) only [go_sem,seval,-List.reduceReplicate,E,F,zc,ze]<;>(try rfl))
       · have d1:decide ((rn x:Int) < (x.root.length:Int))=false:=decide_eq_false (by omega)
         refine .q ?_;refine .text ?_;simp (disch:=first|exact za|fail) only [go_sem,seval,-List.reduceReplicate,E,F,zc,ze,d1]
         refine .q ?_;refine .ifF (by simp (disch:=first|exact za|fail) only [go_sem,seval,-List.reduceReplicate]) ?_
         first | (refine ihJ _ _ ?_ ?_) | (refine .z rfl ?_;refine ihJ _ _ ?_ ?_) | (refine .z rfl ?_;refine .z rfl ?_;refine ihJ _ _ ?_ ?_) | (refine .z rfl ?_;refine .z rfl ?_;refine .z rfl ?_;refine ihJ _ _ ?_ ?_)
         · simp (disch:=first|exact za|fail) only [go_sem,seval,-List.reduceReplicate,E,F,zc,ze]<;>(repeat' (first | rfl | refine And.intro ?_ ?_))
         · first | rfl | (simp (disch:=first|exact za|fail) only [go_sem,seval,-List.reduceReplicate,E,F,zc,ze]<;>(try rfl))
     · have d1:decide ((i:Int) < (x.root.length:Int))=true:=decide_eq_true (by omega)
       have hli:i < x.root.length:=by omega
       have hvl:(zbx [pmk 1 (tx0 x) [] [],pm1 x i]).length=76:=zeG
       have hst:=zzK (a:=pmk 1 (tx0 x) [] []) hli (show i < 32 by omega)
       refine .q ?_;refine .text ?_;simp (disch:=first|exact za|fail) only [go_sem,seval,-List.reduceReplicate,E,F,zc,ze,d1]
       refine .q ?_;refine .ifT (by simp (disch:=first|exact za|fail) only [go_sem,seval,-List.reduceReplicate]) ?_
       refine .q ?_;refine .open [10] follows (by kernel_rfl) ?_;simp (disch:=first|exact za|fail) only [go_sem,seval,-List.reduceReplicate,E,F,hvl,hst]
       refine .q ?_;refine .text ?_;simp (disch:=first|exact za|fail) only [go_sem,seval,-List.reduceReplicate,E]
       first | (refine ihE _ _ ?_ trivial ?_) | (refine .z rfl ?_;refine ihE _ _ ?_ trivial ?_) | (refine .z rfl ?_;refine .z rfl ?_;refine ihE _ _ ?_ trivial ?_) | (refine .z rfl ?_;refine .z rfl ?_;refine .z rfl ?_;refine ihE _ _ ?_ trivial ?_)
       · simp (disch:=first|exact za|fail) only [go_sem,seval,-List.reduceReplicate,E,F,zc,ze]<;>(repeat' (first | rfl | refine And.intro ?_ ?_))
       · first | rfl | (simp (disch:=first|exact za|fail) only [go_sem,seval,-List.reduceReplicate,E,F,zc,ze]<;>(try rfl))
   have hvn:vn x≤x.vals.length∧vn x≤10∧(vn x=x.vals.length ∨ vn x=10):=by unfold vn;omega
   have hp0:[pmk 1 (tx0 x) [] [],pm1 x (rn x)]=zay x 0:=rfl
   rw [hp0]
   have hpl : ∀ i,(zay x i).length=2+i:=fun i=>by simp [zay,yL];omega
   have hps : ∀ i,zay x (i+1)=zay x i++[pv x i]:=fun i=>by simp [zay,zN]
   refine .q ?_;refine .text ?_;simp (disch:=first|exact za|fail) only [go_sem,seval,-List.reduceReplicate,J,zc,ze]
   (repeat refine .zs rfl ?_);refine .cutF [1,3,4,5,6] [(8,.vr (H.n+3) (2+vn x) 38)] [(H.n+3,.vec (zbx (zay x (vn x))))] (fun ihK => ?_) (fun env T K => ?_)
   rotate_left 1
   simp (disch:=first|exact za|fail) only [go_sem,seval,-List.reduceReplicate,J] at K
   rotate_left 1
   · refine .q ?_;refine .loopF [1,3,4,5,6] (fun i=>[(8,.vr (H.n+3) (2+i) 38),(10,.p (i64 i))]) (fun i=>[(H.n+3,.vec (zbx (zay x i)))]) (fun i=>True) (0) (vn x) (by omega) ?_ (by first | rfl | (simp (disch:=first|exact za|fail) only [go_sem,seval,-List.reduceReplicate,J]<;>rfl)) ?_ ?_ ?_
     · simp (disch:=first|exact za|fail) only [go_sem,seval,-List.reduceReplicate,J]<;>(repeat' (first | rfl | refine And.intro ?_ ?_))
     · exact trivial
     intro env T E hQ;simp (disch:=first|exact za|fail) only [go_sem,seval,-List.reduceReplicate,J] at E
     rotate_left 1
     intro i env T hi0 hi E hQ ihE;simp (disch:=first|exact za|fail) only [go_sem,seval,-List.reduceReplicate,J] at E
     rotate_left 1
     · by_cases q:vn x < x.vals.length
       · have d1:decide ((vn x:Int) < (x.vals.length:Int))=true:=decide_eq_true (by omega)
         have d2:decide ((vn x:Int) < 10)=false:=decide_eq_false (by omega)
         refine .q ?_;refine .text ?_;simp (disch:=first|exact za|fail) only [go_sem,seval,-List.reduceReplicate,E,J,zc,ze,d1,d2]
         refine .q ?_;refine .ifF (by simp (disch:=first|exact za|fail) only [go_sem,seval,-List.reduceReplicate]) ?_
         first | (refine ihK _ _ ?_ ?_) | (refine .z rfl ?_;refine ihK _ _ ?_ ?_) | (refine .z rfl ?_;refine .z rfl ?_;refine ihK _ _ ?_ ?_) | (refine .z rfl ?_;refine .z rfl ?_;refine .z rfl ?_;refine ihK _ _ ?_ ?_)
         · simp (disch:=first|exact za|fail) only [go_sem,seval,-List.reduceReplicate,E,J,zc,ze]<;>(repeat' (first | rfl | refine And.intro ?_ ?_))
         · first | exact .mk _ rfl | exact .mk [] rfl | (apply Later.mk;simp (disch:=first|exact za|fail) only [go_sem,seval,-List.reduceReplicate,zg,E,J,zc,ze];exact rfl) | (apply Later.mk;simp (disch:=first|exact za|fail) only [go_sem,seval,-List.reduceReplicate,zg,zw,List.append_assoc,E,J,zc,ze]<;>(try rfl))
       · have d1:decide ((vn x:Int) < (x.vals.length:Int))=false:=decide_eq_false (by omega)
         refine .q ?_;refine .text ?_;simp (disch:=first|exact za|fail) only [go_sem,seval,-List.reduceReplicate,E,J,zc,ze,d1]
         refine .q ?_;refine .ifF (by simp (disch:=first|exact za|fail) only [go_sem,seval,-List.reduceReplicate]) ?_
         first | (refine ihK _ _ ?_ ?_) | (refine .z rfl ?_;refine ihK _ _ ?_ ?_) | (refine .z rfl ?_;refine .z rfl ?_;refine ihK _ _ ?_ ?_) | (refine .z rfl ?_;refine .z rfl ?_;refine .z rfl ?_;refine ihK _ _ ?_ ?_)
         · simp (disch:=first|exact za|fail) only [go_sem,seval,-List.reduceReplicate,E,J,zc,ze]<;>(repeat' (first | rfl | refine And.intro ?_ ?_))
         · first | exact .mk _ rfl | exact .mk [] rfl | (apply Later.mk;simp (disch:=first|exact za|fail) only [go_sem,seval,-List.reduceReplicate,zg,E,J,zc,ze];exact rfl) | (apply Later.mk;simp (disch:=first|exact za|fail) only [go_sem,seval,-List.reduceReplicate,zg,zw,List.append_assoc,E,J,zc,ze]<;>(try rfl))
     · have d1:decide ((i:Int) < (x.vals.length:Int))=true:=decide_eq_true (by omega)
       have hli:i < x.vals.length:=by omega
       have hvi:=hvv i hli
       refine .q ?_;refine .text ?_;simp (disch:=first|exact za|fail) only [go_sem,seval,-List.reduceReplicate,E,J,zc,ze,d1]
       refine .q ?_;refine .ifT (by simp (disch:=first|exact za|fail) only [go_sem,seval,-List.reduceReplicate]) ?_
       refine .q ?_;refine .text ?_;simp (disch:=first|exact za|fail) only [go_sem,seval,-List.reduceReplicate,E,J]
       refine CallK.of (fun R h=>zeA (nth x.vals i) hvi 1 (by omega) _ R h) ?_;simp (disch:=first|exact za|fail) only [go_sem,seval,-List.reduceReplicate,E,J]
       refine .q ?_;refine .text ?_;simp (disch:=first|exact za|fail) only [go_sem,seval,-List.reduceReplicate,E]
       obtain⟨B,hB⟩ : ∃ B,B=H.n+4+T.length:=⟨_,rfl⟩
       refine .q ?_;refine .cutE [1,3,4,5,6,8,10,11] [] [(H.n+4+T.length,.cells (mcl (pv x i)))] (fun ihQ => ?_) (fun env Q => ?_)
       rotate_left 1
       simp (disch:=first|exact za|fail) only [go_sem,seval,-List.reduceReplicate,E,J] at Q
       rotate_left 1
       · unfold pv at ihQ
         by_cases c1:i=1
         · have e1:((i:Int) == 1)=true:=by rw [c1];rfl
           rw [if_pos c1] at ihQ
           have hmn8:((min (x.sums.length:Int) 8)).toNat=min x.sums.length 8:=by omega
           have htk8:x.sums.take (min x.sums.length 8)=x.sums.take 8:=by rw [List.take_eq_take_iff];omega
           refine .q ?_;refine .ifT (by simp (disch:=first|exact za|fail) only [go_sem,seval,-List.reduceReplicate,e1]) ?_
           refine .q ?_;refine .text ?_;simp (disch:=first|exact za|fail) only [go_sem,seval,-List.reduceReplicate,E,J,hmn8,htk8]
           refine .q ?_;refine .weakC (H.n+4+T.length) (by simp (disch:=first|exact za|fail) only [go_sem,seval,-List.reduceReplicate,zcK];rfl) ?_;(try simp (disch:=first|exact za|fail) only [go_sem,seval,-List.reduceReplicate,List.map_replicate,List.map_cons,List.map_nil,AV.weak,PV.weak,zcK])
           first | (refine ihQ _ _ ?_ ?_) | (refine .z rfl ?_;refine ihQ _ _ ?_ ?_) | (refine .z rfl ?_;refine .z rfl ?_;refine ihQ _ _ ?_ ?_) | (refine .z rfl ?_;refine .z rfl ?_;refine .z rfl ?_;refine ihQ _ _ ?_ ?_)
           · simp (disch:=first|exact za|fail) only [go_sem,seval,-List.reduceReplicate,E,J,zcK,zc,ze]<;>(repeat' (first | rfl | refine And.intro ?_ ?_))
           · first | rfl | (simp (disch:=first|exact za|fail) only [go_sem,seval,-List.reduceReplicate,E,J,zcK,zc,ze]<;>(try rfl))
         · have e1:((i:Int) == 1)=false:=beq_eq_false_iff_ne.2 (by omega)
           rw [if_neg c1] at ihQ
           refine .q ?_;refine .ifF (by simp (disch:=first|exact za|fail) only [go_sem,seval,-List.reduceReplicate,e1]) ?_
           by_cases c2:i % 2=1
           · have e2:((i:Int) % 2 == 1)=true:=by rw [show (i:Int) % 2=1 by omega];rfl
             rw [if_pos c2] at ihQ
             have hmn6:(min ((nth x.vals i).length:Int) 6)=((min (nth x.vals i).length 6:Nat):Int):=by omega
             refine .q ?_;refine .text ?_;simp (disch:=first|exact za|fail) only [go_sem,seval,-List.reduceReplicate,E,J]
             refine .q ?_;refine .ifT (by simp (disch:=first|exact za|fail) only [go_sem,seval,-List.reduceReplicate,e2]) ?_
             refine .q ?_;refine .open [14] follows (by kernel_rfl) ?_;simp (disch:=first|exact za|fail) only [go_sem,seval,-List.reduceReplicate,E,J,hmn6]
             refine CallD.still (fun R h=>zeA (nth x.vals i) hvi _ (by omega) _ R h) ?_;simp (disch:=first|exact za|fail) only [go_sem,seval,-List.reduceReplicate,E,J]
             refine .q ?_;refine .weakC (H.n+4+T.length) (by simp (disch:=first|exact za|fail) only [go_sem,seval,-List.reduceReplicate,zcK];rfl) ?_;(try simp (disch:=first|exact za|fail) only [go_sem,seval,-List.reduceReplicate,List.map_replicate,List.map_cons,List.map_nil,AV.weak,PV.weak,zcK])
             first | (refine ihQ _ _ ?_ ?_) | (refine .z rfl ?_;refine ihQ _ _ ?_ ?_) | (refine .z rfl ?_;refine .z rfl ?_;refine ihQ _ _ ?_ ?_) | (refine .z rfl ?_;refine .z rfl ?_;refine .z rfl ?_;refine ihQ _ _ ?_ ?_)
             · simp (disch:=first|exact za|fail) only [go_sem,seval,-List.reduceReplicate,E,J,zcK,zc,ze]<;>(repeat' (first | rfl | refine And.intro ?_ ?_))
             · first | rfl | (simp (disch:=first|exact za|fail) only [go_sem,seval,-List.reduceReplicate,E,J,zcK,zc,ze]<;>(try rfl))
           · have e2:((i:Int) % 2 == 1)=false:=beq_eq_false_iff_ne.2 (by omega)
             rw [if_neg c2] at ihQ
             refine .q ?_;refine .text ?_;simp (disch:=first|exact za|fail) only [go_sem,seval,-List.reduceReplicate,E,J]
             refine .q ?_;refine .ifF (by simp (disch:=first|exact za|fail) only [go_sem,seval,-List.reduceReplicate,e2]) ?_
             refine .skip ?_
             refine .q ?_;refine .weakC (H.n+4+T.length) (by simp (disch:=first|exact za|fail) only [go_sem,seval,-List.reduceReplicate,zcK];rfl) ?_;(try simp (disch:=first|exact za|fail) only [go_sem,seval,-List.reduceReplicate,List.map_replicate,List.map_cons,List.map_nil,AV.weak,PV.weak,zcK])
             first | (refine ihQ _ _ ?_ ?_) | (refine .z rfl ?_;refine ihQ _ _ ?_ ?_) | (refine .z rfl ?_;refine .z rfl ?_;refine ihQ _ _ ?_ ?_) | (refine .z rfl ?_;refine .z rfl ?_;refine .z rfl ?_;refine ihQ _ _ ?_ ?_)
             · simp (disch:=first|exact za|fail) only [go_sem,seval,-List.reduceReplicate,E,J,zcK,zc,ze]<;>(repeat' (first | rfl | refine And.intro ?_ ?_))
             · first | rfl | (simp (disch:=first|exact za|fail) only [go_sem,seval,-List.reduceReplicate,E,J,zcK,zc,ze]<;>(try rfl))
       · have hvl:(zbx (zay x i)).length=(2+i)*38:=by rw [zeG,hpl]
         have hvp:zbx (zay x i)++(msg (pv x i)).cells.map .p=zbx (zay x (i+1)):=by rw [hps,zmf,zaU,zhi,List.append_nil];rfl
         refine .q ?_;refine .text ?_;simp (disch:=first|exact za|fail) only [go_sem,seval,-List.reduceReplicate,Q,zc,ze,hpl,hvl,hvp]
         refine .q ?_;refine .text ?_;simp (disch:=first|exact za|fail) only [go_sem,seval,-List.reduceReplicate,Q,E]
         first | (refine ihE _ _ ?_ trivial ?_) | (refine .z rfl ?_;refine ihE _ _ ?_ trivial ?_) | (refine .z rfl ?_;refine .z rfl ?_;refine ihE _ _ ?_ trivial ?_) | (refine .z rfl ?_;refine .z rfl ?_;refine .z rfl ?_;refine ihE _ _ ?_ trivial ?_)
         · simp (disch:=first|exact za|fail) only [go_sem,seval,-List.reduceReplicate,Q,E,J,zc,ze,Nat.add_assoc]<;>(repeat' (first | rfl | refine And.intro ?_ ?_))
         · first | exact .mk _ rfl | exact .mk [] rfl | (apply Later.mk;simp (disch:=first|exact za|fail) only [go_sem,seval,-List.reduceReplicate,zg,Q,E,J,zc,ze,Nat.add_assoc];exact rfl) | (apply Later.mk;simp (disch:=first|exact za|fail) only [go_sem,seval,-List.reduceReplicate,zg,zw,List.append_assoc,Q,E,J,zc,ze,Nat.add_assoc]<;>(try rfl))
   · obtain⟨T0,rfl⟩ : ∃ T0,T0=T:=⟨_,rfl⟩
     have h3:(3#8:BitVec 8)≠0#8:=by decide
     refine .q ?_;refine .cutE [1,3,4,5,6,8] [(132,.p (bo (cT x)))] [] (fun ihW => ?_) (fun env W => ?_)
     rotate_left 1
     simp (disch:=first|exact za|fail) only [go_sem,seval,-List.reduceReplicate,K] at W
     rotate_left 1
     · unfold cT at ihW
       cases e1:((2+(vn x:Int)) % 2 == 0) with
       | false =>
        rw [e1] at ihW
        refine .q ?_;refine .text ?_;simp (disch:=first|exact za|fail) only [go_sem,seval,-List.reduceReplicate,K,zc,ze,e1]
        first | (refine ihW _ _ ?_ ?_) | (refine .z rfl ?_;refine ihW _ _ ?_ ?_) | (refine .z rfl ?_;refine .z rfl ?_;refine ihW _ _ ?_ ?_) | (refine .z rfl ?_;refine .z rfl ?_;refine .z rfl ?_;refine ihW _ _ ?_ ?_)
        · simp (disch:=first|exact za|fail) only [go_sem,seval,-List.reduceReplicate,K,zc,ze]<;>(repeat' (first | rfl | refine And.intro ?_ ?_))
        · first | rfl | (simp (disch:=first|exact za|fail) only [go_sem,seval,-List.reduceReplicate,K,zc,ze]<;>(try rfl))
       | true =>
        rw [e1] at ihW
        cases e2:decide ((4:Int)≤(2+(vn x:Int))) with
        | false =>
         rw [e2] at ihW
         refine .q ?_;refine .text ?_;simp (disch:=first|exact za|fail) only [go_sem,seval,-List.reduceReplicate,K,zc,ze,e1,e2]
         first | (refine ihW _ _ ?_ ?_) | (refine .z rfl ?_;refine ihW _ _ ?_ ?_) | (refine .z rfl ?_;refine .z rfl ?_;refine ihW _ _ ?_ ?_) | (refine .z rfl ?_;refine .z rfl ?_;refine .z rfl ?_;refine ihW _ _ ?_ ?_)
         · simp (disch:=first|exact za|fail) only [go_sem,seval,-List.reduceReplicate,K,zc,ze]<;>(repeat' (first | rfl | refine And.intro ?_ ?_))
         · first | rfl | (simp (disch:=first|exact za|fail) only [go_sem,seval,-List.reduceReplicate,K,zc,ze]<;>(try rfl))
        | true =>
         rw [e2] at ihW
         refine .q ?_;refine .text ?_;simp (disch:=first|exact za|fail) only [go_sem,seval,-List.reduceReplicate,K,zc,ze,e1,e2]
         first | (refine ihW _ _ ?_ ?_) | (refine .z rfl ?_;refine ihW _ _ ?_ ?_) | (refine .z rfl ?_;refine .z rfl ?_;refine ihW _ _ ?_ ?_) | (refine .z rfl ?_;refine .z rfl ?_;refine .z rfl ?_;refine ihW _ _ ?_ ?_)
         · simp (disch:=first|exact za|fail) only [go_sem,seval,-List.reduceReplicate,K,zc,ze]<;>(repeat' (first | rfl | refine And.intro ?_ ?_))
         · first | rfl | (simp (disch:=first|exact za|fail) only [go_sem,seval,-List.reduceReplicate,K,zc,ze]<;>(try rfl))
     · have hvl:(zbx (zay x (vn x))).length=(2+vn x)*38:=by rw [zeG,hpl]
       have hpp:(zaM x).length=if cT x then 2+vn x+1 else 2+vn x:=by
        unfold zaM;split<;>simp [hpl]
       refine .q ?_;refine .cutE [3,4,5,6] [(8,.vr (H.n+3) (zaM x).length 38)] [(H.n+3,.vec (zbx (zaM x)))] (fun ihU => ?_) (fun env U => ?_)
       rotate_left 1
       simp (disch:=first|exact za|fail) only [go_sem,seval,-List.reduceReplicate,W,K] at U
       rotate_left 1
       · rw [hpp] at ihU
         unfold zaM at ihU
         cases hc:cT x with
         | false =>
          rw [hc] at ihU
          simp only [Bool.false_eq_true,if_false] at ihU
          refine .q ?_;refine .ifF (by simp (disch:=first|exact za|fail) only [go_sem,seval,-List.reduceReplicate,W,hc]) ?_
          refine .skip ?_
          first | (refine ihU _ _ ?_ ?_) | (refine .z rfl ?_;refine ihU _ _ ?_ ?_) | (refine .z rfl ?_;refine .z rfl ?_;refine ihU _ _ ?_ ?_) | (refine .z rfl ?_;refine .z rfl ?_;refine .z rfl ?_;refine ihU _ _ ?_ ?_)
          · simp (disch:=first|exact za|fail) only [go_sem,seval,-List.reduceReplicate,W,K,zc,ze]<;>(repeat' (first | rfl | refine And.intro ?_ ?_))
          · first | rfl | (simp (disch:=first|exact za|fail) only [go_sem,seval,-List.reduceReplicate,W,K,zc,ze]<;>(try rfl))
         | true =>
          rw [hc] at ihU
          simp only [if_true] at ihU
          have hk6:(6:Int)+((x.fin % 3#8).toNat:Int) - 1=5+((x.fin % 3#8).toNat:Int):=by omega
          have hvp:zbx (zay x (vn x))++(msg (pmk (5+((x.fin % 3#8).toNat:Nat)) [] [] [])).cells.map .p=zbx (zay x (vn x)++[pmk (5+((x.fin % 3#8).toNat:Nat)) [] [] []]):=by rw [zmf,zaU,zhi,List.append_nil];rfl
          have hf3:=(x.fin % 3#8).isLt
          refine .q ?_;refine .ifT (by simp (disch:=first|exact za|fail) only [go_sem,seval,-List.reduceReplicate,W,hc]) ?_
          refine .q ?_;refine .text ?_;simp (disch:=first|exact za|fail) only [go_sem,seval,-List.reduceReplicate,W,K,zc,ze,hpl,hvl,hk6,hvp]
          first | (refine ihU _ _ ?_ ?_) | (refine .z rfl ?_;refine ihU _ _ ?_ ?_) | (refine .z rfl ?_;refine .z rfl ?_;refine ihU _ _ ?_ ?_) | (refine .z rfl ?_;refine .z rfl ?_;refine .z rfl ?_;refine ihU _ _ ?_ ?_)
          · simp (disch:=first|exact za|fail) only [go_sem,seval,-List.reduceReplicate,W,K,zc,ze]<;>(repeat' (first | rfl | refine And.intro ?_ ?_))
          · first | rfl | (simp (disch:=first|exact za|fail) only [go_sem,seval,-List.reduceReplicate,W,K,zc,ze]<;>(try rfl))
       · have hlp:(zaM x).length≤13:=by rw [hpp];split<;>omega
         refine .q ?_;refine .frzV 8 (by simp (disch:=first|exact za|fail) only [go_sem,seval,-List.reduceReplicate,U,W,K,zc,ze];rfl) (by simp (disch:=first|exact za|fail) only [go_sem,seval,-List.reduceReplicate,U,W,K,zc,ze]<;>rfl) (xs:=pl msg (zaM x)) rfl (zcs) (zzL) ?_;(try simp (disch:=first|exact za|fail) only [go_sem,seval,-List.reduceReplicate,U,W,K,zc,ze])
         have hP:=zqh hso
         have hidt:0≤tid x∧tid x≤65535:=by unfold tid;omega
         generalize tid x=id at *
         generalize zaM x=P at *
         clear hpp hvl hpl hps hp0
         refine .q ?_;refine .own 6 (by simp (disch:=first|exact za|fail) only [go_sem,seval,-List.reduceReplicate,U,W,K];rfl) ?_
         refine .q ?_;refine .text ?_;simp (disch:=first|exact za|fail) only [go_sem,seval,-List.reduceReplicate]
         refine .q ?_;refine .loopF [3,4,5,8] (fun i=>[(6,.sl (H.n+4+T0.length) i 38 (pl msg (zhg id P i))),(12,.p (i64 i))]) (fun i=>[(H.n+1,.cells (yq (yW id P 1 i 0))),(H.n+2,.cells (yq (yW id P 1 i 1))),(H.n+4+T0.length,.tail i)]) (fun i => ∀ j,j < i → ser id P j=0) (0) (P.length) (by omega) ?_ (by first | rfl | (simp (disch:=first|exact za|fail) only [go_sem,seval,-List.reduceReplicate,U,W,K]<;>rfl)) ?_ ?_ ?_
         · simp (disch:=first|exact za|fail) only [go_sem,seval,-List.reduceReplicate,U,W,K]<;>(repeat' (first | rfl | refine And.intro ?_ ?_))
         rotate_left 1
         intro env T E hQ;simp (disch:=first|exact za|fail) only [go_sem,seval,-List.reduceReplicate,U,W,K] at E
         rotate_left 1
         intro i env T hi0 hi E hQ ihE;simp (disch:=first|exact za|fail) only [go_sem,seval,-List.reduceReplicate,U,W,K] at E
         rotate_left 1
         · exact fun j hj=>absurd hj (by omega)
         · refine .q ?_;refine .text ?_;simp (disch:=first|exact za|fail) only [go_sem,seval,-List.reduceReplicate,E,zc,ze]
           refine .q ?_;refine .ifF (by simp (disch:=first|exact za|fail) only [go_sem,seval,-List.reduceReplicate]) ?_
           refine .q ?_;refine .text ?_;simp (disch:=first|exact za|fail) only [go_sem,seval,-List.reduceReplicate,E]
           refine .q ?_;refine .rt Tryz.func10 (by rw [Tryz.results10]) (hx:=by simp (disch:=first|exact za|fail) only [go_sem,seval,-List.reduceReplicate,E];rfl) (hR := ?_);simp (disch:=first|exact za|fail) only [go_sem,seval,-List.reduceReplicate,E]
           exact h P.length hlp hQ (.inl rfl)
         · have hgd:=zme hP hidt (D:=1) (by decide) i (by omega) hQ
           have o0:=(hgd 0 (by omega)).ok (by omega)
           have o1:=(hgd 1 (by omega)).ok (by omega)
           have hmi:=zw1 (i:=i) hP hidt (by omega)
           have hon:(zhg id P i).length=i:=zhh
           have hos:zhg id P (i+1)=zhg id P i++[mi id P i]:=zN
           have hii:okI (i:Int):=zqf (by omega)
           refine .q ?_;refine .text ?_;simp (disch:=first|exact za|fail) only [go_sem,seval,-List.reduceReplicate,E,zc,ze]
           refine .q ?_;refine .ifT (by simp (disch:=first|exact za|fail) only [go_sem,seval,-List.reduceReplicate]) ?_
           refine .q ?_;refine .text ?_;simp (disch:=first|exact za|fail) only [go_sem,seval,-List.reduceReplicate,E]
           refine .q ?_;refine .text ?_;simp (disch:=first|exact za|fail) only [go_sem,seval,-List.reduceReplicate,E]
           refine .q ?_;refine .text ?_;simp (disch:=first|exact za|fail) only [go_sem,seval,-List.reduceReplicate,E]
           refine .q ?_;refine .text ?_;simp (disch:=first|exact za|fail) only [go_sem,seval,-List.reduceReplicate,E]
           have hm1:(nth P i).kind=2 → mi id P i=⟨(nth P i).kind,id,i,(nth P i).text,(nth P i).root,(nth P i).sums,(nth P i).values⟩:=fun q=>by unfold mi mqq;rw [if_neg (by simp [q])]
           have hm2:(nth P i).kind≠2 → mi id P i=⟨(nth P i).kind,id,i,(nth P i).text,(com id P i).seen,(nth P i).sums,(nth P i).values⟩:=fun q=>by unfold mi mqq;rw [if_pos q]
           have hs0:(yW id P 1 i 0).seen=(com id P i).seen:=rfl
           have hs1:(yW id P 1 i 1).seen=(com id P i).seen:=rfl
           have hsl:=(com id P i).seen.len
           have hpar:i % 2=0 ∨ i % 2=1:=by omega
           by_cases hz:ser id P i=0
           · have hall : ∀ j,j≤i → ser id P j=0:=fun j hj=>by
              rcases Nat.lt_or_ge j i with q | q
              · exact hQ j q
              · rw [show j=i by omega];exact hz
             refine .q ?_;refine .cutF [3,4,5,6,8,12,13] [] [(H.n+1,.cells (yq (yW id P 1 (i+1) 0))),(H.n+2,.cells (yq (yW id P 1 (i+1) 1))),(H.n+4+T0.length+1+T.length,.cells (mcl (mi id P i)))] (fun ihV => ?_) (fun env T V => ?_)
             rotate_left 1
             simp (disch:=first|exact za|fail) only [go_sem,seval,-List.reduceReplicate,E] at V
             rotate_left 1
             · skip
               rcases hpar with hp0 | hp1
               · have dp:((i:Int) % 2 == 0)=true:=by rw [show (i:Int) % 2=0 by omega];rfl
                 refine .q ?_;refine .ifT (by simp (disch:=first|exact za|fail) only [go_sem,seval,-List.reduceReplicate,dp]) ?_
                 refine .q ?_;refine .text ?_;simp (disch:=first|exact za|fail) only [go_sem,seval,-List.reduceReplicate,E]
                 refine .q ?_;refine .cutE [3,4,5,6,8,12,13] [] [(H.n+4+T0.length+1+T.length,.cells (mcl (mi id P i)))] (fun ihX => ?_) (fun env X => ?_)
                 rotate_left 1
                 simp (disch:=first|exact za|fail) only [go_sem,seval,-List.reduceReplicate,E] at X
                 rotate_left 1
                 · by_cases hk:(nth P i).kind=2
                   · have dk:((nth P i).kind != 2)=false:=by simpa using hk
                     rw [hm1 hk] at ihX
                     refine .q ?_;refine .ifF (by simp (disch:=first|exact za|fail) only [go_sem,seval,-List.reduceReplicate,dk]) ?_
                     refine .skip ?_
                     first | (refine ihX _ _ ?_ ?_) | (refine .z rfl ?_;refine ihX _ _ ?_ ?_) | (refine .z rfl ?_;refine .z rfl ?_;refine ihX _ _ ?_ ?_) | (refine .z rfl ?_;refine .z rfl ?_;refine .z rfl ?_;refine ihX _ _ ?_ ?_)
                     · simp (disch:=first|exact za|fail) only [go_sem,seval,-List.reduceReplicate,E,zc,ze]<;>(repeat' (first | rfl | refine And.intro ?_ ?_))
                     · first | rfl | (simp (disch:=first|exact za|fail) only [go_sem,seval,-List.reduceReplicate,E,zc,ze]<;>(try rfl))
                   · have dk:((nth P i).kind != 2)=true:=by simpa using hk
                     rw [hm2 hk] at ihX
                     refine .q ?_;refine .ifT (by simp (disch:=first|exact za|fail) only [go_sem,seval,-List.reduceReplicate,dk]) ?_
                     refine .q ?_;refine .text ?_;simp (disch:=first|exact za|fail) only [go_sem,seval,-List.reduceReplicate,E,hsl]
                     first | (refine ihX _ _ ?_ ?_) | (refine .z rfl ?_;refine ihX _ _ ?_ ?_) | (refine .z rfl ?_;refine .z rfl ?_;refine ihX _ _ ?_ ?_) | (refine .z rfl ?_;refine .z rfl ?_;refine .z rfl ?_;refine ihX _ _ ?_ ?_)
                     · simp (disch:=first|exact za|fail) only [go_sem,seval,-List.reduceReplicate,E,zc,ze,hs0]<;>(repeat' (first | rfl | refine And.intro ?_ ?_))
                     · first | rfl | (simp (disch:=first|exact za|fail) only [go_sem,seval,-List.reduceReplicate,E,zc,ze,hs0]<;>(try rfl))
                 · have hse:send (yW id P 1 i 0) (mi id P i)=(yW id P 1 (i+1) 0,enc (mi id P i),0):=zdk hz hp0
                   have hrv:recv (yW id P 1 i 1) (enc (mi id P i)) 0=(yW id P 1 (i+1) 1,mi id P i,0):=zdl hall hP.okI (by omega) (by decide)
                   have hel:(enc (mi id P i)).length≤3000:=zd2
                   refine .q ?_;refine .text ?_;simp (disch:=first|exact za|fail) only [go_sem,seval,-List.reduceReplicate,X,E,zc,ze]
                   refine CallK.of (fun R h=>zb3 (yW id P 1 i 0) o0 (mi id P i) hmi _ R h) ?_;simp (disch:=first|exact za|fail) only [go_sem,seval,-List.reduceReplicate,hse]
                   refine .q ?_;refine .text ?_;simp (disch:=first|exact za|fail) only [go_sem,seval,-List.reduceReplicate]
                   refine .q ?_;refine .ifF (by simp (disch:=first|exact za|fail) only [go_sem,seval,-List.reduceReplicate]) ?_
                   refine .skip ?_
                   refine .q ?_;refine .text ?_;simp (disch:=first|exact za|fail) only [go_sem,seval,-List.reduceReplicate,X,E]
                   refine .q ?_;refine .text ?_;simp (disch:=first|exact za|fail) only [go_sem,seval,-List.reduceReplicate,X,E]
                   refine CallK.of (fun R h=>zdi (yW id P 1 i 1) o1 (enc (mi id P i)) (by omega) 0 _ R h) ?_;simp (disch:=first|exact za|fail) only [go_sem,seval,-List.reduceReplicate,hrv]
                   refine .q ?_;refine .text ?_;simp (disch:=first|exact za|fail) only [go_sem,seval,-List.reduceReplicate,X,E]
                   first | (refine ihV _ _ ?_ ?_) | (refine .z rfl ?_;refine ihV _ _ ?_ ?_) | (refine .z rfl ?_;refine .z rfl ?_;refine ihV _ _ ?_ ?_) | (refine .z rfl ?_;refine .z rfl ?_;refine .z rfl ?_;refine ihV _ _ ?_ ?_)
                   · simp (disch:=first|exact za|fail) only [go_sem,seval,-List.reduceReplicate,X,E]<;>(repeat' (first | rfl | refine And.intro ?_ ?_))
                   · exact ziy
               · have dp:((i:Int) % 2 == 0)=false:=by rw [show (i:Int) % 2=1 by omega];rfl
                 refine .q ?_;refine .ifF (by simp (disch:=first|exact za|fail) only [go_sem,seval,-List.reduceReplicate,dp]) ?_
                 refine .q ?_;refine .text ?_;simp (disch:=first|exact za|fail) only [go_sem,seval,-List.reduceReplicate,E]
                 refine .q ?_;refine .cutE [3,4,5,6,8,12,13] [] [(H.n+4+T0.length+1+T.length,.cells (mcl (mi id P i)))] (fun ihX => ?_) (fun env X => ?_)
                 rotate_left 1
                 simp (disch:=first|exact za|fail) only [go_sem,seval,-List.reduceReplicate,E] at X
                 rotate_left 1
                 · by_cases hk:(nth P i).kind=2
                   · have dk:((nth P i).kind != 2)=false:=by simpa using hk
                     rw [hm1 hk] at ihX
                     refine .q ?_;refine .ifF (by simp (disch:=first|exact za|fail) only [go_sem,seval,-List.reduceReplicate,dk]) ?_
                     refine .skip ?_
                     first | (refine ihX _ _ ?_ ?_) | (refine .z rfl ?_;refine ihX _ _ ?_ ?_) | (refine .z rfl ?_;refine .z rfl ?_;refine ihX _ _ ?_ ?_) | (refine .z rfl ?_;refine .z rfl ?_;refine .z rfl ?_;refine ihX _ _ ?_ ?_)
                     · simp (disch:=first|exact za|fail) only [go_sem,seval,-List.reduceReplicate,E,zc,ze]<;>(repeat' (first | rfl | refine And.intro ?_ ?_))
                     · first | rfl | (simp (disch:=first|exact za|fail) only [go_sem,seval,-List.reduceReplicate,E,zc,ze]<;>(try rfl))
                   · have dk:((nth P i).kind != 2)=true:=by simpa using hk
                     rw [hm2 hk] at ihX
                     refine .q ?_;refine .ifT (by simp (disch:=first|exact za|fail) only [go_sem,seval,-List.reduceReplicate,dk]) ?_
                     refine .q ?_;refine .text ?_;simp (disch:=first|exact za|fail) only [go_sem,seval,-List.reduceReplicate,E,hsl]
                     first | (refine ihX _ _ ?_ ?_) | (refine .z rfl ?_;refine ihX _ _ ?_ ?_) | (refine .z rfl ?_;refine .z rfl ?_;refine ihX _ _ ?_ ?_) | (refine .z rfl ?_;refine .z rfl ?_;refine .z rfl ?_;refine ihX _ _ ?_ ?_)
                     · simp (disch:=first|exact za|fail) only [go_sem,seval,-List.reduceReplicate,E,zc,ze,hs1]<;>(repeat' (first | rfl | refine And.intro ?_ ?_))
                     · first | rfl | (simp (disch:=first|exact za|fail) only [go_sem,seval,-List.reduceReplicate,E,zc,ze,hs1]<;>(try rfl))
                 · have hse:send (yW id P 1 i 1) (mi id P i)=(yW id P 1 (i+1) 1,enc (mi id P i),0):=zdk hz hp1
                   have hrv:recv (yW id P 1 i 0) (enc (mi id P i)) 0=(yW id P 1 (i+1) 0,mi id P i,0):=zdl hall hP.okI (by omega) (by decide)
                   have hel:(enc (mi id P i)).length≤3000:=zd2
                   refine .q ?_;refine .text ?_;simp (disch:=first|exact za|fail) only [go_sem,seval,-List.reduceReplicate,X,E,zc,ze]
                   refine CallK.of (fun R h=>zb3 (yW id P 1 i 1) o1 (mi id P i) hmi _ R h) ?_;simp (disch:=first|exact za|fail) only [go_sem,seval,-List.reduceReplicate,hse]
                   refine .q ?_;refine .text ?_;simp (disch:=first|exact za|fail) only [go_sem,seval,-List.reduceReplicate]
                   refine .q ?_;refine .ifF (by simp (disch:=first|exact za|fail) only [go_sem,seval,-List.reduceReplicate]) ?_
                   refine .skip ?_
                   refine .q ?_;refine .text ?_;simp (disch:=first|exact za|fail) only [go_sem,seval,-List.reduceReplicate,X,E]
                   refine .q ?_;refine .text ?_;simp (disch:=first|exact za|fail) only [go_sem,seval,-List.reduceReplicate,X,E]
                   refine CallK.of (fun R h=>zdi (yW id P 1 i 0) o0 (enc (mi id P i)) (by omega) 0 _ R h) ?_;simp (disch:=first|exact za|fail) only [go_sem,seval,-List.reduceReplicate,hrv]
                   refine .q ?_;refine .text ?_;simp (disch:=first|exact za|fail) only [go_sem,seval,-List.reduceReplicate,X,E]
                   first | (refine ihV _ _ ?_ ?_) | (refine .z rfl ?_;refine ihV _ _ ?_ ?_) | (refine .z rfl ?_;refine .z rfl ?_;refine ihV _ _ ?_ ?_) | (refine .z rfl ?_;refine .z rfl ?_;refine .z rfl ?_;refine ihV _ _ ?_ ?_)
                   · simp (disch:=first|exact za|fail) only [go_sem,seval,-List.reduceReplicate,X,E]<;>(repeat' (first | rfl | refine And.intro ?_ ?_))
                   · exact ziy
             · refine .q ?_;refine .text ?_;simp (disch:=first|exact za|fail) only [go_sem,seval,-List.reduceReplicate,V,zc,ze,hon,←hos]
               refine .q ?_;refine .text ?_;simp (disch:=first|exact za|fail) only [go_sem,seval,-List.reduceReplicate,V]
               first | (refine ihE _ _ ?_ (zk hQ hz) ?_) | (refine .z rfl ?_;refine ihE _ _ ?_ (zk hQ hz) ?_) | (refine .z rfl ?_;refine .z rfl ?_;refine ihE _ _ ?_ (zk hQ hz) ?_) | (refine .z rfl ?_;refine .z rfl ?_;refine .z rfl ?_;refine ihE _ _ ?_ (zk hQ hz) ?_)
               · simp (disch:=first|exact za|fail) only [go_sem,seval,-List.reduceReplicate,V,E,U,W,K,J,zc,ze]<;>(repeat' (first | rfl | refine And.intro ?_ ?_))
               · exact zo2
           · skip
             rcases hpar with hp0 | hp1
             · have dp:((i:Int) % 2 == 0)=true:=by rw [show (i:Int) % 2=0 by omega];rfl
               refine .q ?_;refine .ifT (by simp (disch:=first|exact za|fail) only [go_sem,seval,-List.reduceReplicate,dp]) ?_
               refine .q ?_;refine .text ?_;simp (disch:=first|exact za|fail) only [go_sem,seval,-List.reduceReplicate,E]
               refine .q ?_;refine .cutE [3,4,5,6,8,12,13] [] [(H.n+4+T0.length+1+T.length,.cells (mcl (mi id P i)))] (fun ihX => ?_) (fun env X => ?_)
               rotate_left 1
               simp (disch:=first|exact za|fail) only [go_sem,seval,-List.reduceReplicate,E] at X
               rotate_left 1
               · by_cases hk:(nth P i).kind=2
                 · have dk:((nth P i).kind != 2)=false:=by simpa using hk
                   rw [hm1 hk] at ihX
                   refine .q ?_;refine .ifF (by simp (disch:=first|exact za|fail) only [go_sem,seval,-List.reduceReplicate,dk]) ?_
                   refine .skip ?_
                   first | (refine ihX _ _ ?_ ?_) | (refine .z rfl ?_;refine ihX _ _ ?_ ?_) | (refine .z rfl ?_;refine .z rfl ?_;refine ihX _ _ ?_ ?_) | (refine .z rfl ?_;refine .z rfl ?_;refine .z rfl ?_;refine ihX _ _ ?_ ?_)
                   · simp (disch:=first|exact za|fail) only [go_sem,seval,-List.reduceReplicate,E,zc,ze]<;>(repeat' (first | rfl | refine And.intro ?_ ?_))
                   · first | rfl | (simp (disch:=first|exact za|fail) only [go_sem,seval,-List.reduceReplicate,E,zc,ze]<;>(try rfl))
                 · have dk:((nth P i).kind != 2)=true:=by simpa using hk
                   rw [hm2 hk] at ihX
                   refine .q ?_;refine .ifT (by simp (disch:=first|exact za|fail) only [go_sem,seval,-List.reduceReplicate,dk]) ?_
                   refine .q ?_;refine .text ?_;simp (disch:=first|exact za|fail) only [go_sem,seval,-List.reduceReplicate,E,hsl]
                   first | (refine ihX _ _ ?_ ?_) | (refine .z rfl ?_;refine ihX _ _ ?_ ?_) | (refine .z rfl ?_;refine .z rfl ?_;refine ihX _ _ ?_ ?_) | (refine .z rfl ?_;refine .z rfl ?_;refine .z rfl ?_;refine ihX _ _ ?_ ?_)
                   · simp (disch:=first|exact za|fail) only [go_sem,seval,-List.reduceReplicate,E,zc,ze,hs0]<;>(repeat' (first | rfl | refine And.intro ?_ ?_))
                   · first | rfl | (simp (disch:=first|exact za|fail) only [go_sem,seval,-List.reduceReplicate,E,zc,ze,hs0]<;>(try rfl))
               · have hne:(send (yW id P 1 i 0) (mi id P i)).2.2≠0:=by have:=hz;unfold ser at this;rwa [hp0] at this
                 have dz:((send (yW id P 1 i 0) (mi id P i)).2.2 != 0)=true:=by simpa using hne
                 refine .q ?_;refine .text ?_;simp (disch:=first|exact za|fail) only [go_sem,seval,-List.reduceReplicate,X,E,zc,ze]
                 refine CallK.of (fun R h=>zb3 (yW id P 1 i 0) o0 (mi id P i) hmi _ R h) ?_;simp (disch:=first|exact za|fail) only [go_sem,seval,-List.reduceReplicate]
                 refine .q ?_;refine .text ?_;simp (disch:=first|exact za|fail) only [go_sem,seval,-List.reduceReplicate]
                 refine .q ?_;refine .ifT (by simp (disch:=first|exact za|fail) only [go_sem,seval,-List.reduceReplicate,dz]) ?_
                 refine .q ?_;refine .text ?_;simp (disch:=first|exact za|fail) only [go_sem,seval,-List.reduceReplicate,X,E]
                 refine .q ?_;refine .rt Tryz.func10 (by rw [Tryz.results10]) (hx:=by simp (disch:=first|exact za|fail) only [go_sem,seval,-List.reduceReplicate,X,E];rfl) (hR := ?_);simp (disch:=first|exact za|fail) only [go_sem,seval,-List.reduceReplicate,X,E]
                 exact h i (by omega) hQ (.inr hz)
             · have dp:((i:Int) % 2 == 0)=false:=by rw [show (i:Int) % 2=1 by omega];rfl
               refine .q ?_;refine .ifF (by simp (disch:=first|exact za|fail) only [go_sem,seval,-List.reduceReplicate,dp]) ?_
               refine .q ?_;refine .text ?_;simp (disch:=first|exact za|fail) only [go_sem,seval,-List.reduceReplicate,E]
               refine .q ?_;refine .cutE [3,4,5,6,8,12,13] [] [(H.n+4+T0.length+1+T.length,.cells (mcl (mi id P i)))] (fun ihX => ?_) (fun env X => ?_)
               rotate_left 1
               simp (disch:=first|exact za|fail) only [go_sem,seval,-List.reduceReplicate,E] at X
               rotate_left 1
               · by_cases hk:(nth P i).kind=2
                 · have dk:((nth P i).kind != 2)=false:=by simpa using hk
                   rw [hm1 hk] at ihX
                   refine .q ?_;refine .ifF (by simp (disch:=first|exact za|fail) only [go_sem,seval,-List.reduceReplicate,dk]) ?_
                   refine .skip ?_
                   first | (refine ihX _ _ ?_ ?_) | (refine .z rfl ?_;refine ihX _ _ ?_ ?_) | (refine .z rfl ?_;refine .z rfl ?_;refine ihX _ _ ?_ ?_) | (refine .z rfl ?_;refine .z rfl ?_;refine .z rfl ?_;refine ihX _ _ ?_ ?_)
                   · simp (disch:=first|exact za|fail) only [go_sem,seval,-List.reduceReplicate,E,zc,ze]<;>(repeat' (first | rfl | refine And.intro ?_ ?_))
                   · first | rfl | (simp (disch:=first|exact za|fail) only [go_sem,seval,-List.reduceReplicate,E,zc,ze]<;>(try rfl))
                 · have dk:((nth P i).kind != 2)=true:=by simpa using hk
                   rw [hm2 hk] at ihX
                   refine .q ?_;refine .ifT (by simp (disch:=first|exact za|fail) only [go_sem,seval,-List.reduceReplicate,dk]) ?_
                   refine .q ?_;refine .text ?_;simp (disch:=first|exact za|fail) only [go_sem,seval,-List.reduceReplicate,E,hsl]
                   first | (refine ihX _ _ ?_ ?_) | (refine .z rfl ?_;refine ihX _ _ ?_ ?_) | (refine .z rfl ?_;refine .z rfl ?_;refine ihX _ _ ?_ ?_) | (refine .z rfl ?_;refine .z rfl ?_;refine .z rfl ?_;refine ihX _ _ ?_ ?_)
                   · simp (disch:=first|exact za|fail) only [go_sem,seval,-List.reduceReplicate,E,zc,ze,hs1]<;>(repeat' (first | rfl | refine And.intro ?_ ?_))
                   · first | rfl | (simp (disch:=first|exact za|fail) only [go_sem,seval,-List.reduceReplicate,E,zc,ze,hs1]<;>(try rfl))
               · have hne:(send (yW id P 1 i 1) (mi id P i)).2.2≠0:=by have:=hz;unfold ser at this;rwa [hp1] at this
                 have dz:((send (yW id P 1 i 1) (mi id P i)).2.2 != 0)=true:=by simpa using hne
                 refine .q ?_;refine .text ?_;simp (disch:=first|exact za|fail) only [go_sem,seval,-List.reduceReplicate,X,E,zc,ze]
                 refine CallK.of (fun R h=>zb3 (yW id P 1 i 1) o1 (mi id P i) hmi _ R h) ?_;simp (disch:=first|exact za|fail) only [go_sem,seval,-List.reduceReplicate]
                 refine .q ?_;refine .text ?_;simp (disch:=first|exact za|fail) only [go_sem,seval,-List.reduceReplicate]
                 refine .q ?_;refine .ifT (by simp (disch:=first|exact za|fail) only [go_sem,seval,-List.reduceReplicate,dz]) ?_
                 refine .q ?_;refine .text ?_;simp (disch:=first|exact za|fail) only [go_sem,seval,-List.reduceReplicate,X,E]
                 refine .q ?_;refine .rt Tryz.func10 (by rw [Tryz.results10]) (hx:=by simp (disch:=first|exact za|fail) only [go_sem,seval,-List.reduceReplicate,X,E];rfl) (hR := ?_);simp (disch:=first|exact za|fail) only [go_sem,seval,-List.reduceReplicate,X,E]
                 exact h i (by omega) hQ (.inr hz)
end walks
end Go.Proofs.YtgflpgcogkdpgaaGreatDoor

/-
  Audits: the laws' meters.
-/
namespace Go.Proofs.YtgflpgcogkdpgaaGreatDoor
open Go Go.AL

def zbV (b:BitVec 8) (k:Nat):Bool:=(b >>> k) &&& 1#8 == 1#8
def mt (l:By) (i:Nat):Mt:=⟨BitVec.ofInt 64 i,[tab (zbV (nth l i)) 4]++(if nth l i &&& 128#8 != 0#8 then [ [nth l i &&& 64#8 != 0#8] ] else [])⟩
def mts (l:By):List Mt:=tab (mt l) (min l.length 12)
theorem mk5 {a b c d e:PV}:zn [.p a,.p b,.p c,.p d,.p e] = .p (.agg [a,b,c,d,e]):=rfl
theorem ac5 {a b c d e:PV}:zh (.p (.agg [a,b,c,d,e]))=some [.p a,.p b,.p c,.p d,.p e]:=rfl
def epT (ps:List Bool):PV := .agg [i64 0,i64 0,bo false,.sl false 3 (pl pnt ps),.sl true 32 []]
section ept
variable {ps:List Bool} {a v:Nat}
theorem zB5:zn [.p (i64 0),.p (i64 0),.p (bo false),.sl a v 3 (pl pnt ps),.p (.sl true 32 [])] = .p (epT ps):=rfl
theorem zD2:(epT ps).weak=epo ps:=rfl
theorem zB6:(epT ps).cells.length=5:=rfl
def epV (b:Bool) (ps:List Bool):PV := .agg [i64 0,i64 0,bo false,.sl b 3 (pl pnt ps),.sl true 32 []]
theorem zB7 {b:Bool}:zn [.p (i64 0),.p (i64 0),.p (bo false),.p (.sl b 3 (pl pnt ps)),.p (.sl true 32 [])] = .p (epV b ps):=rfl
theorem zD3 {b:Bool}:(epV b ps).weak=epo ps:=rfl
theorem zB8 {b:Bool}:(epV b ps).cells.length=5:=rfl
end ept
attribute [go_sem] zB5 zD2 zB6 zB7 zD3 zB8
def mtU (v:BitVec 64) (x:AV):List AV := .p (zt v) :: (cl b8 (List.replicate 32 0#8)++[x])
def zw9 (v:BitVec 64) (x:PV):PV := .agg (zt v :: (pl b8 (List.replicate 32 0#8)++[x]))
section mtu
variable {v:BitVec 64} {x y:AV} {a b:PV} {es:List (List Bool)} {α k:Nat} {c:Bool}
theorem zzM:AV.p (zt v) :: (List.map AV.p (pl b8 (List.replicate 32 0#8)++[PV.sl true 5 []])).set 32 y=mtU v y:=by
 rw [List.map_append,List.set_append_right _ _ (by simp [pl])];simp [mtU,cl,pl]
theorem zzN:(mtU v x).length=34:=by simp [mtU,cl]
theorem zo4:(mtU v x)[33]? = some x:=by
 simp only [mtU,List.getElem?_cons_succ];rw [List.getElem?_append_right (by simp [cl])];simp [cl]
theorem zjG:(mtU v x).set 33 y=mtU v y:=by
 simp only [mtU,List.set_cons_succ];rw [List.set_append_right _ _ (by simp [cl])];simp [cl]
theorem zmh:(zt v :: (pl b8 (List.replicate 32 0#8)++[a])).map AV.p=mtU v (.p a):=by simp [mtU,cl,pl]
theorem zB9:zn (mtU v (.p a)) = .p (zw9 v a):=by rw [←zmh,zn,zdJ];rfl
theorem zCa:zh (.p (zw9 v a))=some (mtU v (.p a)):=by show some (List.map AV.p _)=_;rw [zmh]
theorem zzO:zn (mtU v (.sl α k 5 (pl epo es))) = .p (mtr ⟨v,es⟩):=by
 have h:pvs? (mtU v (.sl α k 5 (pl epo es)))=some (zhQ ⟨v,es⟩):=by
  have h0 : ∀ l:List PV,pvs? (l.map AV.p++[.sl α k 5 (pl epo es)])=some (l++[.sl false 5 (pl epo es)]):=fun l=>by
   induction l with
   | nil=>rfl
   | cons a l ih=>simp only [List.map_cons,List.cons_append,pvs?,ih];rfl
  have:=h0 (zt v :: pl b8 (List.replicate 32 0#8))
  rw [List.map_cons,List.cons_append,znF] at this
  exact this
 unfold zn
 rw [h];rfl
theorem zCb:(zw9 v (.sl c 5 (pl epo es))).weak=mtr ⟨v,es⟩:=by
 show PV.agg (List.map PV.weak1 _)=_
 have h:(pl b8 (List.replicate 32 0#8)).map PV.weak1=pl b8 (List.replicate 32 0#8):=zc1 fun _=>rfl
 simp only [List.map_cons,List.map_append,List.map_nil,h];rfl
theorem zzP:(zw9 v a).cells.length=34:=by simp [zw9,PV.cells,pl]
end mtu
attribute [go_sem] zzM zzN zo4 zjG zB9 zCa zzO zCb zzP
section walks
variable {G:Globs}
set_option maxHeartbeats 2000000 in
set_option maxRecDepth 20000 in
theorem zbi (l:By) (hl:l.length≤9223372036854775807) (H:Hp) (R:AV → Hp → Prop) (h:R (.p (.sl false 34 (pl mtr (mts l)))) H):ACall Tryz.prog G 17 [.p (.sl false 1 (pl b8 l))] H R:=by
 obtain⟨n,hn⟩ : ∃ n,n=min l.length 12:=⟨_,rfl⟩
 unfold mts at h
 rw [←hn] at h
 refine ACall.of_run (raw:=[]) Tryz.func17 rfl Tryz.ntmps17 (by simp) fun hbel => ?_
 refine .q ?_;refine .text ?_;simp (disch:=first|exact za|fail) only [go_sem,seval,-List.reduceReplicate]
 refine .q ?_;refine .text ?_;simp (disch:=first|exact za|fail) only [go_sem,seval,-List.reduceReplicate]
 refine .q ?_;refine .own 3 (by simp (disch:=first|exact za|fail) only [go_sem,seval,-List.reduceReplicate];rfl) ?_
 refine .q ?_;refine .text ?_;simp (disch:=first|exact za|fail) only [go_sem,seval,-List.reduceReplicate]
 (repeat refine .zs rfl ?_);refine .cutF [] [(3,.sl H.n n 34 (pl mtr (tab (mt l) n)))] [(H.n,.tail n)] (fun ihJ => ?_) (fun env T J => ?_)
 rotate_left 1
 simp (disch:=first|exact za|fail) only [go_sem,seval,-List.reduceReplicate] at J
 rotate_left 1
 · refine .q ?_;refine .loopF [0] (fun i=>[(3,.sl H.n i 34 (pl mtr (tab (mt l) i))),(4,.p (i64 i))]) (fun i=>[(H.n,.tail i)]) (fun i=>True) (0) (n) (by omega) ?_ (by first | rfl | (simp (disch:=first|exact za|fail) only [go_sem,seval,-List.reduceReplicate]<;>rfl)) ?_ ?_ ?_
   · simp (disch:=first|exact za|fail) only [go_sem,seval,-List.reduceReplicate]<;>(repeat' (first | rfl | refine And.intro ?_ ?_))
   · exact trivial
   intro env T E hQ;simp (disch:=first|exact za|fail) only [go_sem,seval,-List.reduceReplicate] at E
   rotate_left 1
   intro i env T hi0 hi E hQ ihE;simp (disch:=first|exact za|fail) only [go_sem,seval,-List.reduceReplicate] at E
   rotate_left 1
   · by_cases q:n < l.length
     · have d1:decide ((n:Int) < (l.length:Int))=true:=decide_eq_true (by omega)
       have d2:decide ((n:Int) < 12)=false:=decide_eq_false (by omega)
       refine .q ?_;refine .text ?_;simp (disch:=first|exact za|fail) only [go_sem,seval,-List.reduceReplicate,E,zc,ze,d1,d2]
       refine .q ?_;refine .ifF (by simp (disch:=first|exact za|fail) only [go_sem,seval,-List.reduceReplicate]) ?_
       first | (refine ihJ _ _ ?_ ?_) | (refine .z rfl ?_;refine ihJ _ _ ?_ ?_) | (refine .z rfl ?_;refine .z rfl ?_;refine ihJ _ _ ?_ ?_) | (refine .z rfl ?_;refine .z rfl ?_;refine .z rfl ?_;refine ihJ _ _ ?_ ?_)
       · simp (disch:=first|exact za|fail) only [go_sem,seval,-List.reduceReplicate,E,zc,ze]<;>(repeat' (first | rfl | refine And.intro ?_ ?_))
       · first | exact .mk _ rfl | exact .mk [] rfl | (apply Later.mk;simp (disch:=first|exact za|fail) only [go_sem,seval,-List.reduceReplicate,zg,E,zc,ze];exact rfl) | (apply Later.mk;simp (disch:=first|exact za|fail) only [go_sem,seval,-List.reduceReplicate,zg,zw,List.append_assoc,E,zc,ze]<;>(try rfl))
     · have d1:decide ((n:Int) < (l.length:Int))=false:=decide_eq_false (by omega)
       refine .q ?_;refine .text ?_;simp (disch:=first|exact za|fail) only [go_sem,seval,-List.reduceReplicate,E,zc,ze,d1]
       refine .q ?_;refine .ifF (by simp (disch:=first|exact za|fail) only [go_sem,seval,-List.reduceReplicate]) ?_
       first | (refine ihJ _ _ ?_ ?_) | (refine .z rfl ?_;refine ihJ _ _ ?_ ?_) | (refine .z rfl ?_;refine .z rfl ?_;refine ihJ _ _ ?_ ?_) | (refine .z rfl ?_;refine .z rfl ?_;refine .z rfl ?_;refine ihJ _ _ ?_ ?_)
       · simp (disch:=first|exact za|fail) only [go_sem,seval,-List.reduceReplicate,E,zc,ze]<;>(repeat' (first | rfl | refine And.intro ?_ ?_))
       · first | exact .mk _ rfl | exact .mk [] rfl | (apply Later.mk;simp (disch:=first|exact za|fail) only [go_sem,seval,-List.reduceReplicate,zg,E,zc,ze];exact rfl) | (apply Later.mk;simp (disch:=first|exact za|fail) only [go_sem,seval,-List.reduceReplicate,zg,zw,List.append_assoc,E,zc,ze]<;>(try rfl))
   · have d1:decide ((i:Int) < (l.length:Int))=true:=decide_eq_true (by omega)
     have hli:i < l.length:=by omega
     refine .q ?_;refine .text ?_;simp (disch:=first|exact za|fail) only [go_sem,seval,-List.reduceReplicate,E,zc,ze,d1]
     refine .q ?_;refine .ifT (by simp (disch:=first|exact za|fail) only [go_sem,seval,-List.reduceReplicate]) ?_
     refine .q ?_;refine .text ?_;simp (disch:=first|exact za|fail) only [go_sem,seval,-List.reduceReplicate,E,mk5,ac5]
     refine .q ?_;refine .ownC (H.n+1+T.length) 3 (by simp (disch:=first|exact za|fail) only [go_sem,seval,-List.reduceReplicate];rfl) (by rfl) ?_;simp (disch:=first|exact za|fail) only [go_sem,seval,-List.reduceReplicate,List.set_cons_zero,List.set_cons_succ]
     refine .q ?_;refine .text ?_;simp (disch:=first|exact za|fail) only [go_sem,seval,-List.reduceReplicate]
     refine .q ?_;refine .loopE [0,3,4,5] (fun k=>[(6,.p (i64 k))]) (fun k=>[(H.n+1+T.length,.cells [.p (i64 0),.p (i64 0),.p (bo false),.sl (H.n+1+T.length+1) k 3 (pl pnt (tab (zbV (nth l i)) k)),.p (.sl true 32 [])]),(H.n+1+T.length+1,.tail k)]) (fun k=>True) (0) (4) (by omega) ?_ (by first | rfl | (simp (disch:=first|exact za|fail) only [go_sem,seval,-List.reduceReplicate,E,zcl]<;>rfl)) ?_ ?_ ?_
     · simp (disch:=first|exact za|fail) only [go_sem,seval,-List.reduceReplicate,E,zcl]<;>(repeat' (first | rfl | refine And.intro ?_ ?_))
     · exact trivial
     intro env K hQ;simp (disch:=first|exact za|fail) only [go_sem,seval,-List.reduceReplicate,E,zcl] at K
     rotate_left 1
     intro k env hk0 hk K hQ ihK;simp (disch:=first|exact za|fail) only [go_sem,seval,-List.reduceReplicate,E,zcl] at K
     rotate_left 1
     · refine .q ?_;refine .text ?_;simp (disch:=first|exact za|fail) only [go_sem,seval,-List.reduceReplicate,K,zc,ze]
       refine .q ?_;refine .ifF (by simp (disch:=first|exact za|fail) only [go_sem,seval,-List.reduceReplicate]) ?_
       have h1e : ∀ p,[epo p]=pl epo [p]:=fun _=>rfl
       have h1p : ∀ u,PV.agg [.sl false 2 [],.sl false 2 [],bo u]=pnt u:=fun _=>rfl
       have h1q : ∀ u,[pnt u]=pl pnt [u]:=fun _=>rfl
       have hee : ∀ a b:List Bool,pl epo [a]++pl epo [b]=pl epo [a,b]:=fun _ _=>rfl
       have hmt:mt l i=⟨BitVec.ofInt 64 i,[tab (zbV (nth l i)) 4]++(if nth l i &&& 128#8 != 0#8 then [ [nth l i &&& 64#8 != 0#8] ] else [])⟩:=rfl
       refine .q ?_;refine .text ?_;simp (disch:=first|exact za|fail) only [go_sem,seval,-List.reduceReplicate,E,K,h1e]
       refine .q ?_;refine .text ?_;simp (disch:=first|exact za|fail) only [go_sem,seval,-List.reduceReplicate,K,E]
       cases hb:nth l i &&& 128#8 != 0#8 with
       | true =>
        have hmt2:mtr ⟨BitVec.ofInt 64 i,[tab (zbV (nth l i)) 4,[nth l i &&& 64#8 != 0#8] ]⟩=mtr (mt l i):=by rw [hmt,hb];rfl
        refine .q ?_;refine .ifT (by simp (disch:=first|exact za|fail) only [go_sem,seval,-List.reduceReplicate,hb]) ?_
        refine .q ?_;refine .ownC (H.n+1+T.length+2) 33 (by simp (disch:=first|exact za|fail) only [go_sem,seval,-List.reduceReplicate,zo4,zjG];rfl) (by rfl) ?_;simp (disch:=first|exact za|fail) only [go_sem,seval,-List.reduceReplicate,List.set_cons_zero,List.set_cons_succ,zo4,zjG]
        refine .q ?_;refine .open [12,14] follows (by kernel_rfl) ?_;simp (disch:=first|exact za|fail) only [go_sem,seval,-List.reduceReplicate,E,K,h1p,h1q,h1e,hee]
        refine .q ?_;refine .text ?_;simp (disch:=first|exact za|fail) only [go_sem,seval,-List.reduceReplicate,K,E,hmt2]
        refine .q ?_;refine .text ?_;simp (disch:=first|exact za|fail) only [go_sem,seval,-List.reduceReplicate,K,E]
        first | (refine ihE _ _ ?_ trivial ?_) | (refine .z rfl ?_;refine ihE _ _ ?_ trivial ?_) | (refine .z rfl ?_;refine .z rfl ?_;refine ihE _ _ ?_ trivial ?_) | (refine .z rfl ?_;refine .z rfl ?_;refine .z rfl ?_;refine ihE _ _ ?_ trivial ?_)
        · simp (disch:=first|exact za|fail) only [go_sem,seval,-List.reduceReplicate,K,E,zc,ze,zN]<;>(repeat' (first | rfl | refine And.intro ?_ ?_))
        · first | exact .mk _ rfl | exact .mk [] rfl | (apply Later.mk;simp (disch:=first|exact za|fail) only [go_sem,seval,-List.reduceReplicate,zg,K,E,zc,ze,zN];exact rfl) | (apply Later.mk;simp (disch:=first|exact za|fail) only [go_sem,seval,-List.reduceReplicate,zg,zw,List.append_assoc,K,E,zc,ze,zN]<;>(try rfl))
       | false =>
        have hmt2:mtr ⟨BitVec.ofInt 64 i,[tab (zbV (nth l i)) 4]⟩=mtr (mt l i):=by rw [hmt,hb];rfl
        refine .q ?_;refine .ifF (by simp (disch:=first|exact za|fail) only [go_sem,seval,-List.reduceReplicate,hb]) ?_
        refine .skip ?_
        refine .q ?_;refine .text ?_;simp (disch:=first|exact za|fail) only [go_sem,seval,-List.reduceReplicate,K,E,hmt2]
        refine .q ?_;refine .text ?_;simp (disch:=first|exact za|fail) only [go_sem,seval,-List.reduceReplicate,K,E]
        first | (refine ihE _ _ ?_ trivial ?_) | (refine .z rfl ?_;refine ihE _ _ ?_ trivial ?_) | (refine .z rfl ?_;refine .z rfl ?_;refine ihE _ _ ?_ trivial ?_) | (refine .z rfl ?_;refine .z rfl ?_;refine .z rfl ?_;refine ihE _ _ ?_ trivial ?_)
        · simp (disch:=first|exact za|fail) only [go_sem,seval,-List.reduceReplicate,K,E,zc,ze,zN]<;>(repeat' (first | rfl | refine And.intro ?_ ?_))
        · first | exact .mk _ rfl | exact .mk [] rfl | (apply Later.mk;simp (disch:=first|exact za|fail) only [go_sem,seval,-List.reduceReplicate,zg,K,E,zc,ze,zN];exact rfl) | (apply Later.mk;simp (disch:=first|exact za|fail) only [go_sem,seval,-List.reduceReplicate,zg,zw,List.append_assoc,K,E,zc,ze,zN]<;>(try rfl))
     · have hst:PV.agg [.sl false 2 [],.sl false 2 [],bo (nth l i >>> k &&& 1#8 == 1#8)]=pnt (zbV (nth l i) k):=rfl
       refine .q ?_;refine .text ?_;simp (disch:=first|exact za|fail) only [go_sem,seval,-List.reduceReplicate,K,zc,ze]
       refine .q ?_;refine .ifT (by simp (disch:=first|exact za|fail) only [go_sem,seval,-List.reduceReplicate]) ?_
       refine .q ?_;refine .open [12,14] follows (by kernel_rfl) ?_;simp (disch:=first|exact za|fail) only [go_sem,seval,-List.reduceReplicate,K,E,hst]
       refine .q ?_;refine .text ?_;simp (disch:=first|exact za|fail) only [go_sem,seval,-List.reduceReplicate,K]
       first | (refine ihK _ _ ?_ trivial ?_) | (refine .z rfl ?_;refine ihK _ _ ?_ trivial ?_) | (refine .z rfl ?_;refine .z rfl ?_;refine ihK _ _ ?_ trivial ?_) | (refine .z rfl ?_;refine .z rfl ?_;refine .z rfl ?_;refine ihK _ _ ?_ trivial ?_)
       · simp (disch:=first|exact za|fail) only [go_sem,seval,-List.reduceReplicate,K,E,zc,ze,zN]<;>(repeat' (first | rfl | refine And.intro ?_ ?_))
       · first | rfl | (simp (disch:=first|exact za|fail) only [go_sem,seval,-List.reduceReplicate,K,E,zc,ze,zN]<;>(try rfl))
 · refine .q ?_;refine .text ?_;simp (disch:=first|exact za|fail) only [go_sem,seval,-List.reduceReplicate,J,zc,ze]
   refine .q ?_;refine .rt Tryz.func17 (by rw [Tryz.results17]) (hx:=by simp (disch:=first|exact za|fail) only [go_sem,seval,-List.reduceReplicate,J];rfl) (hR := ?_);simp (disch:=first|exact za|fail) only [go_sem,seval,-List.reduceReplicate,J]
   exact h
end walks
end Go.Proofs.YtgflpgcogkdpgaaGreatDoor

/-
  Audits: the laws' fixed examples (plain).
-/
namespace Go.Proofs.YtgflpgcogkdpgaaGreatDoor
open Go Go.AL

theorem zqi {P:Program} {G:Globs} {f:FuncId} {x y:AV} {H:Hp} {R:AV → Hp → Prop} (hxy : ∀ σ w v,RelV σ H w x v → RelV σ H w y v) (h:ACall P G f [y] H R):ACall P G f [x] H R :=
 fun σ w vs hr hvs=>h σ w vs hr ⟨hvs.1,fun i z v h1 h2=>by
  match i with
  | 0=>simp only [List.getElem?_cons_zero,Option.some.injEq] at h1;subst h1;exact hxy _ _ _ (hvs.2 0 x v rfl h2)
  | i+1=>simp at h1⟩
theorem zmi {P:Program} {G:Globs} {f:FuncId} {fl:Bool} {sz:Nat} {H:Hp} {R:AV → Hp → Prop} (h:ACall P G f [.p (.sl fl sz [])] H R):ACall P G f [.p (.s (.slice none 0 0))] H R :=
 zqi (fun _ _ _=>zBf) h
theorem zCc {w:World} {S:Nat → Nat → Prop} {sz sz':Nat} {v:Value} (h:RelP w S (.sl false sz []) v):RelP w S (.sl false sz' []) v:=by
 cases h with
 | emp _ _ a cap h hc=>exact .emp _ _ a cap h hc
 | sl _ _ _ g off cap f hfl hcap hsz hrd hc=>exact .emp _ _ _ cap (fun e=>by cases e) hcap.2
theorem zCd {w:World} {S:Nat → Nat → Prop} {a c:List PV} {n m sz:Nat} {v:Value} (h:RelP w S (.sl false 1 [.sl false n a,.sl false 0 [],.sl false m c]) v):RelP w S (.sl false 1 [.sl false n a,.sl false sz [],.sl false m c]) v:=by
 cases h with
 | sl _ _ _ g off cap f hfl hcap hsz hrd hc =>
  refine .sl _ _ _ g off cap f (fun e=>by cases e) hcap (fun x hx => ?_) hrd fun k y hk => ?_
  · simp only [List.mem_cons,List.not_mem_nil,or_false] at hx
    rcases hx with rfl | rfl | rfl<;>rfl
  · have e1:flat [PV.sl false n a,.sl false sz [],.sl false m c]=[.sl false n a,.sl false sz [],.sl false m c]:=rfl
    have e2:flat [PV.sl false n a,.sl false 0 [],.sl false m c]=[.sl false n a,.sl false 0 [],.sl false m c]:=rfl
    rw [e1] at hk
    rw [e2] at hc
    match k with
    | 0=>exact hc 0 y hk
    | 1=>simp at hk;subst hk;exact zCc (hc 1 _ rfl)
    | 2=>exact hc 2 y hk
    | k+3=>simp at hk
/-! ### Honest sessions of a sound plan -/
def gd (id:Int) (P:List Msg) (i:Nat):Bool:=small id && small i && fits (nth P i).kind i && holds (nth P i).kind (nth P i).text.length (nth P i).sums.length (nth P i).values.length && !((nth P i).values.any fun x => !zaw x) && decide ((zbo (nth P i).kind).getD 0 < 3)
theorem zCe {id:Int} {P:List Msg} : ∀ i,(∀ j,j≤i → gd id P j=true) → ∀ j,j≤i → ser id P j=0:=by
 suffices hs : ∀ i,(∀ j,j≤i → gd id P j=true) → (∀ j,j < i → ser id P j=0) → ser id P i=0 by
  intro i
  induction i with
  | zero =>
   intro h j hj
   obtain rfl:j=0:=(by omega)
   exact hs 0 h fun j hj=>by omega
  | succ i ih =>
   intro h j hj
   have hi:=ih fun j hj=>h j (by omega)
   rcases Nat.lt_or_ge j (i+1) with q | q
   · exact hi j (by omega)
   · obtain rfl:j=i+1:=(by omega)
     exact hs (i+1) h fun j hj=>hi j (by omega)
 intro i h hp
 have hg:=h i (Nat.le_refl _)
 unfold gd at hg
 simp only [Bool.and_eq_true] at hg
 obtain⟨⟨⟨⟨⟨g1,g2⟩,g3⟩,g4⟩,g5⟩,_⟩:=hg
 have hv:valid (mi id P i)=true:=by
  unfold valid
  simp only [Bool.and_eq_true]
  exact⟨⟨⟨⟨g1,g2⟩,g3⟩,g4⟩,g5⟩
 have hst:decide (3≤(yW id P 1 i (i % 2)).state)=false:=by
  cases i with
  | zero=>rfl
  | succ i =>
   have hgi:=h i (by omega)
   unfold gd at hgi
   simp only [Bool.and_eq_true,decide_eq_true_eq] at hgi
   have:(yW id P 1 (i+1) ((i+1) % 2)).state=(zbo (nth P i).kind).getD 0:=rfl
   rw [this]
   exact decide_eq_false (by have:=hgi.2;omega)
 have hse:((yW id P 1 i (i % 2)).state != 0 && !zbg (yW id P 1 i (i % 2)))=false:=by
  by_cases h0:i=0
  · subst h0
    rw [show (yW id P 1 0 (0 % 2)).state=0 from rfl];rfl
  · have hs:zbg (yW id P 1 i (i % 2))=true:=by
     have hstep:(yW id P 1 i (i % 2)).step=i:=zbS i
     have hlast:(yW id P 1 i (i % 2)).last=la id P (i % 2) i:=rfl
     unfold zbg
     rw [hstep,hlast]
     have hi2:i % 2=0 ∨ i % 2=1:=by omega
     rcases hi2 with q | q
     · obtain⟨l1,l2⟩:=zjF i hp 0 (by omega) (by omega)
       rw [q,l2,show ((la id P 0 i).kind != 0)=true by simpa using l1,show ((i:Int) % 2)=0 by omega];rfl
     · by_cases h1:i=1
       · subst h1;rfl
       · obtain⟨l1,l2⟩:=zjF i hp 1 (by omega) (by omega)
         rw [q,l2,show ((la id P 1 i).kind != 0)=true by simpa using l1,show ((i:Int) % 2)=1 by omega];rfl
    rw [hs];simp
 have hb:zcM (yW id P 1 i (i % 2)) (mi id P i)=false:=by
  unfold zcM
  rw [hst,hse,show (yW id P 1 i (i % 2)).step=i from zbS i,show (mi id P i).kind=(nth P i).kind from rfl,g3];rfl
 unfold ser Go.Proofs.YtgflpgcogkdpgaaGreatDoor.send
 rw [hb,zhf,hv]
 rfl
def xT:Tk:=⟨7,yi,[],[3],[ [⟨5#64,0#64⟩],[],[⟨6#64,0#64⟩] ],0#8⟩
def xP:List Msg:=[pmk 1 yi [] [],pmk 2 [] [] [],pmk 4 [] [] [⟨5#64,0#64⟩],pmk 3 [] [3] [],pmk 4 [] [] [⟨6#64,0#64⟩] ]
theorem zqj:zaM xT=xP:=by
 have h1:pm1 xT (rn xT)=pmk 2 [] [] []:=zmg
 have h2:zaM xT=[pmk 1 (tx0 xT) [] [],pm1 xT (rn xT)]++tab (pv xT) 3:=rfl
 rw [h2,h1]
 have e0:zg9 ⟨5#64,0#64⟩=⟨5#64,0#64⟩:=by decide
 have e1:zg9 ⟨6#64,0#64⟩=⟨6#64,0#64⟩:=by decide
 have p0:pv xT 0=pmk 4 [] [] [zg9 ⟨5#64,0#64⟩]:=rfl
 have p1:pv xT 1=pmk 3 [] [3] []:=rfl
 have p2:pv xT 2=pmk 4 [] [] [zg9 ⟨6#64,0#64⟩]:=rfl
 rw [e0] at p0
 rw [e1] at p2
 show _++[pv xT 0,pv xT 1,pv xT 2]=_
 rw [p0,p1,p2]
 rfl
theorem zD4:tid xT=7:=by decide
theorem zD5 : ∀ j,j≤4 → gd 7 xP j=true:=by decide
theorem zo5 : ∀ j,j < 5 → ser 7 xP j=0:=fun j hj=>zCe 4 zD5 j (by omega)
theorem zAo:PlOk xP:=by
 rw [←zqj]
 exact zqh fun s hs=>by
  rw [List.mem_singleton.1 hs]
  exact⟨by decide,by decide⟩
def xL:List Msg:=zhg 7 xP 5
theorem zCf:aud xL=0:=zw2 zAo ⟨by decide,by decide⟩ zo5
theorem ze7:xL.length=5:=zhh
theorem zhj {j:Nat} (hj:j < 5):(enc (nth xL j)).length=53+(nth xP j).text.length+8*(nth xP j).sums.length+16*(nth xP j).values.length:=by
 rw [xL,zal hj,zdg (zdC (zo5 j hj)).2]
 rfl
theorem zxa:zzB xL=usV 310 5 5:=by
 unfold zzB
 have hb:uB xL 5=310:=by
  simp only [uB]
  rw [zhj (by decide),zhj (by decide),zhj (by decide),zhj (by decide),zhj (by decide)]
  rfl
 have hw:uW xL 5=5:=by
  simp only [uW,xL,zal (show 0 < 5 by decide),zal (show 1 < 5 by decide),zal (show 2 < 5 by decide),zal (show 3 < 5 by decide),zal (show 4 < 5 by decide)]
  rfl
 rw [ze7,hb,hw];rfl
theorem zqk {m:Msg} {l:List Msg} (h0:0≤m.session∧m.session≤2147483647) (hf:fits m.kind 0=false):aud (m :: l)=290:=by
 have hs:(send (ze1 m.session 2147483647) m).2.2=290:=by
  have hb:zcM (ze1 m.session 2147483647) m=true:=by
   unfold zcM
   rw [show (ze1 m.session 2147483647).step=0 from rfl,hf];simp
  unfold Go.Proofs.YtgflpgcogkdpgaaGreatDoor.send
  rw [hb];rfl
 have he:er (zbw m.session) (m :: l) 0=290:=by
  unfold er zfJ
  show (if (send (ze1 m.session 2147483647) m).2.2≠0 then _ else _:(Nat → Ses) × Int).2=290
  rw [if_pos (by rw [hs];decide)]
  exact hs
 unfold aud
 rw [if_neg (by simp),show (nth (m :: l) 0)=m from rfl,if_neg (by omega),zeC (i:=0) rfl (by rw [he];decide) _ (by simp),he]
theorem zzQ:aud (xL.drop 1)=290:=by
 have:xL.drop 1=mi 7 xP 1 :: [mi 7 xP 2,mi 7 xP 3,mi 7 xP 4]:=rfl
 rw [this]
 exact zqk ⟨by show (0:Int)≤7;decide,by show (7:Int)≤_;decide⟩ rfl
theorem zxb:aud [pmk 2 [] [] [] ]=290:=zqk ⟨by decide,by decide⟩ rfl
theorem zzR:aud [{ pmk 0 [] [] [] with session := -1 }]=1:=rfl
theorem zzS:aud []=0:=rfl
end Go.Proofs.YtgflpgcogkdpgaaGreatDoor

/-
  Audits: the laws' fixed examples of meters,certificates and bounds (plain).
-/
namespace Go.Proofs.YtgflpgcogkdpgaaGreatDoor
open Go Go.AL

def zxc (ms:List Mt) (i:Nat):Bool:=(List.range (nth ms i).eps.length).any fun e=>(List.range (nth (nth ms i).eps e).length).any fun k => !nth (nth (nth ms i).eps e) k && (List.range i).any fun j=>decide (e < (nth ms j).eps.length) && (decide (k < (nth (nth ms j).eps e).length) && nth (nth (nth ms j).eps e) k)
theorem zhk {ms:List Mt} {i:Nat}:zxc ms i=true ↔ zdE ms i:=by
 unfold zxc zdE zl8 ze5
 simp only [List.any_eq_true,List.mem_range,Bool.and_eq_true,Bool.not_eq_true',decide_eq_true_eq]
 constructor
 · rintro ⟨e,he,k,hk,h1,j,hj,h2⟩;exact⟨e,k,he,hk,h1,j,hj,h2⟩
 · rintro ⟨e,k,he,hk,h1,j,hj,h2⟩;exact⟨e,he,k,hk,h1,j,hj,h2⟩
theorem SpR.yes {ms:List Mt} {i:Nat} (h1:i < ms.length) (h2:zxc ms i=true) (h3 : ∀ j,j < i → zxc ms j=false):SpR ms i true :=
 .inl ⟨rfl,h1,zhk.1 h2,fun j hj h=>by have:=zhk.2 h;rw [h3 j hj] at this;cases this⟩
theorem SpR.no {ms:List Mt} (h3 : ∀ j,j < ms.length → zxc ms j=false):SpR ms 0 false :=
 .inr ⟨rfl,rfl,fun j hj h=>by have:=zhk.2 h;rw [h3 j hj] at this;cases this⟩
theorem zEN:SpR (mts [1#8,0#8]) 1 true := .yes (by decide) (by decide) (by decide)
theorem zEO:SpR (mts [0#8,1#8,3#8,7#8]) 0 false := .no (by decide)
theorem zEP:SpR (mts [2#8,3#8,3#8,1#8]) 3 true := .yes (by decide) (by decide) (by decide)
theorem ze8 {l:By}:Sm (mts l):=by
 have h : ∀ i,i < (mts l).length → nth (mts l) i=mt l i:=fun i hi=>by
  unfold mts at hi ⊢
  rw [yy (by simpa [yL] using hi)]
 refine⟨by unfold mts;rw [yL];omega,fun i hi => ?_,fun i hi e he => ?_⟩
 · rw [h i hi];unfold mt;split<;>simp
 · rw [h i hi] at he ⊢
   unfold mt at he ⊢
   dsimp only at he ⊢
   match e with
   | 0=>rw [show nth ([tab (zbV (nth l i)) 4]++(if nth l i &&& 128#8 != 0#8 then [ [nth l i &&& 64#8 != 0#8] ] else [])) 0=tab (zbV (nth l i)) 4 from rfl,yL];omega
   | e+1 =>
    by_cases c:(nth l i &&& 128#8 != 0#8)=true
    · rw [if_pos c] at he ⊢
      have:e=0:=by simp at he;omega
      subst this
      rw [show nth ([tab (zbV (nth l i)) 4]++[ [nth l i &&& 64#8 != 0#8] ]) (0+1)=[nth l i &&& 64#8 != 0#8] from rfl];simp
    · rw [if_neg c] at he;simp at he
/-! ### Certificates -/
def crx (q:By) (g:Int) (s:List Int) (mid rest:List PV) (hm:mid.length=4) (hl:rest.length=10):Crt:=⟨q,g,List.replicate 32 0#8,mid,s,rest,rfl,hm,hl⟩
section cr
variable {mid rest:List PV} {hm:mid.length=4} {hl:rest.length=10}
theorem zo6 {q:By} {g:Int} {s:List Int} (h1:okI g) (h2:q.length≤100) (h3:s.length≤100):CrtOk (crx q g s mid rest hm hl):=⟨h1,Nat.le_trans h2 (by decide),Nat.le_trans h3 (by decide)⟩
theorem zCg:smB []=true:=ziw fun a b ha=>absurd ha (by simp)
theorem zCh:smB [crx yi 0 [3] mid rest hm hl,crx yi 0 [3] mid rest hm hl,crx yi 1 [4] mid rest hm hl]=true:=ziw fun a b ha hb e=>by
 have k0:nth [crx yi 0 [3] mid rest hm hl,crx yi 0 [3] mid rest hm hl,crx yi 1 [4] mid rest hm hl] 0=crx yi 0 [3] mid rest hm hl:=rfl
 have k1:nth [crx yi 0 [3] mid rest hm hl,crx yi 0 [3] mid rest hm hl,crx yi 1 [4] mid rest hm hl] 1=crx yi 0 [3] mid rest hm hl:=rfl
 have k2:nth [crx yi 0 [3] mid rest hm hl,crx yi 0 [3] mid rest hm hl,crx yi 1 [4] mid rest hm hl] 2=crx yi 1 [4] mid rest hm hl:=rfl
 have c : ∀ x:Nat,x < 3 → x=0 ∨ x=1 ∨ x=2:=by omega
 have hne:(crx yi 0 [3] mid rest hm hl).key≠(crx yi 1 [4] mid rest hm hl).key:=fun e=>by
  have:=congrArg (fun q:Qn=>q.2.1) e
  simp [Crt.key,crx] at this
 rcases c a ha with rfl | rfl | rfl<;>rcases c b hb with rfl | rfl | rfl<;>simp only [k0,k1,k2] at e ⊢
 · exact absurd e hne
 · exact absurd e hne
 · exact absurd e.symm hne
 · exact absurd e.symm hne
theorem zCi:smB [crx yi 0 [3] mid rest hm hl,crx yi 1 [4] mid rest hm hl,crx yi 0 [4] mid rest hm hl]=false:=zma fun h=>by
 have:=h 0 2 (by simp) (by simp) rfl
 have e0:(nth [crx yi 0 [3] mid rest hm hl,crx yi 1 [4] mid rest hm hl,crx yi 0 [4] mid rest hm hl] 0).sums=[3]:=rfl
 have e2:(nth [crx yi 0 [3] mid rest hm hl,crx yi 1 [4] mid rest hm hl,crx yi 0 [4] mid rest hm hl] 2).sums=[4]:=rfl
 rw [e0,e2] at this
 simp at this
end cr
/-! ### Bounds -/
def zsK (n:Nat):Circ:=⟨n,[ [⟨0,0,0#64,1#64,0#64,0#64⟩] ],1⟩
theorem zjH {n:Nat} (h:n≤1000):Cn (zsK n) n:=⟨rfl,h,by show 1≤1000;decide,fun k hk=>by
 have:k=0:=by simp [zsK] at hk;omega
 subst this;show 1≤1000;decide⟩
theorem zxd:zcI (zsK 1) 1 0=2:=by decide
theorem zD6:zd4 310 5 5 2=true:=by decide
theorem zD7:zd4 0 1000 0 2=false:=by decide
theorem zD8:zd4 (-1) 0 0 2=false:=by decide
end Go.Proofs.YtgflpgcogkdpgaaGreatDoor

/-
  Audits: the fixed examples of the laws.
-/
namespace Go.Proofs.YtgflpgcogkdpgaaGreatDoor
open Go Go.AL

def tk0:PV := .agg [i64 7,str (bytesOf yi),.sl false 1 [],.sl false 1 (pl i64 [3]),.sl false 1 [.sl false 2 (pl ext [⟨5#64,0#64⟩]),.sl false 0 [],.sl false 2 (pl ext [⟨6#64,0#64⟩])],b8 0]
theorem zD9 {σ:Gh} {H:Hp} {w:World} {v:Value} (h:RelV σ H w (.p tk0) v):RelV σ H w (.p (tkv xT)) v:=by
 cases h with
 | p h =>
  cases h with
  | agg xs vs hl h1 h =>
   refine .p (.agg _ vs hl h1 fun i x v hx hv => ?_)
   match i with
   | 0=>exact h 0 x v hx hv
   | 1=>exact h 1 x v hx hv
   | 2=>exact h 2 x v hx hv
   | 3=>exact h 3 x v hx hv
   | 4 =>
    have:=h 4 _ v rfl hv
    obtain rfl:=Option.some.inj hx
    exact zCd this
   | 5=>exact h 5 x v hx hv
   | i+6=>simp at hx
/-! ### Certificates as they are written down -/
def cTl (S:PV):List PV:=pl b8 (List.replicate 32 0#8)++[i64 0,i64 0,i64 0,i64 0,S,PV.sl true 1 [],PV.sl true 6 [],PV.sl true 6 [],PV.sl true 1 [],zt 0#64,zt 0#64,PV.sl true 2 [],PV.sl true 2 [],PV.sl true 1 [],PV.sl true 32 [] ]
def cP (q:By) (k:Int) (S:PV):PV := .agg (str (bytesOf q) :: i64 k :: cTl S)
def cC (q:By) (k:Int) (S:PV):List AV:=(str (bytesOf q) :: i64 k :: cTl S).map .p
def zEQ:List PV:=[i64 0,i64 0,i64 0,i64 0]
def zEa:List PV:=[PV.sl false 1 [],PV.sl false 6 [],PV.sl false 6 [],PV.sl false 1 [],zt 0#64,zt 0#64,PV.sl false 2 [],PV.sl false 2 [],PV.sl false 1 [],PV.sl false 32 [] ]
def cX (q:By) (k:Int) (s:List Int):Crt:=crx q k s zEQ zEa rfl rfl
section cp
variable {q q':By} {k k':Int} {S S':PV} {s:List Int}
theorem zql:(cTl S).length=47:=by simp [cTl,pl]
theorem zCj:(cC q k S).length=49:=by simp [cC,zql]
theorem zEb:(cP q k S).cells.length=49:=by simp [cP,PV.cells,zql]
theorem zEc:zh (.p (cP q k S))=some (cC q k S):=rfl
theorem zEd:zn (cC q k S) = .p (cP q k S):=by unfold zn cC;rw [zdJ];rfl
theorem zER:AV.p (str ByteArray.empty) :: AV.p (i64 0) :: List.map AV.p (pl b8 (List.replicate 32 0#8)++[i64 0,i64 0,i64 0,i64 0,PV.sl true 1 [],PV.sl true 1 [],PV.sl true 6 [],PV.sl true 6 [],PV.sl true 1 [],zt 0#64,zt 0#64,PV.sl true 2 [],PV.sl true 2 [],PV.sl true 1 [],PV.sl true 32 [] ])=cC [] 0 (.sl true 1 []):=rfl
theorem zEe:(cC q k S).set 0 (.p (str (bytesOf q')))=cC q' k S:=rfl
theorem zEf:(cC q k S).set 1 (.p (i64 k'))=cC q k' S:=rfl
theorem zCk:(cC q k S).set 38 (.p S')=cC q k S':=rfl
theorem zCl {b:Bool}:(cP q k (.sl b 1 (pl i64 s))).weak=crt (cX q k s):=by
 show PV.agg (List.map PV.weak1 (_ :: _ :: (pl b8 (List.replicate 32 0#8)++_)))=_
 simp only [List.map_cons,List.map_append,List.map_nil]
 rw [zc1 fun _=>rfl]
 rfl
end cp
attribute [go_sem] zEb zEc zCj zEd zER zEe zEf zCk
theorem zES:ser 7 xP 5≠0:=by
 have hb:zcM (yW 7 xP 1 5 (5 % 2)) (mi 7 xP 5)=true:=by
  unfold zcM
  rw [show (yW 7 xP 1 5 (5 % 2)).step=5 from zbS 5,show fits (mi 7 xP 5).kind 5=false from rfl];simp
 unfold ser Go.Proofs.YtgflpgcogkdpgaaGreatDoor.send
 rw [hb];exact (by decide:(290:Int)≠0)
def mNeg:PV:=mV 0 (-1) 0 [] (List.replicate 32 0#8) (.sl true 1 []) (.sl true 2 [])
theorem zzT:mNeg.cells.length=38:=by simp [mNeg,mV,PV.cells,pl]
theorem zCm:mNeg.weak=msg { pmk 0 [] [] [] with session := -1 }:=zzn (su:=[]) (va:=[]) (by simp) rfl rfl
theorem zCn:(pmk 2 [] [] []).Ok:=⟨⟨by decide,by decide⟩,⟨by decide,by decide⟩,⟨by decide,by decide⟩,by decide,by decide,by decide⟩
theorem nth_drop {α:Type} [Inhabited α] {l:List α} {n i:Nat}:nth (l.drop n) i=nth l (n+i):=by simp [nth]
theorem ok3 {a b c:Crt} (ha:CrtOk a) (hb:CrtOk b) (hc:CrtOk c) : ∀ i,i < [a,b,c].length → CrtOk (nth [a,b,c] i):=fun i hi=>by
 match i with
 | 0=>exact ha
 | 1=>exact hb
 | 2=>exact hc
 | i+3=>exact absurd hi (by simp)
section walks
variable {G:Globs} {r1 r2:Nat} {m1:List (Int × Rule)} {m2:List (Int × Int)}
theorem zcm {ms:List Mt} (hs:Sm ms) {i:Nat} {b:Bool} (hu:SpR ms i b) (H:Hp) (R:AV → Hp → Prop) (h:R (.tup [.p (i64 (i:Nat)),.p (bo b)]) H):ACall Tryz.prog G 18 [.p (.sl false 34 (pl mtr ms))] H R :=
 zoX ms hs H R fun i' b' h'=>by
  obtain⟨rfl,rfl⟩:=SpR.uniq h' hu
  exact h
set_option maxHeartbeats 4000000 in
set_option maxRecDepth 20000 in
theorem zdn (g:GR G r1 r2 m1 m2) (H:Hp) (R:AV → Hp → Prop) (h:R (.p (bo true)) H):ACall Tryz.prog G 9 [] H R:=by
 refine ACall.of_run (raw:=[]) Tryz.func9 rfl Tryz.ntmps9 (by simp) fun hbel => ?_
 have cn:zX (Value.slice none 0 0) = .p (.sl true 0 []):=rfl
 have hM : ∀ R:AV → Hp → Prop,R (.p (.sl false 38 (pl msg xL))) H → ACall Tryz.prog G 10 [.p tk0] H R:=fun R h=>zqi (fun σ w v=>zD9) (zhT xT ⟨by decide,by decide⟩ (by decide) (by decide) (by decide) (by decide) (fun i hi=>by
  match i with
  | 0=>decide
  | 1=>decide
  | 2=>decide
  | i+3=>exact absurd hi (by simp [xT])) (fun s hs=>by
   rw [List.mem_singleton.1 hs];exact⟨by decide,by decide⟩) H R fun n _ h1 h2=>by
  rw [zD4,zqj] at h1 h2 ⊢
  have hn:n=5:=by
   rcases h2 with e | e
   · exact e
   · rcases Nat.lt_or_ge n 5 with q | q
     · exact absurd (zo5 n q) e
     · rcases Nat.lt_or_ge 5 n with q2 | q2
       · exact absurd (h1 5 q2) zES
       · exact Nat.le_antisymm q2 q
  rw [hn];exact h)
 refine .q ?_;refine .text ?_;simp (disch:=first|exact za|fail) only [go_sem,seval,-List.reduceReplicate]
 refine .q ?_;refine .text ?_;simp (disch:=first|exact za|fail) only [go_sem,seval,-List.reduceReplicate,cn,zBe]
 refine CallK.of (fun R h=>hM R h) ?_;simp (disch:=first|exact za|fail) only [go_sem,seval,-List.reduceReplicate,cn]
 have d5:(((xL.length:Nat):Int) != 5)=false:=by rw [ze7];rfl
 have okL : ∀ i,i < xL.length → (nth xL i).Ok:=fun i hi=>by
  rw [xL,zal (by rwa [ze7] at hi)]
  exact zw1 zAo ⟨by decide,by decide⟩ (by rw [ze7] at hi;omega)
 have lnL:xL.length≤1000:=by rw [ze7];decide
 refine .q ?_;refine .text ?_;simp (disch:=first|exact za|fail) only [go_sem,seval,-List.reduceReplicate]
 refine .q ?_;refine .ifF (by simp (disch:=first|exact za|fail) only [go_sem,seval,-List.reduceReplicate,d5]) ?_
 refine .skip ?_
 refine .q ?_;refine .text ?_;simp (disch:=first|exact za|fail) only [go_sem,seval,-List.reduceReplicate]
 refine CallK.of (fun R h=>zl6 g xL lnL okL _ R h) ?_;simp (disch:=first|exact za|fail) only [go_sem,seval,-List.reduceReplicate,zxa]
 refine .q ?_;refine .text ?_;simp (disch:=first|exact za|fail) only [go_sem,seval,-List.reduceReplicate]
 refine CallK.of (fun R h=>zbi [1#8,0#8] (by decide) _ R h) ?_;simp (disch:=first|exact za|fail) only [go_sem,seval,-List.reduceReplicate]
 refine CallK.of (fun R h=>zcm ze8 zEN _ R h) ?_;simp (disch:=first|exact za|fail) only [go_sem,seval,-List.reduceReplicate]
 refine .q ?_;refine .text ?_;simp (disch:=first|exact za|fail) only [go_sem,seval,-List.reduceReplicate]
 refine CallK.of (fun R h=>zbi [0#8,1#8,3#8,7#8] (by decide) _ R h) ?_;simp (disch:=first|exact za|fail) only [go_sem,seval,-List.reduceReplicate]
 refine CallK.of (fun R h=>zcm ze8 zEO _ R h) ?_;simp (disch:=first|exact za|fail) only [go_sem,seval,-List.reduceReplicate]
 refine .q ?_;refine .text ?_;simp (disch:=first|exact za|fail) only [go_sem,seval,-List.reduceReplicate]
 refine CallK.of (fun R h=>zbi [2#8,3#8,3#8,1#8] (by decide) _ R h) ?_;simp (disch:=first|exact za|fail) only [go_sem,seval,-List.reduceReplicate]
 refine CallK.of (fun R h=>zcm ze8 zEP _ R h) ?_;simp (disch:=first|exact za|fail) only [go_sem,seval,-List.reduceReplicate]
 refine .q ?_;refine .text ?_;simp (disch:=first|exact za|fail) only [go_sem,seval,-List.reduceReplicate]
 refine .q ?_;refine .text ?_;simp (disch:=first|exact za|fail) only [go_sem,seval,-List.reduceReplicate]
 refine .q ?_;refine .text ?_;simp (disch:=first|exact za|fail) only [go_sem,seval,-List.reduceReplicate]
 refine .q ?_;refine .text ?_;simp (disch:=first|exact za|fail) only [go_sem,seval,-List.reduceReplicate]
 simp only [List.append_eq,List.cons_append,List.nil_append]
 refine .q ?_;refine .text ?_;simp (disch:=first|exact za|fail) only [go_sem,seval,-List.reduceReplicate]
 refine CallK.of (fun R h=>zaI g xL lnL okL _ R h) ?_;simp (disch:=first|exact za|fail) only [go_sem,seval,-List.reduceReplicate,zCf]
 refine CallK.of (fun R h=>zmi (fl:=false) (sz:=38) (zaI g [] (by decide) (fun i hi=>absurd hi (by simp)) _ R h)) ?_;simp (disch:=first|exact za|fail) only [go_sem,seval,-List.reduceReplicate,zzS]
 have hN:zn (mZ.set 1 (.p (i64 (-1)))) = .p mNeg:=zjz
 refine CallK.of (fun R h=>zaI g [pmk 2 [] [] [] ] (by simp) (fun i hi=>by
  obtain rfl:i=0:=(by simp at hi;exact hi)
  exact zCn) _ R h) ?_;simp (disch:=first|exact za|fail) only [go_sem,seval,-List.reduceReplicate,zxb,hN,zzT,zCm]
 refine CallK.of (fun R h=>zaI g [{ pmk 0 [] [] [] with session := -1 }] (by simp) (fun i hi=>by
  obtain rfl:i=0:=(by simp at hi;exact hi)
  exact⟨⟨by decide,by decide⟩,⟨by decide,by decide⟩,⟨by decide,by decide⟩,by decide,by decide,by decide⟩) _ R h) ?_;simp (disch:=first|exact za|fail) only [go_sem,seval,-List.reduceReplicate,zzR,ze7]
 have okT : ∀ i,i < (xL.drop 1).length → (nth (xL.drop 1) i).Ok:=fun i hi=>by
  rw [nth_drop]
  exact okL _ (by rw [List.length_drop] at hi;omega)
 have hE:zo Tryz.prog .eql 29 (.p (usV 310 5 5)) (.p (usV 310 5 5))=some (.p (bo true)):=(zBq ⟨by decide,by decide⟩ ⟨by decide,by decide⟩ ⟨by decide,by decide⟩).1
 have k1:(i64 3).weak=i64 3:=rfl
 have kA:(cP [99#8,111#8,117#8,110#8,116#8] 0 (PV.sl true 1 [i64 3])).weak=crt (cX yi 0 [3]):=zCl (s:=[3])
 have kB:(cP [99#8,111#8,117#8,110#8,116#8] 0 (PV.sl true 1 [i64 4])).weak=crt (cX yi 0 [4]):=zCl (s:=[4])
 have kC:(cP [99#8,111#8,117#8,110#8,116#8] 1 (PV.sl true 1 [i64 4])).weak=crt (cX yi 1 [4]):=zCl (s:=[4])
 have s1:smB [cX yi 0 [3],cX yi 0 [3],cX yi 1 [4] ]=true:=zCh
 have s2:smB [cX yi 0 [3],cX yi 1 [4],cX yi 0 [4] ]=false:=zCi
 have o1:CrtOk (cX yi 0 [3]):=zo6 ⟨by decide,by decide⟩ (by decide) (by decide)
 have o2:CrtOk (cX yi 0 [4]):=zo6 ⟨by decide,by decide⟩ (by decide) (by decide)
 have o3:CrtOk (cX yi 1 [4]):=zo6 ⟨by decide,by decide⟩ (by decide) (by decide)
 refine CallK.of (fun R h=>zaI g (xL.drop 1) (by rw [List.length_drop];omega) okT _ R h) ?_;simp (disch:=first|exact za|fail) only [go_sem,seval,-List.reduceReplicate,zzQ,hE,kA,kB,kC]
 refine CallK.of (fun R h=>zaT [cX yi 0 [3],cX yi 0 [3],cX yi 1 [4] ] (by simp) (ok3 o1 o1 o3) _ R h) ?_;simp (disch:=first|exact za|fail) only [go_sem,seval,-List.reduceReplicate,s1,hE,kA,kB,kC]
 refine CallK.of (fun R h=>zaT [cX yi 0 [3],cX yi 1 [4],cX yi 0 [4] ] (by simp) (ok3 o1 o3 o2) _ R h) ?_;simp (disch:=first|exact za|fail) only [go_sem,seval,-List.reduceReplicate,s2,hE,kA,kB,kC]
 refine CallK.of (fun R h=>zmi (fl:=false) (sz:=49) (zaT [] (by decide) (fun i hi=>absurd hi (by simp)) _ R h)) ?_;simp (disch:=first|exact za|fail) only [go_sem,seval,-List.reduceReplicate,zCg]
 refine CallK.of (fun R h=>yF 310 5 5 (zsK 1) 1 (zjH (by decide)) 0 ⟨by decide,by decide⟩ _ R h) ?_;simp (disch:=first|exact za|fail) only [go_sem,seval,-List.reduceReplicate,zxd,zD6]
 refine CallK.of (fun R h=>yF 0 1000 0 (zsK 1) 1 (zjH (by decide)) 0 ⟨by decide,by decide⟩ _ R h) ?_;simp (disch:=first|exact za|fail) only [go_sem,seval,-List.reduceReplicate,zxd,zD7]
 refine CallK.of (fun R h=>yF (-1) 0 0 (zsK 1) 1 (zjH (by decide)) 0 ⟨by decide,by decide⟩ _ R h) ?_;simp (disch:=first|exact za|fail) only [go_sem,seval,-List.reduceReplicate,zxd,zD8]
 refine .q ?_;refine .rt Tryz.func9 (by rw [Tryz.results9]) (hR := ?_);simp (disch:=first|exact za|fail) only [go_sem,seval,-List.reduceReplicate]
 exact h
end walks
end Go.Proofs.YtgflpgcogkdpgaaGreatDoor

/-
  Audits: the law of states and certificates,walked.
-/
namespace Go.Proofs.YtgflpgcogkdpgaaGreatDoor
open Go Go.AL

theorem SpR.ex (ms:List Mt) : ∃ i b,SpR ms i b:=by
 by_cases h : ∃ i,i < ms.length∧zdE ms i
 · suffices hs : ∀ n,(∀ j,j < n → ¬zdE ms j) ∨ ∃ i,i < n∧zdE ms i ∧ ∀ j,j < i → ¬zdE ms j by
    obtain⟨i,hi,hv⟩:=h
    rcases hs ms.length with q | ⟨j,h1,h2,h3⟩
    · exact absurd hv (q i hi)
    · exact⟨j,true,.inl ⟨rfl,h1,h2,h3⟩⟩
   intro n
   induction n with
   | zero=>exact .inl fun j hj=>absurd hj (by omega)
   | succ n ih =>
    rcases ih with q | ⟨i,h1,h2,h3⟩
    · by_cases hn:zdE ms n
      · exact .inr ⟨n,by omega,hn,q⟩
      · refine .inl fun j hj => ?_
        rcases Nat.lt_or_ge j n with c | c
        · exact q j c
        · obtain rfl:j=n:=by omega
          exact hn
    · exact .inr ⟨i,by omega,h2,h3⟩
 · exact⟨0,false,.inr ⟨rfl,rfl,fun j hj hv=>h ⟨j,hj,hv⟩⟩⟩
theorem zjI {c:Crt}:(zdF c)[38]? = some (.sl false 1 (pl i64 c.sums)):=by
 have:=zwX (c:=c)
 unfold crc at this
 rw [List.getElem?_map] at this
 cases h:(zdF c)[38]? with
 | none=>rw [h] at this;cases this
 | some x=>rw [h] at this;simp at this;rw [this]
section walks
variable {G:Globs} {r1 r2:Nat} {m1:List (Int × Rule)} {m2:List (Int × Int)}
end walks
end Go.Proofs.YtgflpgcogkdpgaaGreatDoor

/-
  Audits: what the laws' arguments read as.
-/
namespace Go.Proofs.YtgflpgcogkdpgaaGreatDoor
open Go Go.AL Go.ChangeShapes Go.WideShapes Go.ChangeAt Go.RowKit

set_option maxRecDepth 100000
theorem zqm {α:Type} [Inhabited α] {l:List α} {i:Nat} (h:i < l.length):nth l i∈l:=by
 have:nth l i=l[i]:=by simp [nth,h]
 rw [this];exact List.getElem_mem h
section read
variable {k:Nat} {y:List PV}
theorem zCo (h:Reads Tryz.prog (k+3) 69 y) : ∃ c:Crt,CrtOk c∧y=zdF c:=by
 obtain⟨y1,z1,rfl,-,r1,y2,z2,rfl,-,r2,y3,z3,rfl,-,r3,y4,z4,rfl,n4,r4,y5,z5,rfl,-,r5,y6,z6,rfl,n6,r6,y7,z7,rfl,n7,r7,y8,z8,rfl,n8,r8,y9,z9,rfl,n9,r9,rfl⟩:=Reads.struct Tryz.underlying69 h
 obtain⟨s,hs,rfl⟩:=Reads.str Tryz.underlying9 r1
 obtain⟨q,rfl,hq⟩:=of_string s
 obtain⟨lg,a1,a2,rfl⟩:=Reads.i64 Tryz.underlying3 r2
 obtain⟨d,hd,rfl⟩:=Reads.arr b8 Tryz.underlying33 r3 fun y hy=>Reads.u8 Tryz.underlying5 hy
 obtain⟨su,e1,rfl,e2⟩:=zzo r5
 have c4:y4.length=4:=n4
 have c6:y6.length=3:=n6
 have c7:y7.length=1:=n7
 have c8:y8.length=2:=n8
 have c9:y9.length=4:=n9
 exact⟨⟨q,lg,d,y4,su,y6++(y7++(y8++y9)),hd,c4,by simp [c6,c7,c8,c9]⟩,⟨⟨a1,a2⟩,by unfold maxLen;show q.length≤_;omega,e1⟩,by simp [zdF]⟩
theorem zzU (h:Reads Tryz.prog (k+4) 49 y) : ∃ l:List Crt,l.length≤9223372036854775807∧y=[.sl false 49 (pl crt l)] ∧ ∀ c∈l,CrtOk c :=
 Reads.sl crt CrtOk Tryz.underlying49 cells69 zt6 h fun y hy=>by
  obtain⟨m,h1,rfl⟩:=zCo hy
  exact⟨m,rfl,h1⟩
structure Tk.In (x:Tk):Prop where
 id:okI x.id
 text:x.text.length≤9223372036854775807
 root:x.root.length≤9223372036854775807
 sums:x.sums.length≤9223372036854775807
 vals:x.vals.length≤9223372036854775807
 val : ∀ i,i < x.vals.length → (nth x.vals i).length≤9223372036854775807
 wide : ∀ s∈x.sums,okI s
theorem zzV (h:Reads Tryz.prog (k+2) 39 y) : ∃ g:Gate,zb0 true y=zaJ g∧True:=by
 obtain⟨y1,z1,rfl,-,r1,y2,z2,rfl,-,r2,y3,z3,rfl,-,r3,y4,z4,rfl,-,r4,y5,z5,rfl,-,r5,y6,z6,rfl,-,r6,rfl⟩:=Reads.struct Tryz.underlying39 h
 obtain⟨l,-,-,rfl⟩:=Reads.i64 Tryz.underlying3 r1
 obtain⟨r,-,-,rfl⟩:=Reads.i64 Tryz.underlying3 r2
 obtain⟨c,rfl⟩:=Reads.u64 Tryz.underlying37 r3
 obtain⟨a,rfl⟩:=Reads.u64 Tryz.underlying37 r4
 obtain⟨b,rfl⟩:=Reads.u64 Tryz.underlying37 r5
 obtain⟨d,rfl⟩:=Reads.u64 Tryz.underlying37 r6
 exact⟨⟨l,r,c,a,b,d⟩,rfl,trivial⟩
theorem zsL (h:Reads Tryz.prog (k+4) 41 y) : ∃ ls:List (List Gate),ls.length≤9223372036854775807∧y=[.sl false 1 (pl (sle 6 zaJ) ls)] ∧ ∀ l∈ls,l.length≤9223372036854775807 :=
 Reads.sl (sle 6 zaJ) (fun l=>l.length≤9223372036854775807) Tryz.underlying41 cells40 zt3 h fun y hy=>by
  obtain⟨l,h1,rfl,-⟩:=Reads.sl zaJ (fun _=>True) Tryz.underlying40 cells39 zt2 hy fun y hy=>zzV hy
  exact⟨l,rfl,h1⟩
theorem zzW (h:Reads Tryz.prog (k+5) 43 y) : ∃ c:Circ,c.layers.length≤9223372036854775807∧(∀ l∈c.layers,l.length≤9223372036854775807)∧y=[i64 c.inputs,.sl false 1 (pl (sle 6 zaJ) c.layers),i64 c.sums]:=by
 obtain⟨y1,z1,rfl,-,r1,y2,z2,rfl,-,r2,y3,z3,rfl,-,r3,rfl⟩:=Reads.struct Tryz.underlying43 h
 obtain⟨n,-,-,rfl⟩:=Reads.i64 Tryz.underlying3 r1
 obtain⟨ls,h1,rfl,h2⟩:=zsL r2
 obtain⟨s,-,-,rfl⟩:=Reads.i64 Tryz.underlying3 r3
 exact⟨⟨n,ls,s⟩,h1,h2,rfl⟩
end read
section rel
variable {W:World} {v:Value} {H:Type} {enc:TypeId × Value → H} {d:DataW H} {ps:List MemPlace} {base:Nat}
theorem zxe (hval:Value.okWide Tryz.prog W .any base 49 v) (h:DataW.Trod enc Tryz.prog W 0 (fun _=>true) true 49 v d ps) : ∃ l:List Crt,l.length≤9223372036854775807∧(∀ i,i < l.length → CrtOk (nth l i))∧RelV σ0 H0 W (.p (.sl false 49 (pl crt l))) v:=by
 obtain⟨xs,hx,e⟩:=zem 20 (by kernel_rfl) hval h
 obtain⟨l,h1,rfl,h2⟩:=zzU (k:=16) hx
 rw [zt5] at e
 exact⟨l,h1,fun i hi=>h2 _ (zqm hi),e⟩
theorem zxf (hval:Value.okWide Tryz.prog W .any base 43 v) (h:DataW.Trod enc Tryz.prog W 0 (fun _=>true) true 43 v d ps) : ∃ c:Circ,c.layers.length≤9223372036854775807∧(∀ i,i < c.layers.length → (nth c.layers i).length≤9223372036854775807)∧RelV σ0 H0 W (.p (zbh c)) v:=by
 obtain⟨xs,hx,e⟩:=zem 12 (by kernel_rfl) hval h
 obtain⟨c,h1,h2,rfl⟩:=zzW (k:=7) hx
 rw [zt4] at e
 exact⟨c,h1,fun i hi=>h2 _ (zqm hi),e⟩
end rel
end Go.Proofs.YtgflpgcogkdpgaaGreatDoor

/-
  Audits: the law of points,walked.
-/
namespace Go.Proofs.YtgflpgcogkdpgaaGreatDoor
open Go Go.AL

/-! ### States whose points are only ever marked -/
def gb (l:By):Nat → BitVec 8
 | 0=>0#8
 | i+1=>gb l i ||| (nth l i &&& 15#8)
def grw (l:By) (n:Nat):By:=tab (fun j=>gb l (j+1)) n
theorem yb {l:By} {n:Nat}:(grw l n).length=n:=yL
theorem zeI {l:By} {n i:Nat} (h:i < n):nth (grw l n) i=gb l (i+1):=yy h
theorem zeJ {b:BitVec 8} {k:Nat} (h:k < 4):zbV b k=b.getLsbD k:=by
 have : ∀ (k:Fin 4) (b:BitVec 8),zbV b k=b.getLsbD k:=by decide +kernel
 exact this ⟨k,h⟩ b
theorem zfS {l:By} {k i:Nat} : ∀ j,i≤j → (gb l i).getLsbD k=true → (gb l j).getLsbD k=true:=by
 intro j
 induction j with
 | zero=>intro h e;obtain rfl:i=0:=(by omega);exact e
 | succ j ih =>
  intro h e
  rcases Nat.lt_or_ge j i with q | q
  · obtain rfl:i=j+1:=(by omega)
    exact e
  · show (gb l j ||| (nth l j &&& 15#8)).getLsbD k=true
    rw [BitVec.getLsbD_or,ih q e];rfl
theorem zjJ {l:By} : ∀ i k,4≤k → (gb l i).getLsbD k=false
 | 0,k,_=>by simp [gb]
 | i+1,k,h=>by
  show (gb l i ||| (nth l i &&& 15#8)).getLsbD k=false
  rw [BitVec.getLsbD_or,zjJ i k h,BitVec.getLsbD_and]
  have:(15#8).getLsbD k=false:=by
   rcases Nat.lt_or_ge k 8 with q | q
   · have:k=4 ∨ k=5 ∨ k=6 ∨ k=7:=by omega
     rcases this with rfl | rfl | rfl | rfl<;>rfl
   · exact BitVec.getLsbD_of_ge _ _ q
  rw [this];simp
theorem zo7 {l:By} {i:Nat}:(gb l i &&& 128#8 != 0#8)=false:=by
 have:gb l i &&& 128#8=0#8:=by
  apply BitVec.eq_of_getLsbD_eq
  intro k hk
  rw [BitVec.getLsbD_and]
  rcases Nat.lt_or_ge k 4 with q | q
  · have:k=0 ∨ k=1 ∨ k=2 ∨ k=3:=by omega
    rcases this with rfl | rfl | rfl | rfl<;>simp
  · rw [zjJ i k q];simp
 rw [this];rfl
theorem zCp {l:By} {i j:Nat} (h : ∀ k,k < 4 → (gb l i).getLsbD k=(gb l j).getLsbD k):gb l i=gb l j:=by
 apply BitVec.eq_of_getLsbD_eq
 intro k hk
 rcases Nat.lt_or_ge k 4 with q | q
 · exact h k q
 · rw [zjJ i k q,zjJ j k q]
def Flat (g:By):Prop:=g.length≤12 ∧ ∀ i,i < g.length → (nth g i &&& 128#8 != 0#8)=false
section flat
variable {g:By} {i j:Nat}
theorem zqn (h:Flat g) (hi:i < g.length):(nth (mts g) i).eps=[tab (zbV (nth g i)) 4]:=by
 have hl:i < min g.length 12:=by have:=h.1;omega
 unfold mts
 rw [yy hl]
 unfold mt
 dsimp only
 rw [h.2 i hi];rfl
theorem zjK (h:Flat g):(mts g).length=g.length:=by unfold mts;rw [yL];have:=h.1;omega
theorem ziz (h:Flat g) (hj:j < g.length) {e k:Nat}:ze5 (mts g) j e k ↔ e=0∧k < 4∧(nth g j).getLsbD k=true:=by
 unfold ze5
 rw [zqn h hj]
 constructor
 · rintro ⟨h1,h2,h3⟩
   have he:e=0:=by simp at h1;omega
   subst he
   rw [show nth [tab (zbV (nth g j)) 4] 0=tab (zbV (nth g j)) 4 from rfl] at h2 h3
   rw [yL] at h2
   rw [yy h2,zeJ h2] at h3
   exact⟨rfl,h2,h3⟩
 · rintro ⟨rfl,h2,h3⟩
   rw [show nth [tab (zbV (nth g j)) 4] 0=tab (zbV (nth g j)) 4 from rfl,yL,yy h2,zeJ h2]
   exact⟨by simp,h2,h3⟩
theorem ze9 (h:Flat g) (hi:i < g.length):zdE (mts g) i ↔ ∃ k,k < 4∧(nth g i).getLsbD k=false ∧ ∃ j,j < i∧(nth g j).getLsbD k=true:=by
 unfold zdE zl8
 rw [zqn h hi]
 constructor
 · rintro ⟨e,k,h1,h2,h3,j,hj,h4⟩
   obtain⟨rfl,hk,h5⟩:=(ziz h (by omega)).1 h4
   rw [show nth [tab (zbV (nth g i)) 4] 0=tab (zbV (nth g i)) 4 from rfl,yy hk,zeJ hk] at h3
   exact⟨k,hk,h3,j,hj,h5⟩
 · rintro ⟨k,hk,h3,j,hj,h5⟩
   refine⟨0,k,by simp,?_,?_,j,hj,(ziz h (by omega)).2 ⟨rfl,hk,h5⟩⟩
   · rw [show nth [tab (zbV (nth g i)) 4] 0=tab (zbV (nth g i)) 4 from rfl,yL];exact hk
   · rw [show nth [tab (zbV (nth g i)) 4] 0=tab (zbV (nth g i)) 4 from rfl,yy hk,zeJ hk];exact h3
end flat
section rolled
variable {l:By} {n k:Nat}
theorem zmk (hn:n≤10):Flat (grw l n):=⟨by rw [yb];omega,fun i hi=>by
 rw [zeI (by rwa [yb] at hi)];exact zo7⟩
theorem zCq (hn:n≤10):SpR (mts (grw l n)) 0 false := .inr ⟨rfl,rfl,fun i hi hv=>by
 rw [zjK (zmk hn),yb] at hi
 obtain⟨k,hk,h1,j,hj,h2⟩:=(ze9 (zmk hn) (by rwa [yb])).1 hv
 rw [zeI hi] at h1
 rw [zeI (by omega)] at h2
 rw [zfS (i+1) (by omega) h2] at h1
 cases h1⟩
def rol (l:By) (n k:Nat):By:=grw l n++[gb l (k+1)]
theorem zcB:(rol l n k).length=n+1:=by simp [rol,yb]
theorem zeK {i:Nat} (h:i < n):nth (rol l n k) i=gb l (i+1):=by
 rw [←zeI (n:=n) h]
 simp [rol,nth,List.getElem?_append,yb,h]
theorem zml:nth (rol l n k) n=gb l (k+1):=by
 simp [rol,nth,List.getElem?_append,yb]
theorem zeL (hn:n≤10):Flat (rol l n k):=⟨by rw [zcB];omega,fun i hi=>by
 rw [zcB] at hi
 rcases Nat.lt_or_ge i n with q | q
 · rw [zeK q];exact zo7
 · obtain rfl:i=n:=(by omega)
   rw [zml];exact zo7⟩
theorem ziA (hn:n≤10) {i:Nat} (hi:i < n) : ¬zdE (mts (rol l n k)) i:=fun hv=>by
 obtain⟨b,hb,h1,j,hj,h2⟩:=(ze9 (zeL hn) (by rw [zcB];omega)).1 hv
 rw [zeK hi] at h1
 rw [zeK (by omega)] at h2
 rw [zfS (i+1) (by omega) h2] at h1
 cases h1
theorem zmm (hn:n≤10) (hk:k < n):zdE (mts (rol l n k)) n ↔ gb l (k+1)≠gb l n:=by
 rw [ze9 (zeL hn) (by rw [zcB];omega),zml]
 constructor
 · rintro ⟨b,hb,h1,j,hj,h2⟩ e
   rw [zeK hj] at h2
   rw [e,zfS n (by omega) h2] at h1
   cases h1
 · intro hne
   by_cases h : ∃ b,b < 4∧(gb l (k+1)).getLsbD b=false∧(gb l n).getLsbD b=true
   · obtain⟨b,hb,h1,h2⟩:=h
     refine⟨b,hb,h1,n - 1,by omega,?_⟩
     rw [zeK (by omega),show n - 1+1=n by omega];exact h2
   · refine absurd (zCp fun b hb => ?_) hne
     cases h1:(gb l (k+1)).getLsbD b with
     | true=>rw [zfS n (by omega) h1]
     | false =>
      cases h2:(gb l n).getLsbD b with
      | true=>exact absurd ⟨b,hb,h1,h2⟩ h
      | false=>rfl
theorem zzX (hn:n≤10) (hk:k < n) (h:gb l (k+1)≠gb l n):SpR (mts (rol l n k)) n true := .inl ⟨rfl,by rw [zjK (zeL hn),zcB];omega,(zmm hn hk).2 h,fun j hj=>ziA hn hj⟩
theorem zCr (hn:n≤10) (hk:k < n) (h:gb l (k+1)=gb l n):SpR (mts (rol l n k)) 0 false := .inr ⟨rfl,rfl,fun j hj=>by
 rw [zjK (zeL hn),zcB] at hj
 rcases Nat.lt_or_ge j n with q | q
 · exact ziA hn q
 · obtain rfl:j=n:=(by omega)
   exact fun hv=>(zmm hn hk).1 hv h⟩
end rolled
end Go.Proofs.YtgflpgcogkdpgaaGreatDoor

/-
  Audits: the law of points,walked.
-/
namespace Go.Proofs.YtgflpgcogkdpgaaGreatDoor
open Go Go.AL

section walks
variable {G:Globs} {r1 r2:Nat} {m1:List (Int × Rule)} {m2:List (Int × Int)}
theorem zsM {b:BitVec 8}:[b8 b]=pl b8 [b]:=rfl
theorem zsN {b:BitVec 8}:((pl b8 [b]).all fun y=>y.cells.length == 1)=true:=rfl
theorem zhl {l:By} {i:Nat}:grw l i++[gb l i ||| nth l i &&& 15#8]=grw l (i+1):=by
 unfold grw;rw [zN];rfl
set_option maxHeartbeats 2000000 in
set_option maxRecDepth 20000 in
theorem zmn (g:GR G r1 r2 m1 m2) (l:By) (hl:l.length≤9223372036854775807) (z:BitVec 8) (H:Hp) (R:AV → Hp → Prop) (h:R (.p (bo true)) H):ACall Tryz.prog G 5 [.p (.sl false 1 (pl b8 l)),.p (b8 z)] H R:=by
 obtain⟨n,hn⟩ : ∃ n,n=min l.length 10:=⟨_,rfl⟩
 refine ACall.of_run (raw:=[]) Tryz.func5 rfl Tryz.ntmps5 (by simp) fun hbel => ?_
 refine .q ?_;refine .text ?_;simp (disch:=first|exact za|fail) only [go_sem,seval,-List.reduceReplicate]
 refine .q ?_;refine .text ?_;simp (disch:=first|exact za|fail) only [go_sem,seval,-List.reduceReplicate]
 refine CallK.of (fun R h=>zdn g _ R h) ?_;simp (disch:=first|exact za|fail) only [go_sem,seval,-List.reduceReplicate]
 refine .q ?_;refine .text ?_;simp (disch:=first|exact za|fail) only [go_sem,seval,-List.reduceReplicate]
 refine .q ?_;refine .text ?_;simp (disch:=first|exact za|fail) only [go_sem,seval,-List.reduceReplicate]
 refine .q ?_;refine .own 7 (by simp (disch:=first|exact za|fail) only [go_sem,seval,-List.reduceReplicate];rfl) ?_
 refine .q ?_;refine .text ?_;simp (disch:=first|exact za|fail) only [go_sem,seval,-List.reduceReplicate]
 (repeat refine .zs rfl ?_);refine .cutF [1,5] [(6,.p (b8 (gb l n))),(7,.sl H.n n 1 (pl b8 (grw l n)))] [(H.n,.tail n)] (fun ihJ => ?_) (fun env T J => ?_)
 rotate_left 1
 simp (disch:=first|exact za|fail) only [go_sem,seval,-List.reduceReplicate] at J
 rotate_left 1
 · refine .q ?_;refine .loopF [0,1,5] (fun i=>[(6,.p (b8 (gb l i))),(7,.sl H.n i 1 (pl b8 (grw l i))),(8,.p (i64 i))]) (fun i=>[(H.n,.tail i)]) (fun i=>True) (0) (n) (by omega) ?_ (by first | rfl | (simp (disch:=first|exact za|fail) only [go_sem,seval,-List.reduceReplicate]<;>rfl)) ?_ ?_ ?_
   · simp (disch:=first|exact za|fail) only [go_sem,seval,-List.reduceReplicate]<;>(repeat' (first | rfl | refine And.intro ?_ ?_))
   · exact trivial
   intro env T E hQ;simp (disch:=first|exact za|fail) only [go_sem,seval,-List.reduceReplicate] at E
   rotate_left 1
   intro i env T hi0 hi E hQ ihE;simp (disch:=first|exact za|fail) only [go_sem,seval,-List.reduceReplicate] at E
   rotate_left 1
   · by_cases q:n < l.length
     · have d1:decide ((n:Int) < (l.length:Int))=true:=decide_eq_true (by omega)
       have d2:decide ((n:Int) < 10)=false:=decide_eq_false (by omega)
       refine .q ?_;refine .text ?_;simp (disch:=first|exact za|fail) only [go_sem,seval,-List.reduceReplicate,E,zc,ze,d1,d2]
       refine .q ?_;refine .ifF (by simp (disch:=first|exact za|fail) only [go_sem,seval,-List.reduceReplicate]) ?_
       first | (refine ihJ _ _ ?_ ?_) | (refine .z rfl ?_;refine ihJ _ _ ?_ ?_) | (refine .z rfl ?_;refine .z rfl ?_;refine ihJ _ _ ?_ ?_) | (refine .z rfl ?_;refine .z rfl ?_;refine .z rfl ?_;refine ihJ _ _ ?_ ?_)
       · simp (disch:=first|exact za|fail) only [go_sem,seval,-List.reduceReplicate,E,zc,ze]<;>(repeat' (first | rfl | refine And.intro ?_ ?_))
       · first | exact .mk _ rfl | exact .mk [] rfl | (apply Later.mk;simp (disch:=first|exact za|fail) only [go_sem,seval,-List.reduceReplicate,zg,E,zc,ze];exact rfl) | (apply Later.mk;simp (disch:=first|exact za|fail) only [go_sem,seval,-List.reduceReplicate,zg,zw,List.append_assoc,E,zc,ze]<;>(try rfl))
     · have d1:decide ((n:Int) < (l.length:Int))=false:=decide_eq_false (by omega)
       refine .q ?_;refine .text ?_;simp (disch:=first|exact za|fail) only [go_sem,seval,-List.reduceReplicate,E,zc,ze,d1]
       refine .q ?_;refine .ifF (by simp (disch:=first|exact za|fail) only [go_sem,seval,-List.reduceReplicate]) ?_
       first | (refine ihJ _ _ ?_ ?_) | (refine .z rfl ?_;refine ihJ _ _ ?_ ?_) | (refine .z rfl ?_;refine .z rfl ?_;refine ihJ _ _ ?_ ?_) | (refine .z rfl ?_;refine .z rfl ?_;refine .z rfl ?_;refine ihJ _ _ ?_ ?_)
       · simp (disch:=first|exact za|fail) only [go_sem,seval,-List.reduceReplicate,E,zc,ze]<;>(repeat' (first | rfl | refine And.intro ?_ ?_))
       · first | exact .mk _ rfl | exact .mk [] rfl | (apply Later.mk;simp (disch:=first|exact za|fail) only [go_sem,seval,-List.reduceReplicate,zg,E,zc,ze];exact rfl) | (apply Later.mk;simp (disch:=first|exact za|fail) only [go_sem,seval,-List.reduceReplicate,zg,zw,List.append_assoc,E,zc,ze]<;>(try rfl))
   · have d1:decide ((i:Int) < (l.length:Int))=true:=decide_eq_true (by omega)
     have hli:i < l.length:=by omega
     have hgl:(grw l i).length≤140737488355327:=by rw [yb];omega
     refine .q ?_;refine .text ?_;simp (disch:=first|exact za|fail) only [go_sem,seval,-List.reduceReplicate,E,zc,ze,d1]
     refine .q ?_;refine .ifT (by simp (disch:=first|exact za|fail) only [go_sem,seval,-List.reduceReplicate]) ?_
     refine .q ?_;refine .text ?_;simp (disch:=first|exact za|fail) only [go_sem,seval,-List.reduceReplicate,E]
     refine .q ?_;refine .text ?_;simp (disch:=first|exact za|fail) only [go_sem,seval,-List.reduceReplicate,E,zsM,zsN,hgl]
     refine .q ?_;refine .text ?_;simp (disch:=first|exact za|fail) only [go_sem,seval,-List.reduceReplicate,E]
     first | (refine ihE _ _ ?_ trivial ?_) | (refine .z rfl ?_;refine ihE _ _ ?_ trivial ?_) | (refine .z rfl ?_;refine .z rfl ?_;refine ihE _ _ ?_ trivial ?_) | (refine .z rfl ?_;refine .z rfl ?_;refine .z rfl ?_;refine ihE _ _ ?_ trivial ?_)
     · simp (disch:=first|exact za|fail) only [go_sem,seval,-List.reduceReplicate,E,zc,ze,zhl]<;>(repeat' (first | rfl | refine And.intro ?_ ?_))
     · first | exact .mk _ rfl | exact .mk [] rfl | (apply Later.mk;simp (disch:=first|exact za|fail) only [go_sem,seval,-List.reduceReplicate,zg,E,zc,ze,zhl];exact rfl) | (apply Later.mk;simp (disch:=first|exact za|fail) only [go_sem,seval,-List.reduceReplicate,zg,zw,List.append_assoc,E,zc,ze,zhl]<;>(try rfl))
 · have hn10:n≤10:=by omega
   have hgm:(grw l n).length≤9223372036854775807:=by rw [yb];omega
   refine .q ?_;refine .text ?_;simp (disch:=first|exact za|fail) only [go_sem,seval,-List.reduceReplicate,J,zc,ze]
   refine CallK.of (fun R h=>zbi (grw l n) hgm _ R h) ?_;simp (disch:=first|exact za|fail) only [go_sem,seval,-List.reduceReplicate,J]
   refine CallK.of (fun R h=>zcm ze8 (zCq hn10) _ R h) ?_;simp (disch:=first|exact za|fail) only [go_sem,seval,-List.reduceReplicate,J]
   refine .q ?_;refine .text ?_;simp (disch:=first|exact za|fail) only [go_sem,seval,-List.reduceReplicate,J,yb]
   refine .q ?_;refine .ifF (by simp (disch:=first|exact za|fail) only [go_sem,seval,-List.reduceReplicate]) ?_
   refine .skip ?_
   refine .q ?_;refine .text ?_;simp (disch:=first|exact za|fail) only [go_sem,seval,-List.reduceReplicate,J,yb]
   by_cases hz:n=0
   · have d0:((n:Int) == 0)=true:=by rw [hz];rfl
     refine .q ?_;refine .ifT (by simp (disch:=first|exact za|fail) only [go_sem,seval,-List.reduceReplicate,d0,yb]) ?_
     refine .q ?_;refine .text ?_;simp (disch:=first|exact za|fail) only [go_sem,seval,-List.reduceReplicate,J,yb]
     refine .q ?_;refine .rt Tryz.func5 (by rw [Tryz.results5]) (hx:=by simp (disch:=first|exact za|fail) only [go_sem,seval,-List.reduceReplicate,J];rfl) (hR := ?_);simp (disch:=first|exact za|fail) only [go_sem,seval,-List.reduceReplicate,J]
     exact h
   · have d0:((n:Int) == 0)=false:=by simpa using hz
     refine .q ?_;refine .ifF (by simp (disch:=first|exact za|fail) only [go_sem,seval,-List.reduceReplicate,d0,yb]) ?_
     refine .skip ?_
     obtain⟨k,hk⟩ : ∃ k,k=z.toNat % n:=⟨_,rfl⟩
     have hkn:k < n:=by rw [hk];exact Nat.mod_lt _ (by omega)
     have hze:((z.toNat:Nat):Int) % (n:Int)=(k:Int):=by rw [hk];omega
     have hgk:nth (grw l n) k=gb l (k+1):=zeI hkn
     have hkl:k < (grw l n).length:=by rw [yb];exact hkn
     refine .q ?_;refine .text ?_;simp (disch:=first|exact za|fail) only [go_sem,seval,-List.reduceReplicate,J,yb,hze]
     refine .q ?_;refine .text ?_;simp (disch:=first|exact za|fail) only [go_sem,seval,-List.reduceReplicate,J,yb]
     have hrol:grw l n++[nth (grw l n) k]=rol l n k:=by rw [hgk];rfl
     have hrl:(rol l n k).length≤9223372036854775807:=by rw [zcB];omega
     refine .q ?_;refine .text ?_;simp (disch:=first|exact za|fail) only [go_sem,seval,-List.reduceReplicate,J,yb]
     refine .q ?_;refine .text ?_;simp (disch:=first|exact za|fail) only [go_sem,seval,-List.reduceReplicate,J,yb,hrol]
     refine CallK.of (fun R h=>zbi (rol l n k) hrl _ R h) ?_;simp (disch:=first|exact za|fail) only [go_sem,seval,-List.reduceReplicate,J]
     by_cases e:gb l (k+1)=gb l n
     · have db:(gb l (k+1) != gb l n)=false:=by rw [e];simp
       refine CallK.of (fun R h=>zcm ze8 (zCr hn10 hkn e) _ R h) ?_;simp (disch:=first|exact za|fail) only [go_sem,seval,-List.reduceReplicate,J]
       refine .q ?_;refine .text ?_;simp (disch:=first|exact za|fail) only [go_sem,seval,-List.reduceReplicate,J,yb,hgk,db]
       refine .q ?_;refine .rt Tryz.func5 (by rw [Tryz.results5]) (hx:=by simp (disch:=first|exact za|fail) only [go_sem,seval,-List.reduceReplicate,J];rfl) (hR := ?_);simp (disch:=first|exact za|fail) only [go_sem,seval,-List.reduceReplicate,J]
       exact h
     · have db:(gb l (k+1) != gb l n)=true:=by simpa using e
       refine CallK.of (fun R h=>zcm ze8 (zzX hn10 hkn e) _ R h) ?_;simp (disch:=first|exact za|fail) only [go_sem,seval,-List.reduceReplicate,J]
       refine .q ?_;refine .text ?_;simp (disch:=first|exact za|fail) only [go_sem,seval,-List.reduceReplicate,J,yb,hgk,db,beq_self_eq_true]
       refine .q ?_;refine .rt Tryz.func5 (by rw [Tryz.results5]) (hx:=by simp (disch:=first|exact za|fail) only [go_sem,seval,-List.reduceReplicate,J];rfl) (hR := ?_);simp (disch:=first|exact za|fail) only [go_sem,seval,-List.reduceReplicate,J]
       exact h
end walks
end Go.Proofs.YtgflpgcogkdpgaaGreatDoor

/-
  Audits: the law of certificates (plain facts).
-/
namespace Go.Proofs.YtgflpgcogkdpgaaGreatDoor
open Go Go.AL

def Crt.wk (c:Crt):Crt:=⟨c.q,c.log,c.root,c.mid.map PV.weak1,c.sums,c.rest.map PV.weak1,c.hr,by rw [List.length_map,c.hm],by rw [List.length_map,c.hl]⟩
theorem zxg {c:Crt}:(crt c).weak=crt c.wk:=by
 show PV.agg (List.map PV.weak1 (zdF c))=PV.agg (zdF c.wk)
 unfold zdF
 simp only [List.map_cons,List.map_append]
 rw [zc1 fun _=>rfl]
 rfl
theorem zxh {c:Crt} (h:CrtOk c):CrtOk c.wk:=⟨h.log,h.q,h.sums⟩
def PrP (l:List Crt) (i k:Nat):Prop := ∀ a b,b < a → (a < i ∨ (a=i∧b < k)) → (nth l a).key=(nth l b).key → (nth l a).sums=(nth l b).sums
open Classical in
noncomputable def prB (l:List Crt) (i k:Nat):Bool:=decide (PrP l i k)
theorem zxi {l:List Crt}:prB l 0 0=true:=by
 classical
 unfold prB
 exact decide_eq_true fun a b h1 h2=>by omega
theorem zCs {a b:Crt}:smB [a,b]=(!decide (a.key=b.key) || decide (a.sums=b.sums)):=by
 by_cases h:a.key=b.key → a.sums=b.sums
 · rw [ziw fun x y hx hy e=>by
    have hx':x < 2:=hx
    have hy':y < 2:=hy
    have n0:nth [a,b] 0=a:=rfl
    have n1:nth [a,b] 1=b:=rfl
    match x,y with
    | 0,0=>rfl
    | 1,1=>rfl
    | 0,1=>rw [n0,n1] at e ⊢;exact h e
    | 1,0=>rw [n0,n1] at e ⊢;exact (h e.symm).symm
    | x+2,_=>exact absurd hx' (by omega)
    | _,y+2=>exact absurd hy' (by omega)]
   by_cases k:a.key=b.key
   · simp [h k]
   · simp [k]
 · have hk:a.key=b.key:=Classical.byContradiction fun k=>h fun e=>absurd e k
   have hs : ¬a.sums=b.sums:=fun s=>h fun _=>s
   rw [zma (l:=[a,b]) fun hc=>hs (hc 0 1 (by simp) (by simp) hk)]
   simp [hk,hs]
theorem zqp {a b:Crt}:smB [a.wk,b.wk]=(!decide (a.key=b.key) || decide (a.sums=b.sums)):=zCs
theorem zxj {l:List Crt} {i k:Nat} (hk:k < i):prB l i (k+1)=(prB l i k && smB [(nth l i).wk,(nth l k).wk]):=by
 classical
 rw [zqp]
 unfold prB
 by_cases h:PrP l i k
 · rw [decide_eq_true h,Bool.true_and]
   by_cases h2:PrP l i (k+1)
   · rw [decide_eq_true h2]
     by_cases e:(nth l i).key=(nth l k).key
     · simp [h2 i k hk (.inr ⟨rfl,by omega⟩) e]
     · simp [e]
   · rw [decide_eq_false h2]
     refine Eq.symm (Bool.eq_false_iff.2 fun e=>h2 fun a b hb hab e2 => ?_)
     rcases hab with q | ⟨rfl,q⟩
     · exact h a b hb (.inl q) e2
     · rcases Nat.lt_or_ge b k with q2 | q2
       · exact h a b hb (.inr ⟨rfl,q2⟩) e2
       · obtain rfl:b=k:=(by omega)
         simpa [e2] using e
 · rw [decide_eq_false h,Bool.false_and]
   exact decide_eq_false fun h2=>h fun a b hb hab=>h2 a b hb (by omega)
theorem zxk {l:List Crt} {i:Nat}:prB l i i=prB l (i+1) 0:=by
 classical
 unfold prB
 congr 1
 refine propext ⟨fun h a b hb hab=>h a b hb (by omega),fun h a b hb hab=>h a b hb (by omega)⟩
theorem zzY {l:List Crt}:prB l l.length 0=smB l:=by
 classical
 unfold prB smB
 congr 1
 refine propext ⟨fun h a b ha hb e => ?_,fun h a b hb hab=>h a b (by omega) (by omega)⟩
 rcases Nat.lt_trichotomy a b with q | q | q
 · exact (h b a q (.inl hb) e.symm).symm
 · rw [q]
 · exact h a b q (.inl ha) e
/-! ### The same certificates in another order -/
def rot (l:List Crt) (s i:Nat):List Crt:=tab (fun j=>(nth l ((j+s) % l.length)).wk) i
theorem zcC {l:List Crt} {s i:Nat}:(rot l s i).length=i:=yL
theorem zmp {n s a:Nat} (h:a < n) : ∃ j,j < n∧(j+s) % n=a:=by
 refine⟨(a+(n - s % n)) % n,Nat.mod_lt _ (by omega),?_⟩
 rw [Nat.mod_add_mod]
 have h1:=Nat.div_add_mod s n
 have h2:s % n < n:=Nat.mod_lt _ (by omega)
 have:a+(n - s % n)+s=a+n*(s / n+1):=by
  rw [Nat.mul_add]
  generalize n*(s / n)=t at h1
  omega
 rw [this,Nat.add_mul_mod_self_left,Nat.mod_eq_of_lt h]
theorem zCt {l:List Crt} {s:Nat}:smB (rot l s l.length)=smB l:=by
 by_cases h:Cons l l.length
 · rw [ziw h,ziw]
   intro a b ha hb
   rw [zcC] at ha hb
   have hn:0 < l.length:=by omega
   rw [rot,yy ha,yy hb]
   exact h _ _ (Nat.mod_lt _ hn) (Nat.mod_lt _ hn)
 · rw [zma h,zma]
   intro hr
   refine h fun a b ha hb => ?_
   obtain⟨j,hj,ej⟩:=zmp (s:=s) ha
   obtain⟨k,hk,ek⟩:=zmp (s:=s) hb
   have:=hr j k (by rwa [zcC]) (by rwa [zcC])
   rw [rot,yy hj,yy hk] at this
   simp only [ej,ek] at this
   exact this
theorem zmq {l:List Crt} {s i:Nat}:rot l s i++[(nth l ((i+s) % l.length)).wk]=rot l s (i+1):=by unfold rot;rw [zN]
theorem zCu {l:List Crt} {s n:Nat} (h : ∀ i,i < l.length → CrtOk (nth l i)) (hn:0 < l.length) : ∀ i,i < (rot l s n).length → CrtOk (nth (rot l s n) i):=fun i hi=>by
 rw [zcC] at hi
 rw [rot,yy hi]
 exact zxh (h _ (Nat.mod_lt _ hn))
end Go.Proofs.YtgflpgcogkdpgaaGreatDoor

/-
  Audits: the law of certificates,walked.
-/
namespace Go.Proofs.YtgflpgcogkdpgaaGreatDoor
open Go Go.AL

theorem zo8 {c:Crt}:(zdF c)[0]? = some (str (bytesOf c.q)):=rfl
theorem zo9 {c:Crt}:(zdF c)[1]? = some (i64 c.log):=rfl
theorem zhm {c:Crt}:(crt c).aggOf 2 32 = .agg (pl b8 c.root):=by
 rw [PV.aggOf_eq,zdB]
 unfold zdF
 simp only [List.drop_succ_cons,List.drop_zero]
 rw [List.take_left' (by simp [pl,c.hr])]
theorem zzZ {a b:Crt}:a.key=b.key ↔ a.q=b.q∧a.log=b.log∧a.root=b.root:=by simp [Crt.key]
theorem zpa {c:Crt}:[crt c]=pl crt [c]:=rfl
theorem zpb {c:Crt}:((pl crt [c]).all fun y=>y.cells.length == 49)=true:=by simp [pl,zdB,zeF]
theorem ziB {H:Hp} {z0 z1:AB} {T0 T:List AB}:Later ((app H T0).new z0) [(H.n+T0.length,z1)] (app ((app H T0).new z1) T):=by
 refine .mk T ?_
 have h3:((app H T0).new z0).set (H.n+T0.length) z1=(app H T0).new z1:=by
  have hn:H.n+T0.length=(app H T0).n:=by simp only [app_n']
  rw [hn];exact Hp.set_new_self _ _ _
 rw [zc,ze,h3]
theorem zmr {l:List Crt}:(pl crt l).map PV.weak=pl crt (l.map Crt.wk):=by simp [pl,zxg]
section walks
variable {G:Globs} {r1 r2:Nat} {m1:List (Int × Rule)} {m2:List (Int × Int)}
set_option maxHeartbeats 2000000 in
set_option maxRecDepth 20000 in
theorem zpc (g:GR G r1 r2 m1 m2) (cs:List Crt) (hcl:cs.length≤9223372036854775807) (hc : ∀ i,i < cs.length → CrtOk (nth cs i)) (z:BitVec 8) (H:Hp) (R:AV → Hp → Prop) (h:R (.p (bo true)) H):ACall Tryz.prog G 6 [.p (.sl false 49 (pl crt cs)),.p (b8 z)] H R:=by
 obtain⟨n,hn⟩ : ∃ n,n=min cs.length 6:=⟨_,rfl⟩
 have hmn:((min (cs.length:Int) 6)).toNat=n:=by omega
 have hfl:(cs.take n).length=n:=by rw [List.length_take];omega
 have hfc : ∀ i,i < (cs.take n).length → CrtOk (nth (cs.take n) i):=fun i hi=>by
  rw [show nth (cs.take n) i=nth cs i by simp [nth,List.getElem?_take,hfl ▸ hi]]
  exact hc i (by omega)
 have hn6:n≤6:=by omega
 have hz:=z.isLt
 refine ACall.of_run (raw:=[]) Tryz.func6 rfl Tryz.ntmps6 (by simp) fun hbel => ?_
 refine .q ?_;refine .text ?_;simp (disch:=first|exact za|fail) only [go_sem,seval,-List.reduceReplicate]
 refine .q ?_;refine .text ?_;simp (disch:=first|exact za|fail) only [go_sem,seval,-List.reduceReplicate]
 refine CallK.of (fun R h=>zdn g _ R h) ?_;simp (disch:=first|exact za|fail) only [go_sem,seval,-List.reduceReplicate]
 refine .q ?_;refine .text ?_;simp (disch:=first|exact za|fail) only [go_sem,seval,-List.reduceReplicate,hmn]
 generalize cs.take n=fs at hfl hfc ⊢
 subst hfl
 refine .q ?_;refine .text ?_;simp (disch:=first|exact za|fail) only [go_sem,seval,-List.reduceReplicate]
 (repeat refine .zs rfl ?_);first | refine .cutF0 [1,5,6] [] (fun ihA => ?_) (fun env T A => ?_) | refine .cutF [1,5,6] [] [] (fun ihA => ?_) (fun env T A => ?_)
 rotate_left 1
 simp (disch:=first|exact za|fail) only [go_sem,seval,-List.reduceReplicate] at A
 rotate_left 1
 · refine .q ?_;first | refine .loopF0 [1,5,6] (fun i=>[(7,.p (i64 i))]) (fun i=>True) (0) (fs.length) (by omega) ?_ ?_ ?_ ?_ | refine .loopF [1,5,6] (fun i=>[(7,.p (i64 i))]) (fun _=>[]) (fun i=>True) (0) (fs.length) (by omega) ?_ (by rfl) ?_ ?_ ?_
   · simp (disch:=first|exact za|fail) only [go_sem,seval,-List.reduceReplicate]<;>(repeat' (first | rfl | refine And.intro ?_ ?_))
   · exact trivial
   intro env T E hQ;simp (disch:=first|exact za|fail) only [go_sem,seval,-List.reduceReplicate] at E
   rotate_left 1
   intro i env T hi0 hi E hQ ihE;simp (disch:=first|exact za|fail) only [go_sem,seval,-List.reduceReplicate] at E
   rotate_left 1
   · refine .q ?_;refine .text ?_;simp (disch:=first|exact za|fail) only [go_sem,seval,-List.reduceReplicate,E]
     refine .q ?_;refine .ifF (by simp (disch:=first|exact za|fail) only [go_sem,seval,-List.reduceReplicate]) ?_
     first | (refine ihA _ _ ?_ ?_) | (refine .z rfl ?_;refine ihA _ _ ?_ ?_) | (refine .z rfl ?_;refine .z rfl ?_;refine ihA _ _ ?_ ?_) | (refine .z rfl ?_;refine .z rfl ?_;refine .z rfl ?_;refine ihA _ _ ?_ ?_)
     · simp (disch:=first|exact za|fail) only [go_sem,seval,-List.reduceReplicate,E]<;>(repeat' (first | rfl | refine And.intro ?_ ?_))
     · first | exact .mk _ rfl | exact .mk [] rfl | (apply Later.mk;simp (disch:=first|exact za|fail) only [go_sem,seval,-List.reduceReplicate,zg,E];exact rfl) | (apply Later.mk;simp (disch:=first|exact za|fail) only [go_sem,seval,-List.reduceReplicate,zg,zw,List.append_assoc,E]<;>(try rfl))
   · refine .q ?_;refine .text ?_;simp (disch:=first|exact za|fail) only [go_sem,seval,-List.reduceReplicate,E]
     refine .q ?_;refine .ifT (by simp (disch:=first|exact za|fail) only [go_sem,seval,-List.reduceReplicate]) ?_
     refine .q ?_;refine .text ?_;simp (disch:=first|exact za|fail) only [go_sem,seval,-List.reduceReplicate,E,zjI]
     by_cases q:20 < (nth fs i).sums.length
     · have d:decide ((20:Int) < ((nth fs i).sums.length:Int))=true:=decide_eq_true (by omega)
       refine .q ?_;refine .ifT (by simp (disch:=first|exact za|fail) only [go_sem,seval,-List.reduceReplicate,d]) ?_
       refine .q ?_;refine .text ?_;simp (disch:=first|exact za|fail) only [go_sem,seval,-List.reduceReplicate,E]
       refine .q ?_;refine .rt Tryz.func6 (by rw [Tryz.results6]) (hx:=by simp (disch:=first|exact za|fail) only [go_sem,seval,-List.reduceReplicate,E];rfl) (hR := ?_);simp (disch:=first|exact za|fail) only [go_sem,seval,-List.reduceReplicate,E]
       exact h
     · have d:decide ((20:Int) < ((nth fs i).sums.length:Int))=false:=decide_eq_false (by omega)
       refine .q ?_;refine .ifF (by simp (disch:=first|exact za|fail) only [go_sem,seval,-List.reduceReplicate,d]) ?_
       refine .skip ?_
       refine .q ?_;refine .text ?_;simp (disch:=first|exact za|fail) only [go_sem,seval,-List.reduceReplicate,E]
       first | (refine ihE _ _ ?_ trivial ?_) | (refine .z rfl ?_;refine ihE _ _ ?_ trivial ?_) | (refine .z rfl ?_;refine .z rfl ?_;refine ihE _ _ ?_ trivial ?_) | (refine .z rfl ?_;refine .z rfl ?_;refine .z rfl ?_;refine ihE _ _ ?_ trivial ?_)
       · simp (disch:=first|exact za|fail) only [go_sem,seval,-List.reduceReplicate,E]<;>(repeat' (first | rfl | refine And.intro ?_ ?_))
       · first | exact .mk _ rfl | exact .mk [] rfl | (apply Later.mk;simp (disch:=first|exact za|fail) only [go_sem,seval,-List.reduceReplicate,zg,E];exact rfl) | (apply Later.mk;simp (disch:=first|exact za|fail) only [go_sem,seval,-List.reduceReplicate,zg,zw,List.append_assoc,E]<;>(try rfl))
 · obtain⟨T0,rfl⟩ : ∃ T0,T0=T:=⟨_,rfl⟩
   refine .q ?_;refine .text ?_;simp (disch:=first|exact za|fail) only [go_sem,seval,-List.reduceReplicate,A]
   refine .q ?_;refine .own 8 (by simp (disch:=first|exact za|fail) only [go_sem,seval,-List.reduceReplicate];rfl) ?_
   refine .q ?_;refine .text ?_;simp (disch:=first|exact za|fail) only [go_sem,seval,-List.reduceReplicate,A]
   (repeat refine .zs rfl ?_);refine .cutF [5,6] [(8,.sl (H.n+T0.length) fs.length 49 (pl crt (rot fs z.toNat fs.length)))] [(H.n+T0.length,.tail fs.length)] (fun ihB => ?_) (fun env T B => ?_)
   rotate_left 1
   simp (disch:=first|exact za|fail) only [go_sem,seval,-List.reduceReplicate,A] at B
   rotate_left 1
   · refine .q ?_;refine .loopF [1,5,6] (fun i=>[(8,.sl (H.n+T0.length) i 49 (pl crt (rot fs z.toNat i))),(9,.p (i64 i))]) (fun i=>[(H.n+T0.length,.tail i)]) (fun i=>True) (0) (fs.length) (by omega) ?_ (by first | rfl | (simp (disch:=first|exact za|fail) only [go_sem,seval,-List.reduceReplicate,A]<;>rfl)) ?_ ?_ ?_
     · simp (disch:=first|exact za|fail) only [go_sem,seval,-List.reduceReplicate,A]<;>(repeat' (first | rfl | refine And.intro ?_ ?_))
     · exact trivial
     intro env T E hQ;simp (disch:=first|exact za|fail) only [go_sem,seval,-List.reduceReplicate,A] at E
     rotate_left 1
     intro i env T hi0 hi E hQ ihE;simp (disch:=first|exact za|fail) only [go_sem,seval,-List.reduceReplicate,A] at E
     rotate_left 1
     · refine .q ?_;refine .text ?_;simp (disch:=first|exact za|fail) only [go_sem,seval,-List.reduceReplicate,E,A,zc,ze]
       refine .q ?_;refine .ifF (by simp (disch:=first|exact za|fail) only [go_sem,seval,-List.reduceReplicate]) ?_
       first | (refine ihB _ _ ?_ ?_) | (refine .z rfl ?_;refine ihB _ _ ?_ ?_) | (refine .z rfl ?_;refine .z rfl ?_;refine ihB _ _ ?_ ?_) | (refine .z rfl ?_;refine .z rfl ?_;refine .z rfl ?_;refine ihB _ _ ?_ ?_)
       · simp (disch:=first|exact za|fail) only [go_sem,seval,-List.reduceReplicate,E,A,zc,ze]<;>(repeat' (first | rfl | refine And.intro ?_ ?_))
       · exact ziB
     · have hm:(i+z.toNat) % fs.length < fs.length:=Nat.mod_lt _ (by omega)
       have hme:((i:Int)+(z.toNat:Nat)) % (fs.length:Int)=(((i+z.toNat) % fs.length:Nat):Int):=by push_cast;rfl
       have hgl:((rot fs z.toNat i).length+1)*320≤140737488355328:=by rw [zcC];omega
       refine .q ?_;refine .text ?_;simp (disch:=first|exact za|fail) only [go_sem,seval,-List.reduceReplicate,E,A,zc,ze]
       refine .q ?_;refine .ifT (by simp (disch:=first|exact za|fail) only [go_sem,seval,-List.reduceReplicate]) ?_
       refine .q ?_;refine .text ?_;simp (disch:=first|exact za|fail) only [go_sem,seval,-List.reduceReplicate,E,A,hme,zpa,zpb,hgl,zmr,List.map_cons,List.map_nil,zmq]
       refine .q ?_;refine .text ?_;simp (disch:=first|exact za|fail) only [go_sem,seval,-List.reduceReplicate,E,A]
       first | (refine ihE _ _ ?_ trivial ?_) | (refine .z rfl ?_;refine ihE _ _ ?_ trivial ?_) | (refine .z rfl ?_;refine .z rfl ?_;refine ihE _ _ ?_ trivial ?_) | (refine .z rfl ?_;refine .z rfl ?_;refine .z rfl ?_;refine ihE _ _ ?_ trivial ?_)
       · simp (disch:=first|exact za|fail) only [go_sem,seval,-List.reduceReplicate,E,A,zc,ze,zmq]<;>(repeat' (first | rfl | refine And.intro ?_ ?_))
       · exact ziB
   · refine .q ?_;refine .text ?_;simp (disch:=first|exact za|fail) only [go_sem,seval,-List.reduceReplicate,B,A,zc,ze]
     refine .q ?_;refine .text ?_;simp (disch:=first|exact za|fail) only [go_sem,seval,-List.reduceReplicate,B,A]
     refine .q ?_;first | refine .loopF0 [5,6,8] (fun i=>[(10,.p (bo (prB fs i 0))),(11,.p (i64 i))]) (fun i=>True) (0) (fs.length) (by omega) ?_ ?_ ?_ ?_ | refine .loopF [5,6,8] (fun i=>[(10,.p (bo (prB fs i 0))),(11,.p (i64 i))]) (fun _=>[]) (fun i=>True) (0) (fs.length) (by omega) ?_ (by rfl) ?_ ?_ ?_
     · simp (disch:=first|exact za|fail) only [go_sem,seval,-List.reduceReplicate,B,A,zxi]<;>(repeat' (first | rfl | refine And.intro ?_ ?_))
     · exact trivial
     intro env T E hQ;simp (disch:=first|exact za|fail) only [go_sem,seval,-List.reduceReplicate,B,A,zxi] at E
     rotate_left 1
     intro i env T hi0 hi E hQ ihE;simp (disch:=first|exact za|fail) only [go_sem,seval,-List.reduceReplicate,B,A,zxi] at E
     rotate_left 1
     · rw [zzY] at E
       refine .q ?_;refine .text ?_;simp (disch:=first|exact za|fail) only [go_sem,seval,-List.reduceReplicate,E,B,A]
       refine .q ?_;refine .ifF (by simp (disch:=first|exact za|fail) only [go_sem,seval,-List.reduceReplicate]) ?_
       refine .q ?_;refine .text ?_;simp (disch:=first|exact za|fail) only [go_sem,seval,-List.reduceReplicate,E,B,A]
       refine CallK.of (fun R h=>zaT fs (by omega) hfc _ R h) ?_;simp (disch:=first|exact za|fail) only [go_sem,seval,-List.reduceReplicate,E,B,A,beq_self_eq_true]
       have hrk : ∀ i,i < (rot fs z.toNat fs.length).length → CrtOk (nth (rot fs z.toNat fs.length) i):=fun i hi=>zCu hfc (by rw [zcC] at hi;omega) i hi
       refine CallK.of (fun R h=>zaT (rot fs z.toNat fs.length) (by rw [zcC];omega) hrk _ R h) ?_;simp (disch:=first|exact za|fail) only [go_sem,seval,-List.reduceReplicate,E,B,A,zCt,beq_self_eq_true]
       refine .q ?_;refine .rt Tryz.func6 (by rw [Tryz.results6]) (hx:=by simp (disch:=first|exact za|fail) only [go_sem,seval,-List.reduceReplicate,E,B,A];rfl) (hR := ?_);simp (disch:=first|exact za|fail) only [go_sem,seval,-List.reduceReplicate,E,B,A]
       exact h
     · refine .q ?_;refine .text ?_;simp (disch:=first|exact za|fail) only [go_sem,seval,-List.reduceReplicate,E,B,A]
       refine .q ?_;refine .ifT (by simp (disch:=first|exact za|fail) only [go_sem,seval,-List.reduceReplicate]) ?_
       refine .q ?_;refine .text ?_;simp (disch:=first|exact za|fail) only [go_sem,seval,-List.reduceReplicate,E,B,A]
       refine .q ?_;first | refine .loopF0 [5,6,8,11] (fun k=>[(10,.p (bo (prB fs i k))),(12,.p (i64 k))]) (fun k=>True) (0) (i) (by omega) ?_ ?_ ?_ ?_ | refine .loopF [5,6,8,11] (fun k=>[(10,.p (bo (prB fs i k))),(12,.p (i64 k))]) (fun _=>[]) (fun k=>True) (0) (i) (by omega) ?_ (by rfl) ?_ ?_ ?_
       · simp (disch:=first|exact za|fail) only [go_sem,seval,-List.reduceReplicate,E,B,A]<;>(repeat' (first | rfl | refine And.intro ?_ ?_))
       · exact trivial
       intro env T K hQ;simp (disch:=first|exact za|fail) only [go_sem,seval,-List.reduceReplicate,E,B,A] at K
       rotate_left 1
       intro k env T hk0 hk K hQ ihK;simp (disch:=first|exact za|fail) only [go_sem,seval,-List.reduceReplicate,E,B,A] at K
       rotate_left 1
       · rw [zxk] at K
         refine .q ?_;refine .text ?_;simp (disch:=first|exact za|fail) only [go_sem,seval,-List.reduceReplicate,K,E,B,A]
         refine .q ?_;refine .ifF (by simp (disch:=first|exact za|fail) only [go_sem,seval,-List.reduceReplicate]) ?_
         refine .q ?_;refine .text ?_;simp (disch:=first|exact za|fail) only [go_sem,seval,-List.reduceReplicate,K,E,B,A]
         first | (refine ihE _ _ ?_ trivial ?_) | (refine .z rfl ?_;refine ihE _ _ ?_ trivial ?_) | (refine .z rfl ?_;refine .z rfl ?_;refine ihE _ _ ?_ trivial ?_) | (refine .z rfl ?_;refine .z rfl ?_;refine .z rfl ?_;refine ihE _ _ ?_ trivial ?_)
         · simp (disch:=first|exact za|fail) only [go_sem,seval,-List.reduceReplicate,K,E,B,A]<;>(repeat' (first | rfl | refine And.intro ?_ ?_))
         · first | exact .mk _ rfl | exact .mk [] rfl | (apply Later.mk;simp (disch:=first|exact za|fail) only [go_sem,seval,-List.reduceReplicate,zg,K,E,B,A];exact rfl) | (apply Later.mk;simp (disch:=first|exact za|fail) only [go_sem,seval,-List.reduceReplicate,zg,zw,List.append_assoc,K,E,B,A]<;>(try rfl))
       · have o2 : ∀ j,j < [(nth fs i).wk,(nth fs k).wk].length → CrtOk (nth [(nth fs i).wk,(nth fs k).wk] j):=fun j hj=>by
          match j with
          | 0=>exact zxh (hfc i (by omega))
          | 1=>exact zxh (hfc k (by omega))
          | j+2=>exact absurd hj (by simp)
         have hst:=zxj (l:=fs) hk
         have hs2:=zqp (a:=nth fs i) (b:=nth fs k)
         obtain⟨b,hb⟩ : ∃ b,b=smB [(nth fs i).wk,(nth fs k).wk]:=⟨_,rfl⟩
         rw [←hb] at hst hs2
         refine .q ?_;refine .text ?_;simp (disch:=first|exact za|fail) only [go_sem,seval,-List.reduceReplicate,K,E,B,A]
         refine .q ?_;refine .ifT (by simp (disch:=first|exact za|fail) only [go_sem,seval,-List.reduceReplicate]) ?_
         refine .q ?_;refine .open [10] follows (by kernel_rfl) ?_;simp (disch:=first|exact za|fail) only [go_sem,seval,-List.reduceReplicate,K,E,B,A,zxg]
         refine CallD.still (fun R h=>zaT [(nth fs i).wk,(nth fs k).wk] (by simp) o2 _ R h) ?_;simp (disch:=first|exact za|fail) only [go_sem,seval,-List.reduceReplicate,K,E,B,A,←hb]
         refine .q ?_;first | refine .cutF0 [5,6,8,11,12] [(10,.p (bo (prB fs i (k+1)))),(13,.p (bo b))] (fun ihP => ?_) (fun env T P => ?_) | refine .cutF [5,6,8,11,12] [(10,.p (bo (prB fs i (k+1)))),(13,.p (bo b))] [] (fun ihP => ?_) (fun env T P => ?_)
         rotate_left 1
         simp (disch:=first|exact za|fail) only [go_sem,seval,-List.reduceReplicate,K,E,B,A] at P
         rotate_left 1
         · cases hp:prB fs i k with
           | true =>
            rw [hp,Bool.true_and] at hst
            refine .q ?_;refine .text ?_;simp (disch:=first|exact za|fail) only [go_sem,seval,-List.reduceReplicate,K,E,B,A,hp]
            first | (refine ihP _ _ ?_ ?_) | (refine .z rfl ?_;refine ihP _ _ ?_ ?_) | (refine .z rfl ?_;refine .z rfl ?_;refine ihP _ _ ?_ ?_) | (refine .z rfl ?_;refine .z rfl ?_;refine .z rfl ?_;refine ihP _ _ ?_ ?_)
            · simp (disch:=first|exact za|fail) only [go_sem,seval,-List.reduceReplicate,K,E,B,A,hst]<;>(repeat' (first | rfl | refine And.intro ?_ ?_))
            · first | exact .mk _ rfl | exact .mk [] rfl | (apply Later.mk;simp (disch:=first|exact za|fail) only [go_sem,seval,-List.reduceReplicate,zg,K,E,B,A,hst];exact rfl) | (apply Later.mk;simp (disch:=first|exact za|fail) only [go_sem,seval,-List.reduceReplicate,zg,zw,List.append_assoc,K,E,B,A,hst]<;>(try rfl))
           | false =>
            rw [hp,Bool.false_and] at hst
            refine .q ?_;refine .text ?_;simp (disch:=first|exact za|fail) only [go_sem,seval,-List.reduceReplicate,K,E,B,A,hp]
            first | (refine ihP _ _ ?_ ?_) | (refine .z rfl ?_;refine ihP _ _ ?_ ?_) | (refine .z rfl ?_;refine .z rfl ?_;refine ihP _ _ ?_ ?_) | (refine .z rfl ?_;refine .z rfl ?_;refine .z rfl ?_;refine ihP _ _ ?_ ?_)
            · simp (disch:=first|exact za|fail) only [go_sem,seval,-List.reduceReplicate,K,E,B,A,hst]<;>(repeat' (first | rfl | refine And.intro ?_ ?_))
            · first | exact .mk _ rfl | exact .mk [] rfl | (apply Later.mk;simp (disch:=first|exact za|fail) only [go_sem,seval,-List.reduceReplicate,zg,K,E,B,A,hst];exact rfl) | (apply Later.mk;simp (disch:=first|exact za|fail) only [go_sem,seval,-List.reduceReplicate,zg,zw,List.append_assoc,K,E,B,A,hst]<;>(try rfl))
         · refine .q ?_;first | refine .cutF0 [5,6,8,10,11,12,13] [(14,.p (bo (decide ((nth fs i).key=(nth fs k).key))))] (fun ihQ => ?_) (fun env T Q => ?_) | refine .cutF [5,6,8,10,11,12,13] [(14,.p (bo (decide ((nth fs i).key=(nth fs k).key))))] [] (fun ihQ => ?_) (fun env T Q => ?_)
           rotate_left 1
           simp (disch:=first|exact za|fail) only [go_sem,seval,-List.reduceReplicate,P,K,E,B,A] at Q
           rotate_left 1
           · have hri:=(nth fs i).hr
             have hrk:=(nth fs k).hr
             have dr:zo Tryz.prog .eql 33 (.p (.agg (pl b8 (nth fs i).root))) (.p (.agg (pl b8 (nth fs k).root)))=some (.p (bo (decide ((nth fs i).root=(nth fs k).root)))):=ztJ (by rw [hri];kernel_rfl) (by rw [hri,hrk])
             have ki:=zzZ (a:=nth fs i) (b:=nth fs k)
             by_cases hq:(nth fs i).q=(nth fs k).q
             · have dq:decide ((nth fs i).q=(nth fs k).q)=true:=decide_eq_true hq
               by_cases hg:(nth fs i).log=(nth fs k).log
               · have dg:((nth fs i).log == (nth fs k).log)=true:=by simpa using hg
                 have dk:decide ((nth fs i).root=(nth fs k).root)=decide ((nth fs i).key=(nth fs k).key):=by
                  congr 1;exact propext ⟨fun e=>ki.2 ⟨hq,hg,e⟩,fun e=>(ki.1 e).2.2⟩
                 refine .q ?_;refine .open [37] follows (by kernel_rfl) ?_;simp (disch:=first|exact za|fail) only [go_sem,seval,-List.reduceReplicate,P,K,E,B,A,zo8,zo9,zhm,zev,dq,dg,dr,dk]
                 first | (refine ihQ _ _ ?_ ?_) | (refine .z rfl ?_;refine ihQ _ _ ?_ ?_) | (refine .z rfl ?_;refine .z rfl ?_;refine ihQ _ _ ?_ ?_) | (refine .z rfl ?_;refine .z rfl ?_;refine .z rfl ?_;refine ihQ _ _ ?_ ?_)
                 · simp (disch:=first|exact za|fail) only [go_sem,seval,-List.reduceReplicate,P,K,E,B,A]<;>(repeat' (first | rfl | refine And.intro ?_ ?_))
                 · first | exact .mk _ rfl | exact .mk [] rfl | (apply Later.mk;simp (disch:=first|exact za|fail) only [go_sem,seval,-List.reduceReplicate,zg,P,K,E,B,A];exact rfl) | (apply Later.mk;simp (disch:=first|exact za|fail) only [go_sem,seval,-List.reduceReplicate,zg,zw,List.append_assoc,P,K,E,B,A]<;>(try rfl))
               · have dg:((nth fs i).log == (nth fs k).log)=false:=by simpa using hg
                 have dk:decide ((nth fs i).key=(nth fs k).key)=false:=decide_eq_false fun e=>hg (ki.1 e).2.1
                 refine .q ?_;refine .open [37] follows (by kernel_rfl) ?_;simp (disch:=first|exact za|fail) only [go_sem,seval,-List.reduceReplicate,P,K,E,B,A,zo8,zo9,zhm,zev,dq,dg]
                 first | (refine ihQ _ _ ?_ ?_) | (refine .z rfl ?_;refine ihQ _ _ ?_ ?_) | (refine .z rfl ?_;refine .z rfl ?_;refine ihQ _ _ ?_ ?_) | (refine .z rfl ?_;refine .z rfl ?_;refine .z rfl ?_;refine ihQ _ _ ?_ ?_)
                 · simp (disch:=first|exact za|fail) only [go_sem,seval,-List.reduceReplicate,P,K,E,B,A,dk]<;>(repeat' (first | rfl | refine And.intro ?_ ?_))
                 · first | exact .mk _ rfl | exact .mk [] rfl | (apply Later.mk;simp (disch:=first|exact za|fail) only [go_sem,seval,-List.reduceReplicate,zg,P,K,E,B,A,dk];exact rfl) | (apply Later.mk;simp (disch:=first|exact za|fail) only [go_sem,seval,-List.reduceReplicate,zg,zw,List.append_assoc,P,K,E,B,A,dk]<;>(try rfl))
             · have dq:decide ((nth fs i).q=(nth fs k).q)=false:=decide_eq_false hq
               have dk:decide ((nth fs i).key=(nth fs k).key)=false:=decide_eq_false fun e=>hq (ki.1 e).1
               refine .q ?_;refine .open [37] follows (by kernel_rfl) ?_;simp (disch:=first|exact za|fail) only [go_sem,seval,-List.reduceReplicate,P,K,E,B,A,zo8,zo9,zhm,zev,dq]
               first | (refine ihQ _ _ ?_ ?_) | (refine .z rfl ?_;refine ihQ _ _ ?_ ?_) | (refine .z rfl ?_;refine .z rfl ?_;refine ihQ _ _ ?_ ?_) | (refine .z rfl ?_;refine .z rfl ?_;refine .z rfl ?_;refine ihQ _ _ ?_ ?_)
               · simp (disch:=first|exact za|fail) only [go_sem,seval,-List.reduceReplicate,P,K,E,B,A,dk]<;>(repeat' (first | rfl | refine And.intro ?_ ?_))
               · first | exact .mk _ rfl | exact .mk [] rfl | (apply Later.mk;simp (disch:=first|exact za|fail) only [go_sem,seval,-List.reduceReplicate,zg,P,K,E,B,A,dk];exact rfl) | (apply Later.mk;simp (disch:=first|exact za|fail) only [go_sem,seval,-List.reduceReplicate,zg,zw,List.append_assoc,P,K,E,B,A,dk]<;>(try rfl))
           · have hsi:=(hfc i (by omega)).sums
             have hsk:=(hfc k (by omega)).sums
             by_cases e:(nth fs i).key=(nth fs k).key
             · have de:decide ((nth fs i).key=(nth fs k).key)=true:=decide_eq_true e
               rw [de,Bool.not_true,Bool.false_or] at hs2
               have ds:(b == decide ((nth fs i).sums=(nth fs k).sums))=true:=by rw [hs2];simp
               refine .q ?_;refine .open [16] follows (by kernel_rfl) ?_;simp (disch:=first|exact za|fail) only [go_sem,seval,-List.reduceReplicate,Q,P,K,E,B,A,zjI,de]
               refine CallD.still (fun R h=>zl7 (nth fs i).sums (nth fs k).sums hsi hsk _ R h) ?_;simp (disch:=first|exact za|fail) only [go_sem,seval,-List.reduceReplicate,Q,P,K,E,B,A,ds]
               refine .q ?_;refine .ifF (by simp (disch:=first|exact za|fail) only [go_sem,seval,-List.reduceReplicate,ds,Bool.not_true]) ?_
               refine .skip ?_
               refine .q ?_;refine .text ?_;simp (disch:=first|exact za|fail) only [go_sem,seval,-List.reduceReplicate,Q,P,K,E,B,A]
               first | (refine ihK _ _ ?_ trivial ?_) | (refine .z rfl ?_;refine ihK _ _ ?_ trivial ?_) | (refine .z rfl ?_;refine .z rfl ?_;refine ihK _ _ ?_ trivial ?_) | (refine .z rfl ?_;refine .z rfl ?_;refine .z rfl ?_;refine ihK _ _ ?_ trivial ?_)
               · simp (disch:=first|exact za|fail) only [go_sem,seval,-List.reduceReplicate,Q,P,K,E,B,A]<;>(repeat' (first | rfl | refine And.intro ?_ ?_))
               · first | exact .mk _ rfl | exact .mk [] rfl | (apply Later.mk;simp (disch:=first|exact za|fail) only [go_sem,seval,-List.reduceReplicate,zg,Q,P,K,E,B,A];exact rfl) | (apply Later.mk;simp (disch:=first|exact za|fail) only [go_sem,seval,-List.reduceReplicate,zg,zw,List.append_assoc,Q,P,K,E,B,A]<;>(try rfl))
             · have de:decide ((nth fs i).key=(nth fs k).key)=false:=decide_eq_false e
               rw [de,Bool.not_false,Bool.true_or] at hs2
               refine .q ?_;refine .open [16] follows (by kernel_rfl) ?_;simp (disch:=first|exact za|fail) only [go_sem,seval,-List.reduceReplicate,Q,P,K,E,B,A,zjI,de,hs2]
               refine .q ?_;refine .ifF (by simp (disch:=first|exact za|fail) only [go_sem,seval,-List.reduceReplicate]) ?_
               refine .skip ?_
               refine .q ?_;refine .text ?_;simp (disch:=first|exact za|fail) only [go_sem,seval,-List.reduceReplicate,Q,P,K,E,B,A]
               first | (refine ihK _ _ ?_ trivial ?_) | (refine .z rfl ?_;refine ihK _ _ ?_ trivial ?_) | (refine .z rfl ?_;refine .z rfl ?_;refine ihK _ _ ?_ trivial ?_) | (refine .z rfl ?_;refine .z rfl ?_;refine .z rfl ?_;refine ihK _ _ ?_ trivial ?_)
               · simp (disch:=first|exact za|fail) only [go_sem,seval,-List.reduceReplicate,Q,P,K,E,B,A]<;>(repeat' (first | rfl | refine And.intro ?_ ?_))
               · first | exact .mk _ rfl | exact .mk [] rfl | (apply Later.mk;simp (disch:=first|exact za|fail) only [go_sem,seval,-List.reduceReplicate,zg,Q,P,K,E,B,A];exact rfl) | (apply Later.mk;simp (disch:=first|exact za|fail) only [go_sem,seval,-List.reduceReplicate,zg,zw,List.append_assoc,Q,P,K,E,B,A]<;>(try rfl))
end walks
end Go.Proofs.YtgflpgcogkdpgaaGreatDoor

/-
  The circuit that the reference makes of an arbitrary one.
-/
namespace Go.Proofs.YtgflpgcogkdpgaaGreatDoor
open Go Go.AL

theorem zaZ {H:Hp} {T:List AB} {x:AB}:(app H T).new x=app H (T++[x]):=by simp [app]
theorem zpd {α v sz:Nat} {l:List PV}:pvs? [.sl α v sz l]=some [.sl false sz l]:=rfl
attribute [go_sem] zpd
def mkG (g:Gate) (n:Int):Gate :=
 ⟨g.l % 256 % n,g.r % 256 % n,rdc g.c,rdc g.a,rdc g.b,rdc g.d⟩
section walks
variable {G:Globs}
theorem zeM (g:Gate) (n:Int) (hn:0 < n) (H:Hp) (R:AV → Hp → Prop) (h:R (.p (zaJ (mkG g n))) H):ACall Tryz.prog G 41 [.p (zaJ g),.p (i64 n)] H R:=by
 refine ACall.of_run (raw:=[]) Tryz.func41 rfl Tryz.ntmps41 (by simp) fun hbel => ?_
 refine .q ?_;refine .text ?_;simp (disch:=first|exact za|fail) only [go_sem,seval,-List.reduceReplicate]
 refine .q ?_;refine .open [23] follows (by kernel_rfl) ?_;simp (disch:=first|exact za|fail) only [go_sem,seval,-List.reduceReplicate]
 refine CallD.still (fun R h=>zax _ _ R h) ?_;simp (disch:=first|exact za|fail) only [go_sem,seval,-List.reduceReplicate]
 refine CallD.still (fun R h=>zax _ _ R h) ?_;simp (disch:=first|exact za|fail) only [go_sem,seval,-List.reduceReplicate]
 refine CallD.still (fun R h=>zax _ _ R h) ?_;simp (disch:=first|exact za|fail) only [go_sem,seval,-List.reduceReplicate]
 refine CallD.still (fun R h=>zax _ _ R h) ?_;simp (disch:=first|exact za|fail) only [go_sem,seval,-List.reduceReplicate]
 refine .q ?_;refine .rt Tryz.func41 (by rw [Tryz.results41]) (hR := ?_);simp (disch:=first|exact za|fail) only [go_sem,seval,-List.reduceReplicate]
 exact h
end walks
def mdM (c:Circ) (i:Nat):Nat:=if i < c.layers.length then min (nth c.layers i).length 4 else 0
def mdR (c:Circ) (i:Nat) (n:Int):List Gate:=if mdM c i=0 then [⟨0,0,0#64,1#64,0#64,0#64⟩] else tab (fun k=>mkG (nth (nth c.layers i) k) n) (mdM c i)
def mdI (c:Circ):Int:=1+c.inputs % 256 % 4
def mdL (c:Circ):Nat → List Gate
 | 0=>mdR c 0 (mdI c)
 | i+1=>mdR c (i+1) ((mdL c i).length:Int)
def mdW (c:Circ) (i:Nat):Int:=if i=0 then mdI c else ((mdL c (i - 1)).length:Int)
theorem zxm (c:Circ) (i:Nat):mdL c i=mdR c i (mdW c i):=by cases i<;>rfl
def mdN (c:Circ):Nat:=max 1 (min c.layers.length 2)
def ziC (c:Circ):Circ:=⟨mdI c,tab (mdL c) (mdN c),c.sums % 256 % (mdW c (mdN c)+1)⟩

theorem zz0 {c:Circ} {i:Nat} {n:Int}:1≤(mdR c i n).length∧(mdR c i n).length≤4:=by
 unfold mdR
 split
 · simp
 · rw [yL]
   have:mdM c i≤4:=by unfold mdM;split<;>omega
   omega
theorem zjM {c:Circ} {i:Nat}:1≤(mdL c i).length∧(mdL c i).length≤4:=by rw [zxm];exact zz0
theorem zqq {c:Circ} {i:Nat}:1≤mdW c i∧mdW c i≤4:=by
 unfold mdW
 split
 · unfold mdI;omega
 · have:=zjM (c:=c) (i:=i - 1);omega

def mdH (H:Hp) (c:Circ) (ls:List (List Gate)) (k:Nat):Hp :=
 ((((H.new (.cells (cc c))).new (.cells [.p (i64 2),.p (i64 4)])).new (.cells [.p (i64 0),.p (.sl true 1 []),.p (i64 0)])).new (.cells [.p (i64 (mdI c)),.sl (H.n+4) k 1 (pl (sle 6 zaJ) ls),.p (i64 0)])).new (.tail k)
theorem zpg {i s:Int}:zh (.p (.agg [i64 i,i64 s]))=some [.p (i64 i),.p (i64 s)]:=rfl
attribute [go_sem] zpg

section walks
variable {G:Globs}

set_option maxHeartbeats 8000000 in
theorem zhV (c:Circ) (hl:c.layers.length≤9223372036854775807) (hr : ∀ i,i < c.layers.length → (nth c.layers i).length≤9223372036854775807) (H:Hp) (R:AV → Hp → Prop) (h:R (.p (zbh (ziC c))) H) :
 ACall Tryz.prog G 23 [.p (zbh c),.p (.agg [i64 2,i64 4])] H R:=by
 refine ACall.of_run (raw:=[]) Tryz.func23 rfl Tryz.ntmps23 (by simp) fun hbel => ?_
 have hmi:mdI c=1+c.inputs % 256 % 4:=rfl
 refine .q ?_;refine .text ?_;simp (disch:=first|exact za|fail) only [go_sem,seval,-List.reduceReplicate]
 refine .q ?_;refine .text ?_;simp (disch:=first|exact za|fail) only [go_sem,seval,-List.reduceReplicate,←hmi]
 refine .q ?_;refine .ownC (H.n+3) 1 (by simp (disch:=first|exact za|fail) only [go_sem,seval,-List.reduceReplicate];rfl) (by rfl) ?_;simp (disch:=first|exact za|fail) only [go_sem,seval,-List.reduceReplicate,List.set_cons_zero,List.set_cons_succ]
 refine .q ?_;refine .text ?_;simp (disch:=first|exact za|fail) only [go_sem,seval,-List.reduceReplicate]
 refine .q ?_;refine .text ?_;simp (disch:=first|exact za|fail) only [go_sem,seval,-List.reduceReplicate]
 refine .q ?_
 refine .count (fun k env H'=>env 2 = .ptr H.n 0∧env 3 = .ptr (H.n+1) 0∧env 4 = .ptr (H.n+2) 0∧env 5 = .ptr (H.n+3) 0∧env 6 = .p (i64 (mdW c k))∧env 7 = .p (i64 k) ∧ ∃ T,H'=app (mdH H c (tab (mdL c) k) k) T) 0 (mdN c) (by omega) ?_ ?_ ?_
 · simp (disch:=first|exact za|fail) only [go_sem,seval,-List.reduceReplicate]
   exact⟨rfl,[],rfl⟩
 · intro env H' ⟨e2,e3,e4,e5,e6,e7,T,eH⟩
   subst eH
   have hw:=zqq (c:=c) (i:=mdN c)
   have hn:mdN c=max 1 (min c.layers.length 2):=rfl
   have hmx:max 1 (min ((c.layers.length:Nat):Int) 2)=(mdN c:Int):=by rw [hn];omega
   refine .q ?_;refine .text ?_;simp (disch:=first|exact za|fail) only [go_sem,seval,-List.reduceReplicate,e2,e3,e7,mdH,hmx]
   refine .q ?_;refine .ifF (by simp (disch:=first|exact za|fail) only [go_sem,seval,-List.reduceReplicate]) ?_
   refine .q ?_;refine .text ?_;simp (disch:=first|exact za|fail) only [go_sem,seval,-List.reduceReplicate,e2,e5,e6]
   refine .q ?_;refine .text ?_;simp (disch:=first|exact za|fail) only [go_sem,seval,-List.reduceReplicate,e4,e5]
   refine .q ?_;refine .rt Tryz.func23 (by rw [Tryz.results23]) (hx:=by simp (disch:=first|exact za|fail) only [go_sem,seval,-List.reduceReplicate,e4];rfl) (hR := ?_);simp (disch:=first|exact za|fail) only [go_sem,seval,-List.reduceReplicate,e4]
   exact h
 · intro k env H' _ hk ⟨e2,e3,e4,e5,e6,e7,T,eH⟩ ih
   subst eH
   have hw:=zqq (c:=c) (i:=k)
   have hn:mdN c=max 1 (min c.layers.length 2):=rfl
   have hmx:max 1 (min ((c.layers.length:Nat):Int) 2)=(mdN c:Int):=by rw [hn];omega
   have hm6:mdM c k≤4:=by unfold mdM;split<;>omega
   refine .q ?_;refine .text ?_;simp (disch:=first|exact za|fail) only [go_sem,seval,-List.reduceReplicate,e2,e3,e7,mdH,hmx]
   refine .q ?_;refine .ifT (by simp (disch:=first|exact za|fail) only [go_sem,seval,-List.reduceReplicate]) ?_
   refine .q ?_;refine .text ?_;simp (disch:=first|exact za|fail) only [go_sem,seval,-List.reduceReplicate]
   refine .q ?_;refine .own 8 (by simp (disch:=first|exact za|fail) only [go_sem,seval,-List.reduceReplicate];rfl) ?_
   refine .q ?_;refine .text ?_;simp (disch:=first|exact za|fail) only [go_sem,seval,-List.reduceReplicate]
   refine .q ?_
   refine .count (fun i env H'=>env 2 = .ptr H.n 0∧env 3 = .ptr (H.n+1) 0∧env 4 = .ptr (H.n+2) 0∧env 5 = .ptr (H.n+3) 0∧env 6 = .p (i64 (mdW c k))∧env 7 = .p (i64 k)∧env 8 = .sl (H.n+5+T.length) i 6 (pl zaJ (tab (fun j=>mkG (nth (nth c.layers k) j) (mdW c k)) i))∧env 9 = .p (i64 i)∧H'=(app (mdH H c (tab (mdL c) k) k) T).new (.tail i)) 0 (mdM c k) (by omega) ?_ ?_ ?_
   · simp (disch:=first|exact za|fail) only [go_sem,seval,-List.reduceReplicate,e2,e3,e4,e5,e6,e7,mdH]
     rfl
   · intro env H' ⟨e2,e3,e4,e5,e6,e7,e8,e9,eH⟩
     subst eH
     have hmm:mdM c k=if k < c.layers.length then min (nth c.layers k).length 4 else 0:=rfl
     have hL:=zxm c k
     have hll:=zjM (c:=c) (i:=k)
     have hWs:mdW c (k+1)=((mdL c k).length:Int):=rfl
     by_cases hkl:k < c.layers.length
     · rw [if_pos hkl] at hmm
       have hrk:=hr k hkl
       by_cases h2:mdM c k < (nth c.layers k).length
       · have h6:mdM c k=4:=by omega
         refine .q ?_;refine .text ?_;simp (disch:=first|exact za|fail) only [go_sem,seval,-List.reduceReplicate,e2,e3,e4,e5,e6,e7,e9,mdH]
         refine .q ?_;refine .ifF (by simp (disch:=first|exact za|fail) only [go_sem,seval,-List.reduceReplicate]) ?_
         refine .q ?_;refine .text ?_;simp (disch:=first|exact za|fail) only [go_sem,seval,-List.reduceReplicate,e8]
         refine .q ?_;refine .ifB (by simp (disch:=first|exact za|fail) only [go_sem,seval,-List.reduceReplicate];rfl) (fun hz => ?_) (fun hz => ?_)
         · cases hz
         · have h0 : ¬ mdM c k=0:=by omega
           have hLL:mdL c k=tab (fun j=>mkG (nth (nth c.layers k) j) (mdW c k)) (mdM c k):=by rw [hL,mdR,if_neg h0]
           refine .skip ?_
           refine .q ?_;refine .text ?_;simp (disch:=first|exact za|fail) only [go_sem,seval,-List.reduceReplicate,e2,e3,e4,e5,e6,e7,e8]
           refine .q ?_;refine .text ?_;simp (disch:=first|exact za|fail) only [go_sem,seval,-List.reduceReplicate,e8]
           refine .q ?_;refine .text ?_;simp (disch:=first|exact za|fail) only [go_sem,seval,-List.reduceReplicate,e2,e3,e4,e5,e6,e7]
           refine ih _ _ ?_
           simp (disch:=first|exact za|fail) only [go_sem,seval,-List.reduceReplicate,e2,e3,e4,e5,e6,e7,mdH,zN,hWs,hLL]
           first | exact⟨rfl,_,zaZ⟩ | exact⟨_,zaZ⟩
       · skip
         refine .q ?_;refine .text ?_;simp (disch:=first|exact za|fail) only [go_sem,seval,-List.reduceReplicate,e2,e3,e4,e5,e6,e7,e9,mdH]
         refine .q ?_;refine .ifF (by simp (disch:=first|exact za|fail) only [go_sem,seval,-List.reduceReplicate]) ?_
         refine .q ?_;refine .text ?_;simp (disch:=first|exact za|fail) only [go_sem,seval,-List.reduceReplicate,e8]
         refine .q ?_;refine .ifB (by simp (disch:=first|exact za|fail) only [go_sem,seval,-List.reduceReplicate];rfl) (fun hz => ?_) (fun hz => ?_)
         · have h0:mdM c k=0:=by first | omega | (have:=eq_of_beq hz;omega)
           have hLL:mdL c k=[⟨0,0,0#64,1#64,0#64,0#64⟩]:=by rw [hL,mdR,if_pos h0]
           rw [h0] at e8 ⊢
           refine .q ?_;refine .text ?_;simp (disch:=first|exact za|fail) only [go_sem,seval,-List.reduceReplicate,e8,zcl]
           refine .q ?_;refine .text ?_;simp (disch:=first|exact za|fail) only [go_sem,seval,-List.reduceReplicate,e2,e3,e4,e5,e6,e7]
           refine .q ?_;refine .text ?_;simp (disch:=first|exact za|fail) only [go_sem,seval,-List.reduceReplicate]
           refine .q ?_;refine .text ?_;simp (disch:=first|exact za|fail) only [go_sem,seval,-List.reduceReplicate,e2,e3,e4,e5,e6,e7]
           refine ih _ _ ?_
           simp (disch:=first|exact za|fail) only [go_sem,seval,-List.reduceReplicate,e2,e3,e4,e5,e6,e7,mdH,zN,hWs,hLL]
           first | exact⟨rfl,_,zaZ⟩ | exact⟨_,zaZ⟩
         · have h0 : ¬ mdM c k=0:=fun e=>by first | (rw [e] at hz;simp at hz;done) | cases hz
           have hLL:mdL c k=tab (fun j=>mkG (nth (nth c.layers k) j) (mdW c k)) (mdM c k):=by rw [hL,mdR,if_neg h0]
           refine .skip ?_
           refine .q ?_;refine .text ?_;simp (disch:=first|exact za|fail) only [go_sem,seval,-List.reduceReplicate,e2,e3,e4,e5,e6,e7,e8]
           refine .q ?_;refine .text ?_;simp (disch:=first|exact za|fail) only [go_sem,seval,-List.reduceReplicate,e8]
           refine .q ?_;refine .text ?_;simp (disch:=first|exact za|fail) only [go_sem,seval,-List.reduceReplicate,e2,e3,e4,e5,e6,e7]
           refine ih _ _ ?_
           simp (disch:=first|exact za|fail) only [go_sem,seval,-List.reduceReplicate,e2,e3,e4,e5,e6,e7,mdH,zN,hWs,hLL]
           first | exact⟨rfl,_,zaZ⟩ | exact⟨_,zaZ⟩
     · skip
       refine .q ?_;refine .text ?_;simp (disch:=first|exact za|fail) only [go_sem,seval,-List.reduceReplicate,e2,e3,e4,e5,e6,e7,e9,mdH]
       refine .q ?_;refine .ifF (by simp (disch:=first|exact za|fail) only [go_sem,seval,-List.reduceReplicate]) ?_
       refine .q ?_;refine .text ?_;simp (disch:=first|exact za|fail) only [go_sem,seval,-List.reduceReplicate,e8]
       refine .q ?_;refine .ifB (by simp (disch:=first|exact za|fail) only [go_sem,seval,-List.reduceReplicate];rfl) (fun hz => ?_) (fun hz => ?_)
       · have h0:mdM c k=0:=by first | omega | (have:=eq_of_beq hz;omega)
         have hLL:mdL c k=[⟨0,0,0#64,1#64,0#64,0#64⟩]:=by rw [hL,mdR,if_pos h0]
         rw [h0] at e8 ⊢
         refine .q ?_;refine .text ?_;simp (disch:=first|exact za|fail) only [go_sem,seval,-List.reduceReplicate,e8,zcl]
         refine .q ?_;refine .text ?_;simp (disch:=first|exact za|fail) only [go_sem,seval,-List.reduceReplicate,e2,e3,e4,e5,e6,e7]
         refine .q ?_;refine .text ?_;simp (disch:=first|exact za|fail) only [go_sem,seval,-List.reduceReplicate]
         refine .q ?_;refine .text ?_;simp (disch:=first|exact za|fail) only [go_sem,seval,-List.reduceReplicate,e2,e3,e4,e5,e6,e7]
         refine ih _ _ ?_
         simp (disch:=first|exact za|fail) only [go_sem,seval,-List.reduceReplicate,e2,e3,e4,e5,e6,e7,mdH,zN,hWs,hLL]
         first | exact⟨rfl,_,zaZ⟩ | exact⟨_,zaZ⟩
       · have h0 : ¬ mdM c k=0:=fun e=>by first | (rw [e] at hz;simp at hz;done) | cases hz
         have hLL:mdL c k=tab (fun j=>mkG (nth (nth c.layers k) j) (mdW c k)) (mdM c k):=by rw [hL,mdR,if_neg h0]
         refine .skip ?_
         refine .q ?_;refine .text ?_;simp (disch:=first|exact za|fail) only [go_sem,seval,-List.reduceReplicate,e2,e3,e4,e5,e6,e7,e8]
         refine .q ?_;refine .text ?_;simp (disch:=first|exact za|fail) only [go_sem,seval,-List.reduceReplicate,e8]
         refine .q ?_;refine .text ?_;simp (disch:=first|exact za|fail) only [go_sem,seval,-List.reduceReplicate,e2,e3,e4,e5,e6,e7]
         refine ih _ _ ?_
         simp (disch:=first|exact za|fail) only [go_sem,seval,-List.reduceReplicate,e2,e3,e4,e5,e6,e7,mdH,zN,hWs,hLL]
         first | exact⟨rfl,_,zaZ⟩ | exact⟨_,zaZ⟩
   · intro i env H' _ hi ⟨e2,e3,e4,e5,e6,e7,e8,e9,eH⟩ ih
     subst eH
     have hmm:mdM c k=if k < c.layers.length then min (nth c.layers k).length 4 else 0:=rfl
     have hkl:k < c.layers.length:=by
      by_cases h:k < c.layers.length
      · exact h
      · rw [if_neg h] at hmm;omega
     rw [if_pos hkl] at hmm
     have hrk:=hr k hkl
     refine .q ?_;refine .text ?_;simp (disch:=first|exact za|fail) only [go_sem,seval,-List.reduceReplicate,e2,e3,e4,e5,e6,e7,e9,mdH]
     refine .q ?_;refine .ifT (by simp (disch:=first|exact za|fail) only [go_sem,seval,-List.reduceReplicate]) ?_
     refine .q ?_;refine .text ?_;simp (disch:=first|exact za|fail) only [go_sem,seval,-List.reduceReplicate,e2,e3,e4,e5,e6,e7,e8,e9]
     refine CallK.of (fun R h=>zeM _ _ (by omega) _ R h) ?_;simp (disch:=first|exact za|fail) only [go_sem,seval,-List.reduceReplicate]
     refine .q ?_;refine .text ?_;simp (disch:=first|exact za|fail) only [go_sem,seval,-List.reduceReplicate,e9]
     refine ih _ _ ?_
     simp (disch:=first|exact za|fail) only [go_sem,seval,-List.reduceReplicate,e2,e3,e4,e5,e6,e7,e8,e9,mdH,zN]
end walks
end Go.Proofs.YtgflpgcogkdpgaaGreatDoor

/-
  Audits: the law of bounds,walked.
-/
namespace Go.Proofs.YtgflpgcogkdpgaaGreatDoor
open Go Go.AL

theorem zEg (c:Circ):Cn (ziC c) (mdI c).toNat:=by
 have h1:1≤mdI c∧mdI c≤4:=by unfold mdI;omega
 have hL:(ziC c).layers.length=mdN c:=yL
 have hN:mdN c≤2:=by unfold mdN;omega
 refine⟨by show mdI c=_;omega,by omega,by omega,fun k hk => ?_⟩
 rw [hL] at hk
 rw [show (ziC c).layers=tab (mdL c) (mdN c) from rfl,yy hk]
 have:=zjM (c:=c) (i:=k);omega
section bounds
variable {N:Int}
theorem zEh (h:0≤N∧N≤3000000):zd4 (53*(2*N+3)+8*(20*N+64)+400) (2*N+3) (20*N+64) N=true:=by
 simp only [zd4,inL,Bool.and_eq_true,decide_eq_true_eq];omega
theorem zz1 (h:0≤N∧N≤3000000):zd4 0 0 0 N=true:=by
 simp only [zd4,inL,Bool.and_eq_true,decide_eq_true_eq];omega
theorem zEU (h:0≤N∧N≤3000000):zd4 (53*(2*N+3)+8*(20*N+64)+400+1) (2*N+3) (20*N+64) N=false:=by
 simp only [zd4,inL,Bool.and_eq_false_iff,decide_eq_false_iff_not];omega
theorem zEV (h:0≤N∧N≤3000000):zd4 (53*(2*N+3)+8*(20*N+64)+400) (2*N+3+1) (20*N+64) N=false:=by
 simp only [zd4,inL,Bool.and_eq_false_iff,decide_eq_false_iff_not];omega
theorem zEW (h:0≤N∧N≤3000000):zd4 (53*(2*N+3)+8*(20*N+64)+400) (2*N+3) (20*N+64+1) N=false:=by
 simp only [zd4,inL,Bool.and_eq_false_iff,decide_eq_false_iff_not];omega
end bounds
theorem zEX (z:BitVec 8):z % 3#8=0#8 ∨ z % 3#8=1#8 ∨ z % 3#8=2#8:=by
 have : ∀ z:BitVec 8,z % 3#8=0#8 ∨ z % 3#8=1#8 ∨ z % 3#8=2#8:=by decide +kernel
 exact this z
section walks
variable {G:Globs} {r1 r2:Nat} {m1:List (Int × Rule)} {m2:List (Int × Int)}
set_option maxHeartbeats 2000000 in
set_option maxRecDepth 20000 in
theorem zms (g:GR G r1 r2 m1 m2) (c:Circ) (hl:c.layers.length≤9223372036854775807) (hr : ∀ i,i < c.layers.length → (nth c.layers i).length≤9223372036854775807) (z y:BitVec 8) (H:Hp) (R:AV → Hp → Prop) (h:R (.p (bo true)) H):ACall Tryz.prog G 7 [.p (zbh c),.p (b8 z),.p (b8 y)] H R:=by
 have hcn:=zEg c
 obtain⟨d,hd⟩ : ∃ d,d=ziC c:=⟨_,rfl⟩
 rw [←hd] at hcn
 have hk0:0≤((z % 4#8).toNat:Int)∧((z % 4#8).toNat:Int)≤1000:=by have:=(z % 4#8).isLt;omega
 generalize hkk:((z % 4#8).toNat:Int)=k at hk0
 have hN:=zl4 hcn hk0
 generalize hNN:zcI d (mdI c).toNat k=N at hN
 have w1:=zEh hN
 have w0:=zz1 hN
 have r4:zo Tryz.prog .rem 5 (.p (b8 z)) (.p (b8 4#8))=some (.p (b8 (z % 4#8))):=zdU _ _ _ _ (by decide)
 have r3:zo Tryz.prog .rem 5 (.p (b8 y)) (.p (b8 3#8))=some (.p (b8 (y % 3#8))):=zdU _ _ _ _ (by decide)
 refine ACall.of_run (raw:=[]) Tryz.func7 rfl Tryz.ntmps7 (by simp) fun hbel => ?_
 refine .q ?_;refine .text ?_;simp (disch:=first|exact za|fail) only [go_sem,seval,-List.reduceReplicate]
 refine .q ?_;refine .text ?_;simp (disch:=first|exact za|fail) only [go_sem,seval,-List.reduceReplicate]
 refine CallK.of (fun R h=>zdn g _ R h) ?_;simp (disch:=first|exact za|fail) only [go_sem,seval,-List.reduceReplicate]
 refine .q ?_;refine .text ?_;simp (disch:=first|exact za|fail) only [go_sem,seval,-List.reduceReplicate]
 refine CallK.of (fun R h=>zhV c hl hr _ R h) ?_
 rw [show zbh (ziC c)=zbh d by rw [hd]]
 simp (disch:=first|exact za|fail) only [go_sem,seval,-List.reduceReplicate]
 refine .q ?_;refine .text ?_;simp (disch:=first|exact za|fail) only [go_sem,seval,-List.reduceReplicate,hkk,r4]
 refine .q ?_;refine .text ?_;simp (disch:=first|exact za|fail) only [go_sem,seval,-List.reduceReplicate]
 refine CallK.of (fun R h=>zjD d _ hcn k hk0 _ R h) ?_;simp (disch:=first|exact za|fail) only [go_sem,seval,-List.reduceReplicate,hNN]
 refine .q ?_;refine .text ?_;simp (disch:=first|exact za|fail) only [go_sem,seval,-List.reduceReplicate]
 refine .q ?_;refine .text ?_;simp (disch:=first|exact za|fail) only [go_sem,seval,-List.reduceReplicate]
 refine .q ?_;refine .text ?_;simp (disch:=first|exact za|fail) only [go_sem,seval,-List.reduceReplicate]
 refine CallK.of (fun R h=>yF _ _ _ d _ hcn k hk0 _ R h) ?_;simp (disch:=first|exact za|fail) only [go_sem,seval,-List.reduceReplicate,hNN,w1]
 refine CallK.of (fun R h=>yF 0 0 0 d _ hcn k hk0 _ R h) ?_;simp (disch:=first|exact za|fail) only [go_sem,seval,-List.reduceReplicate,hNN,w0]
 refine .q ?_;refine .ifF (by simp (disch:=first|exact za|fail) only [go_sem,seval,-List.reduceReplicate]) ?_
 refine .skip ?_
 rcases zEX y with e | e | e
 · rw [e] at r3
   refine .q ?_;refine .text ?_;simp (disch:=first|exact za|fail) only [go_sem,seval,-List.reduceReplicate,r3]
   refine .q ?_;refine .ifT (by simp (disch:=first|exact za|fail) only [go_sem,seval,-List.reduceReplicate]) ?_
   refine .q ?_;refine .text ?_;simp (disch:=first|exact za|fail) only [go_sem,seval,-List.reduceReplicate]
   refine .q ?_;refine .text ?_;simp (disch:=first|exact za|fail) only [go_sem,seval,-List.reduceReplicate,r3]
   refine .q ?_;refine .ifF (by simp (disch:=first|exact za|fail) only [go_sem,seval,-List.reduceReplicate]) ?_
   refine .skip ?_
   refine .q ?_;refine .text ?_;simp (disch:=first|exact za|fail) only [go_sem,seval,-List.reduceReplicate,r3]
   refine .q ?_;refine .ifF (by simp (disch:=first|exact za|fail) only [go_sem,seval,-List.reduceReplicate]) ?_
   refine .skip ?_
   refine .q ?_;refine .text ?_;simp (disch:=first|exact za|fail) only [go_sem,seval,-List.reduceReplicate]
   refine CallK.of (fun R h=>yF _ _ _ d _ hcn k hk0 _ R h) ?_;simp (disch:=first|exact za|fail) only [go_sem,seval,-List.reduceReplicate,hNN,zEU hN]
   refine .q ?_;refine .rt Tryz.func7 (by rw [Tryz.results7]) (hR := ?_);simp (disch:=first|exact za|fail) only [go_sem,seval,-List.reduceReplicate]
   exact h
 · rw [e] at r3
   refine .q ?_;refine .text ?_;simp (disch:=first|exact za|fail) only [go_sem,seval,-List.reduceReplicate,r3]
   refine .q ?_;refine .ifF (by simp (disch:=first|exact za|fail) only [go_sem,seval,-List.reduceReplicate]) ?_
   refine .skip ?_
   refine .q ?_;refine .text ?_;simp (disch:=first|exact za|fail) only [go_sem,seval,-List.reduceReplicate,r3]
   refine .q ?_;refine .ifT (by simp (disch:=first|exact za|fail) only [go_sem,seval,-List.reduceReplicate]) ?_
   refine .q ?_;refine .text ?_;simp (disch:=first|exact za|fail) only [go_sem,seval,-List.reduceReplicate]
   refine .q ?_;refine .text ?_;simp (disch:=first|exact za|fail) only [go_sem,seval,-List.reduceReplicate,r3]
   refine .q ?_;refine .ifF (by simp (disch:=first|exact za|fail) only [go_sem,seval,-List.reduceReplicate]) ?_
   refine .skip ?_
   refine .q ?_;refine .text ?_;simp (disch:=first|exact za|fail) only [go_sem,seval,-List.reduceReplicate]
   refine CallK.of (fun R h=>yF _ _ _ d _ hcn k hk0 _ R h) ?_;simp (disch:=first|exact za|fail) only [go_sem,seval,-List.reduceReplicate,hNN,zEV hN]
   refine .q ?_;refine .rt Tryz.func7 (by rw [Tryz.results7]) (hR := ?_);simp (disch:=first|exact za|fail) only [go_sem,seval,-List.reduceReplicate]
   exact h
 · rw [e] at r3
   refine .q ?_;refine .text ?_;simp (disch:=first|exact za|fail) only [go_sem,seval,-List.reduceReplicate,r3]
   refine .q ?_;refine .ifF (by simp (disch:=first|exact za|fail) only [go_sem,seval,-List.reduceReplicate]) ?_
   refine .skip ?_
   refine .q ?_;refine .text ?_;simp (disch:=first|exact za|fail) only [go_sem,seval,-List.reduceReplicate,r3]
   refine .q ?_;refine .ifF (by simp (disch:=first|exact za|fail) only [go_sem,seval,-List.reduceReplicate]) ?_
   refine .skip ?_
   refine .q ?_;refine .text ?_;simp (disch:=first|exact za|fail) only [go_sem,seval,-List.reduceReplicate,r3]
   refine .q ?_;refine .ifT (by simp (disch:=first|exact za|fail) only [go_sem,seval,-List.reduceReplicate]) ?_
   refine .q ?_;refine .text ?_;simp (disch:=first|exact za|fail) only [go_sem,seval,-List.reduceReplicate]
   refine .q ?_;refine .text ?_;simp (disch:=first|exact za|fail) only [go_sem,seval,-List.reduceReplicate]
   refine CallK.of (fun R h=>yF _ _ _ d _ hcn k hk0 _ R h) ?_;simp (disch:=first|exact za|fail) only [go_sem,seval,-List.reduceReplicate,hNN,zEW hN]
   refine .q ?_;refine .rt Tryz.func7 (by rw [Tryz.results7]) (hR := ?_);simp (disch:=first|exact za|fail) only [go_sem,seval,-List.reduceReplicate]
   exact h
end walks
end Go.Proofs.YtgflpgcogkdpgaaGreatDoor
