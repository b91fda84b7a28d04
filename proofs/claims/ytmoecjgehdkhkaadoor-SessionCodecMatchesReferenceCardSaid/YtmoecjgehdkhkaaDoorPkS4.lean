/-
  Sessions: the reference's messages for the laws.
-/
import Derived.Test.YtmoecjgehdkhkaaDoorPkS3
import Derived.WideKeyElems2
import Derived.LaidHandle
import Derived.Test.YtmoecjgehdkhkaaDoorCards
import Derived.Test.YtmoecjgehdkhkaaDoorTie
import Derived.LaidMore
import Derived.Deep.DeepWitnessRowRef
set_option linter.unusedSimpArgs false
set_option linter.unusedVariables false
namespace Go.Proofs.YtmoecjgehdkhkaaDoor
open Go Go.AL

theorem bytesOf_app {a b:By}:bytesOf a++bytesOf b=bytesOf (a++b):=by
 apply ByteArray.ext
 simp [bytesOf,ByteArray.data_append]
theorem bytesOf_take {a:By} {n:Nat}:(bytesOf a).extract 0 n=bytesOf (a.take n):=by
 apply ByteArray.ext
 simp [bytesOf,ByteArray.data_extract]
theorem add_str {P:Program} {t:TypeId} {a b:By} (h:a.length+b.length≤9223372036854775807):aBin P .add t (.p (str (bytesOf a))) (.p (str (bytesOf b)))=some (.p (str (bytesOf (a++b)))):=by
 have h1 : ¬ (((bytesOf a).size+(bytesOf b).size:Nat):Int) > IntKind.i64.max:=by
  rw [bytesOf_size,bytesOf_size];show ¬ (_ > (9223372036854775807:Int));omega
 simp only [aBin,str,vBin,isShift,vStr,Bool.false_eq_true,if_false,h1,Option.map_some,bytesOf_app]
def mV (k s t:Int) (tx r:By) (x y:PV):PV := .agg ([i64 k,i64 s,i64 t,str (bytesOf tx)]++(pl b8 r++[x,y]))
section mv
variable {k s t:Int} {tx r:By} {x y:PV}
theorem mV_agg:mkAgg (mG k s t tx r (.p x) (.p y)) = .p (mV k s t tx r x y):=by
 have:mG k s t tx r (.p x) (.p y)=([i64 k,i64 s,i64 t,str (bytesOf tx)]++(pl b8 r++[x,y])).map .p:=by simp [mG,cl,pl]
 rw [this,mkAgg,pvs_p]
 rfl
theorem mG_get0 {S V:AV}:(mG k s t tx r S V)[0]? = some (.p (i64 k)):=rfl
theorem mV_cells:acells (.p (mV k s t tx r x y))=some (mG k s t tx r (.p x) (.p y)):=by
 show some ((_:List PV).map AV.p)=_
 simp [mG,cl,pl]
theorem mV_weak (h:r.length=32) {su:List Int} {va:List Ext} (hx:x.weak1 = .sl false 1 (pl i64 su)) (hy:y.weak1 = .sl false 2 (pl ext va)):(mV k s t tx r x y).weak=msg ⟨k,s,t,tx,⟨r,h⟩,su,va⟩:=by
 show PV.agg (List.map PV.weak1 _)=_
 rw [List.map_append,List.map_append,pvweak1_map (l:=pl b8 _) fun x hx=>by simp only [pl,List.mem_map] at hx;obtain ⟨y,_,rfl⟩:=hx;rfl]
 simp only [List.map_cons,List.map_nil,hx,hy]
 rfl
end mv
theorem bin_mask2_i64 (P:Program) (t:TypeId) (x:Int):aBin P .and t (.p (i64 x)) (.p (i64 3))=some (.p (i64 (x % 4))):=bin_mask_i64 P t x 2 (by omega)
def mk0 (m:Msg) (n:Nat):Int:=nth (if 4≤n then [4,4,6,7] else [4,4,4,7]) (m.kind % 4).toNat
def mk2 (m:Msg) (n:Nat):Int:=if n=0 then 1 else if n=1 then 2 else if n=3 then 3 else if n % 2=1 then 5 else mk0 m n
def made29 (m:Msg) (n:Nat):Msg :=
 if mk2 m n=1 then ⟨1,m.session % 65536,n,113#8 :: m.text.take 50,m.root,[],[]⟩
 else if mk2 m n=3 then ⟨3,m.session % 65536,n,[],m.root,m.sums.take 10,[]⟩
 else if mk2 m n=4 then ⟨4,m.session % 65536,n,[],m.root,[],madeL m.values 1⟩
 else if mk2 m n=5 then ⟨5,m.session % 65536,n,[],m.root,[],madeL m.values (min m.values.length 6)⟩
 else ⟨mk2 m n,m.session % 65536,n,[],m.root,[],[]⟩
def mB (H:Hp) (m:Msg) (kl:List Int):Hp:=((H.new (.cells (mcl m))).new (.cells mZ)).new (.cells (cl i64 kl))
def mH (H:Hp) (m:Msg) (kl:List Int) (mc:List AV):Hp:=(mB H m kl).new (.cells mc)
theorem mZ_set4 {k s t:Int} {r:By} (hr:r.length=32):setAt (((mZ.set 0 (.p (i64 k))).set 1 (.p (i64 s))).set 2 (.p (i64 t))) 4 (cl b8 r)=mG k s t [] r (.p (.sl true 1 [])) (.p (.sl true 2 [])):=by
 rw [mZ,mG_set0,mG_set1,mG_set2,mG_setR List.length_replicate hr]
section mh
variable {H:Hp} {m:Msg} {kl:List Int} {mc mc':List AV}
theorem mB_n:(mB H m kl).n=H.n+3:=by simp [mB,Hp.n_new]
theorem mB_f0:(mB H m kl).f H.n=some (.cells (mcl m)):=by simp (disch:=first|exact dsc|fail) only [mB,go_sem,seval]
theorem mB_f2:(mB H m kl).f (H.n+2)=some (.cells (cl i64 kl)):=by simp (disch:=first|exact dsc|fail) only [mB,go_sem,seval]
theorem mB_set2 {kl':List Int}:(mB H m kl).set (H.n+2) (.cells (cl i64 kl'))=mB H m kl':=by simp (disch:=first|exact dsc|fail) only [mB,go_sem,seval]
theorem mH_n:(mH H m kl mc).n=H.n+4:=by simp [mH,mB_n,Hp.n_new]
theorem mH_f0:(mH H m kl mc).f H.n=some (.cells (mcl m)):=by simp (disch:=first|exact dsc|fail) only [mH,mB,go_sem,seval]
theorem mH_f1:(mH H m kl mc).f (H.n+1)=some (.cells mZ):=by simp (disch:=first|exact dsc|fail) only [mH,mB,go_sem,seval]
theorem mH_f3:(mH H m kl mc).f (H.n+3)=some (.cells mc):=by simp (disch:=first|exact dsc|fail) only [mH,mB,go_sem,seval]
theorem mH_set3:(mH H m kl mc).set (H.n+3) (.cells mc')=mH H m kl mc':=by simp (disch:=first|exact dsc|fail) only [mH,mB,go_sem,seval]
theorem mH_trunc:(mH H m kl mc).trunc H.n=H:=by simp (disch:=first|exact dsc|fail) only [mH,mB,go_sem,seval]
theorem mH_bel (h:Bel H.n H):Bel H.n (mH H m kl mc):=by
 unfold mH mB
 exact bel_new (bel_new (bel_new (bel_new h (Nat.le_refl _)) (by simp only [n_new'];omega)) (by simp only [n_new'];omega)) (by simp only [n_new'];omega)
def mX (H:Hp) (m:Msg) (kl:List Int) (o:Option (List AV)):Hp:=match o with | none=>mB H m kl | some mc=>mH H m kl mc
theorem mX_none:mX H m kl none=mB H m kl:=rfl
theorem mX_f0 {o:Option (List AV)}:(mX H m kl o).f H.n=some (.cells (mcl m)):=by cases o<;>first | exact mB_f0 | exact mH_f0
theorem mX_f2 {o:Option (List AV)}:(mX H m kl o).f (H.n+2)=some (.cells (cl i64 kl)):=by
 cases o with
 | none=>exact mB_f2
 | some mc=>show ((mB H m kl).new _).f _=_;rw [Hp.f_new_old _ _ _ (by rw [mB_n];omega)];exact mB_f2
theorem mX_n:(mX H m kl none).n=H.n+3:=mB_n
theorem mX_new:(mX H m kl none).new (.cells mc)=mX H m kl (some mc):=rfl
theorem mX_f3:(mX H m kl (some mc)).f (H.n+3)=some (.cells mc):=mH_f3
theorem mX_set3:(mX H m kl (some mc)).set (H.n+3) (.cells mc')=mX H m kl (some mc'):=mH_set3
end mh
attribute [go_sem] mX_f0 mX_f2 mX_n mX_new mX_f3 mX_set3
attribute [go_sem] mB_set2 mB_n mB_f0 mB_f2 mH_n mH_f0 mH_f1 mH_f3 mH_set3 mH_trunc
section walks
variable {G:Globs}
set_option maxHeartbeats 8000000 in
set_option maxRecDepth 20000 in
theorem Made29_spec (m:Msg) (hm:m.Ok) (n:Nat) (hn:n≤255) (H:Hp) (R:AV → Hp → Prop) (h:R (.p (msg (made29 m n))) H):ACall Tryd.prog G 8 [.p (msg m),.p (i64 n)] H R:=by
 have hrl:=m.root.len
 have ht:=hm.text
 have hsu:=hm.sums
 have hva:=hm.values
 refine ACall.of_run (raw:=[]) Tryd.func8 rfl Tryd.ntmps8 (by simp) fun hbel => ?_
 (repeat refine .z rfl ?_);refine .text ?_;simp (disch:=first|exact dsc|fail) only [go_sem,seval,-List.reduceReplicate]
 repeat refine .z rfl ?_;refine .region ?_
 refine .buildRow (sz:=1) (cs:=cl i64 [4,4,4,7]) (by simp (disch:=first|exact dsc|fail) only [go_sem,seval,-List.reduceReplicate,aBuildSliceG,catCells]<;>rfl) (by rfl) ?_
 refine .run ?_
 simp (disch:=first|exact dsc|fail) only [go_sem,seval,-List.reduceReplicate]
 change ARun _ _ _ (mB H m [4,4,4,7]) R
 (repeat refine .z rfl ?_);refine .text ?_;simp (disch:=first|exact dsc|fail) only [go_sem,seval,-List.reduceReplicate]
 (repeat refine .z rfl ?_);refine .cutH [1,2,4,5] [] (mB H m (if 4≤n then [4,4,6,7] else [4,4,4,7])) (fun ihE => ?_) (fun env E => ?_)
 rotate_left 1
 simp (disch:=first|exact dsc|fail) only [go_sem,seval,-List.reduceReplicate] at E
 rotate_left 1
 · by_cases c:4≤n
   · have d:decide ((4:Int)≤(n:Int))=true:=decide_eq_true (by omega)
     rw [if_pos c] at ihE
     have hset:([4,4,4,7]:List Int).set 2 6=[4,4,6,7]:=rfl
     (repeat refine .z rfl ?_);refine .ifT (by simp (disch:=first|exact dsc|fail) only [go_sem,seval,-List.reduceReplicate,d]) ?_
     (repeat refine .z rfl ?_);refine .text ?_;simp (disch:=first|exact dsc|fail) only [go_sem,seval,-List.reduceReplicate]
     first | (refine ihE _ _ ?_ ?_) | (refine .z rfl ?_;refine ihE _ _ ?_ ?_) | (refine .z rfl ?_;refine .z rfl ?_;refine ihE _ _ ?_ ?_) | (refine .z rfl ?_;refine .z rfl ?_;refine .z rfl ?_;refine ihE _ _ ?_ ?_)
     · simp (disch:=first|exact dsc|fail) only [go_sem,seval,-List.reduceReplicate,hset]<;>(repeat' (first | rfl | refine And.intro ?_ ?_))
     · first | rfl | (simp (disch:=first|exact dsc|fail) only [go_sem,seval,-List.reduceReplicate,hset]<;>(try rfl))
   · have d:decide ((4:Int)≤(n:Int))=false:=decide_eq_false (by omega)
     rw [if_neg c] at ihE
     (repeat refine .z rfl ?_);refine .ifF (by simp (disch:=first|exact dsc|fail) only [go_sem,seval,-List.reduceReplicate,d]) ?_
     refine .skip ?_
     first | (refine ihE _ _ ?_ ?_) | (refine .z rfl ?_;refine ihE _ _ ?_ ?_) | (refine .z rfl ?_;refine .z rfl ?_;refine ihE _ _ ?_ ?_) | (refine .z rfl ?_;refine .z rfl ?_;refine .z rfl ?_;refine ihE _ _ ?_ ?_)
     · simp (disch:=first|exact dsc|fail) only [go_sem,seval,-List.reduceReplicate]<;>(repeat' (first | rfl | refine And.intro ?_ ?_))
     · first | rfl | (simp (disch:=first|exact dsc|fail) only [go_sem,seval,-List.reduceReplicate]<;>(try rfl))
 · have hk0:mk0 m n=nth (if 4≤n then [4,4,6,7] else [4,4,4,7]) (m.kind % 4).toNat:=rfl
   have hkl:(if 4≤n then [4,4,6,7] else [4,4,4,7]:List Int).length=4:=by split<;>rfl
   generalize (if 4≤n then [4,4,6,7] else [4,4,4,7]:List Int)=kl at *
   have hi0:0≤m.kind % 4:=by omega
   obtain ⟨ki,hki⟩ : ∃ ki:Nat,m.kind % 4=(ki:Int):=⟨(m.kind % 4).toNat,by omega⟩
   have hki4:ki < 4:=by omega
   rw [hki,Int.toNat_natCast] at hk0
   rw [←mX_none]
   have hzl:mZ.length=38:=rfl
   have hgl:(mG (nth kl ki) (m.session % 65536) n [] m.root.val (.p (.sl true 1 [])) (.p (.sl true 2 []))).length=38:=mG_len hrl
   have hzd:AV.p (i64 0) :: AV.p (i64 0) :: AV.p (i64 0) :: AV.p (str ByteArray.empty) :: List.map AV.p (pl b8 (List.replicate 32 0#8)++[PV.sl true 1 [],PV.sl true 2 []])=mZ:=by simp [mZ,mG,cl,pl,bytesOf_nil]
   have hst:=setAt_whole (cs:=mZ) (xs:=mG (nth kl ki) (m.session % 65536) n [] m.root.val (.p (.sl true 1 [])) (.p (.sl true 2 []))) (by rw [hzl,hgl])
   (repeat refine .z rfl ?_)
   refine .openInv (fun L env' H'=>env' 1 = .p (i64 n)∧env' 2 = .ptr H.n 0∧env' 4 = .ptr (H.n+1) 0∧env' 5 = .ref (H.n+2) 0 4 1∧(L 0=true → env' 12 = .ref (H.n+2) 0 4 1)∧(L 1=true → env' 13 = .ptr H.n 0)∧(L 2=true → env' 14 = .p (i64 m.kind))∧(L 3=true → env' 15 = .p (i64 ki))∧(L 4=true → env' 16 = .ptr (H.n+2) ki)∧(L 5=true → env' 17 = .p (i64 (nth kl ki)))∧(L 6=true → env' 18 = .ptr H.n 1)∧(L 7=true → env' 19 = .p (i64 m.session))∧(L 8=true → env' 20 = .p (i64 (m.session % 65536)))∧(L 9=true → env' 21 = .p (i64 n))∧(L 10=true → env' 22 = .ptr H.n 4)∧(L 11=true → env' 23 = .p (dgv m.root))∧(L 12=true → env' 24 = .p (mV (nth kl ki) (m.session % 65536) n [] m.root.val (.sl true 1 []) (.sl true 2 [])))∧(L 13=true → env' 6 = .ptr (H.n+3) 0)∧(L 14=true → allT L [0,1,2,3,4,5,6,7,8,9,10,11,12,13])∧H'=(mX H m kl (if L 14 then some (mG (nth kl ki) (m.session % 65536) n [] m.root.val (.p (.sl true 1 [])) (.p (.sl true 2 []))) else if L 13 then some mZ else none))) follows (by kernel_rfl) ?_ ?_ ?_
   · exact ⟨(by simp (disch:=first|exact dsc|fail) only [go_sem,seval,-List.reduceReplicate,E,bin_mask2_i64,bin_mask16_i64,hki,hkl,mZ_set4,hrl,mV_agg,mV_cells,hzd,hst,hzl,hgl,acells_dg]),(by simp (disch:=first|exact dsc|fail) only [go_sem,seval,-List.reduceReplicate,E,bin_mask2_i64,bin_mask16_i64,hki,hkl,mZ_set4,hrl,mV_agg,mV_cells,hzd,hst,hzl,hgl,acells_dg]),(by simp (disch:=first|exact dsc|fail) only [go_sem,seval,-List.reduceReplicate,E,bin_mask2_i64,bin_mask16_i64,hki,hkl,mZ_set4,hrl,mV_agg,mV_cells,hzd,hst,hzl,hgl,acells_dg]),(by simp (disch:=first|exact dsc|fail) only [go_sem,seval,-List.reduceReplicate,E,bin_mask2_i64,bin_mask16_i64,hki,hkl,mZ_set4,hrl,mV_agg,mV_cells,hzd,hst,hzl,hgl,acells_dg]),(fun h=>by cases h),(fun h=>by cases h),(fun h=>by cases h),(fun h=>by cases h),(fun h=>by cases h),(fun h=>by cases h),(fun h=>by cases h),(fun h=>by cases h),(fun h=>by cases h),(fun h=>by cases h),(fun h=>by cases h),(fun h=>by cases h),(fun h=>by cases h),(fun h=>by cases h),(fun h=>by cases h),(by first | rfl | (simp only [Bool.false_eq_true,if_false];first | rfl | (simp (disch:=first|exact dsc|fail) only [go_sem,seval,-List.reduceReplicate,E,bin_mask2_i64,bin_mask16_i64,hki,hkl,mZ_set4,hrl,mV_agg,mV_cells,hzd,hst,hzl,hgl,acells_dg]<;>rfl)))⟩
   · intro i o L env' H' ho hL hall hI
     obtain ⟨f0,f1,f2,f3,g0,g1,g2,g3,g4,g5,g6,g7,g8,g9,g10,g11,g12,g13,m14,rfl⟩:=hI
     rcases i with _ | _ | _ | _ | _ | _ | _ | _ | _ | _ | _ | _ | _ | _ | _ | i
     · cases ho
       have n14:=nfT m14 hL
       refine opA_val (.ref (H.n+2) 0 4 1) rfl rfl (by simp (disch:=first|exact dsc|fail) only [go_sem,seval,-List.reduceReplicate,reduceIte,Bool.false_eq_true,if_false,if_true,f0,f1,f2,f3,n14,hL,E,bin_mask2_i64,bin_mask16_i64,hki,hkl,mZ_set4,hrl,mV_agg,mV_cells,hzd,hst,hzl,hgl,acells_dg]<;>rfl) rfl ?_
       exact ⟨(kf f0),(kf f1),(kf f2),(kf f3),kn,(kp g1),(kp g2),(kp g3),(kp g4),(kp g5),(kp g6),(kp g7),(kp g8),(kp g9),(kp g10),(kp g11),(kp g12),(kp g13),(ka m14),(by (have e13:more L 0 13=L 13:=more_ne (by decide));(have e14:more L 0 14=L 14:=more_ne (by decide));(try simp only [e13,e14,n14]);first | done | rfl | (simp only [e13,e14,n14,if_true,if_false,Bool.false_eq_true];first | done | rfl | (simp (disch:=first|exact dsc|fail) only [go_sem,seval,-List.reduceReplicate,e13,e14,n14,E,bin_mask2_i64,bin_mask16_i64,hki,hkl,mZ_set4,hrl,mV_agg,mV_cells,hzd,hst,hzl,hgl,acells_dg]<;>rfl)))⟩
     · cases ho
       have n14:=nfT m14 hL
       refine opA_val (.ptr H.n 0) rfl rfl (by simp (disch:=first|exact dsc|fail) only [go_sem,seval,-List.reduceReplicate,reduceIte,Bool.false_eq_true,if_false,if_true,f0,f1,f2,f3,n14,hL,E,bin_mask2_i64,bin_mask16_i64,hki,hkl,mZ_set4,hrl,mV_agg,mV_cells,hzd,hst,hzl,hgl,acells_dg]<;>rfl) rfl ?_
       exact ⟨(kf f0),(kf f1),(kf f2),(kf f3),(kp g0),kn,(kp g2),(kp g3),(kp g4),(kp g5),(kp g6),(kp g7),(kp g8),(kp g9),(kp g10),(kp g11),(kp g12),(kp g13),(ka m14),(by (have e13:more L 1 13=L 13:=more_ne (by decide));(have e14:more L 1 14=L 14:=more_ne (by decide));(try simp only [e13,e14,n14]);first | done | rfl | (simp only [e13,e14,n14,if_true,if_false,Bool.false_eq_true];first | done | rfl | (simp (disch:=first|exact dsc|fail) only [go_sem,seval,-List.reduceReplicate,e13,e14,n14,E,bin_mask2_i64,bin_mask16_i64,hki,hkl,mZ_set4,hrl,mV_agg,mV_cells,hzd,hst,hzl,hgl,acells_dg]<;>rfl)))⟩
     · cases ho
       have h1:L 1=true:=hall ⟨1,.data⟩ (by simp) rfl
       have d1:=g1 h1
       have n14:=nfT m14 hL
       refine opA_val (.p (i64 m.kind)) rfl rfl (by simp (disch:=first|exact dsc|fail) only [go_sem,seval,-List.reduceReplicate,reduceIte,Bool.false_eq_true,if_false,if_true,f0,f1,f2,f3,d1,n14,hL,E,bin_mask2_i64,bin_mask16_i64,hki,hkl,mZ_set4,hrl,mV_agg,mV_cells,hzd,hst,hzl,hgl,acells_dg]<;>rfl) rfl ?_
       exact ⟨(kf f0),(kf f1),(kf f2),(kf f3),(kp g0),(kp g1),kn,(kp g3),(kp g4),(kp g5),(kp g6),(kp g7),(kp g8),(kp g9),(kp g10),(kp g11),(kp g12),(kp g13),(ka m14),(by (have e13:more L 2 13=L 13:=more_ne (by decide));(have e14:more L 2 14=L 14:=more_ne (by decide));(try simp only [e13,e14,n14]);first | done | rfl | (simp only [e13,e14,n14,if_true,if_false,Bool.false_eq_true];first | done | rfl | (simp (disch:=first|exact dsc|fail) only [go_sem,seval,-List.reduceReplicate,e13,e14,n14,E,bin_mask2_i64,bin_mask16_i64,hki,hkl,mZ_set4,hrl,mV_agg,mV_cells,hzd,hst,hzl,hgl,acells_dg]<;>rfl)))⟩
     · cases ho
       have h2:L 2=true:=hall ⟨2,.data⟩ (by simp) rfl
       have d2:=g2 h2
       have n14:=nfT m14 hL
       refine opA_val (.p (i64 ki)) rfl rfl (by simp (disch:=first|exact dsc|fail) only [go_sem,seval,-List.reduceReplicate,reduceIte,Bool.false_eq_true,if_false,if_true,f0,f1,f2,f3,d2,n14,hL,E,bin_mask2_i64,bin_mask16_i64,hki,hkl,mZ_set4,hrl,mV_agg,mV_cells,hzd,hst,hzl,hgl,acells_dg]<;>rfl) rfl ?_
       exact ⟨(kf f0),(kf f1),(kf f2),(kf f3),(kp g0),(kp g1),(kp g2),kn,(kp g4),(kp g5),(kp g6),(kp g7),(kp g8),(kp g9),(kp g10),(kp g11),(kp g12),(kp g13),(ka m14),(by (have e13:more L 3 13=L 13:=more_ne (by decide));(have e14:more L 3 14=L 14:=more_ne (by decide));(try simp only [e13,e14,n14]);first | done | rfl | (simp only [e13,e14,n14,if_true,if_false,Bool.false_eq_true];first | done | rfl | (simp (disch:=first|exact dsc|fail) only [go_sem,seval,-List.reduceReplicate,e13,e14,n14,E,bin_mask2_i64,bin_mask16_i64,hki,hkl,mZ_set4,hrl,mV_agg,mV_cells,hzd,hst,hzl,hgl,acells_dg]<;>rfl)))⟩
     · cases ho
       have h0:L 0=true:=hall ⟨0,.data⟩ (by simp) rfl
       have d0:=g0 h0
       have h3:L 3=true:=hall ⟨3,.data⟩ (by simp) rfl
       have d3:=g3 h3
       have n14:=nfT m14 hL
       refine opA_val (.ptr (H.n+2) ki) rfl rfl (by simp (disch:=first|exact dsc|fail) only [go_sem,seval,-List.reduceReplicate,reduceIte,Bool.false_eq_true,if_false,if_true,f0,f1,f2,f3,d0,d3,n14,hL,E,bin_mask2_i64,bin_mask16_i64,hki,hkl,mZ_set4,hrl,mV_agg,mV_cells,hzd,hst,hzl,hgl,acells_dg]<;>rfl) rfl ?_
       exact ⟨(kf f0),(kf f1),(kf f2),(kf f3),(kp g0),(kp g1),(kp g2),(kp g3),kn,(kp g5),(kp g6),(kp g7),(kp g8),(kp g9),(kp g10),(kp g11),(kp g12),(kp g13),(ka m14),(by (have e13:more L 4 13=L 13:=more_ne (by decide));(have e14:more L 4 14=L 14:=more_ne (by decide));(try simp only [e13,e14,n14]);first | done | rfl | (simp only [e13,e14,n14,if_true,if_false,Bool.false_eq_true];first | done | rfl | (simp (disch:=first|exact dsc|fail) only [go_sem,seval,-List.reduceReplicate,e13,e14,n14,E,bin_mask2_i64,bin_mask16_i64,hki,hkl,mZ_set4,hrl,mV_agg,mV_cells,hzd,hst,hzl,hgl,acells_dg]<;>rfl)))⟩
     · cases ho
       have h4:L 4=true:=hall ⟨4,.data⟩ (by simp) rfl
       have d4:=g4 h4
       have n14:=nfT m14 hL
       refine opA_val (.p (i64 (nth kl ki))) rfl rfl (by simp (disch:=first|exact dsc|fail) only [go_sem,seval,-List.reduceReplicate,reduceIte,Bool.false_eq_true,if_false,if_true,f0,f1,f2,f3,d4,n14,hL,E,bin_mask2_i64,bin_mask16_i64,hki,hkl,mZ_set4,hrl,mV_agg,mV_cells,hzd,hst,hzl,hgl,acells_dg]<;>rfl) rfl ?_
       exact ⟨(kf f0),(kf f1),(kf f2),(kf f3),(kp g0),(kp g1),(kp g2),(kp g3),(kp g4),kn,(kp g6),(kp g7),(kp g8),(kp g9),(kp g10),(kp g11),(kp g12),(kp g13),(ka m14),(by (have e13:more L 5 13=L 13:=more_ne (by decide));(have e14:more L 5 14=L 14:=more_ne (by decide));(try simp only [e13,e14,n14]);first | done | rfl | (simp only [e13,e14,n14,if_true,if_false,Bool.false_eq_true];first | done | rfl | (simp (disch:=first|exact dsc|fail) only [go_sem,seval,-List.reduceReplicate,e13,e14,n14,E,bin_mask2_i64,bin_mask16_i64,hki,hkl,mZ_set4,hrl,mV_agg,mV_cells,hzd,hst,hzl,hgl,acells_dg]<;>rfl)))⟩
     · cases ho
       have n14:=nfT m14 hL
       refine opA_val (.ptr H.n 1) rfl rfl (by simp (disch:=first|exact dsc|fail) only [go_sem,seval,-List.reduceReplicate,reduceIte,Bool.false_eq_true,if_false,if_true,f0,f1,f2,f3,n14,hL,E,bin_mask2_i64,bin_mask16_i64,hki,hkl,mZ_set4,hrl,mV_agg,mV_cells,hzd,hst,hzl,hgl,acells_dg]<;>rfl) rfl ?_
       exact ⟨(kf f0),(kf f1),(kf f2),(kf f3),(kp g0),(kp g1),(kp g2),(kp g3),(kp g4),(kp g5),kn,(kp g7),(kp g8),(kp g9),(kp g10),(kp g11),(kp g12),(kp g13),(ka m14),(by (have e13:more L 6 13=L 13:=more_ne (by decide));(have e14:more L 6 14=L 14:=more_ne (by decide));(try simp only [e13,e14,n14]);first | done | rfl | (simp only [e13,e14,n14,if_true,if_false,Bool.false_eq_true];first | done | rfl | (simp (disch:=first|exact dsc|fail) only [go_sem,seval,-List.reduceReplicate,e13,e14,n14,E,bin_mask2_i64,bin_mask16_i64,hki,hkl,mZ_set4,hrl,mV_agg,mV_cells,hzd,hst,hzl,hgl,acells_dg]<;>rfl)))⟩
     · cases ho
       have h6:L 6=true:=hall ⟨6,.data⟩ (by simp) rfl
       have d6:=g6 h6
       have n14:=nfT m14 hL
       refine opA_val (.p (i64 m.session)) rfl rfl (by simp (disch:=first|exact dsc|fail) only [go_sem,seval,-List.reduceReplicate,reduceIte,Bool.false_eq_true,if_false,if_true,f0,f1,f2,f3,d6,n14,hL,E,bin_mask2_i64,bin_mask16_i64,hki,hkl,mZ_set4,hrl,mV_agg,mV_cells,hzd,hst,hzl,hgl,acells_dg]<;>rfl) rfl ?_
       exact ⟨(kf f0),(kf f1),(kf f2),(kf f3),(kp g0),(kp g1),(kp g2),(kp g3),(kp g4),(kp g5),(kp g6),kn,(kp g8),(kp g9),(kp g10),(kp g11),(kp g12),(kp g13),(ka m14),(by (have e13:more L 7 13=L 13:=more_ne (by decide));(have e14:more L 7 14=L 14:=more_ne (by decide));(try simp only [e13,e14,n14]);first | done | rfl | (simp only [e13,e14,n14,if_true,if_false,Bool.false_eq_true];first | done | rfl | (simp (disch:=first|exact dsc|fail) only [go_sem,seval,-List.reduceReplicate,e13,e14,n14,E,bin_mask2_i64,bin_mask16_i64,hki,hkl,mZ_set4,hrl,mV_agg,mV_cells,hzd,hst,hzl,hgl,acells_dg]<;>rfl)))⟩
     · cases ho
       have h7:L 7=true:=hall ⟨7,.data⟩ (by simp) rfl
       have d7:=g7 h7
       have n14:=nfT m14 hL
       refine opA_val (.p (i64 (m.session % 65536))) rfl rfl (by simp (disch:=first|exact dsc|fail) only [go_sem,seval,-List.reduceReplicate,reduceIte,Bool.false_eq_true,if_false,if_true,f0,f1,f2,f3,d7,n14,hL,E,bin_mask2_i64,bin_mask16_i64,hki,hkl,mZ_set4,hrl,mV_agg,mV_cells,hzd,hst,hzl,hgl,acells_dg]<;>rfl) rfl ?_
       exact ⟨(kf f0),(kf f1),(kf f2),(kf f3),(kp g0),(kp g1),(kp g2),(kp g3),(kp g4),(kp g5),(kp g6),(kp g7),kn,(kp g9),(kp g10),(kp g11),(kp g12),(kp g13),(ka m14),(by (have e13:more L 8 13=L 13:=more_ne (by decide));(have e14:more L 8 14=L 14:=more_ne (by decide));(try simp only [e13,e14,n14]);first | done | rfl | (simp only [e13,e14,n14,if_true,if_false,Bool.false_eq_true];first | done | rfl | (simp (disch:=first|exact dsc|fail) only [go_sem,seval,-List.reduceReplicate,e13,e14,n14,E,bin_mask2_i64,bin_mask16_i64,hki,hkl,mZ_set4,hrl,mV_agg,mV_cells,hzd,hst,hzl,hgl,acells_dg]<;>rfl)))⟩
     · cases ho
       have n14:=nfT m14 hL
       refine opA_val (.p (i64 n)) rfl rfl (by simp (disch:=first|exact dsc|fail) only [go_sem,seval,-List.reduceReplicate,reduceIte,Bool.false_eq_true,if_false,if_true,f0,f1,f2,f3,n14,hL,E,bin_mask2_i64,bin_mask16_i64,hki,hkl,mZ_set4,hrl,mV_agg,mV_cells,hzd,hst,hzl,hgl,acells_dg]<;>rfl) rfl ?_
       exact ⟨(kf f0),(kf f1),(kf f2),(kf f3),(kp g0),(kp g1),(kp g2),(kp g3),(kp g4),(kp g5),(kp g6),(kp g7),(kp g8),kn,(kp g10),(kp g11),(kp g12),(kp g13),(ka m14),(by (have e13:more L 9 13=L 13:=more_ne (by decide));(have e14:more L 9 14=L 14:=more_ne (by decide));(try simp only [e13,e14,n14]);first | done | rfl | (simp only [e13,e14,n14,if_true,if_false,Bool.false_eq_true];first | done | rfl | (simp (disch:=first|exact dsc|fail) only [go_sem,seval,-List.reduceReplicate,e13,e14,n14,E,bin_mask2_i64,bin_mask16_i64,hki,hkl,mZ_set4,hrl,mV_agg,mV_cells,hzd,hst,hzl,hgl,acells_dg]<;>rfl)))⟩
     · cases ho
       have n14:=nfT m14 hL
       refine opA_val (.ptr H.n 4) rfl rfl (by simp (disch:=first|exact dsc|fail) only [go_sem,seval,-List.reduceReplicate,reduceIte,Bool.false_eq_true,if_false,if_true,f0,f1,f2,f3,n14,hL,E,bin_mask2_i64,bin_mask16_i64,hki,hkl,mZ_set4,hrl,mV_agg,mV_cells,hzd,hst,hzl,hgl,acells_dg]<;>rfl) rfl ?_
       exact ⟨(kf f0),(kf f1),(kf f2),(kf f3),(kp g0),(kp g1),(kp g2),(kp g3),(kp g4),(kp g5),(kp g6),(kp g7),(kp g8),(kp g9),kn,(kp g11),(kp g12),(kp g13),(ka m14),(by (have e13:more L 10 13=L 13:=more_ne (by decide));(have e14:more L 10 14=L 14:=more_ne (by decide));(try simp only [e13,e14,n14]);first | done | rfl | (simp only [e13,e14,n14,if_true,if_false,Bool.false_eq_true];first | done | rfl | (simp (disch:=first|exact dsc|fail) only [go_sem,seval,-List.reduceReplicate,e13,e14,n14,E,bin_mask2_i64,bin_mask16_i64,hki,hkl,mZ_set4,hrl,mV_agg,mV_cells,hzd,hst,hzl,hgl,acells_dg]<;>rfl)))⟩
     · cases ho
       have h10:L 10=true:=hall ⟨10,.data⟩ (by simp) rfl
       have d10:=g10 h10
       have n14:=nfT m14 hL
       refine opA_val (.p (dgv m.root)) rfl rfl (by simp (disch:=first|exact dsc|fail) only [go_sem,seval,-List.reduceReplicate,reduceIte,Bool.false_eq_true,if_false,if_true,f0,f1,f2,f3,d10,n14,hL,E,bin_mask2_i64,bin_mask16_i64,hki,hkl,mZ_set4,hrl,mV_agg,mV_cells,hzd,hst,hzl,hgl,acells_dg]<;>rfl) rfl ?_
       exact ⟨(kf f0),(kf f1),(kf f2),(kf f3),(kp g0),(kp g1),(kp g2),(kp g3),(kp g4),(kp g5),(kp g6),(kp g7),(kp g8),(kp g9),(kp g10),kn,(kp g12),(kp g13),(ka m14),(by (have e13:more L 11 13=L 13:=more_ne (by decide));(have e14:more L 11 14=L 14:=more_ne (by decide));(try simp only [e13,e14,n14]);first | done | rfl | (simp only [e13,e14,n14,if_true,if_false,Bool.false_eq_true];first | done | rfl | (simp (disch:=first|exact dsc|fail) only [go_sem,seval,-List.reduceReplicate,e13,e14,n14,E,bin_mask2_i64,bin_mask16_i64,hki,hkl,mZ_set4,hrl,mV_agg,mV_cells,hzd,hst,hzl,hgl,acells_dg]<;>rfl)))⟩
     · cases ho
       have h5:L 5=true:=hall ⟨5,.data⟩ (by simp) rfl
       have d5:=g5 h5
       have h8:L 8=true:=hall ⟨8,.data⟩ (by simp) rfl
       have d8:=g8 h8
       have h9:L 9=true:=hall ⟨9,.data⟩ (by simp) rfl
       have d9:=g9 h9
       have h11:L 11=true:=hall ⟨11,.data⟩ (by simp) rfl
       have d11:=g11 h11
       have n14:=nfT m14 hL
       refine opA_val (.p (mV (nth kl ki) (m.session % 65536) n [] m.root.val (.sl true 1 []) (.sl true 2 []))) rfl rfl (by simp (disch:=first|exact dsc|fail) only [go_sem,seval,-List.reduceReplicate,reduceIte,Bool.false_eq_true,if_false,if_true,f0,f1,f2,f3,d5,d8,d9,d11,n14,hL,E,bin_mask2_i64,bin_mask16_i64,hki,hkl,mZ_set4,hrl,mV_agg,mV_cells,hzd,hst,hzl,hgl,acells_dg]<;>rfl) rfl ?_
       exact ⟨(kf f0),(kf f1),(kf f2),(kf f3),(kp g0),(kp g1),(kp g2),(kp g3),(kp g4),(kp g5),(kp g6),(kp g7),(kp g8),(kp g9),(kp g10),(kp g11),kn,(kp g13),(ka m14),(by (have e13:more L 12 13=L 13:=more_ne (by decide));(have e14:more L 12 14=L 14:=more_ne (by decide));(try simp only [e13,e14,n14]);first | done | rfl | (simp only [e13,e14,n14,if_true,if_false,Bool.false_eq_true];first | done | rfl | (simp (disch:=first|exact dsc|fail) only [go_sem,seval,-List.reduceReplicate,e13,e14,n14,E,bin_mask2_i64,bin_mask16_i64,hki,hkl,mZ_set4,hrl,mV_agg,mV_cells,hzd,hst,hzl,hgl,acells_dg]<;>rfl)))⟩
     · cases ho
       have n14:=nfT m14 hL
       (try simp only [n14,hL,if_true,if_false,Bool.false_eq_true])
       refine opA_valH (.ptr (H.n+3) 0) rfl rfl (by simp (disch:=first|exact dsc|fail) only [go_sem,seval,-List.reduceReplicate,reduceIte,Bool.false_eq_true,if_false,if_true,f0,f1,f2,f3,n14,hL,E,bin_mask2_i64,bin_mask16_i64,hki,hkl,mZ_set4,hrl,mV_agg,mV_cells,hzd,hst,hzl,hgl,acells_dg]<;>rfl) rfl ?_
       exact ⟨(kf f0),(kf f1),(kf f2),(kf f3),(kp g0),(kp g1),(kp g2),(kp g3),(kp g4),(kp g5),(kp g6),(kp g7),(kp g8),(kp g9),(kp g10),(kp g11),(kp g12),kn,(ka m14),(by (have e13:more L 13 13=true:=more_eq);(have e14:more L 13 14=L 14:=more_ne (by decide));(try simp only [e13,e14,n14,hL]);first | done | rfl | (simp only [e13,e14,n14,hL,if_true,if_false,Bool.false_eq_true];first | done | rfl | (simp (disch:=first|exact dsc|fail) only [go_sem,seval,-List.reduceReplicate,e13,e14,n14,hL,E,bin_mask2_i64,bin_mask16_i64,hki,hkl,mZ_set4,hrl,mV_agg,mV_cells,hzd,hst,hzl,hgl,acells_dg]<;>rfl)))⟩
     · cases ho
       have h13:L 13=true:=hall ⟨13,.data⟩ (by simp) rfl
       have d13:=g13 h13
       have h12:L 12=true:=hall ⟨12,.data⟩ (by simp) rfl
       have d12:=g12 h12
       have h0:L 0=true:=hall ⟨0,.phase⟩ (by simp) rfl
       have h1:L 1=true:=hall ⟨1,.phase⟩ (by simp) rfl
       have h2:L 2=true:=hall ⟨2,.phase⟩ (by simp) rfl
       have h3:L 3=true:=hall ⟨3,.phase⟩ (by simp) rfl
       have h4:L 4=true:=hall ⟨4,.phase⟩ (by simp) rfl
       have h5:L 5=true:=hall ⟨5,.phase⟩ (by simp) rfl
       have h6:L 6=true:=hall ⟨6,.phase⟩ (by simp) rfl
       have h7:L 7=true:=hall ⟨7,.phase⟩ (by simp) rfl
       have h8:L 8=true:=hall ⟨8,.phase⟩ (by simp) rfl
       have h9:L 9=true:=hall ⟨9,.phase⟩ (by simp) rfl
       have h10:L 10=true:=hall ⟨10,.phase⟩ (by simp) rfl
       have h11:L 11=true:=hall ⟨11,.phase⟩ (by simp) rfl
       refine opA_unit rfl rfl (by simp (disch:=first|exact dsc|fail) only [go_sem,seval,-List.reduceReplicate,reduceIte,Bool.false_eq_true,if_false,if_true,f0,f1,f2,f3,d12,d13,h13,hL,E,bin_mask2_i64,bin_mask16_i64,hki,hkl,mZ_set4,hrl,mV_agg,mV_cells,hzd,hst,hzl,hgl,acells_dg]<;>rfl) rfl ?_
       exact ⟨f0,f1,f2,f3,(kp0 g0),(kp0 g1),(kp0 g2),(kp0 g3),(kp0 g4),(kp0 g5),(kp0 g6),(kp0 g7),(kp0 g8),(kp0 g9),(kp0 g10),(kp0 g11),(kp0 g12),(kp0 g13),(fun _=>kt (allT_cons h0 (allT_cons h1 (allT_cons h2 (allT_cons h3 (allT_cons h4 (allT_cons h5 (allT_cons h6 (allT_cons h7 (allT_cons h8 (allT_cons h9 (allT_cons h10 (allT_cons h11 (allT_cons h12 (allT_cons h13 allT_nil))))))))))))))),(by (have e13:more L 14 13=L 13:=more_ne (by decide));(have e14:more L 14 14=true:=more_eq);(try simp only [e13,e14,h13,hL]);first | done | rfl | (simp only [e13,e14,h13,hL,if_true,if_false,Bool.false_eq_true];first | done | rfl | (simp (disch:=first|exact dsc|fail) only [go_sem,seval,-List.reduceReplicate,e13,e14,h13,hL,E,bin_mask2_i64,bin_mask16_i64,hki,hkl,mZ_set4,hrl,mV_agg,mV_cells,hzd,hst,hzl,hgl,acells_dg]<;>rfl)))⟩
     · simp at ho
   · intro L env' H' hall hI
     obtain ⟨f0,f1,f2,f3,g0,g1,g2,g3,g4,g5,g6,g7,g8,g9,g10,g11,g12,g13,_,rfl⟩:=hI
     have l13:=hall 13 (by decide)
     have l14:=hall 14 (by decide)
     replace g0:=g0 (hall 0 (by decide))
     replace g1:=g1 (hall 1 (by decide))
     replace g2:=g2 (hall 2 (by decide))
     replace g3:=g3 (hall 3 (by decide))
     replace g4:=g4 (hall 4 (by decide))
     replace g5:=g5 (hall 5 (by decide))
     replace g6:=g6 (hall 6 (by decide))
     replace g7:=g7 (hall 7 (by decide))
     replace g8:=g8 (hall 8 (by decide))
     replace g9:=g9 (hall 9 (by decide))
     replace g10:=g10 (hall 10 (by decide))
     replace g11:=g11 (hall 11 (by decide))
     replace g12:=g12 (hall 12 (by decide))
     replace g13:=g13 (hall 13 (by decide))
     simp only [l13,l14,if_true]
     clear hall
     rw [←hk0]
     have hm2:mk2 m n=if n=0 then 1 else if n=1 then 2 else if n=3 then 3 else if n % 2=1 then 5 else mk0 m n:=rfl
     unfold made29 at h
     generalize mk0 m n=k0 at *
     change ARun _ _ _ (mH H m kl (mG k0 (m.session % 65536) n [] m.root.val (.p (.sl true 1 [])) (.p (.sl true 2 [])))) R
     (repeat refine .z rfl ?_);refine .text ?_;simp (disch:=first|exact dsc|fail) only [go_sem,seval,-List.reduceReplicate,f0]
     (repeat refine .z rfl ?_);refine .cutH [1,2,4,6] [] (mH H m kl (mG (if n % 2=1 then 5 else k0) (m.session % 65536) n [] m.root.val (.p (.sl true 1 [])) (.p (.sl true 2 [])))) (fun ihF => ?_) (fun env F => ?_)
     rotate_left 1
     simp (disch:=first|exact dsc|fail) only [go_sem,seval,-List.reduceReplicate,f0,f1,f2,f3,g13] at F
     rotate_left 1
     · by_cases c:n % 2=1
       · have d:((n:Int) % 2 == 1)=true:=by simp;omega
         rw [if_pos c] at ihF
         (repeat refine .z rfl ?_);refine .ifT (by simp (disch:=first|exact dsc|fail) only [go_sem,seval,-List.reduceReplicate,d]) ?_
         (repeat refine .z rfl ?_);refine .text ?_;simp (disch:=first|exact dsc|fail) only [go_sem,seval,-List.reduceReplicate,f0,f1,f2,f3,g13]
         first | (refine ihF _ _ ?_ ?_) | (refine .z rfl ?_;refine ihF _ _ ?_ ?_) | (refine .z rfl ?_;refine .z rfl ?_;refine ihF _ _ ?_ ?_) | (refine .z rfl ?_;refine .z rfl ?_;refine .z rfl ?_;refine ihF _ _ ?_ ?_)
         · simp (disch:=first|exact dsc|fail) only [go_sem,seval,-List.reduceReplicate,f0,f1,f2,f3,g13]<;>(repeat' (first | rfl | refine And.intro ?_ ?_))
         · first | rfl | (simp (disch:=first|exact dsc|fail) only [go_sem,seval,-List.reduceReplicate,f0,f1,f2,f3,g13]<;>(try rfl))
       · have d:((n:Int) % 2 == 1)=false:=by simp;omega
         rw [if_neg c] at ihF
         (repeat refine .z rfl ?_);refine .ifF (by simp (disch:=first|exact dsc|fail) only [go_sem,seval,-List.reduceReplicate,d]) ?_
         refine .skip ?_
         first | (refine ihF _ _ ?_ ?_) | (refine .z rfl ?_;refine ihF _ _ ?_ ?_) | (refine .z rfl ?_;refine .z rfl ?_;refine ihF _ _ ?_ ?_) | (refine .z rfl ?_;refine .z rfl ?_;refine .z rfl ?_;refine ihF _ _ ?_ ?_)
         · simp (disch:=first|exact dsc|fail) only [go_sem,seval,-List.reduceReplicate,f0,f1,f2,f3,g13]<;>(repeat' (first | rfl | refine And.intro ?_ ?_))
         · first | rfl | (simp (disch:=first|exact dsc|fail) only [go_sem,seval,-List.reduceReplicate,f0,f1,f2,f3,g13]<;>(try rfl))
     · generalize (if n % 2=1 then (5:Int) else k0)=k1 at *
       (repeat refine .z rfl ?_);refine .text ?_;simp (disch:=first|exact dsc|fail) only [go_sem,seval,-List.reduceReplicate,F]
       (repeat refine .zs rfl ?_);refine .cutH [2,4,6] [] (mH H m kl (mG (mk2 m n) (m.session % 65536) n [] m.root.val (.p (.sl true 1 [])) (.p (.sl true 2 [])))) (fun ihP => ?_) (fun env P => ?_)
       rotate_left 1
       simp (disch:=first|exact dsc|fail) only [go_sem,seval,-List.reduceReplicate,F,f0,f1,f2,f3,g13] at P
       rotate_left 1
       · rw [hm2] at ihP
         by_cases c0:n=0
         · have d:((n:Int) == 0)=true:=by simp;omega
           rw [if_pos c0] at ihP
           (repeat refine .z rfl ?_);refine .text ?_;simp (disch:=first|exact dsc|fail) only [go_sem,seval,-List.reduceReplicate,d]
           (repeat refine .z rfl ?_);refine .ifT (by simp (disch:=first|exact dsc|fail) only [go_sem,seval,-List.reduceReplicate,d]) ?_
           (repeat refine .z rfl ?_);refine .text ?_;simp (disch:=first|exact dsc|fail) only [go_sem,seval,-List.reduceReplicate,F,f0,f1,f2,f3,g13]
           first | (refine ihP _ _ ?_ ?_) | (refine .z rfl ?_;refine ihP _ _ ?_ ?_) | (refine .z rfl ?_;refine .z rfl ?_;refine ihP _ _ ?_ ?_) | (refine .z rfl ?_;refine .z rfl ?_;refine .z rfl ?_;refine ihP _ _ ?_ ?_)
           · simp (disch:=first|exact dsc|fail) only [go_sem,seval,-List.reduceReplicate,F,f0,f1,f2,f3,g13]<;>(repeat' (first | rfl | refine And.intro ?_ ?_))
           · first | rfl | (simp (disch:=first|exact dsc|fail) only [go_sem,seval,-List.reduceReplicate,F,f0,f1,f2,f3,g13]<;>(try rfl))
         · have d:((n:Int) == 0)=false:=by simp;omega
           rw [if_neg c0] at ihP
           (repeat refine .z rfl ?_);refine .text ?_;simp (disch:=first|exact dsc|fail) only [go_sem,seval,-List.reduceReplicate,d]
           (repeat refine .z rfl ?_);refine .ifF (by simp (disch:=first|exact dsc|fail) only [go_sem,seval,-List.reduceReplicate,d]) ?_
           by_cases c1:n=1
           · have d:((n:Int) == 1)=true:=by simp;omega
             rw [if_pos c1] at ihP
             (repeat refine .z rfl ?_);refine .text ?_;simp (disch:=first|exact dsc|fail) only [go_sem,seval,-List.reduceReplicate,d]
             (repeat refine .z rfl ?_);refine .ifT (by simp (disch:=first|exact dsc|fail) only [go_sem,seval,-List.reduceReplicate,d]) ?_
             (repeat refine .z rfl ?_);refine .text ?_;simp (disch:=first|exact dsc|fail) only [go_sem,seval,-List.reduceReplicate,F,f0,f1,f2,f3,g13]
             first | (refine ihP _ _ ?_ ?_) | (refine .z rfl ?_;refine ihP _ _ ?_ ?_) | (refine .z rfl ?_;refine .z rfl ?_;refine ihP _ _ ?_ ?_) | (refine .z rfl ?_;refine .z rfl ?_;refine .z rfl ?_;refine ihP _ _ ?_ ?_)
             · simp (disch:=first|exact dsc|fail) only [go_sem,seval,-List.reduceReplicate,F,f0,f1,f2,f3,g13]<;>(repeat' (first | rfl | refine And.intro ?_ ?_))
             · first | rfl | (simp (disch:=first|exact dsc|fail) only [go_sem,seval,-List.reduceReplicate,F,f0,f1,f2,f3,g13]<;>(try rfl))
           · have d:((n:Int) == 1)=false:=by simp;omega
             rw [if_neg c1] at ihP
             (repeat refine .z rfl ?_);refine .text ?_;simp (disch:=first|exact dsc|fail) only [go_sem,seval,-List.reduceReplicate,d]
             (repeat refine .z rfl ?_);refine .ifF (by simp (disch:=first|exact dsc|fail) only [go_sem,seval,-List.reduceReplicate,d]) ?_
             by_cases c3:n=3
             · have d:((n:Int) == 3)=true:=by simp;omega
               rw [if_pos c3] at ihP
               (repeat refine .z rfl ?_);refine .text ?_;simp (disch:=first|exact dsc|fail) only [go_sem,seval,-List.reduceReplicate,d]
               (repeat refine .z rfl ?_);refine .ifT (by simp (disch:=first|exact dsc|fail) only [go_sem,seval,-List.reduceReplicate,d]) ?_
               (repeat refine .z rfl ?_);refine .text ?_;simp (disch:=first|exact dsc|fail) only [go_sem,seval,-List.reduceReplicate,F,f0,f1,f2,f3,g13]
               first | (refine ihP _ _ ?_ ?_) | (refine .z rfl ?_;refine ihP _ _ ?_ ?_) | (refine .z rfl ?_;refine .z rfl ?_;refine ihP _ _ ?_ ?_) | (refine .z rfl ?_;refine .z rfl ?_;refine .z rfl ?_;refine ihP _ _ ?_ ?_)
               · simp (disch:=first|exact dsc|fail) only [go_sem,seval,-List.reduceReplicate,F,f0,f1,f2,f3,g13]<;>(repeat' (first | rfl | refine And.intro ?_ ?_))
               · first | rfl | (simp (disch:=first|exact dsc|fail) only [go_sem,seval,-List.reduceReplicate,F,f0,f1,f2,f3,g13]<;>(try rfl))
             · have d:((n:Int) == 3)=false:=by simp;omega
               rw [if_neg c3] at ihP
               (repeat refine .z rfl ?_);refine .text ?_;simp (disch:=first|exact dsc|fail) only [go_sem,seval,-List.reduceReplicate,d]
               (repeat refine .z rfl ?_);refine .ifF (by simp (disch:=first|exact dsc|fail) only [go_sem,seval,-List.reduceReplicate,d]) ?_
               refine .skip ?_
               first | (refine ihP _ _ ?_ ?_) | (refine .z rfl ?_;refine ihP _ _ ?_ ?_) | (refine .z rfl ?_;refine .z rfl ?_;refine ihP _ _ ?_ ?_) | (refine .z rfl ?_;refine .z rfl ?_;refine .z rfl ?_;refine ihP _ _ ?_ ?_)
               · simp (disch:=first|exact dsc|fail) only [go_sem,seval,-List.reduceReplicate,F,f0,f1,f2,f3,g13]<;>(repeat' (first | rfl | refine And.intro ?_ ?_))
               · first | rfl | (simp (disch:=first|exact dsc|fail) only [go_sem,seval,-List.reduceReplicate,F,f0,f1,f2,f3,g13]<;>(try rfl))
       · generalize mk2 m n=k2 at *
         have hbel : ∀ mc,Bel H.n (mH H m kl mc):=fun mc=>mH_bel hbel
         (repeat refine .z rfl ?_);refine .text ?_;simp (disch:=first|exact dsc|fail) only [go_sem,seval,-List.reduceReplicate,P,F,f0,f1,f2,f3,g13,mG_get0]
         by_cases e1:k2=1
         · subst e1
           simp only [if_true,reduceIte,Int.reduceEq] at h
           (repeat refine .z rfl ?_);refine .text ?_;simp (disch:=first|exact dsc|fail) only [go_sem,seval,-List.reduceReplicate]
           (repeat refine .z rfl ?_);refine .ifT (by simp (disch:=first|exact dsc|fail) only [go_sem,seval,-List.reduceReplicate]) ?_
           have hmin:min (m.text.length:Int) 50=((min m.text.length 50:Nat):Int):=by omega
           have hle:min m.text.length 50≤m.text.length:=Nat.min_le_left _ _
           have htk:m.text.take (min m.text.length 50)=m.text.take 50:=by rw [Nat.min_comm,←List.take_take,List.take_length]
           generalize min m.text.length 50=mn at *
           have hsz:(bytesOf m.text).size=m.text.length:=bytesOf_size
           have hq:(⟨#[113]⟩:ByteArray)=bytesOf [113#8]:=rfl
           have hadd:=add_str (P:=Tryd.prog) (t:=9) (a:=[113#8]) (b:=m.text.take 50) (by simp;omega)
           (repeat refine .z rfl ?_);refine .text ?_;simp (disch:=first|exact dsc|fail) only [go_sem,seval,-List.reduceReplicate,P,F,f0,f1,f2,f3,g13,hmin,hsz,bytesOf_take,htk,hq,hadd]
           have hml:=mG_len (k:=1) (s:=m.session % 65536) (t:=n) (tx:=(113#8 :: m.text.take 50)) (r:=m.root.val) (S := .p (.sl true 1 [])) (V := .p (.sl true 2 [])) hrl
           have hsw:=setAt_whole (cs:=mZ) (xs:=mG 1 (m.session % 65536) n (113#8 :: m.text.take 50) m.root.val (.p (.sl true 1 [])) (.p (.sl true 2 []))) (by rw [hzl,hml])
           have hw:=mV_weak (k:=1) (s:=m.session % 65536) (t:=n) (tx:=(113#8 :: m.text.take 50)) (r:=m.root.val) (x := .sl true 1 []) (y := .sl true 2 []) hrl (su:=[]) (va:=[]) rfl rfl
           (repeat refine .z rfl ?_);refine .text ?_;simp (disch:=first|exact dsc|fail) only [go_sem,seval,-List.reduceReplicate,P,F,f0,f1,f2,f3,g13,mV_agg,mV_cells,hml,hzl,hsw]
           (repeat refine .z rfl ?_);refine .rt Tryd.func8 (by rw [Tryd.results8]) (hx:=by simp (disch:=first|exact dsc|fail) only [go_sem,seval,-List.reduceReplicate,P,F,f0,f1,f2,f3,g13,mV_agg,mV_cells,hml,hzl,hw];rfl) (hR := ?_);simp (disch:=first|exact dsc|fail) only [go_sem,seval,-List.reduceReplicate,P,F,f0,f1,f2,f3,g13,mV_agg,mV_cells,hml,hzl,hw]
           exact h
         · have d1:(k2 == 1)=false:=by simpa using e1
           rw [if_neg e1] at h
           (repeat refine .z rfl ?_);refine .text ?_;simp (disch:=first|exact dsc|fail) only [go_sem,seval,-List.reduceReplicate,d1]
           (repeat refine .z rfl ?_);refine .ifF (by simp (disch:=first|exact dsc|fail) only [go_sem,seval,-List.reduceReplicate,d1]) ?_
           by_cases e3:k2=3
           · subst e3
             simp only [if_true,reduceIte,Int.reduceEq] at h
             (repeat refine .z rfl ?_);refine .text ?_;simp (disch:=first|exact dsc|fail) only [go_sem,seval,-List.reduceReplicate]
             (repeat refine .z rfl ?_);refine .ifT (by simp (disch:=first|exact dsc|fail) only [go_sem,seval,-List.reduceReplicate]) ?_
             have hmin:min (m.sums.length:Int) 10=((min m.sums.length 10:Nat):Int):=by omega
             have hle:min m.sums.length 10≤m.sums.length:=Nat.min_le_left _ _
             have htk:m.sums.take (min m.sums.length 10)=m.sums.take 10:=by rw [Nat.min_comm,←List.take_take,List.take_length]
             generalize min m.sums.length 10=mn at *
             (repeat refine .z rfl ?_);refine .text ?_;simp (disch:=first|exact dsc|fail) only [go_sem,seval,-List.reduceReplicate,P,F,f0,f1,f2,f3,g13,hmin,htk,hrl]
             have hml:=mG_len (k:=3) (s:=m.session % 65536) (t:=n) (tx:=[]) (r:=m.root.val) (S := .p (.sl false 1 (pl i64 (m.sums.take 10)))) (V := .p (.sl true 2 [])) hrl
             have hsw:=setAt_whole (cs:=mZ) (xs:=mG 3 (m.session % 65536) n [] m.root.val (.p (.sl false 1 (pl i64 (m.sums.take 10)))) (.p (.sl true 2 []))) (by rw [hzl,hml])
             have hw:=mV_weak (k:=3) (s:=m.session % 65536) (t:=n) (tx:=[]) (r:=m.root.val) (x := .sl false 1 (pl i64 (m.sums.take 10))) (y := .sl true 2 []) hrl (su:=m.sums.take 10) (va:=[]) rfl rfl
             (repeat refine .z rfl ?_);refine .text ?_;simp (disch:=first|exact dsc|fail) only [go_sem,seval,-List.reduceReplicate,P,F,f0,f1,f2,f3,g13,mV_agg,mV_cells,hml,hzl,hsw]
             (repeat refine .z rfl ?_);refine .rt Tryd.func8 (by rw [Tryd.results8]) (hx:=by simp (disch:=first|exact dsc|fail) only [go_sem,seval,-List.reduceReplicate,P,F,f0,f1,f2,f3,g13,mV_agg,mV_cells,hml,hzl,hw];rfl) (hR := ?_);simp (disch:=first|exact dsc|fail) only [go_sem,seval,-List.reduceReplicate,P,F,f0,f1,f2,f3,g13,mV_agg,mV_cells,hml,hzl,hw]
             exact h
           · have d3:(k2 == 3)=false:=by simpa using e3
             rw [if_neg e3] at h
             (repeat refine .z rfl ?_);refine .text ?_;simp (disch:=first|exact dsc|fail) only [go_sem,seval,-List.reduceReplicate,d3]
             (repeat refine .z rfl ?_);refine .ifF (by simp (disch:=first|exact dsc|fail) only [go_sem,seval,-List.reduceReplicate,d3]) ?_
             by_cases e4:k2=4
             · subst e4
               simp only [if_true,reduceIte,Int.reduceEq] at h
               (repeat refine .z rfl ?_);refine .text ?_;simp (disch:=first|exact dsc|fail) only [go_sem,seval,-List.reduceReplicate]
               (repeat refine .z rfl ?_);refine .ifT (by simp (disch:=first|exact dsc|fail) only [go_sem,seval,-List.reduceReplicate]) ?_
               (repeat refine .z rfl ?_);refine .text ?_;simp (disch:=first|exact dsc|fail) only [go_sem,seval,-List.reduceReplicate,P,F,f0,f1,f2,f3,g13]
               refine CallK.of (fun R h=>MadeAll_spec m.values hva 1 (by omega) _ R h) ?_;simp (disch:=first|exact dsc|fail) only [go_sem,seval,-List.reduceReplicate,hrl,P,F,f0,f1,f2,f3,g13]
               have hml:=mG_len (k:=4) (s:=m.session % 65536) (t:=n) (tx:=[]) (r:=m.root.val) (S := .p (.sl true 1 [])) (V := .p (.sl false 2 (pl ext (madeL m.values 1)))) hrl
               have hsw:=setAt_whole (cs:=mZ) (xs:=mG 4 (m.session % 65536) n [] m.root.val (.p (.sl true 1 [])) (.p (.sl false 2 (pl ext (madeL m.values 1))))) (by rw [hzl,hml])
               have hw:=mV_weak (k:=4) (s:=m.session % 65536) (t:=n) (tx:=[]) (r:=m.root.val) (x := .sl true 1 []) (y := .sl false 2 (pl ext (madeL m.values 1))) hrl (su:=[]) (va:=madeL m.values 1) rfl rfl
               (repeat refine .z rfl ?_);refine .text ?_;simp (disch:=first|exact dsc|fail) only [go_sem,seval,-List.reduceReplicate,P,F,f0,f1,f2,f3,g13,mV_agg,mV_cells,hml,hzl,hsw]
               (repeat refine .z rfl ?_);refine .rt Tryd.func8 (by rw [Tryd.results8]) (hx:=by simp (disch:=first|exact dsc|fail) only [go_sem,seval,-List.reduceReplicate,P,F,f0,f1,f2,f3,g13,mV_agg,mV_cells,hml,hzl,hw];rfl) (hR := ?_);simp (disch:=first|exact dsc|fail) only [go_sem,seval,-List.reduceReplicate,P,F,f0,f1,f2,f3,g13,mV_agg,mV_cells,hml,hzl,hw]
               exact h
             · have d4:(k2 == 4)=false:=by simpa using e4
               rw [if_neg e4] at h
               (repeat refine .z rfl ?_);refine .text ?_;simp (disch:=first|exact dsc|fail) only [go_sem,seval,-List.reduceReplicate,d4]
               (repeat refine .z rfl ?_);refine .ifF (by simp (disch:=first|exact dsc|fail) only [go_sem,seval,-List.reduceReplicate,d4]) ?_
               by_cases e5:k2=5
               · subst e5
                 simp only [if_true,reduceIte,Int.reduceEq] at h
                 (repeat refine .z rfl ?_);refine .text ?_;simp (disch:=first|exact dsc|fail) only [go_sem,seval,-List.reduceReplicate]
                 (repeat refine .z rfl ?_);refine .ifT (by simp (disch:=first|exact dsc|fail) only [go_sem,seval,-List.reduceReplicate]) ?_
                 have hmin:min (m.values.length:Int) 6=((min m.values.length 6:Nat):Int):=by omega
                 have hle:min m.values.length 6≤6:=Nat.min_le_right _ _
                 generalize min m.values.length 6=mn at *
                 (repeat refine .z rfl ?_);refine .text ?_;simp (disch:=first|exact dsc|fail) only [go_sem,seval,-List.reduceReplicate,P,F,f0,f1,f2,f3,g13,hmin]
                 refine CallK.of (fun R h=>MadeAll_spec m.values hva mn (by omega) _ R h) ?_;simp (disch:=first|exact dsc|fail) only [go_sem,seval,-List.reduceReplicate,hrl,P,F,f0,f1,f2,f3,g13]
                 have hml:=mG_len (k:=5) (s:=m.session % 65536) (t:=n) (tx:=[]) (r:=m.root.val) (S := .p (.sl true 1 [])) (V := .p (.sl false 2 (pl ext (madeL m.values mn)))) hrl
                 have hsw:=setAt_whole (cs:=mZ) (xs:=mG 5 (m.session % 65536) n [] m.root.val (.p (.sl true 1 [])) (.p (.sl false 2 (pl ext (madeL m.values mn))))) (by rw [hzl,hml])
                 have hw:=mV_weak (k:=5) (s:=m.session % 65536) (t:=n) (tx:=[]) (r:=m.root.val) (x := .sl true 1 []) (y := .sl false 2 (pl ext (madeL m.values mn))) hrl (su:=[]) (va:=madeL m.values mn) rfl rfl
                 (repeat refine .z rfl ?_);refine .text ?_;simp (disch:=first|exact dsc|fail) only [go_sem,seval,-List.reduceReplicate,P,F,f0,f1,f2,f3,g13,mV_agg,mV_cells,hml,hzl,hsw]
                 (repeat refine .z rfl ?_);refine .rt Tryd.func8 (by rw [Tryd.results8]) (hx:=by simp (disch:=first|exact dsc|fail) only [go_sem,seval,-List.reduceReplicate,P,F,f0,f1,f2,f3,g13,mV_agg,mV_cells,hml,hzl,hw];rfl) (hR := ?_);simp (disch:=first|exact dsc|fail) only [go_sem,seval,-List.reduceReplicate,P,F,f0,f1,f2,f3,g13,mV_agg,mV_cells,hml,hzl,hw]
                 exact h
               · have d5:(k2 == 5)=false:=by simpa using e5
                 rw [if_neg e5] at h
                 (repeat refine .z rfl ?_);refine .text ?_;simp (disch:=first|exact dsc|fail) only [go_sem,seval,-List.reduceReplicate,d5]
                 (repeat refine .z rfl ?_);refine .ifF (by simp (disch:=first|exact dsc|fail) only [go_sem,seval,-List.reduceReplicate,d5]) ?_
                 refine .skip ?_
                 have hml:=mG_len (k:=k2) (s:=m.session % 65536) (t:=n) (tx:=[]) (r:=m.root.val) (S := .p (.sl true 1 [])) (V := .p (.sl true 2 [])) hrl
                 have hsw:=setAt_whole (cs:=mZ) (xs:=mG k2 (m.session % 65536) n [] m.root.val (.p (.sl true 1 [])) (.p (.sl true 2 []))) (by rw [hzl,hml])
                 have hw:=mV_weak (k:=k2) (s:=m.session % 65536) (t:=n) (tx:=[]) (r:=m.root.val) (x := .sl true 1 []) (y := .sl true 2 []) hrl (su:=[]) (va:=[]) rfl rfl
                 (repeat refine .z rfl ?_);refine .text ?_;simp (disch:=first|exact dsc|fail) only [go_sem,seval,-List.reduceReplicate,P,F,f0,f1,f2,f3,g13,mV_agg,mV_cells,hml,hzl,hsw]
                 (repeat refine .z rfl ?_);refine .rt Tryd.func8 (by rw [Tryd.results8]) (hx:=by simp (disch:=first|exact dsc|fail) only [go_sem,seval,-List.reduceReplicate,P,F,f0,f1,f2,f3,g13,mV_agg,mV_cells,hml,hzl,hw];rfl) (hR := ?_);simp (disch:=first|exact dsc|fail) only [go_sem,seval,-List.reduceReplicate,P,F,f0,f1,f2,f3,g13,mV_agg,mV_cells,hml,hzl,hw]
                 exact h
end walks
end Go.Proofs.YtmoecjgehdkhkaaDoor

/-
  Sessions: the encoding and the decoding agree with the reference.
-/
namespace Go.Proofs.YtmoecjgehdkhkaaDoor
open Go Go.AL

theorem made29_ok {m:Msg} (hm:m.Ok) {n:Nat} (hn:n≤255):(made29 m n).Ok:=by
 have hs:okI (m.session % 65536):=⟨by omega,by omega⟩
 have hst:okI (n:Int):=⟨by omega,by omega⟩
 have hk:okI (mk2 m n):=by
  have:mk0 m n=4 ∨ mk0 m n=6 ∨ mk0 m n=7:=by
   unfold mk0
   have h4:(m.kind % 4).toNat < 4:=by omega
   generalize (m.kind % 4).toNat=k at *
   match k,h4 with
   | 0,_=>split<;>simp [nth]
   | 1,_=>split<;>simp [nth]
   | 2,_=>split<;>simp [nth]
   | 3,_=>split<;>simp [nth]
  unfold mk2
  repeat' split
  all_goals first | exact ⟨by omega,by omega⟩ | (rcases this with e | e | e<;>rw [e]<;>exact ⟨by omega,by omega⟩)
 unfold made29
 have c : ∀ k:Int,0≤k → k≤10 → okI k:=fun k h1 h2=>⟨by omega,by omega⟩
 repeat' split
 · exact ⟨c 1 (by omega) (by omega),hs,hst,by simp;omega,by simp,by simp⟩
 · exact ⟨c 3 (by omega) (by omega),hs,hst,by simp,by simp;omega,by simp⟩
 · exact ⟨c 4 (by omega) (by omega),hs,hst,by simp,by simp,by show (madeL _ _).length≤_;rw [madeL_len];omega⟩
 · exact ⟨c 5 (by omega) (by omega),hs,hst,by simp,by simp,by show (madeL _ _).length≤_;rw [madeL_len];omega⟩
 · exact ⟨hk,hs,hst,by simp,by simp,by simp⟩
theorem enc_le {m:Msg}:(enc m).length≤3000:=by
 cases hv:valid m with
 | true=>exact (enc_len hv).2
 | false=>rw [enc,hv];simp
section walks
variable {G:Globs} {r1 r2:Nat} {m1:List (Int × Rule)} {m2:List (Int × Int)}
set_option maxHeartbeats 8000000 in
set_option maxRecDepth 20000 in
theorem Codec_spec (g:GR G r1 r2 m1 m2) (m:Msg) (k1:okI m.kind) (k2:okI m.session) (k3:okI m.step) (h1:m.text.length≤9223372036854775807) (h2:m.sums.length≤9223372036854775807) (h3:m.values.length≤9223372036854775807) (st:BitVec 8) (b:By) (hb:b.length≤9223372036854775807) (H:Hp) (R:AV → Hp → Prop) (h:R (.p (bo true)) H) :
 ACall Tryd.prog G 3 [.p (msg m),.p (b8 st),.p (.sl false 1 (pl b8 b))] H R:=by
 refine ACall.of_run (raw:=[]) Tryd.func3 rfl Tryd.ntmps3 (by simp) fun hbel => ?_
 (repeat refine .z rfl ?_);refine .text ?_;simp (disch:=first|exact dsc|fail) only [go_sem,seval,-List.reduceReplicate]
 (repeat refine .z rfl ?_);refine .text ?_;simp (disch:=first|exact dsc|fail) only [go_sem,seval,-List.reduceReplicate]
 refine CallK.of (fun R h=>sanity_spec g _ R h) ?_;simp (disch:=first|exact dsc|fail) only [go_sem,seval,-List.reduceReplicate]
 (repeat refine .z rfl ?_);refine .text ?_;simp (disch:=first|exact dsc|fail) only [go_sem,seval,-List.reduceReplicate]
 cases c1:decide ((100:Int) < (m.sums.length:Int)) with
 | true =>
  simp (disch:=first|exact dsc|fail) only [go_sem,seval,-List.reduceReplicate,c1]
  (repeat refine .z rfl ?_);refine .ifT (by simp (disch:=first|exact dsc|fail) only [go_sem,seval,-List.reduceReplicate]) ?_
  (repeat refine .z rfl ?_);refine .text ?_;simp (disch:=first|exact dsc|fail) only [go_sem,seval,-List.reduceReplicate]
  (repeat refine .z rfl ?_);refine .rt Tryd.func3 (by rw [Tryd.results3]) (hR := ?_);simp (disch:=first|exact dsc|fail) only [go_sem,seval,-List.reduceReplicate]
  exact h
 | false =>
 simp (disch:=first|exact dsc|fail) only [go_sem,seval,-List.reduceReplicate,c1]
 cases c2:decide ((100:Int) < (m.values.length:Int)) with
 | true =>
  simp (disch:=first|exact dsc|fail) only [go_sem,seval,-List.reduceReplicate,c2]
  (repeat refine .z rfl ?_);refine .ifT (by simp (disch:=first|exact dsc|fail) only [go_sem,seval,-List.reduceReplicate]) ?_
  (repeat refine .z rfl ?_);refine .text ?_;simp (disch:=first|exact dsc|fail) only [go_sem,seval,-List.reduceReplicate]
  (repeat refine .z rfl ?_);refine .rt Tryd.func3 (by rw [Tryd.results3]) (hR := ?_);simp (disch:=first|exact dsc|fail) only [go_sem,seval,-List.reduceReplicate]
  exact h
 | false =>
 simp (disch:=first|exact dsc|fail) only [go_sem,seval,-List.reduceReplicate,c2]
 cases c3:decide ((500:Int) < (m.text.length:Int)) with
 | true =>
  simp (disch:=first|exact dsc|fail) only [go_sem,seval,-List.reduceReplicate,c3]
  (repeat refine .z rfl ?_);refine .ifT (by simp (disch:=first|exact dsc|fail) only [go_sem,seval,-List.reduceReplicate]) ?_
  (repeat refine .z rfl ?_);refine .text ?_;simp (disch:=first|exact dsc|fail) only [go_sem,seval,-List.reduceReplicate]
  (repeat refine .z rfl ?_);refine .rt Tryd.func3 (by rw [Tryd.results3]) (hR := ?_);simp (disch:=first|exact dsc|fail) only [go_sem,seval,-List.reduceReplicate]
  exact h
 | false =>
 simp (disch:=first|exact dsc|fail) only [go_sem,seval,-List.reduceReplicate,c3]
 cases c4:decide ((2000:Int) < (b.length:Int)) with
 | true =>
  (repeat refine .z rfl ?_);refine .ifT (by simp (disch:=first|exact dsc|fail) only [go_sem,seval,-List.reduceReplicate,c4]) ?_
  (repeat refine .z rfl ?_);refine .text ?_;simp (disch:=first|exact dsc|fail) only [go_sem,seval,-List.reduceReplicate]
  (repeat refine .z rfl ?_);refine .rt Tryd.func3 (by rw [Tryd.results3]) (hR := ?_);simp (disch:=first|exact dsc|fail) only [go_sem,seval,-List.reduceReplicate]
  exact h
 | false =>
 have q1:=of_decide_eq_false c1
 have q2:=of_decide_eq_false c2
 have q3:=of_decide_eq_false c3
 have q4:=of_decide_eq_false c4
 have hm:m.Ok:=⟨k1,k2,k3,by omega,by omega,by omega⟩
 have hst:st.toNat≤255:=by have:=st.isLt;omega
 have hw:=wrap_small (n:=st.toNat) (by omega)
 have hx:=made29_ok hm hst
 have hok:=(dec_ok b).1
 (repeat refine .z rfl ?_);refine .ifF (by simp (disch:=first|exact dsc|fail) only [go_sem,seval,-List.reduceReplicate,c4]) ?_
 (repeat refine .z rfl ?_);refine .text ?_;simp (disch:=first|exact dsc|fail) only [go_sem,seval,-List.reduceReplicate,hw]
 refine CallK.of (fun R h=>Made29_spec m hm st.toNat hst _ R h) ?_;simp (disch:=first|exact dsc|fail) only [go_sem,seval,-List.reduceReplicate]
 have hme:(enc m).length≤140737488355000:=by have:=enc_le (m:=m);omega
 have hxe:(enc (made29 m st.toNat)).length≤140737488355000:=by have:=enc_le (m:=made29 m st.toNat);omega
 have d1:decide (enc m=enc m)=true:=decide_eq_true rfl
 have d2:decide (enc (made29 m st.toNat)=enc (made29 m st.toNat))=true:=decide_eq_true rfl
 generalize made29 m st.toNat=x at *
 (repeat refine .z rfl ?_);refine .text ?_;simp (disch:=first|exact dsc|fail) only [go_sem,seval,-List.reduceReplicate]
 refine CallK.of (fun R h=>Decode_spec g b (by omega) _ R h) ?_;simp (disch:=first|exact dsc|fail) only [go_sem,seval,-List.reduceReplicate]
 (repeat refine .z rfl ?_);refine .text ?_;simp (disch:=first|exact dsc|fail) only [go_sem,seval,-List.reduceReplicate]
 refine CallK.of (fun R h=>Decode29_spec b (by omega) _ R h) ?_;simp (disch:=first|exact dsc|fail) only [go_sem,seval,-List.reduceReplicate]
 generalize (dec b).1=d at *
 generalize (dec b).2=e at *
 have de:(e == e)=true:=beq_self_eq_true _
 (repeat refine .z rfl ?_);refine .open [] follows (by kernel_rfl) ?_;simp (disch:=first|exact dsc|fail) only [go_sem,seval,-List.reduceReplicate]
 refine CallD.still (fun R h=>Encode_spec g m hm _ R h) ?_;simp (disch:=first|exact dsc|fail) only [go_sem,seval,-List.reduceReplicate]
 refine CallD.still (fun R h=>Encode29_spec m hm _ R h) ?_;simp (disch:=first|exact dsc|fail) only [go_sem,seval,-List.reduceReplicate]
 refine CallD.still (fun R h=>SameBytes_spec _ _ hme hme _ R h) ?_;simp (disch:=first|exact dsc|fail) only [go_sem,seval,-List.reduceReplicate,d1]
 refine CallD.still (fun R h=>Encode_spec g x hx _ R h) ?_;simp (disch:=first|exact dsc|fail) only [go_sem,seval,-List.reduceReplicate]
 refine CallD.still (fun R h=>Encode29_spec x hx _ R h) ?_;simp (disch:=first|exact dsc|fail) only [go_sem,seval,-List.reduceReplicate]
 refine CallD.still (fun R h=>SameBytes_spec _ _ hxe hxe _ R h) ?_;simp (disch:=first|exact dsc|fail) only [go_sem,seval,-List.reduceReplicate,d2]
 refine CallD.still (fun R h=>SameMessage_spec d hok _ R h) ?_;simp (disch:=first|exact dsc|fail) only [go_sem,seval,-List.reduceReplicate,de]
 (repeat refine .z rfl ?_);refine .rt Tryd.func3 (by rw [Tryd.results3]) (hR := ?_);simp (disch:=first|exact dsc|fail) only [go_sem,seval,-List.reduceReplicate]
 exact h
end walks
end Go.Proofs.YtmoecjgehdkhkaaDoor

/-
  Sessions: every string that is decoded is the encoding of its message.
-/
namespace Go.Proofs.YtmoecjgehdkhkaaDoor
open Go Go.AL

section walks
variable {G:Globs} {r1 r2:Nat} {m1:List (Int × Rule)} {m2:List (Int × Int)}
end walks
end Go.Proofs.YtmoecjgehdkhkaaDoor

/-
  Sessions: the package-level maps,read from what the rows say is laid.
-/
namespace Go.Proofs.YtmoecjgehdkhkaaDoor
open Go Go.AL Go.WideElems

section maps
variable {H:Type} {enc:TypeId × Value → H} {P:Program} {W:World} {sp:Nat → Bool} {held:Bool} {t k e:TypeId} {α:Type}
theorem insert_perm {x:Lit × DataW H} : ∀ l,(DataW.insert x l).Perm (x :: l)
 | [] => .refl _
 | y :: r=>by
  unfold DataW.insert
  split
  · exact .refl _
  · exact ((insert_perm r).cons y).trans (.swap x y r)
theorem sorted_perm : ∀ l:List (Lit × DataW H),(l.foldr DataW.insert []).Perm l
 | [] => .refl _
 | x :: l=>(insert_perm _).trans ((sorted_perm l).cons x)
theorem assoc_of {κ α:Type} [DecidableEq κ] {T:κ → Option α} {k:κ} : ∀ {m:List (κ × α)},(∀ p∈m,T p.1=some p.2) → (∀ v,T k=some v → ∃ p∈m,p.1=k) → assoc k m=T k
 | [],_,h2=>by
  cases e:T k with
  | none=>rfl
  | some v=>obtain ⟨p,hp,_⟩:=h2 v e;cases hp
 | (a,x) :: m,h1,h2=>by
  unfold assoc
  split
  · rename_i h;subst h;exact (h1 _ (List.mem_cons_self ..)).symm
  · rename_i h
    exact assoc_of (fun p hp=>h1 p (List.mem_cons_of_mem _ hp)) fun v hv=>by
     obtain ⟨p,hp,hk⟩:=h2 v hv
     rcases List.mem_cons.1 hp with rfl | hp
     · exact absurd hk h
     · exact ⟨p,hp,hk⟩
theorem list_choose {α β:Type} {Q:α → β → Prop} : ∀ {l:List α},(∀ x∈l,∃ y,Q x y) → ∃ m:List β,m.length=l.length ∧ ∀ (j:Nat) x y,l[j]? = some x → m[j]? = some y → Q x y
 | [],_=>⟨[],rfl,fun j x y h=>by simp at h⟩
 | a :: l,h=>by
  obtain ⟨y,hy⟩:=h a (List.mem_cons_self ..)
  obtain ⟨m,hm,hq⟩:=list_choose (l:=l) fun x hx=>h x (List.mem_cons_of_mem _ hx)
  refine ⟨y :: m,by simp [hm],fun j => ?_⟩
  cases j with
  | zero=>intro x z h1 h2;simp at h1 h2;subst h1 h2;exact hy
  | succ j=>intro x z h1 h2;simp at h1 h2;exact hq j x z h1 h2
theorem key_int (hk:P.underlying k=some (.int .i64)) {v:Value} {kl:Lit} (h:keyOf P k v=some kl) : ∃ z,v=iev z∧kl = .int .i64 z∧okI z:=by
 unfold keyOf at h
 rw [hk] at h
 unfold mapKey at h
 rw [hk] at h
 cases v with
 | int q n =>
  simp only at h
  split at h
  · rename_i hc
    obtain ⟨rfl,hw⟩:=hc
    cases h
    simp only [Lit.wf,Bool.and_eq_true,decide_eq_true_eq] at hw
    exact ⟨n,rfl,rfl,hw⟩
  · cases h
 | _=>cases h
theorem gmap_of (ht:P.underlying t=some (.map k e)) (hk:P.underlying k=some (.int .i64)) {fuel:Nat} {cs:List Value} {L:List (Lit × DataW H)} {p:List MemPlace} (h:DataW.trod enc P W 0 sp held fuel t cs=some (.map L,p)) (T:Int → Option α) (f:α → AV)
 (hbel : ∀ v n,BelowN n (f v))
 (hL : ∀ (n:Nat) kk d,(kk,d)∈L → ∀ v q,elemAt enc P W 0 sp held n e v=some (d,q) → ∃ z x,kk = .int .i64 z∧T z=some x∧RelV σ0 H0 W (f x) v)
 (hT : ∀ z x,T z=some x → ∃ d,(Lit.int .i64 z,d)∈L) :
 ∃ b m,cs=[.map (some b)]∧GMap σ0 H0 W b (tm iev f m)∧(∀ q∈m,okI q.1) ∧ ∀ z,assoc z m=T z:=by
 rcases open_map ht h with ⟨_,hx⟩ | ⟨b,es,clock,n,_,hcs,hb,_,F,hx⟩
 · cases hx
 · obtain ⟨s1,s2,s3⟩:=F.stamped
   have hLe:L=(es.toList.map (rg P k (elemAt enc P W 0 sp held n e))).foldr DataW.insert []:=by
    have:=congrArg Prod.fst hx
    simpa using this
   have hperm:=sorted_perm (es.toList.map (rg P k (elemAt enc P W 0 sp held n e)))
   rw [←hLe] at hperm
   obtain ⟨m,hm,hq⟩:=list_choose (Q:=fun (x:MapEntry) (q:Int × α)=>x.key=iev q.1∧okI q.1∧T q.1=some q.2∧RelV σ0 H0 W (f q.2) x.val∧(rg P k (elemAt enc P W 0 sp held n e) x).1 = .int .i64 q.1) (l:=es.toList) fun x hx=>by
    obtain ⟨y,hy⟩:=F.reads x hx
    have hr:=rg_of hy
    obtain ⟨w,hw,hy2⟩:=rd_val hy
    have hmem:(y.1,y.2)∈L:=hperm.mem_iff.2 (List.mem_map.2 ⟨x,hx,hr⟩)
    obtain ⟨z,hz1,hz2,hz3⟩:=key_int hk (rd_key hy)
    obtain ⟨z',a,h1,h2,h3⟩:=hL n y.1 y.2 hmem x.val w.2 (by rw [hw,hy2])
    rw [hz2] at h1
    cases h1
    exact ⟨(z,a),hz1,hz3,h2,h3,by rw [hr];exact hz2⟩
   have hget : ∀ {q:Int × α},q∈m → ∃ x∈es.toList,x.key=iev q.1∧okI q.1∧T q.1=some q.2:=fun {q} hqm=>by
    obtain ⟨j,hj⟩:=List.getElem?_of_mem hqm
    have hlt:j < es.toList.length:=by have:=(List.getElem?_eq_some_iff.1 hj).1;omega
    obtain ⟨h1,h2,h3,_⟩:=hq j _ q (List.getElem?_eq_getElem hlt) hj
    exact ⟨_,List.getElem_mem hlt,h1,h2,h3⟩
   have hkeys:(tm iev f m).map (·.1)=es.toList.map (·.key):=by
    apply List.ext_getElem?
    intro j
    simp only [tm,List.map_map,List.getElem?_map]
    cases hj:m[j]? with
    | none =>
     have:es.toList[j]? = none:=by
      rw [List.getElem?_eq_none_iff] at hj ⊢;omega
     rw [this];rfl
    | some q =>
     have hlt:j < es.toList.length:=by have:=(List.getElem?_eq_some_iff.1 hj).1;omega
     rw [List.getElem?_eq_getElem hlt]
     obtain ⟨h1,_⟩:=hq j _ q (List.getElem?_eq_getElem hlt) hj
     simpa using h1.symm
   refine ⟨b,m,hcs,⟨⟨es,clock,hb,by simp [tm,hm],?_,?_⟩,free0 b,?_⟩,?_,?_⟩
   · rw [hkeys]
     exact s3
   · intro j x q hx hq'
     simp only [tm,List.getElem?_map,Option.map_eq_some_iff] at hq'
     obtain ⟨q0,hq0,rfl⟩:=hq'
     obtain ⟨h1,_,_,h4,_⟩:=hq j x q0 (by simpa using hx) hq0
     exact ⟨h1,h4⟩
   · intro q hq' n
     simp only [tm,List.mem_map] at hq'
     obtain ⟨q0,_,rfl⟩:=hq'
     exact hbel _ _
   · intro q hqm
     obtain ⟨_,_,_,h,_⟩:=hget hqm
     exact h
   · intro z
     refine assoc_of (fun q hqm => ?_) fun v hv => ?_
     · obtain ⟨_,_,_,_,h⟩:=hget hqm
       exact h
     · obtain ⟨d,hd⟩:=hT z v hv
       obtain ⟨x,hx,hr⟩:=List.mem_map.1 (hperm.mem_iff.1 hd)
       obtain ⟨j,hj⟩:=List.getElem?_of_mem hx
       have hlt:j < m.length:=by have:=(List.getElem?_eq_some_iff.1 hj).1;omega
       obtain ⟨_,_,_,_,h5⟩:=hq j x _ hj (List.getElem?_eq_getElem hlt)
       refine ⟨m[j],List.getElem_mem hlt,?_⟩
       rw [hr] at h5
       cases h5
       rfl
theorem trod_int {q:IntKind} (ht:P.underlying t=some (.int q)) {fuel:Nat} {c:Value} {z:Int} {kd:IntKind} {p:List MemPlace} (h:DataW.trod enc P W 0 sp held fuel t [c]=some (.lit (.int kd z),p)):c = .int q z:=by
 cases fuel with
 | zero=>simp [DataW.trod] at h
 | succ n =>
  rw [DataW.trod_step] at h
  unfold DataW.trodStep at h
  rw [ht] at h
  cases c<;>simp at h
  obtain ⟨⟨rfl,_⟩,⟨_,rfl⟩,_⟩:=h
  rfl
end maps
theorem elem_int {P:Program} {W:World} {sp:Nat → Bool} {held:Bool} {H:Type} {enc:TypeId × Value → H} {e:TypeId} (he:P.underlying e=some (.int .i64)) {n:Nat} {v:Value} {z:Int} {kd:IntKind} {q:List MemPlace} (h:elemAt enc P W 0 sp held n e v=some (.lit (.int kd z),q)):v = .int .i64 z:=by
 unfold elemAt at h
 split at h
 · rename_i hf
   cases v with
   | agg cs=>simp [Value.formed,he] at hf
   | tuple cs=>simp [Value.formed] at hf
   | _=>exact trod_int he h
 · cases h
theorem states_map {W:World} {fuel:Nat} {cs:List Value} {p:List MemPlace} {sp:Nat → Bool} {held:Bool} {enc:TypeId × Value → Unit} (h:DataW.trod enc Tryd.prog W 0 sp held fuel 120 cs=some (Rows.laid_attestor_session_states,p)) :
 ∃ b m,cs=[.map (some b)]∧GMap σ0 H0 W b (tm iev ivv m)∧(∀ q∈m,okI q.1) ∧ ∀ z,assoc z m=stateT z:=by
 refine gmap_of Tryd.underlying120 Tryd.underlying3 h stateT ivv (fun v n => .p _) ?_ ?_
 · intro n kk d hm v q he
   simp only [List.mem_cons,List.not_mem_nil,or_false,Prod.mk.injEq] at hm
   (rcases hm with ⟨rfl,rfl⟩ | ⟨rfl,rfl⟩ | ⟨rfl,rfl⟩ | ⟨rfl,rfl⟩ | ⟨rfl,rfl⟩ | ⟨rfl,rfl⟩ | ⟨rfl,rfl⟩)<;>(obtain rfl:=elem_int Tryd.underlying3 he;exact ⟨_,_,rfl,rfl,.p (.s _ rfl)⟩)
 · intro z x hz
   have hk:z=1 ∨ z=2 ∨ z=3 ∨ z=4 ∨ z=5 ∨ z=6 ∨ z=7:=by
    unfold stateT at hz
    repeat' split at hz
    all_goals first | omega | cases hz
   (rcases hk with rfl | rfl | rfl | rfl | rfl | rfl | rfl)<;>exact ⟨_,by simp [Rows.laid_attestor_session_states];rfl⟩

theorem trod_func {H:Type} {enc:TypeId × Value → H} {P:Program} {W:World} {sp:Nat → Bool} {t:TypeId} {ps rs:Array TypeId} {va:Bool} (ht:P.underlying t=some (.func ps rs va)) {fuel:Nat} {c:Value} {x:H} {p:List MemPlace} (h:DataW.trod enc P W 0 sp true fuel t [c]=some (.held x,p)) : ∃ fn a b,c = .func fn a b∧enc (t,c)=x:=by
 cases fuel with
 | zero=>simp [DataW.trod] at h
 | succ n =>
  rw [DataW.trod_step] at h
  unfold DataW.trodStep at h
  rw [ht] at h
  cases c<;>simp at h
  exact ⟨_,_,_,rfl,h.1⟩
theorem elem_rule {W:World} {sp:Nat → Bool} {H:Type} {enc:TypeId × Value → H} {n:Nat} {v:Value} {a b:Int} {ka kb:IntKind} {x:H} {q:List MemPlace} (h:elemAt enc Tryd.prog W 0 sp true n 111 v=some (.agg [.lit (.int ka a),.lit (.int kb b),.held x],q)) :
 ∃ fn c d,v = .agg #[.int .i64 a,.int .i64 b,.func fn c d]∧enc (109,.func fn c d)=x:=by
 unfold elemAt at h
 split at h
 · rename_i hf
   cases v with
   | agg cs =>
    simp only [Value.formed,Tryd.underlying111,cells111,beq_iff_eq] at hf
    obtain ⟨c1,c2,c3,rfl⟩ : ∃ c1 c2 c3,cs = #[c1,c2,c3]:=by
     obtain ⟨l⟩:=cs
     match l,hf with
     | [c1,c2,c3],_=>exact ⟨c1,c2,c3,rfl⟩
    cases n with
    | zero=>simp [DataW.trod] at h
    | succ n =>
     rw [DataW.trod_step] at h
     unfold DataW.trodStep at h
     simp only [Tryd.underlying111,cells111,Value.cells] at h
     simp only [List.length_cons,List.length_nil,if_true,Option.map_eq_some_iff,Prod.mk.injEq,DataW.agg.injEq] at h
     obtain ⟨xs,hm,hx,_⟩:=h
     simp only [List.mapM_cons,List.mapM_nil,cells3,cells109,List.drop_zero,List.drop_succ_cons,List.take_succ_cons,List.take_zero,Option.bind_eq_bind,Option.bind_eq_some_iff,Option.pure_def,Option.some.injEq] at hm
     obtain ⟨y1,h1,y23,⟨y2,h2,y3s,⟨y3,h3,hn,rfl,rfl⟩,rfl⟩,rfl⟩:=hm
     obtain ⟨d1,q1⟩:=y1
     obtain ⟨d2,q2⟩:=y2
     obtain ⟨d3,q3⟩:=y3
     simp only [List.map_cons,List.map_nil,List.cons.injEq,and_true] at hx
     obtain ⟨rfl,rfl,rfl⟩:=hx
     obtain rfl:=trod_int Tryd.underlying3 h1
     obtain rfl:=trod_int Tryd.underlying3 h2
     obtain ⟨fn,c,d,rfl,h4⟩:=trod_func Tryd.underlying109 h3
     exact ⟨fn,c,d,rfl,h4⟩
   | tuple cs=>simp [Value.formed] at hf
   | _=>simp [Value.formed,Tryd.underlying111] at hf
 · cases h

theorem toUTF8_inj {a b:String} (h:a.toUTF8.data.toList=b.toUTF8.data.toList):a=b:=by
 refine String.toByteArray_inj.1 ?_
 show a.toUTF8=b.toUTF8
 have:=Array.toList_inj.1 h
 cases ha:a.toUTF8;cases hb:b.toUTF8
 rw [ha,hb] at this
 cases this;rfl
theorem rule_rel {W:World} {sp:Nat → Bool} {n:Nat} {v:Value} {a b:Int} {ka kb:IntKind} {nm:String} {fid:FuncId} {q:List MemPlace} {x:UInt8} {r:List UInt8} (hx:nm.toUTF8.data.toList=x :: r) (hf:Tryd.prog.funcNamed nm=some fid)
 (h:elemAt (funcToken Tryd.prog) Tryd.prog W 0 sp true n 111 v=some (.agg [.lit (.int ka a),.lit (.int kb b),.held (x :: r)],q)):RelV σ0 H0 W (rlv ⟨a,b,fid⟩) v:=by
 obtain ⟨fn,c,d,rfl,h1⟩:=elem_rule h
 obtain ⟨f,g,h2,_,h4,h5⟩:=funcToken_tells h1
 cases h2
 have hn:g.name=nm:=toUTF8_inj (h5.trans hx.symm)
 rw [hn,hf] at h4
 cases h4
 refine .agg _ rfl ?_ ?_
 · intro i v hv
   rcases i with _ | _ | _ | i<;>simp at hv<;>subst hv<;>rfl
 · intro i y v hy hv
   rcases i with _ | _ | _ | i<;>simp at hy hv<;>subst hy<;>subst hv
   · exact .p (.s _ rfl)
   · exact .p (.s _ rfl)
   · exact .clo _ _ rfl rfl (fun i x v h=>by simp at h) (fun i x v h=>by simp at h)
def rulesD:DataW Unit:=match (Rows.laid_attestor_session_rules:DataW Unit) with
 | .iface _ d=>d
 | d=>d
theorem rules_map {W:World} {fuel:Nat} {cs:List Value} {p:List MemPlace} {sp:Nat → Bool} (h:DataW.trod (funcToken Tryd.prog) Tryd.prog W 0 sp true fuel 112 cs=some (rulesD.funcsOut,p)) :
    ∃ b m,cs=[.map (some b)]∧GMap σ0 H0 W b (tm iev rlv m)∧(∀ q∈m,okI q.1) ∧ ∀ z,assoc z m=ruleT z:=by
  refine gmap_of Tryd.underlying112 Tryd.underlying3 h ruleT rlv (fun v n => ?_) ?_ ?_
  · refine .agg _ fun i y hy => ?_
    rcases i with _ | _ | _ | i<;>simp at hy<;>subst hy
    · exact .p _
    · exact .p _
    · exact .clo _ _ _ (fun i y hy=>by simp at hy) (fun i y hy=>by simp at hy)
  · intro n kk d hm v q he
    simp only [DataW.funcsOut,DataW.funcsOutAll,DataW.funcsOutEntries,List.mem_cons,List.not_mem_nil,or_false,Prod.mk.injEq] at hm
    rcases hm with ⟨rfl,rfl⟩ | ⟨rfl,rfl⟩ | ⟨rfl,rfl⟩ | ⟨rfl,rfl⟩ | ⟨rfl,rfl⟩ | ⟨rfl,rfl⟩ | ⟨rfl,rfl⟩
    · exact ⟨_, _, rfl, rfl, rule_rel (nm := "attestor/session.rules$1") rfl (by kernel_rfl) he⟩
    · exact ⟨_, _, rfl, rfl, rule_rel (nm := "attestor/session.empty") rfl (by kernel_rfl) he⟩
    · exact ⟨_, _, rfl, rfl, rule_rel (nm := "attestor/session.rules$2") rfl (by kernel_rfl) he⟩
    · exact ⟨_, _, rfl, rfl, rule_rel (nm := "attestor/session.rules$3") rfl (by kernel_rfl) he⟩
    · exact ⟨_, _, rfl, rfl, rule_rel (nm := "attestor/session.rules$4") rfl (by kernel_rfl) he⟩
    · exact ⟨_, _, rfl, rfl, rule_rel (nm := "attestor/session.empty") rfl (by kernel_rfl) he⟩
    · exact ⟨_, _, rfl, rfl, rule_rel (nm := "attestor/session.empty") rfl (by kernel_rfl) he⟩
  · intro z x hz
    have hk:z=1 ∨ z=2 ∨ z=3 ∨ z=4 ∨ z=5 ∨ z=6 ∨ z=7:=by
      unfold ruleT at hz
      repeat' split at hz
      all_goals first | omega | cases hz
    rcases hk with rfl | rfl | rfl | rfl | rfl | rfl | rfl
    · exact ⟨_,.head _⟩
    · exact ⟨_,.tail _ (.head _)⟩
    · exact ⟨_,.tail _ (.tail _ (.head _))⟩
    · exact ⟨_,.tail _ (.tail _ (.tail _ (.head _)))⟩
    · exact ⟨_,.tail _ (.tail _ (.tail _ (.tail _ (.head _))))⟩
    · exact ⟨_,.tail _ (.tail _ (.tail _ (.tail _ (.tail _ (.head _)))))⟩
    · exact ⟨_,.tail _ (.tail _ (.tail _ (.tail _ (.tail _ (.tail _ (.head _))))))⟩
end Go.Proofs.YtmoecjgehdkhkaaDoor

/-
  What the laws' rows give their walks: the tables and the maps,a world for the witness,what the arguments read as.
-/
namespace Go.Proofs.YtmoecjgehdkhkaaDoor
open Go Go.AL Go.ChangeShapes Go.WideShapes Go.ChangeAt Go.RowKit

theorem own:ownKnob Tryd.prog.godebug=none:=by kernel_rfl
theorem laidOut:laidOutB Tryd.prog=true:=by kernel_rfl
def varR:String:=Rows.sessionCanonicalRow.named[0]!
def varI:String:=Rows.sessionCanonicalRow.named[1]!
def varC:String:=Rows.sessionCanonicalRow.named[2]!
def varS:String:=Rows.sessionCanonicalRow.named[3]!
theorem gConst:Tryd.prog.globalNamed varC=some 3:=by kernel_rfl
theorem gInit:Tryd.prog.globalNamed varI=some 1:=by kernel_rfl
theorem gRules:Tryd.prog.globalNamed varR=some 0:=by kernel_rfl
theorem gStates:Tryd.prog.globalNamed varS=some 2:=by kernel_rfl
theorem gConstT:(Tryd.prog.globals[3]?).map (·.type)=some 121:=by kernel_rfl
theorem gInitT:(Tryd.prog.globals[1]?).map (·.type)=some 94:=by kernel_rfl
theorem gRulesT:(Tryd.prog.globals[0]?).map (·.type)=some 112:=by kernel_rfl
theorem gStatesT:(Tryd.prog.globals[2]?).map (·.type)=some 120:=by kernel_rfl

def kz:List Int:=ks.map fun x=>(x.toNat:Int)
def iz:List Int:=inits.map fun x=>(x.toNat:Int)
theorem met_tail {P:Program} {x:String × DataW Unit} {l:List (String × DataW Unit)} {W:World} (h:laidMet P (x :: l) W):laidMet P l W:=by
 obtain ⟨ps,⟨g',t',cs,fuel,p,q,_,_,_,_,hq,hps⟩,hn,ha⟩:=h
 subst hps
 exact ⟨q,hq,(List.nodup_append.1 hn).2.1,fun b off hb=>ha b off (List.mem_append_right _ hb)⟩
theorem glob_map {W:World} {n:String} {g b:Nat} {cs:Array Value} (hg:Tryd.prog.globalNamed n=some g) (hv:W.var? Tryd.prog n=some cs) (hc:cs.toList=[.map (some b)]):RelV σ0 H0 W (.ip 1 [.s (.map (some b))] 0 0) (.pointer (some ⟨g,0,none⟩)):=by
 have hcell:W.cell? ⟨g,0,none⟩=some (.map (some b)):=by
  unfold World.var? at hv
  rw [hg] at hv
  simp only [Option.bind_some] at hv
  unfold World.cell?
  split at hv
  · rename_i c t f hh
    simp only [hh]
    obtain rfl:=Option.some.inj hv
    obtain ⟨l⟩:=c
    obtain rfl:l=[.map (some b)]:=hc
    rfl
  · cases hv
 have:=RelV.ip (σ:=σ0) (H:=H0) (w:=W) (sz:=1) (xs:=[.s (.map (some b))]) (i:=0) (sub:=0) (g:=g) (off:=0) (cap:=1)
  (.sl false _ _ _ 0 1 (fun k => .map (some b)) (by simp) ⟨by simp,by unfold maxLen;omega⟩ (fun x hx=>by simp only [List.mem_singleton] at hx;subst hx;rfl)
   (fun k hk=>by
    simp only [List.length_singleton,Nat.one_mul] at hk
    obtain rfl:k=0:=by omega
    exact ⟨stable0 _ _,hcell,rfl⟩)
   (fun k y hy=>by
    have:flat [PV.s (.map (some b))]=[.s (.map (some b))]:=by simp [flat,PV.cells]
    rw [this] at hy
    cases k with
    | zero=>simp at hy;subst hy;exact .s _ rfl
    | succ k=>simp at hy)) (by simp) (by omega)
 simpa using this
theorem assoc_mem {κ α:Type} [DecidableEq κ] {k:κ} {v:α} : ∀ {m:List (κ × α)},assoc k m=some v → (k,v)∈m
 | [],h=>by cases h
 | (a,x) :: m,h=>by
  unfold assoc at h
  split at h
  · rename_i e;subst e;cases h;exact List.mem_cons_self ..
  · exact List.mem_cons_of_mem _ (assoc_mem h)
theorem maps_ne {W:World} {r1 r2:Nat} {m1:List (Int × Rule)} {m2:List (Int × Int)} (h1:GMap σ0 H0 W r1 (tm iev rlv m1)) (h2:GMap σ0 H0 W r2 (tm iev ivv m2)) (t1 : ∀ z,assoc z m1=ruleT z):r1≠r2:=by
 rintro rfl
 obtain ⟨⟨es,clock,a1,a2,_,a4⟩,_⟩:=h1
 obtain ⟨⟨es',clock',b1,b2,_,b4⟩,_⟩:=h2
 rw [a1] at b1
 cases b1
 have hm:=assoc_mem ((t1 1).trans (show ruleT 1=some _ from rfl))
 have hl:0 < m1.length:=List.length_pos_of_mem hm
 simp only [tm,List.length_map] at a2 b2
 have he:es[0]? = some es[0]:=Array.getElem?_eq_getElem (by omega)
 obtain ⟨q1,hq1⟩ : ∃ q,m1[0]? = some q:=⟨_,List.getElem?_eq_getElem hl⟩
 obtain ⟨q2,hq2⟩ : ∃ q,m2[0]? = some q:=⟨_,List.getElem?_eq_getElem (by omega)⟩
 have r1:=(a4 0 _ _ he (by simp only [tm,List.getElem?_map,hq1];rfl)).2
 have r2:=(b4 0 _ _ he (by simp only [tm,List.getElem?_map,hq2];rfl)).2
 simp only [rlv,ivv] at r1 r2
 generalize es[0].val=v at r1 r2
 cases r1
 cases r2 with
 | p h=>cases h

def GG (r1 r2:Nat) (m1:List (Int × Rule)) (m2:List (Int × Int)):Globs :=
 ⟨fun g=>if g=1 then some (8,[.agg (pl w32 inits)]) else if g=3 then some (64,[.agg (pl w32 ks)]) else if g=0 then some (1,[.s (.map (some r1))]) else if g=2 then some (1,[.s (.map (some r2))]) else none,
  fun r=>if r=r1 then some (tm iev rlv m1) else if r=r2 then some (tm iev ivv m2) else none⟩
theorem rel_start {W:World} (h:laidMetH Tryd.prog Rows.sessionCanonicalRow.laid W) : ∃ r1 r2 m1 m2,GR (GG r1 r2 m1 m2) r1 r2 m1 m2∧Rel (GG r1 r2 m1 m2) σ0 H0 W:=by
 have h':laidMet Tryd.prog [(varC,Lib.tabData .u32 kz),(varI,Lib.tabData .u32 iz),(varS,Rows.laid_attestor_session_states)] W∧handlesMet Tryd.prog [(varR,Rows.laid_attestor_session_rules)] W:=h
 obtain ⟨hd,hh⟩:=h'
 have tC:=Lib.tabIs_of_head gConst gConstT Tryd.underlying121 Tryd.underlying93 cells93 cells121 hd
 have hd2:=met_tail hd
 have tI:=Lib.tabIs_of_head gInit gInitT Tryd.underlying94 Tryd.underlying93 cells93 cells94 hd2
 have hd3:=met_tail hd2
 obtain ⟨_,⟨g2,t2,c2,f2,p2,_,hg2,ht2,hv2,hr2,_⟩,_⟩:=hd3
 obtain rfl:=Option.some.inj (gStates.symm.trans hg2)
 obtain rfl:=Option.some.inj (gStatesT.symm.trans ht2)
 obtain ⟨b2,m2,hb2,gm2,k2,a2⟩:=states_map hr2
 have hh1:funcsAt Tryd.prog W varR rulesD:=hh (varR,Rows.laid_attestor_session_rules) (List.mem_cons_self ..)
 obtain ⟨g1,t1,c1,f1,p1,hg1,ht1,hv1,hr1⟩:=hh1
 obtain rfl:=Option.some.inj (gRules.symm.trans hg1)
 obtain rfl:=Option.some.inj (gRulesT.symm.trans ht1)
 obtain ⟨b1,m1,hb1,gm1,k1,a1⟩:=rules_map hr1
 have hne:=maps_ne gm1 gm2 a1
 refine ⟨b1,b2,m1,m2,⟨rfl,rfl,rfl,rfl,if_pos rfl,?_,k1,k2,a1,a2⟩,rel0 (fun g sz xs hg => ?_) fun r m hm => ?_⟩
 · show (if b2=b1 then _ else _)=_
   rw [if_neg (Ne.symm hne),if_pos rfl]
 · simp only [GG] at hg
   split at hg
   · rename_i e;subst e;cases hg
     exact glob_words (l:=inits) tI gInit rfl (by decide)
   · split at hg
     · rename_i e;subst e;cases hg
       exact glob_words (l:=ks) tC gConst rfl (by decide)
     · split at hg
       · rename_i e;subst e;cases hg
         exact glob_map gRules hv1 hb1
       · split at hg
         · rename_i e;subst e;cases hg
           exact glob_map gStates hv2 hb2
         · cases hg
 · simp only [GG] at hm
   split at hm
   · rename_i e;subst e;cases hm;exact gm1
   · split at hm
     · rename_i e;subst e;cases hm;exact gm2
     · cases hm

noncomputable def laidWorld (os:Os):World:=World.doorLaid Tryd.prog 2000 os
set_option maxRecDepth 100000 in
theorem laid_met (os:Os) (args:Array Value):laidMetH Tryd.prog Rows.sessionCanonicalRow.laid ((laidWorld os).forCall (fun _ _=>0) ⟨#[],args,[]⟩).memory :=
 laidMetH_of_parts3 (fuel:=8) (laidMet_of_run' 8 (by kernel_rfl) (by kernel_rfl)) (by kernel_rfl) (by kernel_rfl)

set_option maxRecDepth 100000
section read
variable {k:Nat} {y:List PV}
theorem rd_bytes (h:Reads Tryd.prog (k+2) 28 y) : ∃ l:By,l.length≤9223372036854775807∧y=[.sl false 1 (pl b8 l)]:=by
 obtain ⟨l,h1,rfl,-⟩:=Reads.sl b8 (fun _=>True) Tryd.underlying28 cells5 aggT5 h fun y hy=>by
  obtain ⟨b,rfl⟩:=Reads.u8 Tryd.underlying5 hy
  exact ⟨b,rfl,trivial⟩
 exact ⟨l,h1,rfl⟩
end read
section rel
variable {W:World} {v:Value} {H:Type} {enc:TypeId × Value → H} {d:DataW H} {ps:List MemPlace} {base:Nat}
theorem rel_bytes (hval:Value.okWide Tryd.prog W .any base 28 v) (h:DataW.Trod enc Tryd.prog W 0 (fun _=>true) true 28 v d ps) : ∃ l:By,l.length≤9223372036854775807∧RelV σ0 H0 W (.p (.sl false 1 (pl b8 l))) v:=by
 obtain ⟨xs,hx,e⟩:=rel_read 2 (by kernel_rfl) hval h
 obtain ⟨l,h1,rfl⟩:=rd_bytes (k:=0) hx
 rw [aggT28] at e
 exact ⟨l,h1,e⟩
end rel
end Go.Proofs.YtmoecjgehdkhkaaDoor

/-
  Sessions: what messages and lists of acts read as.
-/
namespace Go.Proofs.YtmoecjgehdkhkaaDoor
open Go Go.AL Go.ChangeShapes Go.WideShapes Go.ChangeAt Go.RowKit

structure Msg.In (m:Msg):Prop where
 kind:okI m.kind
 session:okI m.session
 step:okI m.step
 text:m.text.length≤9223372036854775807
 sums:m.sums.length≤9223372036854775807
 values:m.values.length≤9223372036854775807
 wide : ∀ x∈m.sums,okI x
theorem of_string (s:ByteArray) : ∃ t:By,s=bytesOf t∧t.length=s.size:=by
 refine ⟨s.data.toList.map UInt8.toBitVec,?_,by rw [List.length_map,Array.length_toList];rfl⟩
 apply ByteArray.ext
 simp [bytesOf,Function.comp_def]
set_option maxRecDepth 100000
section read
variable {k:Nat} {y:List PV}
theorem rd_i64s (h:Reads Tryd.prog (k+2) 24 y) : ∃ l:List Int,l.length≤9223372036854775807∧y=[.sl false 1 (pl i64 l)] ∧ ∀ x∈l,okI x :=
 Reads.sl i64 okI Tryd.underlying24 cells2 aggT2 h fun y hy=>by
  obtain ⟨z,h1,h2,rfl⟩:=Reads.i64 Tryd.underlying2 hy
  exact ⟨z,rfl,h1,h2⟩
theorem rd_exts (h:Reads Tryd.prog (k+3) 25 y) : ∃ l:List Ext,l.length≤9223372036854775807∧y=[.sl false 2 (pl ext l)]:=by
 obtain ⟨l,h1,h2,-⟩:=Reads.sl ext (fun _=>True) Tryd.underlying25 cells63 aggT63 h fun y hy=>by
  obtain ⟨y1,z1,rfl,-,r1,y2,z2,rfl,-,r2,rfl⟩:=Reads.struct Tryd.underlying63 hy
  obtain ⟨a,rfl⟩:=Reads.u64 Tryd.underlying61 r1
  obtain ⟨b,rfl⟩:=Reads.u64 Tryd.underlying61 r2
  exact ⟨⟨a,b⟩,rfl,trivial⟩
 exact ⟨l,h1,h2⟩
theorem rd_msg (h:Reads Tryd.prog (k+4) 27 y) : ∃ m:Msg,m.In∧y=msgL m:=by
 obtain ⟨y1,z1,rfl,-,r1,y2,z2,rfl,-,r2,y3,z3,rfl,-,r3,y4,z4,rfl,-,r4,y5,z5,rfl,-,r5,y6,z6,rfl,-,r6,y7,z7,rfl,-,r7,rfl⟩:=Reads.struct Tryd.underlying27 h
 obtain ⟨kd,a1,a2,rfl⟩:=Reads.i64 Tryd.underlying3 r1
 obtain ⟨se,b1,b2,rfl⟩:=Reads.i64 Tryd.underlying3 r2
 obtain ⟨sp,c1,c2,rfl⟩:=Reads.i64 Tryd.underlying3 r3
 obtain ⟨s,hs,rfl⟩:=Reads.str Tryd.underlying9 r4
 obtain ⟨t,rfl,ht⟩:=of_string s
 obtain ⟨d,hd,rfl⟩:=Reads.arr b8 Tryd.underlying23 r5 fun y hy=>Reads.u8 Tryd.underlying5 hy
 obtain ⟨su,e1,rfl,e2⟩:=rd_i64s r6
 obtain ⟨va,f1,rfl⟩:=rd_exts r7
 exact ⟨⟨kd,se,sp,t,⟨d,hd⟩,su,va⟩,⟨⟨a1,a2⟩,⟨b1,b2⟩,⟨c1,c2⟩,by show t.length≤_;omega,e1,f1,e2⟩,by simp [msgL]⟩
end read
section rel
variable {W:World} {v:Value} {H:Type} {enc:TypeId × Value → H} {d:DataW H} {ps:List MemPlace} {base:Nat}
theorem rel_msg (hval:Value.okWide Tryd.prog W .any base 27 v) (h:DataW.Trod enc Tryd.prog W 0 (fun _=>true) true 27 v d ps) : ∃ m:Msg,m.In∧RelV σ0 H0 W (.p (msg m)) v:=by
 obtain ⟨xs,hx,e⟩:=rel_read 8 (by kernel_rfl) hval h
 obtain ⟨m,h1,rfl⟩:=rd_msg (k:=4) hx
 rw [aggT27] at e
 exact ⟨m,h1,e⟩
theorem rel_u8 (hval:Value.okWide Tryd.prog W .any base 5 v) (h:DataW.Trod enc Tryd.prog W 0 (fun _=>true) true 5 v d ps) : ∃ b:BitVec 8,RelV σ0 H0 W (.p (b8 b)) v:=by
 obtain ⟨xs,hx,e⟩:=rel_read 1 (by kernel_rfl) hval h
 obtain ⟨b,rfl⟩:=Reads.u8 (k:=0) Tryd.underlying5 hx
 rw [aggT5] at e
 exact ⟨b,e⟩
end rel
def wM:Value := .agg ⟨[.int .i64 0,.int .i64 0,.int .i64 0,.string ByteArray.empty]++(List.replicate 32 (.int .u8 0)++[.slice none 0 0,.slice none 0 0])⟩
def rM {H:Type}:DataW H := .agg [.lit (.int .i64 0),.lit (.int .i64 0),.lit (.int .i64 0),.lit (.string []),.agg (List.replicate 32 (.lit (.int .u8 0))),.nil,.nil]
end Go.Proofs.YtmoecjgehdkhkaaDoor
