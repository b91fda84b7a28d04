/-
  Sessions: the reference's decoding,walked.
-/
import Derived.Test.YtmoecjgehdkhkaaDoorPkS2
import Derived.WideKeyElems2
import Derived.LaidHandle
import Derived.Test.YtmoecjgehdkhkaaDoorCards
import Derived.Test.YtmoecjgehdkhkaaDoorTie
import Derived.LaidMore
import Derived.Deep.DeepWitnessRowRef
set_option linter.unusedSimpArgs false
set_option linter.unusedVariables false
namespace Go.Proofs.YtmoecjgehdkhkaaDoor
open Go Go.AL

theorem zJf {k s t:Int} {tx r:By} {S V:AV} {i:Nat} {x:BitVec 8} (h:r.length=32) (hi:i < 32):(mG k s t tx r S V).set (4+i) (.p (b8 x))=mG k s t tx (r.set i x) S V:=by
 unfold mG
 rw [show 4+i=i+1+1+1+1 by omega]
 simp only [List.set_cons_succ]
 rw [List.set_append_left _ _ (by rw [zar];omega)]
 simp only [cl,List.map_set]
def mix (r:By) (i:Nat):By:=r.take i++List.replicate (32 - i) 0#8
theorem zJg {r:By} {i:Nat} (h:r.length=32) (hi:i≤32):(mix r i).length=32:=by simp [mix,h];omega
theorem zJh {r:By} {i:Nat} (h:r.length=32) (hi:i < 32):(mix r i).set i (nth r i)=mix r (i+1):=by
 unfold mix
 have hl:(r.take i).length=i:=by rw [List.length_take];omega
 rw [List.set_append_right _ _ (by omega),hl,Nat.sub_self,show 32 - i=32 - (i+1)+1 by omega,List.replicate_succ,List.set_cons_zero,yA (by omega)]
 simp
theorem zJi {r:By} (h:r.length=32):mix r 32=r:=by simp [mix,List.take_of_length_le (Nat.le_of_eq h)]
theorem zAU {r:By}:mix r 0=List.replicate 32 0#8:=by simp [mix]

theorem zJj {x y:PV}:zo (.p (.agg [x,y]))=some [.p x,.p y]:=rfl
theorem zOO {x y:PV}:zG [.p x,.p y] = .p (.agg [x,y]):=rfl
def mQ (k s t:Int):PV := .agg ([i64 k,i64 s,i64 t,str (bytesOf [])]++(pl b8 (List.replicate 32 0#8)++[.sl true 1 [],.sl true 2 []]))
theorem zOP {k s t:Int}:zG (AV.p (i64 k) :: AV.p (i64 s) :: AV.p (i64 t) :: AV.p (str ByteArray.empty) :: List.map AV.p (pl b8 (List.replicate 32 0#8)++[PV.sl true 1 [],PV.sl true 2 []])) = .p (mQ k s t):=by
 simp only [←List.map_cons,zG,zdP]
 rfl
theorem zAV {k s t:Int}:zo (.p (mQ k s t))=some (mG k s t [] (List.replicate 32 0#8) (.p (.sl true 1 [])) (.p (.sl true 2 []))):=by
 show some ((_:List PV).map AV.p)=_
 simp [mG,cl,pl]
theorem zOQ {k s t:Int}:setAt (AV.p (i64 0) :: AV.p (i64 0) :: AV.p (i64 0) :: AV.p (str ByteArray.empty) :: List.map AV.p (pl b8 (List.replicate 32 0#8)++[PV.sl true 1 [],PV.sl true 2 []])) 0 (mG k s t [] (List.replicate 32 0#8) (.p (.sl true 1 [])) (.p (.sl true 2 [])))=mG k s t [] (List.replicate 32 0#8) (.p (.sl true 1 [])) (.p (.sl true 2 [])):=rfl
theorem zOR:(AV.p (i64 0) :: AV.p (i64 0) :: AV.p (i64 0) :: AV.p (str ByteArray.empty) :: List.map AV.p (pl b8 (List.replicate 32 0#8)++[PV.sl true 1 [],PV.sl true 2 []])).length=38:=rfl
def mZ:List AV:=mG 0 0 0 [] (List.replicate 32 0#8) (.p (.sl true 1 [])) (.p (.sl true 2 []))
def dQ (H:Hp) (st:By × Bool):Hp:=(H.new (.cells mZ)).new (.cells (rcl st))
def dP (H:Hp) (mc:List AV) (st:By × Bool):Hp:=(dQ H st).new (.cells mc)
def dR (H:Hp) (mc:List AV) (st:By × Bool) (i j:Nat):Hp:=((dP H mc st).new (.tail i)).new (.tail j)
section dr
variable {H:Hp} {mc mc':List AV} {st st':By × Bool} {i j k:Nat}
theorem zQs:(dQ H st).n=H.n+2:=by simp [dQ,Hp.n_new]
theorem zKf:(dQ H st).f (H.n+1)=some (.cells (rcl st)):=by simp (disch:=first|exact zb|fail) only [dQ,go_sem,seval]
theorem zJk:(dQ H st).set (H.n+1) (.cells (rcl st'))=dQ H st':=by simp (disch:=first|exact zb|fail) only [dQ,go_sem,seval]
theorem zRC:(dR H mc st i j).n=H.n+5:=by simp [dR,dP,zQs,Hp.n_new]
theorem zQt:(dR H mc st i j).f H.n=some (.cells mZ):=by simp (disch:=first|exact zb|fail) only [dR,dP,dQ,go_sem,seval]
theorem zqJ:(dR H mc st i j).f (H.n+1)=some (.cells (rcl st)):=by simp (disch:=first|exact zb|fail) only [dR,dP,dQ,go_sem,seval]
theorem zQu:(dR H mc st i j).f (H.n+2)=some (.cells mc):=by simp (disch:=first|exact zb|fail) only [dR,dP,dQ,go_sem,seval]
theorem zQv:(dR H mc st i j).f (H.n+3)=some (.tail i):=by simp (disch:=first|exact zb|fail) only [dR,dP,dQ,go_sem,seval]
theorem zQw:(dR H mc st i j).f (H.n+4)=some (.tail j):=by simp (disch:=first|exact zb|fail) only [dR,dP,dQ,go_sem,seval]
theorem zje:(dR H mc st i j).set (H.n+1) (.cells (rcl st'))=dR H mc st' i j:=by simp (disch:=first|exact zb|fail) only [dR,dP,dQ,go_sem,seval]
theorem zJl:(dR H mc st i j).set (H.n+2) (.cells mc')=dR H mc' st i j:=by simp (disch:=first|exact zb|fail) only [dR,dP,dQ,go_sem,seval]
theorem zJm:(dR H mc st i j).set (H.n+3) (.tail k)=dR H mc st k j:=by simp (disch:=first|exact zb|fail) only [dR,dP,dQ,go_sem,seval]
theorem zJn:(dR H mc st i j).set (H.n+4) (.tail k)=dR H mc st i k:=by simp (disch:=first|exact zb|fail) only [dR,dP,dQ,go_sem,seval]
theorem zAW:(dR H mc st i j).trunc H.n=H:=by simp (disch:=first|exact zb|fail) only [dR,dP,dQ,go_sem,seval]
theorem zOS (h:Bel H.n H):Bel H.n (dR H mc st i j):=by
 unfold dR dP dQ
 exact zK (zK (zK (zK (zK h (Nat.le_refl _)) (by simp only [n_new'];omega)) (by simp only [n_new'];omega)) (by simp only [n_new'];omega)) (by simp only [n_new'];omega)
end dr
attribute [go_sem] zQs zKf zRC zQt zqJ zQu zQv zQw zje zJl zJm zJn zAW
section walks
variable {G:Globs}
theorem zOT (st:By × Bool) (hr:st.1.length≤140737488355000) (n:Nat) (hn:n≤8) (H:Hp) (R:AV → Hp → Prop) (h:R (.p (zw (rd (rk st n).1))) (dQ H (rk st n).2)):ACall Tryd.prog G 37 [.ptr (H.n+1) 0,.p (i64 n)] (dQ H st) R :=
 zdg st hr n hn (H.n+1) _ zKf R (by rw [zJk];exact h)
theorem zt7 (st:By × Bool) (hr:st.1.length≤140737488355000) (n:Nat) (hn:n≤8) (H:Hp) (mc:List AV) (i j:Nat) (R:AV → Hp → Prop) (h:R (.p (zw (rd (rk st n).1))) (dR H mc (rk st n).2 i j)):ACall Tryd.prog G 37 [.ptr (H.n+1) 0,.p (i64 n)] (dR H mc st i j) R :=
 zdg st hr n hn (H.n+1) _ zqJ R (by rw [zje];exact h)
theorem zAX (st:By × Bool) (hr:st.1.length≤140737488355000) (n:Nat) (hn:n≤100000) (H:Hp) (mc:List AV) (i j:Nat) (R:AV → Hp → Prop) (h:R (.p (.sl false 1 (pl b8 (rk st n).1))) (dR H mc (rk st n).2 i j)):ACall Tryd.prog G 38 [.ptr (H.n+1) 0,.p (i64 n)] (dR H mc st i j) R :=
 zeu st hr n hn (H.n+1) _ zqJ R (by rw [zje];exact h)
set_option maxHeartbeats 16000000 in
set_option maxRecDepth 20000 in
theorem zdh (b:By) (hb:b.length≤140737488355000) (H:Hp) (R:AV → Hp → Prop) (h:R (.tup [.p (yK (dec b).1),.p (i64 (dec b).2)]) H):ACall Tryd.prog G 10 [.p (.sl false 1 (pl b8 b))] H R:=by
 have hz:(List.replicate 32 0#8:By).length=32:=List.length_replicate
 rw [←zJd] at h
 unfold decE at h
 refine ACall.of_run (raw:=[]) Tryd.func10 rfl Tryd.ntmps10 (by simp) fun hbel => ?_
 refine .q ?_;refine .text ?_;simp (disch:=first|exact zb|fail) only [go_sem,seval,-List.reduceReplicate]
 refine .q ?_;refine .text ?_;simp (disch:=first|exact zb|fail) only [go_sem,seval,-List.reduceReplicate,zJj,zOO]
 change ARun _ _ _ (dQ H (b,true)) R
 -- the head
 have k1:(rk (b,true) 1).1.length=1:=zaY
 have q1:=zcB (st:=(b,true)) (n:=1)
 simp only at q1
 have b1:=zi6 (b:=(rk (b,true) 1).1) (by omega)
 have w1:=wrap_small (n:=(rd (rk (b,true) 1).1).toNat) (by omega)
 refine .q ?_;refine .text ?_;simp (disch:=first|exact zb|fail) only [go_sem,seval,-List.reduceReplicate]
 refine CallK.of (fun R h=>zOT (b,true) hb 1 (by omega) H R h) ?_;simp (disch:=first|exact zb|fail) only [go_sem,seval,-List.reduceReplicate,w1]
 generalize (rk (b,true) 1).2=s1 at *
 generalize rd (rk (b,true) 1).1=kd at *
 clear k1
 unfold eE at h
 have k2:(rk s1 4).1.length=4:=zaY
 have q2:=zcB (st:=s1) (n:=4)
 have b2:=zec (b:=(rk s1 4).1) (by omega)
 have w2:=wrap_small (n:=(rd (rk s1 4).1).toNat) (by omega)
 refine CallK.of (fun R h=>zOT s1 (by omega) 4 (by omega) H R h) ?_;simp (disch:=first|exact zb|fail) only [go_sem,seval,-List.reduceReplicate,w2]
 generalize (rk s1 4).2=s2 at *
 generalize rd (rk s1 4).1=se at *
 clear k2
 unfold eS at h
 have k3:(rk s2 4).1.length=4:=zaY
 have q3:=zcB (st:=s2) (n:=4)
 have b3:=zec (b:=(rk s2 4).1) (by omega)
 have w3:=wrap_small (n:=(rd (rk s2 4).1).toNat) (by omega)
 refine CallK.of (fun R h=>zOT s2 (by omega) 4 (by omega) H R h) ?_;simp (disch:=first|exact zb|fail) only [go_sem,seval,-List.reduceReplicate,w3,zOP,zAV,zOQ,zOR,hz]
 generalize (rk s2 4).2=s3 at *
 generalize rd (rk s2 4).1=sp at *
 clear k3
 unfold e0 at h
 refine .ownC (H.n+2) 36 (by simp (disch:=first|exact zb|fail) only [go_sem,seval,-List.reduceReplicate]<;>rfl) (zgz hz) ?_
 simp (disch:=first|exact zb|fail) only [go_sem,seval,-List.reduceReplicate,hz]
 refine .ownC (H.n+2) 37 (by simp (disch:=first|exact zb|fail) only [go_sem,seval,-List.reduceReplicate]<;>rfl) (zgA hz) ?_
 simp (disch:=first|exact zb|fail) only [go_sem,seval,-List.reduceReplicate,hz]
 change ARun _ _ _ (dR H (mG kd.toNat se.toNat sp.toNat [] (List.replicate 32 0#8) (.sl (H.n+3) 0 1 []) (.sl (H.n+4) 0 2 [])) s3 0 0) R
 -- the root
 have k4:(rk s3 32).1.length=32:=zaY
 have q4:=zcB (st:=s3) (n:=32)
 refine .q ?_;refine .text ?_;simp (disch:=first|exact zb|fail) only [go_sem,seval,-List.reduceReplicate]
 refine CallK.of (fun R h=>zAX s3 (by omega) 32 (by omega) H _ _ _ R h) ?_;simp (disch:=first|exact zb|fail) only [go_sem,seval,-List.reduceReplicate]
 generalize (rk s3 32).2=s4 at *
 generalize (rk s3 32).1=ro at *
 unfold e1 at h
 refine .q ?_;refine .text ?_;simp (disch:=first|exact zb|fail) only [go_sem,seval,-List.reduceReplicate]
 rw [←zAU (r:=ro)]
 refine .q ?_;refine .loopH [0,2,4,5,6] (fun i=>[(7,.p (i64 i))]) (fun i=>dR H (mG kd.toNat se.toNat sp.toNat [] (mix ro i) (.sl (H.n+3) 0 1 []) (.sl (H.n+4) 0 2 [])) s4 0 0) (fun i=>True) (0) (32) (by omega) ?_ (by first | rfl | (simp (disch:=first|exact zb|fail) only [go_sem,seval,-List.reduceReplicate]<;>rfl)) ?_ ?_ ?_
 · simp (disch:=first|exact zb|fail) only [go_sem,seval,-List.reduceReplicate]<;>(repeat' (first | rfl | refine And.intro ?_ ?_))
 · exact trivial
 intro env A hQ;simp (disch:=first|exact zb|fail) only [go_sem,seval,-List.reduceReplicate] at A
 rotate_left 1
 intro i env hi0 hi A hQ ihA;simp (disch:=first|exact zb|fail) only [go_sem,seval,-List.reduceReplicate] at A
 rotate_left 1
 · refine .q ?_;refine .text ?_;simp (disch:=first|exact zb|fail) only [go_sem,seval,-List.reduceReplicate,A]
   refine .q ?_;refine .ifF (by simp (disch:=first|exact zb|fail) only [go_sem,seval,-List.reduceReplicate]) ?_
   refine .q ?_;refine .text ?_;simp (disch:=first|exact zb|fail) only [go_sem,seval,-List.reduceReplicate,A]
   rw [zJi k4]
   -- the text
   have k5:(rk s4 2).1.length=2:=zaY
   have q5:=zcB (st:=s4) (n:=2)
   have b5:(rd (rk s4 2).1).toNat < 65536:=zi6 (by omega)
   have w5:=wrap_small (n:=(rd (rk s4 2).1).toNat) (by omega)
   refine CallK.of (fun R h=>zt7 s4 (by omega) 2 (by omega) H _ _ _ R h) ?_;simp (disch:=first|exact zb|fail) only [go_sem,seval,-List.reduceReplicate,w5]
   generalize (rk s4 2).2=s5 at *
   generalize (rd (rk s4 2).1).toNat=tl at *
   clear k5
   unfold e2 at h
   have k6:(rk s5 tl).1.length=tl:=zaY
   have q6:=zcB (st:=s5) (n:=tl)
   refine CallK.of (fun R h=>zAX s5 (by omega) tl (by omega) H _ _ _ R h) ?_;simp (disch:=first|exact zb|fail) only [go_sem,seval,-List.reduceReplicate,zaO,A]
   generalize (rk s5 tl).2=s6 at *
   generalize (rk s5 tl).1=tx at *
   unfold e3 at h
   -- the sums
   have k7:(rk s6 1).1.length=1:=zaY
   have q7:=zcB (st:=s6) (n:=1)
   have b7:(rd (rk s6 1).1).toNat < 256:=by
    rw [rd1 k7];exact (nth (rk s6 1).1 0).isLt
   have w7:=wrap_small (n:=(rd (rk s6 1).1).toNat) (by omega)
   refine .q ?_;refine .text ?_;simp (disch:=first|exact zb|fail) only [go_sem,seval,-List.reduceReplicate,A]
   refine CallK.of (fun R h=>zt7 s6 (by omega) 1 (by omega) H _ _ _ R h) ?_;simp (disch:=first|exact zb|fail) only [go_sem,seval,-List.reduceReplicate,w7]
   generalize (rk s6 1).2=s7 at *
   generalize (rd (rk s6 1).1).toNat=c1 at *
   clear k7
   unfold e4 at h
   refine .q ?_;refine .text ?_;simp (disch:=first|exact zb|fail) only [go_sem,seval,-List.reduceReplicate,A]
   refine .q ?_;refine .loopH [0,2,4,5,8] (fun i=>[(9,.p (i64 i))]) (fun i=>dR H (mG kd.toNat se.toNat sp.toNat tx ro (.sl (H.n+3) i 1 (pl i64 ((wR s7 i).1.map toI))) (.sl (H.n+4) 0 2 [])) (wR s7 i).2 i 0) (fun i=>True) (0) (c1) (by omega) ?_ (by first | rfl | (simp (disch:=first|exact zb|fail) only [go_sem,seval,-List.reduceReplicate,A,wR,List.map_nil]<;>rfl)) ?_ ?_ ?_
   · simp (disch:=first|exact zb|fail) only [go_sem,seval,-List.reduceReplicate,A,wR,List.map_nil]<;>(repeat' (first | rfl | refine And.intro ?_ ?_))
   · exact trivial
   intro env E hQ;simp (disch:=first|exact zb|fail) only [go_sem,seval,-List.reduceReplicate,A,wR,List.map_nil] at E
   rotate_left 1
   intro i env hi0 hi E hQ ihE;simp (disch:=first|exact zb|fail) only [go_sem,seval,-List.reduceReplicate,A,wR,List.map_nil] at E
   rotate_left 1
   · have q8:=zAR (st:=s7) (c:=c1)
     have k8:((wR s7 c1).1.map toI).length=c1:=by rw [List.length_map,zpo]
     generalize (wR s7 c1).2=s8 at *
     refine .q ?_;refine .text ?_;simp (disch:=first|exact zb|fail) only [go_sem,seval,-List.reduceReplicate,E]
     refine .q ?_;refine .ifF (by simp (disch:=first|exact zb|fail) only [go_sem,seval,-List.reduceReplicate]) ?_
     refine .q ?_;refine .text ?_;simp (disch:=first|exact zb|fail) only [go_sem,seval,-List.reduceReplicate,E]
     unfold e5 at h
     -- the values
     have k9:(rk s8 1).1.length=1:=zaY
     have q9:=zcB (st:=s8) (n:=1)
     have b9:(rd (rk s8 1).1).toNat < 256:=by
      rw [rd1 k9];exact (nth (rk s8 1).1 0).isLt
     have w9:=wrap_small (n:=(rd (rk s8 1).1).toNat) (by omega)
     refine CallK.of (fun R h=>zt7 s8 (by omega) 1 (by omega) H _ _ _ R h) ?_;simp (disch:=first|exact zb|fail) only [go_sem,seval,-List.reduceReplicate,w9]
     generalize (rk s8 1).2=s9 at *
     generalize (rd (rk s8 1).1).toNat=c2 at *
     clear k9
     unfold e6 at h
     refine .q ?_;refine .text ?_;simp (disch:=first|exact zb|fail) only [go_sem,seval,-List.reduceReplicate,E]
     have hbs:(wR s7 c1).1.map toI=(wR s7 c1).1.map toI:=rfl
     generalize hus:(wR s7 c1).1=ws at *
     refine .q ?_;refine .loopH [0,2,4,5,8] (fun i=>[(10,.p (i64 i))]) (fun i=>dR H (mG kd.toNat se.toNat sp.toNat tx ro (.sl (H.n+3) c1 1 (pl i64 (ws.map toI))) (.sl (H.n+4) i 2 (pl ext (vR s9 i).1))) (vR s9 i).2 c1 i) (fun i=>True) (0) (c2) (by omega) ?_ (by first | rfl | (simp (disch:=first|exact zb|fail) only [go_sem,seval,-List.reduceReplicate,A,E,vR]<;>rfl)) ?_ ?_ ?_
     · simp (disch:=first|exact zb|fail) only [go_sem,seval,-List.reduceReplicate,A,E,vR]<;>(repeat' (first | rfl | refine And.intro ?_ ?_))
     · exact trivial
     intro env F hQ;simp (disch:=first|exact zb|fail) only [go_sem,seval,-List.reduceReplicate,A,E,vR] at F
     rotate_left 1
     intro i env hi0 hi F hQ ihF;simp (disch:=first|exact zb|fail) only [go_sem,seval,-List.reduceReplicate,A,E,vR] at F
     rotate_left 1
     · have q10:=zAS (st:=s9) (c:=c2)
       have k10:(vR s9 c2).1.length=c2:=zpp
       generalize (vR s9 c2).2=s10 at *
       generalize (vR s9 c2).1=vs at *
       refine .q ?_;refine .text ?_;simp (disch:=first|exact zb|fail) only [go_sem,seval,-List.reduceReplicate,F]
       refine .q ?_;refine .ifF (by simp (disch:=first|exact zb|fail) only [go_sem,seval,-List.reduceReplicate]) ?_
       refine .q ?_;refine .text ?_;simp (disch:=first|exact zb|fail) only [go_sem,seval,-List.reduceReplicate,F]
       unfold e7 at h
       refine CallK.of (fun R h=>zAX s10 (by omega) 8 (by omega) H _ _ _ R h) ?_;simp (disch:=first|exact zb|fail) only [go_sem,seval,-List.reduceReplicate]
       generalize (rk s10 8).2=s11 at *
       have hbel:Bel H.n (dR H (mG kd.toNat se.toNat sp.toNat tx ro (.sl (H.n+3) c1 1 (pl i64 (ws.map toI))) (.sl (H.n+4) c2 2 (pl ext vs))) s11 c1 c2):=zOS hbel
       have hf1:(dR H (mG kd.toNat se.toNat sp.toNat tx ro (.sl (H.n+3) c1 1 (pl i64 (ws.map toI))) (.sl (H.n+4) c2 2 (pl ext vs))) s11 c1 c2).f (H.n+1)=some (.cells [.p (.sl false 1 (pl b8 s11.1)),.p (bo (!s11.2))]):=zqJ
       unfold zI9 at h
       simp only at h
       cases hok:s11.2 with
       | false =>
        rw [hok,if_pos rfl] at h
        rw [hok] at hf1
        refine .q ?_;refine .text ?_;simp (disch:=first|exact zb|fail) only [go_sem,seval,-List.reduceReplicate,F,E,A,hf1]
        refine .q ?_;refine .ifT (by simp (disch:=first|exact zb|fail) only [go_sem,seval,-List.reduceReplicate]) ?_
        refine .q ?_;refine .text ?_;simp (disch:=first|exact zb|fail) only [go_sem,seval,-List.reduceReplicate,F,E,A,hz,mZ]
        refine .q ?_;refine .rt Tryd.func10 (by rw [Tryd.results10]) (hx:=by simp (disch:=first|exact zb|fail) only [go_sem,seval,-List.reduceReplicate,F,E,A,hz,mZ];rfl) (hR := ?_);simp (disch:=first|exact zb|fail) only [go_sem,seval,-List.reduceReplicate,F,E,A,hz,mZ]
        exact h
       | true =>
        rw [hok] at h hf1
        simp only [Bool.true_eq_false,if_false] at h
        refine .q ?_;refine .text ?_;simp (disch:=first|exact zb|fail) only [go_sem,seval,-List.reduceReplicate,F,E,A,hf1]
        refine .q ?_;refine .ifF (by simp (disch:=first|exact zb|fail) only [go_sem,seval,-List.reduceReplicate]) ?_
        have hM:(⟨kd.toNat,se.toNat,sp.toNat,tx,⟨ro,k4⟩,ws.map toI,vs⟩:Msg).Ok:=⟨⟨by show (_:Int)≤(kd.toNat:Int);omega,by show (kd.toNat:Int)≤_;omega⟩,⟨by show (_:Int)≤(se.toNat:Int);omega,by show (se.toNat:Int)≤_;omega⟩,⟨by show (_:Int)≤(sp.toNat:Int);omega,by show (sp.toNat:Int)≤_;omega⟩,by show tx.length≤_;omega,by show (ws.map toI).length≤_;omega,by show vs.length≤_;omega⟩
        have hagg:=zpk (k:=kd.toNat) (s:=se.toNat) (t:=sp.toNat) (tx:=tx) (a:=H.n+3) (v:=c1) (a':=H.n+4) (v':=c2) (su:=ws.map toI) (va:=vs) k4
        rw [zpm k4] at h
        generalize (⟨kd.toNat,se.toNat,sp.toNat,tx,⟨ro,k4⟩,ws.map toI,vs⟩:Msg)=M at *
        by_cases hr:s11.1=[]
        · have d:decide ((0:Int) < (s11.1.length:Int))=false:=by rw [hr];rfl
          refine .q ?_;refine .text ?_;simp (disch:=first|exact zb|fail) only [go_sem,seval,-List.reduceReplicate,F,E,A,hf1,d,hagg]
          refine CallK.of (fun R h=>zb4 M hM _ R h) ?_;simp (disch:=first|exact zb|fail) only [go_sem,seval,-List.reduceReplicate,F,E,A]
          have hel:(enc M).length≤140737488355000:=by
           cases hv:valid M with
           | true =>
            have:=zdU hv
            have:=zc9 hv
            omega
           | false=>rw [enc,hv];simp
          refine CallK.of (fun R h=>zan (enc M) b hel hb _ R h) ?_;simp (disch:=first|exact zb|fail) only [go_sem,seval,-List.reduceReplicate]
          by_cases he:enc M=b
          · rw [if_pos ⟨hr,he⟩] at h
            have d:decide (enc M=b)=true:=decide_eq_true he
            simp (disch:=first|exact zb|fail) only [go_sem,seval,-List.reduceReplicate,d]
            refine .q ?_;refine .ifF (by simp (disch:=first|exact zb|fail) only [go_sem,seval,-List.reduceReplicate]) ?_
            refine .q ?_;refine .text ?_;simp (disch:=first|exact zb|fail) only [go_sem,seval,-List.reduceReplicate,F,E,A,hagg,mZ]
            refine .q ?_;refine .rt Tryd.func10 (by rw [Tryd.results10]) (hx:=by simp (disch:=first|exact zb|fail) only [go_sem,seval,-List.reduceReplicate,F,E,A,hz,mZ];rfl) (hR := ?_);simp (disch:=first|exact zb|fail) only [go_sem,seval,-List.reduceReplicate,F,E,A,hz,mZ]
            exact h
          · rw [if_neg (fun q=>he q.2)] at h
            have d:decide (enc M=b)=false:=decide_eq_false he
            simp (disch:=first|exact zb|fail) only [go_sem,seval,-List.reduceReplicate,d]
            refine .q ?_;refine .ifT (by simp (disch:=first|exact zb|fail) only [go_sem,seval,-List.reduceReplicate]) ?_
            refine .q ?_;refine .text ?_;simp (disch:=first|exact zb|fail) only [go_sem,seval,-List.reduceReplicate,F,E,A,hz,mZ]
            refine .q ?_;refine .rt Tryd.func10 (by rw [Tryd.results10]) (hx:=by simp (disch:=first|exact zb|fail) only [go_sem,seval,-List.reduceReplicate,F,E,A,hz,mZ];rfl) (hR := ?_);simp (disch:=first|exact zb|fail) only [go_sem,seval,-List.reduceReplicate,F,E,A,hz,mZ]
            exact h
        · have d:decide ((0:Int) < (s11.1.length:Int))=true:=decide_eq_true (by have:s11.1.length≠0:=fun q=>hr (List.eq_nil_of_length_eq_zero q);omega)
          rw [if_neg (fun q=>hr q.1)] at h
          refine .q ?_;refine .text ?_;simp (disch:=first|exact zb|fail) only [go_sem,seval,-List.reduceReplicate,F,E,A,hf1,d]
          refine .q ?_;refine .ifT (by simp (disch:=first|exact zb|fail) only [go_sem,seval,-List.reduceReplicate]) ?_
          refine .q ?_;refine .text ?_;simp (disch:=first|exact zb|fail) only [go_sem,seval,-List.reduceReplicate,F,E,A,hz,mZ]
          refine .q ?_;refine .rt Tryd.func10 (by rw [Tryd.results10]) (hx:=by simp (disch:=first|exact zb|fail) only [go_sem,seval,-List.reduceReplicate,F,E,A,hz,mZ];rfl) (hR := ?_);simp (disch:=first|exact zb|fail) only [go_sem,seval,-List.reduceReplicate,F,E,A,hz,mZ]
          exact h
     · have hst:vR s9 (i+1)=((vR s9 i).1++[⟨rd (rk (vR s9 i).2 8).1,rd (rk (rk (vR s9 i).2 8).2 8).1⟩],(rk (rk (vR s9 i).2 8).2 8).2):=rfl
       rw [hst] at ihF
       have k10:(vR s9 i).1.length=i:=zpp
       have q10:=zAS (st:=s9) (c:=i)
       generalize (vR s9 i).2=s10 at *
       generalize (vR s9 i).1=vs at *
       have q11:=zcB (st:=s10) (n:=8)
       have na : ∀ mc j l R,R (.p (zw (rd (rk s10 8).1))) (dR H mc (rk s10 8).2 j l) → ACall Tryd.prog G 37 [.ptr (H.n+1) 0,.p (i64 8)] (dR H mc s10 j l) R:=fun mc j l R h=>zt7 s10 (by omega) 8 (by omega) H mc j l R h
       generalize (rk s10 8).2=s11 at *
       generalize rd (rk s10 8).1=xa at *
       have nb : ∀ mc j l R,R (.p (zw (rd (rk s11 8).1))) (dR H mc (rk s11 8).2 j l) → ACall Tryd.prog G 37 [.ptr (H.n+1) 0,.p (i64 8)] (dR H mc s11 j l) R:=fun mc j l R h=>zt7 s11 (by omega) 8 (by omega) H mc j l R h
       generalize (rk s11 8).2=s12 at *
       generalize rd (rk s11 8).1=xb at *
       generalize ws.map toI=us at *
       refine .q ?_;refine .text ?_;simp (disch:=first|exact zb|fail) only [go_sem,seval,-List.reduceReplicate,F]
       refine .q ?_;refine .ifT (by simp (disch:=first|exact zb|fail) only [go_sem,seval,-List.reduceReplicate]) ?_
       (refine .q ?_)
       refine .openInv (fun L env' H'=>kF env' [(0,.p (.sl false 1 (pl b8 b))),(2,.ptr H.n 0),(4,.ptr (H.n+1) 0),(5,.ptr (H.n+2) 0),(8,.p (i64 c2)),(10,.p (i64 i))]∧kI L env' [(0,68,.ptr (H.n+2) 37),(1,69,.sl (H.n+4) i 2 (pl ext vs)),(2,70,.ptr (H.n+1) 0),(3,71,.p (zw xa)),(4,72,.ptr (H.n+1) 0),(5,73,.p (zw xb)),(6,74,.p (ext ⟨xa,xb⟩)),(7,75,.p (.sl true 2 [ext ⟨xa,xb⟩])),(8,76,.sl (H.n+4) (i+1) 2 (pl ext (vs++[⟨xa,xb⟩]))),(9,77,.ptr (H.n+2) 37)]∧(L 3=true → allT L [2])∧(L 5=true → allT L [3,4])∧(L 8=true → allT L [1,5,7])∧(L 10=true → allT L [0,1,2,3,4,5,6,7,8,9])∧H'=(dR H (mG kd.toNat se.toNat sp.toNat tx ro (.sl (H.n+3) c1 1 (pl i64 us)) (if L 10 then .sl (H.n+4) (i+1) 2 (pl ext (vs++[⟨xa,xb⟩])) else .sl (H.n+4) i 2 (pl ext vs))) (if L 5 then s12 else if L 3 then s11 else s10) c1 (if L 8 then i+1 else i))) follows (by kernel_rfl) ?_ ?_ ?_
       · exact⟨(by simp (disch:=first|exact zb|fail) only [go_sem,seval,-List.reduceReplicate,kFi,kFn,and_self,F,E,A,k4,k10]),(fun _ _ h=>by cases h),(fun h=>by cases h),(fun h=>by cases h),(fun h=>by cases h),(fun h=>by cases h),(by first | rfl | (simp only [Bool.false_eq_true,if_false];first | rfl | (simp (disch:=first|exact zb|fail) only [go_sem,seval,-List.reduceReplicate,F,E,A,k4,k10]<;>rfl)))⟩
       · intro i o L env' H' ho hL hall hI
         obtain⟨KF,KG,m3,m5,m8,m10,rfl⟩:=hI
         rcases i with _ | _ | _ | _ | _ | _ | _ | _ | _ | _ | _ | i
         · cases ho;have f3:=zJ KF 3 rfl;refine zf (.ptr (H.n+2) 37) rfl rfl (by simp (disch:=first|exact zb|fail) only [go_sem,seval,-List.reduceReplicate,f3,k4,k10]<;>rfl) rfl ?_;exact⟨zx KF,zA KG,ka m3,ka m5,ka m8,ka m10,(by rw [za (by decide),za (by decide),za (by decide),za (by decide)])⟩
         · cases ho;have d0:=zn KG 0 rfl (kL hall 0 rfl rfl);have n8:=ya m8 hL;have n10:=ya m10 hL;refine zf (.sl (H.n+4) i 2 (pl ext vs)) rfl rfl (by simp (disch:=first|exact zb|fail) only [go_sem,seval,-List.reduceReplicate,reduceIte,Bool.false_eq_true,if_false,if_true,d0,n8,n10,hL,k4,k10]<;>rfl) rfl ?_;exact⟨zx KF,zA KG,ka m3,ka m5,ka m8,ka m10,(by rw [za (by decide),za (by decide),za (by decide),za (by decide)])⟩
         · cases ho;have f2:=zJ KF 2 rfl;refine zf (.ptr (H.n+1) 0) rfl rfl (by simp (disch:=first|exact zb|fail) only [go_sem,seval,-List.reduceReplicate,f2,k4,k10]<;>rfl) rfl ?_;exact⟨zx KF,zA KG,ka m3,ka m5,ka m8,ka m10,(by rw [za (by decide),za (by decide),za (by decide),za (by decide)])⟩
         · cases ho;have h2:=kL hall 0 rfl rfl;have d2:=zn KG 2 rfl h2;have n5:=ya m5 hL;have n10:=ya m10 hL;(try simp only [n5,n10,hL,if_true,if_false,Bool.false_eq_true]);refine ym rfl rfl (by simp (disch:=first|exact zb|fail) only [go_sem,seval,-List.reduceReplicate,reduceIte,Bool.false_eq_true,if_false,if_true,d2,n5,n10,hL,k4,k10]<;>rfl) rfl (by simp (disch:=first|exact zb|fail) only [go_sem,seval,-List.reduceReplicate,reduceIte,Bool.false_eq_true,if_false,if_true,d2,n5,n10,hL,k4,k10]<;>rfl) (fun R h=>na _ _ _ R h) ?_;exact⟨zx KF,zA KG,(fun _=>kt (zc h2 zv)),ka m5,ka m8,ka m10,(by (have e3:more L 3 3=true:=zr);(have e5:more L 3 5=L 5:=za (by decide));(have e8:more L 3 8=L 8:=za (by decide));(have e10:more L 3 10=L 10:=za (by decide));(try simp only [e3,e5,e8,e10,n5,n10,hL]);first | done | rfl | (simp only [e3,e5,e8,e10,n5,n10,hL,if_true,if_false,Bool.false_eq_true];first | done | rfl | (simp (disch:=first|exact zb|fail) only [go_sem,seval,-List.reduceReplicate,e3,e5,e8,e10,n5,n10,hL,k4,k10]<;>rfl)))⟩
         · cases ho;have f2:=zJ KF 2 rfl;refine zf (.ptr (H.n+1) 0) rfl rfl (by simp (disch:=first|exact zb|fail) only [go_sem,seval,-List.reduceReplicate,f2,k4,k10]<;>rfl) rfl ?_;exact⟨zx KF,zA KG,ka m3,ka m5,ka m8,ka m10,(by rw [za (by decide),za (by decide),za (by decide),za (by decide)])⟩
         · cases ho;have h4:=kL hall 0 rfl rfl;have d4:=zn KG 4 rfl h4;have h3:=kL hall 1 rfl rfl;have n8:=ya m8 hL;have n10:=ya m10 hL;(try simp only [h3,n8,n10,hL,if_true,if_false,Bool.false_eq_true]);refine ym rfl rfl (by simp (disch:=first|exact zb|fail) only [go_sem,seval,-List.reduceReplicate,reduceIte,Bool.false_eq_true,if_false,if_true,d4,h3,n8,n10,hL,k4,k10]<;>rfl) rfl (by simp (disch:=first|exact zb|fail) only [go_sem,seval,-List.reduceReplicate,reduceIte,Bool.false_eq_true,if_false,if_true,d4,h3,n8,n10,hL,k4,k10]<;>rfl) (fun R h=>nb _ _ _ R h) ?_;exact⟨zx KF,zA KG,ka m3,(fun _=>kt (zc h3 (zc h4 zv))),ka m8,ka m10,(by (have e3:more L 5 3=L 3:=za (by decide));(have e5:more L 5 5=true:=zr);(have e8:more L 5 8=L 8:=za (by decide));(have e10:more L 5 10=L 10:=za (by decide));(try simp only [e3,e5,e8,e10,h3,n8,n10,hL]);first | done | rfl | (simp only [e3,e5,e8,e10,h3,n8,n10,hL,if_true,if_false,Bool.false_eq_true];first | done | rfl | (simp (disch:=first|exact zb|fail) only [go_sem,seval,-List.reduceReplicate,e3,e5,e8,e10,h3,n8,n10,hL,k4,k10]<;>rfl)))⟩
         · cases ho;have h3:=kL hall 0 rfl rfl;have d3:=zn KG 3 rfl h3;have h5:=kL hall 1 rfl rfl;have d5:=zn KG 5 rfl h5;have n10:=ya m10 hL;refine zf (.p (ext ⟨xa,xb⟩)) rfl rfl (by simp (disch:=first|exact zb|fail) only [go_sem,seval,-List.reduceReplicate,reduceIte,Bool.false_eq_true,if_false,if_true,d3,d5,h3,h5,n10,hL,k4,k10]<;>rfl) rfl ?_;exact⟨zx KF,zA KG,ka m3,ka m5,ka m8,ka m10,(by rw [za (by decide),za (by decide),za (by decide),za (by decide)])⟩
         · cases ho;have d6:=zn KG 6 rfl (kL hall 0 rfl rfl);have n8:=ya m8 hL;have n10:=ya m10 hL;refine zf (.p (.sl true 2 [ext ⟨xa,xb⟩])) rfl rfl (by simp (disch:=first|exact zb|fail) only [go_sem,seval,-List.reduceReplicate,reduceIte,Bool.false_eq_true,if_false,if_true,d6,n8,n10,hL,k4,k10]<;>rfl) rfl ?_;exact⟨zx KF,zA KG,ka m3,ka m5,ka m8,ka m10,(by rw [za (by decide),za (by decide),za (by decide),za (by decide)])⟩
         · cases ho;have h1:=kL hall 0 rfl rfl;have d1:=zn KG 1 rfl h1;have h7:=kL hall 1 rfl rfl;have d7:=zn KG 7 rfl h7;have h5:=kL hall 2 rfl rfl;have n10:=ya m10 hL;(try simp only [h5,n10,hL,if_true,if_false,Bool.false_eq_true]);refine zZ (.sl (H.n+4) (i+1) 2 (pl ext (vs++[⟨xa,xb⟩]))) rfl rfl (by simp (disch:=first|exact zb|fail) only [go_sem,seval,-List.reduceReplicate,reduceIte,Bool.false_eq_true,if_false,if_true,d1,d7,h5,n10,hL,k4,k10]<;>rfl) rfl ?_;exact⟨zx KF,zA KG,ka m3,ka m5,(fun _=>kt (zc h1 (zc h5 (zc h7 zv)))),ka m10,(by (have e3:more L 8 3=L 3:=za (by decide));(have e5:more L 8 5=L 5:=za (by decide));(have e8:more L 8 8=true:=zr);(have e10:more L 8 10=L 10:=za (by decide));(try simp only [e3,e5,e8,e10,h5,n10,hL]);first | done | rfl | (simp only [e3,e5,e8,e10,h5,n10,hL,if_true,if_false,Bool.false_eq_true];first | done | rfl | (simp (disch:=first|exact zb|fail) only [go_sem,seval,-List.reduceReplicate,e3,e5,e8,e10,h5,n10,hL,k4,k10]<;>rfl)))⟩
         · cases ho;have f3:=zJ KF 3 rfl;refine zf (.ptr (H.n+2) 37) rfl rfl (by simp (disch:=first|exact zb|fail) only [go_sem,seval,-List.reduceReplicate,f3,k4,k10]<;>rfl) rfl ?_;exact⟨zx KF,zA KG,ka m3,ka m5,ka m8,ka m10,(by rw [za (by decide),za (by decide),za (by decide),za (by decide)])⟩
         · cases ho;have h9:=kL hall 0 rfl rfl;have d9:=zn KG 9 rfl h9;have h8:=kL hall 1 rfl rfl;have d8:=zn KG 8 rfl h8;have h0:=kL hall 3 rfl rfl;have h1:=kL hall 4 rfl rfl;have h2:=kL hall 5 rfl rfl;have h3:=kL hall 6 rfl rfl;have h4:=kL hall 7 rfl rfl;have h5:=kL hall 8 rfl rfl;have h6:=kL hall 9 rfl rfl;have h7:=kL hall 10 rfl rfl;refine yb rfl rfl (by simp (disch:=first|exact zb|fail) only [go_sem,seval,-List.reduceReplicate,reduceIte,Bool.false_eq_true,if_false,if_true,d8,d9,h3,h5,h8,hL,k4,k10]<;>rfl) rfl ?_;exact⟨KF,kIs KG,ka m3,ka m5,ka m8,(fun _=>kt (zc h0 (zc h1 (zc h2 (zc h3 (zc h4 (zc h5 (zc h6 (zc h7 (zc h8 (zc h9 zv))))))))))),(by (have e3:more L 10 3=L 3:=za (by decide));(have e5:more L 10 5=L 5:=za (by decide));(have e8:more L 10 8=L 8:=za (by decide));(have e10:more L 10 10=true:=zr);(try simp only [e3,e5,e8,e10,h3,h5,h8,hL]);first | done | rfl | (simp only [e3,e5,e8,e10,h3,h5,h8,hL,if_true,if_false,Bool.false_eq_true];first | done | rfl | (simp (disch:=first|exact zb|fail) only [go_sem,seval,-List.reduceReplicate,e3,e5,e8,e10,h3,h5,h8,hL,k4,k10]<;>rfl)))⟩
         · simp at ho
       · intro L env' H' hall hI
         obtain⟨KF,KG,_,_,_,_,rfl⟩:=hI
         have l3:=hall 3 (by decide)
         have l5:=hall 5 (by decide)
         have l8:=hall 8 (by decide)
         have l10:=hall 10 (by decide)
         have f0:=zJ KF 0 rfl
         have f1:=zJ KF 1 rfl
         have f2:=zJ KF 2 rfl
         have f3:=zJ KF 3 rfl
         have f4:=zJ KF 4 rfl
         have f5:=zJ KF 5 rfl
         simp only [l3,l5,l8,l10,if_true]
         clear hall
         refine .q ?_;refine .text ?_;simp (disch:=first|exact zb|fail) only [go_sem,seval,-List.reduceReplicate,f5]
         first | (refine ihF _ _ ?_ trivial ?_) | (refine .z rfl ?_;refine ihF _ _ ?_ trivial ?_) | (refine .z rfl ?_;refine .z rfl ?_;refine ihF _ _ ?_ trivial ?_) | (refine .z rfl ?_;refine .z rfl ?_;refine .z rfl ?_;refine ihF _ _ ?_ trivial ?_)
         · simp (disch:=first|exact zb|fail) only [go_sem,seval,-List.reduceReplicate,f0,f1,f2,f3,f4,f5,F,E,A]<;>(repeat' (first | rfl | refine And.intro ?_ ?_))
         · first | rfl | (simp (disch:=first|exact zb|fail) only [go_sem,seval,-List.reduceReplicate,f0,f1,f2,f3,f4,f5,F,E,A]<;>(try rfl))
   · have hst:wR s7 (i+1)=((wR s7 i).1++[rd (rk (wR s7 i).2 8).1],(rk (wR s7 i).2 8).2):=rfl
     rw [hst,List.map_append] at ihE
     have k8:((wR s7 i).1.map toI).length=i:=by rw [List.length_map,zpo]
     have q8:=zAR (st:=s7) (c:=i)
     generalize (wR s7 i).2=s8 at *
     generalize (wR s7 i).1.map toI=us at *
     have na : ∀ mc j l R,R (.p (zw (rd (rk s8 8).1))) (dR H mc (rk s8 8).2 j l) → ACall Tryd.prog G 37 [.ptr (H.n+1) 0,.p (i64 8)] (dR H mc s8 j l) R:=fun mc j l R h=>zt7 s8 (by omega) 8 (by omega) H mc j l R h
     generalize (rk s8 8).2=s9 at *
     generalize rd (rk s8 8).1=x at *
     have htoI:IntKind.i64.wrap (x.toNat:Int)=toI x:=rfl
     refine .q ?_;refine .text ?_;simp (disch:=first|exact zb|fail) only [go_sem,seval,-List.reduceReplicate,E]
     refine .q ?_;refine .ifT (by simp (disch:=first|exact zb|fail) only [go_sem,seval,-List.reduceReplicate]) ?_
     (refine .q ?_)
     refine .openInv (fun L env' H'=>kF env' [(0,.p (.sl false 1 (pl b8 b))),(2,.ptr H.n 0),(4,.ptr (H.n+1) 0),(5,.ptr (H.n+2) 0),(8,.p (i64 c1)),(9,.p (i64 i))]∧kI L env' [(0,52,.ptr (H.n+2) 36),(1,53,.sl (H.n+3) i 1 (pl i64 us)),(2,54,.ptr (H.n+1) 0),(3,55,.p (zw x)),(4,56,.p (i64 (toI x))),(5,57,.p (.sl true 1 [i64 (toI x)])),(6,58,.sl (H.n+3) (i+1) 1 (pl i64 (us++[toI x]))),(7,59,.ptr (H.n+2) 36)]∧(L 3=true → allT L [2])∧(L 6=true → allT L [1,3,5])∧(L 8=true → allT L [0,1,2,3,4,5,6,7])∧H'=(dR H (mG kd.toNat se.toNat sp.toNat tx ro (if L 8 then .sl (H.n+3) (i+1) 1 (pl i64 (us++[toI x])) else .sl (H.n+3) i 1 (pl i64 us)) (.sl (H.n+4) 0 2 [])) (if L 3 then s9 else s8) (if L 6 then i+1 else i) 0)) follows (by kernel_rfl) ?_ ?_ ?_
     · exact⟨(by simp (disch:=first|exact zb|fail) only [go_sem,seval,-List.reduceReplicate,kFi,kFn,and_self,E,A,k4,k8,htoI]),(fun _ _ h=>by cases h),(fun h=>by cases h),(fun h=>by cases h),(fun h=>by cases h),(by first | rfl | (simp only [Bool.false_eq_true,if_false];first | rfl | (simp (disch:=first|exact zb|fail) only [go_sem,seval,-List.reduceReplicate,E,A,k4,k8,htoI]<;>rfl)))⟩
     · intro i o L env' H' ho hL hall hI
       obtain⟨KF,KG,m3,m6,m8,rfl⟩:=hI
       rcases i with _ | _ | _ | _ | _ | _ | _ | _ | _ | i
       · cases ho;have f3:=zJ KF 3 rfl;refine zf (.ptr (H.n+2) 36) rfl rfl (by simp (disch:=first|exact zb|fail) only [go_sem,seval,-List.reduceReplicate,f3,k4,k8,htoI]<;>rfl) rfl ?_;exact⟨zx KF,zA KG,ka m3,ka m6,ka m8,(by rw [za (by decide),za (by decide),za (by decide)])⟩
       · cases ho;have d0:=zn KG 0 rfl (kL hall 0 rfl rfl);have n6:=ya m6 hL;have n8:=ya m8 hL;refine zf (.sl (H.n+3) i 1 (pl i64 us)) rfl rfl (by simp (disch:=first|exact zb|fail) only [go_sem,seval,-List.reduceReplicate,reduceIte,Bool.false_eq_true,if_false,if_true,d0,n6,n8,hL,k4,k8,htoI]<;>rfl) rfl ?_;exact⟨zx KF,zA KG,ka m3,ka m6,ka m8,(by rw [za (by decide),za (by decide),za (by decide)])⟩
       · cases ho;have f2:=zJ KF 2 rfl;refine zf (.ptr (H.n+1) 0) rfl rfl (by simp (disch:=first|exact zb|fail) only [go_sem,seval,-List.reduceReplicate,f2,k4,k8,htoI]<;>rfl) rfl ?_;exact⟨zx KF,zA KG,ka m3,ka m6,ka m8,(by rw [za (by decide),za (by decide),za (by decide)])⟩
       · cases ho;have h2:=kL hall 0 rfl rfl;have d2:=zn KG 2 rfl h2;have n6:=ya m6 hL;have n8:=ya m8 hL;(try simp only [n6,n8,hL,if_true,if_false,Bool.false_eq_true]);refine ym rfl rfl (by simp (disch:=first|exact zb|fail) only [go_sem,seval,-List.reduceReplicate,reduceIte,Bool.false_eq_true,if_false,if_true,d2,n6,n8,hL,k4,k8,htoI]<;>rfl) rfl (by simp (disch:=first|exact zb|fail) only [go_sem,seval,-List.reduceReplicate,reduceIte,Bool.false_eq_true,if_false,if_true,d2,n6,n8,hL,k4,k8,htoI]<;>rfl) (fun R h=>na _ _ _ R h) ?_;exact⟨zx KF,zA KG,(fun _=>kt (zc h2 zv)),ka m6,ka m8,(by (have e3:more L 3 3=true:=zr);(have e6:more L 3 6=L 6:=za (by decide));(have e8:more L 3 8=L 8:=za (by decide));(try simp only [e3,e6,e8,n6,n8,hL]);first | done | rfl | (simp only [e3,e6,e8,n6,n8,hL,if_true,if_false,Bool.false_eq_true];first | done | rfl | (simp (disch:=first|exact zb|fail) only [go_sem,seval,-List.reduceReplicate,e3,e6,e8,n6,n8,hL,k4,k8,htoI]<;>rfl)))⟩
       · cases ho;have d3:=zn KG 3 rfl (kL hall 0 rfl rfl);refine zf (.p (i64 (toI x))) rfl rfl (by simp (disch:=first|exact zb|fail) only [go_sem,seval,-List.reduceReplicate,d3,k4,k8,htoI]<;>rfl) rfl ?_;exact⟨zx KF,zA KG,ka m3,ka m6,ka m8,(by rw [za (by decide),za (by decide),za (by decide)])⟩
       · cases ho;have d4:=zn KG 4 rfl (kL hall 0 rfl rfl);have n6:=ya m6 hL;have n8:=ya m8 hL;refine zf (.p (.sl true 1 [i64 (toI x)])) rfl rfl (by simp (disch:=first|exact zb|fail) only [go_sem,seval,-List.reduceReplicate,reduceIte,Bool.false_eq_true,if_false,if_true,d4,n6,n8,hL,k4,k8,htoI]<;>rfl) rfl ?_;exact⟨zx KF,zA KG,ka m3,ka m6,ka m8,(by rw [za (by decide),za (by decide),za (by decide)])⟩
       · cases ho;have h1:=kL hall 0 rfl rfl;have d1:=zn KG 1 rfl h1;have h5:=kL hall 1 rfl rfl;have d5:=zn KG 5 rfl h5;have h3:=kL hall 2 rfl rfl;have n8:=ya m8 hL;(try simp only [h3,n8,hL,if_true,if_false,Bool.false_eq_true]);refine zZ (.sl (H.n+3) (i+1) 1 (pl i64 (us++[toI x]))) rfl rfl (by simp (disch:=first|exact zb|fail) only [go_sem,seval,-List.reduceReplicate,reduceIte,Bool.false_eq_true,if_false,if_true,d1,d5,h3,n8,hL,k4,k8,htoI]<;>rfl) rfl ?_;exact⟨zx KF,zA KG,ka m3,(fun _=>kt (zc h1 (zc h3 (zc h5 zv)))),ka m8,(by (have e3:more L 6 3=L 3:=za (by decide));(have e6:more L 6 6=true:=zr);(have e8:more L 6 8=L 8:=za (by decide));(try simp only [e3,e6,e8,h3,n8,hL]);first | done | rfl | (simp only [e3,e6,e8,h3,n8,hL,if_true,if_false,Bool.false_eq_true];first | done | rfl | (simp (disch:=first|exact zb|fail) only [go_sem,seval,-List.reduceReplicate,e3,e6,e8,h3,n8,hL,k4,k8,htoI]<;>rfl)))⟩
       · cases ho;have f3:=zJ KF 3 rfl;refine zf (.ptr (H.n+2) 36) rfl rfl (by simp (disch:=first|exact zb|fail) only [go_sem,seval,-List.reduceReplicate,f3,k4,k8,htoI]<;>rfl) rfl ?_;exact⟨zx KF,zA KG,ka m3,ka m6,ka m8,(by rw [za (by decide),za (by decide),za (by decide)])⟩
       · cases ho;have h7:=kL hall 0 rfl rfl;have d7:=zn KG 7 rfl h7;have h6:=kL hall 1 rfl rfl;have d6:=zn KG 6 rfl h6;have h0:=kL hall 3 rfl rfl;have h1:=kL hall 4 rfl rfl;have h2:=kL hall 5 rfl rfl;have h3:=kL hall 6 rfl rfl;have h4:=kL hall 7 rfl rfl;have h5:=kL hall 8 rfl rfl;refine yb rfl rfl (by simp (disch:=first|exact zb|fail) only [go_sem,seval,-List.reduceReplicate,reduceIte,Bool.false_eq_true,if_false,if_true,d6,d7,h3,h6,hL,k4,k8,htoI]<;>rfl) rfl ?_;exact⟨KF,kIs KG,ka m3,ka m6,(fun _=>kt (zc h0 (zc h1 (zc h2 (zc h3 (zc h4 (zc h5 (zc h6 (zc h7 zv))))))))),(by (have e3:more L 8 3=L 3:=za (by decide));(have e6:more L 8 6=L 6:=za (by decide));(have e8:more L 8 8=true:=zr);(try simp only [e3,e6,e8,h3,h6,hL]);first | done | rfl | (simp only [e3,e6,e8,h3,h6,hL,if_true,if_false,Bool.false_eq_true];first | done | rfl | (simp (disch:=first|exact zb|fail) only [go_sem,seval,-List.reduceReplicate,e3,e6,e8,h3,h6,hL,k4,k8,htoI]<;>rfl)))⟩
       · simp at ho
     · intro L env' H' hall hI
       obtain⟨KF,KG,_,_,_,rfl⟩:=hI
       have l3:=hall 3 (by decide)
       have l6:=hall 6 (by decide)
       have l8:=hall 8 (by decide)
       have f0:=zJ KF 0 rfl
       have f1:=zJ KF 1 rfl
       have f2:=zJ KF 2 rfl
       have f3:=zJ KF 3 rfl
       have f4:=zJ KF 4 rfl
       have f5:=zJ KF 5 rfl
       simp only [l3,l6,l8,if_true]
       clear hall
       refine .q ?_;refine .text ?_;simp (disch:=first|exact zb|fail) only [go_sem,seval,-List.reduceReplicate,f5]
       first | (refine ihE _ _ ?_ trivial ?_) | (refine .z rfl ?_;refine ihE _ _ ?_ trivial ?_) | (refine .z rfl ?_;refine .z rfl ?_;refine ihE _ _ ?_ trivial ?_) | (refine .z rfl ?_;refine .z rfl ?_;refine .z rfl ?_;refine ihE _ _ ?_ trivial ?_)
       · simp (disch:=first|exact zb|fail) only [go_sem,seval,-List.reduceReplicate,f0,f1,f2,f3,f4,f5,E,A]<;>(repeat' (first | rfl | refine And.intro ?_ ?_))
       · first | rfl | (simp (disch:=first|exact zb|fail) only [go_sem,seval,-List.reduceReplicate,f0,f1,f2,f3,f4,f5,E,A]<;>(try rfl))
 · have hml:=zJg (i:=i) k4 (by omega)
   have hms:=zJh (i:=i) k4 hi
   refine .q ?_;refine .text ?_;simp (disch:=first|exact zb|fail) only [go_sem,seval,-List.reduceReplicate,A]
   refine .q ?_;refine .ifT (by simp (disch:=first|exact zb|fail) only [go_sem,seval,-List.reduceReplicate]) ?_
   refine .q ?_;refine .text ?_;simp (disch:=first|exact zb|fail) only [go_sem,seval,-List.reduceReplicate,A,hml,k4,zJf,hms]
   refine .q ?_;refine .text ?_;simp (disch:=first|exact zb|fail) only [go_sem,seval,-List.reduceReplicate,A]
   first | (refine ihA _ _ ?_ trivial ?_) | (refine .z rfl ?_;refine ihA _ _ ?_ trivial ?_) | (refine .z rfl ?_;refine .z rfl ?_;refine ihA _ _ ?_ trivial ?_) | (refine .z rfl ?_;refine .z rfl ?_;refine .z rfl ?_;refine ihA _ _ ?_ trivial ?_)
   · simp (disch:=first|exact zb|fail) only [go_sem,seval,-List.reduceReplicate,A]<;>(repeat' (first | rfl | refine And.intro ?_ ?_))
   · first | rfl | (simp (disch:=first|exact zb|fail) only [go_sem,seval,-List.reduceReplicate,A]<;>(try rfl))
end walks
end Go.Proofs.YtmoecjgehdkhkaaDoor

/-
  Sessions: comparing;the reference's small functions of elements.
-/
namespace Go.Proofs.YtmoecjgehdkhkaaDoor
open Go Go.AL

theorem wf_u64 (x:U):(Lit.int .u64 (x.toNat:Int)).wf=true:=by
 have:=x.isLt
 simp only [Lit.wf,Bool.and_eq_true,decide_eq_true_eq]
 exact⟨by show (0:Int)≤_;omega,by show _≤(18446744073709551615:Int);omega⟩
theorem zev {P:Program} {t:TypeId} {k:IntKind} {n:Int} {d:Nat} (hu:P.underlying t=some (.int k)) (h:(Lit.int k n).wf=true):P.keyLits (d+1) t [.int k n]=some [.int k n]:=by
 unfold Program.keyLits
 simp [hu,h]
theorem zl5 (x:Ext):Tryd.prog.keyLits 64 63 [.int .u64 x.a.toNat,.int .u64 x.b.toNat]=some [.int .u64 x.a.toNat,.int .u64 x.b.toNat]:=by
 have i2 : ∀ x:U,Tryd.prog.keyLits 63 61 [.int .u64 x.toNat]=some [.int .u64 x.toNat]:=fun x=>zev Tryd.underlying61 (wf_u64 x)
 unfold Program.keyLits
 simp only [Tryd.underlying63,ziU]
 rw [if_pos ⟨rfl,by kernel_rfl⟩]
 simp only [List.mapM_cons,List.mapM_nil,zqf,List.drop_zero,List.drop_succ_cons,List.take_succ_cons,List.take_zero,i2,Option.pure_def,Option.bind_eq_bind,Option.bind_some,Option.map_some]
 rfl
theorem zOU (x:Ext):zi Tryd.prog .neq 63 (.p (ext x)) (.p (ext x))=some (.p (bo false)):=by
 have:=(zpV (t:=63) (P:=Tryd.prog) (xs:=[zw x.a,zw x.b]) (ys:=[zw x.a,zw x.b]) (p:=True) (by kernel_rfl) rfl rfl (zl5 x) (zl5 x) (by simp)).2
 show zi _ _ _ (.p (.agg [zw x.a,zw x.b])) (.p (.agg [zw x.a,zw x.b]))=_
 simpa using this
theorem zl6 {a b c:Int} (ha:okI a) (hb:okI b) (hc:okI c):Tryd.prog.keyLits 64 40 [.int .i64 a,.int .i64 b,.int .i64 c]=some [.int .i64 a,.int .i64 b,.int .i64 c]:=by
 have i1 : ∀ n,okI n → Tryd.prog.keyLits 63 3 [.int .i64 n]=some [.int .i64 n]:=fun n h=>zev Tryd.underlying3 (wf_i64 h.1 h.2)
 have h1:=i1 _ ha
 have h2:=i1 _ hb
 have h3:=i1 _ hc
 unfold Program.keyLits
 simp only [Tryd.underlying40,cells40]
 rw [if_pos ⟨rfl,by kernel_rfl⟩]
 simp only [List.mapM_cons,List.mapM_nil,cells3,List.drop_zero,List.drop_succ_cons,List.take_succ_cons,List.take_zero,h1,h2,h3,Option.pure_def,Option.bind_eq_bind,Option.bind_some,Option.map_some]
 rfl
theorem zAY {a b c:Int} (ha:okI a) (hb:okI b) (hc:okI c):zi Tryd.prog .eql 40 (.p (.agg [i64 a,i64 b,i64 c])) (.p (.agg [i64 a,i64 b,i64 c]))=some (.p (bo true))∧zi Tryd.prog .neq 40 (.p (.agg [i64 a,i64 b,i64 c])) (.p (.agg [i64 a,i64 b,i64 c]))=some (.p (bo false)):=by
 have:=zpV (t:=40) (P:=Tryd.prog) (xs:=[i64 a,i64 b,i64 c]) (ys:=[i64 a,i64 b,i64 c]) (p:=True) (by kernel_rfl) rfl rfl (zl6 ha hb hc) (zl6 ha hb hc) (by simp)
 simpa using this
def rdc (x:U):U:=x % 18446744069414584321#64
def zAZ (x:Ext):Ext:=⟨rdc x.a,rdc x.b⟩
def zap (l:List Ext):Nat → List Ext
 | 0=>[]
 | n+1=>zap l n++[if n < l.length then zAZ (nth l n) else ⟨0#64,0#64⟩]
theorem zdb {l:List Ext} : ∀ {n},(zap l n).length=n
 | 0=>rfl
 | n+1=>by simp [zap,zdb]
section walks
variable {G:Globs}
theorem zew (x:U) (H:Hp) (R:AV → Hp → Prop) (h:R (.p (zw (rdc x))) H):ACall Tryd.prog G 76 [.p (zw x)] H R:=by
 have hp:(18446744069414584321#64:U)≠0#64:=by decide
 refine ACall.of_run (raw:=[]) Tryd.func76 rfl Tryd.ntmps76 (by simp) fun hbel => ?_
 refine .q ?_;refine .text ?_;simp (disch:=first|exact zb|fail) only [go_sem,seval]
 refine .q ?_;refine .text ?_;simp (disch:=first|exact zb|fail) only [go_sem,seval]
 refine .q ?_;refine .rt Tryd.func76 (by rw [Tryd.results76]) (hR := ?_);simp (disch:=first|exact zb|fail) only [go_sem,seval]
 exact h
theorem zps (x:Ext) (H:Hp) (R:AV → Hp → Prop) (h:R (.p (ext (zAZ x))) H):ACall Tryd.prog G 59 [.p (ext x)] H R:=by
 refine ACall.of_run (raw:=[]) Tryd.func59 rfl Tryd.ntmps59 (by simp) fun hbel => ?_
 refine .q ?_;refine .text ?_;simp (disch:=first|exact zb|fail) only [go_sem,seval]
 refine .q ?_;refine .open [7] follows (by kernel_rfl) ?_;simp (disch:=first|exact zb|fail) only [go_sem,seval]
 refine CallD.still (fun R h=>zew _ _ R h) ?_;simp (disch:=first|exact zb|fail) only [go_sem,seval]
 refine CallD.still (fun R h=>zew _ _ R h) ?_;simp (disch:=first|exact zb|fail) only [go_sem,seval]
 refine .q ?_;refine .rt Tryd.func59 (by rw [Tryd.results59]) (hR := ?_);simp (disch:=first|exact zb|fail) only [go_sem,seval]
 exact h
set_option maxHeartbeats 4000000 in
theorem zdY (l:List Ext) (hl:l.length≤9223372036854775807) (n:Nat) (hn:n≤100000) (H:Hp) (R:AV → Hp → Prop) (h:R (.p (.sl false 2 (pl ext (zap l n)))) H):ACall Tryd.prog G 30 [.p (.sl false 2 (pl ext l)),.p (i64 n)] H R:=by
 refine ACall.of_run (raw:=[]) Tryd.func30 rfl Tryd.ntmps30 (by simp) fun hbel => ?_
 refine .q ?_;refine .text ?_;simp (disch:=first|exact zb|fail) only [go_sem,seval]
 refine .q ?_;refine .text ?_;simp (disch:=first|exact zb|fail) only [go_sem,seval]
 refine .q ?_;refine .own 5 (by simp (disch:=first|exact zb|fail) only [go_sem,seval];rfl) ?_
 refine .q ?_;refine .text ?_;simp (disch:=first|exact zb|fail) only [go_sem,seval]
 refine .q ?_;refine .loopF [0,1] (fun i=>[(5,.sl H.n i 2 (pl ext (zap l i))),(6,.p (i64 i))]) (fun i=>[(H.n,.tail i)]) (fun i=>True) (0) (n) (by omega) ?_ (by first | rfl | (simp (disch:=first|exact zb|fail) only [go_sem,seval,zap]<;>rfl)) ?_ ?_ ?_
 · simp (disch:=first|exact zb|fail) only [go_sem,seval,zap]<;>(repeat' (first | rfl | refine And.intro ?_ ?_))
 · exact trivial
 intro env T E hQ;simp (disch:=first|exact zb|fail) only [go_sem,seval,zap] at E
 rotate_left 1
 intro i env T hi0 hi E hQ ihE;simp (disch:=first|exact zb|fail) only [go_sem,seval,zap] at E
 rotate_left 1
 · refine .q ?_;refine .text ?_;simp (disch:=first|exact zb|fail) only [go_sem,seval,E]
   refine .q ?_;refine .ifF (by simp (disch:=first|exact zb|fail) only [go_sem,seval]) ?_
   refine .q ?_;refine .text ?_;simp (disch:=first|exact zb|fail) only [go_sem,seval,E]
   refine .q ?_;refine .rt Tryd.func30 (by rw [Tryd.results30]) (hx:=by simp (disch:=first|exact zb|fail) only [go_sem,seval,E];rfl) (hR := ?_);simp (disch:=first|exact zb|fail) only [go_sem,seval,E]
   exact h
 · have hml:=zdb (l:=l) (n:=i)
   have hst:zap l (i+1)=zap l i++[if i < l.length then zAZ (nth l i) else ⟨0#64,0#64⟩]:=rfl
   rw [hst] at ihE
   refine .q ?_;refine .text ?_;simp (disch:=first|exact zb|fail) only [go_sem,seval,E]
   refine .q ?_;refine .ifT (by simp (disch:=first|exact zb|fail) only [go_sem,seval]) ?_
   refine .q ?_;refine .text ?_;simp (disch:=first|exact zb|fail) only [go_sem,seval,E]
   refine .q ?_;refine .text ?_;simp (disch:=first|exact zb|fail) only [go_sem,seval,E]
   by_cases c:i < l.length
   · have d:decide ((i:Int) < (l.length:Int))=true:=decide_eq_true (by omega)
     rw [if_pos c] at ihE
     refine .q ?_;refine .ifT (by simp (disch:=first|exact zb|fail) only [go_sem,seval,d]) ?_
     refine .q ?_;refine .text ?_;simp (disch:=first|exact zb|fail) only [go_sem,seval,E]
     refine CallK.of (fun R h=>zps _ _ R h) ?_;simp (disch:=first|exact zb|fail) only [go_sem,seval]
     refine .q ?_;refine .text ?_;simp (disch:=first|exact zb|fail) only [go_sem,seval,E,hml]
     refine .q ?_;refine .text ?_;simp (disch:=first|exact zb|fail) only [go_sem,seval,E]
     first | (refine ihE _ _ ?_ trivial ?_) | (refine .z rfl ?_;refine ihE _ _ ?_ trivial ?_) | (refine .z rfl ?_;refine .z rfl ?_;refine ihE _ _ ?_ trivial ?_) | (refine .z rfl ?_;refine .z rfl ?_;refine .z rfl ?_;refine ihE _ _ ?_ trivial ?_)
     · simp (disch:=first|exact zb|fail) only [go_sem,seval,E]<;>(repeat' (first | rfl | refine And.intro ?_ ?_))
     · first | exact .mk _ rfl | exact .mk [] rfl | (apply Later.mk;simp (disch:=first|exact zb|fail) only [go_sem,seval,zaP,E];exact rfl) | (apply Later.mk;simp (disch:=first|exact zb|fail) only [go_sem,seval,zaP,zdJ,List.append_assoc,E]<;>(try rfl))
   · have d:decide ((i:Int) < (l.length:Int))=false:=decide_eq_false (by omega)
     rw [if_neg c] at ihE
     refine .q ?_;refine .ifF (by simp (disch:=first|exact zb|fail) only [go_sem,seval,d]) ?_
     refine .skip ?_
     refine .q ?_;refine .text ?_;simp (disch:=first|exact zb|fail) only [go_sem,seval,E,hml]
     refine .q ?_;refine .text ?_;simp (disch:=first|exact zb|fail) only [go_sem,seval,E]
     first | (refine ihE _ _ ?_ trivial ?_) | (refine .z rfl ?_;refine ihE _ _ ?_ trivial ?_) | (refine .z rfl ?_;refine .z rfl ?_;refine ihE _ _ ?_ trivial ?_) | (refine .z rfl ?_;refine .z rfl ?_;refine .z rfl ?_;refine ihE _ _ ?_ trivial ?_)
     · simp (disch:=first|exact zb|fail) only [go_sem,seval,E]<;>(repeat' (first | rfl | refine And.intro ?_ ?_))
     · first | exact .mk _ rfl | exact .mk [] rfl | (apply Later.mk;simp (disch:=first|exact zb|fail) only [go_sem,seval,zaP,E];exact rfl) | (apply Later.mk;simp (disch:=first|exact zb|fail) only [go_sem,seval,zaP,zdJ,List.append_assoc,E]<;>(try rfl))
set_option maxHeartbeats 4000000 in
theorem zpt (l:List Ext) (hl:l.length≤140737488355000) (H:Hp) (R:AV → Hp → Prop) (h:R (.p (bo true)) H):ACall Tryd.prog G 45 [.p (.sl false 2 (pl ext l)),.p (.sl false 2 (pl ext l))] H R:=by
 refine ACall.of_run (raw:=[]) Tryd.func45 rfl Tryd.ntmps45 (by simp) fun hbel => ?_
 refine .q ?_;refine .text ?_;simp (disch:=first|exact zb|fail) only [go_sem,seval]
 refine .q ?_;refine .text ?_;simp (disch:=first|exact zb|fail) only [go_sem,seval,bne_self_eq_false]
 refine .q ?_;refine .ifF (by simp (disch:=first|exact zb|fail) only [go_sem,seval]) ?_
 refine .q ?_;refine .text ?_;simp (disch:=first|exact zb|fail) only [go_sem,seval]
 refine .q ?_;refine .loopE [0,1] (fun i=>[(4,.p (bo false)),(5,.p (i64 i))]) (fun i=>[]) (fun i=>True) (0) (l.length) (by omega) ?_ (by first | rfl | (simp (disch:=first|exact zb|fail) only [go_sem,seval]<;>rfl)) ?_ ?_ ?_
 · simp (disch:=first|exact zb|fail) only [go_sem,seval]<;>(repeat' (first | rfl | refine And.intro ?_ ?_))
 · exact trivial
 intro env E hQ;simp (disch:=first|exact zb|fail) only [go_sem,seval] at E
 rotate_left 1
 intro i env hi0 hi E hQ ihE;simp (disch:=first|exact zb|fail) only [go_sem,seval] at E
 rotate_left 1
 · refine .q ?_;refine .text ?_;simp (disch:=first|exact zb|fail) only [go_sem,seval,E]
   refine .q ?_;refine .ifF (by simp (disch:=first|exact zb|fail) only [go_sem,seval]) ?_
   refine .q ?_;refine .text ?_;simp (disch:=first|exact zb|fail) only [go_sem,seval,E]
   refine .q ?_;refine .rt Tryd.func45 (by rw [Tryd.results45]) (hR := ?_);simp (disch:=first|exact zb|fail) only [go_sem,seval]
   exact h
 · refine .q ?_;refine .text ?_;simp (disch:=first|exact zb|fail) only [go_sem,seval,E]
   refine .q ?_;refine .ifT (by simp (disch:=first|exact zb|fail) only [go_sem,seval]) ?_
   refine .q ?_;refine .open [] follows (by kernel_rfl) ?_;simp (disch:=first|exact zb|fail) only [go_sem,seval,E,zOU]
   refine .q ?_;refine .ifF (by simp (disch:=first|exact zb|fail) only [go_sem,seval]) ?_
   refine .q ?_;refine .text ?_;simp (disch:=first|exact zb|fail) only [go_sem,seval,E]
   first | (refine ihE _ _ ?_ trivial ?_) | (refine .z rfl ?_;refine ihE _ _ ?_ trivial ?_) | (refine .z rfl ?_;refine .z rfl ?_;refine ihE _ _ ?_ trivial ?_) | (refine .z rfl ?_;refine .z rfl ?_;refine .z rfl ?_;refine ihE _ _ ?_ trivial ?_)
   · simp (disch:=first|exact zb|fail) only [go_sem,seval,E]<;>(repeat' (first | rfl | refine And.intro ?_ ?_))
   · first | rfl | (simp (disch:=first|exact zb|fail) only [go_sem,seval,E]<;>(try rfl))
set_option maxHeartbeats 4000000 in
theorem zcg (m:Msg) (hm:m.Ok) (H:Hp) (R:AV → Hp → Prop) (h:R (.p (bo true)) H):ACall Tryd.prog G 14 [.p (yK m),.p (yK m)] H R:=by
 have hrl:=m.root.len
 have hsl:=hm.sums
 have hd:(!decide (m.root.val=m.root.val))=false:=by simp
 refine ACall.of_run (raw:=[]) Tryd.func14 rfl Tryd.ntmps14 (by simp) fun hbel => ?_
 refine .q ?_;refine .text ?_;simp (disch:=first|exact zb|fail) only [go_sem,seval]
 have hstr:((bytesOf m.text).toList == (bytesOf m.text).toList)=true:=beq_self_eq_true _
 refine .q ?_;refine .text ?_;simp (disch:=first|exact zb|fail) only [go_sem,seval,bne_self_eq_false,hd,hrl,hstr]
 refine CallK.of (fun R h=>zpt m.values hm.values _ R h) ?_;simp (disch:=first|exact zb|fail) only [go_sem,seval,bne_self_eq_false]
 refine .q ?_;refine .ifF (by simp (disch:=first|exact zb|fail) only [go_sem,seval]) ?_
 refine .q ?_;refine .text ?_;simp (disch:=first|exact zb|fail) only [go_sem,seval]
 refine .q ?_;refine .loopE [2,3] (fun i=>[(4,.p (bo false)),(5,.p (i64 i))]) (fun i=>[]) (fun i=>True) (0) (m.sums.length) (by omega) ?_ (by first | rfl | (simp (disch:=first|exact zb|fail) only [go_sem,seval]<;>rfl)) ?_ ?_ ?_
 · simp (disch:=first|exact zb|fail) only [go_sem,seval]<;>(repeat' (first | rfl | refine And.intro ?_ ?_))
 · exact trivial
 intro env E hQ;simp (disch:=first|exact zb|fail) only [go_sem,seval] at E
 rotate_left 1
 intro i env hi0 hi E hQ ihE;simp (disch:=first|exact zb|fail) only [go_sem,seval] at E
 rotate_left 1
 · refine .q ?_;refine .text ?_;simp (disch:=first|exact zb|fail) only [go_sem,seval,E]
   refine .q ?_;refine .ifF (by simp (disch:=first|exact zb|fail) only [go_sem,seval]) ?_
   refine .q ?_;refine .text ?_;simp (disch:=first|exact zb|fail) only [go_sem,seval,E]
   refine .q ?_;refine .rt Tryd.func14 (by rw [Tryd.results14]) (hR := ?_);simp (disch:=first|exact zb|fail) only [go_sem,seval]
   exact h
 · refine .q ?_;refine .text ?_;simp (disch:=first|exact zb|fail) only [go_sem,seval,E]
   refine .q ?_;refine .ifT (by simp (disch:=first|exact zb|fail) only [go_sem,seval]) ?_
   refine .q ?_;refine .open [] follows (by kernel_rfl) ?_;simp (disch:=first|exact zb|fail) only [go_sem,seval,E,bne_self_eq_false]
   refine .q ?_;refine .ifF (by simp (disch:=first|exact zb|fail) only [go_sem,seval]) ?_
   refine .q ?_;refine .text ?_;simp (disch:=first|exact zb|fail) only [go_sem,seval,E]
   first | (refine ihE _ _ ?_ trivial ?_) | (refine .z rfl ?_;refine ihE _ _ ?_ trivial ?_) | (refine .z rfl ?_;refine .z rfl ?_;refine ihE _ _ ?_ trivial ?_) | (refine .z rfl ?_;refine .z rfl ?_;refine .z rfl ?_;refine ihE _ _ ?_ trivial ?_)
   · simp (disch:=first|exact zb|fail) only [go_sem,seval,E]<;>(repeat' (first | rfl | refine And.intro ?_ ?_))
   · first | rfl | (simp (disch:=first|exact zb|fail) only [go_sem,seval,E]<;>(try rfl))
structure Ses.Cmp (s:Ses):Prop where
 last:s.last.Ok
 bytes:okI s.bytes
 rounds:okI s.rounds
 words:okI s.words
set_option maxHeartbeats 4000000 in
theorem zex (s:Ses) (hs:s.Cmp) (H:Hp) (R:AV → Hp → Prop) (h:R (.p (bo true)) H):ACall Tryd.prog G 21 [.p (yt s),.p (yt s)] H R:=by
 have hrl:=s.seen.len
 have hd:decide (s.seen.val=s.seen.val)=true:=by simp
 have hstr:((bytesOf s.text).toList == (bytesOf s.text).toList)=true:=beq_self_eq_true _
 have hu:=(zAY hs.bytes hs.rounds hs.words).1
 refine ACall.of_run (raw:=[]) Tryd.func21 rfl Tryd.ntmps21 (by simp) fun hbel => ?_
 refine .q ?_;refine .text ?_;simp (disch:=first|exact zb|fail) only [go_sem,seval]
 refine .q ?_;refine .text ?_;simp (disch:=first|exact zb|fail) only [go_sem,seval,beq_self_eq_true,hd,hrl,hstr]
 refine CallK.of (fun R h=>zcg s.last hs.last _ R h) ?_;simp (disch:=first|exact zb|fail) only [go_sem,seval,beq_self_eq_true,hd,hrl,hstr,hu]
 refine .q ?_;refine .rt Tryd.func21 (by rw [Tryd.results21]) (hR := ?_);simp (disch:=first|exact zb|fail) only [go_sem,seval]
 exact h
end walks
end Go.Proofs.YtmoecjgehdkhkaaDoor

/-
  Sessions: the reference's messages for the laws.
-/
namespace Go.Proofs.YtmoecjgehdkhkaaDoor
open Go Go.AL

theorem zl7 {a b:By}:bytesOf a++bytesOf b=bytesOf (a++b):=by
 apply ByteArray.ext
 simp [bytesOf,ByteArray.data_append]
theorem bytesOf_take {a:By} {n:Nat}:(bytesOf a).extract 0 n=bytesOf (a.take n):=by
 apply ByteArray.ext
 simp [bytesOf,ByteArray.data_extract]
theorem zJo {P:Program} {t:TypeId} {a b:By} (h:a.length+b.length≤9223372036854775807):zi P .add t (.p (str (bytesOf a))) (.p (str (bytesOf b)))=some (.p (str (bytesOf (a++b)))):=by
 have h1 : ¬ (((bytesOf a).size+(bytesOf b).size:Nat):Int) > IntKind.i64.max:=by
  rw [zaR,zaR];show ¬ (_ > (9223372036854775807:Int));omega
 simp only [zi,str,zB,zh,zBt,Bool.false_eq_true,if_false,h1,Option.map_some,zl7]
def mV (k s t:Int) (tx r:By) (x y:PV):PV := .agg ([i64 k,i64 s,i64 t,str (bytesOf tx)]++(pl b8 r++[x,y]))
section mv
variable {k s t:Int} {tx r:By} {x y:PV}
theorem yg:zG (mG k s t tx r (.p x) (.p y)) = .p (mV k s t tx r x y):=by
 have:mG k s t tx r (.p x) (.p y)=([i64 k,i64 s,i64 t,str (bytesOf tx)]++(pl b8 r++[x,y])).map .p:=by simp [mG,cl,pl]
 rw [this,zG,zdP]
 rfl
theorem zJp {S V:AV}:(mG k s t tx r S V)[0]? = some (.p (i64 k)):=rfl
theorem zL:zo (.p (mV k s t tx r x y))=some (mG k s t tx r (.p x) (.p y)):=by
 show some ((_:List PV).map AV.p)=_
 simp [mG,cl,pl]
theorem zdZ (h:r.length=32) {su:List Int} {va:List Ext} (hx:x.weak1 = .sl false 1 (pl i64 su)) (hy:y.weak1 = .sl false 2 (pl ext va)):(mV k s t tx r x y).weak=yK ⟨k,s,t,tx,⟨r,h⟩,su,va⟩:=by
 show PV.agg (List.map PV.weak1 _)=_
 rw [List.map_append,List.map_append,zbf (l:=pl b8 _) fun x hx=>by simp only [pl,List.mem_map] at hx;obtain⟨y,_,rfl⟩:=hx;rfl]
 simp only [List.map_cons,List.map_nil,hx,hy]
 rfl
end mv
theorem zF (P:Program) (t:TypeId) (x:Int):zi P .and t (.p (i64 x)) (.p (i64 3))=some (.p (i64 (x % 4))):=zbs P t x 2 (by omega)
def mk0 (m:Msg) (n:Nat):Int:=nth (if 4≤n then [4,4,6,7] else [4,4,4,7]) (m.kind % 4).toNat
def mk2 (m:Msg) (n:Nat):Int:=if n=0 then 1 else if n=1 then 2 else if n=3 then 3 else if n % 2=1 then 5 else mk0 m n
def zed (m:Msg) (n:Nat):Msg :=
 if mk2 m n=1 then ⟨1,m.session % 65536,n,113#8 :: m.text.take 50,m.root,[],[]⟩
 else if mk2 m n=3 then ⟨3,m.session % 65536,n,[],m.root,m.sums.take 10,[]⟩
 else if mk2 m n=4 then ⟨4,m.session % 65536,n,[],m.root,[],zap m.values 1⟩
 else if mk2 m n=5 then ⟨5,m.session % 65536,n,[],m.root,[],zap m.values (min m.values.length 6)⟩
 else ⟨mk2 m n,m.session % 65536,n,[],m.root,[],[]⟩
def mB (H:Hp) (m:Msg) (kl:List Int):Hp:=((H.new (.cells (mcl m))).new (.cells mZ)).new (.cells (cl i64 kl))
def mH (H:Hp) (m:Msg) (kl:List Int) (mc:List AV):Hp:=(mB H m kl).new (.cells mc)
theorem yE {k s t:Int} {r:By} (hr:r.length=32):setAt (((mZ.set 0 (.p (i64 k))).set 1 (.p (i64 s))).set 2 (.p (i64 t))) 4 (cl b8 r)=mG k s t [] r (.p (.sl true 1 [])) (.p (.sl true 2 [])):=by
 rw [mZ,zqu,zqv,zqw,zqx List.length_replicate hr]
section mh
variable {H:Hp} {m:Msg} {kl:List Int} {mc mc':List AV}
theorem zJq:(mB H m kl).n=H.n+3:=by simp [mB,Hp.n_new]
theorem zKg:(mB H m kl).f H.n=some (.cells (mcl m)):=by simp (disch:=first|exact zb|fail) only [mB,go_sem,seval]
theorem zA0:(mB H m kl).f (H.n+2)=some (.cells (cl i64 kl)):=by simp (disch:=first|exact zb|fail) only [mB,go_sem,seval]
theorem zJr {kl':List Int}:(mB H m kl).set (H.n+2) (.cells (cl i64 kl'))=mB H m kl':=by simp (disch:=first|exact zb|fail) only [mB,go_sem,seval]
theorem zRE:(mH H m kl mc).n=H.n+4:=by simp [mH,zJq,Hp.n_new]
theorem zKh:(mH H m kl mc).f H.n=some (.cells (mcl m)):=by simp (disch:=first|exact zb|fail) only [mH,mB,go_sem,seval]
theorem zQx:(mH H m kl mc).f (H.n+1)=some (.cells mZ):=by simp (disch:=first|exact zb|fail) only [mH,mB,go_sem,seval]
theorem zKi:(mH H m kl mc).f (H.n+3)=some (.cells mc):=by simp (disch:=first|exact zb|fail) only [mH,mB,go_sem,seval]
theorem zqK:(mH H m kl mc).set (H.n+3) (.cells mc')=mH H m kl mc':=by simp (disch:=first|exact zb|fail) only [mH,mB,go_sem,seval]
theorem zA1:(mH H m kl mc).trunc H.n=H:=by simp (disch:=first|exact zb|fail) only [mH,mB,go_sem,seval]
theorem zOV (h:Bel H.n H):Bel H.n (mH H m kl mc):=by
 unfold mH mB
 exact zK (zK (zK (zK h (Nat.le_refl _)) (by simp only [n_new'];omega)) (by simp only [n_new'];omega)) (by simp only [n_new'];omega)
def mX (H:Hp) (m:Msg) (kl:List Int) (o:Option (List AV)):Hp:=match o with | none=>mB H m kl | some mc=>mH H m kl mc
theorem zJs:mX H m kl none=mB H m kl:=rfl
theorem zQy {o:Option (List AV)}:(mX H m kl o).f H.n=some (.cells (mcl m)):=by cases o<;>first | exact zKg | exact zKh
theorem zQz {o:Option (List AV)}:(mX H m kl o).f (H.n+2)=some (.cells (cl i64 kl)):=by
 cases o with
 | none=>exact zA0
 | some mc=>show ((mB H m kl).new _).f _=_;rw [Hp.f_new_old _ _ _ (by rw [zJq];omega)];exact zA0
theorem zRF:(mX H m kl none).n=H.n+3:=zJq
theorem zOW:(mX H m kl none).new (.cells mc)=mX H m kl (some mc):=rfl
theorem zQA:(mX H m kl (some mc)).f (H.n+3)=some (.cells mc):=zKi
theorem zJt:(mX H m kl (some mc)).set (H.n+3) (.cells mc')=mX H m kl (some mc'):=zqK
end mh
attribute [go_sem] zQy zQz zRF zOW zQA zJt
attribute [go_sem] zJr zJq zKg zA0 zRE zKh zQx zKi zqK zA1
section walks
variable {G:Globs}
set_option maxHeartbeats 8000000 in
set_option maxRecDepth 20000 in
theorem zpu (m:Msg) (ht:m.text.length≤9223372036854775807) (hsu:m.sums.length≤9223372036854775807) (hva:m.values.length≤9223372036854775807) (n:Nat) (hn:n≤255) (H:Hp) (R:AV → Hp → Prop) (h:R (.p (yK (zed m n))) H):ACall Tryd.prog G 8 [.p (yK m),.p (i64 n)] H R:=by
 have hrl:=m.root.len
 refine ACall.of_run (raw:=[]) Tryd.func8 rfl Tryd.ntmps8 (by simp) fun hbel => ?_
 refine .q ?_;refine .text ?_;simp (disch:=first|exact zb|fail) only [go_sem,seval,-List.reduceReplicate]
 refine .q ?_;refine .region ?_
 refine .buildRow (sz:=1) (cs:=cl i64 [4,4,4,7]) (by simp (disch:=first|exact zb|fail) only [go_sem,seval,-List.reduceReplicate,yX,y9]<;>rfl) (by rfl) ?_
 refine .run ?_
 simp (disch:=first|exact zb|fail) only [go_sem,seval,-List.reduceReplicate]
 change ARun _ _ _ (mB H m [4,4,4,7]) R
 refine .q ?_;refine .text ?_;simp (disch:=first|exact zb|fail) only [go_sem,seval,-List.reduceReplicate]
 refine .q ?_;refine .cutH [1,2,4,5] [] (mB H m (if 4≤n then [4,4,6,7] else [4,4,4,7])) (fun ihE => ?_) (fun env E => ?_)
 rotate_left 1
 simp (disch:=first|exact zb|fail) only [go_sem,seval,-List.reduceReplicate] at E
 rotate_left 1
 · by_cases c:4≤n
   · have d:decide ((4:Int)≤(n:Int))=true:=decide_eq_true (by omega)
     rw [if_pos c] at ihE
     have hset:([4,4,4,7]:List Int).set 2 6=[4,4,6,7]:=rfl
     refine .q ?_;refine .ifT (by simp (disch:=first|exact zb|fail) only [go_sem,seval,-List.reduceReplicate,d]) ?_
     refine .q ?_;refine .text ?_;simp (disch:=first|exact zb|fail) only [go_sem,seval,-List.reduceReplicate]
     first | (refine ihE _ _ ?_ ?_) | (refine .z rfl ?_;refine ihE _ _ ?_ ?_) | (refine .z rfl ?_;refine .z rfl ?_;refine ihE _ _ ?_ ?_) | (refine .z rfl ?_;refine .z rfl ?_;refine .z rfl ?_;refine ihE _ _ ?_ ?_)
     · simp (disch:=first|exact zb|fail) only [go_sem,seval,-List.reduceReplicate,hset]<;>(repeat' (first | rfl | refine And.intro ?_ ?_))
     · first | rfl | (simp (disch:=first|exact zb|fail) only [go_sem,seval,-List.reduceReplicate,hset]<;>(try rfl))
   · have d:decide ((4:Int)≤(n:Int))=false:=decide_eq_false (by omega)
     rw [if_neg c] at ihE
     refine .q ?_;refine .ifF (by simp (disch:=first|exact zb|fail) only [go_sem,seval,-List.reduceReplicate,d]) ?_
     refine .skip ?_
     first | (refine ihE _ _ ?_ ?_) | (refine .z rfl ?_;refine ihE _ _ ?_ ?_) | (refine .z rfl ?_;refine .z rfl ?_;refine ihE _ _ ?_ ?_) | (refine .z rfl ?_;refine .z rfl ?_;refine .z rfl ?_;refine ihE _ _ ?_ ?_)
     · simp (disch:=first|exact zb|fail) only [go_sem,seval,-List.reduceReplicate]<;>(repeat' (first | rfl | refine And.intro ?_ ?_))
     · first | rfl | (simp (disch:=first|exact zb|fail) only [go_sem,seval,-List.reduceReplicate]<;>(try rfl))
 · have hk0:mk0 m n=nth (if 4≤n then [4,4,6,7] else [4,4,4,7]) (m.kind % 4).toNat:=rfl
   have hkl:(if 4≤n then [4,4,6,7] else [4,4,4,7]:List Int).length=4:=by split<;>rfl
   generalize (if 4≤n then [4,4,6,7] else [4,4,4,7]:List Int)=kl at *
   have hi0:0≤m.kind % 4:=by omega
   obtain⟨ki,hki⟩ : ∃ ki:Nat,m.kind % 4=(ki:Int):=⟨(m.kind % 4).toNat,by omega⟩
   have hki4:ki < 4:=by omega
   rw [hki,Int.toNat_natCast] at hk0
   rw [←zJs]
   have hzl:mZ.length=38:=rfl
   have hgl:(mG (nth kl ki) (m.session % 65536) n [] m.root.val (.p (.sl true 1 [])) (.p (.sl true 2 []))).length=38:=zb3 hrl
   have hzd:AV.p (i64 0) :: AV.p (i64 0) :: AV.p (i64 0) :: AV.p (str ByteArray.empty) :: List.map AV.p (pl b8 (List.replicate 32 0#8)++[PV.sl true 1 [],PV.sl true 2 []])=mZ:=by simp [mZ,mG,cl,pl,zao]
   have hst:=zH (cs:=mZ) (xs:=mG (nth kl ki) (m.session % 65536) n [] m.root.val (.p (.sl true 1 [])) (.p (.sl true 2 []))) (by rw [hzl,hgl])
   (refine .q ?_)
   refine .openInv (fun L env' H'=>kF env' [(1,.p (i64 n)),(2,.ptr H.n 0),(4,.ptr (H.n+1) 0),(5,.ref (H.n+2) 0 4 1)]∧kI L env' [(0,12,.ref (H.n+2) 0 4 1),(1,13,.ptr H.n 0),(2,14,.p (i64 m.kind)),(3,15,.p (i64 ki)),(4,16,.ptr (H.n+2) ki),(5,17,.p (i64 (nth kl ki))),(6,18,.ptr H.n 1),(7,19,.p (i64 m.session)),(8,20,.p (i64 (m.session % 65536))),(9,21,.p (i64 n)),(10,22,.ptr H.n 4),(11,23,.p (dgv m.root)),(12,24,.p (mV (nth kl ki) (m.session % 65536) n [] m.root.val (.sl true 1 []) (.sl true 2 []))),(13,6,.ptr (H.n+3) 0)]∧(L 14=true → allT L [0,1,2,3,4,5,6,7,8,9,10,11,12,13])∧H'=(mX H m kl (if L 14 then some (mG (nth kl ki) (m.session % 65536) n [] m.root.val (.p (.sl true 1 [])) (.p (.sl true 2 []))) else if L 13 then some mZ else none))) follows (by kernel_rfl) ?_ ?_ ?_
   · exact⟨(by simp (disch:=first|exact zb|fail) only [go_sem,seval,-List.reduceReplicate,kFi,kFn,and_self,E,zF,zz,hki,hkl,yE,hrl,yg,zL,hzd,hst,hzl,hgl,yf]),(fun _ _ h=>by cases h),(fun h=>by cases h),(by first | rfl | (simp only [Bool.false_eq_true,if_false];first | rfl | (simp (disch:=first|exact zb|fail) only [go_sem,seval,-List.reduceReplicate,E,zF,zz,hki,hkl,yE,hrl,yg,zL,hzd,hst,hzl,hgl,yf]<;>rfl)))⟩
   · intro i o L env' H' ho hL hall hI
     obtain⟨KF,KG,m14,rfl⟩:=hI
     rcases i with _ | _ | _ | _ | _ | _ | _ | _ | _ | _ | _ | _ | _ | _ | _ | i
     · cases ho;have f3:=zJ KF 3 rfl;refine zf (.ref (H.n+2) 0 4 1) rfl rfl (by simp (disch:=first|exact zb|fail) only [go_sem,seval,-List.reduceReplicate,f3,zF,zz,hki,hkl,yE,hrl,yg,zL,hzd,hst,hzl,hgl,yf]<;>rfl) rfl ?_;exact⟨zx KF,zA KG,ka m14,(by rw [za (by decide),za (by decide)])⟩
     · cases ho;have f1:=zJ KF 1 rfl;refine zf (.ptr H.n 0) rfl rfl (by simp (disch:=first|exact zb|fail) only [go_sem,seval,-List.reduceReplicate,f1,zF,zz,hki,hkl,yE,hrl,yg,zL,hzd,hst,hzl,hgl,yf]<;>rfl) rfl ?_;exact⟨zx KF,zA KG,ka m14,(by rw [za (by decide),za (by decide)])⟩
     · cases ho;have d1:=zn KG 1 rfl (kL hall 0 rfl rfl);have n14:=ya m14 hL;refine zf (.p (i64 m.kind)) rfl rfl (by simp (disch:=first|exact zb|fail) only [go_sem,seval,-List.reduceReplicate,reduceIte,Bool.false_eq_true,if_false,if_true,d1,n14,hL,zF,zz,hki,hkl,yE,hrl,yg,zL,hzd,hst,hzl,hgl,yf]<;>rfl) rfl ?_;exact⟨zx KF,zA KG,ka m14,(by rw [za (by decide),za (by decide)])⟩
     · cases ho;have d2:=zn KG 2 rfl (kL hall 0 rfl rfl);refine zf (.p (i64 ki)) rfl rfl (by simp (disch:=first|exact zb|fail) only [go_sem,seval,-List.reduceReplicate,d2,zF,zz,hki,hkl,yE,hrl,yg,zL,hzd,hst,hzl,hgl,yf]<;>rfl) rfl ?_;exact⟨zx KF,zA KG,ka m14,(by rw [za (by decide),za (by decide)])⟩
     · cases ho;have d0:=zn KG 0 rfl (kL hall 0 rfl rfl);have d3:=zn KG 3 rfl (kL hall 1 rfl rfl);refine zf (.ptr (H.n+2) ki) rfl rfl (by simp (disch:=first|exact zb|fail) only [go_sem,seval,-List.reduceReplicate,d0,d3,zF,zz,hki,hkl,yE,hrl,yg,zL,hzd,hst,hzl,hgl,yf]<;>rfl) rfl ?_;exact⟨zx KF,zA KG,ka m14,(by rw [za (by decide),za (by decide)])⟩
     · cases ho;have d4:=zn KG 4 rfl (kL hall 0 rfl rfl);have n14:=ya m14 hL;refine zf (.p (i64 (nth kl ki))) rfl rfl (by simp (disch:=first|exact zb|fail) only [go_sem,seval,-List.reduceReplicate,reduceIte,Bool.false_eq_true,if_false,if_true,d4,n14,hL,zF,zz,hki,hkl,yE,hrl,yg,zL,hzd,hst,hzl,hgl,yf]<;>rfl) rfl ?_;exact⟨zx KF,zA KG,ka m14,(by rw [za (by decide),za (by decide)])⟩
     · cases ho;have f1:=zJ KF 1 rfl;refine zf (.ptr H.n 1) rfl rfl (by simp (disch:=first|exact zb|fail) only [go_sem,seval,-List.reduceReplicate,f1,zF,zz,hki,hkl,yE,hrl,yg,zL,hzd,hst,hzl,hgl,yf]<;>rfl) rfl ?_;exact⟨zx KF,zA KG,ka m14,(by rw [za (by decide),za (by decide)])⟩
     · cases ho;have d6:=zn KG 6 rfl (kL hall 0 rfl rfl);have n14:=ya m14 hL;refine zf (.p (i64 m.session)) rfl rfl (by simp (disch:=first|exact zb|fail) only [go_sem,seval,-List.reduceReplicate,reduceIte,Bool.false_eq_true,if_false,if_true,d6,n14,hL,zF,zz,hki,hkl,yE,hrl,yg,zL,hzd,hst,hzl,hgl,yf]<;>rfl) rfl ?_;exact⟨zx KF,zA KG,ka m14,(by rw [za (by decide),za (by decide)])⟩
     · cases ho;have d7:=zn KG 7 rfl (kL hall 0 rfl rfl);refine zf (.p (i64 (m.session % 65536))) rfl rfl (by simp (disch:=first|exact zb|fail) only [go_sem,seval,-List.reduceReplicate,d7,zF,zz,hki,hkl,yE,hrl,yg,zL,hzd,hst,hzl,hgl,yf]<;>rfl) rfl ?_;exact⟨zx KF,zA KG,ka m14,(by rw [za (by decide),za (by decide)])⟩
     · cases ho;have f0:=zJ KF 0 rfl;refine zf (.p (i64 n)) rfl rfl (by simp (disch:=first|exact zb|fail) only [go_sem,seval,-List.reduceReplicate,f0,zF,zz,hki,hkl,yE,hrl,yg,zL,hzd,hst,hzl,hgl,yf]<;>rfl) rfl ?_;exact⟨zx KF,zA KG,ka m14,(by rw [za (by decide),za (by decide)])⟩
     · cases ho;have f1:=zJ KF 1 rfl;refine zf (.ptr H.n 4) rfl rfl (by simp (disch:=first|exact zb|fail) only [go_sem,seval,-List.reduceReplicate,f1,zF,zz,hki,hkl,yE,hrl,yg,zL,hzd,hst,hzl,hgl,yf]<;>rfl) rfl ?_;exact⟨zx KF,zA KG,ka m14,(by rw [za (by decide),za (by decide)])⟩
     · cases ho;have d10:=zn KG 10 rfl (kL hall 0 rfl rfl);have n14:=ya m14 hL;refine zf (.p (dgv m.root)) rfl rfl (by simp (disch:=first|exact zb|fail) only [go_sem,seval,-List.reduceReplicate,reduceIte,Bool.false_eq_true,if_false,if_true,d10,n14,hL,zF,zz,hki,hkl,yE,hrl,yg,zL,hzd,hst,hzl,hgl,yf]<;>rfl) rfl ?_;exact⟨zx KF,zA KG,ka m14,(by rw [za (by decide),za (by decide)])⟩
     · cases ho;have d5:=zn KG 5 rfl (kL hall 0 rfl rfl);have d8:=zn KG 8 rfl (kL hall 1 rfl rfl);have d9:=zn KG 9 rfl (kL hall 2 rfl rfl);have d11:=zn KG 11 rfl (kL hall 3 rfl rfl);have n14:=ya m14 hL;refine zf (.p (mV (nth kl ki) (m.session % 65536) n [] m.root.val (.sl true 1 []) (.sl true 2 []))) rfl rfl (by simp (disch:=first|exact zb|fail) only [go_sem,seval,-List.reduceReplicate,reduceIte,Bool.false_eq_true,if_false,if_true,d5,d8,d9,d11,n14,hL,zF,zz,hki,hkl,yE,hrl,yg,zL,hzd,hst,hzl,hgl,yf]<;>rfl) rfl ?_;exact⟨zx KF,zA KG,ka m14,(by rw [za (by decide),za (by decide)])⟩
     · cases ho;have n14:=ya m14 hL;(try simp only [n14,hL,if_true,if_false,Bool.false_eq_true]);refine zZ (.ptr (H.n+3) 0) rfl rfl (by simp (disch:=first|exact zb|fail) only [go_sem,seval,-List.reduceReplicate,reduceIte,Bool.false_eq_true,if_false,if_true,n14,hL,zF,zz,hki,hkl,yE,hrl,yg,zL,hzd,hst,hzl,hgl,yf]<;>rfl) rfl ?_;exact⟨zx KF,zA KG,ka m14,(by (have e13:more L 13 13=true:=zr);(have e14:more L 13 14=L 14:=za (by decide));(try simp only [e13,e14,n14,hL]);first | done | rfl | (simp only [e13,e14,n14,hL,if_true,if_false,Bool.false_eq_true];first | done | rfl | (simp (disch:=first|exact zb|fail) only [go_sem,seval,-List.reduceReplicate,e13,e14,n14,hL,zF,zz,hki,hkl,yE,hrl,yg,zL,hzd,hst,hzl,hgl,yf]<;>rfl)))⟩
     · cases ho;have h13:=kL hall 0 rfl rfl;have d13:=zn KG 13 rfl h13;have h12:=kL hall 1 rfl rfl;have d12:=zn KG 12 rfl h12;have h0:=kL hall 2 rfl rfl;have h1:=kL hall 3 rfl rfl;have h2:=kL hall 4 rfl rfl;have h3:=kL hall 5 rfl rfl;have h4:=kL hall 6 rfl rfl;have h5:=kL hall 7 rfl rfl;have h6:=kL hall 8 rfl rfl;have h7:=kL hall 9 rfl rfl;have h8:=kL hall 10 rfl rfl;have h9:=kL hall 11 rfl rfl;have h10:=kL hall 12 rfl rfl;have h11:=kL hall 13 rfl rfl;refine yb rfl rfl (by simp (disch:=first|exact zb|fail) only [go_sem,seval,-List.reduceReplicate,reduceIte,Bool.false_eq_true,if_false,if_true,d12,d13,h13,hL,zF,zz,hki,hkl,yE,hrl,yg,zL,hzd,hst,hzl,hgl,yf]<;>rfl) rfl ?_;exact⟨KF,kIs KG,(fun _=>kt (zc h0 (zc h1 (zc h2 (zc h3 (zc h4 (zc h5 (zc h6 (zc h7 (zc h8 (zc h9 (zc h10 (zc h11 (zc h12 (zc h13 zv))))))))))))))),(by (have e13:more L 14 13=L 13:=za (by decide));(have e14:more L 14 14=true:=zr);(try simp only [e13,e14,h13,hL]);first | done | rfl | (simp only [e13,e14,h13,hL,if_true,if_false,Bool.false_eq_true];first | done | rfl | (simp (disch:=first|exact zb|fail) only [go_sem,seval,-List.reduceReplicate,e13,e14,h13,hL,zF,zz,hki,hkl,yE,hrl,yg,zL,hzd,hst,hzl,hgl,yf]<;>rfl)))⟩
     · simp at ho
   · intro L env' H' hall hI
     obtain⟨KF,KG,_,rfl⟩:=hI
     have l13:=hall 13 (by decide)
     have l14:=hall 14 (by decide)
     have f0:=zJ KF 0 rfl
     have f1:=zJ KF 1 rfl
     have f2:=zJ KF 2 rfl
     have f3:=zJ KF 3 rfl
     have g13:=zn KG 13 rfl (hall 13 (by decide))
     simp only [l13,l14,if_true]
     clear hall
     rw [←hk0]
     have hm2:mk2 m n=if n=0 then 1 else if n=1 then 2 else if n=3 then 3 else if n % 2=1 then 5 else mk0 m n:=rfl
     unfold zed at h
     generalize mk0 m n=k0 at *
     change ARun _ _ _ (mH H m kl (mG k0 (m.session % 65536) n [] m.root.val (.p (.sl true 1 [])) (.p (.sl true 2 [])))) R
     refine .q ?_;refine .text ?_;simp (disch:=first|exact zb|fail) only [go_sem,seval,-List.reduceReplicate,f0]
     refine .q ?_;refine .cutH [1,2,4,6] [] (mH H m kl (mG (if n % 2=1 then 5 else k0) (m.session % 65536) n [] m.root.val (.p (.sl true 1 [])) (.p (.sl true 2 [])))) (fun ihF => ?_) (fun env F => ?_)
     rotate_left 1
     simp (disch:=first|exact zb|fail) only [go_sem,seval,-List.reduceReplicate,f0,f1,f2,f3,g13] at F
     rotate_left 1
     · by_cases c:n % 2=1
       · have d:((n:Int) % 2 == 1)=true:=by simp;omega
         rw [if_pos c] at ihF
         refine .q ?_;refine .ifT (by simp (disch:=first|exact zb|fail) only [go_sem,seval,-List.reduceReplicate,d]) ?_
         refine .q ?_;refine .text ?_;simp (disch:=first|exact zb|fail) only [go_sem,seval,-List.reduceReplicate,f0,f1,f2,f3,g13]
         first | (refine ihF _ _ ?_ ?_) | (refine .z rfl ?_;refine ihF _ _ ?_ ?_) | (refine .z rfl ?_;refine .z rfl ?_;refine ihF _ _ ?_ ?_) | (refine .z rfl ?_;refine .z rfl ?_;refine .z rfl ?_;refine ihF _ _ ?_ ?_)
         · simp (disch:=first|exact zb|fail) only [go_sem,seval,-List.reduceReplicate,f0,f1,f2,f3,g13]<;>(repeat' (first | rfl | refine And.intro ?_ ?_))
         · first | rfl | (simp (disch:=first|exact zb|fail) only [go_sem,seval,-List.reduceReplicate,f0,f1,f2,f3,g13]<;>(try rfl))
       · have d:((n:Int) % 2 == 1)=false:=by simp;omega
         rw [if_neg c] at ihF
         refine .q ?_;refine .ifF (by simp (disch:=first|exact zb|fail) only [go_sem,seval,-List.reduceReplicate,d]) ?_
         refine .skip ?_
         first | (refine ihF _ _ ?_ ?_) | (refine .z rfl ?_;refine ihF _ _ ?_ ?_) | (refine .z rfl ?_;refine .z rfl ?_;refine ihF _ _ ?_ ?_) | (refine .z rfl ?_;refine .z rfl ?_;refine .z rfl ?_;refine ihF _ _ ?_ ?_)
         · simp (disch:=first|exact zb|fail) only [go_sem,seval,-List.reduceReplicate,f0,f1,f2,f3,g13]<;>(repeat' (first | rfl | refine And.intro ?_ ?_))
         · first | rfl | (simp (disch:=first|exact zb|fail) only [go_sem,seval,-List.reduceReplicate,f0,f1,f2,f3,g13]<;>(try rfl))
     · generalize (if n % 2=1 then (5:Int) else k0)=k1 at *
       refine .q ?_;refine .text ?_;simp (disch:=first|exact zb|fail) only [go_sem,seval,-List.reduceReplicate,F]
       (repeat refine .zs rfl ?_);refine .cutH [2,4,6] [] (mH H m kl (mG (mk2 m n) (m.session % 65536) n [] m.root.val (.p (.sl true 1 [])) (.p (.sl true 2 [])))) (fun ihP => ?_) (fun env P => ?_)
       rotate_left 1
       simp (disch:=first|exact zb|fail) only [go_sem,seval,-List.reduceReplicate,F,f0,f1,f2,f3,g13] at P
       rotate_left 1
       · rw [hm2] at ihP
         by_cases c0:n=0
         · have d:((n:Int) == 0)=true:=by simp;omega
           rw [if_pos c0] at ihP
           refine .q ?_;refine .text ?_;simp (disch:=first|exact zb|fail) only [go_sem,seval,-List.reduceReplicate,d]
           refine .q ?_;refine .ifT (by simp (disch:=first|exact zb|fail) only [go_sem,seval,-List.reduceReplicate,d]) ?_
           refine .q ?_;refine .text ?_;simp (disch:=first|exact zb|fail) only [go_sem,seval,-List.reduceReplicate,F,f0,f1,f2,f3,g13]
           first | (refine ihP _ _ ?_ ?_) | (refine .z rfl ?_;refine ihP _ _ ?_ ?_) | (refine .z rfl ?_;refine .z rfl ?_;refine ihP _ _ ?_ ?_) | (refine .z rfl ?_;refine .z rfl ?_;refine .z rfl ?_;refine ihP _ _ ?_ ?_)
           · simp (disch:=first|exact zb|fail) only [go_sem,seval,-List.reduceReplicate,F,f0,f1,f2,f3,g13]<;>(repeat' (first | rfl | refine And.intro ?_ ?_))
           · first | rfl | (simp (disch:=first|exact zb|fail) only [go_sem,seval,-List.reduceReplicate,F,f0,f1,f2,f3,g13]<;>(try rfl))
         · have d:((n:Int) == 0)=false:=by simp;omega
           rw [if_neg c0] at ihP
           refine .q ?_;refine .text ?_;simp (disch:=first|exact zb|fail) only [go_sem,seval,-List.reduceReplicate,d]
           refine .q ?_;refine .ifF (by simp (disch:=first|exact zb|fail) only [go_sem,seval,-List.reduceReplicate,d]) ?_
           by_cases c1:n=1
           · have d:((n:Int) == 1)=true:=by simp;omega
             rw [if_pos c1] at ihP
             refine .q ?_;refine .text ?_;simp (disch:=first|exact zb|fail) only [go_sem,seval,-List.reduceReplicate,d]
             refine .q ?_;refine .ifT (by simp (disch:=first|exact zb|fail) only [go_sem,seval,-List.reduceReplicate,d]) ?_
             refine .q ?_;refine .text ?_;simp (disch:=first|exact zb|fail) only [go_sem,seval,-List.reduceReplicate,F,f0,f1,f2,f3,g13]
             first | (refine ihP _ _ ?_ ?_) | (refine .z rfl ?_;refine ihP _ _ ?_ ?_) | (refine .z rfl ?_;refine .z rfl ?_;refine ihP _ _ ?_ ?_) | (refine .z rfl ?_;refine .z rfl ?_;refine .z rfl ?_;refine ihP _ _ ?_ ?_)
             · simp (disch:=first|exact zb|fail) only [go_sem,seval,-List.reduceReplicate,F,f0,f1,f2,f3,g13]<;>(repeat' (first | rfl | refine And.intro ?_ ?_))
             · first | rfl | (simp (disch:=first|exact zb|fail) only [go_sem,seval,-List.reduceReplicate,F,f0,f1,f2,f3,g13]<;>(try rfl))
           · have d:((n:Int) == 1)=false:=by simp;omega
             rw [if_neg c1] at ihP
             refine .q ?_;refine .text ?_;simp (disch:=first|exact zb|fail) only [go_sem,seval,-List.reduceReplicate,d]
             refine .q ?_;refine .ifF (by simp (disch:=first|exact zb|fail) only [go_sem,seval,-List.reduceReplicate,d]) ?_
             by_cases c3:n=3
             · have d:((n:Int) == 3)=true:=by simp;omega
               rw [if_pos c3] at ihP
               refine .q ?_;refine .text ?_;simp (disch:=first|exact zb|fail) only [go_sem,seval,-List.reduceReplicate,d]
               refine .q ?_;refine .ifT (by simp (disch:=first|exact zb|fail) only [go_sem,seval,-List.reduceReplicate,d]) ?_
               refine .q ?_;refine .text ?_;simp (disch:=first|exact zb|fail) only [go_sem,seval,-List.reduceReplicate,F,f0,f1,f2,f3,g13]
               first | (refine ihP _ _ ?_ ?_) | (refine .z rfl ?_;refine ihP _ _ ?_ ?_) | (refine .z rfl ?_;refine .z rfl ?_;refine ihP _ _ ?_ ?_) | (refine .z rfl ?_;refine .z rfl ?_;refine .z rfl ?_;refine ihP _ _ ?_ ?_)
               · simp (disch:=first|exact zb|fail) only [go_sem,seval,-List.reduceReplicate,F,f0,f1,f2,f3,g13]<;>(repeat' (first | rfl | refine And.intro ?_ ?_))
               · first | rfl | (simp (disch:=first|exact zb|fail) only [go_sem,seval,-List.reduceReplicate,F,f0,f1,f2,f3,g13]<;>(try rfl))
             · have d:((n:Int) == 3)=false:=by simp;omega
               rw [if_neg c3] at ihP
               refine .q ?_;refine .text ?_;simp (disch:=first|exact zb|fail) only [go_sem,seval,-List.reduceReplicate,d]
               refine .q ?_;refine .ifF (by simp (disch:=first|exact zb|fail) only [go_sem,seval,-List.reduceReplicate,d]) ?_
               refine .skip ?_
               first | (refine ihP _ _ ?_ ?_) | (refine .z rfl ?_;refine ihP _ _ ?_ ?_) | (refine .z rfl ?_;refine .z rfl ?_;refine ihP _ _ ?_ ?_) | (refine .z rfl ?_;refine .z rfl ?_;refine .z rfl ?_;refine ihP _ _ ?_ ?_)
               · simp (disch:=first|exact zb|fail) only [go_sem,seval,-List.reduceReplicate,F,f0,f1,f2,f3,g13]<;>(repeat' (first | rfl | refine And.intro ?_ ?_))
               · first | rfl | (simp (disch:=first|exact zb|fail) only [go_sem,seval,-List.reduceReplicate,F,f0,f1,f2,f3,g13]<;>(try rfl))
       · generalize mk2 m n=k2 at *
         have hbel : ∀ mc,Bel H.n (mH H m kl mc):=fun mc=>zOV hbel
         refine .q ?_;refine .text ?_;simp (disch:=first|exact zb|fail) only [go_sem,seval,-List.reduceReplicate,P,F,f0,f1,f2,f3,g13,zJp]
         by_cases e1:k2=1
         · subst e1
           simp only [if_true,reduceIte,Int.reduceEq] at h
           refine .q ?_;refine .text ?_;simp (disch:=first|exact zb|fail) only [go_sem,seval,-List.reduceReplicate]
           refine .q ?_;refine .ifT (by simp (disch:=first|exact zb|fail) only [go_sem,seval,-List.reduceReplicate]) ?_
           have hmin:min (m.text.length:Int) 50=((min m.text.length 50:Nat):Int):=by omega
           have hle:min m.text.length 50≤m.text.length:=Nat.min_le_left _ _
           have htk:m.text.take (min m.text.length 50)=m.text.take 50:=by rw [Nat.min_comm,←List.take_take,List.take_length]
           generalize min m.text.length 50=mn at *
           have hsz:(bytesOf m.text).size=m.text.length:=zaR
           have hq:(⟨#[113]⟩:ByteArray)=bytesOf [113#8]:=rfl
           have hadd:=zJo (P:=Tryd.prog) (t:=9) (a:=[113#8]) (b:=m.text.take 50) (by simp;omega)
           refine .q ?_;refine .text ?_;simp (disch:=first|exact zb|fail) only [go_sem,seval,-List.reduceReplicate,P,F,f0,f1,f2,f3,g13,hmin,hsz,bytesOf_take,htk,hq,hadd]
           have hml:=zb3 (k:=1) (s:=m.session % 65536) (t:=n) (tx:=(113#8 :: m.text.take 50)) (r:=m.root.val) (S := .p (.sl true 1 [])) (V := .p (.sl true 2 [])) hrl
           have hsw:=zH (cs:=mZ) (xs:=mG 1 (m.session % 65536) n (113#8 :: m.text.take 50) m.root.val (.p (.sl true 1 [])) (.p (.sl true 2 []))) (by rw [hzl,hml])
           have hw:=zdZ (k:=1) (s:=m.session % 65536) (t:=n) (tx:=(113#8 :: m.text.take 50)) (r:=m.root.val) (x := .sl true 1 []) (y := .sl true 2 []) hrl (su:=[]) (va:=[]) rfl rfl
           refine .q ?_;refine .text ?_;simp (disch:=first|exact zb|fail) only [go_sem,seval,-List.reduceReplicate,P,F,f0,f1,f2,f3,g13,yg,zL,hml,hzl,hsw]
           refine .q ?_;refine .rt Tryd.func8 (by rw [Tryd.results8]) (hx:=by simp (disch:=first|exact zb|fail) only [go_sem,seval,-List.reduceReplicate,P,F,f0,f1,f2,f3,g13,yg,zL,hml,hzl,hw];rfl) (hR := ?_);simp (disch:=first|exact zb|fail) only [go_sem,seval,-List.reduceReplicate,P,F,f0,f1,f2,f3,g13,yg,zL,hml,hzl,hw]
           exact h
         · have d1:(k2 == 1)=false:=by simpa using e1
           rw [if_neg e1] at h
           refine .q ?_;refine .text ?_;simp (disch:=first|exact zb|fail) only [go_sem,seval,-List.reduceReplicate,d1]
           refine .q ?_;refine .ifF (by simp (disch:=first|exact zb|fail) only [go_sem,seval,-List.reduceReplicate,d1]) ?_
           by_cases e3:k2=3
           · subst e3
             simp only [if_true,reduceIte,Int.reduceEq] at h
             refine .q ?_;refine .text ?_;simp (disch:=first|exact zb|fail) only [go_sem,seval,-List.reduceReplicate]
             refine .q ?_;refine .ifT (by simp (disch:=first|exact zb|fail) only [go_sem,seval,-List.reduceReplicate]) ?_
             have hmin:min (m.sums.length:Int) 10=((min m.sums.length 10:Nat):Int):=by omega
             have hle:min m.sums.length 10≤m.sums.length:=Nat.min_le_left _ _
             have htk:m.sums.take (min m.sums.length 10)=m.sums.take 10:=by rw [Nat.min_comm,←List.take_take,List.take_length]
             generalize min m.sums.length 10=mn at *
             refine .q ?_;refine .text ?_;simp (disch:=first|exact zb|fail) only [go_sem,seval,-List.reduceReplicate,P,F,f0,f1,f2,f3,g13,hmin,htk,hrl]
             have hml:=zb3 (k:=3) (s:=m.session % 65536) (t:=n) (tx:=[]) (r:=m.root.val) (S := .p (.sl false 1 (pl i64 (m.sums.take 10)))) (V := .p (.sl true 2 [])) hrl
             have hsw:=zH (cs:=mZ) (xs:=mG 3 (m.session % 65536) n [] m.root.val (.p (.sl false 1 (pl i64 (m.sums.take 10)))) (.p (.sl true 2 []))) (by rw [hzl,hml])
             have hw:=zdZ (k:=3) (s:=m.session % 65536) (t:=n) (tx:=[]) (r:=m.root.val) (x := .sl false 1 (pl i64 (m.sums.take 10))) (y := .sl true 2 []) hrl (su:=m.sums.take 10) (va:=[]) rfl rfl
             refine .q ?_;refine .text ?_;simp (disch:=first|exact zb|fail) only [go_sem,seval,-List.reduceReplicate,P,F,f0,f1,f2,f3,g13,yg,zL,hml,hzl,hsw]
             refine .q ?_;refine .rt Tryd.func8 (by rw [Tryd.results8]) (hx:=by simp (disch:=first|exact zb|fail) only [go_sem,seval,-List.reduceReplicate,P,F,f0,f1,f2,f3,g13,yg,zL,hml,hzl,hw];rfl) (hR := ?_);simp (disch:=first|exact zb|fail) only [go_sem,seval,-List.reduceReplicate,P,F,f0,f1,f2,f3,g13,yg,zL,hml,hzl,hw]
             exact h
           · have d3:(k2 == 3)=false:=by simpa using e3
             rw [if_neg e3] at h
             refine .q ?_;refine .text ?_;simp (disch:=first|exact zb|fail) only [go_sem,seval,-List.reduceReplicate,d3]
             refine .q ?_;refine .ifF (by simp (disch:=first|exact zb|fail) only [go_sem,seval,-List.reduceReplicate,d3]) ?_
             by_cases e4:k2=4
             · subst e4
               simp only [if_true,reduceIte,Int.reduceEq] at h
               refine .q ?_;refine .text ?_;simp (disch:=first|exact zb|fail) only [go_sem,seval,-List.reduceReplicate]
               refine .q ?_;refine .ifT (by simp (disch:=first|exact zb|fail) only [go_sem,seval,-List.reduceReplicate]) ?_
               refine .q ?_;refine .text ?_;simp (disch:=first|exact zb|fail) only [go_sem,seval,-List.reduceReplicate,P,F,f0,f1,f2,f3,g13]
               refine CallK.of (fun R h=>zdY m.values hva 1 (by omega) _ R h) ?_;simp (disch:=first|exact zb|fail) only [go_sem,seval,-List.reduceReplicate,hrl,P,F,f0,f1,f2,f3,g13]
               have hml:=zb3 (k:=4) (s:=m.session % 65536) (t:=n) (tx:=[]) (r:=m.root.val) (S := .p (.sl true 1 [])) (V := .p (.sl false 2 (pl ext (zap m.values 1)))) hrl
               have hsw:=zH (cs:=mZ) (xs:=mG 4 (m.session % 65536) n [] m.root.val (.p (.sl true 1 [])) (.p (.sl false 2 (pl ext (zap m.values 1))))) (by rw [hzl,hml])
               have hw:=zdZ (k:=4) (s:=m.session % 65536) (t:=n) (tx:=[]) (r:=m.root.val) (x := .sl true 1 []) (y := .sl false 2 (pl ext (zap m.values 1))) hrl (su:=[]) (va:=zap m.values 1) rfl rfl
               refine .q ?_;refine .text ?_;simp (disch:=first|exact zb|fail) only [go_sem,seval,-List.reduceReplicate,P,F,f0,f1,f2,f3,g13,yg,zL,hml,hzl,hsw]
               refine .q ?_;refine .rt Tryd.func8 (by rw [Tryd.results8]) (hx:=by simp (disch:=first|exact zb|fail) only [go_sem,seval,-List.reduceReplicate,P,F,f0,f1,f2,f3,g13,yg,zL,hml,hzl,hw];rfl) (hR := ?_);simp (disch:=first|exact zb|fail) only [go_sem,seval,-List.reduceReplicate,P,F,f0,f1,f2,f3,g13,yg,zL,hml,hzl,hw]
               exact h
             · have d4:(k2 == 4)=false:=by simpa using e4
               rw [if_neg e4] at h
               refine .q ?_;refine .text ?_;simp (disch:=first|exact zb|fail) only [go_sem,seval,-List.reduceReplicate,d4]
               refine .q ?_;refine .ifF (by simp (disch:=first|exact zb|fail) only [go_sem,seval,-List.reduceReplicate,d4]) ?_
               by_cases e5:k2=5
               · subst e5
                 simp only [if_true,reduceIte,Int.reduceEq] at h
                 refine .q ?_;refine .text ?_;simp (disch:=first|exact zb|fail) only [go_sem,seval,-List.reduceReplicate]
                 refine .q ?_;refine .ifT (by simp (disch:=first|exact zb|fail) only [go_sem,seval,-List.reduceReplicate]) ?_
                 have hmin:min (m.values.length:Int) 6=((min m.values.length 6:Nat):Int):=by omega
                 have hle:min m.values.length 6≤6:=Nat.min_le_right _ _
                 generalize min m.values.length 6=mn at *
                 refine .q ?_;refine .text ?_;simp (disch:=first|exact zb|fail) only [go_sem,seval,-List.reduceReplicate,P,F,f0,f1,f2,f3,g13,hmin]
                 refine CallK.of (fun R h=>zdY m.values hva mn (by omega) _ R h) ?_;simp (disch:=first|exact zb|fail) only [go_sem,seval,-List.reduceReplicate,hrl,P,F,f0,f1,f2,f3,g13]
                 have hml:=zb3 (k:=5) (s:=m.session % 65536) (t:=n) (tx:=[]) (r:=m.root.val) (S := .p (.sl true 1 [])) (V := .p (.sl false 2 (pl ext (zap m.values mn)))) hrl
                 have hsw:=zH (cs:=mZ) (xs:=mG 5 (m.session % 65536) n [] m.root.val (.p (.sl true 1 [])) (.p (.sl false 2 (pl ext (zap m.values mn))))) (by rw [hzl,hml])
                 have hw:=zdZ (k:=5) (s:=m.session % 65536) (t:=n) (tx:=[]) (r:=m.root.val) (x := .sl true 1 []) (y := .sl false 2 (pl ext (zap m.values mn))) hrl (su:=[]) (va:=zap m.values mn) rfl rfl
                 refine .q ?_;refine .text ?_;simp (disch:=first|exact zb|fail) only [go_sem,seval,-List.reduceReplicate,P,F,f0,f1,f2,f3,g13,yg,zL,hml,hzl,hsw]
                 refine .q ?_;refine .rt Tryd.func8 (by rw [Tryd.results8]) (hx:=by simp (disch:=first|exact zb|fail) only [go_sem,seval,-List.reduceReplicate,P,F,f0,f1,f2,f3,g13,yg,zL,hml,hzl,hw];rfl) (hR := ?_);simp (disch:=first|exact zb|fail) only [go_sem,seval,-List.reduceReplicate,P,F,f0,f1,f2,f3,g13,yg,zL,hml,hzl,hw]
                 exact h
               · have d5:(k2 == 5)=false:=by simpa using e5
                 rw [if_neg e5] at h
                 refine .q ?_;refine .text ?_;simp (disch:=first|exact zb|fail) only [go_sem,seval,-List.reduceReplicate,d5]
                 refine .q ?_;refine .ifF (by simp (disch:=first|exact zb|fail) only [go_sem,seval,-List.reduceReplicate,d5]) ?_
                 refine .skip ?_
                 have hml:=zb3 (k:=k2) (s:=m.session % 65536) (t:=n) (tx:=[]) (r:=m.root.val) (S := .p (.sl true 1 [])) (V := .p (.sl true 2 [])) hrl
                 have hsw:=zH (cs:=mZ) (xs:=mG k2 (m.session % 65536) n [] m.root.val (.p (.sl true 1 [])) (.p (.sl true 2 []))) (by rw [hzl,hml])
                 have hw:=zdZ (k:=k2) (s:=m.session % 65536) (t:=n) (tx:=[]) (r:=m.root.val) (x := .sl true 1 []) (y := .sl true 2 []) hrl (su:=[]) (va:=[]) rfl rfl
                 refine .q ?_;refine .text ?_;simp (disch:=first|exact zb|fail) only [go_sem,seval,-List.reduceReplicate,P,F,f0,f1,f2,f3,g13,yg,zL,hml,hzl,hsw]
                 refine .q ?_;refine .rt Tryd.func8 (by rw [Tryd.results8]) (hx:=by simp (disch:=first|exact zb|fail) only [go_sem,seval,-List.reduceReplicate,P,F,f0,f1,f2,f3,g13,yg,zL,hml,hzl,hw];rfl) (hR := ?_);simp (disch:=first|exact zb|fail) only [go_sem,seval,-List.reduceReplicate,P,F,f0,f1,f2,f3,g13,yg,zL,hml,hzl,hw]
                 exact h
end walks
theorem zt8 {m:Msg} {n:Nat} (hn:n≤255):(zed m n).Ok:=by
 have hs:okI (m.session % 65536):=⟨by omega,by omega⟩
 have hst:okI (n:Int):=⟨by omega,by omega⟩
 have hk:okI (mk2 m n):=by
  have:mk0 m n=4 ∨ mk0 m n=6 ∨ mk0 m n=7:=by
   unfold mk0
   have h4:(m.kind % 4).toNat < 4:=by omega
   generalize (m.kind % 4).toNat=k at *
   match k,h4 with
   | 0,_=>split<;>simp [nth]
   | 1,_=>split<;>simp [nth]
   | 2,_=>split<;>simp [nth]
   | 3,_=>split<;>simp [nth]
  unfold mk2
  repeat' split
  all_goals first | exact⟨by omega,by omega⟩ | (rcases this with e | e | e<;>rw [e]<;>exact⟨by omega,by omega⟩)
 unfold zed
 have c : ∀ k:Int,0≤k → k≤10 → okI k:=fun k h1 h2=>⟨by omega,by omega⟩
 repeat' split
 · exact⟨c 1 (by omega) (by omega),hs,hst,by simp;omega,by simp,by simp⟩
 · exact⟨c 3 (by omega) (by omega),hs,hst,by simp,by simp;omega,by simp⟩
 · exact⟨c 4 (by omega) (by omega),hs,hst,by simp,by simp,by show (zap _ _).length≤_;rw [zdb];omega⟩
 · exact⟨c 5 (by omega) (by omega),hs,hst,by simp,by simp,by show (zap _ _).length≤_;rw [zdb];omega⟩
 · exact⟨hk,hs,hst,by simp,by simp,by simp⟩
theorem zjf {m:Msg}:(enc m).length≤3000:=by
 cases hv:valid m with
 | true=>exact (zfd hv).2
 | false=>rw [enc,hv];simp
theorem zhS {b:By} (h:(dec b).2=0):valid (dec b).1=true:=by
 unfold dec zi7 at h ⊢
 split at h
 · simp at h
 · rename_i h1
   split at h
   · rename_i h2
     rw [if_neg h1,if_pos h2]
     obtain⟨x1,x2,x3,x4,l,tx,n1,sm,n2,vm,ck,r,hs⟩:=zqI (b:=b) (by simpa using h1)
     cases hv:valid (decM b).1 with
     | true=>rfl
     | false =>
      rw [enc,hv] at h2
      have:=congrArg List.length hs.e
      rw [←h2] at this
      simp only [List.length_append,hs.l1] at this
      simp at this
      omega
   · simp at h
end Go.Proofs.YtmoecjgehdkhkaaDoor

/-
  Sessions: acts,and the packet that an act delivers.
-/
namespace Go.Proofs.YtmoecjgehdkhkaaDoor
open Go Go.AL

structure Act where
 what:BitVec 8
 who:BitVec 8
 m:Msg
 pos:BitVec 8
 by_:BitVec 8
def zgI (x:Act):List PV:=[b8 x.what,b8 x.who]++(zea x.m++[b8 x.pos,b8 x.by_])
def act (x:Act):PV := .agg (zgI x)
def acl (x:Act):List AV:=(zgI x).map .p
instance:Inhabited Act:=⟨⟨0#8,0#8,zM,0#8,0#8⟩⟩
section act
variable {x:Act} {l:List Act}
theorem zgJ:(zgI x).length=42:=by simp [zgI,zgr]
theorem zjg:(acl x).length=42:=by rw [acl,List.length_map,zgJ]
theorem zpv:zo (.p (act x))=some (acl x):=rfl
theorem zt9:zG (acl x) = .p (act x):=by unfold zG acl;rw [zdP];rfl
theorem zA2:(acl x).take 42=acl x:=List.take_of_length_le (by rw [zjg];exact Nat.le_refl _)
theorem zee:acl x = .p (b8 x.what) :: .p (b8 x.who) :: (mcl x.m++[.p (b8 x.pos),.p (b8 x.by_)]):=by simp [acl,zgI,mcl]
theorem zRG:(acl x)[0]? = some (.p (b8 x.what)):=by rw [zee];rfl
theorem zRH:(acl x)[1]? = some (.p (b8 x.who)):=by rw [zee];rfl
theorem zQB:(acl x)[40]? = some (.p (b8 x.pos)):=by rw [zee];simp only [List.getElem?_cons_succ];rw [zbu zV (by omega)];rfl
theorem zQC:(acl x)[41]? = some (.p (b8 x.by_)):=by rw [zee];simp only [List.getElem?_cons_succ];rw [zbu zV (by omega)];rfl
theorem zA3:(acl x)[4]? = some (.p (i64 x.m.step)):=by rw [zee];simp only [List.getElem?_cons_succ];rw [List.getElem?_append_left (by rw [zV];omega)];exact zOy
theorem zQD:((acl x).drop 2).take 38=mcl x.m:=by
 rw [zee];simp only [List.drop_succ_cons,List.drop_zero]
 rw [List.take_append_of_le_length (by rw [zV];omega),zgs]
theorem zpw : ∀ y∈zgI x,y.weak1=y:=fun y hy=>by
 simp only [zgI,List.mem_append,List.mem_cons,List.not_mem_nil,or_false] at hy
 rcases hy with (rfl | rfl) | hy | rfl | rfl
 all_goals first | rfl | exact zdu _ hy
theorem zA4:(act x).weak=act x:=by show PV.agg ((zgI x).map PV.weak1)=_;rw [zbf zpw];rfl
theorem zhT:(act x).cells=zgI x:=rfl
theorem zua:(act x).isAgg=true:=rfl
theorem zpx:(AV.p (act x)).isAggV=true:=rfl
theorem zub:(act x).aggOf 0 42=act x:=by
 rw [PV.aggOf_eq,zhT,List.drop_zero,List.take_of_length_le (by rw [zgJ];exact Nat.le_refl _)];rfl
end act
attribute [go_sem] zpv zt9 zjg zA2 zRG zRH zQB zQC zA3 zQD zA4 zhT zua zpx zub
def mx (x:BitVec 8):BitVec 8:=if x=0#8 then 1#8 else x
theorem zOX (x:BitVec 8):zbq true (.p (b8 x)) (.p (b8 1#8))=some (.p (b8 (mx x))):=by
 have hx:=x.isLt
 have e:(1#8:BitVec 8).toNat=1:=rfl
 unfold mx
 split
 · rename_i h;subst h;rfl
 · rename_i h
   have h0:x.toNat≠0:=fun q=>h (BitVec.eq_of_toNat_eq q)
   show some (AV.p (.s (.int .u8 (max (x.toNat:Int) ((1#8:BitVec 8).toNat:Int)))))=some (AV.p (.s (.int .u8 (x.toNat:Int))))
   rw [e,show max (x.toNat:Int) ((1:Nat):Int)=x.toNat by omega]
def pk1 (x:Act) (b:By):By:=if x.what % 6#8=5#8∧b≠[] then b.set (x.by_.toNat % b.length) (nth b (x.by_.toNat % b.length) ^^^ mx x.by_) else b
def pk2 (x:Act) (b:By):By:=if x.what % 12#8=11#8 then b.take (x.by_.toNat % (b.length+1)) else b
def pkt (P:List By) (x:Act):By :=
 if P=[] then [] else if x.what % 6#8=5#8∧(dec (pk2 x (pk1 x (nth P (x.pos.toNat % P.length))))).2=0 then [] else pk2 x (pk1 x (nth P (x.pos.toNat % P.length)))
theorem zqL {x:Act} {b:By}:(pk1 x b).length=b.length:=by unfold pk1;split<;>simp
theorem zA6 {x:Act} {b:By}:(pk2 x b).length≤b.length:=by
 unfold pk2;split
 · rw [List.length_take];omega
 · exact Nat.le_refl _
theorem zOY {P:List By} {x:Act} {n:Nat} (h : ∀ b∈P,b.length≤n):(pkt P x).length≤n:=by
 unfold pkt
 split
 · simp
 · rename_i hP
   have hl:0 < P.length:=by
    have:P.length≠0:=fun q=>hP (List.eq_nil_of_length_eq_zero q)
    omega
   have hm:=Nat.mod_lt x.pos.toNat hl
   have h1:=h (nth P (x.pos.toNat % P.length)) (by rw [show nth P (x.pos.toNat % P.length)=P[x.pos.toNat % P.length] by simp [nth,hm]];exact List.getElem_mem hm)
   split
   · simp
   · have:=zA6 (x:=x) (b:=pk1 x (nth P (x.pos.toNat % P.length)))
     rw [zqL] at this
     omega
theorem zJu {l:By} : ∀ x∈pl b8 l,x.cells.length=1:=fun x hx=>by
 simp only [pl,List.mem_map] at hx
 obtain⟨y,_,rfl⟩:=hx
 rfl
section walks
variable {G:Globs}
set_option maxHeartbeats 8000000 in
set_option maxRecDepth 20000 in
theorem zl9 (P:List By) (hP:P.length≤100000) (hb : ∀ b∈P,b.length≤100000) (x:Act) (H:Hp) (R:AV → Hp → Prop) (h:R (.p (.sl false 1 (pl b8 (pkt P x)))) H) :
 ACall Tryd.prog G 22 [.p (.sl false 1 (pl (sle 1 b8) P)),.p (act x)] H R:=by
 have hby:=x.by_.isLt
 have hpo:=x.pos.isLt
 have w1:=wrap_small (n:=x.by_.toNat) (by omega)
 have w2:=wrap_small (n:=x.pos.toNat) (by omega)
 have h6:(6#8:BitVec 8)≠0#8:=by decide
 have h12:(12#8:BitVec 8)≠0#8:=by decide
 unfold pkt at h
 refine ACall.of_run (raw:=[]) Tryd.func22 rfl Tryd.ntmps22 (by simp) fun hbel => ?_
 refine .q ?_;refine .text ?_;simp (disch:=first|exact zb|fail) only [go_sem,seval]
 refine .q ?_;refine .text ?_;simp (disch:=first|exact zb|fail) only [go_sem,seval]
 by_cases hn:P=[]
 · have d:((P.length:Int) == 0)=true:=by rw [hn];rfl
   rw [if_pos hn] at h
   refine .q ?_;refine .ifT (by simp (disch:=first|exact zb|fail) only [go_sem,seval,d]) ?_
   refine .q ?_;refine .text ?_;simp (disch:=first|exact zb|fail) only [go_sem,seval]
   refine .q ?_;refine .rt Tryd.func22 (by rw [Tryd.results22]) (hR := ?_);simp (disch:=first|exact zb|fail) only [go_sem,seval]
   exact h
 · have hl:0 < P.length:=by
    have:P.length≠0:=fun q=>hn (List.eq_nil_of_length_eq_zero q)
    omega
   have d:((P.length:Int) == 0)=false:=by simp;omega
   rw [if_neg hn] at h
   refine .q ?_;refine .ifF (by simp (disch:=first|exact zb|fail) only [go_sem,seval,d]) ?_
   have hm:=Nat.mod_lt x.pos.toNat hl
   have h1:=hb (nth P (x.pos.toNat % P.length)) (by rw [show nth P (x.pos.toNat % P.length)=P[x.pos.toNat % P.length] by simp [nth,hm]];exact List.getElem_mem hm)
   obtain⟨k,hk,hk2⟩ : ∃ k:Nat,x.pos.toNat % P.length=k∧((x.pos.toNat:Int) % (P.length:Int))=(k:Int):=⟨_,rfl,by rw [Int.natCast_emod]⟩
   rw [hk] at h1 hm h
   refine .q ?_;refine .region ?_
   refine .one rfl (by simp (disch:=first|exact zb|fail) only [go_sem,seval]<;>rfl) rfl ?_
   refine .vec 12 (by simp (disch:=first|exact zb|fail) only [go_sem,seval]<;>rfl) ?_
   refine .run ?_
   simp (disch:=first|exact zb|fail) only [go_sem,seval,w2,hk2]
   generalize hb0:nth P k=b0 at *
   refine .q ?_;refine .cutE [3,5] [(31,.p (bo ((x.what % 6#8 == 5#8) && decide ((0:Int) < (b0.length:Int)))))] [] (fun ihQ => ?_) (fun env Q => ?_)
   rotate_left 1
   simp (disch:=first|exact zb|fail) only [go_sem,seval] at Q
   rotate_left 1
   · refine .q ?_;refine .text ?_;simp (disch:=first|exact zb|fail) only [go_sem,seval]
     cases c1:x.what % 6#8 == 5#8 with
     | false =>
      rw [c1,Bool.false_and] at ihQ
      simp (disch:=first|exact zb|fail) only [go_sem,seval,c1]
      first | (refine ihQ _ _ ?_ ?_) | (refine .z rfl ?_;refine ihQ _ _ ?_ ?_) | (refine .z rfl ?_;refine .z rfl ?_;refine ihQ _ _ ?_ ?_) | (refine .z rfl ?_;refine .z rfl ?_;refine .z rfl ?_;refine ihQ _ _ ?_ ?_)
      · simp (disch:=first|exact zb|fail) only [go_sem,seval]<;>(repeat' (first | rfl | refine And.intro ?_ ?_))
      · first | rfl | (simp (disch:=first|exact zb|fail) only [go_sem,seval]<;>(try rfl))
     | true =>
      rw [c1,Bool.true_and] at ihQ
      simp (disch:=first|exact zb|fail) only [go_sem,seval,c1]
      first | (refine ihQ _ _ ?_ ?_) | (refine .z rfl ?_;refine ihQ _ _ ?_ ?_) | (refine .z rfl ?_;refine .z rfl ?_;refine ihQ _ _ ?_ ?_) | (refine .z rfl ?_;refine .z rfl ?_;refine .z rfl ?_;refine ihQ _ _ ?_ ?_)
      · simp (disch:=first|exact zb|fail) only [go_sem,seval]<;>(repeat' (first | rfl | refine And.intro ?_ ?_))
      · first | rfl | (simp (disch:=first|exact zb|fail) only [go_sem,seval]<;>(try rfl))
   refine .q ?_;refine .cutH [3,5] [] ((H.new (.cells (acl x))).new (.vec (cl b8 (pk1 x b0)))) (fun ihE => ?_) (fun env E => ?_)
   rotate_left 1
   simp (disch:=first|exact zb|fail) only [go_sem,seval,Q,yh] at E
   rotate_left 1
   · cases c1:(x.what % 6#8 == 5#8) && decide ((0:Int) < (b0.length:Int)) with
     | false =>
      have hp:pk1 x b0=b0:=by
       unfold pk1;rw [if_neg];rintro ⟨q1,q2⟩
       have:b0.length≠0:=fun q=>q2 (List.eq_nil_of_length_eq_zero q)
       have h2:decide ((0:Int) < (b0.length:Int))=true:=decide_eq_true (by omega)
       rw [q1,h2] at c1;cases c1
      rw [hp] at ihE
      refine .q ?_;refine .ifF (by simp (disch:=first|exact zb|fail) only [go_sem,seval,Q,c1]) ?_
      refine .skip ?_
      first | (refine ihE _ _ ?_ ?_) | (refine .z rfl ?_;refine ihE _ _ ?_ ?_) | (refine .z rfl ?_;refine .z rfl ?_;refine ihE _ _ ?_ ?_) | (refine .z rfl ?_;refine .z rfl ?_;refine .z rfl ?_;refine ihE _ _ ?_ ?_)
      · simp (disch:=first|exact zb|fail) only [go_sem,seval,Q,yh]<;>(repeat' (first | rfl | refine And.intro ?_ ?_))
      · first | rfl | (simp (disch:=first|exact zb|fail) only [go_sem,seval,Q,yh]<;>(try rfl))
     | true =>
      simp only [Bool.and_eq_true,beq_iff_eq,decide_eq_true_eq] at c1
      have hbl:0 < b0.length:=by omega
      have hp:pk1 x b0=b0.set (x.by_.toNat % b0.length) (nth b0 (x.by_.toNat % b0.length) ^^^ mx x.by_):=by
       unfold pk1;rw [if_pos ⟨c1.1,fun q=>by rw [q] at hbl;cases hbl⟩]
      rw [hp] at ihE
      have hj:=Nat.mod_lt x.by_.toNat hbl
      obtain⟨j,hj1,hj2⟩ : ∃ j:Nat,x.by_.toNat % b0.length=j∧((x.by_.toNat:Int) % (b0.length:Int))=(j:Int):=⟨_,rfl,by rw [Int.natCast_emod]⟩
      rw [hj1] at hj ihE
      have d1:(x.what % 6#8 == 5#8)=true:=by rw [c1.1];rfl
      have d2:decide ((0:Int) < (b0.length:Int))=true:=decide_eq_true c1.2
      refine .q ?_;refine .ifT (by simp (disch:=first|exact zb|fail) only [go_sem,seval,Q,d1,d2]) ?_
      refine .q ?_;refine .text ?_;simp (disch:=first|exact zb|fail) only [go_sem,seval,Q,yh,w1,hj2]
      refine .q ?_;refine .open [11] follows (by kernel_rfl) ?_;simp (disch:=first|exact zb|fail) only [go_sem,seval,Q,zOX]
      first | (refine ihE _ _ ?_ ?_) | (refine .z rfl ?_;refine ihE _ _ ?_ ?_) | (refine .z rfl ?_;refine .z rfl ?_;refine ihE _ _ ?_ ?_) | (refine .z rfl ?_;refine .z rfl ?_;refine .z rfl ?_;refine ihE _ _ ?_ ?_)
      · simp (disch:=first|exact zb|fail) only [go_sem,seval,Q,yh]<;>(repeat' (first | rfl | refine And.intro ?_ ?_))
      · first | rfl | (simp (disch:=first|exact zb|fail) only [go_sem,seval,Q,yh]<;>(try rfl))
   · have hl1:(pk1 x b0).length=b0.length:=zqL
     generalize pk1 x b0=b1 at *
     refine .q ?_;refine .frzV 5 (by simp (disch:=first|exact zb|fail) only [go_sem,seval,E];rfl) (by simp (disch:=first|exact zb|fail) only [go_sem,seval,E]<;>rfl) (xs:=pl b8 b1) (by rw [zpO,znI]) (by rw [zbZ,hl1]) zJu ?_;(try simp (disch:=first|exact zb|fail) only [go_sem,seval,E])
     refine .q ?_;refine .text ?_;simp (disch:=first|exact zb|fail) only [go_sem,seval,E]
     refine .q ?_;refine .cutH [3] [(5,.p (.sl false 1 (pl b8 (pk2 x b1))))] ((H.new (.cells (acl x))).new .dead) (fun ihF => ?_) (fun env F => ?_)
     rotate_left 1
     simp (disch:=first|exact zb|fail) only [go_sem,seval,E] at F
     rotate_left 1
     · cases c2:x.what % 12#8 == 11#8 with
       | false =>
        have hp:pk2 x b1=b1:=by unfold pk2;rw [if_neg];intro q;simp [q] at c2
        rw [hp] at ihF
        refine .q ?_;refine .ifF (by simp (disch:=first|exact zb|fail) only [go_sem,seval,c2]) ?_
        refine .skip ?_
        first | (refine ihF _ _ ?_ ?_) | (refine .z rfl ?_;refine ihF _ _ ?_ ?_) | (refine .z rfl ?_;refine .z rfl ?_;refine ihF _ _ ?_ ?_) | (refine .z rfl ?_;refine .z rfl ?_;refine .z rfl ?_;refine ihF _ _ ?_ ?_)
        · simp (disch:=first|exact zb|fail) only [go_sem,seval,E]<;>(repeat' (first | rfl | refine And.intro ?_ ?_))
        · first | rfl | (simp (disch:=first|exact zb|fail) only [go_sem,seval,E]<;>(try rfl))
       | true =>
        have hp:pk2 x b1=b1.take (x.by_.toNat % (b1.length+1)):=by unfold pk2;rw [if_pos (by simpa using c2)]
        rw [hp] at ihF
        have hj:=Nat.mod_lt x.by_.toNat (show 0 < b1.length+1 by omega)
        obtain⟨j,hj1,hj2⟩ : ∃ j:Nat,x.by_.toNat % (b1.length+1)=j∧((x.by_.toNat:Int) % ((b1.length:Int)+1))=(j:Int):=⟨_,rfl,by rw [show (b1.length:Int)+1=((b1.length+1:Nat):Int) by omega,Int.natCast_emod]⟩
        rw [hj1] at hj ihF
        refine .q ?_;refine .ifT (by simp (disch:=first|exact zb|fail) only [go_sem,seval,c2]) ?_
        refine .q ?_;refine .text ?_;simp (disch:=first|exact zb|fail) only [go_sem,seval,E,w1,hj2]
        first | (refine ihF _ _ ?_ ?_) | (refine .z rfl ?_;refine ihF _ _ ?_ ?_) | (refine .z rfl ?_;refine .z rfl ?_;refine ihF _ _ ?_ ?_) | (refine .z rfl ?_;refine .z rfl ?_;refine .z rfl ?_;refine ihF _ _ ?_ ?_)
        · simp (disch:=first|exact zb|fail) only [go_sem,seval,E]<;>(repeat' (first | rfl | refine And.intro ?_ ?_))
        · first | rfl | (simp (disch:=first|exact zb|fail) only [go_sem,seval,E]<;>(try rfl))
     · have hl2:(pk2 x b1).length≤b1.length:=zA6
       generalize pk2 x b1=b2 at *
       refine .q ?_;refine .text ?_;simp (disch:=first|exact zb|fail) only [go_sem,seval,F]
       refine CallK.of (fun R h=>zdh b2 (by omega) _ R h) ?_;simp (disch:=first|exact zb|fail) only [go_sem,seval,F]
       refine .q ?_;refine .text ?_;simp (disch:=first|exact zb|fail) only [go_sem,seval,F,E]
       cases c1:x.what % 6#8 == 5#8 with
       | false =>
        rw [if_neg (fun q=>by simp [q.1] at c1)] at h
        simp (disch:=first|exact zb|fail) only [go_sem,seval,c1,F,E]
        refine .q ?_;refine .ifF (by simp (disch:=first|exact zb|fail) only [go_sem,seval]) ?_
        refine .q ?_;refine .text ?_;simp (disch:=first|exact zb|fail) only [go_sem,seval,F]
        refine .q ?_;refine .rt Tryd.func22 (by rw [Tryd.results22]) (hx:=by simp (disch:=first|exact zb|fail) only [go_sem,seval,F];rfl) (hR := ?_);simp (disch:=first|exact zb|fail) only [go_sem,seval,F]
        exact h
       | true =>
        have c1':x.what % 6#8=5#8:=by simpa using c1
        simp (disch:=first|exact zb|fail) only [go_sem,seval,c1,F,E]
        by_cases c3:(dec b2).2=0
        · have d3:((dec b2).2 == 0)=true:=by simpa using c3
          rw [if_pos ⟨c1',c3⟩] at h
          refine .q ?_;refine .ifT (by simp (disch:=first|exact zb|fail) only [go_sem,seval,d3]) ?_
          refine .q ?_;refine .text ?_;simp (disch:=first|exact zb|fail) only [go_sem,seval,F]
          refine .q ?_;refine .rt Tryd.func22 (by rw [Tryd.results22]) (hx:=by simp (disch:=first|exact zb|fail) only [go_sem,seval,F];rfl) (hR := ?_);simp (disch:=first|exact zb|fail) only [go_sem,seval,F]
          exact h
        · have d3:((dec b2).2 == 0)=false:=by simpa using c3
          rw [if_neg (fun q=>c3 q.2)] at h
          refine .q ?_;refine .ifF (by simp (disch:=first|exact zb|fail) only [go_sem,seval,d3]) ?_
          refine .q ?_;refine .text ?_;simp (disch:=first|exact zb|fail) only [go_sem,seval,F]
          refine .q ?_;refine .rt Tryd.func22 (by rw [Tryd.results22]) (hx:=by simp (disch:=first|exact zb|fail) only [go_sem,seval,F];rfl) (hR := ?_);simp (disch:=first|exact zb|fail) only [go_sem,seval,F]
          exact h
end walks
end Go.Proofs.YtmoecjgehdkhkaaDoor

/-
  Sessions: what the fixed examples come to (plain).
-/
namespace Go.Proofs.YtmoecjgehdkhkaaDoor
open Go Go.AL

def kAsk:Msg:=⟨1,0,0,[99,111,117,110,116],zD,[],[]⟩
def kCoin:Msg:=⟨4,0,0,[],zD,[],[⟨1,0⟩]⟩
def zQE:Dg:=⟨1#8 :: List.replicate 31 0#8,rfl⟩
def kRoot:Msg:=⟨2,0,0,[],zQE,[],[]⟩
def sA:Ses:=zdc 7 100
def M0:Msg:=⟨1,7,0,[99,111,117,110,116],zD,[],[]⟩
def p0:By:=enc M0
def a1:Ses := { zcD sA M0 p0 with last:=M0 }
def b1:Ses:=zcD sA M0 p0
def M1:Msg:=⟨2,7,1,[],zQE,[],[]⟩
def p1:By:=enc M1
def b2:Ses := { zcD b1 M1 p1 with last:=M1 }
def a2:Ses:=zcD a1 M1 p1
def M2:Msg:=⟨4,7,2,[],a2.seen,[],[⟨1,0⟩]⟩
def p2:By:=enc M2
def a3:Ses := { zcD a2 M2 p2 with last:=M2 }
theorem v0:valid M0=true:=by decide +kernel
theorem v1:valid M1=true:=by decide +kernel
theorem v2:valid M2=true:=by rfl
theorem F1:send sA kCoin=(sA,[],290):=by
 unfold send;rw [show zdT sA kCoin=true by decide +kernel];rfl
theorem F2:send sA kAsk=(a1,p0,0):=by
 unfold send;rw [show zdT sA kAsk=false by decide +kernel,show zct sA kAsk=M0 from rfl,v0];rfl
theorem F3:send a1 kAsk=(a1,[],290):=by
 unfold send;rw [show zdT a1 kAsk=true by rfl];rfl
theorem F9:send b1 kRoot=(b2,p1,0):=by
 unfold send;rw [show zdT b1 kRoot=false by rfl,show zct b1 kRoot=M1 from rfl,v1];rfl
theorem F11:send a2 kCoin=(a3,p2,0):=by
 unfold send;rw [show zdT a2 kCoin=false by rfl,show zct a2 kCoin=M2 from rfl,v2];rfl
theorem F12:send a3 kCoin=(a3,[],290):=by
 unfold send;rw [show zdT a3 kCoin=true by rfl];rfl
theorem D0:dec p0=(M0,0):=zqF v0 (by simp [M0])
theorem D1:dec p1=(M1,0):=zqF v1 (by simp [M1])
theorem F4:recv sA p0 101=({ sA with state:=5 },zM,291):=by
 unfold recv;rw [if_neg (by decide),if_pos (by decide)]
theorem F5:recv sA (p0.take (p0.length - 1)) 1=(sA,zM,6):=by
 unfold recv zc0;rw [if_neg (by decide),if_neg (by decide),show dec (p0.take (p0.length - 1))=(zM,6) from zI8 v0 (by simp [M0])];rfl
theorem F6:recv (zdc 8 100) p0 1=(zdc 8 100,zM,1):=by
 unfold recv zc0;rw [if_neg (by decide),if_neg (by decide),D0];rfl
theorem F7:recv sA p0 100=(b1,M0,0):=by
 unfold recv zc0;rw [if_neg (by decide),if_neg (by decide),D0,show rC sA (M0,(0:Int)).1 (M0,(0:Int)).2=0 by decide +kernel];rfl
theorem F8:recv b1 p0 1=(b1,zM,120):=by
 unfold recv zc0;rw [if_neg (show ¬(3≤b1.state) by show ¬((3:Int)≤1);omega),if_neg (show ¬(b1.due < 1) by show ¬((100:Int) < 1);omega),D0,show rC b1 (M0,(0:Int)).1 (M0,(0:Int)).2=120 by rfl];rfl
theorem F10:recv a1 p1 1=(a2,M1,0):=by
 unfold recv zc0;rw [if_neg (show ¬(3≤a1.state) by show ¬((3:Int)≤1);omega),if_neg (show ¬(a1.due < 1) by show ¬((100:Int) < 1);omega),D1,show rC a1 (M1,(0:Int)).1 (M1,(0:Int)).2=0 by rfl];rfl
theorem F13:recv { sA with state:=5 } p0 1=({ sA with state:=5 },zM,290):=by
 unfold recv;rw [if_pos (by decide)]
theorem F14:dec []=(zM,6):=by decide +kernel
theorem F15:enc zM=[]:=by unfold enc;rw [show valid zM=false by decide +kernel];rfl
theorem n0:p0.length=58:=by unfold p0;rw [zdU v0];rfl
theorem n1:p1.length≤3000:=(zfd v1).2
theorem n2:p2.length=69:=by unfold p2;rw [zdU v2];rfl
theorem mo {m:Msg} (h1 : -9223372036854775808≤m.kind∧m.kind≤9223372036854775807) (h2 : -9223372036854775808≤m.session∧m.session≤9223372036854775807) (h3 : -9223372036854775808≤m.step∧m.step≤9223372036854775807) (h4:m.text.length≤140737488355000) (h5:m.sums.length≤140737488355000) (h6:m.values.length≤140737488355000):m.Ok:=⟨h1,h2,h3,h4,h5,h6⟩
theorem zKj:kAsk.Ok:=by apply mo<;>decide
theorem zpy:kCoin.Ok:=by apply mo<;>decide
theorem zOZ:kRoot.Ok:=by apply mo<;>decide
theorem zKk {id due:Int} (h:okI id):(zdc id due).Ok:=by
 refine⟨h,?_,?_,?_,?_,?_⟩<;>simp [zdc,zM]
theorem okA:sA.Ok:=zKk ⟨by decide,by decide⟩
theorem zO0:({ sA with state:=5 }:Ses).Ok:=⟨⟨by decide,by decide⟩,⟨by decide,by decide⟩,by decide,⟨by decide,by decide⟩,⟨by decide,by decide⟩,⟨by decide,by decide⟩⟩
theorem zpz {s:Ses} (h:s.Ok) {m:Msg} {b:By} (h1:s.step≤1000) (h2:s.bytes≤100000) (h3:s.rounds≤1000) (h4:s.words≤100000) (hb:b.length≤3000) (hs:m.sums.length≤3000) (hv:m.values.length≤3000):(zcD s m b).Ok:=by
 obtain⟨q1,q2,q3,q4,q5,q6⟩:=h
 refine⟨q1,?_,q3,?_,?_,?_⟩<;>simp only [zcD]<;>omega
theorem zO1:b1.Ok:=zpz okA (by decide) (by decide) (by decide) (by decide) (by rw [n0];omega) (by decide) (by decide)
theorem zO2:a1.Ok:=by
 obtain⟨q1,q2,q3,q4,q5,q6⟩:=zO1
 exact⟨q1,q2,by decide,q4,q5,q6⟩
theorem eA1:a1.step=1∧a1.bytes=58∧a1.rounds=1∧a1.words=0:=⟨rfl,by show (0:Int)+(p0.length:Int)=58;rw [n0];rfl,rfl,rfl⟩
theorem zQG:a2.Ok:=zpz zO2 (by rw [eA1.1];omega) (by rw [eA1.2.1];omega) (by rw [eA1.2.2.1];omega) (by rw [eA1.2.2.2];omega) n1 (by decide) (by decide)
theorem eA2:a2.step=2∧a2.bytes≤4000∧a2.rounds=2∧a2.words=0:=⟨rfl,by show a1.bytes+(p1.length:Int)≤4000;have:=n1;rw [eA1.2.1];omega,rfl,rfl⟩
theorem zRI:a3.Ok:=by
 obtain⟨q1,q2,q3,q4,q5,q6⟩:=zpz (m:=M2) zQG (by rw [eA2.1];omega) (by have:=eA2.2.1;omega) (by rw [eA2.2.2.1];omega) (by rw [eA2.2.2.2];omega) (by rw [n2];omega) (by decide) (by decide)
 exact⟨q1,q2,by decide,q4,q5,q6⟩
theorem zRJ:M2.Ok:=by apply mo<;>decide
end Go.Proofs.YtmoecjgehdkhkaaDoor

/-
  Sessions: the fixed examples of the laws.
-/
namespace Go.Proofs.YtmoecjgehdkhkaaDoor
open Go Go.AL

def mP (k s t:Int) (tx r:By) (S V:PV):PV := .agg (i64 k :: i64 s :: i64 t :: str (bytesOf tx) :: (pl b8 r++[S,V]))
def mC (k s t:Int) (tx r:By) (S V:PV):List AV:=(i64 k :: i64 s :: i64 t :: str (bytesOf tx) :: (pl b8 r++[S,V])).map .p
section mp
variable {k s t:Int} {tx r:By} {S V:PV}
theorem zQH:zG (.p (i64 k) :: .p (i64 s) :: .p (i64 t) :: .p (str (bytesOf tx)) :: List.map AV.p (pl b8 r++[S,V])) = .p (mP k s t tx r S V):=by
 have h:pvs? (.p (i64 k) :: .p (i64 s) :: .p (i64 t) :: .p (str (bytesOf tx)) :: List.map AV.p (pl b8 r++[S,V]))=some (i64 k :: i64 s :: i64 t :: str (bytesOf tx) :: (pl b8 r++[S,V])):=zdP (i64 k :: i64 s :: i64 t :: str (bytesOf tx) :: (pl b8 r++[S,V]))
 unfold zG
 rw [h];rfl
theorem zA7:zo (.p (mP k s t tx r S V))=some (mC k s t tx r S V):=rfl
theorem zA8 (h:r.length=32):(mC k s t tx r S V).length=38:=by simp [mC,zbZ,h]
theorem zO3:zG (mC k s t tx r S V) = .p (mP k s t tx r S V):=by unfold zG mC;rw [zdP];rfl
theorem zJv (h:r.length=32):(mC k s t tx r S V).take 38=mC k s t tx r S V:=List.take_of_length_le (by rw [zA8 h];exact Nat.le_refl _)
theorem zqM {f f':Bool} {su:List Int} {va:List Ext} (h:r.length=32):(mP k s t tx r (.sl f 1 (pl i64 su)) (.sl f' 2 (pl ext va))).weak=yK ⟨k,s,t,tx,⟨r,h⟩,su,va⟩:=by
 show PV.agg (List.map PV.weak1 (_ :: _ :: _ :: _ :: (pl b8 r++[_,_])))=_
 simp only [List.map_cons,List.map_append,List.map_nil]
 rw [zat fun _=>rfl]
 rfl
theorem zA9 {x:PV}:(List.map AV.p (pl b8 (List.replicate 32 0#8)++[S,V])).set 33 (AV.p x)=List.map AV.p (pl b8 (List.replicate 32 0#8)++[S,x]):=rfl
end mp
theorem zO4:({ data := #[99,111,117,110,116] }:ByteArray)=bytesOf [99,111,117,110,116]:=rfl
attribute [go_sem] zQH zA7 zA8 zO3 zJv zA9
theorem zU {c:Prop} [Decidable c] {X Y:Hp} {b:Nat}:(if c then X else Y).f b=if c then X.f b else Y.f b:=by split<;>rfl
theorem zBa {C:Cx} {k:List Item} {env:Env} {H:Hp} {R:AV → Hp → Prop} (h : ∀ B,B=H → ARun C k env B R):ARun C k env H R:=h H rfl
theorem zO5 {σ:Gh} {H:Hp} {w:World} {v:Value} {fl:Bool} {sz:Nat} (h:RelV σ H w (.p (.s (.slice none 0 0))) v):RelV σ H w (.p (.sl fl sz [])) v:=by
 cases h with
 | p h=>cases h;exact .p (.nil _ _)
theorem zJw {P:Program} {G:Globs} {f:FuncId} {xs ys:List AV} {fl:Bool} {sz:Nat} {H:Hp} {R:AV → Hp → Prop} (h:ACall P G f (xs ++ .p (.sl fl sz []) :: ys) H R):ACall P G f (xs ++ .p (.s (.slice none 0 0)) :: ys) H R :=
 fun σ w vs hr hvs=>h σ w vs hr ⟨by rw [hvs.1];simp,fun i x v h1 h2=>by
  by_cases hi:i=xs.length
  · subst hi
    have e:(xs++AV.p (.sl fl sz []) :: ys)[xs.length]? = some (.p (.sl fl sz [])):=by simp
    rw [e] at h1;cases h1
    exact zO5 (hvs.2 xs.length _ v (by simp) h2)
  · refine hvs.2 i x v ?_ h2
    rw [←h1]
    by_cases hlt:i < xs.length
    · rw [List.getElem?_append_left hlt,List.getElem?_append_left hlt]
    · rw [List.getElem?_append_right (by omega),List.getElem?_append_right (by omega)]
      obtain⟨k,hk⟩ : ∃ k,i - xs.length=k+1:=⟨i - xs.length - 1,by omega⟩
      rw [hk,List.getElem?_cons_succ,List.getElem?_cons_succ]⟩
section walks
variable {G:Globs} {r1 r2:Nat} {m1:List (Int × Rule)} {m2:List (Int × Int)}
theorem zRK:zM.Ok:=by apply mo<;>decide
theorem zBb (H:Hp) (R:AV → Hp → Prop) (h:R (.p (ext ⟨1,0⟩)) H):ACall Tryd.prog G 27 [] H R:=by
 refine ACall.of_run (raw:=[]) Tryd.func27 rfl Tryd.ntmps27 (by simp) fun hbel => ?_
 refine .q ?_;refine .text ?_;simp (disch:=first|exact zb|fail) only [go_sem,seval]
 refine .q ?_;refine .text ?_;simp (disch:=first|exact zb|fail) only [go_sem,seval]
 refine .q ?_;refine .rt Tryd.func27 (by rw [Tryd.results27]) (hR := ?_);simp (disch:=first|exact zb|fail) only [go_sem,seval]
 exact h
set_option maxHeartbeats 4000000 in
set_option maxRecDepth 20000 in
theorem zma (g:GR G r1 r2 m1 m2) (H:Hp) (R:AV → Hp → Prop) (h:R (.p (bo true)) H):ACall Tryd.prog G 7 [] H R:=by
 have hz:(List.replicate 32 0#8:By).length=32:=List.length_replicate
 refine ACall.of_run (raw:=[]) Tryd.func7 rfl Tryd.ntmps7 (by simp) fun hbel => ?_
 refine .q ?_;refine .text ?_;simp (disch:=first|exact zb|fail) only [go_sem,seval,-List.reduceReplicate]
 refine .q ?_;refine .text ?_;simp (disch:=first|exact zb|fail) only [go_sem,seval,-List.reduceReplicate,zO4,zm,zao,hz]
 refine .q ?_;refine .text ?_;simp (disch:=first|exact zb|fail) only [go_sem,seval,-List.reduceReplicate]
 refine CallK.of (fun R h=>zBb _ R h) ?_;simp (disch:=first|exact zb|fail) only [go_sem,seval,-List.reduceReplicate,zm,zao,hz]
 have hAsk:(mP 1 0 0 [99,111,117,110,116] (List.replicate 32 0#8) (.sl true 1 []) (.sl true 2 [])).weak=yK kAsk:=zqM (su:=[]) (va:=[]) hz
 have hCoin:(mP 4 0 0 [] (List.replicate 32 0#8) (.sl true 1 []) (.sl true 2 [ext ⟨1#64,0#64⟩])).weak=yK kCoin:=zqM (su:=[]) (va:=[⟨1,0⟩]) hz
 have hNew:zdc 7 100=sA:=rfl
 have c5:(PV.sl true 1 []).weak=PV.sl false 1 []:=rfl
 refine .q ?_;refine .text ?_;simp (disch:=first|exact zb|fail) only [go_sem,seval,-List.reduceReplicate]
 refine CallK.of (fun R h=>zcf 7 100 _ R h) ?_;simp (disch:=first|exact zb|fail) only [go_sem,seval,-List.reduceReplicate,hNew]
 refine CallK.of (fun R h=>zcf 7 100 _ R h) ?_;simp (disch:=first|exact zb|fail) only [go_sem,seval,-List.reduceReplicate,hNew,zl]
 refine .q ?_;refine .text ?_;simp (disch:=first|exact zb|fail) only [go_sem,seval,-List.reduceReplicate,zl,hCoin]
 refine CallK.of (fun R h=>zaF g sA okA kCoin zpy _ R h) ?_;simp (disch:=first|exact zb|fail) only [go_sem,seval,-List.reduceReplicate,F1,zl]
 refine .q ?_;refine .text ?_;simp (disch:=first|exact zb|fail) only [go_sem,seval,-List.reduceReplicate,zl,hAsk]
 refine CallK.of (fun R h=>zaF g sA okA kAsk zKj _ R h) ?_;simp (disch:=first|exact zb|fail) only [go_sem,seval,-List.reduceReplicate,F2,zl]
 refine .q ?_;refine .text ?_;simp (disch:=first|exact zb|fail) only [go_sem,seval,-List.reduceReplicate,zl,hAsk]
 refine CallK.of (fun R h=>zaF g a1 zO2 kAsk zKj _ R h) ?_;simp (disch:=first|exact zb|fail) only [go_sem,seval,-List.reduceReplicate,F3,zl]
 refine .q ?_;refine .text ?_;simp (disch:=first|exact zb|fail) only [go_sem,seval,-List.reduceReplicate,zl,hAsk]
 refine CallK.of (fun R h=>yL g sA okA p0 (by rw [n0];omega) 101 _ R h) ?_;simp (disch:=first|exact zb|fail) only [go_sem,seval,-List.reduceReplicate,F4,zl,zm,hz]
 have F5':=F5
 rw [n0] at F5'
 refine .q ?_;first | refine .cutF0 [2,3,4,7,8,9,12,13,15] [(18,.p (i64 6))] (fun ihE => ?_) (fun env T E => ?_) | refine .cutF [2,3,4,7,8,9,12,13,15] [(18,.p (i64 6))] [] (fun ihE => ?_) (fun env T E => ?_)
 rotate_left 1
 simp (disch:=first|exact zb|fail) only [go_sem,seval,-List.reduceReplicate,n0,zl,zm,hz] at E
 rotate_left 1
 · refine zBa fun B hB => ?_
   have hBn:B.n=H.n+8:=by rw [hB];simp (disch:=first|exact zb|fail) only [go_sem,seval,-List.reduceReplicate]
   have hB4:B.f (H.n+3)=some (.cells (yy sA)):=by rw [hB];simp (disch:=first|exact zb|fail) only [go_sem,seval,-List.reduceReplicate]
   have hcall : ∀ (B':Hp) (R:AV → Hp → Prop),R (.tup [.p (yt sA),.p (yK zM),.p (i64 6)]) B' → ACall Tryd.prog G 23 [.p (yt sA),.p (.sl false 1 (pl b8 (p0.take 57))),.p (i64 1)] B' R:=fun B' R h=>yL g sA okA (p0.take 57) (by rw [List.length_take,n0];omega) 1 B' R (by rw [show recv sA (p0.take 57) 1=(sA,zM,6) from F5'];exact h)
   (refine .q ?_)
   refine .openInv (fun L env' H'=>(kF env' [(2,.ptr (H.n+1) 0),(3,.ptr (H.n+2) 0),(4,.ptr (H.n+3) 0),(7,.p (i64 290)),(8,.p (.sl false 1 (pl b8 p0))),(9,.p (i64 0)),(12,.p (i64 290)),(13,.ptr (H.n+6) 0),(15,.p (i64 291))]∧kI L env' [(0,76,.p (yt sA)),(1,77,.p (.sl false 1 (pl b8 p0))),(2,78,.p (.sl false 1 (pl b8 p0))),(3,79,.p (i64 58)),(4,80,.p (.sl false 1 (pl b8 p0))),(5,81,.p (i64 58)),(6,82,.p (i64 1)),(7,83,.p (i64 57)),(8,84,.p (.sl false 1 (pl b8 (p0.take 57)))),(9,85,.tup [.p (yt sA),.p (yK zM),.p (i64 6)]),(10,75,.tup [.p (yt sA),.p (yK zM),.p (i64 6)]),(11,86,.p (yt sA)),(12,87,.p (yK zM)),(13,88,.p (i64 6)),(14,16,.ptr (H.n+8) 0),(15,17,.ptr (H.n+9) 0),(18,18,.p (i64 6))]∧(L 15=true → allT L [14])∧(L 16=true → allT L [0,1,2,3,4,5,6,7,8,9,10,11,14,15])∧(L 17=true → allT L [0,1,2,3,4,5,6,7,8,9,10,11,12,14,15,16])∧H'=(if L 14 then (if L 15 then (B.new (.cells (if L 16 then yy sA else nC 0 0))).new (.cells (if L 17 then mcl zM else mG 0 0 0 [] (List.replicate 32 0#8) (.p (.sl true 1 [])) (.p (.sl true 2 [])))) else B.new (.cells (nC 0 0))) else B)) ∨ (kF env' [(2,.ptr (H.n+1) 0),(3,.ptr (H.n+2) 0),(4,.ptr (H.n+3) 0),(7,.p (i64 290)),(8,.p (.sl false 1 (pl b8 p0))),(9,.p (i64 0)),(12,.p (i64 290)),(13,.ptr (H.n+6) 0),(15,.p (i64 291))]∧kI L env' [(0,76,.p (yt sA)),(1,77,.p (.sl false 1 (pl b8 p0))),(2,78,.p (.sl false 1 (pl b8 p0))),(3,79,.p (i64 58)),(4,80,.p (.sl false 1 (pl b8 p0))),(5,81,.p (i64 58)),(6,82,.p (i64 1)),(7,83,.p (i64 57)),(8,84,.p (.sl false 1 (pl b8 (p0.take 57)))),(9,85,.tup [.p (yt sA),.p (yK zM),.p (i64 6)]),(10,75,.tup [.p (yt sA),.p (yK zM),.p (i64 6)]),(11,86,.p (yt sA)),(12,87,.p (yK zM)),(13,88,.p (i64 6)),(14,16,.ptr (H.n+9) 0),(15,17,.ptr (H.n+8) 0),(18,18,.p (i64 6))]∧(L 14=true → allT L [15])∧(L 16=true → allT L [0,1,2,3,4,5,6,7,8,9,10,11,14,15])∧(L 17=true → allT L [0,1,2,3,4,5,6,7,8,9,10,11,12,14,15,16])∧H'=(if L 15 then (if L 14 then (B.new (.cells (if L 17 then mcl zM else mG 0 0 0 [] (List.replicate 32 0#8) (.p (.sl true 1 [])) (.p (.sl true 2 []))))).new (.cells (if L 16 then yy sA else nC 0 0)) else B.new (.cells (mG 0 0 0 [] (List.replicate 32 0#8) (.p (.sl true 1 [])) (.p (.sl true 2 []))))) else B))) follows (by kernel_rfl) ?_ ?_ ?_
   · exact .inl ⟨(by simp (disch:=first|exact zb|fail) only [go_sem,seval,-List.reduceReplicate,kFi,kFn,and_self,hBn,hB4,n0,zl,zm,hz,zU,ite_self]),(fun _ _ h=>by cases h),(fun h=>by cases h),(fun h=>by cases h),(fun h=>by cases h),(by first | rfl | (simp only [Bool.false_eq_true,if_false];first | rfl | (simp (disch:=first|exact zb|fail) only [go_sem,seval,-List.reduceReplicate,hBn,hB4,n0,zl,zm,hz,zU,ite_self]<;>rfl)))⟩
   · intro i o L env' H' ho hL hall hI
     rcases hI with hI | hI
     · obtain⟨KF,KG,m15,m16,m17,rfl⟩:=hI
       rcases i with _ | _ | _ | _ | _ | _ | _ | _ | _ | _ | _ | _ | _ | _ | _ | _ | _ | _ | _ | i
       · cases ho;have n16:=ya m16 hL;have n17:=ya m17 hL;have f2:=zJ KF 2 rfl;refine zf (.p (yt sA)) rfl rfl (by simp (disch:=first|exact zb|fail) only [go_sem,seval,-List.reduceReplicate,reduceIte,Bool.false_eq_true,if_false,if_true,f2,n16,n17,hBn,hB4,n0,zl,zm,hz,zU,ite_self]<;>rfl) rfl ?_;exact .inl ⟨zx KF,zA KG,ka m15,ka m16,ka m17,(by rw [za (by decide),za (by decide),za (by decide),za (by decide)])⟩
       · cases ho;have f4:=zJ KF 4 rfl;refine zf (.p (.sl false 1 (pl b8 p0))) rfl rfl (by simp (disch:=first|exact zb|fail) only [go_sem,seval,-List.reduceReplicate,f4,hBn,hB4,n0,zl,zm,hz,zU,ite_self]<;>rfl) rfl ?_;exact .inl ⟨zx KF,zA KG,ka m15,ka m16,ka m17,(by rw [za (by decide),za (by decide),za (by decide),za (by decide)])⟩
       · cases ho;have f4:=zJ KF 4 rfl;refine zf (.p (.sl false 1 (pl b8 p0))) rfl rfl (by simp (disch:=first|exact zb|fail) only [go_sem,seval,-List.reduceReplicate,f4,hBn,hB4,n0,zl,zm,hz,zU,ite_self]<;>rfl) rfl ?_;exact .inl ⟨zx KF,zA KG,ka m15,ka m16,ka m17,(by rw [za (by decide),za (by decide),za (by decide),za (by decide)])⟩
       · cases ho;have d2:=zn KG 2 rfl (kL hall 0 rfl rfl);have n16:=ya m16 hL;have n17:=ya m17 hL;refine zf (.p (i64 58)) rfl rfl (by simp (disch:=first|exact zb|fail) only [go_sem,seval,-List.reduceReplicate,reduceIte,Bool.false_eq_true,if_false,if_true,d2,n16,n17,hBn,hB4,n0,zl,zm,hz,zU,ite_self]<;>rfl) rfl ?_;exact .inl ⟨zx KF,zA KG,ka m15,ka m16,ka m17,(by rw [za (by decide),za (by decide),za (by decide),za (by decide)])⟩
       · cases ho;have f4:=zJ KF 4 rfl;refine zf (.p (.sl false 1 (pl b8 p0))) rfl rfl (by simp (disch:=first|exact zb|fail) only [go_sem,seval,-List.reduceReplicate,f4,hBn,hB4,n0,zl,zm,hz,zU,ite_self]<;>rfl) rfl ?_;exact .inl ⟨zx KF,zA KG,ka m15,ka m16,ka m17,(by rw [za (by decide),za (by decide),za (by decide),za (by decide)])⟩
       · cases ho;have d4:=zn KG 4 rfl (kL hall 0 rfl rfl);have n16:=ya m16 hL;have n17:=ya m17 hL;refine zf (.p (i64 58)) rfl rfl (by simp (disch:=first|exact zb|fail) only [go_sem,seval,-List.reduceReplicate,reduceIte,Bool.false_eq_true,if_false,if_true,d4,n16,n17,hBn,hB4,n0,zl,zm,hz,zU,ite_self]<;>rfl) rfl ?_;exact .inl ⟨zx KF,zA KG,ka m15,ka m16,ka m17,(by rw [za (by decide),za (by decide),za (by decide),za (by decide)])⟩
       · cases ho;have d5:=zn KG 5 rfl (kL hall 0 rfl rfl);have n16:=ya m16 hL;have n17:=ya m17 hL;refine zf (.p (i64 1)) rfl rfl (by simp (disch:=first|exact zb|fail) only [go_sem,seval,-List.reduceReplicate,reduceIte,Bool.false_eq_true,if_false,if_true,d5,n16,n17,hBn,hB4,n0,zl,zm,hz,zU,ite_self]<;>rfl) rfl ?_;exact .inl ⟨zx KF,zA KG,ka m15,ka m16,ka m17,(by rw [za (by decide),za (by decide),za (by decide),za (by decide)])⟩
       · cases ho;have d3:=zn KG 3 rfl (kL hall 0 rfl rfl);have d6:=zn KG 6 rfl (kL hall 1 rfl rfl);refine zf (.p (i64 57)) rfl rfl (by simp (disch:=first|exact zb|fail) only [go_sem,seval,-List.reduceReplicate,d3,d6,hBn,hB4,n0,zl,zm,hz,zU,ite_self]<;>rfl) rfl ?_;exact .inl ⟨zx KF,zA KG,ka m15,ka m16,ka m17,(by rw [za (by decide),za (by decide),za (by decide),za (by decide)])⟩
       · cases ho;have d1:=zn KG 1 rfl (kL hall 0 rfl rfl);have d7:=zn KG 7 rfl (kL hall 1 rfl rfl);have n16:=ya m16 hL;have n17:=ya m17 hL;refine zf (.p (.sl false 1 (pl b8 (p0.take 57)))) rfl rfl (by simp (disch:=first|exact zb|fail) only [go_sem,seval,-List.reduceReplicate,reduceIte,Bool.false_eq_true,if_false,if_true,d1,d7,n16,n17,hBn,hB4,n0,zl,zm,hz,zU,ite_self]<;>rfl) rfl ?_;exact .inl ⟨zx KF,zA KG,ka m15,ka m16,ka m17,(by rw [za (by decide),za (by decide),za (by decide),za (by decide)])⟩
       · cases ho;have d0:=zn KG 0 rfl (kL hall 0 rfl rfl);have d8:=zn KG 8 rfl (kL hall 1 rfl rfl);have n16:=ya m16 hL;have n17:=ya m17 hL;(try simp only [n16,n17,if_true,if_false,Bool.false_eq_true]);refine ym rfl rfl (by simp (disch:=first|exact zb|fail) only [go_sem,seval,-List.reduceReplicate,reduceIte,Bool.false_eq_true,if_false,if_true,d0,d8,n16,n17,hBn,hB4,n0,zl,zm,hz,zU,ite_self]<;>rfl) rfl (by simp (disch:=first|exact zb|fail) only [go_sem,seval,-List.reduceReplicate,reduceIte,Bool.false_eq_true,if_false,if_true,d0,d8,n16,n17,hBn,hB4,n0,zl,zm,hz,zU,ite_self]<;>rfl) (fun R h=>hcall _ R h) ?_;exact .inl ⟨zx KF,zA KG,ka m15,ka m16,ka m17,(by (have e14:more L 9 14=L 14:=za (by decide));(have e15:more L 9 15=L 15:=za (by decide));(have e16:more L 9 16=L 16:=za (by decide));(have e17:more L 9 17=L 17:=za (by decide));(try simp only [e14,e15,e16,e17,n16,n17]);first | done | rfl | (simp only [e14,e15,e16,e17,n16,n17,if_true,if_false,Bool.false_eq_true];first | done | rfl | (simp (disch:=first|exact zb|fail) only [go_sem,seval,-List.reduceReplicate,e14,e15,e16,e17,n16,n17,hBn,hB4,n0,zl,zm,hz,zU,ite_self]<;>rfl)))⟩
       · cases ho;have d9:=zn KG 9 rfl (kL hall 0 rfl rfl);refine zf (.tup [.p (yt sA),.p (yK zM),.p (i64 6)]) rfl rfl (by simp (disch:=first|exact zb|fail) only [go_sem,seval,-List.reduceReplicate,d9,hBn,hB4,n0,zl,zm,hz,zU,ite_self]<;>rfl) rfl ?_;exact .inl ⟨zx KF,zA KG,ka m15,ka m16,ka m17,(by rw [za (by decide),za (by decide),za (by decide),za (by decide)])⟩
       · cases ho;have d10:=zn KG 10 rfl (kL hall 0 rfl rfl);refine zf (.p (yt sA)) rfl rfl (by simp (disch:=first|exact zb|fail) only [go_sem,seval,-List.reduceReplicate,d10,hBn,hB4,n0,zl,zm,hz,zU,ite_self]<;>rfl) rfl ?_;exact .inl ⟨zx KF,zA KG,ka m15,ka m16,ka m17,(by rw [za (by decide),za (by decide),za (by decide),za (by decide)])⟩
       · cases ho;have d10:=zn KG 10 rfl (kL hall 0 rfl rfl);refine zf (.p (yK zM)) rfl rfl (by simp (disch:=first|exact zb|fail) only [go_sem,seval,-List.reduceReplicate,d10,hBn,hB4,n0,zl,zm,hz,zU,ite_self]<;>rfl) rfl ?_;exact .inl ⟨zx KF,zA KG,ka m15,ka m16,ka m17,(by rw [za (by decide),za (by decide),za (by decide),za (by decide)])⟩
       · cases ho;have d10:=zn KG 10 rfl (kL hall 0 rfl rfl);refine zf (.p (i64 6)) rfl rfl (by simp (disch:=first|exact zb|fail) only [go_sem,seval,-List.reduceReplicate,d10,hBn,hB4,n0,zl,zm,hz,zU,ite_self]<;>rfl) rfl ?_;exact .inl ⟨zx KF,zA KG,ka m15,ka m16,ka m17,(by rw [za (by decide),za (by decide),za (by decide),za (by decide)])⟩
       · cases ho;have n15:=ya m15 hL;have n16:=ya m16 hL;have n17:=ya m17 hL;(try simp only [n15,n16,n17,hL,if_true,if_false,Bool.false_eq_true]);refine zZ (.ptr (H.n+8) 0) rfl rfl (by simp (disch:=first|exact zb|fail) only [go_sem,seval,-List.reduceReplicate,reduceIte,Bool.false_eq_true,if_false,if_true,n15,n16,n17,hL,hBn,hB4,n0,zl,zm,hz,zU,ite_self]<;>rfl) rfl ?_;exact .inl ⟨zx KF,zA KG,ka m15,ka m16,ka m17,(by (have e14:more L 14 14=true:=zr);(have e15:more L 14 15=L 15:=za (by decide));(have e16:more L 14 16=L 16:=za (by decide));(have e17:more L 14 17=L 17:=za (by decide));(try simp only [e14,e15,e16,e17,n15,n16,n17,hL]);first | done | rfl | (simp only [e14,e15,e16,e17,n15,n16,n17,hL,if_true,if_false,Bool.false_eq_true];first | done | rfl | (simp (disch:=first|exact zb|fail) only [go_sem,seval,-List.reduceReplicate,e14,e15,e16,e17,n15,n16,n17,hL,hBn,hB4,n0,zl,zm,hz,zU,ite_self]<;>rfl)))⟩
       · cases ho
         have n16:=ya m16 hL
         have n17:=ya m17 hL
         cases e0:L 14
         · skip
           (try simp only [n16,n17,hL,e0,if_true,if_false,Bool.false_eq_true])
           refine zZ (.ptr (H.n+8) 0) rfl rfl (by simp (disch:=first|exact zb|fail) only [go_sem,seval,-List.reduceReplicate,reduceIte,Bool.false_eq_true,if_false,if_true,n16,n17,hL,e0,hBn,hB4,n0,zl,zm,hz,zU,ite_self]<;>rfl) rfl ?_
           exact .inr ⟨zx KF,kIj KG e0,(fun _=>kt1),ka m16,ka m17,(by (have e14:more L 15 14=L 14:=za (by decide));(have e15:more L 15 15=true:=zr);(have e16:more L 15 16=L 16:=za (by decide));(have e17:more L 15 17=L 17:=za (by decide));(try simp only [e14,e15,e16,e17,n16,n17,hL,e0]);first | done | rfl | (simp only [e14,e15,e16,e17,n16,n17,hL,e0,if_true,if_false,Bool.false_eq_true];first | done | rfl | (simp (disch:=first|exact zb|fail) only [go_sem,seval,-List.reduceReplicate,e14,e15,e16,e17,n16,n17,hL,e0,hBn,hB4,n0,zl,zm,hz,zU,ite_self]<;>rfl)))⟩
         · have h14:L 14=true:=e0
           (try simp only [h14,n16,n17,hL,if_true,if_false,Bool.false_eq_true])
           refine zZ (.ptr (H.n+9) 0) rfl rfl (by simp (disch:=first|exact zb|fail) only [go_sem,seval,-List.reduceReplicate,reduceIte,Bool.false_eq_true,if_false,if_true,h14,n16,n17,hL,hBn,hB4,n0,zl,zm,hz,zU,ite_self]<;>rfl) rfl ?_
           exact .inl ⟨zx KF,zA KG,(fun _=>kt (zc h14 zv)),ka m16,ka m17,(by (have e14:more L 15 14=L 14:=za (by decide));(have e15:more L 15 15=true:=zr);(have e16:more L 15 16=L 16:=za (by decide));(have e17:more L 15 17=L 17:=za (by decide));(try simp only [e14,e15,e16,e17,h14,n16,n17,hL]);first | done | rfl | (simp only [e14,e15,e16,e17,h14,n16,n17,hL,if_true,if_false,Bool.false_eq_true];first | done | rfl | (simp (disch:=first|exact zb|fail) only [go_sem,seval,-List.reduceReplicate,e14,e15,e16,e17,h14,n16,n17,hL,hBn,hB4,n0,zl,zm,hz,zU,ite_self]<;>rfl)))⟩
       · cases ho;have h0:=kL hall 3 rfl rfl;have h1:=kL hall 4 rfl rfl;have h2:=kL hall 5 rfl rfl;have h3:=kL hall 6 rfl rfl;have h4:=kL hall 7 rfl rfl;have h5:=kL hall 8 rfl rfl;have h6:=kL hall 9 rfl rfl;have h7:=kL hall 10 rfl rfl;have h8:=kL hall 11 rfl rfl;have h9:=kL hall 2 rfl rfl;have h10:=kL hall 13 rfl rfl;have h11:=kL hall 1 rfl rfl;have d11:=zn KG 11 rfl h11;have h14:=kL hall 0 rfl rfl;have d14:=zn KG 14 rfl h14;have h15:=kL hall 18 rfl rfl;have n17:=ya m17 hL;refine yb rfl rfl (by simp (disch:=first|exact zb|fail) only [go_sem,seval,-List.reduceReplicate,reduceIte,Bool.false_eq_true,if_false,if_true,d11,d14,h14,h15,n17,hL,hBn,hB4,n0,zl,zm,hz,zU,ite_self]<;>rfl) rfl ?_;exact .inl ⟨KF,kIs KG,ka m15,(fun _=>kt (zc h0 (zc h1 (zc h2 (zc h3 (zc h4 (zc h5 (zc h6 (zc h7 (zc h8 (zc h9 (zc h10 (zc h11 (zc h14 (zc h15 zv))))))))))))))),ka m17,(by (have e14:more L 16 14=L 14:=za (by decide));(have e15:more L 16 15=L 15:=za (by decide));(have e16:more L 16 16=true:=zr);(have e17:more L 16 17=L 17:=za (by decide));(try simp only [e14,e15,e16,e17,h14,h15,n17,hL]);first | done | rfl | (simp only [e14,e15,e16,e17,h14,h15,n17,hL,if_true,if_false,Bool.false_eq_true];first | done | rfl | (simp (disch:=first|exact zb|fail) only [go_sem,seval,-List.reduceReplicate,e14,e15,e16,e17,h14,h15,n17,hL,hBn,hB4,n0,zl,zm,hz,zU,ite_self]<;>rfl)))⟩
       · cases ho;have h0:=kL hall 3 rfl rfl;have h1:=kL hall 4 rfl rfl;have h2:=kL hall 5 rfl rfl;have h3:=kL hall 6 rfl rfl;have h4:=kL hall 7 rfl rfl;have h5:=kL hall 8 rfl rfl;have h6:=kL hall 9 rfl rfl;have h7:=kL hall 10 rfl rfl;have h8:=kL hall 11 rfl rfl;have h9:=kL hall 12 rfl rfl;have h10:=kL hall 13 rfl rfl;have h11:=kL hall 14 rfl rfl;have h12:=kL hall 1 rfl rfl;have d12:=zn KG 12 rfl h12;have h14:=kL hall 17 rfl rfl;have h15:=kL hall 0 rfl rfl;have d15:=zn KG 15 rfl h15;have h16:=kL hall 2 rfl rfl;refine yb rfl rfl (by simp (disch:=first|exact zb|fail) only [go_sem,seval,-List.reduceReplicate,reduceIte,Bool.false_eq_true,if_false,if_true,d12,d15,h14,h15,h16,hL,hBn,hB4,n0,zl,zm,hz,zU,ite_self]<;>rfl) rfl ?_;exact .inl ⟨KF,kIs KG,ka m15,ka m16,(fun _=>kt (zc h0 (zc h1 (zc h2 (zc h3 (zc h4 (zc h5 (zc h6 (zc h7 (zc h8 (zc h9 (zc h10 (zc h11 (zc h12 (zc h14 (zc h15 (zc h16 zv))))))))))))))))),(by (have e14:more L 17 14=L 14:=za (by decide));(have e15:more L 17 15=L 15:=za (by decide));(have e16:more L 17 16=L 16:=za (by decide));(have e17:more L 17 17=true:=zr);(try simp only [e14,e15,e16,e17,h14,h15,h16,hL]);first | done | rfl | (simp only [e14,e15,e16,e17,h14,h15,h16,hL,if_true,if_false,Bool.false_eq_true];first | done | rfl | (simp (disch:=first|exact zb|fail) only [go_sem,seval,-List.reduceReplicate,e14,e15,e16,e17,h14,h15,h16,hL,hBn,hB4,n0,zl,zm,hz,zU,ite_self]<;>rfl)))⟩
       · cases ho;have d13:=zn KG 13 rfl (kL hall 0 rfl rfl);refine zf (.p (i64 6)) rfl rfl (by simp (disch:=first|exact zb|fail) only [go_sem,seval,-List.reduceReplicate,d13,hBn,hB4,n0,zl,zm,hz,zU,ite_self]<;>rfl) rfl ?_;exact .inl ⟨zx KF,zA KG,ka m15,ka m16,ka m17,(by rw [za (by decide),za (by decide),za (by decide),za (by decide)])⟩
       · simp at ho
     · obtain⟨KF,KG,m14,m16,m17,rfl⟩:=hI
       rcases i with _ | _ | _ | _ | _ | _ | _ | _ | _ | _ | _ | _ | _ | _ | _ | _ | _ | _ | _ | i
       · cases ho;have n16:=ya m16 hL;have n17:=ya m17 hL;have f2:=zJ KF 2 rfl;refine zf (.p (yt sA)) rfl rfl (by simp (disch:=first|exact zb|fail) only [go_sem,seval,-List.reduceReplicate,reduceIte,Bool.false_eq_true,if_false,if_true,f2,n16,n17,hBn,hB4,n0,zl,zm,hz,zU,ite_self]<;>rfl) rfl ?_;exact .inr ⟨zx KF,zA KG,ka m14,ka m16,ka m17,(by rw [za (by decide),za (by decide),za (by decide),za (by decide)])⟩
       · cases ho;have f4:=zJ KF 4 rfl;refine zf (.p (.sl false 1 (pl b8 p0))) rfl rfl (by simp (disch:=first|exact zb|fail) only [go_sem,seval,-List.reduceReplicate,f4,hBn,hB4,n0,zl,zm,hz,zU,ite_self]<;>rfl) rfl ?_;exact .inr ⟨zx KF,zA KG,ka m14,ka m16,ka m17,(by rw [za (by decide),za (by decide),za (by decide),za (by decide)])⟩
       · cases ho;have f4:=zJ KF 4 rfl;refine zf (.p (.sl false 1 (pl b8 p0))) rfl rfl (by simp (disch:=first|exact zb|fail) only [go_sem,seval,-List.reduceReplicate,f4,hBn,hB4,n0,zl,zm,hz,zU,ite_self]<;>rfl) rfl ?_;exact .inr ⟨zx KF,zA KG,ka m14,ka m16,ka m17,(by rw [za (by decide),za (by decide),za (by decide),za (by decide)])⟩
       · cases ho;have d2:=zn KG 2 rfl (kL hall 0 rfl rfl);have n16:=ya m16 hL;have n17:=ya m17 hL;refine zf (.p (i64 58)) rfl rfl (by simp (disch:=first|exact zb|fail) only [go_sem,seval,-List.reduceReplicate,reduceIte,Bool.false_eq_true,if_false,if_true,d2,n16,n17,hBn,hB4,n0,zl,zm,hz,zU,ite_self]<;>rfl) rfl ?_;exact .inr ⟨zx KF,zA KG,ka m14,ka m16,ka m17,(by rw [za (by decide),za (by decide),za (by decide),za (by decide)])⟩
       · cases ho;have f4:=zJ KF 4 rfl;refine zf (.p (.sl false 1 (pl b8 p0))) rfl rfl (by simp (disch:=first|exact zb|fail) only [go_sem,seval,-List.reduceReplicate,f4,hBn,hB4,n0,zl,zm,hz,zU,ite_self]<;>rfl) rfl ?_;exact .inr ⟨zx KF,zA KG,ka m14,ka m16,ka m17,(by rw [za (by decide),za (by decide),za (by decide),za (by decide)])⟩
       · cases ho;have d4:=zn KG 4 rfl (kL hall 0 rfl rfl);have n16:=ya m16 hL;have n17:=ya m17 hL;refine zf (.p (i64 58)) rfl rfl (by simp (disch:=first|exact zb|fail) only [go_sem,seval,-List.reduceReplicate,reduceIte,Bool.false_eq_true,if_false,if_true,d4,n16,n17,hBn,hB4,n0,zl,zm,hz,zU,ite_self]<;>rfl) rfl ?_;exact .inr ⟨zx KF,zA KG,ka m14,ka m16,ka m17,(by rw [za (by decide),za (by decide),za (by decide),za (by decide)])⟩
       · cases ho;have d5:=zn KG 5 rfl (kL hall 0 rfl rfl);have n16:=ya m16 hL;have n17:=ya m17 hL;refine zf (.p (i64 1)) rfl rfl (by simp (disch:=first|exact zb|fail) only [go_sem,seval,-List.reduceReplicate,reduceIte,Bool.false_eq_true,if_false,if_true,d5,n16,n17,hBn,hB4,n0,zl,zm,hz,zU,ite_self]<;>rfl) rfl ?_;exact .inr ⟨zx KF,zA KG,ka m14,ka m16,ka m17,(by rw [za (by decide),za (by decide),za (by decide),za (by decide)])⟩
       · cases ho;have d3:=zn KG 3 rfl (kL hall 0 rfl rfl);have d6:=zn KG 6 rfl (kL hall 1 rfl rfl);refine zf (.p (i64 57)) rfl rfl (by simp (disch:=first|exact zb|fail) only [go_sem,seval,-List.reduceReplicate,d3,d6,hBn,hB4,n0,zl,zm,hz,zU,ite_self]<;>rfl) rfl ?_;exact .inr ⟨zx KF,zA KG,ka m14,ka m16,ka m17,(by rw [za (by decide),za (by decide),za (by decide),za (by decide)])⟩
       · cases ho;have d1:=zn KG 1 rfl (kL hall 0 rfl rfl);have d7:=zn KG 7 rfl (kL hall 1 rfl rfl);have n16:=ya m16 hL;have n17:=ya m17 hL;refine zf (.p (.sl false 1 (pl b8 (p0.take 57)))) rfl rfl (by simp (disch:=first|exact zb|fail) only [go_sem,seval,-List.reduceReplicate,reduceIte,Bool.false_eq_true,if_false,if_true,d1,d7,n16,n17,hBn,hB4,n0,zl,zm,hz,zU,ite_self]<;>rfl) rfl ?_;exact .inr ⟨zx KF,zA KG,ka m14,ka m16,ka m17,(by rw [za (by decide),za (by decide),za (by decide),za (by decide)])⟩
       · cases ho;have d0:=zn KG 0 rfl (kL hall 0 rfl rfl);have d8:=zn KG 8 rfl (kL hall 1 rfl rfl);have n16:=ya m16 hL;have n17:=ya m17 hL;(try simp only [n16,n17,if_true,if_false,Bool.false_eq_true]);refine ym rfl rfl (by simp (disch:=first|exact zb|fail) only [go_sem,seval,-List.reduceReplicate,reduceIte,Bool.false_eq_true,if_false,if_true,d0,d8,n16,n17,hBn,hB4,n0,zl,zm,hz,zU,ite_self]<;>rfl) rfl (by simp (disch:=first|exact zb|fail) only [go_sem,seval,-List.reduceReplicate,reduceIte,Bool.false_eq_true,if_false,if_true,d0,d8,n16,n17,hBn,hB4,n0,zl,zm,hz,zU,ite_self]<;>rfl) (fun R h=>hcall _ R h) ?_;exact .inr ⟨zx KF,zA KG,ka m14,ka m16,ka m17,(by (have e14:more L 9 14=L 14:=za (by decide));(have e15:more L 9 15=L 15:=za (by decide));(have e16:more L 9 16=L 16:=za (by decide));(have e17:more L 9 17=L 17:=za (by decide));(try simp only [e14,e15,e16,e17,n16,n17]);first | done | rfl | (simp only [e14,e15,e16,e17,n16,n17,if_true,if_false,Bool.false_eq_true];first | done | rfl | (simp (disch:=first|exact zb|fail) only [go_sem,seval,-List.reduceReplicate,e14,e15,e16,e17,n16,n17,hBn,hB4,n0,zl,zm,hz,zU,ite_self]<;>rfl)))⟩
       · cases ho;have d9:=zn KG 9 rfl (kL hall 0 rfl rfl);refine zf (.tup [.p (yt sA),.p (yK zM),.p (i64 6)]) rfl rfl (by simp (disch:=first|exact zb|fail) only [go_sem,seval,-List.reduceReplicate,d9,hBn,hB4,n0,zl,zm,hz,zU,ite_self]<;>rfl) rfl ?_;exact .inr ⟨zx KF,zA KG,ka m14,ka m16,ka m17,(by rw [za (by decide),za (by decide),za (by decide),za (by decide)])⟩
       · cases ho;have d10:=zn KG 10 rfl (kL hall 0 rfl rfl);refine zf (.p (yt sA)) rfl rfl (by simp (disch:=first|exact zb|fail) only [go_sem,seval,-List.reduceReplicate,d10,hBn,hB4,n0,zl,zm,hz,zU,ite_self]<;>rfl) rfl ?_;exact .inr ⟨zx KF,zA KG,ka m14,ka m16,ka m17,(by rw [za (by decide),za (by decide),za (by decide),za (by decide)])⟩
       · cases ho;have d10:=zn KG 10 rfl (kL hall 0 rfl rfl);refine zf (.p (yK zM)) rfl rfl (by simp (disch:=first|exact zb|fail) only [go_sem,seval,-List.reduceReplicate,d10,hBn,hB4,n0,zl,zm,hz,zU,ite_self]<;>rfl) rfl ?_;exact .inr ⟨zx KF,zA KG,ka m14,ka m16,ka m17,(by rw [za (by decide),za (by decide),za (by decide),za (by decide)])⟩
       · cases ho;have d10:=zn KG 10 rfl (kL hall 0 rfl rfl);refine zf (.p (i64 6)) rfl rfl (by simp (disch:=first|exact zb|fail) only [go_sem,seval,-List.reduceReplicate,d10,hBn,hB4,n0,zl,zm,hz,zU,ite_self]<;>rfl) rfl ?_;exact .inr ⟨zx KF,zA KG,ka m14,ka m16,ka m17,(by rw [za (by decide),za (by decide),za (by decide),za (by decide)])⟩
       · cases ho
         have n16:=ya m16 hL
         have n17:=ya m17 hL
         cases e0:L 15
         · skip
           (try simp only [n16,n17,hL,e0,if_true,if_false,Bool.false_eq_true])
           refine zZ (.ptr (H.n+8) 0) rfl rfl (by simp (disch:=first|exact zb|fail) only [go_sem,seval,-List.reduceReplicate,reduceIte,Bool.false_eq_true,if_false,if_true,n16,n17,hL,e0,hBn,hB4,n0,zl,zm,hz,zU,ite_self]<;>rfl) rfl ?_
           exact .inl ⟨zx KF,kIj KG e0,(fun _=>kt1),ka m16,ka m17,(by (have e14:more L 14 14=true:=zr);(have e15:more L 14 15=L 15:=za (by decide));(have e16:more L 14 16=L 16:=za (by decide));(have e17:more L 14 17=L 17:=za (by decide));(try simp only [e14,e15,e16,e17,n16,n17,hL,e0]);first | done | rfl | (simp only [e14,e15,e16,e17,n16,n17,hL,e0,if_true,if_false,Bool.false_eq_true];first | done | rfl | (simp (disch:=first|exact zb|fail) only [go_sem,seval,-List.reduceReplicate,e14,e15,e16,e17,n16,n17,hL,e0,hBn,hB4,n0,zl,zm,hz,zU,ite_self]<;>rfl)))⟩
         · have h15:L 15=true:=e0
           (try simp only [h15,n16,n17,hL,if_true,if_false,Bool.false_eq_true])
           refine zZ (.ptr (H.n+9) 0) rfl rfl (by simp (disch:=first|exact zb|fail) only [go_sem,seval,-List.reduceReplicate,reduceIte,Bool.false_eq_true,if_false,if_true,h15,n16,n17,hL,hBn,hB4,n0,zl,zm,hz,zU,ite_self]<;>rfl) rfl ?_
           exact .inr ⟨zx KF,zA KG,(fun _=>kt (zc h15 zv)),ka m16,ka m17,(by (have e14:more L 14 14=true:=zr);(have e15:more L 14 15=L 15:=za (by decide));(have e16:more L 14 16=L 16:=za (by decide));(have e17:more L 14 17=L 17:=za (by decide));(try simp only [e14,e15,e16,e17,h15,n16,n17,hL]);first | done | rfl | (simp only [e14,e15,e16,e17,h15,n16,n17,hL,if_true,if_false,Bool.false_eq_true];first | done | rfl | (simp (disch:=first|exact zb|fail) only [go_sem,seval,-List.reduceReplicate,e14,e15,e16,e17,h15,n16,n17,hL,hBn,hB4,n0,zl,zm,hz,zU,ite_self]<;>rfl)))⟩
       · cases ho;have n14:=ya m14 hL;have n16:=ya m16 hL;have n17:=ya m17 hL;(try simp only [n14,n16,n17,hL,if_true,if_false,Bool.false_eq_true]);refine zZ (.ptr (H.n+8) 0) rfl rfl (by simp (disch:=first|exact zb|fail) only [go_sem,seval,-List.reduceReplicate,reduceIte,Bool.false_eq_true,if_false,if_true,n14,n16,n17,hL,hBn,hB4,n0,zl,zm,hz,zU,ite_self]<;>rfl) rfl ?_;exact .inr ⟨zx KF,zA KG,ka m14,ka m16,ka m17,(by (have e14:more L 15 14=L 14:=za (by decide));(have e15:more L 15 15=true:=zr);(have e16:more L 15 16=L 16:=za (by decide));(have e17:more L 15 17=L 17:=za (by decide));(try simp only [e14,e15,e16,e17,n14,n16,n17,hL]);first | done | rfl | (simp only [e14,e15,e16,e17,n14,n16,n17,hL,if_true,if_false,Bool.false_eq_true];first | done | rfl | (simp (disch:=first|exact zb|fail) only [go_sem,seval,-List.reduceReplicate,e14,e15,e16,e17,n14,n16,n17,hL,hBn,hB4,n0,zl,zm,hz,zU,ite_self]<;>rfl)))⟩
       · cases ho;have h0:=kL hall 3 rfl rfl;have h1:=kL hall 4 rfl rfl;have h2:=kL hall 5 rfl rfl;have h3:=kL hall 6 rfl rfl;have h4:=kL hall 7 rfl rfl;have h5:=kL hall 8 rfl rfl;have h6:=kL hall 9 rfl rfl;have h7:=kL hall 10 rfl rfl;have h8:=kL hall 11 rfl rfl;have h9:=kL hall 2 rfl rfl;have h10:=kL hall 13 rfl rfl;have h11:=kL hall 1 rfl rfl;have d11:=zn KG 11 rfl h11;have h14:=kL hall 0 rfl rfl;have d14:=zn KG 14 rfl h14;have h15:=kL hall 18 rfl rfl;have n17:=ya m17 hL;refine yb rfl rfl (by simp (disch:=first|exact zb|fail) only [go_sem,seval,-List.reduceReplicate,reduceIte,Bool.false_eq_true,if_false,if_true,d11,d14,h14,h15,n17,hL,hBn,hB4,n0,zl,zm,hz,zU,ite_self]<;>rfl) rfl ?_;exact .inr ⟨KF,kIs KG,ka m14,(fun _=>kt (zc h0 (zc h1 (zc h2 (zc h3 (zc h4 (zc h5 (zc h6 (zc h7 (zc h8 (zc h9 (zc h10 (zc h11 (zc h14 (zc h15 zv))))))))))))))),ka m17,(by (have e14:more L 16 14=L 14:=za (by decide));(have e15:more L 16 15=L 15:=za (by decide));(have e16:more L 16 16=true:=zr);(have e17:more L 16 17=L 17:=za (by decide));(try simp only [e14,e15,e16,e17,h14,h15,n17,hL]);first | done | rfl | (simp only [e14,e15,e16,e17,h14,h15,n17,hL,if_true,if_false,Bool.false_eq_true];first | done | rfl | (simp (disch:=first|exact zb|fail) only [go_sem,seval,-List.reduceReplicate,e14,e15,e16,e17,h14,h15,n17,hL,hBn,hB4,n0,zl,zm,hz,zU,ite_self]<;>rfl)))⟩
       · cases ho;have h0:=kL hall 3 rfl rfl;have h1:=kL hall 4 rfl rfl;have h2:=kL hall 5 rfl rfl;have h3:=kL hall 6 rfl rfl;have h4:=kL hall 7 rfl rfl;have h5:=kL hall 8 rfl rfl;have h6:=kL hall 9 rfl rfl;have h7:=kL hall 10 rfl rfl;have h8:=kL hall 11 rfl rfl;have h9:=kL hall 12 rfl rfl;have h10:=kL hall 13 rfl rfl;have h11:=kL hall 14 rfl rfl;have h12:=kL hall 1 rfl rfl;have d12:=zn KG 12 rfl h12;have h14:=kL hall 17 rfl rfl;have h15:=kL hall 0 rfl rfl;have d15:=zn KG 15 rfl h15;have h16:=kL hall 2 rfl rfl;refine yb rfl rfl (by simp (disch:=first|exact zb|fail) only [go_sem,seval,-List.reduceReplicate,reduceIte,Bool.false_eq_true,if_false,if_true,d12,d15,h14,h15,h16,hL,hBn,hB4,n0,zl,zm,hz,zU,ite_self]<;>rfl) rfl ?_;exact .inr ⟨KF,kIs KG,ka m14,ka m16,(fun _=>kt (zc h0 (zc h1 (zc h2 (zc h3 (zc h4 (zc h5 (zc h6 (zc h7 (zc h8 (zc h9 (zc h10 (zc h11 (zc h12 (zc h14 (zc h15 (zc h16 zv))))))))))))))))),(by (have e14:more L 17 14=L 14:=za (by decide));(have e15:more L 17 15=L 15:=za (by decide));(have e16:more L 17 16=L 16:=za (by decide));(have e17:more L 17 17=true:=zr);(try simp only [e14,e15,e16,e17,h14,h15,h16,hL]);first | done | rfl | (simp only [e14,e15,e16,e17,h14,h15,h16,hL,if_true,if_false,Bool.false_eq_true];first | done | rfl | (simp (disch:=first|exact zb|fail) only [go_sem,seval,-List.reduceReplicate,e14,e15,e16,e17,h14,h15,h16,hL,hBn,hB4,n0,zl,zm,hz,zU,ite_self]<;>rfl)))⟩
       · cases ho;have d13:=zn KG 13 rfl (kL hall 0 rfl rfl);refine zf (.p (i64 6)) rfl rfl (by simp (disch:=first|exact zb|fail) only [go_sem,seval,-List.reduceReplicate,d13,hBn,hB4,n0,zl,zm,hz,zU,ite_self]<;>rfl) rfl ?_;exact .inr ⟨zx KF,zA KG,ka m14,ka m16,ka m17,(by rw [za (by decide),za (by decide),za (by decide),za (by decide)])⟩
       · simp at ho
   · intro L env' H' hall hI
     rcases hI with hI | hI
     (obtain⟨KF,KG,_,_,_,rfl⟩:=hI;have l14:=hall 14 (by decide);have l15:=hall 15 (by decide);have l16:=hall 16 (by decide);have l17:=hall 17 (by decide);have f0:=zJ KF 0 rfl;have f1:=zJ KF 1 rfl;have f2:=zJ KF 2 rfl;have f3:=zJ KF 3 rfl;have f4:=zJ KF 4 rfl;have f5:=zJ KF 5 rfl;have f6:=zJ KF 6 rfl;have f7:=zJ KF 7 rfl;have f8:=zJ KF 8 rfl;have g18:=zn KG 16 rfl (hall 18 (by decide));simp only [l14,l15,l16,l17,if_true];clear hall);rotate_left
     (obtain⟨KF,KG,_,_,_,rfl⟩:=hI;have l14:=hall 14 (by decide);have l15:=hall 15 (by decide);have l16:=hall 16 (by decide);have l17:=hall 17 (by decide);have f0:=zJ KF 0 rfl;have f1:=zJ KF 1 rfl;have f2:=zJ KF 2 rfl;have f3:=zJ KF 3 rfl;have f4:=zJ KF 4 rfl;have f5:=zJ KF 5 rfl;have f6:=zJ KF 6 rfl;have f7:=zJ KF 7 rfl;have f8:=zJ KF 8 rfl;have g18:=zn KG 16 rfl (hall 18 (by decide));simp only [l14,l15,l16,l17,if_true];clear hall);rotate_left
     · subst hB
       refine ihE _ _ ?_ ?_
       · simp (disch:=first|exact zb|fail) only [go_sem,seval,-List.reduceReplicate,f0,f1,f2,f3,f4,f5,f6,f7,f8,g18]<;>(repeat' (first | rfl | refine And.intro ?_ ?_))
       · exact .mk [_,_] rfl
     · subst hB
       refine ihE _ _ ?_ ?_
       · simp (disch:=first|exact zb|fail) only [go_sem,seval,-List.reduceReplicate,f0,f1,f2,f3,f4,f5,f6,f7,f8,g18]<;>(repeat' (first | rfl | refine And.intro ?_ ?_))
       · exact .mk [_,_] rfl
 -- R9
 obtain⟨e2,e3,e4,e7,e8,e9,e12,e13,e15,e18⟩:=E
 refine .q ?_;refine .text ?_;simp (disch:=first|exact zb|fail) only [go_sem,seval,-List.reduceReplicate,e2,e3,e4,e7,e8,e9,e12,e13,e15,e18]
 refine CallK.of (fun R h=>zcf 8 100 _ R h) ?_;simp (disch:=first|exact zb|fail) only [go_sem,seval,-List.reduceReplicate,e2,e3,e4,e7,e8,e9,e12,e13,e15,e18]
 refine CallK.of (fun R h=>yL g (zdc 8 100) (zKk ⟨by decide,by decide⟩) p0 (by rw [n0];omega) 1 _ R h) ?_;simp (disch:=first|exact zb|fail) only [go_sem,seval,-List.reduceReplicate,F6,zl,zm,hz]
 refine .q ?_;refine .text ?_;simp (disch:=first|exact zb|fail) only [go_sem,seval,-List.reduceReplicate,e2,e3,e4,e7,e8,e9,e12,e13,e15,e18]
 refine CallK.of (fun R h=>yL g sA okA p0 (by rw [n0];omega) 100 _ R h) ?_;simp (disch:=first|exact zb|fail) only [go_sem,seval,-List.reduceReplicate,F7,zl,zm,hz,e2,e3,e4,e7,e8,e9,e12,e13,e15,e18]
 refine .q ?_;refine .text ?_;simp (disch:=first|exact zb|fail) only [go_sem,seval,-List.reduceReplicate,e2,e3,e4,e7,e8,e9,e12,e13,e15,e18]
 refine CallK.of (fun R h=>yL g b1 zO1 p0 (by rw [n0];omega) 1 _ R h) ?_;simp (disch:=first|exact zb|fail) only [go_sem,seval,-List.reduceReplicate,F8,zl,zm,hz,e2,e3,e4,e7,e8,e9,e12,e13,e15,e18]
 refine .q ?_;refine .text ?_;simp (disch:=first|exact zb|fail) only [go_sem,seval,-List.reduceReplicate,e2,e3,e4,e7,e8,e9,e12,e13,e15,e18]
 have hRoot:(zG (setAt (AV.p (i64 2) :: AV.p (i64 0) :: AV.p (i64 0) :: AV.p (str ByteArray.empty) :: List.map AV.p (pl b8 (List.replicate 32 0#8)++[PV.sl true 1 [],PV.sl true 2 []])) 4 (cl b8 ((List.replicate 32 0#8).set 0 1#8)))).weak = .p (yK kRoot):=rfl
 rw [hRoot]
 refine CallK.of (fun R h=>zaF g b1 zO1 kRoot zOZ _ R h) ?_;simp (disch:=first|exact zb|fail) only [go_sem,seval,-List.reduceReplicate,F9,zl,zm,hz,e2,e3,e4,e7,e8,e9,e12,e13,e15,e18]
 refine .q ?_;refine .text ?_;simp (disch:=first|exact zb|fail) only [go_sem,seval,-List.reduceReplicate,e2,e3,e4,e7,e8,e9,e12,e13,e15,e18]
 refine CallK.of (fun R h=>yL g a1 zO2 p1 (by have:=n1;omega) 1 _ R h) ?_;simp (disch:=first|exact zb|fail) only [go_sem,seval,-List.reduceReplicate,F10,zl,zm,hz,e2,e3,e4,e7,e8,e9,e12,e13,e15,e18]
 refine .q ?_;refine .text ?_;simp (disch:=first|exact zb|fail) only [go_sem,seval,-List.reduceReplicate,e2,e3,e4,e7,e8,e9,e12,e13,e15,e18,hCoin]
 refine CallK.of (fun R h=>zaF g a2 zQG kCoin zpy _ R h) ?_;simp (disch:=first|exact zb|fail) only [go_sem,seval,-List.reduceReplicate,F11,zl,zm,hz,e2,e3,e4,e7,e8,e9,e12,e13,e15,e18]
 refine .q ?_;refine .text ?_;simp (disch:=first|exact zb|fail) only [go_sem,seval,-List.reduceReplicate,e2,e3,e4,e7,e8,e9,e12,e13,e15,e18,hCoin]
 refine CallK.of (fun R h=>zaF g a3 zRI kCoin zpy _ R h) ?_;simp (disch:=first|exact zb|fail) only [go_sem,seval,-List.reduceReplicate,F12,zl,zm,hz,e2,e3,e4,e7,e8,e9,e12,e13,e15,e18]
 refine .q ?_;refine .text ?_;simp (disch:=first|exact zb|fail) only [go_sem,seval,-List.reduceReplicate,e2,e3,e4,e7,e8,e9,e12,e13,e15,e18]
 refine CallK.of (fun R h=>yL g { sA with state:=5 } zO0 p0 (by rw [n0];omega) 1 _ R h) ?_;simp (disch:=first|exact zb|fail) only [go_sem,seval,-List.reduceReplicate,F13,zl,zm,hz,e2,e3,e4,e7,e8,e9,e12,e13,e15,e18]
 refine .q ?_;refine .text ?_;simp (disch:=first|exact zb|fail) only [go_sem,seval,-List.reduceReplicate,e2,e3,e4,e7,e8,e9,e12,e13,e15,e18]
 refine CallK.of (fun R h=>zJw (xs:=[]) (ys:=[]) (fl:=false) (sz:=1) (zeq g [] (by simp) _ R h)) ?_;simp (disch:=first|exact zb|fail) only [go_sem,seval,-List.reduceReplicate,F14,zl,zm,hz,e2,e3,e4,e7,e8,e9,e12,e13,e15,e18]
 (repeat refine .z rfl ?_)
 refine .openFast follows (by kernel_rfl) ?_
 simp only [List.append_eq,List.cons_append,List.nil_append]
 have x1:((bytesOf M0.text).toList == (bytesOf [99#8,111#8,117#8,110#8,116#8]).toList)=true:=beq_self_eq_true _
 have x2:((bytesOf b2.text).toList == (bytesOf [99#8,111#8,117#8,110#8,116#8]).toList)=true:=beq_self_eq_true _
 have x3:decide (M1.root.val=(List.replicate 32 0#8).set 0 1#8)=true:=decide_eq_true rfl
 have y1:a3.step=3:=rfl
 have y2:a3.state=2:=rfl
 have y3:zM.kind=0:=rfl
 have y4:a3.words=2:=rfl
 have y5:a3.rounds=3:=rfl
 have y6:a3.last=M2:=rfl
 have y7:(zdc 1 1).last=zM:=rfl
 have z0:p0.length≤140737488355000:=by rw [n0];omega
 have z1:p1.length≤140737488355000:=by have:=n1;omega
 have z2:p2.length≤140737488355000:=by rw [n2];omega
 simp (disch:=first|exact zb|fail) only [go_sem,seval,-List.reduceReplicate,e2,e3,e4,e7,e8,e9,e12,e13,e15,e18,n0,n2,x1,x2,x3,y1,y2,y3]
 refine CallD.still (fun R h=>zdw a3 _ R h) ?_;simp (disch:=first|exact zb|fail) only [go_sem,seval,-List.reduceReplicate,e2,e3,e4,e7,e8,e9,e12,e13,e15,e18,zqD,y4,y5]
 refine CallD.still (fun R h=>zdw a3 _ R h) ?_;simp (disch:=first|exact zb|fail) only [go_sem,seval,-List.reduceReplicate,e2,e3,e4,e7,e8,e9,e12,e13,e15,e18,zqD,y4,y5]
 refine CallD.still (fun R h=>zc1 g a3 zRJ _ R h) ?_;simp (disch:=first|exact zb|fail) only [go_sem,seval,-List.reduceReplicate,e2,e3,e4,e7,e8,e9,e12,e13,e15,e18,y6]
 refine CallD.still (fun R h=>zan p2 p2 z2 z2 _ R h) ?_;simp (disch:=first|exact zb|fail) only [go_sem,seval,-List.reduceReplicate,e2,e3,e4,e7,e8,e9,e12,e13,e15,e18]
 refine CallD.still (fun R h=>zcf 1 1 _ R h) ?_;simp (disch:=first|exact zb|fail) only [go_sem,seval,-List.reduceReplicate,e2,e3,e4,e7,e8,e9,e12,e13,e15,e18]
 refine CallD.still (fun R h=>zc1 g (zdc 1 1) zRK _ R h) ?_;simp (disch:=first|exact zb|fail) only [go_sem,seval,-List.reduceReplicate,e2,e3,e4,e7,e8,e9,e12,e13,e15,e18,y7,F15]
 have xL:a3.seen.val.length=32:=a3.seen.len
 have x4:decide (a3.seen.val=pair (pair (pair (List.replicate 32 0#8) (sha p0)) (sha p1)) (sha p2))=true:=decide_eq_true rfl
 refine CallD.still (fun R h=>zbA p0 z0 _ R h) ?_;simp (disch:=first|exact zb|fail) only [go_sem,seval,-List.reduceReplicate,e2,e3,e4,e7,e8,e9,e12,e13,e15,e18]
 refine CallD.still (fun R h=>zcr (List.replicate 32 0#8) (sha p0) hz (zah _) _ R h) ?_;simp (disch:=first|exact zb|fail) only [go_sem,seval,-List.reduceReplicate,e2,e3,e4,e7,e8,e9,e12,e13,e15,e18]
 refine CallD.still (fun R h=>zbA p1 z1 _ R h) ?_;simp (disch:=first|exact zb|fail) only [go_sem,seval,-List.reduceReplicate,e2,e3,e4,e7,e8,e9,e12,e13,e15,e18]
 refine CallD.still (fun R h=>zcr (pair (List.replicate 32 0#8) (sha p0)) (sha p1) zbi (zah _) _ R h) ?_;simp (disch:=first|exact zb|fail) only [go_sem,seval,-List.reduceReplicate,e2,e3,e4,e7,e8,e9,e12,e13,e15,e18]
 refine CallD.still (fun R h=>zbA p2 z2 _ R h) ?_;simp (disch:=first|exact zb|fail) only [go_sem,seval,-List.reduceReplicate,e2,e3,e4,e7,e8,e9,e12,e13,e15,e18]
 refine CallD.still (fun R h=>zcr (pair (pair (List.replicate 32 0#8) (sha p0)) (sha p1)) (sha p2) zbi (zah _) _ R h) ?_;simp (disch:=first|exact zb|fail) only [go_sem,seval,-List.reduceReplicate,e2,e3,e4,e7,e8,e9,e12,e13,e15,e18]
 rw [eqD xL zbi,x4]
 simp (disch:=first|exact zb|fail) only [go_sem,seval,-List.reduceReplicate,e2,e3,e4,e7,e8,e9,e12,e13,e15,e18]
 refine .q ?_;refine .rt Tryd.func7 (by rw [Tryd.results7]) (hR := ?_);simp (disch:=first|exact zb|fail) only [go_sem,seval,-List.reduceReplicate]
 exact h
end walks
end Go.Proofs.YtmoecjgehdkhkaaDoor

/-
  Sessions: a play of two sides.
-/
namespace Go.Proofs.YtmoecjgehdkhkaaDoor
open Go Go.AL

theorem zcu {C:Cx} {ops:Array Oper} {o:Oper} {rest:List Oper} {k:List Item} {env:Env} {H H':Hp} {R:AV → Hp → Prop} {f:FuncId} {xs xs':List AV} {r:AV} (hg:o.guard=none) (hs:zq C.P C.G o.op o.type env H = .call f xs) (hargs:yk C.raw f xs=xs') (hd:zQ C.nt o.dst=true)
 (hc : ∀ R:AV → Hp → Prop,R r H' → ACall C.P C.G f xs' H R) (h:AOps C ops rest k (env.put o.dst r) H' R):AOps C ops (o :: rest) k env H R :=
 .of_op true (by rw [hg];rfl) fun σ w a m hpre K Q hK=>aOp1.wp (K:=fun y H2=>y=r∧H2=H') (by unfold aOp1;rw [hs];simp only [hargs,sOp];exact⟨hd,hc _ ⟨rfl,rfl⟩⟩) hpre.rel hpre.fr fun y v H2 σ' w' ⟨e1,e2⟩ q1 q2 q3 q4=>by
  subst e1 e2;exact hK _ v _ σ' w' h q1 q2 q3 q4
structure Good (dd:Int) (i:Nat) (s:Ses):Prop where
 id:okI s.id
 due:s.due=dd
 step:0≤s.step∧s.step≤i
 bytes:0≤s.bytes∧s.bytes≤3000*i
 rounds:0≤s.rounds∧s.rounds≤i
 words:0≤s.words∧s.words≤200*i
 lstep:0≤s.last.step
 last:s.last.Ok
theorem Good.ok {dd:Int} {i:Nat} {s:Ses} (h:Good dd i s) (hi:i≤1000):s.Ok:=by
 obtain⟨h1,_,h3,h4,h5,h6,h7,_⟩:=h
 exact⟨h1,by omega,h7,by omega,by omega,by omega⟩
theorem Good.cmp {dd:Int} {i:Nat} {s:Ses} (h:Good dd i s) (hi:i≤1000):s.Cmp:=by
 obtain⟨_,_,_,h4,h5,h6,_,h8⟩:=h
 exact⟨h8,⟨by omega,by omega⟩,⟨by omega,by omega⟩,⟨by omega,by omega⟩⟩
theorem Good.mono {dd:Int} {i j:Nat} {s:Ses} (h:Good dd i s) (hi:i≤j):Good dd j s:=by
 obtain⟨h1,h2,h3,h4,h5,h6,h7,h8⟩:=h
 exact⟨h1,h2,by omega,by omega,by omega,by omega,h7,h8⟩
theorem Good.new {dd:Int}:Good dd 0 (zdc 5 dd):=⟨⟨by show (_:Int)≤5;decide,by show (5:Int)≤_;decide⟩,rfl,⟨by show (0:Int)≤0;decide,by show (0:Int)≤0;decide⟩,⟨by show (0:Int)≤0;decide,by show (0:Int)≤3000*((0:Nat):Int);decide⟩,⟨by show (0:Int)≤0;decide,by show (0:Int)≤0;decide⟩,⟨by show (0:Int)≤0;decide,by show (0:Int)≤200*((0:Nat):Int);decide⟩,by show (0:Int)≤0;decide,zqC⟩
theorem Good.add {dd:Int} {i:Nat} {s:Ses} (h:Good dd i s) {m:Msg} (hv:valid m=true) {b:By} (hb:b.length≤3000):Good dd (i+1) (zcD s m b):=by
 obtain⟨h1,h2,h3,h4,h5,h6,h7,h8⟩:=h
 obtain⟨_,v2,v3⟩:=zc9 hv
 exact⟨h1,h2,by show 0≤s.step+1∧s.step+1≤_;omega,by show 0≤s.bytes+(b.length:Int)∧s.bytes+(b.length:Int)≤_;omega,by show 0≤s.rounds+1∧s.rounds+1≤_;omega,by show 0≤s.words+(m.sums.length:Int)+2*(m.values.length:Int)∧s.words+(m.sums.length:Int)+2*(m.values.length:Int)≤_;omega,h7,h8⟩
theorem Good.send {dd:Int} {i:Nat} {s:Ses} (h:Good dd i s) (hi:i≤1000) {m:Msg} (hm:m.Ok):Good dd (i+1) (send s m).1:=by
 unfold Go.Proofs.YtmoecjgehdkhkaaDoor.send
 split
 · exact h.mono (by omega)
 · split
   · rename_i hv
     have h1:=h.add hv (b:=enc (zct s m)) zjf
     obtain⟨h1,h2,h3,h4,h5,h6,h7,h8⟩:=h1
     have hst:=h.step
     exact⟨h1,h2,h3,h4,h5,h6,hst.1,⟨hm.kind,h.id,⟨by show _≤s.step;omega,by show s.step≤_;omega⟩,hm.text,hm.sums,hm.values⟩⟩
   · exact h.mono (by omega)
theorem zmb {s:Ses} {m:Msg}:(send s m).2.1.length≤3000:=by
 unfold send
 split
 · simp
 · split
   · exact zjf
   · simp
theorem Good.recv {dd:Int} {i:Nat} {s:Ses} (h:Good dd i s) {b:By} (hb:b.length≤3000) (now:Int):Good dd (i+1) (recv s b now).1:=by
 unfold Go.Proofs.YtmoecjgehdkhkaaDoor.recv
 split
 · exact h.mono (by omega)
 · split
   · obtain⟨h1,h2,h3,h4,h5,h6,h7,h8⟩:=h.mono (show i≤i+1 by omega)
     exact⟨h1,h2,h3,h4,h5,h6,h7,h8⟩
   · split
     · exact h.mono (by omega)
     · rename_i h0
       have hc:(dec b).2=0:=by
        have h0:zc0 s b=0:=by simpa using h0
        unfold zc0 rC at h0
        split at h0
        · rename_i hc;rw [h0] at hc;simp at hc
        · rename_i hc;simpa using hc
       exact h.add (zhS hc) hb
def rw2 (p:Nat → Ses):List AV:=yy (p 0)++yy (p 1)
def upd (p:Nat → Ses) (k:Nat) (x:Ses):Nat → Ses:=fun j=>if j=k then x else p j
section rw
variable {p:Nat → Ses} {k:Nat}
theorem zqN:(rw2 p).length=156:=by simp [rw2,yP]
theorem zgK (hk:k < 2):((rw2 p).drop (k*78)).take 78=yy (p k):=by
 have:k=0 ∨ k=1:=by omega
 rcases this with rfl | rfl
 · rw [Nat.zero_mul,List.drop_zero,rw2,List.take_left' yP]
 · rw [Nat.one_mul,rw2,List.drop_left' yP,zlO]
theorem zqO (hk:k < 2) {j:Nat} (hj:j < 78):(rw2 p)[k*78+j]? = (yy (p k))[j]? := by
 rw [←zgK hk,List.getElem?_take,if_pos hj,List.getElem?_drop]
theorem zBc (hk:k < 2):(rw2 p)[k*78+1]? = some (.p (i64 (p k).step)):=(zqO hk (by omega)).trans zPS
theorem zuc (hk:k < 2):(rw2 p)[k*78+2]? = some (.p (i64 (p k).state)):=(zqO hk (by omega)).trans zPT
theorem zJx (hk:k < 2) {x:Ses}:setAt (rw2 p) (k*78) (yy x)=rw2 (upd p k x):=by
 rw [yQ _ _ _ (by rw [zqN,yP];omega)]
 have:k=0 ∨ k=1:=by omega
 rcases this with rfl | rfl
 · rw [Nat.zero_mul,List.take_zero,yP,rw2,List.drop_left' yP];simp [rw2,upd]
 · rw [Nat.one_mul,yP,rw2,List.take_left' yP,List.drop_of_length_le (by simp [yP])];simp [rw2,upd]
theorem zmc {dd:Int} {i j:Nat} {x:Ses} (h : ∀ k,k < 2 → Good dd i (p k)) (hj:i≤j) (hx:Good dd j x) : ∀ l,l < 2 → Good dd j (upd p k x l):=fun l hl=>by
 unfold upd;split
 · exact hx
 · exact (h l hl).mono hj
end rw
def pB (H:Hp) (p:Nat → Ses) (v:Nat):Hp:=(((H.new (.cells (nC 0 0))).new (.cells (nC 0 0))).new (.cells (rw2 p))).new (.tail v)
def qB (H:Hp) (T:List AB):Nat:=H.n+4+T.length
def pQ (H:Hp) (p:Nat → Ses) (v:Nat) (T L:List AB):Hp:=app (pB H p v) (T++L)
section pq
variable {H:Hp} {p p':Nat → Ses} {v v':Nat} {T L:List AB} {a b c d x:AB}
theorem zBd:(pB H p v).n=H.n+4:=by simp [pB,Hp.n_new]
theorem zJy:(pQ H p v T L).n=H.n+4+T.length+L.length:=by rw [pQ,app_n',zBd,List.length_append];omega
theorem zpA:(pQ H p v T L).new x=pQ H p v T (L++[x]):=by rw [pQ,zaP,List.append_assoc];rfl
theorem zjh {i:Nat} {y:AB} (h:(pB H p v).f i=some y):(pQ H p v T L).f i=some y:=app_f' h
theorem zQI:(pQ H p v T L).f H.n=some (.cells (nC 0 0)):=zjh (by simp (disch:=first|exact zb|fail) only [pB,go_sem,seval])
theorem zQJ:(pQ H p v T L).f (H.n+1)=some (.cells (nC 0 0)):=zjh (by simp (disch:=first|exact zb|fail) only [pB,go_sem,seval])
theorem zKl:(pQ H p v T L).f (H.n+2)=some (.cells (rw2 p)):=zjh (by simp (disch:=first|exact zb|fail) only [pB,go_sem,seval])
theorem zQK:(pQ H p v T L).f (H.n+3)=some (.tail v):=zjh (by simp (disch:=first|exact zb|fail) only [pB,go_sem,seval])
theorem zJz:(pQ H p v T L).set (H.n+2) (.cells (rw2 p'))=pQ H p' v T L:=by
 rw [pQ,zaN (by rw [zBd];omega),pQ];congr 1;simp (disch:=first|exact zb|fail) only [pB,go_sem,seval]
theorem zJA:(pQ H p v T L).set (H.n+3) (.tail v')=pQ H p v' T L:=by
 rw [pQ,zaN (by rw [zBd];omega),pQ];congr 1;simp (disch:=first|exact zb|fail) only [pB,go_sem,seval]
theorem zqP {j:Nat}:(pQ H p v T L).f ((qB H T)+j)=L[j]? := by
 rw [qB,show H.n+4+T.length+j=(pB H p v).n+(T.length+j) by rw [zBd];omega,pQ,zbK,List.getElem?_append_right (by omega),Nat.add_sub_cancel_left]
theorem zKm:(pQ H p v T (a :: L)).f (qB H T)=some a:=(zqP (j:=0)).trans rfl
theorem zKn:(pQ H p v T (a :: b :: L)).f ((qB H T)+1)=some b:=(zqP (j:=1)).trans rfl
theorem zKo:(pQ H p v T (a :: b :: c :: L)).f ((qB H T)+2)=some c:=(zqP (j:=2)).trans rfl
theorem zQL:(pQ H p v T (a :: b :: c :: d :: L)).f ((qB H T)+3)=some d:=(zqP (j:=3)).trans rfl
theorem zji {j:Nat} (hj:j < L.length):(pQ H p v T L).set ((qB H T)+j) x=pQ H p v T (L.set j x):=by
 rw [qB,show H.n+4+T.length+j=(pB H p v).n+(T.length+j) by rw [zBd];omega,pQ,zbM (by rw [List.length_append];omega),List.set_append_right _ _ (by omega),Nat.add_sub_cancel_left];rfl
theorem zQM:(pQ H p v T (a :: L)).set (qB H T) x=pQ H p v T (x :: L):=(zji (j:=0) (by simp)).trans rfl
theorem zKp:(pQ H p v T (a :: b :: L)).set ((qB H T)+1) x=pQ H p v T (a :: x :: L):=(zji (j:=1) (by simp)).trans rfl
theorem zKq:(pQ H p v T (a :: b :: c :: L)).set ((qB H T)+2) x=pQ H p v T (a :: b :: x :: L):=(zji (j:=2) (by simp)).trans rfl
theorem zQN:(pQ H p v T (a :: b :: c :: d :: L)).set ((qB H T)+3) x=pQ H p v T (a :: b :: c :: x :: L):=(zji (j:=3) (by simp)).trans rfl
theorem zQO:(pQ H p v T []).n=(qB H T):=by rw [zJy];rfl
theorem zKr:(pQ H p v T [a]).n=(qB H T)+1:=by rw [zJy];rfl
theorem zKs:(pQ H p v T [a,b]).n=(qB H T)+2:=by rw [zJy];rfl
theorem zQP:(pQ H p v T [a,b,c]).n=(qB H T)+3:=by rw [zJy];rfl
end pq
def pR (H:Hp) (o o':List AV) (p:Nat → Ses) (v:Nat) (T:List AB):Hp:=app ((((H.new (.cells o)).new (.cells o')).new (.cells (rw2 p))).new (.tail v)) T
section pr
variable {H:Hp} {p:Nat → Ses} {v:Nat} {T:List AB} {o o' x:List AV}
theorem zQQ:(pR H o o' p v T).f H.n=some (.cells o):=app_f' (by simp (disch:=first|exact zb|fail) only [go_sem,seval])
theorem zQR:(pR H o o' p v T).f (H.n+1)=some (.cells o'):=app_f' (by simp (disch:=first|exact zb|fail) only [go_sem,seval])
theorem zQS:(pR H o o' p v T).f (H.n+2)=some (.cells (rw2 p)):=app_f' (by simp (disch:=first|exact zb|fail) only [go_sem,seval])
theorem zJB:(pR H o o' p v T).set H.n (.cells x)=pR H x o' p v T:=by
 rw [pR,zaN (by simp only [Hp.n_new];omega),pR];congr 1;simp (disch:=first|exact zb|fail) only [go_sem,seval]
theorem zJC:(pR H o o' p v T).set (H.n+1) (.cells x)=pR H o x p v T:=by
 rw [pR,zaN (by simp only [Hp.n_new];omega),pR];congr 1;simp (disch:=first|exact zb|fail) only [go_sem,seval]
theorem zBe:(pR H o o' p v T).trunc H.n=H:=by
 rw [pR,zd6 (by simp only [Hp.n_new];omega)];simp (disch:=first|exact zb|fail) only [go_sem,seval]
end pr
attribute [go_sem] zQQ zQR zQS zJB zJC zBe zgJ
attribute [go_sem] zQO zKr zKs zQP zKm zKn zKo zQL zQM zKp zKq zQN zpA zQI zQJ zKl zQK zJz zJA zgK zBc zuc zJx zqN
structure PlS where
 i:Nat
 p:Nat → Ses
 P:List By
 T:List AB
def pT (H:Hp) (p:Nat → Ses) (v:Nat) (T:List AB) (a:AB) (o o':Option AB):Hp:=pQ H p v T (a :: (o.toList++o'.toList))
section pt
variable {H:Hp} {p p':Nat → Ses} {v v':Nat} {T L:List AB} {a b c x:AB} {o o':Option AB}
theorem zQT:(pT H p v T a o o').f (H.n+2)=some (.cells (rw2 p)):=zKl
theorem zRL:(pT H p v T a o o').f (qB H T)=some a:=zKm
theorem zQU:(pT H p v T a none none).n=(qB H T)+1:=zKr
theorem zQV:(pT H p v T a (some b) none).n=(qB H T)+2:=zKs
theorem zJD:(pT H p v T a none none).new x=pT H p v T a (some x) none:=zpA
theorem zJE:(pT H p v T a (some b) none).new x=pT H p v T a (some b) (some x):=zpA
theorem zQW:(pT H p v T a (some b) o').f ((qB H T)+1)=some b:=zKn
theorem zQX:(pT H p v T a (some b) (some c)).f ((qB H T)+2)=some c:=zKo
theorem zQY:(pT H p v T a (some b) o').set ((qB H T)+1) x=pT H p v T a (some x) o':=zKp
theorem zQZ:(pT H p v T a (some b) (some c)).set ((qB H T)+2) x=pT H p v T a (some b) (some x):=zKq
end pt
attribute [go_sem] zQT zJD zJE zRL zQU zQV zQW zQX zQY zQZ
def zAct:List AV:=AV.p (b8 0#8) :: AV.p (b8 0#8) :: AV.p (i64 0) :: AV.p (i64 0) :: AV.p (i64 0) :: AV.p (str ByteArray.empty) :: List.map AV.p (pl b8 (List.replicate 32 0#8)++[PV.sl true 1 [],PV.sl true 2 [],b8 0#8,b8 0#8])
theorem zJF:AV.p (b8 0#8) :: AV.p (b8 0#8) :: AV.p (i64 0) :: AV.p (i64 0) :: AV.p (i64 0) :: AV.p (str ByteArray.empty) :: List.map AV.p (pl b8 (List.replicate 32 0#8)++[PV.sl true 1 [],PV.sl true 2 [],b8 0#8,b8 0#8])=zAct:=rfl
theorem zmd:zAct.length=42:=rfl
theorem zBf {x:Act}:setAt zAct 0 (acl x)=acl x:=zH (by rw [zjg,zmd])
theorem zO6 {d:Msg}:setAt mZ 0 (mcl d)=mcl d:=zH (by rw [zV];rfl)
theorem zO7:AV.p (i64 0) :: AV.p (i64 0) :: AV.p (i64 0) :: AV.p (str ByteArray.empty) :: List.map AV.p (pl b8 (List.replicate 32 0#8)++[PV.sl true 1 [],PV.sl true 2 []])=mZ:=by simp [mZ,mG,cl,pl,zao]
theorem zO8:mZ.length=38:=rfl
attribute [go_sem] zJF zmd zBf zO6 zO7 zO8 zl
structure PlQ (n:Nat) (s:PlS):Prop where
 i:s.i≤n
 p : ∀ k,k < 2 → Good 100 s.i (s.p k)
 P:s.P.length≤s.i
 b : ∀ b∈s.P,b.length≤3000
section walks
variable {G:Globs} {r1 r2:Nat} {m1:List (Int × Rule)} {m2:List (Int × Int)}
end walks
end Go.Proofs.YtmoecjgehdkhkaaDoor

/-
  Sessions: the reference's sending and receiving.
-/
namespace Go.Proofs.YtmoecjgehdkhkaaDoor
open Go Go.AL

section zb1
variable {s:Ses}
def zBg (s:Ses):List AV := .p (i64 s.id) :: .p (i64 s.step) :: .p (i64 s.state) :: .p (str (bytesOf s.text)) :: (cl b8 s.seen.val++mcl s.last)
theorem zbR:(zBg s).length=74:=by simp [zBg,yw,zV]
theorem zcv:yy s=zBg s++[.p (i64 s.due),.p (i64 s.bytes),.p (i64 s.rounds),.p (i64 s.words)]:=by rw [yO];simp [zBg]
theorem zO9 {x:Int}:(yy s).set 75 (.p (i64 x))=yy { s with bytes:=x }:=by
 rw [zcv,zcv,List.set_append_right _ _ (by rw [zbR];omega),zbR];rfl
theorem zPa {x:Int}:(yy s).set 76 (.p (i64 x))=yy { s with rounds:=x }:=by
 rw [zcv,zcv,List.set_append_right _ _ (by rw [zbR];omega),zbR];rfl
theorem zPb {x:Int}:(yy s).set 77 (.p (i64 x))=yy { s with words:=x }:=by
 rw [zcv,zcv,List.set_append_right _ _ (by rw [zbR];omega),zbR];rfl
end zb1
attribute [go_sem] zO9 zPa zPb
def qH (H:Hp) (s:Ses) (o z:List AV) (d:Msg):Hp:=(((H.new (.cells (yy s))).new (.cells o)).new (.cells z)).new (.cells (mcl d))
section qh
variable {H:Hp} {s:Ses} {o o' z z':List AV} {d:Msg}
theorem zRM:(qH H s o z d).n=H.n+4:=by simp [qH,Hp.n_new]
theorem zQ0:(qH H s o z d).f H.n=some (.cells (yy s)):=by simp (disch:=first|exact zb|fail) only [qH,go_sem,seval]
theorem zQ1:(qH H s o z d).f (H.n+1)=some (.cells o):=by simp (disch:=first|exact zb|fail) only [qH,go_sem,seval]
theorem zQ2:(qH H s o z d).f (H.n+2)=some (.cells z):=by simp (disch:=first|exact zb|fail) only [qH,go_sem,seval]
theorem zQ3:(qH H s o z d).f (H.n+3)=some (.cells (mcl d)):=by simp (disch:=first|exact zb|fail) only [qH,go_sem,seval]
theorem zJG:(qH H s o z d).set (H.n+1) (.cells o')=qH H s o' z d:=by simp (disch:=first|exact zb|fail) only [qH,go_sem,seval]
theorem zJH:(qH H s o z d).set (H.n+2) (.cells z')=qH H s o z' d:=by simp (disch:=first|exact zb|fail) only [qH,go_sem,seval]
theorem zBh:(qH H s o z d).trunc H.n=H:=by simp (disch:=first|exact zb|fail) only [qH,go_sem,seval]
theorem zPc (h:Bel H.n H):Bel H.n (qH H s o z d):=by
 unfold qH
 exact zK (zK (zK (zK h (Nat.le_refl _)) (by simp only [n_new'];omega)) (by simp only [n_new'];omega)) (by simp only [n_new'];omega)
end qh
attribute [go_sem] zRM zQ0 zQ1 zQ2 zQ3 zJG zJH zBh
theorem zqQ {s:Ses} {m:Msg}:zdT s m=((decide (3≤s.state) || !turn s) || !fits m.kind s.step):=by
 unfold zdT turn bne
 cases s.state == 0<;>simp
def rB (s:Ses) (d:Msg):Bool:=decide (s.step < d.step) || ((s.state != 0 && turn s) || (d.kind != 2 && !decide (d.root.val=s.seen.val)))
theorem zQ4 {s:Ses} {d:Msg}:rB s d=(decide (s.step < d.step) || ((s.state != 0 && zcZ s) || (d.kind != 2 && !decide (d.root.val=s.seen.val)))):=by
 unfold rB turn bne
 cases s.state == 0<;>simp
section walks
variable {G:Globs}
set_option maxHeartbeats 400000 in
set_option maxRecDepth 20000 in
theorem zd1 (s:Ses) (m:Msg) (hm:m.Ok) (hk:1≤m.kind∧m.kind≤7) (b:By) (hb:b.length≤140737488353000) (h1:0≤s.step∧s.step≤1000000000000) (h2:0≤s.bytes∧s.bytes≤1000000000000000000) (h3:0≤s.rounds∧s.rounds≤1000000000000) (h4:0≤s.words∧s.words≤1000000000000000000)
 (H:Hp) (R:AV → Hp → Prop) (h:R (.p (yt (zcD s m b))) H):ACall Tryd.prog G 53 [.p (yt s),.p (yK m),.p (.sl false 1 (pl b8 b))] H R:=by
 have hsu:=hm.sums
 have hva:=hm.values
 have hsl:=s.seen.len
 have hsh:=zah b
 have hp:(pair s.seen.val (sha b)).length=32:=zbi
 refine ACall.of_run (raw:=[]) Tryd.func53 rfl Tryd.ntmps53 (by simp) fun hbel => ?_
 refine .q ?_;refine .text ?_;simp (disch:=first|exact zb|fail) only [go_sem,seval,zl]
 refine .q ?_;refine .text ?_;simp (disch:=first|exact zb|fail) only [go_sem,seval,zl]
 generalize hs1:({ s with step:=s.step+1 }:Ses)=s1
 have hs1l:=s1.seen.len
 have hs1p:(pair s1.seen.val (sha b)).length=32:=zbi
 refine .q ?_;refine .open [6] follows (by kernel_rfl) ?_;simp (disch:=first|exact zb|fail) only [go_sem,seval]
 refine CallD.still (fun R h=>zbA b (by omega) _ R h) ?_;simp (disch:=first|exact zb|fail) only [go_sem,seval,hsh]
 refine CallD.still (fun R h=>zcr _ _ hs1l hsh _ R h) ?_;simp (disch:=first|exact zb|fail) only [go_sem,seval,hs1p]
 generalize hs2:({ s1 with seen:=⟨pair s1.seen.val (sha b),hs1p⟩ }:Ses)=s2
 have e2:s2.bytes=s.bytes:=by subst hs2;subst hs1;rfl
 have e3:s2.rounds=s.rounds:=by subst hs2;subst hs1;rfl
 have e4:s2.words=s.words:=by subst hs2;subst hs1;rfl
 have g2:0≤s2.bytes∧s2.bytes≤1000000000000000000:=by omega
 have g3:0≤s2.rounds∧s2.rounds≤1000000000000:=by omega
 have g4:0≤s2.words∧s2.words≤1000000000000000000:=by omega
 refine .q ?_;refine .text ?_;simp (disch:=first|exact zb|fail) only [go_sem,seval]
 refine .q ?_;refine .text ?_;simp (disch:=first|exact zb|fail) only [go_sem,seval]
 refine .q ?_;refine .text ?_;simp (disch:=first|exact zb|fail) only [go_sem,seval]
 refine .q ?_;refine .text ?_;simp (disch:=first|exact zb|fail) only [go_sem,seval]
 have hfin : ∀ st tx,({ s2 with bytes:=s2.bytes+b.length,rounds:=s2.rounds+1,words:=s2.words+m.sums.length+2*m.values.length,state:=st,text:=tx }:Ses) = { s with step:=s.step+1,seen:=⟨pair s.seen.val (sha b),zbi⟩,bytes:=s.bytes+b.length,rounds:=s.rounds+1,words:=s.words+m.sums.length+2*m.values.length,state:=st,text:=tx }:=fun st tx=>by subst hs2;subst hs1;rfl
 have htx:s2.text=s.text:=by subst hs2;subst hs1;rfl
 unfold zcD at h
 cases c1:m.kind == 1 with
 | true =>
  have k1:m.kind=1:=by simpa using c1
  have hst:(zb2 m.kind).getD 0=1:=by rw [k1];rfl
  rw [if_pos k1,hst,←hfin] at h
  refine .q ?_;refine .text ?_;simp (disch:=first|exact zb|fail) only [go_sem,seval,c1]
  refine .q ?_;refine .ifT (by simp (disch:=first|exact zb|fail) only [go_sem,seval]) ?_
  refine .q ?_;refine .text ?_;simp (disch:=first|exact zb|fail) only [go_sem,seval]
  refine .q ?_;refine .text ?_;simp (disch:=first|exact zb|fail) only [go_sem,seval]
  refine .q ?_;refine .text ?_;simp (disch:=first|exact zb|fail) only [go_sem,seval]
  refine .q ?_;refine .rt Tryd.func53 (by rw [Tryd.results53]) (hR := ?_);simp (disch:=first|exact zb|fail) only [go_sem,seval]
  exact h
 | false =>
  have k1:m.kind≠1:=by simpa using c1
  rw [if_neg k1] at h
  refine .q ?_;refine .text ?_;simp (disch:=first|exact zb|fail) only [go_sem,seval,c1]
  refine .q ?_;refine .ifF (by simp (disch:=first|exact zb|fail) only [go_sem,seval]) ?_
  cases c6:m.kind == 6 with
  | true =>
   have k6:m.kind=6:=by simpa using c6
   have hst:(zb2 m.kind).getD 0=3:=by rw [k6];rfl
   rw [hst,←hfin,←htx] at h
   refine .q ?_;refine .text ?_;simp (disch:=first|exact zb|fail) only [go_sem,seval,c6]
   refine .q ?_;refine .ifT (by simp (disch:=first|exact zb|fail) only [go_sem,seval]) ?_
   refine .q ?_;refine .text ?_;simp (disch:=first|exact zb|fail) only [go_sem,seval]
   refine .q ?_;refine .text ?_;simp (disch:=first|exact zb|fail) only [go_sem,seval]
   refine .q ?_;refine .rt Tryd.func53 (by rw [Tryd.results53]) (hR := ?_);simp (disch:=first|exact zb|fail) only [go_sem,seval]
   exact h
  | false =>
   have k6:m.kind≠6:=by simpa using c6
   refine .q ?_;refine .text ?_;simp (disch:=first|exact zb|fail) only [go_sem,seval,c6]
   refine .q ?_;refine .ifF (by simp (disch:=first|exact zb|fail) only [go_sem,seval]) ?_
   cases c7:m.kind == 7 with
   | true =>
    have k7:m.kind=7:=by simpa using c7
    have hst:(zb2 m.kind).getD 0=4:=by rw [k7];rfl
    rw [hst,←hfin,←htx] at h
    refine .q ?_;refine .text ?_;simp (disch:=first|exact zb|fail) only [go_sem,seval,c7]
    refine .q ?_;refine .ifT (by simp (disch:=first|exact zb|fail) only [go_sem,seval]) ?_
    refine .q ?_;refine .text ?_;simp (disch:=first|exact zb|fail) only [go_sem,seval]
    refine .q ?_;refine .text ?_;simp (disch:=first|exact zb|fail) only [go_sem,seval]
    refine .q ?_;refine .rt Tryd.func53 (by rw [Tryd.results53]) (hR := ?_);simp (disch:=first|exact zb|fail) only [go_sem,seval]
    exact h
   | false =>
    have k7:m.kind≠7:=by simpa using c7
    have hst:(zb2 m.kind).getD 0=2:=by
     have:m.kind=2 ∨ m.kind=3 ∨ m.kind=4 ∨ m.kind=5:=by omega
     rcases this with e | e | e | e<;>rw [e]<;>rfl
    rw [hst,←hfin,←htx] at h
    refine .q ?_;refine .text ?_;simp (disch:=first|exact zb|fail) only [go_sem,seval,c7]
    refine .q ?_;refine .ifF (by simp (disch:=first|exact zb|fail) only [go_sem,seval]) ?_
    refine .q ?_;refine .text ?_;simp (disch:=first|exact zb|fail) only [go_sem,seval]
    refine .q ?_;refine .text ?_;simp (disch:=first|exact zb|fail) only [go_sem,seval]
    refine .q ?_;refine .rt Tryd.func53 (by rw [Tryd.results53]) (hR := ?_);simp (disch:=first|exact zb|fail) only [go_sem,seval]
    exact h
theorem zhi (s:Ses) (hm:s.last.Ok) (H:Hp) (R:AV → Hp → Prop) (h:R (.p (.sl false 1 (pl b8 (enc s.last)))) H):ACall Tryd.prog G 18 [.p (yt s)] H R:=by
 refine ACall.of_run (raw:=[]) Tryd.func18 rfl Tryd.ntmps18 (by simp) fun hbel => ?_
 refine .q ?_;refine .text ?_;simp (disch:=first|exact zb|fail) only [go_sem,seval]
 refine .q ?_;refine .text ?_;simp (disch:=first|exact zb|fail) only [go_sem,seval]
 cases c:s.last.kind == 0 with
 | true =>
  have c':s.last.kind=0:=by simpa using c
  have hv:valid s.last=false:=by
   cases hv:valid s.last with
   | false=>rfl
   | true =>
    have:=zda (zc2 hv).2.2
    omega
  rw [enc,hv] at h
  refine .q ?_;refine .ifT (by simp (disch:=first|exact zb|fail) only [go_sem,seval,c]) ?_
  refine .q ?_;refine .text ?_;simp (disch:=first|exact zb|fail) only [go_sem,seval]
  refine .q ?_;refine .rt Tryd.func18 (by rw [Tryd.results18]) (hR := ?_);simp (disch:=first|exact zb|fail) only [go_sem,seval]
  exact h
 | false =>
  refine .q ?_;refine .ifF (by simp (disch:=first|exact zb|fail) only [go_sem,seval,c]) ?_
  refine .q ?_;refine .text ?_;simp (disch:=first|exact zb|fail) only [go_sem,seval]
  refine CallK.of (fun R h=>zb4 _ hm _ R h) ?_;simp (disch:=first|exact zb|fail) only [go_sem,seval]
  refine .q ?_;refine .rt Tryd.func18 (by rw [Tryd.results18]) (hR := ?_);simp (disch:=first|exact zb|fail) only [go_sem,seval]
  exact h
set_option maxHeartbeats 400000 in
set_option maxRecDepth 20000 in
theorem zey (s:Ses) (hs:s.Ok) (m:Msg) (hm:m.Ok) (H:Hp) (R:AV → Hp → Prop) (h:R (.tup [.p (yt (send s m).1),.p (.sl false 1 (pl b8 (send s m).2.1)),.p (i64 (send s m).2.2)]) H):ACall Tryd.prog G 20 [.p (yt s),.p (yK m)] H R:=by
 have hstep:=hs.step
 have hko:okI s.step:=⟨by omega,by omega⟩
 have hsl:=s.seen.len
 refine ACall.of_run (raw:=[]) Tryd.func20 rfl Tryd.ntmps20 (by simp) fun hbel => ?_
 refine .q ?_;refine .text ?_;simp (disch:=first|exact zb|fail) only [go_sem,seval,zl]
 refine .q ?_;refine .cutE [2,3,4] [(23,.p (bo (zdT s m)))] [] (fun ihE => ?_) (fun env E => ?_)
 rotate_left 1
 simp (disch:=first|exact zb|fail) only [go_sem,seval] at E
 rotate_left 1
 · rw [zqQ] at ihE
   refine .q ?_;refine .text ?_;simp (disch:=first|exact zb|fail) only [go_sem,seval]
   refine CallK.of (fun R h=>zdW s _ R h) ?_;simp (disch:=first|exact zb|fail) only [go_sem,seval]
   cases f1:decide (3≤s.state) with
   | true =>
    rw [f1] at ihE
    simp (disch:=first|exact zb|fail) only [go_sem,seval]
    first | (refine ihE _ _ ?_ ?_) | (refine .z rfl ?_;refine ihE _ _ ?_ ?_) | (refine .z rfl ?_;refine .z rfl ?_;refine ihE _ _ ?_ ?_) | (refine .z rfl ?_;refine .z rfl ?_;refine .z rfl ?_;refine ihE _ _ ?_ ?_)
    · simp (disch:=first|exact zb|fail) only [go_sem,seval]<;>(repeat' (first | rfl | refine And.intro ?_ ?_))
    · first | rfl | (simp (disch:=first|exact zb|fail) only [go_sem,seval]<;>(try rfl))
   | false =>
    rw [f1] at ihE
    simp (disch:=first|exact zb|fail) only [go_sem,seval]
    refine CallK.of (fun R h=>zer s hstep.1 hs.last _ R h) ?_;simp (disch:=first|exact zb|fail) only [go_sem,seval]
    cases f2:turn s with
    | false =>
     rw [f2] at ihE
     simp (disch:=first|exact zb|fail) only [go_sem,seval,f2]
     first | (refine ihE _ _ ?_ ?_) | (refine .z rfl ?_;refine ihE _ _ ?_ ?_) | (refine .z rfl ?_;refine .z rfl ?_;refine ihE _ _ ?_ ?_) | (refine .z rfl ?_;refine .z rfl ?_;refine .z rfl ?_;refine ihE _ _ ?_ ?_)
     · simp (disch:=first|exact zb|fail) only [go_sem,seval]<;>(repeat' (first | rfl | refine And.intro ?_ ?_))
     · first | rfl | (simp (disch:=first|exact zb|fail) only [go_sem,seval]<;>(try rfl))
    | true =>
     rw [f2] at ihE
     simp (disch:=first|exact zb|fail) only [go_sem,seval,f2]
     refine CallK.of (fun R h=>zes _ _ _ R h) ?_;simp (disch:=first|exact zb|fail) only [go_sem,seval]
     first | (refine ihE _ _ ?_ ?_) | (refine .z rfl ?_;refine ihE _ _ ?_ ?_) | (refine .z rfl ?_;refine .z rfl ?_;refine ihE _ _ ?_ ?_) | (refine .z rfl ?_;refine .z rfl ?_;refine .z rfl ?_;refine ihE _ _ ?_ ?_)
     · simp (disch:=first|exact zb|fail) only [go_sem,seval]<;>(repeat' (first | rfl | refine And.intro ?_ ?_))
     · first | rfl | (simp (disch:=first|exact zb|fail) only [go_sem,seval]<;>(try rfl))
 · unfold send at h
   cases hbad:zdT s m with
   | true =>
    rw [hbad,if_pos rfl] at h
    refine .q ?_;refine .ifT (by simp (disch:=first|exact zb|fail) only [go_sem,seval,E,hbad]) ?_
    refine .q ?_;refine .text ?_;simp (disch:=first|exact zb|fail) only [go_sem,seval,E,yh]
    refine .q ?_;refine .rt Tryd.func20 (by rw [Tryd.results20]) (hx:=by simp (disch:=first|exact zb|fail) only [go_sem,seval,E];rfl) (hR := ?_);simp (disch:=first|exact zb|fail) only [go_sem,seval,E]
    exact h
   | false =>
    have hfk:1≤m.kind∧m.kind≤7:=by
     rw [zqQ] at hbad
     simp only [Bool.or_eq_false_iff,Bool.not_eq_false'] at hbad
     exact zda hbad.2
    rw [hbad] at h
    simp only [Bool.false_eq_true,if_false] at h
    refine .q ?_;refine .ifF (by simp (disch:=first|exact zb|fail) only [go_sem,seval,E,hbad]) ?_
    refine .q ?_;refine .text ?_;simp (disch:=first|exact zb|fail) only [go_sem,seval,E,yh]
    refine .q ?_;refine .text ?_;simp (disch:=first|exact zb|fail) only [go_sem,seval,E]
    refine .q ?_;refine .text ?_;simp (disch:=first|exact zb|fail) only [go_sem,seval,E]
    have hm2:(zct s m).Ok:=⟨hm.kind,hs.id,hko,hm.text,hm.sums,hm.values⟩
    have hk2:1≤(zct s m).kind∧(zct s m).kind≤7:=hfk
    refine .q ?_;refine .cutE [2,3,4] [] [(H.n+1,.cells (mcl (zct s m)))] (fun ihF => ?_) (fun env F => ?_)
    rotate_left 1
    simp (disch:=first|exact zb|fail) only [go_sem,seval,E] at F
    rotate_left 1
    · unfold zct at ihF
      cases hk:m.kind != 2 with
      | true =>
       rw [hk] at ihF
       simp only [if_true] at ihF
       refine .q ?_;refine .ifT (by simp (disch:=first|exact zb|fail) only [go_sem,seval,hk]) ?_
       refine .q ?_;refine .text ?_;simp (disch:=first|exact zb|fail) only [go_sem,seval,E]
       first | (refine ihF _ _ ?_ ?_) | (refine .z rfl ?_;refine ihF _ _ ?_ ?_) | (refine .z rfl ?_;refine .z rfl ?_;refine ihF _ _ ?_ ?_) | (refine .z rfl ?_;refine .z rfl ?_;refine .z rfl ?_;refine ihF _ _ ?_ ?_)
       · simp (disch:=first|exact zb|fail) only [go_sem,seval,E]<;>(repeat' (first | rfl | refine And.intro ?_ ?_))
       · first | rfl | (simp (disch:=first|exact zb|fail) only [go_sem,seval,E]<;>(try rfl))
      | false =>
       rw [hk] at ihF
       simp only [Bool.false_eq_true,if_false] at ihF
       refine .q ?_;refine .ifF (by simp (disch:=first|exact zb|fail) only [go_sem,seval,hk]) ?_
       refine .skip ?_
       first | (refine ihF _ _ ?_ ?_) | (refine .z rfl ?_;refine ihF _ _ ?_ ?_) | (refine .z rfl ?_;refine .z rfl ?_;refine ihF _ _ ?_ ?_) | (refine .z rfl ?_;refine .z rfl ?_;refine .z rfl ?_;refine ihF _ _ ?_ ?_)
       · simp (disch:=first|exact zb|fail) only [go_sem,seval,E]<;>(repeat' (first | rfl | refine And.intro ?_ ?_))
       · first | rfl | (simp (disch:=first|exact zb|fail) only [go_sem,seval,E]<;>(try rfl))
    · generalize zct s m=M at *
      refine .q ?_;refine .text ?_;simp (disch:=first|exact zb|fail) only [go_sem,seval,F,E,zaE,yh]
      refine CallK.of (fun R h=>zb4 M hm2 _ R h) ?_;simp (disch:=first|exact zb|fail) only [go_sem,seval]
      refine .q ?_;refine .text ?_;simp (disch:=first|exact zb|fail) only [go_sem,seval,F,E]
      cases hv:valid M with
      | false =>
       have he:enc M=[]:=by rw [enc,hv];rfl
       rw [hv] at h
       simp only [Bool.false_eq_true,if_false] at h
       refine .q ?_;refine .ifT (by simp (disch:=first|exact zb|fail) only [go_sem,seval,he]) ?_
       refine .q ?_;refine .text ?_;simp (disch:=first|exact zb|fail) only [go_sem,seval,F,E]
       refine .q ?_;refine .rt Tryd.func20 (by rw [Tryd.results20]) (hx:=by simp (disch:=first|exact zb|fail) only [go_sem,seval,F,E];rfl) (hR := ?_);simp (disch:=first|exact zb|fail) only [go_sem,seval,F,E]
       exact h
      | true =>
       rw [hv] at h
       simp only [if_true] at h
       have hlen:=zfd hv
       generalize enc M=e at *
       have hne:((e.length:Int) == 0)=false:=beq_eq_false_iff_ne.2 (by omega)
       refine .q ?_;refine .ifF (by simp (disch:=first|exact zb|fail) only [go_sem,seval,hne]) ?_
       refine .q ?_;refine .text ?_;simp (disch:=first|exact zb|fail) only [go_sem,seval,F,E]
       refine CallK.of (fun R h=>zd1 s M hm2 hk2 e (by omega) hs.step hs.bytes hs.rounds hs.words _ R h) ?_;simp (disch:=first|exact zb|fail) only [go_sem,seval,zl]
       refine .q ?_;refine .text ?_;simp (disch:=first|exact zb|fail) only [go_sem,seval,F,E]
       refine .q ?_;refine .text ?_;simp (disch:=first|exact zb|fail) only [go_sem,seval,F,E]
       refine .q ?_;refine .rt Tryd.func20 (by rw [Tryd.results20]) (hx:=by simp (disch:=first|exact zb|fail) only [go_sem,seval,F,E];rfl) (hR := ?_);simp (disch:=first|exact zb|fail) only [go_sem,seval,F,E]
       exact h
set_option maxHeartbeats 1000000 in
set_option maxRecDepth 20000 in
theorem zgL (s:Ses) (hs:s.Ok) (b:By) (hb:b.length≤140737488353000) (now:Int) (H:Hp) (R:AV → Hp → Prop) (h:R (.tup [.p (yt (recv s b now).1),.p (yK (recv s b now).2.1),.p (i64 (recv s b now).2.2)]) H):ACall Tryd.prog G 24 [.p (yt s),.p (.sl false 1 (pl b8 b)),.p (i64 now)] H R:=by
 have hstep:=hs.step
 have hz:(List.replicate 32 0#8:By).length=32:=List.length_replicate
 have hzd:AV.p (i64 0) :: AV.p (i64 0) :: AV.p (i64 0) :: AV.p (str ByteArray.empty) :: List.map AV.p (pl b8 (List.replicate 32 0#8)++[PV.sl true 1 [],PV.sl true 2 []])=mZ:=by simp [mZ,mG,cl,pl,zao]
 have hzl:mZ.length=38:=rfl
 unfold recv at h
 refine ACall.of_run (raw:=[]) Tryd.func24 rfl Tryd.ntmps24 (by simp) fun hbel => ?_
 refine .q ?_;refine .text ?_;simp (disch:=first|exact zb|fail) only [go_sem,seval,-List.reduceReplicate,zl,hzd]
 refine .q ?_;refine .text ?_;simp (disch:=first|exact zb|fail) only [go_sem,seval,-List.reduceReplicate]
 refine CallK.of (fun R h=>zdW s _ R h) ?_;simp (disch:=first|exact zb|fail) only [go_sem,seval,-List.reduceReplicate]
 by_cases c1:3≤s.state
 · have d1:decide (3≤s.state)=true:=decide_eq_true c1
   rw [if_pos c1] at h
   refine .q ?_;refine .ifT (by simp (disch:=first|exact zb|fail) only [go_sem,seval,-List.reduceReplicate,d1]) ?_
   refine .q ?_;refine .text ?_;simp (disch:=first|exact zb|fail) only [go_sem,seval,-List.reduceReplicate,hzl,hz,mZ]
   refine .q ?_;refine .rt Tryd.func24 (by rw [Tryd.results24]) (hx:=by simp (disch:=first|exact zb|fail) only [go_sem,seval,-List.reduceReplicate,hz,mZ];rfl) (hR := ?_);simp (disch:=first|exact zb|fail) only [go_sem,seval,-List.reduceReplicate,hz,mZ]
   exact h
 · have d1:decide (3≤s.state)=false:=decide_eq_false c1
   rw [if_neg c1] at h
   refine .q ?_;refine .ifF (by simp (disch:=first|exact zb|fail) only [go_sem,seval,-List.reduceReplicate,d1]) ?_
   refine .q ?_;refine .text ?_;simp (disch:=first|exact zb|fail) only [go_sem,seval,-List.reduceReplicate]
   by_cases c2:s.due < now
   · have d2:decide (s.due < now)=true:=decide_eq_true c2
     rw [if_pos c2] at h
     refine .q ?_;refine .ifT (by simp (disch:=first|exact zb|fail) only [go_sem,seval,-List.reduceReplicate,d2]) ?_
     refine .q ?_;refine .text ?_;simp (disch:=first|exact zb|fail) only [go_sem,seval,-List.reduceReplicate]
     refine .q ?_;refine .text ?_;simp (disch:=first|exact zb|fail) only [go_sem,seval,-List.reduceReplicate,hzl,hz,mZ]
     refine .q ?_;refine .rt Tryd.func24 (by rw [Tryd.results24]) (hx:=by simp (disch:=first|exact zb|fail) only [go_sem,seval,-List.reduceReplicate,hz,mZ];rfl) (hR := ?_);simp (disch:=first|exact zb|fail) only [go_sem,seval,-List.reduceReplicate,hz,mZ]
     exact h
   · have d2:decide (s.due < now)=false:=decide_eq_false c2
     rw [if_neg c2] at h
     obtain⟨hdo,hds⟩:=zpn b
     have hdv:=zhS (b:=b)
     refine .q ?_;refine .ifF (by simp (disch:=first|exact zb|fail) only [go_sem,seval,-List.reduceReplicate,d2]) ?_
     refine .q ?_;refine .text ?_;simp (disch:=first|exact zb|fail) only [go_sem,seval,-List.reduceReplicate]
     refine CallK.of (fun R h=>zdh b (by omega) _ R h) ?_;simp (disch:=first|exact zb|fail) only [go_sem,seval,-List.reduceReplicate]
     unfold zc0 at h
     simp only [ne_eq] at h
     generalize (dec b).1=d at *
     generalize (dec b).2=code at *
     have hdr:=d.root.len
     have hsr:=s.seen.len
     refine .q ?_;refine .text ?_;simp (disch:=first|exact zb|fail) only [go_sem,seval,-List.reduceReplicate]
     unfold rC at h
     cases c3:code != 0 with
     | true =>
      have c3' : ¬ code=0:=by simpa using c3
      rw [c3] at h
      simp only [if_true,c3',not_false_eq_true] at h
      refine .q ?_;refine .ifT (by simp (disch:=first|exact zb|fail) only [go_sem,seval,-List.reduceReplicate,c3]) ?_
      refine .q ?_;refine .text ?_;simp (disch:=first|exact zb|fail) only [go_sem,seval,-List.reduceReplicate,hzl,hz,mZ]
      refine .q ?_;refine .rt Tryd.func24 (by rw [Tryd.results24]) (hx:=by simp (disch:=first|exact zb|fail) only [go_sem,seval,-List.reduceReplicate,hz,mZ];rfl) (hR := ?_);simp (disch:=first|exact zb|fail) only [go_sem,seval,-List.reduceReplicate,hz,mZ]
      exact h
     | false =>
     have c3':code=0:=by simpa using c3
     have hk:=zda (zc2 (hdv c3')).2.2
     rw [c3] at h
     simp only [Bool.false_eq_true,if_false] at h
     refine .q ?_;refine .ifF (by simp (disch:=first|exact zb|fail) only [go_sem,seval,-List.reduceReplicate,c3]) ?_
     refine .q ?_;refine .text ?_;simp (disch:=first|exact zb|fail) only [go_sem,seval,-List.reduceReplicate]
     cases c4:d.session != s.id with
     | true =>
      rw [c4] at h
      simp only [if_true,Int.reduceEq,not_false_eq_true] at h
      refine .q ?_;refine .ifT (by simp (disch:=first|exact zb|fail) only [go_sem,seval,-List.reduceReplicate,c4]) ?_
      refine .q ?_;refine .text ?_;simp (disch:=first|exact zb|fail) only [go_sem,seval,-List.reduceReplicate,hzl,hz,mZ]
      refine .q ?_;refine .rt Tryd.func24 (by rw [Tryd.results24]) (hx:=by simp (disch:=first|exact zb|fail) only [go_sem,seval,-List.reduceReplicate,hz,mZ];rfl) (hR := ?_);simp (disch:=first|exact zb|fail) only [go_sem,seval,-List.reduceReplicate,hz,mZ]
      exact h
     | false =>
     rw [c4] at h
     simp only [Bool.false_eq_true,if_false] at h
     refine .q ?_;refine .ifF (by simp (disch:=first|exact zb|fail) only [go_sem,seval,-List.reduceReplicate,c4]) ?_
     refine .q ?_;refine .text ?_;simp (disch:=first|exact zb|fail) only [go_sem,seval,-List.reduceReplicate]
     cases c5:decide (d.step < s.step) with
     | true =>
      rw [c5] at h
      simp only [if_true,Int.reduceEq,not_false_eq_true] at h
      refine .q ?_;refine .ifT (by simp (disch:=first|exact zb|fail) only [go_sem,seval,-List.reduceReplicate,c5]) ?_
      refine .q ?_;refine .text ?_;simp (disch:=first|exact zb|fail) only [go_sem,seval,-List.reduceReplicate,hzl,hz,mZ]
      refine .q ?_;refine .rt Tryd.func24 (by rw [Tryd.results24]) (hx:=by simp (disch:=first|exact zb|fail) only [go_sem,seval,-List.reduceReplicate,hz,mZ];rfl) (hR := ?_);simp (disch:=first|exact zb|fail) only [go_sem,seval,-List.reduceReplicate,hz,mZ]
      exact h
     | false =>
     rw [c5] at h
     simp only [Bool.false_eq_true,if_false] at h
     rw [←zQ4] at h
     refine .q ?_;refine .ifF (by simp (disch:=first|exact zb|fail) only [go_sem,seval,-List.reduceReplicate,c5]) ?_
     refine .q ?_;refine .cutE [1,3,6,7,9] [(71,.p (bo (rB s d)))] [] (fun ihE => ?_) (fun env E => ?_)
     rotate_left 1
     simp (disch:=first|exact zb|fail) only [go_sem,seval,-List.reduceReplicate] at E
     rotate_left 1
     · unfold rB at ihE
       refine .q ?_;refine .text ?_;simp (disch:=first|exact zb|fail) only [go_sem,seval,-List.reduceReplicate]
       cases f1:decide (s.step < d.step) with
       | true =>
        rw [f1,Bool.true_or] at ihE
        simp (disch:=first|exact zb|fail) only [go_sem,seval,-List.reduceReplicate,f1]
        first | (refine ihE _ _ ?_ ?_) | (refine .z rfl ?_;refine ihE _ _ ?_ ?_) | (refine .z rfl ?_;refine .z rfl ?_;refine ihE _ _ ?_ ?_) | (refine .z rfl ?_;refine .z rfl ?_;refine .z rfl ?_;refine ihE _ _ ?_ ?_)
        · simp (disch:=first|exact zb|fail) only [go_sem,seval,-List.reduceReplicate]<;>(repeat' (first | rfl | refine And.intro ?_ ?_))
        · first | rfl | (simp (disch:=first|exact zb|fail) only [go_sem,seval,-List.reduceReplicate]<;>(try rfl))
       | false =>
        rw [f1,Bool.false_or] at ihE
        simp (disch:=first|exact zb|fail) only [go_sem,seval,-List.reduceReplicate,f1]
        cases f2:s.state != 0 with
        | false =>
         rw [f2,Bool.false_and,Bool.false_or] at ihE
         simp (disch:=first|exact zb|fail) only [go_sem,seval,-List.reduceReplicate,f2]
         cases f4:d.kind != 2 with
         | false =>
          rw [f4] at ihE
          simp (disch:=first|exact zb|fail) only [go_sem,seval,-List.reduceReplicate,f4]
          first | (refine ihE _ _ ?_ ?_) | (refine .z rfl ?_;refine ihE _ _ ?_ ?_) | (refine .z rfl ?_;refine .z rfl ?_;refine ihE _ _ ?_ ?_) | (refine .z rfl ?_;refine .z rfl ?_;refine .z rfl ?_;refine ihE _ _ ?_ ?_)
          · simp (disch:=first|exact zb|fail) only [go_sem,seval,-List.reduceReplicate]<;>(repeat' (first | rfl | refine And.intro ?_ ?_))
          · first | rfl | (simp (disch:=first|exact zb|fail) only [go_sem,seval,-List.reduceReplicate]<;>(try rfl))
         | true =>
          rw [f4] at ihE
          simp (disch:=first|exact zb|fail) only [go_sem,seval,-List.reduceReplicate,f4]
          first | (refine ihE _ _ ?_ ?_) | (refine .z rfl ?_;refine ihE _ _ ?_ ?_) | (refine .z rfl ?_;refine .z rfl ?_;refine ihE _ _ ?_ ?_) | (refine .z rfl ?_;refine .z rfl ?_;refine .z rfl ?_;refine ihE _ _ ?_ ?_)
          · simp (disch:=first|exact zb|fail) only [go_sem,seval,-List.reduceReplicate]<;>(repeat' (first | rfl | refine And.intro ?_ ?_))
          · first | rfl | (simp (disch:=first|exact zb|fail) only [go_sem,seval,-List.reduceReplicate]<;>(try rfl))
        | true =>
         rw [f2,Bool.true_and] at ihE
         simp (disch:=first|exact zb|fail) only [go_sem,seval,-List.reduceReplicate,f2]
         refine CallK.of (fun R h=>zer s hstep.1 hs.last _ R h) ?_;simp (disch:=first|exact zb|fail) only [go_sem,seval,-List.reduceReplicate]
         cases f3:turn s with
         | true =>
          rw [f3,Bool.true_or] at ihE
          simp (disch:=first|exact zb|fail) only [go_sem,seval,-List.reduceReplicate,f3]
          first | (refine ihE _ _ ?_ ?_) | (refine .z rfl ?_;refine ihE _ _ ?_ ?_) | (refine .z rfl ?_;refine .z rfl ?_;refine ihE _ _ ?_ ?_) | (refine .z rfl ?_;refine .z rfl ?_;refine .z rfl ?_;refine ihE _ _ ?_ ?_)
          · simp (disch:=first|exact zb|fail) only [go_sem,seval,-List.reduceReplicate]<;>(repeat' (first | rfl | refine And.intro ?_ ?_))
          · first | rfl | (simp (disch:=first|exact zb|fail) only [go_sem,seval,-List.reduceReplicate]<;>(try rfl))
         | false =>
          rw [f3,Bool.false_or] at ihE
          simp (disch:=first|exact zb|fail) only [go_sem,seval,-List.reduceReplicate,f3]
          cases f4:d.kind != 2 with
          | false =>
           rw [f4] at ihE
           simp (disch:=first|exact zb|fail) only [go_sem,seval,-List.reduceReplicate,f4]
           first | (refine ihE _ _ ?_ ?_) | (refine .z rfl ?_;refine ihE _ _ ?_ ?_) | (refine .z rfl ?_;refine .z rfl ?_;refine ihE _ _ ?_ ?_) | (refine .z rfl ?_;refine .z rfl ?_;refine .z rfl ?_;refine ihE _ _ ?_ ?_)
           · simp (disch:=first|exact zb|fail) only [go_sem,seval,-List.reduceReplicate]<;>(repeat' (first | rfl | refine And.intro ?_ ?_))
           · first | rfl | (simp (disch:=first|exact zb|fail) only [go_sem,seval,-List.reduceReplicate]<;>(try rfl))
          | true =>
           rw [f4] at ihE
           simp (disch:=first|exact zb|fail) only [go_sem,seval,-List.reduceReplicate,f4]
           first | (refine ihE _ _ ?_ ?_) | (refine .z rfl ?_;refine ihE _ _ ?_ ?_) | (refine .z rfl ?_;refine .z rfl ?_;refine ihE _ _ ?_ ?_) | (refine .z rfl ?_;refine .z rfl ?_;refine .z rfl ?_;refine ihE _ _ ?_ ?_)
           · simp (disch:=first|exact zb|fail) only [go_sem,seval,-List.reduceReplicate]<;>(repeat' (first | rfl | refine And.intro ?_ ?_))
           · first | rfl | (simp (disch:=first|exact zb|fail) only [go_sem,seval,-List.reduceReplicate]<;>(try rfl))
     · cases c6:rB s d with
       | true =>
        rw [c6] at h
        simp only [if_true,Int.reduceEq,not_false_eq_true] at h
        refine .q ?_;refine .ifT (by simp (disch:=first|exact zb|fail) only [go_sem,seval,-List.reduceReplicate,E,c6]) ?_
        refine .q ?_;refine .text ?_;simp (disch:=first|exact zb|fail) only [go_sem,seval,-List.reduceReplicate,E,yh,hzl,hz,mZ]
        refine .q ?_;refine .rt Tryd.func24 (by rw [Tryd.results24]) (hx:=by simp (disch:=first|exact zb|fail) only [go_sem,seval,-List.reduceReplicate,E,hz,mZ];rfl) (hR := ?_);simp (disch:=first|exact zb|fail) only [go_sem,seval,-List.reduceReplicate,E,hz,mZ]
        exact h
       | false =>
        rw [c6] at h
        simp only [Bool.false_eq_true,if_false,not_true_eq_false] at h
        refine .q ?_;refine .ifF (by simp (disch:=first|exact zb|fail) only [go_sem,seval,-List.reduceReplicate,E,c6]) ?_
        rw [yh]
        have ha : ∀ o z R,R (.p (yt (zcD s d b))) (qH H s o z d) → ACall Tryd.prog G 53 [.p (yt s),.p (yK d),.p (.sl false 1 (pl b8 b))] (qH H s o z d) R:=fun o z R h=>zd1 s d hdo hk b hb hs.step hs.bytes hs.rounds hs.words _ R h
        have hbel : ∀ o z,Bel H.n (qH H s o z d):=fun o z=>zPc hbel
        change ARun _ _ _ (qH H s (nC 0 0) mZ d) R
        generalize zcD s d b=X at *
        (refine .q ?_)
        refine .openInv (fun L env' H'=>kF env' [(1,.p (.sl false 1 (pl b8 b))),(3,.ptr H.n 0),(6,.ptr (H.n+1) 0),(7,.ptr (H.n+2) 0),(9,.ptr (H.n+3) 0)]∧kI L env' [(0,74,.p (yt s)),(1,75,.p (yK d)),(2,76,.p (.sl false 1 (pl b8 b))),(3,77,.p (yt X)),(4,78,.p (yK d)),(7,8,.p (i64 0))]∧(L 5=true → allT L [0,1,2,3])∧(L 6=true → allT L [0,1,2,3,4,5])∧H'=(qH H s (if L 5 then yy X else nC 0 0) (if L 6 then mcl d else mZ) d)) follows (by kernel_rfl) ?_ ?_ ?_
        · exact⟨(by simp (disch:=first|exact zb|fail) only [go_sem,seval,-List.reduceReplicate,kFi,kFn,and_self,E,hzl,zH,zV]),(fun _ _ h=>by cases h),(fun h=>by cases h),(fun h=>by cases h),(by first | rfl | (simp only [Bool.false_eq_true,if_false];first | rfl | (simp (disch:=first|exact zb|fail) only [go_sem,seval,-List.reduceReplicate,E,hzl,zH,zV]<;>rfl)))⟩
        · intro i o L env' H' ho hL hall hI
          obtain⟨KF,KG,m5,m6,rfl⟩:=hI
          rcases i with _ | _ | _ | _ | _ | _ | _ | _ | i
          · cases ho;have n5:=ya m5 hL;have n6:=ya m6 hL;have f1:=zJ KF 1 rfl;refine zf (.p (yt s)) rfl rfl (by simp (disch:=first|exact zb|fail) only [go_sem,seval,-List.reduceReplicate,reduceIte,Bool.false_eq_true,if_false,if_true,f1,n5,n6,hL,hzl,zH,zV]<;>rfl) rfl ?_;exact⟨zx KF,zA KG,ka m5,ka m6,(by rw [za (by decide),za (by decide)])⟩
          · cases ho;have n5:=ya m5 hL;have n6:=ya m6 hL;have f4:=zJ KF 4 rfl;refine zf (.p (yK d)) rfl rfl (by simp (disch:=first|exact zb|fail) only [go_sem,seval,-List.reduceReplicate,reduceIte,Bool.false_eq_true,if_false,if_true,f4,n5,n6,hL,hzl,zH,zV]<;>rfl) rfl ?_;exact⟨zx KF,zA KG,ka m5,ka m6,(by rw [za (by decide),za (by decide)])⟩
          · cases ho;have f0:=zJ KF 0 rfl;refine zf (.p (.sl false 1 (pl b8 b))) rfl rfl (by simp (disch:=first|exact zb|fail) only [go_sem,seval,-List.reduceReplicate,f0,hzl,zH,zV]<;>rfl) rfl ?_;exact⟨zx KF,zA KG,ka m5,ka m6,(by rw [za (by decide),za (by decide)])⟩
          · cases ho;have d0:=zn KG 0 rfl (kL hall 0 rfl rfl);have d1:=zn KG 1 rfl (kL hall 1 rfl rfl);have d2:=zn KG 2 rfl (kL hall 2 rfl rfl);have n5:=ya m5 hL;have n6:=ya m6 hL;(try simp only [n5,n6,if_true,if_false,Bool.false_eq_true]);refine ym rfl rfl (by simp (disch:=first|exact zb|fail) only [go_sem,seval,-List.reduceReplicate,reduceIte,Bool.false_eq_true,if_false,if_true,d0,d1,d2,n5,n6,hL,hzl,zH,zV]<;>rfl) rfl (by simp (disch:=first|exact zb|fail) only [go_sem,seval,-List.reduceReplicate,reduceIte,Bool.false_eq_true,if_false,if_true,d0,d1,d2,n5,n6,hL,hzl,zH,zV]<;>rfl) (fun R h=>ha _ _ R h) ?_;exact⟨zx KF,zA KG,ka m5,ka m6,(by (have e5:more L 3 5=L 5:=za (by decide));(have e6:more L 3 6=L 6:=za (by decide));(try simp only [e5,e6,n5,n6]);first | done | rfl | (simp only [e5,e6,n5,n6,if_true,if_false,Bool.false_eq_true];first | done | rfl | (simp (disch:=first|exact zb|fail) only [go_sem,seval,-List.reduceReplicate,e5,e6,n5,n6,hzl,zH,zV]<;>rfl)))⟩
          · cases ho;have n6:=ya m6 hL;have f4:=zJ KF 4 rfl;refine zf (.p (yK d)) rfl rfl (by simp (disch:=first|exact zb|fail) only [go_sem,seval,-List.reduceReplicate,reduceIte,Bool.false_eq_true,if_false,if_true,f4,n6,hL,hzl,zH,zV]<;>rfl) rfl ?_;exact⟨zx KF,zA KG,ka m5,ka m6,(by rw [za (by decide),za (by decide)])⟩
          · cases ho;have h3:=kL hall 0 rfl rfl;have d3:=zn KG 3 rfl h3;have h0:=kL hall 2 rfl rfl;have h1:=kL hall 3 rfl rfl;have h2:=kL hall 4 rfl rfl;have n6:=ya m6 hL;have f2:=zJ KF 2 rfl;refine yb rfl rfl (by simp (disch:=first|exact zb|fail) only [go_sem,seval,-List.reduceReplicate,reduceIte,Bool.false_eq_true,if_false,if_true,f2,d3,n6,hL,hzl,zH,zV]<;>rfl) rfl ?_;exact⟨KF,kIs KG,(fun _=>kt (zc h0 (zc h1 (zc h2 (zc h3 zv))))),ka m6,(by (have e5:more L 5 5=true:=zr);(have e6:more L 5 6=L 6:=za (by decide));(try simp only [e5,e6,n6,hL]);first | done | rfl | (simp only [e5,e6,n6,hL,if_true,if_false,Bool.false_eq_true];first | done | rfl | (simp (disch:=first|exact zb|fail) only [go_sem,seval,-List.reduceReplicate,e5,e6,n6,hL,hzl,zH,zV]<;>rfl)))⟩
          · cases ho;have h4:=kL hall 0 rfl rfl;have d4:=zn KG 4 rfl h4;have h5:=kL hall 1 rfl rfl;have h0:=kL hall 2 rfl rfl;have h1:=kL hall 3 rfl rfl;have h2:=kL hall 4 rfl rfl;have h3:=kL hall 5 rfl rfl;have f3:=zJ KF 3 rfl;refine yb rfl rfl (by simp (disch:=first|exact zb|fail) only [go_sem,seval,-List.reduceReplicate,reduceIte,Bool.false_eq_true,if_false,if_true,f3,d4,h5,hL,hzl,zH,zV]<;>rfl) rfl ?_;exact⟨KF,kIs KG,ka m5,(fun _=>kt (zc h0 (zc h1 (zc h2 (zc h3 (zc h4 (zc h5 zv))))))),(by (have e5:more L 6 5=L 5:=za (by decide));(have e6:more L 6 6=true:=zr);(try simp only [e5,e6,h5,hL]);first | done | rfl | (simp only [e5,e6,h5,hL,if_true,if_false,Bool.false_eq_true];first | done | rfl | (simp (disch:=first|exact zb|fail) only [go_sem,seval,-List.reduceReplicate,e5,e6,h5,hL,hzl,zH,zV]<;>rfl)))⟩
          · cases ho;refine zf (.p (i64 0)) rfl rfl (by simp (disch:=first|exact zb|fail) only [go_sem,seval,-List.reduceReplicate,hzl,zH,zV]<;>rfl) rfl ?_;exact⟨zx KF,zA KG,ka m5,ka m6,(by rw [za (by decide),za (by decide)])⟩
          · simp at ho
        · intro L env' H' hall hI
          obtain⟨KF,KG,_,_,rfl⟩:=hI
          have l5:=hall 5 (by decide)
          have l6:=hall 6 (by decide)
          have f0:=zJ KF 0 rfl
          have f1:=zJ KF 1 rfl
          have f2:=zJ KF 2 rfl
          have f3:=zJ KF 3 rfl
          have f4:=zJ KF 4 rfl
          have g7:=zn KG 5 rfl (hall 7 (by decide))
          simp only [l5,l6,if_true]
          clear hall
          refine .q ?_;refine .rt Tryd.func24 (by rw [Tryd.results24]) (hx:=by simp (disch:=first|exact zb|fail) only [go_sem,seval,-List.reduceReplicate,f2,f3,g7];rfl) (hR := ?_);simp (disch:=first|exact zb|fail) only [go_sem,seval,-List.reduceReplicate,f2,f3,g7]
          exact h
end walks
end Go.Proofs.YtmoecjgehdkhkaaDoor

/-
  Sessions: every string that is decoded is the encoding of its message.
-/
namespace Go.Proofs.YtmoecjgehdkhkaaDoor
open Go Go.AL

section walks
variable {G:Globs} {r1 r2:Nat} {m1:List (Int × Rule)} {m2:List (Int × Int)}
end walks
end Go.Proofs.YtmoecjgehdkhkaaDoor

/-
  Sessions: the package-level maps,read from what the rows say is laid.
-/
namespace Go.Proofs.YtmoecjgehdkhkaaDoor
open Go Go.AL Go.WideElems

section maps
variable {H:Type} {enc:TypeId × Value → H} {P:Program} {W:World} {sp:Nat → Bool} {held:Bool} {t k e:TypeId} {α:Type}
theorem insert_perm {x:Lit × DataW H} : ∀ l,(DataW.insert x l).Perm (x :: l)
 | [] => .refl _
 | y :: r=>by
  unfold DataW.insert
  split
  · exact .refl _
  · exact ((insert_perm r).cons y).trans (.swap x y r)
theorem sorted_perm : ∀ l:List (Lit × DataW H),(l.foldr DataW.insert []).Perm l
 | [] => .refl _
 | x :: l=>(insert_perm _).trans ((sorted_perm l).cons x)
theorem zme {κ α:Type} [DecidableEq κ] {T:κ → Option α} {k:κ} : ∀ {m:List (κ × α)},(∀ p∈m,T p.1=some p.2) → (∀ v,T k=some v → ∃ p∈m,p.1=k) → zaQ k m=T k
 | [],_,h2=>by
  cases e:T k with
  | none=>rfl
  | some v=>obtain⟨p,hp,_⟩:=h2 v e;cases hp
 | (a,x) :: m,h1,h2=>by
  unfold zaQ
  split
  · rename_i h;subst h;exact (h1 _ (List.mem_cons_self ..)).symm
  · rename_i h
    exact zme (fun p hp=>h1 p (List.mem_cons_of_mem _ hp)) fun v hv=>by
     obtain⟨p,hp,hk⟩:=h2 v hv
     rcases List.mem_cons.1 hp with rfl | hp
     · exact absurd hk h
     · exact⟨p,hp,hk⟩
theorem zez {α β:Type} {Q:α → β → Prop} : ∀ {l:List α},(∀ x∈l,∃ y,Q x y) → ∃ m:List β,m.length=l.length ∧ ∀ (j:Nat) x y,l[j]? = some x → m[j]? = some y → Q x y
 | [],_=>⟨[],rfl,fun j x y h=>by simp at h⟩
 | a :: l,h=>by
  obtain⟨y,hy⟩:=h a (List.mem_cons_self ..)
  obtain⟨m,hm,hq⟩:=zez (l:=l) fun x hx=>h x (List.mem_cons_of_mem _ hx)
  refine⟨y :: m,by simp [hm],fun j => ?_⟩
  cases j with
  | zero=>intro x z h1 h2;simp at h1 h2;subst h1 h2;exact hy
  | succ j=>intro x z h1 h2;simp at h1 h2;exact hq j x z h1 h2
theorem zJI (hk:P.underlying k=some (.int .i64)) {v:Value} {kl:Lit} (h:keyOf P k v=some kl) : ∃ z,v=iev z∧kl = .int .i64 z∧okI z:=by
 unfold keyOf at h
 rw [hk] at h
 unfold mapKey at h
 rw [hk] at h
 cases v with
 | int q n =>
  simp only at h
  split at h
  · rename_i hc
    obtain⟨rfl,hw⟩:=hc
    cases h
    simp only [Lit.wf,Bool.and_eq_true,decide_eq_true_eq] at hw
    exact⟨n,rfl,rfl,hw⟩
  · cases h
 | _=>cases h
theorem zqR (ht:P.underlying t=some (.map k e)) (hk:P.underlying k=some (.int .i64)) {fuel:Nat} {cs:List Value} {L:List (Lit × DataW H)} {p:List MemPlace} (h:DataW.trod enc P W 0 sp held fuel t cs=some (.map L,p)) (T:Int → Option α) (f:α → AV)
 (hbel : ∀ v n,BelowN n (f v))
 (hL : ∀ (n:Nat) kk d,(kk,d)∈L → ∀ v q,elemAt enc P W 0 sp held n e v=some (d,q) → ∃ z x,kk = .int .i64 z∧T z=some x∧RelV σ0 H0 W (f x) v)
 (hT : ∀ z x,T z=some x → ∃ d,(Lit.int .i64 z,d)∈L) :
 ∃ b m,cs=[.map (some b)]∧GMap σ0 H0 W b (tm iev f m)∧(∀ q∈m,okI q.1) ∧ ∀ z,zaQ z m=T z:=by
 rcases open_map ht h with ⟨_,hx⟩ | ⟨b,es,clock,n,_,hcs,hb,_,F,hx⟩
 · cases hx
 · obtain⟨s1,s2,s3⟩:=F.stamped
   have hLe:L=(es.toList.map (rg P k (elemAt enc P W 0 sp held n e))).foldr DataW.insert []:=by
    have:=congrArg Prod.fst hx
    simpa using this
   have hperm:=sorted_perm (es.toList.map (rg P k (elemAt enc P W 0 sp held n e)))
   rw [←hLe] at hperm
   obtain⟨m,hm,hq⟩:=zez (Q:=fun (x:MapEntry) (q:Int × α)=>x.key=iev q.1∧okI q.1∧T q.1=some q.2∧RelV σ0 H0 W (f q.2) x.val∧(rg P k (elemAt enc P W 0 sp held n e) x).1 = .int .i64 q.1) (l:=es.toList) fun x hx=>by
    obtain⟨y,hy⟩:=F.reads x hx
    have hr:=rg_of hy
    obtain⟨w,hw,hy2⟩:=rd_val hy
    have hmem:(y.1,y.2)∈L:=hperm.mem_iff.2 (List.mem_map.2 ⟨x,hx,hr⟩)
    obtain⟨z,hz1,hz2,hz3⟩:=zJI hk (rd_key hy)
    obtain⟨z',a,h1,h2,h3⟩:=hL n y.1 y.2 hmem x.val w.2 (by rw [hw,hy2])
    rw [hz2] at h1
    cases h1
    exact⟨(z,a),hz1,hz3,h2,h3,by rw [hr];exact hz2⟩
   have hget : ∀ {q:Int × α},q∈m → ∃ x∈es.toList,x.key=iev q.1∧okI q.1∧T q.1=some q.2:=fun {q} hqm=>by
    obtain⟨j,hj⟩:=List.getElem?_of_mem hqm
    have hlt:j < es.toList.length:=by have:=(List.getElem?_eq_some_iff.1 hj).1;omega
    obtain⟨h1,h2,h3,_⟩:=hq j _ q (List.getElem?_eq_getElem hlt) hj
    exact⟨_,List.getElem_mem hlt,h1,h2,h3⟩
   have hkeys:(tm iev f m).map (·.1)=es.toList.map (·.key):=by
    apply List.ext_getElem?
    intro j
    simp only [tm,List.map_map,List.getElem?_map]
    cases hj:m[j]? with
    | none =>
     have:es.toList[j]? = none:=by
      rw [List.getElem?_eq_none_iff] at hj ⊢;omega
     rw [this];rfl
    | some q =>
     have hlt:j < es.toList.length:=by have:=(List.getElem?_eq_some_iff.1 hj).1;omega
     rw [List.getElem?_eq_getElem hlt]
     obtain⟨h1,_⟩:=hq j _ q (List.getElem?_eq_getElem hlt) hj
     simpa using h1.symm
   refine⟨b,m,hcs,⟨⟨es,clock,hb,by simp [tm,hm],?_,?_⟩,zJX b,?_⟩,?_,?_⟩
   · rw [hkeys]
     exact s3
   · intro j x q hx hq'
     simp only [tm,List.getElem?_map,Option.map_eq_some_iff] at hq'
     obtain⟨q0,hq0,rfl⟩:=hq'
     obtain⟨h1,_,_,h4,_⟩:=hq j x q0 (by simpa using hx) hq0
     exact⟨h1,h4⟩
   · intro q hq' n
     simp only [tm,List.mem_map] at hq'
     obtain⟨q0,_,rfl⟩:=hq'
     exact hbel _ _
   · intro q hqm
     obtain⟨_,_,_,h,_⟩:=hget hqm
     exact h
   · intro z
     refine zme (fun q hqm => ?_) fun v hv => ?_
     · obtain⟨_,_,_,_,h⟩:=hget hqm
       exact h
     · obtain⟨d,hd⟩:=hT z v hv
       obtain⟨x,hx,hr⟩:=List.mem_map.1 (hperm.mem_iff.1 hd)
       obtain⟨j,hj⟩:=List.getElem?_of_mem hx
       have hlt:j < m.length:=by have:=(List.getElem?_eq_some_iff.1 hj).1;omega
       obtain⟨_,_,_,_,h5⟩:=hq j x _ hj (List.getElem?_eq_getElem hlt)
       refine⟨m[j],List.getElem_mem hlt,?_⟩
       rw [hr] at h5
       cases h5
       rfl
theorem trod_int {q:IntKind} (ht:P.underlying t=some (.int q)) {fuel:Nat} {c:Value} {z:Int} {kd:IntKind} {p:List MemPlace} (h:DataW.trod enc P W 0 sp held fuel t [c]=some (.lit (.int kd z),p)):c = .int q z:=by
 cases fuel with
 | zero=>simp [DataW.trod] at h
 | succ n =>
  rw [DataW.trod_step] at h
  unfold DataW.trodStep at h
  rw [ht] at h
  cases c<;>simp at h
  obtain⟨⟨rfl,_⟩,⟨_,rfl⟩,_⟩:=h
  rfl
end maps
theorem zBi {P:Program} {W:World} {sp:Nat → Bool} {held:Bool} {H:Type} {enc:TypeId × Value → H} {e:TypeId} (he:P.underlying e=some (.int .i64)) {n:Nat} {v:Value} {z:Int} {kd:IntKind} {q:List MemPlace} (h:elemAt enc P W 0 sp held n e v=some (.lit (.int kd z),q)):v = .int .i64 z:=by
 unfold elemAt at h
 split at h
 · rename_i hf
   cases v with
   | agg cs=>simp [Value.formed,he] at hf
   | tuple cs=>simp [Value.formed] at hf
   | _=>exact trod_int he h
 · cases h
theorem zpB {W:World} {fuel:Nat} {cs:List Value} {p:List MemPlace} {sp:Nat → Bool} {held:Bool} {enc:TypeId × Value → Unit} (h:DataW.trod enc Tryd.prog W 0 sp held fuel 120 cs=some (Rows.laid_attestor_session_states,p)) :
 ∃ b m,cs=[.map (some b)]∧GMap σ0 H0 W b (tm iev ivv m)∧(∀ q∈m,okI q.1) ∧ ∀ z,zaQ z m=zb2 z:=by
 refine zqR Tryd.underlying120 Tryd.underlying3 h zb2 ivv (fun v n => .p _) ?_ ?_
 · intro n kk d hm v q he
   simp only [List.mem_cons,List.not_mem_nil,or_false,Prod.mk.injEq] at hm
   (rcases hm with ⟨rfl,rfl⟩ | ⟨rfl,rfl⟩ | ⟨rfl,rfl⟩ | ⟨rfl,rfl⟩ | ⟨rfl,rfl⟩ | ⟨rfl,rfl⟩ | ⟨rfl,rfl⟩)<;>(obtain rfl:=zBi Tryd.underlying3 he;exact⟨_,_,rfl,rfl,.p (.s _ rfl)⟩)
 · intro z x hz
   have hk:z=1 ∨ z=2 ∨ z=3 ∨ z=4 ∨ z=5 ∨ z=6 ∨ z=7:=by
    unfold zb2 at hz
    repeat' split at hz
    all_goals first | omega | cases hz
   (rcases hk with rfl | rfl | rfl | rfl | rfl | rfl | rfl)<;>exact⟨_,by simp [Rows.laid_attestor_session_states];rfl⟩

theorem trod_func {H:Type} {enc:TypeId × Value → H} {P:Program} {W:World} {sp:Nat → Bool} {t:TypeId} {ps rs:Array TypeId} {va:Bool} (ht:P.underlying t=some (.func ps rs va)) {fuel:Nat} {c:Value} {x:H} {p:List MemPlace} (h:DataW.trod enc P W 0 sp true fuel t [c]=some (.held x,p)) : ∃ fn a b,c = .func fn a b∧enc (t,c)=x:=by
 cases fuel with
 | zero=>simp [DataW.trod] at h
 | succ n =>
  rw [DataW.trod_step] at h
  unfold DataW.trodStep at h
  rw [ht] at h
  cases c<;>simp at h
  exact⟨_,_,_,rfl,h.1⟩
theorem zud {W:World} {sp:Nat → Bool} {H:Type} {enc:TypeId × Value → H} {n:Nat} {v:Value} {a b:Int} {ka kb:IntKind} {x:H} {q:List MemPlace} (h:elemAt enc Tryd.prog W 0 sp true n 111 v=some (.agg [.lit (.int ka a),.lit (.int kb b),.held x],q)) :
 ∃ fn c d,v = .agg #[.int .i64 a,.int .i64 b,.func fn c d]∧enc (109,.func fn c d)=x:=by
 unfold elemAt at h
 split at h
 · rename_i hf
   cases v with
   | agg cs =>
    simp only [Value.formed,Tryd.underlying111,zgk,beq_iff_eq] at hf
    obtain⟨c1,c2,c3,rfl⟩ : ∃ c1 c2 c3,cs = #[c1,c2,c3]:=by
     obtain⟨l⟩:=cs
     match l,hf with
     | [c1,c2,c3],_=>exact⟨c1,c2,c3,rfl⟩
    cases n with
    | zero=>simp [DataW.trod] at h
    | succ n =>
     rw [DataW.trod_step] at h
     unfold DataW.trodStep at h
     simp only [Tryd.underlying111,zgk,Value.cells] at h
     simp only [List.length_cons,List.length_nil,if_true,Option.map_eq_some_iff,Prod.mk.injEq,DataW.agg.injEq] at h
     obtain⟨xs,hm,hx,_⟩:=h
     simp only [List.mapM_cons,List.mapM_nil,cells3,zlm,List.drop_zero,List.drop_succ_cons,List.take_succ_cons,List.take_zero,Option.bind_eq_bind,Option.bind_eq_some_iff,Option.pure_def,Option.some.injEq] at hm
     obtain⟨y1,h1,y23,⟨y2,h2,y3s,⟨y3,h3,hn,rfl,rfl⟩,rfl⟩,rfl⟩:=hm
     obtain⟨d1,q1⟩:=y1
     obtain⟨d2,q2⟩:=y2
     obtain⟨d3,q3⟩:=y3
     simp only [List.map_cons,List.map_nil,List.cons.injEq,and_true] at hx
     obtain⟨rfl,rfl,rfl⟩:=hx
     obtain rfl:=trod_int Tryd.underlying3 h1
     obtain rfl:=trod_int Tryd.underlying3 h2
     obtain⟨fn,c,d,rfl,h4⟩:=trod_func Tryd.underlying109 h3
     exact⟨fn,c,d,rfl,h4⟩
   | tuple cs=>simp [Value.formed] at hf
   | _=>simp [Value.formed,Tryd.underlying111] at hf
 · cases h

theorem zpC {a b:String} (h:a.toUTF8.data.toList=b.toUTF8.data.toList):a=b:=by
 refine String.toByteArray_inj.1 ?_
 show a.toUTF8=b.toUTF8
 have:=Array.toList_inj.1 h
 cases ha:a.toUTF8;cases hb:b.toUTF8
 rw [ha,hb] at this
 cases this;rfl
theorem zbS {W:World} {sp:Nat → Bool} {n:Nat} {v:Value} {a b:Int} {ka kb:IntKind} {nm:String} {fid:FuncId} {q:List MemPlace} {x:UInt8} {r:List UInt8} (hx:nm.toUTF8.data.toList=x :: r) (hf:Tryd.prog.funcNamed nm=some fid)
 (h:elemAt (funcToken Tryd.prog) Tryd.prog W 0 sp true n 111 v=some (.agg [.lit (.int ka a),.lit (.int kb b),.held (x :: r)],q)):RelV σ0 H0 W (rlv ⟨a,b,fid⟩) v:=by
 obtain⟨fn,c,d,rfl,h1⟩:=zud h
 obtain⟨f,g,h2,_,h4,h5⟩:=funcToken_tells h1
 cases h2
 have hn:g.name=nm:=zpC (h5.trans hx.symm)
 rw [hn,hf] at h4
 cases h4
 refine .agg _ rfl ?_ ?_
 · intro i v hv
   rcases i with _ | _ | _ | i<;>simp at hv<;>subst hv<;>rfl
 · intro i y v hy hv
   rcases i with _ | _ | _ | i<;>simp at hy hv<;>subst hy<;>subst hv
   · exact .p (.s _ rfl)
   · exact .p (.s _ rfl)
   · exact .clo _ _ rfl rfl (fun i x v h=>by simp at h) (fun i x v h=>by simp at h)
def rulesD:DataW Unit:=match (Rows.laid_attestor_session_rules:DataW Unit) with
 | .iface _ d=>d
 | d=>d
theorem zue {W:World} {fuel:Nat} {cs:List Value} {p:List MemPlace} {sp:Nat → Bool} (h:DataW.trod (funcToken Tryd.prog) Tryd.prog W 0 sp true fuel 112 cs=some (rulesD.funcsOut,p)) :
    ∃ b m,cs=[.map (some b)]∧GMap σ0 H0 W b (tm iev rlv m)∧(∀ q∈m,okI q.1) ∧ ∀ z,zaQ z m=zau z:=by
  refine zqR Tryd.underlying112 Tryd.underlying3 h zau rlv (fun v n => ?_) ?_ ?_
  · refine .agg _ fun i y hy => ?_
    rcases i with _ | _ | _ | i<;>simp at hy<;>subst hy
    · exact .p _
    · exact .p _
    · exact .clo _ _ _ (fun i y hy=>by simp at hy) (fun i y hy=>by simp at hy)
  · intro n kk d hm v q he
    simp only [DataW.funcsOut,DataW.funcsOutAll,DataW.funcsOutEntries,List.mem_cons,List.not_mem_nil,or_false,Prod.mk.injEq] at hm
    rcases hm with ⟨rfl,rfl⟩ | ⟨rfl,rfl⟩ | ⟨rfl,rfl⟩ | ⟨rfl,rfl⟩ | ⟨rfl,rfl⟩ | ⟨rfl,rfl⟩ | ⟨rfl,rfl⟩
    · exact ⟨_, _, rfl, rfl, zbS (nm := "attestor/session.rules$1") rfl (by kernel_rfl) he⟩
    · exact ⟨_, _, rfl, rfl, zbS (nm := "attestor/session.empty") rfl (by kernel_rfl) he⟩
    · exact ⟨_, _, rfl, rfl, zbS (nm := "attestor/session.rules$2") rfl (by kernel_rfl) he⟩
    · exact ⟨_, _, rfl, rfl, zbS (nm := "attestor/session.rules$3") rfl (by kernel_rfl) he⟩
    · exact ⟨_, _, rfl, rfl, zbS (nm := "attestor/session.rules$4") rfl (by kernel_rfl) he⟩
    · exact ⟨_, _, rfl, rfl, zbS (nm := "attestor/session.empty") rfl (by kernel_rfl) he⟩
    · exact ⟨_, _, rfl, rfl, zbS (nm := "attestor/session.empty") rfl (by kernel_rfl) he⟩
  · intro z x hz
    have hk:z=1 ∨ z=2 ∨ z=3 ∨ z=4 ∨ z=5 ∨ z=6 ∨ z=7:=by
      unfold zau at hz
      repeat' split at hz
      all_goals first | omega | cases hz
    rcases hk with rfl | rfl | rfl | rfl | rfl | rfl | rfl
    · exact⟨_,.head _⟩
    · exact⟨_,.tail _ (.head _)⟩
    · exact⟨_,.tail _ (.tail _ (.head _))⟩
    · exact⟨_,.tail _ (.tail _ (.tail _ (.head _)))⟩
    · exact⟨_,.tail _ (.tail _ (.tail _ (.tail _ (.head _))))⟩
    · exact⟨_,.tail _ (.tail _ (.tail _ (.tail _ (.tail _ (.head _)))))⟩
    · exact⟨_,.tail _ (.tail _ (.tail _ (.tail _ (.tail _ (.tail _ (.head _))))))⟩
end Go.Proofs.YtmoecjgehdkhkaaDoor

/-
  What the laws' rows give their walks: the tables and the maps,a world for the witness,what the arguments read as.
-/
namespace Go.Proofs.YtmoecjgehdkhkaaDoor
open Go Go.AL Go.ChangeShapes Go.WideShapes Go.ChangeAt Go.RowKit

theorem own:ownKnob Tryd.prog.godebug=none:=by kernel_rfl
theorem laidOut:laidOutB Tryd.prog=true:=by kernel_rfl
def zJJ:String:=Rows.sessionCanonicalRow.named[0]!
def zQ5:String:=Rows.sessionCanonicalRow.named[1]!
def zQ6:String:=Rows.sessionCanonicalRow.named[2]!
def zQ7:String:=Rows.sessionCanonicalRow.named[3]!
theorem zBj:Tryd.prog.globalNamed zQ6=some 3:=by kernel_rfl
theorem zKt:Tryd.prog.globalNamed zQ5=some 1:=by kernel_rfl
theorem gRules:Tryd.prog.globalNamed zJJ=some 0:=by kernel_rfl
theorem gStates:Tryd.prog.globalNamed zQ7=some 2:=by kernel_rfl
theorem zJK:(Tryd.prog.globals[3]?).map (·.type)=some 121:=by kernel_rfl
theorem zPd:(Tryd.prog.globals[1]?).map (·.type)=some 94:=by kernel_rfl
theorem gRulesT:(Tryd.prog.globals[0]?).map (·.type)=some 112:=by kernel_rfl
theorem gStatesT:(Tryd.prog.globals[2]?).map (·.type)=some 120:=by kernel_rfl

def kz:List Int:=ks.map fun x=>(x.toNat:Int)
def iz:List Int:=inits.map fun x=>(x.toNat:Int)
theorem zmf {P:Program} {x:String × DataW Unit} {l:List (String × DataW Unit)} {W:World} (h:laidMet P (x :: l) W):laidMet P l W:=by
 obtain⟨ps,⟨g',t',cs,fuel,p,q,_,_,_,_,hq,hps⟩,hn,ha⟩:=h
 subst hps
 exact⟨q,hq,(List.nodup_append.1 hn).2.1,fun b off hb=>ha b off (List.mem_append_right _ hb)⟩
theorem zmg {W:World} {n:String} {g b:Nat} {cs:Array Value} (hg:Tryd.prog.globalNamed n=some g) (hv:W.var? Tryd.prog n=some cs) (hc:cs.toList=[.map (some b)]):RelV σ0 H0 W (.ip 1 [.s (.map (some b))] 0 0) (.pointer (some ⟨g,0,none⟩)):=by
 have hcell:W.cell? ⟨g,0,none⟩=some (.map (some b)):=by
  unfold World.var? at hv
  rw [hg] at hv
  simp only [Option.bind_some] at hv
  unfold World.cell?
  split at hv
  · rename_i c t f hh
    simp only [hh]
    obtain rfl:=Option.some.inj hv
    obtain⟨l⟩:=c
    obtain rfl:l=[.map (some b)]:=hc
    rfl
  · cases hv
 have:=RelV.ip (σ:=σ0) (H:=H0) (w:=W) (sz:=1) (xs:=[.s (.map (some b))]) (i:=0) (sub:=0) (g:=g) (off:=0) (cap:=1)
  (.sl false _ _ _ 0 1 (fun k => .map (some b)) (by simp) ⟨by simp,by unfold maxLen;omega⟩ (fun x hx=>by simp only [List.mem_singleton] at hx;subst hx;rfl)
   (fun k hk=>by
    simp only [List.length_singleton,Nat.one_mul] at hk
    obtain rfl:k=0:=by omega
    exact⟨ziM _ _,hcell,rfl⟩)
   (fun k y hy=>by
    have:flat [PV.s (.map (some b))]=[.s (.map (some b))]:=by simp [flat,PV.cells]
    rw [this] at hy
    cases k with
    | zero=>simp at hy;subst hy;exact .s _ rfl
    | succ k=>simp at hy)) (by simp) (by omega)
 simpa using this
theorem zhU {κ α:Type} [DecidableEq κ] {k:κ} {v:α} : ∀ {m:List (κ × α)},zaQ k m=some v → (k,v)∈m
 | [],h=>by cases h
 | (a,x) :: m,h=>by
  unfold zaQ at h
  split at h
  · rename_i e;subst e;cases h;exact List.mem_cons_self ..
  · exact List.mem_cons_of_mem _ (zhU h)
theorem zJL {W:World} {r1 r2:Nat} {m1:List (Int × Rule)} {m2:List (Int × Int)} (h1:GMap σ0 H0 W r1 (tm iev rlv m1)) (h2:GMap σ0 H0 W r2 (tm iev ivv m2)) (t1 : ∀ z,zaQ z m1=zau z):r1≠r2:=by
 rintro rfl
 obtain⟨⟨es,clock,a1,a2,_,a4⟩,_⟩:=h1
 obtain⟨⟨es',clock',b1,b2,_,b4⟩,_⟩:=h2
 rw [a1] at b1
 cases b1
 have hm:=zhU ((t1 1).trans (show zau 1=some _ from rfl))
 have hl:0 < m1.length:=List.length_pos_of_mem hm
 simp only [tm,List.length_map] at a2 b2
 have he:es[0]? = some es[0]:=Array.getElem?_eq_getElem (by omega)
 obtain⟨q1,hq1⟩ : ∃ q,m1[0]? = some q:=⟨_,List.getElem?_eq_getElem hl⟩
 obtain⟨q2,hq2⟩ : ∃ q,m2[0]? = some q:=⟨_,List.getElem?_eq_getElem (by omega)⟩
 have r1:=(a4 0 _ _ he (by simp only [tm,List.getElem?_map,hq1];rfl)).2
 have r2:=(b4 0 _ _ he (by simp only [tm,List.getElem?_map,hq2];rfl)).2
 simp only [rlv,ivv] at r1 r2
 generalize es[0].val=v at r1 r2
 cases r1
 cases r2 with
 | p h=>cases h

def GG (r1 r2:Nat) (m1:List (Int × Rule)) (m2:List (Int × Int)):Globs :=
 ⟨fun g=>if g=1 then some (8,[.agg (pl zC inits)]) else if g=3 then some (64,[.agg (pl zC ks)]) else if g=0 then some (1,[.s (.map (some r1))]) else if g=2 then some (1,[.s (.map (some r2))]) else none,
  fun r=>if r=r1 then some (tm iev rlv m1) else if r=r2 then some (tm iev ivv m2) else none⟩
theorem zuf {W:World} (h:laidMetH Tryd.prog Rows.sessionCanonicalRow.laid W) : ∃ r1 r2 m1 m2,GR (GG r1 r2 m1 m2) r1 r2 m1 m2∧Rel (GG r1 r2 m1 m2) σ0 H0 W:=by
 have h':laidMet Tryd.prog [(zQ6,Lib.tabData .u32 kz),(zQ5,Lib.tabData .u32 iz),(zQ7,Rows.laid_attestor_session_states)] W∧handlesMet Tryd.prog [(zJJ,Rows.laid_attestor_session_rules)] W:=h
 obtain⟨hd,hh⟩:=h'
 have tC:=Lib.tabIs_of_head zBj zJK Tryd.underlying121 Tryd.underlying93 ziV zlq hd
 have hd2:=zmf hd
 have tI:=Lib.tabIs_of_head zKt zPd Tryd.underlying94 Tryd.underlying93 ziV zql hd2
 have hd3:=zmf hd2
 obtain⟨_,⟨g2,t2,c2,f2,p2,_,hg2,ht2,hv2,hr2,_⟩,_⟩:=hd3
 obtain rfl:=Option.some.inj (gStates.symm.trans hg2)
 obtain rfl:=Option.some.inj (gStatesT.symm.trans ht2)
 obtain⟨b2,m2,hb2,gm2,k2,a2⟩:=zpB hr2
 have hh1:funcsAt Tryd.prog W zJJ rulesD:=hh (zJJ,Rows.laid_attestor_session_rules) (List.mem_cons_self ..)
 obtain⟨g1,t1,c1,f1,p1,hg1,ht1,hv1,hr1⟩:=hh1
 obtain rfl:=Option.some.inj (gRules.symm.trans hg1)
 obtain rfl:=Option.some.inj (gRulesT.symm.trans ht1)
 obtain⟨b1,m1,hb1,gm1,k1,a1⟩:=zue hr1
 have hne:=zJL gm1 gm2 a1
 refine⟨b1,b2,m1,m2,⟨rfl,rfl,rfl,rfl,if_pos rfl,?_,k1,k2,a1,a2⟩,zRj (fun g sz xs hg => ?_) fun r m hm => ?_⟩
 · show (if b2=b1 then _ else _)=_
   rw [if_neg (Ne.symm hne),if_pos rfl]
 · simp only [GG] at hg
   split at hg
   · rename_i e;subst e;cases hg
     exact zge (l:=inits) tI zKt rfl (by decide)
   · split at hg
     · rename_i e;subst e;cases hg
       exact zge (l:=ks) tC zBj rfl (by decide)
     · split at hg
       · rename_i e;subst e;cases hg
         exact zmg gRules hv1 hb1
       · split at hg
         · rename_i e;subst e;cases hg
           exact zmg gStates hv2 hb2
         · cases hg
 · simp only [GG] at hm
   split at hm
   · rename_i e;subst e;cases hm;exact gm1
   · split at hm
     · rename_i e;subst e;cases hm;exact gm2
     · cases hm

noncomputable def laidWorld (os:Os):World:=World.doorLaid Tryd.prog 2000 os
set_option maxRecDepth 100000 in
theorem laid_met (os:Os) (args:Array Value):laidMetH Tryd.prog Rows.sessionCanonicalRow.laid ((laidWorld os).forCall (fun _ _=>0) ⟨#[],args,[]⟩).memory :=
 laidMetH_of_parts3 (fuel:=8) (laidMet_of_run' 8 (by kernel_rfl) (by kernel_rfl)) (by kernel_rfl) (by kernel_rfl)

set_option maxRecDepth 100000
section read
variable {k:Nat} {y:List PV}
end read
section rel
variable {W:World} {v:Value} {H:Type} {enc:TypeId × Value → H} {d:DataW H} {ps:List MemPlace} {base:Nat}
end rel
end Go.Proofs.YtmoecjgehdkhkaaDoor

/-
  Sessions: what messages and lists of acts read as.
-/
namespace Go.Proofs.YtmoecjgehdkhkaaDoor
open Go Go.AL Go.ChangeShapes Go.WideShapes Go.ChangeAt Go.RowKit

structure Msg.In (m:Msg):Prop where
 kind:okI m.kind
 session:okI m.session
 step:okI m.step
 text:m.text.length≤9223372036854775807
 sums:m.sums.length≤9223372036854775807
 values:m.values.length≤9223372036854775807
 wide : ∀ x∈m.sums,okI x
theorem of_string (s:ByteArray) : ∃ t:By,s=bytesOf t∧t.length=s.size:=by
 refine⟨s.data.toList.map UInt8.toBitVec,?_,by rw [List.length_map,Array.length_toList];rfl⟩
 apply ByteArray.ext
 simp [bytesOf,Function.comp_def]
set_option maxRecDepth 100000
section read
variable {k:Nat} {y:List PV}
theorem zJM (h:Reads Tryd.prog (k+2) 24 y) : ∃ l:List Int,l.length≤9223372036854775807∧y=[.sl false 1 (pl i64 l)] ∧ ∀ x∈l,okI x :=
 Reads.sl i64 okI Tryd.underlying24 cells2 zJ0 h fun y hy=>by
  obtain⟨z,h1,h2,rfl⟩:=Reads.i64 Tryd.underlying2 hy
  exact⟨z,rfl,h1,h2⟩
theorem zJN (h:Reads Tryd.prog (k+3) 25 y) : ∃ l:List Ext,l.length≤9223372036854775807∧y=[.sl false 2 (pl ext l)]:=by
 obtain⟨l,h1,h2,-⟩:=Reads.sl ext (fun _=>True) Tryd.underlying25 ziU zvC h fun y hy=>by
  obtain⟨y1,z1,rfl,-,r1,y2,z2,rfl,-,r2,rfl⟩:=Reads.struct Tryd.underlying63 hy
  obtain⟨a,rfl⟩:=Reads.u64 Tryd.underlying61 r1
  obtain⟨b,rfl⟩:=Reads.u64 Tryd.underlying61 r2
  exact⟨⟨a,b⟩,rfl,trivial⟩
 exact⟨l,h1,h2⟩
theorem zPe (h:Reads Tryd.prog (k+4) 27 y) : ∃ m:Msg,m.In∧y=zea m:=by
 obtain⟨y1,z1,rfl,-,r1,y2,z2,rfl,-,r2,y3,z3,rfl,-,r3,y4,z4,rfl,-,r4,y5,z5,rfl,-,r5,y6,z6,rfl,-,r6,y7,z7,rfl,-,r7,rfl⟩:=Reads.struct Tryd.underlying27 h
 obtain⟨kd,a1,a2,rfl⟩:=Reads.i64 Tryd.underlying3 r1
 obtain⟨se,b1,b2,rfl⟩:=Reads.i64 Tryd.underlying3 r2
 obtain⟨sp,c1,c2,rfl⟩:=Reads.i64 Tryd.underlying3 r3
 obtain⟨s,hs,rfl⟩:=Reads.str Tryd.underlying9 r4
 obtain⟨t,rfl,ht⟩:=of_string s
 obtain⟨d,hd,rfl⟩:=Reads.arr b8 Tryd.underlying23 r5 fun y hy=>Reads.u8 Tryd.underlying5 hy
 obtain⟨su,e1,rfl,e2⟩:=zJM r6
 obtain⟨va,f1,rfl⟩:=zJN r7
 exact⟨⟨kd,se,sp,t,⟨d,hd⟩,su,va⟩,⟨⟨a1,a2⟩,⟨b1,b2⟩,⟨c1,c2⟩,by show t.length≤_;omega,e1,f1,e2⟩,by simp [zea]⟩
end read
section rel
variable {W:World} {v:Value} {H:Type} {enc:TypeId × Value → H} {d:DataW H} {ps:List MemPlace} {base:Nat}
theorem zPf (hval:Value.okWide Tryd.prog W .any base 5 v) (h:DataW.Trod enc Tryd.prog W 0 (fun _=>true) true 5 v d ps) : ∃ b:BitVec 8,RelV σ0 H0 W (.p (b8 b)) v:=by
 obtain⟨xs,hx,e⟩:=zlh 1 (by kernel_rfl) hval h
 obtain⟨b,rfl⟩:=Reads.u8 (k:=0) Tryd.underlying5 hx
 rw [zJ1] at e
 exact⟨b,e⟩
end rel
end Go.Proofs.YtmoecjgehdkhkaaDoor
