/-
  Sessions: the reference's decoding,walked.
-/
import Derived.Test.YtmoecjgehdkhkaaDoorPkS2
set_option linter.unusedSimpArgs false
set_option linter.unusedVariables false
namespace Go.Proofs.YtmoecjgehdkhkaaDoor
open Go Go.AL

theorem zI9 {k s t:Int} {tx r:By} {S V:AV} {i:Nat} {x:BitVec 8} (h:r.length=32) (hi:i < 32):(mG k s t tx r S V).set (4+i) (.p (b8 x))=mG k s t tx (r.set i x) S V:=by
 unfold mG
 rw [show 4+i=i+1+1+1+1 by omega]
 simp only [List.set_cons_succ]
 rw [List.set_append_left _ _ (by rw [zau];omega)]
 simp only [cl,List.map_set]
def mix (r:By) (i:Nat):By:=r.take i++List.replicate (32 - i) 0#8
theorem zJa {r:By} {i:Nat} (h:r.length=32) (hi:i≤32):(mix r i).length=32:=by simp [mix,h];omega
theorem zJb {r:By} {i:Nat} (h:r.length=32) (hi:i < 32):(mix r i).set i (nth r i)=mix r (i+1):=by
 unfold mix
 have hl:(r.take i).length=i:=by rw [List.length_take];omega
 rw [List.set_append_right _ _ (by omega),hl,Nat.sub_self,show 32 - i=32 - (i+1)+1 by omega,List.replicate_succ,List.set_cons_zero,yz (by omega)]
 simp
theorem zJc {r:By} (h:r.length=32):mix r 32=r:=by simp [mix,List.take_of_length_le (Nat.le_of_eq h)]
theorem zAR {r:By}:mix r 0=List.replicate 32 0#8:=by simp [mix]

theorem zJd {x y:PV}:zn (.p (.agg [x,y]))=some [.p x,.p y]:=rfl
theorem zOz {x y:PV}:zI [.p x,.p y] = .p (.agg [x,y]):=rfl
def mQ (k s t:Int):PV := .agg ([i64 k,i64 s,i64 t,str (bytesOf [])]++(pl b8 (List.replicate 32 0#8)++[.sl true 1 [],.sl true 2 []]))
theorem zOA {k s t:Int}:zI (AV.p (i64 k) :: AV.p (i64 s) :: AV.p (i64 t) :: AV.p (str ByteArray.empty) :: List.map AV.p (pl b8 (List.replicate 32 0#8)++[PV.sl true 1 [],PV.sl true 2 []])) = .p (mQ k s t):=by
 simp only [←List.map_cons,zI,zdI]
 rfl
theorem zAS {k s t:Int}:zn (.p (mQ k s t))=some (mG k s t [] (List.replicate 32 0#8) (.p (.sl true 1 [])) (.p (.sl true 2 []))):=by
 show some ((_:List PV).map AV.p)=_
 simp [mG,cl,pl]
theorem zOB {k s t:Int}:setAt (AV.p (i64 0) :: AV.p (i64 0) :: AV.p (i64 0) :: AV.p (str ByteArray.empty) :: List.map AV.p (pl b8 (List.replicate 32 0#8)++[PV.sl true 1 [],PV.sl true 2 []])) 0 (mG k s t [] (List.replicate 32 0#8) (.p (.sl true 1 [])) (.p (.sl true 2 [])))=mG k s t [] (List.replicate 32 0#8) (.p (.sl true 1 [])) (.p (.sl true 2 [])):=rfl
theorem zOC:(AV.p (i64 0) :: AV.p (i64 0) :: AV.p (i64 0) :: AV.p (str ByteArray.empty) :: List.map AV.p (pl b8 (List.replicate 32 0#8)++[PV.sl true 1 [],PV.sl true 2 []])).length=38:=rfl
def mZ:List AV:=mG 0 0 0 [] (List.replicate 32 0#8) (.p (.sl true 1 [])) (.p (.sl true 2 []))
def dQ (H:Hp) (st:By × Bool):Hp:=(H.new (.cells mZ)).new (.cells (rcl st))
def dP (H:Hp) (mc:List AV) (st:By × Bool):Hp:=(dQ H st).new (.cells mc)
def dR (H:Hp) (mc:List AV) (st:By × Bool) (i j:Nat):Hp:=((dP H mc st).new (.tail i)).new (.tail j)
section dr
variable {H:Hp} {mc mc':List AV} {st st':By × Bool} {i j k:Nat}
theorem zP7:(dQ H st).n=H.n+2:=by simp [dQ,Hp.n_new]
theorem zJ1:(dQ H st).f (H.n+1)=some (.cells (rcl st)):=by simp (disch:=first|exact zb|fail) only [dQ,go_sem,seval]
theorem zJe:(dQ H st).set (H.n+1) (.cells (rcl st'))=dQ H st':=by simp (disch:=first|exact zb|fail) only [dQ,go_sem,seval]
theorem zRb:(dR H mc st i j).n=H.n+5:=by simp [dR,dP,zP7,Hp.n_new]
theorem zP8:(dR H mc st i j).f H.n=some (.cells mZ):=by simp (disch:=first|exact zb|fail) only [dR,dP,dQ,go_sem,seval]
theorem zqy:(dR H mc st i j).f (H.n+1)=some (.cells (rcl st)):=by simp (disch:=first|exact zb|fail) only [dR,dP,dQ,go_sem,seval]
theorem zP9:(dR H mc st i j).f (H.n+2)=some (.cells mc):=by simp (disch:=first|exact zb|fail) only [dR,dP,dQ,go_sem,seval]
theorem zQa:(dR H mc st i j).f (H.n+3)=some (.tail i):=by simp (disch:=first|exact zb|fail) only [dR,dP,dQ,go_sem,seval]
theorem zQb:(dR H mc st i j).f (H.n+4)=some (.tail j):=by simp (disch:=first|exact zb|fail) only [dR,dP,dQ,go_sem,seval]
theorem zje:(dR H mc st i j).set (H.n+1) (.cells (rcl st'))=dR H mc st' i j:=by simp (disch:=first|exact zb|fail) only [dR,dP,dQ,go_sem,seval]
theorem zJf:(dR H mc st i j).set (H.n+2) (.cells mc')=dR H mc' st i j:=by simp (disch:=first|exact zb|fail) only [dR,dP,dQ,go_sem,seval]
theorem zJg:(dR H mc st i j).set (H.n+3) (.tail k)=dR H mc st k j:=by simp (disch:=first|exact zb|fail) only [dR,dP,dQ,go_sem,seval]
theorem zJh:(dR H mc st i j).set (H.n+4) (.tail k)=dR H mc st i k:=by simp (disch:=first|exact zb|fail) only [dR,dP,dQ,go_sem,seval]
theorem zAT:(dR H mc st i j).trunc H.n=H:=by simp (disch:=first|exact zb|fail) only [dR,dP,dQ,go_sem,seval]
theorem zOD (h:Bel H.n H):Bel H.n (dR H mc st i j):=by
 unfold dR dP dQ
 exact zy (zy (zy (zy (zy h (Nat.le_refl _)) (by simp only [n_new'];omega)) (by simp only [n_new'];omega)) (by simp only [n_new'];omega)) (by simp only [n_new'];omega)
end dr
attribute [go_sem] zP7 zJ1 zRb zP8 zqy zP9 zQa zQb zje zJf zJg zJh zAT
section walks
variable {G:Globs}
theorem zOE (st:By × Bool) (hr:st.1.length≤140737488355000) (n:Nat) (hn:n≤8) (H:Hp) (R:AV → Hp → Prop) (h:R (.p (zx (rd (rk st n).1))) (dQ H (rk st n).2)):ACall Tryd.prog G 37 [.ptr (H.n+1) 0,.p (i64 n)] (dQ H st) R :=
 zc9 st hr n hn (H.n+1) _ zJ1 R (by rw [zJe];exact h)
theorem ztW (st:By × Bool) (hr:st.1.length≤140737488355000) (n:Nat) (hn:n≤8) (H:Hp) (mc:List AV) (i j:Nat) (R:AV → Hp → Prop) (h:R (.p (zx (rd (rk st n).1))) (dR H mc (rk st n).2 i j)):ACall Tryd.prog G 37 [.ptr (H.n+1) 0,.p (i64 n)] (dR H mc st i j) R :=
 zc9 st hr n hn (H.n+1) _ zqy R (by rw [zje];exact h)
theorem zAU (st:By × Bool) (hr:st.1.length≤140737488355000) (n:Nat) (hn:n≤100000) (H:Hp) (mc:List AV) (i j:Nat) (R:AV → Hp → Prop) (h:R (.p (.sl false 1 (pl b8 (rk st n).1))) (dR H mc (rk st n).2 i j)):ACall Tryd.prog G 38 [.ptr (H.n+1) 0,.p (i64 n)] (dR H mc st i j) R :=
 zel st hr n hn (H.n+1) _ zqy R (by rw [zje];exact h)
set_option maxHeartbeats 16000000 in
set_option maxRecDepth 20000 in
theorem zhf (b:By) (hb:b.length≤140737488355000) (H:Hp) (R:AV → Hp → Prop) (h:R (.tup [.p (msg (dec b).1),.p (i64 (dec b).2)]) H):ACall Tryd.prog G 10 [.p (.sl false 1 (pl b8 b))] H R:=by
 have hz:(List.replicate 32 0#8:By).length=32:=List.length_replicate
 rw [←zI7] at h
 unfold decE at h
 refine ACall.of_run (raw:=[]) Tryd.func10 rfl Tryd.ntmps10 (by simp) fun hbel => ?_
 (refine .q ?_);refine .text ?_;simp (disch:=first|exact zb|fail) only [go_sem,seval,-List.reduceReplicate]
 (refine .q ?_);refine .text ?_;simp (disch:=first|exact zb|fail) only [go_sem,seval,-List.reduceReplicate,zJd,zOz]
 change ARun _ _ _ (dQ H (b,true)) R
 -- the head
 have k1:(rk (b,true) 1).1.length=1:=za0
 have q1:=zcx (st:=(b,true)) (n:=1)
 simp only at q1
 have b1:=zi5 (b:=(rk (b,true) 1).1) (by omega)
 have w1:=wrap_small (n:=(rd (rk (b,true) 1).1).toNat) (by omega)
 (refine .q ?_);refine .text ?_;simp (disch:=first|exact zb|fail) only [go_sem,seval,-List.reduceReplicate]
 refine CallK.of (fun R h=>zOE (b,true) hb 1 (by omega) H R h) ?_;simp (disch:=first|exact zb|fail) only [go_sem,seval,-List.reduceReplicate,w1]
 generalize (rk (b,true) 1).2=s1 at *
 generalize rd (rk (b,true) 1).1=kd at *
 clear k1
 unfold eE at h
 have k2:(rk s1 4).1.length=4:=za0
 have q2:=zcx (st:=s1) (n:=4)
 have b2:=zd4 (b:=(rk s1 4).1) (by omega)
 have w2:=wrap_small (n:=(rd (rk s1 4).1).toNat) (by omega)
 refine CallK.of (fun R h=>zOE s1 (by omega) 4 (by omega) H R h) ?_;simp (disch:=first|exact zb|fail) only [go_sem,seval,-List.reduceReplicate,w2]
 generalize (rk s1 4).2=s2 at *
 generalize rd (rk s1 4).1=se at *
 clear k2
 unfold eS at h
 have k3:(rk s2 4).1.length=4:=za0
 have q3:=zcx (st:=s2) (n:=4)
 have b3:=zd4 (b:=(rk s2 4).1) (by omega)
 have w3:=wrap_small (n:=(rd (rk s2 4).1).toNat) (by omega)
 refine CallK.of (fun R h=>zOE s2 (by omega) 4 (by omega) H R h) ?_;simp (disch:=first|exact zb|fail) only [go_sem,seval,-List.reduceReplicate,w3,zOA,zAS,zOB,zOC,hz]
 generalize (rk s2 4).2=s3 at *
 generalize rd (rk s2 4).1=sp at *
 clear k3
 unfold e0 at h
 refine .ownC (H.n+2) 36 (by simp (disch:=first|exact zb|fail) only [go_sem,seval,-List.reduceReplicate]<;>rfl) (zgr hz) ?_
 simp (disch:=first|exact zb|fail) only [go_sem,seval,-List.reduceReplicate,hz]
 refine .ownC (H.n+2) 37 (by simp (disch:=first|exact zb|fail) only [go_sem,seval,-List.reduceReplicate]<;>rfl) (zgs hz) ?_
 simp (disch:=first|exact zb|fail) only [go_sem,seval,-List.reduceReplicate,hz]
 change ARun _ _ _ (dR H (mG kd.toNat se.toNat sp.toNat [] (List.replicate 32 0#8) (.sl (H.n+3) 0 1 []) (.sl (H.n+4) 0 2 [])) s3 0 0) R
 -- the root
 have k4:(rk s3 32).1.length=32:=za0
 have q4:=zcx (st:=s3) (n:=32)
 (refine .q ?_);refine .text ?_;simp (disch:=first|exact zb|fail) only [go_sem,seval,-List.reduceReplicate]
 refine CallK.of (fun R h=>zAU s3 (by omega) 32 (by omega) H _ _ _ R h) ?_;simp (disch:=first|exact zb|fail) only [go_sem,seval,-List.reduceReplicate]
 generalize (rk s3 32).2=s4 at *
 generalize (rk s3 32).1=ro at *
 unfold e1 at h
 (refine .q ?_);refine .text ?_;simp (disch:=first|exact zb|fail) only [go_sem,seval,-List.reduceReplicate]
 rw [←zAR (r:=ro)]
 (refine .q ?_);refine .loopH [0,2,4,5,6] (fun i=>[(7,.p (i64 i))]) (fun i=>dR H (mG kd.toNat se.toNat sp.toNat [] (mix ro i) (.sl (H.n+3) 0 1 []) (.sl (H.n+4) 0 2 [])) s4 0 0) (fun i=>True) (0) (32) (by omega) ?_ (by first | rfl | (simp (disch:=first|exact zb|fail) only [go_sem,seval,-List.reduceReplicate]<;>rfl)) ?_ ?_ ?_
 · simp (disch:=first|exact zb|fail) only [go_sem,seval,-List.reduceReplicate]<;>(repeat' (first | rfl | refine And.intro ?_ ?_))
 · exact trivial
 intro env A hQ;simp (disch:=first|exact zb|fail) only [go_sem,seval,-List.reduceReplicate] at A
 rotate_left 1
 intro i env hi0 hi A hQ ihA;simp (disch:=first|exact zb|fail) only [go_sem,seval,-List.reduceReplicate] at A
 rotate_left 1
 · (refine .q ?_);refine .text ?_;simp (disch:=first|exact zb|fail) only [go_sem,seval,-List.reduceReplicate,A]
   (refine .q ?_);refine .ifF (by simp (disch:=first|exact zb|fail) only [go_sem,seval,-List.reduceReplicate]) ?_
   (refine .q ?_);refine .text ?_;simp (disch:=first|exact zb|fail) only [go_sem,seval,-List.reduceReplicate,A]
   rw [zJc k4]
   -- the text
   have k5:(rk s4 2).1.length=2:=za0
   have q5:=zcx (st:=s4) (n:=2)
   have b5:(rd (rk s4 2).1).toNat < 65536:=zi5 (by omega)
   have w5:=wrap_small (n:=(rd (rk s4 2).1).toNat) (by omega)
   refine CallK.of (fun R h=>ztW s4 (by omega) 2 (by omega) H _ _ _ R h) ?_;simp (disch:=first|exact zb|fail) only [go_sem,seval,-List.reduceReplicate,w5]
   generalize (rk s4 2).2=s5 at *
   generalize (rd (rk s4 2).1).toNat=tl at *
   clear k5
   unfold e2 at h
   have k6:(rk s5 tl).1.length=tl:=za0
   have q6:=zcx (st:=s5) (n:=tl)
   refine CallK.of (fun R h=>zAU s5 (by omega) tl (by omega) H _ _ _ R h) ?_;simp (disch:=first|exact zb|fail) only [go_sem,seval,-List.reduceReplicate,zaP,A]
   generalize (rk s5 tl).2=s6 at *
   generalize (rk s5 tl).1=tx at *
   unfold e3 at h
   -- the sums
   have k7:(rk s6 1).1.length=1:=za0
   have q7:=zcx (st:=s6) (n:=1)
   have b7:(rd (rk s6 1).1).toNat < 256:=by
    rw [rd1 k7];exact (nth (rk s6 1).1 0).isLt
   have w7:=wrap_small (n:=(rd (rk s6 1).1).toNat) (by omega)
   (refine .q ?_);refine .text ?_;simp (disch:=first|exact zb|fail) only [go_sem,seval,-List.reduceReplicate,A]
   refine CallK.of (fun R h=>ztW s6 (by omega) 1 (by omega) H _ _ _ R h) ?_;simp (disch:=first|exact zb|fail) only [go_sem,seval,-List.reduceReplicate,w7]
   generalize (rk s6 1).2=s7 at *
   generalize (rd (rk s6 1).1).toNat=c1 at *
   clear k7
   unfold e4 at h
   (refine .q ?_);refine .text ?_;simp (disch:=first|exact zb|fail) only [go_sem,seval,-List.reduceReplicate,A]
   (refine .q ?_);refine .loopH [0,2,4,5,8] (fun i=>[(9,.p (i64 i))]) (fun i=>dR H (mG kd.toNat se.toNat sp.toNat tx ro (.sl (H.n+3) i 1 (pl i64 ((wR s7 i).1.map toI))) (.sl (H.n+4) 0 2 [])) (wR s7 i).2 i 0) (fun i=>True) (0) (c1) (by omega) ?_ (by first | rfl | (simp (disch:=first|exact zb|fail) only [go_sem,seval,-List.reduceReplicate,A,wR,List.map_nil]<;>rfl)) ?_ ?_ ?_
   · simp (disch:=first|exact zb|fail) only [go_sem,seval,-List.reduceReplicate,A,wR,List.map_nil]<;>(repeat' (first | rfl | refine And.intro ?_ ?_))
   · exact trivial
   intro env E hQ;simp (disch:=first|exact zb|fail) only [go_sem,seval,-List.reduceReplicate,A,wR,List.map_nil] at E
   rotate_left 1
   intro i env hi0 hi E hQ ihE;simp (disch:=first|exact zb|fail) only [go_sem,seval,-List.reduceReplicate,A,wR,List.map_nil] at E
   rotate_left 1
   · have q8:=zAO (st:=s7) (c:=c1)
     have k8:((wR s7 c1).1.map toI).length=c1:=by rw [List.length_map,zpi]
     generalize (wR s7 c1).2=s8 at *
     (refine .q ?_);refine .text ?_;simp (disch:=first|exact zb|fail) only [go_sem,seval,-List.reduceReplicate,E]
     (refine .q ?_);refine .ifF (by simp (disch:=first|exact zb|fail) only [go_sem,seval,-List.reduceReplicate]) ?_
     (refine .q ?_);refine .text ?_;simp (disch:=first|exact zb|fail) only [go_sem,seval,-List.reduceReplicate,E]
     unfold e5 at h
     -- the values
     have k9:(rk s8 1).1.length=1:=za0
     have q9:=zcx (st:=s8) (n:=1)
     have b9:(rd (rk s8 1).1).toNat < 256:=by
      rw [rd1 k9];exact (nth (rk s8 1).1 0).isLt
     have w9:=wrap_small (n:=(rd (rk s8 1).1).toNat) (by omega)
     refine CallK.of (fun R h=>ztW s8 (by omega) 1 (by omega) H _ _ _ R h) ?_;simp (disch:=first|exact zb|fail) only [go_sem,seval,-List.reduceReplicate,w9]
     generalize (rk s8 1).2=s9 at *
     generalize (rd (rk s8 1).1).toNat=c2 at *
     clear k9
     unfold e6 at h
     (refine .q ?_);refine .text ?_;simp (disch:=first|exact zb|fail) only [go_sem,seval,-List.reduceReplicate,E]
     have hbs:(wR s7 c1).1.map toI=(wR s7 c1).1.map toI:=rfl
     generalize hus:(wR s7 c1).1=ws at *
     (refine .q ?_);refine .loopH [0,2,4,5,8] (fun i=>[(10,.p (i64 i))]) (fun i=>dR H (mG kd.toNat se.toNat sp.toNat tx ro (.sl (H.n+3) c1 1 (pl i64 (ws.map toI))) (.sl (H.n+4) i 2 (pl ext (vR s9 i).1))) (vR s9 i).2 c1 i) (fun i=>True) (0) (c2) (by omega) ?_ (by first | rfl | (simp (disch:=first|exact zb|fail) only [go_sem,seval,-List.reduceReplicate,A,E,vR]<;>rfl)) ?_ ?_ ?_
     · simp (disch:=first|exact zb|fail) only [go_sem,seval,-List.reduceReplicate,A,E,vR]<;>(repeat' (first | rfl | refine And.intro ?_ ?_))
     · exact trivial
     intro env F hQ;simp (disch:=first|exact zb|fail) only [go_sem,seval,-List.reduceReplicate,A,E,vR] at F
     rotate_left 1
     intro i env hi0 hi F hQ ihF;simp (disch:=first|exact zb|fail) only [go_sem,seval,-List.reduceReplicate,A,E,vR] at F
     rotate_left 1
     · have q10:=zAP (st:=s9) (c:=c2)
       have k10:(vR s9 c2).1.length=c2:=zpj
       generalize (vR s9 c2).2=s10 at *
       generalize (vR s9 c2).1=vs at *
       (refine .q ?_);refine .text ?_;simp (disch:=first|exact zb|fail) only [go_sem,seval,-List.reduceReplicate,F]
       (refine .q ?_);refine .ifF (by simp (disch:=first|exact zb|fail) only [go_sem,seval,-List.reduceReplicate]) ?_
       (refine .q ?_);refine .text ?_;simp (disch:=first|exact zb|fail) only [go_sem,seval,-List.reduceReplicate,F]
       unfold e7 at h
       refine CallK.of (fun R h=>zAU s10 (by omega) 8 (by omega) H _ _ _ R h) ?_;simp (disch:=first|exact zb|fail) only [go_sem,seval,-List.reduceReplicate]
       generalize (rk s10 8).2=s11 at *
       have hbel:Bel H.n (dR H (mG kd.toNat se.toNat sp.toNat tx ro (.sl (H.n+3) c1 1 (pl i64 (ws.map toI))) (.sl (H.n+4) c2 2 (pl ext vs))) s11 c1 c2):=zOD hbel
       have hf1:(dR H (mG kd.toNat se.toNat sp.toNat tx ro (.sl (H.n+3) c1 1 (pl i64 (ws.map toI))) (.sl (H.n+4) c2 2 (pl ext vs))) s11 c1 c2).f (H.n+1)=some (.cells [.p (.sl false 1 (pl b8 s11.1)),.p (bo (!s11.2))]):=zqy
       unfold zI3 at h
       simp only at h
       cases hok:s11.2 with
       | false =>
        rw [hok,if_pos rfl] at h
        rw [hok] at hf1
        (refine .q ?_);refine .text ?_;simp (disch:=first|exact zb|fail) only [go_sem,seval,-List.reduceReplicate,F,E,A,hf1]
        (refine .q ?_);refine .ifT (by simp (disch:=first|exact zb|fail) only [go_sem,seval,-List.reduceReplicate]) ?_
        (refine .q ?_);refine .text ?_;simp (disch:=first|exact zb|fail) only [go_sem,seval,-List.reduceReplicate,F,E,A,hz,mZ]
        (refine .q ?_);refine .rt Tryd.func10 (by rw [Tryd.results10]) (hx:=by simp (disch:=first|exact zb|fail) only [go_sem,seval,-List.reduceReplicate,F,E,A,hz,mZ];rfl) (hR := ?_);simp (disch:=first|exact zb|fail) only [go_sem,seval,-List.reduceReplicate,F,E,A,hz,mZ]
        exact h
       | true =>
        rw [hok] at h hf1
        simp only [Bool.true_eq_false,if_false] at h
        (refine .q ?_);refine .text ?_;simp (disch:=first|exact zb|fail) only [go_sem,seval,-List.reduceReplicate,F,E,A,hf1]
        (refine .q ?_);refine .ifF (by simp (disch:=first|exact zb|fail) only [go_sem,seval,-List.reduceReplicate]) ?_
        have hM:(⟨kd.toNat,se.toNat,sp.toNat,tx,⟨ro,k4⟩,ws.map toI,vs⟩:Msg).Ok:=⟨⟨by show (_:Int)≤(kd.toNat:Int);omega,by show (kd.toNat:Int)≤_;omega⟩,⟨by show (_:Int)≤(se.toNat:Int);omega,by show (se.toNat:Int)≤_;omega⟩,⟨by show (_:Int)≤(sp.toNat:Int);omega,by show (sp.toNat:Int)≤_;omega⟩,by show tx.length≤_;omega,by show (ws.map toI).length≤_;omega,by show vs.length≤_;omega⟩
        have hagg:=zpf (k:=kd.toNat) (s:=se.toNat) (t:=sp.toNat) (tx:=tx) (a:=H.n+3) (v:=c1) (a':=H.n+4) (v':=c2) (su:=ws.map toI) (va:=vs) k4
        rw [zph k4] at h
        generalize (⟨kd.toNat,se.toNat,sp.toNat,tx,⟨ro,k4⟩,ws.map toI,vs⟩:Msg)=M at *
        by_cases hr:s11.1=[]
        · have d:decide ((0:Int) < (s11.1.length:Int))=false:=by rw [hr];rfl
          (refine .q ?_);refine .text ?_;simp (disch:=first|exact zb|fail) only [go_sem,seval,-List.reduceReplicate,F,E,A,hf1,d,hagg]
          refine CallK.of (fun R h=>zhe M hM _ R h) ?_;simp (disch:=first|exact zb|fail) only [go_sem,seval,-List.reduceReplicate,F,E,A]
          have hel:(enc M).length≤140737488355000:=by
           cases hv:valid M with
           | true =>
            have:=zdP hv
            have:=zc2 hv
            omega
           | false=>rw [enc,hv];simp
          refine CallK.of (fun R h=>zcP (enc M) b hel hb _ R h) ?_;simp (disch:=first|exact zb|fail) only [go_sem,seval,-List.reduceReplicate]
          by_cases he:enc M=b
          · rw [if_pos ⟨hr,he⟩] at h
            have d:decide (enc M=b)=true:=decide_eq_true he
            simp (disch:=first|exact zb|fail) only [go_sem,seval,-List.reduceReplicate,d]
            (refine .q ?_);refine .ifF (by simp (disch:=first|exact zb|fail) only [go_sem,seval,-List.reduceReplicate]) ?_
            (refine .q ?_);refine .text ?_;simp (disch:=first|exact zb|fail) only [go_sem,seval,-List.reduceReplicate,F,E,A,hagg,mZ]
            (refine .q ?_);refine .rt Tryd.func10 (by rw [Tryd.results10]) (hx:=by simp (disch:=first|exact zb|fail) only [go_sem,seval,-List.reduceReplicate,F,E,A,hz,mZ];rfl) (hR := ?_);simp (disch:=first|exact zb|fail) only [go_sem,seval,-List.reduceReplicate,F,E,A,hz,mZ]
            exact h
          · rw [if_neg (fun q=>he q.2)] at h
            have d:decide (enc M=b)=false:=decide_eq_false he
            simp (disch:=first|exact zb|fail) only [go_sem,seval,-List.reduceReplicate,d]
            (refine .q ?_);refine .ifT (by simp (disch:=first|exact zb|fail) only [go_sem,seval,-List.reduceReplicate]) ?_
            (refine .q ?_);refine .text ?_;simp (disch:=first|exact zb|fail) only [go_sem,seval,-List.reduceReplicate,F,E,A,hz,mZ]
            (refine .q ?_);refine .rt Tryd.func10 (by rw [Tryd.results10]) (hx:=by simp (disch:=first|exact zb|fail) only [go_sem,seval,-List.reduceReplicate,F,E,A,hz,mZ];rfl) (hR := ?_);simp (disch:=first|exact zb|fail) only [go_sem,seval,-List.reduceReplicate,F,E,A,hz,mZ]
            exact h
        · have d:decide ((0:Int) < (s11.1.length:Int))=true:=decide_eq_true (by have:s11.1.length≠0:=fun q=>hr (List.eq_nil_of_length_eq_zero q);omega)
          rw [if_neg (fun q=>hr q.1)] at h
          (refine .q ?_);refine .text ?_;simp (disch:=first|exact zb|fail) only [go_sem,seval,-List.reduceReplicate,F,E,A,hf1,d]
          (refine .q ?_);refine .ifT (by simp (disch:=first|exact zb|fail) only [go_sem,seval,-List.reduceReplicate]) ?_
          (refine .q ?_);refine .text ?_;simp (disch:=first|exact zb|fail) only [go_sem,seval,-List.reduceReplicate,F,E,A,hz,mZ]
          (refine .q ?_);refine .rt Tryd.func10 (by rw [Tryd.results10]) (hx:=by simp (disch:=first|exact zb|fail) only [go_sem,seval,-List.reduceReplicate,F,E,A,hz,mZ];rfl) (hR := ?_);simp (disch:=first|exact zb|fail) only [go_sem,seval,-List.reduceReplicate,F,E,A,hz,mZ]
          exact h
     · have hst:vR s9 (i+1)=((vR s9 i).1++[⟨rd (rk (vR s9 i).2 8).1,rd (rk (rk (vR s9 i).2 8).2 8).1⟩],(rk (rk (vR s9 i).2 8).2 8).2):=rfl
       rw [hst] at ihF
       have k10:(vR s9 i).1.length=i:=zpj
       have q10:=zAP (st:=s9) (c:=i)
       generalize (vR s9 i).2=s10 at *
       generalize (vR s9 i).1=vs at *
       have q11:=zcx (st:=s10) (n:=8)
       have na : ∀ mc j l R,R (.p (zx (rd (rk s10 8).1))) (dR H mc (rk s10 8).2 j l) → ACall Tryd.prog G 37 [.ptr (H.n+1) 0,.p (i64 8)] (dR H mc s10 j l) R:=fun mc j l R h=>ztW s10 (by omega) 8 (by omega) H mc j l R h
       generalize (rk s10 8).2=s11 at *
       generalize rd (rk s10 8).1=xa at *
       have nb : ∀ mc j l R,R (.p (zx (rd (rk s11 8).1))) (dR H mc (rk s11 8).2 j l) → ACall Tryd.prog G 37 [.ptr (H.n+1) 0,.p (i64 8)] (dR H mc s11 j l) R:=fun mc j l R h=>ztW s11 (by omega) 8 (by omega) H mc j l R h
       generalize (rk s11 8).2=s12 at *
       generalize rd (rk s11 8).1=xb at *
       generalize ws.map toI=us at *
       (refine .q ?_);refine .text ?_;simp (disch:=first|exact zb|fail) only [go_sem,seval,-List.reduceReplicate,F]
       (refine .q ?_);refine .ifT (by simp (disch:=first|exact zb|fail) only [go_sem,seval,-List.reduceReplicate]) ?_
       (refine .q ?_)
       refine .openInv (fun L env' H'=>kF env' [(0,.p (.sl false 1 (pl b8 b))),(2,.ptr H.n 0),(4,.ptr (H.n+1) 0),(5,.ptr (H.n+2) 0),(8,.p (i64 c2)),(10,.p (i64 i))]∧kI L env' [(0,68,.ptr (H.n+2) 37),(1,69,.sl (H.n+4) i 2 (pl ext vs)),(2,70,.ptr (H.n+1) 0),(3,71,.p (zx xa)),(4,72,.ptr (H.n+1) 0),(5,73,.p (zx xb)),(6,74,.p (ext ⟨xa,xb⟩)),(7,75,.p (.sl true 2 [ext ⟨xa,xb⟩])),(8,76,.sl (H.n+4) (i+1) 2 (pl ext (vs++[⟨xa,xb⟩]))),(9,77,.ptr (H.n+2) 37)]∧(L 3=true → allT L [2])∧(L 5=true → allT L [3,4])∧(L 8=true → allT L [1,5,7])∧(L 10=true → allT L [0,1,2,3,4,5,6,7,8,9])∧H'=(dR H (mG kd.toNat se.toNat sp.toNat tx ro (.sl (H.n+3) c1 1 (pl i64 us)) (if L 10 then .sl (H.n+4) (i+1) 2 (pl ext (vs++[⟨xa,xb⟩])) else .sl (H.n+4) i 2 (pl ext vs))) (if L 5 then s12 else if L 3 then s11 else s10) c1 (if L 8 then i+1 else i))) follows (by kernel_rfl) ?_ ?_ ?_
       · exact ⟨(yQ (by simp (disch:=first|exact zb|fail) only [go_sem,seval,-List.reduceReplicate,F,E,A,k4,k10]) (yQ (by simp (disch:=first|exact zb|fail) only [go_sem,seval,-List.reduceReplicate,F,E,A,k4,k10]) (yQ (by simp (disch:=first|exact zb|fail) only [go_sem,seval,-List.reduceReplicate,F,E,A,k4,k10]) (yQ (by simp (disch:=first|exact zb|fail) only [go_sem,seval,-List.reduceReplicate,F,E,A,k4,k10]) (yQ (by simp (disch:=first|exact zb|fail) only [go_sem,seval,-List.reduceReplicate,F,E,A,k4,k10]) (yQ (by simp (disch:=first|exact zb|fail) only [go_sem,seval,-List.reduceReplicate,F,E,A,k4,k10]) kF0)))))),(fun _ _ h=>by cases h),(fun h=>by cases h),(fun h=>by cases h),(fun h=>by cases h),(fun h=>by cases h),(by first | rfl | (simp only [Bool.false_eq_true,if_false];first | rfl | (simp (disch:=first|exact zb|fail) only [go_sem,seval,-List.reduceReplicate,F,E,A,k4,k10]<;>rfl)))⟩
       · intro i o L env' H' ho hL hall hI
         obtain ⟨KF,KG,m3,m5,m8,m10,rfl⟩:=hI
         rcases i with _ | _ | _ | _ | _ | _ | _ | _ | _ | _ | _ | i
         · cases ho
           have n10:=zu m10 hL
           have f3:=zU KF 3 rfl
           refine zf (.ptr (H.n+2) 37) rfl rfl (by simp (disch:=first|exact zb|fail) only [go_sem,seval,-List.reduceReplicate,reduceIte,Bool.false_eq_true,if_false,if_true,f3,n10,hL,k4,k10]<;>rfl) rfl ?_
           exact ⟨(zH KF),(zK KG),(ka m3),(ka m5),(ka m8),(ka m10),(by rw [za (by decide),za (by decide),za (by decide),za (by decide)])⟩
         · cases ho
           have h0:=kL hall 0 rfl rfl
           have d0:=zw KG 0 rfl h0
           have n8:=zu m8 hL
           have n10:=zu m10 hL
           refine zf (.sl (H.n+4) i 2 (pl ext vs)) rfl rfl (by simp (disch:=first|exact zb|fail) only [go_sem,seval,-List.reduceReplicate,reduceIte,Bool.false_eq_true,if_false,if_true,d0,n8,n10,hL,k4,k10]<;>rfl) rfl ?_
           exact ⟨(zH KF),(zK KG),(ka m3),(ka m5),(ka m8),(ka m10),(by rw [za (by decide),za (by decide),za (by decide),za (by decide)])⟩
         · cases ho
           have n3:=zu m3 hL
           have n10:=zu m10 hL
           have f2:=zU KF 2 rfl
           refine zf (.ptr (H.n+1) 0) rfl rfl (by simp (disch:=first|exact zb|fail) only [go_sem,seval,-List.reduceReplicate,reduceIte,Bool.false_eq_true,if_false,if_true,f2,n3,n10,hL,k4,k10]<;>rfl) rfl ?_
           exact ⟨(zH KF),(zK KG),(ka m3),(ka m5),(ka m8),(ka m10),(by rw [za (by decide),za (by decide),za (by decide),za (by decide)])⟩
         · cases ho
           have h2:=kL hall 0 rfl rfl
           have d2:=zw KG 2 rfl h2
           have n5:=zu m5 hL
           have n10:=zu m10 hL
           (try simp only [n5,n10,hL,if_true,if_false,Bool.false_eq_true])
           refine yi rfl rfl (by simp (disch:=first|exact zb|fail) only [go_sem,seval,-List.reduceReplicate,reduceIte,Bool.false_eq_true,if_false,if_true,d2,n5,n10,hL,k4,k10]<;>rfl) rfl (by simp (disch:=first|exact zb|fail) only [go_sem,seval,-List.reduceReplicate,reduceIte,Bool.false_eq_true,if_false,if_true,d2,n5,n10,hL,k4,k10]<;>rfl) (fun R h=>na _ _ _ R h) ?_
           exact ⟨(zH KF),(zK KG),(fun _=>kt (zc h2 zB)),(ka m5),(ka m8),(ka m10),(by (have e3:more L 3 3=true:=zv);(have e5:more L 3 5=L 5:=za (by decide));(have e8:more L 3 8=L 8:=za (by decide));(have e10:more L 3 10=L 10:=za (by decide));(try simp only [e3,e5,e8,e10,n5,n10,hL]);first | done | rfl | (simp only [e3,e5,e8,e10,n5,n10,hL,if_true,if_false,Bool.false_eq_true];first | done | rfl | (simp (disch:=first|exact zb|fail) only [go_sem,seval,-List.reduceReplicate,e3,e5,e8,e10,n5,n10,hL,k4,k10]<;>rfl)))⟩
         · cases ho
           have n5:=zu m5 hL
           have n10:=zu m10 hL
           have f2:=zU KF 2 rfl
           refine zf (.ptr (H.n+1) 0) rfl rfl (by simp (disch:=first|exact zb|fail) only [go_sem,seval,-List.reduceReplicate,reduceIte,Bool.false_eq_true,if_false,if_true,f2,n5,n10,hL,k4,k10]<;>rfl) rfl ?_
           exact ⟨(zH KF),(zK KG),(ka m3),(ka m5),(ka m8),(ka m10),(by rw [za (by decide),za (by decide),za (by decide),za (by decide)])⟩
         · cases ho
           have h4:=kL hall 0 rfl rfl
           have d4:=zw KG 4 rfl h4
           have h3:=kL hall 1 rfl rfl
           have n8:=zu m8 hL
           have n10:=zu m10 hL
           (try simp only [h3,n8,n10,hL,if_true,if_false,Bool.false_eq_true])
           refine yi rfl rfl (by simp (disch:=first|exact zb|fail) only [go_sem,seval,-List.reduceReplicate,reduceIte,Bool.false_eq_true,if_false,if_true,d4,h3,n8,n10,hL,k4,k10]<;>rfl) rfl (by simp (disch:=first|exact zb|fail) only [go_sem,seval,-List.reduceReplicate,reduceIte,Bool.false_eq_true,if_false,if_true,d4,h3,n8,n10,hL,k4,k10]<;>rfl) (fun R h=>nb _ _ _ R h) ?_
           exact ⟨(zH KF),(zK KG),(ka m3),(fun _=>kt (zc h3 (zc h4 zB))),(ka m8),(ka m10),(by (have e3:more L 5 3=L 3:=za (by decide));(have e5:more L 5 5=true:=zv);(have e8:more L 5 8=L 8:=za (by decide));(have e10:more L 5 10=L 10:=za (by decide));(try simp only [e3,e5,e8,e10,h3,n8,n10,hL]);first | done | rfl | (simp only [e3,e5,e8,e10,h3,n8,n10,hL,if_true,if_false,Bool.false_eq_true];first | done | rfl | (simp (disch:=first|exact zb|fail) only [go_sem,seval,-List.reduceReplicate,e3,e5,e8,e10,h3,n8,n10,hL,k4,k10]<;>rfl)))⟩
         · cases ho
           have h3:=kL hall 0 rfl rfl
           have d3:=zw KG 3 rfl h3
           have h5:=kL hall 1 rfl rfl
           have d5:=zw KG 5 rfl h5
           have n10:=zu m10 hL
           refine zf (.p (ext ⟨xa,xb⟩)) rfl rfl (by simp (disch:=first|exact zb|fail) only [go_sem,seval,-List.reduceReplicate,reduceIte,Bool.false_eq_true,if_false,if_true,d3,d5,h3,h5,n10,hL,k4,k10]<;>rfl) rfl ?_
           exact ⟨(zH KF),(zK KG),(ka m3),(ka m5),(ka m8),(ka m10),(by rw [za (by decide),za (by decide),za (by decide),za (by decide)])⟩
         · cases ho
           have h6:=kL hall 0 rfl rfl
           have d6:=zw KG 6 rfl h6
           have n8:=zu m8 hL
           have n10:=zu m10 hL
           refine zf (.p (.sl true 2 [ext ⟨xa,xb⟩])) rfl rfl (by simp (disch:=first|exact zb|fail) only [go_sem,seval,-List.reduceReplicate,reduceIte,Bool.false_eq_true,if_false,if_true,d6,n8,n10,hL,k4,k10]<;>rfl) rfl ?_
           exact ⟨(zH KF),(zK KG),(ka m3),(ka m5),(ka m8),(ka m10),(by rw [za (by decide),za (by decide),za (by decide),za (by decide)])⟩
         · cases ho
           have h1:=kL hall 0 rfl rfl
           have d1:=zw KG 1 rfl h1
           have h7:=kL hall 1 rfl rfl
           have d7:=zw KG 7 rfl h7
           have h5:=kL hall 2 rfl rfl
           have n10:=zu m10 hL
           (try simp only [h5,n10,hL,if_true,if_false,Bool.false_eq_true])
           refine yh (.sl (H.n+4) (i+1) 2 (pl ext (vs++[⟨xa,xb⟩]))) rfl rfl (by simp (disch:=first|exact zb|fail) only [go_sem,seval,-List.reduceReplicate,reduceIte,Bool.false_eq_true,if_false,if_true,d1,d7,h5,n10,hL,k4,k10]<;>rfl) rfl ?_
           exact ⟨(zH KF),(zK KG),(ka m3),(ka m5),(fun _=>kt (zc h1 (zc h5 (zc h7 zB)))),(ka m10),(by (have e3:more L 8 3=L 3:=za (by decide));(have e5:more L 8 5=L 5:=za (by decide));(have e8:more L 8 8=true:=zv);(have e10:more L 8 10=L 10:=za (by decide));(try simp only [e3,e5,e8,e10,h5,n10,hL]);first | done | rfl | (simp only [e3,e5,e8,e10,h5,n10,hL,if_true,if_false,Bool.false_eq_true];first | done | rfl | (simp (disch:=first|exact zb|fail) only [go_sem,seval,-List.reduceReplicate,e3,e5,e8,e10,h5,n10,hL,k4,k10]<;>rfl)))⟩
         · cases ho
           have h3:=kL hall 3 rfl rfl
           have h5:=kL hall 5 rfl rfl
           have h8:=kL hall 8 rfl rfl
           have n10:=zu m10 hL
           have f3:=zU KF 3 rfl
           refine zf (.ptr (H.n+2) 37) rfl rfl (by simp (disch:=first|exact zb|fail) only [go_sem,seval,-List.reduceReplicate,reduceIte,Bool.false_eq_true,if_false,if_true,f3,h3,h5,h8,n10,hL,k4,k10]<;>rfl) rfl ?_
           exact ⟨(zH KF),(zK KG),(ka m3),(ka m5),(ka m8),(ka m10),(by rw [za (by decide),za (by decide),za (by decide),za (by decide)])⟩
         · cases ho
           have h9:=kL hall 0 rfl rfl
           have d9:=zw KG 9 rfl h9
           have h8:=kL hall 1 rfl rfl
           have d8:=zw KG 8 rfl h8
           have h0:=kL hall 3 rfl rfl
           have h1:=kL hall 4 rfl rfl
           have h2:=kL hall 5 rfl rfl
           have h3:=kL hall 6 rfl rfl
           have h4:=kL hall 7 rfl rfl
           have h5:=kL hall 8 rfl rfl
           have h6:=kL hall 9 rfl rfl
           have h7:=kL hall 10 rfl rfl
           refine yd rfl rfl (by simp (disch:=first|exact zb|fail) only [go_sem,seval,-List.reduceReplicate,reduceIte,Bool.false_eq_true,if_false,if_true,d8,d9,h3,h5,h8,hL,k4,k10]<;>rfl) rfl ?_
           exact ⟨KF,(kIs KG),(ka m3),(ka m5),(ka m8),(fun _=>kt (zc h0 (zc h1 (zc h2 (zc h3 (zc h4 (zc h5 (zc h6 (zc h7 (zc h8 (zc h9 zB))))))))))),(by (have e3:more L 10 3=L 3:=za (by decide));(have e5:more L 10 5=L 5:=za (by decide));(have e8:more L 10 8=L 8:=za (by decide));(have e10:more L 10 10=true:=zv);(try simp only [e3,e5,e8,e10,h3,h5,h8,hL]);first | done | rfl | (simp only [e3,e5,e8,e10,h3,h5,h8,hL,if_true,if_false,Bool.false_eq_true];first | done | rfl | (simp (disch:=first|exact zb|fail) only [go_sem,seval,-List.reduceReplicate,e3,e5,e8,e10,h3,h5,h8,hL,k4,k10]<;>rfl)))⟩
         · simp at ho
       · intro L env' H' hall hI
         obtain ⟨KF,KG,_,_,_,_,rfl⟩:=hI
         have l3:=hall 3 (by decide)
         have l5:=hall 5 (by decide)
         have l8:=hall 8 (by decide)
         have l10:=hall 10 (by decide)
         have f0:=zU KF 0 rfl
         have f1:=zU KF 1 rfl
         have f2:=zU KF 2 rfl
         have f3:=zU KF 3 rfl
         have f4:=zU KF 4 rfl
         have f5:=zU KF 5 rfl
         simp only [l3,l5,l8,l10,if_true]
         clear hall
         (refine .q ?_);refine .text ?_;simp (disch:=first|exact zb|fail) only [go_sem,seval,-List.reduceReplicate,f5]
         first | (refine ihF _ _ ?_ trivial ?_) | (refine .z rfl ?_;refine ihF _ _ ?_ trivial ?_) | (refine .z rfl ?_;refine .z rfl ?_;refine ihF _ _ ?_ trivial ?_) | (refine .z rfl ?_;refine .z rfl ?_;refine .z rfl ?_;refine ihF _ _ ?_ trivial ?_)
         · simp (disch:=first|exact zb|fail) only [go_sem,seval,-List.reduceReplicate,f0,f1,f2,f3,f4,f5,F,E,A]<;>(repeat' (first | rfl | refine And.intro ?_ ?_))
         · first | rfl | (simp (disch:=first|exact zb|fail) only [go_sem,seval,-List.reduceReplicate,f0,f1,f2,f3,f4,f5,F,E,A]<;>(try rfl))
   · have hst:wR s7 (i+1)=((wR s7 i).1++[rd (rk (wR s7 i).2 8).1],(rk (wR s7 i).2 8).2):=rfl
     rw [hst,List.map_append] at ihE
     have k8:((wR s7 i).1.map toI).length=i:=by rw [List.length_map,zpi]
     have q8:=zAO (st:=s7) (c:=i)
     generalize (wR s7 i).2=s8 at *
     generalize (wR s7 i).1.map toI=us at *
     have na : ∀ mc j l R,R (.p (zx (rd (rk s8 8).1))) (dR H mc (rk s8 8).2 j l) → ACall Tryd.prog G 37 [.ptr (H.n+1) 0,.p (i64 8)] (dR H mc s8 j l) R:=fun mc j l R h=>ztW s8 (by omega) 8 (by omega) H mc j l R h
     generalize (rk s8 8).2=s9 at *
     generalize rd (rk s8 8).1=x at *
     have htoI:IntKind.i64.wrap (x.toNat:Int)=toI x:=rfl
     (refine .q ?_);refine .text ?_;simp (disch:=first|exact zb|fail) only [go_sem,seval,-List.reduceReplicate,E]
     (refine .q ?_);refine .ifT (by simp (disch:=first|exact zb|fail) only [go_sem,seval,-List.reduceReplicate]) ?_
     (refine .q ?_)
     refine .openInv (fun L env' H'=>kF env' [(0,.p (.sl false 1 (pl b8 b))),(2,.ptr H.n 0),(4,.ptr (H.n+1) 0),(5,.ptr (H.n+2) 0),(8,.p (i64 c1)),(9,.p (i64 i))]∧kI L env' [(0,52,.ptr (H.n+2) 36),(1,53,.sl (H.n+3) i 1 (pl i64 us)),(2,54,.ptr (H.n+1) 0),(3,55,.p (zx x)),(4,56,.p (i64 (toI x))),(5,57,.p (.sl true 1 [i64 (toI x)])),(6,58,.sl (H.n+3) (i+1) 1 (pl i64 (us++[toI x]))),(7,59,.ptr (H.n+2) 36)]∧(L 3=true → allT L [2])∧(L 6=true → allT L [1,3,5])∧(L 8=true → allT L [0,1,2,3,4,5,6,7])∧H'=(dR H (mG kd.toNat se.toNat sp.toNat tx ro (if L 8 then .sl (H.n+3) (i+1) 1 (pl i64 (us++[toI x])) else .sl (H.n+3) i 1 (pl i64 us)) (.sl (H.n+4) 0 2 [])) (if L 3 then s9 else s8) (if L 6 then i+1 else i) 0)) follows (by kernel_rfl) ?_ ?_ ?_
     · exact ⟨(yQ (by simp (disch:=first|exact zb|fail) only [go_sem,seval,-List.reduceReplicate,E,A,k4,k8,htoI]) (yQ (by simp (disch:=first|exact zb|fail) only [go_sem,seval,-List.reduceReplicate,E,A,k4,k8,htoI]) (yQ (by simp (disch:=first|exact zb|fail) only [go_sem,seval,-List.reduceReplicate,E,A,k4,k8,htoI]) (yQ (by simp (disch:=first|exact zb|fail) only [go_sem,seval,-List.reduceReplicate,E,A,k4,k8,htoI]) (yQ (by simp (disch:=first|exact zb|fail) only [go_sem,seval,-List.reduceReplicate,E,A,k4,k8,htoI]) (yQ (by simp (disch:=first|exact zb|fail) only [go_sem,seval,-List.reduceReplicate,E,A,k4,k8,htoI]) kF0)))))),(fun _ _ h=>by cases h),(fun h=>by cases h),(fun h=>by cases h),(fun h=>by cases h),(by first | rfl | (simp only [Bool.false_eq_true,if_false];first | rfl | (simp (disch:=first|exact zb|fail) only [go_sem,seval,-List.reduceReplicate,E,A,k4,k8,htoI]<;>rfl)))⟩
     · intro i o L env' H' ho hL hall hI
       obtain ⟨KF,KG,m3,m6,m8,rfl⟩:=hI
       rcases i with _ | _ | _ | _ | _ | _ | _ | _ | _ | i
       · cases ho
         have n8:=zu m8 hL
         have f3:=zU KF 3 rfl
         refine zf (.ptr (H.n+2) 36) rfl rfl (by simp (disch:=first|exact zb|fail) only [go_sem,seval,-List.reduceReplicate,reduceIte,Bool.false_eq_true,if_false,if_true,f3,n8,hL,k4,k8,htoI]<;>rfl) rfl ?_
         exact ⟨(zH KF),(zK KG),(ka m3),(ka m6),(ka m8),(by rw [za (by decide),za (by decide),za (by decide)])⟩
       · cases ho
         have h0:=kL hall 0 rfl rfl
         have d0:=zw KG 0 rfl h0
         have n6:=zu m6 hL
         have n8:=zu m8 hL
         refine zf (.sl (H.n+3) i 1 (pl i64 us)) rfl rfl (by simp (disch:=first|exact zb|fail) only [go_sem,seval,-List.reduceReplicate,reduceIte,Bool.false_eq_true,if_false,if_true,d0,n6,n8,hL,k4,k8,htoI]<;>rfl) rfl ?_
         exact ⟨(zH KF),(zK KG),(ka m3),(ka m6),(ka m8),(by rw [za (by decide),za (by decide),za (by decide)])⟩
       · cases ho
         have n3:=zu m3 hL
         have n8:=zu m8 hL
         have f2:=zU KF 2 rfl
         refine zf (.ptr (H.n+1) 0) rfl rfl (by simp (disch:=first|exact zb|fail) only [go_sem,seval,-List.reduceReplicate,reduceIte,Bool.false_eq_true,if_false,if_true,f2,n3,n8,hL,k4,k8,htoI]<;>rfl) rfl ?_
         exact ⟨(zH KF),(zK KG),(ka m3),(ka m6),(ka m8),(by rw [za (by decide),za (by decide),za (by decide)])⟩
       · cases ho
         have h2:=kL hall 0 rfl rfl
         have d2:=zw KG 2 rfl h2
         have n6:=zu m6 hL
         have n8:=zu m8 hL
         (try simp only [n6,n8,hL,if_true,if_false,Bool.false_eq_true])
         refine yi rfl rfl (by simp (disch:=first|exact zb|fail) only [go_sem,seval,-List.reduceReplicate,reduceIte,Bool.false_eq_true,if_false,if_true,d2,n6,n8,hL,k4,k8,htoI]<;>rfl) rfl (by simp (disch:=first|exact zb|fail) only [go_sem,seval,-List.reduceReplicate,reduceIte,Bool.false_eq_true,if_false,if_true,d2,n6,n8,hL,k4,k8,htoI]<;>rfl) (fun R h=>na _ _ _ R h) ?_
         exact ⟨(zH KF),(zK KG),(fun _=>kt (zc h2 zB)),(ka m6),(ka m8),(by (have e3:more L 3 3=true:=zv);(have e6:more L 3 6=L 6:=za (by decide));(have e8:more L 3 8=L 8:=za (by decide));(try simp only [e3,e6,e8,n6,n8,hL]);first | done | rfl | (simp only [e3,e6,e8,n6,n8,hL,if_true,if_false,Bool.false_eq_true];first | done | rfl | (simp (disch:=first|exact zb|fail) only [go_sem,seval,-List.reduceReplicate,e3,e6,e8,n6,n8,hL,k4,k8,htoI]<;>rfl)))⟩
       · cases ho
         have h3:=kL hall 0 rfl rfl
         have d3:=zw KG 3 rfl h3
         have n8:=zu m8 hL
         refine zf (.p (i64 (toI x))) rfl rfl (by simp (disch:=first|exact zb|fail) only [go_sem,seval,-List.reduceReplicate,reduceIte,Bool.false_eq_true,if_false,if_true,d3,h3,n8,hL,k4,k8,htoI]<;>rfl) rfl ?_
         exact ⟨(zH KF),(zK KG),(ka m3),(ka m6),(ka m8),(by rw [za (by decide),za (by decide),za (by decide)])⟩
       · cases ho
         have h4:=kL hall 0 rfl rfl
         have d4:=zw KG 4 rfl h4
         have n6:=zu m6 hL
         have n8:=zu m8 hL
         refine zf (.p (.sl true 1 [i64 (toI x)])) rfl rfl (by simp (disch:=first|exact zb|fail) only [go_sem,seval,-List.reduceReplicate,reduceIte,Bool.false_eq_true,if_false,if_true,d4,n6,n8,hL,k4,k8,htoI]<;>rfl) rfl ?_
         exact ⟨(zH KF),(zK KG),(ka m3),(ka m6),(ka m8),(by rw [za (by decide),za (by decide),za (by decide)])⟩
       · cases ho
         have h1:=kL hall 0 rfl rfl
         have d1:=zw KG 1 rfl h1
         have h5:=kL hall 1 rfl rfl
         have d5:=zw KG 5 rfl h5
         have h3:=kL hall 2 rfl rfl
         have n8:=zu m8 hL
         (try simp only [h3,n8,hL,if_true,if_false,Bool.false_eq_true])
         refine yh (.sl (H.n+3) (i+1) 1 (pl i64 (us++[toI x]))) rfl rfl (by simp (disch:=first|exact zb|fail) only [go_sem,seval,-List.reduceReplicate,reduceIte,Bool.false_eq_true,if_false,if_true,d1,d5,h3,n8,hL,k4,k8,htoI]<;>rfl) rfl ?_
         exact ⟨(zH KF),(zK KG),(ka m3),(fun _=>kt (zc h1 (zc h3 (zc h5 zB)))),(ka m8),(by (have e3:more L 6 3=L 3:=za (by decide));(have e6:more L 6 6=true:=zv);(have e8:more L 6 8=L 8:=za (by decide));(try simp only [e3,e6,e8,h3,n8,hL]);first | done | rfl | (simp only [e3,e6,e8,h3,n8,hL,if_true,if_false,Bool.false_eq_true];first | done | rfl | (simp (disch:=first|exact zb|fail) only [go_sem,seval,-List.reduceReplicate,e3,e6,e8,h3,n8,hL,k4,k8,htoI]<;>rfl)))⟩
       · cases ho
         have h3:=kL hall 3 rfl rfl
         have h6:=kL hall 6 rfl rfl
         have n8:=zu m8 hL
         have f3:=zU KF 3 rfl
         refine zf (.ptr (H.n+2) 36) rfl rfl (by simp (disch:=first|exact zb|fail) only [go_sem,seval,-List.reduceReplicate,reduceIte,Bool.false_eq_true,if_false,if_true,f3,h3,h6,n8,hL,k4,k8,htoI]<;>rfl) rfl ?_
         exact ⟨(zH KF),(zK KG),(ka m3),(ka m6),(ka m8),(by rw [za (by decide),za (by decide),za (by decide)])⟩
       · cases ho
         have h7:=kL hall 0 rfl rfl
         have d7:=zw KG 7 rfl h7
         have h6:=kL hall 1 rfl rfl
         have d6:=zw KG 6 rfl h6
         have h0:=kL hall 3 rfl rfl
         have h1:=kL hall 4 rfl rfl
         have h2:=kL hall 5 rfl rfl
         have h3:=kL hall 6 rfl rfl
         have h4:=kL hall 7 rfl rfl
         have h5:=kL hall 8 rfl rfl
         refine yd rfl rfl (by simp (disch:=first|exact zb|fail) only [go_sem,seval,-List.reduceReplicate,reduceIte,Bool.false_eq_true,if_false,if_true,d6,d7,h3,h6,hL,k4,k8,htoI]<;>rfl) rfl ?_
         exact ⟨KF,(kIs KG),(ka m3),(ka m6),(fun _=>kt (zc h0 (zc h1 (zc h2 (zc h3 (zc h4 (zc h5 (zc h6 (zc h7 zB))))))))),(by (have e3:more L 8 3=L 3:=za (by decide));(have e6:more L 8 6=L 6:=za (by decide));(have e8:more L 8 8=true:=zv);(try simp only [e3,e6,e8,h3,h6,hL]);first | done | rfl | (simp only [e3,e6,e8,h3,h6,hL,if_true,if_false,Bool.false_eq_true];first | done | rfl | (simp (disch:=first|exact zb|fail) only [go_sem,seval,-List.reduceReplicate,e3,e6,e8,h3,h6,hL,k4,k8,htoI]<;>rfl)))⟩
       · simp at ho
     · intro L env' H' hall hI
       obtain ⟨KF,KG,_,_,_,rfl⟩:=hI
       have l3:=hall 3 (by decide)
       have l6:=hall 6 (by decide)
       have l8:=hall 8 (by decide)
       have f0:=zU KF 0 rfl
       have f1:=zU KF 1 rfl
       have f2:=zU KF 2 rfl
       have f3:=zU KF 3 rfl
       have f4:=zU KF 4 rfl
       have f5:=zU KF 5 rfl
       simp only [l3,l6,l8,if_true]
       clear hall
       (refine .q ?_);refine .text ?_;simp (disch:=first|exact zb|fail) only [go_sem,seval,-List.reduceReplicate,f5]
       first | (refine ihE _ _ ?_ trivial ?_) | (refine .z rfl ?_;refine ihE _ _ ?_ trivial ?_) | (refine .z rfl ?_;refine .z rfl ?_;refine ihE _ _ ?_ trivial ?_) | (refine .z rfl ?_;refine .z rfl ?_;refine .z rfl ?_;refine ihE _ _ ?_ trivial ?_)
       · simp (disch:=first|exact zb|fail) only [go_sem,seval,-List.reduceReplicate,f0,f1,f2,f3,f4,f5,E,A]<;>(repeat' (first | rfl | refine And.intro ?_ ?_))
       · first | rfl | (simp (disch:=first|exact zb|fail) only [go_sem,seval,-List.reduceReplicate,f0,f1,f2,f3,f4,f5,E,A]<;>(try rfl))
 · have hml:=zJa (i:=i) k4 (by omega)
   have hms:=zJb (i:=i) k4 hi
   (refine .q ?_);refine .text ?_;simp (disch:=first|exact zb|fail) only [go_sem,seval,-List.reduceReplicate,A]
   (refine .q ?_);refine .ifT (by simp (disch:=first|exact zb|fail) only [go_sem,seval,-List.reduceReplicate]) ?_
   (refine .q ?_);refine .text ?_;simp (disch:=first|exact zb|fail) only [go_sem,seval,-List.reduceReplicate,A,hml,k4,zI9,hms]
   (refine .q ?_);refine .text ?_;simp (disch:=first|exact zb|fail) only [go_sem,seval,-List.reduceReplicate,A]
   first | (refine ihA _ _ ?_ trivial ?_) | (refine .z rfl ?_;refine ihA _ _ ?_ trivial ?_) | (refine .z rfl ?_;refine .z rfl ?_;refine ihA _ _ ?_ trivial ?_) | (refine .z rfl ?_;refine .z rfl ?_;refine .z rfl ?_;refine ihA _ _ ?_ trivial ?_)
   · simp (disch:=first|exact zb|fail) only [go_sem,seval,-List.reduceReplicate,A]<;>(repeat' (first | rfl | refine And.intro ?_ ?_))
   · first | rfl | (simp (disch:=first|exact zb|fail) only [go_sem,seval,-List.reduceReplicate,A]<;>(try rfl))
end walks
end Go.Proofs.YtmoecjgehdkhkaaDoor

/-
  Sessions: comparing;the reference's small functions of elements.
-/
namespace Go.Proofs.YtmoecjgehdkhkaaDoor
open Go Go.AL

theorem wf_u64 (x:U):(Lit.int .u64 (x.toNat:Int)).wf=true:=by
 have:=x.isLt
 simp only [Lit.wf,Bool.and_eq_true,decide_eq_true_eq]
 exact ⟨by show (0:Int)≤_;omega,by show _≤(18446744073709551615:Int);omega⟩
theorem zem {P:Program} {t:TypeId} {k:IntKind} {n:Int} {d:Nat} (hu:P.underlying t=some (.int k)) (h:(Lit.int k n).wf=true):P.keyLits (d+1) t [.int k n]=some [.int k n]:=by
 unfold Program.keyLits
 simp [hu,h]
theorem zl3 (x:Ext):Tryd.prog.keyLits 64 63 [.int .u64 x.a.toNat,.int .u64 x.b.toNat]=some [.int .u64 x.a.toNat,.int .u64 x.b.toNat]:=by
 have i2 : ∀ x:U,Tryd.prog.keyLits 63 61 [.int .u64 x.toNat]=some [.int .u64 x.toNat]:=fun x=>zem Tryd.underlying61 (wf_u64 x)
 unfold Program.keyLits
 simp only [Tryd.underlying63,ziT]
 rw [if_pos ⟨rfl,by kernel_rfl⟩]
 simp only [List.mapM_cons,List.mapM_nil,zp6,List.drop_zero,List.drop_succ_cons,List.take_succ_cons,List.take_zero,i2,Option.pure_def,Option.bind_eq_bind,Option.bind_some,Option.map_some]
 rfl
theorem zOF (x:Ext):zi Tryd.prog .neq 63 (.p (ext x)) (.p (ext x))=some (.p (bo false)):=by
 have:=(zpM (t:=63) (P:=Tryd.prog) (xs:=[zx x.a,zx x.b]) (ys:=[zx x.a,zx x.b]) (p:=True) (by kernel_rfl) rfl rfl (zl3 x) (zl3 x) (by simp)).2
 show zi _ _ _ (.p (.agg [zx x.a,zx x.b])) (.p (.agg [zx x.a,zx x.b]))=_
 simpa using this
theorem zl4 {a b c:Int} (ha:okI a) (hb:okI b) (hc:okI c):Tryd.prog.keyLits 64 40 [.int .i64 a,.int .i64 b,.int .i64 c]=some [.int .i64 a,.int .i64 b,.int .i64 c]:=by
 have i1 : ∀ n,okI n → Tryd.prog.keyLits 63 3 [.int .i64 n]=some [.int .i64 n]:=fun n h=>zem Tryd.underlying3 (wf_i64 h.1 h.2)
 have h1:=i1 _ ha
 have h2:=i1 _ hb
 have h3:=i1 _ hc
 unfold Program.keyLits
 simp only [Tryd.underlying40,cells40]
 rw [if_pos ⟨rfl,by kernel_rfl⟩]
 simp only [List.mapM_cons,List.mapM_nil,cells3,List.drop_zero,List.drop_succ_cons,List.take_succ_cons,List.take_zero,h1,h2,h3,Option.pure_def,Option.bind_eq_bind,Option.bind_some,Option.map_some]
 rfl
theorem zOG {a b c:Int} (ha:okI a) (hb:okI b) (hc:okI c):zi Tryd.prog .eql 40 (.p (.agg [i64 a,i64 b,i64 c])) (.p (.agg [i64 a,i64 b,i64 c]))=some (.p (bo true))∧zi Tryd.prog .neq 40 (.p (.agg [i64 a,i64 b,i64 c])) (.p (.agg [i64 a,i64 b,i64 c]))=some (.p (bo false)):=by
 have:=zpM (t:=40) (P:=Tryd.prog) (xs:=[i64 a,i64 b,i64 c]) (ys:=[i64 a,i64 b,i64 c]) (p:=True) (by kernel_rfl) rfl rfl (zl4 ha hb hc) (zl4 ha hb hc) (by simp)
 simpa using this
def rdc (x:U):U:=x % 18446744069414584321#64
def zAV (x:Ext):Ext:=⟨rdc x.a,rdc x.b⟩
def zap (l:List Ext):Nat → List Ext
 | 0=>[]
 | n+1=>zap l n++[if n < l.length then zAV (nth l n) else ⟨0#64,0#64⟩]
theorem zc3 {l:List Ext} : ∀ {n},(zap l n).length=n
 | 0=>rfl
 | n+1=>by simp [zap,zc3]
section walks
variable {G:Globs}
theorem zen (x:U) (H:Hp) (R:AV → Hp → Prop) (h:R (.p (zx (rdc x))) H):ACall Tryd.prog G 76 [.p (zx x)] H R:=by
 have hp:(18446744069414584321#64:U)≠0#64:=by decide
 refine ACall.of_run (raw:=[]) Tryd.func76 rfl Tryd.ntmps76 (by simp) fun hbel => ?_
 (refine .q ?_);refine .text ?_;simp (disch:=first|exact zb|fail) only [go_sem,seval]
 (refine .q ?_);refine .text ?_;simp (disch:=first|exact zb|fail) only [go_sem,seval]
 (refine .q ?_);refine .rt Tryd.func76 (by rw [Tryd.results76]) (hR := ?_);simp (disch:=first|exact zb|fail) only [go_sem,seval]
 exact h
theorem zpm (x:Ext) (H:Hp) (R:AV → Hp → Prop) (h:R (.p (ext (zAV x))) H):ACall Tryd.prog G 59 [.p (ext x)] H R:=by
 refine ACall.of_run (raw:=[]) Tryd.func59 rfl Tryd.ntmps59 (by simp) fun hbel => ?_
 (refine .q ?_);refine .text ?_;simp (disch:=first|exact zb|fail) only [go_sem,seval]
 (refine .q ?_);refine .open [7] follows (by kernel_rfl) ?_;simp (disch:=first|exact zb|fail) only [go_sem,seval]
 refine CallD.still (fun R h=>zen _ _ R h) ?_;simp (disch:=first|exact zb|fail) only [go_sem,seval]
 refine CallD.still (fun R h=>zen _ _ R h) ?_;simp (disch:=first|exact zb|fail) only [go_sem,seval]
 (refine .q ?_);refine .rt Tryd.func59 (by rw [Tryd.results59]) (hR := ?_);simp (disch:=first|exact zb|fail) only [go_sem,seval]
 exact h
set_option maxHeartbeats 4000000 in
theorem zdS (l:List Ext) (hl:l.length≤9223372036854775807) (n:Nat) (hn:n≤100000) (H:Hp) (R:AV → Hp → Prop) (h:R (.p (.sl false 2 (pl ext (zap l n)))) H):ACall Tryd.prog G 30 [.p (.sl false 2 (pl ext l)),.p (i64 n)] H R:=by
 refine ACall.of_run (raw:=[]) Tryd.func30 rfl Tryd.ntmps30 (by simp) fun hbel => ?_
 (refine .q ?_);refine .text ?_;simp (disch:=first|exact zb|fail) only [go_sem,seval]
 (refine .q ?_);refine .text ?_;simp (disch:=first|exact zb|fail) only [go_sem,seval]
 (refine .q ?_);refine .own 5 (by simp (disch:=first|exact zb|fail) only [go_sem,seval];rfl) ?_
 (refine .q ?_);refine .text ?_;simp (disch:=first|exact zb|fail) only [go_sem,seval]
 (refine .q ?_);refine .loopF [0,1] (fun i=>[(5,.sl H.n i 2 (pl ext (zap l i))),(6,.p (i64 i))]) (fun i=>[(H.n,.tail i)]) (fun i=>True) (0) (n) (by omega) ?_ (by first | rfl | (simp (disch:=first|exact zb|fail) only [go_sem,seval,zap]<;>rfl)) ?_ ?_ ?_
 · simp (disch:=first|exact zb|fail) only [go_sem,seval,zap]<;>(repeat' (first | rfl | refine And.intro ?_ ?_))
 · exact trivial
 intro env T E hQ;simp (disch:=first|exact zb|fail) only [go_sem,seval,zap] at E
 rotate_left 1
 intro i env T hi0 hi E hQ ihE;simp (disch:=first|exact zb|fail) only [go_sem,seval,zap] at E
 rotate_left 1
 · (refine .q ?_);refine .text ?_;simp (disch:=first|exact zb|fail) only [go_sem,seval,E]
   (refine .q ?_);refine .ifF (by simp (disch:=first|exact zb|fail) only [go_sem,seval]) ?_
   (refine .q ?_);refine .text ?_;simp (disch:=first|exact zb|fail) only [go_sem,seval,E]
   (refine .q ?_);refine .rt Tryd.func30 (by rw [Tryd.results30]) (hx:=by simp (disch:=first|exact zb|fail) only [go_sem,seval,E];rfl) (hR := ?_);simp (disch:=first|exact zb|fail) only [go_sem,seval,E]
   exact h
 · have hml:=zc3 (l:=l) (n:=i)
   have hst:zap l (i+1)=zap l i++[if i < l.length then zAV (nth l i) else ⟨0#64,0#64⟩]:=rfl
   rw [hst] at ihE
   (refine .q ?_);refine .text ?_;simp (disch:=first|exact zb|fail) only [go_sem,seval,E]
   (refine .q ?_);refine .ifT (by simp (disch:=first|exact zb|fail) only [go_sem,seval]) ?_
   (refine .q ?_);refine .text ?_;simp (disch:=first|exact zb|fail) only [go_sem,seval,E]
   (refine .q ?_);refine .text ?_;simp (disch:=first|exact zb|fail) only [go_sem,seval,E]
   by_cases c:i < l.length
   · have d:decide ((i:Int) < (l.length:Int))=true:=decide_eq_true (by omega)
     rw [if_pos c] at ihE
     (refine .q ?_);refine .ifT (by simp (disch:=first|exact zb|fail) only [go_sem,seval,d]) ?_
     (refine .q ?_);refine .text ?_;simp (disch:=first|exact zb|fail) only [go_sem,seval,E]
     refine CallK.of (fun R h=>zpm _ _ R h) ?_;simp (disch:=first|exact zb|fail) only [go_sem,seval]
     (refine .q ?_);refine .text ?_;simp (disch:=first|exact zb|fail) only [go_sem,seval,E,hml]
     (refine .q ?_);refine .text ?_;simp (disch:=first|exact zb|fail) only [go_sem,seval,E]
     first | (refine ihE _ _ ?_ trivial ?_) | (refine .z rfl ?_;refine ihE _ _ ?_ trivial ?_) | (refine .z rfl ?_;refine .z rfl ?_;refine ihE _ _ ?_ trivial ?_) | (refine .z rfl ?_;refine .z rfl ?_;refine .z rfl ?_;refine ihE _ _ ?_ trivial ?_)
     · simp (disch:=first|exact zb|fail) only [go_sem,seval,E]<;>(repeat' (first | rfl | refine And.intro ?_ ?_))
     · first | exact .mk _ rfl | exact .mk [] rfl | (apply Later.mk;simp (disch:=first|exact zb|fail) only [go_sem,seval,zbg,E];exact rfl) | (apply Later.mk;simp (disch:=first|exact zb|fail) only [go_sem,seval,zbg,zdC,List.append_assoc,E]<;>(try rfl))
   · have d:decide ((i:Int) < (l.length:Int))=false:=decide_eq_false (by omega)
     rw [if_neg c] at ihE
     (refine .q ?_);refine .ifF (by simp (disch:=first|exact zb|fail) only [go_sem,seval,d]) ?_
     refine .skip ?_
     (refine .q ?_);refine .text ?_;simp (disch:=first|exact zb|fail) only [go_sem,seval,E,hml]
     (refine .q ?_);refine .text ?_;simp (disch:=first|exact zb|fail) only [go_sem,seval,E]
     first | (refine ihE _ _ ?_ trivial ?_) | (refine .z rfl ?_;refine ihE _ _ ?_ trivial ?_) | (refine .z rfl ?_;refine .z rfl ?_;refine ihE _ _ ?_ trivial ?_) | (refine .z rfl ?_;refine .z rfl ?_;refine .z rfl ?_;refine ihE _ _ ?_ trivial ?_)
     · simp (disch:=first|exact zb|fail) only [go_sem,seval,E]<;>(repeat' (first | rfl | refine And.intro ?_ ?_))
     · first | exact .mk _ rfl | exact .mk [] rfl | (apply Later.mk;simp (disch:=first|exact zb|fail) only [go_sem,seval,zbg,E];exact rfl) | (apply Later.mk;simp (disch:=first|exact zb|fail) only [go_sem,seval,zbg,zdC,List.append_assoc,E]<;>(try rfl))
set_option maxHeartbeats 4000000 in
theorem zpn (l:List Ext) (hl:l.length≤140737488355000) (H:Hp) (R:AV → Hp → Prop) (h:R (.p (bo true)) H):ACall Tryd.prog G 45 [.p (.sl false 2 (pl ext l)),.p (.sl false 2 (pl ext l))] H R:=by
 refine ACall.of_run (raw:=[]) Tryd.func45 rfl Tryd.ntmps45 (by simp) fun hbel => ?_
 (refine .q ?_);refine .text ?_;simp (disch:=first|exact zb|fail) only [go_sem,seval]
 (refine .q ?_);refine .text ?_;simp (disch:=first|exact zb|fail) only [go_sem,seval,bne_self_eq_false]
 (refine .q ?_);refine .ifF (by simp (disch:=first|exact zb|fail) only [go_sem,seval]) ?_
 (refine .q ?_);refine .text ?_;simp (disch:=first|exact zb|fail) only [go_sem,seval]
 (refine .q ?_);refine .loopE [0,1] (fun i=>[(4,.p (bo false)),(5,.p (i64 i))]) (fun i=>[]) (fun i=>True) (0) (l.length) (by omega) ?_ (by first | rfl | (simp (disch:=first|exact zb|fail) only [go_sem,seval]<;>rfl)) ?_ ?_ ?_
 · simp (disch:=first|exact zb|fail) only [go_sem,seval]<;>(repeat' (first | rfl | refine And.intro ?_ ?_))
 · exact trivial
 intro env E hQ;simp (disch:=first|exact zb|fail) only [go_sem,seval] at E
 rotate_left 1
 intro i env hi0 hi E hQ ihE;simp (disch:=first|exact zb|fail) only [go_sem,seval] at E
 rotate_left 1
 · (refine .q ?_);refine .text ?_;simp (disch:=first|exact zb|fail) only [go_sem,seval,E]
   (refine .q ?_);refine .ifF (by simp (disch:=first|exact zb|fail) only [go_sem,seval]) ?_
   (refine .q ?_);refine .text ?_;simp (disch:=first|exact zb|fail) only [go_sem,seval,E]
   (refine .q ?_);refine .rt Tryd.func45 (by rw [Tryd.results45]) (hR := ?_);simp (disch:=first|exact zb|fail) only [go_sem,seval]
   exact h
 · (refine .q ?_);refine .text ?_;simp (disch:=first|exact zb|fail) only [go_sem,seval,E]
   (refine .q ?_);refine .ifT (by simp (disch:=first|exact zb|fail) only [go_sem,seval]) ?_
   (refine .q ?_);refine .open [] follows (by kernel_rfl) ?_;simp (disch:=first|exact zb|fail) only [go_sem,seval,E,zOF]
   (refine .q ?_);refine .ifF (by simp (disch:=first|exact zb|fail) only [go_sem,seval]) ?_
   (refine .q ?_);refine .text ?_;simp (disch:=first|exact zb|fail) only [go_sem,seval,E]
   first | (refine ihE _ _ ?_ trivial ?_) | (refine .z rfl ?_;refine ihE _ _ ?_ trivial ?_) | (refine .z rfl ?_;refine .z rfl ?_;refine ihE _ _ ?_ trivial ?_) | (refine .z rfl ?_;refine .z rfl ?_;refine .z rfl ?_;refine ihE _ _ ?_ trivial ?_)
   · simp (disch:=first|exact zb|fail) only [go_sem,seval,E]<;>(repeat' (first | rfl | refine And.intro ?_ ?_))
   · first | rfl | (simp (disch:=first|exact zb|fail) only [go_sem,seval,E]<;>(try rfl))
set_option maxHeartbeats 4000000 in
theorem zd6 (m:Msg) (hm:m.Ok) (H:Hp) (R:AV → Hp → Prop) (h:R (.p (bo true)) H):ACall Tryd.prog G 14 [.p (msg m),.p (msg m)] H R:=by
 have hrl:=m.root.len
 have hsl:=hm.sums
 have hd:(!decide (m.root.val=m.root.val))=false:=by simp
 refine ACall.of_run (raw:=[]) Tryd.func14 rfl Tryd.ntmps14 (by simp) fun hbel => ?_
 (refine .q ?_);refine .text ?_;simp (disch:=first|exact zb|fail) only [go_sem,seval]
 have hstr:((bytesOf m.text).toList == (bytesOf m.text).toList)=true:=beq_self_eq_true _
 (refine .q ?_);refine .text ?_;simp (disch:=first|exact zb|fail) only [go_sem,seval,bne_self_eq_false,hd,hrl,hstr]
 refine CallK.of (fun R h=>zpn m.values hm.values _ R h) ?_;simp (disch:=first|exact zb|fail) only [go_sem,seval,bne_self_eq_false]
 (refine .q ?_);refine .ifF (by simp (disch:=first|exact zb|fail) only [go_sem,seval]) ?_
 (refine .q ?_);refine .text ?_;simp (disch:=first|exact zb|fail) only [go_sem,seval]
 (refine .q ?_);refine .loopE [2,3] (fun i=>[(4,.p (bo false)),(5,.p (i64 i))]) (fun i=>[]) (fun i=>True) (0) (m.sums.length) (by omega) ?_ (by first | rfl | (simp (disch:=first|exact zb|fail) only [go_sem,seval]<;>rfl)) ?_ ?_ ?_
 · simp (disch:=first|exact zb|fail) only [go_sem,seval]<;>(repeat' (first | rfl | refine And.intro ?_ ?_))
 · exact trivial
 intro env E hQ;simp (disch:=first|exact zb|fail) only [go_sem,seval] at E
 rotate_left 1
 intro i env hi0 hi E hQ ihE;simp (disch:=first|exact zb|fail) only [go_sem,seval] at E
 rotate_left 1
 · (refine .q ?_);refine .text ?_;simp (disch:=first|exact zb|fail) only [go_sem,seval,E]
   (refine .q ?_);refine .ifF (by simp (disch:=first|exact zb|fail) only [go_sem,seval]) ?_
   (refine .q ?_);refine .text ?_;simp (disch:=first|exact zb|fail) only [go_sem,seval,E]
   (refine .q ?_);refine .rt Tryd.func14 (by rw [Tryd.results14]) (hR := ?_);simp (disch:=first|exact zb|fail) only [go_sem,seval]
   exact h
 · (refine .q ?_);refine .text ?_;simp (disch:=first|exact zb|fail) only [go_sem,seval,E]
   (refine .q ?_);refine .ifT (by simp (disch:=first|exact zb|fail) only [go_sem,seval]) ?_
   (refine .q ?_);refine .open [] follows (by kernel_rfl) ?_;simp (disch:=first|exact zb|fail) only [go_sem,seval,E,bne_self_eq_false]
   (refine .q ?_);refine .ifF (by simp (disch:=first|exact zb|fail) only [go_sem,seval]) ?_
   (refine .q ?_);refine .text ?_;simp (disch:=first|exact zb|fail) only [go_sem,seval,E]
   first | (refine ihE _ _ ?_ trivial ?_) | (refine .z rfl ?_;refine ihE _ _ ?_ trivial ?_) | (refine .z rfl ?_;refine .z rfl ?_;refine ihE _ _ ?_ trivial ?_) | (refine .z rfl ?_;refine .z rfl ?_;refine .z rfl ?_;refine ihE _ _ ?_ trivial ?_)
   · simp (disch:=first|exact zb|fail) only [go_sem,seval,E]<;>(repeat' (first | rfl | refine And.intro ?_ ?_))
   · first | rfl | (simp (disch:=first|exact zb|fail) only [go_sem,seval,E]<;>(try rfl))
structure Ses.Cmp (s:Ses):Prop where
 last:s.last.Ok
 bytes:okI s.bytes
 rounds:okI s.rounds
 words:okI s.words
set_option maxHeartbeats 4000000 in
theorem zbX (s:Ses) (hs:s.Cmp) (H:Hp) (R:AV → Hp → Prop) (h:R (.p (bo true)) H):ACall Tryd.prog G 21 [.p (yG s),.p (yG s)] H R:=by
 have hrl:=s.seen.len
 have hd:decide (s.seen.val=s.seen.val)=true:=by simp
 have hstr:((bytesOf s.text).toList == (bytesOf s.text).toList)=true:=beq_self_eq_true _
 have hu:=(zOG hs.bytes hs.rounds hs.words).1
 refine ACall.of_run (raw:=[]) Tryd.func21 rfl Tryd.ntmps21 (by simp) fun hbel => ?_
 (refine .q ?_);refine .text ?_;simp (disch:=first|exact zb|fail) only [go_sem,seval]
 (refine .q ?_);refine .text ?_;simp (disch:=first|exact zb|fail) only [go_sem,seval,beq_self_eq_true,hd,hrl,hstr]
 refine CallK.of (fun R h=>zd6 s.last hs.last _ R h) ?_;simp (disch:=first|exact zb|fail) only [go_sem,seval,beq_self_eq_true,hd,hrl,hstr,hu]
 (refine .q ?_);refine .rt Tryd.func21 (by rw [Tryd.results21]) (hR := ?_);simp (disch:=first|exact zb|fail) only [go_sem,seval]
 exact h
end walks
end Go.Proofs.YtmoecjgehdkhkaaDoor

/-
  Sessions: the reference's messages for the laws.
-/
namespace Go.Proofs.YtmoecjgehdkhkaaDoor
open Go Go.AL

theorem zl5 {a b:By}:bytesOf a++bytesOf b=bytesOf (a++b):=by
 apply ByteArray.ext
 simp [bytesOf,ByteArray.data_append]
theorem bytesOf_take {a:By} {n:Nat}:(bytesOf a).extract 0 n=bytesOf (a.take n):=by
 apply ByteArray.ext
 simp [bytesOf,ByteArray.data_extract]
theorem zJi {P:Program} {t:TypeId} {a b:By} (h:a.length+b.length≤9223372036854775807):zi P .add t (.p (str (bytesOf a))) (.p (str (bytesOf b)))=some (.p (str (bytesOf (a++b)))):=by
 have h1 : ¬ (((bytesOf a).size+(bytesOf b).size:Nat):Int) > IntKind.i64.max:=by
  rw [zaR,zaR];show ¬ (_ > (9223372036854775807:Int));omega
 simp only [zi,str,zC,zh,zBn,Bool.false_eq_true,if_false,h1,Option.map_some,zl5]
def mV (k s t:Int) (tx r:By) (x y:PV):PV := .agg ([i64 k,i64 s,i64 t,str (bytesOf tx)]++(pl b8 r++[x,y]))
section mv
variable {k s t:Int} {tx r:By} {x y:PV}
theorem yb:zI (mG k s t tx r (.p x) (.p y)) = .p (mV k s t tx r x y):=by
 have:mG k s t tx r (.p x) (.p y)=([i64 k,i64 s,i64 t,str (bytesOf tx)]++(pl b8 r++[x,y])).map .p:=by simp [mG,cl,pl]
 rw [this,zI,zdI]
 rfl
theorem zJj {S V:AV}:(mG k s t tx r S V)[0]? = some (.p (i64 k)):=rfl
theorem zE:zn (.p (mV k s t tx r x y))=some (mG k s t tx r (.p x) (.p y)):=by
 show some ((_:List PV).map AV.p)=_
 simp [mG,cl,pl]
theorem zdT (h:r.length=32) {su:List Int} {va:List Ext} (hx:x.weak1 = .sl false 1 (pl i64 su)) (hy:y.weak1 = .sl false 2 (pl ext va)):(mV k s t tx r x y).weak=msg ⟨k,s,t,tx,⟨r,h⟩,su,va⟩:=by
 show PV.agg (List.map PV.weak1 _)=_
 rw [List.map_append,List.map_append,zbh (l:=pl b8 _) fun x hx=>by simp only [pl,List.mem_map] at hx;obtain ⟨y,_,rfl⟩:=hx;rfl]
 simp only [List.map_cons,List.map_nil,hx,hy]
 rfl
end mv
theorem zA (P:Program) (t:TypeId) (x:Int):zi P .and t (.p (i64 x)) (.p (i64 3))=some (.p (i64 (x % 4))):=zbu P t x 2 (by omega)
def mk0 (m:Msg) (n:Nat):Int:=nth (if 4≤n then [4,4,6,7] else [4,4,4,7]) (m.kind % 4).toNat
def mk2 (m:Msg) (n:Nat):Int:=if n=0 then 1 else if n=1 then 2 else if n=3 then 3 else if n % 2=1 then 5 else mk0 m n
def zaT (m:Msg) (n:Nat):Msg :=
 if mk2 m n=1 then ⟨1,m.session % 65536,n,113#8 :: m.text.take 50,m.root,[],[]⟩
 else if mk2 m n=3 then ⟨3,m.session % 65536,n,[],m.root,m.sums.take 10,[]⟩
 else if mk2 m n=4 then ⟨4,m.session % 65536,n,[],m.root,[],zap m.values 1⟩
 else if mk2 m n=5 then ⟨5,m.session % 65536,n,[],m.root,[],zap m.values (min m.values.length 6)⟩
 else ⟨mk2 m n,m.session % 65536,n,[],m.root,[],[]⟩
def mB (H:Hp) (m:Msg) (kl:List Int):Hp:=((H.new (.cells (mcl m))).new (.cells mZ)).new (.cells (cl i64 kl))
def mH (H:Hp) (m:Msg) (kl:List Int) (mc:List AV):Hp:=(mB H m kl).new (.cells mc)
theorem yv {k s t:Int} {r:By} (hr:r.length=32):setAt (((mZ.set 0 (.p (i64 k))).set 1 (.p (i64 s))).set 2 (.p (i64 t))) 4 (cl b8 r)=mG k s t [] r (.p (.sl true 1 [])) (.p (.sl true 2 [])):=by
 rw [mZ,zql,zqm,zqn,zqo List.length_replicate hr]
section mh
variable {H:Hp} {m:Msg} {kl:List Int} {mc mc':List AV}
theorem zJk:(mB H m kl).n=H.n+3:=by simp [mB,Hp.n_new]
theorem zJ2:(mB H m kl).f H.n=some (.cells (mcl m)):=by simp (disch:=first|exact zb|fail) only [mB,go_sem,seval]
theorem zAW:(mB H m kl).f (H.n+2)=some (.cells (cl i64 kl)):=by simp (disch:=first|exact zb|fail) only [mB,go_sem,seval]
theorem zJl {kl':List Int}:(mB H m kl).set (H.n+2) (.cells (cl i64 kl'))=mB H m kl':=by simp (disch:=first|exact zb|fail) only [mB,go_sem,seval]
theorem zRd:(mH H m kl mc).n=H.n+4:=by simp [mH,zJk,Hp.n_new]
theorem zJ3:(mH H m kl mc).f H.n=some (.cells (mcl m)):=by simp (disch:=first|exact zb|fail) only [mH,mB,go_sem,seval]
theorem zQc:(mH H m kl mc).f (H.n+1)=some (.cells mZ):=by simp (disch:=first|exact zb|fail) only [mH,mB,go_sem,seval]
theorem zJ4:(mH H m kl mc).f (H.n+3)=some (.cells mc):=by simp (disch:=first|exact zb|fail) only [mH,mB,go_sem,seval]
theorem zqz:(mH H m kl mc).set (H.n+3) (.cells mc')=mH H m kl mc':=by simp (disch:=first|exact zb|fail) only [mH,mB,go_sem,seval]
theorem zAX:(mH H m kl mc).trunc H.n=H:=by simp (disch:=first|exact zb|fail) only [mH,mB,go_sem,seval]
theorem zOH (h:Bel H.n H):Bel H.n (mH H m kl mc):=by
 unfold mH mB
 exact zy (zy (zy (zy h (Nat.le_refl _)) (by simp only [n_new'];omega)) (by simp only [n_new'];omega)) (by simp only [n_new'];omega)
def mX (H:Hp) (m:Msg) (kl:List Int) (o:Option (List AV)):Hp:=match o with | none=>mB H m kl | some mc=>mH H m kl mc
theorem zJm:mX H m kl none=mB H m kl:=rfl
theorem zQd {o:Option (List AV)}:(mX H m kl o).f H.n=some (.cells (mcl m)):=by cases o<;>first | exact zJ2 | exact zJ3
theorem zQe {o:Option (List AV)}:(mX H m kl o).f (H.n+2)=some (.cells (cl i64 kl)):=by
 cases o with
 | none=>exact zAW
 | some mc=>show ((mB H m kl).new _).f _=_;rw [Hp.f_new_old _ _ _ (by rw [zJk];omega)];exact zAW
theorem zRe:(mX H m kl none).n=H.n+3:=zJk
theorem zOI:(mX H m kl none).new (.cells mc)=mX H m kl (some mc):=rfl
theorem zQf:(mX H m kl (some mc)).f (H.n+3)=some (.cells mc):=zJ4
theorem zJn:(mX H m kl (some mc)).set (H.n+3) (.cells mc')=mX H m kl (some mc'):=zqz
end mh
attribute [go_sem] zQd zQe zRe zOI zQf zJn
attribute [go_sem] zJl zJk zJ2 zAW zRd zJ3 zQc zJ4 zqz zAX
section walks
variable {G:Globs}
set_option maxHeartbeats 8000000 in
set_option maxRecDepth 20000 in
theorem zgB (m:Msg) (ht:m.text.length≤9223372036854775807) (hsu:m.sums.length≤9223372036854775807) (hva:m.values.length≤9223372036854775807) (n:Nat) (hn:n≤255) (H:Hp) (R:AV → Hp → Prop) (h:R (.p (msg (zaT m n))) H):ACall Tryd.prog G 8 [.p (msg m),.p (i64 n)] H R:=by
 have hrl:=m.root.len
 refine ACall.of_run (raw:=[]) Tryd.func8 rfl Tryd.ntmps8 (by simp) fun hbel => ?_
 (refine .q ?_);refine .text ?_;simp (disch:=first|exact zb|fail) only [go_sem,seval,-List.reduceReplicate]
 refine .q ?_;refine .region ?_
 refine .buildRow (sz:=1) (cs:=cl i64 [4,4,4,7]) (by simp (disch:=first|exact zb|fail) only [go_sem,seval,-List.reduceReplicate,zaq,zak]<;>rfl) (by rfl) ?_
 refine .run ?_
 simp (disch:=first|exact zb|fail) only [go_sem,seval,-List.reduceReplicate]
 change ARun _ _ _ (mB H m [4,4,4,7]) R
 (refine .q ?_);refine .text ?_;simp (disch:=first|exact zb|fail) only [go_sem,seval,-List.reduceReplicate]
 (refine .q ?_);refine .cutH [1,2,4,5] [] (mB H m (if 4≤n then [4,4,6,7] else [4,4,4,7])) (fun ihE => ?_) (fun env E => ?_)
 rotate_left 1
 simp (disch:=first|exact zb|fail) only [go_sem,seval,-List.reduceReplicate] at E
 rotate_left 1
 · by_cases c:4≤n
   · have d:decide ((4:Int)≤(n:Int))=true:=decide_eq_true (by omega)
     rw [if_pos c] at ihE
     have hset:([4,4,4,7]:List Int).set 2 6=[4,4,6,7]:=rfl
     (refine .q ?_);refine .ifT (by simp (disch:=first|exact zb|fail) only [go_sem,seval,-List.reduceReplicate,d]) ?_
     (refine .q ?_);refine .text ?_;simp (disch:=first|exact zb|fail) only [go_sem,seval,-List.reduceReplicate]
     first | (refine ihE _ _ ?_ ?_) | (refine .z rfl ?_;refine ihE _ _ ?_ ?_) | (refine .z rfl ?_;refine .z rfl ?_;refine ihE _ _ ?_ ?_) | (refine .z rfl ?_;refine .z rfl ?_;refine .z rfl ?_;refine ihE _ _ ?_ ?_)
     · simp (disch:=first|exact zb|fail) only [go_sem,seval,-List.reduceReplicate,hset]<;>(repeat' (first | rfl | refine And.intro ?_ ?_))
     · first | rfl | (simp (disch:=first|exact zb|fail) only [go_sem,seval,-List.reduceReplicate,hset]<;>(try rfl))
   · have d:decide ((4:Int)≤(n:Int))=false:=decide_eq_false (by omega)
     rw [if_neg c] at ihE
     (refine .q ?_);refine .ifF (by simp (disch:=first|exact zb|fail) only [go_sem,seval,-List.reduceReplicate,d]) ?_
     refine .skip ?_
     first | (refine ihE _ _ ?_ ?_) | (refine .z rfl ?_;refine ihE _ _ ?_ ?_) | (refine .z rfl ?_;refine .z rfl ?_;refine ihE _ _ ?_ ?_) | (refine .z rfl ?_;refine .z rfl ?_;refine .z rfl ?_;refine ihE _ _ ?_ ?_)
     · simp (disch:=first|exact zb|fail) only [go_sem,seval,-List.reduceReplicate]<;>(repeat' (first | rfl | refine And.intro ?_ ?_))
     · first | rfl | (simp (disch:=first|exact zb|fail) only [go_sem,seval,-List.reduceReplicate]<;>(try rfl))
 · have hk0:mk0 m n=nth (if 4≤n then [4,4,6,7] else [4,4,4,7]) (m.kind % 4).toNat:=rfl
   have hkl:(if 4≤n then [4,4,6,7] else [4,4,4,7]:List Int).length=4:=by split<;>rfl
   generalize (if 4≤n then [4,4,6,7] else [4,4,4,7]:List Int)=kl at *
   have hi0:0≤m.kind % 4:=by omega
   obtain ⟨ki,hki⟩ : ∃ ki:Nat,m.kind % 4=(ki:Int):=⟨(m.kind % 4).toNat,by omega⟩
   have hki4:ki < 4:=by omega
   rw [hki,Int.toNat_natCast] at hk0
   rw [←zJm]
   have hzl:mZ.length=38:=rfl
   have hgl:(mG (nth kl ki) (m.session % 65536) n [] m.root.val (.p (.sl true 1 [])) (.p (.sl true 2 []))).length=38:=zb1 hrl
   have hzd:AV.p (i64 0) :: AV.p (i64 0) :: AV.p (i64 0) :: AV.p (str ByteArray.empty) :: List.map AV.p (pl b8 (List.replicate 32 0#8)++[PV.sl true 1 [],PV.sl true 2 []])=mZ:=by simp [mZ,mG,cl,pl,zaG]
   have hst:=yM (cs:=mZ) (xs:=mG (nth kl ki) (m.session % 65536) n [] m.root.val (.p (.sl true 1 [])) (.p (.sl true 2 []))) (by rw [hzl,hgl])
   (refine .q ?_)
   refine .openInv (fun L env' H'=>kF env' [(1,.p (i64 n)),(2,.ptr H.n 0),(4,.ptr (H.n+1) 0),(5,.ref (H.n+2) 0 4 1)]∧kI L env' [(0,12,.ref (H.n+2) 0 4 1),(1,13,.ptr H.n 0),(2,14,.p (i64 m.kind)),(3,15,.p (i64 ki)),(4,16,.ptr (H.n+2) ki),(5,17,.p (i64 (nth kl ki))),(6,18,.ptr H.n 1),(7,19,.p (i64 m.session)),(8,20,.p (i64 (m.session % 65536))),(9,21,.p (i64 n)),(10,22,.ptr H.n 4),(11,23,.p (dgv m.root)),(12,24,.p (mV (nth kl ki) (m.session % 65536) n [] m.root.val (.sl true 1 []) (.sl true 2 []))),(13,6,.ptr (H.n+3) 0)]∧(L 14=true → allT L [0,1,2,3,4,5,6,7,8,9,10,11,12,13])∧H'=(mX H m kl (if L 14 then some (mG (nth kl ki) (m.session % 65536) n [] m.root.val (.p (.sl true 1 [])) (.p (.sl true 2 []))) else if L 13 then some mZ else none))) follows (by kernel_rfl) ?_ ?_ ?_
   · exact ⟨(yQ (by simp (disch:=first|exact zb|fail) only [go_sem,seval,-List.reduceReplicate,E,zA,zr,hki,hkl,yv,hrl,yb,zE,hzd,hst,hzl,hgl,zY]) (yQ (by simp (disch:=first|exact zb|fail) only [go_sem,seval,-List.reduceReplicate,E,zA,zr,hki,hkl,yv,hrl,yb,zE,hzd,hst,hzl,hgl,zY]) (yQ (by simp (disch:=first|exact zb|fail) only [go_sem,seval,-List.reduceReplicate,E,zA,zr,hki,hkl,yv,hrl,yb,zE,hzd,hst,hzl,hgl,zY]) (yQ (by simp (disch:=first|exact zb|fail) only [go_sem,seval,-List.reduceReplicate,E,zA,zr,hki,hkl,yv,hrl,yb,zE,hzd,hst,hzl,hgl,zY]) kF0)))),(fun _ _ h=>by cases h),(fun h=>by cases h),(by first | rfl | (simp only [Bool.false_eq_true,if_false];first | rfl | (simp (disch:=first|exact zb|fail) only [go_sem,seval,-List.reduceReplicate,E,zA,zr,hki,hkl,yv,hrl,yb,zE,hzd,hst,hzl,hgl,zY]<;>rfl)))⟩
   · intro i o L env' H' ho hL hall hI
     obtain ⟨KF,KG,m14,rfl⟩:=hI
     rcases i with _ | _ | _ | _ | _ | _ | _ | _ | _ | _ | _ | _ | _ | _ | _ | i
     · cases ho
       have n14:=zu m14 hL
       have f3:=zU KF 3 rfl
       refine zf (.ref (H.n+2) 0 4 1) rfl rfl (by simp (disch:=first|exact zb|fail) only [go_sem,seval,-List.reduceReplicate,reduceIte,Bool.false_eq_true,if_false,if_true,f3,n14,hL,zA,zr,hki,hkl,yv,hrl,yb,zE,hzd,hst,hzl,hgl,zY]<;>rfl) rfl ?_
       exact ⟨(zH KF),(zK KG),(ka m14),(by rw [za (by decide),za (by decide)])⟩
     · cases ho
       have n14:=zu m14 hL
       have f1:=zU KF 1 rfl
       refine zf (.ptr H.n 0) rfl rfl (by simp (disch:=first|exact zb|fail) only [go_sem,seval,-List.reduceReplicate,reduceIte,Bool.false_eq_true,if_false,if_true,f1,n14,hL,zA,zr,hki,hkl,yv,hrl,yb,zE,hzd,hst,hzl,hgl,zY]<;>rfl) rfl ?_
       exact ⟨(zH KF),(zK KG),(ka m14),(by rw [za (by decide),za (by decide)])⟩
     · cases ho
       have h1:=kL hall 0 rfl rfl
       have d1:=zw KG 1 rfl h1
       have n14:=zu m14 hL
       refine zf (.p (i64 m.kind)) rfl rfl (by simp (disch:=first|exact zb|fail) only [go_sem,seval,-List.reduceReplicate,reduceIte,Bool.false_eq_true,if_false,if_true,d1,n14,hL,zA,zr,hki,hkl,yv,hrl,yb,zE,hzd,hst,hzl,hgl,zY]<;>rfl) rfl ?_
       exact ⟨(zH KF),(zK KG),(ka m14),(by rw [za (by decide),za (by decide)])⟩
     · cases ho
       have h2:=kL hall 0 rfl rfl
       have d2:=zw KG 2 rfl h2
       have n14:=zu m14 hL
       refine zf (.p (i64 ki)) rfl rfl (by simp (disch:=first|exact zb|fail) only [go_sem,seval,-List.reduceReplicate,reduceIte,Bool.false_eq_true,if_false,if_true,d2,n14,hL,zA,zr,hki,hkl,yv,hrl,yb,zE,hzd,hst,hzl,hgl,zY]<;>rfl) rfl ?_
       exact ⟨(zH KF),(zK KG),(ka m14),(by rw [za (by decide),za (by decide)])⟩
     · cases ho
       have h0:=kL hall 0 rfl rfl
       have d0:=zw KG 0 rfl h0
       have h3:=kL hall 1 rfl rfl
       have d3:=zw KG 3 rfl h3
       have n14:=zu m14 hL
       refine zf (.ptr (H.n+2) ki) rfl rfl (by simp (disch:=first|exact zb|fail) only [go_sem,seval,-List.reduceReplicate,reduceIte,Bool.false_eq_true,if_false,if_true,d0,d3,n14,hL,zA,zr,hki,hkl,yv,hrl,yb,zE,hzd,hst,hzl,hgl,zY]<;>rfl) rfl ?_
       exact ⟨(zH KF),(zK KG),(ka m14),(by rw [za (by decide),za (by decide)])⟩
     · cases ho
       have h4:=kL hall 0 rfl rfl
       have d4:=zw KG 4 rfl h4
       have n14:=zu m14 hL
       refine zf (.p (i64 (nth kl ki))) rfl rfl (by simp (disch:=first|exact zb|fail) only [go_sem,seval,-List.reduceReplicate,reduceIte,Bool.false_eq_true,if_false,if_true,d4,n14,hL,zA,zr,hki,hkl,yv,hrl,yb,zE,hzd,hst,hzl,hgl,zY]<;>rfl) rfl ?_
       exact ⟨(zH KF),(zK KG),(ka m14),(by rw [za (by decide),za (by decide)])⟩
     · cases ho
       have n14:=zu m14 hL
       have f1:=zU KF 1 rfl
       refine zf (.ptr H.n 1) rfl rfl (by simp (disch:=first|exact zb|fail) only [go_sem,seval,-List.reduceReplicate,reduceIte,Bool.false_eq_true,if_false,if_true,f1,n14,hL,zA,zr,hki,hkl,yv,hrl,yb,zE,hzd,hst,hzl,hgl,zY]<;>rfl) rfl ?_
       exact ⟨(zH KF),(zK KG),(ka m14),(by rw [za (by decide),za (by decide)])⟩
     · cases ho
       have h6:=kL hall 0 rfl rfl
       have d6:=zw KG 6 rfl h6
       have n14:=zu m14 hL
       refine zf (.p (i64 m.session)) rfl rfl (by simp (disch:=first|exact zb|fail) only [go_sem,seval,-List.reduceReplicate,reduceIte,Bool.false_eq_true,if_false,if_true,d6,n14,hL,zA,zr,hki,hkl,yv,hrl,yb,zE,hzd,hst,hzl,hgl,zY]<;>rfl) rfl ?_
       exact ⟨(zH KF),(zK KG),(ka m14),(by rw [za (by decide),za (by decide)])⟩
     · cases ho
       have h7:=kL hall 0 rfl rfl
       have d7:=zw KG 7 rfl h7
       have n14:=zu m14 hL
       refine zf (.p (i64 (m.session % 65536))) rfl rfl (by simp (disch:=first|exact zb|fail) only [go_sem,seval,-List.reduceReplicate,reduceIte,Bool.false_eq_true,if_false,if_true,d7,n14,hL,zA,zr,hki,hkl,yv,hrl,yb,zE,hzd,hst,hzl,hgl,zY]<;>rfl) rfl ?_
       exact ⟨(zH KF),(zK KG),(ka m14),(by rw [za (by decide),za (by decide)])⟩
     · cases ho
       have n14:=zu m14 hL
       have f0:=zU KF 0 rfl
       refine zf (.p (i64 n)) rfl rfl (by simp (disch:=first|exact zb|fail) only [go_sem,seval,-List.reduceReplicate,reduceIte,Bool.false_eq_true,if_false,if_true,f0,n14,hL,zA,zr,hki,hkl,yv,hrl,yb,zE,hzd,hst,hzl,hgl,zY]<;>rfl) rfl ?_
       exact ⟨(zH KF),(zK KG),(ka m14),(by rw [za (by decide),za (by decide)])⟩
     · cases ho
       have n14:=zu m14 hL
       have f1:=zU KF 1 rfl
       refine zf (.ptr H.n 4) rfl rfl (by simp (disch:=first|exact zb|fail) only [go_sem,seval,-List.reduceReplicate,reduceIte,Bool.false_eq_true,if_false,if_true,f1,n14,hL,zA,zr,hki,hkl,yv,hrl,yb,zE,hzd,hst,hzl,hgl,zY]<;>rfl) rfl ?_
       exact ⟨(zH KF),(zK KG),(ka m14),(by rw [za (by decide),za (by decide)])⟩
     · cases ho
       have h10:=kL hall 0 rfl rfl
       have d10:=zw KG 10 rfl h10
       have n14:=zu m14 hL
       refine zf (.p (dgv m.root)) rfl rfl (by simp (disch:=first|exact zb|fail) only [go_sem,seval,-List.reduceReplicate,reduceIte,Bool.false_eq_true,if_false,if_true,d10,n14,hL,zA,zr,hki,hkl,yv,hrl,yb,zE,hzd,hst,hzl,hgl,zY]<;>rfl) rfl ?_
       exact ⟨(zH KF),(zK KG),(ka m14),(by rw [za (by decide),za (by decide)])⟩
     · cases ho
       have h5:=kL hall 0 rfl rfl
       have d5:=zw KG 5 rfl h5
       have h8:=kL hall 1 rfl rfl
       have d8:=zw KG 8 rfl h8
       have h9:=kL hall 2 rfl rfl
       have d9:=zw KG 9 rfl h9
       have h11:=kL hall 3 rfl rfl
       have d11:=zw KG 11 rfl h11
       have n14:=zu m14 hL
       refine zf (.p (mV (nth kl ki) (m.session % 65536) n [] m.root.val (.sl true 1 []) (.sl true 2 []))) rfl rfl (by simp (disch:=first|exact zb|fail) only [go_sem,seval,-List.reduceReplicate,reduceIte,Bool.false_eq_true,if_false,if_true,d5,d8,d9,d11,n14,hL,zA,zr,hki,hkl,yv,hrl,yb,zE,hzd,hst,hzl,hgl,zY]<;>rfl) rfl ?_
       exact ⟨(zH KF),(zK KG),(ka m14),(by rw [za (by decide),za (by decide)])⟩
     · cases ho
       have n14:=zu m14 hL
       (try simp only [n14,hL,if_true,if_false,Bool.false_eq_true])
       refine yh (.ptr (H.n+3) 0) rfl rfl (by simp (disch:=first|exact zb|fail) only [go_sem,seval,-List.reduceReplicate,reduceIte,Bool.false_eq_true,if_false,if_true,n14,hL,zA,zr,hki,hkl,yv,hrl,yb,zE,hzd,hst,hzl,hgl,zY]<;>rfl) rfl ?_
       exact ⟨(zH KF),(zK KG),(ka m14),(by (have e13:more L 13 13=true:=zv);(have e14:more L 13 14=L 14:=za (by decide));(try simp only [e13,e14,n14,hL]);first | done | rfl | (simp only [e13,e14,n14,hL,if_true,if_false,Bool.false_eq_true];first | done | rfl | (simp (disch:=first|exact zb|fail) only [go_sem,seval,-List.reduceReplicate,e13,e14,n14,hL,zA,zr,hki,hkl,yv,hrl,yb,zE,hzd,hst,hzl,hgl,zY]<;>rfl)))⟩
     · cases ho
       have h13:=kL hall 0 rfl rfl
       have d13:=zw KG 13 rfl h13
       have h12:=kL hall 1 rfl rfl
       have d12:=zw KG 12 rfl h12
       have h0:=kL hall 2 rfl rfl
       have h1:=kL hall 3 rfl rfl
       have h2:=kL hall 4 rfl rfl
       have h3:=kL hall 5 rfl rfl
       have h4:=kL hall 6 rfl rfl
       have h5:=kL hall 7 rfl rfl
       have h6:=kL hall 8 rfl rfl
       have h7:=kL hall 9 rfl rfl
       have h8:=kL hall 10 rfl rfl
       have h9:=kL hall 11 rfl rfl
       have h10:=kL hall 12 rfl rfl
       have h11:=kL hall 13 rfl rfl
       refine yd rfl rfl (by simp (disch:=first|exact zb|fail) only [go_sem,seval,-List.reduceReplicate,reduceIte,Bool.false_eq_true,if_false,if_true,d12,d13,h13,hL,zA,zr,hki,hkl,yv,hrl,yb,zE,hzd,hst,hzl,hgl,zY]<;>rfl) rfl ?_
       exact ⟨KF,(kIs KG),(fun _=>kt (zc h0 (zc h1 (zc h2 (zc h3 (zc h4 (zc h5 (zc h6 (zc h7 (zc h8 (zc h9 (zc h10 (zc h11 (zc h12 (zc h13 zB))))))))))))))),(by (have e13:more L 14 13=L 13:=za (by decide));(have e14:more L 14 14=true:=zv);(try simp only [e13,e14,h13,hL]);first | done | rfl | (simp only [e13,e14,h13,hL,if_true,if_false,Bool.false_eq_true];first | done | rfl | (simp (disch:=first|exact zb|fail) only [go_sem,seval,-List.reduceReplicate,e13,e14,h13,hL,zA,zr,hki,hkl,yv,hrl,yb,zE,hzd,hst,hzl,hgl,zY]<;>rfl)))⟩
     · simp at ho
   · intro L env' H' hall hI
     obtain ⟨KF,KG,_,rfl⟩:=hI
     have l13:=hall 13 (by decide)
     have l14:=hall 14 (by decide)
     have f0:=zU KF 0 rfl
     have f1:=zU KF 1 rfl
     have f2:=zU KF 2 rfl
     have f3:=zU KF 3 rfl
     have g13:=zw KG 13 rfl (hall 13 (by decide))
     simp only [l13,l14,if_true]
     clear hall
     rw [←hk0]
     have hm2:mk2 m n=if n=0 then 1 else if n=1 then 2 else if n=3 then 3 else if n % 2=1 then 5 else mk0 m n:=rfl
     unfold zaT at h
     generalize mk0 m n=k0 at *
     change ARun _ _ _ (mH H m kl (mG k0 (m.session % 65536) n [] m.root.val (.p (.sl true 1 [])) (.p (.sl true 2 [])))) R
     (refine .q ?_);refine .text ?_;simp (disch:=first|exact zb|fail) only [go_sem,seval,-List.reduceReplicate,f0]
     (refine .q ?_);refine .cutH [1,2,4,6] [] (mH H m kl (mG (if n % 2=1 then 5 else k0) (m.session % 65536) n [] m.root.val (.p (.sl true 1 [])) (.p (.sl true 2 [])))) (fun ihF => ?_) (fun env F => ?_)
     rotate_left 1
     simp (disch:=first|exact zb|fail) only [go_sem,seval,-List.reduceReplicate,f0,f1,f2,f3,g13] at F
     rotate_left 1
     · by_cases c:n % 2=1
       · have d:((n:Int) % 2 == 1)=true:=by simp;omega
         rw [if_pos c] at ihF
         (refine .q ?_);refine .ifT (by simp (disch:=first|exact zb|fail) only [go_sem,seval,-List.reduceReplicate,d]) ?_
         (refine .q ?_);refine .text ?_;simp (disch:=first|exact zb|fail) only [go_sem,seval,-List.reduceReplicate,f0,f1,f2,f3,g13]
         first | (refine ihF _ _ ?_ ?_) | (refine .z rfl ?_;refine ihF _ _ ?_ ?_) | (refine .z rfl ?_;refine .z rfl ?_;refine ihF _ _ ?_ ?_) | (refine .z rfl ?_;refine .z rfl ?_;refine .z rfl ?_;refine ihF _ _ ?_ ?_)
         · simp (disch:=first|exact zb|fail) only [go_sem,seval,-List.reduceReplicate,f0,f1,f2,f3,g13]<;>(repeat' (first | rfl | refine And.intro ?_ ?_))
         · first | rfl | (simp (disch:=first|exact zb|fail) only [go_sem,seval,-List.reduceReplicate,f0,f1,f2,f3,g13]<;>(try rfl))
       · have d:((n:Int) % 2 == 1)=false:=by simp;omega
         rw [if_neg c] at ihF
         (refine .q ?_);refine .ifF (by simp (disch:=first|exact zb|fail) only [go_sem,seval,-List.reduceReplicate,d]) ?_
         refine .skip ?_
         first | (refine ihF _ _ ?_ ?_) | (refine .z rfl ?_;refine ihF _ _ ?_ ?_) | (refine .z rfl ?_;refine .z rfl ?_;refine ihF _ _ ?_ ?_) | (refine .z rfl ?_;refine .z rfl ?_;refine .z rfl ?_;refine ihF _ _ ?_ ?_)
         · simp (disch:=first|exact zb|fail) only [go_sem,seval,-List.reduceReplicate,f0,f1,f2,f3,g13]<;>(repeat' (first | rfl | refine And.intro ?_ ?_))
         · first | rfl | (simp (disch:=first|exact zb|fail) only [go_sem,seval,-List.reduceReplicate,f0,f1,f2,f3,g13]<;>(try rfl))
     · generalize (if n % 2=1 then (5:Int) else k0)=k1 at *
       (refine .q ?_);refine .text ?_;simp (disch:=first|exact zb|fail) only [go_sem,seval,-List.reduceReplicate,F]
       (repeat refine .zs rfl ?_);refine .cutH [2,4,6] [] (mH H m kl (mG (mk2 m n) (m.session % 65536) n [] m.root.val (.p (.sl true 1 [])) (.p (.sl true 2 [])))) (fun ihP => ?_) (fun env P => ?_)
       rotate_left 1
       simp (disch:=first|exact zb|fail) only [go_sem,seval,-List.reduceReplicate,F,f0,f1,f2,f3,g13] at P
       rotate_left 1
       · rw [hm2] at ihP
         by_cases c0:n=0
         · have d:((n:Int) == 0)=true:=by simp;omega
           rw [if_pos c0] at ihP
           (refine .q ?_);refine .text ?_;simp (disch:=first|exact zb|fail) only [go_sem,seval,-List.reduceReplicate,d]
           (refine .q ?_);refine .ifT (by simp (disch:=first|exact zb|fail) only [go_sem,seval,-List.reduceReplicate,d]) ?_
           (refine .q ?_);refine .text ?_;simp (disch:=first|exact zb|fail) only [go_sem,seval,-List.reduceReplicate,F,f0,f1,f2,f3,g13]
           first | (refine ihP _ _ ?_ ?_) | (refine .z rfl ?_;refine ihP _ _ ?_ ?_) | (refine .z rfl ?_;refine .z rfl ?_;refine ihP _ _ ?_ ?_) | (refine .z rfl ?_;refine .z rfl ?_;refine .z rfl ?_;refine ihP _ _ ?_ ?_)
           · simp (disch:=first|exact zb|fail) only [go_sem,seval,-List.reduceReplicate,F,f0,f1,f2,f3,g13]<;>(repeat' (first | rfl | refine And.intro ?_ ?_))
           · first | rfl | (simp (disch:=first|exact zb|fail) only [go_sem,seval,-List.reduceReplicate,F,f0,f1,f2,f3,g13]<;>(try rfl))
         · have d:((n:Int) == 0)=false:=by simp;omega
           rw [if_neg c0] at ihP
           (refine .q ?_);refine .text ?_;simp (disch:=first|exact zb|fail) only [go_sem,seval,-List.reduceReplicate,d]
           (refine .q ?_);refine .ifF (by simp (disch:=first|exact zb|fail) only [go_sem,seval,-List.reduceReplicate,d]) ?_
           by_cases c1:n=1
           · have d:((n:Int) == 1)=true:=by simp;omega
             rw [if_pos c1] at ihP
             (refine .q ?_);refine .text ?_;simp (disch:=first|exact zb|fail) only [go_sem,seval,-List.reduceReplicate,d]
             (refine .q ?_);refine .ifT (by simp (disch:=first|exact zb|fail) only [go_sem,seval,-List.reduceReplicate,d]) ?_
             (refine .q ?_);refine .text ?_;simp (disch:=first|exact zb|fail) only [go_sem,seval,-List.reduceReplicate,F,f0,f1,f2,f3,g13]
             first | (refine ihP _ _ ?_ ?_) | (refine .z rfl ?_;refine ihP _ _ ?_ ?_) | (refine .z rfl ?_;refine .z rfl ?_;refine ihP _ _ ?_ ?_) | (refine .z rfl ?_;refine .z rfl ?_;refine .z rfl ?_;refine ihP _ _ ?_ ?_)
             · simp (disch:=first|exact zb|fail) only [go_sem,seval,-List.reduceReplicate,F,f0,f1,f2,f3,g13]<;>(repeat' (first | rfl | refine And.intro ?_ ?_))
             · first | rfl | (simp (disch:=first|exact zb|fail) only [go_sem,seval,-List.reduceReplicate,F,f0,f1,f2,f3,g13]<;>(try rfl))
           · have d:((n:Int) == 1)=false:=by simp;omega
             rw [if_neg c1] at ihP
             (refine .q ?_);refine .text ?_;simp (disch:=first|exact zb|fail) only [go_sem,seval,-List.reduceReplicate,d]
             (refine .q ?_);refine .ifF (by simp (disch:=first|exact zb|fail) only [go_sem,seval,-List.reduceReplicate,d]) ?_
             by_cases c3:n=3
             · have d:((n:Int) == 3)=true:=by simp;omega
               rw [if_pos c3] at ihP
               (refine .q ?_);refine .text ?_;simp (disch:=first|exact zb|fail) only [go_sem,seval,-List.reduceReplicate,d]
               (refine .q ?_);refine .ifT (by simp (disch:=first|exact zb|fail) only [go_sem,seval,-List.reduceReplicate,d]) ?_
               (refine .q ?_);refine .text ?_;simp (disch:=first|exact zb|fail) only [go_sem,seval,-List.reduceReplicate,F,f0,f1,f2,f3,g13]
               first | (refine ihP _ _ ?_ ?_) | (refine .z rfl ?_;refine ihP _ _ ?_ ?_) | (refine .z rfl ?_;refine .z rfl ?_;refine ihP _ _ ?_ ?_) | (refine .z rfl ?_;refine .z rfl ?_;refine .z rfl ?_;refine ihP _ _ ?_ ?_)
               · simp (disch:=first|exact zb|fail) only [go_sem,seval,-List.reduceReplicate,F,f0,f1,f2,f3,g13]<;>(repeat' (first | rfl | refine And.intro ?_ ?_))
               · first | rfl | (simp (disch:=first|exact zb|fail) only [go_sem,seval,-List.reduceReplicate,F,f0,f1,f2,f3,g13]<;>(try rfl))
             · have d:((n:Int) == 3)=false:=by simp;omega
               rw [if_neg c3] at ihP
               (refine .q ?_);refine .text ?_;simp (disch:=first|exact zb|fail) only [go_sem,seval,-List.reduceReplicate,d]
               (refine .q ?_);refine .ifF (by simp (disch:=first|exact zb|fail) only [go_sem,seval,-List.reduceReplicate,d]) ?_
               refine .skip ?_
               first | (refine ihP _ _ ?_ ?_) | (refine .z rfl ?_;refine ihP _ _ ?_ ?_) | (refine .z rfl ?_;refine .z rfl ?_;refine ihP _ _ ?_ ?_) | (refine .z rfl ?_;refine .z rfl ?_;refine .z rfl ?_;refine ihP _ _ ?_ ?_)
               · simp (disch:=first|exact zb|fail) only [go_sem,seval,-List.reduceReplicate,F,f0,f1,f2,f3,g13]<;>(repeat' (first | rfl | refine And.intro ?_ ?_))
               · first | rfl | (simp (disch:=first|exact zb|fail) only [go_sem,seval,-List.reduceReplicate,F,f0,f1,f2,f3,g13]<;>(try rfl))
       · generalize mk2 m n=k2 at *
         have hbel : ∀ mc,Bel H.n (mH H m kl mc):=fun mc=>zOH hbel
         (refine .q ?_);refine .text ?_;simp (disch:=first|exact zb|fail) only [go_sem,seval,-List.reduceReplicate,P,F,f0,f1,f2,f3,g13,zJj]
         by_cases e1:k2=1
         · subst e1
           simp only [if_true,reduceIte,Int.reduceEq] at h
           (refine .q ?_);refine .text ?_;simp (disch:=first|exact zb|fail) only [go_sem,seval,-List.reduceReplicate]
           (refine .q ?_);refine .ifT (by simp (disch:=first|exact zb|fail) only [go_sem,seval,-List.reduceReplicate]) ?_
           have hmin:min (m.text.length:Int) 50=((min m.text.length 50:Nat):Int):=by omega
           have hle:min m.text.length 50≤m.text.length:=Nat.min_le_left _ _
           have htk:m.text.take (min m.text.length 50)=m.text.take 50:=by rw [Nat.min_comm,←List.take_take,List.take_length]
           generalize min m.text.length 50=mn at *
           have hsz:(bytesOf m.text).size=m.text.length:=zaR
           have hq:(⟨#[113]⟩:ByteArray)=bytesOf [113#8]:=rfl
           have hadd:=zJi (P:=Tryd.prog) (t:=9) (a:=[113#8]) (b:=m.text.take 50) (by simp;omega)
           (refine .q ?_);refine .text ?_;simp (disch:=first|exact zb|fail) only [go_sem,seval,-List.reduceReplicate,P,F,f0,f1,f2,f3,g13,hmin,hsz,bytesOf_take,htk,hq,hadd]
           have hml:=zb1 (k:=1) (s:=m.session % 65536) (t:=n) (tx:=(113#8 :: m.text.take 50)) (r:=m.root.val) (S := .p (.sl true 1 [])) (V := .p (.sl true 2 [])) hrl
           have hsw:=yM (cs:=mZ) (xs:=mG 1 (m.session % 65536) n (113#8 :: m.text.take 50) m.root.val (.p (.sl true 1 [])) (.p (.sl true 2 []))) (by rw [hzl,hml])
           have hw:=zdT (k:=1) (s:=m.session % 65536) (t:=n) (tx:=(113#8 :: m.text.take 50)) (r:=m.root.val) (x := .sl true 1 []) (y := .sl true 2 []) hrl (su:=[]) (va:=[]) rfl rfl
           (refine .q ?_);refine .text ?_;simp (disch:=first|exact zb|fail) only [go_sem,seval,-List.reduceReplicate,P,F,f0,f1,f2,f3,g13,yb,zE,hml,hzl,hsw]
           (refine .q ?_);refine .rt Tryd.func8 (by rw [Tryd.results8]) (hx:=by simp (disch:=first|exact zb|fail) only [go_sem,seval,-List.reduceReplicate,P,F,f0,f1,f2,f3,g13,yb,zE,hml,hzl,hw];rfl) (hR := ?_);simp (disch:=first|exact zb|fail) only [go_sem,seval,-List.reduceReplicate,P,F,f0,f1,f2,f3,g13,yb,zE,hml,hzl,hw]
           exact h
         · have d1:(k2 == 1)=false:=by simpa using e1
           rw [if_neg e1] at h
           (refine .q ?_);refine .text ?_;simp (disch:=first|exact zb|fail) only [go_sem,seval,-List.reduceReplicate,d1]
           (refine .q ?_);refine .ifF (by simp (disch:=first|exact zb|fail) only [go_sem,seval,-List.reduceReplicate,d1]) ?_
           by_cases e3:k2=3
           · subst e3
             simp only [if_true,reduceIte,Int.reduceEq] at h
             (refine .q ?_);refine .text ?_;simp (disch:=first|exact zb|fail) only [go_sem,seval,-List.reduceReplicate]
             (refine .q ?_);refine .ifT (by simp (disch:=first|exact zb|fail) only [go_sem,seval,-List.reduceReplicate]) ?_
             have hmin:min (m.sums.length:Int) 10=((min m.sums.length 10:Nat):Int):=by omega
             have hle:min m.sums.length 10≤m.sums.length:=Nat.min_le_left _ _
             have htk:m.sums.take (min m.sums.length 10)=m.sums.take 10:=by rw [Nat.min_comm,←List.take_take,List.take_length]
             generalize min m.sums.length 10=mn at *
             (refine .q ?_);refine .text ?_;simp (disch:=first|exact zb|fail) only [go_sem,seval,-List.reduceReplicate,P,F,f0,f1,f2,f3,g13,hmin,htk,hrl]
             have hml:=zb1 (k:=3) (s:=m.session % 65536) (t:=n) (tx:=[]) (r:=m.root.val) (S := .p (.sl false 1 (pl i64 (m.sums.take 10)))) (V := .p (.sl true 2 [])) hrl
             have hsw:=yM (cs:=mZ) (xs:=mG 3 (m.session % 65536) n [] m.root.val (.p (.sl false 1 (pl i64 (m.sums.take 10)))) (.p (.sl true 2 []))) (by rw [hzl,hml])
             have hw:=zdT (k:=3) (s:=m.session % 65536) (t:=n) (tx:=[]) (r:=m.root.val) (x := .sl false 1 (pl i64 (m.sums.take 10))) (y := .sl true 2 []) hrl (su:=m.sums.take 10) (va:=[]) rfl rfl
             (refine .q ?_);refine .text ?_;simp (disch:=first|exact zb|fail) only [go_sem,seval,-List.reduceReplicate,P,F,f0,f1,f2,f3,g13,yb,zE,hml,hzl,hsw]
             (refine .q ?_);refine .rt Tryd.func8 (by rw [Tryd.results8]) (hx:=by simp (disch:=first|exact zb|fail) only [go_sem,seval,-List.reduceReplicate,P,F,f0,f1,f2,f3,g13,yb,zE,hml,hzl,hw];rfl) (hR := ?_);simp (disch:=first|exact zb|fail) only [go_sem,seval,-List.reduceReplicate,P,F,f0,f1,f2,f3,g13,yb,zE,hml,hzl,hw]
             exact h
           · have d3:(k2 == 3)=false:=by simpa using e3
             rw [if_neg e3] at h
             (refine .q ?_);refine .text ?_;simp (disch:=first|exact zb|fail) only [go_sem,seval,-List.reduceReplicate,d3]
             (refine .q ?_);refine .ifF (by simp (disch:=first|exact zb|fail) only [go_sem,seval,-List.reduceReplicate,d3]) ?_
             by_cases e4:k2=4
             · subst e4
               simp only [if_true,reduceIte,Int.reduceEq] at h
               (refine .q ?_);refine .text ?_;simp (disch:=first|exact zb|fail) only [go_sem,seval,-List.reduceReplicate]
               (refine .q ?_);refine .ifT (by simp (disch:=first|exact zb|fail) only [go_sem,seval,-List.reduceReplicate]) ?_
               (refine .q ?_);refine .text ?_;simp (disch:=first|exact zb|fail) only [go_sem,seval,-List.reduceReplicate,P,F,f0,f1,f2,f3,g13]
               refine CallK.of (fun R h=>zdS m.values hva 1 (by omega) _ R h) ?_;simp (disch:=first|exact zb|fail) only [go_sem,seval,-List.reduceReplicate,hrl,P,F,f0,f1,f2,f3,g13]
               have hml:=zb1 (k:=4) (s:=m.session % 65536) (t:=n) (tx:=[]) (r:=m.root.val) (S := .p (.sl true 1 [])) (V := .p (.sl false 2 (pl ext (zap m.values 1)))) hrl
               have hsw:=yM (cs:=mZ) (xs:=mG 4 (m.session % 65536) n [] m.root.val (.p (.sl true 1 [])) (.p (.sl false 2 (pl ext (zap m.values 1))))) (by rw [hzl,hml])
               have hw:=zdT (k:=4) (s:=m.session % 65536) (t:=n) (tx:=[]) (r:=m.root.val) (x := .sl true 1 []) (y := .sl false 2 (pl ext (zap m.values 1))) hrl (su:=[]) (va:=zap m.values 1) rfl rfl
               (refine .q ?_);refine .text ?_;simp (disch:=first|exact zb|fail) only [go_sem,seval,-List.reduceReplicate,P,F,f0,f1,f2,f3,g13,yb,zE,hml,hzl,hsw]
               (refine .q ?_);refine .rt Tryd.func8 (by rw [Tryd.results8]) (hx:=by simp (disch:=first|exact zb|fail) only [go_sem,seval,-List.reduceReplicate,P,F,f0,f1,f2,f3,g13,yb,zE,hml,hzl,hw];rfl) (hR := ?_);simp (disch:=first|exact zb|fail) only [go_sem,seval,-List.reduceReplicate,P,F,f0,f1,f2,f3,g13,yb,zE,hml,hzl,hw]
               exact h
             · have d4:(k2 == 4)=false:=by simpa using e4
               rw [if_neg e4] at h
               (refine .q ?_);refine .text ?_;simp (disch:=first|exact zb|fail) only [go_sem,seval,-List.reduceReplicate,d4]
               (refine .q ?_);refine .ifF (by simp (disch:=first|exact zb|fail) only [go_sem,seval,-List.reduceReplicate,d4]) ?_
               by_cases e5:k2=5
               · subst e5
                 simp only [if_true,reduceIte,Int.reduceEq] at h
                 (refine .q ?_);refine .text ?_;simp (disch:=first|exact zb|fail) only [go_sem,seval,-List.reduceReplicate]
                 (refine .q ?_);refine .ifT (by simp (disch:=first|exact zb|fail) only [go_sem,seval,-List.reduceReplicate]) ?_
                 have hmin:min (m.values.length:Int) 6=((min m.values.length 6:Nat):Int):=by omega
                 have hle:min m.values.length 6≤6:=Nat.min_le_right _ _
                 generalize min m.values.length 6=mn at *
                 (refine .q ?_);refine .text ?_;simp (disch:=first|exact zb|fail) only [go_sem,seval,-List.reduceReplicate,P,F,f0,f1,f2,f3,g13,hmin]
                 refine CallK.of (fun R h=>zdS m.values hva mn (by omega) _ R h) ?_;simp (disch:=first|exact zb|fail) only [go_sem,seval,-List.reduceReplicate,hrl,P,F,f0,f1,f2,f3,g13]
                 have hml:=zb1 (k:=5) (s:=m.session % 65536) (t:=n) (tx:=[]) (r:=m.root.val) (S := .p (.sl true 1 [])) (V := .p (.sl false 2 (pl ext (zap m.values mn)))) hrl
                 have hsw:=yM (cs:=mZ) (xs:=mG 5 (m.session % 65536) n [] m.root.val (.p (.sl true 1 [])) (.p (.sl false 2 (pl ext (zap m.values mn))))) (by rw [hzl,hml])
                 have hw:=zdT (k:=5) (s:=m.session % 65536) (t:=n) (tx:=[]) (r:=m.root.val) (x := .sl true 1 []) (y := .sl false 2 (pl ext (zap m.values mn))) hrl (su:=[]) (va:=zap m.values mn) rfl rfl
                 (refine .q ?_);refine .text ?_;simp (disch:=first|exact zb|fail) only [go_sem,seval,-List.reduceReplicate,P,F,f0,f1,f2,f3,g13,yb,zE,hml,hzl,hsw]
                 (refine .q ?_);refine .rt Tryd.func8 (by rw [Tryd.results8]) (hx:=by simp (disch:=first|exact zb|fail) only [go_sem,seval,-List.reduceReplicate,P,F,f0,f1,f2,f3,g13,yb,zE,hml,hzl,hw];rfl) (hR := ?_);simp (disch:=first|exact zb|fail) only [go_sem,seval,-List.reduceReplicate,P,F,f0,f1,f2,f3,g13,yb,zE,hml,hzl,hw]
                 exact h
               · have d5:(k2 == 5)=false:=by simpa using e5
                 rw [if_neg e5] at h
                 (refine .q ?_);refine .text ?_;simp (disch:=first|exact zb|fail) only [go_sem,seval,-List.reduceReplicate,d5]
                 (refine .q ?_);refine .ifF (by simp (disch:=first|exact zb|fail) only [go_sem,seval,-List.reduceReplicate,d5]) ?_
                 refine .skip ?_
                 have hml:=zb1 (k:=k2) (s:=m.session % 65536) (t:=n) (tx:=[]) (r:=m.root.val) (S := .p (.sl true 1 [])) (V := .p (.sl true 2 [])) hrl
                 have hsw:=yM (cs:=mZ) (xs:=mG k2 (m.session % 65536) n [] m.root.val (.p (.sl true 1 [])) (.p (.sl true 2 []))) (by rw [hzl,hml])
                 have hw:=zdT (k:=k2) (s:=m.session % 65536) (t:=n) (tx:=[]) (r:=m.root.val) (x := .sl true 1 []) (y := .sl true 2 []) hrl (su:=[]) (va:=[]) rfl rfl
                 (refine .q ?_);refine .text ?_;simp (disch:=first|exact zb|fail) only [go_sem,seval,-List.reduceReplicate,P,F,f0,f1,f2,f3,g13,yb,zE,hml,hzl,hsw]
                 (refine .q ?_);refine .rt Tryd.func8 (by rw [Tryd.results8]) (hx:=by simp (disch:=first|exact zb|fail) only [go_sem,seval,-List.reduceReplicate,P,F,f0,f1,f2,f3,g13,yb,zE,hml,hzl,hw];rfl) (hR := ?_);simp (disch:=first|exact zb|fail) only [go_sem,seval,-List.reduceReplicate,P,F,f0,f1,f2,f3,g13,yb,zE,hml,hzl,hw]
                 exact h
end walks
theorem zhR {m:Msg} {n:Nat} (hn:n≤255):(zaT m n).Ok:=by
 have hs:okI (m.session % 65536):=⟨by omega,by omega⟩
 have hst:okI (n:Int):=⟨by omega,by omega⟩
 have hk:okI (mk2 m n):=by
  have:mk0 m n=4 ∨ mk0 m n=6 ∨ mk0 m n=7:=by
   unfold mk0
   have h4:(m.kind % 4).toNat < 4:=by omega
   generalize (m.kind % 4).toNat=k at *
   match k,h4 with
   | 0,_=>split<;>simp [nth]
   | 1,_=>split<;>simp [nth]
   | 2,_=>split<;>simp [nth]
   | 3,_=>split<;>simp [nth]
  unfold mk2
  repeat' split
  all_goals first | exact ⟨by omega,by omega⟩ | (rcases this with e | e | e<;>rw [e]<;>exact ⟨by omega,by omega⟩)
 unfold zaT
 have c : ∀ k:Int,0≤k → k≤10 → okI k:=fun k h1 h2=>⟨by omega,by omega⟩
 repeat' split
 · exact ⟨c 1 (by omega) (by omega),hs,hst,by simp;omega,by simp,by simp⟩
 · exact ⟨c 3 (by omega) (by omega),hs,hst,by simp,by simp;omega,by simp⟩
 · exact ⟨c 4 (by omega) (by omega),hs,hst,by simp,by simp,by show (zap _ _).length≤_;rw [zc3];omega⟩
 · exact ⟨c 5 (by omega) (by omega),hs,hst,by simp,by simp,by show (zap _ _).length≤_;rw [zc3];omega⟩
 · exact ⟨hk,hs,hst,by simp,by simp,by simp⟩
theorem zpo {m:Msg}:(enc m).length≤3000:=by
 cases hv:valid m with
 | true=>exact (zi7 hv).2
 | false=>rw [enc,hv];simp
theorem ztX {b:By} (h:(dec b).2=0):valid (dec b).1=true:=by
 unfold dec zi6 at h ⊢
 split at h
 · simp at h
 · rename_i h1
   split at h
   · rename_i h2
     rw [if_neg h1,if_pos h2]
     obtain ⟨x1,x2,x3,x4,l,tx,n1,sm,n2,vm,ck,r,hs⟩:=zqx (b:=b) (by simpa using h1)
     cases hv:valid (decM b).1 with
     | true=>rfl
     | false =>
      rw [enc,hv] at h2
      have:=congrArg List.length hs.e
      rw [←h2] at this
      simp only [List.length_append,hs.l1] at this
      simp at this
      omega
   · simp at h
end Go.Proofs.YtmoecjgehdkhkaaDoor

/-
  Sessions: acts,and the packet that an act delivers.
-/
namespace Go.Proofs.YtmoecjgehdkhkaaDoor
open Go Go.AL

structure Act where
 what:BitVec 8
 who:BitVec 8
 m:Msg
 pos:BitVec 8
 by_:BitVec 8
def zgC (x:Act):List PV:=[b8 x.what,b8 x.who]++(zd1 x.m++[b8 x.pos,b8 x.by_])
def act (x:Act):PV := .agg (zgC x)
def acl (x:Act):List AV:=(zgC x).map .p
instance:Inhabited Act:=⟨⟨0#8,0#8,zM,0#8,0#8⟩⟩
section act
variable {x:Act} {l:List Act}
theorem zgD:(zgC x).length=42:=by simp [zgC,zgi]
theorem zjf:(acl x).length=42:=by rw [acl,List.length_map,zgD]
theorem zpp:zn (.p (act x))=some (acl x):=rfl
theorem ztY:zI (acl x) = .p (act x):=by unfold zI acl;rw [zdI];rfl
theorem zAY:(acl x).take 42=acl x:=List.take_of_length_le (by rw [zjf];exact Nat.le_refl _)
theorem zd7:acl x = .p (b8 x.what) :: .p (b8 x.who) :: (mcl x.m++[.p (b8 x.pos),.p (b8 x.by_)]):=by simp [acl,zgC,mcl]
theorem zRf:(acl x)[0]? = some (.p (b8 x.what)):=by rw [zd7];rfl
theorem zRg:(acl x)[1]? = some (.p (b8 x.who)):=by rw [zd7];rfl
theorem zQg:(acl x)[40]? = some (.p (b8 x.pos)):=by rw [zd7];simp only [List.getElem?_cons_succ];rw [zbw yI (by omega)];rfl
theorem zQh:(acl x)[41]? = some (.p (b8 x.by_)):=by rw [zd7];simp only [List.getElem?_cons_succ];rw [zbw yI (by omega)];rfl
theorem zAZ:(acl x)[4]? = some (.p (i64 x.m.step)):=by rw [zd7];simp only [List.getElem?_cons_succ];rw [List.getElem?_append_left (by rw [yI];omega)];exact zOh
theorem zRh:((acl x).drop 2).take 38=mcl x.m:=by
 rw [zd7];simp only [List.drop_succ_cons,List.drop_zero]
 rw [List.take_append_of_le_length (by rw [yI];omega),zgj]
theorem zpq : ∀ y∈zgC x,y.weak1=y:=fun y hy=>by
 simp only [zgC,List.mem_append,List.mem_cons,List.not_mem_nil,or_false] at hy
 rcases hy with (rfl | rfl) | hy | rfl | rfl
 all_goals first | rfl | exact zdn _ hy
theorem zA0:(act x).weak=act x:=by show PV.agg ((zgC x).map PV.weak1)=_;rw [zbh zpq];rfl
theorem zhS:(act x).cells=zgC x:=rfl
theorem ztZ:(act x).isAgg=true:=rfl
theorem zpr:(AV.p (act x)).isAggV=true:=rfl
theorem zt0:(act x).aggOf 0 42=act x:=by
 rw [PV.aggOf_eq,zhS,List.drop_zero,List.take_of_length_le (by rw [zgD];exact Nat.le_refl _)];rfl
end act
attribute [go_sem] zpp ztY zjf zAY zRf zRg zQg zQh zAZ zRh zA0 zhS ztZ zpr zt0
def mx (x:BitVec 8):BitVec 8:=if x=0#8 then 1#8 else x
theorem zOJ (x:BitVec 8):zbr true (.p (b8 x)) (.p (b8 1#8))=some (.p (b8 (mx x))):=by
 have hx:=x.isLt
 have e:(1#8:BitVec 8).toNat=1:=rfl
 unfold mx
 split
 · rename_i h;subst h;rfl
 · rename_i h
   have h0:x.toNat≠0:=fun q=>h (BitVec.eq_of_toNat_eq q)
   show some (AV.p (.s (.int .u8 (max (x.toNat:Int) ((1#8:BitVec 8).toNat:Int)))))=some (AV.p (.s (.int .u8 (x.toNat:Int))))
   rw [e,show max (x.toNat:Int) ((1:Nat):Int)=x.toNat by omega]
def pk1 (x:Act) (b:By):By:=if x.what % 6#8=5#8∧b≠[] then b.set (x.by_.toNat % b.length) (nth b (x.by_.toNat % b.length) ^^^ mx x.by_) else b
def pk2 (x:Act) (b:By):By:=if x.what % 12#8=11#8 then b.take (x.by_.toNat % (b.length+1)) else b
def pkt (P:List By) (x:Act):By :=
 if P=[] then [] else if x.what % 6#8=5#8∧(dec (pk2 x (pk1 x (nth P (x.pos.toNat % P.length))))).2=0 then [] else pk2 x (pk1 x (nth P (x.pos.toNat % P.length)))
theorem zqA {x:Act} {b:By}:(pk1 x b).length=b.length:=by unfold pk1;split<;>simp
theorem zA2 {x:Act} {b:By}:(pk2 x b).length≤b.length:=by
 unfold pk2;split
 · rw [List.length_take];omega
 · exact Nat.le_refl _
theorem zOK {P:List By} {x:Act} {n:Nat} (h : ∀ b∈P,b.length≤n):(pkt P x).length≤n:=by
 unfold pkt
 split
 · simp
 · rename_i hP
   have hl:0 < P.length:=by
    have:P.length≠0:=fun q=>hP (List.eq_nil_of_length_eq_zero q)
    omega
   have hm:=Nat.mod_lt x.pos.toNat hl
   have h1:=h (nth P (x.pos.toNat % P.length)) (by rw [show nth P (x.pos.toNat % P.length)=P[x.pos.toNat % P.length] by simp [nth,hm]];exact List.getElem_mem hm)
   split
   · simp
   · have:=zA2 (x:=x) (b:=pk1 x (nth P (x.pos.toNat % P.length)))
     rw [zqA] at this
     omega
theorem zJo {l:By} : ∀ x∈pl b8 l,x.cells.length=1:=fun x hx=>by
 simp only [pl,List.mem_map] at hx
 obtain ⟨y,_,rfl⟩:=hx
 rfl
section walks
variable {G:Globs}
set_option maxHeartbeats 8000000 in
set_option maxRecDepth 20000 in
theorem zl6 (P:List By) (hP:P.length≤100000) (hb : ∀ b∈P,b.length≤100000) (x:Act) (H:Hp) (R:AV → Hp → Prop) (h:R (.p (.sl false 1 (pl b8 (pkt P x)))) H) :
 ACall Tryd.prog G 22 [.p (.sl false 1 (pl (sle 1 b8) P)),.p (act x)] H R:=by
 have hby:=x.by_.isLt
 have hpo:=x.pos.isLt
 have w1:=wrap_small (n:=x.by_.toNat) (by omega)
 have w2:=wrap_small (n:=x.pos.toNat) (by omega)
 have h6:(6#8:BitVec 8)≠0#8:=by decide
 have h12:(12#8:BitVec 8)≠0#8:=by decide
 unfold pkt at h
 refine ACall.of_run (raw:=[]) Tryd.func22 rfl Tryd.ntmps22 (by simp) fun hbel => ?_
 (refine .q ?_);refine .text ?_;simp (disch:=first|exact zb|fail) only [go_sem,seval,-List.reduceReplicate]
 (refine .q ?_);refine .text ?_;simp (disch:=first|exact zb|fail) only [go_sem,seval,-List.reduceReplicate]
 by_cases hn:P=[]
 · have d:((P.length:Int) == 0)=true:=by rw [hn];rfl
   rw [if_pos hn] at h
   (refine .q ?_);refine .ifT (by simp (disch:=first|exact zb|fail) only [go_sem,seval,-List.reduceReplicate,d]) ?_
   (refine .q ?_);refine .text ?_;simp (disch:=first|exact zb|fail) only [go_sem,seval,-List.reduceReplicate]
   (refine .q ?_);refine .rt Tryd.func22 (by rw [Tryd.results22]) (hR := ?_);simp (disch:=first|exact zb|fail) only [go_sem,seval,-List.reduceReplicate]
   exact h
 · have hl:0 < P.length:=by
    have:P.length≠0:=fun q=>hn (List.eq_nil_of_length_eq_zero q)
    omega
   have d:((P.length:Int) == 0)=false:=by simp;omega
   rw [if_neg hn] at h
   (refine .q ?_);refine .ifF (by simp (disch:=first|exact zb|fail) only [go_sem,seval,-List.reduceReplicate,d]) ?_
   have hm:=Nat.mod_lt x.pos.toNat hl
   have h1:=hb (nth P (x.pos.toNat % P.length)) (by rw [show nth P (x.pos.toNat % P.length)=P[x.pos.toNat % P.length] by simp [nth,hm]];exact List.getElem_mem hm)
   obtain ⟨k,hk,hk2⟩ : ∃ k:Nat,x.pos.toNat % P.length=k∧((x.pos.toNat:Int) % (P.length:Int))=(k:Int):=⟨_,rfl,by rw [Int.natCast_emod]⟩
   rw [hk] at h1 hm h
   (refine .q ?_);refine .region ?_
   refine .one rfl (by simp (disch:=first|exact zb|fail) only [go_sem,seval,-List.reduceReplicate]<;>rfl) rfl ?_
   refine .vec 12 (by simp (disch:=first|exact zb|fail) only [go_sem,seval,-List.reduceReplicate]<;>rfl) ?_
   refine .run ?_
   simp (disch:=first|exact zb|fail) only [go_sem,seval,-List.reduceReplicate,w2,hk2]
   generalize hb0:nth P k=b0 at *
   (refine .q ?_);refine .cutE [3,5] [(31,.p (bo ((x.what % 6#8 == 5#8) && decide ((0:Int) < (b0.length:Int)))))] [] (fun ihQ => ?_) (fun env Q => ?_)
   rotate_left 1
   simp (disch:=first|exact zb|fail) only [go_sem,seval,-List.reduceReplicate] at Q
   rotate_left 1
   · (refine .q ?_);refine .text ?_;simp (disch:=first|exact zb|fail) only [go_sem,seval,-List.reduceReplicate]
     cases c1:x.what % 6#8 == 5#8 with
     | false =>
      rw [c1,Bool.false_and] at ihQ
      simp (disch:=first|exact zb|fail) only [go_sem,seval,-List.reduceReplicate,c1]
      first | (refine ihQ _ _ ?_ ?_) | (refine .z rfl ?_;refine ihQ _ _ ?_ ?_) | (refine .z rfl ?_;refine .z rfl ?_;refine ihQ _ _ ?_ ?_) | (refine .z rfl ?_;refine .z rfl ?_;refine .z rfl ?_;refine ihQ _ _ ?_ ?_)
      · simp (disch:=first|exact zb|fail) only [go_sem,seval,-List.reduceReplicate]<;>(repeat' (first | rfl | refine And.intro ?_ ?_))
      · first | rfl | (simp (disch:=first|exact zb|fail) only [go_sem,seval,-List.reduceReplicate]<;>(try rfl))
     | true =>
      rw [c1,Bool.true_and] at ihQ
      simp (disch:=first|exact zb|fail) only [go_sem,seval,-List.reduceReplicate,c1]
      first | (refine ihQ _ _ ?_ ?_) | (refine .z rfl ?_;refine ihQ _ _ ?_ ?_) | (refine .z rfl ?_;refine .z rfl ?_;refine ihQ _ _ ?_ ?_) | (refine .z rfl ?_;refine .z rfl ?_;refine .z rfl ?_;refine ihQ _ _ ?_ ?_)
      · simp (disch:=first|exact zb|fail) only [go_sem,seval,-List.reduceReplicate]<;>(repeat' (first | rfl | refine And.intro ?_ ?_))
      · first | rfl | (simp (disch:=first|exact zb|fail) only [go_sem,seval,-List.reduceReplicate]<;>(try rfl))
   (refine .q ?_);refine .cutH [3,5] [] ((H.new (.cells (acl x))).new (.vec (cl b8 (pk1 x b0)))) (fun ihE => ?_) (fun env E => ?_)
   rotate_left 1
   simp (disch:=first|exact zb|fail) only [go_sem,seval,-List.reduceReplicate,Q,yp] at E
   rotate_left 1
   · cases c1:(x.what % 6#8 == 5#8) && decide ((0:Int) < (b0.length:Int)) with
     | false =>
      have hp:pk1 x b0=b0:=by
       unfold pk1;rw [if_neg];rintro ⟨q1,q2⟩
       have:b0.length≠0:=fun q=>q2 (List.eq_nil_of_length_eq_zero q)
       have h2:decide ((0:Int) < (b0.length:Int))=true:=decide_eq_true (by omega)
       rw [q1,h2] at c1;cases c1
      rw [hp] at ihE
      (refine .q ?_);refine .ifF (by simp (disch:=first|exact zb|fail) only [go_sem,seval,-List.reduceReplicate,Q,c1]) ?_
      refine .skip ?_
      first | (refine ihE _ _ ?_ ?_) | (refine .z rfl ?_;refine ihE _ _ ?_ ?_) | (refine .z rfl ?_;refine .z rfl ?_;refine ihE _ _ ?_ ?_) | (refine .z rfl ?_;refine .z rfl ?_;refine .z rfl ?_;refine ihE _ _ ?_ ?_)
      · simp (disch:=first|exact zb|fail) only [go_sem,seval,-List.reduceReplicate,Q,yp]<;>(repeat' (first | rfl | refine And.intro ?_ ?_))
      · first | rfl | (simp (disch:=first|exact zb|fail) only [go_sem,seval,-List.reduceReplicate,Q,yp]<;>(try rfl))
     | true =>
      simp only [Bool.and_eq_true,beq_iff_eq,decide_eq_true_eq] at c1
      have hbl:0 < b0.length:=by omega
      have hp:pk1 x b0=b0.set (x.by_.toNat % b0.length) (nth b0 (x.by_.toNat % b0.length) ^^^ mx x.by_):=by
       unfold pk1;rw [if_pos ⟨c1.1,fun q=>by rw [q] at hbl;cases hbl⟩]
      rw [hp] at ihE
      have hj:=Nat.mod_lt x.by_.toNat hbl
      obtain ⟨j,hj1,hj2⟩ : ∃ j:Nat,x.by_.toNat % b0.length=j∧((x.by_.toNat:Int) % (b0.length:Int))=(j:Int):=⟨_,rfl,by rw [Int.natCast_emod]⟩
      rw [hj1] at hj ihE
      have d1:(x.what % 6#8 == 5#8)=true:=by rw [c1.1];rfl
      have d2:decide ((0:Int) < (b0.length:Int))=true:=decide_eq_true c1.2
      (refine .q ?_);refine .ifT (by simp (disch:=first|exact zb|fail) only [go_sem,seval,-List.reduceReplicate,Q,d1,d2]) ?_
      (refine .q ?_);refine .text ?_;simp (disch:=first|exact zb|fail) only [go_sem,seval,-List.reduceReplicate,Q,yp,w1,hj2]
      (refine .q ?_);refine .open [11] follows (by kernel_rfl) ?_;simp (disch:=first|exact zb|fail) only [go_sem,seval,-List.reduceReplicate,Q,zOJ]
      first | (refine ihE _ _ ?_ ?_) | (refine .z rfl ?_;refine ihE _ _ ?_ ?_) | (refine .z rfl ?_;refine .z rfl ?_;refine ihE _ _ ?_ ?_) | (refine .z rfl ?_;refine .z rfl ?_;refine .z rfl ?_;refine ihE _ _ ?_ ?_)
      · simp (disch:=first|exact zb|fail) only [go_sem,seval,-List.reduceReplicate,Q,yp]<;>(repeat' (first | rfl | refine And.intro ?_ ?_))
      · first | rfl | (simp (disch:=first|exact zb|fail) only [go_sem,seval,-List.reduceReplicate,Q,yp]<;>(try rfl))
   · have hl1:(pk1 x b0).length=b0.length:=zqA
     generalize pk1 x b0=b1 at *
     (refine .q ?_);refine .frzV 5 (by simp (disch:=first|exact zb|fail) only [go_sem,seval,-List.reduceReplicate,E];rfl) (by simp (disch:=first|exact zb|fail) only [go_sem,seval,-List.reduceReplicate,E]<;>rfl) (xs:=pl b8 b1) (by rw [zpF,znD]) (by rw [zbY,hl1]) zJo ?_;(try simp (disch:=first|exact zb|fail) only [go_sem,seval,-List.reduceReplicate,E])
     (refine .q ?_);refine .text ?_;simp (disch:=first|exact zb|fail) only [go_sem,seval,-List.reduceReplicate,E]
     (refine .q ?_);refine .cutH [3] [(5,.p (.sl false 1 (pl b8 (pk2 x b1))))] ((H.new (.cells (acl x))).new .dead) (fun ihF => ?_) (fun env F => ?_)
     rotate_left 1
     simp (disch:=first|exact zb|fail) only [go_sem,seval,-List.reduceReplicate,E] at F
     rotate_left 1
     · cases c2:x.what % 12#8 == 11#8 with
       | false =>
        have hp:pk2 x b1=b1:=by unfold pk2;rw [if_neg];intro q;simp [q] at c2
        rw [hp] at ihF
        (refine .q ?_);refine .ifF (by simp (disch:=first|exact zb|fail) only [go_sem,seval,-List.reduceReplicate,c2]) ?_
        refine .skip ?_
        first | (refine ihF _ _ ?_ ?_) | (refine .z rfl ?_;refine ihF _ _ ?_ ?_) | (refine .z rfl ?_;refine .z rfl ?_;refine ihF _ _ ?_ ?_) | (refine .z rfl ?_;refine .z rfl ?_;refine .z rfl ?_;refine ihF _ _ ?_ ?_)
        · simp (disch:=first|exact zb|fail) only [go_sem,seval,-List.reduceReplicate,E]<;>(repeat' (first | rfl | refine And.intro ?_ ?_))
        · first | rfl | (simp (disch:=first|exact zb|fail) only [go_sem,seval,-List.reduceReplicate,E]<;>(try rfl))
       | true =>
        have hp:pk2 x b1=b1.take (x.by_.toNat % (b1.length+1)):=by unfold pk2;rw [if_pos (by simpa using c2)]
        rw [hp] at ihF
        have hj:=Nat.mod_lt x.by_.toNat (show 0 < b1.length+1 by omega)
        obtain ⟨j,hj1,hj2⟩ : ∃ j:Nat,x.by_.toNat % (b1.length+1)=j∧((x.by_.toNat:Int) % ((b1.length:Int)+1))=(j:Int):=⟨_,rfl,by rw [show (b1.length:Int)+1=((b1.length+1:Nat):Int) by omega,Int.natCast_emod]⟩
        rw [hj1] at hj ihF
        (refine .q ?_);refine .ifT (by simp (disch:=first|exact zb|fail) only [go_sem,seval,-List.reduceReplicate,c2]) ?_
        (refine .q ?_);refine .text ?_;simp (disch:=first|exact zb|fail) only [go_sem,seval,-List.reduceReplicate,E,w1,hj2]
        first | (refine ihF _ _ ?_ ?_) | (refine .z rfl ?_;refine ihF _ _ ?_ ?_) | (refine .z rfl ?_;refine .z rfl ?_;refine ihF _ _ ?_ ?_) | (refine .z rfl ?_;refine .z rfl ?_;refine .z rfl ?_;refine ihF _ _ ?_ ?_)
        · simp (disch:=first|exact zb|fail) only [go_sem,seval,-List.reduceReplicate,E]<;>(repeat' (first | rfl | refine And.intro ?_ ?_))
        · first | rfl | (simp (disch:=first|exact zb|fail) only [go_sem,seval,-List.reduceReplicate,E]<;>(try rfl))
     · have hl2:(pk2 x b1).length≤b1.length:=zA2
       generalize pk2 x b1=b2 at *
       (refine .q ?_);refine .text ?_;simp (disch:=first|exact zb|fail) only [go_sem,seval,-List.reduceReplicate,F]
       refine CallK.of (fun R h=>zhf b2 (by omega) _ R h) ?_;simp (disch:=first|exact zb|fail) only [go_sem,seval,-List.reduceReplicate,F]
       (refine .q ?_);refine .text ?_;simp (disch:=first|exact zb|fail) only [go_sem,seval,-List.reduceReplicate,F,E]
       cases c1:x.what % 6#8 == 5#8 with
       | false =>
        rw [if_neg (fun q=>by simp [q.1] at c1)] at h
        simp (disch:=first|exact zb|fail) only [go_sem,seval,-List.reduceReplicate,c1,F,E]
        (refine .q ?_);refine .ifF (by simp (disch:=first|exact zb|fail) only [go_sem,seval,-List.reduceReplicate]) ?_
        (refine .q ?_);refine .text ?_;simp (disch:=first|exact zb|fail) only [go_sem,seval,-List.reduceReplicate,F]
        (refine .q ?_);refine .rt Tryd.func22 (by rw [Tryd.results22]) (hx:=by simp (disch:=first|exact zb|fail) only [go_sem,seval,-List.reduceReplicate,F];rfl) (hR := ?_);simp (disch:=first|exact zb|fail) only [go_sem,seval,-List.reduceReplicate,F]
        exact h
       | true =>
        have c1':x.what % 6#8=5#8:=by simpa using c1
        simp (disch:=first|exact zb|fail) only [go_sem,seval,-List.reduceReplicate,c1,F,E]
        by_cases c3:(dec b2).2=0
        · have d3:((dec b2).2 == 0)=true:=by simpa using c3
          rw [if_pos ⟨c1',c3⟩] at h
          (refine .q ?_);refine .ifT (by simp (disch:=first|exact zb|fail) only [go_sem,seval,-List.reduceReplicate,d3]) ?_
          (refine .q ?_);refine .text ?_;simp (disch:=first|exact zb|fail) only [go_sem,seval,-List.reduceReplicate,F]
          (refine .q ?_);refine .rt Tryd.func22 (by rw [Tryd.results22]) (hx:=by simp (disch:=first|exact zb|fail) only [go_sem,seval,-List.reduceReplicate,F];rfl) (hR := ?_);simp (disch:=first|exact zb|fail) only [go_sem,seval,-List.reduceReplicate,F]
          exact h
        · have d3:((dec b2).2 == 0)=false:=by simpa using c3
          rw [if_neg (fun q=>c3 q.2)] at h
          (refine .q ?_);refine .ifF (by simp (disch:=first|exact zb|fail) only [go_sem,seval,-List.reduceReplicate,d3]) ?_
          (refine .q ?_);refine .text ?_;simp (disch:=first|exact zb|fail) only [go_sem,seval,-List.reduceReplicate,F]
          (refine .q ?_);refine .rt Tryd.func22 (by rw [Tryd.results22]) (hx:=by simp (disch:=first|exact zb|fail) only [go_sem,seval,-List.reduceReplicate,F];rfl) (hR := ?_);simp (disch:=first|exact zb|fail) only [go_sem,seval,-List.reduceReplicate,F]
          exact h
end walks
end Go.Proofs.YtmoecjgehdkhkaaDoor

/-
  Sessions: what the fixed examples come to (plain).
-/
namespace Go.Proofs.YtmoecjgehdkhkaaDoor
open Go Go.AL

def kAsk:Msg:=⟨1,0,0,[99,111,117,110,116],zD,[],[]⟩
def kCoin:Msg:=⟨4,0,0,[],zD,[],[⟨1,0⟩]⟩
def zQi:Dg:=⟨1#8 :: List.replicate 31 0#8,rfl⟩
def kRoot:Msg:=⟨2,0,0,[],zQi,[],[]⟩
def sA:Ses:=zdM 7 100
def M0:Msg:=⟨1,7,0,[99,111,117,110,116],zD,[],[]⟩
def p0:By:=enc M0
def a1:Ses := { zdO sA M0 p0 with last:=M0 }
def b1:Ses:=zdO sA M0 p0
def M1:Msg:=⟨2,7,1,[],zQi,[],[]⟩
def p1:By:=enc M1
def b2:Ses := { zdO b1 M1 p1 with last:=M1 }
def a2:Ses:=zdO a1 M1 p1
def M2:Msg:=⟨4,7,2,[],a2.seen,[],[⟨1,0⟩]⟩
def p2:By:=enc M2
def a3:Ses := { zdO a2 M2 p2 with last:=M2 }
theorem v0:valid M0=true:=by decide +kernel
theorem v1:valid M1=true:=by decide +kernel
theorem v2:valid M2=true:=by rfl
theorem F1:send sA kCoin=(sA,[],290):=by
 unfold send;rw [show zgx sA kCoin=true by decide +kernel];rfl
theorem F2:send sA kAsk=(a1,p0,0):=by
 unfold send;rw [show zgx sA kAsk=false by decide +kernel,show zd5 sA kAsk=M0 from rfl,v0];rfl
theorem F3:send a1 kAsk=(a1,[],290):=by
 unfold send;rw [show zgx a1 kAsk=true by rfl];rfl
theorem F9:send b1 kRoot=(b2,p1,0):=by
 unfold send;rw [show zgx b1 kRoot=false by rfl,show zd5 b1 kRoot=M1 from rfl,v1];rfl
theorem F11:send a2 kCoin=(a3,p2,0):=by
 unfold send;rw [show zgx a2 kCoin=false by rfl,show zd5 a2 kCoin=M2 from rfl,v2];rfl
theorem F12:send a3 kCoin=(a3,[],290):=by
 unfold send;rw [show zgx a3 kCoin=true by rfl];rfl
theorem D0:dec p0=(M0,0):=zqu v0 (by simp [M0])
theorem D1:dec p1=(M1,0):=zqu v1 (by simp [M1])
theorem F4:recv sA p0 101=({ sA with state:=5 },zM,291):=by
 unfold recv;rw [if_neg (by decide),if_pos (by decide)]
theorem F5:recv sA (p0.take (p0.length - 1)) 1=(sA,zM,6):=by
 unfold recv zc8;rw [if_neg (by decide),if_neg (by decide),show dec (p0.take (p0.length - 1))=(zM,6) from zI2 v0 (by simp [M0])];rfl
theorem F6:recv (zdM 8 100) p0 1=(zdM 8 100,zM,1):=by
 unfold recv zc8;rw [if_neg (by decide),if_neg (by decide),D0];rfl
theorem F7:recv sA p0 100=(b1,M0,0):=by
 unfold recv zc8;rw [if_neg (by decide),if_neg (by decide),D0,show rC sA (M0,(0:Int)).1 (M0,(0:Int)).2=0 by decide +kernel];rfl
theorem F8:recv b1 p0 1=(b1,zM,120):=by
 unfold recv zc8;rw [if_neg (show ¬(3≤b1.state) by show ¬((3:Int)≤1);omega),if_neg (show ¬(b1.due < 1) by show ¬((100:Int) < 1);omega),D0,show rC b1 (M0,(0:Int)).1 (M0,(0:Int)).2=120 by rfl];rfl
theorem F10:recv a1 p1 1=(a2,M1,0):=by
 unfold recv zc8;rw [if_neg (show ¬(3≤a1.state) by show ¬((3:Int)≤1);omega),if_neg (show ¬(a1.due < 1) by show ¬((100:Int) < 1);omega),D1,show rC a1 (M1,(0:Int)).1 (M1,(0:Int)).2=0 by rfl];rfl
theorem F13:recv { sA with state:=5 } p0 1=({ sA with state:=5 },zM,290):=by
 unfold recv;rw [if_pos (by decide)]
theorem F14:dec []=(zM,6):=by decide +kernel
theorem F15:enc zM=[]:=by unfold enc;rw [show valid zM=false by decide +kernel];rfl
theorem n0:p0.length=58:=by unfold p0;rw [zdP v0];rfl
theorem n1:p1.length≤3000:=(zi7 v1).2
theorem n2:p2.length=69:=by unfold p2;rw [zdP v2];rfl
theorem mo {m:Msg} (h1 : -9223372036854775808≤m.kind∧m.kind≤9223372036854775807) (h2 : -9223372036854775808≤m.session∧m.session≤9223372036854775807) (h3 : -9223372036854775808≤m.step∧m.step≤9223372036854775807) (h4:m.text.length≤140737488355000) (h5:m.sums.length≤140737488355000) (h6:m.values.length≤140737488355000):m.Ok:=⟨h1,h2,h3,h4,h5,h6⟩
theorem zJ5:kAsk.Ok:=by apply mo<;>decide
theorem zps:kCoin.Ok:=by apply mo<;>decide
theorem zOL:kRoot.Ok:=by apply mo<;>decide
theorem zJ6 {id due:Int} (h:okI id):(zdM id due).Ok:=by
 refine ⟨h,?_,?_,?_,?_,?_⟩<;>simp [zdM,zM]
theorem okA:sA.Ok:=zJ6 ⟨by decide,by decide⟩
theorem zOM:({ sA with state:=5 }:Ses).Ok:=⟨⟨by decide,by decide⟩,⟨by decide,by decide⟩,by decide,⟨by decide,by decide⟩,⟨by decide,by decide⟩,⟨by decide,by decide⟩⟩
theorem zpt {s:Ses} (h:s.Ok) {m:Msg} {b:By} (h1:s.step≤1000) (h2:s.bytes≤100000) (h3:s.rounds≤1000) (h4:s.words≤100000) (hb:b.length≤3000) (hs:m.sums.length≤3000) (hv:m.values.length≤3000):(zdO s m b).Ok:=by
 obtain ⟨q1,q2,q3,q4,q5,q6⟩:=h
 refine ⟨q1,?_,q3,?_,?_,?_⟩<;>simp only [zdO]<;>omega
theorem zON:b1.Ok:=zpt okA (by decide) (by decide) (by decide) (by decide) (by rw [n0];omega) (by decide) (by decide)
theorem zOO:a1.Ok:=by
 obtain ⟨q1,q2,q3,q4,q5,q6⟩:=zON
 exact ⟨q1,q2,by decide,q4,q5,q6⟩
theorem eA1:a1.step=1∧a1.bytes=58∧a1.rounds=1∧a1.words=0:=⟨rfl,by show (0:Int)+(p0.length:Int)=58;rw [n0];rfl,rfl,rfl⟩
theorem zQk:a2.Ok:=zpt zOO (by rw [eA1.1];omega) (by rw [eA1.2.1];omega) (by rw [eA1.2.2.1];omega) (by rw [eA1.2.2.2];omega) n1 (by decide) (by decide)
theorem eA2:a2.step=2∧a2.bytes≤4000∧a2.rounds=2∧a2.words=0:=⟨rfl,by show a1.bytes+(p1.length:Int)≤4000;have:=n1;rw [eA1.2.1];omega,rfl,rfl⟩
theorem zRi:a3.Ok:=by
 obtain ⟨q1,q2,q3,q4,q5,q6⟩:=zpt (m:=M2) zQk (by rw [eA2.1];omega) (by have:=eA2.2.1;omega) (by rw [eA2.2.2.1];omega) (by rw [eA2.2.2.2];omega) (by rw [n2];omega) (by decide) (by decide)
 exact ⟨q1,q2,by decide,q4,q5,q6⟩
theorem zRj:M2.Ok:=by apply mo<;>decide
end Go.Proofs.YtmoecjgehdkhkaaDoor

/-
  Sessions: the fixed examples of the laws.
-/
namespace Go.Proofs.YtmoecjgehdkhkaaDoor
open Go Go.AL

def mP (k s t:Int) (tx r:By) (S V:PV):PV := .agg (i64 k :: i64 s :: i64 t :: str (bytesOf tx) :: (pl b8 r++[S,V]))
def mC (k s t:Int) (tx r:By) (S V:PV):List AV:=(i64 k :: i64 s :: i64 t :: str (bytesOf tx) :: (pl b8 r++[S,V])).map .p
section mp
variable {k s t:Int} {tx r:By} {S V:PV}
theorem zQl:zI (.p (i64 k) :: .p (i64 s) :: .p (i64 t) :: .p (str (bytesOf tx)) :: List.map AV.p (pl b8 r++[S,V])) = .p (mP k s t tx r S V):=by
 have h:pvs? (.p (i64 k) :: .p (i64 s) :: .p (i64 t) :: .p (str (bytesOf tx)) :: List.map AV.p (pl b8 r++[S,V]))=some (i64 k :: i64 s :: i64 t :: str (bytesOf tx) :: (pl b8 r++[S,V])):=zdI (i64 k :: i64 s :: i64 t :: str (bytesOf tx) :: (pl b8 r++[S,V]))
 unfold zI
 rw [h];rfl
theorem zA3:zn (.p (mP k s t tx r S V))=some (mC k s t tx r S V):=rfl
theorem zA4 (h:r.length=32):(mC k s t tx r S V).length=38:=by simp [mC,zbY,h]
theorem zOP:zI (mC k s t tx r S V) = .p (mP k s t tx r S V):=by unfold zI mC;rw [zdI];rfl
theorem zJp (h:r.length=32):(mC k s t tx r S V).take 38=mC k s t tx r S V:=List.take_of_length_le (by rw [zA4 h];exact Nat.le_refl _)
theorem zqB {f f':Bool} {su:List Int} {va:List Ext} (h:r.length=32):(mP k s t tx r (.sl f 1 (pl i64 su)) (.sl f' 2 (pl ext va))).weak=msg ⟨k,s,t,tx,⟨r,h⟩,su,va⟩:=by
 show PV.agg (List.map PV.weak1 (_ :: _ :: _ :: _ :: (pl b8 r++[_,_])))=_
 simp only [List.map_cons,List.map_append,List.map_nil]
 rw [zaw fun _=>rfl]
 rfl
theorem zA5 {x:PV}:(List.map AV.p (pl b8 (List.replicate 32 0#8)++[S,V])).set 33 (AV.p x)=List.map AV.p (pl b8 (List.replicate 32 0#8)++[S,x]):=rfl
end mp
theorem zOQ:({ data := #[99,111,117,110,116] }:ByteArray)=bytesOf [99,111,117,110,116]:=rfl
attribute [go_sem] zQl zA3 zA4 zOP zJp zA5
theorem zN {c:Prop} [Decidable c] {X Y:Hp} {b:Nat}:(if c then X else Y).f b=if c then X.f b else Y.f b:=by split<;>rfl
theorem zgE {C:Cx} {k:List Item} {env:Env} {H:Hp} {R:AV → Hp → Prop} (h : ∀ B,B=H → ARun C k env B R):ARun C k env H R:=h H rfl
theorem zOR {σ:Gh} {H:Hp} {w:World} {v:Value} {fl:Bool} {sz:Nat} (h:RelV σ H w (.p (.s (.slice none 0 0))) v):RelV σ H w (.p (.sl fl sz [])) v:=by
 cases h with
 | p h=>cases h;exact .p (.nil _ _)
theorem zJq {P:Program} {G:Globs} {f:FuncId} {xs ys:List AV} {fl:Bool} {sz:Nat} {H:Hp} {R:AV → Hp → Prop} (h:ACall P G f (xs ++ .p (.sl fl sz []) :: ys) H R):ACall P G f (xs ++ .p (.s (.slice none 0 0)) :: ys) H R :=
 fun σ w vs hr hvs=>h σ w vs hr ⟨by rw [hvs.1];simp,fun i x v h1 h2=>by
  by_cases hi:i=xs.length
  · subst hi
    have e:(xs++AV.p (.sl fl sz []) :: ys)[xs.length]? = some (.p (.sl fl sz [])):=by simp
    rw [e] at h1;cases h1
    exact zOR (hvs.2 xs.length _ v (by simp) h2)
  · refine hvs.2 i x v ?_ h2
    rw [←h1]
    by_cases hlt:i < xs.length
    · rw [List.getElem?_append_left hlt,List.getElem?_append_left hlt]
    · rw [List.getElem?_append_right (by omega),List.getElem?_append_right (by omega)]
      obtain ⟨k,hk⟩ : ∃ k,i - xs.length=k+1:=⟨i - xs.length - 1,by omega⟩
      rw [hk,List.getElem?_cons_succ,List.getElem?_cons_succ]⟩
section walks
variable {G:Globs} {r1 r2:Nat} {m1:List (Int × Rule)} {m2:List (Int × Int)}
theorem zRk:zM.Ok:=by apply mo<;>decide
theorem zA6 (H:Hp) (R:AV → Hp → Prop) (h:R (.p (ext ⟨1,0⟩)) H):ACall Tryd.prog G 27 [] H R:=by
 refine ACall.of_run (raw:=[]) Tryd.func27 rfl Tryd.ntmps27 (by simp) fun hbel => ?_
 (refine .q ?_);refine .text ?_;simp (disch:=first|exact zb|fail) only [go_sem,seval,-List.reduceReplicate]
 (refine .q ?_);refine .text ?_;simp (disch:=first|exact zb|fail) only [go_sem,seval,-List.reduceReplicate]
 (refine .q ?_);refine .rt Tryd.func27 (by rw [Tryd.results27]) (hR := ?_);simp (disch:=first|exact zb|fail) only [go_sem,seval,-List.reduceReplicate]
 exact h
set_option maxHeartbeats 4000000 in
set_option maxRecDepth 20000 in
theorem zl7 (g:GR G r1 r2 m1 m2) (H:Hp) (R:AV → Hp → Prop) (h:R (.p (bo true)) H):ACall Tryd.prog G 7 [] H R:=by
 have hz:(List.replicate 32 0#8:By).length=32:=List.length_replicate
 refine ACall.of_run (raw:=[]) Tryd.func7 rfl Tryd.ntmps7 (by simp) fun hbel => ?_
 (refine .q ?_);refine .text ?_;simp (disch:=first|exact zb|fail) only [go_sem,seval,-List.reduceReplicate]
 (refine .q ?_);refine .text ?_;simp (disch:=first|exact zb|fail) only [go_sem,seval,-List.reduceReplicate,zOQ,zm,zaG,hz]
 (refine .q ?_);refine .text ?_;simp (disch:=first|exact zb|fail) only [go_sem,seval,-List.reduceReplicate]
 refine CallK.of (fun R h=>zA6 _ R h) ?_;simp (disch:=first|exact zb|fail) only [go_sem,seval,-List.reduceReplicate,zm,zaG,hz]
 have hAsk:(mP 1 0 0 [99,111,117,110,116] (List.replicate 32 0#8) (.sl true 1 []) (.sl true 2 [])).weak=msg kAsk:=zqB (su:=[]) (va:=[]) hz
 have hCoin:(mP 4 0 0 [] (List.replicate 32 0#8) (.sl true 1 []) (.sl true 2 [ext ⟨1#64,0#64⟩])).weak=msg kCoin:=zqB (su:=[]) (va:=[⟨1,0⟩]) hz
 have hNew:zdM 7 100=sA:=rfl
 have c5:(PV.sl true 1 []).weak=PV.sl false 1 []:=rfl
 (refine .q ?_);refine .text ?_;simp (disch:=first|exact zb|fail) only [go_sem,seval,-List.reduceReplicate]
 refine CallK.of (fun R h=>zce 7 100 _ R h) ?_;simp (disch:=first|exact zb|fail) only [go_sem,seval,-List.reduceReplicate,hNew]
 refine CallK.of (fun R h=>zce 7 100 _ R h) ?_;simp (disch:=first|exact zb|fail) only [go_sem,seval,-List.reduceReplicate,hNew,zl]
 (refine .q ?_);refine .text ?_;simp (disch:=first|exact zb|fail) only [go_sem,seval,-List.reduceReplicate,zl,hCoin]
 refine CallK.of (fun R h=>zat g sA okA kCoin zps _ R h) ?_;simp (disch:=first|exact zb|fail) only [go_sem,seval,-List.reduceReplicate,F1,zl]
 (refine .q ?_);refine .text ?_;simp (disch:=first|exact zb|fail) only [go_sem,seval,-List.reduceReplicate,zl,hAsk]
 refine CallK.of (fun R h=>zat g sA okA kAsk zJ5 _ R h) ?_;simp (disch:=first|exact zb|fail) only [go_sem,seval,-List.reduceReplicate,F2,zl]
 (refine .q ?_);refine .text ?_;simp (disch:=first|exact zb|fail) only [go_sem,seval,-List.reduceReplicate,zl,hAsk]
 refine CallK.of (fun R h=>zat g a1 zOO kAsk zJ5 _ R h) ?_;simp (disch:=first|exact zb|fail) only [go_sem,seval,-List.reduceReplicate,F3,zl]
 (refine .q ?_);refine .text ?_;simp (disch:=first|exact zb|fail) only [go_sem,seval,-List.reduceReplicate,zl,hAsk]
 refine CallK.of (fun R h=>yE g sA okA p0 (by rw [n0];omega) 101 _ R h) ?_;simp (disch:=first|exact zb|fail) only [go_sem,seval,-List.reduceReplicate,F4,zl,zm,hz]
 have F5':=F5
 rw [n0] at F5'
 (refine .q ?_);first | refine .cutF0 [2,3,4,7,8,9,12,13,15] [(18,.p (i64 6))] (fun ihE => ?_) (fun env T E => ?_) | refine .cutF [2,3,4,7,8,9,12,13,15] [(18,.p (i64 6))] [] (fun ihE => ?_) (fun env T E => ?_)
 rotate_left 1
 simp (disch:=first|exact zb|fail) only [go_sem,seval,-List.reduceReplicate,n0,zl,zm,hz] at E
 rotate_left 1
 · refine zgE fun B hB => ?_
   have hBn:B.n=H.n+8:=by rw [hB];simp (disch:=first|exact zb|fail) only [go_sem,seval,-List.reduceReplicate]
   have hB4:B.f (H.n+3)=some (.cells (yC sA)):=by rw [hB];simp (disch:=first|exact zb|fail) only [go_sem,seval,-List.reduceReplicate]
   have hcall : ∀ (B':Hp) (R:AV → Hp → Prop),R (.tup [.p (yG sA),.p (msg zM),.p (i64 6)]) B' → ACall Tryd.prog G 23 [.p (yG sA),.p (.sl false 1 (pl b8 (p0.take 57))),.p (i64 1)] B' R:=fun B' R h=>yE g sA okA (p0.take 57) (by rw [List.length_take,n0];omega) 1 B' R (by rw [show recv sA (p0.take 57) 1=(sA,zM,6) from F5'];exact h)
   (refine .q ?_)
   refine .openInv (fun L env' H'=>(kF env' [(2,.ptr (H.n+1) 0),(3,.ptr (H.n+2) 0),(4,.ptr (H.n+3) 0),(7,.p (i64 290)),(8,.p (.sl false 1 (pl b8 p0))),(9,.p (i64 0)),(12,.p (i64 290)),(13,.ptr (H.n+6) 0),(15,.p (i64 291))]∧kI L env' [(0,76,.p (yG sA)),(1,77,.p (.sl false 1 (pl b8 p0))),(2,78,.p (.sl false 1 (pl b8 p0))),(3,79,.p (i64 58)),(4,80,.p (.sl false 1 (pl b8 p0))),(5,81,.p (i64 58)),(6,82,.p (i64 1)),(7,83,.p (i64 57)),(8,84,.p (.sl false 1 (pl b8 (p0.take 57)))),(9,85,.tup [.p (yG sA),.p (msg zM),.p (i64 6)]),(10,75,.tup [.p (yG sA),.p (msg zM),.p (i64 6)]),(11,86,.p (yG sA)),(12,87,.p (msg zM)),(13,88,.p (i64 6)),(14,16,.ptr (H.n+8) 0),(15,17,.ptr (H.n+9) 0),(18,18,.p (i64 6))]∧(L 15=true → allT L [14])∧(L 16=true → allT L [0,1,2,3,4,5,6,7,8,9,10,11,14,15])∧(L 17=true → allT L [0,1,2,3,4,5,6,7,8,9,10,11,12,14,15,16])∧H'=(if L 14 then (if L 15 then (B.new (.cells (if L 16 then yC sA else nC 0 0))).new (.cells (if L 17 then mcl zM else mG 0 0 0 [] (List.replicate 32 0#8) (.p (.sl true 1 [])) (.p (.sl true 2 [])))) else B.new (.cells (nC 0 0))) else B)) ∨ (kF env' [(2,.ptr (H.n+1) 0),(3,.ptr (H.n+2) 0),(4,.ptr (H.n+3) 0),(7,.p (i64 290)),(8,.p (.sl false 1 (pl b8 p0))),(9,.p (i64 0)),(12,.p (i64 290)),(13,.ptr (H.n+6) 0),(15,.p (i64 291))]∧kI L env' [(0,76,.p (yG sA)),(1,77,.p (.sl false 1 (pl b8 p0))),(2,78,.p (.sl false 1 (pl b8 p0))),(3,79,.p (i64 58)),(4,80,.p (.sl false 1 (pl b8 p0))),(5,81,.p (i64 58)),(6,82,.p (i64 1)),(7,83,.p (i64 57)),(8,84,.p (.sl false 1 (pl b8 (p0.take 57)))),(9,85,.tup [.p (yG sA),.p (msg zM),.p (i64 6)]),(10,75,.tup [.p (yG sA),.p (msg zM),.p (i64 6)]),(11,86,.p (yG sA)),(12,87,.p (msg zM)),(13,88,.p (i64 6)),(14,16,.ptr (H.n+9) 0),(15,17,.ptr (H.n+8) 0),(18,18,.p (i64 6))]∧(L 14=true → allT L [15])∧(L 16=true → allT L [0,1,2,3,4,5,6,7,8,9,10,11,14,15])∧(L 17=true → allT L [0,1,2,3,4,5,6,7,8,9,10,11,12,14,15,16])∧H'=(if L 15 then (if L 14 then (B.new (.cells (if L 17 then mcl zM else mG 0 0 0 [] (List.replicate 32 0#8) (.p (.sl true 1 [])) (.p (.sl true 2 []))))).new (.cells (if L 16 then yC sA else nC 0 0)) else B.new (.cells (mG 0 0 0 [] (List.replicate 32 0#8) (.p (.sl true 1 [])) (.p (.sl true 2 []))))) else B))) follows (by kernel_rfl) ?_ ?_ ?_
   · exact .inl ⟨(yQ (by simp (disch:=first|exact zb|fail) only [go_sem,seval,-List.reduceReplicate,hBn,hB4,n0,zl,zm,hz,zN,ite_self]) (yQ (by simp (disch:=first|exact zb|fail) only [go_sem,seval,-List.reduceReplicate,hBn,hB4,n0,zl,zm,hz,zN,ite_self]) (yQ (by simp (disch:=first|exact zb|fail) only [go_sem,seval,-List.reduceReplicate,hBn,hB4,n0,zl,zm,hz,zN,ite_self]) (yQ (by simp (disch:=first|exact zb|fail) only [go_sem,seval,-List.reduceReplicate,hBn,hB4,n0,zl,zm,hz,zN,ite_self]) (yQ (by simp (disch:=first|exact zb|fail) only [go_sem,seval,-List.reduceReplicate,hBn,hB4,n0,zl,zm,hz,zN,ite_self]) (yQ (by simp (disch:=first|exact zb|fail) only [go_sem,seval,-List.reduceReplicate,hBn,hB4,n0,zl,zm,hz,zN,ite_self]) (yQ (by simp (disch:=first|exact zb|fail) only [go_sem,seval,-List.reduceReplicate,hBn,hB4,n0,zl,zm,hz,zN,ite_self]) (yQ (by simp (disch:=first|exact zb|fail) only [go_sem,seval,-List.reduceReplicate,hBn,hB4,n0,zl,zm,hz,zN,ite_self]) (yQ (by simp (disch:=first|exact zb|fail) only [go_sem,seval,-List.reduceReplicate,hBn,hB4,n0,zl,zm,hz,zN,ite_self]) kF0))))))))),(fun _ _ h=>by cases h),(fun h=>by cases h),(fun h=>by cases h),(fun h=>by cases h),(by first | rfl | (simp only [Bool.false_eq_true,if_false];first | rfl | (simp (disch:=first|exact zb|fail) only [go_sem,seval,-List.reduceReplicate,hBn,hB4,n0,zl,zm,hz,zN,ite_self]<;>rfl)))⟩
   · intro i o L env' H' ho hL hall hI
     rcases hI with hI | hI
     · obtain ⟨KF,KG,m15,m16,m17,rfl⟩:=hI
       rcases i with _ | _ | _ | _ | _ | _ | _ | _ | _ | _ | _ | _ | _ | _ | _ | _ | _ | _ | _ | i
       · cases ho
         have n16:=zu m16 hL
         have n17:=zu m17 hL
         have f2:=zU KF 2 rfl
         refine zf (.p (yG sA)) rfl rfl (by simp (disch:=first|exact zb|fail) only [go_sem,seval,-List.reduceReplicate,reduceIte,Bool.false_eq_true,if_false,if_true,f2,n16,n17,hBn,hB4,n0,zl,zm,hz,zN,ite_self]<;>rfl) rfl ?_
         exact .inl ⟨(zH KF),(zK KG),(ka m15),(ka m16),(ka m17),(by rw [za (by decide),za (by decide),za (by decide),za (by decide)])⟩
       · cases ho
         have n16:=zu m16 hL
         have n17:=zu m17 hL
         have f4:=zU KF 4 rfl
         refine zf (.p (.sl false 1 (pl b8 p0))) rfl rfl (by simp (disch:=first|exact zb|fail) only [go_sem,seval,-List.reduceReplicate,reduceIte,Bool.false_eq_true,if_false,if_true,f4,n16,n17,hBn,hB4,n0,zl,zm,hz,zN,ite_self]<;>rfl) rfl ?_
         exact .inl ⟨(zH KF),(zK KG),(ka m15),(ka m16),(ka m17),(by rw [za (by decide),za (by decide),za (by decide),za (by decide)])⟩
       · cases ho
         have n16:=zu m16 hL
         have n17:=zu m17 hL
         have f4:=zU KF 4 rfl
         refine zf (.p (.sl false 1 (pl b8 p0))) rfl rfl (by simp (disch:=first|exact zb|fail) only [go_sem,seval,-List.reduceReplicate,reduceIte,Bool.false_eq_true,if_false,if_true,f4,n16,n17,hBn,hB4,n0,zl,zm,hz,zN,ite_self]<;>rfl) rfl ?_
         exact .inl ⟨(zH KF),(zK KG),(ka m15),(ka m16),(ka m17),(by rw [za (by decide),za (by decide),za (by decide),za (by decide)])⟩
       · cases ho
         have h2:=kL hall 0 rfl rfl
         have d2:=zw KG 2 rfl h2
         have n16:=zu m16 hL
         have n17:=zu m17 hL
         refine zf (.p (i64 58)) rfl rfl (by simp (disch:=first|exact zb|fail) only [go_sem,seval,-List.reduceReplicate,reduceIte,Bool.false_eq_true,if_false,if_true,d2,n16,n17,hBn,hB4,n0,zl,zm,hz,zN,ite_self]<;>rfl) rfl ?_
         exact .inl ⟨(zH KF),(zK KG),(ka m15),(ka m16),(ka m17),(by rw [za (by decide),za (by decide),za (by decide),za (by decide)])⟩
       · cases ho
         have n16:=zu m16 hL
         have n17:=zu m17 hL
         have f4:=zU KF 4 rfl
         refine zf (.p (.sl false 1 (pl b8 p0))) rfl rfl (by simp (disch:=first|exact zb|fail) only [go_sem,seval,-List.reduceReplicate,reduceIte,Bool.false_eq_true,if_false,if_true,f4,n16,n17,hBn,hB4,n0,zl,zm,hz,zN,ite_self]<;>rfl) rfl ?_
         exact .inl ⟨(zH KF),(zK KG),(ka m15),(ka m16),(ka m17),(by rw [za (by decide),za (by decide),za (by decide),za (by decide)])⟩
       · cases ho
         have h4:=kL hall 0 rfl rfl
         have d4:=zw KG 4 rfl h4
         have n16:=zu m16 hL
         have n17:=zu m17 hL
         refine zf (.p (i64 58)) rfl rfl (by simp (disch:=first|exact zb|fail) only [go_sem,seval,-List.reduceReplicate,reduceIte,Bool.false_eq_true,if_false,if_true,d4,n16,n17,hBn,hB4,n0,zl,zm,hz,zN,ite_self]<;>rfl) rfl ?_
         exact .inl ⟨(zH KF),(zK KG),(ka m15),(ka m16),(ka m17),(by rw [za (by decide),za (by decide),za (by decide),za (by decide)])⟩
       · cases ho
         have h5:=kL hall 0 rfl rfl
         have d5:=zw KG 5 rfl h5
         have n16:=zu m16 hL
         have n17:=zu m17 hL
         refine zf (.p (i64 1)) rfl rfl (by simp (disch:=first|exact zb|fail) only [go_sem,seval,-List.reduceReplicate,reduceIte,Bool.false_eq_true,if_false,if_true,d5,n16,n17,hBn,hB4,n0,zl,zm,hz,zN,ite_self]<;>rfl) rfl ?_
         exact .inl ⟨(zH KF),(zK KG),(ka m15),(ka m16),(ka m17),(by rw [za (by decide),za (by decide),za (by decide),za (by decide)])⟩
       · cases ho
         have h3:=kL hall 0 rfl rfl
         have d3:=zw KG 3 rfl h3
         have h6:=kL hall 1 rfl rfl
         have d6:=zw KG 6 rfl h6
         have n16:=zu m16 hL
         have n17:=zu m17 hL
         refine zf (.p (i64 57)) rfl rfl (by simp (disch:=first|exact zb|fail) only [go_sem,seval,-List.reduceReplicate,reduceIte,Bool.false_eq_true,if_false,if_true,d3,d6,n16,n17,hBn,hB4,n0,zl,zm,hz,zN,ite_self]<;>rfl) rfl ?_
         exact .inl ⟨(zH KF),(zK KG),(ka m15),(ka m16),(ka m17),(by rw [za (by decide),za (by decide),za (by decide),za (by decide)])⟩
       · cases ho
         have h1:=kL hall 0 rfl rfl
         have d1:=zw KG 1 rfl h1
         have h7:=kL hall 1 rfl rfl
         have d7:=zw KG 7 rfl h7
         have n16:=zu m16 hL
         have n17:=zu m17 hL
         refine zf (.p (.sl false 1 (pl b8 (p0.take 57)))) rfl rfl (by simp (disch:=first|exact zb|fail) only [go_sem,seval,-List.reduceReplicate,reduceIte,Bool.false_eq_true,if_false,if_true,d1,d7,n16,n17,hBn,hB4,n0,zl,zm,hz,zN,ite_self]<;>rfl) rfl ?_
         exact .inl ⟨(zH KF),(zK KG),(ka m15),(ka m16),(ka m17),(by rw [za (by decide),za (by decide),za (by decide),za (by decide)])⟩
       · cases ho
         have h0:=kL hall 0 rfl rfl
         have d0:=zw KG 0 rfl h0
         have h8:=kL hall 1 rfl rfl
         have d8:=zw KG 8 rfl h8
         have n16:=zu m16 hL
         have n17:=zu m17 hL
         (try simp only [n16,n17,if_true,if_false,Bool.false_eq_true])
         refine yi rfl rfl (by simp (disch:=first|exact zb|fail) only [go_sem,seval,-List.reduceReplicate,reduceIte,Bool.false_eq_true,if_false,if_true,d0,d8,n16,n17,hBn,hB4,n0,zl,zm,hz,zN,ite_self]<;>rfl) rfl (by simp (disch:=first|exact zb|fail) only [go_sem,seval,-List.reduceReplicate,reduceIte,Bool.false_eq_true,if_false,if_true,d0,d8,n16,n17,hBn,hB4,n0,zl,zm,hz,zN,ite_self]<;>rfl) (fun R h=>hcall _ R h) ?_
         exact .inl ⟨(zH KF),(zK KG),(ka m15),(ka m16),(ka m17),(by (have e14:more L 9 14=L 14:=za (by decide));(have e15:more L 9 15=L 15:=za (by decide));(have e16:more L 9 16=L 16:=za (by decide));(have e17:more L 9 17=L 17:=za (by decide));(try simp only [e14,e15,e16,e17,n16,n17]);first | done | rfl | (simp only [e14,e15,e16,e17,n16,n17,if_true,if_false,Bool.false_eq_true];first | done | rfl | (simp (disch:=first|exact zb|fail) only [go_sem,seval,-List.reduceReplicate,e14,e15,e16,e17,n16,n17,hBn,hB4,n0,zl,zm,hz,zN,ite_self]<;>rfl)))⟩
       · cases ho
         have h9:=kL hall 0 rfl rfl
         have d9:=zw KG 9 rfl h9
         have n16:=zu m16 hL
         have n17:=zu m17 hL
         refine zf (.tup [.p (yG sA),.p (msg zM),.p (i64 6)]) rfl rfl (by simp (disch:=first|exact zb|fail) only [go_sem,seval,-List.reduceReplicate,reduceIte,Bool.false_eq_true,if_false,if_true,d9,n16,n17,hBn,hB4,n0,zl,zm,hz,zN,ite_self]<;>rfl) rfl ?_
         exact .inl ⟨(zH KF),(zK KG),(ka m15),(ka m16),(ka m17),(by rw [za (by decide),za (by decide),za (by decide),za (by decide)])⟩
       · cases ho
         have h10:=kL hall 0 rfl rfl
         have d10:=zw KG 10 rfl h10
         have n16:=zu m16 hL
         have n17:=zu m17 hL
         refine zf (.p (yG sA)) rfl rfl (by simp (disch:=first|exact zb|fail) only [go_sem,seval,-List.reduceReplicate,reduceIte,Bool.false_eq_true,if_false,if_true,d10,n16,n17,hBn,hB4,n0,zl,zm,hz,zN,ite_self]<;>rfl) rfl ?_
         exact .inl ⟨(zH KF),(zK KG),(ka m15),(ka m16),(ka m17),(by rw [za (by decide),za (by decide),za (by decide),za (by decide)])⟩
       · cases ho
         have h10:=kL hall 0 rfl rfl
         have d10:=zw KG 10 rfl h10
         have n17:=zu m17 hL
         refine zf (.p (msg zM)) rfl rfl (by simp (disch:=first|exact zb|fail) only [go_sem,seval,-List.reduceReplicate,reduceIte,Bool.false_eq_true,if_false,if_true,d10,n17,hBn,hB4,n0,zl,zm,hz,zN,ite_self]<;>rfl) rfl ?_
         exact .inl ⟨(zH KF),(zK KG),(ka m15),(ka m16),(ka m17),(by rw [za (by decide),za (by decide),za (by decide),za (by decide)])⟩
       · cases ho
         have h10:=kL hall 0 rfl rfl
         have d10:=zw KG 10 rfl h10
         refine zf (.p (i64 6)) rfl rfl (by simp (disch:=first|exact zb|fail) only [go_sem,seval,-List.reduceReplicate,d10,hBn,hB4,n0,zl,zm,hz,zN,ite_self]<;>rfl) rfl ?_
         exact .inl ⟨(zH KF),(zK KG),(ka m15),(ka m16),(ka m17),(by rw [za (by decide),za (by decide),za (by decide),za (by decide)])⟩
       · cases ho
         have n15:=zu m15 hL
         have n16:=zu m16 hL
         have n17:=zu m17 hL
         (try simp only [n15,n16,n17,hL,if_true,if_false,Bool.false_eq_true])
         refine yh (.ptr (H.n+8) 0) rfl rfl (by simp (disch:=first|exact zb|fail) only [go_sem,seval,-List.reduceReplicate,reduceIte,Bool.false_eq_true,if_false,if_true,n15,n16,n17,hL,hBn,hB4,n0,zl,zm,hz,zN,ite_self]<;>rfl) rfl ?_
         exact .inl ⟨(zH KF),(zK KG),(ka m15),(ka m16),(ka m17),(by (have e14:more L 14 14=true:=zv);(have e15:more L 14 15=L 15:=za (by decide));(have e16:more L 14 16=L 16:=za (by decide));(have e17:more L 14 17=L 17:=za (by decide));(try simp only [e14,e15,e16,e17,n15,n16,n17,hL]);first | done | rfl | (simp only [e14,e15,e16,e17,n15,n16,n17,hL,if_true,if_false,Bool.false_eq_true];first | done | rfl | (simp (disch:=first|exact zb|fail) only [go_sem,seval,-List.reduceReplicate,e14,e15,e16,e17,n15,n16,n17,hL,hBn,hB4,n0,zl,zm,hz,zN,ite_self]<;>rfl)))⟩
       · cases ho
         have n16:=zu m16 hL
         have n17:=zu m17 hL
         cases e0:L 14
         · skip
           (try simp only [n16,n17,hL,e0,if_true,if_false,Bool.false_eq_true])
           refine yh (.ptr (H.n+8) 0) rfl rfl (by simp (disch:=first|exact zb|fail) only [go_sem,seval,-List.reduceReplicate,reduceIte,Bool.false_eq_true,if_false,if_true,n16,n17,hL,e0,hBn,hB4,n0,zl,zm,hz,zN,ite_self]<;>rfl) rfl ?_
           exact .inr ⟨(zH KF),(kIj KG e0),(fun _=>kt1),(ka m16),(ka m17),(by (have e14:more L 15 14=L 14:=za (by decide));(have e15:more L 15 15=true:=zv);(have e16:more L 15 16=L 16:=za (by decide));(have e17:more L 15 17=L 17:=za (by decide));(try simp only [e14,e15,e16,e17,n16,n17,hL,e0]);first | done | rfl | (simp only [e14,e15,e16,e17,n16,n17,hL,e0,if_true,if_false,Bool.false_eq_true];first | done | rfl | (simp (disch:=first|exact zb|fail) only [go_sem,seval,-List.reduceReplicate,e14,e15,e16,e17,n16,n17,hL,e0,hBn,hB4,n0,zl,zm,hz,zN,ite_self]<;>rfl)))⟩
         · have h14:L 14=true:=e0
           (try simp only [h14,n16,n17,hL,if_true,if_false,Bool.false_eq_true])
           refine yh (.ptr (H.n+9) 0) rfl rfl (by simp (disch:=first|exact zb|fail) only [go_sem,seval,-List.reduceReplicate,reduceIte,Bool.false_eq_true,if_false,if_true,h14,n16,n17,hL,hBn,hB4,n0,zl,zm,hz,zN,ite_self]<;>rfl) rfl ?_
           exact .inl ⟨(zH KF),(zK KG),(fun _=>kt (zc h14 zB)),(ka m16),(ka m17),(by (have e14:more L 15 14=L 14:=za (by decide));(have e15:more L 15 15=true:=zv);(have e16:more L 15 16=L 16:=za (by decide));(have e17:more L 15 17=L 17:=za (by decide));(try simp only [e14,e15,e16,e17,h14,n16,n17,hL]);first | done | rfl | (simp only [e14,e15,e16,e17,h14,n16,n17,hL,if_true,if_false,Bool.false_eq_true];first | done | rfl | (simp (disch:=first|exact zb|fail) only [go_sem,seval,-List.reduceReplicate,e14,e15,e16,e17,h14,n16,n17,hL,hBn,hB4,n0,zl,zm,hz,zN,ite_self]<;>rfl)))⟩
       · cases ho
         have h0:=kL hall 3 rfl rfl
         have h1:=kL hall 4 rfl rfl
         have h2:=kL hall 5 rfl rfl
         have h3:=kL hall 6 rfl rfl
         have h4:=kL hall 7 rfl rfl
         have h5:=kL hall 8 rfl rfl
         have h6:=kL hall 9 rfl rfl
         have h7:=kL hall 10 rfl rfl
         have h8:=kL hall 11 rfl rfl
         have h9:=kL hall 2 rfl rfl
         have h10:=kL hall 13 rfl rfl
         have h11:=kL hall 1 rfl rfl
         have d11:=zw KG 11 rfl h11
         have h14:=kL hall 0 rfl rfl
         have d14:=zw KG 14 rfl h14
         have h15:=kL hall 18 rfl rfl
         have n17:=zu m17 hL
         refine yd rfl rfl (by simp (disch:=first|exact zb|fail) only [go_sem,seval,-List.reduceReplicate,reduceIte,Bool.false_eq_true,if_false,if_true,d11,d14,h14,h15,n17,hL,hBn,hB4,n0,zl,zm,hz,zN,ite_self]<;>rfl) rfl ?_
         exact .inl ⟨KF,(kIs KG),(ka m15),(fun _=>kt (zc h0 (zc h1 (zc h2 (zc h3 (zc h4 (zc h5 (zc h6 (zc h7 (zc h8 (zc h9 (zc h10 (zc h11 (zc h14 (zc h15 zB))))))))))))))),(ka m17),(by (have e14:more L 16 14=L 14:=za (by decide));(have e15:more L 16 15=L 15:=za (by decide));(have e16:more L 16 16=true:=zv);(have e17:more L 16 17=L 17:=za (by decide));(try simp only [e14,e15,e16,e17,h14,h15,n17,hL]);first | done | rfl | (simp only [e14,e15,e16,e17,h14,h15,n17,hL,if_true,if_false,Bool.false_eq_true];first | done | rfl | (simp (disch:=first|exact zb|fail) only [go_sem,seval,-List.reduceReplicate,e14,e15,e16,e17,h14,h15,n17,hL,hBn,hB4,n0,zl,zm,hz,zN,ite_self]<;>rfl)))⟩
       · cases ho
         have h0:=kL hall 3 rfl rfl
         have h1:=kL hall 4 rfl rfl
         have h2:=kL hall 5 rfl rfl
         have h3:=kL hall 6 rfl rfl
         have h4:=kL hall 7 rfl rfl
         have h5:=kL hall 8 rfl rfl
         have h6:=kL hall 9 rfl rfl
         have h7:=kL hall 10 rfl rfl
         have h8:=kL hall 11 rfl rfl
         have h9:=kL hall 12 rfl rfl
         have h10:=kL hall 13 rfl rfl
         have h11:=kL hall 14 rfl rfl
         have h12:=kL hall 1 rfl rfl
         have d12:=zw KG 12 rfl h12
         have h14:=kL hall 17 rfl rfl
         have h15:=kL hall 0 rfl rfl
         have d15:=zw KG 15 rfl h15
         have h16:=kL hall 2 rfl rfl
         refine yd rfl rfl (by simp (disch:=first|exact zb|fail) only [go_sem,seval,-List.reduceReplicate,reduceIte,Bool.false_eq_true,if_false,if_true,d12,d15,h14,h15,h16,hL,hBn,hB4,n0,zl,zm,hz,zN,ite_self]<;>rfl) rfl ?_
         exact .inl ⟨KF,(kIs KG),(ka m15),(ka m16),(fun _=>kt (zc h0 (zc h1 (zc h2 (zc h3 (zc h4 (zc h5 (zc h6 (zc h7 (zc h8 (zc h9 (zc h10 (zc h11 (zc h12 (zc h14 (zc h15 (zc h16 zB))))))))))))))))),(by (have e14:more L 17 14=L 14:=za (by decide));(have e15:more L 17 15=L 15:=za (by decide));(have e16:more L 17 16=L 16:=za (by decide));(have e17:more L 17 17=true:=zv);(try simp only [e14,e15,e16,e17,h14,h15,h16,hL]);first | done | rfl | (simp only [e14,e15,e16,e17,h14,h15,h16,hL,if_true,if_false,Bool.false_eq_true];first | done | rfl | (simp (disch:=first|exact zb|fail) only [go_sem,seval,-List.reduceReplicate,e14,e15,e16,e17,h14,h15,h16,hL,hBn,hB4,n0,zl,zm,hz,zN,ite_self]<;>rfl)))⟩
       · cases ho
         have h0:=kL hall 2 rfl rfl
         have h1:=kL hall 3 rfl rfl
         have h2:=kL hall 4 rfl rfl
         have h3:=kL hall 5 rfl rfl
         have h4:=kL hall 6 rfl rfl
         have h5:=kL hall 7 rfl rfl
         have h6:=kL hall 8 rfl rfl
         have h7:=kL hall 9 rfl rfl
         have h8:=kL hall 10 rfl rfl
         have h9:=kL hall 11 rfl rfl
         have h10:=kL hall 12 rfl rfl
         have h11:=kL hall 13 rfl rfl
         have h12:=kL hall 14 rfl rfl
         have h13:=kL hall 0 rfl rfl
         have d13:=zw KG 13 rfl h13
         have h14:=kL hall 16 rfl rfl
         have h15:=kL hall 17 rfl rfl
         have h16:=kL hall 18 rfl rfl
         have h17:=kL hall 1 rfl rfl
         refine zf (.p (i64 6)) rfl rfl (by simp (disch:=first|exact zb|fail) only [go_sem,seval,-List.reduceReplicate,reduceIte,Bool.false_eq_true,if_false,if_true,d13,h14,h15,h16,h17,hBn,hB4,n0,zl,zm,hz,zN,ite_self]<;>rfl) rfl ?_
         exact .inl ⟨(zH KF),(zK KG),(ka m15),(ka m16),(ka m17),(by rw [za (by decide),za (by decide),za (by decide),za (by decide)])⟩
       · simp at ho
     · obtain ⟨KF,KG,m14,m16,m17,rfl⟩:=hI
       rcases i with _ | _ | _ | _ | _ | _ | _ | _ | _ | _ | _ | _ | _ | _ | _ | _ | _ | _ | _ | i
       · cases ho
         have n16:=zu m16 hL
         have n17:=zu m17 hL
         have f2:=zU KF 2 rfl
         refine zf (.p (yG sA)) rfl rfl (by simp (disch:=first|exact zb|fail) only [go_sem,seval,-List.reduceReplicate,reduceIte,Bool.false_eq_true,if_false,if_true,f2,n16,n17,hBn,hB4,n0,zl,zm,hz,zN,ite_self]<;>rfl) rfl ?_
         exact .inr ⟨(zH KF),(zK KG),(ka m14),(ka m16),(ka m17),(by rw [za (by decide),za (by decide),za (by decide),za (by decide)])⟩
       · cases ho
         have n16:=zu m16 hL
         have n17:=zu m17 hL
         have f4:=zU KF 4 rfl
         refine zf (.p (.sl false 1 (pl b8 p0))) rfl rfl (by simp (disch:=first|exact zb|fail) only [go_sem,seval,-List.reduceReplicate,reduceIte,Bool.false_eq_true,if_false,if_true,f4,n16,n17,hBn,hB4,n0,zl,zm,hz,zN,ite_self]<;>rfl) rfl ?_
         exact .inr ⟨(zH KF),(zK KG),(ka m14),(ka m16),(ka m17),(by rw [za (by decide),za (by decide),za (by decide),za (by decide)])⟩
       · cases ho
         have n16:=zu m16 hL
         have n17:=zu m17 hL
         have f4:=zU KF 4 rfl
         refine zf (.p (.sl false 1 (pl b8 p0))) rfl rfl (by simp (disch:=first|exact zb|fail) only [go_sem,seval,-List.reduceReplicate,reduceIte,Bool.false_eq_true,if_false,if_true,f4,n16,n17,hBn,hB4,n0,zl,zm,hz,zN,ite_self]<;>rfl) rfl ?_
         exact .inr ⟨(zH KF),(zK KG),(ka m14),(ka m16),(ka m17),(by rw [za (by decide),za (by decide),za (by decide),za (by decide)])⟩
       · cases ho
         have h2:=kL hall 0 rfl rfl
         have d2:=zw KG 2 rfl h2
         have n16:=zu m16 hL
         have n17:=zu m17 hL
         refine zf (.p (i64 58)) rfl rfl (by simp (disch:=first|exact zb|fail) only [go_sem,seval,-List.reduceReplicate,reduceIte,Bool.false_eq_true,if_false,if_true,d2,n16,n17,hBn,hB4,n0,zl,zm,hz,zN,ite_self]<;>rfl) rfl ?_
         exact .inr ⟨(zH KF),(zK KG),(ka m14),(ka m16),(ka m17),(by rw [za (by decide),za (by decide),za (by decide),za (by decide)])⟩
       · cases ho
         have n16:=zu m16 hL
         have n17:=zu m17 hL
         have f4:=zU KF 4 rfl
         refine zf (.p (.sl false 1 (pl b8 p0))) rfl rfl (by simp (disch:=first|exact zb|fail) only [go_sem,seval,-List.reduceReplicate,reduceIte,Bool.false_eq_true,if_false,if_true,f4,n16,n17,hBn,hB4,n0,zl,zm,hz,zN,ite_self]<;>rfl) rfl ?_
         exact .inr ⟨(zH KF),(zK KG),(ka m14),(ka m16),(ka m17),(by rw [za (by decide),za (by decide),za (by decide),za (by decide)])⟩
       · cases ho
         have h4:=kL hall 0 rfl rfl
         have d4:=zw KG 4 rfl h4
         have n16:=zu m16 hL
         have n17:=zu m17 hL
         refine zf (.p (i64 58)) rfl rfl (by simp (disch:=first|exact zb|fail) only [go_sem,seval,-List.reduceReplicate,reduceIte,Bool.false_eq_true,if_false,if_true,d4,n16,n17,hBn,hB4,n0,zl,zm,hz,zN,ite_self]<;>rfl) rfl ?_
         exact .inr ⟨(zH KF),(zK KG),(ka m14),(ka m16),(ka m17),(by rw [za (by decide),za (by decide),za (by decide),za (by decide)])⟩
       · cases ho
         have h5:=kL hall 0 rfl rfl
         have d5:=zw KG 5 rfl h5
         have n16:=zu m16 hL
         have n17:=zu m17 hL
         refine zf (.p (i64 1)) rfl rfl (by simp (disch:=first|exact zb|fail) only [go_sem,seval,-List.reduceReplicate,reduceIte,Bool.false_eq_true,if_false,if_true,d5,n16,n17,hBn,hB4,n0,zl,zm,hz,zN,ite_self]<;>rfl) rfl ?_
         exact .inr ⟨(zH KF),(zK KG),(ka m14),(ka m16),(ka m17),(by rw [za (by decide),za (by decide),za (by decide),za (by decide)])⟩
       · cases ho
         have h3:=kL hall 0 rfl rfl
         have d3:=zw KG 3 rfl h3
         have h6:=kL hall 1 rfl rfl
         have d6:=zw KG 6 rfl h6
         have n16:=zu m16 hL
         have n17:=zu m17 hL
         refine zf (.p (i64 57)) rfl rfl (by simp (disch:=first|exact zb|fail) only [go_sem,seval,-List.reduceReplicate,reduceIte,Bool.false_eq_true,if_false,if_true,d3,d6,n16,n17,hBn,hB4,n0,zl,zm,hz,zN,ite_self]<;>rfl) rfl ?_
         exact .inr ⟨(zH KF),(zK KG),(ka m14),(ka m16),(ka m17),(by rw [za (by decide),za (by decide),za (by decide),za (by decide)])⟩
       · cases ho
         have h1:=kL hall 0 rfl rfl
         have d1:=zw KG 1 rfl h1
         have h7:=kL hall 1 rfl rfl
         have d7:=zw KG 7 rfl h7
         have n16:=zu m16 hL
         have n17:=zu m17 hL
         refine zf (.p (.sl false 1 (pl b8 (p0.take 57)))) rfl rfl (by simp (disch:=first|exact zb|fail) only [go_sem,seval,-List.reduceReplicate,reduceIte,Bool.false_eq_true,if_false,if_true,d1,d7,n16,n17,hBn,hB4,n0,zl,zm,hz,zN,ite_self]<;>rfl) rfl ?_
         exact .inr ⟨(zH KF),(zK KG),(ka m14),(ka m16),(ka m17),(by rw [za (by decide),za (by decide),za (by decide),za (by decide)])⟩
       · cases ho
         have h0:=kL hall 0 rfl rfl
         have d0:=zw KG 0 rfl h0
         have h8:=kL hall 1 rfl rfl
         have d8:=zw KG 8 rfl h8
         have n16:=zu m16 hL
         have n17:=zu m17 hL
         (try simp only [n16,n17,if_true,if_false,Bool.false_eq_true])
         refine yi rfl rfl (by simp (disch:=first|exact zb|fail) only [go_sem,seval,-List.reduceReplicate,reduceIte,Bool.false_eq_true,if_false,if_true,d0,d8,n16,n17,hBn,hB4,n0,zl,zm,hz,zN,ite_self]<;>rfl) rfl (by simp (disch:=first|exact zb|fail) only [go_sem,seval,-List.reduceReplicate,reduceIte,Bool.false_eq_true,if_false,if_true,d0,d8,n16,n17,hBn,hB4,n0,zl,zm,hz,zN,ite_self]<;>rfl) (fun R h=>hcall _ R h) ?_
         exact .inr ⟨(zH KF),(zK KG),(ka m14),(ka m16),(ka m17),(by (have e14:more L 9 14=L 14:=za (by decide));(have e15:more L 9 15=L 15:=za (by decide));(have e16:more L 9 16=L 16:=za (by decide));(have e17:more L 9 17=L 17:=za (by decide));(try simp only [e14,e15,e16,e17,n16,n17]);first | done | rfl | (simp only [e14,e15,e16,e17,n16,n17,if_true,if_false,Bool.false_eq_true];first | done | rfl | (simp (disch:=first|exact zb|fail) only [go_sem,seval,-List.reduceReplicate,e14,e15,e16,e17,n16,n17,hBn,hB4,n0,zl,zm,hz,zN,ite_self]<;>rfl)))⟩
       · cases ho
         have h9:=kL hall 0 rfl rfl
         have d9:=zw KG 9 rfl h9
         have n16:=zu m16 hL
         have n17:=zu m17 hL
         refine zf (.tup [.p (yG sA),.p (msg zM),.p (i64 6)]) rfl rfl (by simp (disch:=first|exact zb|fail) only [go_sem,seval,-List.reduceReplicate,reduceIte,Bool.false_eq_true,if_false,if_true,d9,n16,n17,hBn,hB4,n0,zl,zm,hz,zN,ite_self]<;>rfl) rfl ?_
         exact .inr ⟨(zH KF),(zK KG),(ka m14),(ka m16),(ka m17),(by rw [za (by decide),za (by decide),za (by decide),za (by decide)])⟩
       · cases ho
         have h10:=kL hall 0 rfl rfl
         have d10:=zw KG 10 rfl h10
         have n16:=zu m16 hL
         have n17:=zu m17 hL
         refine zf (.p (yG sA)) rfl rfl (by simp (disch:=first|exact zb|fail) only [go_sem,seval,-List.reduceReplicate,reduceIte,Bool.false_eq_true,if_false,if_true,d10,n16,n17,hBn,hB4,n0,zl,zm,hz,zN,ite_self]<;>rfl) rfl ?_
         exact .inr ⟨(zH KF),(zK KG),(ka m14),(ka m16),(ka m17),(by rw [za (by decide),za (by decide),za (by decide),za (by decide)])⟩
       · cases ho
         have h10:=kL hall 0 rfl rfl
         have d10:=zw KG 10 rfl h10
         have n17:=zu m17 hL
         refine zf (.p (msg zM)) rfl rfl (by simp (disch:=first|exact zb|fail) only [go_sem,seval,-List.reduceReplicate,reduceIte,Bool.false_eq_true,if_false,if_true,d10,n17,hBn,hB4,n0,zl,zm,hz,zN,ite_self]<;>rfl) rfl ?_
         exact .inr ⟨(zH KF),(zK KG),(ka m14),(ka m16),(ka m17),(by rw [za (by decide),za (by decide),za (by decide),za (by decide)])⟩
       · cases ho
         have h10:=kL hall 0 rfl rfl
         have d10:=zw KG 10 rfl h10
         refine zf (.p (i64 6)) rfl rfl (by simp (disch:=first|exact zb|fail) only [go_sem,seval,-List.reduceReplicate,d10,hBn,hB4,n0,zl,zm,hz,zN,ite_self]<;>rfl) rfl ?_
         exact .inr ⟨(zH KF),(zK KG),(ka m14),(ka m16),(ka m17),(by rw [za (by decide),za (by decide),za (by decide),za (by decide)])⟩
       · cases ho
         have n16:=zu m16 hL
         have n17:=zu m17 hL
         cases e0:L 15
         · skip
           (try simp only [n16,n17,hL,e0,if_true,if_false,Bool.false_eq_true])
           refine yh (.ptr (H.n+8) 0) rfl rfl (by simp (disch:=first|exact zb|fail) only [go_sem,seval,-List.reduceReplicate,reduceIte,Bool.false_eq_true,if_false,if_true,n16,n17,hL,e0,hBn,hB4,n0,zl,zm,hz,zN,ite_self]<;>rfl) rfl ?_
           exact .inl ⟨(zH KF),(kIj KG e0),(fun _=>kt1),(ka m16),(ka m17),(by (have e14:more L 14 14=true:=zv);(have e15:more L 14 15=L 15:=za (by decide));(have e16:more L 14 16=L 16:=za (by decide));(have e17:more L 14 17=L 17:=za (by decide));(try simp only [e14,e15,e16,e17,n16,n17,hL,e0]);first | done | rfl | (simp only [e14,e15,e16,e17,n16,n17,hL,e0,if_true,if_false,Bool.false_eq_true];first | done | rfl | (simp (disch:=first|exact zb|fail) only [go_sem,seval,-List.reduceReplicate,e14,e15,e16,e17,n16,n17,hL,e0,hBn,hB4,n0,zl,zm,hz,zN,ite_self]<;>rfl)))⟩
         · have h15:L 15=true:=e0
           (try simp only [h15,n16,n17,hL,if_true,if_false,Bool.false_eq_true])
           refine yh (.ptr (H.n+9) 0) rfl rfl (by simp (disch:=first|exact zb|fail) only [go_sem,seval,-List.reduceReplicate,reduceIte,Bool.false_eq_true,if_false,if_true,h15,n16,n17,hL,hBn,hB4,n0,zl,zm,hz,zN,ite_self]<;>rfl) rfl ?_
           exact .inr ⟨(zH KF),(zK KG),(fun _=>kt (zc h15 zB)),(ka m16),(ka m17),(by (have e14:more L 14 14=true:=zv);(have e15:more L 14 15=L 15:=za (by decide));(have e16:more L 14 16=L 16:=za (by decide));(have e17:more L 14 17=L 17:=za (by decide));(try simp only [e14,e15,e16,e17,h15,n16,n17,hL]);first | done | rfl | (simp only [e14,e15,e16,e17,h15,n16,n17,hL,if_true,if_false,Bool.false_eq_true];first | done | rfl | (simp (disch:=first|exact zb|fail) only [go_sem,seval,-List.reduceReplicate,e14,e15,e16,e17,h15,n16,n17,hL,hBn,hB4,n0,zl,zm,hz,zN,ite_self]<;>rfl)))⟩
       · cases ho
         have n14:=zu m14 hL
         have n16:=zu m16 hL
         have n17:=zu m17 hL
         (try simp only [n14,n16,n17,hL,if_true,if_false,Bool.false_eq_true])
         refine yh (.ptr (H.n+8) 0) rfl rfl (by simp (disch:=first|exact zb|fail) only [go_sem,seval,-List.reduceReplicate,reduceIte,Bool.false_eq_true,if_false,if_true,n14,n16,n17,hL,hBn,hB4,n0,zl,zm,hz,zN,ite_self]<;>rfl) rfl ?_
         exact .inr ⟨(zH KF),(zK KG),(ka m14),(ka m16),(ka m17),(by (have e14:more L 15 14=L 14:=za (by decide));(have e15:more L 15 15=true:=zv);(have e16:more L 15 16=L 16:=za (by decide));(have e17:more L 15 17=L 17:=za (by decide));(try simp only [e14,e15,e16,e17,n14,n16,n17,hL]);first | done | rfl | (simp only [e14,e15,e16,e17,n14,n16,n17,hL,if_true,if_false,Bool.false_eq_true];first | done | rfl | (simp (disch:=first|exact zb|fail) only [go_sem,seval,-List.reduceReplicate,e14,e15,e16,e17,n14,n16,n17,hL,hBn,hB4,n0,zl,zm,hz,zN,ite_self]<;>rfl)))⟩
       · cases ho
         have h0:=kL hall 3 rfl rfl
         have h1:=kL hall 4 rfl rfl
         have h2:=kL hall 5 rfl rfl
         have h3:=kL hall 6 rfl rfl
         have h4:=kL hall 7 rfl rfl
         have h5:=kL hall 8 rfl rfl
         have h6:=kL hall 9 rfl rfl
         have h7:=kL hall 10 rfl rfl
         have h8:=kL hall 11 rfl rfl
         have h9:=kL hall 2 rfl rfl
         have h10:=kL hall 13 rfl rfl
         have h11:=kL hall 1 rfl rfl
         have d11:=zw KG 11 rfl h11
         have h14:=kL hall 0 rfl rfl
         have d14:=zw KG 14 rfl h14
         have h15:=kL hall 18 rfl rfl
         have n17:=zu m17 hL
         refine yd rfl rfl (by simp (disch:=first|exact zb|fail) only [go_sem,seval,-List.reduceReplicate,reduceIte,Bool.false_eq_true,if_false,if_true,d11,d14,h14,h15,n17,hL,hBn,hB4,n0,zl,zm,hz,zN,ite_self]<;>rfl) rfl ?_
         exact .inr ⟨KF,(kIs KG),(ka m14),(fun _=>kt (zc h0 (zc h1 (zc h2 (zc h3 (zc h4 (zc h5 (zc h6 (zc h7 (zc h8 (zc h9 (zc h10 (zc h11 (zc h14 (zc h15 zB))))))))))))))),(ka m17),(by (have e14:more L 16 14=L 14:=za (by decide));(have e15:more L 16 15=L 15:=za (by decide));(have e16:more L 16 16=true:=zv);(have e17:more L 16 17=L 17:=za (by decide));(try simp only [e14,e15,e16,e17,h14,h15,n17,hL]);first | done | rfl | (simp only [e14,e15,e16,e17,h14,h15,n17,hL,if_true,if_false,Bool.false_eq_true];first | done | rfl | (simp (disch:=first|exact zb|fail) only [go_sem,seval,-List.reduceReplicate,e14,e15,e16,e17,h14,h15,n17,hL,hBn,hB4,n0,zl,zm,hz,zN,ite_self]<;>rfl)))⟩
       · cases ho
         have h0:=kL hall 3 rfl rfl
         have h1:=kL hall 4 rfl rfl
         have h2:=kL hall 5 rfl rfl
         have h3:=kL hall 6 rfl rfl
         have h4:=kL hall 7 rfl rfl
         have h5:=kL hall 8 rfl rfl
         have h6:=kL hall 9 rfl rfl
         have h7:=kL hall 10 rfl rfl
         have h8:=kL hall 11 rfl rfl
         have h9:=kL hall 12 rfl rfl
         have h10:=kL hall 13 rfl rfl
         have h11:=kL hall 14 rfl rfl
         have h12:=kL hall 1 rfl rfl
         have d12:=zw KG 12 rfl h12
         have h14:=kL hall 17 rfl rfl
         have h15:=kL hall 0 rfl rfl
         have d15:=zw KG 15 rfl h15
         have h16:=kL hall 2 rfl rfl
         refine yd rfl rfl (by simp (disch:=first|exact zb|fail) only [go_sem,seval,-List.reduceReplicate,reduceIte,Bool.false_eq_true,if_false,if_true,d12,d15,h14,h15,h16,hL,hBn,hB4,n0,zl,zm,hz,zN,ite_self]<;>rfl) rfl ?_
         exact .inr ⟨KF,(kIs KG),(ka m14),(ka m16),(fun _=>kt (zc h0 (zc h1 (zc h2 (zc h3 (zc h4 (zc h5 (zc h6 (zc h7 (zc h8 (zc h9 (zc h10 (zc h11 (zc h12 (zc h14 (zc h15 (zc h16 zB))))))))))))))))),(by (have e14:more L 17 14=L 14:=za (by decide));(have e15:more L 17 15=L 15:=za (by decide));(have e16:more L 17 16=L 16:=za (by decide));(have e17:more L 17 17=true:=zv);(try simp only [e14,e15,e16,e17,h14,h15,h16,hL]);first | done | rfl | (simp only [e14,e15,e16,e17,h14,h15,h16,hL,if_true,if_false,Bool.false_eq_true];first | done | rfl | (simp (disch:=first|exact zb|fail) only [go_sem,seval,-List.reduceReplicate,e14,e15,e16,e17,h14,h15,h16,hL,hBn,hB4,n0,zl,zm,hz,zN,ite_self]<;>rfl)))⟩
       · cases ho
         have h0:=kL hall 2 rfl rfl
         have h1:=kL hall 3 rfl rfl
         have h2:=kL hall 4 rfl rfl
         have h3:=kL hall 5 rfl rfl
         have h4:=kL hall 6 rfl rfl
         have h5:=kL hall 7 rfl rfl
         have h6:=kL hall 8 rfl rfl
         have h7:=kL hall 9 rfl rfl
         have h8:=kL hall 10 rfl rfl
         have h9:=kL hall 11 rfl rfl
         have h10:=kL hall 12 rfl rfl
         have h11:=kL hall 13 rfl rfl
         have h12:=kL hall 14 rfl rfl
         have h13:=kL hall 0 rfl rfl
         have d13:=zw KG 13 rfl h13
         have h14:=kL hall 16 rfl rfl
         have h15:=kL hall 17 rfl rfl
         have h16:=kL hall 18 rfl rfl
         have h17:=kL hall 1 rfl rfl
         refine zf (.p (i64 6)) rfl rfl (by simp (disch:=first|exact zb|fail) only [go_sem,seval,-List.reduceReplicate,reduceIte,Bool.false_eq_true,if_false,if_true,d13,h14,h15,h16,h17,hBn,hB4,n0,zl,zm,hz,zN,ite_self]<;>rfl) rfl ?_
         exact .inr ⟨(zH KF),(zK KG),(ka m14),(ka m16),(ka m17),(by rw [za (by decide),za (by decide),za (by decide),za (by decide)])⟩
       · simp at ho
   · intro L env' H' hall hI
     rcases hI with hI | hI
     (obtain ⟨KF,KG,_,_,_,rfl⟩:=hI;have l14:=hall 14 (by decide);have l15:=hall 15 (by decide);have l16:=hall 16 (by decide);have l17:=hall 17 (by decide);have f0:=zU KF 0 rfl;have f1:=zU KF 1 rfl;have f2:=zU KF 2 rfl;have f3:=zU KF 3 rfl;have f4:=zU KF 4 rfl;have f5:=zU KF 5 rfl;have f6:=zU KF 6 rfl;have f7:=zU KF 7 rfl;have f8:=zU KF 8 rfl;have g18:=zw KG 16 rfl (hall 18 (by decide));simp only [l14,l15,l16,l17,if_true];clear hall);rotate_left
     (obtain ⟨KF,KG,_,_,_,rfl⟩:=hI;have l14:=hall 14 (by decide);have l15:=hall 15 (by decide);have l16:=hall 16 (by decide);have l17:=hall 17 (by decide);have f0:=zU KF 0 rfl;have f1:=zU KF 1 rfl;have f2:=zU KF 2 rfl;have f3:=zU KF 3 rfl;have f4:=zU KF 4 rfl;have f5:=zU KF 5 rfl;have f6:=zU KF 6 rfl;have f7:=zU KF 7 rfl;have f8:=zU KF 8 rfl;have g18:=zw KG 16 rfl (hall 18 (by decide));simp only [l14,l15,l16,l17,if_true];clear hall);rotate_left
     · subst hB
       refine ihE _ _ ?_ ?_
       · simp (disch:=first|exact zb|fail) only [go_sem,seval,-List.reduceReplicate,f0,f1,f2,f3,f4,f5,f6,f7,f8,g18]<;>(repeat' (first | rfl | refine And.intro ?_ ?_))
       · exact .mk [_,_] rfl
     · subst hB
       refine ihE _ _ ?_ ?_
       · simp (disch:=first|exact zb|fail) only [go_sem,seval,-List.reduceReplicate,f0,f1,f2,f3,f4,f5,f6,f7,f8,g18]<;>(repeat' (first | rfl | refine And.intro ?_ ?_))
       · exact .mk [_,_] rfl
 -- R9
 obtain ⟨e2,e3,e4,e7,e8,e9,e12,e13,e15,e18⟩:=E
 (refine .q ?_);refine .text ?_;simp (disch:=first|exact zb|fail) only [go_sem,seval,-List.reduceReplicate,e2,e3,e4,e7,e8,e9,e12,e13,e15,e18]
 refine CallK.of (fun R h=>zce 8 100 _ R h) ?_;simp (disch:=first|exact zb|fail) only [go_sem,seval,-List.reduceReplicate,e2,e3,e4,e7,e8,e9,e12,e13,e15,e18]
 refine CallK.of (fun R h=>yE g (zdM 8 100) (zJ6 ⟨by decide,by decide⟩) p0 (by rw [n0];omega) 1 _ R h) ?_;simp (disch:=first|exact zb|fail) only [go_sem,seval,-List.reduceReplicate,F6,zl,zm,hz]
 (refine .q ?_);refine .text ?_;simp (disch:=first|exact zb|fail) only [go_sem,seval,-List.reduceReplicate,e2,e3,e4,e7,e8,e9,e12,e13,e15,e18]
 refine CallK.of (fun R h=>yE g sA okA p0 (by rw [n0];omega) 100 _ R h) ?_;simp (disch:=first|exact zb|fail) only [go_sem,seval,-List.reduceReplicate,F7,zl,zm,hz,e2,e3,e4,e7,e8,e9,e12,e13,e15,e18]
 (refine .q ?_);refine .text ?_;simp (disch:=first|exact zb|fail) only [go_sem,seval,-List.reduceReplicate,e2,e3,e4,e7,e8,e9,e12,e13,e15,e18]
 refine CallK.of (fun R h=>yE g b1 zON p0 (by rw [n0];omega) 1 _ R h) ?_;simp (disch:=first|exact zb|fail) only [go_sem,seval,-List.reduceReplicate,F8,zl,zm,hz,e2,e3,e4,e7,e8,e9,e12,e13,e15,e18]
 (refine .q ?_);refine .text ?_;simp (disch:=first|exact zb|fail) only [go_sem,seval,-List.reduceReplicate,e2,e3,e4,e7,e8,e9,e12,e13,e15,e18]
 have hRoot:(zI (setAt (AV.p (i64 2) :: AV.p (i64 0) :: AV.p (i64 0) :: AV.p (str ByteArray.empty) :: List.map AV.p (pl b8 (List.replicate 32 0#8)++[PV.sl true 1 [],PV.sl true 2 []])) 4 (cl b8 ((List.replicate 32 0#8).set 0 1#8)))).weak = .p (msg kRoot):=rfl
 rw [hRoot]
 refine CallK.of (fun R h=>zat g b1 zON kRoot zOL _ R h) ?_;simp (disch:=first|exact zb|fail) only [go_sem,seval,-List.reduceReplicate,F9,zl,zm,hz,e2,e3,e4,e7,e8,e9,e12,e13,e15,e18]
 (refine .q ?_);refine .text ?_;simp (disch:=first|exact zb|fail) only [go_sem,seval,-List.reduceReplicate,e2,e3,e4,e7,e8,e9,e12,e13,e15,e18]
 refine CallK.of (fun R h=>yE g a1 zOO p1 (by have:=n1;omega) 1 _ R h) ?_;simp (disch:=first|exact zb|fail) only [go_sem,seval,-List.reduceReplicate,F10,zl,zm,hz,e2,e3,e4,e7,e8,e9,e12,e13,e15,e18]
 (refine .q ?_);refine .text ?_;simp (disch:=first|exact zb|fail) only [go_sem,seval,-List.reduceReplicate,e2,e3,e4,e7,e8,e9,e12,e13,e15,e18,hCoin]
 refine CallK.of (fun R h=>zat g a2 zQk kCoin zps _ R h) ?_;simp (disch:=first|exact zb|fail) only [go_sem,seval,-List.reduceReplicate,F11,zl,zm,hz,e2,e3,e4,e7,e8,e9,e12,e13,e15,e18]
 (refine .q ?_);refine .text ?_;simp (disch:=first|exact zb|fail) only [go_sem,seval,-List.reduceReplicate,e2,e3,e4,e7,e8,e9,e12,e13,e15,e18,hCoin]
 refine CallK.of (fun R h=>zat g a3 zRi kCoin zps _ R h) ?_;simp (disch:=first|exact zb|fail) only [go_sem,seval,-List.reduceReplicate,F12,zl,zm,hz,e2,e3,e4,e7,e8,e9,e12,e13,e15,e18]
 (refine .q ?_);refine .text ?_;simp (disch:=first|exact zb|fail) only [go_sem,seval,-List.reduceReplicate,e2,e3,e4,e7,e8,e9,e12,e13,e15,e18]
 refine CallK.of (fun R h=>yE g { sA with state:=5 } zOM p0 (by rw [n0];omega) 1 _ R h) ?_;simp (disch:=first|exact zb|fail) only [go_sem,seval,-List.reduceReplicate,F13,zl,zm,hz,e2,e3,e4,e7,e8,e9,e12,e13,e15,e18]
 (refine .q ?_);refine .text ?_;simp (disch:=first|exact zb|fail) only [go_sem,seval,-List.reduceReplicate,e2,e3,e4,e7,e8,e9,e12,e13,e15,e18]
 refine CallK.of (fun R h=>zJq (xs:=[]) (ys:=[]) (fl:=false) (sz:=1) (zej g [] (by simp) _ R h)) ?_;simp (disch:=first|exact zb|fail) only [go_sem,seval,-List.reduceReplicate,F14,zl,zm,hz,e2,e3,e4,e7,e8,e9,e12,e13,e15,e18]
 (repeat refine .z rfl ?_)
 refine .openFast follows (by kernel_rfl) ?_
 simp only [List.append_eq,List.cons_append,List.nil_append]
 have x1:((bytesOf M0.text).toList == (bytesOf [99#8,111#8,117#8,110#8,116#8]).toList)=true:=beq_self_eq_true _
 have x2:((bytesOf b2.text).toList == (bytesOf [99#8,111#8,117#8,110#8,116#8]).toList)=true:=beq_self_eq_true _
 have x3:decide (M1.root.val=(List.replicate 32 0#8).set 0 1#8)=true:=decide_eq_true rfl
 have y1:a3.step=3:=rfl
 have y2:a3.state=2:=rfl
 have y3:zM.kind=0:=rfl
 have y4:a3.words=2:=rfl
 have y5:a3.rounds=3:=rfl
 have y6:a3.last=M2:=rfl
 have y7:(zdM 1 1).last=zM:=rfl
 have z0:p0.length≤140737488355000:=by rw [n0];omega
 have z1:p1.length≤140737488355000:=by have:=n1;omega
 have z2:p2.length≤140737488355000:=by rw [n2];omega
 simp (disch:=first|exact zb|fail) only [go_sem,seval,-List.reduceReplicate,e2,e3,e4,e7,e8,e9,e12,e13,e15,e18,n0,n2,x1,x2,x3,y1,y2,y3]
 refine CallD.still (fun R h=>zgy a3 _ R h) ?_;simp (disch:=first|exact zb|fail) only [go_sem,seval,-List.reduceReplicate,e2,e3,e4,e7,e8,e9,e12,e13,e15,e18,zAH,y4,y5]
 refine CallD.still (fun R h=>zgy a3 _ R h) ?_;simp (disch:=first|exact zb|fail) only [go_sem,seval,-List.reduceReplicate,e2,e3,e4,e7,e8,e9,e12,e13,e15,e18,zAH,y4,y5]
 refine CallD.still (fun R h=>zcU g a3 zRj _ R h) ?_;simp (disch:=first|exact zb|fail) only [go_sem,seval,-List.reduceReplicate,e2,e3,e4,e7,e8,e9,e12,e13,e15,e18,y6]
 refine CallD.still (fun R h=>zcP p2 p2 z2 z2 _ R h) ?_;simp (disch:=first|exact zb|fail) only [go_sem,seval,-List.reduceReplicate,e2,e3,e4,e7,e8,e9,e12,e13,e15,e18]
 refine CallD.still (fun R h=>zce 1 1 _ R h) ?_;simp (disch:=first|exact zb|fail) only [go_sem,seval,-List.reduceReplicate,e2,e3,e4,e7,e8,e9,e12,e13,e15,e18]
 refine CallD.still (fun R h=>zcU g (zdM 1 1) zRk _ R h) ?_;simp (disch:=first|exact zb|fail) only [go_sem,seval,-List.reduceReplicate,e2,e3,e4,e7,e8,e9,e12,e13,e15,e18,y7,F15]
 have xL:a3.seen.val.length=32:=a3.seen.len
 have x4:decide (a3.seen.val=pair (pair (pair (List.replicate 32 0#8) (sha p0)) (sha p1)) (sha p2))=true:=decide_eq_true rfl
 refine CallD.still (fun R h=>zcb p0 z0 _ R h) ?_;simp (disch:=first|exact zb|fail) only [go_sem,seval,-List.reduceReplicate,e2,e3,e4,e7,e8,e9,e12,e13,e15,e18]
 refine CallD.still (fun R h=>zdl (List.replicate 32 0#8) (sha p0) hz (zas _) _ R h) ?_;simp (disch:=first|exact zb|fail) only [go_sem,seval,-List.reduceReplicate,e2,e3,e4,e7,e8,e9,e12,e13,e15,e18]
 refine CallD.still (fun R h=>zcb p1 z1 _ R h) ?_;simp (disch:=first|exact zb|fail) only [go_sem,seval,-List.reduceReplicate,e2,e3,e4,e7,e8,e9,e12,e13,e15,e18]
 refine CallD.still (fun R h=>zdl (pair (List.replicate 32 0#8) (sha p0)) (sha p1) zcT (zas _) _ R h) ?_;simp (disch:=first|exact zb|fail) only [go_sem,seval,-List.reduceReplicate,e2,e3,e4,e7,e8,e9,e12,e13,e15,e18]
 refine CallD.still (fun R h=>zcb p2 z2 _ R h) ?_;simp (disch:=first|exact zb|fail) only [go_sem,seval,-List.reduceReplicate,e2,e3,e4,e7,e8,e9,e12,e13,e15,e18]
 refine CallD.still (fun R h=>zdl (pair (pair (List.replicate 32 0#8) (sha p0)) (sha p1)) (sha p2) zcT (zas _) _ R h) ?_;simp (disch:=first|exact zb|fail) only [go_sem,seval,-List.reduceReplicate,e2,e3,e4,e7,e8,e9,e12,e13,e15,e18]
 rw [eqD xL zcT,x4]
 simp (disch:=first|exact zb|fail) only [go_sem,seval,-List.reduceReplicate,e2,e3,e4,e7,e8,e9,e12,e13,e15,e18]
 (refine .q ?_);refine .rt Tryd.func7 (by rw [Tryd.results7]) (hR := ?_);simp (disch:=first|exact zb|fail) only [go_sem,seval,-List.reduceReplicate]
 exact h
end walks
end Go.Proofs.YtmoecjgehdkhkaaDoor
