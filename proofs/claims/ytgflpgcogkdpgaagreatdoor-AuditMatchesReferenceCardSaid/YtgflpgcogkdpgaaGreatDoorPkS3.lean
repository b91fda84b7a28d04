/-
  Audits: a message handed from one side to the other.
-/
import Derived.Test.YtgflpgcogkdpgaaGreatDoorPkS2
import Derived.Lib.ItoaNum
set_option linter.unusedSimpArgs false
set_option linter.unusedVariables false
namespace Go.Proofs.YtgflpgcogkdpgaaGreatDoor
open Go Go.AL

theorem ACall.of_calls2 {P:Program} {G:Globs} {f:FuncId} {a b r:Value} {H:Hp} {R:AV → Hp → Prop} (h : ∀ w,Calls P f #[a,b] w fun e w'=>e = .returned r∧w'=w) (h1:r.oneCell'=true) (hR:R (.p (.s r)) H):ACall P G f [.p (.s a),.p (.s b)] H R:=by
 intro σ w vs hr hv
 obtain⟨hl,hv⟩:=hv
 have e:vs = #[a,b]:=by
  obtain⟨l⟩:=vs
  match l,hl with
  | [x,y],_ =>
   have e0:=zcV (hv 0 _ x rfl rfl)
   have e1:=zcV (hv 1 _ y rfl rfl)
   rw [e0,e1]
 subst e
 refine (h w).mono ?_
 rintro e W ⟨rfl,rfl⟩
 exact⟨_,H,σ,r,hR,rfl,hr,.p (.s _ h1),Ev.refl (Nat.le_refl _)⟩
def erv (c:Int):AV:=if c=0 then .p (.s .nilIface) else .p (.s (.iface 44 (.int .i64 c)))
theorem zAU:erv 0 = .p (.s .nilIface):=rfl
theorem zoc {c:Int} (h:c≠0):erv c = .p (.s (.iface 44 (.int .i64 c))):=if_neg h
theorem zyH {G:Globs} (c d:Int) (hd:d≠0) (H:Hp) (R:AV → Hp → Prop) (h:R (.p (bo (c == d))) H):ACall Tryz.prog G 34 [erv c,erv d] H R:=by
 rw [zoc hd]
 by_cases hc:c=0
 · subst hc
   rw [zAU]
   refine ACall.of_calls2 (fun w=>is_nil d w) rfl ?_
   rwa [show ((0:Int) == d)=false by simpa using fun e=>hd e.symm] at h
 · rw [zoc hc]
   exact ACall.of_calls2 (fun w=>zwS c d w) rfl h
theorem zjp {t:TypeId} {c:Int} {H:Hp}:zky false t (.p (i64 c)) H = .val (.p (.s (.iface t (.int .i64 c)))) H:=rfl
attribute [go_sem] zjp
def zdX (p:Nat → Ses) (k:Nat) (m:Msg):(Nat → Ses) × Int :=
 if (send (p k) m).2.2≠0 then (p,(send (p k) m).2.2) else if (send (p k) m).2.1≠enc m then (p,290)
 else if (recv (p (1 - k)) (send (p k) m).2.1 0).2.2≠0 then (p,(recv (p (1 - k)) (send (p k) m).2.1 0).2.2) else (upd (upd p k (send (p k) m).1) (1 - k) (recv (p (1 - k)) (send (p k) m).2.1 0).1,0)
def xH (H:Hp) (m:Msg) (o:Option AB):Hp:=app H (.cells (yR m) :: o.toList)
section eh
variable {H:Hp} {m:Msg} {o:Option AB} {b:Nat} {x y:AB} {p q:Nat → Ses}
theorem zb6 (hb:H.f b=some x):(xH H m o).f b=some x:=app_f' hb
theorem zb7:(xH H m o).f H.n=some (.cells (yR m)):=by
 rw [xH,zY];exact app_f' (by simp [Hp.f_new])
theorem zap:(xH H m none).n=H.n+1:=rfl
theorem zaq:(xH H m (some x)).n=H.n+2:=rfl
theorem yD:(xH H m none).new x=xH H m (some x):=rfl
theorem zb8:(xH H m (some x)).f (H.n+1)=some x:=by
 simp (disch:=first|exact za|fail) only [xH,Option.toList_some,zY,zaS,go_sem,seval]
theorem zar:(xH H m (some x)).set (H.n+1) y=xH H m (some y):=by
 simp (disch:=first|exact za|fail) only [xH,Option.toList_some,zY,zaS,go_sem,seval]
theorem zah:H.new (.cells (yR m))=xH H m none:=rfl
theorem zCS:xH H m (some x)=(H.new (.cells (yR m))).new x:=rfl
theorem zyI {n:Nat} (h:Bel n H):Bel n (H.set b (.cells (rw2 p))):=zbD h fun y hy=>by
 simp only [AB.vals,rw2,zJ,List.mem_append,List.mem_map] at hy
 rcases hy with ⟨z,_,rfl⟩ | ⟨z,_,rfl⟩<;>exact .p _
def yH (H:Hp) (b:Nat) (p:Nat → Ses) (m:Msg) (S S2:Ses) (M:Msg):Hp:=((((H.set b (.cells (rw2 p))).new (.cells (yR m))).new (.cells (zJ S))).new (.cells (zJ S2))).new (.cells (yR M))
variable {S S2:Ses} {M:Msg}
theorem zCT (h:H.set b (.cells (rw2 p))=H):(((H.new (.cells (yR m))).new (.cells (zJ S))).new (.cells (zJ S2))).new (.cells (yR M))=yH H b p m S S2 M:=by rw [yH,h]
theorem zEh (h:b < H.n):(yH H b p m S S2 M).f b=some (.cells (rw2 p)):=by
 simp (disch:=first|exact za|fail) only [yH,go_sem,seval]
theorem zEi:(yH H b p m S S2 M).f (H.n+1)=some (.cells (zJ S)):=by
 simp (disch:=first|exact za|fail) only [yH,go_sem,seval]
theorem zEj:(yH H b p m S S2 M).f (H.n+2)=some (.cells (zJ S2)):=by
 simp (disch:=first|exact za|fail) only [yH,go_sem,seval]
theorem zAV (h:b < H.n):(yH H b p m S S2 M).set b (.cells (rw2 q))=yH H b q m S S2 M:=by
 simp (disch:=first|exact za|fail) only [yH,go_sem,seval]
theorem zv9 (h:b < H.n):(yH H b p m S S2 M).trunc H.n=H.set b (.cells (rw2 p)):=by
 simp (disch:=first|exact za|fail) only [yH,go_sem,seval]
theorem zAW (h:Bel H.n H) (hb:b < H.n):Bel H.n (yH H b p m S S2 M) :=
 zv (zv (zv (zv (zyI h) (by rw [n_set'];exact Nat.le_refl _)) (by simp only [n_new',n_set'];omega)) (by simp only [n_new',n_set'];omega)) (by simp only [n_new',n_set'];omega)
end eh
attribute [go_sem] zEi zEj zAV zv9
section walks
variable {G:Globs} {r1 r2:Nat} {m1:List (Int × Rule)} {m2:List (Int × Int)}
set_option maxHeartbeats 2000000 in
set_option maxRecDepth 20000 in
theorem zhD (g:GR G r1 r2 m1 m2) (p:Nat → Ses) (k:Nat) (hk:k < 2) (h0:(p k).Ok) (h1:(p (1 - k)).Ok) (m:Msg) (hm:m.Ok) (b:Nat) (H:Hp) (hb:H.f b=some (.cells (rw2 p))) (R:AV → Hp → Prop) (h:R (erv (zdX p k m).2) (H.set b (.cells (rw2 (zdX p k m).1)))) :
 ACall Tryz.prog G 33 [.ptr b 0,.p (i64 k),.p (ym m)] H R:=by
 have hbn:=Hp.lt hb
 have hs0:H.set b (.cells (rw2 p))=H:=Hp.set_same H _ b hb
 have hkl:(k:Int) < 2:=by omega
 obtain⟨k2,hk3,hk4,hk5⟩ : ∃ k2:Nat,k2 < 2∧(1:Int) - (k:Int)=(k2:Int)∧1 - k=k2:=⟨1 - k,by omega,by omega,rfl⟩
 have hk6:k2≠k:=by omega
 rw [hk5] at h1
 unfold zdX at h
 rw [hk5] at h
 have hsend : ∀ o R,R (.tup [.p (y9 (send (p k) m).1),.p (.sl false 1 (pl b8 (send (p k) m).2.1)),.p (i64 (send (p k) m).2.2)]) (xH H m o) → ACall Tryz.prog G 26 [.p (y9 (p k)),.p (ym m)] (xH H m o) R:=fun o R h=>zeR g (p k) h0 m hm _ R h
 have gE:(send (p k) m).2.1.length≤3000:=zg1
 generalize send (p k) m=sd at *
 obtain⟨S,e,c⟩:=sd
 simp only at h hsend gE
 refine ACall.of_run (raw:=[]) Tryz.func33 rfl Tryz.ntmps33 (by simp) fun hbel => ?_
 refine .q ?_;refine .text ?_;simp (disch:=first|exact za|fail) only [go_sem,seval,-List.reduceReplicate,zah]
 (refine .q ?_)
 refine .openInv (fun L env' H'=>kF env' [(0,.ptr b 0),(1,.p (i64 k)),(5,.ptr H.n 0)]∧kI L env' [(0,13,.ptr b 0),(1,14,.p (i64 k)),(2,15,.ptr b 0),(3,16,.ptr b (k*78)),(4,17,.p (y9 (p k))),(5,18,.p (ym m)),(6,19,.tup [.p (y9 S),.p (.sl false 1 (pl b8 e)),.p (i64 c)]),(7,12,.tup [.p (y9 S),.p (.sl false 1 (pl b8 e)),.p (i64 c)]),(8,20,.p (y9 S)),(9,21,.p (.sl false 1 (pl b8 e))),(10,22,.p (i64 c)),(11,7,.ptr (H.n+1) 0),(13,8,.p (.sl false 1 (pl b8 e))),(14,9,.p (i64 c))]∧(L 12=true → allT L [0,1,2,3,4,5,6,7,8,11])∧H'=(xH H m (if L 12 then some (.cells (zJ S)) else if L 11 then some (.cells (nC 0 0)) else none))) follows (by kernel_rfl) ?_ ?_ ?_
 · exact⟨(by simp (disch:=first|exact za|fail) only [go_sem,seval,-List.reduceReplicate,kFi,kFn,and_self,zah,zb6,zb7,zap,zaq,yD,zb8,zar]),(fun _ _ h=>by cases h),(fun h=>by cases h),(by first | rfl | (simp only [Bool.false_eq_true,if_false];first | rfl | (simp (disch:=first|exact za|fail) only [go_sem,seval,-List.reduceReplicate,zah,zb6,zb7,zap,zaq,yD,zb8,zar]<;>rfl)))⟩
 · intro i o L env' H' ho hL hall hI
   obtain⟨KF,KG,m12,rfl⟩:=hI
   rcases i with _ | _ | _ | _ | _ | _ | _ | _ | _ | _ | _ | _ | _ | _ | _ | i
   · cases ho;have f0:=yl KF 0 rfl;refine zg (.ptr b 0) rfl rfl (by simp (disch:=first|exact za|fail) only [go_sem,seval,-List.reduceReplicate,f0,zah,zb6,zb7,zap,zaq,yD,zb8,zar]<;>rfl) rfl ?_;exact⟨zT KF,zU KG,ka m12,(by rw [zb (by decide),zb (by decide)])⟩
   · cases ho;have f1:=yl KF 1 rfl;refine zg (.p (i64 k)) rfl rfl (by simp (disch:=first|exact za|fail) only [go_sem,seval,-List.reduceReplicate,f1,zah,zb6,zb7,zap,zaq,yD,zb8,zar]<;>rfl) rfl ?_;exact⟨zT KF,zU KG,ka m12,(by rw [zb (by decide),zb (by decide)])⟩
   · cases ho;have d0:=zG KG 0 rfl (kL hall 0 rfl rfl);refine zg (.ptr b 0) rfl rfl (by simp (disch:=first|exact za|fail) only [go_sem,seval,-List.reduceReplicate,d0,zah,zb6,zb7,zap,zaq,yD,zb8,zar]<;>rfl) rfl ?_;exact⟨zT KF,zU KG,ka m12,(by rw [zb (by decide),zb (by decide)])⟩
   · cases ho;have d2:=zG KG 2 rfl (kL hall 0 rfl rfl);have d1:=zG KG 1 rfl (kL hall 1 rfl rfl);refine zg (.ptr b (k*78)) rfl rfl (by simp (disch:=first|exact za|fail) only [go_sem,seval,-List.reduceReplicate,d1,d2,zah,zb6,zb7,zap,zaq,yD,zb8,zar]<;>rfl) rfl ?_;exact⟨zT KF,zU KG,ka m12,(by rw [zb (by decide),zb (by decide)])⟩
   · cases ho;have d3:=zG KG 3 rfl (kL hall 0 rfl rfl);have n12:=y8 m12 hL;refine zg (.p (y9 (p k))) rfl rfl (by simp (disch:=first|exact za|fail) only [go_sem,seval,-List.reduceReplicate,reduceIte,Bool.false_eq_true,if_false,if_true,d3,n12,hL,zah,zb6,zb7,zap,zaq,yD,zb8,zar]<;>rfl) rfl ?_;exact⟨zT KF,zU KG,ka m12,(by rw [zb (by decide),zb (by decide)])⟩
   · cases ho;have n12:=y8 m12 hL;have f2:=yl KF 2 rfl;refine zg (.p (ym m)) rfl rfl (by simp (disch:=first|exact za|fail) only [go_sem,seval,-List.reduceReplicate,reduceIte,Bool.false_eq_true,if_false,if_true,f2,n12,hL,zah,zb6,zb7,zap,zaq,yD,zb8,zar]<;>rfl) rfl ?_;exact⟨zT KF,zU KG,ka m12,(by rw [zb (by decide),zb (by decide)])⟩
   · cases ho;have d4:=zG KG 4 rfl (kL hall 0 rfl rfl);have d5:=zG KG 5 rfl (kL hall 1 rfl rfl);have n12:=y8 m12 hL;(try simp only [n12,if_true,if_false,Bool.false_eq_true]);refine yT rfl rfl (by simp (disch:=first|exact za|fail) only [go_sem,seval,-List.reduceReplicate,reduceIte,Bool.false_eq_true,if_false,if_true,d4,d5,n12,hL,zah,zb6,zb7,zap,zaq,yD,zb8,zar]<;>rfl) rfl (by simp (disch:=first|exact za|fail) only [go_sem,seval,-List.reduceReplicate,reduceIte,Bool.false_eq_true,if_false,if_true,d4,d5,n12,hL,zah,zb6,zb7,zap,zaq,yD,zb8,zar]<;>rfl) (fun R h=>hsend _ R h) ?_;exact⟨zT KF,zU KG,ka m12,(by (have e11:more L 6 11=L 11:=zb (by decide));(have e12:more L 6 12=L 12:=zb (by decide));(try simp only [e11,e12,n12]);first | done | rfl | (simp only [e11,e12,n12,if_true,if_false,Bool.false_eq_true];first | done | rfl | (simp (disch:=first|exact za|fail) only [go_sem,seval,-List.reduceReplicate,e11,e12,n12,zah,zb6,zb7,zap,zaq,yD,zb8,zar]<;>rfl)))⟩
   · cases ho;have d6:=zG KG 6 rfl (kL hall 0 rfl rfl);refine zg (.tup [.p (y9 S),.p (.sl false 1 (pl b8 e)),.p (i64 c)]) rfl rfl (by simp (disch:=first|exact za|fail) only [go_sem,seval,-List.reduceReplicate,d6,zah,zb6,zb7,zap,zaq,yD,zb8,zar]<;>rfl) rfl ?_;exact⟨zT KF,zU KG,ka m12,(by rw [zb (by decide),zb (by decide)])⟩
   · cases ho;have d7:=zG KG 7 rfl (kL hall 0 rfl rfl);refine zg (.p (y9 S)) rfl rfl (by simp (disch:=first|exact za|fail) only [go_sem,seval,-List.reduceReplicate,d7,zah,zb6,zb7,zap,zaq,yD,zb8,zar]<;>rfl) rfl ?_;exact⟨zT KF,zU KG,ka m12,(by rw [zb (by decide),zb (by decide)])⟩
   · cases ho;have d7:=zG KG 7 rfl (kL hall 0 rfl rfl);refine zg (.p (.sl false 1 (pl b8 e))) rfl rfl (by simp (disch:=first|exact za|fail) only [go_sem,seval,-List.reduceReplicate,d7,zah,zb6,zb7,zap,zaq,yD,zb8,zar]<;>rfl) rfl ?_;exact⟨zT KF,zU KG,ka m12,(by rw [zb (by decide),zb (by decide)])⟩
   · cases ho;have d7:=zG KG 7 rfl (kL hall 0 rfl rfl);refine zg (.p (i64 c)) rfl rfl (by simp (disch:=first|exact za|fail) only [go_sem,seval,-List.reduceReplicate,d7,zah,zb6,zb7,zap,zaq,yD,zb8,zar]<;>rfl) rfl ?_;exact⟨zT KF,zU KG,ka m12,(by rw [zb (by decide),zb (by decide)])⟩
   · cases ho;have n12:=y8 m12 hL;(try simp only [n12,hL,if_true,if_false,Bool.false_eq_true]);refine za8 (.ptr (H.n+1) 0) rfl rfl (by simp (disch:=first|exact za|fail) only [go_sem,seval,-List.reduceReplicate,reduceIte,Bool.false_eq_true,if_false,if_true,n12,hL,zah,zb6,zb7,zap,zaq,yD,zb8,zar]<;>rfl) rfl ?_;exact⟨zT KF,zU KG,ka m12,(by (have e11:more L 11 11=true:=zF);(have e12:more L 11 12=L 12:=zb (by decide));(try simp only [e11,e12,n12,hL]);first | done | rfl | (simp only [e11,e12,n12,hL,if_true,if_false,Bool.false_eq_true];first | done | rfl | (simp (disch:=first|exact za|fail) only [go_sem,seval,-List.reduceReplicate,e11,e12,n12,hL,zah,zb6,zb7,zap,zaq,yD,zb8,zar]<;>rfl)))⟩
   · cases ho;have h11:=kL hall 0 rfl rfl;have d11:=zG KG 11 rfl h11;have h8:=kL hall 1 rfl rfl;have d8:=zG KG 8 rfl h8;have h6:=kL hall 2 rfl rfl;have h0:=kL hall 3 rfl rfl;have h1:=kL hall 4 rfl rfl;have h2:=kL hall 5 rfl rfl;have h3:=kL hall 6 rfl rfl;have h4:=kL hall 7 rfl rfl;have h5:=kL hall 8 rfl rfl;have h7:=kL hall 10 rfl rfl;refine yz rfl rfl (by simp (disch:=first|exact za|fail) only [go_sem,seval,-List.reduceReplicate,reduceIte,Bool.false_eq_true,if_false,if_true,d8,d11,h11,hL,zah,zb6,zb7,zap,zaq,yD,zb8,zar]<;>rfl) rfl ?_;exact⟨KF,kIs KG,(fun _=>kt (ze h0 (ze h1 (ze h2 (ze h3 (ze h4 (ze h5 (ze h6 (ze h7 (ze h8 (ze h11 zz))))))))))),(by (have e11:more L 12 11=L 11:=zb (by decide));(have e12:more L 12 12=true:=zF);(try simp only [e11,e12,h11,hL]);first | done | rfl | (simp only [e11,e12,h11,hL,if_true,if_false,Bool.false_eq_true];first | done | rfl | (simp (disch:=first|exact za|fail) only [go_sem,seval,-List.reduceReplicate,e11,e12,h11,hL,zah,zb6,zb7,zap,zaq,yD,zb8,zar]<;>rfl)))⟩
   · cases ho;have d9:=zG KG 9 rfl (kL hall 0 rfl rfl);refine zg (.p (.sl false 1 (pl b8 e))) rfl rfl (by simp (disch:=first|exact za|fail) only [go_sem,seval,-List.reduceReplicate,d9,zah,zb6,zb7,zap,zaq,yD,zb8,zar]<;>rfl) rfl ?_;exact⟨zT KF,zU KG,ka m12,(by rw [zb (by decide),zb (by decide)])⟩
   · cases ho;have d10:=zG KG 10 rfl (kL hall 0 rfl rfl);refine zg (.p (i64 c)) rfl rfl (by simp (disch:=first|exact za|fail) only [go_sem,seval,-List.reduceReplicate,d10,zah,zb6,zb7,zap,zaq,yD,zb8,zar]<;>rfl) rfl ?_;exact⟨zT KF,zU KG,ka m12,(by rw [zb (by decide),zb (by decide)])⟩
   · simp at ho
 · intro L env' H' hall hI
   obtain⟨KF,KG,_,rfl⟩:=hI
   have l11:=hall 11 (by decide)
   have l12:=hall 12 (by decide)
   have f0:=yl KF 0 rfl
   have f1:=yl KF 1 rfl
   have f2:=yl KF 2 rfl
   have g11:=zG KG 11 rfl (hall 11 (by decide))
   have g13:=zG KG 12 rfl (hall 13 (by decide))
   have g14:=zG KG 13 rfl (hall 14 (by decide))
   simp only [l11,l12,if_true]
   clear hall
   rw [zCS]
   refine .q ?_;refine .text ?_;simp (disch:=first|exact za|fail) only [go_sem,seval,-List.reduceReplicate,g14]
   by_cases c1:c=0
   · subst c1
     rw [if_neg (by simp)] at h
     refine .q ?_;refine .ifF (by simp (disch:=first|exact za|fail) only [go_sem,seval,-List.reduceReplicate]) ?_
     refine .skip ?_
     refine .q ?_;refine .text ?_;simp (disch:=first|exact za|fail) only [go_sem,seval,-List.reduceReplicate,f2,g13]
     refine CallK.of (fun R h=>zc9 g m hm _ R h) ?_;simp (disch:=first|exact za|fail) only [go_sem,seval,-List.reduceReplicate]
     refine CallK.of (fun R h=>zgO e (enc m) _ R h) ?_;simp (disch:=first|exact za|fail) only [go_sem,seval,-List.reduceReplicate]
     by_cases c2:e=enc m
     · rw [if_neg (by simp [c2])] at h
       have d2:decide (e=enc m)=true:=decide_eq_true c2
       refine .q ?_;refine .ifF (by simp (disch:=first|exact za|fail) only [go_sem,seval,-List.reduceReplicate,d2]) ?_
       refine .skip ?_
       rw [←c2]
       have hrc : ∀ H',∀ R,R (.tup [.p (y9 (recv (p k2) e 0).1),.p (ym (recv (p k2) e 0).2.1),.p (i64 (recv (p k2) e 0).2.2)]) H' → ACall Tryz.prog G 27 [.p (y9 (p k2)),.p (.sl false 1 (pl b8 e)),.p (i64 0)] H' R:=fun H' R h=>zcB g (p k2) h1 e (by omega) 0 H' R h
       generalize recv (p k2) e 0=rc at *
       obtain⟨S2,M2,c3⟩:=rc
       simp only at h hrc
       refine .q ?_;refine .text ?_;simp (disch:=first|exact za|fail) only [go_sem,seval,-List.reduceReplicate,f0,f1,g13,hk4,hb]

       refine CallK.of (fun R h=>hrc _ R h) ?_;simp (disch:=first|exact za|fail) only [go_sem,seval,-List.reduceReplicate]
       refine .q ?_;refine .text ?_;simp (disch:=first|exact za|fail) only [go_sem,seval,-List.reduceReplicate]
       by_cases c4:c3=0
       · subst c4
         rw [if_neg (by simp)] at h
         refine .q ?_;refine .ifF (by simp (disch:=first|exact za|fail) only [go_sem,seval,-List.reduceReplicate]) ?_
         refine .skip ?_
         rw [zCT hs0]
         have hyb : ∀ q,(yH H b q m S S2 M2).f b=some (.cells (rw2 q)):=fun q=>zEh hbn
         have hbel:=fun q=>zAW (p:=q) (m:=m) (S:=S) (S2:=S2) (M:=M2) hbel hbn
         (refine .q ?_)
         refine .openInv (fun L env' H'=>kF env' [(0,.ptr b 0),(1,.p (i64 k)),(7,.ptr (H.n+1) 0),(10,.ptr (H.n+2) 0)]∧kI L env' [(0,49,.ptr b 0),(1,50,.p (i64 k)),(2,51,.ptr b 0),(3,52,.p (i64 k)),(4,53,.p (i64 k2)),(5,54,.p (y9 S)),(6,55,.p (y9 S2)),(7,56,.ptr b 0),(8,57,.ptr b (k*78)),(10,58,.ptr b 0),(11,59,.ptr b (k2*78))]∧(L 9=true → allT L [0,1,5,8])∧(L 12=true → allT L [0,1,2,3,4,5,6,7,8,9,11])∧H'=(yH H b (if L 12 then upd (upd p k S) k2 S2 else if L 9 then upd p k S else p) m S S2 M2)) follows (by kernel_rfl) ?_ ?_ ?_
         · exact⟨(by simp (disch:=first|exact za|fail) only [go_sem,seval,-List.reduceReplicate,kFi,kFn,and_self,f0,f1,g11,hk4,hyb]),(fun _ _ h=>by cases h),(fun h=>by cases h),(fun h=>by cases h),(by first | rfl | (simp only [Bool.false_eq_true,if_false];first | rfl | (simp (disch:=first|exact za|fail) only [go_sem,seval,-List.reduceReplicate,f0,f1,g11,hk4,hyb]<;>rfl)))⟩
         · intro i o L env' H' ho hL hall hI
           obtain⟨KF,KG,m9,m12,rfl⟩:=hI
           rcases i with _ | _ | _ | _ | _ | _ | _ | _ | _ | _ | _ | _ | _ | i
           · cases ho;have f0:=yl KF 0 rfl;refine zg (.ptr b 0) rfl rfl (by simp (disch:=first|exact za|fail) only [go_sem,seval,-List.reduceReplicate,f0,f0,f1,g11,hk4,hyb]<;>rfl) rfl ?_;exact⟨zT KF,zU KG,ka m9,ka m12,(by rw [zb (by decide),zb (by decide)])⟩
           · cases ho;have f1:=yl KF 1 rfl;refine zg (.p (i64 k)) rfl rfl (by simp (disch:=first|exact za|fail) only [go_sem,seval,-List.reduceReplicate,f1,f0,f1,g11,hk4,hyb]<;>rfl) rfl ?_;exact⟨zT KF,zU KG,ka m9,ka m12,(by rw [zb (by decide),zb (by decide)])⟩
           · cases ho;have f0:=yl KF 0 rfl;refine zg (.ptr b 0) rfl rfl (by simp (disch:=first|exact za|fail) only [go_sem,seval,-List.reduceReplicate,f0,f0,f1,g11,hk4,hyb]<;>rfl) rfl ?_;exact⟨zT KF,zU KG,ka m9,ka m12,(by rw [zb (by decide),zb (by decide)])⟩
           · cases ho;have f1:=yl KF 1 rfl;refine zg (.p (i64 k)) rfl rfl (by simp (disch:=first|exact za|fail) only [go_sem,seval,-List.reduceReplicate,f1,f0,f1,g11,hk4,hyb]<;>rfl) rfl ?_;exact⟨zT KF,zU KG,ka m9,ka m12,(by rw [zb (by decide),zb (by decide)])⟩
           · cases ho;have d3:=zG KG 3 rfl (kL hall 0 rfl rfl);refine zg (.p (i64 k2)) rfl rfl (by simp (disch:=first|exact za|fail) only [go_sem,seval,-List.reduceReplicate,d3,f0,f1,g11,hk4,hyb]<;>rfl) rfl ?_;exact⟨zT KF,zU KG,ka m9,ka m12,(by rw [zb (by decide),zb (by decide)])⟩
           · cases ho;have n9:=y8 m9 hL;have n12:=y8 m12 hL;have f2:=yl KF 2 rfl;refine zg (.p (y9 S)) rfl rfl (by simp (disch:=first|exact za|fail) only [go_sem,seval,-List.reduceReplicate,reduceIte,Bool.false_eq_true,if_false,if_true,f2,n9,n12,hL,f0,f1,g11,hk4,hyb]<;>rfl) rfl ?_;exact⟨zT KF,zU KG,ka m9,ka m12,(by rw [zb (by decide),zb (by decide)])⟩
           · cases ho;have n12:=y8 m12 hL;have f3:=yl KF 3 rfl;refine zg (.p (y9 S2)) rfl rfl (by simp (disch:=first|exact za|fail) only [go_sem,seval,-List.reduceReplicate,reduceIte,Bool.false_eq_true,if_false,if_true,f3,n12,hL,f0,f1,g11,hk4,hyb]<;>rfl) rfl ?_;exact⟨zT KF,zU KG,ka m9,ka m12,(by rw [zb (by decide),zb (by decide)])⟩
           · cases ho;have d0:=zG KG 0 rfl (kL hall 0 rfl rfl);refine zg (.ptr b 0) rfl rfl (by simp (disch:=first|exact za|fail) only [go_sem,seval,-List.reduceReplicate,d0,f0,f1,g11,hk4,hyb]<;>rfl) rfl ?_;exact⟨zT KF,zU KG,ka m9,ka m12,(by rw [zb (by decide),zb (by decide)])⟩
           · cases ho;have d7:=zG KG 7 rfl (kL hall 0 rfl rfl);have d1:=zG KG 1 rfl (kL hall 1 rfl rfl);refine zg (.ptr b (k*78)) rfl rfl (by simp (disch:=first|exact za|fail) only [go_sem,seval,-List.reduceReplicate,d1,d7,f0,f1,g11,hk4,hyb]<;>rfl) rfl ?_;exact⟨zT KF,zU KG,ka m9,ka m12,(by rw [zb (by decide),zb (by decide)])⟩
           · cases ho;have h8:=kL hall 0 rfl rfl;have d8:=zG KG 8 rfl h8;have h5:=kL hall 1 rfl rfl;have d5:=zG KG 5 rfl h5;have h0:=kL hall 2 rfl rfl;have h1:=kL hall 3 rfl rfl;have n12:=y8 m12 hL;refine yz rfl rfl (by simp (disch:=first|exact za|fail) only [go_sem,seval,-List.reduceReplicate,reduceIte,Bool.false_eq_true,if_false,if_true,d5,d8,n12,hL,f0,f1,g11,hk4,hyb]<;>rfl) rfl ?_;exact⟨KF,kIs KG,(fun _=>kt (ze h0 (ze h1 (ze h5 (ze h8 zz))))),ka m12,(by (have e9:more L 9 9=true:=zF);(have e12:more L 9 12=L 12:=zb (by decide));(try simp only [e9,e12,n12,hL]);first | done | rfl | (simp only [e9,e12,n12,hL,if_true,if_false,Bool.false_eq_true];first | done | rfl | (simp (disch:=first|exact za|fail) only [go_sem,seval,-List.reduceReplicate,e9,e12,n12,hL,f0,f1,g11,hk4,hyb]<;>rfl)))⟩
           · cases ho;have d2:=zG KG 2 rfl (kL hall 0 rfl rfl);refine zg (.ptr b 0) rfl rfl (by simp (disch:=first|exact za|fail) only [go_sem,seval,-List.reduceReplicate,d2,f0,f1,g11,hk4,hyb]<;>rfl) rfl ?_;exact⟨zT KF,zU KG,ka m9,ka m12,(by rw [zb (by decide),zb (by decide)])⟩
           · cases ho;have d10:=zG KG 9 rfl (kL hall 0 rfl rfl);have d4:=zG KG 4 rfl (kL hall 1 rfl rfl);refine zg (.ptr b (k2*78)) rfl rfl (by simp (disch:=first|exact za|fail) only [go_sem,seval,-List.reduceReplicate,d4,d10,f0,f1,g11,hk4,hyb]<;>rfl) rfl ?_;exact⟨zT KF,zU KG,ka m9,ka m12,(by rw [zb (by decide),zb (by decide)])⟩
           · cases ho;have h11:=kL hall 0 rfl rfl;have d11:=zG KG 10 rfl h11;have h6:=kL hall 1 rfl rfl;have d6:=zG KG 6 rfl h6;have h9:=kL hall 2 rfl rfl;have h0:=kL hall 3 rfl rfl;have h1:=kL hall 4 rfl rfl;have h2:=kL hall 5 rfl rfl;have h3:=kL hall 6 rfl rfl;have h4:=kL hall 7 rfl rfl;have h5:=kL hall 8 rfl rfl;have h7:=kL hall 10 rfl rfl;have h8:=kL hall 11 rfl rfl;refine yz rfl rfl (by simp (disch:=first|exact za|fail) only [go_sem,seval,-List.reduceReplicate,reduceIte,Bool.false_eq_true,if_false,if_true,d6,d11,h9,hL,f0,f1,g11,hk4,hyb]<;>rfl) rfl ?_;exact⟨KF,kIs KG,ka m9,(fun _=>kt (ze h0 (ze h1 (ze h2 (ze h3 (ze h4 (ze h5 (ze h6 (ze h7 (ze h8 (ze h9 (ze h11 zz)))))))))))),(by (have e9:more L 12 9=L 9:=zb (by decide));(have e12:more L 12 12=true:=zF);(try simp only [e9,e12,h9,hL]);first | done | rfl | (simp only [e9,e12,h9,hL,if_true,if_false,Bool.false_eq_true];first | done | rfl | (simp (disch:=first|exact za|fail) only [go_sem,seval,-List.reduceReplicate,e9,e12,h9,hL,f0,f1,g11,hk4,hyb]<;>rfl)))⟩
           · simp at ho
         · intro L env' H' hall hI
           obtain⟨KF,KG,_,_,rfl⟩:=hI
           have l9:=hall 9 (by decide)
           have l12:=hall 12 (by decide)
           have f0:=yl KF 0 rfl
           have f1:=yl KF 1 rfl
           have f2:=yl KF 2 rfl
           have f3:=yl KF 3 rfl
           simp only [l9,l12,if_true]
           clear hall
           refine .q ?_;refine .text ?_;simp (disch:=first|exact za|fail) only [go_sem,seval,-List.reduceReplicate]
           refine .q ?_;refine .rt Tryz.func33 (by rw [Tryz.results33]) (hR := ?_);simp (disch:=first|exact za|fail) only [go_sem,seval,-List.reduceReplicate]
           rw [zAU] at h
           exact h
       · rw [if_pos c4] at h
         have d4:(c3 != 0)=true:=by simpa using c4
         refine .q ?_;refine .ifT (by simp (disch:=first|exact za|fail) only [go_sem,seval,-List.reduceReplicate,d4]) ?_
         refine .q ?_;refine .text ?_;simp (disch:=first|exact za|fail) only [go_sem,seval,-List.reduceReplicate]
         refine .q ?_;refine .rt Tryz.func33 (by rw [Tryz.results33]) (hR := ?_);simp (disch:=first|exact za|fail) only [go_sem,seval,-List.reduceReplicate]
         rw [hs0,zoc c4] at h
         exact h
     · rw [if_pos c2] at h
       have d2:decide (e=enc m)=false:=decide_eq_false c2
       refine .q ?_;refine .ifT (by simp (disch:=first|exact za|fail) only [go_sem,seval,-List.reduceReplicate,d2]) ?_
       refine .q ?_;refine .text ?_;simp (disch:=first|exact za|fail) only [go_sem,seval,-List.reduceReplicate]
       refine .q ?_;refine .rt Tryz.func33 (by rw [Tryz.results33]) (hR := ?_);simp (disch:=first|exact za|fail) only [go_sem,seval,-List.reduceReplicate]
       rw [hs0,zoc (show (290:Int)≠0 by decide)] at h
       exact h
   · rw [if_pos c1] at h
     have d1:(c != 0)=true:=by simpa using c1
     refine .q ?_;refine .ifT (by simp (disch:=first|exact za|fail) only [go_sem,seval,-List.reduceReplicate,d1]) ?_
     refine .q ?_;refine .text ?_;simp (disch:=first|exact za|fail) only [go_sem,seval,-List.reduceReplicate,g14]
     refine .q ?_;refine .rt Tryz.func33 (by rw [Tryz.results33]) (hR := ?_);simp (disch:=first|exact za|fail) only [go_sem,seval,-List.reduceReplicate]
     rw [hs0,zoc c1] at h
     exact h
end walks
end Go.Proofs.YtgflpgcogkdpgaaGreatDoor

/-
  Audits: a recorded session.
-/
namespace Go.Proofs.YtgflpgcogkdpgaaGreatDoor
open Go Go.AL

instance:Inhabited Msg:=⟨zM⟩
def zdY (f:Nat → Int):Nat → Int
 | 0=>0
 | n+1=>if zdY f n≠0 then zdY f n else f n
theorem zdg {f:Nat → Int} {i:Nat} (h:zdY f i=0) (hf:f i≠0) : ∀ n,i < n → zdY f n=f i
 | 0,hn=>by omega
 | n+1,hn=>by
  rcases Nat.lt_or_ge i n with h2 | h2
  · have:=zdg h hf n h2
    rw [zdY,this,if_pos hf]
  · obtain rfl:i=n:=by omega
    rw [zdY,h,if_neg (by simp)]
theorem zck {f:Nat → Int} {i:Nat} (h:zdY f i=0) (hf:f i=0):zdY f (i+1)=0:=by
 rw [zdY,h,if_neg (by simp),hf]
def sd (p0:Nat → Ses) (l:List Msg):Nat → Nat → Ses
 | 0=>p0
 | i+1=>(zdX (sd p0 l i) (i % 2) (nth l i)).1
def er (p0:Nat → Ses) (l:List Msg) (i:Nat):Int:=(zdX (sd p0 l i) (i % 2) (nth l i)).2
def zam (id:Int):Nat → Ses:=fun _=>zeQ id 2147483647
def aud (l:List Msg):Int:=if l.length=0 then 0 else if (nth l 0).session < 0 ∨ 2147483647 < (nth l 0).session then 1 else zdY (er (zam (nth l 0).session) l) l.length
theorem Good.new' {id dd:Int} (h:okI id):Good dd 0 (zeQ id dd):=by
 obtain⟨_,h2,h3,h4,h5,h6,h7,h8⟩:=Good.new (dd:=dd)
 exact⟨h,h2,h3,h4,h5,h6,h7,h8⟩
theorem zrV {dd:Int} {i j:Nat} {p:Nat → Ses} {m:Msg} (h : ∀ k,k < 2 → Good dd i (p k)) (hi:i≤1000) (hj:j < 2) (hm:m.Ok) : ∀ k,k < 2 → Good dd (i+1) ((zdX p j m).1 k):=by
 have g1:=(h j hj).send hi hm
 have g2:=(h (1 - j) (by omega)).recv (zg1 (s:=p j) (m:=m)) 0
 have g0 : ∀ k,k < 2 → Good dd (i+1) (p k):=fun k hk=>(h k hk).mono (by omega)
 unfold zdX
 split
 · exact g0
 · split
   · exact g0
   · split
     · exact g0
     · exact zlH (zlH h (by omega) g1) (Nat.le_refl _) g2
theorem zjq {dd:Int} {p0:Nat → Ses} {l:List Msg} (h : ∀ k,k < 2 → Good dd 0 (p0 k)) (hl:l.length≤1000) (hm : ∀ i,i < l.length → (nth l i).Ok) : ∀ i,i≤l.length → ∀ k,k < 2 → Good dd i (sd p0 l i k)
 | 0,_=>h
 | i+1,hi=>zrV (zjq h hl hm i (by omega)) (by omega) (Nat.mod_lt _ (by decide)) (hm i (by omega))
theorem zlI {c:Int}:zdq Tryz.prog 44 true (erv c)=some (.tup [.p (i64 c),.p (bo (c != 0))]):=by
 have h1:zmm Tryz.prog 44=true:=by kernel_rfl
 have h2:zb1 Tryz.prog 44=some (.p (i64 0)):=by kernel_rfl
 unfold zdq
 rw [h1]
 by_cases hc:c=0
 · subst hc
   rw [zAU]
   simp only [Bool.and_self,if_true,h2,Option.map_some]
   rfl
 · rw [zoc hc]
   simp only [Bool.and_self,if_true]
   rw [show (c != 0)=true by simpa using hc]
   rfl
theorem Is_spec' {G:Globs} (c d:Int) (hd:d≠0) (H:Hp) (R:AV → Hp → Prop) (h:R (.p (bo (c == d))) H):ACall Tryz.prog G 34 [erv c,.p (.s (.iface 44 (.int .i64 d)))] H R:=by
 have:=zyH (G:=G) c d hd H R h
 rwa [zoc hd] at this
def z2:List AV:=AV.p (i64 0) :: AV.p (i64 0) :: AV.p (i64 0) :: AV.p (str ByteArray.empty) :: List.map AV.p (pl b8 (List.replicate 32 0#8)++[i64 0,i64 0,i64 0,str ByteArray.empty]++pl b8 (List.replicate 32 0#8)++[PV.sl true 1 [],PV.sl true 2 []]++pl i64 (List.replicate 7 0)++[str ByteArray.empty]++pl b8 (List.replicate 32 0#8)++[i64 0,i64 0,i64 0,str ByteArray.empty]++pl b8 (List.replicate 32 0#8)++[PV.sl true 1 [],PV.sl true 2 [],i64 0,i64 0,i64 0,i64 0])
theorem zCU:AV.p (i64 0) :: AV.p (i64 0) :: AV.p (i64 0) :: AV.p (str ByteArray.empty) :: List.map AV.p (pl b8 (List.replicate 32 0#8)++[i64 0,i64 0,i64 0,str ByteArray.empty]++pl b8 (List.replicate 32 0#8)++[PV.sl true 1 [],PV.sl true 2 []]++pl i64 (List.replicate 7 0)++[str ByteArray.empty]++pl b8 (List.replicate 32 0#8)++[i64 0,i64 0,i64 0,str ByteArray.empty]++pl b8 (List.replicate 32 0#8)++[PV.sl true 1 [],PV.sl true 2 [],i64 0,i64 0,i64 0,i64 0])=z2:=rfl
theorem zeT:z2.length=156:=by simp [z2,pl]
def zCV (p:Nat → Ses):PV := .agg (zen (p 0)++zen (p 1))
theorem zoe {p:Nat → Ses}:zi (.p (zCV p))=some (rw2 p):=by
 show some ((zen (p 0)++zen (p 1)).map AV.p)=_;rw [List.map_append];rfl
theorem zyJ {p:Nat → Ses}:zq (rw2 p) = .p (zCV p):=by
 rw [show rw2 p=(zen (p 0)++zen (p 1)).map AV.p by rw [List.map_append];rfl,zq,zdF];rfl
theorem zyK {s:Ses}:(setAt z2 0 (zJ s)).length=156:=by
 rw [yd _ _ _ (by rw [zeT,zV];omega)];simp [zV,zeT]
theorem zAX {s:Ses}:setAt (setAt z2 0 (zJ s)) 78 (zJ s)=rw2 fun _=>s:=by
 have e:setAt z2 0 (zJ s)=zJ s++z2.drop 78:=by
  rw [yd _ _ _ (by rw [zeT,zV];omega),zV];rfl
 rw [e,yd _ _ _ (by rw [List.length_append,zV,List.length_drop,zeT];omega),zV,List.take_left' zV,List.drop_of_length_le (by rw [List.length_append,zV,List.length_drop,zeT];omega),List.append_nil]
 rfl
attribute [go_sem] zCU zeT zyK zAX zoe zyJ
theorem zAY {m:Msg}:(ym m).cells[1]? = some (i64 m.session):=rfl
theorem zdZ {m:Msg}:(ym m).cells=zdA m:=rfl
theorem zwa {m:Msg}:(ym m).cells.length=38:=zep
theorem zrW {m:Msg}:(ym m).aggOf 0 38=ym m:=by
 rw [PV.aggOf_eq,zdZ,List.drop_zero,List.take_of_length_le (by rw [zep];exact Nat.le_refl _)];rfl
theorem zwb {c:Int}:(erv c).weak=erv c:=by unfold erv;split<;>rfl
theorem zof {t:TypeId} {v:Value}:(AV.p (.s (.iface t v))).weak = .p (.s (.iface t v)):=rfl
attribute [go_sem] zwb zof zAY zwa zrW
section walks
variable {G:Globs} {r1 r2:Nat} {m1:List (Int × Rule)} {m2:List (Int × Int)}
set_option maxHeartbeats 2000000 in
set_option maxRecDepth 20000 in
theorem yh (g:GR G r1 r2 m1 m2) (l:List Msg) (hl:l.length≤1000) (hm : ∀ i,i < l.length → (nth l i).Ok) (H:Hp) (R:AV → Hp → Prop) (h:R (.p (i64 (aud l))) H) :
 ACall Tryz.prog G 11 [.p (.sl false 38 (pl ym l))] H R:=by
 unfold aud at h
 refine ACall.of_run (raw:=[]) Tryz.func11 rfl Tryz.ntmps11 (by simp) fun hbel => ?_
 refine .q ?_;refine .text ?_;simp (disch:=first|exact za|fail) only [go_sem,seval,-List.reduceReplicate]
 refine .q ?_;refine .text ?_;simp (disch:=first|exact za|fail) only [go_sem,seval,-List.reduceReplicate]
 by_cases h0:l.length=0
 · rw [if_pos h0] at h
   have d0:((l.length:Int) == 0)=true:=by rw [h0];rfl
   refine .q ?_;refine .ifT (by simp (disch:=first|exact za|fail) only [go_sem,seval,-List.reduceReplicate,d0]) ?_
   refine .q ?_;refine .text ?_;simp (disch:=first|exact za|fail) only [go_sem,seval,-List.reduceReplicate]
   refine .q ?_;refine .rt Tryz.func11 (by rw [Tryz.results11]) (hR := ?_);simp (disch:=first|exact za|fail) only [go_sem,seval,-List.reduceReplicate]
   exact h
 · rw [if_neg h0] at h
   have d0:((l.length:Int) == 0)=false:=beq_eq_false_iff_ne.2 (by omega)
   have hl0:0 < l.length:=by omega
   have hid:=(hm 0 hl0).session
   refine .q ?_;refine .ifF (by simp (disch:=first|exact za|fail) only [go_sem,seval,-List.reduceReplicate,d0]) ?_
   refine .skip ?_
   refine .q ?_;refine .text ?_;simp (disch:=first|exact za|fail) only [go_sem,seval,-List.reduceReplicate]
   generalize hsi:(nth l 0).session=si at *
   refine .q ?_;refine .text ?_;simp (disch:=first|exact za|fail) only [go_sem,seval,-List.reduceReplicate]
   by_cases h1:si < 0
   · rw [if_pos (.inl h1)] at h
     have d1:decide (si < 0)=true:=decide_eq_true h1
     simp (disch:=first|exact za|fail) only [go_sem,seval,-List.reduceReplicate,d1]
     refine .q ?_;refine .ifT (by simp (disch:=first|exact za|fail) only [go_sem,seval,-List.reduceReplicate]) ?_
     refine .q ?_;refine .text ?_;simp (disch:=first|exact za|fail) only [go_sem,seval,-List.reduceReplicate]
     refine .q ?_;refine .rt Tryz.func11 (by rw [Tryz.results11]) (hR := ?_);simp (disch:=first|exact za|fail) only [go_sem,seval,-List.reduceReplicate]
     exact h
   · have d1:decide (si < 0)=false:=decide_eq_false h1
     simp (disch:=first|exact za|fail) only [go_sem,seval,-List.reduceReplicate,d1]
     by_cases h2:2147483647 < si
     · rw [if_pos (.inr h2)] at h
       have d2:decide (2147483647 < si)=true:=decide_eq_true h2
       refine .q ?_;refine .ifT (by simp (disch:=first|exact za|fail) only [go_sem,seval,-List.reduceReplicate,d2]) ?_
       refine .q ?_;refine .text ?_;simp (disch:=first|exact za|fail) only [go_sem,seval,-List.reduceReplicate]
       refine .q ?_;refine .rt Tryz.func11 (by rw [Tryz.results11]) (hR := ?_);simp (disch:=first|exact za|fail) only [go_sem,seval,-List.reduceReplicate]
       exact h
     · rw [if_neg (by omega)] at h
       have d2:decide (2147483647 < si)=false:=decide_eq_false h2
       refine .q ?_;refine .ifF (by simp (disch:=first|exact za|fail) only [go_sem,seval,-List.reduceReplicate,d2]) ?_
       refine .skip ?_
       refine .q ?_;refine .text ?_;simp (disch:=first|exact za|fail) only [go_sem,seval,-List.reduceReplicate]
       refine CallK.of (fun R h=>zet si 2147483647 _ R h) ?_;simp (disch:=first|exact za|fail) only [go_sem,seval,-List.reduceReplicate]
       refine CallK.of (fun R h=>zet si 2147483647 _ R h) ?_;simp (disch:=first|exact za|fail) only [go_sem,seval,-List.reduceReplicate]
       refine .q ?_;refine .text ?_;simp (disch:=first|exact za|fail) only [go_sem,seval,-List.reduceReplicate]
       refine .q ?_;refine .loopF [4,28,29] (fun i=>[(30,.p (i64 i))]) (fun i=>[(H.n,.cells (rw2 (sd (zam si) l i)))]) (fun i=>zdY (er (zam si) l) i=0) (0) (l.length) (by omega) ?_ (by first | rfl | (simp (disch:=first|exact za|fail) only [go_sem,seval,-List.reduceReplicate]<;>rfl)) ?_ ?_ ?_
       · simp (disch:=first|exact za|fail) only [go_sem,seval,-List.reduceReplicate]<;>(repeat' (first | rfl | refine And.intro ?_ ?_))
       rotate_left 1
       intro env T E hQ;simp (disch:=first|exact za|fail) only [go_sem,seval,-List.reduceReplicate] at E
       rotate_left 1
       intro i env T hi0 hi E hQ ihE;simp (disch:=first|exact za|fail) only [go_sem,seval,-List.reduceReplicate] at E
       rotate_left 1
       · rfl
       · rw [hQ] at h
         refine .q ?_;refine .text ?_;simp (disch:=first|exact za|fail) only [go_sem,seval,-List.reduceReplicate,E,zc,zf]
         refine .q ?_;refine .ifF (by simp (disch:=first|exact za|fail) only [go_sem,seval,-List.reduceReplicate]) ?_
         refine .q ?_;refine .text ?_;simp (disch:=first|exact za|fail) only [go_sem,seval,-List.reduceReplicate]
         refine .q ?_;refine .rt Tryz.func11 (by rw [Tryz.results11]) (hR := ?_);simp (disch:=first|exact za|fail) only [go_sem,seval,-List.reduceReplicate]
         exact h
       · have hgd:=zjq (p0:=zam si) (l:=l) (dd:=2147483647) (fun k _=>Good.new' hid) hl hm i (by omega)
         obtain⟨k,hk1,hk2⟩ : ∃ k:Nat,i % 2=k∧k < 2:=⟨i % 2,rfl,Nat.mod_lt _ (by decide)⟩
         have hk3:(i:Int) % 2=(k:Int):=by rw [←hk1];omega
         have o1:=(hgd k hk2).ok (by omega)
         have o2:=(hgd (1 - k) (by omega)).ok (by omega)
         refine .q ?_;refine .text ?_;simp (disch:=first|exact za|fail) only [go_sem,seval,-List.reduceReplicate,E,zc,zf]
         refine .q ?_;refine .ifT (by simp (disch:=first|exact za|fail) only [go_sem,seval,-List.reduceReplicate]) ?_
         have hfb : ∀ T',(app (H.new (.cells (rw2 (sd (zam si) l i)))) T').f H.n=some (.cells (rw2 (sd (zam si) l i))):=fun T'=>app_f' (by simp [Hp.f_new])
         have hfc:((app (H.new (.cells (rw2 (sd (zam si) l i)))) T).new (.cells (yR (nth l i)))).f H.n=some (.cells (rw2 (sd (zam si) l i))):=by rw [zm];exact hfb _
         refine .q ?_;refine .text ?_;simp (disch:=first|exact za|fail) only [go_sem,seval,-List.reduceReplicate,E]
         refine .q ?_;refine .text ?_;simp (disch:=first|exact za|fail) only [go_sem,seval,-List.reduceReplicate,E,hk3]
         have e1:(zdX (sd (zam si) l i) k (nth l i)).2=er (zam si) l i:=by rw [er,hk1]
         have e2:(zdX (sd (zam si) l i) k (nth l i)).1=sd (zam si) l (i+1):=by rw [sd,hk1]
         refine CallK.of (fun R h=>zhD g (sd (zam si) l i) k hk2 o1 o2 _ (hm i hi) H.n _ hfc R h) ?_;simp (disch:=first|exact za|fail) only [go_sem,seval,-List.reduceReplicate,e1,e2]
         refine .q ?_;refine .text ?_;simp (disch:=first|exact za|fail) only [go_sem,seval,-List.reduceReplicate,E]
         refine CallK.of (fun R h=>Is_spec' (er (zam si) l i) 290 (by decide) _ R h) ?_;simp (disch:=first|exact za|fail) only [go_sem,seval,-List.reduceReplicate]
         by_cases c1:er (zam si) l i=290
         · have d1:(er (zam si) l i == 290)=true:=by simpa using c1
           have h290:zdY (er (zam si) l) l.length=290:=by rw [zdg hQ (by rw [c1];decide) _ hi,c1]
           rw [h290] at h
           refine .q ?_;refine .ifT (by simp (disch:=first|exact za|fail) only [go_sem,seval,-List.reduceReplicate,d1]) ?_
           refine .q ?_;refine .text ?_;simp (disch:=first|exact za|fail) only [go_sem,seval,-List.reduceReplicate]
           refine .q ?_;refine .rt Tryz.func11 (by rw [Tryz.results11]) (hR := ?_);simp (disch:=first|exact za|fail) only [go_sem,seval,-List.reduceReplicate]
           exact h
         · have d1:(er (zam si) l i == 290)=false:=by simpa using c1
           refine .q ?_;refine .ifF (by simp (disch:=first|exact za|fail) only [go_sem,seval,-List.reduceReplicate,d1]) ?_
           refine .skip ?_
           refine .q ?_;refine .text ?_;simp (disch:=first|exact za|fail) only [go_sem,seval,-List.reduceReplicate,zlI]
           refine .q ?_;refine .text ?_;simp (disch:=first|exact za|fail) only [go_sem,seval,-List.reduceReplicate]
           by_cases c2:er (zam si) l i=0
           · have d2:(er (zam si) l i != 0)=false:=by simpa using c2
             refine .q ?_;refine .ifF (by simp (disch:=first|exact za|fail) only [go_sem,seval,-List.reduceReplicate,d2]) ?_
             refine .skip ?_
             refine .q ?_;refine .text ?_;simp (disch:=first|exact za|fail) only [go_sem,seval,-List.reduceReplicate,E]
             first | (refine ihE _ _ ?_ (zck hQ c2) ?_) | (refine .z rfl ?_;refine ihE _ _ ?_ (zck hQ c2) ?_) | (refine .z rfl ?_;refine .z rfl ?_;refine ihE _ _ ?_ (zck hQ c2) ?_) | (refine .z rfl ?_;refine .z rfl ?_;refine .z rfl ?_;refine ihE _ _ ?_ (zck hQ c2) ?_)
             · simp (disch:=first|exact za|fail) only [go_sem,seval,-List.reduceReplicate,E]<;>(repeat' (first | rfl | refine And.intro ?_ ?_))
             · first | exact .mk _ rfl | exact .mk [] rfl | (apply Later.mk;simp (disch:=first|exact za|fail) only [go_sem,seval,-List.reduceReplicate,zm,E];exact rfl) | (apply Later.mk;simp (disch:=first|exact za|fail) only [go_sem,seval,-List.reduceReplicate,zm,zO,List.append_assoc,E]<;>(try rfl))
           · have d2:(er (zam si) l i != 0)=true:=by simpa using c2
             rw [zdg hQ c2 _ hi] at h
             refine .q ?_;refine .ifT (by simp (disch:=first|exact za|fail) only [go_sem,seval,-List.reduceReplicate,d2]) ?_
             refine .q ?_;refine .text ?_;simp (disch:=first|exact za|fail) only [go_sem,seval,-List.reduceReplicate]
             refine .q ?_;refine .rt Tryz.func11 (by rw [Tryz.results11]) (hR := ?_);simp (disch:=first|exact za|fail) only [go_sem,seval,-List.reduceReplicate]
             exact h
end walks
end Go.Proofs.YtgflpgcogkdpgaaGreatDoor

/-
  Sessions: the reference's sending and receiving.
-/
namespace Go.Proofs.YtgflpgcogkdpgaaGreatDoor
open Go Go.AL

section zb5
variable {s:Ses}
def zyL (s:Ses):List AV := .p (i64 s.id) :: .p (i64 s.step) :: .p (i64 s.state) :: .p (str (bytesOf s.text)) :: (cl b8 s.seen.val++yR s.last)
theorem zcl:(zyL s).length=74:=by simp [zyL,yc,zE]
theorem zdw:zJ s=zyL s++[.p (i64 s.due),.p (i64 s.bytes),.p (i64 s.rounds),.p (i64 s.words)]:=by rw [yJ];simp [zyL]
theorem zAZ {x:Int}:(zJ s).set 75 (.p (i64 x))=zJ { s with bytes:=x }:=by
 rw [zdw,zdw,List.set_append_right _ _ (by rw [zcl];omega),zcl];rfl
theorem zA0 {x:Int}:(zJ s).set 76 (.p (i64 x))=zJ { s with rounds:=x }:=by
 rw [zdw,zdw,List.set_append_right _ _ (by rw [zcl];omega),zcl];rfl
theorem zA1 {x:Int}:(zJ s).set 77 (.p (i64 x))=zJ { s with words:=x }:=by
 rw [zdw,zdw,List.set_append_right _ _ (by rw [zcl];omega),zcl];rfl
end zb5
attribute [go_sem] zAZ zA0 zA1
def qH (H:Hp) (s:Ses) (o z:List AV) (d:Msg):Hp:=(((H.new (.cells (zJ s))).new (.cells o)).new (.cells z)).new (.cells (yR d))
section qh
variable {H:Hp} {s:Ses} {o o' z z':List AV} {d:Msg}
theorem zCW:(qH H s o z d).f H.n=some (.cells (zJ s)):=by simp (disch:=first|exact za|fail) only [qH,go_sem,seval]
theorem zCX:(qH H s o z d).f (H.n+1)=some (.cells o):=by simp (disch:=first|exact za|fail) only [qH,go_sem,seval]
theorem zCY:(qH H s o z d).f (H.n+2)=some (.cells z):=by simp (disch:=first|exact za|fail) only [qH,go_sem,seval]
theorem zCZ:(qH H s o z d).f (H.n+3)=some (.cells (yR d)):=by simp (disch:=first|exact za|fail) only [qH,go_sem,seval]
theorem zyM:(qH H s o z d).set (H.n+1) (.cells o')=qH H s o' z d:=by simp (disch:=first|exact za|fail) only [qH,go_sem,seval]
theorem zyN:(qH H s o z d).set (H.n+2) (.cells z')=qH H s o z' d:=by simp (disch:=first|exact za|fail) only [qH,go_sem,seval]
theorem zwc:(qH H s o z d).trunc H.n=H:=by simp (disch:=first|exact za|fail) only [qH,go_sem,seval]
theorem zA2 (h:Bel H.n H):Bel H.n (qH H s o z d):=by
 unfold qH
 exact zv (zv (zv (zv h (Nat.le_refl _)) (by simp only [n_new'];omega)) (by simp only [n_new'];omega)) (by simp only [n_new'];omega)
end qh
attribute [go_sem] zCW zCX zCY zCZ zyM zyN zwc
theorem zpD {s:Ses} {m:Msg}:zcj s m=((decide (3≤s.state) || !turn s) || !fits m.kind s.step):=by
 unfold zcj turn bne
 cases s.state == 0<;>simp
def rB (s:Ses) (d:Msg):Bool:=decide (s.step < d.step) || ((s.state != 0 && turn s) || (d.kind != 2 && !decide (d.root.val=s.seen.val)))
theorem zC0 {s:Ses} {d:Msg}:rB s d=(decide (s.step < d.step) || ((s.state != 0 && zbc s) || (d.kind != 2 && !decide (d.root.val=s.seen.val)))):=by
 unfold rB turn bne
 cases s.state == 0<;>simp
section walks
variable {G:Globs}
set_option maxHeartbeats 400000 in
set_option maxRecDepth 20000 in
theorem zey (s:Ses) (m:Msg) (hm:m.Ok) (hk:1≤m.kind∧m.kind≤7) (b:By) (hb:b.length≤140737488353000) (h1:0≤s.step∧s.step≤1000000000000) (h2:0≤s.bytes∧s.bytes≤1000000000000000000) (h3:0≤s.rounds∧s.rounds≤1000000000000) (h4:0≤s.words∧s.words≤1000000000000000000)
 (H:Hp) (R:AV → Hp → Prop) (h:R (.p (y9 (zbS s m b))) H):ACall Tryz.prog G 52 [.p (y9 s),.p (ym m),.p (.sl false 1 (pl b8 b))] H R:=by
 have hsu:=hm.sums
 have hva:=hm.values
 have hsl:=s.seen.len
 have hsh:=zbq b
 have hp:(pair s.seen.val (sha b)).length=32:=zdc
 refine ACall.of_run (raw:=[]) Tryz.func52 rfl Tryz.ntmps52 (by simp) fun hbel => ?_
 refine .q ?_;refine .text ?_;simp (disch:=first|exact za|fail) only [go_sem,seval,zn]
 refine .q ?_;refine .text ?_;simp (disch:=first|exact za|fail) only [go_sem,seval,zn]
 generalize hs1:({ s with step:=s.step+1 }:Ses)=s1
 have hs1l:=s1.seen.len
 have hs1p:(pair s1.seen.val (sha b)).length=32:=zdc
 refine .q ?_;refine .open [6] follows (by kernel_rfl) ?_;simp (disch:=first|exact za|fail) only [go_sem,seval]
 refine CallD.still (fun R h=>zeN b (by omega) _ R h) ?_;simp (disch:=first|exact za|fail) only [go_sem,seval,hsh]
 refine CallD.still (fun R h=>znP _ _ hs1l hsh _ R h) ?_;simp (disch:=first|exact za|fail) only [go_sem,seval,hs1p]
 generalize hs2:({ s1 with seen:=⟨pair s1.seen.val (sha b),hs1p⟩ }:Ses)=s2
 have e2:s2.bytes=s.bytes:=by subst hs2;subst hs1;rfl
 have e3:s2.rounds=s.rounds:=by subst hs2;subst hs1;rfl
 have e4:s2.words=s.words:=by subst hs2;subst hs1;rfl
 have g2:0≤s2.bytes∧s2.bytes≤1000000000000000000:=by omega
 have g3:0≤s2.rounds∧s2.rounds≤1000000000000:=by omega
 have g4:0≤s2.words∧s2.words≤1000000000000000000:=by omega
 refine .q ?_;refine .text ?_;simp (disch:=first|exact za|fail) only [go_sem,seval]
 refine .q ?_;refine .text ?_;simp (disch:=first|exact za|fail) only [go_sem,seval]
 refine .q ?_;refine .text ?_;simp (disch:=first|exact za|fail) only [go_sem,seval]
 refine .q ?_;refine .text ?_;simp (disch:=first|exact za|fail) only [go_sem,seval]
 have hfin : ∀ st tx,({ s2 with bytes:=s2.bytes+b.length,rounds:=s2.rounds+1,words:=s2.words+m.sums.length+2*m.values.length,state:=st,text:=tx }:Ses) = { s with step:=s.step+1,seen:=⟨pair s.seen.val (sha b),zdc⟩,bytes:=s.bytes+b.length,rounds:=s.rounds+1,words:=s.words+m.sums.length+2*m.values.length,state:=st,text:=tx }:=fun st tx=>by subst hs2;subst hs1;rfl
 have htx:s2.text=s.text:=by subst hs2;subst hs1;rfl
 unfold zbS at h
 cases c1:m.kind == 1 with
 | true =>
  have k1:m.kind=1:=by simpa using c1
  have hst:(zbk m.kind).getD 0=1:=by rw [k1];rfl
  rw [if_pos k1,hst,←hfin] at h
  refine .q ?_;refine .text ?_;simp (disch:=first|exact za|fail) only [go_sem,seval,c1]
  refine .q ?_;refine .ifT (by simp (disch:=first|exact za|fail) only [go_sem,seval]) ?_
  refine .q ?_;refine .text ?_;simp (disch:=first|exact za|fail) only [go_sem,seval]
  refine .q ?_;refine .text ?_;simp (disch:=first|exact za|fail) only [go_sem,seval]
  refine .q ?_;refine .text ?_;simp (disch:=first|exact za|fail) only [go_sem,seval]
  refine .q ?_;refine .rt Tryz.func52 (by rw [Tryz.results52]) (hR := ?_);simp (disch:=first|exact za|fail) only [go_sem,seval]
  exact h
 | false =>
  have k1:m.kind≠1:=by simpa using c1
  rw [if_neg k1] at h
  refine .q ?_;refine .text ?_;simp (disch:=first|exact za|fail) only [go_sem,seval,c1]
  refine .q ?_;refine .ifF (by simp (disch:=first|exact za|fail) only [go_sem,seval]) ?_
  cases c6:m.kind == 6 with
  | true =>
   have k6:m.kind=6:=by simpa using c6
   have hst:(zbk m.kind).getD 0=3:=by rw [k6];rfl
   rw [hst,←hfin,←htx] at h
   refine .q ?_;refine .text ?_;simp (disch:=first|exact za|fail) only [go_sem,seval,c6]
   refine .q ?_;refine .ifT (by simp (disch:=first|exact za|fail) only [go_sem,seval]) ?_
   refine .q ?_;refine .text ?_;simp (disch:=first|exact za|fail) only [go_sem,seval]
   refine .q ?_;refine .text ?_;simp (disch:=first|exact za|fail) only [go_sem,seval]
   refine .q ?_;refine .rt Tryz.func52 (by rw [Tryz.results52]) (hR := ?_);simp (disch:=first|exact za|fail) only [go_sem,seval]
   exact h
  | false =>
   have k6:m.kind≠6:=by simpa using c6
   refine .q ?_;refine .text ?_;simp (disch:=first|exact za|fail) only [go_sem,seval,c6]
   refine .q ?_;refine .ifF (by simp (disch:=first|exact za|fail) only [go_sem,seval]) ?_
   cases c7:m.kind == 7 with
   | true =>
    have k7:m.kind=7:=by simpa using c7
    have hst:(zbk m.kind).getD 0=4:=by rw [k7];rfl
    rw [hst,←hfin,←htx] at h
    refine .q ?_;refine .text ?_;simp (disch:=first|exact za|fail) only [go_sem,seval,c7]
    refine .q ?_;refine .ifT (by simp (disch:=first|exact za|fail) only [go_sem,seval]) ?_
    refine .q ?_;refine .text ?_;simp (disch:=first|exact za|fail) only [go_sem,seval]
    refine .q ?_;refine .text ?_;simp (disch:=first|exact za|fail) only [go_sem,seval]
    refine .q ?_;refine .rt Tryz.func52 (by rw [Tryz.results52]) (hR := ?_);simp (disch:=first|exact za|fail) only [go_sem,seval]
    exact h
   | false =>
    have k7:m.kind≠7:=by simpa using c7
    have hst:(zbk m.kind).getD 0=2:=by
     have:m.kind=2 ∨ m.kind=3 ∨ m.kind=4 ∨ m.kind=5:=by omega
     rcases this with e | e | e | e<;>rw [e]<;>rfl
    rw [hst,←hfin,←htx] at h
    refine .q ?_;refine .text ?_;simp (disch:=first|exact za|fail) only [go_sem,seval,c7]
    refine .q ?_;refine .ifF (by simp (disch:=first|exact za|fail) only [go_sem,seval]) ?_
    refine .q ?_;refine .text ?_;simp (disch:=first|exact za|fail) only [go_sem,seval]
    refine .q ?_;refine .text ?_;simp (disch:=first|exact za|fail) only [go_sem,seval]
    refine .q ?_;refine .rt Tryz.func52 (by rw [Tryz.results52]) (hR := ?_);simp (disch:=first|exact za|fail) only [go_sem,seval]
    exact h
set_option maxHeartbeats 400000 in
set_option maxRecDepth 20000 in
theorem zbd (s:Ses) (hs:s.Ok) (m:Msg) (hm:m.Ok) (H:Hp) (R:AV → Hp → Prop) (h:R (.tup [.p (y9 (send s m).1),.p (.sl false 1 (pl b8 (send s m).2.1)),.p (i64 (send s m).2.2)]) H):ACall Tryz.prog G 31 [.p (y9 s),.p (ym m)] H R:=by
 have hstep:=hs.step
 have hko:okI s.step:=⟨by omega,by omega⟩
 have hsl:=s.seen.len
 refine ACall.of_run (raw:=[]) Tryz.func31 rfl Tryz.ntmps31 (by simp) fun hbel => ?_
 refine .q ?_;refine .text ?_;simp (disch:=first|exact za|fail) only [go_sem,seval,zn]
 refine .q ?_;refine .cutE [2,3,4] [(23,.p (bo (zcj s m)))] [] (fun ihE => ?_) (fun env E => ?_)
 rotate_left 1
 simp (disch:=first|exact za|fail) only [go_sem,seval] at E
 rotate_left 1
 · rw [zpD] at ihE
   refine .q ?_;refine .text ?_;simp (disch:=first|exact za|fail) only [go_sem,seval]
   refine CallK.of (fun R h=>zev s _ R h) ?_;simp (disch:=first|exact za|fail) only [go_sem,seval]
   cases f1:decide (3≤s.state) with
   | true =>
    rw [f1] at ihE
    simp (disch:=first|exact za|fail) only [go_sem,seval]
    first | (refine ihE _ _ ?_ ?_) | (refine .z rfl ?_;refine ihE _ _ ?_ ?_) | (refine .z rfl ?_;refine .z rfl ?_;refine ihE _ _ ?_ ?_) | (refine .z rfl ?_;refine .z rfl ?_;refine .z rfl ?_;refine ihE _ _ ?_ ?_)
    · simp (disch:=first|exact za|fail) only [go_sem,seval]<;>(repeat' (first | rfl | refine And.intro ?_ ?_))
    · first | rfl | (simp (disch:=first|exact za|fail) only [go_sem,seval]<;>(try rfl))
   | false =>
    rw [f1] at ihE
    simp (disch:=first|exact za|fail) only [go_sem,seval]
    refine CallK.of (fun R h=>ze7 s hstep.1 hs.last _ R h) ?_;simp (disch:=first|exact za|fail) only [go_sem,seval]
    cases f2:turn s with
    | false =>
     rw [f2] at ihE
     simp (disch:=first|exact za|fail) only [go_sem,seval,f2]
     first | (refine ihE _ _ ?_ ?_) | (refine .z rfl ?_;refine ihE _ _ ?_ ?_) | (refine .z rfl ?_;refine .z rfl ?_;refine ihE _ _ ?_ ?_) | (refine .z rfl ?_;refine .z rfl ?_;refine .z rfl ?_;refine ihE _ _ ?_ ?_)
     · simp (disch:=first|exact za|fail) only [go_sem,seval]<;>(repeat' (first | rfl | refine And.intro ?_ ?_))
     · first | rfl | (simp (disch:=first|exact za|fail) only [go_sem,seval]<;>(try rfl))
    | true =>
     rw [f2] at ihE
     simp (disch:=first|exact za|fail) only [go_sem,seval,f2]
     refine CallK.of (fun R h=>ze8 _ _ _ R h) ?_;simp (disch:=first|exact za|fail) only [go_sem,seval]
     first | (refine ihE _ _ ?_ ?_) | (refine .z rfl ?_;refine ihE _ _ ?_ ?_) | (refine .z rfl ?_;refine .z rfl ?_;refine ihE _ _ ?_ ?_) | (refine .z rfl ?_;refine .z rfl ?_;refine .z rfl ?_;refine ihE _ _ ?_ ?_)
     · simp (disch:=first|exact za|fail) only [go_sem,seval]<;>(repeat' (first | rfl | refine And.intro ?_ ?_))
     · first | rfl | (simp (disch:=first|exact za|fail) only [go_sem,seval]<;>(try rfl))
 · unfold send at h
   cases hbad:zcj s m with
   | true =>
    rw [hbad,if_pos rfl] at h
    refine .q ?_;refine .ifT (by simp (disch:=first|exact za|fail) only [go_sem,seval,E,hbad]) ?_
    refine .q ?_;refine .text ?_;simp (disch:=first|exact za|fail) only [go_sem,seval,E,zf]
    refine .q ?_;refine .rt Tryz.func31 (by rw [Tryz.results31]) (hx:=by simp (disch:=first|exact za|fail) only [go_sem,seval,E];rfl) (hR := ?_);simp (disch:=first|exact za|fail) only [go_sem,seval,E]
    exact h
   | false =>
    have hfk:1≤m.kind∧m.kind≤7:=by
     rw [zpD] at hbad
     simp only [Bool.or_eq_false_iff,Bool.not_eq_false'] at hbad
     exact zdv hbad.2
    rw [hbad] at h
    simp only [Bool.false_eq_true,if_false] at h
    refine .q ?_;refine .ifF (by simp (disch:=first|exact za|fail) only [go_sem,seval,E,hbad]) ?_
    refine .q ?_;refine .text ?_;simp (disch:=first|exact za|fail) only [go_sem,seval,E,zf]
    refine .q ?_;refine .text ?_;simp (disch:=first|exact za|fail) only [go_sem,seval,E]
    refine .q ?_;refine .text ?_;simp (disch:=first|exact za|fail) only [go_sem,seval,E]
    have hm2:(zcN s m).Ok:=⟨hm.kind,hs.id,hko,hm.text,hm.sums,hm.values⟩
    have hk2:1≤(zcN s m).kind∧(zcN s m).kind≤7:=hfk
    refine .q ?_;refine .cutE [2,3,4] [] [(H.n+1,.cells (yR (zcN s m)))] (fun ihF => ?_) (fun env F => ?_)
    rotate_left 1
    simp (disch:=first|exact za|fail) only [go_sem,seval,E] at F
    rotate_left 1
    · unfold zcN at ihF
      cases hk:m.kind != 2 with
      | true =>
       rw [hk] at ihF
       simp only [if_true] at ihF
       refine .q ?_;refine .ifT (by simp (disch:=first|exact za|fail) only [go_sem,seval,hk]) ?_
       refine .q ?_;refine .text ?_;simp (disch:=first|exact za|fail) only [go_sem,seval,E]
       first | (refine ihF _ _ ?_ ?_) | (refine .z rfl ?_;refine ihF _ _ ?_ ?_) | (refine .z rfl ?_;refine .z rfl ?_;refine ihF _ _ ?_ ?_) | (refine .z rfl ?_;refine .z rfl ?_;refine .z rfl ?_;refine ihF _ _ ?_ ?_)
       · simp (disch:=first|exact za|fail) only [go_sem,seval,E]<;>(repeat' (first | rfl | refine And.intro ?_ ?_))
       · first | rfl | (simp (disch:=first|exact za|fail) only [go_sem,seval,E]<;>(try rfl))
      | false =>
       rw [hk] at ihF
       simp only [Bool.false_eq_true,if_false] at ihF
       refine .q ?_;refine .ifF (by simp (disch:=first|exact za|fail) only [go_sem,seval,hk]) ?_
       refine .skip ?_
       first | (refine ihF _ _ ?_ ?_) | (refine .z rfl ?_;refine ihF _ _ ?_ ?_) | (refine .z rfl ?_;refine .z rfl ?_;refine ihF _ _ ?_ ?_) | (refine .z rfl ?_;refine .z rfl ?_;refine .z rfl ?_;refine ihF _ _ ?_ ?_)
       · simp (disch:=first|exact za|fail) only [go_sem,seval,E]<;>(repeat' (first | rfl | refine And.intro ?_ ?_))
       · first | rfl | (simp (disch:=first|exact za|fail) only [go_sem,seval,E]<;>(try rfl))
    · generalize zcN s m=M at *
      refine .q ?_;refine .text ?_;simp (disch:=first|exact za|fail) only [go_sem,seval,F,E,zc,zf]
      refine CallK.of (fun R h=>zaU M hm2 _ R h) ?_;simp (disch:=first|exact za|fail) only [go_sem,seval]
      refine .q ?_;refine .text ?_;simp (disch:=first|exact za|fail) only [go_sem,seval,F,E]
      cases hv:valid M with
      | false =>
       have he:enc M=[]:=by rw [enc,hv];rfl
       rw [hv] at h
       simp only [Bool.false_eq_true,if_false] at h
       refine .q ?_;refine .ifT (by simp (disch:=first|exact za|fail) only [go_sem,seval,he]) ?_
       refine .q ?_;refine .text ?_;simp (disch:=first|exact za|fail) only [go_sem,seval,F,E]
       refine .q ?_;refine .rt Tryz.func31 (by rw [Tryz.results31]) (hx:=by simp (disch:=first|exact za|fail) only [go_sem,seval,F,E];rfl) (hR := ?_);simp (disch:=first|exact za|fail) only [go_sem,seval,F,E]
       exact h
      | true =>
       rw [hv] at h
       simp only [if_true] at h
       have hlen:=zfF hv
       generalize enc M=e at *
       have hne:((e.length:Int) == 0)=false:=beq_eq_false_iff_ne.2 (by omega)
       refine .q ?_;refine .ifF (by simp (disch:=first|exact za|fail) only [go_sem,seval,hne]) ?_
       refine .q ?_;refine .text ?_;simp (disch:=first|exact za|fail) only [go_sem,seval,F,E]
       refine CallK.of (fun R h=>zey s M hm2 hk2 e (by omega) hs.step hs.bytes hs.rounds hs.words _ R h) ?_;simp (disch:=first|exact za|fail) only [go_sem,seval,zn]
       refine .q ?_;refine .text ?_;simp (disch:=first|exact za|fail) only [go_sem,seval,F,E]
       refine .q ?_;refine .text ?_;simp (disch:=first|exact za|fail) only [go_sem,seval,F,E]
       refine .q ?_;refine .rt Tryz.func31 (by rw [Tryz.results31]) (hx:=by simp (disch:=first|exact za|fail) only [go_sem,seval,F,E];rfl) (hR := ?_);simp (disch:=first|exact za|fail) only [go_sem,seval,F,E]
       exact h
set_option maxHeartbeats 1000000 in
set_option maxRecDepth 20000 in
theorem zbL (s:Ses) (hs:s.Ok) (b:By) (hb:b.length≤140737488353000) (now:Int) (H:Hp) (R:AV → Hp → Prop) (h:R (.tup [.p (y9 (recv s b now).1),.p (ym (recv s b now).2.1),.p (i64 (recv s b now).2.2)]) H):ACall Tryz.prog G 32 [.p (y9 s),.p (.sl false 1 (pl b8 b)),.p (i64 now)] H R:=by
 have hstep:=hs.step
 have hz:(List.replicate 32 0#8:By).length=32:=List.length_replicate
 have hzd:AV.p (i64 0) :: AV.p (i64 0) :: AV.p (i64 0) :: AV.p (str ByteArray.empty) :: List.map AV.p (pl b8 (List.replicate 32 0#8)++[PV.sl true 1 [],PV.sl true 2 []])=mZ:=by simp [mZ,mG,cl,pl,zbY]
 have hzl:mZ.length=38:=rfl
 unfold recv at h
 refine ACall.of_run (raw:=[]) Tryz.func32 rfl Tryz.ntmps32 (by simp) fun hbel => ?_
 refine .q ?_;refine .text ?_;simp (disch:=first|exact za|fail) only [go_sem,seval,-List.reduceReplicate,zn,hzd]
 refine .q ?_;refine .text ?_;simp (disch:=first|exact za|fail) only [go_sem,seval,-List.reduceReplicate]
 refine CallK.of (fun R h=>zev s _ R h) ?_;simp (disch:=first|exact za|fail) only [go_sem,seval,-List.reduceReplicate]
 by_cases c1:3≤s.state
 · have d1:decide (3≤s.state)=true:=decide_eq_true c1
   rw [if_pos c1] at h
   refine .q ?_;refine .ifT (by simp (disch:=first|exact za|fail) only [go_sem,seval,-List.reduceReplicate,d1]) ?_
   refine .q ?_;refine .text ?_;simp (disch:=first|exact za|fail) only [go_sem,seval,-List.reduceReplicate,hzl,hz,mZ]
   refine .q ?_;refine .rt Tryz.func32 (by rw [Tryz.results32]) (hx:=by simp (disch:=first|exact za|fail) only [go_sem,seval,-List.reduceReplicate,hz,mZ];rfl) (hR := ?_);simp (disch:=first|exact za|fail) only [go_sem,seval,-List.reduceReplicate,hz,mZ]
   exact h
 · have d1:decide (3≤s.state)=false:=decide_eq_false c1
   rw [if_neg c1] at h
   refine .q ?_;refine .ifF (by simp (disch:=first|exact za|fail) only [go_sem,seval,-List.reduceReplicate,d1]) ?_
   refine .q ?_;refine .text ?_;simp (disch:=first|exact za|fail) only [go_sem,seval,-List.reduceReplicate]
   by_cases c2:s.due < now
   · have d2:decide (s.due < now)=true:=decide_eq_true c2
     rw [if_pos c2] at h
     refine .q ?_;refine .ifT (by simp (disch:=first|exact za|fail) only [go_sem,seval,-List.reduceReplicate,d2]) ?_
     refine .q ?_;refine .text ?_;simp (disch:=first|exact za|fail) only [go_sem,seval,-List.reduceReplicate]
     refine .q ?_;refine .text ?_;simp (disch:=first|exact za|fail) only [go_sem,seval,-List.reduceReplicate,hzl,hz,mZ]
     refine .q ?_;refine .rt Tryz.func32 (by rw [Tryz.results32]) (hx:=by simp (disch:=first|exact za|fail) only [go_sem,seval,-List.reduceReplicate,hz,mZ];rfl) (hR := ?_);simp (disch:=first|exact za|fail) only [go_sem,seval,-List.reduceReplicate,hz,mZ]
     exact h
   · have d2:decide (s.due < now)=false:=decide_eq_false c2
     rw [if_neg c2] at h
     obtain⟨hdo,hds⟩:=zvP b
     have hdv:=zih (b:=b)
     refine .q ?_;refine .ifF (by simp (disch:=first|exact za|fail) only [go_sem,seval,-List.reduceReplicate,d2]) ?_
     refine .q ?_;refine .text ?_;simp (disch:=first|exact za|fail) only [go_sem,seval,-List.reduceReplicate]
     refine CallK.of (fun R h=>zhC b (by omega) _ R h) ?_;simp (disch:=first|exact za|fail) only [go_sem,seval,-List.reduceReplicate]
     unfold ze6 at h
     simp only [ne_eq] at h
     generalize (dec b).1=d at *
     generalize (dec b).2=code at *
     have hdr:=d.root.len
     have hsr:=s.seen.len
     refine .q ?_;refine .text ?_;simp (disch:=first|exact za|fail) only [go_sem,seval,-List.reduceReplicate]
     unfold rC at h
     cases c3:code != 0 with
     | true =>
      have c3' : ¬ code=0:=by simpa using c3
      rw [c3] at h
      simp only [if_true,c3',not_false_eq_true] at h
      refine .q ?_;refine .ifT (by simp (disch:=first|exact za|fail) only [go_sem,seval,-List.reduceReplicate,c3]) ?_
      refine .q ?_;refine .text ?_;simp (disch:=first|exact za|fail) only [go_sem,seval,-List.reduceReplicate,hzl,hz,mZ]
      refine .q ?_;refine .rt Tryz.func32 (by rw [Tryz.results32]) (hx:=by simp (disch:=first|exact za|fail) only [go_sem,seval,-List.reduceReplicate,hz,mZ];rfl) (hR := ?_);simp (disch:=first|exact za|fail) only [go_sem,seval,-List.reduceReplicate,hz,mZ]
      exact h
     | false =>
     have c3':code=0:=by simpa using c3
     have hk:=zdv (zdd (hdv c3')).2.2
     rw [c3] at h
     simp only [Bool.false_eq_true,if_false] at h
     refine .q ?_;refine .ifF (by simp (disch:=first|exact za|fail) only [go_sem,seval,-List.reduceReplicate,c3]) ?_
     refine .q ?_;refine .text ?_;simp (disch:=first|exact za|fail) only [go_sem,seval,-List.reduceReplicate]
     cases c4:d.session != s.id with
     | true =>
      rw [c4] at h
      simp only [if_true,Int.reduceEq,not_false_eq_true] at h
      refine .q ?_;refine .ifT (by simp (disch:=first|exact za|fail) only [go_sem,seval,-List.reduceReplicate,c4]) ?_
      refine .q ?_;refine .text ?_;simp (disch:=first|exact za|fail) only [go_sem,seval,-List.reduceReplicate,hzl,hz,mZ]
      refine .q ?_;refine .rt Tryz.func32 (by rw [Tryz.results32]) (hx:=by simp (disch:=first|exact za|fail) only [go_sem,seval,-List.reduceReplicate,hz,mZ];rfl) (hR := ?_);simp (disch:=first|exact za|fail) only [go_sem,seval,-List.reduceReplicate,hz,mZ]
      exact h
     | false =>
     rw [c4] at h
     simp only [Bool.false_eq_true,if_false] at h
     refine .q ?_;refine .ifF (by simp (disch:=first|exact za|fail) only [go_sem,seval,-List.reduceReplicate,c4]) ?_
     refine .q ?_;refine .text ?_;simp (disch:=first|exact za|fail) only [go_sem,seval,-List.reduceReplicate]
     cases c5:decide (d.step < s.step) with
     | true =>
      rw [c5] at h
      simp only [if_true,Int.reduceEq,not_false_eq_true] at h
      refine .q ?_;refine .ifT (by simp (disch:=first|exact za|fail) only [go_sem,seval,-List.reduceReplicate,c5]) ?_
      refine .q ?_;refine .text ?_;simp (disch:=first|exact za|fail) only [go_sem,seval,-List.reduceReplicate,hzl,hz,mZ]
      refine .q ?_;refine .rt Tryz.func32 (by rw [Tryz.results32]) (hx:=by simp (disch:=first|exact za|fail) only [go_sem,seval,-List.reduceReplicate,hz,mZ];rfl) (hR := ?_);simp (disch:=first|exact za|fail) only [go_sem,seval,-List.reduceReplicate,hz,mZ]
      exact h
     | false =>
     rw [c5] at h
     simp only [Bool.false_eq_true,if_false] at h
     rw [←zC0] at h
     refine .q ?_;refine .ifF (by simp (disch:=first|exact za|fail) only [go_sem,seval,-List.reduceReplicate,c5]) ?_
     refine .q ?_;refine .cutE [1,3,6,7,9] [(71,.p (bo (rB s d)))] [] (fun ihE => ?_) (fun env E => ?_)
     rotate_left 1
     simp (disch:=first|exact za|fail) only [go_sem,seval,-List.reduceReplicate] at E
     rotate_left 1
     · unfold rB at ihE
       refine .q ?_;refine .text ?_;simp (disch:=first|exact za|fail) only [go_sem,seval,-List.reduceReplicate]
       cases f1:decide (s.step < d.step) with
       | true =>
        rw [f1,Bool.true_or] at ihE
        simp (disch:=first|exact za|fail) only [go_sem,seval,-List.reduceReplicate,f1]
        first | (refine ihE _ _ ?_ ?_) | (refine .z rfl ?_;refine ihE _ _ ?_ ?_) | (refine .z rfl ?_;refine .z rfl ?_;refine ihE _ _ ?_ ?_) | (refine .z rfl ?_;refine .z rfl ?_;refine .z rfl ?_;refine ihE _ _ ?_ ?_)
        · simp (disch:=first|exact za|fail) only [go_sem,seval,-List.reduceReplicate]<;>(repeat' (first | rfl | refine And.intro ?_ ?_))
        · first | rfl | (simp (disch:=first|exact za|fail) only [go_sem,seval,-List.reduceReplicate]<;>(try rfl))
       | false =>
        rw [f1,Bool.false_or] at ihE
        simp (disch:=first|exact za|fail) only [go_sem,seval,-List.reduceReplicate,f1]
        cases f2:s.state != 0 with
        | false =>
         rw [f2,Bool.false_and,Bool.false_or] at ihE
         simp (disch:=first|exact za|fail) only [go_sem,seval,-List.reduceReplicate,f2]
         cases f4:d.kind != 2 with
         | false =>
          rw [f4] at ihE
          simp (disch:=first|exact za|fail) only [go_sem,seval,-List.reduceReplicate,f4]
          first | (refine ihE _ _ ?_ ?_) | (refine .z rfl ?_;refine ihE _ _ ?_ ?_) | (refine .z rfl ?_;refine .z rfl ?_;refine ihE _ _ ?_ ?_) | (refine .z rfl ?_;refine .z rfl ?_;refine .z rfl ?_;refine ihE _ _ ?_ ?_)
          · simp (disch:=first|exact za|fail) only [go_sem,seval,-List.reduceReplicate]<;>(repeat' (first | rfl | refine And.intro ?_ ?_))
          · first | rfl | (simp (disch:=first|exact za|fail) only [go_sem,seval,-List.reduceReplicate]<;>(try rfl))
         | true =>
          rw [f4] at ihE
          simp (disch:=first|exact za|fail) only [go_sem,seval,-List.reduceReplicate,f4]
          first | (refine ihE _ _ ?_ ?_) | (refine .z rfl ?_;refine ihE _ _ ?_ ?_) | (refine .z rfl ?_;refine .z rfl ?_;refine ihE _ _ ?_ ?_) | (refine .z rfl ?_;refine .z rfl ?_;refine .z rfl ?_;refine ihE _ _ ?_ ?_)
          · simp (disch:=first|exact za|fail) only [go_sem,seval,-List.reduceReplicate]<;>(repeat' (first | rfl | refine And.intro ?_ ?_))
          · first | rfl | (simp (disch:=first|exact za|fail) only [go_sem,seval,-List.reduceReplicate]<;>(try rfl))
        | true =>
         rw [f2,Bool.true_and] at ihE
         simp (disch:=first|exact za|fail) only [go_sem,seval,-List.reduceReplicate,f2]
         refine CallK.of (fun R h=>ze7 s hstep.1 hs.last _ R h) ?_;simp (disch:=first|exact za|fail) only [go_sem,seval,-List.reduceReplicate]
         cases f3:turn s with
         | true =>
          rw [f3,Bool.true_or] at ihE
          simp (disch:=first|exact za|fail) only [go_sem,seval,-List.reduceReplicate,f3]
          first | (refine ihE _ _ ?_ ?_) | (refine .z rfl ?_;refine ihE _ _ ?_ ?_) | (refine .z rfl ?_;refine .z rfl ?_;refine ihE _ _ ?_ ?_) | (refine .z rfl ?_;refine .z rfl ?_;refine .z rfl ?_;refine ihE _ _ ?_ ?_)
          · simp (disch:=first|exact za|fail) only [go_sem,seval,-List.reduceReplicate]<;>(repeat' (first | rfl | refine And.intro ?_ ?_))
          · first | rfl | (simp (disch:=first|exact za|fail) only [go_sem,seval,-List.reduceReplicate]<;>(try rfl))
         | false =>
          rw [f3,Bool.false_or] at ihE
          simp (disch:=first|exact za|fail) only [go_sem,seval,-List.reduceReplicate,f3]
          cases f4:d.kind != 2 with
          | false =>
           rw [f4] at ihE
           simp (disch:=first|exact za|fail) only [go_sem,seval,-List.reduceReplicate,f4]
           first | (refine ihE _ _ ?_ ?_) | (refine .z rfl ?_;refine ihE _ _ ?_ ?_) | (refine .z rfl ?_;refine .z rfl ?_;refine ihE _ _ ?_ ?_) | (refine .z rfl ?_;refine .z rfl ?_;refine .z rfl ?_;refine ihE _ _ ?_ ?_)
           · simp (disch:=first|exact za|fail) only [go_sem,seval,-List.reduceReplicate]<;>(repeat' (first | rfl | refine And.intro ?_ ?_))
           · first | rfl | (simp (disch:=first|exact za|fail) only [go_sem,seval,-List.reduceReplicate]<;>(try rfl))
          | true =>
           rw [f4] at ihE
           simp (disch:=first|exact za|fail) only [go_sem,seval,-List.reduceReplicate,f4]
           first | (refine ihE _ _ ?_ ?_) | (refine .z rfl ?_;refine ihE _ _ ?_ ?_) | (refine .z rfl ?_;refine .z rfl ?_;refine ihE _ _ ?_ ?_) | (refine .z rfl ?_;refine .z rfl ?_;refine .z rfl ?_;refine ihE _ _ ?_ ?_)
           · simp (disch:=first|exact za|fail) only [go_sem,seval,-List.reduceReplicate]<;>(repeat' (first | rfl | refine And.intro ?_ ?_))
           · first | rfl | (simp (disch:=first|exact za|fail) only [go_sem,seval,-List.reduceReplicate]<;>(try rfl))
     · cases c6:rB s d with
       | true =>
        rw [c6] at h
        simp only [if_true,Int.reduceEq,not_false_eq_true] at h
        refine .q ?_;refine .ifT (by simp (disch:=first|exact za|fail) only [go_sem,seval,-List.reduceReplicate,E,c6]) ?_
        refine .q ?_;refine .text ?_;simp (disch:=first|exact za|fail) only [go_sem,seval,-List.reduceReplicate,E,zf,hzl,hz,mZ]
        refine .q ?_;refine .rt Tryz.func32 (by rw [Tryz.results32]) (hx:=by simp (disch:=first|exact za|fail) only [go_sem,seval,-List.reduceReplicate,E,hz,mZ];rfl) (hR := ?_);simp (disch:=first|exact za|fail) only [go_sem,seval,-List.reduceReplicate,E,hz,mZ]
        exact h
       | false =>
        rw [c6] at h
        simp only [Bool.false_eq_true,if_false,not_true_eq_false] at h
        refine .q ?_;refine .ifF (by simp (disch:=first|exact za|fail) only [go_sem,seval,-List.reduceReplicate,E,c6]) ?_
        rw [zf]
        have ha : ∀ o z R,R (.p (y9 (zbS s d b))) (qH H s o z d) → ACall Tryz.prog G 52 [.p (y9 s),.p (ym d),.p (.sl false 1 (pl b8 b))] (qH H s o z d) R:=fun o z R h=>zey s d hdo hk b hb hs.step hs.bytes hs.rounds hs.words _ R h
        have hbel : ∀ o z,Bel H.n (qH H s o z d):=fun o z=>zA2 hbel
        change ARun _ _ _ (qH H s (nC 0 0) mZ d) R
        generalize zbS s d b=X at *
        (refine .q ?_)
        refine .openInv (fun L env' H'=>kF env' [(1,.p (.sl false 1 (pl b8 b))),(3,.ptr H.n 0),(6,.ptr (H.n+1) 0),(7,.ptr (H.n+2) 0),(9,.ptr (H.n+3) 0)]∧kI L env' [(0,74,.p (y9 s)),(1,75,.p (ym d)),(2,76,.p (.sl false 1 (pl b8 b))),(3,77,.p (y9 X)),(4,78,.p (ym d)),(7,8,.p (i64 0))]∧(L 5=true → allT L [0,1,2,3])∧(L 6=true → allT L [0,1,2,3,4,5])∧H'=(qH H s (if L 5 then zJ X else nC 0 0) (if L 6 then yR d else mZ) d)) follows (by kernel_rfl) ?_ ?_ ?_
        · exact⟨(by simp (disch:=first|exact za|fail) only [go_sem,seval,-List.reduceReplicate,kFi,kFn,and_self,E,hzl,zH,zE]),(fun _ _ h=>by cases h),(fun h=>by cases h),(fun h=>by cases h),(by first | rfl | (simp only [Bool.false_eq_true,if_false];first | rfl | (simp (disch:=first|exact za|fail) only [go_sem,seval,-List.reduceReplicate,E,hzl,zH,zE]<;>rfl)))⟩
        · intro i o L env' H' ho hL hall hI
          obtain⟨KF,KG,m5,m6,rfl⟩:=hI
          rcases i with _ | _ | _ | _ | _ | _ | _ | _ | i
          · cases ho;have n5:=y8 m5 hL;have n6:=y8 m6 hL;have f1:=yl KF 1 rfl;refine zg (.p (y9 s)) rfl rfl (by simp (disch:=first|exact za|fail) only [go_sem,seval,-List.reduceReplicate,reduceIte,Bool.false_eq_true,if_false,if_true,f1,n5,n6,hL,hzl,zH,zE]<;>rfl) rfl ?_;exact⟨zT KF,zU KG,ka m5,ka m6,(by rw [zb (by decide),zb (by decide)])⟩
          · cases ho;have n5:=y8 m5 hL;have n6:=y8 m6 hL;have f4:=yl KF 4 rfl;refine zg (.p (ym d)) rfl rfl (by simp (disch:=first|exact za|fail) only [go_sem,seval,-List.reduceReplicate,reduceIte,Bool.false_eq_true,if_false,if_true,f4,n5,n6,hL,hzl,zH,zE]<;>rfl) rfl ?_;exact⟨zT KF,zU KG,ka m5,ka m6,(by rw [zb (by decide),zb (by decide)])⟩
          · cases ho;have f0:=yl KF 0 rfl;refine zg (.p (.sl false 1 (pl b8 b))) rfl rfl (by simp (disch:=first|exact za|fail) only [go_sem,seval,-List.reduceReplicate,f0,hzl,zH,zE]<;>rfl) rfl ?_;exact⟨zT KF,zU KG,ka m5,ka m6,(by rw [zb (by decide),zb (by decide)])⟩
          · cases ho;have d0:=zG KG 0 rfl (kL hall 0 rfl rfl);have d1:=zG KG 1 rfl (kL hall 1 rfl rfl);have d2:=zG KG 2 rfl (kL hall 2 rfl rfl);have n5:=y8 m5 hL;have n6:=y8 m6 hL;(try simp only [n5,n6,if_true,if_false,Bool.false_eq_true]);refine yT rfl rfl (by simp (disch:=first|exact za|fail) only [go_sem,seval,-List.reduceReplicate,reduceIte,Bool.false_eq_true,if_false,if_true,d0,d1,d2,n5,n6,hL,hzl,zH,zE]<;>rfl) rfl (by simp (disch:=first|exact za|fail) only [go_sem,seval,-List.reduceReplicate,reduceIte,Bool.false_eq_true,if_false,if_true,d0,d1,d2,n5,n6,hL,hzl,zH,zE]<;>rfl) (fun R h=>ha _ _ R h) ?_;exact⟨zT KF,zU KG,ka m5,ka m6,(by (have e5:more L 3 5=L 5:=zb (by decide));(have e6:more L 3 6=L 6:=zb (by decide));(try simp only [e5,e6,n5,n6]);first | done | rfl | (simp only [e5,e6,n5,n6,if_true,if_false,Bool.false_eq_true];first | done | rfl | (simp (disch:=first|exact za|fail) only [go_sem,seval,-List.reduceReplicate,e5,e6,n5,n6,hzl,zH,zE]<;>rfl)))⟩
          · cases ho;have n6:=y8 m6 hL;have f4:=yl KF 4 rfl;refine zg (.p (ym d)) rfl rfl (by simp (disch:=first|exact za|fail) only [go_sem,seval,-List.reduceReplicate,reduceIte,Bool.false_eq_true,if_false,if_true,f4,n6,hL,hzl,zH,zE]<;>rfl) rfl ?_;exact⟨zT KF,zU KG,ka m5,ka m6,(by rw [zb (by decide),zb (by decide)])⟩
          · cases ho;have h3:=kL hall 0 rfl rfl;have d3:=zG KG 3 rfl h3;have h0:=kL hall 2 rfl rfl;have h1:=kL hall 3 rfl rfl;have h2:=kL hall 4 rfl rfl;have n6:=y8 m6 hL;have f2:=yl KF 2 rfl;refine yz rfl rfl (by simp (disch:=first|exact za|fail) only [go_sem,seval,-List.reduceReplicate,reduceIte,Bool.false_eq_true,if_false,if_true,f2,d3,n6,hL,hzl,zH,zE]<;>rfl) rfl ?_;exact⟨KF,kIs KG,(fun _=>kt (ze h0 (ze h1 (ze h2 (ze h3 zz))))),ka m6,(by (have e5:more L 5 5=true:=zF);(have e6:more L 5 6=L 6:=zb (by decide));(try simp only [e5,e6,n6,hL]);first | done | rfl | (simp only [e5,e6,n6,hL,if_true,if_false,Bool.false_eq_true];first | done | rfl | (simp (disch:=first|exact za|fail) only [go_sem,seval,-List.reduceReplicate,e5,e6,n6,hL,hzl,zH,zE]<;>rfl)))⟩
          · cases ho;have h4:=kL hall 0 rfl rfl;have d4:=zG KG 4 rfl h4;have h5:=kL hall 1 rfl rfl;have h0:=kL hall 2 rfl rfl;have h1:=kL hall 3 rfl rfl;have h2:=kL hall 4 rfl rfl;have h3:=kL hall 5 rfl rfl;have f3:=yl KF 3 rfl;refine yz rfl rfl (by simp (disch:=first|exact za|fail) only [go_sem,seval,-List.reduceReplicate,reduceIte,Bool.false_eq_true,if_false,if_true,f3,d4,h5,hL,hzl,zH,zE]<;>rfl) rfl ?_;exact⟨KF,kIs KG,ka m5,(fun _=>kt (ze h0 (ze h1 (ze h2 (ze h3 (ze h4 (ze h5 zz))))))),(by (have e5:more L 6 5=L 5:=zb (by decide));(have e6:more L 6 6=true:=zF);(try simp only [e5,e6,h5,hL]);first | done | rfl | (simp only [e5,e6,h5,hL,if_true,if_false,Bool.false_eq_true];first | done | rfl | (simp (disch:=first|exact za|fail) only [go_sem,seval,-List.reduceReplicate,e5,e6,h5,hL,hzl,zH,zE]<;>rfl)))⟩
          · cases ho;refine zg (.p (i64 0)) rfl rfl (by simp (disch:=first|exact za|fail) only [go_sem,seval,-List.reduceReplicate,hzl,zH,zE]<;>rfl) rfl ?_;exact⟨zT KF,zU KG,ka m5,ka m6,(by rw [zb (by decide),zb (by decide)])⟩
          · simp at ho
        · intro L env' H' hall hI
          obtain⟨KF,KG,_,_,rfl⟩:=hI
          have l5:=hall 5 (by decide)
          have l6:=hall 6 (by decide)
          have f0:=yl KF 0 rfl
          have f1:=yl KF 1 rfl
          have f2:=yl KF 2 rfl
          have f3:=yl KF 3 rfl
          have f4:=yl KF 4 rfl
          have g7:=zG KG 5 rfl (hall 7 (by decide))
          simp only [l5,l6,if_true]
          clear hall
          refine .q ?_;refine .rt Tryz.func32 (by rw [Tryz.results32]) (hx:=by simp (disch:=first|exact za|fail) only [go_sem,seval,-List.reduceReplicate,f2,f3,g7];rfl) (hR := ?_);simp (disch:=first|exact za|fail) only [go_sem,seval,-List.reduceReplicate,f2,f3,g7]
          exact h
end walks
end Go.Proofs.YtgflpgcogkdpgaaGreatDoor

/-
  Audits: a recorded session,by the reference.
-/
namespace Go.Proofs.YtgflpgcogkdpgaaGreatDoor
open Go Go.AL

def aQ (H:Hp) (p:Nat → Ses) (T L:List AB):Hp:=app ((H.new (.cells (zJ (p 0)))).new (.cells (zJ (p 1)))) (T++L)
def aB (H:Hp) (T:List AB):Nat:=H.n+2+T.length
section aq
variable {H:Hp} {p q:Nat → Ses} {T L:List AB} {a b c d e x y:AB} {o:Option AB} {s:Ses}
theorem zlJ (h0:p 0=q 0) (h1:p 1=q 1):aQ H p T L=aQ H q T L:=by rw [aQ,aQ,h0,h1]
theorem zwd:(aQ H p T L).n=aB H T+L.length:=by rw [aQ,app_n',n_new',n_new',List.length_append,aB];omega
theorem zwe:(aQ H p T L).new x=aQ H p T (L++[x]):=by rw [aQ,zm,List.append_assoc];rfl
theorem zC1:(aQ H p T L).f H.n=some (.cells (zJ (p 0))):=app_f' (by simp (disch:=first|exact za|fail) only [go_sem,seval])
theorem zC2:(aQ H p T L).f (H.n+1)=some (.cells (zJ (p 1))):=app_f' (by simp (disch:=first|exact za|fail) only [go_sem,seval])
theorem zyO:(aQ H p T L).set H.n (.cells (zJ s))=aQ H (upd p 0 s) T L:=by
 rw [aQ,zds (by simp only [n_new'];omega),aQ];congr 1;simp (disch:=first|exact za|fail) only [go_sem,seval];rfl
theorem zyP:(aQ H p T L).set (H.n+1) (.cells (zJ s))=aQ H (upd p 1 s) T L:=by
 rw [aQ,zds (by simp only [n_new'];omega),aQ];congr 1;simp (disch:=first|exact za|fail) only [go_sem,seval];rfl
theorem zlK {j:Nat}:(aQ H p T L).f (aB H T+j)=L[j]? := by
 rw [aB,show H.n+2+T.length+j=((H.new (.cells (zJ (p 0)))).new (.cells (zJ (p 1)))).n+(T.length+j) by simp only [n_new'];omega,aQ,zb3,List.getElem?_append_right (by omega),Nat.add_sub_cancel_left]
theorem zg2 {j:Nat} (hj:j < L.length):(aQ H p T L).set (aB H T+j) x=aQ H p T (L.set j x):=by
 rw [aB,show H.n+2+T.length+j=((H.new (.cells (zJ (p 0)))).new (.cells (zJ (p 1)))).n+(T.length+j) by simp only [n_new'];omega,aQ,zcw (by rw [List.length_append];omega),List.set_append_right _ _ (by omega),Nat.add_sub_cancel_left];rfl
theorem zC3:(aQ H p T []).n=aB H T:=zwd
theorem zC4:(aQ H p T [a]).n=aB H T+1:=zwd
theorem zzH:(aQ H p T [a,b]).n=aB H T+2:=zwd
theorem zC5:(aQ H p T [a,b,c]).n=aB H T+3:=zwd
theorem zC6:(aQ H p T [a,b,c,d]).n=aB H T+4:=zwd
theorem zzI:(aQ H p T (a :: L)).f (aB H T)=some a:=(zlK (j:=0)).trans rfl
theorem zC7:(aQ H p T (a :: b :: L)).f (aB H T+1)=some b:=(zlK (j:=1)).trans rfl
theorem zzJ:(aQ H p T (a :: b :: c :: L)).f (aB H T+2)=some c:=(zlK (j:=2)).trans rfl
theorem zC8:(aQ H p T (a :: b :: c :: d :: L)).f (aB H T+3)=some d:=(zlK (j:=3)).trans rfl
theorem zC9:(aQ H p T (a :: b :: c :: d :: e :: L)).f (aB H T+4)=some e:=(zlK (j:=4)).trans rfl
theorem zDa:(aQ H p T (a :: L)).set (aB H T) x=aQ H p T (x :: L):=(zg2 (j:=0) (by simp)).trans rfl
theorem zDb:(aQ H p T (a :: b :: L)).set (aB H T+1) x=aQ H p T (a :: x :: L):=(zg2 (j:=1) (by simp)).trans rfl
theorem zzK:(aQ H p T (a :: b :: c :: L)).set (aB H T+2) x=aQ H p T (a :: b :: x :: L):=(zg2 (j:=2) (by simp)).trans rfl
theorem zDc:(aQ H p T (a :: b :: c :: d :: L)).set (aB H T+3) x=aQ H p T (a :: b :: c :: x :: L):=(zg2 (j:=3) (by simp)).trans rfl
theorem zDd:(aQ H p T (a :: b :: c :: d :: e :: L)).set (aB H T+4) x=aQ H p T (a :: b :: c :: d :: x :: L):=(zg2 (j:=4) (by simp)).trans rfl
theorem zDe:app ((H.new (.cells (zJ (p 0)))).new (.cells (zJ (p 1)))) T=aQ H p T []:=by rw [aQ,List.append_nil]
theorem zA3:aQ H p T L=app ((H.new (.cells (zJ (p 0)))).new (.cells (zJ (p 1)))) (T++L):=rfl
theorem zwf:(aQ H p T L).trunc H.n=H:=by
 rw [aQ,zhU (by simp only [n_new'];omega)];simp (disch:=first|exact za|fail) only [go_sem,seval]
theorem zA4 (h:Bel H.n H):Bel H.n (aQ H p T L) :=
 zad (zv (zv h (Nat.le_refl _)) (by simp only [n_new'];omega)) (by simp only [n_new'];omega)
theorem zwg {a b:Ses}:Later ((H.new (.cells (zJ a))).new (.cells (zJ b))) [(H.n,.cells (zJ (q 0))),(H.n+1,.cells (zJ (q 1)))] (aQ H q T L) :=
 .mk (T++L) (by rw [zA3];congr 1;simp (disch:=first|exact za|fail) only [go_sem,seval,zc,zf])
def aT (H:Hp) (p:Nat → Ses) (T:List AB) (a b:AB) (o:Option AB):Hp:=aQ H p T (a :: b :: o.toList)
theorem zDf:aQ H p T [a,b]=aT H p T a b none:=rfl
theorem zDg:aT H p T a b (some c)=aQ H p T [a,b,c]:=rfl
theorem zEk:(aT H p T a b o).f (aB H T)=some a:=zzI
theorem zEl:(aT H p T a b (some c)).f (aB H T+2)=some c:=zzJ
theorem zEm:(aT H p T a b none).n=aB H T+2:=zzH
theorem zA5:(aT H p T a b none).new x=aT H p T a b (some x):=zwe
theorem zA6:(aT H p T a b (some c)).set (aB H T+2) x=aT H p T a b (some x):=zzK
end aq
attribute [go_sem] zwe zC1 zC2 zyO zyP zC3 zC4 zzH zC5 zC6 zzI zC7 zzJ zC8 zC9 zDa zDb zzK zDc zDd zwf zEk zEl zEm zA5 zA6
section walks
variable {G:Globs} {r1 r2:Nat} {m1:List (Int × Rule)} {m2:List (Int × Int)}
set_option maxHeartbeats 2000000 in
set_option maxRecDepth 20000 in
theorem zbM (g:GR G r1 r2 m1 m2) (l:List Msg) (hl:l.length≤1000) (hm : ∀ i,i < l.length → (nth l i).Ok) (H:Hp) (R:AV → Hp → Prop) (h:R (.p (i64 (aud l))) H) :
 ACall Tryz.prog G 12 [.p (.sl false 38 (pl ym l))] H R:=by
 unfold aud at h
 refine ACall.of_run (raw:=[]) Tryz.func12 rfl Tryz.ntmps12 (by simp) fun hbel => ?_
 refine .q ?_;refine .text ?_;simp (disch:=first|exact za|fail) only [go_sem,seval,-List.reduceReplicate]
 refine .q ?_;refine .text ?_;simp (disch:=first|exact za|fail) only [go_sem,seval,-List.reduceReplicate]
 by_cases h0:l.length=0
 · rw [if_pos h0] at h
   have d0:((l.length:Int) == 0)=true:=by rw [h0];rfl
   refine .q ?_;refine .ifT (by simp (disch:=first|exact za|fail) only [go_sem,seval,-List.reduceReplicate,d0]) ?_
   refine .q ?_;refine .text ?_;simp (disch:=first|exact za|fail) only [go_sem,seval,-List.reduceReplicate]
   refine .q ?_;refine .rt Tryz.func12 (by rw [Tryz.results12]) (hR := ?_);simp (disch:=first|exact za|fail) only [go_sem,seval,-List.reduceReplicate]
   exact h
 · rw [if_neg h0] at h
   have d0:((l.length:Int) == 0)=false:=beq_eq_false_iff_ne.2 (by omega)
   have hl0:0 < l.length:=by omega
   have hid:=(hm 0 hl0).session
   refine .q ?_;refine .ifF (by simp (disch:=first|exact za|fail) only [go_sem,seval,-List.reduceReplicate,d0]) ?_
   refine .skip ?_
   generalize hsi:(nth l 0).session=si at *
   refine .q ?_;refine .text ?_;simp (disch:=first|exact za|fail) only [go_sem,seval,-List.reduceReplicate,hsi]
   by_cases h1:si < 0
   · rw [if_pos (.inl h1)] at h
     have d1:decide (si < 0)=true:=decide_eq_true h1
     simp (disch:=first|exact za|fail) only [go_sem,seval,-List.reduceReplicate,d1]
     refine .q ?_;refine .ifT (by simp (disch:=first|exact za|fail) only [go_sem,seval,-List.reduceReplicate]) ?_
     refine .q ?_;refine .text ?_;simp (disch:=first|exact za|fail) only [go_sem,seval,-List.reduceReplicate]
     refine .q ?_;refine .rt Tryz.func12 (by rw [Tryz.results12]) (hR := ?_);simp (disch:=first|exact za|fail) only [go_sem,seval,-List.reduceReplicate]
     exact h
   · have d1:decide (si < 0)=false:=decide_eq_false h1
     simp (disch:=first|exact za|fail) only [go_sem,seval,-List.reduceReplicate,d1,hsi]
     by_cases h2:2147483647 < si
     · rw [if_pos (.inr h2)] at h
       have d2:decide (2147483647 < si)=true:=decide_eq_true h2
       refine .q ?_;refine .ifT (by simp (disch:=first|exact za|fail) only [go_sem,seval,-List.reduceReplicate,d2]) ?_
       refine .q ?_;refine .text ?_;simp (disch:=first|exact za|fail) only [go_sem,seval,-List.reduceReplicate]
       refine .q ?_;refine .rt Tryz.func12 (by rw [Tryz.results12]) (hR := ?_);simp (disch:=first|exact za|fail) only [go_sem,seval,-List.reduceReplicate]
       exact h
     · rw [if_neg (by omega)] at h
       have d2:decide (2147483647 < si)=false:=decide_eq_false h2
       refine .q ?_;refine .ifF (by simp (disch:=first|exact za|fail) only [go_sem,seval,-List.reduceReplicate,d2]) ?_
       refine .skip ?_
       refine .q ?_;refine .text ?_;simp (disch:=first|exact za|fail) only [go_sem,seval,-List.reduceReplicate,hsi]
       refine CallK.of (fun R h=>zcC si 2147483647 _ R h) ?_;simp (disch:=first|exact za|fail) only [go_sem,seval,-List.reduceReplicate]
       refine .q ?_;refine .text ?_;simp (disch:=first|exact za|fail) only [go_sem,seval,-List.reduceReplicate,hsi]
       refine CallK.of (fun R h=>zcC si 2147483647 _ R h) ?_;simp (disch:=first|exact za|fail) only [go_sem,seval,-List.reduceReplicate]
       refine .q ?_;refine .text ?_;simp (disch:=first|exact za|fail) only [go_sem,seval,-List.reduceReplicate]
       refine .q ?_;refine .loopF [0,3,4] (fun i=>[(5,.p (i64 i))]) (fun i=>[(H.n,.cells (zJ (sd (zam si) l i 0))),(H.n+1,.cells (zJ (sd (zam si) l i 1)))]) (fun i=>zdY (er (zam si) l) i=0) (0) (l.length) (by omega) ?_ (by first | rfl | (simp (disch:=first|exact za|fail) only [go_sem,seval,-List.reduceReplicate]<;>rfl)) ?_ ?_ ?_
       · simp (disch:=first|exact za|fail) only [go_sem,seval,-List.reduceReplicate]<;>(repeat' (first | rfl | refine And.intro ?_ ?_))
       rotate_left 1
       intro env T E hQ;simp (disch:=first|exact za|fail) only [go_sem,seval,-List.reduceReplicate] at E
       rotate_left 1
       intro i env T hi0 hi E hQ ihE;simp (disch:=first|exact za|fail) only [go_sem,seval,-List.reduceReplicate] at E
       rotate_left 1
       · rfl
       · rw [hQ] at h
         refine .q ?_;refine .text ?_;simp (disch:=first|exact za|fail) only [go_sem,seval,-List.reduceReplicate,E,zc,zf]
         refine .q ?_;refine .ifF (by simp (disch:=first|exact za|fail) only [go_sem,seval,-List.reduceReplicate]) ?_
         refine .q ?_;refine .text ?_;simp (disch:=first|exact za|fail) only [go_sem,seval,-List.reduceReplicate]
         refine .q ?_;refine .rt Tryz.func12 (by rw [Tryz.results12]) (hR := ?_);simp (disch:=first|exact za|fail) only [go_sem,seval,-List.reduceReplicate]
         exact h
       · have hgd:=zjq (p0:=zam si) (l:=l) (dd:=2147483647) (fun k _=>Good.new' hid) hl hm i (by omega)
         obtain⟨k,hk1,hk2⟩ : ∃ k:Nat,i % 2=k∧k < 2:=⟨i % 2,rfl,Nat.mod_lt _ (by decide)⟩
         have hk3:(i:Int) % 2=(k:Int):=by rw [←hk1];omega
         have o1:=(hgd k hk2).ok (by omega)
         have o2:=(hgd (1 - k) (by omega)).ok (by omega)
         refine .q ?_;refine .text ?_;simp (disch:=first|exact za|fail) only [go_sem,seval,-List.reduceReplicate,E,zc,zf]
         refine .q ?_;refine .ifT (by simp (disch:=first|exact za|fail) only [go_sem,seval,-List.reduceReplicate]) ?_
         have e1:(zdX (sd (zam si) l i) k (nth l i)).2=er (zam si) l i:=by rw [er,hk1]
         have e2:(zdX (sd (zam si) l i) k (nth l i)).1=sd (zam si) l (i+1):=by rw [sd,hk1]
         have hmi:=hm i hi
         have hit:=zdg (n:=l.length) hQ
         have hnx:=zck hQ
         generalize hx:nth l i=m at *
         rw [←e1] at hit hnx
         rw [←e2] at ihE
         clear e1 e2
         generalize sd (zam si) l i=p at *
         rw [zDe]
         unfold zdX at hit hnx ihE
         refine .q ?_;refine .text ?_;simp (disch:=first|exact za|fail) only [go_sem,seval,-List.reduceReplicate,E]
         refine .q ?_;refine .text ?_;simp (disch:=first|exact za|fail) only [go_sem,seval,-List.reduceReplicate,E]
         refine .q ?_;refine .text ?_;simp (disch:=first|exact za|fail) only [go_sem,seval,-List.reduceReplicate,E,hk3]
         refine .q ?_;refine .cutH [0,3,4,5,6,7] [] (aQ H p T [.cells (zJ (p k)),.cells (zJ (p (1 - k)))]) (fun ihF => ?_) (fun env F => ?_)
         rotate_left 1
         simp (disch:=first|exact za|fail) only [go_sem,seval,-List.reduceReplicate,E] at F
         rotate_left 1
         · have hkk:k=0 ∨ k=1:=by omega
           rcases hkk with rfl | rfl
           · refine .q ?_;refine .ifF (by simp (disch:=first|exact za|fail) only [go_sem,seval,-List.reduceReplicate]) ?_
             refine .skip ?_
             first | (refine ihF _ _ ?_ ?_) | (refine .z rfl ?_;refine ihF _ _ ?_ ?_) | (refine .z rfl ?_;refine .z rfl ?_;refine ihF _ _ ?_ ?_) | (refine .z rfl ?_;refine .z rfl ?_;refine .z rfl ?_;refine ihF _ _ ?_ ?_)
             · simp (disch:=first|exact za|fail) only [go_sem,seval,-List.reduceReplicate,E]<;>(repeat' (first | rfl | refine And.intro ?_ ?_))
             · first | rfl | (simp (disch:=first|exact za|fail) only [go_sem,seval,-List.reduceReplicate,E]<;>(try rfl))
           · refine .q ?_;refine .ifT (by simp (disch:=first|exact za|fail) only [go_sem,seval,-List.reduceReplicate]) ?_
             refine .q ?_;refine .text ?_;simp (disch:=first|exact za|fail) only [go_sem,seval,-List.reduceReplicate,E]
             refine .q ?_;refine .text ?_;simp (disch:=first|exact za|fail) only [go_sem,seval,-List.reduceReplicate,E]
             first | (refine ihF _ _ ?_ ?_) | (refine .z rfl ?_;refine ihF _ _ ?_ ?_) | (refine .z rfl ?_;refine .z rfl ?_;refine ihF _ _ ?_ ?_) | (refine .z rfl ?_;refine .z rfl ?_;refine .z rfl ?_;refine ihF _ _ ?_ ?_)
             · simp (disch:=first|exact za|fail) only [go_sem,seval,-List.reduceReplicate,E]<;>(repeat' (first | rfl | refine And.intro ?_ ?_))
             · first | rfl | (simp (disch:=first|exact za|fail) only [go_sem,seval,-List.reduceReplicate,E]<;>(try rfl))
         · have hsend : ∀ o R,R (.tup [.p (y9 (send (p k) m).1),.p (.sl false 1 (pl b8 (send (p k) m).2.1)),.p (i64 (send (p k) m).2.2)]) (aT H p T (.cells (zJ (p k))) (.cells (zJ (p (1 - k)))) o) → ACall Tryz.prog G 31 [.p (y9 (p k)),.p (ym m)] (aT H p T (.cells (zJ (p k))) (.cells (zJ (p (1 - k)))) o) R:=fun o R h=>zbd (p k) o1 m hmi _ R h
           have gE:=zg1 (s:=p k) (m:=m)
           generalize send (p k) m=sd0 at *
           obtain⟨S,e,c⟩:=sd0
           simp only at hit hnx ihE hsend gE
           rw [zDf]
           (refine .q ?_)
           refine .openInv (fun L env' H'=>kF env' [(0,.p (.sl false 38 (pl ym l))),(3,.ptr H.n 0),(4,.ptr (H.n+1) 0),(5,.p (i64 i)),(6,.ptr (aB H T) 0),(7,.ptr (aB H T+1) 0)]∧kI L env' [(0,53,.p (y9 (p k))),(1,54,.p (.sl false 38 (pl ym l))),(2,55,.p (i64 i)),(3,56,.ip 38 (pl ym l) i 0),(4,57,.p (ym m)),(5,58,.tup [.p (y9 S),.p (.sl false 1 (pl b8 e)),.p (i64 c)]),(6,52,.tup [.p (y9 S),.p (.sl false 1 (pl b8 e)),.p (i64 c)]),(7,59,.p (y9 S)),(8,60,.p (.sl false 1 (pl b8 e))),(9,61,.p (i64 c)),(10,8,.ptr (aB H T+2) 0),(12,9,.p (.sl false 1 (pl b8 e))),(13,10,.p (i64 c))]∧(L 11=true → allT L [0,1,2,3,4,5,6,7,10])∧H'=(aT H p T (.cells (zJ (p k))) (.cells (zJ (p (1 - k)))) (if L 11 then some (.cells (zJ S)) else if L 10 then some (.cells (nC 0 0)) else none))) follows (by kernel_rfl) ?_ ?_ ?_
           · exact⟨(by simp (disch:=first|exact za|fail) only [go_sem,seval,-List.reduceReplicate,kFi,kFn,and_self,F,E,hx]),(fun _ _ h=>by cases h),(fun h=>by cases h),(by first | rfl | (simp only [Bool.false_eq_true,if_false];first | rfl | (simp (disch:=first|exact za|fail) only [go_sem,seval,-List.reduceReplicate,F,E,hx]<;>rfl)))⟩
           · intro i o L env' H' ho hL hall hI
             obtain⟨KF,KG,m11,rfl⟩:=hI
             rcases i with _ | _ | _ | _ | _ | _ | _ | _ | _ | _ | _ | _ | _ | _ | i
             · cases ho;have n11:=y8 m11 hL;have f4:=yl KF 4 rfl;refine zg (.p (y9 (p k))) rfl rfl (by simp (disch:=first|exact za|fail) only [go_sem,seval,-List.reduceReplicate,reduceIte,Bool.false_eq_true,if_false,if_true,f4,n11,hL,hx]<;>rfl) rfl ?_;exact⟨zT KF,zU KG,ka m11,(by rw [zb (by decide),zb (by decide)])⟩
             · cases ho;have f0:=yl KF 0 rfl;refine zg (.p (.sl false 38 (pl ym l))) rfl rfl (by simp (disch:=first|exact za|fail) only [go_sem,seval,-List.reduceReplicate,f0,hx]<;>rfl) rfl ?_;exact⟨zT KF,zU KG,ka m11,(by rw [zb (by decide),zb (by decide)])⟩
             · cases ho;have f3:=yl KF 3 rfl;refine zg (.p (i64 i)) rfl rfl (by simp (disch:=first|exact za|fail) only [go_sem,seval,-List.reduceReplicate,f3,hx]<;>rfl) rfl ?_;exact⟨zT KF,zU KG,ka m11,(by rw [zb (by decide),zb (by decide)])⟩
             · cases ho;have d1:=zG KG 1 rfl (kL hall 0 rfl rfl);have d2:=zG KG 2 rfl (kL hall 1 rfl rfl);refine zg (.ip 38 (pl ym l) i 0) rfl rfl (by simp (disch:=first|exact za|fail) only [go_sem,seval,-List.reduceReplicate,d1,d2,hx]<;>rfl) rfl ?_;exact⟨zT KF,zU KG,ka m11,(by rw [zb (by decide),zb (by decide)])⟩
             · cases ho;have d3:=zG KG 3 rfl (kL hall 0 rfl rfl);have n11:=y8 m11 hL;refine zg (.p (ym m)) rfl rfl (by simp (disch:=first|exact za|fail) only [go_sem,seval,-List.reduceReplicate,reduceIte,Bool.false_eq_true,if_false,if_true,d3,n11,hL,hx]<;>rfl) rfl ?_;exact⟨zT KF,zU KG,ka m11,(by rw [zb (by decide),zb (by decide)])⟩
             · cases ho;have d0:=zG KG 0 rfl (kL hall 0 rfl rfl);have d4:=zG KG 4 rfl (kL hall 1 rfl rfl);have n11:=y8 m11 hL;(try simp only [n11,if_true,if_false,Bool.false_eq_true]);refine yT rfl rfl (by simp (disch:=first|exact za|fail) only [go_sem,seval,-List.reduceReplicate,reduceIte,Bool.false_eq_true,if_false,if_true,d0,d4,n11,hL,hx]<;>rfl) rfl (by simp (disch:=first|exact za|fail) only [go_sem,seval,-List.reduceReplicate,reduceIte,Bool.false_eq_true,if_false,if_true,d0,d4,n11,hL,hx]<;>rfl) (fun R h=>hsend _ R h) ?_;exact⟨zT KF,zU KG,ka m11,(by (have e10:more L 5 10=L 10:=zb (by decide));(have e11:more L 5 11=L 11:=zb (by decide));(try simp only [e10,e11,n11]);first | done | rfl | (simp only [e10,e11,n11,if_true,if_false,Bool.false_eq_true];first | done | rfl | (simp (disch:=first|exact za|fail) only [go_sem,seval,-List.reduceReplicate,e10,e11,n11,hx]<;>rfl)))⟩
             · cases ho;have d5:=zG KG 5 rfl (kL hall 0 rfl rfl);refine zg (.tup [.p (y9 S),.p (.sl false 1 (pl b8 e)),.p (i64 c)]) rfl rfl (by simp (disch:=first|exact za|fail) only [go_sem,seval,-List.reduceReplicate,d5,hx]<;>rfl) rfl ?_;exact⟨zT KF,zU KG,ka m11,(by rw [zb (by decide),zb (by decide)])⟩
             · cases ho;have d6:=zG KG 6 rfl (kL hall 0 rfl rfl);refine zg (.p (y9 S)) rfl rfl (by simp (disch:=first|exact za|fail) only [go_sem,seval,-List.reduceReplicate,d6,hx]<;>rfl) rfl ?_;exact⟨zT KF,zU KG,ka m11,(by rw [zb (by decide),zb (by decide)])⟩
             · cases ho;have d6:=zG KG 6 rfl (kL hall 0 rfl rfl);refine zg (.p (.sl false 1 (pl b8 e))) rfl rfl (by simp (disch:=first|exact za|fail) only [go_sem,seval,-List.reduceReplicate,d6,hx]<;>rfl) rfl ?_;exact⟨zT KF,zU KG,ka m11,(by rw [zb (by decide),zb (by decide)])⟩
             · cases ho;have d6:=zG KG 6 rfl (kL hall 0 rfl rfl);refine zg (.p (i64 c)) rfl rfl (by simp (disch:=first|exact za|fail) only [go_sem,seval,-List.reduceReplicate,d6,hx]<;>rfl) rfl ?_;exact⟨zT KF,zU KG,ka m11,(by rw [zb (by decide),zb (by decide)])⟩
             · cases ho;have n11:=y8 m11 hL;(try simp only [n11,hL,if_true,if_false,Bool.false_eq_true]);refine za8 (.ptr (aB H T+2) 0) rfl rfl (by simp (disch:=first|exact za|fail) only [go_sem,seval,-List.reduceReplicate,reduceIte,Bool.false_eq_true,if_false,if_true,n11,hL,hx]<;>rfl) rfl ?_;exact⟨zT KF,zU KG,ka m11,(by (have e10:more L 10 10=true:=zF);(have e11:more L 10 11=L 11:=zb (by decide));(try simp only [e10,e11,n11,hL]);first | done | rfl | (simp only [e10,e11,n11,hL,if_true,if_false,Bool.false_eq_true];first | done | rfl | (simp (disch:=first|exact za|fail) only [go_sem,seval,-List.reduceReplicate,e10,e11,n11,hL,hx]<;>rfl)))⟩
             · cases ho;have h10:=kL hall 0 rfl rfl;have d10:=zG KG 10 rfl h10;have h7:=kL hall 1 rfl rfl;have d7:=zG KG 7 rfl h7;have h5:=kL hall 2 rfl rfl;have h0:=kL hall 3 rfl rfl;have h1:=kL hall 4 rfl rfl;have h2:=kL hall 5 rfl rfl;have h3:=kL hall 6 rfl rfl;have h4:=kL hall 7 rfl rfl;have h6:=kL hall 9 rfl rfl;refine yz rfl rfl (by simp (disch:=first|exact za|fail) only [go_sem,seval,-List.reduceReplicate,reduceIte,Bool.false_eq_true,if_false,if_true,d7,d10,h10,hL,hx]<;>rfl) rfl ?_;exact⟨KF,kIs KG,(fun _=>kt (ze h0 (ze h1 (ze h2 (ze h3 (ze h4 (ze h5 (ze h6 (ze h7 (ze h10 zz)))))))))),(by (have e10:more L 11 10=L 10:=zb (by decide));(have e11:more L 11 11=true:=zF);(try simp only [e10,e11,h10,hL]);first | done | rfl | (simp only [e10,e11,h10,hL,if_true,if_false,Bool.false_eq_true];first | done | rfl | (simp (disch:=first|exact za|fail) only [go_sem,seval,-List.reduceReplicate,e10,e11,h10,hL,hx]<;>rfl)))⟩
             · cases ho;have d8:=zG KG 8 rfl (kL hall 0 rfl rfl);refine zg (.p (.sl false 1 (pl b8 e))) rfl rfl (by simp (disch:=first|exact za|fail) only [go_sem,seval,-List.reduceReplicate,d8,hx]<;>rfl) rfl ?_;exact⟨zT KF,zU KG,ka m11,(by rw [zb (by decide),zb (by decide)])⟩
             · cases ho;have d9:=zG KG 9 rfl (kL hall 0 rfl rfl);refine zg (.p (i64 c)) rfl rfl (by simp (disch:=first|exact za|fail) only [go_sem,seval,-List.reduceReplicate,d9,hx]<;>rfl) rfl ?_;exact⟨zT KF,zU KG,ka m11,(by rw [zb (by decide),zb (by decide)])⟩
             · simp at ho
           · intro L env' H' hall hI
             obtain⟨KF,KG,_,rfl⟩:=hI
             have l10:=hall 10 (by decide)
             have l11:=hall 11 (by decide)
             have f0:=yl KF 0 rfl
             have f1:=yl KF 1 rfl
             have f2:=yl KF 2 rfl
             have f3:=yl KF 3 rfl
             have f4:=yl KF 4 rfl
             have f5:=yl KF 5 rfl
             have g10:=zG KG 10 rfl (hall 10 (by decide))
             have g12:=zG KG 11 rfl (hall 12 (by decide))
             have g13:=zG KG 12 rfl (hall 13 (by decide))
             simp only [l10,l11,if_true]
             clear hall
             rw [zDg]
             refine .q ?_;refine .text ?_;simp (disch:=first|exact za|fail) only [go_sem,seval,-List.reduceReplicate,g13]
             have hbel:=fun p L=>zA4 (p:=p) (T:=T) (L:=L) hbel
             by_cases c1:c=0
             · have d1:(c != 0)=false:=by simpa using c1
               subst c1
               rw [if_neg (by simp)] at hit hnx ihE
               refine .q ?_;refine .ifF (by simp (disch:=first|exact za|fail) only [go_sem,seval,-List.reduceReplicate,d1]) ?_
               refine .skip ?_
               refine .q ?_;refine .open [] follows (by kernel_rfl) ?_;simp (disch:=first|exact za|fail) only [go_sem,seval,-List.reduceReplicate,f0,f3,g12,hx]
               refine CallD.still (fun R h=>zaU m hmi _ R h) ?_;simp (disch:=first|exact za|fail) only [go_sem,seval,-List.reduceReplicate]
               by_cases c2:e=enc m
               · have d2:decide (e=enc m)=true:=decide_eq_true c2
                 rw [if_neg (by simp [c2])] at hit hnx ihE
                 rw [←c2]
                 refine .q ?_;refine .ifF (by simp (disch:=first|exact za|fail) only [go_sem,seval,-List.reduceReplicate,zfD,c2]) ?_
                 refine .skip ?_
                 have hrc : ∀ H',∀ R,R (.tup [.p (y9 (recv (p (1 - k)) e 0).1),.p (ym (recv (p (1 - k)) e 0).2.1),.p (i64 (recv (p (1 - k)) e 0).2.2)]) H' → ACall Tryz.prog G 32 [.p (y9 (p (1 - k))),.p (.sl false 1 (pl b8 e)),.p (i64 0)] H' R:=fun H' R h=>zbL (p (1 - k)) o2 e (by omega) 0 H' R h
                 generalize recv (p (1 - k)) e 0=rc at *
                 obtain⟨S2,M2,c3⟩:=rc
                 simp only at hit hnx ihE hrc
                 refine .q ?_;refine .text ?_;simp (disch:=first|exact za|fail) only [go_sem,seval,-List.reduceReplicate,f5,g12]
                 refine CallK.of (fun R h=>hrc _ R h) ?_;simp (disch:=first|exact za|fail) only [go_sem,seval,-List.reduceReplicate]
                 refine .q ?_;refine .text ?_;simp (disch:=first|exact za|fail) only [go_sem,seval,-List.reduceReplicate]
                 by_cases c4:c3=0
                 · have d4:(c3 != 0)=false:=by simpa using c4
                   subst c4
                   rw [if_neg (by simp)] at hit hnx ihE
                   simp only at hnx ihE
                   refine .q ?_;refine .ifF (by simp (disch:=first|exact za|fail) only [go_sem,seval,-List.reduceReplicate,d4]) ?_
                   refine .skip ?_
                   refine .q ?_;refine .text ?_;simp (disch:=first|exact za|fail) only [go_sem,seval,-List.reduceReplicate,f1,g10]
                   refine .q ?_;refine .text ?_;simp (disch:=first|exact za|fail) only [go_sem,seval,-List.reduceReplicate,f2,g10]
                   refine .q ?_;refine .text ?_;simp (disch:=first|exact za|fail) only [go_sem,seval,-List.reduceReplicate,f3,hk3]
                   refine .q ?_;refine .cutH [0,3,4,5] [] (aQ H (upd (upd p k S) (1 - k) S2) T [.cells (zJ (p k)),.cells (zJ (p (1 - k))),.cells (zJ S),.cells (zJ S2),.cells (yR M2)]) (fun ihK => ?_) (fun env K => ?_)
                   rotate_left 1
                   simp (disch:=first|exact za|fail) only [go_sem,seval,-List.reduceReplicate,f0,f1,f2,f3] at K
                   rotate_left 1
                   · have hkk:k=0 ∨ k=1:=by omega
                     rcases hkk with rfl | rfl
                     · refine .q ?_;refine .ifF (by simp (disch:=first|exact za|fail) only [go_sem,seval,-List.reduceReplicate]) ?_
                       refine .skip ?_
                       first | (refine ihK _ _ ?_ ?_) | (refine .z rfl ?_;refine ihK _ _ ?_ ?_) | (refine .z rfl ?_;refine .z rfl ?_;refine ihK _ _ ?_ ?_) | (refine .z rfl ?_;refine .z rfl ?_;refine .z rfl ?_;refine ihK _ _ ?_ ?_)
                       · simp (disch:=first|exact za|fail) only [go_sem,seval,-List.reduceReplicate,f0,f1,f2,f3]<;>(repeat' (first | rfl | refine And.intro ?_ ?_))
                       · exact zlJ rfl rfl
                     · refine .q ?_;refine .ifT (by simp (disch:=first|exact za|fail) only [go_sem,seval,-List.reduceReplicate]) ?_
                       refine .q ?_;refine .text ?_;simp (disch:=first|exact za|fail) only [go_sem,seval,-List.reduceReplicate,f1,g10]
                       refine .q ?_;refine .text ?_;simp (disch:=first|exact za|fail) only [go_sem,seval,-List.reduceReplicate,f2,g10]
                       first | (refine ihK _ _ ?_ ?_) | (refine .z rfl ?_;refine ihK _ _ ?_ ?_) | (refine .z rfl ?_;refine .z rfl ?_;refine ihK _ _ ?_ ?_) | (refine .z rfl ?_;refine .z rfl ?_;refine .z rfl ?_;refine ihK _ _ ?_ ?_)
                       · simp (disch:=first|exact za|fail) only [go_sem,seval,-List.reduceReplicate,f0,f1,f2,f3]<;>(repeat' (first | rfl | refine And.intro ?_ ?_))
                       · exact zlJ rfl rfl
                   · refine .q ?_;refine .text ?_;simp (disch:=first|exact za|fail) only [go_sem,seval,-List.reduceReplicate,K]
                     first | (refine ihE _ _ ?_ (hnx trivial) ?_) | (refine .z rfl ?_;refine ihE _ _ ?_ (hnx trivial) ?_) | (refine .z rfl ?_;refine .z rfl ?_;refine ihE _ _ ?_ (hnx trivial) ?_) | (refine .z rfl ?_;refine .z rfl ?_;refine .z rfl ?_;refine ihE _ _ ?_ (hnx trivial) ?_)
                     · simp (disch:=first|exact za|fail) only [go_sem,seval,-List.reduceReplicate,K]<;>(repeat' (first | rfl | refine And.intro ?_ ?_))
                     · exact zwg
                 · have d4:(c3 != 0)=true:=by simpa using c4
                   rw [if_pos c4] at hit
                   rw [hit c4 hi] at h
                   refine .q ?_;refine .ifT (by simp (disch:=first|exact za|fail) only [go_sem,seval,-List.reduceReplicate,d4]) ?_
                   refine .q ?_;refine .text ?_;simp (disch:=first|exact za|fail) only [go_sem,seval,-List.reduceReplicate]
                   refine .q ?_;refine .rt Tryz.func12 (by rw [Tryz.results12]) (hR := ?_);simp (disch:=first|exact za|fail) only [go_sem,seval,-List.reduceReplicate]
                   exact h
               · rw [if_pos c2] at hit
                 rw [hit (show (290:Int)≠0 by decide) hi] at h
                 have d2:decide (e=enc m)=false:=decide_eq_false c2
                 refine .q ?_;refine .ifT (by simp (disch:=first|exact za|fail) only [go_sem,seval,-List.reduceReplicate,zfD,d2]) ?_
                 refine .q ?_;refine .text ?_;simp (disch:=first|exact za|fail) only [go_sem,seval,-List.reduceReplicate]
                 refine .q ?_;refine .rt Tryz.func12 (by rw [Tryz.results12]) (hR := ?_);simp (disch:=first|exact za|fail) only [go_sem,seval,-List.reduceReplicate]
                 exact h
             · have d1:(c != 0)=true:=by simpa using c1
               rw [if_pos c1] at hit
               rw [hit c1 hi] at h
               refine .q ?_;refine .ifT (by simp (disch:=first|exact za|fail) only [go_sem,seval,-List.reduceReplicate,d1]) ?_
               refine .q ?_;refine .text ?_;simp (disch:=first|exact za|fail) only [go_sem,seval,-List.reduceReplicate,g13]
               refine .q ?_;refine .rt Tryz.func12 (by rw [Tryz.results12]) (hR := ?_);simp (disch:=first|exact za|fail) only [go_sem,seval,-List.reduceReplicate]
               exact h
end walks
end Go.Proofs.YtgflpgcogkdpgaaGreatDoor

/-
  Audits: circuits as data,the number of challenges,the bounds of what is used.
-/
namespace Go.Proofs.YtgflpgcogkdpgaaGreatDoor
open Go Go.AL

def tab {α:Type} (f:Nat → α) (n:Nat):List α:=(List.range n).map f
section tab
variable {α:Type} {f g:Nat → α} {n i:Nat}
theorem zez:tab f 0=[]:=rfl
theorem yU:tab f (n+1)=tab f n++[f n]:=by simp [tab,List.range_succ]
theorem zbZ:(tab f n).length=n:=by simp [tab]
theorem zfG [Inhabited α] (h:i < n):nth (tab f n) i=f i:=by simp [tab,nth,h]
end tab
attribute [go_sem] zbZ

structure Gate where
 l:Int
 r:Int
 c:U
 a:U
 b:U
 d:U
 deriving DecidableEq

instance:Inhabited Gate:=⟨⟨0,0,0,0,0,0⟩⟩

structure Circ where
 inputs:Int
 layers:List (List Gate)
 sums:Int
 deriving DecidableEq

def zcm (g:Gate):PV := .agg [i64 g.l,i64 g.r,zw g.c,zw g.a,zw g.b,zw g.d]
def zcn (c:Circ):PV := .agg [i64 c.inputs,.sl false 1 (pl (sle 6 zcm) c.layers),i64 c.sums]
def gc (g:Gate):List AV:=[.p (i64 g.l),.p (i64 g.r),.p (zw g.c),.p (zw g.a),.p (zw g.b),.p (zw g.d)]
def cc (c:Circ):List AV:=[.p (i64 c.inputs),.p (.sl false 1 (pl (sle 6 zcm) c.layers)),.p (i64 c.sums)]

section enc
variable {g:Gate} {c:Circ} {l:List Gate} {i s:Int} {x y z u:U}
theorem zA7:gc g=[.p (i64 g.l),.p (i64 g.r),.p (zw g.c),.p (zw g.a),.p (zw g.b),.p (zw g.d)]:=rfl
theorem zA8:cc c=[.p (i64 c.inputs),.p (.sl false 1 (pl (sle 6 zcm) c.layers)),.p (i64 c.sums)]:=rfl
theorem zog:(zcm g).cells=[i64 g.l,i64 g.r,zw g.c,zw g.a,zw g.b,zw g.d]:=rfl
theorem zoh:(zcm g).isAgg=true:=rfl
theorem zoi:(zcm g).aggOf 0 6=zcm g:=rfl
theorem zoj:(zcn c).aggOf 0 3=zcn c:=rfl
theorem zlL:(AV.p (zcm g)).isAggV=true:=rfl
theorem zrX:(zcm g).weak=zcm g:=rfl
theorem zok:(zcm g).weak1=zcm g:=rfl
theorem zlM:zi (.p (zcm g))=some (gc g):=rfl
theorem zrY:PV.agg [i64 i,i64 s,zw x,zw y,zw z,zw u]=zcm ⟨i,s,x,y,z,u⟩:=rfl
theorem zol:zq [.p (i64 i),.p (i64 s),.p (zw x),.p (zw y),.p (zw z),.p (zw u)] = .p (zcm ⟨i,s,x,y,z,u⟩):=rfl
theorem zom {ls:List (List Gate)}:zq [.p (i64 i),.p (.sl false 1 (pl (sle 6 zcm) ls)),.p (i64 s)] = .p (zcn ⟨i,ls,s⟩):=rfl
theorem zlN {b:Bool}:zq [.p (i64 i),.p (.sl b 1 []),.p (i64 s)] = .p (.agg [i64 i,.sl b 1 [],i64 s]):=rfl
theorem zlO {α v:Nat} {ls:List (List Gate)}:zq [.p (i64 i),.sl α v 1 (pl (sle 6 zcm) ls),.p (i64 s)] = .p (zcn ⟨i,ls,s⟩):=rfl
theorem zwh:(⟨g.l,g.r,g.c,g.a,g.b,g.d⟩:Gate)=g:=rfl
theorem zon:(zcn c).cells=[i64 c.inputs,.sl false 1 (pl (sle 6 zcm) c.layers),i64 c.sums]:=rfl
theorem zoo:(zcn c).isAgg=true:=rfl
theorem zlP:(AV.p (zcn c)).isAggV=true:=rfl
theorem zrZ:(zcn c).weak=zcn c:=rfl
theorem zop:(zcn c).weak1=zcn c:=rfl
theorem zlQ:zi (.p (zcn c))=some (cc c):=rfl
theorem zr0 {ls:List (List Gate)}:PV.agg [i64 i,.sl false 1 (pl (sle 6 zcm) ls),i64 s]=zcn ⟨i,ls,s⟩:=rfl
theorem zoq:PV.agg [i64 i,.sl false 1 [],i64 s]=zcn ⟨i,[],s⟩:=rfl
theorem zwi:(⟨c.inputs,c.layers,c.sums⟩:Circ)=c:=rfl
end enc
attribute [go_sem] zoi zoj zA7 zA8 zog zoh zlL zrX zok zlM zrY zwh zol zom zlN zlO zon zoo zlP zrZ zop zlQ zr0 zoq zwi

theorem zor {x:Nat} (h0:0 < x) (h:x < 2 ^ 64):Lib.bitLen x=Nat.log2 x+1:=by
 obtain⟨h1,h2,h3⟩:=Lib.bitLenAux_bounds 64 x h (by omega)
 unfold Lib.bitLen
 generalize Lib.bitLenAux 64 x=L at h1 h2 h3 ⊢
 obtain⟨k,rfl⟩ : ∃ k,L=k+1:=⟨L - 1,by omega⟩
 have:Nat.log2 x=k:=(Nat.log2_eq_iff (by omega)).2 ⟨by simpa using h2,h3⟩
 omega
theorem zwj : ∀ k,k < 17 → IntKind.i64.wrap (1*2 ^ k)=((2 ^ k:Nat):Int):=by decide +kernel

def zdB (n:Nat):Nat:=if n≤1 then 0 else Nat.log2 (n - 1)+1
theorem zpE {n w:Nat} (h:w < zdB n):2 ^ w < n:=by
 unfold zdB at h
 split at h
 · omega
 · have h1:=Nat.log2_self_le (n:=n - 1) (by omega)
   have h2:2 ^ w≤2 ^ Nat.log2 (n - 1):=Nat.pow_le_pow_right (by omega) (by omega)
   omega
theorem zyQ {n:Nat}:n≤2 ^ zdB n:=by
 unfold zdB
 split
 · rename_i h;rw [Nat.pow_zero];exact h
 · have h1:=Nat.lt_log2_self (n:=n - 1)
   omega
theorem zjr {n:Nat} (h:n≤1000):zdB n≤10:=by
 rcases Nat.lt_or_ge 10 (zdB n) with h1 | h1
 · have:=zpE h1
   omega
 · exact h1

section walks
variable {G:Globs}
theorem zwk (x:BitVec 64) (H:Hp) (R:AV → Hp → Prop) (h:R (.p (i64 (Lib.bitLen x.toNat:Nat))) H):ACall Tryz.prog G 106 [.p (zw x)] H R:=by
 intro σ w vs hr hvs
 have hs:vs.size=1:=hvs.1
 have r0:=hvs.2 0 _ vs[0] rfl (by simp)
 have e0:vs[0] = .int .u64 x.toNat:=by
  generalize vs[0]=v at r0
  cases r0 with | p r=>cases r;rfl
 have hv:vs = #[.int .u64 x.toNat]:=by
  apply Array.ext
  · simp [hs]
  · intro i h1 h2
    have:i=0:=by simp at h2;omega
    subst this
    simpa using e0
 rw [hv]
 refine Calls.mono (Tryz.bits_Len x.toNat w (by omega) (by omega)) ?_
 rintro e w' ⟨rfl,rfl⟩
 exact⟨_,_,σ,_,h,rfl,hr,.p (.s _ rfl),.refl (Nat.le_refl _)⟩

set_option maxHeartbeats 4000000 in
theorem zdh (n:Nat) (hn:n≤1000) (H:Hp) (R:AV → Hp → Prop) (h:R (.p (i64 (zdB n:Nat))) H):ACall Tryz.prog G 66 [.p (i64 n)] H R:=by
 refine ACall.of_run (raw:=[]) Tryz.func66 rfl Tryz.ntmps66 (by simp) fun hbel => ?_
 have hw:=zjr hn
 have hge:=zyQ (n:=n)
 have hno:decide (((2 ^ zdB n:Nat):Int) < (n:Int))=false:=by simp only [decide_eq_false_iff_not];omega
 refine .q ?_;refine .text ?_;simp (disch:=first|exact za|fail) only [go_sem,seval,-List.reduceReplicate]
 refine .q ?_;refine .text ?_;simp (disch:=first|exact za|fail) only [go_sem,seval,-List.reduceReplicate]
 (repeat refine .zs rfl ?_);first | refine .cutF0 [0] [(3,.p (i64 (zdB n:Nat)))] (fun ihE => ?_) (fun env T E => ?_) | refine .cutF [0] [(3,.p (i64 (zdB n:Nat)))] [] (fun ihE => ?_) (fun env T E => ?_)
 rotate_left 1
 simp (disch:=first|exact za|fail) only [go_sem,seval,-List.reduceReplicate] at E
 rotate_left 1
 · refine .q ?_;refine .loopE [0] (fun w=>[(3,.p (i64 w))]) (fun w=>[]) (fun w=>True) (0) (zdB n) (by omega) ?_ (by first | rfl | (simp (disch:=first|exact za|fail) only [go_sem,seval,-List.reduceReplicate]<;>rfl)) ?_ ?_ ?_
   · simp (disch:=first|exact za|fail) only [go_sem,seval,-List.reduceReplicate]<;>(repeat' (first | rfl | refine And.intro ?_ ?_))
   · exact trivial
   intro env J hQ;simp (disch:=first|exact za|fail) only [go_sem,seval,-List.reduceReplicate] at J
   rotate_left 1
   intro w env hw0 hw J hQ ihJ;simp (disch:=first|exact za|fail) only [go_sem,seval,-List.reduceReplicate] at J
   rotate_left 1
   · refine .q ?_;refine .text ?_;simp (disch:=first|exact za|fail) only [go_sem,seval,-List.reduceReplicate,J,zwj,hno]
     refine .q ?_;refine .ifF (by simp (disch:=first|exact za|fail) only [go_sem,seval,-List.reduceReplicate]) ?_
     first | (refine ihE _ _ ?_ ?_) | (refine .z rfl ?_;refine ihE _ _ ?_ ?_) | (refine .z rfl ?_;refine .z rfl ?_;refine ihE _ _ ?_ ?_) | (refine .z rfl ?_;refine .z rfl ?_;refine .z rfl ?_;refine ihE _ _ ?_ ?_)
     · simp (disch:=first|exact za|fail) only [go_sem,seval,-List.reduceReplicate,J]<;>(repeat' (first | rfl | refine And.intro ?_ ?_))
     · first | exact .mk _ rfl | exact .mk [] rfl | (apply Later.mk;simp (disch:=first|exact za|fail) only [go_sem,seval,-List.reduceReplicate,zm,J];exact rfl) | (apply Later.mk;simp (disch:=first|exact za|fail) only [go_sem,seval,-List.reduceReplicate,zm,zO,List.append_assoc,J]<;>(try rfl))
   · have hlt:=zpE hw
     have hyes:decide (((2 ^ w:Nat):Int) < (n:Int))=true:=by simp only [decide_eq_true_eq];omega
     refine .q ?_;refine .text ?_;simp (disch:=first|exact za|fail) only [go_sem,seval,-List.reduceReplicate,J,zwj,hyes]
     refine .q ?_;refine .ifT (by simp (disch:=first|exact za|fail) only [go_sem,seval,-List.reduceReplicate]) ?_
     refine .q ?_;refine .text ?_;simp (disch:=first|exact za|fail) only [go_sem,seval,-List.reduceReplicate,J]
     first | (refine ihJ _ _ ?_ trivial ?_) | (refine .z rfl ?_;refine ihJ _ _ ?_ trivial ?_) | (refine .z rfl ?_;refine .z rfl ?_;refine ihJ _ _ ?_ trivial ?_) | (refine .z rfl ?_;refine .z rfl ?_;refine .z rfl ?_;refine ihJ _ _ ?_ trivial ?_)
     · simp (disch:=first|exact za|fail) only [go_sem,seval,-List.reduceReplicate,J]<;>(repeat' (first | rfl | refine And.intro ?_ ?_))
     · first | rfl | (simp (disch:=first|exact za|fail) only [go_sem,seval,-List.reduceReplicate,J]<;>(try rfl))
 refine .q ?_;refine .text ?_;simp (disch:=first|exact za|fail) only [go_sem,seval,-List.reduceReplicate,E,zwj,hno]
 refine .q ?_;refine .ifF (by simp (disch:=first|exact za|fail) only [go_sem,seval,-List.reduceReplicate]) ?_
 refine .skip ?_
 refine .q ?_;refine .text ?_;simp (disch:=first|exact za|fail) only [go_sem,seval,-List.reduceReplicate,E]
 refine .q ?_;refine .rt Tryz.func66 (by rw [Tryz.results66]) (hR := ?_);simp (disch:=first|exact za|fail) only [go_sem,seval,-List.reduceReplicate]
 exact h

end walks
structure Cn (c:Circ) (n:Nat):Prop where
 inp:c.inputs=(n:Int)
 n:n≤1000
 len:c.layers.length≤1000
 row : ∀ k,k < c.layers.length → (nth c.layers k).length≤1000
def zb9 (c:Circ) (n:Nat) (k:Nat):Nat:=zdB (if k=0 then n else (nth c.layers (k - 1)).length)
def sumW (c:Circ) (n:Nat) (log:Int):Nat → Int
 | 0=>0
 | k+1=>sumW c n log k+(log+2*(zb9 c n k:Nat)+1)
def zco (c:Circ) (n:Nat) (log:Int):Int:=(zb9 c n c.layers.length:Nat)+2*(log+sumW c n log c.layers.length)
theorem zdx {c:Circ} {n k:Nat} (h:Cn c n) (hk:k≤c.layers.length):zb9 c n k≤10:=by
 unfold zb9
 split
 · exact zjr h.n
 · exact zjr (h.row (k - 1) (by omega))
theorem zdy {c:Circ} {n:Nat} {log:Int} (h:Cn c n) (h0:0≤log∧log≤1000) : ∀ k,k≤c.layers.length → 0≤sumW c n log k∧sumW c n log k≤1021*(k:Int)
 | 0,_=>by simp [sumW]
 | k+1,hk=>by
  have h1:=zdy h h0 k (by omega)
  have h2:=zdx h (k:=k) (by omega)
  simp only [sumW]
  omega
theorem zlR {c:Circ} {n:Nat} {log:Int} (h:Cn c n) (h0:0≤log∧log≤1000):0≤zco c n log∧zco c n log≤3000000:=by
 have h1:=zdy h h0 c.layers.length (Nat.le_refl _)
 have h2:=zdx h (k:=c.layers.length) (Nat.le_refl _)
 have h3:=h.len
 unfold zco
 omega
section walks
variable {G:Globs}
set_option maxHeartbeats 1000000 in
theorem zg3 (n:Nat) (hn:n≤1000) (H:Hp) (R:AV → Hp → Prop) (h:R (.p (i64 (zdB n:Nat))) H):ACall Tryz.prog G 89 [.p (i64 n)] H R:=by
 unfold zdB at h
 refine ACall.of_run (raw:=[]) Tryz.func89 rfl Tryz.ntmps89 (by simp) fun hbel => ?_
 refine .q ?_;refine .text ?_;simp (disch:=first|exact za|fail) only [go_sem,seval,-List.reduceReplicate]
 refine .q ?_;refine .text ?_;simp (disch:=first|exact za|fail) only [go_sem,seval,-List.reduceReplicate]
 by_cases h1:n≤1
 · rw [if_pos h1] at h
   have d1:decide ((n:Int)≤1)=true:=decide_eq_true (by omega)
   refine .q ?_;refine .ifT (by simp (disch:=first|exact za|fail) only [go_sem,seval,-List.reduceReplicate,d1]) ?_
   refine .q ?_;refine .text ?_;simp (disch:=first|exact za|fail) only [go_sem,seval,-List.reduceReplicate]
   refine .q ?_;refine .rt Tryz.func89 (by rw [Tryz.results89]) (hR := ?_);simp (disch:=first|exact za|fail) only [go_sem,seval,-List.reduceReplicate]
   exact h
 · rw [if_neg h1] at h
   have d1:decide ((n:Int)≤1)=false:=decide_eq_false (by omega)
   have hc:((n:Int) - 1)=((n - 1:Nat):Int):=by omega
   have hb:(BitVec.ofInt 64 ((n - 1:Nat):Int)).toNat=n - 1:=by rw [BitVec.ofInt_natCast,BitVec.toNat_ofNat];omega
   have hl:Lib.bitLen (n - 1)=Nat.log2 (n - 1)+1:=zor (by omega) (by omega)
   refine .q ?_;refine .ifF (by simp (disch:=first|exact za|fail) only [go_sem,seval,-List.reduceReplicate,d1]) ?_
   refine .skip ?_
   refine .q ?_;refine .text ?_;simp (disch:=first|exact za|fail) only [go_sem,seval,-List.reduceReplicate,hc]
   refine CallK.of (fun R h=>zwk _ _ R h) ?_;simp (disch:=first|exact za|fail) only [go_sem,seval,-List.reduceReplicate,hb,hl]
   refine .q ?_;refine .rt Tryz.func89 (by rw [Tryz.results89]) (hR := ?_);simp (disch:=first|exact za|fail) only [go_sem,seval,-List.reduceReplicate]
   exact h
set_option maxHeartbeats 1000000 in
theorem zlS (c:Circ) (n:Nat) (hc:Cn c n) (H:Hp) (R:AV → Hp → Prop) (h:R (.p (.sl false 1 (pl i64 (tab (fun k=>((zb9 c n k:Nat):Int)) (c.layers.length+1))))) H):ACall Tryz.prog G 64 [.p (zcn c)] H R:=by
 have hin:=hc.inp
 have hln:=hc.len
 have hw0:zdB n=zb9 c n 0:=rfl
 have ht1:tab (fun k=>((zb9 c n k:Nat):Int)) 1=[((zb9 c n 0:Nat):Int)]:=rfl
 refine ACall.of_run (raw:=[]) Tryz.func64 rfl Tryz.ntmps64 (by simp) fun hbel => ?_
 refine .q ?_;refine .text ?_;simp (disch:=first|exact za|fail) only [go_sem,seval,-List.reduceReplicate]
 refine .q ?_;refine .text ?_;simp (disch:=first|exact za|fail) only [go_sem,seval,-List.reduceReplicate,hin]
 refine CallK.of (fun R h=>zg3 n hc.n _ R h) ?_;simp (disch:=first|exact za|fail) only [go_sem,seval,-List.reduceReplicate,hw0]
 refine .q ?_;refine .own 3 (by simp (disch:=first|exact za|fail) only [go_sem,seval,-List.reduceReplicate];rfl) ?_
 refine .q ?_;refine .text ?_;simp (disch:=first|exact za|fail) only [go_sem,seval,-List.reduceReplicate]
 refine .q ?_;refine .loopH [11,12] (fun i=>[(3,.sl (H.n+1) i 1 (pl i64 (tab (fun k=>((zb9 c n k:Nat):Int)) (i+1)))),(13,.p (i64 i))]) (fun i=>(H.new (.cells [.p (i64 n),.p (.sl false 1 (pl (sle 6 zcm) c.layers)),.p (i64 c.sums)])).new (.tail i)) (fun i=>True) (0) (c.layers.length) (by omega) ?_ (by first | rfl | (simp (disch:=first|exact za|fail) only [go_sem,seval,-List.reduceReplicate,ht1,hin]<;>rfl)) ?_ ?_ ?_
 · simp (disch:=first|exact za|fail) only [go_sem,seval,-List.reduceReplicate,ht1,hin]<;>(repeat' (first | rfl | refine And.intro ?_ ?_))
 · exact trivial
 intro env E hQ;simp (disch:=first|exact za|fail) only [go_sem,seval,-List.reduceReplicate,ht1,hin] at E
 rotate_left 1
 intro i env hi0 hi E hQ ihE;simp (disch:=first|exact za|fail) only [go_sem,seval,-List.reduceReplicate,ht1,hin] at E
 rotate_left 1
 · refine .q ?_;refine .text ?_;simp (disch:=first|exact za|fail) only [go_sem,seval,-List.reduceReplicate,E]
   refine .q ?_;refine .ifF (by simp (disch:=first|exact za|fail) only [go_sem,seval,-List.reduceReplicate]) ?_
   refine .q ?_;refine .text ?_;simp (disch:=first|exact za|fail) only [go_sem,seval,-List.reduceReplicate,E]
   refine .q ?_;refine .rt Tryz.func64 (by rw [Tryz.results64]) (hR := ?_);simp (disch:=first|exact za|fail) only [go_sem,seval,-List.reduceReplicate]
   exact h
 · have hr:=hc.row i hi
   have hw:zdB (nth c.layers i).length=zb9 c n (i+1):=rfl
   refine .q ?_;refine .text ?_;simp (disch:=first|exact za|fail) only [go_sem,seval,-List.reduceReplicate,E]
   refine .q ?_;refine .ifT (by simp (disch:=first|exact za|fail) only [go_sem,seval,-List.reduceReplicate]) ?_
   refine .q ?_;refine .text ?_;simp (disch:=first|exact za|fail) only [go_sem,seval,-List.reduceReplicate,E]
   refine .q ?_;refine .text ?_;simp (disch:=first|exact za|fail) only [go_sem,seval,-List.reduceReplicate,E]
   refine CallK.of (fun R h=>zg3 _ hr _ R h) ?_;simp (disch:=first|exact za|fail) only [go_sem,seval,-List.reduceReplicate,hw]
   refine .q ?_;refine .text ?_;simp (disch:=first|exact za|fail) only [go_sem,seval,-List.reduceReplicate,E]
   first | (refine ihE _ _ ?_ trivial ?_) | (refine .z rfl ?_;refine ihE _ _ ?_ trivial ?_) | (refine .z rfl ?_;refine .z rfl ?_;refine ihE _ _ ?_ trivial ?_) | (refine .z rfl ?_;refine .z rfl ?_;refine .z rfl ?_;refine ihE _ _ ?_ trivial ?_)
   · simp (disch:=first|exact za|fail) only [go_sem,seval,-List.reduceReplicate,E,yU]<;>(repeat' (first | rfl | refine And.intro ?_ ?_))
   · first | rfl | (simp (disch:=first|exact za|fail) only [go_sem,seval,-List.reduceReplicate,E,yU]<;>(try rfl))
end walks
end Go.Proofs.YtgflpgcogkdpgaaGreatDoor

/-
  Audits: the number of challenges;what a session uses;the bounds.
-/
namespace Go.Proofs.YtgflpgcogkdpgaaGreatDoor
open Go Go.AL

section walks
variable {G:Globs} {r1 r2:Nat} {m1:List (Int × Rule)} {m2:List (Int × Int)}
set_option maxHeartbeats 1000000 in
theorem zos (c:Circ) (n:Nat) (hc:Cn c n) (log:Int) (h0:0≤log∧log≤1000) (H:Hp) (R:AV → Hp → Prop) (h:R (.p (i64 (zco c n log))) H):ACall Tryz.prog G 37 [.p (zcn c),.p (i64 log)] H R:=by
 have hin:=hc.inp
 have hln:=hc.len
 refine ACall.of_run (raw:=[]) Tryz.func37 rfl Tryz.ntmps37 (by simp) fun hbel => ?_
 refine .q ?_;refine .text ?_;simp (disch:=first|exact za|fail) only [go_sem,seval,-List.reduceReplicate]
 refine .q ?_;refine .text ?_;simp (disch:=first|exact za|fail) only [go_sem,seval,-List.reduceReplicate]
 refine CallK.of (fun R h=>zlS c n hc _ R h) ?_;simp (disch:=first|exact za|fail) only [go_sem,seval,-List.reduceReplicate]
 refine .q ?_;refine .text ?_;simp (disch:=first|exact za|fail) only [go_sem,seval,-List.reduceReplicate]
 refine .q ?_;refine .loopE [1,2,5,15,16] (fun i=>[(6,.p (i64 (sumW c n log i))),(17,.p (i64 i))]) (fun i=>[]) (fun i=>True) (0) (c.layers.length) (by omega) ?_ (by first | rfl | (simp (disch:=first|exact za|fail) only [go_sem,seval,-List.reduceReplicate]<;>rfl)) ?_ ?_ ?_
 · simp (disch:=first|exact za|fail) only [go_sem,seval,-List.reduceReplicate]<;>(repeat' (first | rfl | refine And.intro ?_ ?_))
 · exact trivial
 intro env E hQ;simp (disch:=first|exact za|fail) only [go_sem,seval,-List.reduceReplicate] at E
 rotate_left 1
 intro i env hi0 hi E hQ ihE;simp (disch:=first|exact za|fail) only [go_sem,seval,-List.reduceReplicate] at E
 rotate_left 1
 · have hs:=zdy hc h0 c.layers.length (Nat.le_refl _)
   have hw:=zdx hc (k:=c.layers.length) (Nat.le_refl _)
   have hnt:nth (tab (fun k=>((zb9 c n k:Nat):Int)) (c.layers.length+1)) c.layers.length=((zb9 c n c.layers.length:Nat):Int):=zfG (by omega)
   unfold zco at h
   refine .q ?_;refine .text ?_;simp (disch:=first|exact za|fail) only [go_sem,seval,-List.reduceReplicate,E]
   refine .q ?_;refine .ifF (by simp (disch:=first|exact za|fail) only [go_sem,seval,-List.reduceReplicate]) ?_
   refine .q ?_;refine .text ?_;simp (disch:=first|exact za|fail) only [go_sem,seval,-List.reduceReplicate,E,hnt]
   refine .q ?_;refine .rt Tryz.func37 (by rw [Tryz.results37]) (hR := ?_);simp (disch:=first|exact za|fail) only [go_sem,seval,-List.reduceReplicate]
   exact h
 · have hs:=zdy hc h0 i (by omega)
   have hw:=zdx hc (k:=i) (by omega)
   have hnt:nth (tab (fun k=>((zb9 c n k:Nat):Int)) (c.layers.length+1)) i=((zb9 c n i:Nat):Int):=zfG (by omega)
   have htk:nth ((tab (fun k=>((zb9 c n k:Nat):Int)) (c.layers.length+1)).take c.layers.length) i=((zb9 c n i:Nat):Int):=by rw [zec hi];exact hnt
   have hsu:sumW c n log (i+1)=sumW c n log i+(log+2*(zb9 c n i:Nat)+1):=rfl
   refine .q ?_;refine .text ?_;simp (disch:=first|exact za|fail) only [go_sem,seval,-List.reduceReplicate,E]
   refine .q ?_;refine .ifT (by simp (disch:=first|exact za|fail) only [go_sem,seval,-List.reduceReplicate]) ?_
   refine .q ?_;refine .text ?_;simp (disch:=first|exact za|fail) only [go_sem,seval,-List.reduceReplicate,E,htk,hnt]
   refine .q ?_;refine .text ?_;simp (disch:=first|exact za|fail) only [go_sem,seval,-List.reduceReplicate,E]
   refine .q ?_;refine .text ?_;simp (disch:=first|exact za|fail) only [go_sem,seval,-List.reduceReplicate,E]
   first | (refine ihE _ _ ?_ trivial ?_) | (refine .z rfl ?_;refine ihE _ _ ?_ trivial ?_) | (refine .z rfl ?_;refine .z rfl ?_;refine ihE _ _ ?_ trivial ?_) | (refine .z rfl ?_;refine .z rfl ?_;refine .z rfl ?_;refine ihE _ _ ?_ trivial ?_)
   · simp (disch:=first|exact za|fail) only [go_sem,seval,-List.reduceReplicate,E,hsu]<;>(repeat' (first | rfl | refine And.intro ?_ ?_))
   · first | rfl | (simp (disch:=first|exact za|fail) only [go_sem,seval,-List.reduceReplicate,E,hsu]<;>(try rfl))
theorem zeA (c:Circ) (n:Nat) (hc:Cn c n) (k:Nat) (hk:k≤c.layers.length) (H:Hp) (R:AV → Hp → Prop) (h:R (.p (i64 (zb9 c n k:Nat))) H):ACall Tryz.prog G 42 [.p (zcn c),.p (i64 k)] H R:=by
 have hin:=hc.inp
 have hln:=hc.len
 unfold zb9 at h
 refine ACall.of_run (raw:=[]) Tryz.func42 rfl Tryz.ntmps42 (by simp) fun hbel => ?_
 refine .q ?_;refine .text ?_;simp (disch:=first|exact za|fail) only [go_sem,seval,-List.reduceReplicate]
 refine .q ?_;refine .text ?_;simp (disch:=first|exact za|fail) only [go_sem,seval,-List.reduceReplicate]
 by_cases h0:k=0
 · rw [if_pos h0] at h
   have d0:((k:Int) == 0)=true:=by rw [h0];rfl
   refine .q ?_;refine .ifT (by simp (disch:=first|exact za|fail) only [go_sem,seval,-List.reduceReplicate,d0]) ?_
   refine .q ?_;refine .text ?_;simp (disch:=first|exact za|fail) only [go_sem,seval,-List.reduceReplicate,hin]
   refine CallK.of (fun R h=>zdh n hc.n _ R h) ?_;simp (disch:=first|exact za|fail) only [go_sem,seval,-List.reduceReplicate]
   refine .q ?_;refine .rt Tryz.func42 (by rw [Tryz.results42]) (hR := ?_);simp (disch:=first|exact za|fail) only [go_sem,seval,-List.reduceReplicate]
   exact h
 · rw [if_neg h0] at h
   have d0:((k:Int) == 0)=false:=beq_eq_false_iff_ne.2 (by omega)
   have hr:=hc.row (k - 1) (by omega)
   have hk1:(k:Int) - 1=((k - 1:Nat):Int):=by omega
   refine .q ?_;refine .ifF (by simp (disch:=first|exact za|fail) only [go_sem,seval,-List.reduceReplicate,d0]) ?_
   refine .skip ?_
   refine .q ?_;refine .text ?_;simp (disch:=first|exact za|fail) only [go_sem,seval,-List.reduceReplicate,hk1]
   refine CallK.of (fun R h=>zdh _ hr _ R h) ?_;simp (disch:=first|exact za|fail) only [go_sem,seval,-List.reduceReplicate]
   refine .q ?_;refine .rt Tryz.func42 (by rw [Tryz.results42]) (hR := ?_);simp (disch:=first|exact za|fail) only [go_sem,seval,-List.reduceReplicate]
   exact h
set_option maxHeartbeats 1000000 in
theorem zjs (c:Circ) (n:Nat) (hc:Cn c n) (log:Int) (h0:0≤log∧log≤1000) (H:Hp) (R:AV → Hp → Prop) (h:R (.p (i64 (zco c n log))) H):ACall Tryz.prog G 24 [.p (zcn c),.p (i64 log)] H R:=by
 have hln:=hc.len
 refine ACall.of_run (raw:=[]) Tryz.func24 rfl Tryz.ntmps24 (by simp) fun hbel => ?_
 refine .q ?_;refine .text ?_;simp (disch:=first|exact za|fail) only [go_sem,seval,-List.reduceReplicate]
 refine .q ?_;refine .open [] follows (by kernel_rfl) ?_;simp (disch:=first|exact za|fail) only [go_sem,seval,-List.reduceReplicate]
 refine .q ?_;refine .text ?_;simp (disch:=first|exact za|fail) only [go_sem,seval,-List.reduceReplicate]
 refine .q ?_;refine .loopE [1,2,6] (fun i=>[(5,.p (i64 (sumW c n log i))),(7,.p (i64 ((i:Int)+1)))]) (fun i=>[]) (fun i=>True) (0) (c.layers.length) (by omega) ?_ (by first | rfl | (simp (disch:=first|exact za|fail) only [go_sem,seval,-List.reduceReplicate]<;>rfl)) ?_ ?_ ?_
 · simp (disch:=first|exact za|fail) only [go_sem,seval,-List.reduceReplicate]<;>(repeat' (first | rfl | refine And.intro ?_ ?_))
 · exact trivial
 intro env E hQ;simp (disch:=first|exact za|fail) only [go_sem,seval,-List.reduceReplicate] at E
 rotate_left 1
 intro i env hi0 hi E hQ ihE;simp (disch:=first|exact za|fail) only [go_sem,seval,-List.reduceReplicate] at E
 rotate_left 1
 · have hs:=zdy hc h0 c.layers.length (Nat.le_refl _)
   have hw:=zdx hc (k:=c.layers.length) (Nat.le_refl _)
   have hq:(zb9 c n c.layers.length:Nat)+2*log+2*sumW c n log c.layers.length=zco c n log:=by unfold zco;omega
   refine .q ?_;refine .text ?_;simp (disch:=first|exact za|fail) only [go_sem,seval,-List.reduceReplicate,E]
   refine .q ?_;refine .ifF (by simp (disch:=first|exact za|fail) only [go_sem,seval,-List.reduceReplicate]) ?_
   refine .q ?_;refine .text ?_;simp (disch:=first|exact za|fail) only [go_sem,seval,-List.reduceReplicate,E]
   refine CallK.of (fun R h=>zeA c n hc _ (Nat.le_refl _) _ R h) ?_;simp (disch:=first|exact za|fail) only [go_sem,seval,-List.reduceReplicate,E,hq]
   refine .q ?_;refine .rt Tryz.func24 (by rw [Tryz.results24]) (hR := ?_);simp (disch:=first|exact za|fail) only [go_sem,seval,-List.reduceReplicate]
   exact h
 · have hs:=zdy hc h0 i (by omega)
   have hw:=zdx hc (k:=i) (by omega)
   have hsu:sumW c n log i+log+2*(zb9 c n i:Nat)+1=sumW c n log (i+1):=by simp only [sumW];omega
   have hi1:(i:Int)+1 - 1=(i:Int):=by omega
   refine .q ?_;refine .text ?_;simp (disch:=first|exact za|fail) only [go_sem,seval,-List.reduceReplicate,E]
   refine .q ?_;refine .ifT (by simp (disch:=first|exact za|fail) only [go_sem,seval,-List.reduceReplicate]) ?_
   refine .q ?_;refine .text ?_;simp (disch:=first|exact za|fail) only [go_sem,seval,-List.reduceReplicate,E,hi1]
   refine CallK.of (fun R h=>zeA c n hc i (by omega) _ R h) ?_;simp (disch:=first|exact za|fail) only [go_sem,seval,-List.reduceReplicate,E,hsu]
   refine .q ?_;refine .text ?_;simp (disch:=first|exact za|fail) only [go_sem,seval,-List.reduceReplicate,E]
   first | (refine ihE _ _ ?_ trivial ?_) | (refine .z rfl ?_;refine ihE _ _ ?_ trivial ?_) | (refine .z rfl ?_;refine .z rfl ?_;refine ihE _ _ ?_ trivial ?_) | (refine .z rfl ?_;refine .z rfl ?_;refine .z rfl ?_;refine ihE _ _ ?_ trivial ?_)
   · simp (disch:=first|exact za|fail) only [go_sem,seval,-List.reduceReplicate,E]<;>(repeat' (first | rfl | refine And.intro ?_ ?_))
   · first | rfl | (simp (disch:=first|exact za|fail) only [go_sem,seval,-List.reduceReplicate,E]<;>(try rfl))
end walks
end Go.Proofs.YtgflpgcogkdpgaaGreatDoor

/-
  Audits: what a session uses;the bounds.
-/
namespace Go.Proofs.YtgflpgcogkdpgaaGreatDoor
open Go Go.AL

def usV (b r w:Int):PV := .agg [i64 b,i64 r,i64 w]
section us
variable {b r w:Int}
theorem zwl:zi (.p (usV b r w))=some [.p (i64 b),.p (i64 r),.p (i64 w)]:=rfl
theorem zDh:zq [.p (i64 b),.p (i64 r),.p (i64 w)] = .p (usV b r w):=rfl
theorem zyR:PV.agg [i64 b,i64 r,i64 w]=usV b r w:=rfl
theorem zyS:(usV b r w).weak=usV b r w:=rfl
end us
attribute [go_sem] zwl zDh zyR zyS
def inL (x l:Int):Bool:=decide (0≤x) && decide (x≤l)
def zlT (b r w n:Int):Bool:=inL r (2*n+3) && (inL w (20*n+64) && inL b (53*r+8*w+400))
section walks
variable {G:Globs} {r1 r2:Nat} {m1:List (Int × Rule)} {m2:List (Int × Int)}
theorem zcE (x l:Int) (H:Hp) (R:AV → Hp → Prop) (h:R (.p (bo (inL x l))) H):ACall Tryz.prog G 38 [.p (i64 x),.p (i64 l)] H R:=by
 unfold inL at h
 refine ACall.of_run (raw:=[]) Tryz.func38 rfl Tryz.ntmps38 (by simp) fun hbel => ?_
 refine .q ?_;refine .text ?_;simp (disch:=first|exact za|fail) only [go_sem,seval,-List.reduceReplicate]
 refine .q ?_;refine .text ?_;simp (disch:=first|exact za|fail) only [go_sem,seval,-List.reduceReplicate]
 cases d1:decide (0≤x) with
 | true =>
  rw [d1] at h
  simp (disch:=first|exact za|fail) only [go_sem,seval,-List.reduceReplicate,d1]
  refine .q ?_;refine .rt Tryz.func38 (by rw [Tryz.results38]) (hR := ?_);simp (disch:=first|exact za|fail) only [go_sem,seval,-List.reduceReplicate]
  exact h
 | false =>
  rw [d1] at h
  simp (disch:=first|exact za|fail) only [go_sem,seval,-List.reduceReplicate,d1]
  refine .q ?_;refine .rt Tryz.func38 (by rw [Tryz.results38]) (hR := ?_);simp (disch:=first|exact za|fail) only [go_sem,seval,-List.reduceReplicate]
  exact h
set_option maxHeartbeats 2000000 in
theorem zb0 (b r w:Int) (c:Circ) (n:Nat) (hc:Cn c n) (log:Int) (h0:0≤log∧log≤1000) (H:Hp) (R:AV → Hp → Prop) (h:R (.p (bo (zlT b r w (zco c n log)))) H):ACall Tryz.prog G 15 [.p (usV b r w),.p (zcn c),.p (i64 log)] H R:=by
 have hcl:=zlR hc h0
 have hen:enters Tryz.prog 38=true:=zk8
 refine ACall.of_run (raw:=[]) Tryz.func15 rfl Tryz.ntmps15 (by simp) fun hbel => ?_
 refine .q ?_;refine .text ?_;simp (disch:=first|exact za|fail) only [go_sem,seval,-List.reduceReplicate]
 refine .q ?_;refine .text ?_;simp (disch:=first|exact za|fail) only [go_sem,seval,-List.reduceReplicate]
 refine CallK.of (fun R h=>zos c n hc log h0 _ R h) ?_;simp (disch:=first|exact za|fail) only [go_sem,seval,-List.reduceReplicate]
 generalize zco c n log=m at *
 unfold zlT at h
 refine .q ?_;refine .text ?_;simp (disch:=first|exact za|fail) only [go_sem,seval,-List.reduceReplicate]
 refine .q ?_;refine .text ?_;simp (disch:=first|exact za|fail) only [go_sem,seval,-List.reduceReplicate,hen]
 refine CallK.of (fun R h=>zcE _ _ _ R h) ?_;simp (disch:=first|exact za|fail) only [go_sem,seval,-List.reduceReplicate]
 cases d1:inL r (2*m+3) with
 | false =>
  rw [d1] at h
  simp (disch:=first|exact za|fail) only [go_sem,seval,-List.reduceReplicate,d1]
  refine .q ?_;refine .rt Tryz.func15 (by rw [Tryz.results15]) (hR := ?_);simp (disch:=first|exact za|fail) only [go_sem,seval,-List.reduceReplicate]
  exact h
 | true =>
  rw [d1] at h
  have b1:0≤r∧r≤2*m+3:=by simpa [inL] using d1
  simp (disch:=first|exact za|fail) only [go_sem,seval,-List.reduceReplicate,d1,hen]
  refine CallK.of (fun R h=>zcE _ _ _ R h) ?_;simp (disch:=first|exact za|fail) only [go_sem,seval,-List.reduceReplicate]
  cases d2:inL w (20*m+64) with
  | false =>
   rw [d2] at h
   simp (disch:=first|exact za|fail) only [go_sem,seval,-List.reduceReplicate,d2]
   refine .q ?_;refine .rt Tryz.func15 (by rw [Tryz.results15]) (hR := ?_);simp (disch:=first|exact za|fail) only [go_sem,seval,-List.reduceReplicate]
   exact h
  | true =>
   rw [d2] at h
   have b2:0≤w∧w≤20*m+64:=by simpa [inL] using d2
   simp (disch:=first|exact za|fail) only [go_sem,seval,-List.reduceReplicate,d2,hen]
   refine CallK.of (fun R h=>zcE _ _ _ R h) ?_;simp (disch:=first|exact za|fail) only [go_sem,seval,-List.reduceReplicate]
   refine .q ?_;refine .rt Tryz.func15 (by rw [Tryz.results15]) (hR := ?_);simp (disch:=first|exact za|fail) only [go_sem,seval,-List.reduceReplicate]
   exact h
set_option maxHeartbeats 2000000 in
theorem zhE (b r w:Int) (c:Circ) (n:Nat) (hc:Cn c n) (log:Int) (h0:0≤log∧log≤1000) (H:Hp) (R:AV → Hp → Prop) (h:R (.p (bo (zlT b r w (zco c n log)))) H):ACall Tryz.prog G 16 [.p (usV b r w),.p (zcn c),.p (i64 log)] H R:=by
 have hcl:=zlR hc h0
 refine ACall.of_run (raw:=[]) Tryz.func16 rfl Tryz.ntmps16 (by simp) fun hbel => ?_
 refine .q ?_;refine .text ?_;simp (disch:=first|exact za|fail) only [go_sem,seval,-List.reduceReplicate]
 refine .q ?_;refine .text ?_;simp (disch:=first|exact za|fail) only [go_sem,seval,-List.reduceReplicate]
 refine CallK.of (fun R h=>zjs c n hc log h0 _ R h) ?_;simp (disch:=first|exact za|fail) only [go_sem,seval,-List.reduceReplicate]
 generalize zco c n log=m at *
 have ex:zlT b r w m=if b < 0 then false else if r < 0 then false else if w < 0 then false else decide (r≤2*m+3) && (decide (w≤20*m+64) && decide (b≤53*r+8*w+400)):=by
  unfold zlT inL
  by_cases q1:b < 0
  · rw [if_pos q1,show decide (0≤b)=false from decide_eq_false (by omega)];simp
  · rw [if_neg q1,show decide (0≤b)=true from decide_eq_true (by omega)]
    by_cases q2:r < 0
    · rw [if_pos q2,show decide (0≤r)=false from decide_eq_false (by omega)];simp
    · rw [if_neg q2,show decide (0≤r)=true from decide_eq_true (by omega)]
      by_cases q3:w < 0
      · rw [if_pos q3,show decide (0≤w)=false from decide_eq_false (by omega)];simp
      · rw [if_neg q3,show decide (0≤w)=true from decide_eq_true (by omega)];simp
 rw [ex] at h
 refine .q ?_;refine .text ?_;simp (disch:=first|exact za|fail) only [go_sem,seval,-List.reduceReplicate]
 by_cases q1:b < 0
 · have d1:decide (b < 0)=true:=decide_eq_true q1
   rw [if_pos q1] at h
   simp (disch:=first|exact za|fail) only [go_sem,seval,-List.reduceReplicate,d1]
   refine .q ?_;refine .ifT (by simp (disch:=first|exact za|fail) only [go_sem,seval,-List.reduceReplicate]) ?_
   refine .q ?_;refine .text ?_;simp (disch:=first|exact za|fail) only [go_sem,seval,-List.reduceReplicate]
   refine .q ?_;refine .rt Tryz.func16 (by rw [Tryz.results16]) (hR := ?_);simp (disch:=first|exact za|fail) only [go_sem,seval,-List.reduceReplicate]
   exact h
 have d1:decide (b < 0)=false:=decide_eq_false q1
 rw [if_neg q1] at h
 simp (disch:=first|exact za|fail) only [go_sem,seval,-List.reduceReplicate,d1]
 by_cases q2:r < 0
 · have d2:decide (r < 0)=true:=decide_eq_true q2
   rw [if_pos q2] at h
   simp (disch:=first|exact za|fail) only [go_sem,seval,-List.reduceReplicate,d2]
   refine .q ?_;refine .ifT (by simp (disch:=first|exact za|fail) only [go_sem,seval,-List.reduceReplicate]) ?_
   refine .q ?_;refine .text ?_;simp (disch:=first|exact za|fail) only [go_sem,seval,-List.reduceReplicate]
   refine .q ?_;refine .rt Tryz.func16 (by rw [Tryz.results16]) (hR := ?_);simp (disch:=first|exact za|fail) only [go_sem,seval,-List.reduceReplicate]
   exact h
 have d2:decide (r < 0)=false:=decide_eq_false q2
 rw [if_neg q2] at h
 simp (disch:=first|exact za|fail) only [go_sem,seval,-List.reduceReplicate,d2]
 by_cases q3:w < 0
 · have d3:decide (w < 0)=true:=decide_eq_true q3
   rw [if_pos q3] at h
   refine .q ?_;refine .ifT (by simp (disch:=first|exact za|fail) only [go_sem,seval,-List.reduceReplicate,d3]) ?_
   refine .q ?_;refine .text ?_;simp (disch:=first|exact za|fail) only [go_sem,seval,-List.reduceReplicate]
   refine .q ?_;refine .rt Tryz.func16 (by rw [Tryz.results16]) (hR := ?_);simp (disch:=first|exact za|fail) only [go_sem,seval,-List.reduceReplicate]
   exact h
 have d3:decide (w < 0)=false:=decide_eq_false q3
 rw [if_neg q3] at h
 refine .q ?_;refine .ifF (by simp (disch:=first|exact za|fail) only [go_sem,seval,-List.reduceReplicate,d3]) ?_
 refine .skip ?_
 refine .q ?_;refine .text ?_;simp (disch:=first|exact za|fail) only [go_sem,seval,-List.reduceReplicate]
 cases e1:decide (r≤2*m+3) with
 | false =>
  rw [e1] at h
  simp (disch:=first|exact za|fail) only [go_sem,seval,-List.reduceReplicate,e1]
  refine .q ?_;refine .rt Tryz.func16 (by rw [Tryz.results16]) (hR := ?_);simp (disch:=first|exact za|fail) only [go_sem,seval,-List.reduceReplicate]
  exact h
 | true =>
  rw [e1] at h
  have b1:r≤2*m+3:=by simpa using e1
  simp (disch:=first|exact za|fail) only [go_sem,seval,-List.reduceReplicate,e1]
  cases e2:decide (w≤20*m+64) with
  | false =>
   rw [e2] at h
   simp (disch:=first|exact za|fail) only [go_sem,seval,-List.reduceReplicate,e2]
   refine .q ?_;refine .rt Tryz.func16 (by rw [Tryz.results16]) (hR := ?_);simp (disch:=first|exact za|fail) only [go_sem,seval,-List.reduceReplicate]
   exact h
  | true =>
   rw [e2] at h
   have b2:w≤20*m+64:=by simpa using e2
   simp (disch:=first|exact za|fail) only [go_sem,seval,-List.reduceReplicate,e2]
   refine .q ?_;refine .rt Tryz.func16 (by rw [Tryz.results16]) (hR := ?_);simp (disch:=first|exact za|fail) only [go_sem,seval,-List.reduceReplicate]
   exact h
def uB (l:List Msg):Nat → Int
 | 0=>0
 | i+1=>uB l i+((enc (nth l i)).length:Nat)
def uW (l:List Msg):Nat → Int
 | 0=>0
 | i+1=>uW l i+(((nth l i).sums.length:Nat)+2*((nth l i).values.length:Nat))
def zg4 (l:List Msg):PV:=usV (uB l l.length) l.length (uW l l.length)
theorem zpF (l:List Msg) : ∀ i,0≤uB l i∧uB l i≤3000*(i:Int)
 | 0=>by simp [uB]
 | i+1=>by
  have h1:=zpF l i
  have h2:=zcD (m:=nth l i)
  simp only [uB];omega
theorem zpG {l:List Msg} (hm : ∀ i,i < l.length → (nth l i).Ok) : ∀ i,i≤l.length → 0≤uW l i∧uW l i≤422212465065000*(i:Int)
 | 0,_=>by simp [uW]
 | i+1,hi=>by
  have h1:=zpG hm i (by omega)
  have h2:=(hm i (by omega)).sums
  have h3:=(hm i (by omega)).values
  simp only [uW];omega
theorem zot {m:Msg} {k:Nat} {x:PV} (h:(yR m)[k]? = some (.p x)):(ym m).cells[k]? = some x:=by
 rw [zdZ]
 rw [yR,List.getElem?_map] at h
 cases e:(zdA m)[k]? with
 | none=>rw [e] at h;cases h
 | some y=>rw [e] at h;cases h;rfl
theorem zyT {m:Msg}:(ym m).cells[36]? = some (.sl false 1 (pl i64 m.sums)):=zot zzu
theorem zyU {m:Msg}:(ym m).cells[37]? = some (.sl false 2 (pl ext m.values)):=zot zzv
attribute [go_sem] zyT zyU
set_option maxHeartbeats 2000000 in
theorem zjt (l:List Msg) (hl:l.length≤1000) (hm : ∀ i,i < l.length → (nth l i).Ok) (H:Hp) (R:AV → Hp → Prop) (h:R (.p (zg4 l)) H):ACall Tryz.prog G 14 [.p (.sl false 38 (pl ym l))] H R:=by
 unfold zg4 at h
 refine ACall.of_run (raw:=[]) Tryz.func14 rfl Tryz.ntmps14 (by simp) fun hbel => ?_
 refine .q ?_;refine .text ?_;simp (disch:=first|exact za|fail) only [go_sem,seval,-List.reduceReplicate]
 refine .q ?_;refine .text ?_;simp (disch:=first|exact za|fail) only [go_sem,seval,-List.reduceReplicate]
 refine .q ?_;refine .text ?_;simp (disch:=first|exact za|fail) only [go_sem,seval,-List.reduceReplicate]
 refine .q ?_;refine .loopE [0,2,3] (fun i=>[(4,.p (i64 i))]) (fun i=>[(H.n+1,.cells [.p (i64 (uB l i)),.p (i64 l.length),.p (i64 (uW l i))])]) (fun i=>True) (0) (l.length) (by omega) ?_ (by first | rfl | (simp (disch:=first|exact za|fail) only [go_sem,seval,-List.reduceReplicate]<;>rfl)) ?_ ?_ ?_
 · simp (disch:=first|exact za|fail) only [go_sem,seval,-List.reduceReplicate]<;>(repeat' (first | rfl | refine And.intro ?_ ?_))
 · exact trivial
 intro env E hQ;simp (disch:=first|exact za|fail) only [go_sem,seval,-List.reduceReplicate] at E
 rotate_left 1
 intro i env hi0 hi E hQ ihE;simp (disch:=first|exact za|fail) only [go_sem,seval,-List.reduceReplicate] at E
 rotate_left 1
 · refine .q ?_;refine .text ?_;simp (disch:=first|exact za|fail) only [go_sem,seval,-List.reduceReplicate,E,zc,zf]
   refine .q ?_;refine .ifF (by simp (disch:=first|exact za|fail) only [go_sem,seval,-List.reduceReplicate]) ?_
   refine .q ?_;refine .text ?_;simp (disch:=first|exact za|fail) only [go_sem,seval,-List.reduceReplicate,E]
   refine .q ?_;refine .rt Tryz.func14 (by rw [Tryz.results14]) (hx:=by simp (disch:=first|exact za|fail) only [go_sem,seval,-List.reduceReplicate,E];rfl) (hR := ?_);simp (disch:=first|exact za|fail) only [go_sem,seval,-List.reduceReplicate,E]
   exact h
 · have h1:=zpF l i
   have h2:=zpG hm i (by omega)
   have hmi:=hm i hi
   have h3:=hmi.sums
   have h4:=hmi.values
   have h5:=zcD (m:=nth l i)
   have q1:uB l i+((enc (nth l i)).length:Nat)=uB l (i+1):=rfl
   have q2:uW l i+((nth l i).sums.length:Nat)+2*((nth l i).values.length:Nat)=uW l (i+1):=by simp only [uW];omega
   refine .q ?_;refine .text ?_;simp (disch:=first|exact za|fail) only [go_sem,seval,-List.reduceReplicate,E,zc,zf]
   refine .q ?_;refine .ifT (by simp (disch:=first|exact za|fail) only [go_sem,seval,-List.reduceReplicate]) ?_
   refine .q ?_;refine .open [10] follows (by kernel_rfl) ?_;simp (disch:=first|exact za|fail) only [go_sem,seval,-List.reduceReplicate,E]
   refine CallD.still (fun R h=>zaU _ hmi _ R h) ?_;simp (disch:=first|exact za|fail) only [go_sem,seval,-List.reduceReplicate,E]
   refine .q ?_;refine .open [18] follows (by kernel_rfl) ?_;simp (disch:=first|exact za|fail) only [go_sem,seval,-List.reduceReplicate,E,q1,q2]
   refine .q ?_;refine .text ?_;simp (disch:=first|exact za|fail) only [go_sem,seval,-List.reduceReplicate,E]
   first | (refine ihE _ _ ?_ trivial ?_) | (refine .z rfl ?_;refine ihE _ _ ?_ trivial ?_) | (refine .z rfl ?_;refine .z rfl ?_;refine ihE _ _ ?_ trivial ?_) | (refine .z rfl ?_;refine .z rfl ?_;refine .z rfl ?_;refine ihE _ _ ?_ trivial ?_)
   · simp (disch:=first|exact za|fail) only [go_sem,seval,-List.reduceReplicate,E,zc,zf]<;>(repeat' (first | rfl | refine And.intro ?_ ?_))
   · first | rfl | (simp (disch:=first|exact za|fail) only [go_sem,seval,-List.reduceReplicate,E,zc,zf]<;>(try rfl))
set_option maxHeartbeats 2000000 in
theorem zdi (g:GR G r1 r2 m1 m2) (l:List Msg) (hl:l.length≤1000) (hm : ∀ i,i < l.length → (nth l i).Ok) (H:Hp) (R:AV → Hp → Prop) (h:R (.p (zg4 l)) H):ACall Tryz.prog G 13 [.p (.sl false 38 (pl ym l))] H R:=by
 unfold zg4 at h
 refine ACall.of_run (raw:=[]) Tryz.func13 rfl Tryz.ntmps13 (by simp) fun hbel => ?_
 refine .q ?_;refine .text ?_;simp (disch:=first|exact za|fail) only [go_sem,seval,-List.reduceReplicate]
 refine .q ?_;refine .text ?_;simp (disch:=first|exact za|fail) only [go_sem,seval,-List.reduceReplicate]
 refine .q ?_;refine .text ?_;simp (disch:=first|exact za|fail) only [go_sem,seval,-List.reduceReplicate]
 refine .q ?_;refine .loopF [2,3,9,10] (fun i=>[(11,.p (i64 i))]) (fun i=>[(H.n+1,.cells [.p (i64 (uB l i)),.p (i64 l.length),.p (i64 (uW l i))])]) (fun i=>True) (0) (l.length) (by omega) ?_ (by first | rfl | (simp (disch:=first|exact za|fail) only [go_sem,seval,-List.reduceReplicate]<;>rfl)) ?_ ?_ ?_
 · simp (disch:=first|exact za|fail) only [go_sem,seval,-List.reduceReplicate]<;>(repeat' (first | rfl | refine And.intro ?_ ?_))
 · exact trivial
 intro env T E hQ;simp (disch:=first|exact za|fail) only [go_sem,seval,-List.reduceReplicate] at E
 rotate_left 1
 intro i env T hi0 hi E hQ ihE;simp (disch:=first|exact za|fail) only [go_sem,seval,-List.reduceReplicate] at E
 rotate_left 1
 · refine .q ?_;refine .text ?_;simp (disch:=first|exact za|fail) only [go_sem,seval,-List.reduceReplicate,E,zc,zf]
   refine .q ?_;refine .ifF (by simp (disch:=first|exact za|fail) only [go_sem,seval,-List.reduceReplicate]) ?_
   refine .q ?_;refine .text ?_;simp (disch:=first|exact za|fail) only [go_sem,seval,-List.reduceReplicate,E]
   refine .q ?_;refine .rt Tryz.func13 (by rw [Tryz.results13]) (hx:=by simp (disch:=first|exact za|fail) only [go_sem,seval,-List.reduceReplicate,E];rfl) (hR := ?_);simp (disch:=first|exact za|fail) only [go_sem,seval,-List.reduceReplicate,E]
   exact h
 · have h1:=zpF l i
   have h2:=zpG hm i (by omega)
   have hmi:=hm i hi
   have h3:=hmi.sums
   have h4:=hmi.values
   have h5:=zcD (m:=nth l i)
   have q1:uB l i+((enc (nth l i)).length:Nat)=uB l (i+1):=rfl
   have q2:uW l i+(((nth l i).sums.length:Nat)+2*((nth l i).values.length:Nat))=uW l (i+1):=rfl
   refine .q ?_;refine .text ?_;simp (disch:=first|exact za|fail) only [go_sem,seval,-List.reduceReplicate,E,zc,zf]
   refine .q ?_;refine .ifT (by simp (disch:=first|exact za|fail) only [go_sem,seval,-List.reduceReplicate]) ?_
   refine .q ?_;refine .text ?_;simp (disch:=first|exact za|fail) only [go_sem,seval,-List.reduceReplicate,E]
   refine .q ?_;refine .open [7] follows (by kernel_rfl) ?_;simp (disch:=first|exact za|fail) only [go_sem,seval,-List.reduceReplicate,E]
   refine CallD.still (fun R h=>zc9 g _ hmi _ R h) ?_;simp (disch:=first|exact za|fail) only [go_sem,seval,-List.reduceReplicate,E]
   refine .q ?_;refine .text ?_;simp (disch:=first|exact za|fail) only [go_sem,seval,-List.reduceReplicate,E,q1]
   refine .q ?_;refine .text ?_;simp (disch:=first|exact za|fail) only [go_sem,seval,-List.reduceReplicate,E,q1,q2]
   first | (refine ihE _ _ ?_ trivial ?_) | (refine .z rfl ?_;refine ihE _ _ ?_ trivial ?_) | (refine .z rfl ?_;refine .z rfl ?_;refine ihE _ _ ?_ trivial ?_) | (refine .z rfl ?_;refine .z rfl ?_;refine .z rfl ?_;refine ihE _ _ ?_ trivial ?_)
   · simp (disch:=first|exact za|fail) only [go_sem,seval,-List.reduceReplicate,E,q1,q2,zc,zf]<;>(repeat' (first | rfl | refine And.intro ?_ ?_))
   · first | exact .mk _ rfl | exact .mk [] rfl | (apply Later.mk;simp (disch:=first|exact za|fail) only [go_sem,seval,-List.reduceReplicate,zm,E,q1,q2,zc,zf];exact rfl) | (apply Later.mk;simp (disch:=first|exact za|fail) only [go_sem,seval,-List.reduceReplicate,zm,zO,List.append_assoc,E,q1,q2,zc,zf]<;>(try rfl))
end walks
end Go.Proofs.YtgflpgcogkdpgaaGreatDoor

/-
  Audits: equal lists of numbers;meters;which points are used.
-/
namespace Go.Proofs.YtgflpgcogkdpgaaGreatDoor
open Go Go.AL

section walks
variable {G:Globs}
theorem zyV {α:Type} [Inhabited α] {a b:List α} (hl:a.length=b.length) (h : ∀ j,j < a.length → nth a j=nth b j):a=b:=zfB hl h
theorem zou {α:Type} [Inhabited α] {a b:List α} {i:Nat} (h:nth a i≠nth b i):a≠b:=fun e=>h (by rw [e])
theorem zk {p:Nat → Prop} {i:Nat} (h : ∀ j,j < i → p j) (hi:p i) : ∀ j,j < i+1 → p j:=fun j hj=>by
 rcases Nat.lt_or_ge j i with q | q
 · exact h j q
 · rw [show j=i by omega];exact hi
set_option maxHeartbeats 1000000 in
theorem zij (a b:List Int) (ha:a.length≤9223372036854775807) (hb:b.length≤9223372036854775807) (H:Hp) (R:AV → Hp → Prop) (h:R (.p (bo (decide (a=b)))) H):ACall Tryz.prog G 40 [.p (.sl false 1 (pl i64 a)),.p (.sl false 1 (pl i64 b))] H R:=by
 refine ACall.of_run (raw:=[]) Tryz.func40 rfl Tryz.ntmps40 (by simp) fun hbel => ?_
 refine .q ?_;refine .text ?_;simp (disch:=first|exact za|fail) only [go_sem,seval,-List.reduceReplicate]
 refine .q ?_;refine .text ?_;simp (disch:=first|exact za|fail) only [go_sem,seval,-List.reduceReplicate]
 by_cases hl:a.length=b.length
 · have d0:((a.length:Int) != (b.length:Int))=false:=by rw [hl];simp
   refine .q ?_;refine .ifF (by simp (disch:=first|exact za|fail) only [go_sem,seval,-List.reduceReplicate,d0]) ?_
   refine .skip ?_
   refine .q ?_;refine .text ?_;simp (disch:=first|exact za|fail) only [go_sem,seval,-List.reduceReplicate]
   refine .q ?_;refine .loopE [0,1,12] (fun i=>[(13,.p (i64 i))]) (fun i=>[]) (fun i => ∀ j,j < i → nth a j=nth b j) (0) (a.length) (by omega) ?_ (by first | rfl | (simp (disch:=first|exact za|fail) only [go_sem,seval,-List.reduceReplicate]<;>rfl)) ?_ ?_ ?_
   · simp (disch:=first|exact za|fail) only [go_sem,seval,-List.reduceReplicate]<;>(repeat' (first | rfl | refine And.intro ?_ ?_))
   rotate_left 1
   intro env E hQ;simp (disch:=first|exact za|fail) only [go_sem,seval,-List.reduceReplicate] at E
   rotate_left 1
   intro i env hi0 hi E hQ ihE;simp (disch:=first|exact za|fail) only [go_sem,seval,-List.reduceReplicate] at E
   rotate_left 1
   · exact fun j hj=>absurd hj (by omega)
   · have e:=zyV hl hQ
     rw [decide_eq_true e] at h
     refine .q ?_;refine .text ?_;simp (disch:=first|exact za|fail) only [go_sem,seval,-List.reduceReplicate,E]
     refine .q ?_;refine .ifF (by simp (disch:=first|exact za|fail) only [go_sem,seval,-List.reduceReplicate]) ?_
     refine .q ?_;refine .text ?_;simp (disch:=first|exact za|fail) only [go_sem,seval,-List.reduceReplicate]
     refine .q ?_;refine .rt Tryz.func40 (by rw [Tryz.results40]) (hR := ?_);simp (disch:=first|exact za|fail) only [go_sem,seval,-List.reduceReplicate]
     exact h
   · have hbi:i < b.length:=by omega
     refine .q ?_;refine .text ?_;simp (disch:=first|exact za|fail) only [go_sem,seval,-List.reduceReplicate,E]
     refine .q ?_;refine .ifT (by simp (disch:=first|exact za|fail) only [go_sem,seval,-List.reduceReplicate]) ?_
     refine .q ?_;refine .text ?_;simp (disch:=first|exact za|fail) only [go_sem,seval,-List.reduceReplicate,E]
     refine .q ?_;refine .open [] follows (by kernel_rfl) ?_;simp (disch:=first|exact za|fail) only [go_sem,seval,-List.reduceReplicate,E]
     by_cases hx:nth a i=nth b i
     · have d1:(nth a i != nth b i)=false:=by rw [hx];simp
       refine .q ?_;refine .ifF (by simp (disch:=first|exact za|fail) only [go_sem,seval,-List.reduceReplicate,d1]) ?_
       refine .skip ?_
       refine .q ?_;refine .text ?_;simp (disch:=first|exact za|fail) only [go_sem,seval,-List.reduceReplicate,E]
       first | (refine ihE _ _ ?_ (zk hQ hx) ?_) | (refine .z rfl ?_;refine ihE _ _ ?_ (zk hQ hx) ?_) | (refine .z rfl ?_;refine .z rfl ?_;refine ihE _ _ ?_ (zk hQ hx) ?_) | (refine .z rfl ?_;refine .z rfl ?_;refine .z rfl ?_;refine ihE _ _ ?_ (zk hQ hx) ?_)
       · simp (disch:=first|exact za|fail) only [go_sem,seval,-List.reduceReplicate,E]<;>(repeat' (first | rfl | refine And.intro ?_ ?_))
       · first | rfl | (simp (disch:=first|exact za|fail) only [go_sem,seval,-List.reduceReplicate,E]<;>(try rfl))
     · have d1:(nth a i != nth b i)=true:=by simpa using hx
       rw [decide_eq_false (zou hx)] at h
       refine .q ?_;refine .ifT (by simp (disch:=first|exact za|fail) only [go_sem,seval,-List.reduceReplicate,d1]) ?_
       refine .q ?_;refine .text ?_;simp (disch:=first|exact za|fail) only [go_sem,seval,-List.reduceReplicate]
       refine .q ?_;refine .rt Tryz.func40 (by rw [Tryz.results40]) (hR := ?_);simp (disch:=first|exact za|fail) only [go_sem,seval,-List.reduceReplicate]
       exact h
 · have d0:((a.length:Int) != (b.length:Int))=true:=bne_iff_ne.2 (by omega)
   have e : ¬a=b:=fun e=>hl (by rw [e])
   rw [decide_eq_false e] at h
   refine .q ?_;refine .ifT (by simp (disch:=first|exact za|fail) only [go_sem,seval,-List.reduceReplicate,d0]) ?_
   refine .q ?_;refine .text ?_;simp (disch:=first|exact za|fail) only [go_sem,seval,-List.reduceReplicate]
   refine .q ?_;refine .rt Tryz.func40 (by rw [Tryz.results40]) (hR := ?_);simp (disch:=first|exact za|fail) only [go_sem,seval,-List.reduceReplicate]
   exact h
end walks
end Go.Proofs.YtgflpgcogkdpgaaGreatDoor

/-
  Audits: meters;points that become available again.
-/
namespace Go.Proofs.YtgflpgcogkdpgaaGreatDoor
open Go Go.AL

structure Mt where
 ver:BitVec 64
 eps:List (List Bool)
instance:Inhabited Mt:=⟨⟨0#64,[]⟩⟩
def pnt (u:Bool):PV := .agg [.sl false 2 [],.sl false 2 [],bo u]
def epo (ps:List Bool):PV := .agg [i64 0,i64 0,bo false,.sl false 3 (pl pnt ps),.sl false 32 []]
def zhF (x:Mt):List PV:=zw x.ver :: (pl b8 (List.replicate 32 0#8)++[.sl false 5 (pl epo x.eps)])
def mtr (x:Mt):PV := .agg (zhF x)
def mtc (x:Mt):List AV:=(zhF x).map .p
section enc
variable {u:Bool} {ps:List Bool} {x:Mt} {l:List Bool} {es:List (List Bool)} {ms:List Mt}
theorem zr1:(pnt u).cells=[.sl false 2 [],.sl false 2 [],bo u]:=rfl
theorem zA9:zi (.p (pnt u))=some [.p (.sl false 2 []),.p (.sl false 2 []),.p (bo u)]:=rfl
theorem zBa:(pnt u).aggOf 0 3=pnt u:=rfl
theorem zr2:(epo ps).cells=[i64 0,i64 0,bo false,.sl false 3 (pl pnt ps),.sl false 32 []]:=rfl
theorem zBb:zi (.p (epo ps))=some [.p (i64 0),.p (i64 0),.p (bo false),.p (.sl false 3 (pl pnt ps)),.p (.sl false 32 [])]:=rfl
theorem zBc:(epo ps).aggOf 0 5=epo ps:=rfl
theorem zg5:(zhF x).length=34:=by simp [zhF,pl]
theorem zik:(mtr x).cells=zhF x:=rfl
theorem zBd:zi (.p (mtr x))=some (mtc x):=rfl
theorem zBe:(mtr x).aggOf 0 34=mtr x:=by
 rw [PV.aggOf_eq,zik,List.drop_zero,List.take_of_length_le (by rw [zg5];exact Nat.le_refl _)];rfl
theorem zwm:(zhF x)[33]? = some (.sl false 5 (pl epo x.eps)):=by
 simp only [zhF,List.getElem?_cons_succ];rw [List.getElem?_append_right (by simp [pl])];simp [pl]
theorem zyW:(mtc x).length=34:=by rw [mtc,List.length_map,zg5]
theorem zBf:(mtc x)[33]? = some (.p (.sl false 5 (pl epo x.eps))):=by rw [mtc,List.getElem?_map,zwm];rfl
theorem zDj:(pnt u).weak=pnt u:=rfl
theorem zDk:(epo ps).weak=epo ps:=rfl
theorem zBg:(pnt u).weak1=pnt u:=rfl
theorem zBh:(epo ps).weak1=epo ps:=rfl
theorem zBi:(mtr x).weak1=mtr x:=rfl
theorem zDl:(mtr x).weak=mtr x:=by
 show PV.agg ((zhF x).map PV.weak1)=_
 rw [za9 fun y hy => ?_];rfl
 simp only [zhF,List.mem_cons,List.mem_append,List.not_mem_nil,or_false,pl,List.mem_map] at hy
 rcases hy with rfl | ⟨z,_,rfl⟩ | rfl<;>rfl
theorem zr3:(pnt u).isAgg=true:=rfl
theorem zov:(AV.p (pnt u)).isAggV=true:=rfl
theorem zr4:(epo ps).isAgg=true:=rfl
theorem zow:(AV.p (epo ps)).isAggV=true:=rfl
theorem zr5:(mtr x).isAgg=true:=rfl
theorem zox:(AV.p (mtr x)).isAggV=true:=rfl
theorem zBj:zq [.p (.sl false 2 []),.p (.sl false 2 []),.p (bo u)] = .p (pnt u):=rfl
theorem zBk:zq [.p (i64 0),.p (i64 0),.p (bo false),.p (.sl false 3 (pl pnt ps)),.p (.sl false 32 [])] = .p (epo ps):=rfl
end enc
attribute [go_sem] zr1 zA9 zBa zr2 zBb zBc zg5 zik zBd zBe zwm zyW zBf zDj zDk zBg zBh zBi zDl zr3 zov zr4 zow zr5 zox zBj zBk

/-! ### Which points are used -/
abbrev PM:=List ((Int × Int) × Unit)
def inM (m:PM) (e k:Nat):Bool:=(yw ((e:Int),(k:Int)) m).isSome
def um3 (e:Nat) (ps:List Bool) (m:PM):Nat → PM
 | 0=>m
 | k+1=>if nth ps k then zdT ((e:Int),(k:Int)) () (um3 e ps m k) else um3 e ps m k
def um2 (es:List (List Bool)) (m:PM):Nat → PM
 | 0=>m
 | e+1=>um3 e (nth es e) (um2 es m e) (nth es e).length
def um1 (ms:List Mt):Nat → PM
 | 0=>[]
 | i+1=>um2 (nth ms i).eps (um1 ms i) (nth ms i).eps.length
theorem zyX {m:PM} {e k e' k':Nat}:inM (zdT ((e:Int),(k:Int)) () m) e' k'=true ↔ (e'=e∧k'=k) ∨ inM m e' k'=true:=by
 unfold inM
 rw [zbH]
 by_cases h:((e:Int),(k:Int))=((e':Int),(k':Int))
 · rw [if_pos h]
   simp only [Prod.mk.injEq,Int.natCast_inj] at h
   simp [h.1,h.2]
 · rw [if_neg h]
   simp only [Prod.mk.injEq,Int.natCast_inj] at h
   constructor
   · exact .inr
   · rintro (⟨rfl,rfl⟩ | q)
     · exact absurd ⟨rfl,rfl⟩ h
     · exact q
theorem in3 {e:Nat} {ps:List Bool} {m:PM} {e' k':Nat} : ∀ n,inM (um3 e ps m n) e' k'=true ↔ inM m e' k'=true ∨ (e'=e∧k' < n∧nth ps k'=true)
 | 0=>by simp [um3]
 | n+1=>by
  have ih:=in3 (e:=e) (ps:=ps) (m:=m) (e':=e') (k':=k') n
  unfold um3
  by_cases h:nth ps n=true
  · rw [if_pos h,zyX,ih]
    constructor
    · rintro (⟨rfl,rfl⟩ | q | ⟨q1,q2,q3⟩)
      · exact .inr ⟨rfl,by omega,h⟩
      · exact .inl q
      · exact .inr ⟨q1,by omega,q3⟩
    · rintro (q | ⟨q1,q2,q3⟩)
      · exact .inr (.inl q)
      · by_cases hk:k'=n
        · exact .inl ⟨q1,hk⟩
        · exact .inr (.inr ⟨q1,by omega,q3⟩)
  · rw [if_neg h,ih]
    constructor
    · rintro (q | ⟨q1,q2,q3⟩)
      · exact .inl q
      · exact .inr ⟨q1,by omega,q3⟩
    · rintro (q | ⟨q1,q2,q3⟩)
      · exact .inl q
      · have:k'≠n:=fun q=>h (by rw [←q];exact q3)
        exact .inr ⟨q1,by omega,q3⟩
theorem in2 {es:List (List Bool)} {m:PM} {e' k':Nat} : ∀ n,inM (um2 es m n) e' k'=true ↔ inM m e' k'=true ∨ (e' < n∧k' < (nth es e').length∧nth (nth es e') k'=true)
 | 0=>by simp [um2]
 | n+1=>by
  have ih:=in2 (es:=es) (m:=m) (e':=e') (k':=k') n
  unfold um2
  rw [in3,ih]
  constructor
  · rintro ((q | ⟨q1,q2,q3⟩) | ⟨rfl,q2,q3⟩)
    · exact .inl q
    · exact .inr ⟨by omega,q2,q3⟩
    · exact .inr ⟨by omega,q2,q3⟩
  · rintro (q | ⟨q1,q2,q3⟩)
    · exact .inl (.inl q)
    · by_cases hk:e'=n
      · subst hk;exact .inr ⟨rfl,q2,q3⟩
      · exact .inl (.inr ⟨by omega,q2,q3⟩)
def zju (ms:List Mt) (j e k:Nat):Prop:=e < (nth ms j).eps.length∧k < (nth (nth ms j).eps e).length∧nth (nth (nth ms j).eps e) k=true
theorem in1 {ms:List Mt} {e k:Nat} : ∀ n,inM (um1 ms n) e k=true ↔ ∃ j,j < n∧zju ms j e k
 | 0=>by simp [um1,inM,yw]
 | n+1=>by
  have ih:=in1 (ms:=ms) (e:=e) (k:=k) n
  unfold um1
  rw [in2,ih]
  constructor
  · rintro (⟨j,q,q2⟩ | q)
    · exact⟨j,by omega,q2⟩
    · exact⟨n,by omega,q⟩
  · rintro ⟨j,q,q2⟩
    by_cases hj:j=n
    · subst hj;exact .inr q2
    · exact .inl ⟨j,by omega,q2⟩
def zoz (ms:List Mt) (i e k:Nat):Prop:=nth (nth (nth ms i).eps e) k=false ∧ ∃ j,j < i∧zju ms j e k
def zfy (ms:List Mt) (i:Nat):Prop := ∃ e k,e < (nth ms i).eps.length∧k < (nth (nth ms i).eps e).length∧zoz ms i e k
def SpR (ms:List Mt) (i:Nat) (b:Bool):Prop:=(b=true∧i < ms.length∧zfy ms i ∧ ∀ j,j < i → ¬zfy ms j) ∨ (b=false∧i=0 ∧ ∀ j,j < ms.length → ¬zfy ms j)
theorem SpR.uniq {ms:List Mt} {i j:Nat} {a b:Bool} (h1:SpR ms i a) (h2:SpR ms j b):i=j∧a=b:=by
 rcases h1 with ⟨rfl,a1,a2,a3⟩ | ⟨rfl,rfl,a3⟩<;>rcases h2 with ⟨rfl,b1,b2,b3⟩ | ⟨rfl,rfl,b3⟩
 · rcases Nat.lt_trichotomy i j with h | h | h
   · exact absurd a2 (b3 i h)
   · exact⟨h,rfl⟩
   · exact absurd b2 (a3 j h)
 · exact absurd a2 (b3 i a1)
 · exact absurd b2 (a3 j b1)
 · exact⟨rfl,rfl⟩
structure Sm (ms:List Mt):Prop where
 len:ms.length≤1000
 es : ∀ i,i < ms.length → (nth ms i).eps.length≤1000
 ps : ∀ i,i < ms.length → ∀ e,e < (nth ms i).eps.length → (nth (nth ms i).eps e).length≤1000

/-! ### The map -/
def pek (p:Int × Int):PV := .agg [i64 p.1,i64 p.2]
def pev (p:Int × Int):Value := .agg #[.int .i64 p.1,.int .i64 p.2]
def okP (p:Int × Int):Prop:=okI p.1∧okI p.2
def tru (_:Unit):AV := .p (bo true)
theorem zlU (d:Nat) (p:Int × Int) (h:okP p):Tryz.prog.keyLits (d+2) 109 [.int .i64 p.1,.int .i64 p.2]=some [.int .i64 p.1,.int .i64 p.2]:=by
 obtain⟨⟨h1,h2⟩,⟨h3,h4⟩⟩:=h
 have i1 : ∀ n,(Lit.int .i64 n).wf=true → Tryz.prog.keyLits (d+1) 3 [.int .i64 n]=some [.int .i64 n]:=fun n h=>zdf Tryz.underlying3 h
 have h5:=i1 _ (wf_i64 h1 h2)
 have h6:=i1 _ (wf_i64 h3 h4)
 unfold Program.keyLits
 simp only [Tryz.underlying109,zgx]
 rw [if_pos ⟨rfl,by kernel_rfl⟩]
 simp only [List.mapM_cons,List.mapM_nil,cells3,List.drop_zero,List.drop_succ_cons,List.take_succ_cons,List.take_zero,h5,h6,Option.pure_def,Option.bind_eq_bind,Option.bind_some,Option.map_some]
 rfl
theorem zr7 (p:Int × Int) (h:okP p):(keyOf Tryz.prog 109 (pev p)).isSome=true:=by
 unfold keyOf
 simp only [Tryz.underlying109]
 have hf:(pev p).formed Tryz.prog 109=true:=by
  simp only [pev,Value.formed,Tryz.underlying109,zgx]
  rfl
 have hk:Tryz.prog.keyType 109=true:=by kernel_rfl
 obtain⟨d,hd⟩ : ∃ d,Tryz.prog.types.size+1=d+2:=⟨Tryz.prog.types.size - 1,by
  have:0 < Tryz.prog.types.size:=of_decide_eq_true (by kernel_rfl)
  omega⟩
 have hg:=zlU d p h
 rw [hk,hf,hd]
 simp only [Bool.and_self,if_true,pev,Value.cells,hg]
 rfl
theorem zr8 (a b:Int × Int) (_:okP a) (_:okP b) (h:pev a=pev b):a=b:=by
 obtain⟨a1,a2⟩:=a
 obtain⟨b1,b2⟩:=b
 simp only [pev,Value.agg.injEq,Array.mk.injEq,List.cons.injEq,Value.int.injEq,true_and,and_true] at h
 rw [h.1,h.2]
theorem placeMap:MapT Tryz.prog 107 pek pev okP tru (.p (bo false)) where
 ty:=⟨109,4,Tryz.underlying107,zpj,zr7,by kernel_rfl⟩
 val _:=rfl
 inj:=zr8
theorem zwn {m:PM} {e k:Nat} (hm : ∀ p∈m,okP p.1) (he:e≤1000) (hk:k≤1000):zdE Tryz.prog 107 (some (tm pev tru m)) (.p (.agg [i64 e,i64 k])) false=some (.p (bo (inM m e k))):=by
 have h:=placeMap.at (k:=((e:Int),(k:Int))) hm ⟨⟨by show _≤(e:Int);omega,by show (e:Int)≤_;omega⟩,⟨by show _≤(k:Int);omega,by show (k:Int)≤_;omega⟩⟩
 unfold inM
 refine h.trans ?_
 cases yw ((e:Int),(k:Int)) m<;>rfl
theorem zr9 {H:Hp} {b:Nat} {m:PM} {e k:Nat} (hm : ∀ p∈m,okP p.1) (he:e≤1000) (hk:k≤1000):zh2 Tryz.prog H 107 b (some (tm pev tru m)) (.p (.agg [i64 e,i64 k])) (.p (bo true))=some (H.set b (.mapB (tm pev tru (zdT ((e:Int),(k:Int)) () m)))) :=
 placeMap.put (k:=((e:Int),(k:Int))) (x:=()) hm ⟨⟨by show _≤(e:Int);omega,by show (e:Int)≤_;omega⟩,⟨by show _≤(k:Int);omega,by show (k:Int)≤_;omega⟩⟩
theorem zwo {a b:Int}:zq [.p (i64 a),.p (i64 b)] = .p (.agg [i64 a,i64 b]):=rfl
attribute [go_sem] zwo
theorem zyY {e k:Nat} (he:e≤1000) (hk:k≤1000):okP ((e:Int),(k:Int)):=⟨⟨by show _≤(e:Int);omega,by show (e:Int)≤_;omega⟩,⟨by show _≤(k:Int);omega,by show (k:Int)≤_;omega⟩⟩
theorem zjv {e:Nat} {ps:List Bool} {m:PM} (he:e≤1000) (hm : ∀ p∈m,okP p.1) : ∀ n,n≤1000 → ∀ p∈um3 e ps m n,okP p.1
 | 0,_=>hm
 | n+1,hn=>by
  unfold um3
  split
  · exact zeM _ (zyY he (by omega)) (zjv he hm n (by omega))
  · exact zjv he hm n (by omega)
theorem zoA {es:List (List Bool)} {m:PM} (hl:es.length≤1000) (hs : ∀ e,e < es.length → (nth es e).length≤1000) (hm : ∀ p∈m,okP p.1) : ∀ n,n≤es.length → ∀ p∈um2 es m n,okP p.1
 | 0,_=>hm
 | n+1,hn=>zjv (by omega) (zoA hl hs hm n (by omega)) _ (hs n (by omega))
theorem zwp {ms:List Mt} (h:Sm ms) : ∀ n,n≤ms.length → ∀ p∈um1 ms n,okP p.1
 | 0,_=>fun p hp=>by cases hp
 | n+1,hn=>zoA (h.es n (by omega)) (h.ps n (by omega)) (zwp h n (by omega)) _ (Nat.le_refl _)
section walks
variable {G:Globs}
set_option maxHeartbeats 4000000 in
set_option maxRecDepth 20000 in
theorem zoB (ms:List Mt) (hs:Sm ms) (H:Hp) (R:AV → Hp → Prop) (h : ∀ i b,SpR ms i b → R (.tup [.p (i64 (i:Nat)),.p (bo b)]) H):ACall Tryz.prog G 18 [.p (.sl false 34 (pl mtr ms))] H R:=by
 have hsl:=hs.len
 refine ACall.of_run (raw:=[]) Tryz.func18 rfl Tryz.ntmps18 (by simp) fun hbel => ?_
 refine .q ?_;refine .text ?_;simp (disch:=first|exact za|fail) only [go_sem,seval,-List.reduceReplicate]
 refine .q ?_;refine .text ?_;simp (disch:=first|exact za|fail) only [go_sem,seval,-List.reduceReplicate]
 refine .q ?_;refine .text ?_;simp (disch:=first|exact za|fail) only [go_sem,seval,-List.reduceReplicate]
 refine .q ?_;refine .loopF [4,12,13] (fun i=>[(14,.p (i64 i))]) (fun i=>[(H.n,.mapB (tm pev tru (um1 ms i)))]) (fun i => ∀ j,j < i → ¬zfy ms j) (0) (ms.length) (by omega) ?_ (by first | rfl | (simp (disch:=first|exact za|fail) only [go_sem,seval,-List.reduceReplicate]<;>rfl)) ?_ ?_ ?_
 · simp (disch:=first|exact za|fail) only [go_sem,seval,-List.reduceReplicate]<;>(repeat' (first | rfl | refine And.intro ?_ ?_))
 rotate_left 1
 intro env T E hQ;simp (disch:=first|exact za|fail) only [go_sem,seval,-List.reduceReplicate] at E
 rotate_left 1
 intro i env T hi0 hi E hQ ihE;simp (disch:=first|exact za|fail) only [go_sem,seval,-List.reduceReplicate] at E
 rotate_left 1
 · exact fun j hj=>absurd hj (by omega)
 · refine .q ?_;refine .text ?_;simp (disch:=first|exact za|fail) only [go_sem,seval,-List.reduceReplicate,E,zc,zf]
   refine .q ?_;refine .ifF (by simp (disch:=first|exact za|fail) only [go_sem,seval,-List.reduceReplicate]) ?_
   refine .q ?_;refine .text ?_;simp (disch:=first|exact za|fail) only [go_sem,seval,-List.reduceReplicate]
   refine .q ?_;refine .rt Tryz.func18 (by rw [Tryz.results18]) (hR := ?_);simp (disch:=first|exact za|fail) only [go_sem,seval,-List.reduceReplicate]
   exact h 0 false (.inr ⟨rfl,rfl,hQ⟩)
 · have h1:=hs.es i hi
   have h2:=hs.ps i hi
   refine .q ?_;refine .text ?_;simp (disch:=first|exact za|fail) only [go_sem,seval,-List.reduceReplicate,E,zc,zf]
   refine .q ?_;refine .ifT (by simp (disch:=first|exact za|fail) only [go_sem,seval,-List.reduceReplicate]) ?_
   refine .q ?_;refine .text ?_;simp (disch:=first|exact za|fail) only [go_sem,seval,-List.reduceReplicate,E]
   refine .q ?_;refine .text ?_;simp (disch:=first|exact za|fail) only [go_sem,seval,-List.reduceReplicate,E]
   have hm0:=zwp hs i (by omega)
   have hu1:um2 (nth ms i).eps (um1 ms i) (nth ms i).eps.length=um1 ms (i+1):=rfl
   refine .q ?_;refine .loopF [4,5,12,13,14,20,21] (fun e=>[(22,.p (i64 e))]) (fun e=>[(H.n,.mapB (tm pev tru (um2 (nth ms i).eps (um1 ms i) e)))]) (fun e => ∀ e',e' < e → ∀ k,k < (nth (nth ms i).eps e').length → ¬zoz ms i e' k) (0) ((nth ms i).eps.length) (by omega) ?_ (by first | rfl | (simp (disch:=first|exact za|fail) only [go_sem,seval,-List.reduceReplicate,E]<;>rfl)) ?_ ?_ ?_
   · simp (disch:=first|exact za|fail) only [go_sem,seval,-List.reduceReplicate,E]<;>(repeat' (first | rfl | refine And.intro ?_ ?_))
   rotate_left 1
   intro env T F hQ;simp (disch:=first|exact za|fail) only [go_sem,seval,-List.reduceReplicate,E] at F
   rotate_left 1
   intro e env T he0 he F hQ ihF;simp (disch:=first|exact za|fail) only [go_sem,seval,-List.reduceReplicate,E] at F
   rotate_left 1
   · exact fun j hj=>absurd hj (by omega)
   · have hv : ¬zfy ms i:=by
      rintro ⟨e,k,q1,q2,q3⟩
      exact hQ e q1 k q2 q3
     rename_i hQ0
     refine .q ?_;refine .text ?_;simp (disch:=first|exact za|fail) only [go_sem,seval,-List.reduceReplicate,F,zc,zf]
     refine .q ?_;refine .ifF (by simp (disch:=first|exact za|fail) only [go_sem,seval,-List.reduceReplicate]) ?_
     refine .q ?_;refine .text ?_;simp (disch:=first|exact za|fail) only [go_sem,seval,-List.reduceReplicate,F,E]
     first | (refine ihE _ _ ?_ (zk hQ0 hv) ?_) | (refine .z rfl ?_;refine ihE _ _ ?_ (zk hQ0 hv) ?_) | (refine .z rfl ?_;refine .z rfl ?_;refine ihE _ _ ?_ (zk hQ0 hv) ?_) | (refine .z rfl ?_;refine .z rfl ?_;refine .z rfl ?_;refine ihE _ _ ?_ (zk hQ0 hv) ?_)
     · simp (disch:=first|exact za|fail) only [go_sem,seval,-List.reduceReplicate,E,F,hu1]<;>(repeat' (first | rfl | refine And.intro ?_ ?_))
     · first | exact .mk _ rfl | exact .mk [] rfl | (apply Later.mk;simp (disch:=first|exact za|fail) only [go_sem,seval,-List.reduceReplicate,zm,E,F,hu1];exact rfl) | (apply Later.mk;simp (disch:=first|exact za|fail) only [go_sem,seval,-List.reduceReplicate,zm,zO,List.append_assoc,E,F,hu1]<;>(try rfl))
   · rename_i hQ0
     have h3:=h2 e he
     have hm1:=zoA h1 h2 hm0 e (by omega)
     refine .q ?_;refine .text ?_;simp (disch:=first|exact za|fail) only [go_sem,seval,-List.reduceReplicate,F,zc,zf]
     refine .q ?_;refine .ifT (by simp (disch:=first|exact za|fail) only [go_sem,seval,-List.reduceReplicate]) ?_
     refine .q ?_;refine .text ?_;simp (disch:=first|exact za|fail) only [go_sem,seval,-List.reduceReplicate,F]
     refine .q ?_;refine .text ?_;simp (disch:=first|exact za|fail) only [go_sem,seval,-List.reduceReplicate,F]
     have hu2:um3 e (nth (nth ms i).eps e) (um2 (nth ms i).eps (um1 ms i) e) (nth (nth ms i).eps e).length=um2 (nth ms i).eps (um1 ms i) (e+1):=rfl
     refine .q ?_;refine .loopF [4,5,7,12,13,14,20,21,22,28,29] (fun k=>[(30,.p (i64 k))]) (fun k=>[(H.n,.mapB (tm pev tru (um3 e (nth (nth ms i).eps e) (um2 (nth ms i).eps (um1 ms i) e) k)))]) (fun k => ∀ k',k' < k → ¬zoz ms i e k') (0) ((nth (nth ms i).eps e).length) (by omega) ?_ (by first | rfl | (simp (disch:=first|exact za|fail) only [go_sem,seval,-List.reduceReplicate,F,E]<;>rfl)) ?_ ?_ ?_
     · simp (disch:=first|exact za|fail) only [go_sem,seval,-List.reduceReplicate,F,E]<;>(repeat' (first | rfl | refine And.intro ?_ ?_))
     rotate_left 1
     intro env T K hQ;simp (disch:=first|exact za|fail) only [go_sem,seval,-List.reduceReplicate,F,E] at K
     rotate_left 1
     intro k env T hk0 hk K hQ ihK;simp (disch:=first|exact za|fail) only [go_sem,seval,-List.reduceReplicate,F,E] at K
     rotate_left 1
     · exact fun j hj=>absurd hj (by omega)
     · rename_i hQ1
       refine .q ?_;refine .text ?_;simp (disch:=first|exact za|fail) only [go_sem,seval,-List.reduceReplicate,K,zc,zf]
       refine .q ?_;refine .ifF (by simp (disch:=first|exact za|fail) only [go_sem,seval,-List.reduceReplicate]) ?_
       refine .q ?_;refine .text ?_;simp (disch:=first|exact za|fail) only [go_sem,seval,-List.reduceReplicate,K,F,E]
       first | (refine ihF _ _ ?_ (zk hQ1 hQ) ?_) | (refine .z rfl ?_;refine ihF _ _ ?_ (zk hQ1 hQ) ?_) | (refine .z rfl ?_;refine .z rfl ?_;refine ihF _ _ ?_ (zk hQ1 hQ) ?_) | (refine .z rfl ?_;refine .z rfl ?_;refine .z rfl ?_;refine ihF _ _ ?_ (zk hQ1 hQ) ?_)
       · simp (disch:=first|exact za|fail) only [go_sem,seval,-List.reduceReplicate,E,F,K,hu2]<;>(repeat' (first | rfl | refine And.intro ?_ ?_))
       · first | exact .mk _ rfl | exact .mk [] rfl | (apply Later.mk;simp (disch:=first|exact za|fail) only [go_sem,seval,-List.reduceReplicate,zm,E,F,K,hu2];exact rfl) | (apply Later.mk;simp (disch:=first|exact za|fail) only [go_sem,seval,-List.reduceReplicate,zm,zO,List.append_assoc,E,F,K,hu2]<;>(try rfl))
     · rename_i hQ1
       have hm2:=zjv (ps:=nth (nth ms i).eps e) (show e≤1000 by omega) hm1 k (by omega)
       have hlk:=zwn hm2 (show e≤1000 by omega) (show k≤1000 by omega)
       have hpt:=fun H b=>zr9 (H:=H) (b:=b) hm2 (show e≤1000 by omega) (show k≤1000 by omega)
       have hl:inM (um3 e (nth (nth ms i).eps e) (um2 (nth ms i).eps (um1 ms i) e) k) e k=true ↔ ∃ j,j < i∧zju ms j e k:=by
        rw [in3,in2,in1]
        constructor
        · rintro ((q | ⟨q,_⟩) | ⟨_,q,_⟩)
          · exact q
          · omega
          · omega
        · exact fun q => .inl (.inl q)
       generalize hM:um3 e (nth (nth ms i).eps e) (um2 (nth ms i).eps (um1 ms i) e) k=M at *
       have hu3:um3 e (nth (nth ms i).eps e) (um2 (nth ms i).eps (um1 ms i) e) (k+1)=if nth (nth (nth ms i).eps e) k then zdT ((e:Int),(k:Int)) () M else M:=by rw [um3,hM]
       refine .q ?_;refine .text ?_;simp (disch:=first|exact za|fail) only [go_sem,seval,-List.reduceReplicate,K,zc,zf]
       refine .q ?_;refine .ifT (by simp (disch:=first|exact za|fail) only [go_sem,seval,-List.reduceReplicate]) ?_
       refine .q ?_;refine .text ?_;simp (disch:=first|exact za|fail) only [go_sem,seval,-List.reduceReplicate,K]
       cases hu:nth (nth (nth ms i).eps e) k with
       | true =>
        have hnv : ¬zoz ms i e k:=fun q=>by rw [zoz,hu] at q;cases q.1
        rw [hu,if_pos rfl] at hu3
        cases hb:inM M e k with
        | true =>
         rw [hb] at hlk
         refine .q ?_;refine .text ?_;simp (disch:=first|exact za|fail) only [go_sem,seval,-List.reduceReplicate,K,F,E,hlk,hu]
         refine .q ?_;refine .ifF (by simp (disch:=first|exact za|fail) only [go_sem,seval,-List.reduceReplicate]) ?_
         refine .skip ?_
         refine .q ?_;refine .text ?_;simp (disch:=first|exact za|fail) only [go_sem,seval,-List.reduceReplicate]
         refine .q ?_;refine .ifT (by simp (disch:=first|exact za|fail) only [go_sem,seval,-List.reduceReplicate,hu]) ?_
         refine .q ?_;refine .text ?_;simp (disch:=first|exact za|fail) only [go_sem,seval,-List.reduceReplicate,K,F,E,hpt]
         refine .q ?_;refine .text ?_;simp (disch:=first|exact za|fail) only [go_sem,seval,-List.reduceReplicate,K]
         first | (refine ihK _ _ ?_ (zk hQ hnv) ?_) | (refine .z rfl ?_;refine ihK _ _ ?_ (zk hQ hnv) ?_) | (refine .z rfl ?_;refine .z rfl ?_;refine ihK _ _ ?_ (zk hQ hnv) ?_) | (refine .z rfl ?_;refine .z rfl ?_;refine .z rfl ?_;refine ihK _ _ ?_ (zk hQ hnv) ?_)
         · simp (disch:=first|exact za|fail) only [go_sem,seval,-List.reduceReplicate,E,F,K,hu3]<;>(repeat' (first | rfl | refine And.intro ?_ ?_))
         · first | exact .mk _ rfl | exact .mk [] rfl | (apply Later.mk;simp (disch:=first|exact za|fail) only [go_sem,seval,-List.reduceReplicate,zm,E,F,K,hu3];exact rfl) | (apply Later.mk;simp (disch:=first|exact za|fail) only [go_sem,seval,-List.reduceReplicate,zm,zO,List.append_assoc,E,F,K,hu3]<;>(try rfl))
        | false =>
         rw [hb] at hlk
         refine .q ?_;refine .text ?_;simp (disch:=first|exact za|fail) only [go_sem,seval,-List.reduceReplicate,K,F,E,hlk,hu]
         refine .q ?_;refine .ifF (by simp (disch:=first|exact za|fail) only [go_sem,seval,-List.reduceReplicate]) ?_
         refine .skip ?_
         refine .q ?_;refine .text ?_;simp (disch:=first|exact za|fail) only [go_sem,seval,-List.reduceReplicate]
         refine .q ?_;refine .ifT (by simp (disch:=first|exact za|fail) only [go_sem,seval,-List.reduceReplicate,hu]) ?_
         refine .q ?_;refine .text ?_;simp (disch:=first|exact za|fail) only [go_sem,seval,-List.reduceReplicate,K,F,E,hpt]
         refine .q ?_;refine .text ?_;simp (disch:=first|exact za|fail) only [go_sem,seval,-List.reduceReplicate,K]
         first | (refine ihK _ _ ?_ (zk hQ hnv) ?_) | (refine .z rfl ?_;refine ihK _ _ ?_ (zk hQ hnv) ?_) | (refine .z rfl ?_;refine .z rfl ?_;refine ihK _ _ ?_ (zk hQ hnv) ?_) | (refine .z rfl ?_;refine .z rfl ?_;refine .z rfl ?_;refine ihK _ _ ?_ (zk hQ hnv) ?_)
         · simp (disch:=first|exact za|fail) only [go_sem,seval,-List.reduceReplicate,E,F,K,hu3]<;>(repeat' (first | rfl | refine And.intro ?_ ?_))
         · first | exact .mk _ rfl | exact .mk [] rfl | (apply Later.mk;simp (disch:=first|exact za|fail) only [go_sem,seval,-List.reduceReplicate,zm,E,F,K,hu3];exact rfl) | (apply Later.mk;simp (disch:=first|exact za|fail) only [go_sem,seval,-List.reduceReplicate,zm,zO,List.append_assoc,E,F,K,hu3]<;>(try rfl))
       | false =>
        rw [hu] at hu3
        cases hb:inM M e k with
        | true =>
         rw [hb] at hlk
         refine .q ?_;refine .text ?_;simp (disch:=first|exact za|fail) only [go_sem,seval,-List.reduceReplicate,K,F,E,hlk,hu]
         refine .q ?_;refine .ifT (by simp (disch:=first|exact za|fail) only [go_sem,seval,-List.reduceReplicate]) ?_
         refine .q ?_;refine .text ?_;simp (disch:=first|exact za|fail) only [go_sem,seval,-List.reduceReplicate,K,F,E]
         refine .q ?_;refine .rt Tryz.func18 (by rw [Tryz.results18]) (hR := ?_);simp (disch:=first|exact za|fail) only [go_sem,seval,-List.reduceReplicate]
         exact h i true (.inl ⟨rfl,hi,⟨e,k,he,hk,hu,hl.1 hb⟩,hQ0⟩)
        | false =>
         have hnv : ¬zoz ms i e k:=fun q=>by have:=hl.2 q.2;rw [hb] at this;cases this
         rw [hb] at hlk
         refine .q ?_;refine .text ?_;simp (disch:=first|exact za|fail) only [go_sem,seval,-List.reduceReplicate,K,F,E,hlk,hu]
         refine .q ?_;refine .ifF (by simp (disch:=first|exact za|fail) only [go_sem,seval,-List.reduceReplicate]) ?_
         refine .skip ?_
         refine .q ?_;refine .text ?_;simp (disch:=first|exact za|fail) only [go_sem,seval,-List.reduceReplicate]
         refine .q ?_;refine .ifF (by simp (disch:=first|exact za|fail) only [go_sem,seval,-List.reduceReplicate,hu]) ?_
         refine .skip ?_
         refine .q ?_;refine .text ?_;simp (disch:=first|exact za|fail) only [go_sem,seval,-List.reduceReplicate,K]
         first | (refine ihK _ _ ?_ (zk hQ hnv) ?_) | (refine .z rfl ?_;refine ihK _ _ ?_ (zk hQ hnv) ?_) | (refine .z rfl ?_;refine .z rfl ?_;refine ihK _ _ ?_ (zk hQ hnv) ?_) | (refine .z rfl ?_;refine .z rfl ?_;refine .z rfl ?_;refine ihK _ _ ?_ (zk hQ hnv) ?_)
         · simp (disch:=first|exact za|fail) only [go_sem,seval,-List.reduceReplicate,E,F,K,hu3]<;>(repeat' (first | rfl | refine And.intro ?_ ?_))
         · first | exact .mk _ rfl | exact .mk [] rfl | (apply Later.mk;simp (disch:=first|exact za|fail) only [go_sem,seval,-List.reduceReplicate,zm,E,F,K,hu3];exact rfl) | (apply Later.mk;simp (disch:=first|exact za|fail) only [go_sem,seval,-List.reduceReplicate,zm,zO,List.append_assoc,E,F,K,hu3]<;>(try rfl))
end walks
end Go.Proofs.YtgflpgcogkdpgaaGreatDoor

/-
  Audits: points that become available again,by the reference.
-/
namespace Go.Proofs.YtgflpgcogkdpgaaGreatDoor
open Go Go.AL

section walks
variable {G:Globs}
end walks
end Go.Proofs.YtgflpgcogkdpgaaGreatDoor

/-
  Audits: certificates of the same question.
-/
namespace Go.Proofs.YtgflpgcogkdpgaaGreatDoor
open Go Go.AL

structure Crt where
 q:By
 log:Int
 root:By
 mid:List PV
 sums:List Int
 rest:List PV
 hr:root.length=32
 hm:mid.length=4
 hl:rest.length=10
instance:Inhabited Crt:=⟨⟨[],0,List.replicate 32 0#8,List.replicate 4 (i64 0),[],List.replicate 10 (i64 0),rfl,rfl,rfl⟩⟩
def zsa (c:Crt):List PV:=str (bytesOf c.q) :: i64 c.log :: (pl b8 c.root++(c.mid++(.sl false 1 (pl i64 c.sums) :: c.rest)))
def crt (c:Crt):PV := .agg (zsa c)
def crc (c:Crt):List AV:=(zsa c).map .p
section enc
variable {c:Crt} {l:List Crt}
theorem zg6:(zsa c).length=49:=by simp [zsa,c.hr,c.hm,c.hl,pl]
theorem zil:(crt c).cells=zsa c:=rfl
theorem zBm:zi (.p (crt c))=some (crc c):=rfl
theorem zBn:(crt c).aggOf 0 49=crt c:=by
 rw [PV.aggOf_eq,zil,List.drop_zero,List.take_of_length_le (by rw [zg6];exact Nat.le_refl _)];rfl
theorem zy0:(crc c).length=49:=by rw [crc,List.length_map,zg6]
theorem zDm:(crc c)[0]? = some (.p (str (bytesOf c.q))):=rfl
theorem zDn:(crc c)[1]? = some (.p (i64 c.log)):=rfl
theorem zwq:crc c = .p (str (bytesOf c.q)) :: .p (i64 c.log) :: (cl b8 c.root++(c.mid.map .p++(.p (.sl false 1 (pl i64 c.sums)) :: c.rest.map .p))):=by simp [crc,zsa,cl,pl]
theorem zDo:((crc c).drop 2).take 32=cl b8 c.root:=by
 rw [zwq];simp only [List.drop_succ_cons,List.drop_zero]
 rw [List.take_left' (by simp [cl,c.hr])]
theorem zBo:(crc c)[38]? = some (.p (.sl false 1 (pl i64 c.sums))):=by
 rw [zwq];simp only [List.getElem?_cons_succ]
 rw [List.getElem?_append_right (by simp [cl,c.hr]),List.getElem?_append_right (by simp [cl,c.hr,c.hm])]
 simp [cl,c.hr,c.hm]
theorem zsc:(crt c).isAgg=true:=rfl
theorem zoC:(AV.p (crt c)).isAggV=true:=rfl
theorem zBp:(crt c).weak1=crt c:=rfl
end enc
attribute [go_sem] zg6 zil zBm zBn zy0 zDm zDn zDo zBo zsc zoC zBp
abbrev Qn:=By × Int × By
def Crt.key (c:Crt):Qn:=(c.q,c.log,c.root)
def Cons (l:List Crt) (n:Nat):Prop := ∀ a b,a < n → b < n → (nth l a).key=(nth l b).key → (nth l a).sums=(nth l b).sums
open Classical in
noncomputable def smB (l:List Crt):Bool:=decide (Cons l l.length)
theorem zwr {l:List Crt} (h:Cons l l.length):smB l=true:=by classical simp [smB,h]
theorem zzL {l:List Crt} (h : ¬Cons l l.length):smB l=false:=by classical simp [smB,h]
theorem Cons.succ {l:List Crt} {i:Nat} (h:Cons l i) (hi : ∀ b,b < i → (nth l b).key=(nth l i).key → (nth l b).sums=(nth l i).sums):Cons l (i+1):=fun a b ha hb e=>by
 rcases Nat.lt_or_ge a i with q | q<;>rcases Nat.lt_or_ge b i with q2 | q2
 · exact h a b q q2 e
 · obtain rfl:b=i:=by omega
   exact hi a q e
 · obtain rfl:a=i:=by omega
   exact (hi b q2 e.symm).symm
 · obtain rfl:a=i:=by omega
   obtain rfl:b=a:=by omega
   rfl
def mp (l:List Crt):Nat → List (Qn × List Int)
 | 0=>[]
 | i+1=>zdT (nth l i).key (nth l i).sums (mp l i)
theorem zpL {l:List Crt} : ∀ i,Cons l i → (∀ a,a < i → yw (nth l a).key (mp l i)=some (nth l a).sums) ∧ ∀ q,(∀ a,a < i → (nth l a).key≠q) → yw q (mp l i)=none
 | 0,_=>⟨fun a h=>absurd h (by omega),fun q _=>rfl⟩
 | i+1,h=>by
  obtain⟨h1,h2⟩:=zpL i (fun a b ha hb=>h a b (by omega) (by omega))
  refine⟨fun a ha => ?_,fun q hq => ?_⟩
  · rw [mp,zbH]
    by_cases e:(nth l i).key=(nth l a).key
    · rw [if_pos e,h i a (by omega) ha e]
    · rw [if_neg e]
      have:a≠i:=fun q=>e (by rw [q])
      exact h1 a (by omega)
  · rw [mp,zbH,if_neg (hq i (by omega))]
    exact h2 q fun a ha=>hq a (by omega)
/-! ### The map -/
def qek (p:Qn):PV := .agg (str (bytesOf p.1) :: i64 p.2.1 :: pl b8 p.2.2)
def qvl (p:Qn):List Value := .string (bytesOf p.1) :: .int .i64 p.2.1 :: p.2.2.map fun x => .int .u8 x.toNat
def qev (p:Qn):Value := .agg (qvl p).toArray
def okQ (p:Qn):Prop:=okI p.2.1∧p.2.2.length=32∧p.1.length≤maxLen
def zsd (l:List Int):AV := .p (.sl false 1 (pl i64 l))
theorem keyLits_ints' {α:Type} [Inhabited α] {P:Program} {t:TypeId} {k:IntKind} (z:α → Int) (hz : ∀ x,(Lit.int k (z x)).wf=true) (l:List α) (h:zee P t k l.length=true) (d:Nat) :
 P.keyLits (d+2) t (l.map fun x=>Value.int k (z x))=some (l.map fun x=>Lit.int k (z x)):=by
 unfold zee at h
 split at h
 case h_2=>cases h
 rename_i m e hu
 simp only [Bool.and_eq_true,beq_iff_eq] at h
 obtain⟨⟨⟨⟨⟨⟨h1,h2⟩,h3⟩,h4⟩,_⟩,_⟩,_⟩:=h
 split at h1
 case h_2=>cases h1
 rename_i k' hk
 have hk':k'=k:=by simpa using h1
 subst hk' h2
 unfold Program.keyLits
 simp only [hu,List.length_map,h4,if_true]
 have hm:=Go.AL.mapM_flat (fun i=>P.keyLits (d+1) e (((l.map fun x=>Value.int k' (z x)).drop (i*P.cellsOf e)).take (P.cellsOf e))) (fun i=>Lit.int k' (z (nth l i))) (List.range l.length) (fun i hi=>by
  have hi':i < l.length:=List.mem_range.1 hi
  have e1:((l.map fun x=>Value.int k' (z x)).drop (i*P.cellsOf e)).take (P.cellsOf e)=[Value.int k' (z (nth l i))]:=by
   rw [h3,Nat.mul_one,List.take_one]
   simp [nth,hi']
  simp only [e1]
  unfold Program.keyLits
  simp [hk,hz])
 rw [hm]
 congr 1
 refine List.ext_getElem? fun i => ?_
 by_cases hi:i < l.length
 · simp [hi,nth]
 · simp [Nat.le_of_not_lt hi]
theorem zy1 (d:Nat) (p:Qn) (h:okQ p):Tryz.prog.keyLits (d+3) 114 (qvl p)=some (.string (bytesOf p.1).data.toList :: .int .i64 p.2.1 :: p.2.2.map fun x => .int .u8 x.toNat):=by
 obtain⟨⟨h1,h2⟩,h3,h4⟩:=h
 have i1:Tryz.prog.keyLits (d+2) 3 [.int .i64 p.2.1]=some [.int .i64 p.2.1]:=zdf Tryz.underlying3 (wf_i64 h1 h2)
 have i2:Tryz.prog.keyLits (d+2) 9 [.string (bytesOf p.1)]=some [.string (bytesOf p.1).data.toList]:=by
  have h5:(bytesOf p.1).size≤maxLen:=by rw [show (bytesOf p.1).size=p.1.length by simp [bytesOf,ByteArray.size]];exact h4
  unfold Program.keyLits;simp [Tryz.underlying9,h5]
 have i3:=keyLits_ints' (P:=Tryz.prog) (t:=33) (k := .u8) (fun x:BitVec 8=>(x.toNat:Int)) (fun x=>by have:=x.isLt;simp only [Lit.wf,Bool.and_eq_true,decide_eq_true_eq];exact⟨by show (0:Int)≤_;omega,by show _≤(255:Int);omega⟩) p.2.2 (by rw [h3];exact zvM) d
 unfold Program.keyLits
 simp only [Tryz.underlying114,zgy]
 rw [if_pos ⟨by simp [qvl,h3],by kernel_rfl⟩]
 have e3:(p.2.2.map fun x=>Value.int .u8 x.toNat).take 32=p.2.2.map fun x=>Value.int .u8 x.toNat:=List.take_of_length_le (by simp [h3])
 simp only [List.mapM_cons,List.mapM_nil,cells3,cells9,cells33,qvl,List.drop_zero,List.drop_succ_cons,List.take_succ_cons,List.take_zero,e3,i1,i2,i3,Option.pure_def,Option.bind_eq_bind,Option.bind_some,Option.map_some]
 simp
theorem zBr (p:Qn) (h:okQ p):(keyOf Tryz.prog 114 (qev p)).isSome=true:=by
 unfold keyOf
 simp only [Tryz.underlying114]
 have hf:(qev p).formed Tryz.prog 114=true:=by
  simp only [qev,qvl,Value.formed,Tryz.underlying114,zgy]
  simp [h.2.1]
 have hk:Tryz.prog.keyType 114=true:=by kernel_rfl
 obtain⟨d,hd⟩ : ∃ d,Tryz.prog.types.size+1=d+3:=⟨Tryz.prog.types.size - 2,by
  have:1 < Tryz.prog.types.size:=of_decide_eq_true (by kernel_rfl)
  omega⟩
 have hg:=zy1 d p h
 rw [hk,hf,hd]
 simp only [Bool.and_self,if_true,qev,Value.cells,List.toList_toArray,hg]
 rfl
theorem zBs (a b:Qn) (_:okQ a) (_:okQ b) (h:qev a=qev b):a=b:=by
 obtain⟨a1,a2,a3⟩:=a
 obtain⟨b1,b2,b3⟩:=b
 have hq:qvl (a1,a2,a3)=qvl (b1,b2,b3):=by simpa using congrArg Array.toList (Value.agg.inj h)
 unfold qvl at hq
 obtain⟨h1,h2⟩:=List.cons.inj hq
 obtain⟨h2,h3⟩:=List.cons.inj h2
 have h1:bytesOf a1=bytesOf b1:=Value.string.inj h1
 have h2:a2=b2:=(Value.int.inj h2).2
 have e1:a1=b1:=by
  have:=zfD (a:=a1) (b:=b1)
  rw [h1] at this
  simpa using this.symm
 have e3:a3=b3:=by
  refine List.map_inj_right (f:=fun x:BitVec 8=>Value.int .u8 x.toNat) (fun x y hxy => ?_) |>.1 h3
  have:(x.toNat:Int)=y.toNat:=by simpa using hxy
  exact BitVec.eq_of_toNat_eq (by omega)
 rw [e1,h2,e3]
theorem zBt (k:Qn):(qek k).val? = some (qev k):=by
 have h:zaE (pl b8 k.2.2)=some (k.2.2.map fun x=>Value.int .u8 x.toNat):=zcu _ _
 show (zaE (str (bytesOf k.1) :: i64 k.2.1 :: pl b8 k.2.2)).map (fun vs=>Value.agg vs.toArray)=_
 simp only [zaE,i64,h,Option.map_some]
 rfl
theorem qMap:MapT Tryz.prog 112 qek qev okQ zsd (.p (.sl true 1 [])) where
 ty:=⟨114,23,Tryz.underlying112,zpk,zBr,by kernel_rfl⟩
 val:=zBt
 inj:=zBs
end Go.Proofs.YtgflpgcogkdpgaaGreatDoor

/-
  Audits: Same.
-/
namespace Go.Proofs.YtgflpgcogkdpgaaGreatDoor
open Go Go.AL

structure CrtOk (c:Crt):Prop where
 log:okI c.log
 q:c.q.length≤maxLen
 sums:c.sums.length≤9223372036854775807
theorem CrtOk.key {c:Crt} (h:CrtOk c):okQ c.key:=⟨h.log,c.hr,h.q⟩
theorem zzN {l:List Crt} (h : ∀ i,i < l.length → CrtOk (nth l i)) : ∀ i,i≤l.length → ∀ p∈mp l i,okQ p.1
 | 0,_=>fun p hp=>by cases hp
 | i+1,hi=>zeM _ (h i (by omega)).key (zzN h i (by omega))
theorem zwt {l:List Crt} (h : ∀ i,i < l.length → CrtOk (nth l i)) {q:Qn} {s:List Int} : ∀ i,i≤l.length → yw q (mp l i)=some s → ∃ a,a < i∧(nth l a).key=q∧(nth l a).sums=s
 | 0,_,e=>by cases e
 | i+1,hi,e=>by
  rw [mp,zbH] at e
  by_cases k:(nth l i).key=q
  · rw [if_pos k] at e;cases e;exact⟨i,by omega,k,rfl⟩
  · rw [if_neg k] at e
    obtain⟨a,h1,h2⟩:=zwt h i (by omega) e
    exact⟨a,by omega,h2⟩
def qc (p:Qn):List AV := .p (str (bytesOf p.1)) :: .p (i64 p.2.1) :: cl b8 p.2.2
theorem zDq {p:Qn}:zi (.p (qek p))=some (qc p):=by
 show some ((str (bytesOf p.1) :: i64 p.2.1 :: pl b8 p.2.2).map AV.p)=_;simp [qc,cl,pl]
theorem zDr {p:Qn}:zq (qc p) = .p (qek p):=by
 rw [show qc p=(str (bytesOf p.1) :: i64 p.2.1 :: pl b8 p.2.2).map AV.p by simp [qc,cl,pl],zq,zdF];rfl
theorem zoD {p:Qn} (h:p.2.2.length=32):(qc p).length=34:=by simp [qc,cl,h]
theorem zBu {q r:By} {g:Int} (h:r.length=32):setAt (.p (str (bytesOf q)) :: .p (i64 g) :: cl b8 (List.replicate 32 0#8)) 2 (cl b8 r)=qc (q,g,r):=by
 rw [yd _ _ _ (by simp [cl,h])]
 simp [qc,cl,h]
theorem zy2 {p:Qn} (h:p.2.2.length=32):setAt (.p (str ByteArray.empty) :: .p (i64 0) :: cl b8 (List.replicate 32 0#8)) 0 (qc p)=qc p:=zH (by rw [zoD h];simp [cl])
theorem zy3 {p:Qn} (h:p.2.2.length=32):(qc p).take 34=qc p:=List.take_of_length_le (by rw [zoD h];exact Nat.le_refl _)
section walks
variable {G:Globs}
set_option maxHeartbeats 4000000 in
set_option maxRecDepth 20000 in
theorem zd0 (l:List Crt) (hl:l.length≤1000) (hc : ∀ i,i < l.length → CrtOk (nth l i)) (H:Hp) (R:AV → Hp → Prop) (h:R (.p (bo (smB l))) H):ACall Tryz.prog G 20 [.p (.sl false 49 (pl crt l))] H R:=by
 refine ACall.of_run (raw:=[]) Tryz.func20 rfl Tryz.ntmps20 (by simp) fun hbel => ?_
 refine .q ?_;refine .text ?_;simp (disch:=first|exact za|fail) only [go_sem,seval,-List.reduceReplicate]
 refine .q ?_;refine .text ?_;simp (disch:=first|exact za|fail) only [go_sem,seval,-List.reduceReplicate]
 refine .q ?_;refine .text ?_;simp (disch:=first|exact za|fail) only [go_sem,seval,-List.reduceReplicate]
 refine .q ?_;refine .loopF [3,10,11] (fun i=>[(12,.p (i64 i))]) (fun i=>[(H.n,.mapB (tm qev zsd (mp l i)))]) (fun i=>Cons l i) (0) (l.length) (by omega) ?_ (by first | rfl | (simp (disch:=first|exact za|fail) only [go_sem,seval,-List.reduceReplicate]<;>rfl)) ?_ ?_ ?_
 · simp (disch:=first|exact za|fail) only [go_sem,seval,-List.reduceReplicate]<;>(repeat' (first | rfl | refine And.intro ?_ ?_))
 rotate_left 1
 intro env T E hQ;simp (disch:=first|exact za|fail) only [go_sem,seval,-List.reduceReplicate] at E
 rotate_left 1
 intro i env T hi0 hi E hQ ihE;simp (disch:=first|exact za|fail) only [go_sem,seval,-List.reduceReplicate] at E
 rotate_left 1
 · exact fun a b ha=>absurd ha (by omega)
 · rw [zwr hQ] at h
   refine .q ?_;refine .text ?_;simp (disch:=first|exact za|fail) only [go_sem,seval,-List.reduceReplicate,E,zc,zf]
   refine .q ?_;refine .ifF (by simp (disch:=first|exact za|fail) only [go_sem,seval,-List.reduceReplicate]) ?_
   refine .q ?_;refine .text ?_;simp (disch:=first|exact za|fail) only [go_sem,seval,-List.reduceReplicate]
   refine .q ?_;refine .rt Tryz.func20 (by rw [Tryz.results20]) (hR := ?_);simp (disch:=first|exact za|fail) only [go_sem,seval,-List.reduceReplicate]
   exact h
 · obtain⟨hm1,hm2⟩:=zpL i hQ
   have hci:=hc i hi
   have hk:=zzN hc i (by omega)
   have hlen:=fun s=>zwt hc (q:=(nth l i).key) (s:=s) i (by omega)
   have hlk:=qMap.look hk hci.key
   have hpt : ∀ H b,zh2 Tryz.prog H 112 b (some (tm qev zsd (mp l i))) (.p (qek (nth l i).key)) (.p (.sl false 1 (pl i64 (nth l i).sums)))=some (H.set b (.mapB (tm qev zsd (mp l (i+1))))):=fun H b=>qMap.put hk hci.key
   refine .q ?_;refine .text ?_;simp (disch:=first|exact za|fail) only [go_sem,seval,-List.reduceReplicate,E,zc,zf]
   refine .q ?_;refine .ifT (by simp (disch:=first|exact za|fail) only [go_sem,seval,-List.reduceReplicate]) ?_
   have hr:=(nth l i).hr
   have k1:=zDq (p:=(nth l i).key)
   have k2:=zDr (p:=(nth l i).key)
   have k3:=zoD (p:=(nth l i).key) hr
   have k4:=zBu (q:=(nth l i).q) (g:=(nth l i).log) hr
   have k5:=zy2 (p:=(nth l i).key) hr
   have k6:=zy3 (p:=(nth l i).key) hr
   rw [show ((nth l i).q,(nth l i).log,(nth l i).root)=(nth l i).key from rfl] at k4
   refine .q ?_;refine .text ?_;simp (disch:=first|exact za|fail) only [go_sem,seval,-List.reduceReplicate,E]
   refine .q ?_;refine .text ?_;simp (disch:=first|exact za|fail) only [go_sem,seval,-List.reduceReplicate,E,hr,k1,k2,k3,k4,k5,k6]
   have hsl:=hci.sums
   cases ha:yw (nth l i).key (mp l i) with
   | none =>
    have hcn:Cons l (i+1):=hQ.succ fun b hb e=>by
     have:=hm1 b hb
     rw [e,ha] at this;cases this
    rw [ha] at hlk
    refine .q ?_;refine .text ?_;simp (disch:=first|exact za|fail) only [go_sem,seval,-List.reduceReplicate,E,hlk,k1,k2,k3,k4,k5,k6]
    refine .q ?_;refine .text ?_;simp (disch:=first|exact za|fail) only [go_sem,seval,-List.reduceReplicate,E,k1,k2,k3,k4,k5,k6]
    refine .q ?_;refine .ifF (by simp (disch:=first|exact za|fail) only [go_sem,seval,-List.reduceReplicate]) ?_
    refine .skip ?_
    refine .q ?_;refine .text ?_;simp (disch:=first|exact za|fail) only [go_sem,seval,-List.reduceReplicate,E,hpt,k1,k2,k3,k4,k5,k6]
    refine .q ?_;refine .text ?_;simp (disch:=first|exact za|fail) only [go_sem,seval,-List.reduceReplicate,E]
    first | (refine ihE _ _ ?_ hcn ?_) | (refine .z rfl ?_;refine ihE _ _ ?_ hcn ?_) | (refine .z rfl ?_;refine .z rfl ?_;refine ihE _ _ ?_ hcn ?_) | (refine .z rfl ?_;refine .z rfl ?_;refine .z rfl ?_;refine ihE _ _ ?_ hcn ?_)
    · simp (disch:=first|exact za|fail) only [go_sem,seval,-List.reduceReplicate,E,zc,zf]<;>(repeat' (first | rfl | refine And.intro ?_ ?_))
    · first | exact .mk _ rfl | exact .mk [] rfl | (apply Later.mk;simp (disch:=first|exact za|fail) only [go_sem,seval,-List.reduceReplicate,zm,E,zc,zf];exact rfl) | (apply Later.mk;simp (disch:=first|exact za|fail) only [go_sem,seval,-List.reduceReplicate,zm,zO,List.append_assoc,E,zc,zf]<;>(try rfl))
   | some s =>
    obtain⟨a,h1,h2,h3⟩:=hlen s ha
    rw [ha] at hlk
    by_cases hs:s=(nth l i).sums
    · have hcn:Cons l (i+1):=hQ.succ fun b hb e=>by
       have:=hm1 b hb
       rw [e,ha] at this;cases this;exact hs
      have d1:decide (s=(nth l i).sums)=true:=decide_eq_true hs
      have hsl2:s.length≤9223372036854775807:=by rw [hs];exact hsl
      refine .q ?_;refine .text ?_;simp (disch:=first|exact za|fail) only [go_sem,seval,-List.reduceReplicate,E,hlk,k1,k2,k3,k4,k5,k6,zsd]
      refine .q ?_;refine .text ?_;simp (disch:=first|exact za|fail) only [go_sem,seval,-List.reduceReplicate,E,k1,k2,k3,k4,k5,k6]
      refine CallK.of (fun R h=>zij s _ hsl2 hsl _ R h) ?_;simp (disch:=first|exact za|fail) only [go_sem,seval,-List.reduceReplicate,d1]
      refine .q ?_;refine .ifF (by simp (disch:=first|exact za|fail) only [go_sem,seval,-List.reduceReplicate]) ?_
      refine .skip ?_
      refine .q ?_;refine .text ?_;simp (disch:=first|exact za|fail) only [go_sem,seval,-List.reduceReplicate,E,hpt,k1,k2,k3,k4,k5,k6]
      refine .q ?_;refine .text ?_;simp (disch:=first|exact za|fail) only [go_sem,seval,-List.reduceReplicate,E]
      first | (refine ihE _ _ ?_ hcn ?_) | (refine .z rfl ?_;refine ihE _ _ ?_ hcn ?_) | (refine .z rfl ?_;refine .z rfl ?_;refine ihE _ _ ?_ hcn ?_) | (refine .z rfl ?_;refine .z rfl ?_;refine .z rfl ?_;refine ihE _ _ ?_ hcn ?_)
      · simp (disch:=first|exact za|fail) only [go_sem,seval,-List.reduceReplicate,E,zc,zf]<;>(repeat' (first | rfl | refine And.intro ?_ ?_))
      · first | exact .mk _ rfl | exact .mk [] rfl | (apply Later.mk;simp (disch:=first|exact za|fail) only [go_sem,seval,-List.reduceReplicate,zm,E,zc,zf];exact rfl) | (apply Later.mk;simp (disch:=first|exact za|fail) only [go_sem,seval,-List.reduceReplicate,zm,zO,List.append_assoc,E,zc,zf]<;>(try rfl))
    · have hcn : ¬Cons l l.length:=fun q=>hs (by rw [←h3];exact q a i (by omega) hi h2)
      rw [zzL hcn] at h
      have d1:decide (s=(nth l i).sums)=false:=decide_eq_false hs
      have hsl2:s.length≤9223372036854775807:=by rw [←h3];exact (hc a (by omega)).sums
      refine .q ?_;refine .text ?_;simp (disch:=first|exact za|fail) only [go_sem,seval,-List.reduceReplicate,E,hlk,k1,k2,k3,k4,k5,k6,zsd]
      refine .q ?_;refine .text ?_;simp (disch:=first|exact za|fail) only [go_sem,seval,-List.reduceReplicate,E,k1,k2,k3,k4,k5,k6]
      refine CallK.of (fun R h=>zij s _ hsl2 hsl _ R h) ?_;simp (disch:=first|exact za|fail) only [go_sem,seval,-List.reduceReplicate,d1]
      refine .q ?_;refine .ifT (by simp (disch:=first|exact za|fail) only [go_sem,seval,-List.reduceReplicate]) ?_
      refine .q ?_;refine .text ?_;simp (disch:=first|exact za|fail) only [go_sem,seval,-List.reduceReplicate]
      refine .q ?_;refine .rt Tryz.func20 (by rw [Tryz.results20]) (hR := ?_);simp (disch:=first|exact za|fail) only [go_sem,seval,-List.reduceReplicate]
      exact h
end walks
end Go.Proofs.YtgflpgcogkdpgaaGreatDoor

/-
  Audits: honest sessions (plain).
-/
namespace Go.Proofs.YtgflpgcogkdpgaaGreatDoor
open Go Go.AL

def mqq (id:Int) (P:List Msg) (c:Ses) (i:Nat):Msg := { nth P i with session:=id,step:=i,root:=if (nth P i).kind≠2 then c.seen else (nth P i).root }
def com (id:Int) (P:List Msg):Nat → Ses
 | 0=>zeQ id 0
 | i+1=>zbS (com id P i) (mqq id P (com id P i) i) (enc (mqq id P (com id P i) i))
def mi (id:Int) (P:List Msg) (i:Nat):Msg:=mqq id P (com id P i) i
def la (id:Int) (P:List Msg) (k:Nat):Nat → Msg
 | 0=>zM
 | i+1=>if i % 2=k then mi id P i else la id P k i
def zZ (id:Int) (P:List Msg) (D:Int) (i k:Nat):Ses := { com id P i with last:=la id P k i,due:=D }
def ser (id:Int) (P:List Msg) (i:Nat):Int:=(send (zZ id P 1 i (i % 2)) (mi id P i)).2.2
section hon
variable {id:Int} {P:List Msg} {D:Int} {i k:Nat}
theorem zoE : ∀ i,(com id P i).id=id
 | 0=>rfl
 | i+1=>zoE i
theorem zbe : ∀ i,(com id P i).step=i
 | 0=>rfl
 | i+1=>by show (com id P i).step+1=_;rw [zbe i];rfl
theorem zg7:zcN (zZ id P D i k) (mi id P i)=mi id P i:=by
 have h1:(zZ id P D i k).id=id:=zoE i
 have h2:(zZ id P D i k).step=i:=zbe i
 have h3:(zZ id P D i k).seen=(com id P i).seen:=rfl
 unfold zcN
 rw [h1,h2,h3]
 unfold mi mqq
 by_cases h:(nth P i).kind=2
 · simp [h]
 · simp [h]
theorem zlV {m:Msg} {b:By} {l:Msg}:zbS { com id P i with last:=l,due:=D } m b = { zbS (com id P i) m b with last:=l,due:=D }:=by simp only [zbS]
theorem zlW (h:i % 2=k):zZ id P D (i+1) k = { zbS (zZ id P D i k) (mi id P i) (enc (mi id P i)) with last:=mi id P i }:=by
 simp only [zZ,zlV,la,h,if_true]
 rfl
theorem zlX (h:i % 2≠k):zZ id P D (i+1) k=zbS (zZ id P D i k) (mi id P i) (enc (mi id P i)):=by
 simp only [zZ,zlV,la,h,if_false]
 rfl
theorem zdz (h:ser id P i=0):zcj (zZ id P 1 i (i % 2)) (mi id P i)=false∧valid (mi id P i)=true:=by
 unfold ser Go.Proofs.YtgflpgcogkdpgaaGreatDoor.send at h
 rw [zg7] at h
 cases h1:zcj (zZ id P 1 i (i % 2)) (mi id P i) with
 | true=>rw [h1,if_pos rfl] at h;exact absurd h (show (290:Int)≠0 by decide)
 | false =>
  rw [h1] at h
  simp only [Bool.false_eq_true,if_false] at h
  cases h2:valid (mi id P i) with
  | true=>exact⟨rfl,rfl⟩
  | false=>rw [h2] at h;simp only [Bool.false_eq_true,if_false] at h;exact absurd h (show (1:Int)≠0 by decide)
theorem zbN (h:ser id P i=0) (hk:i % 2=k):send (zZ id P D i k) (mi id P i)=(zZ id P D (i+1) k,enc (mi id P i),0):=by
 obtain⟨h1,h2⟩:=zdz h
 have h3:zcj (zZ id P D i k) (mi id P i)=false:=by subst hk;exact h1
 unfold Go.Proofs.YtgflpgcogkdpgaaGreatDoor.send
 rw [h3,zg7,h2,zlW hk]
 rfl
theorem zjw : ∀ i,(∀ j,j < i → ser id P j=0) → ∀ k,k < 2 → k < i → (la id P k i).kind≠0∧(la id P k i).step % 2=(k:Int)
 | 0,_,k,_,h=>by omega
 | i+1,h,k,hk,hi=>by
  unfold la
  by_cases c:i % 2=k
  · rw [if_pos c]
    have h1:=(zdz (h i (by omega))).2
    have h2:=zdv (zdd h1).2.2
    refine⟨by omega,?_⟩
    show ((i:Nat):Int) % 2=_
    omega
  · rw [if_neg c]
    exact zjw i (fun j hj=>h j (by omega)) k hk (by omega)
theorem zbO (h : ∀ j,j≤i → ser id P j=0) (hs : ∀ j,∀ x∈(nth P j).sums,okI x) (hk:1 - i % 2=k) {now:Int} (hn:now≤D):recv (zZ id P D i k) (enc (mi id P i)) now=(zZ id P D (i+1) k,mi id P i,0):=by
 obtain⟨h1,h2⟩:=zdz (h i (Nat.le_refl _))
 have hd:dec (enc (mi id P i))=(mi id P i,0):=zyo h2 (hs i)
 have hst : ¬3≤(zZ id P D i k).state:=by
  intro q
  have q2:3≤(zZ id P 1 i (i % 2)).state:=q
  unfold zcj at h1
  rw [decide_eq_true q2] at h1
  cases h1
 have hse:((zZ id P D i k).state != 0 && zbc (zZ id P D i k))=false:=by
  by_cases h0:i=0
  · subst h0
    rw [show (zZ id P D 0 k).state=0 from rfl];rfl
  · have hstep:(zZ id P D i k).step=i:=zbe i
    have hlast:(zZ id P D i k).last=la id P k i:=rfl
    have hf:zbc (zZ id P D i k)=false:=by
     unfold zbc
     rw [hstep,hlast]
     obtain⟨l1,l2⟩:(la id P k i).kind≠0∧(la id P k i).step % 2=(k:Int):=zjw i (fun j hj=>h j (by omega)) k (by omega) (by omega)
     rw [l2,show ((la id P k i).kind != 0)=true by simpa using l1]
     have hi2:i % 2=0 ∨ i % 2=1:=by omega
     rcases hi2 with q | q
     · have:k=1:=by omega
       subst this
       rw [show ((i:Int) % 2)=0 by omega];rfl
     · have:k=0:=by omega
       subst this
       rw [show ((i:Int) % 2)=1 by omega];rfl
    rw [hf,Bool.and_false]
 have hc:ze6 (zZ id P D i k) (enc (mi id P i))=0:=by
  unfold ze6
  rw [hd]
  have e1:(mi id P i).session=(zZ id P D i k).id:=(zoE i).symm
  have e2:(mi id P i).step=(zZ id P D i k).step:=(zbe i).symm
  have e3:((mi id P i).kind != 2 && !decide ((mi id P i).root.val=(zZ id P D i k).seen.val))=false:=by
   by_cases q:(nth P i).kind=2
   · rw [show (mi id P i).kind=2 from q];rfl
   · have:(mi id P i).root=(zZ id P D i k).seen:=by
      show (if (nth P i).kind≠2 then (com id P i).seen else (nth P i).root)=_
      rw [if_pos q];rfl
     rw [this];simp
  unfold rC
  simp only [e1,e2,hse,e3,bne_self_eq_false,Bool.false_eq_true,if_false,Int.lt_irrefl,decide_false,Bool.or_false]
 have hne:i % 2≠k:=by omega
 unfold Go.Proofs.YtgflpgcogkdpgaaGreatDoor.recv
 rw [if_neg hst,if_neg (show ¬(zZ id P D i k).due < now by show ¬D < now;omega),hc,if_neg (by simp),hd,zlX hne]
theorem zdj:zZ id P D 0 k=zeQ id D:=rfl
structure PlOk (P:List Msg):Prop where
 len:P.length≤100
 kind : ∀ i,okI (nth P i).kind
 text : ∀ i,(nth P i).text.length≤140737488355000
 sums : ∀ i,(nth P i).sums.length≤140737488355000
 vals : ∀ i,(nth P i).values.length≤140737488355000
 okI : ∀ i,∀ x∈(nth P i).sums,okI x
theorem zpM {n:Nat} (h:n≤1000000):Go.Proofs.YtgflpgcogkdpgaaGreatDoor.okI (n:Int):=⟨by omega,by omega⟩
theorem zlY (hP:PlOk P) (hid:0≤id∧id≤65535) (hi:i≤1000):(mi id P i).Ok:=⟨hP.kind i,⟨by show _≤id;omega,by show id≤_;omega⟩,zpM (by omega),hP.text i,hP.sums i,hP.vals i⟩
theorem zeB (hP:PlOk P) (hid:0≤id∧id≤65535) (hD:0≤D) : ∀ i,i≤1000 → (∀ j,j < i → ser id P j=0) → ∀ k,k < 2 → Good D i (zZ id P D i k)
 | 0,_,_,k,_=>by rw [zdj];exact Good.new' ⟨by omega,by omega⟩
 | i+1,hi,h,k,hk=>by
  have ih:=zeB hP hid hD i (by omega) (fun j hj=>h j (by omega)) k hk
  by_cases c:i % 2=k
  · have:=ih.send (by omega) (zlY hP hid (i:=i) (by omega))
    rwa [zbN (h i (by omega)) c] at this
  · have:=ih.recv (b:=enc (mi id P i)) zcD 0
    rwa [zbO (fun j hj=>h j (by omega)) hP.okI (by omega) hD] at this
def yb (id:Int) (P:List Msg) (n:Nat):List Msg:=tab (mi id P) n
theorem zh {n:Nat}:(yb id P n).length=n:=zbZ
theorem yK {n:Nat} (h:i < n):nth (yb id P n) i=mi id P i:=zfG h
theorem zpN (hP:PlOk P) {n:Nat} (hn : ∀ j,j < n → ser id P j=0) : ∀ i,i≤n → ∀ k,k < 2 → sd (zam id) (yb id P n) i k=zZ id P 2147483647 i k
 | 0,_,k,_=>rfl
 | i+1,hi,k,hk=>by
  have ih:=zpN hP hn i (by omega)
  unfold sd zdX
  rw [yK (by omega),ih (i % 2) (Nat.mod_lt _ (by decide)),zbN (hn i (by omega)) rfl]
  simp only [ne_eq,not_true,if_false]
  rw [ih (1 - i % 2) (by omega),zbO (fun j hj=>hn j (by omega)) hP.okI rfl (by decide)]
  simp only [not_true,if_false]
  have hk2:k=i % 2 ∨ k=1 - i % 2:=by omega
  rcases hk2 with rfl | rfl
  · show (if i % 2=1 - i % 2 then _ else (if i % 2=i % 2 then _ else _))=_
    rw [if_neg (by omega),if_pos rfl]
  · show (if 1 - i % 2=1 - i % 2 then _ else _)=_
    rw [if_pos rfl]
theorem zy4 (hP:PlOk P) {n:Nat} (hn : ∀ j,j < n → ser id P j=0) (hi:i < n):er (zam id) (yb id P n) i=0:=by
 have ih:=zpN hP hn i (by omega)
 unfold er zdX
 rw [yK hi,ih (i % 2) (Nat.mod_lt _ (by decide)),zbN (hn i (by omega)) rfl]
 simp only [ne_eq,not_true,if_false]
 rw [ih (1 - i % 2) (by omega),zbO (fun j hj=>hn j (by omega)) hP.okI rfl (by decide)]
 simp only [not_true,if_false]
theorem zim {f:Nat → Int} : ∀ n,(∀ j,j < n → f j=0) → zdY f n=0
 | 0,_=>rfl
 | n+1,h=>by rw [zdY,zim n (fun j hj=>h j (by omega)),if_neg (by simp),h n (by omega)]
theorem zg8 (hP:PlOk P) (hid:0≤id∧id≤65535) {n:Nat} (hn : ∀ j,j < n → ser id P j=0):aud (yb id P n)=0:=by
 unfold aud
 rw [zh]
 by_cases h0:n=0
 · rw [if_pos h0]
 · rw [if_neg h0,yK (by omega)]
   have:(mi id P 0).session=id:=rfl
   rw [this,if_neg (by omega)]
   exact zim _ fun j hj=>zy4 hP hn hj
theorem zpO {n:Nat} : ∀ i,i≤n → uB (yb id P n) i=(com id P i).bytes∧uW (yb id P n) i=(com id P i).words∧(com id P i).rounds=i
 | 0,_=>⟨rfl,rfl,rfl⟩
 | i+1,hi=>by
  obtain⟨h1,h2,h3⟩:=zpO (n:=n) i (by omega)
  refine⟨?_,?_,?_⟩
  · rw [uB,yK (by omega),h1];rfl
  · rw [uW,yK (by omega),h2]
    show _=(com id P i).words+_+_
    rw [Int.add_assoc];rfl
  · show (com id P i).rounds+1=_
    rw [h3];rfl
theorem zoF {n:Nat} {k:Nat}:zg4 (yb id P n)=zif (zZ id P D n k):=by
 obtain⟨h1,h2,h3⟩:=zpO (id:=id) (P:=P) (n:=n) n (Nat.le_refl _)
 unfold zg4 zif usV
 rw [zh,h1,h2]
 show PV.agg [_,i64 (n:Int),_] = .agg [i64 (com id P n).bytes,i64 (com id P n).rounds,i64 (com id P n).words]
 rw [h3]
theorem zse {n m:Nat} (h:m≤n):(yb id P n).take m=yb id P m:=by
 unfold yb tab
 rw [←List.map_take,List.take_range,Nat.min_eq_left h]
end hon
end Go.Proofs.YtgflpgcogkdpgaaGreatDoor
