/-
  Sessions: the encoding of a message.
-/
import Derived.Test.YtmoecjgehdkhkaaDoorPkS1
set_option linter.unusedSimpArgs false
set_option linter.unusedVariables false
namespace Go.Proofs.YtmoecjgehdkhkaaDoor
open Go Go.AL

def encS (l:List Int):By:=l.flatMap fun n=>le (BitVec.ofInt 64 n) 8
def yH (l:List Ext):By:=l.flatMap fun x=>le x.a 8++le x.b 8
def zaX (m:Msg):By :=
 [BitVec.ofInt 8 m.kind]++le (BitVec.ofInt 64 m.session) 4++le (BitVec.ofInt 64 m.step) 4++m.root.val++le (BitVec.ofInt 64 m.text.length) 2++m.text++[BitVec.ofInt 8 m.sums.length]++encS m.sums++[BitVec.ofInt 8 m.values.length]++yH m.values
def enc (m:Msg):By:=if valid m then zaX m++(sha (zaX m)).take 8 else []

theorem zc9 {m:Msg} (h:valid m=true):m.text.length≤400∧m.sums.length≤64∧m.values.length≤64:=by
 have h2:holds m.kind m.text.length m.sums.length m.values.length=true:=by
  unfold valid at h
  simp only [Bool.and_eq_true] at h
  exact h.1.2
 unfold holds at h2
 (repeat' split at h2)<;>simp only [Bool.and_eq_true,decide_eq_true_eq,beq_iff_eq] at h2<;>omega
theorem zcd {l:List Int}:(encS l).length=8*l.length:=by
 induction l with
 | nil=>rfl
 | cons a l ih=>simp only [encS,List.flatMap_cons,List.length_append,yv,List.length_cons] at ih ⊢;omega
theorem zce {l:List Ext}:(yH l).length=16*l.length:=by
 induction l with
 | nil=>rfl
 | cons a l ih=>simp only [yH,List.flatMap_cons,List.length_append,yv,List.length_cons] at ih ⊢;omega
theorem yn {l:By}:((bytesOf l).data.toList.map fun b=>PV.s (.int .u8 b.toNat))=pl b8 l:=by
 simp [bytesOf,pl,b8]
theorem yA {α:Type} [Inhabited α] {l:List α} {i:Nat} (h:i < l.length):l.take (i+1)=l.take i++[nth l i]:=by
 rw [List.take_add_one,List.getElem?_eq_getElem h,show nth l i=l[i] by simp [nth,h]];rfl
theorem zbg:encS []=[]:=rfl
theorem zbh:yH []=[]:=rfl
theorem zhO {l:List Int} {i:Nat} (h:i < l.length):encS (l.take (i+1))=encS (l.take i)++le (BitVec.ofInt 64 (nth l i)) 8:=by
 rw [yA h];simp [encS]
theorem zhP {l:List Ext} {i:Nat} (h:i < l.length):yH (l.take (i+1))=yH (l.take i)++le (nth l i).a 8++le (nth l i).b 8:=by
 rw [yA h];simp [yH]

def eH (H:Hp) (m:Msg) (n:Nat):Hp:=(H.new (.cells (mcl m))).new (.tail n)
section eh
variable {H:Hp} {m:Msg} {n k:Nat}
theorem zQc:(eH H m n).n=H.n+2:=by simp [eH,Hp.n_new]
theorem zJ7:(eH H m n).f H.n=some (.cells (mcl m)):=by simp (disch:=first|exact zb|fail) only [eH,go_sem,seval]
theorem zlU:(eH H m n).f (H.n+1)=some (.tail n):=by simp (disch:=first|exact zb|fail) only [eH,go_sem,seval]
theorem zcW:(eH H m n).set (H.n+1) (.tail k)=eH H m k:=by simp (disch:=first|exact zb|fail) only [eH,go_sem,seval]
theorem zAs:(H.new (.cells (mcl m))).new (.tail n)=eH H m n:=rfl
theorem zAt:(eH H m n).trunc H.n=H:=by simp (disch:=first|exact zb|fail) only [eH,go_sem,seval]
theorem zAu (h:Bel H.n H):Bel H.n (eH H m n):=by
 unfold eH
 refine yD (yD h fun y hy => ?_) fun y hy=>by simp [AB.vals] at hy
 simp only [AB.vals,mcl,List.mem_map] at hy
 obtain⟨x,_,rfl⟩:=hy
 exact .p _
end eh
attribute [go_sem] zQc zJ7 zlU zcW zAt

section walks
variable {G:Globs} {r1 r2:Nat} {m1:List (Int × Rule)} {m2:List (Int × Int)}
theorem zgv (g:GR G r1 r2 m1 m2) (m:Msg) (hm:m.Ok) (hv:valid m=false) (H:Hp) (R:AV → Hp → Prop) (h:R (.p (.s (.slice none 0 0))) H):ACall Tryd.prog G 12 [.p (yK m)] H R:=by
 refine ACall.of_run (raw:=[40]) Tryd.func12 rfl Tryd.ntmps12 (by simp) fun hbel => ?_
 refine .q ?_;refine .text ?_;simp (disch:=first|exact zb|fail) only [go_sem,seval]
 refine .q ?_;refine .text ?_;simp (disch:=first|exact zb|fail) only [go_sem,seval]
 refine CallK.of (fun R h=>zgu g m hm _ R h) ?_;simp (disch:=first|exact zb|fail) only [go_sem,seval,hv]
 refine .q ?_;refine .ifT (by simp (disch:=first|exact zb|fail) only [go_sem,seval]) ?_
 refine .q ?_;refine .region ?_
 refine .nilA (by simp (disch:=first|exact zb|fail) only [go_sem,seval]<;>rfl) ?_
 refine .run ?_
 simp (disch:=first|exact zb|fail) only [go_sem,seval]
 refine .rt Tryd.func12 (by rw [Tryd.results12]) (hR := ?_);simp (disch:=first|exact zb|fail) only [go_sem,seval]
 exact h
set_option maxHeartbeats 8000000 in
set_option maxRecDepth 20000 in
theorem zdR (g:GR G r1 r2 m1 m2) (m:Msg) (hm:m.Ok) (hv:valid m=true) (H:Hp) (R:AV → Hp → Prop) (h:R (.p (.sl false 1 (pl b8 (zaX m++(sha (zaX m)).take 8)))) H):ACall Tryd.prog G 12 [.p (yK m)] H R:=by
 obtain⟨b1,b2,b3⟩:=zc9 hv
 have hrl:=m.root.len
 refine ACall.of_run (raw:=[40]) Tryd.func12 rfl Tryd.ntmps12 (by simp) fun hbel => ?_
 refine .q ?_;refine .text ?_;simp (disch:=first|exact zb|fail) only [go_sem,seval]
 refine .q ?_;refine .text ?_;simp (disch:=first|exact zb|fail) only [go_sem,seval]
 refine CallK.of (fun R h=>zgu g m hm _ R h) ?_;simp (disch:=first|exact zb|fail) only [go_sem,seval,hv]
 refine .q ?_;refine .ifF (by simp (disch:=first|exact zb|fail) only [go_sem,seval]) ?_
 refine .q ?_;refine .text ?_;simp (disch:=first|exact zb|fail) only [go_sem,seval]
 refine CallK.of (fun R h=>zlM [BitVec.ofInt 8 m.kind] (BitVec.ofInt 64 m.session) 4 (by simp) _ R h) ?_;simp (disch:=first|exact zb|fail) only [go_sem,seval]
 generalize hx1:BitVec.ofInt 8 m.kind :: le (BitVec.ofInt 64 m.session) 4=x1
 have l1:x1.length=5:=by rw [←hx1];simp [yv]
 have l2:(le (BitVec.ofInt 64 m.step) 4).length=4:=yv
 rw [zAs]
 have hw1 : ∀ R:AV → Hp → Prop,R (.sl (H.n+1) 8 1 (pl b8 (x1++le (BitVec.ofInt 64 m.step) 4))) (eH H m 8) → ACall Tryd.prog G 40 [.sl (H.n+1) 4 1 (pl b8 x1),.p (zw (BitVec.ofInt 64 m.step)),.p (i64 4)] (eH H m 4) R:=fun R h=>zbO x1 (BitVec.ofInt 64 m.step) 4 (by omega) (H.n+1) 4 _ zlU R (by rw [zcW];exact h)
 (refine .q ?_)
 refine .openInv (fun L env' H'=>kF env' [(1,.ptr H.n 0)]∧kI L env' [(0,20,.sl (H.n+1) 4 1 (pl b8 x1)),(1,21,.ptr H.n 2),(2,22,.p (i64 m.step)),(3,23,.p (zw (BitVec.ofInt 64 m.step))),(4,24,.sl (H.n+1) 8 1 (pl b8 (x1++le (BitVec.ofInt 64 m.step) 4))),(5,25,.ptr H.n 4),(6,26,.ref H.n 4 32 1),(7,27,.sl (H.n+1) 9 1 (pl b8 (x1++le (BitVec.ofInt 64 m.step) 4++m.root.val))),(8,3,.sl (H.n+1) 9 1 (pl b8 (x1++le (BitVec.ofInt 64 m.step) 4++m.root.val)))]∧(L 8=false → env' 3 = .sl (H.n+1) 4 1 (pl b8 x1))∧(L 4=true → allT L [0,3])∧(L 7=true → allT L [4,6])∧(L 8=true → allT L [0,1,2,3,4,5,6,7])∧H'=(eH H m (if L 7 then 9 else if L 4 then 8 else 4))) follows (by kernel_rfl) ?_ ?_ ?_
 · exact⟨(by simp (disch:=first|exact zb|fail) only [go_sem,seval,kFi,kFn,and_self,l1,l2,hrl]),(fun _ _ h=>by cases h),(fun _=>by simp (disch:=first|exact zb|fail) only [go_sem,seval,l1,l2,hrl]),(fun h=>by cases h),(fun h=>by cases h),(fun h=>by cases h),(by first | rfl | (simp only [Bool.false_eq_true,if_false];first | rfl | (simp (disch:=first|exact zb|fail) only [go_sem,seval,l1,l2,hrl]<;>rfl)))⟩
 · intro i o L env' H' ho hL hall hI
   obtain⟨KF,KG,f1,m4,m7,m8,rfl⟩:=hI
   rcases i with _ | _ | _ | _ | _ | _ | _ | _ | _ | i
   · cases ho;have n8:=ya m8 hL;refine zf (.sl (H.n+1) 4 1 (pl b8 x1)) rfl rfl (by simp (disch:=first|exact zb|fail) only [go_sem,seval,f1 n8,l1,l2,hrl]<;>rfl) rfl ?_;exact⟨zx KF,zA KG,(kq f1),ka m4,ka m7,ka m8,(by rw [za (by decide),za (by decide)])⟩
   · cases ho;have f0:=zJ KF 0 rfl;refine zf (.ptr H.n 2) rfl rfl (by simp (disch:=first|exact zb|fail) only [go_sem,seval,f0,l1,l2,hrl]<;>rfl) rfl ?_;exact⟨zx KF,zA KG,(kq f1),ka m4,ka m7,ka m8,(by rw [za (by decide),za (by decide)])⟩
   · cases ho;have d1:=zn KG 1 rfl (kL hall 0 rfl rfl);refine zf (.p (i64 m.step)) rfl rfl (by simp (disch:=first|exact zb|fail) only [go_sem,seval,d1,l1,l2,hrl]<;>rfl) rfl ?_;exact⟨zx KF,zA KG,(kq f1),ka m4,ka m7,ka m8,(by rw [za (by decide),za (by decide)])⟩
   · cases ho;have d2:=zn KG 2 rfl (kL hall 0 rfl rfl);refine zf (.p (zw (BitVec.ofInt 64 m.step))) rfl rfl (by simp (disch:=first|exact zb|fail) only [go_sem,seval,d2,l1,l2,hrl]<;>rfl) rfl ?_;exact⟨zx KF,zA KG,(kq f1),ka m4,ka m7,ka m8,(by rw [za (by decide),za (by decide)])⟩
   · cases ho;have h0:=kL hall 0 rfl rfl;have d0:=zn KG 0 rfl h0;have h3:=kL hall 1 rfl rfl;have d3:=zn KG 3 rfl h3;have n7:=ya m7 hL;have n8:=ya m8 hL;(try simp only [n7,hL,if_true,if_false,Bool.false_eq_true]);refine ym rfl rfl (by simp (disch:=first|exact zb|fail) only [go_sem,seval,reduceIte,Bool.false_eq_true,if_false,if_true,d0,d3,n7,n8,hL,l1,l2,hrl]<;>rfl) rfl (by simp (disch:=first|exact zb|fail) only [go_sem,seval,reduceIte,Bool.false_eq_true,if_false,if_true,d0,d3,n7,n8,hL,l1,l2,hrl]<;>rfl) (fun R h=>hw1 R h) ?_;exact⟨zx KF,zA KG,(kq f1),(fun _=>kt (zc h0 (zc h3 zv))),ka m7,ka m8,(by (have e4:more L 4 4=true:=zr);(have e7:more L 4 7=L 7:=za (by decide));(try simp only [e4,e7,n7,hL]);first | done | rfl | (simp only [e4,e7,n7,hL,if_true,if_false,Bool.false_eq_true];first | done | rfl | (simp (disch:=first|exact zb|fail) only [go_sem,seval,e4,e7,n7,hL,l1,l2,hrl]<;>rfl)))⟩
   · cases ho;have f0:=zJ KF 0 rfl;refine zf (.ptr H.n 4) rfl rfl (by simp (disch:=first|exact zb|fail) only [go_sem,seval,f0,l1,l2,hrl]<;>rfl) rfl ?_;exact⟨zx KF,zA KG,(kq f1),ka m4,ka m7,ka m8,(by rw [za (by decide),za (by decide)])⟩
   · cases ho;have d5:=zn KG 5 rfl (kL hall 0 rfl rfl);have n7:=ya m7 hL;have n8:=ya m8 hL;refine zf (.ref H.n 4 32 1) rfl rfl (by simp (disch:=first|exact zb|fail) only [go_sem,seval,reduceIte,Bool.false_eq_true,if_false,if_true,d5,n7,n8,hL,l1,l2,hrl]<;>rfl) rfl ?_;exact⟨zx KF,zA KG,(kq f1),ka m4,ka m7,ka m8,(by rw [za (by decide),za (by decide)])⟩
   · cases ho;have h4:=kL hall 0 rfl rfl;have d4:=zn KG 4 rfl h4;have h6:=kL hall 1 rfl rfl;have d6:=zn KG 6 rfl h6;have n8:=ya m8 hL;(try simp only [h4,hL,if_true,if_false,Bool.false_eq_true]);refine zZ (.sl (H.n+1) 9 1 (pl b8 (x1++le (BitVec.ofInt 64 m.step) 4++m.root.val))) rfl rfl (by simp (disch:=first|exact zb|fail) only [go_sem,seval,reduceIte,Bool.false_eq_true,if_false,if_true,d4,d6,h4,n8,hL,l1,l2,hrl]<;>rfl) rfl ?_;exact⟨zx KF,zA KG,(kq f1),ka m4,(fun _=>kt (zc h4 (zc h6 zv))),ka m8,(by (have e4:more L 7 4=L 4:=za (by decide));(have e7:more L 7 7=true:=zr);(try simp only [e4,e7,h4,hL]);first | done | rfl | (simp only [e4,e7,h4,hL,if_true,if_false,Bool.false_eq_true];first | done | rfl | (simp (disch:=first|exact zb|fail) only [go_sem,seval,e4,e7,h4,hL,l1,l2,hrl]<;>rfl)))⟩
   · cases ho;have h7:=kL hall 0 rfl rfl;have d7:=zn KG 7 rfl h7;have h0:=kL hall 2 rfl rfl;have h1:=kL hall 3 rfl rfl;have h2:=kL hall 4 rfl rfl;have h3:=kL hall 5 rfl rfl;have h4:=kL hall 6 rfl rfl;have h5:=kL hall 7 rfl rfl;have h6:=kL hall 8 rfl rfl;refine zf (.sl (H.n+1) 9 1 (pl b8 (x1++le (BitVec.ofInt 64 m.step) 4++m.root.val))) rfl rfl (by simp (disch:=first|exact zb|fail) only [go_sem,seval,d7,l1,l2,hrl]<;>rfl) rfl ?_;exact⟨zx KF,zA KG,kx,ka m4,ka m7,(fun _=>kt (zc h0 (zc h1 (zc h2 (zc h3 (zc h4 (zc h5 (zc h6 (zc h7 zv))))))))),(by rw [za (by decide),za (by decide)])⟩
   · simp at ho
 · intro L env' H' hall hI
   obtain⟨KF,KG,f1,_,_,_,rfl⟩:=hI
   have l4:=hall 4 (by decide)
   have l7:=hall 7 (by decide)
   have f0:=zJ KF 0 rfl
   have g0:=zn KG 0 rfl (hall 0 (by decide))
   have g1:=zn KG 1 rfl (hall 1 (by decide))
   have g2:=zn KG 2 rfl (hall 2 (by decide))
   have g3:=zn KG 3 rfl (hall 3 (by decide))
   have g4:=zn KG 4 rfl (hall 4 (by decide))
   have g5:=zn KG 5 rfl (hall 5 (by decide))
   have g6:=zn KG 6 rfl (hall 6 (by decide))
   have g7:=zn KG 7 rfl (hall 7 (by decide))
   have g8:=zn KG 8 rfl (hall 8 (by decide))
   simp only [l4,l7,if_true]
   clear hall
   generalize hx2:x1++le (BitVec.ofInt 64 m.step) 4++m.root.val=x2 at *
   have l3:x2.length=41:=by rw [←hx2];simp [l1,l2,hrl]
   clear hw1 g0 g1 g2 g3 g4 g5 g6 g7 f1
   have hw2 : ∀ R:AV → Hp → Prop,R (.sl (H.n+1) 11 1 (pl b8 (x2++le (BitVec.ofInt 64 m.text.length) 2))) (eH H m 11) → ACall Tryd.prog G 40 [.sl (H.n+1) 9 1 (pl b8 x2),.p (zw (BitVec.ofInt 64 m.text.length)),.p (i64 2)] (eH H m 9) R:=fun R h=>zbO x2 (BitVec.ofInt 64 m.text.length) 2 (by omega) (H.n+1) 9 _ zlU R (by rw [zcW];exact h)
   have l4:(le (BitVec.ofInt 64 m.text.length) 2).length=2:=yv
   (refine .q ?_)
   refine .openInv (fun L env' H'=>kF env' [(1,.ptr H.n 0)]∧kI L env' [(0,28,.sl (H.n+1) 9 1 (pl b8 x2)),(1,29,.ptr H.n 3),(2,30,.p (str (bytesOf m.text))),(3,31,.p (i64 m.text.length)),(4,32,.p (zw (BitVec.ofInt 64 m.text.length))),(5,33,.sl (H.n+1) 11 1 (pl b8 (x2++le (BitVec.ofInt 64 m.text.length) 2))),(6,34,.ptr H.n 3),(7,35,.p (str (bytesOf m.text))),(8,36,.sl (H.n+1) 12 1 (pl b8 (x2++le (BitVec.ofInt 64 m.text.length) 2++m.text))),(9,3,.sl (H.n+1) 12 1 (pl b8 (x2++le (BitVec.ofInt 64 m.text.length) 2++m.text)))]∧(L 9=false → env' 3 = .sl (H.n+1) 9 1 (pl b8 x2))∧(L 5=true → allT L [0,4])∧(L 8=true → allT L [5,7])∧(L 9=true → allT L [0,1,2,3,4,5,6,7,8])∧H'=(eH H m (if L 8 then 12 else if L 5 then 11 else 9))) follows (by kernel_rfl) ?_ ?_ ?_
   · exact⟨(by simp (disch:=first|exact zb|fail) only [go_sem,seval,kFi,kFn,and_self,l3,l4,yn,f0,g8]),(fun _ _ h=>by cases h),(fun _=>by simp (disch:=first|exact zb|fail) only [go_sem,seval,l3,l4,yn,f0,g8]),(fun h=>by cases h),(fun h=>by cases h),(fun h=>by cases h),(by first | rfl | (simp only [Bool.false_eq_true,if_false];first | rfl | (simp (disch:=first|exact zb|fail) only [go_sem,seval,l3,l4,yn,f0,g8]<;>rfl)))⟩
   · intro i o L env' H' ho hL hall hI
     obtain⟨KF,KG,f1,m5,m8,m9,rfl⟩:=hI
     rcases i with _ | _ | _ | _ | _ | _ | _ | _ | _ | _ | i
     · cases ho;have n9:=ya m9 hL;refine zf (.sl (H.n+1) 9 1 (pl b8 x2)) rfl rfl (by simp (disch:=first|exact zb|fail) only [go_sem,seval,f1 n9,l3,l4,yn,f0,g8]<;>rfl) rfl ?_;exact⟨zx KF,zA KG,(kq f1),ka m5,ka m8,ka m9,(by rw [za (by decide),za (by decide)])⟩
     · cases ho;have f0:=zJ KF 0 rfl;refine zf (.ptr H.n 3) rfl rfl (by simp (disch:=first|exact zb|fail) only [go_sem,seval,f0,l3,l4,yn,f0,g8]<;>rfl) rfl ?_;exact⟨zx KF,zA KG,(kq f1),ka m5,ka m8,ka m9,(by rw [za (by decide),za (by decide)])⟩
     · cases ho;have d1:=zn KG 1 rfl (kL hall 0 rfl rfl);refine zf (.p (str (bytesOf m.text))) rfl rfl (by simp (disch:=first|exact zb|fail) only [go_sem,seval,d1,l3,l4,yn,f0,g8]<;>rfl) rfl ?_;exact⟨zx KF,zA KG,(kq f1),ka m5,ka m8,ka m9,(by rw [za (by decide),za (by decide)])⟩
     · cases ho;have d2:=zn KG 2 rfl (kL hall 0 rfl rfl);refine zf (.p (i64 m.text.length)) rfl rfl (by simp (disch:=first|exact zb|fail) only [go_sem,seval,d2,l3,l4,yn,f0,g8]<;>rfl) rfl ?_;exact⟨zx KF,zA KG,(kq f1),ka m5,ka m8,ka m9,(by rw [za (by decide),za (by decide)])⟩
     · cases ho;have d3:=zn KG 3 rfl (kL hall 0 rfl rfl);refine zf (.p (zw (BitVec.ofInt 64 m.text.length))) rfl rfl (by simp (disch:=first|exact zb|fail) only [go_sem,seval,d3,l3,l4,yn,f0,g8]<;>rfl) rfl ?_;exact⟨zx KF,zA KG,(kq f1),ka m5,ka m8,ka m9,(by rw [za (by decide),za (by decide)])⟩
     · cases ho;have h0:=kL hall 0 rfl rfl;have d0:=zn KG 0 rfl h0;have h4:=kL hall 1 rfl rfl;have d4:=zn KG 4 rfl h4;have n8:=ya m8 hL;have n9:=ya m9 hL;(try simp only [n8,hL,if_true,if_false,Bool.false_eq_true]);refine ym rfl rfl (by simp (disch:=first|exact zb|fail) only [go_sem,seval,reduceIte,Bool.false_eq_true,if_false,if_true,d0,d4,n8,n9,hL,l3,l4,yn,f0,g8]<;>rfl) rfl (by simp (disch:=first|exact zb|fail) only [go_sem,seval,reduceIte,Bool.false_eq_true,if_false,if_true,d0,d4,n8,n9,hL,l3,l4,yn,f0,g8]<;>rfl) (fun R h=>hw2 R h) ?_;exact⟨zx KF,zA KG,(kq f1),(fun _=>kt (zc h0 (zc h4 zv))),ka m8,ka m9,(by (have e5:more L 5 5=true:=zr);(have e8:more L 5 8=L 8:=za (by decide));(try simp only [e5,e8,n8,hL]);first | done | rfl | (simp only [e5,e8,n8,hL,if_true,if_false,Bool.false_eq_true];first | done | rfl | (simp (disch:=first|exact zb|fail) only [go_sem,seval,e5,e8,n8,hL,l3,l4,yn,f0,g8]<;>rfl)))⟩
     · cases ho;have f0:=zJ KF 0 rfl;refine zf (.ptr H.n 3) rfl rfl (by simp (disch:=first|exact zb|fail) only [go_sem,seval,f0,l3,l4,yn,f0,g8]<;>rfl) rfl ?_;exact⟨zx KF,zA KG,(kq f1),ka m5,ka m8,ka m9,(by rw [za (by decide),za (by decide)])⟩
     · cases ho;have d6:=zn KG 6 rfl (kL hall 0 rfl rfl);have n8:=ya m8 hL;have n9:=ya m9 hL;refine zf (.p (str (bytesOf m.text))) rfl rfl (by simp (disch:=first|exact zb|fail) only [go_sem,seval,reduceIte,Bool.false_eq_true,if_false,if_true,d6,n8,n9,hL,l3,l4,yn,f0,g8]<;>rfl) rfl ?_;exact⟨zx KF,zA KG,(kq f1),ka m5,ka m8,ka m9,(by rw [za (by decide),za (by decide)])⟩
     · cases ho;have h5:=kL hall 0 rfl rfl;have d5:=zn KG 5 rfl h5;have h7:=kL hall 1 rfl rfl;have d7:=zn KG 7 rfl h7;have n9:=ya m9 hL;(try simp only [h5,hL,if_true,if_false,Bool.false_eq_true]);refine zZ (.sl (H.n+1) 12 1 (pl b8 (x2++le (BitVec.ofInt 64 m.text.length) 2++m.text))) rfl rfl (by simp (disch:=first|exact zb|fail) only [go_sem,seval,reduceIte,Bool.false_eq_true,if_false,if_true,d5,d7,h5,n9,hL,l3,l4,yn,f0,g8]<;>rfl) rfl ?_;exact⟨zx KF,zA KG,(kq f1),ka m5,(fun _=>kt (zc h5 (zc h7 zv))),ka m9,(by (have e5:more L 8 5=L 5:=za (by decide));(have e8:more L 8 8=true:=zr);(try simp only [e5,e8,h5,hL]);first | done | rfl | (simp only [e5,e8,h5,hL,if_true,if_false,Bool.false_eq_true];first | done | rfl | (simp (disch:=first|exact zb|fail) only [go_sem,seval,e5,e8,h5,hL,l3,l4,yn,f0,g8]<;>rfl)))⟩
     · cases ho;have h8:=kL hall 0 rfl rfl;have d8:=zn KG 8 rfl h8;have h0:=kL hall 2 rfl rfl;have h1:=kL hall 3 rfl rfl;have h2:=kL hall 4 rfl rfl;have h3:=kL hall 5 rfl rfl;have h4:=kL hall 6 rfl rfl;have h5:=kL hall 7 rfl rfl;have h6:=kL hall 8 rfl rfl;have h7:=kL hall 9 rfl rfl;refine zf (.sl (H.n+1) 12 1 (pl b8 (x2++le (BitVec.ofInt 64 m.text.length) 2++m.text))) rfl rfl (by simp (disch:=first|exact zb|fail) only [go_sem,seval,d8,l3,l4,yn,f0,g8]<;>rfl) rfl ?_;exact⟨zx KF,zA KG,kx,ka m5,ka m8,(fun _=>kt (zc h0 (zc h1 (zc h2 (zc h3 (zc h4 (zc h5 (zc h6 (zc h7 (zc h8 zv)))))))))),(by rw [za (by decide),za (by decide)])⟩
     · simp at ho
   · intro L env' H' hall hI
     obtain⟨KF,KG,f1,_,_,_,rfl⟩:=hI
     have l5:=hall 5 (by decide)
     have l8:=hall 8 (by decide)
     have f0:=zJ KF 0 rfl
     have g0:=zn KG 0 rfl (hall 0 (by decide))
     have g1:=zn KG 1 rfl (hall 1 (by decide))
     have g2:=zn KG 2 rfl (hall 2 (by decide))
     have g3:=zn KG 3 rfl (hall 3 (by decide))
     have g4:=zn KG 4 rfl (hall 4 (by decide))
     have g5:=zn KG 5 rfl (hall 5 (by decide))
     have g6:=zn KG 6 rfl (hall 6 (by decide))
     have g7:=zn KG 7 rfl (hall 7 (by decide))
     have g8:=zn KG 8 rfl (hall 8 (by decide))
     have g9:=zn KG 9 rfl (hall 9 (by decide))
     simp only [l5,l8,if_true]
     clear hall
     generalize hx3:x2++le (BitVec.ofInt 64 m.text.length) 2++m.text=x3 at *
     have l5:x3.length≤443:=by rw [←hx3];simp only [List.length_append,l3,l4];omega
     clear hw2 g0 g1 g2 g3 g4 g5 g6 g7 g8
     have e1:=f0
     refine .q ?_;refine .text ?_;simp (disch:=first|exact zb|fail) only [go_sem,seval,e1,g9]
     refine .q ?_;refine .text ?_;simp (disch:=first|exact zb|fail) only [go_sem,seval,e1]
     have l6 : ∀ i,i≤m.sums.length → (x3++[BitVec.ofInt 8 m.sums.length]++encS (m.sums.take i)).length=x3.length+1+8*i:=fun i hi=>by
      simp only [List.length_append,zcd,List.length_take,List.length_cons,List.length_nil];omega
     have hw3 : ∀ i,i < m.sums.length → ∀ R:AV → Hp → Prop,R (.sl (H.n+1) (13+8*(i+1)) 1 (pl b8 (x3++[BitVec.ofInt 8 m.sums.length]++encS (m.sums.take (i+1))))) (eH H m (13+8*(i+1))) → ACall Tryd.prog G 40 [.sl (H.n+1) (13+8*i) 1 (pl b8 (x3++[BitVec.ofInt 8 m.sums.length]++encS (m.sums.take i))),.p (zw (BitVec.ofInt 64 (nth m.sums i))),.p (i64 8)] (eH H m (13+8*i)) R:=fun i hi R h=>zbO _ (BitVec.ofInt 64 (nth m.sums i)) 8 (by rw [l6 i (by omega)];omega) (H.n+1) (13+8*i) _ zlU R (by rw [zcW,List.append_assoc (x3++_),←zhO hi];exact h)
     refine .q ?_;refine .loopH [1,45,46] (fun i=>[(3,.sl (H.n+1) (13+8*i) 1 (pl b8 (x3++[BitVec.ofInt 8 m.sums.length]++encS (m.sums.take i)))),(47,.p (i64 i))]) (fun i=>eH H m (13+8*i)) (fun i=>True) (0) (m.sums.length) (by omega) ?_ (by first | rfl | (simp (disch:=first|exact zb|fail) only [go_sem,seval,e1,g9,List.take_zero,Nat.mul_zero,Nat.add_zero,zbg,List.append_nil]<;>rfl)) ?_ ?_ ?_
     · simp (disch:=first|exact zb|fail) only [go_sem,seval,e1,g9,List.take_zero,Nat.mul_zero,Nat.add_zero,zbg,List.append_nil]<;>(repeat' (first | rfl | refine And.intro ?_ ?_))
     · exact trivial
     intro env E hQ;simp (disch:=first|exact zb|fail) only [go_sem,seval,e1,g9,List.take_zero,Nat.mul_zero,Nat.add_zero,zbg,List.append_nil] at E
     rotate_left 1
     intro i env hi0 hi E hQ ihE;simp (disch:=first|exact zb|fail) only [go_sem,seval,e1,g9,List.take_zero,Nat.mul_zero,Nat.add_zero,zbg,List.append_nil] at E
     rotate_left 1
     · have l60:=l6 _ (Nat.le_refl _)
       rw [List.take_length] at l60
       generalize hx4:x3++[BitVec.ofInt 8 m.sums.length]++encS m.sums=x4 at *
       have l7:x4.length≤1000:=by omega
       clear hw3
       generalize hv1:13+8*m.sums.length=v1 at *
       refine .q ?_;refine .text ?_;simp (disch:=first|exact zb|fail) only [go_sem,seval,E]
       refine .q ?_;refine .ifF (by simp (disch:=first|exact zb|fail) only [go_sem,seval]) ?_
       refine .q ?_;refine .text ?_;simp (disch:=first|exact zb|fail) only [go_sem,seval,E]
       refine .q ?_;refine .text ?_;simp (disch:=first|exact zb|fail) only [go_sem,seval,E]
       have l8 : ∀ i,i≤m.values.length → (x4++[BitVec.ofInt 8 m.values.length]++yH (m.values.take i)).length=x4.length+1+16*i:=fun i hi=>by
        simp only [List.length_append,zce,List.length_take,List.length_cons,List.length_nil];omega
       have hw4 : ∀ i T,i < m.values.length → ∀ R:AV → Hp → Prop,R (.sl (H.n+1) (v1+1+16*i+8) 1 (pl b8 (x4++[BitVec.ofInt 8 m.values.length]++yH (m.values.take i)++le (nth m.values i).a 8))) (app (eH H m (v1+1+16*i+8)) T) → ACall Tryd.prog G 40 [.sl (H.n+1) (v1+1+16*i) 1 (pl b8 (x4++[BitVec.ofInt 8 m.values.length]++yH (m.values.take i))),.p (zw (nth m.values i).a),.p (i64 8)] (app (eH H m (v1+1+16*i)) T) R:=fun i T hi R h=>zbO _ (nth m.values i).a 8 (by rw [l8 i (by omega)];omega) (H.n+1) (v1+1+16*i) _ (by simp (disch:=first|exact zb|fail) only [go_sem,seval]) R (by simp (disch:=first|exact zb|fail) only [go_sem,seval];exact h)
       have hw5 : ∀ i T,i < m.values.length → ∀ R:AV → Hp → Prop,R (.sl (H.n+1) (v1+1+16*(i+1)) 1 (pl b8 (x4++[BitVec.ofInt 8 m.values.length]++yH (m.values.take (i+1))))) (app (eH H m (v1+1+16*(i+1))) T) → ACall Tryd.prog G 40 [.sl (H.n+1) (v1+1+16*i+8) 1 (pl b8 (x4++[BitVec.ofInt 8 m.values.length]++yH (m.values.take i)++le (nth m.values i).a 8)),.p (zw (nth m.values i).b),.p (i64 8)] (app (eH H m (v1+1+16*i+8)) T) R:=fun i T hi R h=>zbO _ (nth m.values i).b 8 (by rw [List.length_append,l8 i (by omega),yv];omega) (H.n+1) (v1+1+16*i+8) _ (by simp (disch:=first|exact zb|fail) only [go_sem,seval]) R (by
        have:x4++[BitVec.ofInt 8 m.values.length]++yH (m.values.take i)++le (nth m.values i).a 8++le (nth m.values i).b 8=x4++[BitVec.ofInt 8 m.values.length]++yH (m.values.take (i+1)):=by rw [zhP hi];simp
        rw [this]
        simp (disch:=first|exact zb|fail) only [go_sem,seval]
        exact h)
       refine .q ?_;refine .loopF [64,65] (fun i=>[(3,.sl (H.n+1) (v1+1+16*i) 1 (pl b8 (x4++[BitVec.ofInt 8 m.values.length]++yH (m.values.take i)))),(66,.p (i64 i))]) (fun i=>[(H.n+1,.tail (v1+1+16*i))]) (fun i=>True) (0) (m.values.length) (by omega) ?_ (by first | rfl | (simp (disch:=first|exact zb|fail) only [go_sem,seval,E,List.take_zero,Nat.mul_zero,Nat.add_zero,zbh,List.append_nil]<;>rfl)) ?_ ?_ ?_
       · simp (disch:=first|exact zb|fail) only [go_sem,seval,E,List.take_zero,Nat.mul_zero,Nat.add_zero,zbh,List.append_nil]<;>(repeat' (first | rfl | refine And.intro ?_ ?_))
       · exact trivial
       intro env T F hQ;simp (disch:=first|exact zb|fail) only [go_sem,seval,E,List.take_zero,Nat.mul_zero,Nat.add_zero,zbh,List.append_nil] at F
       rotate_left 1
       intro i env T hi0 hi F hQ ihF;simp (disch:=first|exact zb|fail) only [go_sem,seval,E,List.take_zero,Nat.mul_zero,Nat.add_zero,zbh,List.append_nil] at F
       rotate_left 1
       · have l80:=l8 _ (Nat.le_refl _)
         rw [List.take_length] at l80
         have he:zaX m=x4++[BitVec.ofInt 8 m.values.length]++yH m.values:=by
          rw [zaX,←hx4,←hx3,←hx2,←hx1];simp [BitVec.ofInt_natCast]
         rw [he] at h
         clear hw4 hw5
         generalize x4++[BitVec.ofInt 8 m.values.length]++yH m.values=x5 at *
         generalize v1+1+16*m.values.length=v2 at *
         have hsh:(sha x5).length=32:=zah x5
         refine .q ?_;refine .text ?_;simp (disch:=first|exact zb|fail) only [go_sem,seval,F,zaE,yh]
         refine .q ?_;refine .ifF (by simp (disch:=first|exact zb|fail) only [go_sem,seval]) ?_
         refine .q ?_;refine .text ?_;simp (disch:=first|exact zb|fail) only [go_sem,seval,F,zaE,yh]
         refine CallK.of (fun R h=>zgp g.s0 g.s1 x5 (by omega) _ R h) ?_;simp (disch:=first|exact zb|fail) only [go_sem,seval,hsh]
         refine .q ?_;refine .text ?_;simp (disch:=first|exact zb|fail) only [go_sem,seval,F,zaE,yh,hsh]
         have hbel:=zAu (m:=m) (n:=v2+1) hbel
         refine .q ?_;refine .rt Tryd.func12 (by rw [Tryd.results12]) (hR := ?_);simp (disch:=first|exact zb|fail) only [go_sem,seval]
         exact h
       · have ha:=fun T=>hw4 i T hi
         have hb:=fun T=>hw5 i T hi
         have hE1 : ∀ k x,(app (eH H m k) (T++[x])).f (H.n+2+T.length)=some x:=fun k x=>by
          rw [←zQc (H:=H) (m:=m) (n:=k),zbK];simp
         clear hw4 hw5
         generalize x4++[BitVec.ofInt 8 m.values.length]++yH (m.values.take i)=y0 at *
         generalize x4++[BitVec.ofInt 8 m.values.length]++yH (m.values.take (i+1))=y2 at *
         generalize hk0:v1+1+16*i=k0 at *
         have hk2:v1+1+16*(i+1)=k0+16:=by omega
         simp only [hk2] at hb ihF
         refine .q ?_;refine .text ?_;simp (disch:=first|exact zb|fail) only [go_sem,seval,F,zaE,yh]
         refine .q ?_;refine .ifT (by simp (disch:=first|exact zb|fail) only [go_sem,seval]) ?_
         refine .q ?_;refine .text ?_;simp (disch:=first|exact zb|fail) only [go_sem,seval,F,zaE,yh,e1]
         generalize nth m.values i=x at *
         rw [zaP]
         generalize hT:T++[AB.cells [AV.p (zw x.a),AV.p (zw x.b)]]=T2
         have hE2 : ∀ k,(app (eH H m k) T2).f (H.n+2+T.length)=some (.cells [.p (zw x.a),.p (zw x.b)]):=fun k=>by rw [←hT];exact hE1 k _
         have ha:=ha T2
         have hb:=hb T2
         (refine .q ?_)
         refine .openInv (fun L env' H'=>kF env' [(7,.ptr (H.n+2+T.length) 0),(64,.p (.sl false 2 (pl ext m.values))),(65,.p (i64 m.values.length)),(66,.p (i64 i))]∧kI L env' [(0,70,.sl (H.n+1) k0 1 (pl b8 y0)),(1,71,.ptr (H.n+2+T.length) 0),(2,72,.p (zw x.a)),(3,73,.sl (H.n+1) (k0+8) 1 (pl b8 (y0++le x.a 8))),(4,74,.ptr (H.n+2+T.length) 1),(5,75,.p (zw x.b)),(6,76,.sl (H.n+1) (k0+16) 1 (pl b8 y2)),(7,3,.sl (H.n+1) (k0+16) 1 (pl b8 y2))]∧(L 7=false → env' 3 = .sl (H.n+1) k0 1 (pl b8 y0))∧(L 3=true → allT L [0,2])∧(L 6=true → allT L [3,5])∧(L 7=true → allT L [0,1,2,3,4,5,6])∧H'=(app (eH H m (if L 6 then k0+16 else if L 3 then k0+8 else k0)) T2)) follows (by kernel_rfl) ?_ ?_ ?_
         · exact⟨(by simp (disch:=first|exact zb|fail) only [go_sem,seval,kFi,kFn,and_self,F,E,e1,hE2]),(fun _ _ h=>by cases h),(fun _=>by simp (disch:=first|exact zb|fail) only [go_sem,seval,F,E,e1,hE2]),(fun h=>by cases h),(fun h=>by cases h),(fun h=>by cases h),(by first | rfl | (simp only [Bool.false_eq_true,if_false];first | rfl | (simp (disch:=first|exact zb|fail) only [go_sem,seval,F,E,e1,hE2]<;>rfl)))⟩
         · intro i o L env' H' ho hL hall hI
           obtain⟨KF,KG,f0,m3,m6,m7,rfl⟩:=hI
           rcases i with _ | _ | _ | _ | _ | _ | _ | _ | i
           · cases ho;have n7:=ya m7 hL;refine zf (.sl (H.n+1) k0 1 (pl b8 y0)) rfl rfl (by simp (disch:=first|exact zb|fail) only [go_sem,seval,f0 n7,e1,hE2]<;>rfl) rfl ?_;exact⟨zx KF,zA KG,(kq f0),ka m3,ka m6,ka m7,(by rw [za (by decide),za (by decide)])⟩
           · cases ho;have f1:=zJ KF 0 rfl;refine zf (.ptr (H.n+2+T.length) 0) rfl rfl (by simp (disch:=first|exact zb|fail) only [go_sem,seval,f1,e1,hE2]<;>rfl) rfl ?_;exact⟨zx KF,zA KG,(kq f0),ka m3,ka m6,ka m7,(by rw [za (by decide),za (by decide)])⟩
           · cases ho;have d1:=zn KG 1 rfl (kL hall 0 rfl rfl);have n3:=ya m3 hL;have n7:=ya m7 hL;refine zf (.p (zw x.a)) rfl rfl (by simp (disch:=first|exact zb|fail) only [go_sem,seval,reduceIte,Bool.false_eq_true,if_false,if_true,d1,n3,n7,hL,e1,hE2]<;>rfl) rfl ?_;exact⟨zx KF,zA KG,(kq f0),ka m3,ka m6,ka m7,(by rw [za (by decide),za (by decide)])⟩
           · cases ho;have h0:=kL hall 0 rfl rfl;have d0:=zn KG 0 rfl h0;have h2:=kL hall 1 rfl rfl;have d2:=zn KG 2 rfl h2;have n6:=ya m6 hL;have n7:=ya m7 hL;(try simp only [n6,hL,if_true,if_false,Bool.false_eq_true]);refine ym rfl rfl (by simp (disch:=first|exact zb|fail) only [go_sem,seval,reduceIte,Bool.false_eq_true,if_false,if_true,d0,d2,n6,n7,hL,e1,hE2]<;>rfl) rfl (by simp (disch:=first|exact zb|fail) only [go_sem,seval,reduceIte,Bool.false_eq_true,if_false,if_true,d0,d2,n6,n7,hL,e1,hE2]<;>rfl) (fun R h=>ha R h) ?_;exact⟨zx KF,zA KG,(kq f0),(fun _=>kt (zc h0 (zc h2 zv))),ka m6,ka m7,(by (have e3:more L 3 3=true:=zr);(have e6:more L 3 6=L 6:=za (by decide));(try simp only [e3,e6,n6,hL]);first | done | rfl | (simp only [e3,e6,n6,hL,if_true,if_false,Bool.false_eq_true];first | done | rfl | (simp (disch:=first|exact zb|fail) only [go_sem,seval,e3,e6,n6,hL,e1,hE2]<;>rfl)))⟩
           · cases ho;have f1:=zJ KF 0 rfl;refine zf (.ptr (H.n+2+T.length) 1) rfl rfl (by simp (disch:=first|exact zb|fail) only [go_sem,seval,f1,e1,hE2]<;>rfl) rfl ?_;exact⟨zx KF,zA KG,(kq f0),ka m3,ka m6,ka m7,(by rw [za (by decide),za (by decide)])⟩
           · cases ho;have d4:=zn KG 4 rfl (kL hall 0 rfl rfl);have n6:=ya m6 hL;have n7:=ya m7 hL;refine zf (.p (zw x.b)) rfl rfl (by simp (disch:=first|exact zb|fail) only [go_sem,seval,reduceIte,Bool.false_eq_true,if_false,if_true,d4,n6,n7,hL,e1,hE2]<;>rfl) rfl ?_;exact⟨zx KF,zA KG,(kq f0),ka m3,ka m6,ka m7,(by rw [za (by decide),za (by decide)])⟩
           · cases ho;have h3:=kL hall 0 rfl rfl;have d3:=zn KG 3 rfl h3;have h5:=kL hall 1 rfl rfl;have d5:=zn KG 5 rfl h5;have n7:=ya m7 hL;(try simp only [h3,hL,if_true,if_false,Bool.false_eq_true]);refine ym rfl rfl (by simp (disch:=first|exact zb|fail) only [go_sem,seval,reduceIte,Bool.false_eq_true,if_false,if_true,d3,d5,h3,n7,hL,e1,hE2]<;>rfl) rfl (by simp (disch:=first|exact zb|fail) only [go_sem,seval,reduceIte,Bool.false_eq_true,if_false,if_true,d3,d5,h3,n7,hL,e1,hE2]<;>rfl) (fun R h=>hb R h) ?_;exact⟨zx KF,zA KG,(kq f0),ka m3,(fun _=>kt (zc h3 (zc h5 zv))),ka m7,(by (have e3:more L 6 3=L 3:=za (by decide));(have e6:more L 6 6=true:=zr);(try simp only [e3,e6,h3,hL]);first | done | rfl | (simp only [e3,e6,h3,hL,if_true,if_false,Bool.false_eq_true];first | done | rfl | (simp (disch:=first|exact zb|fail) only [go_sem,seval,e3,e6,h3,hL,e1,hE2]<;>rfl)))⟩
           · cases ho;have h6:=kL hall 0 rfl rfl;have d6:=zn KG 6 rfl h6;have h0:=kL hall 2 rfl rfl;have h1:=kL hall 3 rfl rfl;have h2:=kL hall 4 rfl rfl;have h3:=kL hall 5 rfl rfl;have h4:=kL hall 6 rfl rfl;have h5:=kL hall 7 rfl rfl;refine zf (.sl (H.n+1) (k0+16) 1 (pl b8 y2)) rfl rfl (by simp (disch:=first|exact zb|fail) only [go_sem,seval,d6,e1,hE2]<;>rfl) rfl ?_;exact⟨zx KF,zA KG,kx,ka m3,ka m6,(fun _=>kt (zc h0 (zc h1 (zc h2 (zc h3 (zc h4 (zc h5 (zc h6 zv)))))))),(by rw [za (by decide),za (by decide)])⟩
           · simp at ho
         · intro L env' H' hall hI
           obtain⟨KF,KG,f0,_,_,_,rfl⟩:=hI
           have l3:=hall 3 (by decide)
           have l6:=hall 6 (by decide)
           have f1:=zJ KF 0 rfl
           have f2:=zJ KF 1 rfl
           have f3:=zJ KF 2 rfl
           have f4:=zJ KF 3 rfl
           have g7:=zn KG 7 rfl (hall 7 (by decide))
           simp only [l3,l6,if_true]
           clear hall
           refine .q ?_;refine .text ?_;simp (disch:=first|exact zb|fail) only [go_sem,seval,f4]
           first | (refine ihF _ _ ?_ trivial ?_) | (refine .z rfl ?_;refine ihF _ _ ?_ trivial ?_) | (refine .z rfl ?_;refine .z rfl ?_;refine ihF _ _ ?_ trivial ?_) | (refine .z rfl ?_;refine .z rfl ?_;refine .z rfl ?_;refine ihF _ _ ?_ trivial ?_)
           · simp (disch:=first|exact zb|fail) only [go_sem,seval,F,E,e1,f2,f3,g7,hk2,←hT,zcW]<;>(repeat' (first | rfl | refine And.intro ?_ ?_))
           · first | exact .mk _ rfl | exact .mk [] rfl | (apply Later.mk;simp (disch:=first|exact zb|fail) only [go_sem,seval,zaP,F,E,e1,f2,f3,g7,hk2,←hT,zcW];exact rfl) | (apply Later.mk;simp (disch:=first|exact zb|fail) only [go_sem,seval,zaP,zdJ,List.append_assoc,F,E,e1,f2,f3,g7,hk2,←hT,zcW]<;>(try rfl))
     · have hh:=hw3 i hi
       refine .q ?_;refine .text ?_;simp (disch:=first|exact zb|fail) only [go_sem,seval,E]
       refine .q ?_;refine .ifT (by simp (disch:=first|exact zb|fail) only [go_sem,seval]) ?_
       refine .q ?_;refine .text ?_;simp (disch:=first|exact zb|fail) only [go_sem,seval,E]
       refine .q ?_;refine .text ?_;simp (disch:=first|exact zb|fail) only [go_sem,seval,E]
       refine CallK.of (fun R h=>hh R h) ?_;simp (disch:=first|exact zb|fail) only [go_sem,seval]
       refine .q ?_;refine .text ?_;simp (disch:=first|exact zb|fail) only [go_sem,seval,E]
       first | (refine ihE _ _ ?_ trivial ?_) | (refine .z rfl ?_;refine ihE _ _ ?_ trivial ?_) | (refine .z rfl ?_;refine .z rfl ?_;refine ihE _ _ ?_ trivial ?_) | (refine .z rfl ?_;refine .z rfl ?_;refine .z rfl ?_;refine ihE _ _ ?_ trivial ?_)
       · simp (disch:=first|exact zb|fail) only [go_sem,seval,E,e1]<;>(repeat' (first | rfl | refine And.intro ?_ ?_))
       · first | rfl | (simp (disch:=first|exact zb|fail) only [go_sem,seval,E,e1]<;>(try rfl))
end walks
end Go.Proofs.YtmoecjgehdkhkaaDoor

/-
  Sessions: taking bytes one portion after the other.
-/
namespace Go.Proofs.YtmoecjgehdkhkaaDoor
open Go Go.AL

theorem zlV {a b:By}:bytesOf a=bytesOf b ↔ a=b:=by
 constructor
 · intro h
   have h1:(bytesOf a).data.toList=(bytesOf b).data.toList:=by rw [h]
   simp only [bytesOf] at h1
   have h2 : ∀ l m:By,(l.map fun x=>UInt8.ofBitVec x)=(m.map fun x=>UInt8.ofBitVec x) → l=m:=by
    intro l
    induction l with
    | nil=>intro m h;cases m<;>simp at h ⊢
    | cons x l ih =>
     intro m h
     cases m with
     | nil=>simp at h
     | cons y m =>
      simp only [List.map_cons,List.cons.injEq] at h
      rw [ih m h.2]
      have:=congrArg UInt8.toBitVec h.1
      simp at this
      rw [this]
   exact h2 _ _ h1
 · rintro rfl;rfl
theorem zII {a b:By}:((bytesOf a).toList == (bytesOf b).toList)=decide (a=b):=by
 rw [ByteArray.toList_eq,ByteArray.toList_eq]
 by_cases e:a=b
 · subst e;simp
 · rw [decide_eq_false e,beq_eq_false_iff_ne]
   intro h
   refine e (zlV.1 ?_)
   have:(bytesOf a).data=(bytesOf b).data:=Array.toList_inj.1 h
   cases hx:bytesOf a;cases hy:bytesOf b
   rw [hx,hy] at this
   simp only at this
   rw [this]
theorem zgw {n b:Nat} {H:Hp} {x:PV} (h:Bel n H):Bel n (H.set b (.cells [.p x])):=zca h fun y hy=>by
 simp only [AB.vals,List.mem_singleton] at hy;subst hy;exact .p _
def tk (st:By × Bool) (n:Nat):By × (By × Bool) :=
 if st.1.length < n then (List.replicate n 0#8,(st.1,false)) else if st.2 then (st.1.take n,(st.1.drop n,true)) else (List.replicate n 0#8,(st.1.drop n,false))
theorem zbP {st:By × Bool} {n:Nat}:(tk st n).1.length=n:=by
 unfold tk
 split
 · simp
 · split
   · simp only [List.length_take];omega
   · simp
theorem zgx {st:By × Bool} {n:Nat}:(tk st n).2.1.length≤st.1.length:=by
 unfold tk
 split
 · exact Nat.le_refl _
 · split<;>simp

section walks
variable {G:Globs} {r1 r2:Nat} {m1:List (Int × Rule)} {m2:List (Int × Int)}
theorem zep (g:GR G r1 r2 m1 m2) (m:Msg) (hm:m.Ok) (H:Hp) (R:AV → Hp → Prop) (h:R (.p (.sl false 1 (pl b8 (enc m)))) H):ACall Tryd.prog G 12 [.p (yK m)] H R:=by
 cases hv:valid m with
 | true =>
  rw [enc,hv] at h
  exact zdR g m hm hv H R h
 | false =>
  rw [enc,hv] at h
  refine ACall.wk (zgv g m hm hv H (fun r H'=>r = .p (.s (.slice none 0 0))∧H'=H) ⟨rfl,rfl⟩) ?_
  rintro _ _ ⟨rfl,rfl⟩
  refine⟨_,h,fun σ w v hv => ?_⟩
  cases hv with | p hp=>cases hp;exact .p (.nil _ _)
theorem zpj (a b:By) (H:Hp) (R:AV → Hp → Prop) (h:R (.p (bo (decide (a=b)))) H):ACall Tryd.prog G 36 [.p (.sl false 1 (pl b8 a)),.p (.sl false 1 (pl b8 b))] H R:=by
 refine ACall.of_run (raw:=[]) Tryd.func36 rfl Tryd.ntmps36 (by simp) fun hbel => ?_
 refine .q ?_;refine .text ?_;simp (disch:=first|exact zb|fail) only [go_sem,seval]
 refine .q ?_;refine .text ?_;simp (disch:=first|exact zb|fail) only [go_sem,seval,zaO,zII]
 refine .q ?_;refine .rt Tryd.func36 (by rw [Tryd.results36]) (hR := ?_);simp (disch:=first|exact zb|fail) only [go_sem,seval]
 exact h
theorem zcX (rest:By) (hr:rest.length≤140737488355000) (n:Nat) (hn:n≤140737488355000) (cb:Nat) (H:Hp) (hc:H.f cb=some (.cells [.p (.sl false 1 (pl b8 rest))])) (R:AV → Hp → Prop)
 (h:R (if rest.length < n then .tup [.p (.sl false 1 []),.p (bo false)] else .tup [.p (.sl false 1 (pl b8 (rest.take n))),.p (bo true)]) (H.set cb (.cells [.p (.sl false 1 (pl b8 (if rest.length < n then rest else rest.drop n)))]))) :
 ACall Tryd.prog G 60 [.p (i64 n),.ptr cb 0] H R:=by
 have hcn:=Hp.lt hc
 refine ACall.of_run (raw:=[]) Tryd.func60 rfl Tryd.ntmps60 (by simp) fun hbel => ?_
 refine .q ?_;refine .text ?_;simp (disch:=first|exact zb|fail) only [go_sem,seval]
 refine .q ?_;refine .text ?_;simp (disch:=first|exact zb|fail) only [go_sem,seval,hc]
 by_cases c:rest.length < n
 · have d:decide ((rest.length:Int) < (n:Int))=true:=decide_eq_true (by omega)
   rw [if_pos c,if_pos c,Hp.set_same H _ cb hc] at h
   refine .q ?_;refine .ifT (by simp (disch:=first|exact zb|fail) only [go_sem,seval,d]) ?_
   refine .q ?_;refine .text ?_;simp (disch:=first|exact zb|fail) only [go_sem,seval]
   refine .q ?_;refine .rt Tryd.func60 (by rw [Tryd.results60]) (hR := ?_);simp (disch:=first|exact zb|fail) only [go_sem,seval]
   exact h
 · have d:decide ((rest.length:Int) < (n:Int))=false:=decide_eq_false (by omega)
   rw [if_neg c,if_neg c] at h
   refine .q ?_;refine .ifF (by simp (disch:=first|exact zb|fail) only [go_sem,seval,d]) ?_
   refine .q ?_;refine .text ?_;simp (disch:=first|exact zb|fail) only [go_sem,seval,hc]
   refine .q ?_;refine .text ?_;simp (disch:=first|exact zb|fail) only [go_sem,seval,hc]
   refine .q ?_;refine .text ?_;simp (disch:=first|exact zb|fail) only [go_sem,seval]
   refine .q ?_;refine .retKeep Tryd.func60 (by rw [Tryd.results60]) (by simp (disch:=first|exact zb|fail) only [go_sem,seval];rfl) ?_;(try simp (disch:=first|exact zb|fail) only [go_sem,seval])
   exact h
theorem zhg (b:By) (H:Hp) (R:AV → Hp → Prop) (h:R (.clo 60 [] [.ptr H.n 0]) (H.new (.cells [.p (.sl false 1 (pl b8 b))]))):ACall Tryd.prog G 31 [.p (.sl false 1 (pl b8 b))] H R:=by
 refine ACall.of_run (raw:=[]) Tryd.func31 rfl Tryd.ntmps31 (by simp) fun hbel => ?_
 refine .q ?_;refine .text ?_;simp (disch:=first|exact zb|fail) only [go_sem,seval]
 refine .q ?_;refine .text ?_;simp (disch:=first|exact zb|fail) only [go_sem,seval]
 refine .q ?_;refine .retKeep Tryd.func31 (by rw [Tryd.results31]) (by simp (disch:=first|exact zb|fail) only [go_sem,seval];rfl) ?_;(try simp (disch:=first|exact zb|fail) only [go_sem,seval])
 exact h
set_option maxHeartbeats 4000000 in
theorem zhQ (st:By × Bool) (hr:st.1.length≤140737488355000) (n:Nat) (hn:n≤100000) (cb c1 c2:Nat) (H:Hp) (hc:H.f cb=some (.cells [.p (.sl false 1 (pl b8 st.1))])) (h1:H.f c1=some (.cells [.clo 60 [] [.ptr cb 0]])) (h2:H.f c2=some (.cells [.p (bo st.2)]))
 (ne:cb≠c2) (ne1:cb≠c1) (R:AV → Hp → Prop) (h:R (.p (.sl false 1 (pl b8 (tk st n).1))) ((H.set cb (.cells [.p (.sl false 1 (pl b8 (tk st n).2.1))])).set c2 (.cells [.p (bo (tk st n).2.2)]))) :
 ACall Tryd.prog G 32 [.p (i64 n),.ptr c1 0,.ptr c2 0] H R:=by
 obtain⟨rest,ok⟩:=st
 simp only at hr hc h2
 have hcn:=Hp.lt hc
 have hcn1:=Hp.lt h1
 have hcn2:=Hp.lt h2
 have hen:enters Tryd.prog 60=true:=zlA
 refine ACall.of_run (raw:=[]) Tryd.func32 rfl Tryd.ntmps32 (by simp) fun hbel => ?_
 refine .q ?_;refine .text ?_;simp (disch:=first|exact zb|fail) only [go_sem,seval]
 refine .q ?_;refine .text ?_;simp (disch:=first|exact zb|fail) only [go_sem,seval,h1,hen]
 unfold tk at h
 simp only at h
 by_cases c:rest.length < n
 · rw [if_pos c] at h
   simp only at h
   refine CallK.of (fun R h=>zcX rest (by omega) n (by omega) cb _ hc R h) ?_
   rw [if_pos c,if_pos c]
   simp (disch:=first|exact zb|fail) only [go_sem,seval,h2]
   have hs:H.set cb (.cells [.p (.sl false 1 (pl b8 rest))])=H:=Hp.set_same H _ cb hc
   rw [hs] at h ⊢
   have hbel:=zgw (b:=c2) (x:=bo false) hbel
   cases ok
   · refine .q ?_;refine .text ?_;simp (disch:=first|exact zb|fail) only [go_sem,seval,h2]
     refine .q ?_;refine .text ?_;simp (disch:=first|exact zb|fail) only [go_sem,seval]
     refine .q ?_;refine .ifT (by simp (disch:=first|exact zb|fail) only [go_sem,seval]) ?_
     refine .q ?_;refine .text ?_;simp (disch:=first|exact zb|fail) only [go_sem,seval]
     refine .q ?_;refine .frzS 4 (by simp (disch:=first|exact zb|fail) only [go_sem,seval];rfl) (by simp (disch:=first|exact zb|fail) only [go_sem,seval]<;>rfl) (fun _=>rfl) (by first | exact zb | fail) ?_;(try simp (disch:=first|exact zb|fail) only [go_sem,seval])
     refine .q ?_;refine .rt Tryd.func32 (by rw [Tryd.results32]) (hR := ?_);simp (disch:=first|exact zb|fail) only [go_sem,seval]
     exact h
   · refine .q ?_;refine .text ?_;simp (disch:=first|exact zb|fail) only [go_sem,seval,h2]
     refine .q ?_;refine .text ?_;simp (disch:=first|exact zb|fail) only [go_sem,seval]
     refine .q ?_;refine .ifT (by simp (disch:=first|exact zb|fail) only [go_sem,seval]) ?_
     refine .q ?_;refine .text ?_;simp (disch:=first|exact zb|fail) only [go_sem,seval]
     refine .q ?_;refine .frzS 4 (by simp (disch:=first|exact zb|fail) only [go_sem,seval];rfl) (by simp (disch:=first|exact zb|fail) only [go_sem,seval]<;>rfl) (fun _=>rfl) (by first | exact zb | fail) ?_;(try simp (disch:=first|exact zb|fail) only [go_sem,seval])
     refine .q ?_;refine .rt Tryd.func32 (by rw [Tryd.results32]) (hR := ?_);simp (disch:=first|exact zb|fail) only [go_sem,seval]
     exact h
 · rw [if_neg c] at h
   refine CallK.of (fun R h=>zcX rest (by omega) n (by omega) cb _ hc R h) ?_
   rw [if_neg c,if_neg c]
   simp (disch:=first|exact zb|fail) only [go_sem,seval,h2]
   have hbel:=fun y=>zgw (b:=c2) (x:=y) (zgw (b:=cb) (x := .sl false 1 (pl b8 (rest.drop n))) hbel)
   cases ok
   · refine .q ?_;refine .text ?_;simp (disch:=first|exact zb|fail) only [go_sem,seval,h2]
     refine .q ?_;refine .text ?_;simp (disch:=first|exact zb|fail) only [go_sem,seval]
     refine .q ?_;refine .ifT (by simp (disch:=first|exact zb|fail) only [go_sem,seval]) ?_
     refine .q ?_;refine .text ?_;simp (disch:=first|exact zb|fail) only [go_sem,seval]
     refine .q ?_;refine .frzS 4 (by simp (disch:=first|exact zb|fail) only [go_sem,seval];rfl) (by simp (disch:=first|exact zb|fail) only [go_sem,seval]<;>rfl) (fun _=>rfl) (by first | exact zb | fail) ?_;(try simp (disch:=first|exact zb|fail) only [go_sem,seval])
     refine .q ?_;refine .rt Tryd.func32 (by rw [Tryd.results32]) (hR := ?_);simp (disch:=first|exact zb|fail) only [go_sem,seval]
     exact h
   · refine .q ?_;refine .text ?_;simp (disch:=first|exact zb|fail) only [go_sem,seval,h2]
     refine .q ?_;refine .text ?_;simp (disch:=first|exact zb|fail) only [go_sem,seval]
     refine .q ?_;refine .ifF (by simp (disch:=first|exact zb|fail) only [go_sem,seval]) ?_
     refine .q ?_;refine .text ?_;simp (disch:=first|exact zb|fail) only [go_sem,seval]
     refine .q ?_;refine .rt Tryd.func32 (by rw [Tryd.results32]) (hR := ?_);simp (disch:=first|exact zb|fail) only [go_sem,seval]
     exact h
end walks
end Go.Proofs.YtmoecjgehdkhkaaDoor

/-
  Sessions: chunks of bytes and of words.
-/
namespace Go.Proofs.YtmoecjgehdkhkaaDoor
open Go Go.AL

section walks
variable {G:Globs}

theorem zlW (L:List (BitVec 8)) (n:Nat) (hn:1≤n∧n≤1000) (H:Hp) (R:AV → Hp → Prop) (h:R (.clo 78 [] [.ptr H.n 0,.ptr (H.n+1) 0]) ((H.new (.cells [.p (.sl false 1 (pl b8 L))])).new (.cells [.p (i64 n)]))):ACall Tryd.prog G 62 [.p (.sl false 1 (pl b8 L)),.p (i64 n)] H R:=by
 have d:decide ((n:Int) < 1)=false:=decide_eq_false (by omega)
 refine ACall.of_run (raw:=[]) Tryd.func62 rfl Tryd.ntmps62 (by simp) fun hbel => ?_
 refine .q ?_;refine .text ?_;simp (disch:=first|exact zb|fail) only [go_sem,seval,-List.reduceReplicate]
 refine .q ?_;refine .text ?_;simp (disch:=first|exact zb|fail) only [go_sem,seval,-List.reduceReplicate,d]
 refine .q ?_;refine .ifF (by simp (disch:=first|exact zb|fail) only [go_sem,seval,-List.reduceReplicate,d]) ?_
 refine .q ?_;refine .text ?_;simp (disch:=first|exact zb|fail) only [go_sem,seval,-List.reduceReplicate]
 refine .q ?_;refine .retKeep Tryd.func62 (by rw [Tryd.results62]) (by simp (disch:=first|exact zb|fail) only [go_sem,seval,-List.reduceReplicate];rfl) ?_;(try simp (disch:=first|exact zb|fail) only [go_sem,seval,-List.reduceReplicate])
 exact h
set_option maxHeartbeats 8000000 in
theorem zi4 (L:List (BitVec 8)) (n c:Nat) (hn:1≤n∧n≤1000) (hl:L.length=n*c) (hl2:L.length≤1000000) (y p q m:Nat) (X:Nat → Hp) (hX : ∀ i,(X i).n=m) (hB : ∀ i,Bel m (X i)) (hy0:y < m) (hp : ∀ i,(X i).f p=some (.cells [.p (.sl false 1 (pl b8 L))])) (hq : ∀ i,(X i).f q=some (.cells [.p (i64 n)]))
 (hy : ∀ i,i < c → ∀ (S:List AB) (K:AV → Hp → Prop),K (.p (bo true)) (app (X (i+1)) S) → AYield Tryd.prog G y [.p (.sl false 1 (pl b8 ((L.take (n*i+n)).drop (n*i))))] (app (X i) S) K)
 (R:AV → Hp → Prop) (h:R (.tup []) (X c)):ACall Tryd.prog G 78 [.yld y,.ptr p 0,.ptr q 0] (X 0) R:=by
 have hX0:=hX 0
 have hp0:=hp 0
 have hmul : ∀ i,i < c → n*i+n≤n*c:=fun i hi=>by
  have:=Nat.mul_le_mul_left n (show i+1≤c by omega)
  rw [Nat.mul_succ] at this;exact this
 obtain⟨P,hP⟩ : ∃ P:Nat → Nat,∀ i,n*i=P i:=⟨fun i=>n*i,fun _=>rfl⟩
 have hPs : ∀ i,P (i+1)=P i+n:=fun i=>by rw [←hP,←hP,Nat.mul_succ]
 have hP0:P 0=0:=by rw [←hP];rfl
 simp only [hP] at hl hy hmul
 clear hP
 refine ACall.of_run (raw:=[]) Tryd.func78 rfl Tryd.ntmps78 (by simp) fun hbel => ?_
 rw [hX0]
 have hbel : ∀ i,Bel m (X i):=hB
 refine .q ?_;refine .text ?_;simp (disch:=first|exact zb|fail) only [go_sem,seval,-List.reduceReplicate,hp0]
 refine .q ?_;refine .loopH [0,1,2] (fun i=>[(4,.p (i64 (P i)))]) (fun i=>X i) (fun i=>True) (0) (c) (by omega) ?_ (by first | rfl | (simp (disch:=first|exact zb|fail) only [go_sem,seval,-List.reduceReplicate,hP0]<;>rfl)) ?_ ?_ ?_
 · simp (disch:=first|exact zb|fail) only [go_sem,seval,-List.reduceReplicate,hP0]<;>(repeat' (first | rfl | refine And.intro ?_ ?_))
 · exact trivial
 intro env E hQ;simp (disch:=first|exact zb|fail) only [go_sem,seval,-List.reduceReplicate,hP0] at E
 rotate_left 1
 intro i env hi0 hi E hQ ihE;simp (disch:=first|exact zb|fail) only [go_sem,seval,-List.reduceReplicate,hP0] at E
 rotate_left 1
 · have d:decide ((P c:Int) < (L.length:Int))=false:=decide_eq_false (by omega)
   have hXe:=hX c
   have hpc:=hp c
   refine .q ?_;refine .text ?_;simp (disch:=first|exact zb|fail) only [go_sem,seval,-List.reduceReplicate,E,hpc,d]
   refine .q ?_;refine .ifF (by simp (disch:=first|exact zb|fail) only [go_sem,seval,-List.reduceReplicate,d]) ?_
   refine .q ?_;refine .fin Tryd.func78 (by rw [Tryd.results78]) (by simp (disch:=first|exact zb|fail) only [go_sem,seval,-List.reduceReplicate];rfl) (by simp (disch:=first|exact zb|fail) only [go_sem,seval,-List.reduceReplicate];rfl) (by (try dsimp only);repeat (first | with_reducible refine zK ?_ zb | with_reducible refine zam ?_ zb | with_reducible refine za0 ?_ zb | with_reducible refine zae ?_ | with_reducible exact hbel | with_reducible exact hbel _)) ?_;simp (disch:=first|exact zb|fail) only [go_sem,seval,-List.reduceReplicate]
   (try rw [zdG hXe.symm])
   exact h
 · have hm:=hmul i hi
   have hyi:=hy i hi []
   simp only [zcn] at hyi
   have hpi:=hp i
   have hqi:=hq i
   have hst:=hPs i
   rw [hst] at ihE
   generalize P i=N at *
   have d:decide ((N:Int) < (L.length:Int))=true:=decide_eq_true (by omega)
   have d2:min (n:Int) ((L.length - N:Nat):Int)=(n:Int):=by omega
   refine .q ?_;refine .text ?_;simp (disch:=first|exact zb|fail) only [go_sem,seval,-List.reduceReplicate,E,hpi,d]
   refine .q ?_;refine .ifT (by simp (disch:=first|exact zb|fail) only [go_sem,seval,-List.reduceReplicate,d]) ?_
   refine .q ?_;refine .open [] follows (by kernel_rfl) ?_;simp (disch:=first|exact zb|fail) only [go_sem,seval,-List.reduceReplicate,E,hpi,hqi,d2]
   refine .q ?_;refine .text ?_;simp (disch:=first|exact zb|fail) only [go_sem,seval,-List.reduceReplicate,E,hpi]
   refine YieldK.of (fun K hK=>hyi K hK) ?_;simp (disch:=first|exact zb|fail) only [go_sem,seval,-List.reduceReplicate]
   refine .q ?_;refine .ifF (by simp (disch:=first|exact zb|fail) only [go_sem,seval,-List.reduceReplicate]) ?_
   refine .q ?_;refine .text ?_;simp (disch:=first|exact zb|fail) only [go_sem,seval,-List.reduceReplicate,E,hq (i+1)]
   first | (refine ihE _ _ ?_ trivial ?_) | (refine .z rfl ?_;refine ihE _ _ ?_ trivial ?_) | (refine .z rfl ?_;refine .z rfl ?_;refine ihE _ _ ?_ trivial ?_) | (refine .z rfl ?_;refine .z rfl ?_;refine .z rfl ?_;refine ihE _ _ ?_ trivial ?_)
   · simp (disch:=first|exact zb|fail) only [go_sem,seval,-List.reduceReplicate,E]<;>(repeat' (first | rfl | refine And.intro ?_ ?_))
   · first | rfl | (simp (disch:=first|exact zb|fail) only [go_sem,seval,-List.reduceReplicate,E]<;>(try rfl))

theorem zlX (L:List (BitVec 64)) (n:Nat) (hn:1≤n∧n≤1000) (H:Hp) (R:AV → Hp → Prop) (h:R (.clo 63 [] [.ptr H.n 0,.ptr (H.n+1) 0]) ((H.new (.cells [.p (.sl false 1 (pl zw L))])).new (.cells [.p (i64 n)]))):ACall Tryd.prog G 35 [.p (.sl false 1 (pl zw L)),.p (i64 n)] H R:=by
 have d:decide ((n:Int) < 1)=false:=decide_eq_false (by omega)
 refine ACall.of_run (raw:=[]) Tryd.func35 rfl Tryd.ntmps35 (by simp) fun hbel => ?_
 refine .q ?_;refine .text ?_;simp (disch:=first|exact zb|fail) only [go_sem,seval,-List.reduceReplicate]
 refine .q ?_;refine .text ?_;simp (disch:=first|exact zb|fail) only [go_sem,seval,-List.reduceReplicate,d]
 refine .q ?_;refine .ifF (by simp (disch:=first|exact zb|fail) only [go_sem,seval,-List.reduceReplicate,d]) ?_
 refine .q ?_;refine .text ?_;simp (disch:=first|exact zb|fail) only [go_sem,seval,-List.reduceReplicate]
 refine .q ?_;refine .retKeep Tryd.func35 (by rw [Tryd.results35]) (by simp (disch:=first|exact zb|fail) only [go_sem,seval,-List.reduceReplicate];rfl) ?_;(try simp (disch:=first|exact zb|fail) only [go_sem,seval,-List.reduceReplicate])
 exact h
set_option maxHeartbeats 8000000 in
theorem zi5 (L:List (BitVec 64)) (n c:Nat) (hn:1≤n∧n≤1000) (hl:L.length=n*c) (hl2:L.length≤1000000) (y p q m:Nat) (X:Nat → Hp) (hX : ∀ i,(X i).n=m) (hB : ∀ i,Bel m (X i)) (hy0:y < m) (hp : ∀ i,(X i).f p=some (.cells [.p (.sl false 1 (pl zw L))])) (hq : ∀ i,(X i).f q=some (.cells [.p (i64 n)]))
 (hy : ∀ i,i < c → ∀ (S:List AB) (K:AV → Hp → Prop),K (.p (bo true)) (app (X (i+1)) S) → AYield Tryd.prog G y [.p (.sl false 1 (pl zw ((L.take (n*i+n)).drop (n*i))))] (app (X i) S) K)
 (R:AV → Hp → Prop) (h:R (.tup []) (X c)):ACall Tryd.prog G 63 [.yld y,.ptr p 0,.ptr q 0] (X 0) R:=by
 have hX0:=hX 0
 have hp0:=hp 0
 have hmul : ∀ i,i < c → n*i+n≤n*c:=fun i hi=>by
  have:=Nat.mul_le_mul_left n (show i+1≤c by omega)
  rw [Nat.mul_succ] at this;exact this
 obtain⟨P,hP⟩ : ∃ P:Nat → Nat,∀ i,n*i=P i:=⟨fun i=>n*i,fun _=>rfl⟩
 have hPs : ∀ i,P (i+1)=P i+n:=fun i=>by rw [←hP,←hP,Nat.mul_succ]
 have hP0:P 0=0:=by rw [←hP];rfl
 simp only [hP] at hl hy hmul
 clear hP
 refine ACall.of_run (raw:=[]) Tryd.func63 rfl Tryd.ntmps63 (by simp) fun hbel => ?_
 rw [hX0]
 have hbel : ∀ i,Bel m (X i):=hB
 refine .q ?_;refine .text ?_;simp (disch:=first|exact zb|fail) only [go_sem,seval,-List.reduceReplicate,hp0]
 refine .q ?_;refine .loopH [0,1,2] (fun i=>[(4,.p (i64 (P i)))]) (fun i=>X i) (fun i=>True) (0) (c) (by omega) ?_ (by first | rfl | (simp (disch:=first|exact zb|fail) only [go_sem,seval,-List.reduceReplicate,hP0]<;>rfl)) ?_ ?_ ?_
 · simp (disch:=first|exact zb|fail) only [go_sem,seval,-List.reduceReplicate,hP0]<;>(repeat' (first | rfl | refine And.intro ?_ ?_))
 · exact trivial
 intro env E hQ;simp (disch:=first|exact zb|fail) only [go_sem,seval,-List.reduceReplicate,hP0] at E
 rotate_left 1
 intro i env hi0 hi E hQ ihE;simp (disch:=first|exact zb|fail) only [go_sem,seval,-List.reduceReplicate,hP0] at E
 rotate_left 1
 · have d:decide ((P c:Int) < (L.length:Int))=false:=decide_eq_false (by omega)
   have hXe:=hX c
   have hpc:=hp c
   refine .q ?_;refine .text ?_;simp (disch:=first|exact zb|fail) only [go_sem,seval,-List.reduceReplicate,E,hpc,d]
   refine .q ?_;refine .ifF (by simp (disch:=first|exact zb|fail) only [go_sem,seval,-List.reduceReplicate,d]) ?_
   refine .q ?_;refine .fin Tryd.func63 (by rw [Tryd.results63]) (by simp (disch:=first|exact zb|fail) only [go_sem,seval,-List.reduceReplicate];rfl) (by simp (disch:=first|exact zb|fail) only [go_sem,seval,-List.reduceReplicate];rfl) (by (try dsimp only);repeat (first | with_reducible refine zK ?_ zb | with_reducible refine zam ?_ zb | with_reducible refine za0 ?_ zb | with_reducible refine zae ?_ | with_reducible exact hbel | with_reducible exact hbel _)) ?_;simp (disch:=first|exact zb|fail) only [go_sem,seval,-List.reduceReplicate]
   (try rw [zdG hXe.symm])
   exact h
 · have hm:=hmul i hi
   have hyi:=hy i hi []
   simp only [zcn] at hyi
   have hpi:=hp i
   have hqi:=hq i
   have hst:=hPs i
   rw [hst] at ihE
   generalize P i=N at *
   have d:decide ((N:Int) < (L.length:Int))=true:=decide_eq_true (by omega)
   have d2:min (n:Int) ((L.length - N:Nat):Int)=(n:Int):=by omega
   refine .q ?_;refine .text ?_;simp (disch:=first|exact zb|fail) only [go_sem,seval,-List.reduceReplicate,E,hpi,d]
   refine .q ?_;refine .ifT (by simp (disch:=first|exact zb|fail) only [go_sem,seval,-List.reduceReplicate,d]) ?_
   refine .q ?_;refine .open [] follows (by kernel_rfl) ?_;simp (disch:=first|exact zb|fail) only [go_sem,seval,-List.reduceReplicate,E,hpi,hqi,d2]
   refine .q ?_;refine .text ?_;simp (disch:=first|exact zb|fail) only [go_sem,seval,-List.reduceReplicate,E,hpi]
   refine YieldK.of (fun K hK=>hyi K hK) ?_;simp (disch:=first|exact zb|fail) only [go_sem,seval,-List.reduceReplicate]
   refine .q ?_;refine .ifF (by simp (disch:=first|exact zb|fail) only [go_sem,seval,-List.reduceReplicate]) ?_
   refine .q ?_;refine .text ?_;simp (disch:=first|exact zb|fail) only [go_sem,seval,-List.reduceReplicate,E,hq (i+1)]
   first | (refine ihE _ _ ?_ trivial ?_) | (refine .z rfl ?_;refine ihE _ _ ?_ trivial ?_) | (refine .z rfl ?_;refine .z rfl ?_;refine ihE _ _ ?_ trivial ?_) | (refine .z rfl ?_;refine .z rfl ?_;refine .z rfl ?_;refine ihE _ _ ?_ trivial ?_)
   · simp (disch:=first|exact zb|fail) only [go_sem,seval,-List.reduceReplicate,E]<;>(repeat' (first | rfl | refine And.intro ?_ ?_))
   · first | rfl | (simp (disch:=first|exact zb|fail) only [go_sem,seval,-List.reduceReplicate,E]<;>(try rfl))
end walks

def wds (b:By):Nat → List U
 | 0=>[]
 | c+1=>wds b c++[rd ((b.take (8*c+8)).drop (8*c))]
theorem zbQ {b:By} {c:Nat}:wds b (c+1)=wds b c++[rd ((b.take (8*c+8)).drop (8*c))]:=rfl
theorem zav {b:By} : ∀ {c},(wds b c).length=c
 | 0=>rfl
 | c+1=>by simp [wds,zav]
theorem zqt {H:Hp} {n a v sz:Nat} {xs:List PV} (h:Bel n H) (ha:a < n):Bel n (H.new (.cells [.sl a v sz xs])):=yD h fun z hz=>by
 simp only [AB.vals,List.mem_singleton] at hz;subst hz;exact .sl _ _ _ _ ha
section walks
variable {G:Globs}
set_option maxHeartbeats 8000000 in
theorem zgy (b:By) (c:Nat) (hc:b.length=8*c) (hb:c≤10000) (H:Hp) (R:AV → Hp → Prop) (h:R (.p (.sl false 1 (pl zw (wds b c)))) H):ACall Tryd.prog G 34 [.p (.sl false 1 (pl b8 b))] H R:=by
 refine ACall.of_run (raw:=[]) Tryd.func34 rfl Tryd.ntmps34 (by simp) fun hbel => ?_
 refine .q ?_;refine .text ?_;simp (disch:=first|exact zb|fail) only [go_sem,seval,-List.reduceReplicate]
 refine .q ?_;refine .text ?_;simp (disch:=first|exact zb|fail) only [go_sem,seval,-List.reduceReplicate]
 refine .q ?_;refine .ownC H.n 0 (by simp (disch:=first|exact zb|fail) only [go_sem,seval,-List.reduceReplicate];rfl) (by rfl) ?_;simp (disch:=first|exact zb|fail) only [go_sem,seval,-List.reduceReplicate,List.set_cons_zero,List.set_cons_succ]
 refine .q ?_;refine .text ?_;simp (disch:=first|exact zb|fail) only [go_sem,seval,-List.reduceReplicate]
 refine CallK.of (fun R h=>zlW b 8 (by omega) _ R h) ?_;simp (disch:=first|exact zb|fail) only [go_sem,seval,-List.reduceReplicate]
 refine .q ?_;refine .rangeFunc (ps:=[7]) rfl (by simp (disch:=first|exact zb|fail) only [go_sem,seval,-List.reduceReplicate];rfl) (by simp (disch:=first|exact zb|fail) only [go_sem,seval,-List.reduceReplicate]) (by simp) fun L vs hL hvs hround => ?_;simp (disch:=first|exact zb|fail) only [go_sem,seval,-List.reduceReplicate]
 refine zi4 b 8 c (by omega) hc (by omega) (H.n+4) (H.n+2) (H.n+3) (H.n+5) (fun j=>(((((H.new (.cells [.sl (H.n+1) j 1 (pl zw (wds b j))])).new (.tail j)).new (.cells [.p (.sl false 1 (pl b8 b))])).new (.cells [.p (i64 (8:Nat))])).new (.obj vs (L .ready none)))) (fun j=>by simp (disch:=first|exact zb|fail) only [go_sem,seval,-List.reduceReplicate]) (fun j => ?_) (by omega) (fun j=>by simp (disch:=first|exact zb|fail) only [go_sem,seval,-List.reduceReplicate]) (fun j=>by simp (disch:=first|exact zb|fail) only [go_sem,seval,-List.reduceReplicate]) (fun j hj S K hK => ?_) _ ?_
 · (try dsimp only);(repeat (first | with_reducible exact hbel | with_reducible exact yT hbel zb | with_reducible refine za5 ?_ | with_reducible refine za6 ?_ | with_reducible refine za7 ?_ | with_reducible refine za8 hvs ?_ zb | with_reducible refine zae ?_ | with_reducible refine za9 ?_ | with_reducible refine zba ?_ | with_reducible refine zbb ?_ | with_reducible refine zbc ?_))
   exact zqt (yT hbel (by omega)) (by omega)
 · rw [zbQ] at hK
   have hl:((b.take (8*j+8)).drop (8*j)).length=8:=by rw [List.length_drop,List.length_take];omega
   have hwl:=zav (b:=b) (c:=j)
   generalize (b.take (8*j+8)).drop (8*j)=x at *
   refine hround _ _ _ rfl (by simp (disch:=first|exact zb|fail) only [go_sem,seval,-List.reduceReplicate]) fun hbel2 => ?_
   dsimp only
   simp (disch:=first|exact zb|fail) only [go_sem,seval,-List.reduceReplicate]
   refine .q ?_;refine .text ?_;simp (disch:=first|exact zb|fail) only [go_sem,seval,-List.reduceReplicate]
   refine .q ?_;refine .beginRound rfl hL (by simp (disch:=first|exact zb|fail) only [go_sem,seval,-List.reduceReplicate];rfl) ?_;simp (disch:=first|exact zb|fail) only [go_sem,seval,-List.reduceReplicate]
   refine .q ?_;refine .open [4,5] follows (by kernel_rfl) ?_;simp (disch:=first|exact zb|fail) only [go_sem,seval,-List.reduceReplicate]
   refine CallD.still (fun R h=>zc8 x (by omega) _ R h) ?_;simp (disch:=first|exact zb|fail) only [go_sem,seval,-List.reduceReplicate,hwl]
   refine .q ?_;refine .roundEndK rfl hL (by simp (disch:=first|exact zb|fail) only [go_sem,seval,-List.reduceReplicate];rfl) ?_;simp (disch:=first|exact zb|fail) only [go_sem,seval,-List.reduceReplicate]
   exact hK
 · unfold zdI;refine⟨?_,.inl ⟨(by simp (disch:=first|exact zb|fail) only [go_sem,seval,-List.reduceReplicate]<;>rfl),?_⟩⟩;(try dsimp only);(repeat (first | with_reducible exact hbel | with_reducible exact yT hbel zb | with_reducible refine za5 ?_ | with_reducible refine za6 ?_ | with_reducible refine za7 ?_ | with_reducible refine za8 hvs ?_ zb | with_reducible refine zae ?_ | with_reducible refine za9 ?_ | with_reducible refine zba ?_ | with_reducible refine zbb ?_ | with_reducible refine zbc ?_));simp (disch:=first|exact zb|fail) only [go_sem,seval,-List.reduceReplicate]
   · exact zqt (yT hbel (by omega)) (by omega)
   refine .q ?_;refine .text ?_;simp (disch:=first|exact zb|fail) only [go_sem,seval,-List.reduceReplicate]
   refine .q ?_;refine .rt Tryd.func34 (by rw [Tryd.results34]) (hR := ?_);simp (disch:=first|exact zb|fail) only [go_sem,seval,-List.reduceReplicate]
   exact h
end walks
end Go.Proofs.YtmoecjgehdkhkaaDoor

/-
  Sessions: decoding a message.
-/
namespace Go.Proofs.YtmoecjgehdkhkaaDoor
open Go Go.AL

def mG (k s t:Int) (tx:By) (r:By) (S V:AV):List AV := .p (i64 k) :: .p (i64 s) :: .p (i64 t) :: .p (str (bytesOf tx)) :: (cl b8 r++[S,V])
theorem zao:ByteArray.empty=bytesOf []:=rfl
section mg
variable {k s t:Int} {tx r:By} {S V:AV}
theorem zb3 (h:r.length=32):(mG k s t tx r S V).length=38:=by simp [mG,zar,h]
theorem zqu {x:Int}:(mG k s t tx r S V).set 0 (.p (i64 x))=mG x s t tx r S V:=rfl
theorem zqv {x:Int}:(mG k s t tx r S V).set 1 (.p (i64 x))=mG k x t tx r S V:=rfl
theorem zqw {x:Int}:(mG k s t tx r S V).set 2 (.p (i64 x))=mG k s x tx r S V:=rfl
theorem zIJ {x:By}:(mG k s t tx r S V).set 3 (.p (str (bytesOf x)))=mG k s t x r S V:=rfl
theorem zqx {x:By} (h:r.length=32) (hx:x.length=32):setAt (mG k s t tx r S V) 4 (cl b8 x)=mG k s t tx x S V:=by
 rw [yQ _ _ _ (by rw [zb3 h,zar,hx];omega),zar,hx]
 unfold mG
 simp only [List.take_succ_cons,List.take_zero,List.drop_succ_cons,List.cons_append,List.nil_append]
 rw [List.drop_append_of_le_length (by rw [zar];omega),List.drop_of_length_le (by rw [zar];omega)];rfl
theorem zgz (h:r.length=32):(mG k s t tx r S V)[36]? = some S:=by
 unfold mG;simp only [List.getElem?_cons_succ];rw [zbu (by rw [zar,h]) (by omega)];rfl
theorem zgA (h:r.length=32):(mG k s t tx r S V)[37]? = some V:=by
 unfold mG;simp only [List.getElem?_cons_succ];rw [zbu (by rw [zar,h]) (by omega)];rfl
theorem zAv {x:AV} (h:r.length=32):(mG k s t tx r S V).set 36 x=mG k s t tx r x V:=by
 unfold mG
 simp only [List.set_cons_succ]
 rw [List.set_append_right _ _ (by rw [zar];omega),zar,h];rfl
theorem zAw {x:AV} (h:r.length=32):(mG k s t tx r S V).set 37 x=mG k s t tx r S x:=by
 unfold mG
 simp only [List.set_cons_succ]
 rw [List.set_append_right _ _ (by rw [zar];omega),zar,h];rfl
theorem zIK (h:r.length=32):(mG k s t tx r S V).take 38=mG k s t tx r S V:=List.take_of_length_le (by rw [zb3 h];exact Nat.le_refl _)
theorem zfc {l:List AV} {ps qs:List PV} {m:List AV} (h:pvs? l=some ps) (h2:pvs? m=some qs):pvs? (l++m)=some (ps++qs):=by
 induction l generalizing ps with
 | nil=>simp [pvs?] at h;subst h;simpa using h2
 | cons a l ih =>
  simp only [pvs?] at h
  split at h
  · rename_i p q h3 h4
    cases h
    have:=ih h4
    simp [pvs?,h3,this]
  · cases h
theorem zpk {a v a' v':Nat} {su:List Int} {va:List Ext} (h:r.length=32):zG (mG k s t tx r (.sl a v 1 (pl i64 su)) (.sl a' v' 2 (pl ext va))) = .p (yK ⟨k,s,t,tx,⟨r,h⟩,su,va⟩):=by
 unfold zG
 have h1:pvs? (mG k s t tx r (.sl a v 1 (pl i64 su)) (.sl a' v' 2 (pl ext va)))=some (zea ⟨k,s,t,tx,⟨r,h⟩,su,va⟩):=by
  have h2:pvs? (cl b8 r)=some (pl b8 r):=by rw [←znI];exact zdP _
  have h3:pvs? [AV.sl a v 1 (pl i64 su),AV.sl a' v' 2 (pl ext va)]=some [.sl false 1 (pl i64 su),.sl false 2 (pl ext va)]:=rfl
  have h4:=zfc h2 h3
  have h5:pvs? [AV.p (i64 k),.p (i64 s),.p (i64 t),.p (str (bytesOf tx))]=some [i64 k,i64 s,i64 t,str (bytesOf tx)]:=rfl
  exact zfc h5 h4
 rw [h1];rfl
theorem zIL:((([i64 0,i64 0,i64 0,str ByteArray.empty]:List PV)++List.replicate 32 (b8 0#8)++([.sl true 1 [],.sl true 2 []]:List PV)).map .p)=mG 0 0 0 [] (List.replicate 32 0#8) (.p (.sl true 1 [])) (.p (.sl true 2 [])):=rfl
end mg
theorem zgB : ∀ {b:By},b.length≤7 → (rd b).toNat < 2 ^ (8*b.length)
 | [],_=>by simp [rd]
 | c :: b,h=>by
  have ih:=zgB (b:=b) (by simp at h;omega)
  have hc:=c.isLt
  have h1:(rd (c :: b)).toNat=(rd b).toNat*256+c.toNat:=by
   simp only [rd,BitVec.toNat_or,BitVec.toNat_shiftLeft,BitVec.toNat_setWidth]
   have h2:(rd b).toNat <<< 8 < 2 ^ 64:=by
    rw [Nat.shiftLeft_eq]
    have:2 ^ (8*b.length)*2 ^ 8≤2 ^ 64:=by
     rw [←Nat.pow_add];exact Nat.pow_le_pow_right (by omega) (by simp at h;omega)
    have:=Nat.mul_lt_mul_of_pos_right ih (show 0 < 2 ^ 8 by decide)
    omega
   rw [Nat.mod_eq_of_lt h2,Nat.mod_eq_of_lt (show c.toNat < 2 ^ 64 by omega),←Nat.shiftLeft_add_eq_or_of_lt (by omega),Nat.shiftLeft_eq]
  rw [h1,List.length_cons,show 8*(b.length+1)=8*b.length+8 by omega,Nat.pow_add]
  omega
theorem zec {b:By} (h:b.length≤4):(rd b).toNat < 4294967296:=by
 have:=zgB (b:=b) (by omega)
 have h2:2 ^ (8*b.length)≤2 ^ 32:=Nat.pow_le_pow_right (by omega) (by omega)
 omega
theorem zi6 {b:By} (h:b.length≤2):(rd b).toNat < 65536:=by
 have:=zgB (b:=b) (by omega)
 have h2:2 ^ (8*b.length)≤2 ^ 16:=Nat.pow_le_pow_right (by omega) (by omega)
 omega
theorem wrap_small {n:Nat} (h:n < 9223372036854775808):IntKind.i64.wrap (n:Int)=n:=ze9 (by omega) (by omega)
def dH (H:Hp) (mc:List AV) (st:By × Bool):Hp :=
 ((((H.new (.cells (mG 0 0 0 [] (List.replicate 32 0#8) (.p (.sl true 1 [])) (.p (.sl true 2 []))))).new (.cells mc)).new (.cells [.p (.sl false 1 (pl b8 st.1))])).new (.cells [.clo 60 [] [.ptr (H.n+2) 0]])).new (.cells [.p (bo st.2)])
section dh
variable {H:Hp} {mc mc':List AV} {st st':By × Bool}
theorem zQd:(dH H mc st).n=H.n+5:=by simp [dH,Hp.n_new]
theorem zJ8:(dH H mc st).f H.n=some (.cells (mG 0 0 0 [] (List.replicate 32 0#8) (.p (.sl true 1 [])) (.p (.sl true 2 [])))):=by simp (disch:=first|exact zb|fail) only [dH,go_sem,seval,-List.reduceReplicate]
theorem zJ9:(dH H mc st).f (H.n+1)=some (.cells mc):=by simp (disch:=first|exact zb|fail) only [dH,go_sem,seval,-List.reduceReplicate]
theorem zKa:(dH H mc st).f (H.n+2)=some (.cells [.p (.sl false 1 (pl b8 st.1))]):=by simp (disch:=first|exact zb|fail) only [dH,go_sem,seval,-List.reduceReplicate]
theorem zKb:(dH H mc st).f (H.n+3)=some (.cells [.clo 60 [] [.ptr (H.n+2) 0]]):=by simp (disch:=first|exact zb|fail) only [dH,go_sem,seval,-List.reduceReplicate]
theorem zKc:(dH H mc st).f (H.n+4)=some (.cells [.p (bo st.2)]):=by simp (disch:=first|exact zb|fail) only [dH,go_sem,seval,-List.reduceReplicate]
theorem zIM:(dH H mc st).set (H.n+1) (.cells mc')=dH H mc' st:=by simp (disch:=first|exact zb|fail) only [dH,go_sem,seval,-List.reduceReplicate]
theorem zRz:((dH H mc st).set (H.n+2) (.cells [.p (.sl false 1 (pl b8 st'.1))])).set (H.n+4) (.cells [.p (bo st'.2)])=dH H mc st':=by simp (disch:=first|exact zb|fail) only [dH,go_sem,seval,-List.reduceReplicate]
theorem zAx:(dH H mc st).trunc H.n=H:=by simp (disch:=first|exact zb|fail) only [dH,go_sem,seval,-List.reduceReplicate]
end dh
def dK (H:Hp) (mc:List AV) (st:By × Bool) (i j:Nat):Hp:=((dH H mc st).new (.tail i)).new (.tail j)
section dk
variable {H:Hp} {mc mc':List AV} {st st':By × Bool} {i j k:Nat}
theorem zOz:(dK H mc st i j).n=H.n+7:=by simp [dK,zQd,Hp.n_new]
theorem zgC {b:Nat} {x:AB} (h:(dH H mc st).f b=some x):(dK H mc st i j).f b=some x:=by
 have:=Hp.lt h
 unfold dK
 rw [Hp.f_new_old _ _ _ (by rw [Hp.n_new];omega),Hp.f_new_old _ _ _ this,h]
theorem zQe:(dK H mc st i j).f H.n=some (.cells (mG 0 0 0 [] (List.replicate 32 0#8) (.p (.sl true 1 [])) (.p (.sl true 2 [])))):=zgC zJ8
theorem zQf:(dK H mc st i j).f (H.n+1)=some (.cells mc):=zgC zJ9
theorem zAy:(dK H mc st i j).f (H.n+2)=some (.cells [.p (.sl false 1 (pl b8 st.1))]):=zgC zKa
theorem zAz:(dK H mc st i j).f (H.n+3)=some (.cells [.clo 60 [] [.ptr (H.n+2) 0]]):=zgC zKb
theorem zqy:(dK H mc st i j).f (H.n+4)=some (.cells [.p (bo st.2)]):=zgC zKc
theorem zQg:(dK H mc st i j).f (H.n+5)=some (.tail i):=by simp (disch:=first|exact zb|fail) only [dK,dH,go_sem,seval,-List.reduceReplicate]
theorem zQh:(dK H mc st i j).f (H.n+6)=some (.tail j):=by simp (disch:=first|exact zb|fail) only [dK,dH,go_sem,seval,-List.reduceReplicate]
theorem zIN:(dK H mc st i j).set (H.n+1) (.cells mc')=dK H mc' st i j:=by simp (disch:=first|exact zb|fail) only [dK,dH,go_sem,seval,-List.reduceReplicate]
theorem zIO:(dK H mc st i j).set (H.n+5) (.tail k)=dK H mc st k j:=by simp (disch:=first|exact zb|fail) only [dK,dH,go_sem,seval,-List.reduceReplicate]
theorem zIP:(dK H mc st i j).set (H.n+6) (.tail k)=dK H mc st i k:=by simp (disch:=first|exact zb|fail) only [dK,dH,go_sem,seval,-List.reduceReplicate]
theorem zAA:((dK H mc st i j).set (H.n+2) (.cells [.p (.sl false 1 (pl b8 st'.1))])).set (H.n+4) (.cells [.p (bo st'.2)])=dK H mc st' i j:=by simp (disch:=first|exact zb|fail) only [dK,dH,go_sem,seval,-List.reduceReplicate]
theorem zAB:(dK H mc st i j).trunc H.n=H:=by simp (disch:=first|exact zb|fail) only [dK,dH,go_sem,seval,-List.reduceReplicate]
theorem zpl {n:Nat} {a b c:Int} {tx r:By} {S V:AV} (hS:BelowN n S) (hV:BelowN n V) : ∀ y∈mG a b c tx r S V,BelowN n y:=fun y hy=>by
 simp only [mG,List.mem_cons,List.mem_append,List.not_mem_nil,or_false,cl,List.mem_map] at hy
 rcases hy with rfl | rfl | rfl | rfl | ⟨x,_,rfl⟩ | rfl | rfl<;>first | exact .p _ | assumption
theorem zAC {n:Nat} (hn:H.n+7≤n) (h:Bel H.n H) (hm : ∀ y∈mc,BelowN n y):Bel n (dK H mc st i j):=by
 unfold dK dH
 refine yD (yD (yD (yD (yD (yD (yD (yT h (by omega)) ?_) hm) ?_) ?_) ?_) ?_) ?_
 · exact zpl (.p _) (.p _)
 · intro y hy;simp only [AB.vals,List.mem_singleton] at hy;subst hy;exact .p _
 · intro y hy;simp only [AB.vals,List.mem_singleton] at hy;subst hy
   refine .clo _ _ _ (fun i x h=>by simp at h) fun i x h => ?_
   have:i=0:=by have:=(List.getElem?_eq_some_iff.1 h).1;simpa using this
   subst this;simp at h;subst h;exact .ptr _ _ (by omega)
 · intro y hy;simp only [AB.vals,List.mem_singleton] at hy;subst hy;exact .p _
 · intro y hy;simp [AB.vals] at hy
 · intro y hy;simp [AB.vals] at hy
end dk
theorem zIQ {H:Hp} {mc:List AV} {st:By × Bool} {i j:Nat} (h:Bel H.n H):Bel H.n (dK H mc st i j):=by
 unfold dK dH
 exact zK (zK (zK (zK (zK (zK (zK h (Nat.le_refl _)) (by simp only [n_new'];omega)) (by simp only [n_new'];omega)) (by simp only [n_new'];omega)) (by simp only [n_new'];omega)) (by simp only [n_new'];omega)) (by simp only [n_new'];omega)
def zP:PV := .agg ([i64 0,i64 0,i64 0,str (bytesOf [])]++(pl b8 (List.replicate 32 0#8)++[.sl true 1 [],.sl true 2 []]))
def toI (x:U):Int:=IntKind.i64.wrap x.toNat
attribute [go_sem] zOz zQe zQf zAy zAz zqy zQg zQh zIN zIO zIP zAB zQd zJ8 zJ9 zKa zKb zKc zIM zAx zb3 zqu zqv zqw zIJ zqx zgz zgA zAv zAw zIK zIL
def prs (w:List U):Nat → List Ext
 | 0=>[]
 | j+1=>prs w j++[⟨nth w (2*j),nth w (2*j+1)⟩]
theorem zcY {w:List U} {j:Nat}:prs w (j+1)=prs w j++[⟨nth w (2*j),nth w (2*j+1)⟩]:=rfl
theorem zdS {w:List U} : ∀ {j},(prs w j).length=j
 | 0=>rfl
 | j+1=>by simp [prs,zdS]
def mkD (l:By):Dg:=if h:l.length=32 then ⟨l,h⟩ else zD
theorem zpm {l:By} (h:l.length=32):mkD l=⟨l,h⟩:=dif_pos h
def zM:Msg:=⟨0,0,0,[],zD,[],[]⟩
def d7 (kd se sp:Nat) (tx dgs:By) (us:List Int) (c:Nat) (vl:By) (s:By × Bool):Msg × Bool:=(⟨kd,se,sp,tx,mkD dgs,us,prs (wds vl (2*c)) c⟩,(tk s 8).2.2)
def d6 (kd se sp:Nat) (tx dgs:By) (us:List Int) (c:Nat) (s:By × Bool):Msg × Bool:=d7 kd se sp tx dgs us c (tk s (16*c)).1 (tk s (16*c)).2
def d5 (kd se sp:Nat) (tx dgs:By) (c:Nat) (s:By × Bool):Msg × Bool:=d6 kd se sp tx dgs ((wds (tk s (8*c)).1 c).map toI) (nth (tk (tk s (8*c)).2 1).1 0).toNat (tk (tk s (8*c)).2 1).2
def d4 (kd se sp:Nat) (tx dgs:By) (s:By × Bool):Msg × Bool:=d5 kd se sp tx dgs (nth (tk s 1).1 0).toNat (tk s 1).2
def d3 (kd se sp:Nat) (dgs:By) (tl:Nat) (s:By × Bool):Msg × Bool:=d4 kd se sp (tk s tl).1 dgs (tk s tl).2
def d2 (kd se sp:Nat) (dgs:By) (s:By × Bool):Msg × Bool:=d3 kd se sp dgs (rd (tk s 2).1).toNat (tk s 2).2
def d1 (hd:By) (s:By × Bool):Msg × Bool:=d2 (nth hd 0).toNat (rd ((hd.take 5).drop 1)).toNat (rd ((hd.take 9).drop 5)).toNat (hd.drop 9) s
def decM (b:By):Msg × Bool:=d1 (tk (b,true) 41).1 (tk (b,true) 41).2
def zi7 (b:By) (r:Msg × Bool):Msg × Int:=if r.2=false then (zM,6) else if enc r.1=b then (r.1,0) else (zM,5)
def dec (b:By):Msg × Int:=zi7 b (decM b)
section walks
variable {G:Globs} {r1 r2:Nat} {m1:List (Int × Rule)} {m2:List (Int × Int)}
theorem take_at (st:By × Bool) (hr:st.1.length≤140737488355000) (n:Nat) (hn:n≤100000) (H:Hp) (mc:List AV) (i j:Nat) (R:AV → Hp → Prop) (h:R (.p (.sl false 1 (pl b8 (tk st n).1))) (dK H mc (tk st n).2 i j)) :
 ACall Tryd.prog G 32 [.p (i64 n),.ptr (H.n+3) 0,.ptr (H.n+4) 0] (dK H mc st i j) R :=
 zhQ st hr n hn (H.n+2) (H.n+3) (H.n+4) _ zAy zAz zqy (by omega) (by omega) R (by rw [zAA];exact h)
theorem zAD (T:List AB) (st:By × Bool) (hr:st.1.length≤140737488355000) (n:Nat) (hn:n≤100000) (H:Hp) (mc:List AV) (i j:Nat) (R:AV → Hp → Prop) (h:R (.p (.sl false 1 (pl b8 (tk st n).1))) (app (dK H mc (tk st n).2 i j) T)) :
 ACall Tryd.prog G 32 [.p (i64 n),.ptr (H.n+3) 0,.ptr (H.n+4) 0] (app (dK H mc st i j) T) R :=
 zhQ st hr n hn (H.n+2) (H.n+3) (H.n+4) _ (app_f' zAy) (app_f' zAz) (app_f' zqy) (by omega) (by omega) R (by rw [zaN (by rw [zOz];omega),zaN (by rw [Hp.n_set,zOz];omega),zAA];exact h)
theorem zqz:zG (mG 0 0 0 [] (List.replicate 32 0#8) (.p (.sl true 1 [])) (.p (.sl true 2 []))) = .p zP:=by
 unfold zG
 have h2:pvs? (cl b8 (List.replicate 32 0#8))=some (pl b8 (List.replicate 32 0#8)):=by rw [←znI];exact zdP _
 have h4:=zfc h2 (show pvs? [AV.p (.sl true 1 []),.p (.sl true 2 [])]=some [.sl true 1 [],.sl true 2 []] from rfl)
 have h5:=zfc (show pvs? [AV.p (i64 0),.p (i64 0),.p (i64 0),.p (str (bytesOf []))]=some [i64 0,i64 0,i64 0,str (bytesOf [])] from rfl) h4
 rw [show pvs? (mG 0 0 0 [] (List.replicate 32 0#8) (.p (.sl true 1 [])) (.p (.sl true 2 [])))=_ from h5]
 rfl
theorem zOA:zP.weak=yK zM:=by
 show PV.agg (List.map PV.weak1 _)=_
 rw [List.map_append,List.map_append,zbf (l:=pl b8 _) fun x hx=>by simp only [pl,List.mem_map] at hx;obtain⟨y,_,rfl⟩:=hx;rfl]
 rfl
theorem mG_aggZ':zG (.p (i64 0) :: .p (i64 0) :: .p (i64 0) :: .p (str ByteArray.empty) :: List.map AV.p (pl b8 (List.replicate 32 0#8)++[PV.sl true 1 [],PV.sl true 2 []])) = .p zP:=by
 rw [←zqz];simp [mG,cl,pl,zao]
theorem zAE:zo (.p zP)=some (mG 0 0 0 [] (List.replicate 32 0#8) (.p (.sl true 1 [])) (.p (.sl true 2 []))):=by
 show some ((_:List PV).map AV.p)=_
 simp [mG,cl,pl]
attribute [go_sem] zqz mG_aggZ' zAE zOA
def zQi:Option AV → Option AV → Option AV
 | some x,some y=>some (.tup [x,y])
 | _,_=>none
theorem zt4 {x y:AV}:zQi (some x) (some y)=some (.tup [x,y]):=rfl
theorem zIR {P:Program} {a t:Nat} {ty:TypeId} {env:Env} {H:Hp}:zcC P [.cell a ty,.tmp t] env H=zQi (zaA P H ty (env a)) (some (env t)):=by
 simp only [zcC,zaZ,zbW]
 cases zaA P H ty (env a)<;>rfl
def zOB:Option AV → Option AV → Option AV → Option AV
 | some x,some y,some z=>some (.tup [x,y,z])
 | _,_,_=>none
theorem zt5 {x y z:AV}:zOB (some x) (some y) (some z)=some (.tup [x,y,z]):=rfl
theorem zAF {P:Program} {a t u:Nat} {ty:TypeId} {env:Env} {H:Hp}:zcC P [.cell a ty,.tmp t,.tmp u] env H=zOB (zaA P H ty (env a)) (some (env t)) (some (env u)):=by
 simp only [zcC,zaZ,zbW]
 cases zaA P H ty (env a)<;>rfl
theorem zAG {P:Program} {a b u:Nat} {ty ty':TypeId} {env:Env} {H:Hp}:zcC P [.cell a ty,.cell b ty',.tmp u] env H=zOB (zaA P H ty (env a)) (zaA P H ty' (env b)) (some (env u)):=by
 simp only [zcC,zaZ,zbW]
 cases zaA P H ty (env a)<;>cases zaA P H ty' (env b)<;>rfl
attribute [go_sem] zt4 zIR zt5 zAF zAG
set_option maxHeartbeats 16000000 in
set_option maxRecDepth 20000 in
theorem zeq (g:GR G r1 r2 m1 m2) (b:By) (hb:b.length≤140737488355000) (H:Hp) (R:AV → Hp → Prop) (h:R (.tup [.p (yK (dec b).1),.p (i64 (dec b).2)]) H):ACall Tryd.prog G 9 [.p (.sl false 1 (pl b8 b))] H R:=by
 have hen:enters Tryd.prog 32=true:=zlz
 have hz:(List.replicate 32 0#8:By).length=32:=List.length_replicate
 refine ACall.of_run (raw:=[]) Tryd.func9 rfl Tryd.ntmps9 (by simp) fun hbel => ?_
 refine .q ?_;refine .text ?_;simp (disch:=first|exact zb|fail) only [go_sem,seval,-List.reduceReplicate]
 refine .q ?_;refine .text ?_;simp (disch:=first|exact zb|fail) only [go_sem,seval,-List.reduceReplicate]
 refine .q ?_;refine .text ?_;simp (disch:=first|exact zb|fail) only [go_sem,seval,-List.reduceReplicate]
 refine CallK.of (fun R h=>zhg b _ R h) ?_;simp (disch:=first|exact zb|fail) only [go_sem,seval,-List.reduceReplicate]
 change ARun _ _ _ (dH H (mG 0 0 0 [] (List.replicate 32 0#8) (.p (.sl true 1 [])) (.p (.sl true 2 []))) (b,true)) R
 refine .ownC (H.n+1) 36 (by simp (disch:=first|exact zb|fail) only [go_sem,seval,-List.reduceReplicate]<;>rfl) (zgz hz) ?_
 simp (disch:=first|exact zb|fail) only [go_sem,seval,-List.reduceReplicate,hz]
 refine .ownC (H.n+1) 37 (by simp (disch:=first|exact zb|fail) only [go_sem,seval,-List.reduceReplicate]<;>rfl) (zgA hz) ?_
 simp (disch:=first|exact zb|fail) only [go_sem,seval,-List.reduceReplicate,hz]
 change ARun _ _ _ (dK H (mG 0 0 0 [] (List.replicate 32 0#8) (.sl (H.n+5) 0 1 []) (.sl (H.n+6) 0 2 [])) (b,true) 0 0) R
 have k1:(tk (b,true) 41).1.length=41:=zbP
 have q1:=zgx (st:=(b,true)) (n:=41)
 refine .q ?_;refine .text ?_;simp (disch:=first|exact zb|fail) only [go_sem,seval,-List.reduceReplicate]
 refine .q ?_;refine .text ?_;simp (disch:=first|exact zb|fail) only [go_sem,seval,-List.reduceReplicate,hen]
 refine CallK.of (fun R h=>take_at (b,true) hb 41 (by omega) H _ _ _ R h) ?_;simp (disch:=first|exact zb|fail) only [go_sem,seval,-List.reduceReplicate]
 simp only at q1
 unfold dec decM at h
 generalize (tk (b,true) 41).2=s1 at *
 generalize (tk (b,true) 41).1=hd at *
 refine .q ?_;refine .text ?_;simp (disch:=first|exact zb|fail) only [go_sem,seval,-List.reduceReplicate,k1]
 have k3:((hd.take 5).drop 1).length=4:=by rw [List.length_drop,List.length_take];omega
 have k4:((hd.take 9).drop 5).length=4:=by rw [List.length_drop,List.length_take];omega
 have w3:=zec (Nat.le_of_eq k3)
 have w4:=zec (Nat.le_of_eq k4)
 have w5:=wrap_small (n:=(rd ((hd.take 5).drop 1)).toNat) (by omega)
 have w6:=wrap_small (n:=(rd ((hd.take 9).drop 5)).toNat) (by omega)
 have k2:(hd.drop 9).length=32:=by rw [List.length_drop,k1]
 refine .q ?_;refine .text ?_;simp (disch:=first|exact zb|fail) only [go_sem,seval,-List.reduceReplicate,k1]
 refine CallK.of (fun R h=>zc8 ((hd.take 5).drop 1) (by omega) _ R h) ?_;simp (disch:=first|exact zb|fail) only [go_sem,seval,-List.reduceReplicate,w5]
 refine .q ?_;refine .text ?_;simp (disch:=first|exact zb|fail) only [go_sem,seval,-List.reduceReplicate,k1]
 refine CallK.of (fun R h=>zc8 ((hd.take 9).drop 5) (by omega) _ R h) ?_;simp (disch:=first|exact zb|fail) only [go_sem,seval,-List.reduceReplicate,w6]
 unfold d1 at h
 generalize hse:(rd ((hd.take 5).drop 1)).toNat=se at *
 generalize hsp:(rd ((hd.take 9).drop 5)).toNat=sp at *
 generalize hdg:hd.drop 9=dgs at *
 generalize hkd:(nth hd 0).toNat=kd at *
 refine .q ?_;refine .open [4] follows (by kernel_rfl) ?_;simp (disch:=first|exact zb|fail) only [go_sem,seval,-List.reduceReplicate,k1,k2,hdg]
 -- the text
 have k5:(tk s1 2).1.length=2:=zbP
 have q2:=zgx (st:=s1) (n:=2)
 have w7:=zi6 (Nat.le_of_eq k5)
 have w8:=wrap_small (n:=(rd (tk s1 2).1).toNat) (by omega)
 refine .q ?_;refine .text ?_;simp (disch:=first|exact zb|fail) only [go_sem,seval,-List.reduceReplicate]
 refine CallK.of (fun R h=>take_at s1 (by omega) 2 (by omega) H _ _ _ R h) ?_;simp (disch:=first|exact zb|fail) only [go_sem,seval,-List.reduceReplicate]
 refine CallK.of (fun R h=>zc8 (tk s1 2).1 (by omega) _ R h) ?_;simp (disch:=first|exact zb|fail) only [go_sem,seval,-List.reduceReplicate,w8]
 unfold d2 at h
 generalize hs2:(tk s1 2).2=s2 at *
 generalize htl:(rd (tk s1 2).1).toNat=tl at *
 have k6:(tk s2 tl).1.length=tl:=zbP
 have q3:=zgx (st:=s2) (n:=tl)
 refine CallK.of (fun R h=>take_at s2 (by omega) tl (by omega) H _ _ _ R h) ?_;simp (disch:=first|exact zb|fail) only [go_sem,seval,-List.reduceReplicate,zaO]
 unfold d3 at h
 generalize hs3:(tk s2 tl).2=s3 at *
 generalize htx:(tk s2 tl).1=tx at *
 -- the numbers
 have k7:(tk s3 1).1.length=1:=zbP
 have q4:=zgx (st:=s3) (n:=1)
 refine .q ?_;refine .text ?_;simp (disch:=first|exact zb|fail) only [go_sem,seval,-List.reduceReplicate]
 refine CallK.of (fun R h=>take_at s3 (by omega) 1 (by omega) H _ _ _ R h) ?_;simp (disch:=first|exact zb|fail) only [go_sem,seval,-List.reduceReplicate,k7]
 unfold d4 at h
 generalize hs4:(tk s3 1).2=s4 at *
 generalize hc1:(nth (tk s3 1).1 0).toNat=c1 at *
 have hc1b:c1 < 256:=by rw [←hc1];exact (nth (tk s3 1).1 0).isLt
 obtain⟨n8,hn8,h8⟩ : ∃ n8:Nat,n8=8*c1∧8*(c1:Int)=(n8:Int):=⟨8*c1,rfl,by omega⟩
 have k8:(tk s4 n8).1.length=n8:=zbP
 have q5:=zgx (st:=s4) (n:=n8)
 simp (disch:=first|exact zb|fail) only [go_sem,seval,-List.reduceReplicate,h8]
 refine CallK.of (fun R h=>take_at s4 (by omega) n8 (by omega) H _ _ _ R h) ?_;simp (disch:=first|exact zb|fail) only [go_sem,seval,-List.reduceReplicate]
 unfold d5 at h
 rw [←hn8] at h
 generalize hs5:(tk s4 n8).2=s5 at *
 generalize hsm:(tk s4 n8).1=sm at *
 refine CallK.of (fun R h=>zgy sm c1 (by omega) (by omega) _ R h) ?_;simp (disch:=first|exact zb|fail) only [go_sem,seval,-List.reduceReplicate,zav]
 generalize hws:wds sm c1=ws at *
 have hwl:ws.length=c1:=by rw [←hws];exact zav
 refine .q ?_;refine .loopH [0,2,4,6,7,11,53,54,77] (fun i=>[(55,.p (i64 i))]) (fun i=>dK H (mG kd se sp tx dgs (.sl (H.n+5) i 1 (pl i64 ((ws.take i).map toI))) (.sl (H.n+6) 0 2 [])) s5 i 0) (fun i=>True) (0) (c1) (by omega) ?_ (by first | rfl | (simp (disch:=first|exact zb|fail) only [go_sem,seval,-List.reduceReplicate,k2,List.take_zero,List.map_nil]<;>rfl)) ?_ ?_ ?_
 · simp (disch:=first|exact zb|fail) only [go_sem,seval,-List.reduceReplicate,k2,List.take_zero,List.map_nil]<;>(repeat' (first | rfl | refine And.intro ?_ ?_))
 · exact trivial
 intro env E hQ;simp (disch:=first|exact zb|fail) only [go_sem,seval,-List.reduceReplicate,k2,List.take_zero,List.map_nil] at E
 rotate_left 1
 intro i env hi0 hi E hQ ihE;simp (disch:=first|exact zb|fail) only [go_sem,seval,-List.reduceReplicate,k2,List.take_zero,List.map_nil] at E
 rotate_left 1
 · have hwt:ws.take c1=ws:=List.take_of_length_le (by omega)
   rw [hwt] at *
   have hvl:(ws.map toI).length=c1:=by rw [List.length_map];exact hwl
   generalize ws.map toI=us at *
   refine .q ?_;refine .text ?_;simp (disch:=first|exact zb|fail) only [go_sem,seval,-List.reduceReplicate,E]
   refine .q ?_;refine .ifF (by simp (disch:=first|exact zb|fail) only [go_sem,seval,-List.reduceReplicate]) ?_
   have k9:(tk s5 1).1.length=1:=zbP
   have q6:=zgx (st:=s5) (n:=1)
   refine .q ?_;refine .text ?_;simp (disch:=first|exact zb|fail) only [go_sem,seval,-List.reduceReplicate,E,hen]
   refine CallK.of (fun R h=>take_at s5 (by omega) 1 (by omega) H _ _ _ R h) ?_;simp (disch:=first|exact zb|fail) only [go_sem,seval,-List.reduceReplicate,k9]
   generalize hs6:(tk s5 1).2=s6 at *
   generalize hc2:(nth (tk s5 1).1 0).toNat=c2 at *
   have hc2b:c2 < 256:=by rw [←hc2];exact (nth (tk s5 1).1 0).isLt
   obtain⟨n16,hn16,h16⟩ : ∃ n16:Nat,n16=16*c2∧16*(c2:Int)=(n16:Int):=⟨16*c2,rfl,by omega⟩
   have k10:(tk s6 n16).1.length=n16:=zbP
   have q7:=zgx (st:=s6) (n:=n16)
   simp (disch:=first|exact zb|fail) only [go_sem,seval,-List.reduceReplicate,h16]
   refine CallK.of (fun R h=>take_at s6 (by omega) n16 (by omega) H _ _ _ R h) ?_;simp (disch:=first|exact zb|fail) only [go_sem,seval,-List.reduceReplicate]
   unfold d6 at h
   rw [←hn16] at h
   generalize hs7:(tk s6 n16).2=s7 at *
   generalize hvm:(tk s6 n16).1=vm at *
   refine CallK.of (fun R h=>zgy vm (2*c2) (by omega) (by omega) _ R h) ?_;simp (disch:=first|exact zb|fail) only [go_sem,seval,-List.reduceReplicate,zav]
   unfold d7 at h
   generalize hwv:wds vm (2*c2)=wv at *
   have hwvl:wv.length=2*c2:=by rw [←hwv];exact zav
   refine CallK.of (fun R h=>zlX wv 2 (by omega) _ R h) ?_;simp (disch:=first|exact zb|fail) only [go_sem,seval,-List.reduceReplicate]
   refine .q ?_;refine .rangeFunc (ps:=[77]) rfl (by simp (disch:=first|exact zb|fail) only [go_sem,seval,-List.reduceReplicate];rfl) (by simp (disch:=first|exact zb|fail) only [go_sem,seval,-List.reduceReplicate]) (by simp) fun L vs hL hvs hround => ?_;simp (disch:=first|exact zb|fail) only [go_sem,seval,-List.reduceReplicate]
   refine zi5 wv 2 c2 (by omega) hwvl (by omega) (H.n+9) (H.n+7) (H.n+8) (H.n+10) (fun j=>(((dK H (mG kd se sp tx dgs (.sl (H.n+5) c1 1 (pl i64 us)) (.sl (H.n+6) j 2 (pl ext (prs wv j)))) s7 c1 j).new (.cells [.p (.sl false 1 (pl zw wv))])).new (.cells [.p (i64 (2:Nat))])).new (.obj vs (L .ready none))) (fun j=>by simp (disch:=first|exact zb|fail) only [go_sem,seval,-List.reduceReplicate]) (fun j => ?_) (by omega) (fun j=>by simp (disch:=first|exact zb|fail) only [go_sem,seval,-List.reduceReplicate]) (fun j=>by simp (disch:=first|exact zb|fail) only [go_sem,seval,-List.reduceReplicate]) (fun j hj S K hK => ?_) _ ?_
   · (try dsimp only);(repeat (first | with_reducible exact hbel | with_reducible exact yT hbel zb | with_reducible refine za5 ?_ | with_reducible refine za6 ?_ | with_reducible refine za7 ?_ | with_reducible refine za8 hvs ?_ zb | with_reducible refine zae ?_ | with_reducible refine za9 ?_ | with_reducible refine zba ?_ | with_reducible refine zbb ?_ | with_reducible refine zbc ?_))
     exact zAC (by omega) hbel (zpl (.sl _ _ _ _ (by omega)) (.sl _ _ _ _ (by omega)))
   · rw [zcY] at hK
     have hpl:=zdS (w:=wv) (j:=j)
     have hl:((wv.take (2*j+2)).drop (2*j)).length=2:=by rw [List.length_drop,List.length_take];omega
     have hx0:nth ((wv.take (2*j+2)).drop (2*j)) 0=nth wv (2*j):=by rw [zf9,zga (by omega)];rfl
     have hx1:nth ((wv.take (2*j+2)).drop (2*j)) 1=nth wv (2*j+1):=by rw [zf9,zga (by omega)]
     rw [←hx0,←hx1] at hK
     clear hx0 hx1
     generalize (wv.take (2*j+2)).drop (2*j)=x at *
     generalize prs wv j=ps at *
     refine hround _ _ _ rfl (by simp (disch:=first|exact zb|fail) only [go_sem,seval,-List.reduceReplicate]) fun hbel2 => ?_
     dsimp only
     simp (disch:=first|exact zb|fail) only [go_sem,seval,-List.reduceReplicate]
     refine .q ?_;refine .text ?_;simp (disch:=first|exact zb|fail) only [go_sem,seval,-List.reduceReplicate]
     refine .q ?_;refine .beginRound rfl hL (by simp (disch:=first|exact zb|fail) only [go_sem,seval,-List.reduceReplicate];rfl) ?_;simp (disch:=first|exact zb|fail) only [go_sem,seval,-List.reduceReplicate]
     refine .q ?_;refine .open [10,12] follows (by kernel_rfl) ?_;simp (disch:=first|exact zb|fail) only [go_sem,seval,-List.reduceReplicate,E,k2,hpl,hl]
     refine .q ?_;refine .roundEndK rfl hL (by simp (disch:=first|exact zb|fail) only [go_sem,seval,-List.reduceReplicate];rfl) ?_;simp (disch:=first|exact zb|fail) only [go_sem,seval,-List.reduceReplicate]
     exact hK
   · unfold zdI;refine⟨?_,.inl ⟨(by simp (disch:=first|exact zb|fail) only [go_sem,seval,-List.reduceReplicate]<;>rfl),?_⟩⟩;(try dsimp only);(repeat (first | with_reducible exact hbel | with_reducible exact yT hbel zb | with_reducible refine za5 ?_ | with_reducible refine za6 ?_ | with_reducible refine za7 ?_ | with_reducible refine za8 hvs ?_ zb | with_reducible refine zae ?_ | with_reducible refine za9 ?_ | with_reducible refine zba ?_ | with_reducible refine zbb ?_ | with_reducible refine zbc ?_));simp (disch:=first|exact zb|fail) only [go_sem,seval,-List.reduceReplicate]
     · exact zAC (by omega) hbel (zpl (.sl _ _ _ _ (by omega)) (.sl _ _ _ _ (by omega)))
     have ktx:tx.length=tl:=k6
     have kps:=zdS (w:=wv) (j:=c2)
     rw [zpm k2] at h
     generalize prs wv c2=ps at *
     simp (disch:=first|exact zb|fail) only [go_sem,seval,-List.reduceReplicate]
     refine .q ?_;refine .text ?_;simp (disch:=first|exact zb|fail) only [go_sem,seval,-List.reduceReplicate,E,hen]
     refine CallK.of (fun R h=>zAD [.cells [.p (.sl false 1 (pl zw wv))],.cells [.p (i64 2)]] s7 (by omega) 8 (by omega) H _ _ _ R h) ?_;simp (disch:=first|exact zb|fail) only [go_sem,seval,-List.reduceReplicate]
     generalize (tk s7 8).2=s8 at *
     generalize [AB.cells [AV.p (PV.sl false 1 (pl zw wv))],AB.cells [AV.p (i64 2)]]=T
     have hbel:Bel H.n (dK H (mG kd se sp tx dgs (.sl (H.n+5) c1 1 (pl i64 us)) (.sl (H.n+6) c2 2 (pl ext ps))) s8 c1 c2):=zIQ hbel
     have hf4:(dK H (mG kd se sp tx dgs (.sl (H.n+5) c1 1 (pl i64 us)) (.sl (H.n+6) c2 2 (pl ext ps))) s8 c1 c2).f (H.n+4)=some (.cells [.p (bo s8.2)]):=zqy
     cases hok:s8.2 with
     | false =>
      rw [hok] at h hf4
      simp only [zi7,if_true] at h
      refine .q ?_;refine .text ?_;simp (disch:=first|exact zb|fail) only [go_sem,seval,-List.reduceReplicate,E,hf4]
      refine .q ?_;refine .ifT (by simp (disch:=first|exact zb|fail) only [go_sem,seval,-List.reduceReplicate]) ?_
      refine .q ?_;refine .text ?_;simp (disch:=first|exact zb|fail) only [go_sem,seval,-List.reduceReplicate,E,hz]
      refine .q ?_;refine .rt Tryd.func9 (by rw [Tryd.results9]) (hx:=by simp (disch:=first|exact zb|fail) only [go_sem,seval,-List.reduceReplicate,E,hz];rfl) (hR := ?_);simp (disch:=first|exact zb|fail) only [go_sem,seval,-List.reduceReplicate,E,hz]
      exact h
     | true =>
      rw [hok] at h hf4
      simp only [zi7,Bool.true_eq_false,if_false] at h
      refine .q ?_;refine .text ?_;simp (disch:=first|exact zb|fail) only [go_sem,seval,-List.reduceReplicate,E,hf4]
      refine .q ?_;refine .ifF (by simp (disch:=first|exact zb|fail) only [go_sem,seval,-List.reduceReplicate]) ?_
      refine .q ?_;refine .text ?_;simp (disch:=first|exact zb|fail) only [go_sem,seval,-List.reduceReplicate,E,zpk k2]
      have hM:(⟨kd,se,sp,tx,⟨dgs,k2⟩,us,ps⟩:Msg).Ok:=⟨⟨by show (_:Int)≤(kd:Int);omega,by show (kd:Int)≤_;omega⟩,⟨by show (_:Int)≤(se:Int);omega,by show (se:Int)≤_;omega⟩,⟨by show (_:Int)≤(sp:Int);omega,by show (sp:Int)≤_;omega⟩,by show tx.length≤_;omega,by show us.length≤_;omega,by show ps.length≤_;omega⟩
      have hagg:=zpk (k:=kd) (s:=se) (t:=sp) (tx:=tx) (a:=H.n+5) (v:=c1) (a':=H.n+6) (v':=c2) (su:=us) (va:=ps) k2
      generalize (⟨kd,se,sp,tx,⟨dgs,k2⟩,us,ps⟩:Msg)=M at *
      refine CallK.of (fun R h=>zep g M hM _ R h) ?_;simp (disch:=first|exact zb|fail) only [go_sem,seval,-List.reduceReplicate,E]
      refine CallK.of (fun R h=>zpj _ _ _ R h) ?_;simp (disch:=first|exact zb|fail) only [go_sem,seval,-List.reduceReplicate]
      by_cases he:enc M=b
      · rw [if_pos he] at h
        have d:decide (enc M=b)=true:=decide_eq_true he
        simp (disch:=first|exact zb|fail) only [go_sem,seval,-List.reduceReplicate,d]
        refine .q ?_;refine .ifF (by simp (disch:=first|exact zb|fail) only [go_sem,seval,-List.reduceReplicate]) ?_
        refine .q ?_;refine .text ?_;simp (disch:=first|exact zb|fail) only [go_sem,seval,-List.reduceReplicate,E,hagg]
        refine .q ?_;refine .rt Tryd.func9 (by rw [Tryd.results9]) (hx:=by simp (disch:=first|exact zb|fail) only [go_sem,seval,-List.reduceReplicate,E,hz];rfl) (hR := ?_);simp (disch:=first|exact zb|fail) only [go_sem,seval,-List.reduceReplicate,E,hz]
        exact h
      · rw [if_neg he] at h
        have d:decide (enc M=b)=false:=decide_eq_false he
        simp (disch:=first|exact zb|fail) only [go_sem,seval,-List.reduceReplicate,d]
        refine .q ?_;refine .ifT (by simp (disch:=first|exact zb|fail) only [go_sem,seval,-List.reduceReplicate]) ?_
        refine .q ?_;refine .text ?_;simp (disch:=first|exact zb|fail) only [go_sem,seval,-List.reduceReplicate,E,hz]
        refine .q ?_;refine .rt Tryd.func9 (by rw [Tryd.results9]) (hx:=by simp (disch:=first|exact zb|fail) only [go_sem,seval,-List.reduceReplicate,E,hz];rfl) (hR := ?_);simp (disch:=first|exact zb|fail) only [go_sem,seval,-List.reduceReplicate,E,hz]
        exact h
 · have hst:(ws.take (i+1)).map toI=(ws.take i).map toI++[toI (nth ws i)]:=by rw [yA (by omega),List.map_append];rfl
   have hli:((ws.take i).map toI).length=i:=by rw [List.length_map,List.length_take];omega
   rw [hst] at ihE
   have htoI : ∀ x:U,IntKind.i64.wrap (x.toNat:Int)=toI x:=fun _=>rfl
   generalize (ws.take i).map toI=us at *
   refine .q ?_;refine .text ?_;simp (disch:=first|exact zb|fail) only [go_sem,seval,-List.reduceReplicate,E]
   refine .q ?_;refine .ifT (by simp (disch:=first|exact zb|fail) only [go_sem,seval,-List.reduceReplicate]) ?_
   refine .q ?_;refine .text ?_;simp (disch:=first|exact zb|fail) only [go_sem,seval,-List.reduceReplicate,E]
   refine .q ?_;refine .text ?_;simp (disch:=first|exact zb|fail) only [go_sem,seval,-List.reduceReplicate,E,k2,hli,htoI]
   refine .q ?_;refine .text ?_;simp (disch:=first|exact zb|fail) only [go_sem,seval,-List.reduceReplicate,E]
   first | (refine ihE _ _ ?_ trivial ?_) | (refine .z rfl ?_;refine ihE _ _ ?_ trivial ?_) | (refine .z rfl ?_;refine .z rfl ?_;refine ihE _ _ ?_ trivial ?_) | (refine .z rfl ?_;refine .z rfl ?_;refine .z rfl ?_;refine ihE _ _ ?_ trivial ?_)
   · simp (disch:=first|exact zb|fail) only [go_sem,seval,-List.reduceReplicate,E]<;>(repeat' (first | rfl | refine And.intro ?_ ?_))
   · first | rfl | (simp (disch:=first|exact zb|fail) only [go_sem,seval,-List.reduceReplicate,E]<;>(try rfl))
end walks
end Go.Proofs.YtmoecjgehdkhkaaDoor

/-
  Sessions: their states,sending and receiving.
-/
namespace Go.Proofs.YtmoecjgehdkhkaaDoor
open Go Go.AL

def zdc (id due:Int):Ses:=⟨id,0,0,[],zD,zM,due,0,0,0⟩
def nS (id due:Int):PV := .agg ([i64 id,i64 0,i64 0,str (bytesOf [])]++(pl b8 (List.replicate 32 0#8)++([i64 0,i64 0,i64 0,str (bytesOf [])]++(pl b8 (List.replicate 32 0#8)++[.sl true 1 [],.sl true 2 [],i64 due,i64 0,i64 0,i64 0]))))
def nC (id due:Int):List AV:=([i64 id,i64 0,i64 0,str (bytesOf [])]++(pl b8 (List.replicate 32 0#8)++([i64 0,i64 0,i64 0,str (bytesOf [])]++(pl b8 (List.replicate 32 0#8)++[.sl true 1 [],.sl true 2 [],i64 due,i64 0,i64 0,i64 0])))).map .p
theorem zQj {id due:Int}:zG (AV.p (i64 id) :: AV.p (i64 0) :: AV.p (i64 0) :: AV.p (str ByteArray.empty) :: (List.map AV.p (pl b8 (List.replicate 32 0#8)++[i64 0,i64 0,i64 0,str ByteArray.empty]++pl b8 (List.replicate 32 0#8)++[PV.sl true 1 [],PV.sl true 2 [],i64 0,i64 0,i64 0,i64 0])).set 70 (AV.p (i64 due))) = .p (nS id due):=rfl
theorem zAH {id due:Int}:zo (.p (nS id due))=some (nC id due):=rfl
theorem zOC {id due:Int}:(nC id due).length=78:=rfl
theorem zOD {id due:Int}:zG (nC id due) = .p (nS id due):=rfl
theorem zIS {id due:Int}:(nC id due).take 78=nC id due:=rfl
theorem zIT {id due:Int}:(nS id due).weak=yt (zdc id due):=rfl
theorem zl:AV.p (i64 0) :: AV.p (i64 0) :: AV.p (i64 0) :: AV.p (str ByteArray.empty) :: List.map AV.p (pl b8 (List.replicate 32 0#8)++[i64 0,i64 0,i64 0,str ByteArray.empty]++pl b8 (List.replicate 32 0#8)++[PV.sl true 1 [],PV.sl true 2 [],i64 0,i64 0,i64 0,i64 0])=nC 0 0:=rfl
theorem zIU {a b id:Int}:(nC a b).set 0 (.p (i64 id))=nC id b:=rfl
theorem zAI {a b due:Int}:(nC a b).set 74 (.p (i64 due))=nC a due:=rfl
theorem zbi {a b:By}:(pair a b).length=32:=zah _
theorem ssetR' {s:Ses} {x:By} (h:x.length=32):setAt (yy s) 4 (cl b8 x)=yy { s with seen:=⟨x,h⟩ }:=zJ5 (d:=⟨x,h⟩)
theorem zIV {a b c:PV}:zo (.p (.agg [a,b,c]))=some [.p a,.p b,.p c]:=rfl
theorem zOE {a b c:PV}:zG [.p a,.p b,.p c] = .p (.agg [a,b,c]):=rfl
attribute [go_sem] zIV zOE zIU zAI ssetR' zQj zAH zOC zOD zIS zIT
section walks
variable {G:Globs} {r1 r2:Nat} {m1:List (Int × Rule)} {m2:List (Int × Int)}
theorem zcf (id due:Int) (H:Hp) (R:AV → Hp → Prop) (h:R (.p (yt (zdc id due))) H):ACall Tryd.prog G 15 [.p (i64 id),.p (i64 due)] H R:=by
 refine ACall.of_run (raw:=[]) Tryd.func15 rfl Tryd.ntmps15 (by simp) fun hbel => ?_
 refine .q ?_;refine .text ?_;simp (disch:=first|exact zb|fail) only [go_sem,seval,-List.reduceReplicate]
 refine .q ?_;refine .text ?_;simp (disch:=first|exact zb|fail) only [go_sem,seval,-List.reduceReplicate,zl]
 refine .q ?_;refine .rt Tryd.func15 (by rw [Tryd.results15]) (hR := ?_);simp (disch:=first|exact zb|fail) only [go_sem,seval,-List.reduceReplicate]
 exact h
theorem zgD (s:Ses) (b:Nat) (H:Hp) (hb:H.f b=some (.cells (yy s))) (R:AV → Hp → Prop) (h:R (.p (bo (decide (3≤s.state)))) H):ACall Tryd.prog G 46 [.ptr b 0] H R:=by
 refine ACall.of_run (raw:=[]) Tryd.func46 rfl Tryd.ntmps46 (by simp) fun hbel => ?_
 refine .q ?_;refine .text ?_;simp (disch:=first|exact zb|fail) only [go_sem,seval]
 refine .q ?_;refine .text ?_;simp (disch:=first|exact zb|fail) only [go_sem,seval,hb]
 refine .q ?_;refine .rt Tryd.func46 (by rw [Tryd.results46]) (hR := ?_);simp (disch:=first|exact zb|fail) only [go_sem,seval]
 exact h
def zcZ (s:Ses):Bool:=(((s.last.kind != 0) && (s.last.step % 2 == 0)) == (s.step % 2 == 0))
theorem zgE (s:Ses) (h1:0≤s.step) (h2:0≤s.last.step) (b:Nat) (H:Hp) (hb:H.f b=some (.cells (yy s))) (R:AV → Hp → Prop) (h:R (.p (bo (zcZ s))) H):ACall Tryd.prog G 47 [.ptr b 0] H R:=by
 unfold zcZ at h
 refine ACall.of_run (raw:=[]) Tryd.func47 rfl Tryd.ntmps47 (by simp) fun hbel => ?_
 refine .q ?_;refine .text ?_;simp (disch:=first|exact zb|fail) only [go_sem,seval]
 refine .q ?_;refine .text ?_;simp (disch:=first|exact zb|fail) only [go_sem,seval,hb]
 (first | refine yN (fun c1 => ?_) (fun c1 => ?_) | refine yG (fun c1 => ?_) (fun c1 => ?_))<;>(try simp only [Bool.not_eq_true',Bool.not_eq_false'] at c1)<;>simp (disch:=first|exact zb|fail) only [go_sem,seval,c1,hb]
 · rw [c1] at h
   refine .q ?_;refine .text ?_;simp (disch:=first|exact zb|fail) only [go_sem,seval,hb]
   refine .q ?_;refine .rt Tryd.func47 (by rw [Tryd.results47]) (hR := ?_);simp (disch:=first|exact zb|fail) only [go_sem,seval]
   exact h
 · rw [c1] at h
   refine .q ?_;refine .text ?_;simp (disch:=first|exact zb|fail) only [go_sem,seval,hb]
   refine .q ?_;refine .rt Tryd.func47 (by rw [Tryd.results47]) (hR := ?_);simp (disch:=first|exact zb|fail) only [go_sem,seval]
   exact h
def zcD (s:Ses) (m:Msg) (b:By):Ses :=
 { s with step:=s.step+1,seen:=⟨pair s.seen.val (sha b),zbi⟩,bytes:=s.bytes+b.length,rounds:=s.rounds+1,words:=s.words+m.sums.length+2*m.values.length,state:=(zb2 m.kind).getD 0,text:=if m.kind=1 then m.text else s.text }
theorem zIW {n b:Nat} {H:Hp} {s:Ses} (h:Bel n H):Bel n (H.set b (.cells (yy s))):=zca h fun y hy=>by
 simp only [AB.vals,yy,List.mem_map] at hy
 obtain⟨x,_,rfl⟩:=hy
 exact .p _
set_option maxHeartbeats 4000000 in
set_option maxRecDepth 20000 in
theorem zlZ (g:GR G r1 r2 m1 m2) (s:Ses) (m:Msg) (hm:m.Ok) (b:By) (hb:b.length≤140737488353000) (h1:0≤s.step∧s.step≤1000000000000) (h2:0≤s.bytes∧s.bytes≤1000000000000000000) (h3:0≤s.rounds∧s.rounds≤1000000000000) (h4:0≤s.words∧s.words≤1000000000000000000)
 (c:Nat) (H:Hp) (hc:H.f c=some (.cells (yy s))) (R:AV → Hp → Prop) (h:R (.tup []) (H.set c (.cells (yy (zcD s m b))))):ACall Tryd.prog G 49 [.ptr c 0,.p (yK m),.p (.sl false 1 (pl b8 b))] H R:=by
 have hcn:=Hp.lt hc
 have e1:=g.g2
 have e2:=g.h2
 have e3:=g.state hm.kind
 have hsu:=hm.sums
 have hva:=hm.values
 have hsl:=s.seen.len
 have hsh:=zah b
 have hp:(pair s.seen.val (sha b)).length=32:=zbi
 refine ACall.of_run (raw:=[]) Tryd.func49 rfl Tryd.ntmps49 (by simp) fun hbel => ?_
 refine .q ?_;refine .text ?_;simp (disch:=first|exact zb|fail) only [go_sem,seval]
 refine .q ?_;refine .text ?_;simp (disch:=first|exact zb|fail) only [go_sem,seval,hc]
 refine .q ?_;refine .open [10] follows (by kernel_rfl) ?_;simp (disch:=first|exact zb|fail) only [go_sem,seval]
 refine CallD.still (fun R h=>zgp g.s0 g.s1 b hb _ R h) ?_;simp (disch:=first|exact zb|fail) only [go_sem,seval,hsh]
 refine CallD.still (fun R h=>ztV g.s0 g.s1 _ _ hsl hsh _ R h) ?_;simp (disch:=first|exact zb|fail) only [go_sem,seval,hp]
 refine .q ?_;refine .open [32] follows (by kernel_rfl) ?_;simp (disch:=first|exact zb|fail) only [go_sem,seval]
 refine .q ?_;refine .text ?_;simp (disch:=first|exact zb|fail) only [go_sem,seval,e1,e2,e3]
 refine .q ?_;refine .text ?_;simp (disch:=first|exact zb|fail) only [go_sem,seval]
 have hbel:=fun x=>zIW (b:=c) (s:=x) hbel
 refine .q ?_;refine .ifB (by simp (disch:=first|exact zb|fail) only [go_sem,seval];rfl) (fun hk => ?_) (fun hk => ?_)
 · have hk1:m.kind=1:=by simpa using hk
   unfold zcD at h
   rw [if_pos hk1] at h
   refine .q ?_;refine .text ?_;simp (disch:=first|exact zb|fail) only [go_sem,seval]
   refine .q ?_;refine .fin Tryd.func49 (by rw [Tryd.results49]) (by simp (disch:=first|exact zb|fail) only [go_sem,seval];rfl) (by simp (disch:=first|exact zb|fail) only [go_sem,seval];rfl) (by (try dsimp only);repeat (first | with_reducible refine zK ?_ zb | with_reducible refine zam ?_ zb | with_reducible refine za0 ?_ zb | with_reducible refine zae ?_ | with_reducible exact hbel | with_reducible exact hbel _)) ?_;simp (disch:=first|exact zb|fail) only [go_sem,seval]
   exact h
 · have hk1:m.kind≠1:=by simpa using hk
   unfold zcD at h
   rw [if_neg hk1] at h
   refine .skip ?_
   refine .q ?_;refine .fin Tryd.func49 (by rw [Tryd.results49]) (by simp (disch:=first|exact zb|fail) only [go_sem,seval];rfl) (by simp (disch:=first|exact zb|fail) only [go_sem,seval];rfl) (by (try dsimp only);repeat (first | with_reducible refine zK ?_ zb | with_reducible refine zam ?_ zb | with_reducible refine za0 ?_ zb | with_reducible refine zae ?_ | with_reducible exact hbel | with_reducible exact hbel _)) ?_;simp (disch:=first|exact zb|fail) only [go_sem,seval]
   exact h
end walks
theorem zfd {m:Msg} (h:valid m=true):50≤(enc m).length∧(enc m).length≤3000:=by
 obtain⟨b1,b2,b3⟩:=zc9 h
 have:=m.root.len
 rw [enc,h,if_pos rfl]
 simp only [zaX,List.length_append,yv,zcd,zce,List.length_take,zah,List.length_cons,List.length_nil]
 omega
def sH (H:Hp) (s:Ses) (m:Msg) (o:List AV) (x:Ses):Hp:=(((H.new (.cells (yy s))).new (.cells (mcl m))).new (.cells o)).new (.cells (yy x))
section sh
variable {H:Hp} {s s' x x':Ses} {m m':Msg} {o o':List AV}
theorem zRA:(sH H s m o x).n=H.n+4:=by simp [sH,Hp.n_new]
theorem zQk:(sH H s m o x).f H.n=some (.cells (yy s)):=by simp (disch:=first|exact zb|fail) only [sH,go_sem,seval]
theorem zQl:(sH H s m o x).f (H.n+1)=some (.cells (mcl m)):=by simp (disch:=first|exact zb|fail) only [sH,go_sem,seval]
theorem zQm:(sH H s m o x).f (H.n+2)=some (.cells o):=by simp (disch:=first|exact zb|fail) only [sH,go_sem,seval]
theorem zqA:(sH H s m o x).f (H.n+3)=some (.cells (yy x)):=by simp (disch:=first|exact zb|fail) only [sH,go_sem,seval]
theorem zIX:(sH H s m o x).set H.n (.cells (yy s'))=sH H s' m o x:=by simp (disch:=first|exact zb|fail) only [sH,go_sem,seval]
theorem zIY:(sH H s m o x).set (H.n+1) (.cells (mcl m'))=sH H s m' o x:=by simp (disch:=first|exact zb|fail) only [sH,go_sem,seval]
theorem zIZ:(sH H s m o x).set (H.n+2) (.cells o')=sH H s m o' x:=by simp (disch:=first|exact zb|fail) only [sH,go_sem,seval]
theorem zI0:(sH H s m o x).set (H.n+3) (.cells (yy x'))=sH H s m o x':=by simp (disch:=first|exact zb|fail) only [sH,go_sem,seval]
theorem zAJ:(sH H s m o x).trunc H.n=H:=by simp (disch:=first|exact zb|fail) only [sH,go_sem,seval]
theorem zOF:(((H.new (.cells (yy s))).new (.cells (mcl m))).new (.cells o)).new (.cells (yy x))=sH H s m o x:=rfl
theorem zOG (h:Bel H.n H):Bel H.n (sH H s m o x):=by
 unfold sH
 exact zK (zK (zK (zK h (Nat.le_refl _)) (by simp only [n_new'];omega)) (by simp only [n_new'];omega)) (by simp only [n_new'];omega)
end sh
attribute [go_sem] zRA zQk zQl zQm zqA zIX zIY zIZ zI0 zAJ
section walks
variable {G:Globs} {r1 r2:Nat} {m1:List (Int × Rule)} {m2:List (Int × Int)}
def zdT (s:Ses) (m:Msg):Bool:=decide (3≤s.state) || (s.state != 0 && !zcZ s) || !fits m.kind s.step
def zct (s:Ses) (m:Msg):Msg := { m with session:=s.id,step:=s.step,root:=if m.kind != 2 then s.seen else m.root }
def send (s:Ses) (m:Msg):Ses × By × Int :=
 if zdT s m then (s,[],290) else if valid (zct s m) then ({ zcD s (zct s m) (enc (zct s m)) with last:=zct s m },enc (zct s m),0) else (s,[],1)
structure Ses.Ok (s:Ses):Prop where
 id:okI s.id
 step:0≤s.step∧s.step≤1000000000000
 last:0≤s.last.step
 bytes:0≤s.bytes∧s.bytes≤1000000000000000000
 rounds:0≤s.rounds∧s.rounds≤1000000000000
 words:0≤s.words∧s.words≤1000000000000000000
set_option maxHeartbeats 4000000 in
set_option maxRecDepth 20000 in
theorem zaF (g:GR G r1 r2 m1 m2) (s:Ses) (hs:s.Ok) (m:Msg) (hm:m.Ok) (H:Hp) (R:AV → Hp → Prop) (h:R (.tup [.p (yt (send s m).1),.p (.sl false 1 (pl b8 (send s m).2.1)),.p (i64 (send s m).2.2)]) H):ACall Tryd.prog G 19 [.p (yt s),.p (yK m)] H R:=by
 have hstep:=hs.step
 have hko:okI s.step:=⟨by omega,by omega⟩
 refine ACall.of_run (raw:=[]) Tryd.func19 rfl Tryd.ntmps19 (by simp) fun hbel => ?_
 refine .q ?_;refine .text ?_;simp (disch:=first|exact zb|fail) only [go_sem,seval,zl]
 refine .q ?_;refine .text ?_;simp (disch:=first|exact zb|fail) only [go_sem,seval,zl]
 rw [zOF]
 have hbel:=fun s m o x=>zOG (s:=s) (m:=m) (o:=o) (x:=x) hbel
 have hin : ∀ R,R (.p (bo (decide (3≤s.state)))) (sH H s m (nC 0 0) s) → ACall Tryd.prog G 46 [.ptr (H.n+3) 0] (sH H s m (nC 0 0) s) R:=fun R h=>zgD s (H.n+3) _ zqA R h
 have hsn : ∀ R,R (.p (bo (zcZ s))) (sH H s m (nC 0 0) s) → ACall Tryd.prog G 47 [.ptr (H.n+3) 0] (sH H s m (nC 0 0) s) R:=fun R h=>zgE s hstep.1 hs.last (H.n+3) _ zqA R h
 refine .q ?_;refine .cutE [2,3,4,7] [(28,.p (bo (zdT s m)))] [] (fun ihE => ?_) (fun env E => ?_)
 rotate_left 1
 simp (disch:=first|exact zb|fail) only [go_sem,seval] at E
 rotate_left 1
 · unfold zdT at ihE
   refine .q ?_;refine .text ?_;simp (disch:=first|exact zb|fail) only [go_sem,seval]
   refine CallK.of (fun R h=>hin R h) ?_;simp (disch:=first|exact zb|fail) only [go_sem,seval]
   cases f1:decide (3≤s.state) with
   | true =>
    rw [f1] at ihE
    simp (disch:=first|exact zb|fail) only [go_sem,seval]
    first | (refine ihE _ _ ?_ ?_) | (refine .z rfl ?_;refine ihE _ _ ?_ ?_) | (refine .z rfl ?_;refine .z rfl ?_;refine ihE _ _ ?_ ?_) | (refine .z rfl ?_;refine .z rfl ?_;refine .z rfl ?_;refine ihE _ _ ?_ ?_)
    · simp (disch:=first|exact zb|fail) only [go_sem,seval]<;>(repeat' (first | rfl | refine And.intro ?_ ?_))
    · first | rfl | (simp (disch:=first|exact zb|fail) only [go_sem,seval]<;>(try rfl))
   | false =>
    rw [f1] at ihE
    simp (disch:=first|exact zb|fail) only [go_sem,seval]
    cases f2:s.state != 0 with
    | false =>
     rw [f2] at ihE
     simp (disch:=first|exact zb|fail) only [go_sem,seval,f2]
     refine CallK.of (fun R h=>zeb g _ _ hm.kind hko _ R h) ?_;simp (disch:=first|exact zb|fail) only [go_sem,seval]
     first | (refine ihE _ _ ?_ ?_) | (refine .z rfl ?_;refine ihE _ _ ?_ ?_) | (refine .z rfl ?_;refine .z rfl ?_;refine ihE _ _ ?_ ?_) | (refine .z rfl ?_;refine .z rfl ?_;refine .z rfl ?_;refine ihE _ _ ?_ ?_)
     · simp (disch:=first|exact zb|fail) only [go_sem,seval]<;>(repeat' (first | rfl | refine And.intro ?_ ?_))
     · first | rfl | (simp (disch:=first|exact zb|fail) only [go_sem,seval]<;>(try rfl))
    | true =>
     rw [f2] at ihE
     simp (disch:=first|exact zb|fail) only [go_sem,seval,f2]
     refine CallK.of (fun R h=>hsn R h) ?_;simp (disch:=first|exact zb|fail) only [go_sem,seval]
     cases f3:zcZ s with
     | false =>
      rw [f3] at ihE
      simp (disch:=first|exact zb|fail) only [go_sem,seval]
      first | (refine ihE _ _ ?_ ?_) | (refine .z rfl ?_;refine ihE _ _ ?_ ?_) | (refine .z rfl ?_;refine .z rfl ?_;refine ihE _ _ ?_ ?_) | (refine .z rfl ?_;refine .z rfl ?_;refine .z rfl ?_;refine ihE _ _ ?_ ?_)
      · simp (disch:=first|exact zb|fail) only [go_sem,seval]<;>(repeat' (first | rfl | refine And.intro ?_ ?_))
      · first | rfl | (simp (disch:=first|exact zb|fail) only [go_sem,seval]<;>(try rfl))
     | true =>
      rw [f3] at ihE
      simp (disch:=first|exact zb|fail) only [go_sem,seval]
      refine CallK.of (fun R h=>zeb g _ _ hm.kind hko _ R h) ?_;simp (disch:=first|exact zb|fail) only [go_sem,seval]
      first | (refine ihE _ _ ?_ ?_) | (refine .z rfl ?_;refine ihE _ _ ?_ ?_) | (refine .z rfl ?_;refine .z rfl ?_;refine ihE _ _ ?_ ?_) | (refine .z rfl ?_;refine .z rfl ?_;refine .z rfl ?_;refine ihE _ _ ?_ ?_)
      · simp (disch:=first|exact zb|fail) only [go_sem,seval]<;>(repeat' (first | rfl | refine And.intro ?_ ?_))
      · first | rfl | (simp (disch:=first|exact zb|fail) only [go_sem,seval]<;>(try rfl))
 · unfold send at h
   cases hbad:zdT s m with
   | true =>
    rw [hbad,if_pos rfl] at h
    refine .q ?_;refine .ifT (by simp (disch:=first|exact zb|fail) only [go_sem,seval,E,hbad]) ?_
    refine .q ?_;refine .text ?_;simp (disch:=first|exact zb|fail) only [go_sem,seval,E,yh]
    refine .q ?_;refine .rt Tryd.func19 (by rw [Tryd.results19]) (hx:=by simp (disch:=first|exact zb|fail) only [go_sem,seval,E];rfl) (hR := ?_);simp (disch:=first|exact zb|fail) only [go_sem,seval,E]
    exact h
   | false =>
    rw [hbad] at h
    simp only [Bool.false_eq_true,if_false] at h
    refine .q ?_;refine .ifF (by simp (disch:=first|exact zb|fail) only [go_sem,seval,E,hbad]) ?_
    rw [yh]
    (refine .q ?_)
    refine .openInv (fun L env' H'=>kF env' [(2,.ptr H.n 0),(3,.ptr (H.n+1) 0),(4,.ptr (H.n+2) 0),(7,.ptr (H.n+3) 0)]∧kI L env' [(0,30,.ptr H.n 0),(1,31,.p (i64 s.id)),(2,32,.ptr H.n 1),(3,33,.p (i64 s.step)),(4,34,.ptr (H.n+1) 1),(6,35,.ptr (H.n+1) 2)]∧(L 5=true → allT L [0,1,4])∧(L 7=true → allT L [0,1,2,3,4,5,6])∧H'=(sH H s (if L 7 then { m with session:=s.id,step:=s.step } else if L 5 then { m with session:=s.id } else m) (nC 0 0) s)) follows (by kernel_rfl) ?_ ?_ ?_
    · exact⟨(by simp (disch:=first|exact zb|fail) only [go_sem,seval,kFi,kFn,and_self,E]),(fun _ _ h=>by cases h),(fun h=>by cases h),(fun h=>by cases h),(by first | rfl | (simp only [Bool.false_eq_true,if_false];first | rfl | (simp (disch:=first|exact zb|fail) only [go_sem,seval,E]<;>rfl)))⟩
    · intro i o L env' H' ho hL hall hI
      obtain⟨KF,KG,m5,m7,rfl⟩:=hI
      rcases i with _ | _ | _ | _ | _ | _ | _ | _ | i
      · cases ho;have f0:=zJ KF 0 rfl;refine zf (.ptr H.n 0) rfl rfl (by simp (disch:=first|exact zb|fail) only [go_sem,seval,f0]<;>rfl) rfl ?_;exact⟨zx KF,zA KG,ka m5,ka m7,(by rw [za (by decide),za (by decide)])⟩
      · cases ho;have d0:=zn KG 0 rfl (kL hall 0 rfl rfl);have n5:=ya m5 hL;have n7:=ya m7 hL;refine zf (.p (i64 s.id)) rfl rfl (by simp (disch:=first|exact zb|fail) only [go_sem,seval,reduceIte,Bool.false_eq_true,if_false,if_true,d0,n5,n7,hL]<;>rfl) rfl ?_;exact⟨zx KF,zA KG,ka m5,ka m7,(by rw [za (by decide),za (by decide)])⟩
      · cases ho;have f0:=zJ KF 0 rfl;refine zf (.ptr H.n 1) rfl rfl (by simp (disch:=first|exact zb|fail) only [go_sem,seval,f0]<;>rfl) rfl ?_;exact⟨zx KF,zA KG,ka m5,ka m7,(by rw [za (by decide),za (by decide)])⟩
      · cases ho;have d2:=zn KG 2 rfl (kL hall 0 rfl rfl);have n7:=ya m7 hL;refine zf (.p (i64 s.step)) rfl rfl (by simp (disch:=first|exact zb|fail) only [go_sem,seval,reduceIte,Bool.false_eq_true,if_false,if_true,d2,n7,hL]<;>rfl) rfl ?_;exact⟨zx KF,zA KG,ka m5,ka m7,(by rw [za (by decide),za (by decide)])⟩
      · cases ho;have f1:=zJ KF 1 rfl;refine zf (.ptr (H.n+1) 1) rfl rfl (by simp (disch:=first|exact zb|fail) only [go_sem,seval,f1]<;>rfl) rfl ?_;exact⟨zx KF,zA KG,ka m5,ka m7,(by rw [za (by decide),za (by decide)])⟩
      · cases ho;have h4:=kL hall 0 rfl rfl;have d4:=zn KG 4 rfl h4;have h1:=kL hall 1 rfl rfl;have d1:=zn KG 1 rfl h1;have h0:=kL hall 2 rfl rfl;have n7:=ya m7 hL;refine yb rfl rfl (by simp (disch:=first|exact zb|fail) only [go_sem,seval,reduceIte,Bool.false_eq_true,if_false,if_true,d1,d4,n7,hL]<;>rfl) rfl ?_;exact⟨KF,kIs KG,(fun _=>kt (zc h0 (zc h1 (zc h4 zv)))),ka m7,(by (have e5:more L 5 5=true:=zr);(have e7:more L 5 7=L 7:=za (by decide));(try simp only [e5,e7,n7,hL]);first | done | rfl | (simp only [e5,e7,n7,hL,if_true,if_false,Bool.false_eq_true];first | done | rfl | (simp (disch:=first|exact zb|fail) only [go_sem,seval,e5,e7,n7,hL]<;>rfl)))⟩
      · cases ho;have f1:=zJ KF 1 rfl;refine zf (.ptr (H.n+1) 2) rfl rfl (by simp (disch:=first|exact zb|fail) only [go_sem,seval,f1]<;>rfl) rfl ?_;exact⟨zx KF,zA KG,ka m5,ka m7,(by rw [za (by decide),za (by decide)])⟩
      · cases ho;have h6:=kL hall 0 rfl rfl;have d6:=zn KG 5 rfl h6;have h3:=kL hall 1 rfl rfl;have d3:=zn KG 3 rfl h3;have h5:=kL hall 2 rfl rfl;have h0:=kL hall 3 rfl rfl;have h1:=kL hall 4 rfl rfl;have h2:=kL hall 5 rfl rfl;have h4:=kL hall 7 rfl rfl;refine yb rfl rfl (by simp (disch:=first|exact zb|fail) only [go_sem,seval,reduceIte,Bool.false_eq_true,if_false,if_true,d3,d6,h5,hL]<;>rfl) rfl ?_;exact⟨KF,kIs KG,ka m5,(fun _=>kt (zc h0 (zc h1 (zc h2 (zc h3 (zc h4 (zc h5 (zc h6 zv)))))))),(by (have e5:more L 7 5=L 5:=za (by decide));(have e7:more L 7 7=true:=zr);(try simp only [e5,e7,h5,hL]);first | done | rfl | (simp only [e5,e7,h5,hL,if_true,if_false,Bool.false_eq_true];first | done | rfl | (simp (disch:=first|exact zb|fail) only [go_sem,seval,e5,e7,h5,hL]<;>rfl)))⟩
      · simp at ho
    · intro L env' H' hall hI
      obtain⟨KF,KG,_,_,rfl⟩:=hI
      have l5:=hall 5 (by decide)
      have l7:=hall 7 (by decide)
      have f0:=zJ KF 0 rfl
      have f1:=zJ KF 1 rfl
      have f2:=zJ KF 2 rfl
      have f3:=zJ KF 3 rfl
      simp only [l5,l7,if_true]
      clear hall
      refine .q ?_;refine .text ?_;simp (disch:=first|exact zb|fail) only [go_sem,seval,f0,f1,f2,f3]
      have hm2:(zct s m).Ok:=⟨hm.kind,hs.id,hko,hm.text,hm.sums,hm.values⟩
      refine .q ?_;refine .cutE [2,3,4,7] [] [(H.n+1,.cells (mcl (zct s m)))] (fun ihF => ?_) (fun env F => ?_)
      rotate_left 1
      simp (disch:=first|exact zb|fail) only [go_sem,seval,f0,f1,f2,f3] at F
      rotate_left 1
      · unfold zct at ihF
        refine .q ?_;refine .ifB (by simp (disch:=first|exact zb|fail) only [go_sem,seval];rfl) (fun hk => ?_) (fun hk => ?_)
        · rw [hk] at ihF
          simp only [if_true] at ihF
          refine .q ?_;refine .text ?_;simp (disch:=first|exact zb|fail) only [go_sem,seval,f0,f1,f2,f3]
          first | (refine ihF _ _ ?_ ?_) | (refine .z rfl ?_;refine ihF _ _ ?_ ?_) | (refine .z rfl ?_;refine .z rfl ?_;refine ihF _ _ ?_ ?_) | (refine .z rfl ?_;refine .z rfl ?_;refine .z rfl ?_;refine ihF _ _ ?_ ?_)
          · simp (disch:=first|exact zb|fail) only [go_sem,seval,f0,f1,f2,f3]<;>(repeat' (first | rfl | refine And.intro ?_ ?_))
          · first | rfl | (simp (disch:=first|exact zb|fail) only [go_sem,seval,f0,f1,f2,f3]<;>(try rfl))
        · rw [hk] at ihF
          simp only [Bool.false_eq_true,if_false] at ihF
          refine .skip ?_
          first | (refine ihF _ _ ?_ ?_) | (refine .z rfl ?_;refine ihF _ _ ?_ ?_) | (refine .z rfl ?_;refine .z rfl ?_;refine ihF _ _ ?_ ?_) | (refine .z rfl ?_;refine .z rfl ?_;refine .z rfl ?_;refine ihF _ _ ?_ ?_)
          · simp (disch:=first|exact zb|fail) only [go_sem,seval,f0,f1,f2,f3]<;>(repeat' (first | rfl | refine And.intro ?_ ?_))
          · first | rfl | (simp (disch:=first|exact zb|fail) only [go_sem,seval,f0,f1,f2,f3]<;>(try rfl))
      · generalize zct s m=M at *
        clear f0 f1 f2 f3
        refine .q ?_;refine .text ?_;simp (disch:=first|exact zb|fail) only [go_sem,seval,F,zaE,yh]
        cases hv:valid M with
        | false =>
         rw [hv] at h
         simp only [Bool.false_eq_true,if_false] at h
         refine CallK.of (fun R h=>zgv g M hm2 hv _ R h) ?_;simp (disch:=first|exact zb|fail) only [go_sem,seval]
         refine .q ?_;refine .text ?_;simp (disch:=first|exact zb|fail) only [go_sem,seval]
         refine .q ?_;refine .ifT (by simp (disch:=first|exact zb|fail) only [go_sem,seval]) ?_
         refine .q ?_;refine .text ?_;simp (disch:=first|exact zb|fail) only [go_sem,seval,F]
         refine .q ?_;refine .rt Tryd.func19 (by rw [Tryd.results19]) (hx:=by simp (disch:=first|exact zb|fail) only [go_sem,seval,F];rfl) (hR := ?_);simp (disch:=first|exact zb|fail) only [go_sem,seval,F]
         exact h
        | true =>
         rw [hv] at h
         simp only [if_true] at h
         have hev:zaX M++(sha (zaX M)).take 8=enc M:=by rw [enc,hv];rfl
         have hlen:=zfd hv
         have hne:(enc M).length≠0:=by omega
         have hen:enters Tryd.prog 49=true:=zgl
         refine CallK.of (fun R h=>zdR g M hm2 hv _ R h) ?_;simp (disch:=first|exact zb|fail) only [go_sem,seval,hev]
         generalize enc M=e at *
         refine .q ?_;refine .text ?_;simp (disch:=first|exact zb|fail) only [go_sem,seval]
         refine .q ?_;refine .ifF (by simp (disch:=first|exact zb|fail) only [go_sem,seval]) ?_
         refine .q ?_;refine .text ?_;simp (disch:=first|exact zb|fail) only [go_sem,seval,F]
         refine .q ?_;refine .text ?_;simp (disch:=first|exact zb|fail) only [go_sem,seval,F,hen]
         refine CallK.of (fun R h=>zlZ g s M hm2 e (by omega) hs.step hs.bytes hs.rounds hs.words (H.n+3) (sH H s M (nC 0 0) s) zqA R h) ?_;simp (disch:=first|exact zb|fail) only [go_sem,seval]
         refine .q ?_;refine .text ?_;simp (disch:=first|exact zb|fail) only [go_sem,seval,F]
         refine .q ?_;refine .text ?_;simp (disch:=first|exact zb|fail) only [go_sem,seval,F]
         refine .q ?_;refine .rt Tryd.func19 (by rw [Tryd.results19]) (hx:=by simp (disch:=first|exact zb|fail) only [go_sem,seval,F];rfl) (hR := ?_);simp (disch:=first|exact zb|fail) only [go_sem,seval,F]
         exact h
end walks
end Go.Proofs.YtmoecjgehdkhkaaDoor

/-
  Sessions: receiving;the last message again;what has been used.
-/
namespace Go.Proofs.YtmoecjgehdkhkaaDoor
open Go Go.AL

theorem zOH:zcz Tryd.prog 23 .u8 32=true:=by kernel_rfl
theorem eqD {a b:By} (ha:a.length=32) (hb:b.length=32):zi Tryd.prog .eql 23 (.p (.agg (pl b8 a))) (.p (.agg (pl b8 b)))=some (.p (bo (decide (a=b)))) :=
 zJW (by rw [ha];exact zOH) (by omega)
theorem neD {a b:By} (ha:a.length=32) (hb:b.length=32):zi Tryd.prog .neq 23 (.p (.agg (pl b8 a))) (.p (.agg (pl b8 b)))=some (.p (bo (!decide (a=b)))):=by
 have h:=eqD ha hb
 have f1 : ∀ P t xs ys,zi P .eql t (.p (.agg xs)) (.p (.agg ys))=(zcy P t xs ys).map fun r => .p (.s (.bool r)):=fun _ _ _ _=>rfl
 have f2 : ∀ P t xs ys,zi P .neq t (.p (.agg xs)) (.p (.agg ys))=(zcy P t xs ys).map fun r => .p (.s (.bool !r)):=fun _ _ _ _=>rfl
 rw [f1] at h
 rw [f2]
 cases e:zcy Tryd.prog 23 (pl b8 a) (pl b8 b) with
 | none=>rw [e] at h;cases h
 | some r =>
  rw [e] at h
  simp only [Option.map_some,bo,Option.some.injEq,AV.p.injEq,PV.s.injEq,Value.bool.injEq] at h
  rw [←h];rfl
attribute [go_sem] eqD neD
def rH (H:Hp) (s:Ses) (o z:List AV) (x:Ses):Hp:=(((H.new (.cells (yy s))).new (.cells o)).new (.cells z)).new (.cells (yy x))
section rh
variable {H:Hp} {s s' x x':Ses} {o o' z z':List AV}
theorem zQn:(rH H s o z x).n=H.n+4:=by simp [rH,Hp.n_new]
theorem zQo:(rH H s o z x).f H.n=some (.cells (yy s)):=by simp (disch:=first|exact zb|fail) only [rH,go_sem,seval]
theorem zQp:(rH H s o z x).f (H.n+1)=some (.cells o):=by simp (disch:=first|exact zb|fail) only [rH,go_sem,seval]
theorem zQq:(rH H s o z x).f (H.n+2)=some (.cells z):=by simp (disch:=first|exact zb|fail) only [rH,go_sem,seval]
theorem zqB:(rH H s o z x).f (H.n+3)=some (.cells (yy x)):=by simp (disch:=first|exact zb|fail) only [rH,go_sem,seval]
theorem zI1:(rH H s o z x).set H.n (.cells (yy s'))=rH H s' o z x:=by simp (disch:=first|exact zb|fail) only [rH,go_sem,seval]
theorem zI2:(rH H s o z x).set (H.n+1) (.cells o')=rH H s o' z x:=by simp (disch:=first|exact zb|fail) only [rH,go_sem,seval]
theorem zI3:(rH H s o z x).set (H.n+2) (.cells z')=rH H s o z' x:=by simp (disch:=first|exact zb|fail) only [rH,go_sem,seval]
theorem zI4:(rH H s o z x).set (H.n+3) (.cells (yy x'))=rH H s o z x':=by simp (disch:=first|exact zb|fail) only [rH,go_sem,seval]
theorem zAK:(rH H s o z x).trunc H.n=H:=by simp (disch:=first|exact zb|fail) only [rH,go_sem,seval]
theorem zOI:(((H.new (.cells (yy s))).new (.cells o)).new (.cells z)).new (.cells (yy x))=rH H s o z x:=rfl
theorem zOJ (h:Bel H.n H):Bel H.n (rH H s o z x):=by
 unfold rH
 exact zK (zK (zK (zK h (Nat.le_refl _)) (by simp only [n_new'];omega)) (by simp only [n_new'];omega)) (by simp only [n_new'];omega)
end rh
attribute [go_sem] zQn zQo zQp zQq zqB zI1 zI2 zI3 zI4 zAK
theorem zm:AV.p (i64 0) :: AV.p (i64 0) :: AV.p (i64 0) :: AV.p (str ByteArray.empty) :: List.map AV.p (pl b8 (List.replicate 32 0#8)++[PV.sl true 1 [],PV.sl true 2 []])=mG 0 0 0 [] (List.replicate 32 0#8) (.p (.sl true 1 [])) (.p (.sl true 2 [])):=by simp [mG,cl,pl,zao]
theorem zOK {s:Ses}:(yy s).drop 75=[.p (i64 s.bytes),.p (i64 s.rounds),.p (i64 s.words)]:=by
 rw [←zP1,List.take_of_length_le (by rw [List.length_drop,yP];omega)]
attribute [go_sem] zOK
theorem zqC:zM.Ok:=⟨by constructor<;>decide,by constructor<;>decide,by constructor<;>decide,by decide,by decide,by decide⟩
theorem zQr {kd se sp:Nat} {tx dgs:By} {us:List Int} {c:Nat} {vl:By} {s:By × Bool} (h1:kd < 4294967296) (h2:se < 4294967296) (h3:sp < 4294967296) (h4:tx.length≤100000) (h5:us.length≤100000) (h6:c≤100000):(d7 kd se sp tx dgs us c vl s).1.Ok∧0≤(d7 kd se sp tx dgs us c vl s).1.step:=by
 refine⟨⟨⟨?_,?_⟩,⟨?_,?_⟩,⟨?_,?_⟩,?_,?_,?_⟩,?_⟩
 · show (-9223372036854775808:Int)≤(kd:Int);omega
 · show (kd:Int)≤9223372036854775807;omega
 · show (-9223372036854775808:Int)≤(se:Int);omega
 · show (se:Int)≤9223372036854775807;omega
 · show (-9223372036854775808:Int)≤(sp:Int);omega
 · show (sp:Int)≤9223372036854775807;omega
 · show tx.length≤_;omega
 · show us.length≤_;omega
 · show (prs _ _).length≤_;rw [zdS];omega
 · show (0:Int)≤(sp:Int);omega
theorem zI5 (b:By):(decM b).1.Ok∧0≤(decM b).1.step:=by
 have hn : ∀ (l:By) i,(nth l i).toNat < 256:=fun l i=>(nth l i).isLt
 have k1:(tk (b,true) 41).1.length=41:=zbP
 unfold decM d1 d2 d3 d4 d5 d6
 refine zQr ?_ ?_ ?_ ?_ ?_ ?_
 · have:=hn (tk (b,true) 41).1 0;omega
 · exact zec (by rw [List.length_drop,List.length_take];omega)
 · exact zec (by rw [List.length_drop,List.length_take];omega)
 · rw [zbP]
   have:=zi6 (b:=(tk (tk (b,true) 41).2 2).1) (by rw [zbP];exact Nat.le_refl _)
   omega
 · rw [List.length_map,zav]
   have:=hn (tk (tk (tk (tk (b,true) 41).2 2).2 (rd (tk (tk (b,true) 41).2 2).1).toNat).2 1).1 0
   omega
 · exact Nat.le_of_lt (Nat.lt_of_lt_of_le (hn _ 0) (by omega))
theorem zpn (b:By):(dec b).1.Ok∧0≤(dec b).1.step:=by
 unfold dec zi7
 split
 · exact⟨zqC,by decide⟩
 · split
   · exact zI5 b
   · exact⟨zqC,by decide⟩
def rC (s:Ses) (d:Msg) (code:Int):Int :=
 if code != 0 then code else if d.session != s.id then 1 else if decide (d.step < s.step) then 120
 else if decide (s.step < d.step) || ((s.state != 0 && zcZ s) || (d.kind != 2 && !decide (d.root.val=s.seen.val))) then 290 else 0
def zc0 (s:Ses) (b:By):Int:=rC s (dec b).1 (dec b).2
def recv (s:Ses) (b:By) (now:Int):Ses × Msg × Int :=
 if 3≤s.state then (s,zM,290) else if s.due < now then ({ s with state:=5 },zM,291) else if zc0 s b≠0 then (s,zM,zc0 s b) else (zcD s (dec b).1 b,(dec b).1,0)
section walks
variable {G:Globs} {r1 r2:Nat} {m1:List (Int × Rule)} {m2:List (Int × Int)}
theorem zc1 (g:GR G r1 r2 m1 m2) (s:Ses) (hm:s.last.Ok) (H:Hp) (R:AV → Hp → Prop) (h:R (.p (.sl false 1 (pl b8 (enc s.last)))) H):ACall Tryd.prog G 17 [.p (yt s)] H R:=by
 refine ACall.of_run (raw:=[]) Tryd.func17 rfl Tryd.ntmps17 (by simp) fun hbel => ?_
 refine .q ?_;refine .text ?_;simp (disch:=first|exact zb|fail) only [go_sem,seval]
 refine .q ?_;refine .text ?_;simp (disch:=first|exact zb|fail) only [go_sem,seval]
 refine CallK.of (fun R h=>zep g _ hm _ R h) ?_;simp (disch:=first|exact zb|fail) only [go_sem,seval]
 refine .q ?_;refine .rt Tryd.func17 (by rw [Tryd.results17]) (hR := ?_);simp (disch:=first|exact zb|fail) only [go_sem,seval]
 exact h
def zqD (s:Ses):PV := .agg [i64 s.bytes,i64 s.rounds,i64 s.words]
theorem zdw (s:Ses) (H:Hp) (R:AV → Hp → Prop) (h:R (.p (zqD s)) H):ACall Tryd.prog G 25 [.p (yt s)] H R:=by
 refine ACall.of_run (raw:=[]) Tryd.func25 rfl Tryd.ntmps25 (by simp) fun hbel => ?_
 refine .q ?_;refine .text ?_;simp (disch:=first|exact zb|fail) only [go_sem,seval]
 refine .q ?_;refine .text ?_;simp (disch:=first|exact zb|fail) only [go_sem,seval]
 refine .q ?_;refine .rt Tryd.func25 (by rw [Tryd.results25]) (hR := ?_);simp (disch:=first|exact zb|fail) only [go_sem,seval]
 exact h
set_option maxHeartbeats 4000000 in
set_option maxRecDepth 20000 in
theorem zl0 (g:GR G r1 r2 m1 m2) (s:Ses) (hs:s.Ok) (b:By) (now:Int) (hb0:3≤s.state ∨ s.due < now ∨ b.length≤140737488353000) (H:Hp) (R:AV → Hp → Prop) (h:R (.tup [.p (yt (recv s b now).1),.p (yK (recv s b now).2.1),.p (i64 (recv s b now).2.2)]) H):ACall Tryd.prog G 23 [.p (yt s),.p (.sl false 1 (pl b8 b)),.p (i64 now)] H R:=by
 have hstep:=hs.step
 have hz:(List.replicate 32 0#8:By).length=32:=List.length_replicate
 refine ACall.of_run (raw:=[]) Tryd.func23 rfl Tryd.ntmps23 (by simp) fun hbel => ?_
 refine .q ?_;refine .text ?_;simp (disch:=first|exact zb|fail) only [go_sem,seval,-List.reduceReplicate,zl,zm]
 refine .q ?_;refine .text ?_;simp (disch:=first|exact zb|fail) only [go_sem,seval,-List.reduceReplicate,zl,zm]
 rw [zOI]
 have hbel:=fun s o z x=>zOJ (s:=s) (o:=o) (z:=z) (x:=x) hbel
 have hin : ∀ R,R (.p (bo (decide (3≤s.state)))) (rH H s (nC 0 0) (mG 0 0 0 [] (List.replicate 32 0#8) (.p (.sl true 1 [])) (.p (.sl true 2 []))) s) → ACall Tryd.prog G 46 [.ptr (H.n+3) 0] (rH H s (nC 0 0) (mG 0 0 0 [] (List.replicate 32 0#8) (.p (.sl true 1 [])) (.p (.sl true 2 []))) s) R:=fun R h=>zgD s (H.n+3) _ zqB R h
 unfold recv at h
 refine .q ?_;refine .text ?_;simp (disch:=first|exact zb|fail) only [go_sem,seval,-List.reduceReplicate]
 refine CallK.of (fun R h=>hin R h) ?_;simp (disch:=first|exact zb|fail) only [go_sem,seval,-List.reduceReplicate]
 by_cases c1:3≤s.state
 · have d1:decide (3≤s.state)=true:=decide_eq_true c1
   rw [if_pos c1] at h
   simp (disch:=first|exact zb|fail) only [go_sem,seval,-List.reduceReplicate,d1]
   refine .q ?_;refine .ifT (by simp (disch:=first|exact zb|fail) only [go_sem,seval,-List.reduceReplicate]) ?_
   refine .q ?_;refine .text ?_;simp (disch:=first|exact zb|fail) only [go_sem,seval,-List.reduceReplicate,hz]
   refine .q ?_;refine .rt Tryd.func23 (by rw [Tryd.results23]) (hx:=by simp (disch:=first|exact zb|fail) only [go_sem,seval,-List.reduceReplicate,hz];rfl) (hR := ?_);simp (disch:=first|exact zb|fail) only [go_sem,seval,-List.reduceReplicate,hz]
   exact h
 · have d1:decide (3≤s.state)=false:=decide_eq_false c1
   rw [if_neg c1] at h
   simp (disch:=first|exact zb|fail) only [go_sem,seval,-List.reduceReplicate,d1]
   refine .q ?_;refine .ifF (by simp (disch:=first|exact zb|fail) only [go_sem,seval,-List.reduceReplicate]) ?_
   refine .q ?_;refine .text ?_;simp (disch:=first|exact zb|fail) only [go_sem,seval,-List.reduceReplicate]
   by_cases c2:s.due < now
   · have d2:decide (s.due < now)=true:=decide_eq_true c2
     rw [if_pos c2] at h
     refine .q ?_;refine .ifT (by simp (disch:=first|exact zb|fail) only [go_sem,seval,-List.reduceReplicate,d2]) ?_
     refine .q ?_;refine .text ?_;simp (disch:=first|exact zb|fail) only [go_sem,seval,-List.reduceReplicate]
     refine .q ?_;refine .text ?_;simp (disch:=first|exact zb|fail) only [go_sem,seval,-List.reduceReplicate,hz]
     refine .q ?_;refine .rt Tryd.func23 (by rw [Tryd.results23]) (hx:=by simp (disch:=first|exact zb|fail) only [go_sem,seval,-List.reduceReplicate,hz];rfl) (hR := ?_);simp (disch:=first|exact zb|fail) only [go_sem,seval,-List.reduceReplicate,hz]
     exact h
   · have d2:decide (s.due < now)=false:=decide_eq_false c2
     rw [if_neg c2] at h
     have hb:b.length≤140737488353000:=by omega
     obtain⟨hdo,hds⟩:=zpn b
     have hsn : ∀ T,∀ R,R (.p (bo (zcZ s))) (app (rH H s (nC 0 0) (mG 0 0 0 [] (List.replicate 32 0#8) (.p (.sl true 1 [])) (.p (.sl true 2 []))) s) T) → ACall Tryd.prog G 47 [.ptr (H.n+3) 0] (app (rH H s (nC 0 0) (mG 0 0 0 [] (List.replicate 32 0#8) (.p (.sl true 1 [])) (.p (.sl true 2 []))) s) T) R:=fun T R h=>zgE s hstep.1 hs.last (H.n+3) _ (app_f' zqB) R h
     refine .q ?_;refine .ifF (by simp (disch:=first|exact zb|fail) only [go_sem,seval,-List.reduceReplicate,d2]) ?_
     refine .q ?_;refine .text ?_;simp (disch:=first|exact zb|fail) only [go_sem,seval,-List.reduceReplicate]
     refine CallK.of (fun R h=>zeq g b (by omega) _ R h) ?_;simp (disch:=first|exact zb|fail) only [go_sem,seval,-List.reduceReplicate,zm,hz]
     unfold zc0 at h
     simp only [ne_eq] at h
     generalize (dec b).1=d at *
     generalize (dec b).2=code at *
     have hsn:=hsn [.cells (mcl d)]
     simp only [yJ,zcn] at hsn
     have hrl:=d.root.len
     have hsl:=s.seen.len
     (repeat refine .zs rfl ?_);refine .cutE [1,3,6,7,9,10] [(11,.p (i64 (rC s d code)))] [] (fun ihF => ?_) (fun env F => ?_)
     rotate_left 1
     simp (disch:=first|exact zb|fail) only [go_sem,seval,-List.reduceReplicate] at F
     rotate_left 1
     · unfold rC at ihF
       refine .q ?_;refine .text ?_;simp (disch:=first|exact zb|fail) only [go_sem,seval,-List.reduceReplicate]
       refine .q ?_;refine .ifB (by simp (disch:=first|exact zb|fail) only [go_sem,seval,-List.reduceReplicate];rfl) (fun b1 => ?_) (fun b1 => ?_)
       · rw [b1] at ihF
         refine .skip ?_
         first | (refine ihF _ _ ?_ ?_) | (refine .z rfl ?_;refine ihF _ _ ?_ ?_) | (refine .z rfl ?_;refine .z rfl ?_;refine ihF _ _ ?_ ?_) | (refine .z rfl ?_;refine .z rfl ?_;refine .z rfl ?_;refine ihF _ _ ?_ ?_)
         · simp (disch:=first|exact zb|fail) only [go_sem,seval,-List.reduceReplicate]<;>(repeat' (first | rfl | refine And.intro ?_ ?_))
         · first | rfl | (simp (disch:=first|exact zb|fail) only [go_sem,seval,-List.reduceReplicate]<;>(try rfl))
       · have hc0:code=0:=by simpa using b1
         rw [b1] at ihF
         simp only [Bool.false_eq_true,if_false] at ihF
         refine .q ?_;refine .text ?_;simp (disch:=first|exact zb|fail) only [go_sem,seval,-List.reduceReplicate]
         refine .q ?_;refine .ifB (by simp (disch:=first|exact zb|fail) only [go_sem,seval,-List.reduceReplicate];rfl) (fun b2 => ?_) (fun b2 => ?_)
         · rw [b2] at ihF
           refine .q ?_;refine .text ?_;simp (disch:=first|exact zb|fail) only [go_sem,seval,-List.reduceReplicate]
           first | (refine ihF _ _ ?_ ?_) | (refine .z rfl ?_;refine ihF _ _ ?_ ?_) | (refine .z rfl ?_;refine .z rfl ?_;refine ihF _ _ ?_ ?_) | (refine .z rfl ?_;refine .z rfl ?_;refine .z rfl ?_;refine ihF _ _ ?_ ?_)
           · simp (disch:=first|exact zb|fail) only [go_sem,seval,-List.reduceReplicate]<;>(repeat' (first | rfl | refine And.intro ?_ ?_))
           · first | rfl | (simp (disch:=first|exact zb|fail) only [go_sem,seval,-List.reduceReplicate]<;>(try rfl))
         · rw [b2] at ihF
           simp only [Bool.false_eq_true,if_false] at ihF
           refine .q ?_;refine .text ?_;simp (disch:=first|exact zb|fail) only [go_sem,seval,-List.reduceReplicate]
           refine .q ?_;refine .ifB (by simp (disch:=first|exact zb|fail) only [go_sem,seval,-List.reduceReplicate];rfl) (fun b3 => ?_) (fun b3 => ?_)
           · rw [b3] at ihF
             refine .q ?_;refine .text ?_;simp (disch:=first|exact zb|fail) only [go_sem,seval,-List.reduceReplicate]
             first | (refine ihF _ _ ?_ ?_) | (refine .z rfl ?_;refine ihF _ _ ?_ ?_) | (refine .z rfl ?_;refine .z rfl ?_;refine ihF _ _ ?_ ?_) | (refine .z rfl ?_;refine .z rfl ?_;refine .z rfl ?_;refine ihF _ _ ?_ ?_)
             · simp (disch:=first|exact zb|fail) only [go_sem,seval,-List.reduceReplicate]<;>(repeat' (first | rfl | refine And.intro ?_ ?_))
             · first | rfl | (simp (disch:=first|exact zb|fail) only [go_sem,seval,-List.reduceReplicate]<;>(try rfl))
           · rw [b3] at ihF
             simp only [Bool.false_eq_true,if_false] at ihF
             refine .q ?_;refine .text ?_;simp (disch:=first|exact zb|fail) only [go_sem,seval,-List.reduceReplicate]
             cases b4:decide (s.step < d.step) with
             | true =>
              rw [b4] at ihF
              refine .q ?_;refine .ifT (by simp (disch:=first|exact zb|fail) only [go_sem,seval,-List.reduceReplicate,b4]) ?_
              refine .skip ?_
              refine .q ?_;refine .ifT (by simp (disch:=first|exact zb|fail) only [go_sem,seval,-List.reduceReplicate]) ?_
              refine .q ?_;refine .text ?_;simp (disch:=first|exact zb|fail) only [go_sem,seval,-List.reduceReplicate]
              first | (refine ihF _ _ ?_ ?_) | (refine .z rfl ?_;refine ihF _ _ ?_ ?_) | (refine .z rfl ?_;refine .z rfl ?_;refine ihF _ _ ?_ ?_) | (refine .z rfl ?_;refine .z rfl ?_;refine .z rfl ?_;refine ihF _ _ ?_ ?_)
              · simp (disch:=first|exact zb|fail) only [go_sem,seval,-List.reduceReplicate,hc0]<;>(repeat' (first | rfl | refine And.intro ?_ ?_))
              · first | rfl | (simp (disch:=first|exact zb|fail) only [go_sem,seval,-List.reduceReplicate,hc0]<;>(try rfl))
             | false =>
              rw [b4] at ihF
              refine .q ?_;refine .ifF (by simp (disch:=first|exact zb|fail) only [go_sem,seval,-List.reduceReplicate,b4]) ?_
              refine .q ?_;refine .text ?_;simp (disch:=first|exact zb|fail) only [go_sem,seval,-List.reduceReplicate]
              cases b5:s.state != 0 with
              | false =>
               rw [b5] at ihF
               simp (disch:=first|exact zb|fail) only [go_sem,seval,-List.reduceReplicate,b5]
               refine .q ?_;refine .ifF (by simp (disch:=first|exact zb|fail) only [go_sem,seval,-List.reduceReplicate]) ?_
               refine .q ?_;refine .text ?_;simp (disch:=first|exact zb|fail) only [go_sem,seval,-List.reduceReplicate]
               cases b7:d.kind != 2 with
               | false =>
                rw [b7] at ihF
                simp (disch:=first|exact zb|fail) only [go_sem,seval,-List.reduceReplicate,b7]
                refine .q ?_;refine .ifF (by simp (disch:=first|exact zb|fail) only [go_sem,seval,-List.reduceReplicate]) ?_
                refine .skip ?_
                first | (refine ihF _ _ ?_ ?_) | (refine .z rfl ?_;refine ihF _ _ ?_ ?_) | (refine .z rfl ?_;refine .z rfl ?_;refine ihF _ _ ?_ ?_) | (refine .z rfl ?_;refine .z rfl ?_;refine .z rfl ?_;refine ihF _ _ ?_ ?_)
                · simp (disch:=first|exact zb|fail) only [go_sem,seval,-List.reduceReplicate,hc0]<;>(repeat' (first | rfl | refine And.intro ?_ ?_))
                · first | rfl | (simp (disch:=first|exact zb|fail) only [go_sem,seval,-List.reduceReplicate,hc0]<;>(try rfl))
               | true =>
                rw [b7] at ihF
                simp (disch:=first|exact zb|fail) only [go_sem,seval,-List.reduceReplicate,b7]
                cases b8:decide (d.root.val=s.seen.val) with
                | true =>
                 rw [b8] at ihF
                 simp (disch:=first|exact zb|fail) only [go_sem,seval,-List.reduceReplicate,b8]
                 refine .q ?_;refine .ifF (by simp (disch:=first|exact zb|fail) only [go_sem,seval,-List.reduceReplicate]) ?_
                 refine .skip ?_
                 first | (refine ihF _ _ ?_ ?_) | (refine .z rfl ?_;refine ihF _ _ ?_ ?_) | (refine .z rfl ?_;refine .z rfl ?_;refine ihF _ _ ?_ ?_) | (refine .z rfl ?_;refine .z rfl ?_;refine .z rfl ?_;refine ihF _ _ ?_ ?_)
                 · simp (disch:=first|exact zb|fail) only [go_sem,seval,-List.reduceReplicate,hc0]<;>(repeat' (first | rfl | refine And.intro ?_ ?_))
                 · first | rfl | (simp (disch:=first|exact zb|fail) only [go_sem,seval,-List.reduceReplicate,hc0]<;>(try rfl))
                | false =>
                 rw [b8] at ihF
                 simp (disch:=first|exact zb|fail) only [go_sem,seval,-List.reduceReplicate,b8]
                 refine .q ?_;refine .ifT (by simp (disch:=first|exact zb|fail) only [go_sem,seval,-List.reduceReplicate]) ?_
                 refine .q ?_;refine .text ?_;simp (disch:=first|exact zb|fail) only [go_sem,seval,-List.reduceReplicate]
                 first | (refine ihF _ _ ?_ ?_) | (refine .z rfl ?_;refine ihF _ _ ?_ ?_) | (refine .z rfl ?_;refine .z rfl ?_;refine ihF _ _ ?_ ?_) | (refine .z rfl ?_;refine .z rfl ?_;refine .z rfl ?_;refine ihF _ _ ?_ ?_)
                 · simp (disch:=first|exact zb|fail) only [go_sem,seval,-List.reduceReplicate,hc0]<;>(repeat' (first | rfl | refine And.intro ?_ ?_))
                 · first | rfl | (simp (disch:=first|exact zb|fail) only [go_sem,seval,-List.reduceReplicate,hc0]<;>(try rfl))
              | true =>
               rw [b5] at ihF
               simp (disch:=first|exact zb|fail) only [go_sem,seval,-List.reduceReplicate,b5]
               refine CallK.of (fun R h=>hsn R h) ?_;simp (disch:=first|exact zb|fail) only [go_sem,seval,-List.reduceReplicate]
               cases b6:zcZ s with
               | true =>
                rw [b6] at ihF
                (try simp (disch:=first|exact zb|fail) only [go_sem,seval,-List.reduceReplicate])
                refine .q ?_;refine .ifT (by simp (disch:=first|exact zb|fail) only [go_sem,seval,-List.reduceReplicate]) ?_
                refine .skip ?_
                refine .q ?_;refine .ifT (by simp (disch:=first|exact zb|fail) only [go_sem,seval,-List.reduceReplicate]) ?_
                refine .q ?_;refine .text ?_;simp (disch:=first|exact zb|fail) only [go_sem,seval,-List.reduceReplicate]
                first | (refine ihF _ _ ?_ ?_) | (refine .z rfl ?_;refine ihF _ _ ?_ ?_) | (refine .z rfl ?_;refine .z rfl ?_;refine ihF _ _ ?_ ?_) | (refine .z rfl ?_;refine .z rfl ?_;refine .z rfl ?_;refine ihF _ _ ?_ ?_)
                · simp (disch:=first|exact zb|fail) only [go_sem,seval,-List.reduceReplicate,hc0]<;>(repeat' (first | rfl | refine And.intro ?_ ?_))
                · first | rfl | (simp (disch:=first|exact zb|fail) only [go_sem,seval,-List.reduceReplicate,hc0]<;>(try rfl))
               | false =>
                rw [b6] at ihF
                (try simp (disch:=first|exact zb|fail) only [go_sem,seval,-List.reduceReplicate])
                refine .q ?_;refine .ifF (by simp (disch:=first|exact zb|fail) only [go_sem,seval,-List.reduceReplicate]) ?_
                refine .q ?_;refine .text ?_;simp (disch:=first|exact zb|fail) only [go_sem,seval,-List.reduceReplicate]
                cases b7:d.kind != 2 with
                | false =>
                 rw [b7] at ihF
                 simp (disch:=first|exact zb|fail) only [go_sem,seval,-List.reduceReplicate,b7]
                 refine .q ?_;refine .ifF (by simp (disch:=first|exact zb|fail) only [go_sem,seval,-List.reduceReplicate]) ?_
                 refine .skip ?_
                 first | (refine ihF _ _ ?_ ?_) | (refine .z rfl ?_;refine ihF _ _ ?_ ?_) | (refine .z rfl ?_;refine .z rfl ?_;refine ihF _ _ ?_ ?_) | (refine .z rfl ?_;refine .z rfl ?_;refine .z rfl ?_;refine ihF _ _ ?_ ?_)
                 · simp (disch:=first|exact zb|fail) only [go_sem,seval,-List.reduceReplicate,hc0]<;>(repeat' (first | rfl | refine And.intro ?_ ?_))
                 · first | rfl | (simp (disch:=first|exact zb|fail) only [go_sem,seval,-List.reduceReplicate,hc0]<;>(try rfl))
                | true =>
                 rw [b7] at ihF
                 simp (disch:=first|exact zb|fail) only [go_sem,seval,-List.reduceReplicate,b7]
                 cases b8:decide (d.root.val=s.seen.val) with
                 | true =>
                  rw [b8] at ihF
                  simp (disch:=first|exact zb|fail) only [go_sem,seval,-List.reduceReplicate,b8]
                  refine .q ?_;refine .ifF (by simp (disch:=first|exact zb|fail) only [go_sem,seval,-List.reduceReplicate]) ?_
                  refine .skip ?_
                  first | (refine ihF _ _ ?_ ?_) | (refine .z rfl ?_;refine ihF _ _ ?_ ?_) | (refine .z rfl ?_;refine .z rfl ?_;refine ihF _ _ ?_ ?_) | (refine .z rfl ?_;refine .z rfl ?_;refine .z rfl ?_;refine ihF _ _ ?_ ?_)
                  · simp (disch:=first|exact zb|fail) only [go_sem,seval,-List.reduceReplicate,hc0]<;>(repeat' (first | rfl | refine And.intro ?_ ?_))
                  · first | rfl | (simp (disch:=first|exact zb|fail) only [go_sem,seval,-List.reduceReplicate,hc0]<;>(try rfl))
                 | false =>
                  rw [b8] at ihF
                  simp (disch:=first|exact zb|fail) only [go_sem,seval,-List.reduceReplicate,b8]
                  refine .q ?_;refine .ifT (by simp (disch:=first|exact zb|fail) only [go_sem,seval,-List.reduceReplicate]) ?_
                  refine .q ?_;refine .text ?_;simp (disch:=first|exact zb|fail) only [go_sem,seval,-List.reduceReplicate]
                  first | (refine ihF _ _ ?_ ?_) | (refine .z rfl ?_;refine ihF _ _ ?_ ?_) | (refine .z rfl ?_;refine .z rfl ?_;refine ihF _ _ ?_ ?_) | (refine .z rfl ?_;refine .z rfl ?_;refine .z rfl ?_;refine ihF _ _ ?_ ?_)
                  · simp (disch:=first|exact zb|fail) only [go_sem,seval,-List.reduceReplicate,hc0]<;>(repeat' (first | rfl | refine And.intro ?_ ?_))
                  · first | rfl | (simp (disch:=first|exact zb|fail) only [go_sem,seval,-List.reduceReplicate,hc0]<;>(try rfl))
     · generalize rC s d code=rc at *
       refine .q ?_;refine .text ?_;simp (disch:=first|exact zb|fail) only [go_sem,seval,-List.reduceReplicate,F]
       refine .q ?_;refine .ifB (by simp (disch:=first|exact zb|fail) only [go_sem,seval,-List.reduceReplicate];rfl) (fun e0 => ?_) (fun e0 => ?_)
       · have e1 : ¬rc=0:=by simpa using e0
         rw [if_pos e1] at h
         refine .q ?_;refine .text ?_;simp (disch:=first|exact zb|fail) only [go_sem,seval,-List.reduceReplicate,F,yh,hz]
         refine .q ?_;refine .rt Tryd.func23 (by rw [Tryd.results23]) (hx:=by simp (disch:=first|exact zb|fail) only [go_sem,seval,-List.reduceReplicate,F,hz];rfl) (hR := ?_);simp (disch:=first|exact zb|fail) only [go_sem,seval,-List.reduceReplicate,F,hz]
         exact h
       · have e1:rc=0:=by simpa using e0
         rw [if_neg (by simp [e1])] at h
         have hen:enters Tryd.prog 49=true:=zgl
         refine .q ?_;refine .text ?_;simp (disch:=first|exact zb|fail) only [go_sem,seval,-List.reduceReplicate,F,yh]
         have hc3 : ∀ x,((rH H s (nC 0 0) (mG 0 0 0 [] (List.replicate 32 0#8) (.p (.sl true 1 [])) (.p (.sl true 2 []))) s).new x).f (H.n+3)=some (.cells (yy s)):=fun x=>by rw [Hp.f_new_old _ _ _ (by rw [zQn];omega)];exact zqB
         refine CallK.of (fun R h=>zlZ g s d hdo b (by omega) hs.step hs.bytes hs.rounds hs.words (H.n+3) _ (hc3 _) R h) ?_;simp (disch:=first|exact zb|fail) only [go_sem,seval,-List.reduceReplicate]
         generalize zcD s d b=X at *
         generalize hZ:mG 0 0 0 [] (List.replicate 32 0#8) (.p (.sl true 1 [])) (.p (.sl true 2 []))=Z at *
         have hZl:Z.length=38:=by rw [←hZ];exact zb3 hz
         (refine .q ?_)
         refine .openInv (fun L env' H'=>kF env' [(6,.ptr (H.n+1) 0),(7,.ptr (H.n+2) 0),(9,.ptr (H.n+3) 0),(10,.ptr (H.n+4) 0)]∧kI L env' [(0,75,.p (yt X)),(1,76,.p (yK d)),(4,8,.p (i64 0))]∧(L 2=true → allT L [0])∧(L 3=true → allT L [0,1,2])∧H'=((rH H s (if L 2 then yy X else nC 0 0) (if L 3 then mcl d else Z) X).new (.cells (mcl d)))) follows (by kernel_rfl) ?_ ?_ ?_
         · exact⟨(by simp (disch:=first|exact zb|fail) only [go_sem,seval,-List.reduceReplicate,kFi,kFn,and_self,F,hZl]),(fun _ _ h=>by cases h),(fun h=>by cases h),(fun h=>by cases h),(by first | rfl | (simp only [Bool.false_eq_true,if_false];first | rfl | (simp (disch:=first|exact zb|fail) only [go_sem,seval,-List.reduceReplicate,F,hZl]<;>rfl)))⟩
         · intro i o L env' H' ho hL hall hI
           obtain⟨KF,KG,m2,m3,rfl⟩:=hI
           rcases i with _ | _ | _ | _ | _ | i
           · cases ho;have n2:=ya m2 hL;have n3:=ya m3 hL;have f2:=zJ KF 2 rfl;refine zf (.p (yt X)) rfl rfl (by simp (disch:=first|exact zb|fail) only [go_sem,seval,-List.reduceReplicate,reduceIte,Bool.false_eq_true,if_false,if_true,f2,n2,n3,hL,hZl]<;>rfl) rfl ?_;exact⟨zx KF,zA KG,ka m2,ka m3,(by rw [za (by decide),za (by decide)])⟩
           · cases ho;have n3:=ya m3 hL;have f3:=zJ KF 3 rfl;refine zf (.p (yK d)) rfl rfl (by simp (disch:=first|exact zb|fail) only [go_sem,seval,-List.reduceReplicate,reduceIte,Bool.false_eq_true,if_false,if_true,f3,n3,hL,hZl]<;>rfl) rfl ?_;exact⟨zx KF,zA KG,ka m2,ka m3,(by rw [za (by decide),za (by decide)])⟩
           · cases ho;have h0:=kL hall 0 rfl rfl;have d0:=zn KG 0 rfl h0;have n3:=ya m3 hL;have f0:=zJ KF 0 rfl;refine yb rfl rfl (by simp (disch:=first|exact zb|fail) only [go_sem,seval,-List.reduceReplicate,reduceIte,Bool.false_eq_true,if_false,if_true,f0,d0,n3,hL,hZl]<;>rfl) rfl ?_;exact⟨KF,kIs KG,(fun _=>kt (zc h0 zv)),ka m3,(by (have e2:more L 2 2=true:=zr);(have e3:more L 2 3=L 3:=za (by decide));(try simp only [e2,e3,n3,hL]);first | done | rfl | (simp only [e2,e3,n3,hL,if_true,if_false,Bool.false_eq_true];first | done | rfl | (simp (disch:=first|exact zb|fail) only [go_sem,seval,-List.reduceReplicate,e2,e3,n3,hL,hZl]<;>rfl)))⟩
           · cases ho;have h1:=kL hall 0 rfl rfl;have d1:=zn KG 1 rfl h1;have h2:=kL hall 1 rfl rfl;have h0:=kL hall 2 rfl rfl;have f1:=zJ KF 1 rfl;refine yb rfl rfl (by simp (disch:=first|exact zb|fail) only [go_sem,seval,-List.reduceReplicate,reduceIte,Bool.false_eq_true,if_false,if_true,f1,d1,h2,hL,hZl]<;>rfl) rfl ?_;exact⟨KF,kIs KG,ka m2,(fun _=>kt (zc h0 (zc h1 (zc h2 zv)))),(by (have e2:more L 3 2=L 2:=za (by decide));(have e3:more L 3 3=true:=zr);(try simp only [e2,e3,h2,hL]);first | done | rfl | (simp only [e2,e3,h2,hL,if_true,if_false,Bool.false_eq_true];first | done | rfl | (simp (disch:=first|exact zb|fail) only [go_sem,seval,-List.reduceReplicate,e2,e3,h2,hL,hZl]<;>rfl)))⟩
           · cases ho;refine zf (.p (i64 0)) rfl rfl (by simp (disch:=first|exact zb|fail) only [go_sem,seval,-List.reduceReplicate,hZl]<;>rfl) rfl ?_;exact⟨zx KF,zA KG,ka m2,ka m3,(by rw [za (by decide),za (by decide)])⟩
           · simp at ho
         · intro L env' H' hall hI
           obtain⟨KF,KG,_,_,rfl⟩:=hI
           have l2:=hall 2 (by decide)
           have l3:=hall 3 (by decide)
           have f0:=zJ KF 0 rfl
           have f1:=zJ KF 1 rfl
           have f2:=zJ KF 2 rfl
           have f3:=zJ KF 3 rfl
           have g4:=zn KG 2 rfl (hall 4 (by decide))
           simp only [l2,l3,if_true]
           clear hall
           refine .q ?_;refine .rt Tryd.func23 (by rw [Tryd.results23]) (hx:=by simp (disch:=first|exact zb|fail) only [go_sem,seval,-List.reduceReplicate,f0,f1,g4];rfl) (hR := ?_);simp (disch:=first|exact zb|fail) only [go_sem,seval,-List.reduceReplicate,f0,f1,g4]
           exact h
theorem yL (g:GR G r1 r2 m1 m2) (s:Ses) (hs:s.Ok) (b:By) (hb:b.length≤140737488353000) (now:Int) (H:Hp) (R:AV → Hp → Prop) (h:R (.tup [.p (yt (recv s b now).1),.p (yK (recv s b now).2.1),.p (i64 (recv s b now).2.2)]) H):ACall Tryd.prog G 23 [.p (yt s),.p (.sl false 1 (pl b8 b)),.p (i64 now)] H R :=
 zl0 g s hs b now (.inr (.inr hb)) H R h
end walks
end Go.Proofs.YtmoecjgehdkhkaaDoor

/-
  Sessions: what is decoded from an encoding (plain).
-/
namespace Go.Proofs.YtmoecjgehdkhkaaDoor
open Go Go.AL

theorem zay {x r:By} {n:Nat} (h:x.length=n):tk (x++r,true) n=(x,(r,true)):=by
 subst h
 unfold tk
 simp
theorem zAL {r:By} {n:Nat} (h:r.length < n):(tk (r,true) n).2.2=false:=by
 unfold tk
 rw [if_pos h]
theorem zAM (x:U) : ∀ n,n≤8 → (rd (le x n)).toNat=x.toNat % 2 ^ (8*n):=by
 suffices h : ∀ n (b:By),n+b.length≤8 → (rd (le x n++b)).toNat=x.toNat % 2 ^ (8*n)+(rd b).toNat*2 ^ (8*n) from fun n hn=>by
  have:=h n [] (by simpa using hn)
  simpa [rd] using this
 have hlt : ∀ b:By,b.length≤8 → (rd b).toNat < 2 ^ (8*b.length):=fun b hb=>by
  by_cases h7:b.length≤7
  · exact zgB h7
  · have:b.length=8:=by omega
    rw [this];exact (rd b).isLt
 have hcons : ∀ (c:BitVec 8) (b:By),b.length≤7 → (rd (c :: b)).toNat=c.toNat+(rd b).toNat*256:=fun c b hb=>by
  have ih:=zgB hb
  have hc:=c.isLt
  simp only [rd,BitVec.toNat_or,BitVec.toNat_shiftLeft,BitVec.toNat_setWidth]
  have h2:(rd b).toNat <<< 8 < 2 ^ 64:=by
   rw [Nat.shiftLeft_eq]
   have:2 ^ (8*b.length)*2 ^ 8≤2 ^ 64:=by
    rw [←Nat.pow_add];exact Nat.pow_le_pow_right (by omega) (by omega)
   have:=Nat.mul_lt_mul_of_pos_right ih (show 0 < 2 ^ 8 by decide)
   omega
  rw [Nat.mod_eq_of_lt h2,Nat.mod_eq_of_lt (show c.toNat < 2 ^ 64 by omega),←Nat.shiftLeft_add_eq_or_of_lt (by omega),Nat.shiftLeft_eq]
  omega
 intro n
 induction n with
 | zero=>intro b _;simp [le,Nat.mod_one]
 | succ n ih =>
  intro b hb
  rw [zbt,List.append_assoc,List.singleton_append,ih _ (by simp;omega),hcons _ _ (by omega)]
  have h1:((x >>> (8*n)).setWidth 8:BitVec 8).toNat=x.toNat / 2 ^ (8*n) % 256:=by
   simp [BitVec.toNat_setWidth,BitVec.toNat_ushiftRight,Nat.shiftRight_eq_div_pow]
  rw [h1,show 8*(n+1)=8*n+8 by omega,Nat.pow_add,Nat.mod_mul]
  rw [Nat.add_mul,Nat.add_assoc]
  congr 1
  rw [Nat.mul_comm (2 ^ (8*n)) (_ % 2 ^ 8),show (2 ^ 8:Nat)=256 by rfl,Nat.mul_assoc,Nat.mul_comm 256]
theorem zi8 (x:U):rd (le x 8)=x:=BitVec.eq_of_toNat_eq (by rw [zAM x 8 (by omega)];exact Nat.mod_eq_of_lt x.isLt)
theorem zt6 {n:Int} (h:okI n):toI (BitVec.ofInt 64 n)=n:=by
 obtain⟨h1,h2⟩:=h
 unfold toI
 rw [IntKind.wrap_i64]
 have:((BitVec.ofInt 64 n).toNat:Int)=n % 18446744073709551616:=by
  rw [BitVec.toNat_ofInt]
  omega
 rw [this]
 omega
theorem zI6 {l:List Int} (h : ∀ x∈l,okI x) (r:By):(wds (encS l++r) l.length).map toI=l:=by
 suffices hh : ∀ i,i≤l.length → (wds (encS l++r) i).map toI=l.take i by
  have:=hh l.length (Nat.le_refl _)
  rwa [List.take_length] at this
 intro i
 induction i with
 | zero=>intro _;rfl
 | succ i ih =>
  intro hi
  have hsp:encS l=encS (l.take i)++(le (BitVec.ofInt 64 (nth l i)) 8++encS (l.drop (i+1))):=by
   have h1:l=l.take i++([nth l i]++l.drop (i+1)):=by
    rw [←List.append_assoc,←yA (by omega),List.take_append_drop]
   conv=>lhs;rw [h1]
   simp [encS]
  have hl1:(encS (l.take i)).length=8*i:=by rw [zcd,List.length_take];omega
  have hx:((encS l++r).take (8*i+8)).drop (8*i)=le (BitVec.ofInt 64 (nth l i)) 8:=by
   rw [hsp,List.append_assoc,←hl1,List.take_length_add_append,List.drop_left,List.append_assoc,List.take_append_of_le_length (by rw [yv];exact Nat.le_refl _),List.take_of_length_le (by rw [yv];exact Nat.le_refl _)]
  rw [zbQ,List.map_append,ih (by omega),hx,zi8,yA (by omega)]
  have:=zt6 (h (nth l i) (by rw [show nth l i=l[i] by simp [nth,show i < l.length by omega]];exact List.getElem_mem _))
  simp [this]

theorem zqE {b:By} {n i:Nat} (h:i < n):nth (wds b n) i=rd ((b.take (8*i+8)).drop (8*i)):=by
 induction n with
 | zero=>omega
 | succ n ih =>
  rw [zbQ]
  by_cases e:i < n
  · rw [zaM (by rw [zav];exact e),ih e]
  · have:i=n:=by omega
    subst this
    rw [zcm (by rw [zav];exact Nat.le_refl _),zav,Nat.sub_self,zg2]
theorem zI7 {l:List Ext} (r:By):prs (wds (yH l++r) (2*l.length)) l.length=l:=by
 suffices hh : ∀ i,i≤l.length → prs (wds (yH l++r) (2*l.length)) i=l.take i by
  have:=hh l.length (Nat.le_refl _)
  rwa [List.take_length] at this
 intro i
 induction i with
 | zero=>intro _;rfl
 | succ i ih =>
  intro hi
  have hsp:yH l=yH (l.take i)++(le (nth l i).a 8++(le (nth l i).b 8++yH (l.drop (i+1)))):=by
   have h1:l=l.take i++([nth l i]++l.drop (i+1)):=by
    rw [←List.append_assoc,←yA (by omega),List.take_append_drop]
   conv=>lhs;rw [h1]
   simp [yH]
  have hl1:(yH (l.take i)).length=16*i:=by rw [zce,List.length_take];omega
  have hx0:((yH l++r).take (8*(2*i)+8)).drop (8*(2*i))=le (nth l i).a 8:=by
   rw [hsp,List.append_assoc,show 8*(2*i)=(yH (l.take i)).length by rw [hl1];omega,List.take_length_add_append,List.drop_left,List.append_assoc,List.take_append_of_le_length (by rw [yv];exact Nat.le_refl _),List.take_of_length_le (by rw [yv];exact Nat.le_refl _)]
  have hx1:((yH l++r).take (8*(2*i+1)+8)).drop (8*(2*i+1))=le (nth l i).b 8:=by
   have h2:yH l++r=(yH (l.take i)++le (nth l i).a 8)++(le (nth l i).b 8++(yH (l.drop (i+1))++r)):=by rw [hsp];simp
   have h3:(yH (l.take i)++le (nth l i).a 8).length=8*(2*i+1):=by rw [List.length_append,hl1,yv];omega
   rw [h2,←h3,List.take_length_add_append,List.drop_left,List.take_append_of_le_length (by rw [yv];exact Nat.le_refl _),List.take_of_length_le (by rw [yv];exact Nat.le_refl _)]
  rw [zcY,ih (by omega),zqE (by omega),zqE (by omega),hx0,hx1,zi8,zi8,yA (by omega)]
theorem zhR {n:Int} (h:small n=true):0≤n∧n < 2147483648:=by
 unfold small at h
 simp only [Bool.and_eq_true,decide_eq_true_eq] at h
 omega
theorem toNat_ofInt {n:Int} {w:Nat} (h0:0≤n) (h:n < (2 ^ w:Nat)):((BitVec.ofInt w n).toNat:Int)=n:=by
 rw [BitVec.toNat_ofInt]
 have:(n % ((2 ^ w:Nat):Int))=n:=Int.emod_eq_of_lt h0 h
 rw [this];omega
theorem zAN {n:Int} (h0:0≤n) (h:n < 4294967296):((rd (le (BitVec.ofInt 64 n) 4)).toNat:Int)=n:=by
 have h2:=toNat_ofInt (w:=64) h0 (by omega)
 rw [zAM _ 4 (by omega)]
 omega
theorem zda {k s:Int} (h:fits k s=true):1≤k∧k≤7:=by
 obtain⟨r,hr⟩:=zhN h
 unfold zau at hr
 (repeat' split at hr)<;>first | omega | cases hr
theorem zc2 {m:Msg} (h:valid m=true):(0≤m.session∧m.session < 2147483648)∧(0≤m.step∧m.step < 2147483648)∧fits m.kind m.step=true:=by
 unfold valid at h
 simp only [Bool.and_eq_true] at h
 obtain⟨⟨⟨⟨h1,h2⟩,h3⟩,_⟩,_⟩:=h
 exact⟨zhR h1,zhR h2,h3⟩
theorem zl1 {m:Msg} (h:valid m=true) (hi : ∀ x∈m.sums,okI x) (y:By):decM (zaX m++y)=(m,decide (8≤y.length)):=by
 obtain⟨b1,b2,b3⟩:=zc9 h
 obtain⟨s1,s2,s3⟩:=zc2 h
 have s4:=zda s3
 have hrl:=m.root.len
 have e1:zaX m++y=([BitVec.ofInt 8 m.kind]++le (BitVec.ofInt 64 m.session) 4++le (BitVec.ofInt 64 m.step) 4++m.root.val)++(le (BitVec.ofInt 64 m.text.length) 2++(m.text++([BitVec.ofInt 8 m.sums.length]++(encS m.sums++([BitVec.ofInt 8 m.values.length]++(yH m.values++y)))))):=by
  unfold zaX;simp
 have hhl:([BitVec.ofInt 8 m.kind]++le (BitVec.ofInt 64 m.session) 4++le (BitVec.ofInt 64 m.step) 4++m.root.val).length=41:=by simp [yv,hrl]
 have q0:nth ([BitVec.ofInt 8 m.kind]++le (BitVec.ofInt 64 m.session) 4++le (BitVec.ofInt 64 m.step) 4++m.root.val) 0=BitVec.ofInt 8 m.kind:=rfl
 have q1:(([BitVec.ofInt 8 m.kind]++le (BitVec.ofInt 64 m.session) 4++le (BitVec.ofInt 64 m.step) 4++m.root.val).take 5).drop 1=le (BitVec.ofInt 64 m.session) 4:=rfl
 have q2:(([BitVec.ofInt 8 m.kind]++le (BitVec.ofInt 64 m.session) 4++le (BitVec.ofInt 64 m.step) 4++m.root.val).take 9).drop 5=le (BitVec.ofInt 64 m.step) 4:=rfl
 have q3:([BitVec.ofInt 8 m.kind]++le (BitVec.ofInt 64 m.session) 4++le (BitVec.ofInt 64 m.step) 4++m.root.val).drop 9=m.root.val:=by
  rw [List.drop_append_of_le_length (by simp [yv]),List.drop_of_length_le (by simp [yv])];rfl
 have hk:=toNat_ofInt (n:=m.kind) (w:=8) (by omega) (by omega)
 have ht2:(rd (le (BitVec.ofInt 64 m.text.length) 2)).toNat=m.text.length:=by
  have h2:=toNat_ofInt (n:=m.text.length) (w:=64) (by omega) (by omega)
  rw [zAM _ 2 (by omega)];omega
 have hs2:=toNat_ofInt (n:=m.sums.length) (w:=8) (by omega) (by omega)
 have hv2:=toNat_ofInt (n:=m.values.length) (w:=8) (by omega) (by omega)
 have hs3:(nth [BitVec.ofInt 8 (m.sums.length:Int)] 0).toNat=m.sums.length:=by
  show (BitVec.ofInt 8 (m.sums.length:Int)).toNat=_;omega
 have hv3:(nth [BitVec.ofInt 8 (m.values.length:Int)] 0).toNat=m.values.length:=by
  show (BitVec.ofInt 8 (m.values.length:Int)).toNat=_;omega
 unfold decM
 rw [e1,zay hhl]
 simp only [d1,q0,q1,q2,q3]
 unfold d2
 rw [zay yv]
 simp only [ht2]
 unfold d3
 rw [zay rfl]
 unfold d4
 rw [zay (n:=1) rfl]
 simp only [hs3]
 unfold d5
 rw [zay zcd]
 simp only
 rw [zay (n:=1) rfl]
 simp only [hv3]
 unfold d6
 rw [zay zce]
 simp only
 unfold d7
 have w1:=zI6 hi []
 have w2:=zI7 (l:=m.values) []
 rw [List.append_nil] at w1 w2
 rw [w1,w2,zpm hrl]
 refine Prod.ext ?_ ?_
 · have r1:=zAN s1.1 (by omega)
   have r2:=zAN s2.1 (by omega)
   simp only [hk,r1,r2]
   rfl
 · show (tk (y,true) 8).2.2=_
   by_cases e:y.length < 8
   · rw [zAL e,decide_eq_false (by omega)]
   · rw [tk,if_neg e,if_pos rfl,decide_eq_true (by omega)]
theorem zqF {m:Msg} (h:valid m=true) (hi : ∀ x∈m.sums,okI x):dec (enc m)=(m,0):=by
 have he:enc m=zaX m++(sha (zaX m)).take 8:=by rw [enc,h];rfl
 have hl:((sha (zaX m)).take 8).length=8:=by rw [List.length_take,zah];rfl
 unfold dec
 rw [he,zl1 h hi,←he]
 unfold zi7
 rw [if_neg (by simp [hl]),if_pos rfl]
theorem zI8 {m:Msg} (h:valid m=true) (hi : ∀ x∈m.sums,okI x):dec ((enc m).take ((enc m).length - 1))=(zM,6):=by
 have he:enc m=zaX m++(sha (zaX m)).take 8:=by rw [enc,h];rfl
 have hl:((sha (zaX m)).take 8).length=8:=by rw [List.length_take,zah];rfl
 have hcut:(enc m).take ((enc m).length - 1)=zaX m++(sha (zaX m)).take 7:=by
  rw [he,List.length_append,hl,show (zaX m).length+8 - 1=(zaX m).length+7 by omega,List.take_length_add_append,List.take_take];rfl
 unfold dec
 rw [hcut,zl1 h hi]
 unfold zi7
 rw [if_pos (by simp [List.length_take,zah])]
theorem zdU {m:Msg} (h:valid m=true):(enc m).length=53+m.text.length+8*m.sums.length+16*m.values.length:=by
 have:=m.root.len
 rw [enc,h,if_pos rfl]
 simp only [zaX,List.length_append,yv,zcd,zce,List.length_take,zah,List.length_cons,List.length_nil]
 omega
end Go.Proofs.YtmoecjgehdkhkaaDoor

/-
  Sessions: the reference's small functions.
-/
namespace Go.Proofs.YtmoecjgehdkhkaaDoor
open Go Go.AL

def zqG (k s:Int):Bool :=
 if k=1 then s == 0 else if k=2 then s == 1 else if k=3 then s == 3 else if k=4 then decide (2≤s) && s % 2 == 0 else if k=5 then decide (5≤s) && s % 2 == 1 else if k=6 then decide (4≤s) && s % 2 == 0 else if k=7 then decide (2≤s) && s % 2 == 0 else false
theorem zAO (k s:Int):zqG k s=fits k s:=by
 by_cases h:k=1 ∨ k=2 ∨ k=3 ∨ k=4 ∨ k=5 ∨ k=6 ∨ k=7
 · rw [Bool.eq_iff_iff]
   rcases h with rfl | rfl | rfl | rfl | rfl | rfl | rfl<;>simp [zqG,fits,zau]<;>omega
 · simp only [not_or] at h
   obtain⟨h1,h2,h3,h4,h5,h6,h7⟩:=h
   simp [zqG,fits,zau,h1,h2,h3,h4,h5,h6,h7]
section walks
variable {G:Globs}
theorem zdV (n:Int) (H:Hp) (R:AV → Hp → Prop) (h:R (.p (bo (small n))) H):ACall Tryd.prog G 70 [.p (i64 n)] H R:=by
 have e:small n=(decide (0≤n) && decide (n < 2147483648)):=by
  unfold small
  congr 1
  exact decide_eq_decide.2 (by omega)
 rw [e] at h
 refine ACall.of_run (raw:=[]) Tryd.func70 rfl Tryd.ntmps70 (by simp) fun hbel => ?_
 refine .q ?_;refine .text ?_;simp (disch:=first|exact zb|fail) only [go_sem,seval]
 cases c:decide (0≤n) with
 | true =>
  rw [c] at h
  refine .q ?_;refine .text ?_;simp (disch:=first|exact zb|fail) only [go_sem,seval,c]
  refine .q ?_;refine .rt Tryd.func70 (by rw [Tryd.results70]) (hR := ?_);simp (disch:=first|exact zb|fail) only [go_sem,seval]
  exact h
 | false =>
  rw [c] at h
  refine .q ?_;refine .text ?_;simp (disch:=first|exact zb|fail) only [go_sem,seval,c]
  refine .q ?_;refine .rt Tryd.func70 (by rw [Tryd.results70]) (hR := ?_);simp (disch:=first|exact zb|fail) only [go_sem,seval]
  exact h
theorem zgF (id due:Int) (H:Hp) (R:AV → Hp → Prop) (h:R (.p (yt (zdc id due))) H):ACall Tryd.prog G 16 [.p (i64 id),.p (i64 due)] H R:=by
 refine ACall.of_run (raw:=[]) Tryd.func16 rfl Tryd.ntmps16 (by simp) fun hbel => ?_
 refine .q ?_;refine .text ?_;simp (disch:=first|exact zb|fail) only [go_sem,seval,-List.reduceReplicate]
 refine .q ?_;refine .text ?_;simp (disch:=first|exact zb|fail) only [go_sem,seval,-List.reduceReplicate,zl]
 refine .q ?_;refine .rt Tryd.func16 (by rw [Tryd.results16]) (hR := ?_);simp (disch:=first|exact zb|fail) only [go_sem,seval,-List.reduceReplicate]
 exact h
theorem zdW (s:Ses) (H:Hp) (R:AV → Hp → Prop) (h:R (.p (bo (decide (3≤s.state)))) H):ACall Tryd.prog G 50 [.p (yt s)] H R:=by
 refine ACall.of_run (raw:=[]) Tryd.func50 rfl Tryd.ntmps50 (by simp) fun hbel => ?_
 refine .q ?_;refine .text ?_;simp (disch:=first|exact zb|fail) only [go_sem,seval]
 refine .q ?_;refine .text ?_;simp (disch:=first|exact zb|fail) only [go_sem,seval]
 refine .q ?_;refine .rt Tryd.func50 (by rw [Tryd.results50]) (hR := ?_);simp (disch:=first|exact zb|fail) only [go_sem,seval]
 exact h
def turn (s:Ses):Bool:=s.state == 0 || zcZ s
theorem zer (s:Ses) (h1:0≤s.step) (h2:0≤s.last.step) (H:Hp) (R:AV → Hp → Prop) (h:R (.p (bo (turn s))) H):ACall Tryd.prog G 51 [.p (yt s)] H R:=by
 unfold turn zcZ at h
 refine ACall.of_run (raw:=[]) Tryd.func51 rfl Tryd.ntmps51 (by simp) fun hbel => ?_
 refine .q ?_;refine .text ?_;simp (disch:=first|exact zb|fail) only [go_sem,seval]
 refine .q ?_;refine .text ?_;simp (disch:=first|exact zb|fail) only [go_sem,seval]
 cases c:s.state == 0 with
 | true =>
  rw [c] at h
  refine .q ?_;refine .ifT (by simp (disch:=first|exact zb|fail) only [go_sem,seval,c]) ?_
  refine .q ?_;refine .text ?_;simp (disch:=first|exact zb|fail) only [go_sem,seval]
  refine .q ?_;refine .rt Tryd.func51 (by rw [Tryd.results51]) (hR := ?_);simp (disch:=first|exact zb|fail) only [go_sem,seval]
  exact h
 | false =>
  rw [c] at h
  refine .q ?_;refine .ifF (by simp (disch:=first|exact zb|fail) only [go_sem,seval,c]) ?_
  refine .q ?_;refine .text ?_;simp (disch:=first|exact zb|fail) only [go_sem,seval]
  cases c1:s.last.kind != 0 with
  | true =>
   rw [c1] at h
   simp (disch:=first|exact zb|fail) only [go_sem,seval,c1]
   refine .q ?_;refine .text ?_;simp (disch:=first|exact zb|fail) only [go_sem,seval]
   refine .q ?_;refine .rt Tryd.func51 (by rw [Tryd.results51]) (hR := ?_);simp (disch:=first|exact zb|fail) only [go_sem,seval]
   simpa using h
  | false =>
   rw [c1] at h
   simp (disch:=first|exact zb|fail) only [go_sem,seval,c1]
   refine .q ?_;refine .text ?_;simp (disch:=first|exact zb|fail) only [go_sem,seval]
   refine .q ?_;refine .rt Tryd.func51 (by rw [Tryd.results51]) (hR := ?_);simp (disch:=first|exact zb|fail) only [go_sem,seval]
   simpa using h
theorem zes (k s:Int) (H:Hp) (R:AV → Hp → Prop) (h:R (.p (bo (fits k s))) H):ACall Tryd.prog G 52 [.p (i64 k),.p (i64 s)] H R:=by
 rw [←zAO] at h
 unfold zqG at h
 refine ACall.of_run (raw:=[]) Tryd.func52 rfl Tryd.ntmps52 (by simp) fun hbel => ?_
 refine .q ?_;refine .text ?_;simp (disch:=first|exact zb|fail) only [go_sem,seval]
 refine .q ?_;refine .text ?_;simp (disch:=first|exact zb|fail) only [go_sem,seval]
 cases c1:k == 1 with
 | true =>
  obtain rfl:k=1:=by simpa using c1
  simp only [if_true,reduceIte,Int.reduceEq] at h
  refine .q ?_;refine .text ?_;simp (disch:=first|exact zb|fail) only [go_sem,seval,c1]
  refine .q ?_;refine .ifT (by simp (disch:=first|exact zb|fail) only [go_sem,seval]) ?_
  refine .q ?_;refine .text ?_;simp (disch:=first|exact zb|fail) only [go_sem,seval]
  refine .q ?_;refine .rt Tryd.func52 (by rw [Tryd.results52]) (hR := ?_);simp (disch:=first|exact zb|fail) only [go_sem,seval]
  exact h
 | false =>
  have n1 : ¬ k=1:=by simpa using c1
  rw [if_neg n1] at h
  refine .q ?_;refine .text ?_;simp (disch:=first|exact zb|fail) only [go_sem,seval,c1]
  refine .q ?_;refine .ifF (by simp (disch:=first|exact zb|fail) only [go_sem,seval,c1]) ?_
  cases c2:k == 2 with
  | true =>
   obtain rfl:k=2:=by simpa using c2
   simp only [if_true,reduceIte,Int.reduceEq] at h
   refine .q ?_;refine .text ?_;simp (disch:=first|exact zb|fail) only [go_sem,seval,c2]
   refine .q ?_;refine .ifT (by simp (disch:=first|exact zb|fail) only [go_sem,seval]) ?_
   refine .q ?_;refine .text ?_;simp (disch:=first|exact zb|fail) only [go_sem,seval]
   refine .q ?_;refine .rt Tryd.func52 (by rw [Tryd.results52]) (hR := ?_);simp (disch:=first|exact zb|fail) only [go_sem,seval]
   exact h
  | false =>
   have n2 : ¬ k=2:=by simpa using c2
   rw [if_neg n2] at h
   refine .q ?_;refine .text ?_;simp (disch:=first|exact zb|fail) only [go_sem,seval,c2]
   refine .q ?_;refine .ifF (by simp (disch:=first|exact zb|fail) only [go_sem,seval,c2]) ?_
   cases c3:k == 3 with
   | true =>
    obtain rfl:k=3:=by simpa using c3
    simp only [if_true,reduceIte,Int.reduceEq] at h
    refine .q ?_;refine .text ?_;simp (disch:=first|exact zb|fail) only [go_sem,seval,c3]
    refine .q ?_;refine .ifT (by simp (disch:=first|exact zb|fail) only [go_sem,seval]) ?_
    refine .q ?_;refine .text ?_;simp (disch:=first|exact zb|fail) only [go_sem,seval]
    refine .q ?_;refine .rt Tryd.func52 (by rw [Tryd.results52]) (hR := ?_);simp (disch:=first|exact zb|fail) only [go_sem,seval]
    exact h
   | false =>
    have n3 : ¬ k=3:=by simpa using c3
    rw [if_neg n3] at h
    refine .q ?_;refine .text ?_;simp (disch:=first|exact zb|fail) only [go_sem,seval,c3]
    refine .q ?_;refine .ifF (by simp (disch:=first|exact zb|fail) only [go_sem,seval,c3]) ?_
    cases c4:k == 4 with
    | true =>
     obtain rfl:k=4:=by simpa using c4
     simp only [if_true,reduceIte,Int.reduceEq] at h
     refine .q ?_;refine .text ?_;simp (disch:=first|exact zb|fail) only [go_sem,seval,c4]
     refine .q ?_;refine .ifT (by simp (disch:=first|exact zb|fail) only [go_sem,seval]) ?_
     refine .q ?_;refine .text ?_;simp (disch:=first|exact zb|fail) only [go_sem,seval]
     cases q:decide ((2:Int)≤s) with
     | true =>
      rw [q] at h
      have hs:0≤s:=by have:=of_decide_eq_true q;omega
      simp (disch:=first|exact zb|fail) only [go_sem,seval,q]
      refine .q ?_;refine .rt Tryd.func52 (by rw [Tryd.results52]) (hR := ?_);simp (disch:=first|exact zb|fail) only [go_sem,seval]
      exact h
     | false =>
      rw [q] at h
      simp (disch:=first|exact zb|fail) only [go_sem,seval,q]
      refine .q ?_;refine .rt Tryd.func52 (by rw [Tryd.results52]) (hR := ?_);simp (disch:=first|exact zb|fail) only [go_sem,seval]
      exact h
    | false =>
     have n4 : ¬ k=4:=by simpa using c4
     rw [if_neg n4] at h
     refine .q ?_;refine .text ?_;simp (disch:=first|exact zb|fail) only [go_sem,seval,c4]
     refine .q ?_;refine .ifF (by simp (disch:=first|exact zb|fail) only [go_sem,seval,c4]) ?_
     cases c5:k == 5 with
     | true =>
      obtain rfl:k=5:=by simpa using c5
      simp only [if_true,reduceIte,Int.reduceEq] at h
      refine .q ?_;refine .text ?_;simp (disch:=first|exact zb|fail) only [go_sem,seval,c5]
      refine .q ?_;refine .ifT (by simp (disch:=first|exact zb|fail) only [go_sem,seval]) ?_
      refine .q ?_;refine .text ?_;simp (disch:=first|exact zb|fail) only [go_sem,seval]
      cases q:decide ((5:Int)≤s) with
      | true =>
       rw [q] at h
       have hs:0≤s:=by have:=of_decide_eq_true q;omega
       simp (disch:=first|exact zb|fail) only [go_sem,seval,q]
       refine .q ?_;refine .rt Tryd.func52 (by rw [Tryd.results52]) (hR := ?_);simp (disch:=first|exact zb|fail) only [go_sem,seval]
       exact h
      | false =>
       rw [q] at h
       simp (disch:=first|exact zb|fail) only [go_sem,seval,q]
       refine .q ?_;refine .rt Tryd.func52 (by rw [Tryd.results52]) (hR := ?_);simp (disch:=first|exact zb|fail) only [go_sem,seval]
       exact h
     | false =>
      have n5 : ¬ k=5:=by simpa using c5
      rw [if_neg n5] at h
      refine .q ?_;refine .text ?_;simp (disch:=first|exact zb|fail) only [go_sem,seval,c5]
      refine .q ?_;refine .ifF (by simp (disch:=first|exact zb|fail) only [go_sem,seval,c5]) ?_
      cases c6:k == 6 with
      | true =>
       obtain rfl:k=6:=by simpa using c6
       simp only [if_true,reduceIte,Int.reduceEq] at h
       refine .q ?_;refine .text ?_;simp (disch:=first|exact zb|fail) only [go_sem,seval,c6]
       refine .q ?_;refine .ifT (by simp (disch:=first|exact zb|fail) only [go_sem,seval]) ?_
       refine .q ?_;refine .text ?_;simp (disch:=first|exact zb|fail) only [go_sem,seval]
       cases q:decide ((4:Int)≤s) with
       | true =>
        rw [q] at h
        have hs:0≤s:=by have:=of_decide_eq_true q;omega
        simp (disch:=first|exact zb|fail) only [go_sem,seval,q]
        refine .q ?_;refine .rt Tryd.func52 (by rw [Tryd.results52]) (hR := ?_);simp (disch:=first|exact zb|fail) only [go_sem,seval]
        exact h
       | false =>
        rw [q] at h
        simp (disch:=first|exact zb|fail) only [go_sem,seval,q]
        refine .q ?_;refine .rt Tryd.func52 (by rw [Tryd.results52]) (hR := ?_);simp (disch:=first|exact zb|fail) only [go_sem,seval]
        exact h
      | false =>
       have n6 : ¬ k=6:=by simpa using c6
       rw [if_neg n6] at h
       refine .q ?_;refine .text ?_;simp (disch:=first|exact zb|fail) only [go_sem,seval,c6]
       refine .q ?_;refine .ifF (by simp (disch:=first|exact zb|fail) only [go_sem,seval,c6]) ?_
       cases c7:k == 7 with
       | true =>
        obtain rfl:k=7:=by simpa using c7
        simp only [if_true,reduceIte,Int.reduceEq] at h
        refine .q ?_;refine .text ?_;simp (disch:=first|exact zb|fail) only [go_sem,seval,c7]
        refine .q ?_;refine .ifT (by simp (disch:=first|exact zb|fail) only [go_sem,seval]) ?_
        refine .q ?_;refine .text ?_;simp (disch:=first|exact zb|fail) only [go_sem,seval]
        cases q:decide ((2:Int)≤s) with
        | true =>
         rw [q] at h
         have hs:0≤s:=by have:=of_decide_eq_true q;omega
         simp (disch:=first|exact zb|fail) only [go_sem,seval,q]
         refine .q ?_;refine .rt Tryd.func52 (by rw [Tryd.results52]) (hR := ?_);simp (disch:=first|exact zb|fail) only [go_sem,seval]
         exact h
        | false =>
         rw [q] at h
         simp (disch:=first|exact zb|fail) only [go_sem,seval,q]
         refine .q ?_;refine .rt Tryd.func52 (by rw [Tryd.results52]) (hR := ?_);simp (disch:=first|exact zb|fail) only [go_sem,seval]
         exact h
       | false =>
        have n7 : ¬ k=7:=by simpa using c7
        rw [if_neg n7] at h
        refine .q ?_;refine .text ?_;simp (disch:=first|exact zb|fail) only [go_sem,seval,c7]
        refine .q ?_;refine .ifF (by simp (disch:=first|exact zb|fail) only [go_sem,seval,c7]) ?_
        refine .q ?_;refine .text ?_;simp (disch:=first|exact zb|fail) only [go_sem,seval]
        refine .q ?_;refine .rt Tryd.func52 (by rw [Tryd.results52]) (hR := ?_);simp (disch:=first|exact zb|fail) only [go_sem,seval]
        exact h
end walks
end Go.Proofs.YtmoecjgehdkhkaaDoor

/-
  Sessions: the reference's validity and encoding.
-/
namespace Go.Proofs.YtmoecjgehdkhkaaDoor
open Go Go.AL

def zAP (m:Msg):Bool:=if m.kind=1 then ((((decide (1≤(m.text.length:Int))) && (decide ((m.text.length:Int)≤400))) && ((m.sums.length:Int) == 0)) && ((m.values.length:Int) == 0)) else if m.kind=3 then ((((m.text.length:Int) == 0) && (decide ((m.sums.length:Int)≤64))) && ((m.values.length:Int) == 0)) else if m.kind=4 then ((((m.text.length:Int) == 0) && ((m.sums.length:Int) == 0)) && ((m.values.length:Int) == 1)) else if m.kind=5 then ((((m.text.length:Int) == 0) && ((m.sums.length:Int) == 0)) && (decide ((m.values.length:Int)≤64))) else ((((m.text.length:Int) == 0) && ((m.sums.length:Int) == 0)) && ((m.values.length:Int) == 0))
theorem zAQ (m:Msg):zAP m=holds m.kind m.text.length m.sums.length m.values.length:=by
 unfold zAP holds
 (repeat' split)<;>rw [Bool.eq_iff_iff]<;>simp only [Bool.and_eq_true,decide_eq_true_eq,beq_iff_eq]<;>omega
section walks
variable {G:Globs}
theorem zet (x:U) (H:Hp) (R:AV → Hp → Prop) (h:R (.p (bo (fOK x))) H):ACall Tryd.prog G 87 [.p (zw x)] H R:=by
 refine ACall.of_run (raw:=[]) Tryd.func87 rfl Tryd.ntmps87 (by simp) fun hbel => ?_
 refine .q ?_;refine .text ?_;simp (disch:=first|exact zb|fail) only [go_sem,seval,-List.reduceReplicate]
 refine .q ?_;refine .text ?_;simp (disch:=first|exact zb|fail) only [go_sem,seval,-List.reduceReplicate]
 refine .q ?_;refine .rt Tryd.func87 (by rw [Tryd.results87]) (hR := ?_);simp (disch:=first|exact zb|fail) only [go_sem,seval,-List.reduceReplicate]
 exact h
theorem zl2 (x:Ext) (H:Hp) (R:AV → Hp → Prop) (h:R (.p (bo (zaS x))) H):ACall Tryd.prog G 85 [.p (ext x)] H R:=by
 unfold zaS at h
 refine ACall.of_run (raw:=[]) Tryd.func85 rfl Tryd.ntmps85 (by simp) fun hbel => ?_
 refine .q ?_;refine .text ?_;simp (disch:=first|exact zb|fail) only [go_sem,seval,-List.reduceReplicate]
 refine .q ?_;refine .text ?_;simp (disch:=first|exact zb|fail) only [go_sem,seval,-List.reduceReplicate]
 refine CallK.of (fun R h=>zet _ _ R h) ?_;simp (disch:=first|exact zb|fail) only [go_sem,seval,-List.reduceReplicate]
 cases h1:fOK x.a with
 | true =>
  simp (disch:=first|exact zb|fail) only [go_sem,seval,-List.reduceReplicate]
  refine CallK.of (fun R h=>zet _ _ R h) ?_;simp (disch:=first|exact zb|fail) only [go_sem,seval,-List.reduceReplicate]
  refine .q ?_;refine .rt Tryd.func85 (by rw [Tryd.results85]) (hR := ?_);simp (disch:=first|exact zb|fail) only [go_sem,seval,-List.reduceReplicate]
  simpa [h1] using h
 | false =>
  simp (disch:=first|exact zb|fail) only [go_sem,seval,-List.reduceReplicate]
  refine .q ?_;refine .rt Tryd.func85 (by rw [Tryd.results85]) (hR := ?_);simp (disch:=first|exact zb|fail) only [go_sem,seval,-List.reduceReplicate]
  simpa [h1] using h
set_option maxHeartbeats 8000000 in
theorem zhh (m:Msg) (hm:m.Ok) (H:Hp) (R:AV → Hp → Prop) (h:R (.p (bo (holds m.kind m.text.length m.sums.length m.values.length && !m.values.any fun x => !zaS x))) H):ACall Tryd.prog G 71 [.p (yK m)] H R:=by
 have ht:=hm.text
 have hsu:=hm.sums
 have hva:=hm.values
 rw [←zAQ] at h
 refine ACall.of_run (raw:=[]) Tryd.func71 rfl Tryd.ntmps71 (by simp) fun hbel => ?_
 refine .q ?_;refine .text ?_;simp (disch:=first|exact zb|fail) only [go_sem,seval,-List.reduceReplicate]
 refine .q ?_;refine .open [] follows (by kernel_rfl) ?_;simp (disch:=first|exact zb|fail) only [go_sem,seval,-List.reduceReplicate]
 refine .q ?_;refine .text ?_;simp (disch:=first|exact zb|fail) only [go_sem,seval,-List.reduceReplicate]
 refine .q ?_;refine .loopE [1,3,4,5] (fun i=>[(6,.p (i64 i)),(2,.p (bo false))]) (fun i=>[]) (fun i => ∀ j,j < i → (!zaS (nth m.values j))=false) (0) (m.values.length) (by omega) ?_ (by first | rfl | (simp (disch:=first|exact zb|fail) only [go_sem,seval,-List.reduceReplicate]<;>rfl)) ?_ ?_ ?_
 · simp (disch:=first|exact zb|fail) only [go_sem,seval,-List.reduceReplicate]<;>(repeat' (first | rfl | refine And.intro ?_ ?_))
 rotate_left 1
 intro env E hQ;simp (disch:=first|exact zb|fail) only [go_sem,seval,-List.reduceReplicate] at E
 rotate_left 1
 intro i env hi0 hi E hQ ihE;simp (disch:=first|exact zb|fail) only [go_sem,seval,-List.reduceReplicate] at E
 rotate_left 1
 · exact fun j hj=>absurd hj (by omega)
 · have hn:=zqs (p:=fun x => !zaS x) hQ
   rw [hn,Bool.not_false,Bool.and_true] at h
   unfold zAP at h
   refine .q ?_;refine .text ?_;simp (disch:=first|exact zb|fail) only [go_sem,seval,-List.reduceReplicate,E]
   refine .q ?_;refine .ifF (by simp (disch:=first|exact zb|fail) only [go_sem,seval,-List.reduceReplicate]) ?_
   refine .q ?_;refine .text ?_;simp (disch:=first|exact zb|fail) only [go_sem,seval,-List.reduceReplicate,E]
   cases c1:m.kind == 1 with
   | true =>
    have k1:m.kind=1:=by simpa using c1
    simp only [k1,if_true,reduceIte,Int.reduceEq] at h
    refine .q ?_;refine .text ?_;simp (disch:=first|exact zb|fail) only [go_sem,seval,-List.reduceReplicate,c1]
    refine .q ?_;refine .ifT (by simp (disch:=first|exact zb|fail) only [go_sem,seval,-List.reduceReplicate]) ?_
    refine .q ?_;refine .text ?_;simp (disch:=first|exact zb|fail) only [go_sem,seval,-List.reduceReplicate,E]
    cases a0:(decide (1≤(m.text.length:Int)))<;>cases a1:(decide ((m.text.length:Int)≤400))<;>cases a2:((m.sums.length:Int) == 0)<;>cases a3:((m.values.length:Int) == 0)
    all_goals (rw [a0,a1,a2,a3] at h;(try simp (disch:=first|exact zb|fail) only [go_sem,seval,-List.reduceReplicate,E,a0,a1,a2,a3]);refine .q ?_;refine .rt Tryd.func71 (by rw [Tryd.results71]) (hR := ?_);simp (disch:=first|exact zb|fail) only [go_sem,seval,-List.reduceReplicate];simpa using h)
   | false =>
    have n1 : ¬ m.kind=1:=by simpa using c1
    rw [if_neg n1] at h
    refine .q ?_;refine .text ?_;simp (disch:=first|exact zb|fail) only [go_sem,seval,-List.reduceReplicate,c1]
    refine .q ?_;refine .ifF (by simp (disch:=first|exact zb|fail) only [go_sem,seval,-List.reduceReplicate]) ?_
    cases c3:m.kind == 3 with
    | true =>
     have k3:m.kind=3:=by simpa using c3
     simp only [k3,if_true,reduceIte,Int.reduceEq] at h
     refine .q ?_;refine .text ?_;simp (disch:=first|exact zb|fail) only [go_sem,seval,-List.reduceReplicate,c3]
     refine .q ?_;refine .ifT (by simp (disch:=first|exact zb|fail) only [go_sem,seval,-List.reduceReplicate]) ?_
     refine .q ?_;refine .text ?_;simp (disch:=first|exact zb|fail) only [go_sem,seval,-List.reduceReplicate,E]
     cases a0:((m.text.length:Int) == 0)<;>cases a1:(decide ((m.sums.length:Int)≤64))<;>cases a2:((m.values.length:Int) == 0)
     all_goals (rw [a0,a1,a2] at h;(try simp (disch:=first|exact zb|fail) only [go_sem,seval,-List.reduceReplicate,E,a0,a1,a2]);refine .q ?_;refine .rt Tryd.func71 (by rw [Tryd.results71]) (hR := ?_);simp (disch:=first|exact zb|fail) only [go_sem,seval,-List.reduceReplicate];simpa using h)
    | false =>
     have n3 : ¬ m.kind=3:=by simpa using c3
     rw [if_neg n3] at h
     refine .q ?_;refine .text ?_;simp (disch:=first|exact zb|fail) only [go_sem,seval,-List.reduceReplicate,c3]
     refine .q ?_;refine .ifF (by simp (disch:=first|exact zb|fail) only [go_sem,seval,-List.reduceReplicate]) ?_
     cases c4:m.kind == 4 with
     | true =>
      have k4:m.kind=4:=by simpa using c4
      simp only [k4,if_true,reduceIte,Int.reduceEq] at h
      refine .q ?_;refine .text ?_;simp (disch:=first|exact zb|fail) only [go_sem,seval,-List.reduceReplicate,c4]
      refine .q ?_;refine .ifT (by simp (disch:=first|exact zb|fail) only [go_sem,seval,-List.reduceReplicate]) ?_
      refine .q ?_;refine .text ?_;simp (disch:=first|exact zb|fail) only [go_sem,seval,-List.reduceReplicate,E]
      cases a0:((m.text.length:Int) == 0)<;>cases a1:((m.sums.length:Int) == 0)<;>cases a2:((m.values.length:Int) == 1)
      all_goals (rw [a0,a1,a2] at h;(try simp (disch:=first|exact zb|fail) only [go_sem,seval,-List.reduceReplicate,E,a0,a1,a2]);refine .q ?_;refine .rt Tryd.func71 (by rw [Tryd.results71]) (hR := ?_);simp (disch:=first|exact zb|fail) only [go_sem,seval,-List.reduceReplicate];simpa using h)
     | false =>
      have n4 : ¬ m.kind=4:=by simpa using c4
      rw [if_neg n4] at h
      refine .q ?_;refine .text ?_;simp (disch:=first|exact zb|fail) only [go_sem,seval,-List.reduceReplicate,c4]
      refine .q ?_;refine .ifF (by simp (disch:=first|exact zb|fail) only [go_sem,seval,-List.reduceReplicate]) ?_
      cases c5:m.kind == 5 with
      | true =>
       have k5:m.kind=5:=by simpa using c5
       simp only [k5,if_true,reduceIte,Int.reduceEq] at h
       refine .q ?_;refine .text ?_;simp (disch:=first|exact zb|fail) only [go_sem,seval,-List.reduceReplicate,c5]
       refine .q ?_;refine .ifT (by simp (disch:=first|exact zb|fail) only [go_sem,seval,-List.reduceReplicate]) ?_
       refine .q ?_;refine .text ?_;simp (disch:=first|exact zb|fail) only [go_sem,seval,-List.reduceReplicate,E]
       cases a0:((m.text.length:Int) == 0)<;>cases a1:((m.sums.length:Int) == 0)<;>cases a2:(decide ((m.values.length:Int)≤64))
       all_goals (rw [a0,a1,a2] at h;(try simp (disch:=first|exact zb|fail) only [go_sem,seval,-List.reduceReplicate,E,a0,a1,a2]);refine .q ?_;refine .rt Tryd.func71 (by rw [Tryd.results71]) (hR := ?_);simp (disch:=first|exact zb|fail) only [go_sem,seval,-List.reduceReplicate];simpa using h)
      | false =>
       have n5 : ¬ m.kind=5:=by simpa using c5
       rw [if_neg n5] at h
       refine .q ?_;refine .text ?_;simp (disch:=first|exact zb|fail) only [go_sem,seval,-List.reduceReplicate,c5]
       refine .q ?_;refine .ifF (by simp (disch:=first|exact zb|fail) only [go_sem,seval,-List.reduceReplicate]) ?_
       refine .q ?_;refine .text ?_;simp (disch:=first|exact zb|fail) only [go_sem,seval,-List.reduceReplicate,E]
       cases a0:((m.text.length:Int) == 0)<;>cases a1:((m.sums.length:Int) == 0)<;>cases a2:((m.values.length:Int) == 0)
       all_goals (rw [a0,a1,a2] at h;(try simp (disch:=first|exact zb|fail) only [go_sem,seval,-List.reduceReplicate,E,a0,a1,a2]);refine .q ?_;refine .rt Tryd.func71 (by rw [Tryd.results71]) (hR := ?_);simp (disch:=first|exact zb|fail) only [go_sem,seval,-List.reduceReplicate];simpa using h)
 · refine .q ?_;refine .text ?_;simp (disch:=first|exact zb|fail) only [go_sem,seval,-List.reduceReplicate,E]
   refine .q ?_;refine .ifT (by simp (disch:=first|exact zb|fail) only [go_sem,seval,-List.reduceReplicate]) ?_
   refine .q ?_;refine .text ?_;simp (disch:=first|exact zb|fail) only [go_sem,seval,-List.reduceReplicate,E]
   refine CallK.of (fun R h=>zl2 _ _ R h) ?_;simp (disch:=first|exact zb|fail) only [go_sem,seval,-List.reduceReplicate]
   cases hc:zaS (nth m.values i) with
   | false =>
    have hn:=zAr (p:=fun x => !zaS x) hi (by rw [hc];rfl)
    rw [hn,Bool.not_true,Bool.and_false] at h
    refine .q ?_;refine .ifT (by simp (disch:=first|exact zb|fail) only [go_sem,seval,-List.reduceReplicate,hc]) ?_
    refine .q ?_;refine .text ?_;simp (disch:=first|exact zb|fail) only [go_sem,seval,-List.reduceReplicate,E]
    refine .q ?_;refine .rt Tryd.func71 (by rw [Tryd.results71]) (hR := ?_);simp (disch:=first|exact zb|fail) only [go_sem,seval,-List.reduceReplicate]
    exact h
   | true =>
    have hn : ∀ j,j < i+1 → (!zaS (nth m.values j))=false:=fun j hj=>by
     rcases Nat.lt_or_ge j i with q | q
     · exact hQ j q
     · rw [show j=i by omega,hc];rfl
    refine .q ?_;refine .ifF (by simp (disch:=first|exact zb|fail) only [go_sem,seval,-List.reduceReplicate,hc]) ?_
    refine .q ?_;refine .text ?_;simp (disch:=first|exact zb|fail) only [go_sem,seval,-List.reduceReplicate,E]
    first | (refine ihE _ _ ?_ hn ?_) | (refine .z rfl ?_;refine ihE _ _ ?_ hn ?_) | (refine .z rfl ?_;refine .z rfl ?_;refine ihE _ _ ?_ hn ?_) | (refine .z rfl ?_;refine .z rfl ?_;refine .z rfl ?_;refine ihE _ _ ?_ hn ?_)
    · simp (disch:=first|exact zb|fail) only [go_sem,seval,-List.reduceReplicate,E]<;>(repeat' (first | rfl | refine And.intro ?_ ?_))
    · first | rfl | (simp (disch:=first|exact zb|fail) only [go_sem,seval,-List.reduceReplicate,E]<;>(try rfl))
theorem zdX (m:Msg) (hm:m.Ok) (H:Hp) (R:AV → Hp → Prop) (h:R (.p (bo (valid m))) H):ACall Tryd.prog G 42 [.p (yK m)] H R:=by
 unfold valid at h
 refine ACall.of_run (raw:=[]) Tryd.func42 rfl Tryd.ntmps42 (by simp) fun hbel => ?_
 refine .q ?_;refine .text ?_;simp (disch:=first|exact zb|fail) only [go_sem,seval,-List.reduceReplicate]
 refine .q ?_;refine .text ?_;simp (disch:=first|exact zb|fail) only [go_sem,seval,-List.reduceReplicate]
 refine CallK.of (fun R h=>zdV _ _ R h) ?_;simp (disch:=first|exact zb|fail) only [go_sem,seval,-List.reduceReplicate]
 cases v1:small m.session with
 | false =>
  rw [v1] at h
  simp (disch:=first|exact zb|fail) only [go_sem,seval,-List.reduceReplicate]
  refine .q ?_;refine .rt Tryd.func42 (by rw [Tryd.results42]) (hR := ?_);simp (disch:=first|exact zb|fail) only [go_sem,seval,-List.reduceReplicate]
  exact h
 | true =>
  rw [v1] at h
  simp (disch:=first|exact zb|fail) only [go_sem,seval,-List.reduceReplicate]
  refine CallK.of (fun R h=>zdV _ _ R h) ?_;simp (disch:=first|exact zb|fail) only [go_sem,seval,-List.reduceReplicate]
  cases v2:small m.step with
  | false =>
   rw [v2] at h
   simp (disch:=first|exact zb|fail) only [go_sem,seval,-List.reduceReplicate]
   refine .q ?_;refine .rt Tryd.func42 (by rw [Tryd.results42]) (hR := ?_);simp (disch:=first|exact zb|fail) only [go_sem,seval,-List.reduceReplicate]
   exact h
  | true =>
   rw [v2] at h
   simp (disch:=first|exact zb|fail) only [go_sem,seval,-List.reduceReplicate]
   refine CallK.of (fun R h=>zes _ _ _ R h) ?_;simp (disch:=first|exact zb|fail) only [go_sem,seval,-List.reduceReplicate]
   cases v3:fits m.kind m.step with
   | false =>
    rw [v3] at h
    simp (disch:=first|exact zb|fail) only [go_sem,seval,-List.reduceReplicate]
    refine .q ?_;refine .rt Tryd.func42 (by rw [Tryd.results42]) (hR := ?_);simp (disch:=first|exact zb|fail) only [go_sem,seval,-List.reduceReplicate]
    exact h
   | true =>
    rw [v3] at h
    simp (disch:=first|exact zb|fail) only [go_sem,seval,-List.reduceReplicate]
    refine CallK.of (fun R h=>zhh m hm _ R h) ?_;simp (disch:=first|exact zb|fail) only [go_sem,seval,-List.reduceReplicate]
    refine .q ?_;refine .rt Tryd.func42 (by rw [Tryd.results42]) (hR := ?_);simp (disch:=first|exact zb|fail) only [go_sem,seval,-List.reduceReplicate]
    simpa [Bool.and_assoc] using h
end walks
end Go.Proofs.YtmoecjgehdkhkaaDoor

/-
  Sessions: the reference's encoding.
-/
namespace Go.Proofs.YtmoecjgehdkhkaaDoor
open Go Go.AL

theorem zgG {P:Program} {H:Hp} {s d:TypeId} {l:By} (hs:P.underlying s=some .string) (hd:zcb P d=true) (hl:l.length≤140737488355000):zO P H s d (.p (str (bytesOf l)))=some (.p (.sl false 1 (pl b8 l))):=by
 obtain⟨e,h1,h2,h3⟩:=zco hd
 have hz:(bytesOf l).size≤9223372036854775806:=by rw [zaR];omega
 have:=yn (l:=l)
 simp only [zO,hs,h1,zb8,h2,str,hz,if_true,this]
section walks
variable {G:Globs}
set_option maxHeartbeats 4000000 in
theorem zl3 (b:By) (x:U) (n:Nat) (hn:n≤8) (hb:b.length+n≤140737488355000) (α v:Nat) (H:Hp) (hα:H.f α=some (.tail v)) (R:AV → Hp → Prop) (h:R (.sl α (v+n) 1 (pl b8 (b++le x n))) (H.set α (.tail (v+n)))) :
 ACall Tryd.prog G 43 [.sl α v 1 (pl b8 b),.p (zw x),.p (i64 n)] H R:=by
 refine ACall.of_run (raw:=[]) Tryd.func43 rfl Tryd.ntmps43 (by simp) fun hbel => ?_
 have hαn:=Hp.lt hα
 have hs0:H.set α (.tail v)=H:=Hp.set_same H _ α hα
 refine .q ?_;refine .text ?_;simp (disch:=first|exact zb|fail) only [go_sem,seval]
 refine .q ?_;refine .text ?_;simp (disch:=first|exact zb|fail) only [go_sem,seval]
 refine .q ?_;refine .loopH [1,2] (fun i=>[(0,.sl α (v+i) 1 (pl b8 (b++le x i))),(7,.p (i64 i))]) (fun i=>H.set α (.tail (v+i))) (fun i=>True) (0) (n) (by omega) ?_ (by first | rfl | (simp (disch:=first|exact zb|fail) only [go_sem,seval,le,hs0,List.append_nil,Nat.mul_zero,BitVec.ushiftRight_zero]<;>rfl)) ?_ ?_ ?_
 · simp (disch:=first|exact zb|fail) only [go_sem,seval,le,hs0,List.append_nil,Nat.mul_zero,BitVec.ushiftRight_zero]<;>(repeat' (first | rfl | refine And.intro ?_ ?_))
 · exact trivial
 intro env E hQ;simp (disch:=first|exact zb|fail) only [go_sem,seval,le,hs0,List.append_nil,Nat.mul_zero,BitVec.ushiftRight_zero] at E
 rotate_left 1
 intro i env hi0 hi E hQ ihE;simp (disch:=first|exact zb|fail) only [go_sem,seval,le,hs0,List.append_nil,Nat.mul_zero,BitVec.ushiftRight_zero] at E
 rotate_left 1
 · refine .q ?_;refine .text ?_;simp (disch:=first|exact zb|fail) only [go_sem,seval,E]
   refine .q ?_;refine .ifF (by simp (disch:=first|exact zb|fail) only [go_sem,seval]) ?_
   refine .q ?_;refine .text ?_;simp (disch:=first|exact zb|fail) only [go_sem,seval,E]
   refine .q ?_;refine .retKeep Tryd.func43 (by rw [Tryd.results43]) (by simp (disch:=first|exact zb|fail) only [go_sem,seval,E];rfl) ?_;(try simp (disch:=first|exact zb|fail) only [go_sem,seval,E])
   exact h
 · have hl:=yv (x:=x) (n:=i)
   obtain⟨k,hk,h8⟩ : ∃ k:Nat,8*i=k∧(8:Int)*(i:Int)=(k:Int):=⟨8*i,rfl,by omega⟩
   refine .q ?_;refine .text ?_;simp (disch:=first|exact zb|fail) only [go_sem,seval,E]
   refine .q ?_;refine .ifT (by simp (disch:=first|exact zb|fail) only [go_sem,seval]) ?_
   refine .q ?_;refine .text ?_;simp (disch:=first|exact zb|fail) only [go_sem,seval,E,hl,h8]
   refine .q ?_;refine .text ?_;simp (disch:=first|exact zb|fail) only [go_sem,seval,E]
   first | (refine ihE _ _ ?_ trivial ?_) | (refine .z rfl ?_;refine ihE _ _ ?_ trivial ?_) | (refine .z rfl ?_;refine .z rfl ?_;refine ihE _ _ ?_ trivial ?_) | (refine .z rfl ?_;refine .z rfl ?_;refine .z rfl ?_;refine ihE _ _ ?_ trivial ?_)
   · simp (disch:=first|exact zb|fail) only [go_sem,seval,E,zbt,hk,List.append_assoc,Nat.add_assoc]<;>(repeat' (first | rfl | refine And.intro ?_ ?_))
   · first | rfl | (simp (disch:=first|exact zb|fail) only [go_sem,seval,E,zbt,hk,List.append_assoc,Nat.add_assoc]<;>(try rfl))

set_option maxHeartbeats 4000000 in
theorem zi9 (b:By) (x:U) (n:Nat) (hn:n≤8) (hb:b.length+n≤140737488355000) (H:Hp) (R:AV → Hp → Prop) (h:R (.sl H.n n 1 (pl b8 (b++le x n))) (H.new (.tail n))) :
 ACall Tryd.prog G 43 [.p (.sl true 1 (pl b8 b)),.p (zw x),.p (i64 n)] H R:=by
 refine ACall.of_run (raw:=[]) Tryd.func43 rfl Tryd.ntmps43 (by simp) fun hbel => ?_
 refine .q ?_;refine .text ?_;simp (disch:=first|exact zb|fail) only [go_sem,seval]
 refine .q ?_;refine .own 0 (by simp (disch:=first|exact zb|fail) only [go_sem,seval];rfl) ?_
 refine .q ?_;refine .text ?_;simp (disch:=first|exact zb|fail) only [go_sem,seval]
 refine .q ?_;refine .loopH [1,2] (fun i=>[(0,.sl H.n i 1 (pl b8 (b++le x i))),(7,.p (i64 i))]) (fun i=>H.new (.tail i)) (fun i=>True) (0) (n) (by omega) ?_ (by first | rfl | (simp (disch:=first|exact zb|fail) only [go_sem,seval,le,List.append_nil,Nat.mul_zero,BitVec.ushiftRight_zero]<;>rfl)) ?_ ?_ ?_
 · simp (disch:=first|exact zb|fail) only [go_sem,seval,le,List.append_nil,Nat.mul_zero,BitVec.ushiftRight_zero]<;>(repeat' (first | rfl | refine And.intro ?_ ?_))
 · exact trivial
 intro env E hQ;simp (disch:=first|exact zb|fail) only [go_sem,seval,le,List.append_nil,Nat.mul_zero,BitVec.ushiftRight_zero] at E
 rotate_left 1
 intro i env hi0 hi E hQ ihE;simp (disch:=first|exact zb|fail) only [go_sem,seval,le,List.append_nil,Nat.mul_zero,BitVec.ushiftRight_zero] at E
 rotate_left 1
 · refine .q ?_;refine .text ?_;simp (disch:=first|exact zb|fail) only [go_sem,seval,E]
   refine .q ?_;refine .ifF (by simp (disch:=first|exact zb|fail) only [go_sem,seval]) ?_
   refine .q ?_;refine .text ?_;simp (disch:=first|exact zb|fail) only [go_sem,seval,E]
   refine .q ?_;refine .retKeep Tryd.func43 (by rw [Tryd.results43]) (by simp (disch:=first|exact zb|fail) only [go_sem,seval,E];rfl) ?_;(try simp (disch:=first|exact zb|fail) only [go_sem,seval,E])
   exact h
 · have hl:=yv (x:=x) (n:=i)
   obtain⟨k,hk,h8⟩ : ∃ k:Nat,8*i=k∧(8:Int)*(i:Int)=(k:Int):=⟨8*i,rfl,by omega⟩
   refine .q ?_;refine .text ?_;simp (disch:=first|exact zb|fail) only [go_sem,seval,E]
   refine .q ?_;refine .ifT (by simp (disch:=first|exact zb|fail) only [go_sem,seval]) ?_
   refine .q ?_;refine .text ?_;simp (disch:=first|exact zb|fail) only [go_sem,seval,E,hl,h8]
   refine .q ?_;refine .text ?_;simp (disch:=first|exact zb|fail) only [go_sem,seval,E]
   first | (refine ihE _ _ ?_ trivial ?_) | (refine .z rfl ?_;refine ihE _ _ ?_ trivial ?_) | (refine .z rfl ?_;refine .z rfl ?_;refine ihE _ _ ?_ trivial ?_) | (refine .z rfl ?_;refine .z rfl ?_;refine .z rfl ?_;refine ihE _ _ ?_ trivial ?_)
   · simp (disch:=first|exact zb|fail) only [go_sem,seval,E,zbt,hk,List.append_assoc]<;>(repeat' (first | rfl | refine And.intro ?_ ?_))
   · first | rfl | (simp (disch:=first|exact zb|fail) only [go_sem,seval,E,zbt,hk,List.append_assoc]<;>(try rfl))

theorem zja (m:Msg) (hm:m.Ok) (hv:valid m=false) (H:Hp) (R:AV → Hp → Prop) (h:R (.p (.s (.slice none 0 0))) H):ACall Tryd.prog G 13 [.p (yK m)] H R:=by
 refine ACall.of_run (raw:=[43]) Tryd.func13 rfl Tryd.ntmps13 (by simp) fun hbel => ?_
 refine .q ?_;refine .text ?_;simp (disch:=first|exact zb|fail) only [go_sem,seval]
 refine .q ?_;refine .text ?_;simp (disch:=first|exact zb|fail) only [go_sem,seval]
 refine CallK.of (fun R h=>zdX m hm _ R h) ?_;simp (disch:=first|exact zb|fail) only [go_sem,seval,hv]
 refine .q ?_;refine .ifT (by simp (disch:=first|exact zb|fail) only [go_sem,seval]) ?_
 refine .q ?_;refine .region ?_
 refine .nilA (by simp (disch:=first|exact zb|fail) only [go_sem,seval]<;>rfl) ?_
 refine .run ?_
 simp (disch:=first|exact zb|fail) only [go_sem,seval]
 refine .rt Tryd.func13 (by rw [Tryd.results13]) (hR := ?_);simp (disch:=first|exact zb|fail) only [go_sem,seval]
 exact h
set_option maxHeartbeats 8000000 in
set_option maxRecDepth 20000 in
theorem zgH (m:Msg) (hm:m.Ok) (hv:valid m=true) (H:Hp) (R:AV → Hp → Prop) (h:R (.p (.sl false 1 (pl b8 (zaX m++(sha (zaX m)).take 8)))) H):ACall Tryd.prog G 13 [.p (yK m)] H R:=by
 obtain⟨b1,b2,b3⟩:=zc9 hv
 have hrl:=m.root.len
 refine ACall.of_run (raw:=[43]) Tryd.func13 rfl Tryd.ntmps13 (by simp) fun hbel => ?_
 refine .q ?_;refine .text ?_;simp (disch:=first|exact zb|fail) only [go_sem,seval]
 refine .q ?_;refine .text ?_;simp (disch:=first|exact zb|fail) only [go_sem,seval]
 refine CallK.of (fun R h=>zdX m hm _ R h) ?_;simp (disch:=first|exact zb|fail) only [go_sem,seval,hv]
 refine .q ?_;refine .ifF (by simp (disch:=first|exact zb|fail) only [go_sem,seval]) ?_
 refine .q ?_;refine .text ?_;simp (disch:=first|exact zb|fail) only [go_sem,seval]
 refine .q ?_;refine .text ?_;simp (disch:=first|exact zb|fail) only [go_sem,seval]
 refine CallK.of (fun R h=>zi9 [BitVec.ofInt 8 m.kind] (BitVec.ofInt 64 m.session) 4 (by omega) (by simp) _ R h) ?_;simp (disch:=first|exact zb|fail) only [go_sem,seval]
 generalize hx1:BitVec.ofInt 8 m.kind :: le (BitVec.ofInt 64 m.session) 4=x1
 have l1:x1.length=5:=by rw [←hx1];simp [yv]
 have l2:(le (BitVec.ofInt 64 m.step) 4).length=4:=yv
 rw [zAs]
 have hw : ∀ (x:By) (w:U) (k n:Nat),k≤8 → x.length≤10000 → ∀ R:AV → Hp → Prop,R (.sl (H.n+1) (n+k) 1 (pl b8 (x++le w k))) (eH H m (n+k)) → ACall Tryd.prog G 43 [.sl (H.n+1) n 1 (pl b8 x),.p (zw w),.p (i64 k)] (eH H m n) R:=fun x w k n hk hx R h=>zl3 x w k hk (by omega) (H.n+1) n _ zlU R (by rw [zcW];exact h)
 refine .q ?_;refine .text ?_;simp (disch:=first|exact zb|fail) only [go_sem,seval]
 refine CallK.of (fun R h=>hw x1 _ 4 4 (by omega) (by omega) R h) ?_;simp (disch:=first|exact zb|fail) only [go_sem,seval]
 refine .q ?_;refine .text ?_;simp (disch:=first|exact zb|fail) only [go_sem,seval]
 refine CallK.of (fun R h=>zcq m.root.val hrl _ R h) ?_;simp (disch:=first|exact zb|fail) only [go_sem,seval,l1,l2,hrl]
 generalize hx2:x1++le (BitVec.ofInt 64 m.step) 4++m.root.val=x2 at *
 have l3:x2.length=41:=by rw [←hx2];simp [l1,l2,hrl]
 refine .q ?_;refine .text ?_;simp (disch:=first|exact zb|fail) only [go_sem,seval]
 refine CallK.of (fun R h=>hw x2 _ 2 9 (by omega) (by omega) R h) ?_;simp (disch:=first|exact zb|fail) only [go_sem,seval]
 have l4:(le (BitVec.ofInt 64 m.text.length) 2).length=2:=yv
 have htl:m.text.length≤140737488355000:=by omega
 refine .q ?_;refine .text ?_;simp (disch:=first|exact zb|fail) only [go_sem,seval,l3,l4,zgG]
 generalize hx3:x2++le (BitVec.ofInt 64 m.text.length) 2++m.text=x3 at *
 have l5:x3.length≤443:=by rw [←hx3];simp only [List.length_append,l3,l4];omega
 have e1 : ∀ n,(eH H m n).f H.n=some (.cells (mcl m)):=fun n=>zJ7
 refine .q ?_;refine .text ?_;simp (disch:=first|exact zb|fail) only [go_sem,seval,e1]
 refine .q ?_;refine .text ?_;simp (disch:=first|exact zb|fail) only [go_sem,seval,e1]
 have l6 : ∀ i,i≤m.sums.length → (x3++[BitVec.ofInt 8 m.sums.length]++encS (m.sums.take i)).length=x3.length+1+8*i:=fun i hi=>by
  simp only [List.length_append,zcd,List.length_take,List.length_cons,List.length_nil];omega
 have hw3 : ∀ i,i < m.sums.length → ∀ R:AV → Hp → Prop,R (.sl (H.n+1) (13+8*(i+1)) 1 (pl b8 (x3++[BitVec.ofInt 8 m.sums.length]++encS (m.sums.take (i+1))))) (eH H m (13+8*(i+1))) → ACall Tryd.prog G 43 [.sl (H.n+1) (13+8*i) 1 (pl b8 (x3++[BitVec.ofInt 8 m.sums.length]++encS (m.sums.take i))),.p (zw (BitVec.ofInt 64 (nth m.sums i))),.p (i64 8)] (eH H m (13+8*i)) R:=fun i hi R h=>hw _ (BitVec.ofInt 64 (nth m.sums i)) 8 (13+8*i) (by omega) (by rw [l6 i (by omega)];omega) R (by rw [List.append_assoc (x3++_),←zhO hi];exact h)
 refine .q ?_;refine .loopH [1] (fun i=>[(3,.sl (H.n+1) (13+8*i) 1 (pl b8 (x3++[BitVec.ofInt 8 m.sums.length]++encS (m.sums.take i)))),(4,.p (i64 i))]) (fun i=>eH H m (13+8*i)) (fun i=>True) (0) (m.sums.length) (by omega) ?_ (by first | rfl | (simp (disch:=first|exact zb|fail) only [go_sem,seval,e1,List.take_zero,Nat.mul_zero,Nat.add_zero,zbg,List.append_nil]<;>rfl)) ?_ ?_ ?_
 · simp (disch:=first|exact zb|fail) only [go_sem,seval,e1,List.take_zero,Nat.mul_zero,Nat.add_zero,zbg,List.append_nil]<;>(repeat' (first | rfl | refine And.intro ?_ ?_))
 · exact trivial
 intro env E hQ;simp (disch:=first|exact zb|fail) only [go_sem,seval,e1,List.take_zero,Nat.mul_zero,Nat.add_zero,zbg,List.append_nil] at E
 rotate_left 1
 intro i env hi0 hi E hQ ihE;simp (disch:=first|exact zb|fail) only [go_sem,seval,e1,List.take_zero,Nat.mul_zero,Nat.add_zero,zbg,List.append_nil] at E
 rotate_left 1
 · have l60:=l6 _ (Nat.le_refl _)
   rw [List.take_length] at l60
   generalize hx4:x3++[BitVec.ofInt 8 m.sums.length]++encS m.sums=x4 at *
   have l7:x4.length≤1000:=by omega
   clear hw3
   generalize hv1:13+8*m.sums.length=v1 at *
   refine .q ?_;refine .text ?_;simp (disch:=first|exact zb|fail) only [go_sem,seval,E]
   refine .q ?_;refine .ifF (by simp (disch:=first|exact zb|fail) only [go_sem,seval]) ?_
   refine .q ?_;refine .text ?_;simp (disch:=first|exact zb|fail) only [go_sem,seval,E]
   refine .q ?_;refine .text ?_;simp (disch:=first|exact zb|fail) only [go_sem,seval,E]
   have l8 : ∀ i,i≤m.values.length → (x4++[BitVec.ofInt 8 m.values.length]++yH (m.values.take i)).length=x4.length+1+16*i:=fun i hi=>by
    simp only [List.length_append,zce,List.length_take,List.length_cons,List.length_nil];omega
   have hw4 : ∀ i,i < m.values.length → ∀ R:AV → Hp → Prop,R (.sl (H.n+1) (v1+1+16*i+8) 1 (pl b8 (x4++[BitVec.ofInt 8 m.values.length]++yH (m.values.take i)++le (nth m.values i).a 8))) (eH H m (v1+1+16*i+8)) → ACall Tryd.prog G 43 [.sl (H.n+1) (v1+1+16*i) 1 (pl b8 (x4++[BitVec.ofInt 8 m.values.length]++yH (m.values.take i))),.p (zw (nth m.values i).a),.p (i64 8)] (eH H m (v1+1+16*i)) R:=fun i hi R h=>hw _ (nth m.values i).a 8 _ (by omega) (by rw [l8 i (by omega)];omega) R h
   have hw5 : ∀ i,i < m.values.length → ∀ R:AV → Hp → Prop,R (.sl (H.n+1) (v1+1+16*(i+1)) 1 (pl b8 (x4++[BitVec.ofInt 8 m.values.length]++yH (m.values.take (i+1))))) (eH H m (v1+1+16*(i+1))) → ACall Tryd.prog G 43 [.sl (H.n+1) (v1+1+16*i+8) 1 (pl b8 (x4++[BitVec.ofInt 8 m.values.length]++yH (m.values.take i)++le (nth m.values i).a 8)),.p (zw (nth m.values i).b),.p (i64 8)] (eH H m (v1+1+16*i+8)) R:=fun i hi R h=>hw _ (nth m.values i).b 8 _ (by omega) (by rw [List.length_append,l8 i (by omega),yv];omega) R (by
    have:x4++[BitVec.ofInt 8 m.values.length]++yH (m.values.take i)++le (nth m.values i).a 8++le (nth m.values i).b 8=x4++[BitVec.ofInt 8 m.values.length]++yH (m.values.take (i+1)):=by rw [zhP hi];simp
    rw [this]
    exact h)
   refine .q ?_;refine .loopH [1] (fun i=>[(3,.sl (H.n+1) (v1+1+16*i) 1 (pl b8 (x4++[BitVec.ofInt 8 m.values.length]++yH (m.values.take i)))),(5,.p (i64 i))]) (fun i=>eH H m (v1+1+16*i)) (fun i=>True) (0) (m.values.length) (by omega) ?_ (by first | rfl | (simp (disch:=first|exact zb|fail) only [go_sem,seval,E,List.take_zero,Nat.mul_zero,Nat.add_zero,zbh,List.append_nil]<;>rfl)) ?_ ?_ ?_
   · simp (disch:=first|exact zb|fail) only [go_sem,seval,E,List.take_zero,Nat.mul_zero,Nat.add_zero,zbh,List.append_nil]<;>(repeat' (first | rfl | refine And.intro ?_ ?_))
   · exact trivial
   intro env F hQ;simp (disch:=first|exact zb|fail) only [go_sem,seval,E,List.take_zero,Nat.mul_zero,Nat.add_zero,zbh,List.append_nil] at F
   rotate_left 1
   intro i env hi0 hi F hQ ihF;simp (disch:=first|exact zb|fail) only [go_sem,seval,E,List.take_zero,Nat.mul_zero,Nat.add_zero,zbh,List.append_nil] at F
   rotate_left 1
   · have l80:=l8 _ (Nat.le_refl _)
     rw [List.take_length] at l80
     have he:zaX m=x4++[BitVec.ofInt 8 m.values.length]++yH m.values:=by
      rw [zaX,←hx4,←hx3,←hx2,←hx1];simp [BitVec.ofInt_natCast]
     rw [he] at h
     clear hw4 hw5
     generalize x4++[BitVec.ofInt 8 m.values.length]++yH m.values=x5 at *
     generalize v1+1+16*m.values.length=v2 at *
     have hsh:(sha x5).length=32:=zah x5
     refine .q ?_;refine .text ?_;simp (disch:=first|exact zb|fail) only [go_sem,seval,F]
     refine .q ?_;refine .ifF (by simp (disch:=first|exact zb|fail) only [go_sem,seval]) ?_
     refine .q ?_;refine .text ?_;simp (disch:=first|exact zb|fail) only [go_sem,seval,F]
     refine CallK.of (fun R h=>zbA x5 (by omega) _ R h) ?_;simp (disch:=first|exact zb|fail) only [go_sem,seval,hsh]
     refine CallK.of (fun R h=>zcq (sha x5) hsh _ R h) ?_;simp (disch:=first|exact zb|fail) only [go_sem,seval]
     refine .q ?_;refine .text ?_;simp (disch:=first|exact zb|fail) only [go_sem,seval,F,hsh]
     have hbel:=zAu (m:=m) (n:=v2+1) hbel
     refine .q ?_;refine .rt Tryd.func13 (by rw [Tryd.results13]) (hR := ?_);simp (disch:=first|exact zb|fail) only [go_sem,seval]
     exact h
   · have ha:=hw4 i hi
     have hb:=hw5 i hi
     clear hw4 hw5
     generalize x4++[BitVec.ofInt 8 m.values.length]++yH (m.values.take i)=y0 at *
     generalize x4++[BitVec.ofInt 8 m.values.length]++yH (m.values.take (i+1))=y2 at *
     refine .q ?_;refine .text ?_;simp (disch:=first|exact zb|fail) only [go_sem,seval,F]
     refine .q ?_;refine .ifT (by simp (disch:=first|exact zb|fail) only [go_sem,seval]) ?_
     refine .q ?_;refine .text ?_;simp (disch:=first|exact zb|fail) only [go_sem,seval,F,e1]
     refine CallK.of (fun R h=>ha R h) ?_;simp (disch:=first|exact zb|fail) only [go_sem,seval]
     refine .q ?_;refine .text ?_;simp (disch:=first|exact zb|fail) only [go_sem,seval,F,e1]
     refine CallK.of (fun R h=>hb R h) ?_;simp (disch:=first|exact zb|fail) only [go_sem,seval]
     refine .q ?_;refine .text ?_;simp (disch:=first|exact zb|fail) only [go_sem,seval,F]
     first | (refine ihF _ _ ?_ trivial ?_) | (refine .z rfl ?_;refine ihF _ _ ?_ trivial ?_) | (refine .z rfl ?_;refine .z rfl ?_;refine ihF _ _ ?_ trivial ?_) | (refine .z rfl ?_;refine .z rfl ?_;refine .z rfl ?_;refine ihF _ _ ?_ trivial ?_)
     · simp (disch:=first|exact zb|fail) only [go_sem,seval,F,E,e1]<;>(repeat' (first | rfl | refine And.intro ?_ ?_))
     · first | rfl | (simp (disch:=first|exact zb|fail) only [go_sem,seval,F,E,e1]<;>(try rfl))
 · have hh:=hw3 i hi
   refine .q ?_;refine .text ?_;simp (disch:=first|exact zb|fail) only [go_sem,seval,E]
   refine .q ?_;refine .ifT (by simp (disch:=first|exact zb|fail) only [go_sem,seval]) ?_
   refine .q ?_;refine .text ?_;simp (disch:=first|exact zb|fail) only [go_sem,seval,E]
   refine CallK.of (fun R h=>hh R h) ?_;simp (disch:=first|exact zb|fail) only [go_sem,seval]
   refine .q ?_;refine .text ?_;simp (disch:=first|exact zb|fail) only [go_sem,seval,E]
   first | (refine ihE _ _ ?_ trivial ?_) | (refine .z rfl ?_;refine ihE _ _ ?_ trivial ?_) | (refine .z rfl ?_;refine .z rfl ?_;refine ihE _ _ ?_ trivial ?_) | (refine .z rfl ?_;refine .z rfl ?_;refine .z rfl ?_;refine ihE _ _ ?_ trivial ?_)
   · simp (disch:=first|exact zb|fail) only [go_sem,seval,E,e1]<;>(repeat' (first | rfl | refine And.intro ?_ ?_))
   · first | rfl | (simp (disch:=first|exact zb|fail) only [go_sem,seval,E,e1]<;>(try rfl))
theorem zb4 (m:Msg) (hm:m.Ok) (H:Hp) (R:AV → Hp → Prop) (h:R (.p (.sl false 1 (pl b8 (enc m)))) H):ACall Tryd.prog G 13 [.p (yK m)] H R:=by
 cases hv:valid m with
 | true =>
  rw [enc,hv] at h
  exact zgH m hm hv H R h
 | false =>
  rw [enc,hv] at h
  refine ACall.wk (zja m hm hv H (fun r H'=>r = .p (.s (.slice none 0 0))∧H'=H) ⟨rfl,rfl⟩) ?_
  rintro _ _ ⟨rfl,rfl⟩
  refine⟨_,h,fun σ w v hv => ?_⟩
  cases hv with | p hp=>cases hp;exact .p (.nil _ _)
end walks
end Go.Proofs.YtmoecjgehdkhkaaDoor

/-
  Sessions: the reference's reader.
-/
namespace Go.Proofs.YtmoecjgehdkhkaaDoor
open Go Go.AL

def rk (st:By × Bool) (n:Nat):By × (By × Bool) :=
 if st.2=true∧n≤st.1.length then (st.1.take n,(st.1.drop n,true)) else (List.replicate n 0#8,(st.1,false))
theorem zaY {st:By × Bool} {n:Nat}:(rk st n).1.length=n:=by
 unfold rk
 split
 · rename_i h;simp only [List.length_take];omega
 · simp
theorem zcB {st:By × Bool} {n:Nat}:(rk st n).2.1.length≤st.1.length:=by
 unfold rk
 split<;>simp
theorem zbo {x r:By} {n:Nat} (h:x.length=n):rk (x++r,true) n=(x,(r,true)):=by
 subst h
 unfold rk
 simp
theorem zjb {st:By × Bool} {n:Nat} (h:(rk st n).2.2=true):st=((rk st n).1++(rk st n).2.1,true):=by
 obtain⟨r,ok⟩:=st
 unfold rk at h ⊢
 split at h
 · rename_i c;simp only at c;rw [if_pos c];simp [c.1]
 · cases h
theorem zOL {st:By × Bool} {n:Nat} (h:(tk st n).2.2=true):st=((tk st n).1++(tk st n).2.1,true):=by
 obtain⟨r,ok⟩:=st
 unfold tk at h ⊢
 simp only at h ⊢
 split at h
 · cases h
 · rename_i c
   split at h
   · rename_i c2;rw [if_neg c,if_pos c2];simp [c2]
   · cases h
def wR (st:By × Bool):Nat → List U × (By × Bool)
 | 0=>([],st)
 | c+1=>((wR st c).1++[rd (rk (wR st c).2 8).1],(rk (wR st c).2 8).2)
def vR (st:By × Bool):Nat → List Ext × (By × Bool)
 | 0=>([],st)
 | c+1=>((vR st c).1++[⟨rd (rk (vR st c).2 8).1,rd (rk (rk (vR st c).2 8).2 8).1⟩],(rk (rk (vR st c).2 8).2 8).2)
theorem zpo {st:By × Bool} : ∀ {c},(wR st c).1.length=c
 | 0=>rfl
 | c+1=>by simp [wR,zpo]
theorem zpp {st:By × Bool} : ∀ {c},(vR st c).1.length=c
 | 0=>rfl
 | c+1=>by simp [vR,zpp]
theorem zAR {st:By × Bool} : ∀ {c},(wR st c).2.1.length≤st.1.length
 | 0=>Nat.le_refl _
 | _+1=>Nat.le_trans zcB zAR
theorem zAS {st:By × Bool} : ∀ {c},(vR st c).2.1.length≤st.1.length
 | 0=>Nat.le_refl _
 | _+1=>Nat.le_trans zcB (Nat.le_trans zcB zAS)
theorem zjc {x y:By} : ∀ {c},8*c≤x.length → wds (x++y) c=wds x c
 | 0,_=>rfl
 | c+1,h=>by
  rw [zbQ,zbQ,zjc (by omega),List.take_append_of_le_length (by omega)]
theorem zqH {x y:List U} : ∀ {c},2*c≤x.length → prs (x++y) c=prs x c
 | 0,_=>rfl
 | c+1,h=>by
  rw [zcY,zcY,zqH (by omega),zaM (by omega),zaM (by omega)]
theorem zpq : ∀ {c} {x r:By},x.length=8*c → wR (x++r,true) c=(wds x c,(r,true))
 | 0,x,r,h=>by
  have:x=[]:=List.eq_nil_of_length_eq_zero (by omega)
  subst this;rfl
 | c+1,x,r,h=>by
  obtain⟨y,z,rfl,hy,hz⟩ : ∃ y z:By,x=y++z∧y.length=8*c∧z.length=8:=⟨x.take (8*c),x.drop (8*c),(List.take_append_drop _ _).symm,by rw [List.length_take];omega,by rw [List.length_drop];omega⟩
  have ih:=zpq (c:=c) (x:=y) (r:=z++r) hy
  rw [wR,List.append_assoc,ih,zbo hz,zbQ,zjc (by omega),List.take_of_length_le (by simp;omega),List.drop_left' hy]
theorem zl4 {c:Nat} {y z:By} (hy:y.length=8*c) (hz:z.length=8):wds (y++z) (c+1)=wds y c++[rd z]:=by
 rw [zbQ,zjc (by omega),List.take_of_length_le (by simp;omega),List.drop_left' hy]
theorem zpr : ∀ {c} {x r:By},x.length=16*c → vR (x++r,true) c=(prs (wds x (2*c)) c,(r,true))
 | 0,x,r,h=>by
  have:x=[]:=List.eq_nil_of_length_eq_zero (by omega)
  subst this;rfl
 | c+1,x,r,h=>by
  obtain⟨y,z,w,rfl,hy,hz,hw⟩ : ∃ y z w:By,x=y++z++w∧y.length=16*c∧z.length=8∧w.length=8:=⟨x.take (16*c),(x.drop (16*c)).take 8,(x.drop (16*c)).drop 8,by rw [List.append_assoc,List.take_append_drop,List.take_append_drop],by rw [List.length_take];omega,by rw [List.length_take,List.length_drop];omega,by rw [List.length_drop,List.length_drop];omega⟩
  have ih:=zpr (c:=c) (x:=y) (r:=z++(w++r)) hy
  have e:y++z++w++r=y++(z++(w++r)):=by simp
  have h1:wds (y++z++w) (2*(c+1))=wds y (2*c)++[rd z]++[rd w]:=by
   rw [show 2*(c+1)=2*c+1+1 by omega,zl4 (y:=y++z) (by simp;omega) hw,zl4 (by omega) hz]
  have hl:(wds y (2*c)).length=2*c:=zav
  have n1:nth (wds y (2*c)++[rd z]++[rd w]) (2*c)=rd z:=by
   rw [zaM (by simp;omega),zcm (by omega),hl,Nat.sub_self];rfl
  have n2:nth (wds y (2*c)++[rd z]++[rd w]) (2*c+1)=rd w:=by
   rw [zcm (by simp;omega),List.length_append,hl,List.length_singleton,Nat.sub_self];rfl
  rw [vR,e,ih,zbo hz,zbo hw,h1,zcY,n1,n2,List.append_assoc,zqH (by omega)]
theorem zKd : ∀ {c} {st:By × Bool},(wR st c).2.2=true → st.2=true∧8*c+(wR st c).2.1.length=st.1.length
 | 0,_,h=>⟨h,by simp [wR]⟩
 | c+1,st,h=>by
  have h1:=zjb (st:=(wR st c).2) (n:=8) h
  have hl:=zaY (st:=(wR st c).2) (n:=8)
  have h2:(wR st c).2.2=true:=by rw [h1]
  obtain⟨h3,h4⟩:=zKd h2
  have h5:=congrArg (fun x:By × Bool=>x.1.length) h1
  simp only [List.length_append] at h5
  refine⟨h3,?_⟩
  have h6:(wR st (c+1)).2=(rk (wR st c).2 8).2:=rfl
  rw [←h4,h5,hl,h6]
  omega
theorem zKe : ∀ {c} {st:By × Bool},(vR st c).2.2=true → st.2=true∧16*c+(vR st c).2.1.length=st.1.length
 | 0,_,h=>⟨h,by simp [vR]⟩
 | c+1,st,h=>by
  have h0:=zjb (st:=(rk (vR st c).2 8).2) (n:=8) h
  have hl0:=zaY (st:=(rk (vR st c).2 8).2) (n:=8)
  have h1:=zjb (st:=(vR st c).2) (n:=8) (by rw [h0])
  have hl:=zaY (st:=(vR st c).2) (n:=8)
  have h2:(vR st c).2.2=true:=by rw [h1]
  obtain⟨h3,h4⟩:=zKe h2
  have h5:=congrArg (fun x:By × Bool=>x.1.length) h1
  have h6:=congrArg (fun x:By × Bool=>x.1.length) h0
  simp only [List.length_append] at h5 h6
  refine⟨h3,?_⟩
  have h7:(vR st (c+1)).2=(rk (rk (vR st c).2 8).2 8).2:=rfl
  rw [←h4,h5,hl,h6,hl0,h7]
  omega
theorem zOM {c:Nat} {st:By × Bool} (h:(wR st c).2.2=true) : ∃ x:By,x.length=8*c∧st=(x++(wR st c).2.1,true)∧(wR st c).1=wds x c:=by
 obtain⟨h1,h2⟩:=zKd h
 obtain⟨r,ok⟩:=st
 simp only at h1 h2
 subst h1
 have hl:(r.take (8*c)).length=8*c:=by rw [List.length_take];omega
 have:=zpq (c:=c) (x:=r.take (8*c)) (r:=r.drop (8*c)) hl
 rw [List.take_append_drop] at this
 refine⟨r.take (8*c),hl,?_,?_⟩
 · rw [this];simp
 · rw [this]
theorem zON {c:Nat} {st:By × Bool} (h:(vR st c).2.2=true) : ∃ x:By,x.length=16*c∧st=(x++(vR st c).2.1,true)∧(vR st c).1=prs (wds x (2*c)) c:=by
 obtain⟨h1,h2⟩:=zKe h
 obtain⟨r,ok⟩:=st
 simp only at h1 h2
 subst h1
 have hl:(r.take (16*c)).length=16*c:=by rw [List.length_take];omega
 have:=zpr (c:=c) (x:=r.take (16*c)) (r:=r.drop (16*c)) hl
 rw [List.take_append_drop] at this
 refine⟨r.take (16*c),hl,?_,?_⟩
 · rw [this];simp
 · rw [this]
def e7 (kd se sp:U) (ro tx:By) (us:List U) (vs:List Ext) (s:By × Bool):Msg × (By × Bool):=(⟨kd.toNat,se.toNat,sp.toNat,tx,mkD ro,us.map toI,vs⟩,(rk s 8).2)
def e6 (kd se sp:U) (ro tx:By) (us:List U) (c:Nat) (s:By × Bool):Msg × (By × Bool):=e7 kd se sp ro tx us (vR s c).1 (vR s c).2
def e5 (kd se sp:U) (ro tx:By) (us:List U) (s:By × Bool):Msg × (By × Bool):=e6 kd se sp ro tx us (rd (rk s 1).1).toNat (rk s 1).2
def e4 (kd se sp:U) (ro tx:By) (c:Nat) (s:By × Bool):Msg × (By × Bool):=e5 kd se sp ro tx (wR s c).1 (wR s c).2
def e3 (kd se sp:U) (ro tx:By) (s:By × Bool):Msg × (By × Bool):=e4 kd se sp ro tx (rd (rk s 1).1).toNat (rk s 1).2
def e2 (kd se sp:U) (ro:By) (tl:Nat) (s:By × Bool):Msg × (By × Bool):=e3 kd se sp ro (rk s tl).1 (rk s tl).2
def e1 (kd se sp:U) (ro:By) (s:By × Bool):Msg × (By × Bool):=e2 kd se sp ro (rd (rk s 2).1).toNat (rk s 2).2
def e0 (kd se sp:U) (s:By × Bool):Msg × (By × Bool):=e1 kd se sp (rk s 32).1 (rk s 32).2
def eS (kd se:U) (s:By × Bool):Msg × (By × Bool):=e0 kd se (rd (rk s 4).1) (rk s 4).2
def eE (kd:U) (s:By × Bool):Msg × (By × Bool):=eS kd (rd (rk s 4).1) (rk s 4).2
def decE (b:By):Msg × (By × Bool):=eE (rd (rk (b,true) 1).1) (rk (b,true) 1).2
def zI9 (b:By) (r:Msg × (By × Bool)):Msg × Int:=if r.2.2=false then (zM,6) else if r.2.1=[]∧enc r.1=b then (r.1,0) else (zM,5)

structure Sp (b:By) (x1 x2 x3 x4 l tx n1 sm n2 vm ck r:By):Prop where
 e:b=x1++(x2++(x3++(x4++(l++(tx++(n1++(sm++(n2++(vm++(ck++r))))))))))
 l1:x1.length=1
 l2:x2.length=4
 l3:x3.length=4
 l4:x4.length=32
 l5:l.length=2
 l6:tx.length=(rd l).toNat
 l7:n1.length=1
 l8:sm.length=8*(rd n1).toNat
 l9:n2.length=1
 l10:vm.length=16*(rd n2).toNat
 l11:ck.length=8
theorem rd1 {x:By} (h:x.length=1):(rd x).toNat=(nth x 0).toNat:=by
 match x,h with
 | [c],_=>simp [rd,nth];have:=c.isLt;omega
def spM (x1 x2 x3 x4 tx n1 sm n2 vm:By):Msg:=⟨(rd x1).toNat,(rd x2).toNat,(rd x3).toNat,tx,mkD x4,(wds sm (rd n1).toNat).map toI,prs (wds vm (2*(rd n2).toNat)) (rd n2).toNat⟩
section sp
variable {b x1 x2 x3 x4 l tx n1 sm n2 vm ck r:By}
theorem Sp.decE (h:Sp b x1 x2 x3 x4 l tx n1 sm n2 vm ck r):decE b=(spM x1 x2 x3 x4 tx n1 sm n2 vm,(r,true)):=by
 rw [h.e,Go.Proofs.YtmoecjgehdkhkaaDoor.decE,zbo h.l1,eE,zbo h.l2,eS,zbo h.l3,e0,zbo h.l4,e1,zbo h.l5,e2,zbo h.l6,e3,zbo h.l7,e4,zpq h.l8,e5,zbo h.l9,e6,zpr h.l10,e7,zbo h.l11]
 rfl
theorem Sp.decM (h:Sp b x1 x2 x3 x4 l tx n1 sm n2 vm ck r):decM b=(spM x1 x2 x3 x4 tx n1 sm n2 vm,true):=by
 have hb:b=(x1++x2++x3++x4)++(l++(tx++(n1++(sm++(n2++(vm++(ck++r))))))):=by rw [h.e];simp
 have hl:(x1++x2++x3++x4).length=41:=by simp [h.l1,h.l2,h.l3,h.l4]
 have q0:nth (x1++x2++x3++x4) 0=nth x1 0:=by rw [List.append_assoc,List.append_assoc,zaM (by rw [h.l1];omega)]
 have q1:((x1++x2++x3++x4).take 5).drop 1=x2:=by
  rw [List.append_assoc,List.take_left' (by simp [h.l1,h.l2]),List.drop_left' h.l1]
 have q2:((x1++x2++x3++x4).take 9).drop 5=x3:=by
  rw [List.take_left' (by simp [h.l1,h.l2,h.l3]),List.drop_left' (by simp [h.l1,h.l2])]
 have q3:(x1++x2++x3++x4).drop 9=x4:=by
  rw [List.drop_left' (by simp [h.l1,h.l2,h.l3])]
 have l8:sm.length=8*(nth n1 0).toNat:=by rw [h.l8,rd1 h.l7]
 have l10:vm.length=16*(nth n2 0).toNat:=by rw [h.l10,rd1 h.l9]
 rw [Go.Proofs.YtmoecjgehdkhkaaDoor.decM,hb,zay hl]
 simp only [d1,q0,q1,q2,q3]
 rw [d2,zay h.l5]
 simp only
 rw [d3,zay h.l6]
 simp only
 rw [d4,zay h.l7]
 simp only
 rw [d5,zay l8]
 simp only
 rw [zay h.l9,d6]
 simp only
 rw [zay l10,d7]
 simp only
 rw [zay h.l11,spM,rd1 h.l1,rd1 h.l7,rd1 h.l9]
end sp
theorem rk_inv' {st:By × Bool} {n:Nat} {p:By × (By × Bool)} (e:rk st n=p) (h:p.2.2=true):st.2=true∧st.1=p.1++p.2.1∧p.1.length=n:=by
 subst e
 have:=zjb h
 exact⟨by rw [this],by rw (config := { occs := .pos [1] }) [this],zaY⟩
theorem tk_inv' {st:By × Bool} {n:Nat} {p:By × (By × Bool)} (e:tk st n=p) (h:p.2.2=true):st.2=true∧st.1=p.1++p.2.1∧p.1.length=n:=by
 subst e
 have:=zOL h
 exact⟨by rw [this],by rw (config := { occs := .pos [1] }) [this],zbP⟩
theorem wR_inv' {st:By × Bool} {c:Nat} {p:List U × (By × Bool)} (e:wR st c=p) (h:p.2.2=true) : ∃ x:By,st.2=true∧st.1=x++p.2.1∧x.length=8*c:=by
 subst e
 obtain⟨x,h1,h2,-⟩:=zOM h
 exact⟨x,by rw [h2],by rw (config := { occs := .pos [1] }) [h2],h1⟩
theorem vR_inv' {st:By × Bool} {c:Nat} {p:List Ext × (By × Bool)} (e:vR st c=p) (h:p.2.2=true) : ∃ x:By,st.2=true∧st.1=x++p.2.1∧x.length=16*c:=by
 subst e
 obtain⟨x,h1,h2,-⟩:=zON h
 exact⟨x,by rw [h2],by rw (config := { occs := .pos [1] }) [h2],h1⟩
theorem zJc {b:By} (h:(decE b).2.2=true) : ∃ x1 x2 x3 x4 l tx n1 sm n2 vm ck r,Sp b x1 x2 x3 x4 l tx n1 sm n2 vm ck r:=by
 unfold decE at h
 generalize h1:rk (b,true) 1=p1 at h
 unfold eE at h
 generalize h2:rk p1.2 4=p2 at h
 unfold eS at h
 generalize h3:rk p2.2 4=p3 at h
 unfold e0 at h
 generalize h4:rk p3.2 32=p4 at h
 unfold e1 at h
 generalize h5:rk p4.2 2=p5 at h
 unfold e2 at h
 generalize h6:rk p5.2 _=p6 at h
 unfold e3 at h
 generalize h7:rk p6.2 _=p7 at h
 unfold e4 at h
 generalize h8:wR p7.2 _=p8 at h
 unfold e5 at h
 generalize h9:rk p8.2 _=p9 at h
 unfold e6 at h
 generalize h10:vR p9.2 _=p10 at h
 unfold e7 at h
 generalize h11:rk p10.2 _=p11 at h
 obtain⟨o11,q11,k11⟩:=rk_inv' h11 h
 obtain⟨vm,o10,q10,k10⟩:=vR_inv' h10 o11
 obtain⟨o9,q9,k9⟩:=rk_inv' h9 o10
 obtain⟨sm,o8,q8,k8⟩:=wR_inv' h8 o9
 obtain⟨o7,q7,k7⟩:=rk_inv' h7 o8
 obtain⟨o6,q6,k6⟩:=rk_inv' h6 o7
 obtain⟨o5,q5,k5⟩:=rk_inv' h5 o6
 obtain⟨o4,q4,k4⟩:=rk_inv' h4 o5
 obtain⟨o3,q3,k3⟩:=rk_inv' h3 o4
 obtain⟨o2,q2,k2⟩:=rk_inv' h2 o3
 obtain⟨o1,q1,k1⟩:=rk_inv' h1 o2
 exact⟨p1.1,p2.1,p3.1,p4.1,p5.1,p6.1,p7.1,sm,p9.1,vm,p11.1,p11.2.1,⟨by rw [←q11,←q10,←q9,←q8,←q7,←q6,←q5,←q4,←q3,←q2,←q1],k1,k2,k3,k4,k5,k6,k7,k8,k9,k10,k11⟩⟩
theorem zqI {b:By} (h:(decM b).2=true) : ∃ x1 x2 x3 x4 l tx n1 sm n2 vm ck r,Sp b x1 x2 x3 x4 l tx n1 sm n2 vm ck r:=by
 unfold decM at h
 generalize h1:tk (b,true) 41=p1 at h
 unfold d1 d2 at h
 generalize h5:tk p1.2 2=p5 at h
 unfold d3 at h
 generalize h6:tk p5.2 _=p6 at h
 unfold d4 at h
 generalize h7:tk p6.2 _=p7 at h
 unfold d5 at h
 generalize h8:tk p7.2 _=p8 at h
 generalize h9:tk p8.2 _=p9 at h
 unfold d6 at h
 generalize h10:tk p9.2 _=p10 at h
 unfold d7 at h
 generalize h11:tk p10.2 _=p11 at h
 obtain⟨o11,q11,k11⟩:=tk_inv' h11 h
 obtain⟨o10,q10,k10⟩:=tk_inv' h10 o11
 obtain⟨o9,q9,k9⟩:=tk_inv' h9 o10
 obtain⟨o8,q8,k8⟩:=tk_inv' h8 o9
 obtain⟨o7,q7,k7⟩:=tk_inv' h7 o8
 obtain⟨o6,q6,k6⟩:=tk_inv' h6 o7
 obtain⟨o5,q5,k5⟩:=tk_inv' h5 o6
 obtain⟨o1,q1,k1⟩:=tk_inv' h1 o5
 have hsp : ∀ (x:By),x.length=41 → ∀ y,x++y=x.take 1++((x.drop 1).take 4++((x.drop 5).take 4++(x.drop 9++y))):=fun x hx y=>by
  have h1:x=x.take 1++((x.drop 1).take 4++((x.drop 5).take 4++x.drop 9)):=by
   have a1:x.drop 9=(x.drop 5).drop 4:=by simp
   have a2:x.drop 5=(x.drop 1).drop 4:=by simp
   rw [a1,List.take_append_drop,a2,List.take_append_drop,List.take_append_drop]
  rw (config := { occs := .pos [1] }) [h1]
  simp only [List.append_assoc]
 exact⟨p1.1.take 1,(p1.1.drop 1).take 4,(p1.1.drop 5).take 4,p1.1.drop 9,p5.1,p6.1,p7.1,p8.1,p9.1,p10.1,p11.1,p11.2.1,⟨by rw [←q11,←q10,←q9,←q8,←q7,←q6,←q5,←hsp _ k1,←q1],by rw [List.length_take,k1];rfl,by rw [List.length_take,List.length_drop,k1];rfl,by rw [List.length_take,List.length_drop,k1];rfl,by rw [List.length_drop,k1],k5,k6,k7,by rw [k8,rd1 k7],k9,by rw [k10,rd1 k9],k11⟩⟩
theorem zJd (b:By):zI9 b (decE b)=dec b:=by
 by_cases h:(decE b).2.2=true
 · obtain⟨x1,x2,x3,x4,l,tx,n1,sm,n2,vm,ck,r,hs⟩:=zJc h
   unfold dec zi7 zI9
   rw [hs.decE,hs.decM]
   simp only [Bool.true_eq_false,if_false]
   by_cases he:enc (spM x1 x2 x3 x4 tx n1 sm n2 vm)=b
   · have hbl:=congrArg List.length hs.e
     simp only [List.length_append,hs.l1,hs.l2,hs.l3,hs.l4,hs.l5,hs.l7,hs.l9,hs.l11] at hbl
     have hv:valid (spM x1 x2 x3 x4 tx n1 sm n2 vm)=true:=by
      cases hv:valid (spM x1 x2 x3 x4 tx n1 sm n2 vm) with
      | true=>rfl
      | false =>
       rw [enc,hv] at he
       rw [←he] at hbl
       simp at hbl
       omega
     have hz:=zdU hv
     rw [he] at hz
     have hr:r=[]:=by
      apply List.eq_nil_of_length_eq_zero
      have a1:(spM x1 x2 x3 x4 tx n1 sm n2 vm).text.length=tx.length:=rfl
      have a2:(spM x1 x2 x3 x4 tx n1 sm n2 vm).sums.length=(rd n1).toNat:=by show (List.map toI _).length=_;rw [List.length_map,zav]
      have a3:(spM x1 x2 x3 x4 tx n1 sm n2 vm).values.length=(rd n2).toNat:=zdS
      rw [a1,a2,a3] at hz
      have:=hs.l8
      have:=hs.l10
      omega
     rw [if_pos ⟨hr,he⟩,if_pos he]
   · rw [if_neg (fun q=>he q.2),if_neg he]
 · have h2:(decM b).2=false:=by
    cases hm:(decM b).2 with
    | false=>rfl
    | true =>
     obtain⟨x1,x2,x3,x4,l,tx,n1,sm,n2,vm,ck,r,hs⟩:=zqI hm
     rw [hs.decE] at h
     exact absurd rfl h
   unfold dec zi7 zI9
   rw [if_pos h2,if_pos (by simpa using h)]
theorem zJe {c:BitVec 8} : ∀ {l:By},l.length≤7 → rd (l++[c])=rd l+c.setWidth 64 <<< (8*l.length):=by
 have hcons : ∀ (c:BitVec 8) (b:By),b.length≤7 → (rd (c :: b)).toNat=c.toNat+(rd b).toNat*256:=fun c b hb=>by
  have ih:=zgB hb
  have hc:=c.isLt
  simp only [rd,BitVec.toNat_or,BitVec.toNat_shiftLeft,BitVec.toNat_setWidth]
  have h2:(rd b).toNat <<< 8 < 2 ^ 64:=by
   rw [Nat.shiftLeft_eq]
   have:2 ^ (8*b.length)*2 ^ 8≤2 ^ 64:=by
    rw [←Nat.pow_add];exact Nat.pow_le_pow_right (by omega) (by omega)
   have:=Nat.mul_lt_mul_of_pos_right ih (show 0 < 2 ^ 8 by decide)
   omega
  rw [Nat.mod_eq_of_lt h2,Nat.mod_eq_of_lt (show c.toNat < 2 ^ 64 by omega),←Nat.shiftLeft_add_eq_or_of_lt (by omega),Nat.shiftLeft_eq]
  omega
 have key : ∀ {l:By},l.length≤7 → (rd (l++[c])).toNat=(rd l).toNat+c.toNat*2 ^ (8*l.length):=by
  intro l
  induction l with
  | nil=>intro _;have:=c.isLt;simp [rd];omega
  | cons d l ih =>
   intro h
   rw [List.length_cons] at h
   rw [List.cons_append,hcons _ _ (by simp;omega),hcons _ _ (by omega),ih (by omega),List.length_cons,show 8*(l.length+1)=8*l.length+8 by omega,Nat.pow_add,Nat.add_mul,Nat.mul_assoc,←Nat.add_assoc]
 intro l h
 apply BitVec.eq_of_toNat_eq
 have h1:=zgB (b:=l) h
 have hc:=c.isLt
 have h2:c.toNat*2 ^ (8*l.length) < 2 ^ 64:=by
  have:2 ^ 8*2 ^ (8*l.length)≤2 ^ 64:=by rw [←Nat.pow_add];exact Nat.pow_le_pow_right (by omega) (by omega)
  have:=Nat.mul_lt_mul_of_pos_right (show c.toNat < 2 ^ 8 by omega) (Nat.pow_pos (n:=8*l.length) (show 0 < 2 by omega))
  omega
 have h3:(rd (l++[c])).toNat < 2 ^ 64:=(rd (l++[c])).isLt
 rw [key h] at h3
 rw [key h,BitVec.toNat_add,BitVec.toNat_shiftLeft,BitVec.toNat_setWidth,Nat.mod_eq_of_lt (show c.toNat < 2 ^ 64 by omega),Nat.shiftLeft_eq,Nat.mod_eq_of_lt h2,Nat.mod_eq_of_lt h3]
end Go.Proofs.YtmoecjgehdkhkaaDoor

/-
  Sessions: the reference's reader,walked.
-/
namespace Go.Proofs.YtmoecjgehdkhkaaDoor
open Go Go.AL

def rcl (st:By × Bool):List AV:=[.p (.sl false 1 (pl b8 st.1)),.p (bo (!st.2))]
theorem zAT {n b:Nat} {H:Hp} {l:By} {o:Bool} (h:Bel n H):Bel n (H.set b (.cells [.p (.sl false 1 (pl b8 l)),.p (bo o)])):=zca h fun y hy=>by
 simp only [AB.vals,List.mem_cons,List.not_mem_nil,or_false] at hy
 rcases hy with rfl | rfl<;>exact .p _
section walks
variable {G:Globs}
set_option maxHeartbeats 4000000 in
theorem zeu (st:By × Bool) (hr:st.1.length≤140737488355000) (n:Nat) (hn:n≤100000) (cb:Nat) (H:Hp) (hc:H.f cb=some (.cells (rcl st))) (R:AV → Hp → Prop)
 (h:R (.p (.sl false 1 (pl b8 (rk st n).1))) (H.set cb (.cells (rcl (rk st n).2)))) :
 ACall Tryd.prog G 38 [.ptr cb 0,.p (i64 n)] H R:=by
 obtain⟨rest,ok⟩:=st
 simp only at hr
 unfold rcl at hc h
 have hcn:=Hp.lt hc
 unfold rk at h
 simp only at h hc
 refine ACall.of_run (raw:=[]) Tryd.func38 rfl Tryd.ntmps38 (by simp) fun hbel => ?_
 refine .q ?_;refine .text ?_;simp (disch:=first|exact zb|fail) only [go_sem,seval]
 have hbel : ∀ l o,Bel H.n (H.set cb (.cells [.p (.sl false 1 (pl b8 l)),.p (bo o)])):=fun l o=>zAT hbel
 have hs0:H.set cb (.cells [.p (.sl false 1 (pl b8 rest)),.p (bo !ok)])=H:=Hp.set_same H _ cb hc
 cases ok with
 | false =>
  simp only [Bool.false_eq_true,false_and,if_false,Bool.not_false] at h hc hs0
  refine .q ?_;refine .text ?_;simp (disch:=first|exact zb|fail) only [go_sem,seval,hc]
  refine .q ?_;refine .ifT (by simp (disch:=first|exact zb|fail) only [go_sem,seval]) ?_
  refine .q ?_;refine .text ?_;simp (disch:=first|exact zb|fail) only [go_sem,seval,hc]
  refine .q ?_;refine .text ?_;simp (disch:=first|exact zb|fail) only [go_sem,seval]
  refine .q ?_;refine .frzS 4 (by simp (disch:=first|exact zb|fail) only [go_sem,seval];rfl) (by simp (disch:=first|exact zb|fail) only [go_sem,seval]<;>rfl) (fun _=>rfl) (by first | exact zb | fail) ?_;(try simp (disch:=first|exact zb|fail) only [go_sem,seval])
  refine .q ?_;refine .rt Tryd.func38 (by rw [Tryd.results38]) (hR := ?_);simp (disch:=first|exact zb|fail) only [go_sem,seval]
  exact h
 | true =>
  simp only [true_and,Bool.not_true] at h hc hs0
  refine .q ?_;refine .text ?_;simp (disch:=first|exact zb|fail) only [go_sem,seval,hc]
  by_cases c:n≤rest.length
  · rw [if_pos c] at h
    simp only [Bool.not_true] at h
    have d:decide ((rest.length:Int) < (n:Int))=false:=decide_eq_false (by omega)
    refine .q ?_;refine .ifF (by simp (disch:=first|exact zb|fail) only [go_sem,seval,d]) ?_
    refine .q ?_;refine .text ?_;simp (disch:=first|exact zb|fail) only [go_sem,seval,hc]
    refine .q ?_;refine .text ?_;simp (disch:=first|exact zb|fail) only [go_sem,seval,hc]
    refine .q ?_;refine .text ?_;simp (disch:=first|exact zb|fail) only [go_sem,seval]
    refine .q ?_;refine .rt Tryd.func38 (by rw [Tryd.results38]) (hR := ?_);simp (disch:=first|exact zb|fail) only [go_sem,seval]
    exact h
  · rw [if_neg c] at h
    simp only [Bool.not_false] at h
    have d:decide ((rest.length:Int) < (n:Int))=true:=decide_eq_true (by omega)
    refine .q ?_;refine .ifT (by simp (disch:=first|exact zb|fail) only [go_sem,seval,d]) ?_
    refine .q ?_;refine .text ?_;simp (disch:=first|exact zb|fail) only [go_sem,seval,hc]
    refine .q ?_;refine .text ?_;simp (disch:=first|exact zb|fail) only [go_sem,seval]
    refine .q ?_;refine .frzS 4 (by simp (disch:=first|exact zb|fail) only [go_sem,seval];rfl) (by simp (disch:=first|exact zb|fail) only [go_sem,seval]<;>rfl) (fun _=>rfl) (by first | exact zb | fail) ?_;(try simp (disch:=first|exact zb|fail) only [go_sem,seval])
    refine .q ?_;refine .rt Tryd.func38 (by rw [Tryd.results38]) (hR := ?_);simp (disch:=first|exact zb|fail) only [go_sem,seval]
    exact h
theorem zjd {b:By} {i:Nat} (hi:i < b.length) (h7:i≤7):rd (b.take i)+(nth b i).setWidth 64 <<< (8*i)=rd (b.take (i+1)):=by
 have hl:(b.take i).length=i:=by rw [List.length_take];omega
 have:=zJe (c:=nth b i) (l:=b.take i) (by omega)
 rw [hl] at this
 rw [yA hi,this]
set_option maxHeartbeats 4000000 in
theorem zdg (st:By × Bool) (hr:st.1.length≤140737488355000) (n:Nat) (hn:n≤8) (cb:Nat) (H:Hp) (hc:H.f cb=some (.cells (rcl st))) (R:AV → Hp → Prop)
 (h:R (.p (zw (rd (rk st n).1))) (H.set cb (.cells (rcl (rk st n).2)))) :
 ACall Tryd.prog G 37 [.ptr cb 0,.p (i64 n)] H R:=by
 have hcn:=Hp.lt hc
 have hl:=zaY (st:=st) (n:=n)
 refine ACall.of_run (raw:=[]) Tryd.func37 rfl Tryd.ntmps37 (by simp) fun hbel => ?_
 refine .q ?_;refine .text ?_;simp (disch:=first|exact zb|fail) only [go_sem,seval]
 refine .q ?_;refine .text ?_;simp (disch:=first|exact zb|fail) only [go_sem,seval]
 refine CallK.of (fun R h=>zeu st hr n (by omega) cb _ hc R h) ?_;simp (disch:=first|exact zb|fail) only [go_sem,seval]
 generalize (rk st n).1=b at *
 have hbel:Bel H.n (H.set cb (.cells (rcl (rk st n).2))):=zAT hbel
 generalize AB.cells (rcl (rk st n).2)=rc at *
 refine .q ?_;refine .text ?_;simp (disch:=first|exact zb|fail) only [go_sem,seval]
 refine .q ?_;refine .loopE [1,5] (fun i=>[(6,.p (zw (rd (b.take i)))),(7,.p (i64 i))]) (fun i=>[]) (fun i=>True) (0) (n) (by omega) ?_ (by first | rfl | (simp (disch:=first|exact zb|fail) only [go_sem,seval,List.take_zero,rd]<;>rfl)) ?_ ?_ ?_
 · simp (disch:=first|exact zb|fail) only [go_sem,seval,List.take_zero,rd]<;>(repeat' (first | rfl | refine And.intro ?_ ?_))
 · exact trivial
 intro env E hQ;simp (disch:=first|exact zb|fail) only [go_sem,seval,List.take_zero,rd] at E
 rotate_left 1
 intro i env hi0 hi E hQ ihE;simp (disch:=first|exact zb|fail) only [go_sem,seval,List.take_zero,rd] at E
 rotate_left 1
 · have hbt:b.take n=b:=List.take_of_length_le (by omega)
   refine .q ?_;refine .text ?_;simp (disch:=first|exact zb|fail) only [go_sem,seval,E,hbt]
   refine .q ?_;refine .ifF (by simp (disch:=first|exact zb|fail) only [go_sem,seval]) ?_
   refine .q ?_;refine .text ?_;simp (disch:=first|exact zb|fail) only [go_sem,seval,E,hbt]
   refine .q ?_;refine .rt Tryd.func37 (by rw [Tryd.results37]) (hx:=by simp (disch:=first|exact zb|fail) only [go_sem,seval,E];rfl) (hR := ?_);simp (disch:=first|exact zb|fail) only [go_sem,seval,E]
   exact h
 · obtain⟨k,hk,h8⟩ : ∃ k:Nat,8*i=k∧(8:Int)*(i:Int)=(k:Int):=⟨8*i,rfl,by omega⟩
   have hs:=zjd (b:=b) (i:=i) (by omega) (by omega)
   rw [hk] at hs
   refine .q ?_;refine .text ?_;simp (disch:=first|exact zb|fail) only [go_sem,seval,E]
   refine .q ?_;refine .ifT (by simp (disch:=first|exact zb|fail) only [go_sem,seval]) ?_
   refine .q ?_;refine .text ?_;simp (disch:=first|exact zb|fail) only [go_sem,seval,E,h8,hl]
   refine .q ?_;refine .text ?_;simp (disch:=first|exact zb|fail) only [go_sem,seval,E]
   first | (refine ihE _ _ ?_ trivial ?_) | (refine .z rfl ?_;refine ihE _ _ ?_ trivial ?_) | (refine .z rfl ?_;refine .z rfl ?_;refine ihE _ _ ?_ trivial ?_) | (refine .z rfl ?_;refine .z rfl ?_;refine .z rfl ?_;refine ihE _ _ ?_ trivial ?_)
   · simp (disch:=first|exact zb|fail) only [go_sem,seval,E,hs]<;>(repeat' (first | rfl | refine And.intro ?_ ?_))
   · first | rfl | (simp (disch:=first|exact zb|fail) only [go_sem,seval,E,hs]<;>(try rfl))
end walks
end Go.Proofs.YtmoecjgehdkhkaaDoor
