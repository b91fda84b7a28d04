/-
  Sessions: two sides have the states,packets,messages and errors of the reference.
-/
import Derived.Test.YtmoecjgehdkhkaaDoorPkS3
set_option linter.unusedSimpArgs false
set_option linter.unusedVariables false
namespace Go.Proofs.YtmoecjgehdkhkaaDoor
open Go Go.AL

theorem zJO {s:Ses} {b:By} {now:Int}:(recv s b now).2.1.Ok:=by
 have hd:=(zpn b).1
 unfold recv
 generalize (dec b).1=d at *
 repeat' split
 all_goals first | exact zqC | (dsimp only;exact hd)
theorem zBk {x:Act} {j:Nat} (h:j < 38):(acl x)[2+j]? = (mcl x.m)[j]? := by
 rw [←zQD,List.getElem?_take,if_pos h,List.getElem?_drop]
theorem zBl {x:Act}:(acl x)[5]? = some (.p (str (bytesOf x.m.text))):=(zBk (j:=3) (by omega)).trans zPQ
theorem zBm {x:Act}:(acl x)[38]? = some (.p (.sl false 1 (pl i64 x.m.sums))):=(zBk (j:=36) (by omega)).trans zJ3
theorem zBn {x:Act}:(acl x)[39]? = some (.p (.sl false 2 (pl ext x.m.values))):=(zBk (j:=37) (by omega)).trans zJ4
theorem zJP {s:Ses}:(yy s).drop 75=[.p (i64 s.bytes),.p (i64 s.rounds),.p (i64 s.words)]:=by
 rw [zcv,show (75:Nat)=(zBg s).length+1 by rw [zbR],List.drop_append,List.drop_of_length_le (by omega),Nat.add_sub_cancel_left];rfl
theorem zJQ {p:Nat → Ses} {k:Nat} (hk:k < 2):((rw2 p).drop (k*78+75)).take 3=[.p (i64 (p k).bytes),.p (i64 (p k).rounds),.p (i64 (p k).words)]:=by
 rw [←List.drop_drop,←zJP,←zgK hk,List.drop_take]
attribute [go_sem] zBl zBm zBn zJQ
def sB (H:Hp) (p p':Nat → Ses) (v:Nat):Hp:=((H.new (.cells (rw2 p))).new (.cells (rw2 p'))).new (.tail v)
def qS (H:Hp) (T:List AB):Nat:=H.n+3+T.length
def sQ (H:Hp) (p p':Nat → Ses) (v:Nat) (T L:List AB):Hp:=app (sB H p p' v) (T++L)
section sq
variable {H:Hp} {p p' r:Nat → Ses} {v v' j:Nat} {T L:List AB} {a x:AB}
theorem zpD:(sB H p p' v).n=H.n+3:=by simp [sB,Hp.n_new]
theorem zRN:(sQ H p p' v T L).n=qS H T+L.length:=by rw [sQ,app_n',zpD,List.length_append,qS];omega
theorem zPg:(sQ H p p' v T L).new x=sQ H p p' v T (L++[x]):=by rw [sQ,zaP,List.append_assoc];rfl
theorem zpE {i:Nat} {y:AB} (h:(sB H p p' v).f i=some y):(sQ H p p' v T L).f i=some y:=app_f' h
theorem zQ8:(sQ H p p' v T L).f H.n=some (.cells (rw2 p)):=zpE (by simp (disch:=first|exact zb|fail) only [sB,go_sem,seval])
theorem zQ9:(sQ H p p' v T L).f (H.n+1)=some (.cells (rw2 p')):=zpE (by simp (disch:=first|exact zb|fail) only [sB,go_sem,seval])
theorem zRa:(sQ H p p' v T L).f (H.n+2)=some (.tail v):=zpE (by simp (disch:=first|exact zb|fail) only [sB,go_sem,seval])
theorem zJR:(sQ H p p' v T L).set H.n (.cells (rw2 r))=sQ H r p' v T L:=by
 rw [sQ,zaN (by rw [zpD];omega),sQ];congr 1;simp (disch:=first|exact zb|fail) only [sB,go_sem,seval]
theorem zJS:(sQ H p p' v T L).set (H.n+1) (.cells (rw2 r))=sQ H p r v T L:=by
 rw [sQ,zaN (by rw [zpD];omega),sQ];congr 1;simp (disch:=first|exact zb|fail) only [sB,go_sem,seval]
theorem zJT:(sQ H p p' v T L).set (H.n+2) (.tail v')=sQ H p p' v' T L:=by
 rw [sQ,zaN (by rw [zpD];omega),sQ];congr 1;simp (disch:=first|exact zb|fail) only [sB,go_sem,seval]
theorem zKu:(sQ H p p' v T L).f (qS H T+j)=L[j]? := by
 rw [qS,show H.n+3+T.length+j=(sB H p p' v).n+(T.length+j) by rw [zpD];omega,sQ,zbK,List.getElem?_append_right (by omega),Nat.add_sub_cancel_left]
theorem zRb:(sQ H p p' v T (a :: L)).f (qS H T)=some a:=(zKu (j:=0)).trans rfl
theorem zBo (hj:j < L.length):(sQ H p p' v T L).set (qS H T+j) x=sQ H p p' v T (L.set j x):=by
 rw [qS,show H.n+3+T.length+j=(sB H p p' v).n+(T.length+j) by rw [zpD];omega,sQ,zbM (by rw [List.length_append];omega),List.set_append_right _ _ (by omega),Nat.add_sub_cancel_left];rfl
theorem zRc:(sQ H p p' v T (a :: L)).set (qS H T) x=sQ H p p' v T (x :: L):=(zBo (j:=0) (by simp)).trans rfl
theorem zBp:sQ H p p' v T L=sQ H p p' v (T++L) []:=by simp [sQ]
theorem zBq:(sQ H p p' v T L).trunc H.n=H:=by
 rw [sQ,zd6 (by rw [zpD];omega)];simp (disch:=first|exact zb|fail) only [sB,go_sem,seval]
theorem zPh (h:Bel H.n H):Bel H.n (sQ H p p' v T L):=by
 unfold sQ sB
 refine zam ?_ (by simp only [n_new'];omega)
 exact zK (zK (zK h (Nat.le_refl _)) (by simp only [n_new'];omega)) (by simp only [n_new'];omega)
end sq
attribute [go_sem] zRN zPg zQ8 zQ9 zRa zJR zJS zJT zKu zRb zBo zRc zBq Option.toList_some Option.toList_none List.getElem?_cons_zero List.getElem?_cons_succ List.length_cons List.length_nil List.cons_append List.nil_append List.append_nil
def StI (H:Hp) (l:List Act) (dd:Int) (i:Nat) (T:List AB) (env:Env) (H':Hp):Prop := ∃ (p:Nat → Ses) (P:List By) (v:Nat) (L:List AB),
 (env 0 = .p (.sl false 42 (pl act l))∧env 4 = .p (bo false)∧env 5 = .p (bo true)∧env 6 = .ref H.n 0 2 78∧env 7 = .ref (H.n+1) 0 2 78∧env 8 = .sl (H.n+2) v 1 (pl (sle 1 b8) P)∧env 9 = .p (i64 i)) ∧
 H'=sQ H p p v T L∧v=P.length∧(∀ k,k < 2 → Good dd (i+1) (p k))∧P.length≤i+1 ∧ ∀ b∈P,b.length≤3000
structure StQ (dd:Int) (n:Nat) (s:PlS):Prop where
 i:s.i≤n
 p : ∀ k,k < 2 → Good dd s.i (s.p k)
 P:s.P.length≤s.i
 b : ∀ b∈s.P,b.length≤3000
section walks
variable {G:Globs} {r1 r2:Nat} {m1:List (Int × Rule)} {m2:List (Int × Int)}
set_option maxHeartbeats 2000000 in
set_option maxRecDepth 20000 in
theorem zpF (g:GR G r1 r2 m1 m2) (l:List Act) (hl:l.length≤9223372036854775807) (hlm : ∀ i,i < l.length → (nth l i).m.In) (due:BitVec 8) (H:Hp) (R:AV → Hp → Prop) (h:R (.p (bo true)) H) :
 ACall Tryd.prog G 4 [.p (.sl false 42 (pl act l)),.p (b8 due)] H R:=by
 have hdl:=due.isLt
 obtain⟨dn,hdn⟩ : ∃ dn:Nat,due.toNat=dn:=⟨_,rfl⟩
 have wd:=wrap_small (n:=dn) (by omega)
 refine ACall.of_run (raw:=[]) Tryd.func4 rfl Tryd.ntmps4 (by simp) fun hbel => ?_
 refine .q ?_;refine .text ?_;simp (disch:=first|exact zb|fail) only [go_sem,seval]
 refine .q ?_;refine .text ?_;simp (disch:=first|exact zb|fail) only [go_sem,seval]
 refine CallK.of (fun R h=>zma g _ R h) ?_;simp (disch:=first|exact zb|fail) only [go_sem,seval]
 refine .q ?_;refine .region ?_
 refine .one rfl (by simp (disch:=first|exact zb|fail) only [go_sem,seval]<;>rfl) rfl ?_
 refine .one rfl (by simp (disch:=first|exact zb|fail) only [go_sem,seval,hdn,wd]<;>rfl) rfl ?_
 refine zcu rfl (by simp (disch:=first|exact zb|fail) only [go_sem,seval]<;>rfl) rfl rfl (fun R h=>zcf 5 dn _ R h) ?_
 refine .one rfl (by simp (disch:=first|exact zb|fail) only [go_sem,seval]<;>rfl) rfl ?_
 refine .one rfl (by simp (disch:=first|exact zb|fail) only [go_sem,seval,hdn,wd]<;>rfl) rfl ?_
 refine zcu rfl (by simp (disch:=first|exact zb|fail) only [go_sem,seval]<;>rfl) rfl rfl (fun R h=>zcf 5 dn _ R h) ?_
 refine .buildRow (sz:=78) (cs:=rw2 fun _=>zdc 5 dn) (by simp (disch:=first|exact zb|fail) only [go_sem,seval,yX,y9]<;>rfl) (by rfl) ?_
 refine .run ?_
 simp (disch:=first|exact zb|fail) only [go_sem,seval]
 refine .q ?_;refine .region ?_
 refine .one rfl (by simp (disch:=first|exact zb|fail) only [go_sem,seval]<;>rfl) rfl ?_
 refine .one rfl (by simp (disch:=first|exact zb|fail) only [go_sem,seval,hdn,wd]<;>rfl) rfl ?_
 refine zcu rfl (by simp (disch:=first|exact zb|fail) only [go_sem,seval]<;>rfl) rfl rfl (fun R h=>zgF 5 dn _ R h) ?_
 refine .one rfl (by simp (disch:=first|exact zb|fail) only [go_sem,seval]<;>rfl) rfl ?_
 refine .one rfl (by simp (disch:=first|exact zb|fail) only [go_sem,seval,hdn,wd]<;>rfl) rfl ?_
 refine zcu rfl (by simp (disch:=first|exact zb|fail) only [go_sem,seval]<;>rfl) rfl rfl (fun R h=>zgF 5 dn _ R h) ?_
 refine .buildRow (sz:=78) (cs:=rw2 fun _=>zdc 5 dn) (by simp (disch:=first|exact zb|fail) only [go_sem,seval,yX,y9]<;>rfl) (by rfl) ?_
 refine .run ?_
 simp (disch:=first|exact zb|fail) only [go_sem,seval]
 refine .q ?_;refine .text ?_;simp (disch:=first|exact zb|fail) only [go_sem,seval]
 refine .q ?_;refine .own 8 (by simp (disch:=first|exact zb|fail) only [go_sem,seval];rfl) ?_
 refine .q ?_;refine .text ?_;simp (disch:=first|exact zb|fail) only [go_sem,seval]
 refine .q ?_;refine .loopK (S:=PlS) [0,5,6,7] (fun s=>[(4,.p (bo false)),(8,.sl (H.n+2) s.P.length 1 (pl (sle 1 b8) s.P)),(9,.p (i64 (s.i:Nat)))]) (fun s=>sQ H s.p s.p s.P.length s.T []) (fun s=>StQ dn 30 s) (fun s=>l.length+30 - s.i) ((⟨0,fun _=>zdc 5 dn,[],[]⟩:PlS)) ?_ (by first | rfl | (simp (disch:=first|exact zb|fail) only [go_sem,seval]<;>rfl)) ?_ ?_
 · simp (disch:=first|exact zb|fail) only [go_sem,seval]<;>(repeat' (first | rfl | refine And.intro ?_ ?_))
 rotate_left 1
 intro s env E hQ ihE;simp (disch:=first|exact zb|fail) only [go_sem,seval] at E
 rotate_left 1
 · exact⟨Nat.zero_le _,fun k hk=>Good.new,Nat.le_refl _,fun b hb=>by cases hb⟩
 · obtain⟨i,p,P,T⟩:=s
   obtain⟨hi,hp,hP,hb⟩:=hQ
   simp only at hi hp hP hb E
   have hbel:=fun p p' v L=>zPh (p:=p) (p':=p') (v:=v) (T:=T) (L:=L) hbel
   by_cases c1:i < l.length
   · have d1:decide ((i:Int) < (l.length:Int))=true:=decide_eq_true (by omega)
     by_cases c2:i < 30
     · have d2:decide ((i:Int) < 30)=true:=decide_eq_true (by omega)
       refine .q ?_;refine .text ?_;simp (disch:=first|exact zb|fail) only [go_sem,seval,E,d1,d2]
       refine .q ?_;refine .ifT (by simp (disch:=first|exact zb|fail) only [go_sem,seval]) ?_
       (repeat refine .zs rfl ?_);refine .cut (StI H l dn i T) (fun ih1 => ?_) ?_
       · skip
         refine .q ?_;refine .text ?_;simp (disch:=first|exact zb|fail) only [go_sem,seval,E]
         generalize hx:nth l i=x at *
         have hxm:=hlm i c1
         rw [hx] at hxm
         obtain⟨k,hk⟩ : ∃ k,(x.who &&& 1#8).toNat=k:=⟨_,rfl⟩
         have hk2:k < 2:=by
          rw [←hk,BitVec.toNat_and]
          exact Nat.lt_of_le_of_lt Nat.and_le_right (by decide)
         have wk:=wrap_small (n:=k) (by omega)
         have h6:(6#8:BitVec 8)≠0#8:=by decide
         have hgk:=hp k hk2
         have hok:=hgk.ok (by omega)
         have hkl:(k:Int) < 2:=by omega
         have hlen : ∀ e:By,(P++[e]).length=P.length+1:=fun e=>by simp
         have hP2 : ∀ e:By,e.length≤3000 → ∀ b∈P++[e],b.length≤3000:=fun e he b hbm=>by
          rcases List.mem_append.1 hbm with q1 | q1
          · exact hb b q1
          · rw [List.mem_singleton.1 q1];exact he
         have hp1 : ∀ k,k < 2 → Good dn (i+1) (p k):=fun k hk=>(hp k hk).mono (by omega)
         have hko:=hgk.step
         have dsame : ∀ e:By,decide (e=e)=true:=fun e=>decide_eq_true rfl
         have bsame : ∀ c:Int,(c != c)=false:=fun c=>bne_self_eq_false c
         refine .q ?_;refine .text ?_;simp (disch:=first|exact zb|fail) only [go_sem,seval,E,hk,wk]
         refine .q ?_;refine .text ?_;simp (disch:=first|exact zb|fail) only [go_sem,seval,E]
         (repeat refine .zs rfl ?_);refine .cut (fun env' H'=>StI H l dn i T env' H'∧env' 11 = .p (i64 k)) (fun ih => ?_) ?_
         rotate_left 1
         · rintro env' H' ⟨⟨p',P',v',L',⟨e0,e4,e5,e6,e7,e8,e9⟩,rfl,rfl,g1,g2,g3⟩,e11⟩
           have gk:=g1 k hk2
           have hcmp:=gk.cmp (by omega)
           have hu:=(zAY hcmp.bytes hcmp.rounds hcmp.words).2
           refine .q ?_;refine .open [] follows (by kernel_rfl) ?_;simp (disch:=first|exact zb|fail) only [go_sem,seval,e6,e7,e11]
           refine CallD.still (fun R h=>zex (p' k) hcmp _ R h) ?_;simp (disch:=first|exact zb|fail) only [go_sem,seval,e6,e7,e11]
           refine CallD.still (fun R h=>zdw (p' k) _ R h) ?_;simp (disch:=first|exact zb|fail) only [go_sem,seval,e6,e7,e11,zqD,hu]
           refine .q ?_;refine .ifF (by simp (disch:=first|exact zb|fail) only [go_sem,seval]) ?_
           refine .skip ?_
           first | refine ih1 _ _ ?_ | (refine .z rfl ?_;refine ih1 _ _ ?_) | (refine .z rfl ?_;refine .z rfl ?_;refine ih1 _ _ ?_)
           exact⟨p',P',P'.length,L',(by simp (disch:=first|exact zb|fail) only [go_sem,seval,e0,e4,e5,e6,e7,e8,e9]<;>(repeat' (first | rfl | refine And.intro ?_ ?_))),rfl,by simp,g1,g2,g3⟩
         refine .q ?_;refine .text ?_;simp (disch:=first|exact zb|fail) only [go_sem,seval]
         cases w0:x.what % 6#8 == 0#8 with
         | true =>
          have hel:(enc (p k).last).length≤140737488355000:=by have:=zjf (m:=(p k).last);omega
          refine .q ?_;refine .ifT (by simp (disch:=first|exact zb|fail) only [go_sem,seval,w0]) ?_
          refine .q ?_;refine .text ?_;simp (disch:=first|exact zb|fail) only [go_sem,seval,E]
          refine CallK.of (fun R h=>zc1 g (p k) hgk.last _ R h) ?_;simp (disch:=first|exact zb|fail) only [go_sem,seval,E]
          refine .q ?_;refine .text ?_;simp (disch:=first|exact zb|fail) only [go_sem,seval,E]
          refine CallK.of (fun R h=>zhi (p k) hgk.last _ R h) ?_;simp (disch:=first|exact zb|fail) only [go_sem,seval,E]
          refine CallK.of (fun R h=>zan _ _ hel hel _ R h) ?_;simp (disch:=first|exact zb|fail) only [go_sem,seval,dsame]
          refine .q ?_;refine .ifF (by simp (disch:=first|exact zb|fail) only [go_sem,seval]) ?_
          refine .skip ?_
          refine .q ?_;refine .text ?_;simp (disch:=first|exact zb|fail) only [go_sem,seval,E]
          first | refine ih _ _ ?_ | (refine .z rfl ?_;refine ih _ _ ?_) | (refine .z rfl ?_;refine .z rfl ?_;refine ih _ _ ?_)
          exact⟨⟨p,P++[enc (p k).last],P.length+1,[.cells (acl x)],(by simp (disch:=first|exact zb|fail) only [go_sem,seval,E]<;>(repeat' (first | rfl | refine And.intro ?_ ?_))),rfl,by simp,hp1,(by rw [hlen];omega),(hP2 _ zjf)⟩,(by simp (disch:=first|exact zb|fail) only [go_sem,seval,E])⟩
         | false =>
          refine .q ?_;refine .ifF (by simp (disch:=first|exact zb|fail) only [go_sem,seval,w0]) ?_
          refine .q ?_;refine .text ?_;simp (disch:=first|exact zb|fail) only [go_sem,seval]
          cases w1:x.what % 6#8 == 1#8 with
          | true =>
           refine .q ?_;refine .ifT (by simp (disch:=first|exact zb|fail) only [go_sem,seval,w1]) ?_
           refine .q ?_;refine .text ?_;simp (disch:=first|exact zb|fail) only [go_sem,seval,E]
           cases t1:decide ((500:Int) < (x.m.text.length:Int)) with
           | true =>
            simp (disch:=first|exact zb|fail) only [go_sem,seval,t1,E]
            refine .q ?_;refine .ifT (by simp (disch:=first|exact zb|fail) only [go_sem,seval]) ?_
            first | refine ih1 _ _ ?_ | (refine .z rfl ?_;refine ih1 _ _ ?_) | (refine .z rfl ?_;refine .z rfl ?_;refine ih1 _ _ ?_)
            exact⟨p,P,P.length,[.cells (acl x)],(by simp (disch:=first|exact zb|fail) only [go_sem,seval,E]<;>(repeat' (first | rfl | refine And.intro ?_ ?_))),rfl,by simp,hp1,(by omega),hb⟩
           | false =>
           simp (disch:=first|exact zb|fail) only [go_sem,seval,t1,E]
           cases t2:decide ((100:Int) < (x.m.sums.length:Int)) with
           | true =>
            simp (disch:=first|exact zb|fail) only [go_sem,seval,t2,E]
            refine .q ?_;refine .ifT (by simp (disch:=first|exact zb|fail) only [go_sem,seval]) ?_
            first | refine ih1 _ _ ?_ | (refine .z rfl ?_;refine ih1 _ _ ?_) | (refine .z rfl ?_;refine .z rfl ?_;refine ih1 _ _ ?_)
            exact⟨p,P,P.length,[.cells (acl x)],(by simp (disch:=first|exact zb|fail) only [go_sem,seval,E]<;>(repeat' (first | rfl | refine And.intro ?_ ?_))),rfl,by simp,hp1,(by omega),hb⟩
           | false =>
           simp (disch:=first|exact zb|fail) only [go_sem,seval,t2,E]
           cases t3:decide ((100:Int) < (x.m.values.length:Int)) with
           | true =>
            refine .q ?_;refine .ifT (by simp (disch:=first|exact zb|fail) only [go_sem,seval,t3]) ?_
            first | refine ih1 _ _ ?_ | (refine .z rfl ?_;refine ih1 _ _ ?_) | (refine .z rfl ?_;refine .z rfl ?_;refine ih1 _ _ ?_)
            exact⟨p,P,P.length,[.cells (acl x)],(by simp (disch:=first|exact zb|fail) only [go_sem,seval,E]<;>(repeat' (first | rfl | refine And.intro ?_ ?_))),rfl,by simp,hp1,(by omega),hb⟩
           | false =>
           have q1:=of_decide_eq_false t1
           have q2:=of_decide_eq_false t2
           have q3:=of_decide_eq_false t3
           have hmo:x.m.Ok:=⟨hxm.kind,hxm.session,hxm.step,by omega,by omega,by omega⟩
           have gS:=hgk.send (by omega) hmo
           have gE:(send (p k) x.m).2.1.length≤3000:=zmb
           have sa : ∀ (B:Hp) R,R (.tup [.p (yt (send (p k) x.m).1),.p (.sl false 1 (pl b8 (send (p k) x.m).2.1)),.p (i64 (send (p k) x.m).2.2)]) B → ACall Tryd.prog G 19 [.p (yt (p k)),.p (yK x.m)] B R:=fun B R h=>zaF g (p k) hok _ hmo _ R h
           have sb : ∀ (B:Hp) R,R (.tup [.p (yt (send (p k) x.m).1),.p (.sl false 1 (pl b8 (send (p k) x.m).2.1)),.p (i64 (send (p k) x.m).2.2)]) B → ACall Tryd.prog G 20 [.p (yt (p k)),.p (yK x.m)] B R:=fun B R h=>zey (p k) hok _ hmo _ R h
           generalize send (p k) x.m=sd at *
           obtain⟨S,e,c⟩:=sd
           simp only at gS gE sa sb
           have hcS:=gS.cmp (by omega)
           have hel:e.length≤140737488355000:=by omega
           refine .q ?_;refine .ifF (by simp (disch:=first|exact zb|fail) only [go_sem,seval,t3]) ?_
           (refine .q ?_)
           refine .openInv (fun L env' H'=>kF env' [(0,.p (.sl false 42 (pl act l))),(4,.p (bo false)),(5,.p (bo true)),(6,.ref H.n 0 2 78),(7,.ref (H.n+1) 0 2 78),(8,.sl (H.n+2) P.length 1 (pl (sle 1 b8) P)),(9,.p (i64 i)),(10,.ptr (qS H T) 0),(11,.p (i64 k))]∧kI L env' [(0,160,.ref H.n 0 2 78),(1,161,.p (i64 k)),(2,162,.ptr (H.n) (k*78)),(3,163,.p (yt (p k))),(4,164,.ptr (qS H T) 2),(5,165,.p (yK x.m)),(6,166,.tup [.p (yt S),.p (.sl false 1 (pl b8 e)),.p (i64 c)]),(7,159,.tup [.p (yt S),.p (.sl false 1 (pl b8 e)),.p (i64 c)]),(8,167,.p (yt S)),(9,168,.p (.sl false 1 (pl b8 e))),(10,169,.p (i64 c)),(11,13,.ptr (qS H T+1) 0),(13,14,.p (.sl false 1 (pl b8 e))),(14,15,.p (i64 c))]∧(L 12=true → allT L [0,1,2,3,4,5,6,7,8,11])∧H'=(sQ H p p P.length T (AB.cells (acl x) :: (if L 12 then some (AB.cells (yy S)) else if L 11 then some (AB.cells (nC 0 0)) else none).toList))) follows (by kernel_rfl) ?_ ?_ ?_
           · exact⟨(by simp (disch:=first|exact zb|fail) only [go_sem,seval,kFi,kFn,and_self,E]),(fun _ _ h=>by cases h),(fun h=>by cases h),(by first | rfl | (simp only [Bool.false_eq_true,if_false];first | rfl | (simp (disch:=first|exact zb|fail) only [go_sem,seval,E]<;>rfl)))⟩
           · intro i o L env' H' ho hL hall hI
             obtain⟨KF,KG,m12,rfl⟩:=hI
             rcases i with _ | _ | _ | _ | _ | _ | _ | _ | _ | _ | _ | _ | _ | _ | _ | i
             · cases ho;have f3:=zJ KF 3 rfl;refine zf (.ref H.n 0 2 78) rfl rfl (by simp (disch:=first|exact zb|fail) only [go_sem,seval,f3]<;>rfl) rfl ?_;exact⟨zx KF,zA KG,ka m12,(by rw [za (by decide),za (by decide)])⟩
             · cases ho;have f8:=zJ KF 8 rfl;refine zf (.p (i64 k)) rfl rfl (by simp (disch:=first|exact zb|fail) only [go_sem,seval,f8]<;>rfl) rfl ?_;exact⟨zx KF,zA KG,ka m12,(by rw [za (by decide),za (by decide)])⟩
             · cases ho;have d0:=zn KG 0 rfl (kL hall 0 rfl rfl);have d1:=zn KG 1 rfl (kL hall 1 rfl rfl);refine zf (.ptr (H.n) (k*78)) rfl rfl (by simp (disch:=first|exact zb|fail) only [go_sem,seval,d0,d1]<;>rfl) rfl ?_;exact⟨zx KF,zA KG,ka m12,(by rw [za (by decide),za (by decide)])⟩
             · cases ho;have d2:=zn KG 2 rfl (kL hall 0 rfl rfl);have n12:=ya m12 hL;refine zf (.p (yt (p k))) rfl rfl (by simp (disch:=first|exact zb|fail) only [go_sem,seval,reduceIte,Bool.false_eq_true,if_false,if_true,d2,n12,hL]<;>rfl) rfl ?_;exact⟨zx KF,zA KG,ka m12,(by rw [za (by decide),za (by decide)])⟩
             · cases ho;have f7:=zJ KF 7 rfl;refine zf (.ptr (qS H T) 2) rfl rfl (by simp (disch:=first|exact zb|fail) only [go_sem,seval,f7]<;>rfl) rfl ?_;exact⟨zx KF,zA KG,ka m12,(by rw [za (by decide),za (by decide)])⟩
             · cases ho;have d4:=zn KG 4 rfl (kL hall 0 rfl rfl);have n12:=ya m12 hL;refine zf (.p (yK x.m)) rfl rfl (by simp (disch:=first|exact zb|fail) only [go_sem,seval,reduceIte,Bool.false_eq_true,if_false,if_true,d4,n12,hL]<;>rfl) rfl ?_;exact⟨zx KF,zA KG,ka m12,(by rw [za (by decide),za (by decide)])⟩
             · cases ho;have d3:=zn KG 3 rfl (kL hall 0 rfl rfl);have d5:=zn KG 5 rfl (kL hall 1 rfl rfl);have n12:=ya m12 hL;(try simp only [n12,if_true,if_false,Bool.false_eq_true]);refine ym rfl rfl (by simp (disch:=first|exact zb|fail) only [go_sem,seval,reduceIte,Bool.false_eq_true,if_false,if_true,d3,d5,n12,hL]<;>rfl) rfl (by simp (disch:=first|exact zb|fail) only [go_sem,seval,reduceIte,Bool.false_eq_true,if_false,if_true,d3,d5,n12,hL]<;>rfl) (fun R h=>sa _ R h) ?_;exact⟨zx KF,zA KG,ka m12,(by (have e11:more L 6 11=L 11:=za (by decide));(have e12:more L 6 12=L 12:=za (by decide));(try simp only [e11,e12,n12]);first | done | rfl | (simp only [e11,e12,n12,if_true,if_false,Bool.false_eq_true];first | done | rfl | (simp (disch:=first|exact zb|fail) only [go_sem,seval,e11,e12,n12]<;>rfl)))⟩
             · cases ho;have d6:=zn KG 6 rfl (kL hall 0 rfl rfl);refine zf (.tup [.p (yt S),.p (.sl false 1 (pl b8 e)),.p (i64 c)]) rfl rfl (by simp (disch:=first|exact zb|fail) only [go_sem,seval,d6]<;>rfl) rfl ?_;exact⟨zx KF,zA KG,ka m12,(by rw [za (by decide),za (by decide)])⟩
             · cases ho;have d7:=zn KG 7 rfl (kL hall 0 rfl rfl);refine zf (.p (yt S)) rfl rfl (by simp (disch:=first|exact zb|fail) only [go_sem,seval,d7]<;>rfl) rfl ?_;exact⟨zx KF,zA KG,ka m12,(by rw [za (by decide),za (by decide)])⟩
             · cases ho;have d7:=zn KG 7 rfl (kL hall 0 rfl rfl);refine zf (.p (.sl false 1 (pl b8 e))) rfl rfl (by simp (disch:=first|exact zb|fail) only [go_sem,seval,d7]<;>rfl) rfl ?_;exact⟨zx KF,zA KG,ka m12,(by rw [za (by decide),za (by decide)])⟩
             · cases ho;have d7:=zn KG 7 rfl (kL hall 0 rfl rfl);refine zf (.p (i64 c)) rfl rfl (by simp (disch:=first|exact zb|fail) only [go_sem,seval,d7]<;>rfl) rfl ?_;exact⟨zx KF,zA KG,ka m12,(by rw [za (by decide),za (by decide)])⟩
             · cases ho;have n12:=ya m12 hL;(try simp only [n12,hL,if_true,if_false,Bool.false_eq_true]);refine zZ (.ptr (qS H T+1) 0) rfl rfl (by simp (disch:=first|exact zb|fail) only [go_sem,seval,reduceIte,Bool.false_eq_true,if_false,if_true,n12,hL]<;>rfl) rfl ?_;exact⟨zx KF,zA KG,ka m12,(by (have e11:more L 11 11=true:=zr);(have e12:more L 11 12=L 12:=za (by decide));(try simp only [e11,e12,n12,hL]);first | done | rfl | (simp only [e11,e12,n12,hL,if_true,if_false,Bool.false_eq_true];first | done | rfl | (simp (disch:=first|exact zb|fail) only [go_sem,seval,e11,e12,n12,hL]<;>rfl)))⟩
             · cases ho;have h11:=kL hall 0 rfl rfl;have d11:=zn KG 11 rfl h11;have h8:=kL hall 1 rfl rfl;have d8:=zn KG 8 rfl h8;have h6:=kL hall 2 rfl rfl;have h0:=kL hall 3 rfl rfl;have h1:=kL hall 4 rfl rfl;have h2:=kL hall 5 rfl rfl;have h3:=kL hall 6 rfl rfl;have h4:=kL hall 7 rfl rfl;have h5:=kL hall 8 rfl rfl;have h7:=kL hall 10 rfl rfl;refine yb rfl rfl (by simp (disch:=first|exact zb|fail) only [go_sem,seval,reduceIte,Bool.false_eq_true,if_false,if_true,d8,d11,h11,hL]<;>rfl) rfl ?_;exact⟨KF,kIs KG,(fun _=>kt (zc h0 (zc h1 (zc h2 (zc h3 (zc h4 (zc h5 (zc h6 (zc h7 (zc h8 (zc h11 zv))))))))))),(by (have e11:more L 12 11=L 11:=za (by decide));(have e12:more L 12 12=true:=zr);(try simp only [e11,e12,h11,hL]);first | done | rfl | (simp only [e11,e12,h11,hL,if_true,if_false,Bool.false_eq_true];first | done | rfl | (simp (disch:=first|exact zb|fail) only [go_sem,seval,e11,e12,h11,hL]<;>rfl)))⟩
             · cases ho;have d9:=zn KG 9 rfl (kL hall 0 rfl rfl);refine zf (.p (.sl false 1 (pl b8 e))) rfl rfl (by simp (disch:=first|exact zb|fail) only [go_sem,seval,d9]<;>rfl) rfl ?_;exact⟨zx KF,zA KG,ka m12,(by rw [za (by decide),za (by decide)])⟩
             · cases ho;have d10:=zn KG 10 rfl (kL hall 0 rfl rfl);refine zf (.p (i64 c)) rfl rfl (by simp (disch:=first|exact zb|fail) only [go_sem,seval,d10]<;>rfl) rfl ?_;exact⟨zx KF,zA KG,ka m12,(by rw [za (by decide),za (by decide)])⟩
             · simp at ho
           · intro L env' H' hall hI
             obtain⟨KF,KG,_,rfl⟩:=hI
             have l11:=hall 11 (by decide)
             have l12:=hall 12 (by decide)
             have f0:=zJ KF 0 rfl
             have f1:=zJ KF 1 rfl
             have f2:=zJ KF 2 rfl
             have f3:=zJ KF 3 rfl
             have f4:=zJ KF 4 rfl
             have f5:=zJ KF 5 rfl
             have f6:=zJ KF 6 rfl
             have f7:=zJ KF 7 rfl
             have f8:=zJ KF 8 rfl
             have g1:=zn KG 1 rfl (hall 1 (by decide))
             have g2:=zn KG 2 rfl (hall 2 (by decide))
             have g3:=zn KG 3 rfl (hall 3 (by decide))
             have g11:=zn KG 11 rfl (hall 11 (by decide))
             have g13:=zn KG 12 rfl (hall 13 (by decide))
             have g14:=zn KG 13 rfl (hall 14 (by decide))
             simp only [l11,l12,if_true]
             clear hall
             change ARun _ _ _ (sQ H p p P.length T [.cells (acl x),.cells (yy S)]) R
             (refine .q ?_)
             refine .openInv (fun L env' H'=>kF env' [(0,.p (.sl false 42 (pl act l))),(4,.p (bo false)),(5,.p (bo true)),(6,.ref H.n 0 2 78),(7,.ref (H.n+1) 0 2 78),(8,.sl (H.n+2) P.length 1 (pl (sle 1 b8) P)),(9,.p (i64 i)),(10,.ptr (qS H T) 0),(11,.p (i64 k)),(13,.ptr (qS H T+1) 0),(14,.p (.sl false 1 (pl b8 e))),(15,.p (i64 c))]∧kI L env' [(0,171,.ref (H.n+1) 0 2 78),(1,172,.p (i64 k)),(2,173,.ptr (H.n+1) (k*78)),(3,174,.p (yt (p k))),(4,175,.ptr (qS H T) 2),(5,176,.p (yK x.m)),(6,177,.tup [.p (yt S),.p (.sl false 1 (pl b8 e)),.p (i64 c)]),(7,170,.tup [.p (yt S),.p (.sl false 1 (pl b8 e)),.p (i64 c)]),(8,178,.p (yt S)),(9,179,.p (.sl false 1 (pl b8 e))),(10,180,.p (i64 c)),(11,16,.ptr (qS H T+2) 0),(13,17,.p (.sl false 1 (pl b8 e))),(14,18,.p (i64 c))]∧(L 12=true → allT L [0,1,2,3,4,5,6,7,8,11])∧H'=(sQ H p p P.length T (AB.cells (acl x) :: AB.cells (yy S) :: (if L 12 then some (AB.cells (yy S)) else if L 11 then some (AB.cells (nC 0 0)) else none).toList))) follows (by kernel_rfl) ?_ ?_ ?_
             · exact⟨(by simp (disch:=first|exact zb|fail) only [go_sem,seval,kFi,kFn,and_self,f0,f1,f2,f3,f4,f5,f6,f7,f8,g11,g13,g14]),(fun _ _ h=>by cases h),(fun h=>by cases h),(by first | rfl | (simp only [Bool.false_eq_true,if_false];first | rfl | (simp (disch:=first|exact zb|fail) only [go_sem,seval,f0,f1,f2,f3,f4,f5,f6,f7,f8,g11,g13,g14]<;>rfl)))⟩
             · intro i o L env' H' ho hL hall hI
               obtain⟨KF,KG,m12,rfl⟩:=hI
               rcases i with _ | _ | _ | _ | _ | _ | _ | _ | _ | _ | _ | _ | _ | _ | _ | i
               · cases ho;have f4:=zJ KF 4 rfl;refine zf (.ref (H.n+1) 0 2 78) rfl rfl (by simp (disch:=first|exact zb|fail) only [go_sem,seval,f4,f0,f1,f2,f3,f4,f5,f6,f7,f8,g11,g13,g14]<;>rfl) rfl ?_;exact⟨zx KF,zA KG,ka m12,(by rw [za (by decide),za (by decide)])⟩
               · cases ho;have f8:=zJ KF 8 rfl;refine zf (.p (i64 k)) rfl rfl (by simp (disch:=first|exact zb|fail) only [go_sem,seval,f8,f0,f1,f2,f3,f4,f5,f6,f7,f8,g11,g13,g14]<;>rfl) rfl ?_;exact⟨zx KF,zA KG,ka m12,(by rw [za (by decide),za (by decide)])⟩
               · cases ho;have d0:=zn KG 0 rfl (kL hall 0 rfl rfl);have d1:=zn KG 1 rfl (kL hall 1 rfl rfl);refine zf (.ptr (H.n+1) (k*78)) rfl rfl (by simp (disch:=first|exact zb|fail) only [go_sem,seval,d0,d1,f0,f1,f2,f3,f4,f5,f6,f7,f8,g11,g13,g14]<;>rfl) rfl ?_;exact⟨zx KF,zA KG,ka m12,(by rw [za (by decide),za (by decide)])⟩
               · cases ho;have d2:=zn KG 2 rfl (kL hall 0 rfl rfl);have n12:=ya m12 hL;refine zf (.p (yt (p k))) rfl rfl (by simp (disch:=first|exact zb|fail) only [go_sem,seval,reduceIte,Bool.false_eq_true,if_false,if_true,d2,n12,hL,f0,f1,f2,f3,f4,f5,f6,f7,f8,g11,g13,g14]<;>rfl) rfl ?_;exact⟨zx KF,zA KG,ka m12,(by rw [za (by decide),za (by decide)])⟩
               · cases ho;have f7:=zJ KF 7 rfl;refine zf (.ptr (qS H T) 2) rfl rfl (by simp (disch:=first|exact zb|fail) only [go_sem,seval,f7,f0,f1,f2,f3,f4,f5,f6,f7,f8,g11,g13,g14]<;>rfl) rfl ?_;exact⟨zx KF,zA KG,ka m12,(by rw [za (by decide),za (by decide)])⟩
               · cases ho;have d4:=zn KG 4 rfl (kL hall 0 rfl rfl);have n12:=ya m12 hL;refine zf (.p (yK x.m)) rfl rfl (by simp (disch:=first|exact zb|fail) only [go_sem,seval,reduceIte,Bool.false_eq_true,if_false,if_true,d4,n12,hL,f0,f1,f2,f3,f4,f5,f6,f7,f8,g11,g13,g14]<;>rfl) rfl ?_;exact⟨zx KF,zA KG,ka m12,(by rw [za (by decide),za (by decide)])⟩
               · cases ho;have d3:=zn KG 3 rfl (kL hall 0 rfl rfl);have d5:=zn KG 5 rfl (kL hall 1 rfl rfl);have n12:=ya m12 hL;(try simp only [n12,if_true,if_false,Bool.false_eq_true]);refine ym rfl rfl (by simp (disch:=first|exact zb|fail) only [go_sem,seval,reduceIte,Bool.false_eq_true,if_false,if_true,d3,d5,n12,hL,f0,f1,f2,f3,f4,f5,f6,f7,f8,g11,g13,g14]<;>rfl) rfl (by simp (disch:=first|exact zb|fail) only [go_sem,seval,reduceIte,Bool.false_eq_true,if_false,if_true,d3,d5,n12,hL,f0,f1,f2,f3,f4,f5,f6,f7,f8,g11,g13,g14]<;>rfl) (fun R h=>sb _ R h) ?_;exact⟨zx KF,zA KG,ka m12,(by (have e11:more L 6 11=L 11:=za (by decide));(have e12:more L 6 12=L 12:=za (by decide));(try simp only [e11,e12,n12]);first | done | rfl | (simp only [e11,e12,n12,if_true,if_false,Bool.false_eq_true];first | done | rfl | (simp (disch:=first|exact zb|fail) only [go_sem,seval,e11,e12,n12,f0,f1,f2,f3,f4,f5,f6,f7,f8,g11,g13,g14]<;>rfl)))⟩
               · cases ho;have d6:=zn KG 6 rfl (kL hall 0 rfl rfl);refine zf (.tup [.p (yt S),.p (.sl false 1 (pl b8 e)),.p (i64 c)]) rfl rfl (by simp (disch:=first|exact zb|fail) only [go_sem,seval,d6,f0,f1,f2,f3,f4,f5,f6,f7,f8,g11,g13,g14]<;>rfl) rfl ?_;exact⟨zx KF,zA KG,ka m12,(by rw [za (by decide),za (by decide)])⟩
               · cases ho;have d7:=zn KG 7 rfl (kL hall 0 rfl rfl);refine zf (.p (yt S)) rfl rfl (by simp (disch:=first|exact zb|fail) only [go_sem,seval,d7,f0,f1,f2,f3,f4,f5,f6,f7,f8,g11,g13,g14]<;>rfl) rfl ?_;exact⟨zx KF,zA KG,ka m12,(by rw [za (by decide),za (by decide)])⟩
               · cases ho;have d7:=zn KG 7 rfl (kL hall 0 rfl rfl);refine zf (.p (.sl false 1 (pl b8 e))) rfl rfl (by simp (disch:=first|exact zb|fail) only [go_sem,seval,d7,f0,f1,f2,f3,f4,f5,f6,f7,f8,g11,g13,g14]<;>rfl) rfl ?_;exact⟨zx KF,zA KG,ka m12,(by rw [za (by decide),za (by decide)])⟩
               · cases ho;have d7:=zn KG 7 rfl (kL hall 0 rfl rfl);refine zf (.p (i64 c)) rfl rfl (by simp (disch:=first|exact zb|fail) only [go_sem,seval,d7,f0,f1,f2,f3,f4,f5,f6,f7,f8,g11,g13,g14]<;>rfl) rfl ?_;exact⟨zx KF,zA KG,ka m12,(by rw [za (by decide),za (by decide)])⟩
               · cases ho;have n12:=ya m12 hL;(try simp only [n12,hL,if_true,if_false,Bool.false_eq_true]);refine zZ (.ptr (qS H T+2) 0) rfl rfl (by simp (disch:=first|exact zb|fail) only [go_sem,seval,reduceIte,Bool.false_eq_true,if_false,if_true,n12,hL,f0,f1,f2,f3,f4,f5,f6,f7,f8,g11,g13,g14]<;>rfl) rfl ?_;exact⟨zx KF,zA KG,ka m12,(by (have e11:more L 11 11=true:=zr);(have e12:more L 11 12=L 12:=za (by decide));(try simp only [e11,e12,n12,hL]);first | done | rfl | (simp only [e11,e12,n12,hL,if_true,if_false,Bool.false_eq_true];first | done | rfl | (simp (disch:=first|exact zb|fail) only [go_sem,seval,e11,e12,n12,hL,f0,f1,f2,f3,f4,f5,f6,f7,f8,g11,g13,g14]<;>rfl)))⟩
               · cases ho;have h11:=kL hall 0 rfl rfl;have d11:=zn KG 11 rfl h11;have h8:=kL hall 1 rfl rfl;have d8:=zn KG 8 rfl h8;have h6:=kL hall 2 rfl rfl;have h0:=kL hall 3 rfl rfl;have h1:=kL hall 4 rfl rfl;have h2:=kL hall 5 rfl rfl;have h3:=kL hall 6 rfl rfl;have h4:=kL hall 7 rfl rfl;have h5:=kL hall 8 rfl rfl;have h7:=kL hall 10 rfl rfl;refine yb rfl rfl (by simp (disch:=first|exact zb|fail) only [go_sem,seval,reduceIte,Bool.false_eq_true,if_false,if_true,d8,d11,h11,hL,f0,f1,f2,f3,f4,f5,f6,f7,f8,g11,g13,g14]<;>rfl) rfl ?_;exact⟨KF,kIs KG,(fun _=>kt (zc h0 (zc h1 (zc h2 (zc h3 (zc h4 (zc h5 (zc h6 (zc h7 (zc h8 (zc h11 zv))))))))))),(by (have e11:more L 12 11=L 11:=za (by decide));(have e12:more L 12 12=true:=zr);(try simp only [e11,e12,h11,hL]);first | done | rfl | (simp only [e11,e12,h11,hL,if_true,if_false,Bool.false_eq_true];first | done | rfl | (simp (disch:=first|exact zb|fail) only [go_sem,seval,e11,e12,h11,hL,f0,f1,f2,f3,f4,f5,f6,f7,f8,g11,g13,g14]<;>rfl)))⟩
               · cases ho;have d9:=zn KG 9 rfl (kL hall 0 rfl rfl);refine zf (.p (.sl false 1 (pl b8 e))) rfl rfl (by simp (disch:=first|exact zb|fail) only [go_sem,seval,d9,f0,f1,f2,f3,f4,f5,f6,f7,f8,g11,g13,g14]<;>rfl) rfl ?_;exact⟨zx KF,zA KG,ka m12,(by rw [za (by decide),za (by decide)])⟩
               · cases ho;have d10:=zn KG 10 rfl (kL hall 0 rfl rfl);refine zf (.p (i64 c)) rfl rfl (by simp (disch:=first|exact zb|fail) only [go_sem,seval,d10,f0,f1,f2,f3,f4,f5,f6,f7,f8,g11,g13,g14]<;>rfl) rfl ?_;exact⟨zx KF,zA KG,ka m12,(by rw [za (by decide),za (by decide)])⟩
               · simp at ho
             · intro L env' H' hall hI
               obtain⟨KF,KG,_,rfl⟩:=hI
               have l11:=hall 11 (by decide)
               have l12:=hall 12 (by decide)
               have f0:=zJ KF 0 rfl
               have f1:=zJ KF 1 rfl
               have f2:=zJ KF 2 rfl
               have f3:=zJ KF 3 rfl
               have f4:=zJ KF 4 rfl
               have f5:=zJ KF 5 rfl
               have f6:=zJ KF 6 rfl
               have f7:=zJ KF 7 rfl
               have f8:=zJ KF 8 rfl
               have f9:=zJ KF 9 rfl
               have f10:=zJ KF 10 rfl
               have f11:=zJ KF 11 rfl
               have g1:=zn KG 1 rfl (hall 1 (by decide))
               have g2:=zn KG 2 rfl (hall 2 (by decide))
               have g3:=zn KG 3 rfl (hall 3 (by decide))
               have g11:=zn KG 11 rfl (hall 11 (by decide))
               have g13:=zn KG 12 rfl (hall 13 (by decide))
               have g14:=zn KG 13 rfl (hall 14 (by decide))
               simp only [l11,l12,if_true]
               clear hall
               change ARun _ _ _ (sQ H p p P.length T [.cells (acl x),.cells (yy S),.cells (yy S)]) R
               refine .q ?_;refine .text ?_;simp (disch:=first|exact zb|fail) only [go_sem,seval,f9,f10,f11,g11,g13,g14,bsame]
               refine CallK.of (fun R h=>zan _ _ hel hel _ R h) ?_;simp (disch:=first|exact zb|fail) only [go_sem,seval,dsame,f9,f10,f11,g11,g13,g14]
               refine CallK.of (fun R h=>zex S hcS _ R h) ?_;simp (disch:=first|exact zb|fail) only [go_sem,seval]
               refine .q ?_;refine .ifF (by simp (disch:=first|exact zb|fail) only [go_sem,seval]) ?_
               refine .skip ?_
               first | refine ih _ _ ?_ | (refine .z rfl ?_;refine ih _ _ ?_) | (refine .z rfl ?_;refine .z rfl ?_;refine ih _ _ ?_)
               exact⟨⟨p,P,P.length,[.cells (acl x),.cells (yy S),.cells (yy S)],(by simp (disch:=first|exact zb|fail) only [go_sem,seval,f0,f1,f2,f3,f4,f5,f6,f7,f8]<;>(repeat' (first | rfl | refine And.intro ?_ ?_))),rfl,by simp,hp1,(by omega),hb⟩,(by simp (disch:=first|exact zb|fail) only [go_sem,seval,f0,f1,f2,f3,f4,f5,f6,f7,f8])⟩
          | false =>
          refine .q ?_;refine .ifF (by simp (disch:=first|exact zb|fail) only [go_sem,seval,w1]) ?_
          refine .q ?_;refine .text ?_;simp (disch:=first|exact zb|fail) only [go_sem,seval]
          cases w2:x.what % 6#8 == 2#8 with
          | true =>
           obtain⟨n,hn,hn2⟩ : ∃ n:Nat,(p k).step % 256=(n:Int)∧n≤255:=⟨((p k).step % 256).toNat,by omega,by omega⟩
           have hM:=zt8 (m:=x.m) hn2
           have hmade : ∀ (B:Hp) R,R (.p (yK (zed x.m n))) B → ACall Tryd.prog G 8 [.p (yK x.m),.p (i64 n)] B R:=fun B R h=>zpu x.m hxm.text hxm.sums hxm.values n hn2 _ R h
           generalize zed x.m n=M at *
           have gS:=hgk.send (by omega) hM
           have gE:(send (p k) M).2.1.length≤3000:=zmb
           have sa : ∀ (B:Hp) R,R (.tup [.p (yt (send (p k) M).1),.p (.sl false 1 (pl b8 (send (p k) M).2.1)),.p (i64 (send (p k) M).2.2)]) B → ACall Tryd.prog G 19 [.p (yt (p k)),.p (yK M)] B R:=fun B R h=>zaF g (p k) hok _ hM _ R h
           have sb : ∀ (B:Hp) R,R (.tup [.p (yt (send (p k) M).1),.p (.sl false 1 (pl b8 (send (p k) M).2.1)),.p (i64 (send (p k) M).2.2)]) B → ACall Tryd.prog G 20 [.p (yt (p k)),.p (yK M)] B R:=fun B R h=>zey (p k) hok _ hM _ R h
           generalize send (p k) M=sd at *
           obtain⟨S,e,c⟩:=sd
           simp only at gS gE sa sb
           have hel:e.length≤140737488355000:=by omega
           refine .q ?_;refine .ifT (by simp (disch:=first|exact zb|fail) only [go_sem,seval,w2]) ?_
           (refine .q ?_)
           refine .openInv (fun L env' H'=>kF env' [(0,.p (.sl false 42 (pl act l))),(4,.p (bo false)),(5,.p (bo true)),(6,.ref H.n 0 2 78),(7,.ref (H.n+1) 0 2 78),(8,.sl (H.n+2) P.length 1 (pl (sle 1 b8) P)),(9,.p (i64 i)),(10,.ptr (qS H T) 0),(11,.p (i64 k))]∧kI L env' [(0,199,.ref H.n 0 2 78),(1,200,.p (i64 k)),(2,201,.ptr (H.n) (k*78)),(3,202,.p (yt (p k))),(4,203,.ptr (qS H T) 2),(5,204,.p (yK x.m)),(6,205,.ref H.n 0 2 78),(7,206,.p (i64 k)),(8,207,.ptr (H.n) (k*78)),(9,208,.ptr (H.n) (k*78+1)),(10,209,.p (i64 (p k).step)),(11,210,.p (i64 n)),(12,211,.p (yK M)),(13,212,.tup [.p (yt S),.p (.sl false 1 (pl b8 e)),.p (i64 c)]),(14,198,.tup [.p (yt S),.p (.sl false 1 (pl b8 e)),.p (i64 c)]),(15,213,.p (yt S)),(16,214,.p (.sl false 1 (pl b8 e))),(17,215,.p (i64 c)),(18,19,.ptr (qS H T+1) 0),(20,20,.p (.sl false 1 (pl b8 e))),(21,21,.p (i64 c))]∧(L 19=true → allT L [0,1,2,3,4,5,6,7,8,9,10,11,12,13,14,15,18])∧H'=(sQ H p p P.length T (AB.cells (acl x) :: (if L 19 then some (AB.cells (yy S)) else if L 18 then some (AB.cells (nC 0 0)) else none).toList))) follows (by kernel_rfl) ?_ ?_ ?_
           · exact⟨(by simp (disch:=first|exact zb|fail) only [go_sem,seval,kFi,kFn,and_self,E,ze,hn]),(fun _ _ h=>by cases h),(fun h=>by cases h),(by first | rfl | (simp only [Bool.false_eq_true,if_false];first | rfl | (simp (disch:=first|exact zb|fail) only [go_sem,seval,E,ze,hn]<;>rfl)))⟩
           · intro i o L env' H' ho hL hall hI
             obtain⟨KF,KG,m19,rfl⟩:=hI
             rcases i with _ | _ | _ | _ | _ | _ | _ | _ | _ | _ | _ | _ | _ | _ | _ | _ | _ | _ | _ | _ | _ | _ | i
             · cases ho;have f3:=zJ KF 3 rfl;refine zf (.ref H.n 0 2 78) rfl rfl (by simp (disch:=first|exact zb|fail) only [go_sem,seval,f3,ze,hn]<;>rfl) rfl ?_;exact⟨zx KF,zA KG,ka m19,(by rw [za (by decide),za (by decide)])⟩
             · cases ho;have f8:=zJ KF 8 rfl;refine zf (.p (i64 k)) rfl rfl (by simp (disch:=first|exact zb|fail) only [go_sem,seval,f8,ze,hn]<;>rfl) rfl ?_;exact⟨zx KF,zA KG,ka m19,(by rw [za (by decide),za (by decide)])⟩
             · cases ho;have d0:=zn KG 0 rfl (kL hall 0 rfl rfl);have d1:=zn KG 1 rfl (kL hall 1 rfl rfl);refine zf (.ptr (H.n) (k*78)) rfl rfl (by simp (disch:=first|exact zb|fail) only [go_sem,seval,d0,d1,ze,hn]<;>rfl) rfl ?_;exact⟨zx KF,zA KG,ka m19,(by rw [za (by decide),za (by decide)])⟩
             · cases ho;have d2:=zn KG 2 rfl (kL hall 0 rfl rfl);have n19:=ya m19 hL;refine zf (.p (yt (p k))) rfl rfl (by simp (disch:=first|exact zb|fail) only [go_sem,seval,reduceIte,Bool.false_eq_true,if_false,if_true,d2,n19,hL,ze,hn]<;>rfl) rfl ?_;exact⟨zx KF,zA KG,ka m19,(by rw [za (by decide),za (by decide)])⟩
             · cases ho;have f7:=zJ KF 7 rfl;refine zf (.ptr (qS H T) 2) rfl rfl (by simp (disch:=first|exact zb|fail) only [go_sem,seval,f7,ze,hn]<;>rfl) rfl ?_;exact⟨zx KF,zA KG,ka m19,(by rw [za (by decide),za (by decide)])⟩
             · cases ho;have d4:=zn KG 4 rfl (kL hall 0 rfl rfl);have n19:=ya m19 hL;refine zf (.p (yK x.m)) rfl rfl (by simp (disch:=first|exact zb|fail) only [go_sem,seval,reduceIte,Bool.false_eq_true,if_false,if_true,d4,n19,hL,ze,hn]<;>rfl) rfl ?_;exact⟨zx KF,zA KG,ka m19,(by rw [za (by decide),za (by decide)])⟩
             · cases ho;have f3:=zJ KF 3 rfl;refine zf (.ref H.n 0 2 78) rfl rfl (by simp (disch:=first|exact zb|fail) only [go_sem,seval,f3,ze,hn]<;>rfl) rfl ?_;exact⟨zx KF,zA KG,ka m19,(by rw [za (by decide),za (by decide)])⟩
             · cases ho;have f8:=zJ KF 8 rfl;refine zf (.p (i64 k)) rfl rfl (by simp (disch:=first|exact zb|fail) only [go_sem,seval,f8,ze,hn]<;>rfl) rfl ?_;exact⟨zx KF,zA KG,ka m19,(by rw [za (by decide),za (by decide)])⟩
             · cases ho;have d6:=zn KG 6 rfl (kL hall 0 rfl rfl);have d7:=zn KG 7 rfl (kL hall 1 rfl rfl);refine zf (.ptr (H.n) (k*78)) rfl rfl (by simp (disch:=first|exact zb|fail) only [go_sem,seval,d6,d7,ze,hn]<;>rfl) rfl ?_;exact⟨zx KF,zA KG,ka m19,(by rw [za (by decide),za (by decide)])⟩
             · cases ho;have d8:=zn KG 8 rfl (kL hall 0 rfl rfl);refine zf (.ptr (H.n) (k*78+1)) rfl rfl (by simp (disch:=first|exact zb|fail) only [go_sem,seval,d8,ze,hn]<;>rfl) rfl ?_;exact⟨zx KF,zA KG,ka m19,(by rw [za (by decide),za (by decide)])⟩
             · cases ho;have d9:=zn KG 9 rfl (kL hall 0 rfl rfl);have n19:=ya m19 hL;refine zf (.p (i64 (p k).step)) rfl rfl (by simp (disch:=first|exact zb|fail) only [go_sem,seval,reduceIte,Bool.false_eq_true,if_false,if_true,d9,n19,hL,ze,hn]<;>rfl) rfl ?_;exact⟨zx KF,zA KG,ka m19,(by rw [za (by decide),za (by decide)])⟩
             · cases ho;have d10:=zn KG 10 rfl (kL hall 0 rfl rfl);refine zf (.p (i64 n)) rfl rfl (by simp (disch:=first|exact zb|fail) only [go_sem,seval,d10,ze,hn]<;>rfl) rfl ?_;exact⟨zx KF,zA KG,ka m19,(by rw [za (by decide),za (by decide)])⟩
             · cases ho;have d5:=zn KG 5 rfl (kL hall 0 rfl rfl);have d11:=zn KG 11 rfl (kL hall 1 rfl rfl);have n19:=ya m19 hL;(try simp only [n19,if_true,if_false,Bool.false_eq_true]);refine ym rfl rfl (by simp (disch:=first|exact zb|fail) only [go_sem,seval,reduceIte,Bool.false_eq_true,if_false,if_true,d5,d11,n19,hL,ze,hn]<;>rfl) rfl (by simp (disch:=first|exact zb|fail) only [go_sem,seval,reduceIte,Bool.false_eq_true,if_false,if_true,d5,d11,n19,hL,ze,hn]<;>rfl) (fun R h=>hmade _ R h) ?_;exact⟨zx KF,zA KG,ka m19,(by (have e18:more L 12 18=L 18:=za (by decide));(have e19:more L 12 19=L 19:=za (by decide));(try simp only [e18,e19,n19]);first | done | rfl | (simp only [e18,e19,n19,if_true,if_false,Bool.false_eq_true];first | done | rfl | (simp (disch:=first|exact zb|fail) only [go_sem,seval,e18,e19,n19,ze,hn]<;>rfl)))⟩
             · cases ho;have d3:=zn KG 3 rfl (kL hall 0 rfl rfl);have d12:=zn KG 12 rfl (kL hall 1 rfl rfl);have n19:=ya m19 hL;(try simp only [n19,if_true,if_false,Bool.false_eq_true]);refine ym rfl rfl (by simp (disch:=first|exact zb|fail) only [go_sem,seval,reduceIte,Bool.false_eq_true,if_false,if_true,d3,d12,n19,hL,ze,hn]<;>rfl) rfl (by simp (disch:=first|exact zb|fail) only [go_sem,seval,reduceIte,Bool.false_eq_true,if_false,if_true,d3,d12,n19,hL,ze,hn]<;>rfl) (fun R h=>sa _ R h) ?_;exact⟨zx KF,zA KG,ka m19,(by (have e18:more L 13 18=L 18:=za (by decide));(have e19:more L 13 19=L 19:=za (by decide));(try simp only [e18,e19,n19]);first | done | rfl | (simp only [e18,e19,n19,if_true,if_false,Bool.false_eq_true];first | done | rfl | (simp (disch:=first|exact zb|fail) only [go_sem,seval,e18,e19,n19,ze,hn]<;>rfl)))⟩
             · cases ho;have d13:=zn KG 13 rfl (kL hall 0 rfl rfl);refine zf (.tup [.p (yt S),.p (.sl false 1 (pl b8 e)),.p (i64 c)]) rfl rfl (by simp (disch:=first|exact zb|fail) only [go_sem,seval,d13,ze,hn]<;>rfl) rfl ?_;exact⟨zx KF,zA KG,ka m19,(by rw [za (by decide),za (by decide)])⟩
             · cases ho;have d14:=zn KG 14 rfl (kL hall 0 rfl rfl);refine zf (.p (yt S)) rfl rfl (by simp (disch:=first|exact zb|fail) only [go_sem,seval,d14,ze,hn]<;>rfl) rfl ?_;exact⟨zx KF,zA KG,ka m19,(by rw [za (by decide),za (by decide)])⟩
             · cases ho;have d14:=zn KG 14 rfl (kL hall 0 rfl rfl);refine zf (.p (.sl false 1 (pl b8 e))) rfl rfl (by simp (disch:=first|exact zb|fail) only [go_sem,seval,d14,ze,hn]<;>rfl) rfl ?_;exact⟨zx KF,zA KG,ka m19,(by rw [za (by decide),za (by decide)])⟩
             · cases ho;have d14:=zn KG 14 rfl (kL hall 0 rfl rfl);refine zf (.p (i64 c)) rfl rfl (by simp (disch:=first|exact zb|fail) only [go_sem,seval,d14,ze,hn]<;>rfl) rfl ?_;exact⟨zx KF,zA KG,ka m19,(by rw [za (by decide),za (by decide)])⟩
             · cases ho;have n19:=ya m19 hL;(try simp only [n19,hL,if_true,if_false,Bool.false_eq_true]);refine zZ (.ptr (qS H T+1) 0) rfl rfl (by simp (disch:=first|exact zb|fail) only [go_sem,seval,reduceIte,Bool.false_eq_true,if_false,if_true,n19,hL,ze,hn]<;>rfl) rfl ?_;exact⟨zx KF,zA KG,ka m19,(by (have e18:more L 18 18=true:=zr);(have e19:more L 18 19=L 19:=za (by decide));(try simp only [e18,e19,n19,hL]);first | done | rfl | (simp only [e18,e19,n19,hL,if_true,if_false,Bool.false_eq_true];first | done | rfl | (simp (disch:=first|exact zb|fail) only [go_sem,seval,e18,e19,n19,hL,ze,hn]<;>rfl)))⟩
             · cases ho;have h18:=kL hall 0 rfl rfl;have d18:=zn KG 18 rfl h18;have h15:=kL hall 1 rfl rfl;have d15:=zn KG 15 rfl h15;have h13:=kL hall 2 rfl rfl;have h0:=kL hall 3 rfl rfl;have h1:=kL hall 4 rfl rfl;have h2:=kL hall 5 rfl rfl;have h3:=kL hall 6 rfl rfl;have h4:=kL hall 7 rfl rfl;have h5:=kL hall 8 rfl rfl;have h6:=kL hall 9 rfl rfl;have h7:=kL hall 10 rfl rfl;have h8:=kL hall 11 rfl rfl;have h9:=kL hall 12 rfl rfl;have h10:=kL hall 13 rfl rfl;have h11:=kL hall 14 rfl rfl;have h12:=kL hall 15 rfl rfl;have h14:=kL hall 17 rfl rfl;refine yb rfl rfl (by simp (disch:=first|exact zb|fail) only [go_sem,seval,reduceIte,Bool.false_eq_true,if_false,if_true,d15,d18,h18,hL,ze,hn]<;>rfl) rfl ?_;exact⟨KF,kIs KG,(fun _=>kt (zc h0 (zc h1 (zc h2 (zc h3 (zc h4 (zc h5 (zc h6 (zc h7 (zc h8 (zc h9 (zc h10 (zc h11 (zc h12 (zc h13 (zc h14 (zc h15 (zc h18 zv)))))))))))))))))),(by (have e18:more L 19 18=L 18:=za (by decide));(have e19:more L 19 19=true:=zr);(try simp only [e18,e19,h18,hL]);first | done | rfl | (simp only [e18,e19,h18,hL,if_true,if_false,Bool.false_eq_true];first | done | rfl | (simp (disch:=first|exact zb|fail) only [go_sem,seval,e18,e19,h18,hL,ze,hn]<;>rfl)))⟩
             · cases ho;have d16:=zn KG 16 rfl (kL hall 0 rfl rfl);refine zf (.p (.sl false 1 (pl b8 e))) rfl rfl (by simp (disch:=first|exact zb|fail) only [go_sem,seval,d16,ze,hn]<;>rfl) rfl ?_;exact⟨zx KF,zA KG,ka m19,(by rw [za (by decide),za (by decide)])⟩
             · cases ho;have d17:=zn KG 17 rfl (kL hall 0 rfl rfl);refine zf (.p (i64 c)) rfl rfl (by simp (disch:=first|exact zb|fail) only [go_sem,seval,d17,ze,hn]<;>rfl) rfl ?_;exact⟨zx KF,zA KG,ka m19,(by rw [za (by decide),za (by decide)])⟩
             · simp at ho
           · intro L env' H' hall hI
             obtain⟨KF,KG,_,rfl⟩:=hI
             have l18:=hall 18 (by decide)
             have l19:=hall 19 (by decide)
             have f0:=zJ KF 0 rfl
             have f1:=zJ KF 1 rfl
             have f2:=zJ KF 2 rfl
             have f3:=zJ KF 3 rfl
             have f4:=zJ KF 4 rfl
             have f5:=zJ KF 5 rfl
             have f6:=zJ KF 6 rfl
             have f7:=zJ KF 7 rfl
             have f8:=zJ KF 8 rfl
             have g1:=zn KG 1 rfl (hall 1 (by decide))
             have g2:=zn KG 2 rfl (hall 2 (by decide))
             have g3:=zn KG 3 rfl (hall 3 (by decide))
             have g15:=zn KG 15 rfl (hall 15 (by decide))
             have g16:=zn KG 16 rfl (hall 16 (by decide))
             have g18:=zn KG 18 rfl (hall 18 (by decide))
             have g20:=zn KG 19 rfl (hall 20 (by decide))
             have g21:=zn KG 20 rfl (hall 21 (by decide))
             simp only [l18,l19,if_true]
             clear hall
             change ARun _ _ _ (sQ H p p P.length T [.cells (acl x),.cells (yy S)]) R
             (refine .q ?_)
             refine .openInv (fun L env' H'=>kF env' [(0,.p (.sl false 42 (pl act l))),(4,.p (bo false)),(5,.p (bo true)),(6,.ref H.n 0 2 78),(7,.ref (H.n+1) 0 2 78),(8,.sl (H.n+2) P.length 1 (pl (sle 1 b8) P)),(9,.p (i64 i)),(10,.ptr (qS H T) 0),(11,.p (i64 k)),(19,.ptr (qS H T+1) 0),(20,.p (.sl false 1 (pl b8 e))),(21,.p (i64 c))]∧kI L env' [(0,217,.ref (H.n+1) 0 2 78),(1,218,.p (i64 k)),(2,219,.ptr (H.n+1) (k*78)),(3,220,.p (yt (p k))),(4,221,.ptr (qS H T) 2),(5,222,.p (yK x.m)),(6,223,.ref (H.n+1) 0 2 78),(7,224,.p (i64 k)),(8,225,.ptr (H.n+1) (k*78)),(9,226,.ptr (H.n+1) (k*78+1)),(10,227,.p (i64 (p k).step)),(11,228,.p (i64 n)),(12,229,.p (yK M)),(13,230,.tup [.p (yt S),.p (.sl false 1 (pl b8 e)),.p (i64 c)]),(14,216,.tup [.p (yt S),.p (.sl false 1 (pl b8 e)),.p (i64 c)]),(15,231,.p (yt S)),(16,232,.p (.sl false 1 (pl b8 e))),(17,233,.p (i64 c)),(18,22,.ptr (qS H T+2) 0),(20,23,.p (.sl false 1 (pl b8 e))),(21,24,.p (i64 c))]∧(L 19=true → allT L [0,1,2,3,4,5,6,7,8,9,10,11,12,13,14,15,18])∧H'=(sQ H p p P.length T (AB.cells (acl x) :: AB.cells (yy S) :: (if L 19 then some (AB.cells (yy S)) else if L 18 then some (AB.cells (nC 0 0)) else none).toList))) follows (by kernel_rfl) ?_ ?_ ?_
             · exact⟨(by simp (disch:=first|exact zb|fail) only [go_sem,seval,kFi,kFn,and_self,f0,f1,f2,f3,f4,f5,f6,f7,f8,g18,g20,g21,ze,hn]),(fun _ _ h=>by cases h),(fun h=>by cases h),(by first | rfl | (simp only [Bool.false_eq_true,if_false];first | rfl | (simp (disch:=first|exact zb|fail) only [go_sem,seval,f0,f1,f2,f3,f4,f5,f6,f7,f8,g18,g20,g21,ze,hn]<;>rfl)))⟩
             · intro i o L env' H' ho hL hall hI
               obtain⟨KF,KG,m19,rfl⟩:=hI
               rcases i with _ | _ | _ | _ | _ | _ | _ | _ | _ | _ | _ | _ | _ | _ | _ | _ | _ | _ | _ | _ | _ | _ | i
               · cases ho;have f4:=zJ KF 4 rfl;refine zf (.ref (H.n+1) 0 2 78) rfl rfl (by simp (disch:=first|exact zb|fail) only [go_sem,seval,f4,f0,f1,f2,f3,f4,f5,f6,f7,f8,g18,g20,g21,ze,hn]<;>rfl) rfl ?_;exact⟨zx KF,zA KG,ka m19,(by rw [za (by decide),za (by decide)])⟩
               · cases ho;have f8:=zJ KF 8 rfl;refine zf (.p (i64 k)) rfl rfl (by simp (disch:=first|exact zb|fail) only [go_sem,seval,f8,f0,f1,f2,f3,f4,f5,f6,f7,f8,g18,g20,g21,ze,hn]<;>rfl) rfl ?_;exact⟨zx KF,zA KG,ka m19,(by rw [za (by decide),za (by decide)])⟩
               · cases ho;have d0:=zn KG 0 rfl (kL hall 0 rfl rfl);have d1:=zn KG 1 rfl (kL hall 1 rfl rfl);refine zf (.ptr (H.n+1) (k*78)) rfl rfl (by simp (disch:=first|exact zb|fail) only [go_sem,seval,d0,d1,f0,f1,f2,f3,f4,f5,f6,f7,f8,g18,g20,g21,ze,hn]<;>rfl) rfl ?_;exact⟨zx KF,zA KG,ka m19,(by rw [za (by decide),za (by decide)])⟩
               · cases ho;have d2:=zn KG 2 rfl (kL hall 0 rfl rfl);have n19:=ya m19 hL;refine zf (.p (yt (p k))) rfl rfl (by simp (disch:=first|exact zb|fail) only [go_sem,seval,reduceIte,Bool.false_eq_true,if_false,if_true,d2,n19,hL,f0,f1,f2,f3,f4,f5,f6,f7,f8,g18,g20,g21,ze,hn]<;>rfl) rfl ?_;exact⟨zx KF,zA KG,ka m19,(by rw [za (by decide),za (by decide)])⟩
               · cases ho;have f7:=zJ KF 7 rfl;refine zf (.ptr (qS H T) 2) rfl rfl (by simp (disch:=first|exact zb|fail) only [go_sem,seval,f7,f0,f1,f2,f3,f4,f5,f6,f7,f8,g18,g20,g21,ze,hn]<;>rfl) rfl ?_;exact⟨zx KF,zA KG,ka m19,(by rw [za (by decide),za (by decide)])⟩
               · cases ho;have d4:=zn KG 4 rfl (kL hall 0 rfl rfl);have n19:=ya m19 hL;refine zf (.p (yK x.m)) rfl rfl (by simp (disch:=first|exact zb|fail) only [go_sem,seval,reduceIte,Bool.false_eq_true,if_false,if_true,d4,n19,hL,f0,f1,f2,f3,f4,f5,f6,f7,f8,g18,g20,g21,ze,hn]<;>rfl) rfl ?_;exact⟨zx KF,zA KG,ka m19,(by rw [za (by decide),za (by decide)])⟩
               · cases ho;have f4:=zJ KF 4 rfl;refine zf (.ref (H.n+1) 0 2 78) rfl rfl (by simp (disch:=first|exact zb|fail) only [go_sem,seval,f4,f0,f1,f2,f3,f4,f5,f6,f7,f8,g18,g20,g21,ze,hn]<;>rfl) rfl ?_;exact⟨zx KF,zA KG,ka m19,(by rw [za (by decide),za (by decide)])⟩
               · cases ho;have f8:=zJ KF 8 rfl;refine zf (.p (i64 k)) rfl rfl (by simp (disch:=first|exact zb|fail) only [go_sem,seval,f8,f0,f1,f2,f3,f4,f5,f6,f7,f8,g18,g20,g21,ze,hn]<;>rfl) rfl ?_;exact⟨zx KF,zA KG,ka m19,(by rw [za (by decide),za (by decide)])⟩
               · cases ho;have d6:=zn KG 6 rfl (kL hall 0 rfl rfl);have d7:=zn KG 7 rfl (kL hall 1 rfl rfl);refine zf (.ptr (H.n+1) (k*78)) rfl rfl (by simp (disch:=first|exact zb|fail) only [go_sem,seval,d6,d7,f0,f1,f2,f3,f4,f5,f6,f7,f8,g18,g20,g21,ze,hn]<;>rfl) rfl ?_;exact⟨zx KF,zA KG,ka m19,(by rw [za (by decide),za (by decide)])⟩
               · cases ho;have d8:=zn KG 8 rfl (kL hall 0 rfl rfl);refine zf (.ptr (H.n+1) (k*78+1)) rfl rfl (by simp (disch:=first|exact zb|fail) only [go_sem,seval,d8,f0,f1,f2,f3,f4,f5,f6,f7,f8,g18,g20,g21,ze,hn]<;>rfl) rfl ?_;exact⟨zx KF,zA KG,ka m19,(by rw [za (by decide),za (by decide)])⟩
               · cases ho;have d9:=zn KG 9 rfl (kL hall 0 rfl rfl);have n19:=ya m19 hL;refine zf (.p (i64 (p k).step)) rfl rfl (by simp (disch:=first|exact zb|fail) only [go_sem,seval,reduceIte,Bool.false_eq_true,if_false,if_true,d9,n19,hL,f0,f1,f2,f3,f4,f5,f6,f7,f8,g18,g20,g21,ze,hn]<;>rfl) rfl ?_;exact⟨zx KF,zA KG,ka m19,(by rw [za (by decide),za (by decide)])⟩
               · cases ho;have d10:=zn KG 10 rfl (kL hall 0 rfl rfl);refine zf (.p (i64 n)) rfl rfl (by simp (disch:=first|exact zb|fail) only [go_sem,seval,d10,f0,f1,f2,f3,f4,f5,f6,f7,f8,g18,g20,g21,ze,hn]<;>rfl) rfl ?_;exact⟨zx KF,zA KG,ka m19,(by rw [za (by decide),za (by decide)])⟩
               · cases ho;have d5:=zn KG 5 rfl (kL hall 0 rfl rfl);have d11:=zn KG 11 rfl (kL hall 1 rfl rfl);have n19:=ya m19 hL;(try simp only [n19,if_true,if_false,Bool.false_eq_true]);refine ym rfl rfl (by simp (disch:=first|exact zb|fail) only [go_sem,seval,reduceIte,Bool.false_eq_true,if_false,if_true,d5,d11,n19,hL,f0,f1,f2,f3,f4,f5,f6,f7,f8,g18,g20,g21,ze,hn]<;>rfl) rfl (by simp (disch:=first|exact zb|fail) only [go_sem,seval,reduceIte,Bool.false_eq_true,if_false,if_true,d5,d11,n19,hL,f0,f1,f2,f3,f4,f5,f6,f7,f8,g18,g20,g21,ze,hn]<;>rfl) (fun R h=>hmade _ R h) ?_;exact⟨zx KF,zA KG,ka m19,(by (have e18:more L 12 18=L 18:=za (by decide));(have e19:more L 12 19=L 19:=za (by decide));(try simp only [e18,e19,n19]);first | done | rfl | (simp only [e18,e19,n19,if_true,if_false,Bool.false_eq_true];first | done | rfl | (simp (disch:=first|exact zb|fail) only [go_sem,seval,e18,e19,n19,f0,f1,f2,f3,f4,f5,f6,f7,f8,g18,g20,g21,ze,hn]<;>rfl)))⟩
               · cases ho;have d3:=zn KG 3 rfl (kL hall 0 rfl rfl);have d12:=zn KG 12 rfl (kL hall 1 rfl rfl);have n19:=ya m19 hL;(try simp only [n19,if_true,if_false,Bool.false_eq_true]);refine ym rfl rfl (by simp (disch:=first|exact zb|fail) only [go_sem,seval,reduceIte,Bool.false_eq_true,if_false,if_true,d3,d12,n19,hL,f0,f1,f2,f3,f4,f5,f6,f7,f8,g18,g20,g21,ze,hn]<;>rfl) rfl (by simp (disch:=first|exact zb|fail) only [go_sem,seval,reduceIte,Bool.false_eq_true,if_false,if_true,d3,d12,n19,hL,f0,f1,f2,f3,f4,f5,f6,f7,f8,g18,g20,g21,ze,hn]<;>rfl) (fun R h=>sb _ R h) ?_;exact⟨zx KF,zA KG,ka m19,(by (have e18:more L 13 18=L 18:=za (by decide));(have e19:more L 13 19=L 19:=za (by decide));(try simp only [e18,e19,n19]);first | done | rfl | (simp only [e18,e19,n19,if_true,if_false,Bool.false_eq_true];first | done | rfl | (simp (disch:=first|exact zb|fail) only [go_sem,seval,e18,e19,n19,f0,f1,f2,f3,f4,f5,f6,f7,f8,g18,g20,g21,ze,hn]<;>rfl)))⟩
               · cases ho;have d13:=zn KG 13 rfl (kL hall 0 rfl rfl);refine zf (.tup [.p (yt S),.p (.sl false 1 (pl b8 e)),.p (i64 c)]) rfl rfl (by simp (disch:=first|exact zb|fail) only [go_sem,seval,d13,f0,f1,f2,f3,f4,f5,f6,f7,f8,g18,g20,g21,ze,hn]<;>rfl) rfl ?_;exact⟨zx KF,zA KG,ka m19,(by rw [za (by decide),za (by decide)])⟩
               · cases ho;have d14:=zn KG 14 rfl (kL hall 0 rfl rfl);refine zf (.p (yt S)) rfl rfl (by simp (disch:=first|exact zb|fail) only [go_sem,seval,d14,f0,f1,f2,f3,f4,f5,f6,f7,f8,g18,g20,g21,ze,hn]<;>rfl) rfl ?_;exact⟨zx KF,zA KG,ka m19,(by rw [za (by decide),za (by decide)])⟩
               · cases ho;have d14:=zn KG 14 rfl (kL hall 0 rfl rfl);refine zf (.p (.sl false 1 (pl b8 e))) rfl rfl (by simp (disch:=first|exact zb|fail) only [go_sem,seval,d14,f0,f1,f2,f3,f4,f5,f6,f7,f8,g18,g20,g21,ze,hn]<;>rfl) rfl ?_;exact⟨zx KF,zA KG,ka m19,(by rw [za (by decide),za (by decide)])⟩
               · cases ho;have d14:=zn KG 14 rfl (kL hall 0 rfl rfl);refine zf (.p (i64 c)) rfl rfl (by simp (disch:=first|exact zb|fail) only [go_sem,seval,d14,f0,f1,f2,f3,f4,f5,f6,f7,f8,g18,g20,g21,ze,hn]<;>rfl) rfl ?_;exact⟨zx KF,zA KG,ka m19,(by rw [za (by decide),za (by decide)])⟩
               · cases ho;have n19:=ya m19 hL;(try simp only [n19,hL,if_true,if_false,Bool.false_eq_true]);refine zZ (.ptr (qS H T+2) 0) rfl rfl (by simp (disch:=first|exact zb|fail) only [go_sem,seval,reduceIte,Bool.false_eq_true,if_false,if_true,n19,hL,f0,f1,f2,f3,f4,f5,f6,f7,f8,g18,g20,g21,ze,hn]<;>rfl) rfl ?_;exact⟨zx KF,zA KG,ka m19,(by (have e18:more L 18 18=true:=zr);(have e19:more L 18 19=L 19:=za (by decide));(try simp only [e18,e19,n19,hL]);first | done | rfl | (simp only [e18,e19,n19,hL,if_true,if_false,Bool.false_eq_true];first | done | rfl | (simp (disch:=first|exact zb|fail) only [go_sem,seval,e18,e19,n19,hL,f0,f1,f2,f3,f4,f5,f6,f7,f8,g18,g20,g21,ze,hn]<;>rfl)))⟩
               · cases ho;have h18:=kL hall 0 rfl rfl;have d18:=zn KG 18 rfl h18;have h15:=kL hall 1 rfl rfl;have d15:=zn KG 15 rfl h15;have h13:=kL hall 2 rfl rfl;have h0:=kL hall 3 rfl rfl;have h1:=kL hall 4 rfl rfl;have h2:=kL hall 5 rfl rfl;have h3:=kL hall 6 rfl rfl;have h4:=kL hall 7 rfl rfl;have h5:=kL hall 8 rfl rfl;have h6:=kL hall 9 rfl rfl;have h7:=kL hall 10 rfl rfl;have h8:=kL hall 11 rfl rfl;have h9:=kL hall 12 rfl rfl;have h10:=kL hall 13 rfl rfl;have h11:=kL hall 14 rfl rfl;have h12:=kL hall 15 rfl rfl;have h14:=kL hall 17 rfl rfl;refine yb rfl rfl (by simp (disch:=first|exact zb|fail) only [go_sem,seval,reduceIte,Bool.false_eq_true,if_false,if_true,d15,d18,h18,hL,f0,f1,f2,f3,f4,f5,f6,f7,f8,g18,g20,g21,ze,hn]<;>rfl) rfl ?_;exact⟨KF,kIs KG,(fun _=>kt (zc h0 (zc h1 (zc h2 (zc h3 (zc h4 (zc h5 (zc h6 (zc h7 (zc h8 (zc h9 (zc h10 (zc h11 (zc h12 (zc h13 (zc h14 (zc h15 (zc h18 zv)))))))))))))))))),(by (have e18:more L 19 18=L 18:=za (by decide));(have e19:more L 19 19=true:=zr);(try simp only [e18,e19,h18,hL]);first | done | rfl | (simp only [e18,e19,h18,hL,if_true,if_false,Bool.false_eq_true];first | done | rfl | (simp (disch:=first|exact zb|fail) only [go_sem,seval,e18,e19,h18,hL,f0,f1,f2,f3,f4,f5,f6,f7,f8,g18,g20,g21,ze,hn]<;>rfl)))⟩
               · cases ho;have d16:=zn KG 16 rfl (kL hall 0 rfl rfl);refine zf (.p (.sl false 1 (pl b8 e))) rfl rfl (by simp (disch:=first|exact zb|fail) only [go_sem,seval,d16,f0,f1,f2,f3,f4,f5,f6,f7,f8,g18,g20,g21,ze,hn]<;>rfl) rfl ?_;exact⟨zx KF,zA KG,ka m19,(by rw [za (by decide),za (by decide)])⟩
               · cases ho;have d17:=zn KG 17 rfl (kL hall 0 rfl rfl);refine zf (.p (i64 c)) rfl rfl (by simp (disch:=first|exact zb|fail) only [go_sem,seval,d17,f0,f1,f2,f3,f4,f5,f6,f7,f8,g18,g20,g21,ze,hn]<;>rfl) rfl ?_;exact⟨zx KF,zA KG,ka m19,(by rw [za (by decide),za (by decide)])⟩
               · simp at ho
             · intro L env' H' hall hI
               obtain⟨KF,KG,_,rfl⟩:=hI
               have l18:=hall 18 (by decide)
               have l19:=hall 19 (by decide)
               have f0:=zJ KF 0 rfl
               have f1:=zJ KF 1 rfl
               have f2:=zJ KF 2 rfl
               have f3:=zJ KF 3 rfl
               have f4:=zJ KF 4 rfl
               have f5:=zJ KF 5 rfl
               have f6:=zJ KF 6 rfl
               have f7:=zJ KF 7 rfl
               have f8:=zJ KF 8 rfl
               have f9:=zJ KF 9 rfl
               have f10:=zJ KF 10 rfl
               have f11:=zJ KF 11 rfl
               have g1:=zn KG 1 rfl (hall 1 (by decide))
               have g2:=zn KG 2 rfl (hall 2 (by decide))
               have g3:=zn KG 3 rfl (hall 3 (by decide))
               have g15:=zn KG 15 rfl (hall 15 (by decide))
               have g16:=zn KG 16 rfl (hall 16 (by decide))
               have g18:=zn KG 18 rfl (hall 18 (by decide))
               have g20:=zn KG 19 rfl (hall 20 (by decide))
               have g21:=zn KG 20 rfl (hall 21 (by decide))
               simp only [l18,l19,if_true]
               clear hall
               change ARun _ _ _ (sQ H p p P.length T [.cells (acl x),.cells (yy S),.cells (yy S)]) R
               refine .q ?_;refine .text ?_;simp (disch:=first|exact zb|fail) only [go_sem,seval,f9,f10,f11,g18,g20,g21,bsame]
               refine CallK.of (fun R h=>zan _ _ hel hel _ R h) ?_;simp (disch:=first|exact zb|fail) only [go_sem,seval,dsame]
               refine .q ?_;refine .ifF (by simp (disch:=first|exact zb|fail) only [go_sem,seval]) ?_
               refine .q ?_;refine .text ?_;simp (disch:=first|exact zb|fail) only [go_sem,seval,f3,f8,f9]
               refine .q ?_;refine .text ?_;simp (disch:=first|exact zb|fail) only [go_sem,seval,f4,f8,g18]
               refine .q ?_;refine .text ?_;simp (disch:=first|exact zb|fail) only [go_sem,seval,f5,f10]
               first | refine ih _ _ ?_ | (refine .z rfl ?_;refine ih _ _ ?_) | (refine .z rfl ?_;refine .z rfl ?_;refine ih _ _ ?_)
               exact⟨⟨upd p k S,P++[e],P.length+1,[.cells (acl x),.cells (yy S),.cells (yy S)],(by simp (disch:=first|exact zb|fail) only [go_sem,seval,f0,f1,f2,f3,f4,f5,f6,f7,f8]<;>(repeat' (first | rfl | refine And.intro ?_ ?_))),rfl,by simp,(zmc hp (by omega) gS),(by rw [hlen];omega),(hP2 _ gE)⟩,(by simp (disch:=first|exact zb|fail) only [go_sem,seval,f0,f1,f2,f3,f4,f5,f6,f7,f8])⟩
          | false =>
           have hpk : ∀ (B:Hp) R,R (.p (.sl false 1 (pl b8 (pkt P x)))) B → ACall Tryd.prog G 22 [.p (.sl false 1 (pl (sle 1 b8) P)),.p (act x)] B R:=fun B R h=>zl9 P (by omega) (fun b hbm=>by have:=hb b hbm;omega) x _ R h
           have gP:(pkt P x).length≤3000:=zOY hb
           have gR:=hgk.recv gP (x.m.step % 256 % 130)
           have hMo:=zJO (s:=p k) (b:=pkt P x) (now:=x.m.step % 256 % 130)
           have ra : ∀ (B:Hp) R,R (.tup [.p (yt (recv (p k) (pkt P x) (x.m.step % 256 % 130)).1),.p (yK (recv (p k) (pkt P x) (x.m.step % 256 % 130)).2.1),.p (i64 (recv (p k) (pkt P x) (x.m.step % 256 % 130)).2.2)]) B → ACall Tryd.prog G 23 [.p (yt (p k)),.p (.sl false 1 (pl b8 (pkt P x))),.p (i64 (x.m.step % 256 % 130))] B R:=fun B R h=>yL g (p k) hok _ (by omega) _ _ R h
           have rb : ∀ (B:Hp) R,R (.tup [.p (yt (recv (p k) (pkt P x) (x.m.step % 256 % 130)).1),.p (yK (recv (p k) (pkt P x) (x.m.step % 256 % 130)).2.1),.p (i64 (recv (p k) (pkt P x) (x.m.step % 256 % 130)).2.2)]) B → ACall Tryd.prog G 24 [.p (yt (p k)),.p (.sl false 1 (pl b8 (pkt P x))),.p (i64 (x.m.step % 256 % 130))] B R:=fun B R h=>zgL (p k) hok _ (by omega) _ _ R h
           generalize recv (p k) (pkt P x) (x.m.step % 256 % 130)=rc at *
           generalize pkt P x=pb at *
           obtain⟨S,M,c⟩:=rc
           simp only at gR hMo ra rb
           have hm0:0≤x.m.step % 256:=by omega
           refine .q ?_;refine .ifF (by simp (disch:=first|exact zb|fail) only [go_sem,seval,w2]) ?_
           refine .q ?_;refine .text ?_;simp (disch:=first|exact zb|fail) only [go_sem,seval,E]
           refine CallK.of (fun R h=>hpk _ R h) ?_;simp (disch:=first|exact zb|fail) only [go_sem,seval,E]
           (repeat refine .zs rfl ?_);refine .cut (fun env' H' => ∃ (u w:Nat) (b1 b2:AB),(env' 0 = .p (.sl false 42 (pl act l))∧env' 4 = .p (bo false)∧env' 5 = .p (bo true)∧env' 6 = .ref H.n 0 2 78∧env' 7 = .ref (H.n+1) 0 2 78∧env' 8 = .sl (H.n+2) P.length 1 (pl (sle 1 b8) P)∧env' 9 = .p (i64 i)∧env' 10 = .ptr (qS H T) 0∧env' 11 = .p (i64 k)∧env' 25 = .p (.sl false 1 (pl b8 pb)))∧(env' 26 = .ptr u 0∧env' 27 = .ptr w 0∧env' 28 = .p (i64 c))∧H'=sQ H p p P.length T [.cells (acl x),b1,b2]∧(∀ p1 p2 L,(sQ H p1 p2 P.length T (.cells (acl x) :: b1 :: b2 :: L)).f u=some (.cells (yy S))) ∧ ∀ p1 p2 L,(sQ H p1 p2 P.length T (.cells (acl x) :: b1 :: b2 :: L)).f w=some (.cells (mcl M))) (fun ih2 => ?_) ?_
           · (refine .q ?_)
             refine .openInv (fun L env' H'=>(kF env' [(0,.p (.sl false 42 (pl act l))),(4,.p (bo false)),(5,.p (bo true)),(6,.ref H.n 0 2 78),(7,.ref (H.n+1) 0 2 78),(8,.sl (H.n+2) P.length 1 (pl (sle 1 b8) P)),(9,.p (i64 i)),(10,.ptr (qS H T) 0),(11,.p (i64 k)),(25,.p (.sl false 1 (pl b8 pb)))]∧kI L env' [(0,73,.ref H.n 0 2 78),(1,74,.p (i64 k)),(2,75,.ptr (H.n) (k*78)),(3,76,.p (yt (p k))),(4,77,.p (.sl false 1 (pl b8 pb))),(5,78,.ptr (qS H T) 2),(6,79,.ptr (qS H T) 4),(7,80,.p (i64 x.m.step)),(8,81,.p (i64 (x.m.step % 256))),(9,82,.p (i64 (x.m.step % 256 % 130))),(10,83,.tup [.p (yt S),.p (yK M),.p (i64 c)]),(11,72,.tup [.p (yt S),.p (yK M),.p (i64 c)]),(12,84,.p (yt S)),(13,85,.p (yK M)),(14,86,.p (i64 c)),(15,26,.ptr (qS H T+1) 0),(16,27,.ptr (qS H T+2) 0),(19,28,.p (i64 c))]∧(L 16=true → allT L [15])∧(L 17=true → allT L [0,1,2,3,4,5,6,7,8,9,10,11,12,15,16])∧(L 18=true → allT L [0,1,2,3,4,5,6,7,8,9,10,11,12,13,15,16,17])∧H'=(sQ H p p P.length T (AB.cells (acl x) :: ((if L 17 then some (AB.cells (yy S)) else if L 15 then some (AB.cells (nC 0 0)) else none).toList++(if L 18 then some (AB.cells (mcl M)) else if L 16 then some (AB.cells mZ) else none).toList)))) ∨ (kF env' [(0,.p (.sl false 42 (pl act l))),(4,.p (bo false)),(5,.p (bo true)),(6,.ref H.n 0 2 78),(7,.ref (H.n+1) 0 2 78),(8,.sl (H.n+2) P.length 1 (pl (sle 1 b8) P)),(9,.p (i64 i)),(10,.ptr (qS H T) 0),(11,.p (i64 k)),(25,.p (.sl false 1 (pl b8 pb)))]∧kI L env' [(0,73,.ref H.n 0 2 78),(1,74,.p (i64 k)),(2,75,.ptr (H.n) (k*78)),(3,76,.p (yt (p k))),(4,77,.p (.sl false 1 (pl b8 pb))),(5,78,.ptr (qS H T) 2),(6,79,.ptr (qS H T) 4),(7,80,.p (i64 x.m.step)),(8,81,.p (i64 (x.m.step % 256))),(9,82,.p (i64 (x.m.step % 256 % 130))),(10,83,.tup [.p (yt S),.p (yK M),.p (i64 c)]),(11,72,.tup [.p (yt S),.p (yK M),.p (i64 c)]),(12,84,.p (yt S)),(13,85,.p (yK M)),(14,86,.p (i64 c)),(15,26,.ptr (qS H T+2) 0),(16,27,.ptr (qS H T+1) 0),(19,28,.p (i64 c))]∧(L 15=true → allT L [16])∧(L 17=true → allT L [0,1,2,3,4,5,6,7,8,9,10,11,12,15,16])∧(L 18=true → allT L [0,1,2,3,4,5,6,7,8,9,10,11,12,13,15,16,17])∧H'=(sQ H p p P.length T (AB.cells (acl x) :: ((if L 18 then some (AB.cells (mcl M)) else if L 16 then some (AB.cells mZ) else none).toList++(if L 17 then some (AB.cells (yy S)) else if L 15 then some (AB.cells (nC 0 0)) else none).toList))))) follows (by kernel_rfl) ?_ ?_ ?_
             · exact .inl ⟨(by simp (disch:=first|exact zb|fail) only [go_sem,seval,kFi,kFn,and_self,E,ze]),(fun _ _ h=>by cases h),(fun h=>by cases h),(fun h=>by cases h),(fun h=>by cases h),(by first | rfl | (simp only [Bool.false_eq_true,if_false];first | rfl | (simp (disch:=first|exact zb|fail) only [go_sem,seval,E,ze]<;>rfl)))⟩
             · intro i o L env' H' ho hL hall hI
               rcases hI with hI | hI
               · obtain⟨KF,KG,m16,m17,m18,rfl⟩:=hI
                 rcases i with _ | _ | _ | _ | _ | _ | _ | _ | _ | _ | _ | _ | _ | _ | _ | _ | _ | _ | _ | _ | i
                 · cases ho;have f3:=zJ KF 3 rfl;refine zf (.ref H.n 0 2 78) rfl rfl (by simp (disch:=first|exact zb|fail) only [go_sem,seval,f3,ze]<;>rfl) rfl ?_;exact .inl ⟨zx KF,zA KG,ka m16,ka m17,ka m18,(by rw [za (by decide),za (by decide),za (by decide),za (by decide)])⟩
                 · cases ho;have f8:=zJ KF 8 rfl;refine zf (.p (i64 k)) rfl rfl (by simp (disch:=first|exact zb|fail) only [go_sem,seval,f8,ze]<;>rfl) rfl ?_;exact .inl ⟨zx KF,zA KG,ka m16,ka m17,ka m18,(by rw [za (by decide),za (by decide),za (by decide),za (by decide)])⟩
                 · cases ho;have d0:=zn KG 0 rfl (kL hall 0 rfl rfl);have d1:=zn KG 1 rfl (kL hall 1 rfl rfl);refine zf (.ptr (H.n) (k*78)) rfl rfl (by simp (disch:=first|exact zb|fail) only [go_sem,seval,d0,d1,ze]<;>rfl) rfl ?_;exact .inl ⟨zx KF,zA KG,ka m16,ka m17,ka m18,(by rw [za (by decide),za (by decide),za (by decide),za (by decide)])⟩
                 · cases ho;have d2:=zn KG 2 rfl (kL hall 0 rfl rfl);have n17:=ya m17 hL;have n18:=ya m18 hL;refine zf (.p (yt (p k))) rfl rfl (by simp (disch:=first|exact zb|fail) only [go_sem,seval,reduceIte,Bool.false_eq_true,if_false,if_true,d2,n17,n18,ze]<;>rfl) rfl ?_;exact .inl ⟨zx KF,zA KG,ka m16,ka m17,ka m18,(by rw [za (by decide),za (by decide),za (by decide),za (by decide)])⟩
                 · cases ho;have f9:=zJ KF 9 rfl;refine zf (.p (.sl false 1 (pl b8 pb))) rfl rfl (by simp (disch:=first|exact zb|fail) only [go_sem,seval,f9,ze]<;>rfl) rfl ?_;exact .inl ⟨zx KF,zA KG,ka m16,ka m17,ka m18,(by rw [za (by decide),za (by decide),za (by decide),za (by decide)])⟩
                 · cases ho;have f7:=zJ KF 7 rfl;refine zf (.ptr (qS H T) 2) rfl rfl (by simp (disch:=first|exact zb|fail) only [go_sem,seval,f7,ze]<;>rfl) rfl ?_;exact .inl ⟨zx KF,zA KG,ka m16,ka m17,ka m18,(by rw [za (by decide),za (by decide),za (by decide),za (by decide)])⟩
                 · cases ho;have d5:=zn KG 5 rfl (kL hall 0 rfl rfl);refine zf (.ptr (qS H T) 4) rfl rfl (by simp (disch:=first|exact zb|fail) only [go_sem,seval,d5,ze]<;>rfl) rfl ?_;exact .inl ⟨zx KF,zA KG,ka m16,ka m17,ka m18,(by rw [za (by decide),za (by decide),za (by decide),za (by decide)])⟩
                 · cases ho;have d6:=zn KG 6 rfl (kL hall 0 rfl rfl);have n17:=ya m17 hL;have n18:=ya m18 hL;refine zf (.p (i64 x.m.step)) rfl rfl (by simp (disch:=first|exact zb|fail) only [go_sem,seval,reduceIte,Bool.false_eq_true,if_false,if_true,d6,n17,n18,ze]<;>rfl) rfl ?_;exact .inl ⟨zx KF,zA KG,ka m16,ka m17,ka m18,(by rw [za (by decide),za (by decide),za (by decide),za (by decide)])⟩
                 · cases ho;have d7:=zn KG 7 rfl (kL hall 0 rfl rfl);refine zf (.p (i64 (x.m.step % 256))) rfl rfl (by simp (disch:=first|exact zb|fail) only [go_sem,seval,d7,ze]<;>rfl) rfl ?_;exact .inl ⟨zx KF,zA KG,ka m16,ka m17,ka m18,(by rw [za (by decide),za (by decide),za (by decide),za (by decide)])⟩
                 · cases ho;have d8:=zn KG 8 rfl (kL hall 0 rfl rfl);refine zf (.p (i64 (x.m.step % 256 % 130))) rfl rfl (by simp (disch:=first|exact zb|fail) only [go_sem,seval,d8,ze]<;>rfl) rfl ?_;exact .inl ⟨zx KF,zA KG,ka m16,ka m17,ka m18,(by rw [za (by decide),za (by decide),za (by decide),za (by decide)])⟩
                 · cases ho;have d3:=zn KG 3 rfl (kL hall 0 rfl rfl);have d4:=zn KG 4 rfl (kL hall 1 rfl rfl);have d9:=zn KG 9 rfl (kL hall 2 rfl rfl);have n17:=ya m17 hL;have n18:=ya m18 hL;(try simp only [n17,n18,if_true,if_false,Bool.false_eq_true]);refine ym rfl rfl (by simp (disch:=first|exact zb|fail) only [go_sem,seval,reduceIte,Bool.false_eq_true,if_false,if_true,d3,d4,d9,n17,n18,ze]<;>rfl) rfl (by simp (disch:=first|exact zb|fail) only [go_sem,seval,reduceIte,Bool.false_eq_true,if_false,if_true,d3,d4,d9,n17,n18,ze]<;>rfl) (fun R h=>ra _ R h) ?_;exact .inl ⟨zx KF,zA KG,ka m16,ka m17,ka m18,(by (have e15:more L 10 15=L 15:=za (by decide));(have e16:more L 10 16=L 16:=za (by decide));(have e17:more L 10 17=L 17:=za (by decide));(have e18:more L 10 18=L 18:=za (by decide));(try simp only [e15,e16,e17,e18,n17,n18]);first | done | rfl | (simp only [e15,e16,e17,e18,n17,n18,if_true,if_false,Bool.false_eq_true];first | done | rfl | (simp (disch:=first|exact zb|fail) only [go_sem,seval,e15,e16,e17,e18,n17,n18,ze]<;>rfl)))⟩
                 · cases ho;have d10:=zn KG 10 rfl (kL hall 0 rfl rfl);refine zf (.tup [.p (yt S),.p (yK M),.p (i64 c)]) rfl rfl (by simp (disch:=first|exact zb|fail) only [go_sem,seval,d10,ze]<;>rfl) rfl ?_;exact .inl ⟨zx KF,zA KG,ka m16,ka m17,ka m18,(by rw [za (by decide),za (by decide),za (by decide),za (by decide)])⟩
                 · cases ho;have d11:=zn KG 11 rfl (kL hall 0 rfl rfl);refine zf (.p (yt S)) rfl rfl (by simp (disch:=first|exact zb|fail) only [go_sem,seval,d11,ze]<;>rfl) rfl ?_;exact .inl ⟨zx KF,zA KG,ka m16,ka m17,ka m18,(by rw [za (by decide),za (by decide),za (by decide),za (by decide)])⟩
                 · cases ho;have d11:=zn KG 11 rfl (kL hall 0 rfl rfl);refine zf (.p (yK M)) rfl rfl (by simp (disch:=first|exact zb|fail) only [go_sem,seval,d11,ze]<;>rfl) rfl ?_;exact .inl ⟨zx KF,zA KG,ka m16,ka m17,ka m18,(by rw [za (by decide),za (by decide),za (by decide),za (by decide)])⟩
                 · cases ho;have d11:=zn KG 11 rfl (kL hall 0 rfl rfl);refine zf (.p (i64 c)) rfl rfl (by simp (disch:=first|exact zb|fail) only [go_sem,seval,d11,ze]<;>rfl) rfl ?_;exact .inl ⟨zx KF,zA KG,ka m16,ka m17,ka m18,(by rw [za (by decide),za (by decide),za (by decide),za (by decide)])⟩
                 · cases ho;have n16:=ya m16 hL;have n17:=ya m17 hL;have n18:=ya m18 hL;(try simp only [n16,n17,n18,hL,if_true,if_false,Bool.false_eq_true]);refine zZ (.ptr (qS H T+1) 0) rfl rfl (by simp (disch:=first|exact zb|fail) only [go_sem,seval,reduceIte,Bool.false_eq_true,if_false,if_true,n16,n17,n18,hL,ze]<;>rfl) rfl ?_;exact .inl ⟨zx KF,zA KG,ka m16,ka m17,ka m18,(by (have e15:more L 15 15=true:=zr);(have e16:more L 15 16=L 16:=za (by decide));(have e17:more L 15 17=L 17:=za (by decide));(have e18:more L 15 18=L 18:=za (by decide));(try simp only [e15,e16,e17,e18,n16,n17,n18,hL]);first | done | rfl | (simp only [e15,e16,e17,e18,n16,n17,n18,hL,if_true,if_false,Bool.false_eq_true];first | done | rfl | (simp (disch:=first|exact zb|fail) only [go_sem,seval,e15,e16,e17,e18,n16,n17,n18,hL,ze]<;>rfl)))⟩
                 · cases ho
                   have n17:=ya m17 hL
                   have n18:=ya m18 hL
                   cases e0:L 15
                   · skip
                     (try simp only [n17,n18,hL,e0,if_true,if_false,Bool.false_eq_true])
                     refine zZ (.ptr (qS H T+1) 0) rfl rfl (by simp (disch:=first|exact zb|fail) only [go_sem,seval,reduceIte,Bool.false_eq_true,if_false,if_true,n17,n18,hL,e0,ze]<;>rfl) rfl ?_
                     exact .inr ⟨zx KF,kIj KG e0,(fun _=>kt1),ka m17,ka m18,(by (have e15:more L 16 15=L 15:=za (by decide));(have e16:more L 16 16=true:=zr);(have e17:more L 16 17=L 17:=za (by decide));(have e18:more L 16 18=L 18:=za (by decide));(try simp only [e15,e16,e17,e18,n17,n18,hL,e0]);first | done | rfl | (simp only [e15,e16,e17,e18,n17,n18,hL,e0,if_true,if_false,Bool.false_eq_true];first | done | rfl | (simp (disch:=first|exact zb|fail) only [go_sem,seval,e15,e16,e17,e18,n17,n18,hL,e0,ze]<;>rfl)))⟩
                   · have h15:L 15=true:=e0
                     (try simp only [h15,n17,n18,hL,if_true,if_false,Bool.false_eq_true])
                     refine zZ (.ptr (qS H T+2) 0) rfl rfl (by simp (disch:=first|exact zb|fail) only [go_sem,seval,reduceIte,Bool.false_eq_true,if_false,if_true,h15,n17,n18,hL,ze]<;>rfl) rfl ?_
                     exact .inl ⟨zx KF,zA KG,(fun _=>kt (zc h15 zv)),ka m17,ka m18,(by (have e15:more L 16 15=L 15:=za (by decide));(have e16:more L 16 16=true:=zr);(have e17:more L 16 17=L 17:=za (by decide));(have e18:more L 16 18=L 18:=za (by decide));(try simp only [e15,e16,e17,e18,h15,n17,n18,hL]);first | done | rfl | (simp only [e15,e16,e17,e18,h15,n17,n18,hL,if_true,if_false,Bool.false_eq_true];first | done | rfl | (simp (disch:=first|exact zb|fail) only [go_sem,seval,e15,e16,e17,e18,h15,n17,n18,hL,ze]<;>rfl)))⟩
                 · cases ho;have h0:=kL hall 3 rfl rfl;have h1:=kL hall 4 rfl rfl;have h2:=kL hall 5 rfl rfl;have h3:=kL hall 6 rfl rfl;have h4:=kL hall 7 rfl rfl;have h5:=kL hall 8 rfl rfl;have h6:=kL hall 9 rfl rfl;have h7:=kL hall 10 rfl rfl;have h8:=kL hall 11 rfl rfl;have h9:=kL hall 12 rfl rfl;have h10:=kL hall 2 rfl rfl;have h11:=kL hall 14 rfl rfl;have h12:=kL hall 1 rfl rfl;have d12:=zn KG 12 rfl h12;have h15:=kL hall 0 rfl rfl;have d15:=zn KG 15 rfl h15;have h16:=kL hall 19 rfl rfl;have n18:=ya m18 hL;refine yb rfl rfl (by simp (disch:=first|exact zb|fail) only [go_sem,seval,reduceIte,Bool.false_eq_true,if_false,if_true,d12,d15,h15,h16,n18,hL,ze]<;>rfl) rfl ?_;exact .inl ⟨KF,kIs KG,ka m16,(fun _=>kt (zc h0 (zc h1 (zc h2 (zc h3 (zc h4 (zc h5 (zc h6 (zc h7 (zc h8 (zc h9 (zc h10 (zc h11 (zc h12 (zc h15 (zc h16 zv)))))))))))))))),ka m18,(by (have e15:more L 17 15=L 15:=za (by decide));(have e16:more L 17 16=L 16:=za (by decide));(have e17:more L 17 17=true:=zr);(have e18:more L 17 18=L 18:=za (by decide));(try simp only [e15,e16,e17,e18,h15,h16,n18,hL]);first | done | rfl | (simp only [e15,e16,e17,e18,h15,h16,n18,hL,if_true,if_false,Bool.false_eq_true];first | done | rfl | (simp (disch:=first|exact zb|fail) only [go_sem,seval,e15,e16,e17,e18,h15,h16,n18,hL,ze]<;>rfl)))⟩
                 · cases ho;have h0:=kL hall 3 rfl rfl;have h1:=kL hall 4 rfl rfl;have h2:=kL hall 5 rfl rfl;have h3:=kL hall 6 rfl rfl;have h4:=kL hall 7 rfl rfl;have h5:=kL hall 8 rfl rfl;have h6:=kL hall 9 rfl rfl;have h7:=kL hall 10 rfl rfl;have h8:=kL hall 11 rfl rfl;have h9:=kL hall 12 rfl rfl;have h10:=kL hall 13 rfl rfl;have h11:=kL hall 14 rfl rfl;have h12:=kL hall 15 rfl rfl;have h13:=kL hall 1 rfl rfl;have d13:=zn KG 13 rfl h13;have h15:=kL hall 18 rfl rfl;have h16:=kL hall 0 rfl rfl;have d16:=zn KG 16 rfl h16;have h17:=kL hall 2 rfl rfl;refine yb rfl rfl (by simp (disch:=first|exact zb|fail) only [go_sem,seval,reduceIte,Bool.false_eq_true,if_false,if_true,d13,d16,h15,h16,h17,hL,ze]<;>rfl) rfl ?_;exact .inl ⟨KF,kIs KG,ka m16,ka m17,(fun _=>kt (zc h0 (zc h1 (zc h2 (zc h3 (zc h4 (zc h5 (zc h6 (zc h7 (zc h8 (zc h9 (zc h10 (zc h11 (zc h12 (zc h13 (zc h15 (zc h16 (zc h17 zv)))))))))))))))))),(by (have e15:more L 18 15=L 15:=za (by decide));(have e16:more L 18 16=L 16:=za (by decide));(have e17:more L 18 17=L 17:=za (by decide));(have e18:more L 18 18=true:=zr);(try simp only [e15,e16,e17,e18,h15,h16,h17,hL]);first | done | rfl | (simp only [e15,e16,e17,e18,h15,h16,h17,hL,if_true,if_false,Bool.false_eq_true];first | done | rfl | (simp (disch:=first|exact zb|fail) only [go_sem,seval,e15,e16,e17,e18,h15,h16,h17,hL,ze]<;>rfl)))⟩
                 · cases ho;have d14:=zn KG 14 rfl (kL hall 0 rfl rfl);refine zf (.p (i64 c)) rfl rfl (by simp (disch:=first|exact zb|fail) only [go_sem,seval,d14,ze]<;>rfl) rfl ?_;exact .inl ⟨zx KF,zA KG,ka m16,ka m17,ka m18,(by rw [za (by decide),za (by decide),za (by decide),za (by decide)])⟩
                 · simp at ho
               · obtain⟨KF,KG,m15,m17,m18,rfl⟩:=hI
                 rcases i with _ | _ | _ | _ | _ | _ | _ | _ | _ | _ | _ | _ | _ | _ | _ | _ | _ | _ | _ | _ | i
                 · cases ho;have f3:=zJ KF 3 rfl;refine zf (.ref H.n 0 2 78) rfl rfl (by simp (disch:=first|exact zb|fail) only [go_sem,seval,f3,ze]<;>rfl) rfl ?_;exact .inr ⟨zx KF,zA KG,ka m15,ka m17,ka m18,(by rw [za (by decide),za (by decide),za (by decide),za (by decide)])⟩
                 · cases ho;have f8:=zJ KF 8 rfl;refine zf (.p (i64 k)) rfl rfl (by simp (disch:=first|exact zb|fail) only [go_sem,seval,f8,ze]<;>rfl) rfl ?_;exact .inr ⟨zx KF,zA KG,ka m15,ka m17,ka m18,(by rw [za (by decide),za (by decide),za (by decide),za (by decide)])⟩
                 · cases ho;have d0:=zn KG 0 rfl (kL hall 0 rfl rfl);have d1:=zn KG 1 rfl (kL hall 1 rfl rfl);refine zf (.ptr (H.n) (k*78)) rfl rfl (by simp (disch:=first|exact zb|fail) only [go_sem,seval,d0,d1,ze]<;>rfl) rfl ?_;exact .inr ⟨zx KF,zA KG,ka m15,ka m17,ka m18,(by rw [za (by decide),za (by decide),za (by decide),za (by decide)])⟩
                 · cases ho;have d2:=zn KG 2 rfl (kL hall 0 rfl rfl);have n17:=ya m17 hL;have n18:=ya m18 hL;refine zf (.p (yt (p k))) rfl rfl (by simp (disch:=first|exact zb|fail) only [go_sem,seval,reduceIte,Bool.false_eq_true,if_false,if_true,d2,n17,n18,ze]<;>rfl) rfl ?_;exact .inr ⟨zx KF,zA KG,ka m15,ka m17,ka m18,(by rw [za (by decide),za (by decide),za (by decide),za (by decide)])⟩
                 · cases ho;have f9:=zJ KF 9 rfl;refine zf (.p (.sl false 1 (pl b8 pb))) rfl rfl (by simp (disch:=first|exact zb|fail) only [go_sem,seval,f9,ze]<;>rfl) rfl ?_;exact .inr ⟨zx KF,zA KG,ka m15,ka m17,ka m18,(by rw [za (by decide),za (by decide),za (by decide),za (by decide)])⟩
                 · cases ho;have f7:=zJ KF 7 rfl;refine zf (.ptr (qS H T) 2) rfl rfl (by simp (disch:=first|exact zb|fail) only [go_sem,seval,f7,ze]<;>rfl) rfl ?_;exact .inr ⟨zx KF,zA KG,ka m15,ka m17,ka m18,(by rw [za (by decide),za (by decide),za (by decide),za (by decide)])⟩
                 · cases ho;have d5:=zn KG 5 rfl (kL hall 0 rfl rfl);refine zf (.ptr (qS H T) 4) rfl rfl (by simp (disch:=first|exact zb|fail) only [go_sem,seval,d5,ze]<;>rfl) rfl ?_;exact .inr ⟨zx KF,zA KG,ka m15,ka m17,ka m18,(by rw [za (by decide),za (by decide),za (by decide),za (by decide)])⟩
                 · cases ho;have d6:=zn KG 6 rfl (kL hall 0 rfl rfl);have n17:=ya m17 hL;have n18:=ya m18 hL;refine zf (.p (i64 x.m.step)) rfl rfl (by simp (disch:=first|exact zb|fail) only [go_sem,seval,reduceIte,Bool.false_eq_true,if_false,if_true,d6,n17,n18,ze]<;>rfl) rfl ?_;exact .inr ⟨zx KF,zA KG,ka m15,ka m17,ka m18,(by rw [za (by decide),za (by decide),za (by decide),za (by decide)])⟩
                 · cases ho;have d7:=zn KG 7 rfl (kL hall 0 rfl rfl);refine zf (.p (i64 (x.m.step % 256))) rfl rfl (by simp (disch:=first|exact zb|fail) only [go_sem,seval,d7,ze]<;>rfl) rfl ?_;exact .inr ⟨zx KF,zA KG,ka m15,ka m17,ka m18,(by rw [za (by decide),za (by decide),za (by decide),za (by decide)])⟩
                 · cases ho;have d8:=zn KG 8 rfl (kL hall 0 rfl rfl);refine zf (.p (i64 (x.m.step % 256 % 130))) rfl rfl (by simp (disch:=first|exact zb|fail) only [go_sem,seval,d8,ze]<;>rfl) rfl ?_;exact .inr ⟨zx KF,zA KG,ka m15,ka m17,ka m18,(by rw [za (by decide),za (by decide),za (by decide),za (by decide)])⟩
                 · cases ho;have d3:=zn KG 3 rfl (kL hall 0 rfl rfl);have d4:=zn KG 4 rfl (kL hall 1 rfl rfl);have d9:=zn KG 9 rfl (kL hall 2 rfl rfl);have n17:=ya m17 hL;have n18:=ya m18 hL;(try simp only [n17,n18,if_true,if_false,Bool.false_eq_true]);refine ym rfl rfl (by simp (disch:=first|exact zb|fail) only [go_sem,seval,reduceIte,Bool.false_eq_true,if_false,if_true,d3,d4,d9,n17,n18,ze]<;>rfl) rfl (by simp (disch:=first|exact zb|fail) only [go_sem,seval,reduceIte,Bool.false_eq_true,if_false,if_true,d3,d4,d9,n17,n18,ze]<;>rfl) (fun R h=>ra _ R h) ?_;exact .inr ⟨zx KF,zA KG,ka m15,ka m17,ka m18,(by (have e15:more L 10 15=L 15:=za (by decide));(have e16:more L 10 16=L 16:=za (by decide));(have e17:more L 10 17=L 17:=za (by decide));(have e18:more L 10 18=L 18:=za (by decide));(try simp only [e15,e16,e17,e18,n17,n18]);first | done | rfl | (simp only [e15,e16,e17,e18,n17,n18,if_true,if_false,Bool.false_eq_true];first | done | rfl | (simp (disch:=first|exact zb|fail) only [go_sem,seval,e15,e16,e17,e18,n17,n18,ze]<;>rfl)))⟩
                 · cases ho;have d10:=zn KG 10 rfl (kL hall 0 rfl rfl);refine zf (.tup [.p (yt S),.p (yK M),.p (i64 c)]) rfl rfl (by simp (disch:=first|exact zb|fail) only [go_sem,seval,d10,ze]<;>rfl) rfl ?_;exact .inr ⟨zx KF,zA KG,ka m15,ka m17,ka m18,(by rw [za (by decide),za (by decide),za (by decide),za (by decide)])⟩
                 · cases ho;have d11:=zn KG 11 rfl (kL hall 0 rfl rfl);refine zf (.p (yt S)) rfl rfl (by simp (disch:=first|exact zb|fail) only [go_sem,seval,d11,ze]<;>rfl) rfl ?_;exact .inr ⟨zx KF,zA KG,ka m15,ka m17,ka m18,(by rw [za (by decide),za (by decide),za (by decide),za (by decide)])⟩
                 · cases ho;have d11:=zn KG 11 rfl (kL hall 0 rfl rfl);refine zf (.p (yK M)) rfl rfl (by simp (disch:=first|exact zb|fail) only [go_sem,seval,d11,ze]<;>rfl) rfl ?_;exact .inr ⟨zx KF,zA KG,ka m15,ka m17,ka m18,(by rw [za (by decide),za (by decide),za (by decide),za (by decide)])⟩
                 · cases ho;have d11:=zn KG 11 rfl (kL hall 0 rfl rfl);refine zf (.p (i64 c)) rfl rfl (by simp (disch:=first|exact zb|fail) only [go_sem,seval,d11,ze]<;>rfl) rfl ?_;exact .inr ⟨zx KF,zA KG,ka m15,ka m17,ka m18,(by rw [za (by decide),za (by decide),za (by decide),za (by decide)])⟩
                 · cases ho
                   have n17:=ya m17 hL
                   have n18:=ya m18 hL
                   cases e0:L 16
                   · skip
                     (try simp only [n17,n18,hL,e0,if_true,if_false,Bool.false_eq_true])
                     refine zZ (.ptr (qS H T+1) 0) rfl rfl (by simp (disch:=first|exact zb|fail) only [go_sem,seval,reduceIte,Bool.false_eq_true,if_false,if_true,n17,n18,hL,e0,ze]<;>rfl) rfl ?_
                     exact .inl ⟨zx KF,kIj KG e0,(fun _=>kt1),ka m17,ka m18,(by (have e15:more L 15 15=true:=zr);(have e16:more L 15 16=L 16:=za (by decide));(have e17:more L 15 17=L 17:=za (by decide));(have e18:more L 15 18=L 18:=za (by decide));(try simp only [e15,e16,e17,e18,n17,n18,hL,e0]);first | done | rfl | (simp only [e15,e16,e17,e18,n17,n18,hL,e0,if_true,if_false,Bool.false_eq_true];first | done | rfl | (simp (disch:=first|exact zb|fail) only [go_sem,seval,e15,e16,e17,e18,n17,n18,hL,e0,ze]<;>rfl)))⟩
                   · have h16:L 16=true:=e0
                     (try simp only [h16,n17,n18,hL,if_true,if_false,Bool.false_eq_true])
                     refine zZ (.ptr (qS H T+2) 0) rfl rfl (by simp (disch:=first|exact zb|fail) only [go_sem,seval,reduceIte,Bool.false_eq_true,if_false,if_true,h16,n17,n18,hL,ze]<;>rfl) rfl ?_
                     exact .inr ⟨zx KF,zA KG,(fun _=>kt (zc h16 zv)),ka m17,ka m18,(by (have e15:more L 15 15=true:=zr);(have e16:more L 15 16=L 16:=za (by decide));(have e17:more L 15 17=L 17:=za (by decide));(have e18:more L 15 18=L 18:=za (by decide));(try simp only [e15,e16,e17,e18,h16,n17,n18,hL]);first | done | rfl | (simp only [e15,e16,e17,e18,h16,n17,n18,hL,if_true,if_false,Bool.false_eq_true];first | done | rfl | (simp (disch:=first|exact zb|fail) only [go_sem,seval,e15,e16,e17,e18,h16,n17,n18,hL,ze]<;>rfl)))⟩
                 · cases ho;have n15:=ya m15 hL;have n17:=ya m17 hL;have n18:=ya m18 hL;(try simp only [n15,n17,n18,hL,if_true,if_false,Bool.false_eq_true]);refine zZ (.ptr (qS H T+1) 0) rfl rfl (by simp (disch:=first|exact zb|fail) only [go_sem,seval,reduceIte,Bool.false_eq_true,if_false,if_true,n15,n17,n18,hL,ze]<;>rfl) rfl ?_;exact .inr ⟨zx KF,zA KG,ka m15,ka m17,ka m18,(by (have e15:more L 16 15=L 15:=za (by decide));(have e16:more L 16 16=true:=zr);(have e17:more L 16 17=L 17:=za (by decide));(have e18:more L 16 18=L 18:=za (by decide));(try simp only [e15,e16,e17,e18,n15,n17,n18,hL]);first | done | rfl | (simp only [e15,e16,e17,e18,n15,n17,n18,hL,if_true,if_false,Bool.false_eq_true];first | done | rfl | (simp (disch:=first|exact zb|fail) only [go_sem,seval,e15,e16,e17,e18,n15,n17,n18,hL,ze]<;>rfl)))⟩
                 · cases ho;have h0:=kL hall 3 rfl rfl;have h1:=kL hall 4 rfl rfl;have h2:=kL hall 5 rfl rfl;have h3:=kL hall 6 rfl rfl;have h4:=kL hall 7 rfl rfl;have h5:=kL hall 8 rfl rfl;have h6:=kL hall 9 rfl rfl;have h7:=kL hall 10 rfl rfl;have h8:=kL hall 11 rfl rfl;have h9:=kL hall 12 rfl rfl;have h10:=kL hall 2 rfl rfl;have h11:=kL hall 14 rfl rfl;have h12:=kL hall 1 rfl rfl;have d12:=zn KG 12 rfl h12;have h15:=kL hall 0 rfl rfl;have d15:=zn KG 15 rfl h15;have h16:=kL hall 19 rfl rfl;have n18:=ya m18 hL;refine yb rfl rfl (by simp (disch:=first|exact zb|fail) only [go_sem,seval,reduceIte,Bool.false_eq_true,if_false,if_true,d12,d15,h15,h16,n18,hL,ze]<;>rfl) rfl ?_;exact .inr ⟨KF,kIs KG,ka m15,(fun _=>kt (zc h0 (zc h1 (zc h2 (zc h3 (zc h4 (zc h5 (zc h6 (zc h7 (zc h8 (zc h9 (zc h10 (zc h11 (zc h12 (zc h15 (zc h16 zv)))))))))))))))),ka m18,(by (have e15:more L 17 15=L 15:=za (by decide));(have e16:more L 17 16=L 16:=za (by decide));(have e17:more L 17 17=true:=zr);(have e18:more L 17 18=L 18:=za (by decide));(try simp only [e15,e16,e17,e18,h15,h16,n18,hL]);first | done | rfl | (simp only [e15,e16,e17,e18,h15,h16,n18,hL,if_true,if_false,Bool.false_eq_true];first | done | rfl | (simp (disch:=first|exact zb|fail) only [go_sem,seval,e15,e16,e17,e18,h15,h16,n18,hL,ze]<;>rfl)))⟩
                 · cases ho;have h0:=kL hall 3 rfl rfl;have h1:=kL hall 4 rfl rfl;have h2:=kL hall 5 rfl rfl;have h3:=kL hall 6 rfl rfl;have h4:=kL hall 7 rfl rfl;have h5:=kL hall 8 rfl rfl;have h6:=kL hall 9 rfl rfl;have h7:=kL hall 10 rfl rfl;have h8:=kL hall 11 rfl rfl;have h9:=kL hall 12 rfl rfl;have h10:=kL hall 13 rfl rfl;have h11:=kL hall 14 rfl rfl;have h12:=kL hall 15 rfl rfl;have h13:=kL hall 1 rfl rfl;have d13:=zn KG 13 rfl h13;have h15:=kL hall 18 rfl rfl;have h16:=kL hall 0 rfl rfl;have d16:=zn KG 16 rfl h16;have h17:=kL hall 2 rfl rfl;refine yb rfl rfl (by simp (disch:=first|exact zb|fail) only [go_sem,seval,reduceIte,Bool.false_eq_true,if_false,if_true,d13,d16,h15,h16,h17,hL,ze]<;>rfl) rfl ?_;exact .inr ⟨KF,kIs KG,ka m15,ka m17,(fun _=>kt (zc h0 (zc h1 (zc h2 (zc h3 (zc h4 (zc h5 (zc h6 (zc h7 (zc h8 (zc h9 (zc h10 (zc h11 (zc h12 (zc h13 (zc h15 (zc h16 (zc h17 zv)))))))))))))))))),(by (have e15:more L 18 15=L 15:=za (by decide));(have e16:more L 18 16=L 16:=za (by decide));(have e17:more L 18 17=L 17:=za (by decide));(have e18:more L 18 18=true:=zr);(try simp only [e15,e16,e17,e18,h15,h16,h17,hL]);first | done | rfl | (simp only [e15,e16,e17,e18,h15,h16,h17,hL,if_true,if_false,Bool.false_eq_true];first | done | rfl | (simp (disch:=first|exact zb|fail) only [go_sem,seval,e15,e16,e17,e18,h15,h16,h17,hL,ze]<;>rfl)))⟩
                 · cases ho;have d14:=zn KG 14 rfl (kL hall 0 rfl rfl);refine zf (.p (i64 c)) rfl rfl (by simp (disch:=first|exact zb|fail) only [go_sem,seval,d14,ze]<;>rfl) rfl ?_;exact .inr ⟨zx KF,zA KG,ka m15,ka m17,ka m18,(by rw [za (by decide),za (by decide),za (by decide),za (by decide)])⟩
                 · simp at ho
             · intro L env' H' hall hI
               rcases hI with hI | hI
               (obtain⟨KF,KG,_,_,_,rfl⟩:=hI;have l15:=hall 15 (by decide);have l16:=hall 16 (by decide);have l17:=hall 17 (by decide);have l18:=hall 18 (by decide);have f0:=zJ KF 0 rfl;have f1:=zJ KF 1 rfl;have f2:=zJ KF 2 rfl;have f3:=zJ KF 3 rfl;have f4:=zJ KF 4 rfl;have f5:=zJ KF 5 rfl;have f6:=zJ KF 6 rfl;have f7:=zJ KF 7 rfl;have f8:=zJ KF 8 rfl;have f9:=zJ KF 9 rfl;have g1:=zn KG 1 rfl (hall 1 (by decide));have g2:=zn KG 2 rfl (hall 2 (by decide));have g3:=zn KG 3 rfl (hall 3 (by decide));have g15:=zn KG 15 rfl (hall 15 (by decide));have g16:=zn KG 16 rfl (hall 16 (by decide));have g19:=zn KG 17 rfl (hall 19 (by decide));simp only [l15,l16,l17,l18,if_true];clear hall);rotate_left
               (obtain⟨KF,KG,_,_,_,rfl⟩:=hI;have l15:=hall 15 (by decide);have l16:=hall 16 (by decide);have l17:=hall 17 (by decide);have l18:=hall 18 (by decide);have f0:=zJ KF 0 rfl;have f1:=zJ KF 1 rfl;have f2:=zJ KF 2 rfl;have f3:=zJ KF 3 rfl;have f4:=zJ KF 4 rfl;have f5:=zJ KF 5 rfl;have f6:=zJ KF 6 rfl;have f7:=zJ KF 7 rfl;have f8:=zJ KF 8 rfl;have f9:=zJ KF 9 rfl;have g1:=zn KG 1 rfl (hall 1 (by decide));have g2:=zn KG 2 rfl (hall 2 (by decide));have g3:=zn KG 3 rfl (hall 3 (by decide));have g15:=zn KG 15 rfl (hall 15 (by decide));have g16:=zn KG 16 rfl (hall 16 (by decide));have g19:=zn KG 17 rfl (hall 19 (by decide));simp only [l15,l16,l17,l18,if_true];clear hall);rotate_left
               · exact ih2 _ _ ⟨_,_,_,_,⟨f0,f1,f2,f3,f4,f5,f6,f7,f8,f9⟩,⟨g15,g16,g19⟩,rfl,fun p1 p2 L=>by simp (disch:=first|exact zb|fail) only [go_sem,seval],fun p1 p2 L=>by simp (disch:=first|exact zb|fail) only [go_sem,seval]⟩
               · exact ih2 _ _ ⟨_,_,_,_,⟨f0,f1,f2,f3,f4,f5,f6,f7,f8,f9⟩,⟨g15,g16,g19⟩,rfl,fun p1 p2 L=>by simp (disch:=first|exact zb|fail) only [go_sem,seval],fun p1 p2 L=>by simp (disch:=first|exact zb|fail) only [go_sem,seval]⟩
           · rintro env' H' ⟨u,w,b1,b2,⟨e0,e4,e5,e6,e7,e8,e9,e10,e11,e25⟩,⟨e26,e27,e28⟩,rfl,hu,hw⟩
             (repeat refine .zs rfl ?_);refine .cut (fun env' H' => ∃ (u2 w2:Nat) (b3 b4:AB),(env' 0 = .p (.sl false 42 (pl act l))∧env' 4 = .p (bo false)∧env' 5 = .p (bo true)∧env' 6 = .ref H.n 0 2 78∧env' 7 = .ref (H.n+1) 0 2 78∧env' 8 = .sl (H.n+2) P.length 1 (pl (sle 1 b8) P)∧env' 9 = .p (i64 i)∧env' 10 = .ptr (qS H T) 0∧env' 11 = .p (i64 k))∧(env' 26 = .ptr u 0∧env' 27 = .ptr w 0∧env' 28 = .p (i64 c))∧(env' 29 = .ptr u2 0∧env' 30 = .ptr w2 0∧env' 31 = .p (i64 c))∧H'=sQ H p p P.length T [.cells (acl x),b1,b2,b3,b4]∧(∀ p1 p2 L,(sQ H p1 p2 P.length T (.cells (acl x) :: b1 :: b2 :: b3 :: b4 :: L)).f u2=some (.cells (yy S))) ∧ ∀ p1 p2 L,(sQ H p1 p2 P.length T (.cells (acl x) :: b1 :: b2 :: b3 :: b4 :: L)).f w2=some (.cells (mcl M))) (fun ih2 => ?_) ?_
             · (refine .q ?_)
               refine .openInv (fun L env' H'=>(kF env' [(0,.p (.sl false 42 (pl act l))),(4,.p (bo false)),(5,.p (bo true)),(6,.ref H.n 0 2 78),(7,.ref (H.n+1) 0 2 78),(8,.sl (H.n+2) P.length 1 (pl (sle 1 b8) P)),(9,.p (i64 i)),(10,.ptr (qS H T) 0),(11,.p (i64 k)),(25,.p (.sl false 1 (pl b8 pb))),(26,.ptr u 0),(27,.ptr w 0),(28,.p (i64 c))]∧kI L env' [(0,88,.ref (H.n+1) 0 2 78),(1,89,.p (i64 k)),(2,90,.ptr (H.n+1) (k*78)),(3,91,.p (yt (p k))),(4,92,.p (.sl false 1 (pl b8 pb))),(5,93,.ptr (qS H T) 2),(6,94,.ptr (qS H T) 4),(7,95,.p (i64 x.m.step)),(8,96,.p (i64 (x.m.step % 256))),(9,97,.p (i64 (x.m.step % 256 % 130))),(10,98,.tup [.p (yt S),.p (yK M),.p (i64 c)]),(11,87,.tup [.p (yt S),.p (yK M),.p (i64 c)]),(12,99,.p (yt S)),(13,100,.p (yK M)),(14,101,.p (i64 c)),(15,29,.ptr (qS H T+3) 0),(16,30,.ptr (qS H T+4) 0),(19,31,.p (i64 c))]∧(L 16=true → allT L [15])∧(L 17=true → allT L [0,1,2,3,4,5,6,7,8,9,10,11,12,15,16])∧(L 18=true → allT L [0,1,2,3,4,5,6,7,8,9,10,11,12,13,15,16,17])∧H'=(sQ H p p P.length T (AB.cells (acl x) :: b1 :: b2 :: ((if L 17 then some (AB.cells (yy S)) else if L 15 then some (AB.cells (nC 0 0)) else none).toList++(if L 18 then some (AB.cells (mcl M)) else if L 16 then some (AB.cells mZ) else none).toList)))) ∨ (kF env' [(0,.p (.sl false 42 (pl act l))),(4,.p (bo false)),(5,.p (bo true)),(6,.ref H.n 0 2 78),(7,.ref (H.n+1) 0 2 78),(8,.sl (H.n+2) P.length 1 (pl (sle 1 b8) P)),(9,.p (i64 i)),(10,.ptr (qS H T) 0),(11,.p (i64 k)),(25,.p (.sl false 1 (pl b8 pb))),(26,.ptr u 0),(27,.ptr w 0),(28,.p (i64 c))]∧kI L env' [(0,88,.ref (H.n+1) 0 2 78),(1,89,.p (i64 k)),(2,90,.ptr (H.n+1) (k*78)),(3,91,.p (yt (p k))),(4,92,.p (.sl false 1 (pl b8 pb))),(5,93,.ptr (qS H T) 2),(6,94,.ptr (qS H T) 4),(7,95,.p (i64 x.m.step)),(8,96,.p (i64 (x.m.step % 256))),(9,97,.p (i64 (x.m.step % 256 % 130))),(10,98,.tup [.p (yt S),.p (yK M),.p (i64 c)]),(11,87,.tup [.p (yt S),.p (yK M),.p (i64 c)]),(12,99,.p (yt S)),(13,100,.p (yK M)),(14,101,.p (i64 c)),(15,29,.ptr (qS H T+4) 0),(16,30,.ptr (qS H T+3) 0),(19,31,.p (i64 c))]∧(L 15=true → allT L [16])∧(L 17=true → allT L [0,1,2,3,4,5,6,7,8,9,10,11,12,15,16])∧(L 18=true → allT L [0,1,2,3,4,5,6,7,8,9,10,11,12,13,15,16,17])∧H'=(sQ H p p P.length T (AB.cells (acl x) :: b1 :: b2 :: ((if L 18 then some (AB.cells (mcl M)) else if L 16 then some (AB.cells mZ) else none).toList++(if L 17 then some (AB.cells (yy S)) else if L 15 then some (AB.cells (nC 0 0)) else none).toList))))) follows (by kernel_rfl) ?_ ?_ ?_
               · exact .inl ⟨(by simp (disch:=first|exact zb|fail) only [go_sem,seval,kFi,kFn,and_self,e0,e4,e5,e6,e7,e8,e9,e10,e11,e25,e26,e27,e28,ze]),(fun _ _ h=>by cases h),(fun h=>by cases h),(fun h=>by cases h),(fun h=>by cases h),(by first | rfl | (simp only [Bool.false_eq_true,if_false];first | rfl | (simp (disch:=first|exact zb|fail) only [go_sem,seval,e0,e4,e5,e6,e7,e8,e9,e10,e11,e25,e26,e27,e28,ze]<;>rfl)))⟩
               · intro i o L env' H' ho hL hall hI
                 rcases hI with hI | hI
                 · obtain⟨KF,KG,m16,m17,m18,rfl⟩:=hI
                   rcases i with _ | _ | _ | _ | _ | _ | _ | _ | _ | _ | _ | _ | _ | _ | _ | _ | _ | _ | _ | _ | i
                   · cases ho;have f4:=zJ KF 4 rfl;refine zf (.ref (H.n+1) 0 2 78) rfl rfl (by simp (disch:=first|exact zb|fail) only [go_sem,seval,f4,e0,e4,e5,e6,e7,e8,e9,e10,e11,e25,e26,e27,e28,ze]<;>rfl) rfl ?_;exact .inl ⟨zx KF,zA KG,ka m16,ka m17,ka m18,(by rw [za (by decide),za (by decide),za (by decide),za (by decide)])⟩
                   · cases ho;have f8:=zJ KF 8 rfl;refine zf (.p (i64 k)) rfl rfl (by simp (disch:=first|exact zb|fail) only [go_sem,seval,f8,e0,e4,e5,e6,e7,e8,e9,e10,e11,e25,e26,e27,e28,ze]<;>rfl) rfl ?_;exact .inl ⟨zx KF,zA KG,ka m16,ka m17,ka m18,(by rw [za (by decide),za (by decide),za (by decide),za (by decide)])⟩
                   · cases ho;have d0:=zn KG 0 rfl (kL hall 0 rfl rfl);have d1:=zn KG 1 rfl (kL hall 1 rfl rfl);refine zf (.ptr (H.n+1) (k*78)) rfl rfl (by simp (disch:=first|exact zb|fail) only [go_sem,seval,d0,d1,e0,e4,e5,e6,e7,e8,e9,e10,e11,e25,e26,e27,e28,ze]<;>rfl) rfl ?_;exact .inl ⟨zx KF,zA KG,ka m16,ka m17,ka m18,(by rw [za (by decide),za (by decide),za (by decide),za (by decide)])⟩
                   · cases ho;have d2:=zn KG 2 rfl (kL hall 0 rfl rfl);have n17:=ya m17 hL;have n18:=ya m18 hL;refine zf (.p (yt (p k))) rfl rfl (by simp (disch:=first|exact zb|fail) only [go_sem,seval,reduceIte,Bool.false_eq_true,if_false,if_true,d2,n17,n18,e0,e4,e5,e6,e7,e8,e9,e10,e11,e25,e26,e27,e28,ze]<;>rfl) rfl ?_;exact .inl ⟨zx KF,zA KG,ka m16,ka m17,ka m18,(by rw [za (by decide),za (by decide),za (by decide),za (by decide)])⟩
                   · cases ho;have f9:=zJ KF 9 rfl;refine zf (.p (.sl false 1 (pl b8 pb))) rfl rfl (by simp (disch:=first|exact zb|fail) only [go_sem,seval,f9,e0,e4,e5,e6,e7,e8,e9,e10,e11,e25,e26,e27,e28,ze]<;>rfl) rfl ?_;exact .inl ⟨zx KF,zA KG,ka m16,ka m17,ka m18,(by rw [za (by decide),za (by decide),za (by decide),za (by decide)])⟩
                   · cases ho;have f7:=zJ KF 7 rfl;refine zf (.ptr (qS H T) 2) rfl rfl (by simp (disch:=first|exact zb|fail) only [go_sem,seval,f7,e0,e4,e5,e6,e7,e8,e9,e10,e11,e25,e26,e27,e28,ze]<;>rfl) rfl ?_;exact .inl ⟨zx KF,zA KG,ka m16,ka m17,ka m18,(by rw [za (by decide),za (by decide),za (by decide),za (by decide)])⟩
                   · cases ho;have d5:=zn KG 5 rfl (kL hall 0 rfl rfl);refine zf (.ptr (qS H T) 4) rfl rfl (by simp (disch:=first|exact zb|fail) only [go_sem,seval,d5,e0,e4,e5,e6,e7,e8,e9,e10,e11,e25,e26,e27,e28,ze]<;>rfl) rfl ?_;exact .inl ⟨zx KF,zA KG,ka m16,ka m17,ka m18,(by rw [za (by decide),za (by decide),za (by decide),za (by decide)])⟩
                   · cases ho;have d6:=zn KG 6 rfl (kL hall 0 rfl rfl);have n17:=ya m17 hL;have n18:=ya m18 hL;refine zf (.p (i64 x.m.step)) rfl rfl (by simp (disch:=first|exact zb|fail) only [go_sem,seval,reduceIte,Bool.false_eq_true,if_false,if_true,d6,n17,n18,e0,e4,e5,e6,e7,e8,e9,e10,e11,e25,e26,e27,e28,ze]<;>rfl) rfl ?_;exact .inl ⟨zx KF,zA KG,ka m16,ka m17,ka m18,(by rw [za (by decide),za (by decide),za (by decide),za (by decide)])⟩
                   · cases ho;have d7:=zn KG 7 rfl (kL hall 0 rfl rfl);refine zf (.p (i64 (x.m.step % 256))) rfl rfl (by simp (disch:=first|exact zb|fail) only [go_sem,seval,d7,e0,e4,e5,e6,e7,e8,e9,e10,e11,e25,e26,e27,e28,ze]<;>rfl) rfl ?_;exact .inl ⟨zx KF,zA KG,ka m16,ka m17,ka m18,(by rw [za (by decide),za (by decide),za (by decide),za (by decide)])⟩
                   · cases ho;have d8:=zn KG 8 rfl (kL hall 0 rfl rfl);refine zf (.p (i64 (x.m.step % 256 % 130))) rfl rfl (by simp (disch:=first|exact zb|fail) only [go_sem,seval,d8,e0,e4,e5,e6,e7,e8,e9,e10,e11,e25,e26,e27,e28,ze]<;>rfl) rfl ?_;exact .inl ⟨zx KF,zA KG,ka m16,ka m17,ka m18,(by rw [za (by decide),za (by decide),za (by decide),za (by decide)])⟩
                   · cases ho;have d3:=zn KG 3 rfl (kL hall 0 rfl rfl);have d4:=zn KG 4 rfl (kL hall 1 rfl rfl);have d9:=zn KG 9 rfl (kL hall 2 rfl rfl);have n17:=ya m17 hL;have n18:=ya m18 hL;(try simp only [n17,n18,if_true,if_false,Bool.false_eq_true]);refine ym rfl rfl (by simp (disch:=first|exact zb|fail) only [go_sem,seval,reduceIte,Bool.false_eq_true,if_false,if_true,d3,d4,d9,n17,n18,e0,e4,e5,e6,e7,e8,e9,e10,e11,e25,e26,e27,e28,ze]<;>rfl) rfl (by simp (disch:=first|exact zb|fail) only [go_sem,seval,reduceIte,Bool.false_eq_true,if_false,if_true,d3,d4,d9,n17,n18,e0,e4,e5,e6,e7,e8,e9,e10,e11,e25,e26,e27,e28,ze]<;>rfl) (fun R h=>rb _ R h) ?_;exact .inl ⟨zx KF,zA KG,ka m16,ka m17,ka m18,(by (have e15:more L 10 15=L 15:=za (by decide));(have e16:more L 10 16=L 16:=za (by decide));(have e17:more L 10 17=L 17:=za (by decide));(have e18:more L 10 18=L 18:=za (by decide));(try simp only [e15,e16,e17,e18,n17,n18]);first | done | rfl | (simp only [e15,e16,e17,e18,n17,n18,if_true,if_false,Bool.false_eq_true];first | done | rfl | (simp (disch:=first|exact zb|fail) only [go_sem,seval,e15,e16,e17,e18,n17,n18,e0,e4,e5,e6,e7,e8,e9,e10,e11,e25,e26,e27,e28,ze]<;>rfl)))⟩
                   · cases ho;have d10:=zn KG 10 rfl (kL hall 0 rfl rfl);refine zf (.tup [.p (yt S),.p (yK M),.p (i64 c)]) rfl rfl (by simp (disch:=first|exact zb|fail) only [go_sem,seval,d10,e0,e4,e5,e6,e7,e8,e9,e10,e11,e25,e26,e27,e28,ze]<;>rfl) rfl ?_;exact .inl ⟨zx KF,zA KG,ka m16,ka m17,ka m18,(by rw [za (by decide),za (by decide),za (by decide),za (by decide)])⟩
                   · cases ho;have d11:=zn KG 11 rfl (kL hall 0 rfl rfl);refine zf (.p (yt S)) rfl rfl (by simp (disch:=first|exact zb|fail) only [go_sem,seval,d11,e0,e4,e5,e6,e7,e8,e9,e10,e11,e25,e26,e27,e28,ze]<;>rfl) rfl ?_;exact .inl ⟨zx KF,zA KG,ka m16,ka m17,ka m18,(by rw [za (by decide),za (by decide),za (by decide),za (by decide)])⟩
                   · cases ho;have d11:=zn KG 11 rfl (kL hall 0 rfl rfl);refine zf (.p (yK M)) rfl rfl (by simp (disch:=first|exact zb|fail) only [go_sem,seval,d11,e0,e4,e5,e6,e7,e8,e9,e10,e11,e25,e26,e27,e28,ze]<;>rfl) rfl ?_;exact .inl ⟨zx KF,zA KG,ka m16,ka m17,ka m18,(by rw [za (by decide),za (by decide),za (by decide),za (by decide)])⟩
                   · cases ho;have d11:=zn KG 11 rfl (kL hall 0 rfl rfl);refine zf (.p (i64 c)) rfl rfl (by simp (disch:=first|exact zb|fail) only [go_sem,seval,d11,e0,e4,e5,e6,e7,e8,e9,e10,e11,e25,e26,e27,e28,ze]<;>rfl) rfl ?_;exact .inl ⟨zx KF,zA KG,ka m16,ka m17,ka m18,(by rw [za (by decide),za (by decide),za (by decide),za (by decide)])⟩
                   · cases ho;have n16:=ya m16 hL;have n17:=ya m17 hL;have n18:=ya m18 hL;(try simp only [n16,n17,n18,hL,if_true,if_false,Bool.false_eq_true]);refine zZ (.ptr (qS H T+3) 0) rfl rfl (by simp (disch:=first|exact zb|fail) only [go_sem,seval,reduceIte,Bool.false_eq_true,if_false,if_true,n16,n17,n18,hL,e0,e4,e5,e6,e7,e8,e9,e10,e11,e25,e26,e27,e28,ze]<;>rfl) rfl ?_;exact .inl ⟨zx KF,zA KG,ka m16,ka m17,ka m18,(by (have e15:more L 15 15=true:=zr);(have e16:more L 15 16=L 16:=za (by decide));(have e17:more L 15 17=L 17:=za (by decide));(have e18:more L 15 18=L 18:=za (by decide));(try simp only [e15,e16,e17,e18,n16,n17,n18,hL]);first | done | rfl | (simp only [e15,e16,e17,e18,n16,n17,n18,hL,if_true,if_false,Bool.false_eq_true];first | done | rfl | (simp (disch:=first|exact zb|fail) only [go_sem,seval,e15,e16,e17,e18,n16,n17,n18,hL,e0,e4,e5,e6,e7,e8,e9,e10,e11,e25,e26,e27,e28,ze]<;>rfl)))⟩
                   · cases ho
                     have n17:=ya m17 hL
                     have n18:=ya m18 hL
                     cases e0:L 15
                     · skip
                       (try simp only [n17,n18,hL,e0,if_true,if_false,Bool.false_eq_true])
                       refine zZ (.ptr (qS H T+3) 0) rfl rfl (by simp (disch:=first|exact zb|fail) only [go_sem,seval,reduceIte,Bool.false_eq_true,if_false,if_true,n17,n18,hL,e0,e0,e4,e5,e6,e7,e8,e9,e10,e11,e25,e26,e27,e28,ze]<;>rfl) rfl ?_
                       exact .inr ⟨zx KF,kIj KG e0,(fun _=>kt1),ka m17,ka m18,(by (have e15:more L 16 15=L 15:=za (by decide));(have e16:more L 16 16=true:=zr);(have e17:more L 16 17=L 17:=za (by decide));(have e18:more L 16 18=L 18:=za (by decide));(try simp only [e15,e16,e17,e18,n17,n18,hL,e0]);first | done | rfl | (simp only [e15,e16,e17,e18,n17,n18,hL,e0,if_true,if_false,Bool.false_eq_true];first | done | rfl | (simp (disch:=first|exact zb|fail) only [go_sem,seval,e15,e16,e17,e18,n17,n18,hL,e0,e0,e4,e5,e6,e7,e8,e9,e10,e11,e25,e26,e27,e28,ze]<;>rfl)))⟩
                     · have h15:L 15=true:=e0
                       (try simp only [h15,n17,n18,hL,if_true,if_false,Bool.false_eq_true])
                       refine zZ (.ptr (qS H T+4) 0) rfl rfl (by simp (disch:=first|exact zb|fail) only [go_sem,seval,reduceIte,Bool.false_eq_true,if_false,if_true,h15,n17,n18,hL,e0,e4,e5,e6,e7,e8,e9,e10,e11,e25,e26,e27,e28,ze]<;>rfl) rfl ?_
                       exact .inl ⟨zx KF,zA KG,(fun _=>kt (zc h15 zv)),ka m17,ka m18,(by (have e15:more L 16 15=L 15:=za (by decide));(have e16:more L 16 16=true:=zr);(have e17:more L 16 17=L 17:=za (by decide));(have e18:more L 16 18=L 18:=za (by decide));(try simp only [e15,e16,e17,e18,h15,n17,n18,hL]);first | done | rfl | (simp only [e15,e16,e17,e18,h15,n17,n18,hL,if_true,if_false,Bool.false_eq_true];first | done | rfl | (simp (disch:=first|exact zb|fail) only [go_sem,seval,e15,e16,e17,e18,h15,n17,n18,hL,e0,e4,e5,e6,e7,e8,e9,e10,e11,e25,e26,e27,e28,ze]<;>rfl)))⟩
                   · cases ho;have h0:=kL hall 3 rfl rfl;have h1:=kL hall 4 rfl rfl;have h2:=kL hall 5 rfl rfl;have h3:=kL hall 6 rfl rfl;have h4:=kL hall 7 rfl rfl;have h5:=kL hall 8 rfl rfl;have h6:=kL hall 9 rfl rfl;have h7:=kL hall 10 rfl rfl;have h8:=kL hall 11 rfl rfl;have h9:=kL hall 12 rfl rfl;have h10:=kL hall 2 rfl rfl;have h11:=kL hall 14 rfl rfl;have h12:=kL hall 1 rfl rfl;have d12:=zn KG 12 rfl h12;have h15:=kL hall 0 rfl rfl;have d15:=zn KG 15 rfl h15;have h16:=kL hall 19 rfl rfl;have n18:=ya m18 hL;refine yb rfl rfl (by simp (disch:=first|exact zb|fail) only [go_sem,seval,reduceIte,Bool.false_eq_true,if_false,if_true,d12,d15,h15,h16,n18,hL,e0,e4,e5,e6,e7,e8,e9,e10,e11,e25,e26,e27,e28,ze]<;>rfl) rfl ?_;exact .inl ⟨KF,kIs KG,ka m16,(fun _=>kt (zc h0 (zc h1 (zc h2 (zc h3 (zc h4 (zc h5 (zc h6 (zc h7 (zc h8 (zc h9 (zc h10 (zc h11 (zc h12 (zc h15 (zc h16 zv)))))))))))))))),ka m18,(by (have e15:more L 17 15=L 15:=za (by decide));(have e16:more L 17 16=L 16:=za (by decide));(have e17:more L 17 17=true:=zr);(have e18:more L 17 18=L 18:=za (by decide));(try simp only [e15,e16,e17,e18,h15,h16,n18,hL]);first | done | rfl | (simp only [e15,e16,e17,e18,h15,h16,n18,hL,if_true,if_false,Bool.false_eq_true];first | done | rfl | (simp (disch:=first|exact zb|fail) only [go_sem,seval,e15,e16,e17,e18,h15,h16,n18,hL,e0,e4,e5,e6,e7,e8,e9,e10,e11,e25,e26,e27,e28,ze]<;>rfl)))⟩
                   · cases ho;have h0:=kL hall 3 rfl rfl;have h1:=kL hall 4 rfl rfl;have h2:=kL hall 5 rfl rfl;have h3:=kL hall 6 rfl rfl;have h4:=kL hall 7 rfl rfl;have h5:=kL hall 8 rfl rfl;have h6:=kL hall 9 rfl rfl;have h7:=kL hall 10 rfl rfl;have h8:=kL hall 11 rfl rfl;have h9:=kL hall 12 rfl rfl;have h10:=kL hall 13 rfl rfl;have h11:=kL hall 14 rfl rfl;have h12:=kL hall 15 rfl rfl;have h13:=kL hall 1 rfl rfl;have d13:=zn KG 13 rfl h13;have h15:=kL hall 18 rfl rfl;have h16:=kL hall 0 rfl rfl;have d16:=zn KG 16 rfl h16;have h17:=kL hall 2 rfl rfl;refine yb rfl rfl (by simp (disch:=first|exact zb|fail) only [go_sem,seval,reduceIte,Bool.false_eq_true,if_false,if_true,d13,d16,h15,h16,h17,hL,e0,e4,e5,e6,e7,e8,e9,e10,e11,e25,e26,e27,e28,ze]<;>rfl) rfl ?_;exact .inl ⟨KF,kIs KG,ka m16,ka m17,(fun _=>kt (zc h0 (zc h1 (zc h2 (zc h3 (zc h4 (zc h5 (zc h6 (zc h7 (zc h8 (zc h9 (zc h10 (zc h11 (zc h12 (zc h13 (zc h15 (zc h16 (zc h17 zv)))))))))))))))))),(by (have e15:more L 18 15=L 15:=za (by decide));(have e16:more L 18 16=L 16:=za (by decide));(have e17:more L 18 17=L 17:=za (by decide));(have e18:more L 18 18=true:=zr);(try simp only [e15,e16,e17,e18,h15,h16,h17,hL]);first | done | rfl | (simp only [e15,e16,e17,e18,h15,h16,h17,hL,if_true,if_false,Bool.false_eq_true];first | done | rfl | (simp (disch:=first|exact zb|fail) only [go_sem,seval,e15,e16,e17,e18,h15,h16,h17,hL,e0,e4,e5,e6,e7,e8,e9,e10,e11,e25,e26,e27,e28,ze]<;>rfl)))⟩
                   · cases ho;have d14:=zn KG 14 rfl (kL hall 0 rfl rfl);refine zf (.p (i64 c)) rfl rfl (by simp (disch:=first|exact zb|fail) only [go_sem,seval,d14,e0,e4,e5,e6,e7,e8,e9,e10,e11,e25,e26,e27,e28,ze]<;>rfl) rfl ?_;exact .inl ⟨zx KF,zA KG,ka m16,ka m17,ka m18,(by rw [za (by decide),za (by decide),za (by decide),za (by decide)])⟩
                   · simp at ho
                 · obtain⟨KF,KG,m15,m17,m18,rfl⟩:=hI
                   rcases i with _ | _ | _ | _ | _ | _ | _ | _ | _ | _ | _ | _ | _ | _ | _ | _ | _ | _ | _ | _ | i
                   · cases ho;have f4:=zJ KF 4 rfl;refine zf (.ref (H.n+1) 0 2 78) rfl rfl (by simp (disch:=first|exact zb|fail) only [go_sem,seval,f4,e0,e4,e5,e6,e7,e8,e9,e10,e11,e25,e26,e27,e28,ze]<;>rfl) rfl ?_;exact .inr ⟨zx KF,zA KG,ka m15,ka m17,ka m18,(by rw [za (by decide),za (by decide),za (by decide),za (by decide)])⟩
                   · cases ho;have f8:=zJ KF 8 rfl;refine zf (.p (i64 k)) rfl rfl (by simp (disch:=first|exact zb|fail) only [go_sem,seval,f8,e0,e4,e5,e6,e7,e8,e9,e10,e11,e25,e26,e27,e28,ze]<;>rfl) rfl ?_;exact .inr ⟨zx KF,zA KG,ka m15,ka m17,ka m18,(by rw [za (by decide),za (by decide),za (by decide),za (by decide)])⟩
                   · cases ho;have d0:=zn KG 0 rfl (kL hall 0 rfl rfl);have d1:=zn KG 1 rfl (kL hall 1 rfl rfl);refine zf (.ptr (H.n+1) (k*78)) rfl rfl (by simp (disch:=first|exact zb|fail) only [go_sem,seval,d0,d1,e0,e4,e5,e6,e7,e8,e9,e10,e11,e25,e26,e27,e28,ze]<;>rfl) rfl ?_;exact .inr ⟨zx KF,zA KG,ka m15,ka m17,ka m18,(by rw [za (by decide),za (by decide),za (by decide),za (by decide)])⟩
                   · cases ho;have d2:=zn KG 2 rfl (kL hall 0 rfl rfl);have n17:=ya m17 hL;have n18:=ya m18 hL;refine zf (.p (yt (p k))) rfl rfl (by simp (disch:=first|exact zb|fail) only [go_sem,seval,reduceIte,Bool.false_eq_true,if_false,if_true,d2,n17,n18,e0,e4,e5,e6,e7,e8,e9,e10,e11,e25,e26,e27,e28,ze]<;>rfl) rfl ?_;exact .inr ⟨zx KF,zA KG,ka m15,ka m17,ka m18,(by rw [za (by decide),za (by decide),za (by decide),za (by decide)])⟩
                   · cases ho;have f9:=zJ KF 9 rfl;refine zf (.p (.sl false 1 (pl b8 pb))) rfl rfl (by simp (disch:=first|exact zb|fail) only [go_sem,seval,f9,e0,e4,e5,e6,e7,e8,e9,e10,e11,e25,e26,e27,e28,ze]<;>rfl) rfl ?_;exact .inr ⟨zx KF,zA KG,ka m15,ka m17,ka m18,(by rw [za (by decide),za (by decide),za (by decide),za (by decide)])⟩
                   · cases ho;have f7:=zJ KF 7 rfl;refine zf (.ptr (qS H T) 2) rfl rfl (by simp (disch:=first|exact zb|fail) only [go_sem,seval,f7,e0,e4,e5,e6,e7,e8,e9,e10,e11,e25,e26,e27,e28,ze]<;>rfl) rfl ?_;exact .inr ⟨zx KF,zA KG,ka m15,ka m17,ka m18,(by rw [za (by decide),za (by decide),za (by decide),za (by decide)])⟩
                   · cases ho;have d5:=zn KG 5 rfl (kL hall 0 rfl rfl);refine zf (.ptr (qS H T) 4) rfl rfl (by simp (disch:=first|exact zb|fail) only [go_sem,seval,d5,e0,e4,e5,e6,e7,e8,e9,e10,e11,e25,e26,e27,e28,ze]<;>rfl) rfl ?_;exact .inr ⟨zx KF,zA KG,ka m15,ka m17,ka m18,(by rw [za (by decide),za (by decide),za (by decide),za (by decide)])⟩
                   · cases ho;have d6:=zn KG 6 rfl (kL hall 0 rfl rfl);have n17:=ya m17 hL;have n18:=ya m18 hL;refine zf (.p (i64 x.m.step)) rfl rfl (by simp (disch:=first|exact zb|fail) only [go_sem,seval,reduceIte,Bool.false_eq_true,if_false,if_true,d6,n17,n18,e0,e4,e5,e6,e7,e8,e9,e10,e11,e25,e26,e27,e28,ze]<;>rfl) rfl ?_;exact .inr ⟨zx KF,zA KG,ka m15,ka m17,ka m18,(by rw [za (by decide),za (by decide),za (by decide),za (by decide)])⟩
                   · cases ho;have d7:=zn KG 7 rfl (kL hall 0 rfl rfl);refine zf (.p (i64 (x.m.step % 256))) rfl rfl (by simp (disch:=first|exact zb|fail) only [go_sem,seval,d7,e0,e4,e5,e6,e7,e8,e9,e10,e11,e25,e26,e27,e28,ze]<;>rfl) rfl ?_;exact .inr ⟨zx KF,zA KG,ka m15,ka m17,ka m18,(by rw [za (by decide),za (by decide),za (by decide),za (by decide)])⟩
                   · cases ho;have d8:=zn KG 8 rfl (kL hall 0 rfl rfl);refine zf (.p (i64 (x.m.step % 256 % 130))) rfl rfl (by simp (disch:=first|exact zb|fail) only [go_sem,seval,d8,e0,e4,e5,e6,e7,e8,e9,e10,e11,e25,e26,e27,e28,ze]<;>rfl) rfl ?_;exact .inr ⟨zx KF,zA KG,ka m15,ka m17,ka m18,(by rw [za (by decide),za (by decide),za (by decide),za (by decide)])⟩
                   · cases ho;have d3:=zn KG 3 rfl (kL hall 0 rfl rfl);have d4:=zn KG 4 rfl (kL hall 1 rfl rfl);have d9:=zn KG 9 rfl (kL hall 2 rfl rfl);have n17:=ya m17 hL;have n18:=ya m18 hL;(try simp only [n17,n18,if_true,if_false,Bool.false_eq_true]);refine ym rfl rfl (by simp (disch:=first|exact zb|fail) only [go_sem,seval,reduceIte,Bool.false_eq_true,if_false,if_true,d3,d4,d9,n17,n18,e0,e4,e5,e6,e7,e8,e9,e10,e11,e25,e26,e27,e28,ze]<;>rfl) rfl (by simp (disch:=first|exact zb|fail) only [go_sem,seval,reduceIte,Bool.false_eq_true,if_false,if_true,d3,d4,d9,n17,n18,e0,e4,e5,e6,e7,e8,e9,e10,e11,e25,e26,e27,e28,ze]<;>rfl) (fun R h=>rb _ R h) ?_;exact .inr ⟨zx KF,zA KG,ka m15,ka m17,ka m18,(by (have e15:more L 10 15=L 15:=za (by decide));(have e16:more L 10 16=L 16:=za (by decide));(have e17:more L 10 17=L 17:=za (by decide));(have e18:more L 10 18=L 18:=za (by decide));(try simp only [e15,e16,e17,e18,n17,n18]);first | done | rfl | (simp only [e15,e16,e17,e18,n17,n18,if_true,if_false,Bool.false_eq_true];first | done | rfl | (simp (disch:=first|exact zb|fail) only [go_sem,seval,e15,e16,e17,e18,n17,n18,e0,e4,e5,e6,e7,e8,e9,e10,e11,e25,e26,e27,e28,ze]<;>rfl)))⟩
                   · cases ho;have d10:=zn KG 10 rfl (kL hall 0 rfl rfl);refine zf (.tup [.p (yt S),.p (yK M),.p (i64 c)]) rfl rfl (by simp (disch:=first|exact zb|fail) only [go_sem,seval,d10,e0,e4,e5,e6,e7,e8,e9,e10,e11,e25,e26,e27,e28,ze]<;>rfl) rfl ?_;exact .inr ⟨zx KF,zA KG,ka m15,ka m17,ka m18,(by rw [za (by decide),za (by decide),za (by decide),za (by decide)])⟩
                   · cases ho;have d11:=zn KG 11 rfl (kL hall 0 rfl rfl);refine zf (.p (yt S)) rfl rfl (by simp (disch:=first|exact zb|fail) only [go_sem,seval,d11,e0,e4,e5,e6,e7,e8,e9,e10,e11,e25,e26,e27,e28,ze]<;>rfl) rfl ?_;exact .inr ⟨zx KF,zA KG,ka m15,ka m17,ka m18,(by rw [za (by decide),za (by decide),za (by decide),za (by decide)])⟩
                   · cases ho;have d11:=zn KG 11 rfl (kL hall 0 rfl rfl);refine zf (.p (yK M)) rfl rfl (by simp (disch:=first|exact zb|fail) only [go_sem,seval,d11,e0,e4,e5,e6,e7,e8,e9,e10,e11,e25,e26,e27,e28,ze]<;>rfl) rfl ?_;exact .inr ⟨zx KF,zA KG,ka m15,ka m17,ka m18,(by rw [za (by decide),za (by decide),za (by decide),za (by decide)])⟩
                   · cases ho;have d11:=zn KG 11 rfl (kL hall 0 rfl rfl);refine zf (.p (i64 c)) rfl rfl (by simp (disch:=first|exact zb|fail) only [go_sem,seval,d11,e0,e4,e5,e6,e7,e8,e9,e10,e11,e25,e26,e27,e28,ze]<;>rfl) rfl ?_;exact .inr ⟨zx KF,zA KG,ka m15,ka m17,ka m18,(by rw [za (by decide),za (by decide),za (by decide),za (by decide)])⟩
                   · cases ho
                     have n17:=ya m17 hL
                     have n18:=ya m18 hL
                     cases e0:L 16
                     · skip
                       (try simp only [n17,n18,hL,e0,if_true,if_false,Bool.false_eq_true])
                       refine zZ (.ptr (qS H T+3) 0) rfl rfl (by simp (disch:=first|exact zb|fail) only [go_sem,seval,reduceIte,Bool.false_eq_true,if_false,if_true,n17,n18,hL,e0,e0,e4,e5,e6,e7,e8,e9,e10,e11,e25,e26,e27,e28,ze]<;>rfl) rfl ?_
                       exact .inl ⟨zx KF,kIj KG e0,(fun _=>kt1),ka m17,ka m18,(by (have e15:more L 15 15=true:=zr);(have e16:more L 15 16=L 16:=za (by decide));(have e17:more L 15 17=L 17:=za (by decide));(have e18:more L 15 18=L 18:=za (by decide));(try simp only [e15,e16,e17,e18,n17,n18,hL,e0]);first | done | rfl | (simp only [e15,e16,e17,e18,n17,n18,hL,e0,if_true,if_false,Bool.false_eq_true];first | done | rfl | (simp (disch:=first|exact zb|fail) only [go_sem,seval,e15,e16,e17,e18,n17,n18,hL,e0,e0,e4,e5,e6,e7,e8,e9,e10,e11,e25,e26,e27,e28,ze]<;>rfl)))⟩
                     · have h16:L 16=true:=e0
                       (try simp only [h16,n17,n18,hL,if_true,if_false,Bool.false_eq_true])
                       refine zZ (.ptr (qS H T+4) 0) rfl rfl (by simp (disch:=first|exact zb|fail) only [go_sem,seval,reduceIte,Bool.false_eq_true,if_false,if_true,h16,n17,n18,hL,e0,e4,e5,e6,e7,e8,e9,e10,e11,e25,e26,e27,e28,ze]<;>rfl) rfl ?_
                       exact .inr ⟨zx KF,zA KG,(fun _=>kt (zc h16 zv)),ka m17,ka m18,(by (have e15:more L 15 15=true:=zr);(have e16:more L 15 16=L 16:=za (by decide));(have e17:more L 15 17=L 17:=za (by decide));(have e18:more L 15 18=L 18:=za (by decide));(try simp only [e15,e16,e17,e18,h16,n17,n18,hL]);first | done | rfl | (simp only [e15,e16,e17,e18,h16,n17,n18,hL,if_true,if_false,Bool.false_eq_true];first | done | rfl | (simp (disch:=first|exact zb|fail) only [go_sem,seval,e15,e16,e17,e18,h16,n17,n18,hL,e0,e4,e5,e6,e7,e8,e9,e10,e11,e25,e26,e27,e28,ze]<;>rfl)))⟩
                   · cases ho;have n15:=ya m15 hL;have n17:=ya m17 hL;have n18:=ya m18 hL;(try simp only [n15,n17,n18,hL,if_true,if_false,Bool.false_eq_true]);refine zZ (.ptr (qS H T+3) 0) rfl rfl (by simp (disch:=first|exact zb|fail) only [go_sem,seval,reduceIte,Bool.false_eq_true,if_false,if_true,n15,n17,n18,hL,e0,e4,e5,e6,e7,e8,e9,e10,e11,e25,e26,e27,e28,ze]<;>rfl) rfl ?_;exact .inr ⟨zx KF,zA KG,ka m15,ka m17,ka m18,(by (have e15:more L 16 15=L 15:=za (by decide));(have e16:more L 16 16=true:=zr);(have e17:more L 16 17=L 17:=za (by decide));(have e18:more L 16 18=L 18:=za (by decide));(try simp only [e15,e16,e17,e18,n15,n17,n18,hL]);first | done | rfl | (simp only [e15,e16,e17,e18,n15,n17,n18,hL,if_true,if_false,Bool.false_eq_true];first | done | rfl | (simp (disch:=first|exact zb|fail) only [go_sem,seval,e15,e16,e17,e18,n15,n17,n18,hL,e0,e4,e5,e6,e7,e8,e9,e10,e11,e25,e26,e27,e28,ze]<;>rfl)))⟩
                   · cases ho;have h0:=kL hall 3 rfl rfl;have h1:=kL hall 4 rfl rfl;have h2:=kL hall 5 rfl rfl;have h3:=kL hall 6 rfl rfl;have h4:=kL hall 7 rfl rfl;have h5:=kL hall 8 rfl rfl;have h6:=kL hall 9 rfl rfl;have h7:=kL hall 10 rfl rfl;have h8:=kL hall 11 rfl rfl;have h9:=kL hall 12 rfl rfl;have h10:=kL hall 2 rfl rfl;have h11:=kL hall 14 rfl rfl;have h12:=kL hall 1 rfl rfl;have d12:=zn KG 12 rfl h12;have h15:=kL hall 0 rfl rfl;have d15:=zn KG 15 rfl h15;have h16:=kL hall 19 rfl rfl;have n18:=ya m18 hL;refine yb rfl rfl (by simp (disch:=first|exact zb|fail) only [go_sem,seval,reduceIte,Bool.false_eq_true,if_false,if_true,d12,d15,h15,h16,n18,hL,e0,e4,e5,e6,e7,e8,e9,e10,e11,e25,e26,e27,e28,ze]<;>rfl) rfl ?_;exact .inr ⟨KF,kIs KG,ka m15,(fun _=>kt (zc h0 (zc h1 (zc h2 (zc h3 (zc h4 (zc h5 (zc h6 (zc h7 (zc h8 (zc h9 (zc h10 (zc h11 (zc h12 (zc h15 (zc h16 zv)))))))))))))))),ka m18,(by (have e15:more L 17 15=L 15:=za (by decide));(have e16:more L 17 16=L 16:=za (by decide));(have e17:more L 17 17=true:=zr);(have e18:more L 17 18=L 18:=za (by decide));(try simp only [e15,e16,e17,e18,h15,h16,n18,hL]);first | done | rfl | (simp only [e15,e16,e17,e18,h15,h16,n18,hL,if_true,if_false,Bool.false_eq_true];first | done | rfl | (simp (disch:=first|exact zb|fail) only [go_sem,seval,e15,e16,e17,e18,h15,h16,n18,hL,e0,e4,e5,e6,e7,e8,e9,e10,e11,e25,e26,e27,e28,ze]<;>rfl)))⟩
                   · cases ho;have h0:=kL hall 3 rfl rfl;have h1:=kL hall 4 rfl rfl;have h2:=kL hall 5 rfl rfl;have h3:=kL hall 6 rfl rfl;have h4:=kL hall 7 rfl rfl;have h5:=kL hall 8 rfl rfl;have h6:=kL hall 9 rfl rfl;have h7:=kL hall 10 rfl rfl;have h8:=kL hall 11 rfl rfl;have h9:=kL hall 12 rfl rfl;have h10:=kL hall 13 rfl rfl;have h11:=kL hall 14 rfl rfl;have h12:=kL hall 15 rfl rfl;have h13:=kL hall 1 rfl rfl;have d13:=zn KG 13 rfl h13;have h15:=kL hall 18 rfl rfl;have h16:=kL hall 0 rfl rfl;have d16:=zn KG 16 rfl h16;have h17:=kL hall 2 rfl rfl;refine yb rfl rfl (by simp (disch:=first|exact zb|fail) only [go_sem,seval,reduceIte,Bool.false_eq_true,if_false,if_true,d13,d16,h15,h16,h17,hL,e0,e4,e5,e6,e7,e8,e9,e10,e11,e25,e26,e27,e28,ze]<;>rfl) rfl ?_;exact .inr ⟨KF,kIs KG,ka m15,ka m17,(fun _=>kt (zc h0 (zc h1 (zc h2 (zc h3 (zc h4 (zc h5 (zc h6 (zc h7 (zc h8 (zc h9 (zc h10 (zc h11 (zc h12 (zc h13 (zc h15 (zc h16 (zc h17 zv)))))))))))))))))),(by (have e15:more L 18 15=L 15:=za (by decide));(have e16:more L 18 16=L 16:=za (by decide));(have e17:more L 18 17=L 17:=za (by decide));(have e18:more L 18 18=true:=zr);(try simp only [e15,e16,e17,e18,h15,h16,h17,hL]);first | done | rfl | (simp only [e15,e16,e17,e18,h15,h16,h17,hL,if_true,if_false,Bool.false_eq_true];first | done | rfl | (simp (disch:=first|exact zb|fail) only [go_sem,seval,e15,e16,e17,e18,h15,h16,h17,hL,e0,e4,e5,e6,e7,e8,e9,e10,e11,e25,e26,e27,e28,ze]<;>rfl)))⟩
                   · cases ho;have d14:=zn KG 14 rfl (kL hall 0 rfl rfl);refine zf (.p (i64 c)) rfl rfl (by simp (disch:=first|exact zb|fail) only [go_sem,seval,d14,e0,e4,e5,e6,e7,e8,e9,e10,e11,e25,e26,e27,e28,ze]<;>rfl) rfl ?_;exact .inr ⟨zx KF,zA KG,ka m15,ka m17,ka m18,(by rw [za (by decide),za (by decide),za (by decide),za (by decide)])⟩
                   · simp at ho
               · intro L env' H' hall hI
                 rcases hI with hI | hI
                 (obtain⟨KF,KG,_,_,_,rfl⟩:=hI;have l15:=hall 15 (by decide);have l16:=hall 16 (by decide);have l17:=hall 17 (by decide);have l18:=hall 18 (by decide);have f0:=zJ KF 0 rfl;have f1:=zJ KF 1 rfl;have f2:=zJ KF 2 rfl;have f3:=zJ KF 3 rfl;have f4:=zJ KF 4 rfl;have f5:=zJ KF 5 rfl;have f6:=zJ KF 6 rfl;have f7:=zJ KF 7 rfl;have f8:=zJ KF 8 rfl;have f9:=zJ KF 9 rfl;have f10:=zJ KF 10 rfl;have f11:=zJ KF 11 rfl;have f12:=zJ KF 12 rfl;have g1:=zn KG 1 rfl (hall 1 (by decide));have g2:=zn KG 2 rfl (hall 2 (by decide));have g3:=zn KG 3 rfl (hall 3 (by decide));have g15:=zn KG 15 rfl (hall 15 (by decide));have g16:=zn KG 16 rfl (hall 16 (by decide));have g19:=zn KG 17 rfl (hall 19 (by decide));simp only [l15,l16,l17,l18,if_true];clear hall);rotate_left
                 (obtain⟨KF,KG,_,_,_,rfl⟩:=hI;have l15:=hall 15 (by decide);have l16:=hall 16 (by decide);have l17:=hall 17 (by decide);have l18:=hall 18 (by decide);have f0:=zJ KF 0 rfl;have f1:=zJ KF 1 rfl;have f2:=zJ KF 2 rfl;have f3:=zJ KF 3 rfl;have f4:=zJ KF 4 rfl;have f5:=zJ KF 5 rfl;have f6:=zJ KF 6 rfl;have f7:=zJ KF 7 rfl;have f8:=zJ KF 8 rfl;have f9:=zJ KF 9 rfl;have f10:=zJ KF 10 rfl;have f11:=zJ KF 11 rfl;have f12:=zJ KF 12 rfl;have g1:=zn KG 1 rfl (hall 1 (by decide));have g2:=zn KG 2 rfl (hall 2 (by decide));have g3:=zn KG 3 rfl (hall 3 (by decide));have g15:=zn KG 15 rfl (hall 15 (by decide));have g16:=zn KG 16 rfl (hall 16 (by decide));have g19:=zn KG 17 rfl (hall 19 (by decide));simp only [l15,l16,l17,l18,if_true];clear hall);rotate_left
                 · exact ih2 _ _ ⟨_,_,_,_,⟨f0,f1,f2,f3,f4,f5,f6,f7,f8⟩,⟨f10,f11,f12⟩,⟨g15,g16,g19⟩,rfl,fun p1 p2 L=>by simp (disch:=first|exact zb|fail) only [go_sem,seval],fun p1 p2 L=>by simp (disch:=first|exact zb|fail) only [go_sem,seval]⟩
                 · exact ih2 _ _ ⟨_,_,_,_,⟨f0,f1,f2,f3,f4,f5,f6,f7,f8⟩,⟨f10,f11,f12⟩,⟨g15,g16,g19⟩,rfl,fun p1 p2 L=>by simp (disch:=first|exact zb|fail) only [go_sem,seval],fun p1 p2 L=>by simp (disch:=first|exact zb|fail) only [go_sem,seval]⟩
             · rintro env' H' ⟨u2,w2,b3,b4,⟨e0,e4,e5,e6,e7,e8,e9,e10,e11⟩,⟨e26,e27,e28⟩,⟨e29,e30,e31⟩,rfl,hu2,hw2⟩
               refine .q ?_;refine .text ?_;simp (disch:=first|exact zb|fail) only [go_sem,seval,e26,e27,e28,e29,e30,e31,hu,hw,hu2,hw2,bsame]
               refine CallK.of (fun R h=>zcg M hMo _ R h) ?_;simp (disch:=first|exact zb|fail) only [go_sem,seval]
               refine .q ?_;refine .ifF (by simp (disch:=first|exact zb|fail) only [go_sem,seval]) ?_
               refine .q ?_;refine .text ?_;simp (disch:=first|exact zb|fail) only [go_sem,seval,e6,e11,e26,hu,hu2]
               refine .q ?_;refine .text ?_;simp (disch:=first|exact zb|fail) only [go_sem,seval,e7,e11,e29,hu,hu2]
               first | refine ih _ _ ?_ | (refine .z rfl ?_;refine ih _ _ ?_) | (refine .z rfl ?_;refine .z rfl ?_;refine ih _ _ ?_)
               exact⟨⟨upd p k S,P,P.length,[.cells (acl x),b1,b2,b3,b4],(by simp (disch:=first|exact zb|fail) only [go_sem,seval,e0,e4,e5,e6,e7,e8,e9,e11]<;>(repeat' (first | rfl | refine And.intro ?_ ?_))),rfl,by simp,(zmc hp (by omega) gR),(by omega),hb⟩,(by simp (disch:=first|exact zb|fail) only [go_sem,seval,e0,e4,e5,e6,e7,e8,e9,e11])⟩
       · rintro env' H' ⟨p',P',v',L',⟨e0,e4,e5,e6,e7,e8,e9⟩,rfl,rfl,g1,g2,g3⟩
         refine .q ?_;refine .text ?_;simp (disch:=first|exact zb|fail) only [go_sem,seval,e9]
         first | (refine ihE ((⟨i+1,p',P',T++L'⟩:PlS)) _ _ ?_ ?_ ⟨by dsimp only;omega,g1,g2,g3⟩ ?_) | (refine .z rfl ?_;refine ihE ((⟨i+1,p',P',T++L'⟩:PlS)) _ _ ?_ ?_ ⟨by dsimp only;omega,g1,g2,g3⟩ ?_) | (refine .z rfl ?_;refine .z rfl ?_;refine ihE ((⟨i+1,p',P',T++L'⟩:PlS)) _ _ ?_ ?_ ⟨by dsimp only;omega,g1,g2,g3⟩ ?_) | (refine .z rfl ?_;refine .z rfl ?_;refine .z rfl ?_;refine ihE ((⟨i+1,p',P',T++L'⟩:PlS)) _ _ ?_ ?_ ⟨by dsimp only;omega,g1,g2,g3⟩ ?_)
         rotate_left 1
         · simp (disch:=first|exact zb|fail) only [go_sem,seval,e0,e4,e5,e6,e7,e8,e9,zBp]<;>(repeat' (first | rfl | refine And.intro ?_ ?_))
         · first | rfl | (simp (disch:=first|exact zb|fail) only [go_sem,seval,e0,e4,e5,e6,e7,e8,e9,zBp]<;>(try rfl))
         dsimp only;omega
     · have d2:decide ((i:Int) < 30)=false:=decide_eq_false (by omega)
       refine .q ?_;refine .text ?_;simp (disch:=first|exact zb|fail) only [go_sem,seval,E,d1,d2]
       refine .q ?_;refine .ifF (by simp (disch:=first|exact zb|fail) only [go_sem,seval]) ?_
       refine .q ?_;refine .text ?_;simp (disch:=first|exact zb|fail) only [go_sem,seval,E]
       refine .q ?_;refine .rt Tryd.func4 (by rw [Tryd.results4]) (hx:=by simp (disch:=first|exact zb|fail) only [go_sem,seval,E];rfl) (hR := ?_);simp (disch:=first|exact zb|fail) only [go_sem,seval,E]
       exact h
   · have d1:decide ((i:Int) < (l.length:Int))=false:=decide_eq_false (by omega)
     refine .q ?_;refine .text ?_;simp (disch:=first|exact zb|fail) only [go_sem,seval,E,d1]
     refine .q ?_;refine .ifF (by simp (disch:=first|exact zb|fail) only [go_sem,seval]) ?_
     refine .q ?_;refine .text ?_;simp (disch:=first|exact zb|fail) only [go_sem,seval,E]
     refine .q ?_;refine .rt Tryd.func4 (by rw [Tryd.results4]) (hx:=by simp (disch:=first|exact zb|fail) only [go_sem,seval,E];rfl) (hR := ?_);simp (disch:=first|exact zb|fail) only [go_sem,seval,E]
     exact h
end walks
end Go.Proofs.YtmoecjgehdkhkaaDoor

/-
  Sessions: what lists of acts read as.
-/
namespace Go.Proofs.YtmoecjgehdkhkaaDoor
open Go Go.AL Go.ChangeShapes Go.WideShapes Go.ChangeAt Go.RowKit

set_option maxRecDepth 100000
section read
variable {k:Nat} {y:List PV}
theorem zPi (h:Reads Tryd.prog (k+5) 47 y) : ∃ x:Act,x.m.In∧y=zgI x:=by
 obtain⟨y1,z1,rfl,-,r1,y2,z2,rfl,-,r2,y3,z3,rfl,-,r3,y4,z4,rfl,-,r4,y5,z5,rfl,-,r5,rfl⟩:=Reads.struct Tryd.underlying47 h
 obtain⟨a,rfl⟩:=Reads.u8 Tryd.underlying5 r1
 obtain⟨b,rfl⟩:=Reads.u8 Tryd.underlying5 r2
 obtain⟨m,hm,rfl⟩:=zPe r3
 obtain⟨c,rfl⟩:=Reads.u8 Tryd.underlying5 r4
 obtain⟨d,rfl⟩:=Reads.u8 Tryd.underlying5 r5
 exact⟨⟨a,b,m,c,d⟩,hm,by simp [zgI]⟩
theorem zJU (h:Reads Tryd.prog (k+6) 38 y) : ∃ l:List Act,l.length≤9223372036854775807∧y=[.sl false 42 (pl act l)] ∧ ∀ x∈l,x.m.In :=
 Reads.sl act (fun x=>x.m.In) Tryd.underlying38 cells47 zvB h fun y hy=>by
  obtain⟨x,h1,rfl⟩:=zPi hy
  exact⟨x,rfl,h1⟩
end read
section rel
variable {W:World} {v:Value} {H:Type} {enc:TypeId × Value → H} {d:DataW H} {ps:List MemPlace} {base:Nat}
theorem zBr (hval:Value.okWide Tryd.prog W .any base 38 v) (h:DataW.Trod enc Tryd.prog W 0 (fun _=>true) true 38 v d ps) : ∃ l:List Act,l.length≤9223372036854775807∧(∀ i,i < l.length → (nth l i).m.In)∧RelV σ0 H0 W (.p (.sl false 42 (pl act l))) v:=by
 obtain⟨xs,hx,e⟩:=zlh 8 (by kernel_rfl) hval h
 obtain⟨l,h1,rfl,h2⟩:=zJU (k:=2) hx
 rw [zvA] at e
 exact⟨l,h1,fun i hi=>h2 _ (by rw [show nth l i=l[i] by simp [nth,hi]];exact List.getElem_mem hi),e⟩
end rel
end Go.Proofs.YtmoecjgehdkhkaaDoor
