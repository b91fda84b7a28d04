/-
  Sessions: the fixed examples of the laws.
-/
import Derived.Test.YtmoecjgehdkhkaaDoorPkS2
set_option linter.unusedSimpArgs false
set_option linter.unusedVariables false
namespace Go.Proofs.YtmoecjgehdkhkaaDoor
open Go Go.AL

def mP (k s t:Int) (tx r:By) (S V:PV):PV := .agg (i64 k :: i64 s :: i64 t :: str (bytesOf tx) :: (pl b8 r++[S,V]))
def mC (k s t:Int) (tx r:By) (S V:PV):List AV:=(i64 k :: i64 s :: i64 t :: str (bytesOf tx) :: (pl b8 r++[S,V])).map .p
section mp
variable {k s t:Int} {tx r:By} {S V:PV}
theorem mP_mk:mkAgg (.p (i64 k) :: .p (i64 s) :: .p (i64 t) :: .p (str (bytesOf tx)) :: List.map AV.p (pl b8 r++[S,V])) = .p (mP k s t tx r S V):=by
 have h:pvs? (.p (i64 k) :: .p (i64 s) :: .p (i64 t) :: .p (str (bytesOf tx)) :: List.map AV.p (pl b8 r++[S,V]))=some (i64 k :: i64 s :: i64 t :: str (bytesOf tx) :: (pl b8 r++[S,V])):=pvs_p (i64 k :: i64 s :: i64 t :: str (bytesOf tx) :: (pl b8 r++[S,V]))
 unfold mkAgg
 rw [h];rfl
theorem mP_cells:acells (.p (mP k s t tx r S V))=some (mC k s t tx r S V):=rfl
theorem mC_len (h:r.length=32):(mC k s t tx r S V).length=38:=by simp [mC,pl_len,h]
theorem mC_agg:mkAgg (mC k s t tx r S V) = .p (mP k s t tx r S V):=by unfold mkAgg mC;rw [pvs_p];rfl
theorem mC_take (h:r.length=32):(mC k s t tx r S V).take 38=mC k s t tx r S V:=List.take_of_length_le (by rw [mC_len h];exact Nat.le_refl _)
theorem mP_weak {f f':Bool} {su:List Int} {va:List Ext} (h:r.length=32):(mP k s t tx r (.sl f 1 (pl i64 su)) (.sl f' 2 (pl ext va))).weak=msg ⟨k,s,t,tx,⟨r,h⟩,su,va⟩:=by
 show PV.agg (List.map PV.weak1 (_ :: _ :: _ :: _ :: (pl b8 r++[_,_])))=_
 simp only [List.map_cons,List.map_append,List.map_nil]
 rw [pl_weak1 fun _=>rfl]
 rfl
theorem mC_set33 {x:PV}:(List.map AV.p (pl b8 (List.replicate 32 0#8)++[S,V])).set 33 (AV.p x)=List.map AV.p (pl b8 (List.replicate 32 0#8)++[S,x]):=rfl
end mp
theorem cnt_eq:({ data := #[99,111,117,110,116] }:ByteArray)=bytesOf [99,111,117,110,116]:=rfl
attribute [go_sem] mP_mk mP_cells mC_len mC_agg mC_take mC_set33
theorem ite_f {c:Prop} [Decidable c] {X Y:Hp} {b:Nat}:(if c then X else Y).f b=if c then X.f b else Y.f b:=by split<;>rfl
theorem gen_heap {C:Cx} {k:List Item} {env:Env} {H:Hp} {R:AV → Hp → Prop} (h : ∀ B,B=H → ARun C k env B R):ARun C k env H R:=h H rfl
theorem wk_nil {σ:Gh} {H:Hp} {w:World} {v:Value} {fl:Bool} {sz:Nat} (h:RelV σ H w (.p (.s (.slice none 0 0))) v):RelV σ H w (.p (.sl fl sz [])) v:=by
 cases h with
 | p h=>cases h;exact .p (.nil _ _)
theorem nil_arg {P:Program} {G:Globs} {f:FuncId} {xs ys:List AV} {fl:Bool} {sz:Nat} {H:Hp} {R:AV → Hp → Prop} (h:ACall P G f (xs ++ .p (.sl fl sz []) :: ys) H R):ACall P G f (xs ++ .p (.s (.slice none 0 0)) :: ys) H R :=
 fun σ w vs hr hvs=>h σ w vs hr ⟨by rw [hvs.1];simp,fun i x v h1 h2=>by
  by_cases hi:i=xs.length
  · subst hi
    have e:(xs++AV.p (.sl fl sz []) :: ys)[xs.length]? = some (.p (.sl fl sz [])):=by simp
    rw [e] at h1;cases h1
    exact wk_nil (hvs.2 xs.length _ v (by simp) h2)
  · refine hvs.2 i x v ?_ h2
    rw [←h1]
    by_cases hlt:i < xs.length
    · rw [List.getElem?_append_left hlt,List.getElem?_append_left hlt]
    · rw [List.getElem?_append_right (by omega),List.getElem?_append_right (by omega)]
      obtain ⟨k,hk⟩ : ∃ k,i - xs.length=k+1:=⟨i - xs.length - 1,by omega⟩
      rw [hk,List.getElem?_cons_succ,List.getElem?_cons_succ]⟩
section walks
variable {G:Globs} {r1 r2:Nat} {m1:List (Int × Rule)} {m2:List (Int × Int)}
theorem okzM:zM.Ok:=by apply mo<;>decide
theorem One_spec (H:Hp) (R:AV → Hp → Prop) (h:R (.p (ext ⟨1,0⟩)) H):ACall Tryd.prog G 27 [] H R:=by
 refine ACall.of_run (raw:=[]) Tryd.func27 rfl Tryd.ntmps27 (by simp) fun hbel => ?_
 (repeat refine .z rfl ?_);refine .text ?_;simp (disch:=first|exact dsc|fail) only [go_sem,seval,-List.reduceReplicate]
 (repeat refine .z rfl ?_);refine .text ?_;simp (disch:=first|exact dsc|fail) only [go_sem,seval,-List.reduceReplicate]
 (repeat refine .z rfl ?_);refine .rt Tryd.func27 (by rw [Tryd.results27]) (hR := ?_);simp (disch:=first|exact dsc|fail) only [go_sem,seval,-List.reduceReplicate]
 exact h
set_option maxHeartbeats 4000000 in
set_option maxRecDepth 20000 in
theorem sanity_spec (g:GR G r1 r2 m1 m2) (H:Hp) (R:AV → Hp → Prop) (h:R (.p (bo true)) H):ACall Tryd.prog G 7 [] H R:=by
 have hz:(List.replicate 32 0#8:By).length=32:=List.length_replicate
 refine ACall.of_run (raw:=[]) Tryd.func7 rfl Tryd.ntmps7 (by simp) fun hbel => ?_
 (repeat refine .z rfl ?_);refine .text ?_;simp (disch:=first|exact dsc|fail) only [go_sem,seval,-List.reduceReplicate]
 (repeat refine .z rfl ?_);refine .text ?_;simp (disch:=first|exact dsc|fail) only [go_sem,seval,-List.reduceReplicate,cnt_eq,mz_zero,bytesOf_nil,hz]
 (repeat refine .z rfl ?_);refine .text ?_;simp (disch:=first|exact dsc|fail) only [go_sem,seval,-List.reduceReplicate]
 refine CallK.of (fun R h=>One_spec _ R h) ?_;simp (disch:=first|exact dsc|fail) only [go_sem,seval,-List.reduceReplicate,mz_zero,bytesOf_nil,hz]
 have hAsk:(mP 1 0 0 [99,111,117,110,116] (List.replicate 32 0#8) (.sl true 1 []) (.sl true 2 [])).weak=msg kAsk:=mP_weak (su:=[]) (va:=[]) hz
 have hCoin:(mP 4 0 0 [] (List.replicate 32 0#8) (.sl true 1 []) (.sl true 2 [ext ⟨1#64,0#64⟩])).weak=msg kCoin:=mP_weak (su:=[]) (va:=[⟨1,0⟩]) hz
 have hNew:newS 7 100=sA:=rfl
 have c5:(PV.sl true 1 []).weak=PV.sl false 1 []:=rfl
 (repeat refine .z rfl ?_);refine .text ?_;simp (disch:=first|exact dsc|fail) only [go_sem,seval,-List.reduceReplicate]
 refine CallK.of (fun R h=>New_spec 7 100 _ R h) ?_;simp (disch:=first|exact dsc|fail) only [go_sem,seval,-List.reduceReplicate,hNew]
 refine CallK.of (fun R h=>New_spec 7 100 _ R h) ?_;simp (disch:=first|exact dsc|fail) only [go_sem,seval,-List.reduceReplicate,hNew,nC_zero]
 (repeat refine .z rfl ?_);refine .text ?_;simp (disch:=first|exact dsc|fail) only [go_sem,seval,-List.reduceReplicate,nC_zero,hCoin]
 refine CallK.of (fun R h=>Send_spec g sA okA kCoin okCoin _ R h) ?_;simp (disch:=first|exact dsc|fail) only [go_sem,seval,-List.reduceReplicate,F1,nC_zero]
 (repeat refine .z rfl ?_);refine .text ?_;simp (disch:=first|exact dsc|fail) only [go_sem,seval,-List.reduceReplicate,nC_zero,hAsk]
 refine CallK.of (fun R h=>Send_spec g sA okA kAsk okAsk _ R h) ?_;simp (disch:=first|exact dsc|fail) only [go_sem,seval,-List.reduceReplicate,F2,nC_zero]
 (repeat refine .z rfl ?_);refine .text ?_;simp (disch:=first|exact dsc|fail) only [go_sem,seval,-List.reduceReplicate,nC_zero,hAsk]
 refine CallK.of (fun R h=>Send_spec g a1 okA1 kAsk okAsk _ R h) ?_;simp (disch:=first|exact dsc|fail) only [go_sem,seval,-List.reduceReplicate,F3,nC_zero]
 (repeat refine .z rfl ?_);refine .text ?_;simp (disch:=first|exact dsc|fail) only [go_sem,seval,-List.reduceReplicate,nC_zero,hAsk]
 refine CallK.of (fun R h=>Receive_spec g sA okA p0 (by rw [n0];omega) 101 _ R h) ?_;simp (disch:=first|exact dsc|fail) only [go_sem,seval,-List.reduceReplicate,F4,nC_zero,mz_zero,hz]
 have F5':=F5
 rw [n0] at F5'
 (repeat refine .z rfl ?_);first | refine .cutF0 [2,3,4,7,8,9,12,13,15] [(18,.p (i64 6))] (fun ihE => ?_) (fun env T E => ?_) | refine .cutF [2,3,4,7,8,9,12,13,15] [(18,.p (i64 6))] [] (fun ihE => ?_) (fun env T E => ?_)
 rotate_left 1
 simp (disch:=first|exact dsc|fail) only [go_sem,seval,-List.reduceReplicate,n0,nC_zero,mz_zero,hz] at E
 rotate_left 1
 · refine gen_heap fun B hB => ?_
   have hBn:B.n=H.n+8:=by rw [hB];simp (disch:=first|exact dsc|fail) only [go_sem,seval,-List.reduceReplicate]
   have hB4:B.f (H.n+3)=some (.cells (scl sA)):=by rw [hB];simp (disch:=first|exact dsc|fail) only [go_sem,seval,-List.reduceReplicate]
   have hcall : ∀ (B':Hp) (R:AV → Hp → Prop),R (.tup [.p (ses sA),.p (msg zM),.p (i64 6)]) B' → ACall Tryd.prog G 23 [.p (ses sA),.p (.sl false 1 (pl b8 (p0.take 57))),.p (i64 1)] B' R:=fun B' R h=>Receive_spec g sA okA (p0.take 57) (by rw [List.length_take,n0];omega) 1 B' R (by rw [show recv sA (p0.take 57) 1=(sA,zM,6) from F5'];exact h)
   (repeat refine .z rfl ?_)
   refine .openInv (fun L env' H'=>(env' 2 = .ptr (H.n+1) 0∧env' 3 = .ptr (H.n+2) 0∧env' 4 = .ptr (H.n+3) 0∧env' 7 = .p (i64 290)∧env' 8 = .p (.sl false 1 (pl b8 p0))∧env' 9 = .p (i64 0)∧env' 12 = .p (i64 290)∧env' 13 = .ptr (H.n+6) 0∧env' 15 = .p (i64 291)∧(L 0=true → env' 76 = .p (ses sA))∧(L 1=true → env' 77 = .p (.sl false 1 (pl b8 p0)))∧(L 2=true → env' 78 = .p (.sl false 1 (pl b8 p0)))∧(L 3=true → env' 79 = .p (i64 58))∧(L 4=true → env' 80 = .p (.sl false 1 (pl b8 p0)))∧(L 5=true → env' 81 = .p (i64 58))∧(L 6=true → env' 82 = .p (i64 1))∧(L 7=true → env' 83 = .p (i64 57))∧(L 8=true → env' 84 = .p (.sl false 1 (pl b8 (p0.take 57))))∧(L 9=true → env' 85 = .tup [.p (ses sA),.p (msg zM),.p (i64 6)])∧(L 10=true → env' 75 = .tup [.p (ses sA),.p (msg zM),.p (i64 6)])∧(L 11=true → env' 86 = .p (ses sA))∧(L 12=true → env' 87 = .p (msg zM))∧(L 13=true → env' 88 = .p (i64 6))∧(L 14=true → env' 16 = .ptr (H.n+8) 0)∧(L 15=true → env' 17 = .ptr (H.n+9) 0)∧(L 18=true → env' 18 = .p (i64 6))∧(L 15=true → allT L [14])∧(L 16=true → allT L [0,1,2,3,4,5,6,7,8,9,10,11,14,15])∧(L 17=true → allT L [0,1,2,3,4,5,6,7,8,9,10,11,12,14,15,16])∧H'=(if L 14 then (if L 15 then (B.new (.cells (if L 16 then scl sA else nC 0 0))).new (.cells (if L 17 then mcl zM else mG 0 0 0 [] (List.replicate 32 0#8) (.p (.sl true 1 [])) (.p (.sl true 2 [])))) else B.new (.cells (nC 0 0))) else B)) ∨ (env' 2 = .ptr (H.n+1) 0∧env' 3 = .ptr (H.n+2) 0∧env' 4 = .ptr (H.n+3) 0∧env' 7 = .p (i64 290)∧env' 8 = .p (.sl false 1 (pl b8 p0))∧env' 9 = .p (i64 0)∧env' 12 = .p (i64 290)∧env' 13 = .ptr (H.n+6) 0∧env' 15 = .p (i64 291)∧(L 0=true → env' 76 = .p (ses sA))∧(L 1=true → env' 77 = .p (.sl false 1 (pl b8 p0)))∧(L 2=true → env' 78 = .p (.sl false 1 (pl b8 p0)))∧(L 3=true → env' 79 = .p (i64 58))∧(L 4=true → env' 80 = .p (.sl false 1 (pl b8 p0)))∧(L 5=true → env' 81 = .p (i64 58))∧(L 6=true → env' 82 = .p (i64 1))∧(L 7=true → env' 83 = .p (i64 57))∧(L 8=true → env' 84 = .p (.sl false 1 (pl b8 (p0.take 57))))∧(L 9=true → env' 85 = .tup [.p (ses sA),.p (msg zM),.p (i64 6)])∧(L 10=true → env' 75 = .tup [.p (ses sA),.p (msg zM),.p (i64 6)])∧(L 11=true → env' 86 = .p (ses sA))∧(L 12=true → env' 87 = .p (msg zM))∧(L 13=true → env' 88 = .p (i64 6))∧(L 14=true → env' 16 = .ptr (H.n+9) 0)∧(L 15=true → env' 17 = .ptr (H.n+8) 0)∧(L 18=true → env' 18 = .p (i64 6))∧(L 14=true → allT L [15])∧(L 16=true → allT L [0,1,2,3,4,5,6,7,8,9,10,11,14,15])∧(L 17=true → allT L [0,1,2,3,4,5,6,7,8,9,10,11,12,14,15,16])∧H'=(if L 15 then (if L 14 then (B.new (.cells (if L 17 then mcl zM else mG 0 0 0 [] (List.replicate 32 0#8) (.p (.sl true 1 [])) (.p (.sl true 2 []))))).new (.cells (if L 16 then scl sA else nC 0 0)) else B.new (.cells (mG 0 0 0 [] (List.replicate 32 0#8) (.p (.sl true 1 [])) (.p (.sl true 2 []))))) else B))) follows (by kernel_rfl) ?_ ?_ ?_
   · exact .inl ⟨(by simp (disch:=first|exact dsc|fail) only [go_sem,seval,-List.reduceReplicate,hBn,hB4,n0,nC_zero,mz_zero,hz,ite_f,ite_self]),(by simp (disch:=first|exact dsc|fail) only [go_sem,seval,-List.reduceReplicate,hBn,hB4,n0,nC_zero,mz_zero,hz,ite_f,ite_self]),(by simp (disch:=first|exact dsc|fail) only [go_sem,seval,-List.reduceReplicate,hBn,hB4,n0,nC_zero,mz_zero,hz,ite_f,ite_self]),(by simp (disch:=first|exact dsc|fail) only [go_sem,seval,-List.reduceReplicate,hBn,hB4,n0,nC_zero,mz_zero,hz,ite_f,ite_self]),(by simp (disch:=first|exact dsc|fail) only [go_sem,seval,-List.reduceReplicate,hBn,hB4,n0,nC_zero,mz_zero,hz,ite_f,ite_self]),(by simp (disch:=first|exact dsc|fail) only [go_sem,seval,-List.reduceReplicate,hBn,hB4,n0,nC_zero,mz_zero,hz,ite_f,ite_self]),(by simp (disch:=first|exact dsc|fail) only [go_sem,seval,-List.reduceReplicate,hBn,hB4,n0,nC_zero,mz_zero,hz,ite_f,ite_self]),(by simp (disch:=first|exact dsc|fail) only [go_sem,seval,-List.reduceReplicate,hBn,hB4,n0,nC_zero,mz_zero,hz,ite_f,ite_self]),(by simp (disch:=first|exact dsc|fail) only [go_sem,seval,-List.reduceReplicate,hBn,hB4,n0,nC_zero,mz_zero,hz,ite_f,ite_self]),(fun h=>by cases h),(fun h=>by cases h),(fun h=>by cases h),(fun h=>by cases h),(fun h=>by cases h),(fun h=>by cases h),(fun h=>by cases h),(fun h=>by cases h),(fun h=>by cases h),(fun h=>by cases h),(fun h=>by cases h),(fun h=>by cases h),(fun h=>by cases h),(fun h=>by cases h),(fun h=>by cases h),(fun h=>by cases h),(fun h=>by cases h),(fun h=>by cases h),(fun h=>by cases h),(fun h=>by cases h),(by first | rfl | (simp only [Bool.false_eq_true,if_false];first | rfl | (simp (disch:=first|exact dsc|fail) only [go_sem,seval,-List.reduceReplicate,hBn,hB4,n0,nC_zero,mz_zero,hz,ite_f,ite_self]<;>rfl)))⟩
   · intro i o L env' H' ho hL hall hI
     rcases hI with hI | hI
     · obtain ⟨f0,f1,f2,f3,f4,f5,f6,f7,f8,g0,g1,g2,g3,g4,g5,g6,g7,g8,g9,g10,g11,g12,g13,g14,g15,g18,m15,m16,m17,rfl⟩:=hI
       rcases i with _ | _ | _ | _ | _ | _ | _ | _ | _ | _ | _ | _ | _ | _ | _ | _ | _ | _ | _ | i
       · cases ho
         have n16:=nfT m16 hL
         have n17:=nfT m17 hL
         refine opA_val (.p (ses sA)) rfl rfl (by simp (disch:=first|exact dsc|fail) only [go_sem,seval,-List.reduceReplicate,reduceIte,Bool.false_eq_true,if_false,if_true,f0,f1,f2,f3,f4,f5,f6,f7,f8,n16,n17,hL,hBn,hB4,n0,nC_zero,mz_zero,hz,ite_f,ite_self]<;>rfl) rfl ?_
         exact .inl ⟨(kf f0),(kf f1),(kf f2),(kf f3),(kf f4),(kf f5),(kf f6),(kf f7),(kf f8),kn,(kp g1),(kp g2),(kp g3),(kp g4),(kp g5),(kp g6),(kp g7),(kp g8),(kp g9),(kp g10),(kp g11),(kp g12),(kp g13),(kp g14),(kp g15),(kp g18),(ka m15),(ka m16),(ka m17),(by (have e14:more L 0 14=L 14:=more_ne (by decide));(have e15:more L 0 15=L 15:=more_ne (by decide));(have e16:more L 0 16=L 16:=more_ne (by decide));(have e17:more L 0 17=L 17:=more_ne (by decide));(try simp only [e14,e15,e16,e17,n16,n17]);first | done | rfl | (simp only [e14,e15,e16,e17,n16,n17,if_true,if_false,Bool.false_eq_true];first | done | rfl | (simp (disch:=first|exact dsc|fail) only [go_sem,seval,-List.reduceReplicate,e14,e15,e16,e17,n16,n17,hBn,hB4,n0,nC_zero,mz_zero,hz,ite_f,ite_self]<;>rfl)))⟩
       · cases ho
         have n16:=nfT m16 hL
         have n17:=nfT m17 hL
         refine opA_val (.p (.sl false 1 (pl b8 p0))) rfl rfl (by simp (disch:=first|exact dsc|fail) only [go_sem,seval,-List.reduceReplicate,reduceIte,Bool.false_eq_true,if_false,if_true,f0,f1,f2,f3,f4,f5,f6,f7,f8,n16,n17,hL,hBn,hB4,n0,nC_zero,mz_zero,hz,ite_f,ite_self]<;>rfl) rfl ?_
         exact .inl ⟨(kf f0),(kf f1),(kf f2),(kf f3),(kf f4),(kf f5),(kf f6),(kf f7),(kf f8),(kp g0),kn,(kp g2),(kp g3),(kp g4),(kp g5),(kp g6),(kp g7),(kp g8),(kp g9),(kp g10),(kp g11),(kp g12),(kp g13),(kp g14),(kp g15),(kp g18),(ka m15),(ka m16),(ka m17),(by (have e14:more L 1 14=L 14:=more_ne (by decide));(have e15:more L 1 15=L 15:=more_ne (by decide));(have e16:more L 1 16=L 16:=more_ne (by decide));(have e17:more L 1 17=L 17:=more_ne (by decide));(try simp only [e14,e15,e16,e17,n16,n17]);first | done | rfl | (simp only [e14,e15,e16,e17,n16,n17,if_true,if_false,Bool.false_eq_true];first | done | rfl | (simp (disch:=first|exact dsc|fail) only [go_sem,seval,-List.reduceReplicate,e14,e15,e16,e17,n16,n17,hBn,hB4,n0,nC_zero,mz_zero,hz,ite_f,ite_self]<;>rfl)))⟩
       · cases ho
         have n16:=nfT m16 hL
         have n17:=nfT m17 hL
         refine opA_val (.p (.sl false 1 (pl b8 p0))) rfl rfl (by simp (disch:=first|exact dsc|fail) only [go_sem,seval,-List.reduceReplicate,reduceIte,Bool.false_eq_true,if_false,if_true,f0,f1,f2,f3,f4,f5,f6,f7,f8,n16,n17,hL,hBn,hB4,n0,nC_zero,mz_zero,hz,ite_f,ite_self]<;>rfl) rfl ?_
         exact .inl ⟨(kf f0),(kf f1),(kf f2),(kf f3),(kf f4),(kf f5),(kf f6),(kf f7),(kf f8),(kp g0),(kp g1),kn,(kp g3),(kp g4),(kp g5),(kp g6),(kp g7),(kp g8),(kp g9),(kp g10),(kp g11),(kp g12),(kp g13),(kp g14),(kp g15),(kp g18),(ka m15),(ka m16),(ka m17),(by (have e14:more L 2 14=L 14:=more_ne (by decide));(have e15:more L 2 15=L 15:=more_ne (by decide));(have e16:more L 2 16=L 16:=more_ne (by decide));(have e17:more L 2 17=L 17:=more_ne (by decide));(try simp only [e14,e15,e16,e17,n16,n17]);first | done | rfl | (simp only [e14,e15,e16,e17,n16,n17,if_true,if_false,Bool.false_eq_true];first | done | rfl | (simp (disch:=first|exact dsc|fail) only [go_sem,seval,-List.reduceReplicate,e14,e15,e16,e17,n16,n17,hBn,hB4,n0,nC_zero,mz_zero,hz,ite_f,ite_self]<;>rfl)))⟩
       · cases ho
         have h2:L 2=true:=hall ⟨2,.data⟩ (by simp) rfl
         have d2:=g2 h2
         have n16:=nfT m16 hL
         have n17:=nfT m17 hL
         refine opA_val (.p (i64 58)) rfl rfl (by simp (disch:=first|exact dsc|fail) only [go_sem,seval,-List.reduceReplicate,reduceIte,Bool.false_eq_true,if_false,if_true,f0,f1,f2,f3,f4,f5,f6,f7,f8,d2,h2,n16,n17,hL,hBn,hB4,n0,nC_zero,mz_zero,hz,ite_f,ite_self]<;>rfl) rfl ?_
         exact .inl ⟨(kf f0),(kf f1),(kf f2),(kf f3),(kf f4),(kf f5),(kf f6),(kf f7),(kf f8),(kp g0),(kp g1),(kp g2),kn,(kp g4),(kp g5),(kp g6),(kp g7),(kp g8),(kp g9),(kp g10),(kp g11),(kp g12),(kp g13),(kp g14),(kp g15),(kp g18),(ka m15),(ka m16),(ka m17),(by (have e14:more L 3 14=L 14:=more_ne (by decide));(have e15:more L 3 15=L 15:=more_ne (by decide));(have e16:more L 3 16=L 16:=more_ne (by decide));(have e17:more L 3 17=L 17:=more_ne (by decide));(try simp only [e14,e15,e16,e17,n16,n17]);first | done | rfl | (simp only [e14,e15,e16,e17,n16,n17,if_true,if_false,Bool.false_eq_true];first | done | rfl | (simp (disch:=first|exact dsc|fail) only [go_sem,seval,-List.reduceReplicate,e14,e15,e16,e17,n16,n17,hBn,hB4,n0,nC_zero,mz_zero,hz,ite_f,ite_self]<;>rfl)))⟩
       · cases ho
         have n16:=nfT m16 hL
         have n17:=nfT m17 hL
         refine opA_val (.p (.sl false 1 (pl b8 p0))) rfl rfl (by simp (disch:=first|exact dsc|fail) only [go_sem,seval,-List.reduceReplicate,reduceIte,Bool.false_eq_true,if_false,if_true,f0,f1,f2,f3,f4,f5,f6,f7,f8,n16,n17,hL,hBn,hB4,n0,nC_zero,mz_zero,hz,ite_f,ite_self]<;>rfl) rfl ?_
         exact .inl ⟨(kf f0),(kf f1),(kf f2),(kf f3),(kf f4),(kf f5),(kf f6),(kf f7),(kf f8),(kp g0),(kp g1),(kp g2),(kp g3),kn,(kp g5),(kp g6),(kp g7),(kp g8),(kp g9),(kp g10),(kp g11),(kp g12),(kp g13),(kp g14),(kp g15),(kp g18),(ka m15),(ka m16),(ka m17),(by (have e14:more L 4 14=L 14:=more_ne (by decide));(have e15:more L 4 15=L 15:=more_ne (by decide));(have e16:more L 4 16=L 16:=more_ne (by decide));(have e17:more L 4 17=L 17:=more_ne (by decide));(try simp only [e14,e15,e16,e17,n16,n17]);first | done | rfl | (simp only [e14,e15,e16,e17,n16,n17,if_true,if_false,Bool.false_eq_true];first | done | rfl | (simp (disch:=first|exact dsc|fail) only [go_sem,seval,-List.reduceReplicate,e14,e15,e16,e17,n16,n17,hBn,hB4,n0,nC_zero,mz_zero,hz,ite_f,ite_self]<;>rfl)))⟩
       · cases ho
         have h4:L 4=true:=hall ⟨4,.data⟩ (by simp) rfl
         have d4:=g4 h4
         have n16:=nfT m16 hL
         have n17:=nfT m17 hL
         refine opA_val (.p (i64 58)) rfl rfl (by simp (disch:=first|exact dsc|fail) only [go_sem,seval,-List.reduceReplicate,reduceIte,Bool.false_eq_true,if_false,if_true,f0,f1,f2,f3,f4,f5,f6,f7,f8,d4,h4,n16,n17,hL,hBn,hB4,n0,nC_zero,mz_zero,hz,ite_f,ite_self]<;>rfl) rfl ?_
         exact .inl ⟨(kf f0),(kf f1),(kf f2),(kf f3),(kf f4),(kf f5),(kf f6),(kf f7),(kf f8),(kp g0),(kp g1),(kp g2),(kp g3),(kp g4),kn,(kp g6),(kp g7),(kp g8),(kp g9),(kp g10),(kp g11),(kp g12),(kp g13),(kp g14),(kp g15),(kp g18),(ka m15),(ka m16),(ka m17),(by (have e14:more L 5 14=L 14:=more_ne (by decide));(have e15:more L 5 15=L 15:=more_ne (by decide));(have e16:more L 5 16=L 16:=more_ne (by decide));(have e17:more L 5 17=L 17:=more_ne (by decide));(try simp only [e14,e15,e16,e17,n16,n17]);first | done | rfl | (simp only [e14,e15,e16,e17,n16,n17,if_true,if_false,Bool.false_eq_true];first | done | rfl | (simp (disch:=first|exact dsc|fail) only [go_sem,seval,-List.reduceReplicate,e14,e15,e16,e17,n16,n17,hBn,hB4,n0,nC_zero,mz_zero,hz,ite_f,ite_self]<;>rfl)))⟩
       · cases ho
         have h5:L 5=true:=hall ⟨5,.data⟩ (by simp) rfl
         have d5:=g5 h5
         have n16:=nfT m16 hL
         have n17:=nfT m17 hL
         refine opA_val (.p (i64 1)) rfl rfl (by simp (disch:=first|exact dsc|fail) only [go_sem,seval,-List.reduceReplicate,reduceIte,Bool.false_eq_true,if_false,if_true,f0,f1,f2,f3,f4,f5,f6,f7,f8,d5,h5,n16,n17,hL,hBn,hB4,n0,nC_zero,mz_zero,hz,ite_f,ite_self]<;>rfl) rfl ?_
         exact .inl ⟨(kf f0),(kf f1),(kf f2),(kf f3),(kf f4),(kf f5),(kf f6),(kf f7),(kf f8),(kp g0),(kp g1),(kp g2),(kp g3),(kp g4),(kp g5),kn,(kp g7),(kp g8),(kp g9),(kp g10),(kp g11),(kp g12),(kp g13),(kp g14),(kp g15),(kp g18),(ka m15),(ka m16),(ka m17),(by (have e14:more L 6 14=L 14:=more_ne (by decide));(have e15:more L 6 15=L 15:=more_ne (by decide));(have e16:more L 6 16=L 16:=more_ne (by decide));(have e17:more L 6 17=L 17:=more_ne (by decide));(try simp only [e14,e15,e16,e17,n16,n17]);first | done | rfl | (simp only [e14,e15,e16,e17,n16,n17,if_true,if_false,Bool.false_eq_true];first | done | rfl | (simp (disch:=first|exact dsc|fail) only [go_sem,seval,-List.reduceReplicate,e14,e15,e16,e17,n16,n17,hBn,hB4,n0,nC_zero,mz_zero,hz,ite_f,ite_self]<;>rfl)))⟩
       · cases ho
         have h3:L 3=true:=hall ⟨3,.data⟩ (by simp) rfl
         have d3:=g3 h3
         have h6:L 6=true:=hall ⟨6,.data⟩ (by simp) rfl
         have d6:=g6 h6
         have n16:=nfT m16 hL
         have n17:=nfT m17 hL
         refine opA_val (.p (i64 57)) rfl rfl (by simp (disch:=first|exact dsc|fail) only [go_sem,seval,-List.reduceReplicate,reduceIte,Bool.false_eq_true,if_false,if_true,f0,f1,f2,f3,f4,f5,f6,f7,f8,d3,d6,h3,h6,n16,n17,hL,hBn,hB4,n0,nC_zero,mz_zero,hz,ite_f,ite_self]<;>rfl) rfl ?_
         exact .inl ⟨(kf f0),(kf f1),(kf f2),(kf f3),(kf f4),(kf f5),(kf f6),(kf f7),(kf f8),(kp g0),(kp g1),(kp g2),(kp g3),(kp g4),(kp g5),(kp g6),kn,(kp g8),(kp g9),(kp g10),(kp g11),(kp g12),(kp g13),(kp g14),(kp g15),(kp g18),(ka m15),(ka m16),(ka m17),(by (have e14:more L 7 14=L 14:=more_ne (by decide));(have e15:more L 7 15=L 15:=more_ne (by decide));(have e16:more L 7 16=L 16:=more_ne (by decide));(have e17:more L 7 17=L 17:=more_ne (by decide));(try simp only [e14,e15,e16,e17,n16,n17]);first | done | rfl | (simp only [e14,e15,e16,e17,n16,n17,if_true,if_false,Bool.false_eq_true];first | done | rfl | (simp (disch:=first|exact dsc|fail) only [go_sem,seval,-List.reduceReplicate,e14,e15,e16,e17,n16,n17,hBn,hB4,n0,nC_zero,mz_zero,hz,ite_f,ite_self]<;>rfl)))⟩
       · cases ho
         have h1:L 1=true:=hall ⟨1,.data⟩ (by simp) rfl
         have d1:=g1 h1
         have h7:L 7=true:=hall ⟨7,.data⟩ (by simp) rfl
         have d7:=g7 h7
         have n16:=nfT m16 hL
         have n17:=nfT m17 hL
         refine opA_val (.p (.sl false 1 (pl b8 (p0.take 57)))) rfl rfl (by simp (disch:=first|exact dsc|fail) only [go_sem,seval,-List.reduceReplicate,reduceIte,Bool.false_eq_true,if_false,if_true,f0,f1,f2,f3,f4,f5,f6,f7,f8,d1,d7,h1,h7,n16,n17,hL,hBn,hB4,n0,nC_zero,mz_zero,hz,ite_f,ite_self]<;>rfl) rfl ?_
         exact .inl ⟨(kf f0),(kf f1),(kf f2),(kf f3),(kf f4),(kf f5),(kf f6),(kf f7),(kf f8),(kp g0),(kp g1),(kp g2),(kp g3),(kp g4),(kp g5),(kp g6),(kp g7),kn,(kp g9),(kp g10),(kp g11),(kp g12),(kp g13),(kp g14),(kp g15),(kp g18),(ka m15),(ka m16),(ka m17),(by (have e14:more L 8 14=L 14:=more_ne (by decide));(have e15:more L 8 15=L 15:=more_ne (by decide));(have e16:more L 8 16=L 16:=more_ne (by decide));(have e17:more L 8 17=L 17:=more_ne (by decide));(try simp only [e14,e15,e16,e17,n16,n17]);first | done | rfl | (simp only [e14,e15,e16,e17,n16,n17,if_true,if_false,Bool.false_eq_true];first | done | rfl | (simp (disch:=first|exact dsc|fail) only [go_sem,seval,-List.reduceReplicate,e14,e15,e16,e17,n16,n17,hBn,hB4,n0,nC_zero,mz_zero,hz,ite_f,ite_self]<;>rfl)))⟩
       · cases ho
         have h0:L 0=true:=hall ⟨0,.data⟩ (by simp) rfl
         have d0:=g0 h0
         have h8:L 8=true:=hall ⟨8,.data⟩ (by simp) rfl
         have d8:=g8 h8
         have n16:=nfT m16 hL
         have n17:=nfT m17 hL
         (try simp only [n16,n17,if_true,if_false,Bool.false_eq_true])
         refine opA_call rfl rfl (by simp (disch:=first|exact dsc|fail) only [go_sem,seval,-List.reduceReplicate,reduceIte,Bool.false_eq_true,if_false,if_true,f0,f1,f2,f3,f4,f5,f6,f7,f8,d0,d8,h0,h8,n16,n17,hL,hBn,hB4,n0,nC_zero,mz_zero,hz,ite_f,ite_self]<;>rfl) rfl (by simp (disch:=first|exact dsc|fail) only [go_sem,seval,-List.reduceReplicate,reduceIte,Bool.false_eq_true,if_false,if_true,f0,f1,f2,f3,f4,f5,f6,f7,f8,d0,d8,h0,h8,n16,n17,hL,hBn,hB4,n0,nC_zero,mz_zero,hz,ite_f,ite_self]<;>rfl) (fun R h=>hcall _ R h) ?_
         exact .inl ⟨(kf f0),(kf f1),(kf f2),(kf f3),(kf f4),(kf f5),(kf f6),(kf f7),(kf f8),(kp g0),(kp g1),(kp g2),(kp g3),(kp g4),(kp g5),(kp g6),(kp g7),(kp g8),kn,(kp g10),(kp g11),(kp g12),(kp g13),(kp g14),(kp g15),(kp g18),(ka m15),(ka m16),(ka m17),(by (have e14:more L 9 14=L 14:=more_ne (by decide));(have e15:more L 9 15=L 15:=more_ne (by decide));(have e16:more L 9 16=L 16:=more_ne (by decide));(have e17:more L 9 17=L 17:=more_ne (by decide));(try simp only [e14,e15,e16,e17,n16,n17]);first | done | rfl | (simp only [e14,e15,e16,e17,n16,n17,if_true,if_false,Bool.false_eq_true];first | done | rfl | (simp (disch:=first|exact dsc|fail) only [go_sem,seval,-List.reduceReplicate,e14,e15,e16,e17,n16,n17,hBn,hB4,n0,nC_zero,mz_zero,hz,ite_f,ite_self]<;>rfl)))⟩
       · cases ho
         have h9:L 9=true:=hall ⟨9,.data⟩ (by simp) rfl
         have d9:=g9 h9
         have n16:=nfT m16 hL
         have n17:=nfT m17 hL
         refine opA_val (.tup [.p (ses sA),.p (msg zM),.p (i64 6)]) rfl rfl (by simp (disch:=first|exact dsc|fail) only [go_sem,seval,-List.reduceReplicate,reduceIte,Bool.false_eq_true,if_false,if_true,f0,f1,f2,f3,f4,f5,f6,f7,f8,d9,h9,n16,n17,hL,hBn,hB4,n0,nC_zero,mz_zero,hz,ite_f,ite_self]<;>rfl) rfl ?_
         exact .inl ⟨(kf f0),(kf f1),(kf f2),(kf f3),(kf f4),(kf f5),(kf f6),(kf f7),(kf f8),(kp g0),(kp g1),(kp g2),(kp g3),(kp g4),(kp g5),(kp g6),(kp g7),(kp g8),(kp g9),kn,(kp g11),(kp g12),(kp g13),(kp g14),(kp g15),(kp g18),(ka m15),(ka m16),(ka m17),(by (have e14:more L 10 14=L 14:=more_ne (by decide));(have e15:more L 10 15=L 15:=more_ne (by decide));(have e16:more L 10 16=L 16:=more_ne (by decide));(have e17:more L 10 17=L 17:=more_ne (by decide));(try simp only [e14,e15,e16,e17,n16,n17]);first | done | rfl | (simp only [e14,e15,e16,e17,n16,n17,if_true,if_false,Bool.false_eq_true];first | done | rfl | (simp (disch:=first|exact dsc|fail) only [go_sem,seval,-List.reduceReplicate,e14,e15,e16,e17,n16,n17,hBn,hB4,n0,nC_zero,mz_zero,hz,ite_f,ite_self]<;>rfl)))⟩
       · cases ho
         have h10:L 10=true:=hall ⟨10,.data⟩ (by simp) rfl
         have d10:=g10 h10
         have n16:=nfT m16 hL
         have n17:=nfT m17 hL
         refine opA_val (.p (ses sA)) rfl rfl (by simp (disch:=first|exact dsc|fail) only [go_sem,seval,-List.reduceReplicate,reduceIte,Bool.false_eq_true,if_false,if_true,f0,f1,f2,f3,f4,f5,f6,f7,f8,d10,h10,n16,n17,hL,hBn,hB4,n0,nC_zero,mz_zero,hz,ite_f,ite_self]<;>rfl) rfl ?_
         exact .inl ⟨(kf f0),(kf f1),(kf f2),(kf f3),(kf f4),(kf f5),(kf f6),(kf f7),(kf f8),(kp g0),(kp g1),(kp g2),(kp g3),(kp g4),(kp g5),(kp g6),(kp g7),(kp g8),(kp g9),(kp g10),kn,(kp g12),(kp g13),(kp g14),(kp g15),(kp g18),(ka m15),(ka m16),(ka m17),(by (have e14:more L 11 14=L 14:=more_ne (by decide));(have e15:more L 11 15=L 15:=more_ne (by decide));(have e16:more L 11 16=L 16:=more_ne (by decide));(have e17:more L 11 17=L 17:=more_ne (by decide));(try simp only [e14,e15,e16,e17,n16,n17]);first | done | rfl | (simp only [e14,e15,e16,e17,n16,n17,if_true,if_false,Bool.false_eq_true];first | done | rfl | (simp (disch:=first|exact dsc|fail) only [go_sem,seval,-List.reduceReplicate,e14,e15,e16,e17,n16,n17,hBn,hB4,n0,nC_zero,mz_zero,hz,ite_f,ite_self]<;>rfl)))⟩
       · cases ho
         have h10:L 10=true:=hall ⟨10,.data⟩ (by simp) rfl
         have d10:=g10 h10
         have n17:=nfT m17 hL
         refine opA_val (.p (msg zM)) rfl rfl (by simp (disch:=first|exact dsc|fail) only [go_sem,seval,-List.reduceReplicate,reduceIte,Bool.false_eq_true,if_false,if_true,f0,f1,f2,f3,f4,f5,f6,f7,f8,d10,h10,n17,hL,hBn,hB4,n0,nC_zero,mz_zero,hz,ite_f,ite_self]<;>rfl) rfl ?_
         exact .inl ⟨(kf f0),(kf f1),(kf f2),(kf f3),(kf f4),(kf f5),(kf f6),(kf f7),(kf f8),(kp g0),(kp g1),(kp g2),(kp g3),(kp g4),(kp g5),(kp g6),(kp g7),(kp g8),(kp g9),(kp g10),(kp g11),kn,(kp g13),(kp g14),(kp g15),(kp g18),(ka m15),(ka m16),(ka m17),(by (have e14:more L 12 14=L 14:=more_ne (by decide));(have e15:more L 12 15=L 15:=more_ne (by decide));(have e16:more L 12 16=L 16:=more_ne (by decide));(have e17:more L 12 17=L 17:=more_ne (by decide));(try simp only [e14,e15,e16,e17,n17]);first | done | rfl | (simp only [e14,e15,e16,e17,n17,if_true,if_false,Bool.false_eq_true];first | done | rfl | (simp (disch:=first|exact dsc|fail) only [go_sem,seval,-List.reduceReplicate,e14,e15,e16,e17,n17,hBn,hB4,n0,nC_zero,mz_zero,hz,ite_f,ite_self]<;>rfl)))⟩
       · cases ho
         have h10:L 10=true:=hall ⟨10,.data⟩ (by simp) rfl
         have d10:=g10 h10
         refine opA_val (.p (i64 6)) rfl rfl (by simp (disch:=first|exact dsc|fail) only [go_sem,seval,-List.reduceReplicate,reduceIte,Bool.false_eq_true,if_false,if_true,f0,f1,f2,f3,f4,f5,f6,f7,f8,d10,h10,hL,hBn,hB4,n0,nC_zero,mz_zero,hz,ite_f,ite_self]<;>rfl) rfl ?_
         exact .inl ⟨(kf f0),(kf f1),(kf f2),(kf f3),(kf f4),(kf f5),(kf f6),(kf f7),(kf f8),(kp g0),(kp g1),(kp g2),(kp g3),(kp g4),(kp g5),(kp g6),(kp g7),(kp g8),(kp g9),(kp g10),(kp g11),(kp g12),kn,(kp g14),(kp g15),(kp g18),(ka m15),(ka m16),(ka m17),(by (have e14:more L 13 14=L 14:=more_ne (by decide));(have e15:more L 13 15=L 15:=more_ne (by decide));(have e16:more L 13 16=L 16:=more_ne (by decide));(have e17:more L 13 17=L 17:=more_ne (by decide));(try simp only [e14,e15,e16,e17]);first | done | rfl | (simp only [e14,e15,e16,e17,if_true,if_false,Bool.false_eq_true];first | done | rfl | (simp (disch:=first|exact dsc|fail) only [go_sem,seval,-List.reduceReplicate,e14,e15,e16,e17,hBn,hB4,n0,nC_zero,mz_zero,hz,ite_f,ite_self]<;>rfl)))⟩
       · cases ho
         have n15:=nfT m15 hL
         have n16:=nfT m16 hL
         have n17:=nfT m17 hL
         (try simp only [n15,n16,n17,hL,if_true,if_false,Bool.false_eq_true])
         refine opA_valH (.ptr (H.n+8) 0) rfl rfl (by simp (disch:=first|exact dsc|fail) only [go_sem,seval,-List.reduceReplicate,reduceIte,Bool.false_eq_true,if_false,if_true,f0,f1,f2,f3,f4,f5,f6,f7,f8,n15,n16,n17,hL,hBn,hB4,n0,nC_zero,mz_zero,hz,ite_f,ite_self]<;>rfl) rfl ?_
         exact .inl ⟨(kf f0),(kf f1),(kf f2),(kf f3),(kf f4),(kf f5),(kf f6),(kf f7),(kf f8),(kp g0),(kp g1),(kp g2),(kp g3),(kp g4),(kp g5),(kp g6),(kp g7),(kp g8),(kp g9),(kp g10),(kp g11),(kp g12),(kp g13),kn,(kp g15),(kp g18),(ka m15),(ka m16),(ka m17),(by (have e14:more L 14 14=true:=more_eq);(have e15:more L 14 15=L 15:=more_ne (by decide));(have e16:more L 14 16=L 16:=more_ne (by decide));(have e17:more L 14 17=L 17:=more_ne (by decide));(try simp only [e14,e15,e16,e17,n15,n16,n17,hL]);first | done | rfl | (simp only [e14,e15,e16,e17,n15,n16,n17,hL,if_true,if_false,Bool.false_eq_true];first | done | rfl | (simp (disch:=first|exact dsc|fail) only [go_sem,seval,-List.reduceReplicate,e14,e15,e16,e17,n15,n16,n17,hL,hBn,hB4,n0,nC_zero,mz_zero,hz,ite_f,ite_self]<;>rfl)))⟩
       · cases ho
         have n16:=nfT m16 hL
         have n17:=nfT m17 hL
         cases e0:L 14
         · skip
           (try simp only [n16,n17,hL,e0,if_true,if_false,Bool.false_eq_true])
           refine opA_valH (.ptr (H.n+8) 0) rfl rfl (by simp (disch:=first|exact dsc|fail) only [go_sem,seval,-List.reduceReplicate,reduceIte,Bool.false_eq_true,if_false,if_true,f0,f1,f2,f3,f4,f5,f6,f7,f8,n16,n17,hL,e0,hBn,hB4,n0,nC_zero,mz_zero,hz,ite_f,ite_self]<;>rfl) rfl ?_
           exact .inr ⟨(kf f0),(kf f1),(kf f2),(kf f3),(kf f4),(kf f5),(kf f6),(kf f7),(kf f8),(kp g0),(kp g1),(kp g2),(kp g3),(kp g4),(kp g5),(kp g6),(kp g7),(kp g8),(kp g9),(kp g10),(kp g11),(kp g12),(kp g13),(kj e0),kn,(kp g18),(fun _=>kt1),(ka m16),(ka m17),(by (have e14:more L 15 14=L 14:=more_ne (by decide));(have e15:more L 15 15=true:=more_eq);(have e16:more L 15 16=L 16:=more_ne (by decide));(have e17:more L 15 17=L 17:=more_ne (by decide));(try simp only [e14,e15,e16,e17,n16,n17,hL,e0]);first | done | rfl | (simp only [e14,e15,e16,e17,n16,n17,hL,e0,if_true,if_false,Bool.false_eq_true];first | done | rfl | (simp (disch:=first|exact dsc|fail) only [go_sem,seval,-List.reduceReplicate,e14,e15,e16,e17,n16,n17,hL,e0,hBn,hB4,n0,nC_zero,mz_zero,hz,ite_f,ite_self]<;>rfl)))⟩
         · have h14:L 14=true:=e0
           (try simp only [h14,n16,n17,hL,if_true,if_false,Bool.false_eq_true])
           refine opA_valH (.ptr (H.n+9) 0) rfl rfl (by simp (disch:=first|exact dsc|fail) only [go_sem,seval,-List.reduceReplicate,reduceIte,Bool.false_eq_true,if_false,if_true,f0,f1,f2,f3,f4,f5,f6,f7,f8,h14,n16,n17,hL,hBn,hB4,n0,nC_zero,mz_zero,hz,ite_f,ite_self]<;>rfl) rfl ?_
           exact .inl ⟨(kf f0),(kf f1),(kf f2),(kf f3),(kf f4),(kf f5),(kf f6),(kf f7),(kf f8),(kp g0),(kp g1),(kp g2),(kp g3),(kp g4),(kp g5),(kp g6),(kp g7),(kp g8),(kp g9),(kp g10),(kp g11),(kp g12),(kp g13),(kp g14),kn,(kp g18),(fun _=>kt (allT_cons h14 allT_nil)),(ka m16),(ka m17),(by (have e14:more L 15 14=L 14:=more_ne (by decide));(have e15:more L 15 15=true:=more_eq);(have e16:more L 15 16=L 16:=more_ne (by decide));(have e17:more L 15 17=L 17:=more_ne (by decide));(try simp only [e14,e15,e16,e17,h14,n16,n17,hL]);first | done | rfl | (simp only [e14,e15,e16,e17,h14,n16,n17,hL,if_true,if_false,Bool.false_eq_true];first | done | rfl | (simp (disch:=first|exact dsc|fail) only [go_sem,seval,-List.reduceReplicate,e14,e15,e16,e17,h14,n16,n17,hL,hBn,hB4,n0,nC_zero,mz_zero,hz,ite_f,ite_self]<;>rfl)))⟩
       · cases ho
         have h0:L 0=true:=hall ⟨0,.phase⟩ (by simp) rfl
         have d0:=g0 h0
         have h1:L 1=true:=hall ⟨1,.phase⟩ (by simp) rfl
         have d1:=g1 h1
         have h2:L 2=true:=hall ⟨2,.phase⟩ (by simp) rfl
         have d2:=g2 h2
         have h3:L 3=true:=hall ⟨3,.phase⟩ (by simp) rfl
         have d3:=g3 h3
         have h4:L 4=true:=hall ⟨4,.phase⟩ (by simp) rfl
         have d4:=g4 h4
         have h5:L 5=true:=hall ⟨5,.phase⟩ (by simp) rfl
         have d5:=g5 h5
         have h6:L 6=true:=hall ⟨6,.phase⟩ (by simp) rfl
         have d6:=g6 h6
         have h7:L 7=true:=hall ⟨7,.phase⟩ (by simp) rfl
         have d7:=g7 h7
         have h8:L 8=true:=hall ⟨8,.phase⟩ (by simp) rfl
         have d8:=g8 h8
         have h9:L 9=true:=hall ⟨9,.chain⟩ (by simp) rfl
         have d9:=g9 h9
         have h10:L 10=true:=hall ⟨10,.phase⟩ (by simp) rfl
         have d10:=g10 h10
         have h11:L 11=true:=hall ⟨11,.data⟩ (by simp) rfl
         have d11:=g11 h11
         have h14:L 14=true:=hall ⟨14,.data⟩ (by simp) rfl
         have d14:=g14 h14
         have h15:L 15=true:=hall ⟨15,.phase⟩ (by simp) rfl
         have d15:=g15 h15
         have n17:=nfT m17 hL
         refine opA_unit rfl rfl (by simp (disch:=first|exact dsc|fail) only [go_sem,seval,-List.reduceReplicate,reduceIte,Bool.false_eq_true,if_false,if_true,f0,f1,f2,f3,f4,f5,f6,f7,f8,d0,d1,d2,d3,d4,d5,d6,d7,d8,d9,d10,d11,d14,d15,h0,h1,h2,h3,h4,h5,h6,h7,h8,h9,h10,h11,h14,h15,n17,hL,hBn,hB4,n0,nC_zero,mz_zero,hz,ite_f,ite_self]<;>rfl) rfl ?_
         exact .inl ⟨f0,f1,f2,f3,f4,f5,f6,f7,f8,(kp0 g0),(kp0 g1),(kp0 g2),(kp0 g3),(kp0 g4),(kp0 g5),(kp0 g6),(kp0 g7),(kp0 g8),(kp0 g9),(kp0 g10),(kp0 g11),(kp0 g12),(kp0 g13),(kp0 g14),(kp0 g15),(kp0 g18),(ka m15),(fun _=>kt (allT_cons h0 (allT_cons h1 (allT_cons h2 (allT_cons h3 (allT_cons h4 (allT_cons h5 (allT_cons h6 (allT_cons h7 (allT_cons h8 (allT_cons h9 (allT_cons h10 (allT_cons h11 (allT_cons h14 (allT_cons h15 allT_nil))))))))))))))),(ka m17),(by (have e14:more L 16 14=L 14:=more_ne (by decide));(have e15:more L 16 15=L 15:=more_ne (by decide));(have e16:more L 16 16=true:=more_eq);(have e17:more L 16 17=L 17:=more_ne (by decide));(try simp only [e14,e15,e16,e17,h14,h15,n17,hL]);first | done | rfl | (simp only [e14,e15,e16,e17,h14,h15,n17,hL,if_true,if_false,Bool.false_eq_true];first | done | rfl | (simp (disch:=first|exact dsc|fail) only [go_sem,seval,-List.reduceReplicate,e14,e15,e16,e17,h14,h15,n17,hL,hBn,hB4,n0,nC_zero,mz_zero,hz,ite_f,ite_self]<;>rfl)))⟩
       · cases ho
         have h0:L 0=true:=hall ⟨0,.phase⟩ (by simp) rfl
         have d0:=g0 h0
         have h1:L 1=true:=hall ⟨1,.phase⟩ (by simp) rfl
         have d1:=g1 h1
         have h2:L 2=true:=hall ⟨2,.phase⟩ (by simp) rfl
         have d2:=g2 h2
         have h3:L 3=true:=hall ⟨3,.phase⟩ (by simp) rfl
         have d3:=g3 h3
         have h4:L 4=true:=hall ⟨4,.phase⟩ (by simp) rfl
         have d4:=g4 h4
         have h5:L 5=true:=hall ⟨5,.phase⟩ (by simp) rfl
         have d5:=g5 h5
         have h6:L 6=true:=hall ⟨6,.phase⟩ (by simp) rfl
         have d6:=g6 h6
         have h7:L 7=true:=hall ⟨7,.phase⟩ (by simp) rfl
         have d7:=g7 h7
         have h8:L 8=true:=hall ⟨8,.phase⟩ (by simp) rfl
         have d8:=g8 h8
         have h9:L 9=true:=hall ⟨9,.phase⟩ (by simp) rfl
         have d9:=g9 h9
         have h10:L 10=true:=hall ⟨10,.phase⟩ (by simp) rfl
         have d10:=g10 h10
         have h11:L 11=true:=hall ⟨11,.phase⟩ (by simp) rfl
         have d11:=g11 h11
         have h12:L 12=true:=hall ⟨12,.data⟩ (by simp) rfl
         have d12:=g12 h12
         have h14:L 14=true:=hall ⟨14,.phase⟩ (by simp) rfl
         have d14:=g14 h14
         have h15:L 15=true:=hall ⟨15,.data⟩ (by simp) rfl
         have d15:=g15 h15
         have h16:L 16=true:=hall ⟨16,.chain⟩ (by simp) rfl
         refine opA_unit rfl rfl (by simp (disch:=first|exact dsc|fail) only [go_sem,seval,-List.reduceReplicate,reduceIte,Bool.false_eq_true,if_false,if_true,f0,f1,f2,f3,f4,f5,f6,f7,f8,d0,d1,d2,d3,d4,d5,d6,d7,d8,d9,d10,d11,d12,d14,d15,h0,h1,h2,h3,h4,h5,h6,h7,h8,h9,h10,h11,h12,h14,h15,h16,hL,hBn,hB4,n0,nC_zero,mz_zero,hz,ite_f,ite_self]<;>rfl) rfl ?_
         exact .inl ⟨f0,f1,f2,f3,f4,f5,f6,f7,f8,(kp0 g0),(kp0 g1),(kp0 g2),(kp0 g3),(kp0 g4),(kp0 g5),(kp0 g6),(kp0 g7),(kp0 g8),(kp0 g9),(kp0 g10),(kp0 g11),(kp0 g12),(kp0 g13),(kp0 g14),(kp0 g15),(kp0 g18),(ka m15),(ka m16),(fun _=>kt (allT_cons h0 (allT_cons h1 (allT_cons h2 (allT_cons h3 (allT_cons h4 (allT_cons h5 (allT_cons h6 (allT_cons h7 (allT_cons h8 (allT_cons h9 (allT_cons h10 (allT_cons h11 (allT_cons h12 (allT_cons h14 (allT_cons h15 (allT_cons h16 allT_nil))))))))))))))))),(by (have e14:more L 17 14=L 14:=more_ne (by decide));(have e15:more L 17 15=L 15:=more_ne (by decide));(have e16:more L 17 16=L 16:=more_ne (by decide));(have e17:more L 17 17=true:=more_eq);(try simp only [e14,e15,e16,e17,h14,h15,h16,hL]);first | done | rfl | (simp only [e14,e15,e16,e17,h14,h15,h16,hL,if_true,if_false,Bool.false_eq_true];first | done | rfl | (simp (disch:=first|exact dsc|fail) only [go_sem,seval,-List.reduceReplicate,e14,e15,e16,e17,h14,h15,h16,hL,hBn,hB4,n0,nC_zero,mz_zero,hz,ite_f,ite_self]<;>rfl)))⟩
       · cases ho
         have h0:L 0=true:=hall ⟨0,.phase⟩ (by simp) rfl
         have d0:=g0 h0
         have h1:L 1=true:=hall ⟨1,.phase⟩ (by simp) rfl
         have d1:=g1 h1
         have h2:L 2=true:=hall ⟨2,.phase⟩ (by simp) rfl
         have d2:=g2 h2
         have h3:L 3=true:=hall ⟨3,.phase⟩ (by simp) rfl
         have d3:=g3 h3
         have h4:L 4=true:=hall ⟨4,.phase⟩ (by simp) rfl
         have d4:=g4 h4
         have h5:L 5=true:=hall ⟨5,.phase⟩ (by simp) rfl
         have d5:=g5 h5
         have h6:L 6=true:=hall ⟨6,.phase⟩ (by simp) rfl
         have d6:=g6 h6
         have h7:L 7=true:=hall ⟨7,.phase⟩ (by simp) rfl
         have d7:=g7 h7
         have h8:L 8=true:=hall ⟨8,.phase⟩ (by simp) rfl
         have d8:=g8 h8
         have h9:L 9=true:=hall ⟨9,.phase⟩ (by simp) rfl
         have d9:=g9 h9
         have h10:L 10=true:=hall ⟨10,.phase⟩ (by simp) rfl
         have d10:=g10 h10
         have h11:L 11=true:=hall ⟨11,.phase⟩ (by simp) rfl
         have d11:=g11 h11
         have h12:L 12=true:=hall ⟨12,.phase⟩ (by simp) rfl
         have d12:=g12 h12
         have h13:L 13=true:=hall ⟨13,.data⟩ (by simp) rfl
         have d13:=g13 h13
         have h14:L 14=true:=hall ⟨14,.phase⟩ (by simp) rfl
         have d14:=g14 h14
         have h15:L 15=true:=hall ⟨15,.phase⟩ (by simp) rfl
         have d15:=g15 h15
         have h16:L 16=true:=hall ⟨16,.phase⟩ (by simp) rfl
         have h17:L 17=true:=hall ⟨17,.chain⟩ (by simp) rfl
         refine opA_val (.p (i64 6)) rfl rfl (by simp (disch:=first|exact dsc|fail) only [go_sem,seval,-List.reduceReplicate,reduceIte,Bool.false_eq_true,if_false,if_true,f0,f1,f2,f3,f4,f5,f6,f7,f8,d0,d1,d2,d3,d4,d5,d6,d7,d8,d9,d10,d11,d12,d13,d14,d15,h0,h1,h2,h3,h4,h5,h6,h7,h8,h9,h10,h11,h12,h13,h14,h15,h16,h17,hL,hBn,hB4,n0,nC_zero,mz_zero,hz,ite_f,ite_self]<;>rfl) rfl ?_
         exact .inl ⟨(kf f0),(kf f1),(kf f2),(kf f3),(kf f4),(kf f5),(kf f6),(kf f7),(kf f8),(kp g0),(kp g1),(kp g2),(kp g3),(kp g4),(kp g5),(kp g6),(kp g7),(kp g8),(kp g9),(kp g10),(kp g11),(kp g12),(kp g13),(kp g14),(kp g15),kn,(ka m15),(ka m16),(ka m17),(by (have e14:more L 18 14=L 14:=more_ne (by decide));(have e15:more L 18 15=L 15:=more_ne (by decide));(have e16:more L 18 16=L 16:=more_ne (by decide));(have e17:more L 18 17=L 17:=more_ne (by decide));(try simp only [e14,e15,e16,e17,h14,h15,h16,h17]);first | done | rfl | (simp only [e14,e15,e16,e17,h14,h15,h16,h17,if_true,if_false,Bool.false_eq_true];first | done | rfl | (simp (disch:=first|exact dsc|fail) only [go_sem,seval,-List.reduceReplicate,e14,e15,e16,e17,h14,h15,h16,h17,hBn,hB4,n0,nC_zero,mz_zero,hz,ite_f,ite_self]<;>rfl)))⟩
       · simp at ho
     · obtain ⟨f0,f1,f2,f3,f4,f5,f6,f7,f8,g0,g1,g2,g3,g4,g5,g6,g7,g8,g9,g10,g11,g12,g13,g14,g15,g18,m14,m16,m17,rfl⟩:=hI
       rcases i with _ | _ | _ | _ | _ | _ | _ | _ | _ | _ | _ | _ | _ | _ | _ | _ | _ | _ | _ | i
       · cases ho
         have n16:=nfT m16 hL
         have n17:=nfT m17 hL
         refine opA_val (.p (ses sA)) rfl rfl (by simp (disch:=first|exact dsc|fail) only [go_sem,seval,-List.reduceReplicate,reduceIte,Bool.false_eq_true,if_false,if_true,f0,f1,f2,f3,f4,f5,f6,f7,f8,n16,n17,hL,hBn,hB4,n0,nC_zero,mz_zero,hz,ite_f,ite_self]<;>rfl) rfl ?_
         exact .inr ⟨(kf f0),(kf f1),(kf f2),(kf f3),(kf f4),(kf f5),(kf f6),(kf f7),(kf f8),kn,(kp g1),(kp g2),(kp g3),(kp g4),(kp g5),(kp g6),(kp g7),(kp g8),(kp g9),(kp g10),(kp g11),(kp g12),(kp g13),(kp g14),(kp g15),(kp g18),(ka m14),(ka m16),(ka m17),(by (have e14:more L 0 14=L 14:=more_ne (by decide));(have e15:more L 0 15=L 15:=more_ne (by decide));(have e16:more L 0 16=L 16:=more_ne (by decide));(have e17:more L 0 17=L 17:=more_ne (by decide));(try simp only [e14,e15,e16,e17,n16,n17]);first | done | rfl | (simp only [e14,e15,e16,e17,n16,n17,if_true,if_false,Bool.false_eq_true];first | done | rfl | (simp (disch:=first|exact dsc|fail) only [go_sem,seval,-List.reduceReplicate,e14,e15,e16,e17,n16,n17,hBn,hB4,n0,nC_zero,mz_zero,hz,ite_f,ite_self]<;>rfl)))⟩
       · cases ho
         have n16:=nfT m16 hL
         have n17:=nfT m17 hL
         refine opA_val (.p (.sl false 1 (pl b8 p0))) rfl rfl (by simp (disch:=first|exact dsc|fail) only [go_sem,seval,-List.reduceReplicate,reduceIte,Bool.false_eq_true,if_false,if_true,f0,f1,f2,f3,f4,f5,f6,f7,f8,n16,n17,hL,hBn,hB4,n0,nC_zero,mz_zero,hz,ite_f,ite_self]<;>rfl) rfl ?_
         exact .inr ⟨(kf f0),(kf f1),(kf f2),(kf f3),(kf f4),(kf f5),(kf f6),(kf f7),(kf f8),(kp g0),kn,(kp g2),(kp g3),(kp g4),(kp g5),(kp g6),(kp g7),(kp g8),(kp g9),(kp g10),(kp g11),(kp g12),(kp g13),(kp g14),(kp g15),(kp g18),(ka m14),(ka m16),(ka m17),(by (have e14:more L 1 14=L 14:=more_ne (by decide));(have e15:more L 1 15=L 15:=more_ne (by decide));(have e16:more L 1 16=L 16:=more_ne (by decide));(have e17:more L 1 17=L 17:=more_ne (by decide));(try simp only [e14,e15,e16,e17,n16,n17]);first | done | rfl | (simp only [e14,e15,e16,e17,n16,n17,if_true,if_false,Bool.false_eq_true];first | done | rfl | (simp (disch:=first|exact dsc|fail) only [go_sem,seval,-List.reduceReplicate,e14,e15,e16,e17,n16,n17,hBn,hB4,n0,nC_zero,mz_zero,hz,ite_f,ite_self]<;>rfl)))⟩
       · cases ho
         have n16:=nfT m16 hL
         have n17:=nfT m17 hL
         refine opA_val (.p (.sl false 1 (pl b8 p0))) rfl rfl (by simp (disch:=first|exact dsc|fail) only [go_sem,seval,-List.reduceReplicate,reduceIte,Bool.false_eq_true,if_false,if_true,f0,f1,f2,f3,f4,f5,f6,f7,f8,n16,n17,hL,hBn,hB4,n0,nC_zero,mz_zero,hz,ite_f,ite_self]<;>rfl) rfl ?_
         exact .inr ⟨(kf f0),(kf f1),(kf f2),(kf f3),(kf f4),(kf f5),(kf f6),(kf f7),(kf f8),(kp g0),(kp g1),kn,(kp g3),(kp g4),(kp g5),(kp g6),(kp g7),(kp g8),(kp g9),(kp g10),(kp g11),(kp g12),(kp g13),(kp g14),(kp g15),(kp g18),(ka m14),(ka m16),(ka m17),(by (have e14:more L 2 14=L 14:=more_ne (by decide));(have e15:more L 2 15=L 15:=more_ne (by decide));(have e16:more L 2 16=L 16:=more_ne (by decide));(have e17:more L 2 17=L 17:=more_ne (by decide));(try simp only [e14,e15,e16,e17,n16,n17]);first | done | rfl | (simp only [e14,e15,e16,e17,n16,n17,if_true,if_false,Bool.false_eq_true];first | done | rfl | (simp (disch:=first|exact dsc|fail) only [go_sem,seval,-List.reduceReplicate,e14,e15,e16,e17,n16,n17,hBn,hB4,n0,nC_zero,mz_zero,hz,ite_f,ite_self]<;>rfl)))⟩
       · cases ho
         have h2:L 2=true:=hall ⟨2,.data⟩ (by simp) rfl
         have d2:=g2 h2
         have n16:=nfT m16 hL
         have n17:=nfT m17 hL
         refine opA_val (.p (i64 58)) rfl rfl (by simp (disch:=first|exact dsc|fail) only [go_sem,seval,-List.reduceReplicate,reduceIte,Bool.false_eq_true,if_false,if_true,f0,f1,f2,f3,f4,f5,f6,f7,f8,d2,h2,n16,n17,hL,hBn,hB4,n0,nC_zero,mz_zero,hz,ite_f,ite_self]<;>rfl) rfl ?_
         exact .inr ⟨(kf f0),(kf f1),(kf f2),(kf f3),(kf f4),(kf f5),(kf f6),(kf f7),(kf f8),(kp g0),(kp g1),(kp g2),kn,(kp g4),(kp g5),(kp g6),(kp g7),(kp g8),(kp g9),(kp g10),(kp g11),(kp g12),(kp g13),(kp g14),(kp g15),(kp g18),(ka m14),(ka m16),(ka m17),(by (have e14:more L 3 14=L 14:=more_ne (by decide));(have e15:more L 3 15=L 15:=more_ne (by decide));(have e16:more L 3 16=L 16:=more_ne (by decide));(have e17:more L 3 17=L 17:=more_ne (by decide));(try simp only [e14,e15,e16,e17,n16,n17]);first | done | rfl | (simp only [e14,e15,e16,e17,n16,n17,if_true,if_false,Bool.false_eq_true];first | done | rfl | (simp (disch:=first|exact dsc|fail) only [go_sem,seval,-List.reduceReplicate,e14,e15,e16,e17,n16,n17,hBn,hB4,n0,nC_zero,mz_zero,hz,ite_f,ite_self]<;>rfl)))⟩
       · cases ho
         have n16:=nfT m16 hL
         have n17:=nfT m17 hL
         refine opA_val (.p (.sl false 1 (pl b8 p0))) rfl rfl (by simp (disch:=first|exact dsc|fail) only [go_sem,seval,-List.reduceReplicate,reduceIte,Bool.false_eq_true,if_false,if_true,f0,f1,f2,f3,f4,f5,f6,f7,f8,n16,n17,hL,hBn,hB4,n0,nC_zero,mz_zero,hz,ite_f,ite_self]<;>rfl) rfl ?_
         exact .inr ⟨(kf f0),(kf f1),(kf f2),(kf f3),(kf f4),(kf f5),(kf f6),(kf f7),(kf f8),(kp g0),(kp g1),(kp g2),(kp g3),kn,(kp g5),(kp g6),(kp g7),(kp g8),(kp g9),(kp g10),(kp g11),(kp g12),(kp g13),(kp g14),(kp g15),(kp g18),(ka m14),(ka m16),(ka m17),(by (have e14:more L 4 14=L 14:=more_ne (by decide));(have e15:more L 4 15=L 15:=more_ne (by decide));(have e16:more L 4 16=L 16:=more_ne (by decide));(have e17:more L 4 17=L 17:=more_ne (by decide));(try simp only [e14,e15,e16,e17,n16,n17]);first | done | rfl | (simp only [e14,e15,e16,e17,n16,n17,if_true,if_false,Bool.false_eq_true];first | done | rfl | (simp (disch:=first|exact dsc|fail) only [go_sem,seval,-List.reduceReplicate,e14,e15,e16,e17,n16,n17,hBn,hB4,n0,nC_zero,mz_zero,hz,ite_f,ite_self]<;>rfl)))⟩
       · cases ho
         have h4:L 4=true:=hall ⟨4,.data⟩ (by simp) rfl
         have d4:=g4 h4
         have n16:=nfT m16 hL
         have n17:=nfT m17 hL
         refine opA_val (.p (i64 58)) rfl rfl (by simp (disch:=first|exact dsc|fail) only [go_sem,seval,-List.reduceReplicate,reduceIte,Bool.false_eq_true,if_false,if_true,f0,f1,f2,f3,f4,f5,f6,f7,f8,d4,h4,n16,n17,hL,hBn,hB4,n0,nC_zero,mz_zero,hz,ite_f,ite_self]<;>rfl) rfl ?_
         exact .inr ⟨(kf f0),(kf f1),(kf f2),(kf f3),(kf f4),(kf f5),(kf f6),(kf f7),(kf f8),(kp g0),(kp g1),(kp g2),(kp g3),(kp g4),kn,(kp g6),(kp g7),(kp g8),(kp g9),(kp g10),(kp g11),(kp g12),(kp g13),(kp g14),(kp g15),(kp g18),(ka m14),(ka m16),(ka m17),(by (have e14:more L 5 14=L 14:=more_ne (by decide));(have e15:more L 5 15=L 15:=more_ne (by decide));(have e16:more L 5 16=L 16:=more_ne (by decide));(have e17:more L 5 17=L 17:=more_ne (by decide));(try simp only [e14,e15,e16,e17,n16,n17]);first | done | rfl | (simp only [e14,e15,e16,e17,n16,n17,if_true,if_false,Bool.false_eq_true];first | done | rfl | (simp (disch:=first|exact dsc|fail) only [go_sem,seval,-List.reduceReplicate,e14,e15,e16,e17,n16,n17,hBn,hB4,n0,nC_zero,mz_zero,hz,ite_f,ite_self]<;>rfl)))⟩
       · cases ho
         have h5:L 5=true:=hall ⟨5,.data⟩ (by simp) rfl
         have d5:=g5 h5
         have n16:=nfT m16 hL
         have n17:=nfT m17 hL
         refine opA_val (.p (i64 1)) rfl rfl (by simp (disch:=first|exact dsc|fail) only [go_sem,seval,-List.reduceReplicate,reduceIte,Bool.false_eq_true,if_false,if_true,f0,f1,f2,f3,f4,f5,f6,f7,f8,d5,h5,n16,n17,hL,hBn,hB4,n0,nC_zero,mz_zero,hz,ite_f,ite_self]<;>rfl) rfl ?_
         exact .inr ⟨(kf f0),(kf f1),(kf f2),(kf f3),(kf f4),(kf f5),(kf f6),(kf f7),(kf f8),(kp g0),(kp g1),(kp g2),(kp g3),(kp g4),(kp g5),kn,(kp g7),(kp g8),(kp g9),(kp g10),(kp g11),(kp g12),(kp g13),(kp g14),(kp g15),(kp g18),(ka m14),(ka m16),(ka m17),(by (have e14:more L 6 14=L 14:=more_ne (by decide));(have e15:more L 6 15=L 15:=more_ne (by decide));(have e16:more L 6 16=L 16:=more_ne (by decide));(have e17:more L 6 17=L 17:=more_ne (by decide));(try simp only [e14,e15,e16,e17,n16,n17]);first | done | rfl | (simp only [e14,e15,e16,e17,n16,n17,if_true,if_false,Bool.false_eq_true];first | done | rfl | (simp (disch:=first|exact dsc|fail) only [go_sem,seval,-List.reduceReplicate,e14,e15,e16,e17,n16,n17,hBn,hB4,n0,nC_zero,mz_zero,hz,ite_f,ite_self]<;>rfl)))⟩
       · cases ho
         have h3:L 3=true:=hall ⟨3,.data⟩ (by simp) rfl
         have d3:=g3 h3
         have h6:L 6=true:=hall ⟨6,.data⟩ (by simp) rfl
         have d6:=g6 h6
         have n16:=nfT m16 hL
         have n17:=nfT m17 hL
         refine opA_val (.p (i64 57)) rfl rfl (by simp (disch:=first|exact dsc|fail) only [go_sem,seval,-List.reduceReplicate,reduceIte,Bool.false_eq_true,if_false,if_true,f0,f1,f2,f3,f4,f5,f6,f7,f8,d3,d6,h3,h6,n16,n17,hL,hBn,hB4,n0,nC_zero,mz_zero,hz,ite_f,ite_self]<;>rfl) rfl ?_
         exact .inr ⟨(kf f0),(kf f1),(kf f2),(kf f3),(kf f4),(kf f5),(kf f6),(kf f7),(kf f8),(kp g0),(kp g1),(kp g2),(kp g3),(kp g4),(kp g5),(kp g6),kn,(kp g8),(kp g9),(kp g10),(kp g11),(kp g12),(kp g13),(kp g14),(kp g15),(kp g18),(ka m14),(ka m16),(ka m17),(by (have e14:more L 7 14=L 14:=more_ne (by decide));(have e15:more L 7 15=L 15:=more_ne (by decide));(have e16:more L 7 16=L 16:=more_ne (by decide));(have e17:more L 7 17=L 17:=more_ne (by decide));(try simp only [e14,e15,e16,e17,n16,n17]);first | done | rfl | (simp only [e14,e15,e16,e17,n16,n17,if_true,if_false,Bool.false_eq_true];first | done | rfl | (simp (disch:=first|exact dsc|fail) only [go_sem,seval,-List.reduceReplicate,e14,e15,e16,e17,n16,n17,hBn,hB4,n0,nC_zero,mz_zero,hz,ite_f,ite_self]<;>rfl)))⟩
       · cases ho
         have h1:L 1=true:=hall ⟨1,.data⟩ (by simp) rfl
         have d1:=g1 h1
         have h7:L 7=true:=hall ⟨7,.data⟩ (by simp) rfl
         have d7:=g7 h7
         have n16:=nfT m16 hL
         have n17:=nfT m17 hL
         refine opA_val (.p (.sl false 1 (pl b8 (p0.take 57)))) rfl rfl (by simp (disch:=first|exact dsc|fail) only [go_sem,seval,-List.reduceReplicate,reduceIte,Bool.false_eq_true,if_false,if_true,f0,f1,f2,f3,f4,f5,f6,f7,f8,d1,d7,h1,h7,n16,n17,hL,hBn,hB4,n0,nC_zero,mz_zero,hz,ite_f,ite_self]<;>rfl) rfl ?_
         exact .inr ⟨(kf f0),(kf f1),(kf f2),(kf f3),(kf f4),(kf f5),(kf f6),(kf f7),(kf f8),(kp g0),(kp g1),(kp g2),(kp g3),(kp g4),(kp g5),(kp g6),(kp g7),kn,(kp g9),(kp g10),(kp g11),(kp g12),(kp g13),(kp g14),(kp g15),(kp g18),(ka m14),(ka m16),(ka m17),(by (have e14:more L 8 14=L 14:=more_ne (by decide));(have e15:more L 8 15=L 15:=more_ne (by decide));(have e16:more L 8 16=L 16:=more_ne (by decide));(have e17:more L 8 17=L 17:=more_ne (by decide));(try simp only [e14,e15,e16,e17,n16,n17]);first | done | rfl | (simp only [e14,e15,e16,e17,n16,n17,if_true,if_false,Bool.false_eq_true];first | done | rfl | (simp (disch:=first|exact dsc|fail) only [go_sem,seval,-List.reduceReplicate,e14,e15,e16,e17,n16,n17,hBn,hB4,n0,nC_zero,mz_zero,hz,ite_f,ite_self]<;>rfl)))⟩
       · cases ho
         have h0:L 0=true:=hall ⟨0,.data⟩ (by simp) rfl
         have d0:=g0 h0
         have h8:L 8=true:=hall ⟨8,.data⟩ (by simp) rfl
         have d8:=g8 h8
         have n16:=nfT m16 hL
         have n17:=nfT m17 hL
         (try simp only [n16,n17,if_true,if_false,Bool.false_eq_true])
         refine opA_call rfl rfl (by simp (disch:=first|exact dsc|fail) only [go_sem,seval,-List.reduceReplicate,reduceIte,Bool.false_eq_true,if_false,if_true,f0,f1,f2,f3,f4,f5,f6,f7,f8,d0,d8,h0,h8,n16,n17,hL,hBn,hB4,n0,nC_zero,mz_zero,hz,ite_f,ite_self]<;>rfl) rfl (by simp (disch:=first|exact dsc|fail) only [go_sem,seval,-List.reduceReplicate,reduceIte,Bool.false_eq_true,if_false,if_true,f0,f1,f2,f3,f4,f5,f6,f7,f8,d0,d8,h0,h8,n16,n17,hL,hBn,hB4,n0,nC_zero,mz_zero,hz,ite_f,ite_self]<;>rfl) (fun R h=>hcall _ R h) ?_
         exact .inr ⟨(kf f0),(kf f1),(kf f2),(kf f3),(kf f4),(kf f5),(kf f6),(kf f7),(kf f8),(kp g0),(kp g1),(kp g2),(kp g3),(kp g4),(kp g5),(kp g6),(kp g7),(kp g8),kn,(kp g10),(kp g11),(kp g12),(kp g13),(kp g14),(kp g15),(kp g18),(ka m14),(ka m16),(ka m17),(by (have e14:more L 9 14=L 14:=more_ne (by decide));(have e15:more L 9 15=L 15:=more_ne (by decide));(have e16:more L 9 16=L 16:=more_ne (by decide));(have e17:more L 9 17=L 17:=more_ne (by decide));(try simp only [e14,e15,e16,e17,n16,n17]);first | done | rfl | (simp only [e14,e15,e16,e17,n16,n17,if_true,if_false,Bool.false_eq_true];first | done | rfl | (simp (disch:=first|exact dsc|fail) only [go_sem,seval,-List.reduceReplicate,e14,e15,e16,e17,n16,n17,hBn,hB4,n0,nC_zero,mz_zero,hz,ite_f,ite_self]<;>rfl)))⟩
       · cases ho
         have h9:L 9=true:=hall ⟨9,.data⟩ (by simp) rfl
         have d9:=g9 h9
         have n16:=nfT m16 hL
         have n17:=nfT m17 hL
         refine opA_val (.tup [.p (ses sA),.p (msg zM),.p (i64 6)]) rfl rfl (by simp (disch:=first|exact dsc|fail) only [go_sem,seval,-List.reduceReplicate,reduceIte,Bool.false_eq_true,if_false,if_true,f0,f1,f2,f3,f4,f5,f6,f7,f8,d9,h9,n16,n17,hL,hBn,hB4,n0,nC_zero,mz_zero,hz,ite_f,ite_self]<;>rfl) rfl ?_
         exact .inr ⟨(kf f0),(kf f1),(kf f2),(kf f3),(kf f4),(kf f5),(kf f6),(kf f7),(kf f8),(kp g0),(kp g1),(kp g2),(kp g3),(kp g4),(kp g5),(kp g6),(kp g7),(kp g8),(kp g9),kn,(kp g11),(kp g12),(kp g13),(kp g14),(kp g15),(kp g18),(ka m14),(ka m16),(ka m17),(by (have e14:more L 10 14=L 14:=more_ne (by decide));(have e15:more L 10 15=L 15:=more_ne (by decide));(have e16:more L 10 16=L 16:=more_ne (by decide));(have e17:more L 10 17=L 17:=more_ne (by decide));(try simp only [e14,e15,e16,e17,n16,n17]);first | done | rfl | (simp only [e14,e15,e16,e17,n16,n17,if_true,if_false,Bool.false_eq_true];first | done | rfl | (simp (disch:=first|exact dsc|fail) only [go_sem,seval,-List.reduceReplicate,e14,e15,e16,e17,n16,n17,hBn,hB4,n0,nC_zero,mz_zero,hz,ite_f,ite_self]<;>rfl)))⟩
       · cases ho
         have h10:L 10=true:=hall ⟨10,.data⟩ (by simp) rfl
         have d10:=g10 h10
         have n16:=nfT m16 hL
         have n17:=nfT m17 hL
         refine opA_val (.p (ses sA)) rfl rfl (by simp (disch:=first|exact dsc|fail) only [go_sem,seval,-List.reduceReplicate,reduceIte,Bool.false_eq_true,if_false,if_true,f0,f1,f2,f3,f4,f5,f6,f7,f8,d10,h10,n16,n17,hL,hBn,hB4,n0,nC_zero,mz_zero,hz,ite_f,ite_self]<;>rfl) rfl ?_
         exact .inr ⟨(kf f0),(kf f1),(kf f2),(kf f3),(kf f4),(kf f5),(kf f6),(kf f7),(kf f8),(kp g0),(kp g1),(kp g2),(kp g3),(kp g4),(kp g5),(kp g6),(kp g7),(kp g8),(kp g9),(kp g10),kn,(kp g12),(kp g13),(kp g14),(kp g15),(kp g18),(ka m14),(ka m16),(ka m17),(by (have e14:more L 11 14=L 14:=more_ne (by decide));(have e15:more L 11 15=L 15:=more_ne (by decide));(have e16:more L 11 16=L 16:=more_ne (by decide));(have e17:more L 11 17=L 17:=more_ne (by decide));(try simp only [e14,e15,e16,e17,n16,n17]);first | done | rfl | (simp only [e14,e15,e16,e17,n16,n17,if_true,if_false,Bool.false_eq_true];first | done | rfl | (simp (disch:=first|exact dsc|fail) only [go_sem,seval,-List.reduceReplicate,e14,e15,e16,e17,n16,n17,hBn,hB4,n0,nC_zero,mz_zero,hz,ite_f,ite_self]<;>rfl)))⟩
       · cases ho
         have h10:L 10=true:=hall ⟨10,.data⟩ (by simp) rfl
         have d10:=g10 h10
         have n17:=nfT m17 hL
         refine opA_val (.p (msg zM)) rfl rfl (by simp (disch:=first|exact dsc|fail) only [go_sem,seval,-List.reduceReplicate,reduceIte,Bool.false_eq_true,if_false,if_true,f0,f1,f2,f3,f4,f5,f6,f7,f8,d10,h10,n17,hL,hBn,hB4,n0,nC_zero,mz_zero,hz,ite_f,ite_self]<;>rfl) rfl ?_
         exact .inr ⟨(kf f0),(kf f1),(kf f2),(kf f3),(kf f4),(kf f5),(kf f6),(kf f7),(kf f8),(kp g0),(kp g1),(kp g2),(kp g3),(kp g4),(kp g5),(kp g6),(kp g7),(kp g8),(kp g9),(kp g10),(kp g11),kn,(kp g13),(kp g14),(kp g15),(kp g18),(ka m14),(ka m16),(ka m17),(by (have e14:more L 12 14=L 14:=more_ne (by decide));(have e15:more L 12 15=L 15:=more_ne (by decide));(have e16:more L 12 16=L 16:=more_ne (by decide));(have e17:more L 12 17=L 17:=more_ne (by decide));(try simp only [e14,e15,e16,e17,n17]);first | done | rfl | (simp only [e14,e15,e16,e17,n17,if_true,if_false,Bool.false_eq_true];first | done | rfl | (simp (disch:=first|exact dsc|fail) only [go_sem,seval,-List.reduceReplicate,e14,e15,e16,e17,n17,hBn,hB4,n0,nC_zero,mz_zero,hz,ite_f,ite_self]<;>rfl)))⟩
       · cases ho
         have h10:L 10=true:=hall ⟨10,.data⟩ (by simp) rfl
         have d10:=g10 h10
         refine opA_val (.p (i64 6)) rfl rfl (by simp (disch:=first|exact dsc|fail) only [go_sem,seval,-List.reduceReplicate,reduceIte,Bool.false_eq_true,if_false,if_true,f0,f1,f2,f3,f4,f5,f6,f7,f8,d10,h10,hL,hBn,hB4,n0,nC_zero,mz_zero,hz,ite_f,ite_self]<;>rfl) rfl ?_
         exact .inr ⟨(kf f0),(kf f1),(kf f2),(kf f3),(kf f4),(kf f5),(kf f6),(kf f7),(kf f8),(kp g0),(kp g1),(kp g2),(kp g3),(kp g4),(kp g5),(kp g6),(kp g7),(kp g8),(kp g9),(kp g10),(kp g11),(kp g12),kn,(kp g14),(kp g15),(kp g18),(ka m14),(ka m16),(ka m17),(by (have e14:more L 13 14=L 14:=more_ne (by decide));(have e15:more L 13 15=L 15:=more_ne (by decide));(have e16:more L 13 16=L 16:=more_ne (by decide));(have e17:more L 13 17=L 17:=more_ne (by decide));(try simp only [e14,e15,e16,e17]);first | done | rfl | (simp only [e14,e15,e16,e17,if_true,if_false,Bool.false_eq_true];first | done | rfl | (simp (disch:=first|exact dsc|fail) only [go_sem,seval,-List.reduceReplicate,e14,e15,e16,e17,hBn,hB4,n0,nC_zero,mz_zero,hz,ite_f,ite_self]<;>rfl)))⟩
       · cases ho
         have n16:=nfT m16 hL
         have n17:=nfT m17 hL
         cases e0:L 15
         · skip
           (try simp only [n16,n17,hL,e0,if_true,if_false,Bool.false_eq_true])
           refine opA_valH (.ptr (H.n+8) 0) rfl rfl (by simp (disch:=first|exact dsc|fail) only [go_sem,seval,-List.reduceReplicate,reduceIte,Bool.false_eq_true,if_false,if_true,f0,f1,f2,f3,f4,f5,f6,f7,f8,n16,n17,hL,e0,hBn,hB4,n0,nC_zero,mz_zero,hz,ite_f,ite_self]<;>rfl) rfl ?_
           exact .inl ⟨(kf f0),(kf f1),(kf f2),(kf f3),(kf f4),(kf f5),(kf f6),(kf f7),(kf f8),(kp g0),(kp g1),(kp g2),(kp g3),(kp g4),(kp g5),(kp g6),(kp g7),(kp g8),(kp g9),(kp g10),(kp g11),(kp g12),(kp g13),kn,(kj e0),(kp g18),(fun _=>kt1),(ka m16),(ka m17),(by (have e14:more L 14 14=true:=more_eq);(have e15:more L 14 15=L 15:=more_ne (by decide));(have e16:more L 14 16=L 16:=more_ne (by decide));(have e17:more L 14 17=L 17:=more_ne (by decide));(try simp only [e14,e15,e16,e17,n16,n17,hL,e0]);first | done | rfl | (simp only [e14,e15,e16,e17,n16,n17,hL,e0,if_true,if_false,Bool.false_eq_true];first | done | rfl | (simp (disch:=first|exact dsc|fail) only [go_sem,seval,-List.reduceReplicate,e14,e15,e16,e17,n16,n17,hL,e0,hBn,hB4,n0,nC_zero,mz_zero,hz,ite_f,ite_self]<;>rfl)))⟩
         · have h15:L 15=true:=e0
           (try simp only [h15,n16,n17,hL,if_true,if_false,Bool.false_eq_true])
           refine opA_valH (.ptr (H.n+9) 0) rfl rfl (by simp (disch:=first|exact dsc|fail) only [go_sem,seval,-List.reduceReplicate,reduceIte,Bool.false_eq_true,if_false,if_true,f0,f1,f2,f3,f4,f5,f6,f7,f8,h15,n16,n17,hL,hBn,hB4,n0,nC_zero,mz_zero,hz,ite_f,ite_self]<;>rfl) rfl ?_
           exact .inr ⟨(kf f0),(kf f1),(kf f2),(kf f3),(kf f4),(kf f5),(kf f6),(kf f7),(kf f8),(kp g0),(kp g1),(kp g2),(kp g3),(kp g4),(kp g5),(kp g6),(kp g7),(kp g8),(kp g9),(kp g10),(kp g11),(kp g12),(kp g13),kn,(kp g15),(kp g18),(fun _=>kt (allT_cons h15 allT_nil)),(ka m16),(ka m17),(by (have e14:more L 14 14=true:=more_eq);(have e15:more L 14 15=L 15:=more_ne (by decide));(have e16:more L 14 16=L 16:=more_ne (by decide));(have e17:more L 14 17=L 17:=more_ne (by decide));(try simp only [e14,e15,e16,e17,h15,n16,n17,hL]);first | done | rfl | (simp only [e14,e15,e16,e17,h15,n16,n17,hL,if_true,if_false,Bool.false_eq_true];first | done | rfl | (simp (disch:=first|exact dsc|fail) only [go_sem,seval,-List.reduceReplicate,e14,e15,e16,e17,h15,n16,n17,hL,hBn,hB4,n0,nC_zero,mz_zero,hz,ite_f,ite_self]<;>rfl)))⟩
       · cases ho
         have n14:=nfT m14 hL
         have n16:=nfT m16 hL
         have n17:=nfT m17 hL
         (try simp only [n14,n16,n17,hL,if_true,if_false,Bool.false_eq_true])
         refine opA_valH (.ptr (H.n+8) 0) rfl rfl (by simp (disch:=first|exact dsc|fail) only [go_sem,seval,-List.reduceReplicate,reduceIte,Bool.false_eq_true,if_false,if_true,f0,f1,f2,f3,f4,f5,f6,f7,f8,n14,n16,n17,hL,hBn,hB4,n0,nC_zero,mz_zero,hz,ite_f,ite_self]<;>rfl) rfl ?_
         exact .inr ⟨(kf f0),(kf f1),(kf f2),(kf f3),(kf f4),(kf f5),(kf f6),(kf f7),(kf f8),(kp g0),(kp g1),(kp g2),(kp g3),(kp g4),(kp g5),(kp g6),(kp g7),(kp g8),(kp g9),(kp g10),(kp g11),(kp g12),(kp g13),(kp g14),kn,(kp g18),(ka m14),(ka m16),(ka m17),(by (have e14:more L 15 14=L 14:=more_ne (by decide));(have e15:more L 15 15=true:=more_eq);(have e16:more L 15 16=L 16:=more_ne (by decide));(have e17:more L 15 17=L 17:=more_ne (by decide));(try simp only [e14,e15,e16,e17,n14,n16,n17,hL]);first | done | rfl | (simp only [e14,e15,e16,e17,n14,n16,n17,hL,if_true,if_false,Bool.false_eq_true];first | done | rfl | (simp (disch:=first|exact dsc|fail) only [go_sem,seval,-List.reduceReplicate,e14,e15,e16,e17,n14,n16,n17,hL,hBn,hB4,n0,nC_zero,mz_zero,hz,ite_f,ite_self]<;>rfl)))⟩
       · cases ho
         have h0:L 0=true:=hall ⟨0,.phase⟩ (by simp) rfl
         have d0:=g0 h0
         have h1:L 1=true:=hall ⟨1,.phase⟩ (by simp) rfl
         have d1:=g1 h1
         have h2:L 2=true:=hall ⟨2,.phase⟩ (by simp) rfl
         have d2:=g2 h2
         have h3:L 3=true:=hall ⟨3,.phase⟩ (by simp) rfl
         have d3:=g3 h3
         have h4:L 4=true:=hall ⟨4,.phase⟩ (by simp) rfl
         have d4:=g4 h4
         have h5:L 5=true:=hall ⟨5,.phase⟩ (by simp) rfl
         have d5:=g5 h5
         have h6:L 6=true:=hall ⟨6,.phase⟩ (by simp) rfl
         have d6:=g6 h6
         have h7:L 7=true:=hall ⟨7,.phase⟩ (by simp) rfl
         have d7:=g7 h7
         have h8:L 8=true:=hall ⟨8,.phase⟩ (by simp) rfl
         have d8:=g8 h8
         have h9:L 9=true:=hall ⟨9,.chain⟩ (by simp) rfl
         have d9:=g9 h9
         have h10:L 10=true:=hall ⟨10,.phase⟩ (by simp) rfl
         have d10:=g10 h10
         have h11:L 11=true:=hall ⟨11,.data⟩ (by simp) rfl
         have d11:=g11 h11
         have h14:L 14=true:=hall ⟨14,.data⟩ (by simp) rfl
         have d14:=g14 h14
         have h15:L 15=true:=hall ⟨15,.phase⟩ (by simp) rfl
         have d15:=g15 h15
         have n17:=nfT m17 hL
         refine opA_unit rfl rfl (by simp (disch:=first|exact dsc|fail) only [go_sem,seval,-List.reduceReplicate,reduceIte,Bool.false_eq_true,if_false,if_true,f0,f1,f2,f3,f4,f5,f6,f7,f8,d0,d1,d2,d3,d4,d5,d6,d7,d8,d9,d10,d11,d14,d15,h0,h1,h2,h3,h4,h5,h6,h7,h8,h9,h10,h11,h14,h15,n17,hL,hBn,hB4,n0,nC_zero,mz_zero,hz,ite_f,ite_self]<;>rfl) rfl ?_
         exact .inr ⟨f0,f1,f2,f3,f4,f5,f6,f7,f8,(kp0 g0),(kp0 g1),(kp0 g2),(kp0 g3),(kp0 g4),(kp0 g5),(kp0 g6),(kp0 g7),(kp0 g8),(kp0 g9),(kp0 g10),(kp0 g11),(kp0 g12),(kp0 g13),(kp0 g14),(kp0 g15),(kp0 g18),(ka m14),(fun _=>kt (allT_cons h0 (allT_cons h1 (allT_cons h2 (allT_cons h3 (allT_cons h4 (allT_cons h5 (allT_cons h6 (allT_cons h7 (allT_cons h8 (allT_cons h9 (allT_cons h10 (allT_cons h11 (allT_cons h14 (allT_cons h15 allT_nil))))))))))))))),(ka m17),(by (have e14:more L 16 14=L 14:=more_ne (by decide));(have e15:more L 16 15=L 15:=more_ne (by decide));(have e16:more L 16 16=true:=more_eq);(have e17:more L 16 17=L 17:=more_ne (by decide));(try simp only [e14,e15,e16,e17,h14,h15,n17,hL]);first | done | rfl | (simp only [e14,e15,e16,e17,h14,h15,n17,hL,if_true,if_false,Bool.false_eq_true];first | done | rfl | (simp (disch:=first|exact dsc|fail) only [go_sem,seval,-List.reduceReplicate,e14,e15,e16,e17,h14,h15,n17,hL,hBn,hB4,n0,nC_zero,mz_zero,hz,ite_f,ite_self]<;>rfl)))⟩
       · cases ho
         have h0:L 0=true:=hall ⟨0,.phase⟩ (by simp) rfl
         have d0:=g0 h0
         have h1:L 1=true:=hall ⟨1,.phase⟩ (by simp) rfl
         have d1:=g1 h1
         have h2:L 2=true:=hall ⟨2,.phase⟩ (by simp) rfl
         have d2:=g2 h2
         have h3:L 3=true:=hall ⟨3,.phase⟩ (by simp) rfl
         have d3:=g3 h3
         have h4:L 4=true:=hall ⟨4,.phase⟩ (by simp) rfl
         have d4:=g4 h4
         have h5:L 5=true:=hall ⟨5,.phase⟩ (by simp) rfl
         have d5:=g5 h5
         have h6:L 6=true:=hall ⟨6,.phase⟩ (by simp) rfl
         have d6:=g6 h6
         have h7:L 7=true:=hall ⟨7,.phase⟩ (by simp) rfl
         have d7:=g7 h7
         have h8:L 8=true:=hall ⟨8,.phase⟩ (by simp) rfl
         have d8:=g8 h8
         have h9:L 9=true:=hall ⟨9,.phase⟩ (by simp) rfl
         have d9:=g9 h9
         have h10:L 10=true:=hall ⟨10,.phase⟩ (by simp) rfl
         have d10:=g10 h10
         have h11:L 11=true:=hall ⟨11,.phase⟩ (by simp) rfl
         have d11:=g11 h11
         have h12:L 12=true:=hall ⟨12,.data⟩ (by simp) rfl
         have d12:=g12 h12
         have h14:L 14=true:=hall ⟨14,.phase⟩ (by simp) rfl
         have d14:=g14 h14
         have h15:L 15=true:=hall ⟨15,.data⟩ (by simp) rfl
         have d15:=g15 h15
         have h16:L 16=true:=hall ⟨16,.chain⟩ (by simp) rfl
         refine opA_unit rfl rfl (by simp (disch:=first|exact dsc|fail) only [go_sem,seval,-List.reduceReplicate,reduceIte,Bool.false_eq_true,if_false,if_true,f0,f1,f2,f3,f4,f5,f6,f7,f8,d0,d1,d2,d3,d4,d5,d6,d7,d8,d9,d10,d11,d12,d14,d15,h0,h1,h2,h3,h4,h5,h6,h7,h8,h9,h10,h11,h12,h14,h15,h16,hL,hBn,hB4,n0,nC_zero,mz_zero,hz,ite_f,ite_self]<;>rfl) rfl ?_
         exact .inr ⟨f0,f1,f2,f3,f4,f5,f6,f7,f8,(kp0 g0),(kp0 g1),(kp0 g2),(kp0 g3),(kp0 g4),(kp0 g5),(kp0 g6),(kp0 g7),(kp0 g8),(kp0 g9),(kp0 g10),(kp0 g11),(kp0 g12),(kp0 g13),(kp0 g14),(kp0 g15),(kp0 g18),(ka m14),(ka m16),(fun _=>kt (allT_cons h0 (allT_cons h1 (allT_cons h2 (allT_cons h3 (allT_cons h4 (allT_cons h5 (allT_cons h6 (allT_cons h7 (allT_cons h8 (allT_cons h9 (allT_cons h10 (allT_cons h11 (allT_cons h12 (allT_cons h14 (allT_cons h15 (allT_cons h16 allT_nil))))))))))))))))),(by (have e14:more L 17 14=L 14:=more_ne (by decide));(have e15:more L 17 15=L 15:=more_ne (by decide));(have e16:more L 17 16=L 16:=more_ne (by decide));(have e17:more L 17 17=true:=more_eq);(try simp only [e14,e15,e16,e17,h14,h15,h16,hL]);first | done | rfl | (simp only [e14,e15,e16,e17,h14,h15,h16,hL,if_true,if_false,Bool.false_eq_true];first | done | rfl | (simp (disch:=first|exact dsc|fail) only [go_sem,seval,-List.reduceReplicate,e14,e15,e16,e17,h14,h15,h16,hL,hBn,hB4,n0,nC_zero,mz_zero,hz,ite_f,ite_self]<;>rfl)))⟩
       · cases ho
         have h0:L 0=true:=hall ⟨0,.phase⟩ (by simp) rfl
         have d0:=g0 h0
         have h1:L 1=true:=hall ⟨1,.phase⟩ (by simp) rfl
         have d1:=g1 h1
         have h2:L 2=true:=hall ⟨2,.phase⟩ (by simp) rfl
         have d2:=g2 h2
         have h3:L 3=true:=hall ⟨3,.phase⟩ (by simp) rfl
         have d3:=g3 h3
         have h4:L 4=true:=hall ⟨4,.phase⟩ (by simp) rfl
         have d4:=g4 h4
         have h5:L 5=true:=hall ⟨5,.phase⟩ (by simp) rfl
         have d5:=g5 h5
         have h6:L 6=true:=hall ⟨6,.phase⟩ (by simp) rfl
         have d6:=g6 h6
         have h7:L 7=true:=hall ⟨7,.phase⟩ (by simp) rfl
         have d7:=g7 h7
         have h8:L 8=true:=hall ⟨8,.phase⟩ (by simp) rfl
         have d8:=g8 h8
         have h9:L 9=true:=hall ⟨9,.phase⟩ (by simp) rfl
         have d9:=g9 h9
         have h10:L 10=true:=hall ⟨10,.phase⟩ (by simp) rfl
         have d10:=g10 h10
         have h11:L 11=true:=hall ⟨11,.phase⟩ (by simp) rfl
         have d11:=g11 h11
         have h12:L 12=true:=hall ⟨12,.phase⟩ (by simp) rfl
         have d12:=g12 h12
         have h13:L 13=true:=hall ⟨13,.data⟩ (by simp) rfl
         have d13:=g13 h13
         have h14:L 14=true:=hall ⟨14,.phase⟩ (by simp) rfl
         have d14:=g14 h14
         have h15:L 15=true:=hall ⟨15,.phase⟩ (by simp) rfl
         have d15:=g15 h15
         have h16:L 16=true:=hall ⟨16,.phase⟩ (by simp) rfl
         have h17:L 17=true:=hall ⟨17,.chain⟩ (by simp) rfl
         refine opA_val (.p (i64 6)) rfl rfl (by simp (disch:=first|exact dsc|fail) only [go_sem,seval,-List.reduceReplicate,reduceIte,Bool.false_eq_true,if_false,if_true,f0,f1,f2,f3,f4,f5,f6,f7,f8,d0,d1,d2,d3,d4,d5,d6,d7,d8,d9,d10,d11,d12,d13,d14,d15,h0,h1,h2,h3,h4,h5,h6,h7,h8,h9,h10,h11,h12,h13,h14,h15,h16,h17,hL,hBn,hB4,n0,nC_zero,mz_zero,hz,ite_f,ite_self]<;>rfl) rfl ?_
         exact .inr ⟨(kf f0),(kf f1),(kf f2),(kf f3),(kf f4),(kf f5),(kf f6),(kf f7),(kf f8),(kp g0),(kp g1),(kp g2),(kp g3),(kp g4),(kp g5),(kp g6),(kp g7),(kp g8),(kp g9),(kp g10),(kp g11),(kp g12),(kp g13),(kp g14),(kp g15),kn,(ka m14),(ka m16),(ka m17),(by (have e14:more L 18 14=L 14:=more_ne (by decide));(have e15:more L 18 15=L 15:=more_ne (by decide));(have e16:more L 18 16=L 16:=more_ne (by decide));(have e17:more L 18 17=L 17:=more_ne (by decide));(try simp only [e14,e15,e16,e17,h14,h15,h16,h17]);first | done | rfl | (simp only [e14,e15,e16,e17,h14,h15,h16,h17,if_true,if_false,Bool.false_eq_true];first | done | rfl | (simp (disch:=first|exact dsc|fail) only [go_sem,seval,-List.reduceReplicate,e14,e15,e16,e17,h14,h15,h16,h17,hBn,hB4,n0,nC_zero,mz_zero,hz,ite_f,ite_self]<;>rfl)))⟩
       · simp at ho
   · intro L env' H' hall hI
     rcases hI with hI | hI
     (obtain ⟨f0,f1,f2,f3,f4,f5,f6,f7,f8,g0,g1,g2,g3,g4,g5,g6,g7,g8,g9,g10,g11,g12,g13,g14,g15,g18,_,_,_,rfl⟩:=hI;have l14:=hall 14 (by decide);have l15:=hall 15 (by decide);have l16:=hall 16 (by decide);have l17:=hall 17 (by decide);replace g0:=g0 (hall 0 (by decide));replace g1:=g1 (hall 1 (by decide));replace g2:=g2 (hall 2 (by decide));replace g3:=g3 (hall 3 (by decide));replace g4:=g4 (hall 4 (by decide));replace g5:=g5 (hall 5 (by decide));replace g6:=g6 (hall 6 (by decide));replace g7:=g7 (hall 7 (by decide));replace g8:=g8 (hall 8 (by decide));replace g9:=g9 (hall 9 (by decide));replace g10:=g10 (hall 10 (by decide));replace g11:=g11 (hall 11 (by decide));replace g12:=g12 (hall 12 (by decide));replace g13:=g13 (hall 13 (by decide));replace g14:=g14 (hall 14 (by decide));replace g15:=g15 (hall 15 (by decide));replace g18:=g18 (hall 18 (by decide));simp only [l14,l15,l16,l17,if_true];clear hall);rotate_left
     (obtain ⟨f0,f1,f2,f3,f4,f5,f6,f7,f8,g0,g1,g2,g3,g4,g5,g6,g7,g8,g9,g10,g11,g12,g13,g14,g15,g18,_,_,_,rfl⟩:=hI;have l14:=hall 14 (by decide);have l15:=hall 15 (by decide);have l16:=hall 16 (by decide);have l17:=hall 17 (by decide);replace g0:=g0 (hall 0 (by decide));replace g1:=g1 (hall 1 (by decide));replace g2:=g2 (hall 2 (by decide));replace g3:=g3 (hall 3 (by decide));replace g4:=g4 (hall 4 (by decide));replace g5:=g5 (hall 5 (by decide));replace g6:=g6 (hall 6 (by decide));replace g7:=g7 (hall 7 (by decide));replace g8:=g8 (hall 8 (by decide));replace g9:=g9 (hall 9 (by decide));replace g10:=g10 (hall 10 (by decide));replace g11:=g11 (hall 11 (by decide));replace g12:=g12 (hall 12 (by decide));replace g13:=g13 (hall 13 (by decide));replace g14:=g14 (hall 14 (by decide));replace g15:=g15 (hall 15 (by decide));replace g18:=g18 (hall 18 (by decide));simp only [l14,l15,l16,l17,if_true];clear hall);rotate_left
     · subst hB
       refine ihE _ _ ?_ ?_
       · simp (disch:=first|exact dsc|fail) only [go_sem,seval,-List.reduceReplicate,f0,f1,f2,f3,f4,f5,f6,f7,f8,g18]<;>(repeat' (first | rfl | refine And.intro ?_ ?_))
       · exact .mk [_,_] rfl
     · subst hB
       refine ihE _ _ ?_ ?_
       · simp (disch:=first|exact dsc|fail) only [go_sem,seval,-List.reduceReplicate,f0,f1,f2,f3,f4,f5,f6,f7,f8,g18]<;>(repeat' (first | rfl | refine And.intro ?_ ?_))
       · exact .mk [_,_] rfl
 -- R9
 obtain ⟨e2,e3,e4,e7,e8,e9,e12,e13,e15,e18⟩:=E
 (repeat refine .z rfl ?_);refine .text ?_;simp (disch:=first|exact dsc|fail) only [go_sem,seval,-List.reduceReplicate,e2,e3,e4,e7,e8,e9,e12,e13,e15,e18]
 refine CallK.of (fun R h=>New_spec 8 100 _ R h) ?_;simp (disch:=first|exact dsc|fail) only [go_sem,seval,-List.reduceReplicate,e2,e3,e4,e7,e8,e9,e12,e13,e15,e18]
 refine CallK.of (fun R h=>Receive_spec g (newS 8 100) (okNew ⟨by decide,by decide⟩) p0 (by rw [n0];omega) 1 _ R h) ?_;simp (disch:=first|exact dsc|fail) only [go_sem,seval,-List.reduceReplicate,F6,nC_zero,mz_zero,hz]
 (repeat refine .z rfl ?_);refine .text ?_;simp (disch:=first|exact dsc|fail) only [go_sem,seval,-List.reduceReplicate,e2,e3,e4,e7,e8,e9,e12,e13,e15,e18]
 refine CallK.of (fun R h=>Receive_spec g sA okA p0 (by rw [n0];omega) 100 _ R h) ?_;simp (disch:=first|exact dsc|fail) only [go_sem,seval,-List.reduceReplicate,F7,nC_zero,mz_zero,hz,e2,e3,e4,e7,e8,e9,e12,e13,e15,e18]
 (repeat refine .z rfl ?_);refine .text ?_;simp (disch:=first|exact dsc|fail) only [go_sem,seval,-List.reduceReplicate,e2,e3,e4,e7,e8,e9,e12,e13,e15,e18]
 refine CallK.of (fun R h=>Receive_spec g b1 okB1 p0 (by rw [n0];omega) 1 _ R h) ?_;simp (disch:=first|exact dsc|fail) only [go_sem,seval,-List.reduceReplicate,F8,nC_zero,mz_zero,hz,e2,e3,e4,e7,e8,e9,e12,e13,e15,e18]
 (repeat refine .z rfl ?_);refine .text ?_;simp (disch:=first|exact dsc|fail) only [go_sem,seval,-List.reduceReplicate,e2,e3,e4,e7,e8,e9,e12,e13,e15,e18]
 have hRoot:(mkAgg (setAt (AV.p (i64 2) :: AV.p (i64 0) :: AV.p (i64 0) :: AV.p (str ByteArray.empty) :: List.map AV.p (pl b8 (List.replicate 32 0#8)++[PV.sl true 1 [],PV.sl true 2 []])) 4 (cl b8 ((List.replicate 32 0#8).set 0 1#8)))).weak = .p (msg kRoot):=rfl
 rw [hRoot]
 refine CallK.of (fun R h=>Send_spec g b1 okB1 kRoot okRoot _ R h) ?_;simp (disch:=first|exact dsc|fail) only [go_sem,seval,-List.reduceReplicate,F9,nC_zero,mz_zero,hz,e2,e3,e4,e7,e8,e9,e12,e13,e15,e18]
 (repeat refine .z rfl ?_);refine .text ?_;simp (disch:=first|exact dsc|fail) only [go_sem,seval,-List.reduceReplicate,e2,e3,e4,e7,e8,e9,e12,e13,e15,e18]
 refine CallK.of (fun R h=>Receive_spec g a1 okA1 p1 (by have:=n1;omega) 1 _ R h) ?_;simp (disch:=first|exact dsc|fail) only [go_sem,seval,-List.reduceReplicate,F10,nC_zero,mz_zero,hz,e2,e3,e4,e7,e8,e9,e12,e13,e15,e18]
 (repeat refine .z rfl ?_);refine .text ?_;simp (disch:=first|exact dsc|fail) only [go_sem,seval,-List.reduceReplicate,e2,e3,e4,e7,e8,e9,e12,e13,e15,e18,hCoin]
 refine CallK.of (fun R h=>Send_spec g a2 okA2 kCoin okCoin _ R h) ?_;simp (disch:=first|exact dsc|fail) only [go_sem,seval,-List.reduceReplicate,F11,nC_zero,mz_zero,hz,e2,e3,e4,e7,e8,e9,e12,e13,e15,e18]
 (repeat refine .z rfl ?_);refine .text ?_;simp (disch:=first|exact dsc|fail) only [go_sem,seval,-List.reduceReplicate,e2,e3,e4,e7,e8,e9,e12,e13,e15,e18,hCoin]
 refine CallK.of (fun R h=>Send_spec g a3 okA3 kCoin okCoin _ R h) ?_;simp (disch:=first|exact dsc|fail) only [go_sem,seval,-List.reduceReplicate,F12,nC_zero,mz_zero,hz,e2,e3,e4,e7,e8,e9,e12,e13,e15,e18]
 (repeat refine .z rfl ?_);refine .text ?_;simp (disch:=first|exact dsc|fail) only [go_sem,seval,-List.reduceReplicate,e2,e3,e4,e7,e8,e9,e12,e13,e15,e18]
 refine CallK.of (fun R h=>Receive_spec g { sA with state:=5 } okLate p0 (by rw [n0];omega) 1 _ R h) ?_;simp (disch:=first|exact dsc|fail) only [go_sem,seval,-List.reduceReplicate,F13,nC_zero,mz_zero,hz,e2,e3,e4,e7,e8,e9,e12,e13,e15,e18]
 (repeat refine .z rfl ?_);refine .text ?_;simp (disch:=first|exact dsc|fail) only [go_sem,seval,-List.reduceReplicate,e2,e3,e4,e7,e8,e9,e12,e13,e15,e18]
 refine CallK.of (fun R h=>nil_arg (xs:=[]) (ys:=[]) (fl:=false) (sz:=1) (Decode_spec g [] (by simp) _ R h)) ?_;simp (disch:=first|exact dsc|fail) only [go_sem,seval,-List.reduceReplicate,F14,nC_zero,mz_zero,hz,e2,e3,e4,e7,e8,e9,e12,e13,e15,e18]
 (repeat refine .z rfl ?_)
 refine .openFast follows (by kernel_rfl) ?_
 simp only [List.append_eq,List.cons_append,List.nil_append]
 have x1:((bytesOf M0.text).toList == (bytesOf [99#8,111#8,117#8,110#8,116#8]).toList)=true:=beq_self_eq_true _
 have x2:((bytesOf b2.text).toList == (bytesOf [99#8,111#8,117#8,110#8,116#8]).toList)=true:=beq_self_eq_true _
 have x3:decide (M1.root.val=(List.replicate 32 0#8).set 0 1#8)=true:=decide_eq_true rfl
 have y1:a3.step=3:=rfl
 have y2:a3.state=2:=rfl
 have y3:zM.kind=0:=rfl
 have y4:a3.words=2:=rfl
 have y5:a3.rounds=3:=rfl
 have y6:a3.last=M2:=rfl
 have y7:(newS 1 1).last=zM:=rfl
 have z0:p0.length≤140737488355000:=by rw [n0];omega
 have z1:p1.length≤140737488355000:=by have:=n1;omega
 have z2:p2.length≤140737488355000:=by rw [n2];omega
 simp (disch:=first|exact dsc|fail) only [go_sem,seval,-List.reduceReplicate,e2,e3,e4,e7,e8,e9,e12,e13,e15,e18,n0,n2,x1,x2,x3,y1,y2,y3]
 refine CallD.still (fun R h=>Usage_spec a3 _ R h) ?_;simp (disch:=first|exact dsc|fail) only [go_sem,seval,-List.reduceReplicate,e2,e3,e4,e7,e8,e9,e12,e13,e15,e18,usage,y4,y5]
 refine CallD.still (fun R h=>Usage_spec a3 _ R h) ?_;simp (disch:=first|exact dsc|fail) only [go_sem,seval,-List.reduceReplicate,e2,e3,e4,e7,e8,e9,e12,e13,e15,e18,usage,y4,y5]
 refine CallD.still (fun R h=>Resend_spec g a3 okM2 _ R h) ?_;simp (disch:=first|exact dsc|fail) only [go_sem,seval,-List.reduceReplicate,e2,e3,e4,e7,e8,e9,e12,e13,e15,e18,y6]
 refine CallD.still (fun R h=>SameBytes_spec p2 p2 z2 z2 _ R h) ?_;simp (disch:=first|exact dsc|fail) only [go_sem,seval,-List.reduceReplicate,e2,e3,e4,e7,e8,e9,e12,e13,e15,e18]
 refine CallD.still (fun R h=>New_spec 1 1 _ R h) ?_;simp (disch:=first|exact dsc|fail) only [go_sem,seval,-List.reduceReplicate,e2,e3,e4,e7,e8,e9,e12,e13,e15,e18]
 refine CallD.still (fun R h=>Resend_spec g (newS 1 1) okzM _ R h) ?_;simp (disch:=first|exact dsc|fail) only [go_sem,seval,-List.reduceReplicate,e2,e3,e4,e7,e8,e9,e12,e13,e15,e18,y7,F15]
 have xL:a3.seen.val.length=32:=a3.seen.len
 have x4:decide (a3.seen.val=pair (pair (pair (List.replicate 32 0#8) (sha p0)) (sha p1)) (sha p2))=true:=decide_eq_true rfl
 refine CallD.still (fun R h=>SumR_spec p0 z0 _ R h) ?_;simp (disch:=first|exact dsc|fail) only [go_sem,seval,-List.reduceReplicate,e2,e3,e4,e7,e8,e9,e12,e13,e15,e18]
 refine CallD.still (fun R h=>PairR_spec (List.replicate 32 0#8) (sha p0) hz (sha_len _) _ R h) ?_;simp (disch:=first|exact dsc|fail) only [go_sem,seval,-List.reduceReplicate,e2,e3,e4,e7,e8,e9,e12,e13,e15,e18]
 refine CallD.still (fun R h=>SumR_spec p1 z1 _ R h) ?_;simp (disch:=first|exact dsc|fail) only [go_sem,seval,-List.reduceReplicate,e2,e3,e4,e7,e8,e9,e12,e13,e15,e18]
 refine CallD.still (fun R h=>PairR_spec (pair (List.replicate 32 0#8) (sha p0)) (sha p1) pair_len (sha_len _) _ R h) ?_;simp (disch:=first|exact dsc|fail) only [go_sem,seval,-List.reduceReplicate,e2,e3,e4,e7,e8,e9,e12,e13,e15,e18]
 refine CallD.still (fun R h=>SumR_spec p2 z2 _ R h) ?_;simp (disch:=first|exact dsc|fail) only [go_sem,seval,-List.reduceReplicate,e2,e3,e4,e7,e8,e9,e12,e13,e15,e18]
 refine CallD.still (fun R h=>PairR_spec (pair (pair (List.replicate 32 0#8) (sha p0)) (sha p1)) (sha p2) pair_len (sha_len _) _ R h) ?_;simp (disch:=first|exact dsc|fail) only [go_sem,seval,-List.reduceReplicate,e2,e3,e4,e7,e8,e9,e12,e13,e15,e18]
 rw [eqD xL pair_len,x4]
 simp (disch:=first|exact dsc|fail) only [go_sem,seval,-List.reduceReplicate,e2,e3,e4,e7,e8,e9,e12,e13,e15,e18]
 (repeat refine .z rfl ?_);refine .rt Tryd.func7 (by rw [Tryd.results7]) (hR := ?_);simp (disch:=first|exact dsc|fail) only [go_sem,seval,-List.reduceReplicate]
 exact h
end walks
end Go.Proofs.YtmoecjgehdkhkaaDoor

/-
  Sessions: the reference's small functions.
-/
namespace Go.Proofs.YtmoecjgehdkhkaaDoor
open Go Go.AL

def fitsR (k s:Int):Bool :=
 if k=1 then s == 0 else if k=2 then s == 1 else if k=3 then s == 3 else if k=4 then decide (2≤s) && s % 2 == 0 else if k=5 then decide (5≤s) && s % 2 == 1 else if k=6 then decide (4≤s) && s % 2 == 0 else if k=7 then decide (2≤s) && s % 2 == 0 else false
theorem fitsR_eq (k s:Int):fitsR k s=fits k s:=by
 by_cases h:k=1 ∨ k=2 ∨ k=3 ∨ k=4 ∨ k=5 ∨ k=6 ∨ k=7
 · rw [Bool.eq_iff_iff]
   rcases h with rfl | rfl | rfl | rfl | rfl | rfl | rfl<;>simp [fitsR,fits,ruleT]<;>omega
 · simp only [not_or] at h
   obtain ⟨h1,h2,h3,h4,h5,h6,h7⟩:=h
   simp [fitsR,fits,ruleT,h1,h2,h3,h4,h5,h6,h7]
section walks
variable {G:Globs}
theorem inRange_spec (n:Int) (H:Hp) (R:AV → Hp → Prop) (h:R (.p (bo (small n))) H):ACall Tryd.prog G 70 [.p (i64 n)] H R:=by
 have e:small n=(decide (0≤n) && decide (n < 2147483648)):=by
  unfold small
  congr 1
  exact decide_eq_decide.2 (by omega)
 rw [e] at h
 refine ACall.of_run (raw:=[]) Tryd.func70 rfl Tryd.ntmps70 (by simp) fun hbel => ?_
 (repeat refine .z rfl ?_);refine .text ?_;simp (disch:=first|exact dsc|fail) only [go_sem,seval,-List.reduceReplicate]
 cases c:decide (0≤n) with
 | true =>
  rw [c] at h
  (repeat refine .z rfl ?_);refine .text ?_;simp (disch:=first|exact dsc|fail) only [go_sem,seval,-List.reduceReplicate,c]
  (repeat refine .z rfl ?_);refine .rt Tryd.func70 (by rw [Tryd.results70]) (hR := ?_);simp (disch:=first|exact dsc|fail) only [go_sem,seval,-List.reduceReplicate]
  exact h
 | false =>
  rw [c] at h
  (repeat refine .z rfl ?_);refine .text ?_;simp (disch:=first|exact dsc|fail) only [go_sem,seval,-List.reduceReplicate,c]
  (repeat refine .z rfl ?_);refine .rt Tryd.func70 (by rw [Tryd.results70]) (hR := ?_);simp (disch:=first|exact dsc|fail) only [go_sem,seval,-List.reduceReplicate]
  exact h
def turn (s:Ses):Bool:=s.state == 0 || sends s
theorem fits29_spec (k s:Int) (H:Hp) (R:AV → Hp → Prop) (h:R (.p (bo (fits k s))) H):ACall Tryd.prog G 52 [.p (i64 k),.p (i64 s)] H R:=by
 rw [←fitsR_eq] at h
 unfold fitsR at h
 refine ACall.of_run (raw:=[]) Tryd.func52 rfl Tryd.ntmps52 (by simp) fun hbel => ?_
 (repeat refine .z rfl ?_);refine .text ?_;simp (disch:=first|exact dsc|fail) only [go_sem,seval,-List.reduceReplicate]
 (repeat refine .z rfl ?_);refine .text ?_;simp (disch:=first|exact dsc|fail) only [go_sem,seval,-List.reduceReplicate]
 cases c1:k == 1 with
 | true =>
  obtain rfl:k=1:=by simpa using c1
  simp only [if_true,reduceIte,Int.reduceEq] at h
  (repeat refine .z rfl ?_);refine .text ?_;simp (disch:=first|exact dsc|fail) only [go_sem,seval,-List.reduceReplicate,c1]
  (repeat refine .z rfl ?_);refine .ifT (by simp (disch:=first|exact dsc|fail) only [go_sem,seval,-List.reduceReplicate]) ?_
  (repeat refine .z rfl ?_);refine .text ?_;simp (disch:=first|exact dsc|fail) only [go_sem,seval,-List.reduceReplicate]
  (repeat refine .z rfl ?_);refine .rt Tryd.func52 (by rw [Tryd.results52]) (hR := ?_);simp (disch:=first|exact dsc|fail) only [go_sem,seval,-List.reduceReplicate]
  exact h
 | false =>
  have n1 : ¬ k=1:=by simpa using c1
  rw [if_neg n1] at h
  (repeat refine .z rfl ?_);refine .text ?_;simp (disch:=first|exact dsc|fail) only [go_sem,seval,-List.reduceReplicate,c1]
  (repeat refine .z rfl ?_);refine .ifF (by simp (disch:=first|exact dsc|fail) only [go_sem,seval,-List.reduceReplicate,c1]) ?_
  cases c2:k == 2 with
  | true =>
   obtain rfl:k=2:=by simpa using c2
   simp only [if_true,reduceIte,Int.reduceEq] at h
   (repeat refine .z rfl ?_);refine .text ?_;simp (disch:=first|exact dsc|fail) only [go_sem,seval,-List.reduceReplicate,c2]
   (repeat refine .z rfl ?_);refine .ifT (by simp (disch:=first|exact dsc|fail) only [go_sem,seval,-List.reduceReplicate]) ?_
   (repeat refine .z rfl ?_);refine .text ?_;simp (disch:=first|exact dsc|fail) only [go_sem,seval,-List.reduceReplicate]
   (repeat refine .z rfl ?_);refine .rt Tryd.func52 (by rw [Tryd.results52]) (hR := ?_);simp (disch:=first|exact dsc|fail) only [go_sem,seval,-List.reduceReplicate]
   exact h
  | false =>
   have n2 : ¬ k=2:=by simpa using c2
   rw [if_neg n2] at h
   (repeat refine .z rfl ?_);refine .text ?_;simp (disch:=first|exact dsc|fail) only [go_sem,seval,-List.reduceReplicate,c2]
   (repeat refine .z rfl ?_);refine .ifF (by simp (disch:=first|exact dsc|fail) only [go_sem,seval,-List.reduceReplicate,c2]) ?_
   cases c3:k == 3 with
   | true =>
    obtain rfl:k=3:=by simpa using c3
    simp only [if_true,reduceIte,Int.reduceEq] at h
    (repeat refine .z rfl ?_);refine .text ?_;simp (disch:=first|exact dsc|fail) only [go_sem,seval,-List.reduceReplicate,c3]
    (repeat refine .z rfl ?_);refine .ifT (by simp (disch:=first|exact dsc|fail) only [go_sem,seval,-List.reduceReplicate]) ?_
    (repeat refine .z rfl ?_);refine .text ?_;simp (disch:=first|exact dsc|fail) only [go_sem,seval,-List.reduceReplicate]
    (repeat refine .z rfl ?_);refine .rt Tryd.func52 (by rw [Tryd.results52]) (hR := ?_);simp (disch:=first|exact dsc|fail) only [go_sem,seval,-List.reduceReplicate]
    exact h
   | false =>
    have n3 : ¬ k=3:=by simpa using c3
    rw [if_neg n3] at h
    (repeat refine .z rfl ?_);refine .text ?_;simp (disch:=first|exact dsc|fail) only [go_sem,seval,-List.reduceReplicate,c3]
    (repeat refine .z rfl ?_);refine .ifF (by simp (disch:=first|exact dsc|fail) only [go_sem,seval,-List.reduceReplicate,c3]) ?_
    cases c4:k == 4 with
    | true =>
     obtain rfl:k=4:=by simpa using c4
     simp only [if_true,reduceIte,Int.reduceEq] at h
     (repeat refine .z rfl ?_);refine .text ?_;simp (disch:=first|exact dsc|fail) only [go_sem,seval,-List.reduceReplicate,c4]
     (repeat refine .z rfl ?_);refine .ifT (by simp (disch:=first|exact dsc|fail) only [go_sem,seval,-List.reduceReplicate]) ?_
     (repeat refine .z rfl ?_);refine .text ?_;simp (disch:=first|exact dsc|fail) only [go_sem,seval,-List.reduceReplicate]
     cases q:decide ((2:Int)≤s) with
     | true =>
      rw [q] at h
      have hs:0≤s:=by have:=of_decide_eq_true q;omega
      simp (disch:=first|exact dsc|fail) only [go_sem,seval,-List.reduceReplicate,q]
      (repeat refine .z rfl ?_);refine .rt Tryd.func52 (by rw [Tryd.results52]) (hR := ?_);simp (disch:=first|exact dsc|fail) only [go_sem,seval,-List.reduceReplicate]
      exact h
     | false =>
      rw [q] at h
      simp (disch:=first|exact dsc|fail) only [go_sem,seval,-List.reduceReplicate,q]
      (repeat refine .z rfl ?_);refine .rt Tryd.func52 (by rw [Tryd.results52]) (hR := ?_);simp (disch:=first|exact dsc|fail) only [go_sem,seval,-List.reduceReplicate]
      exact h
    | false =>
     have n4 : ¬ k=4:=by simpa using c4
     rw [if_neg n4] at h
     (repeat refine .z rfl ?_);refine .text ?_;simp (disch:=first|exact dsc|fail) only [go_sem,seval,-List.reduceReplicate,c4]
     (repeat refine .z rfl ?_);refine .ifF (by simp (disch:=first|exact dsc|fail) only [go_sem,seval,-List.reduceReplicate,c4]) ?_
     cases c5:k == 5 with
     | true =>
      obtain rfl:k=5:=by simpa using c5
      simp only [if_true,reduceIte,Int.reduceEq] at h
      (repeat refine .z rfl ?_);refine .text ?_;simp (disch:=first|exact dsc|fail) only [go_sem,seval,-List.reduceReplicate,c5]
      (repeat refine .z rfl ?_);refine .ifT (by simp (disch:=first|exact dsc|fail) only [go_sem,seval,-List.reduceReplicate]) ?_
      (repeat refine .z rfl ?_);refine .text ?_;simp (disch:=first|exact dsc|fail) only [go_sem,seval,-List.reduceReplicate]
      cases q:decide ((5:Int)≤s) with
      | true =>
       rw [q] at h
       have hs:0≤s:=by have:=of_decide_eq_true q;omega
       simp (disch:=first|exact dsc|fail) only [go_sem,seval,-List.reduceReplicate,q]
       (repeat refine .z rfl ?_);refine .rt Tryd.func52 (by rw [Tryd.results52]) (hR := ?_);simp (disch:=first|exact dsc|fail) only [go_sem,seval,-List.reduceReplicate]
       exact h
      | false =>
       rw [q] at h
       simp (disch:=first|exact dsc|fail) only [go_sem,seval,-List.reduceReplicate,q]
       (repeat refine .z rfl ?_);refine .rt Tryd.func52 (by rw [Tryd.results52]) (hR := ?_);simp (disch:=first|exact dsc|fail) only [go_sem,seval,-List.reduceReplicate]
       exact h
     | false =>
      have n5 : ¬ k=5:=by simpa using c5
      rw [if_neg n5] at h
      (repeat refine .z rfl ?_);refine .text ?_;simp (disch:=first|exact dsc|fail) only [go_sem,seval,-List.reduceReplicate,c5]
      (repeat refine .z rfl ?_);refine .ifF (by simp (disch:=first|exact dsc|fail) only [go_sem,seval,-List.reduceReplicate,c5]) ?_
      cases c6:k == 6 with
      | true =>
       obtain rfl:k=6:=by simpa using c6
       simp only [if_true,reduceIte,Int.reduceEq] at h
       (repeat refine .z rfl ?_);refine .text ?_;simp (disch:=first|exact dsc|fail) only [go_sem,seval,-List.reduceReplicate,c6]
       (repeat refine .z rfl ?_);refine .ifT (by simp (disch:=first|exact dsc|fail) only [go_sem,seval,-List.reduceReplicate]) ?_
       (repeat refine .z rfl ?_);refine .text ?_;simp (disch:=first|exact dsc|fail) only [go_sem,seval,-List.reduceReplicate]
       cases q:decide ((4:Int)≤s) with
       | true =>
        rw [q] at h
        have hs:0≤s:=by have:=of_decide_eq_true q;omega
        simp (disch:=first|exact dsc|fail) only [go_sem,seval,-List.reduceReplicate,q]
        (repeat refine .z rfl ?_);refine .rt Tryd.func52 (by rw [Tryd.results52]) (hR := ?_);simp (disch:=first|exact dsc|fail) only [go_sem,seval,-List.reduceReplicate]
        exact h
       | false =>
        rw [q] at h
        simp (disch:=first|exact dsc|fail) only [go_sem,seval,-List.reduceReplicate,q]
        (repeat refine .z rfl ?_);refine .rt Tryd.func52 (by rw [Tryd.results52]) (hR := ?_);simp (disch:=first|exact dsc|fail) only [go_sem,seval,-List.reduceReplicate]
        exact h
      | false =>
       have n6 : ¬ k=6:=by simpa using c6
       rw [if_neg n6] at h
       (repeat refine .z rfl ?_);refine .text ?_;simp (disch:=first|exact dsc|fail) only [go_sem,seval,-List.reduceReplicate,c6]
       (repeat refine .z rfl ?_);refine .ifF (by simp (disch:=first|exact dsc|fail) only [go_sem,seval,-List.reduceReplicate,c6]) ?_
       cases c7:k == 7 with
       | true =>
        obtain rfl:k=7:=by simpa using c7
        simp only [if_true,reduceIte,Int.reduceEq] at h
        (repeat refine .z rfl ?_);refine .text ?_;simp (disch:=first|exact dsc|fail) only [go_sem,seval,-List.reduceReplicate,c7]
        (repeat refine .z rfl ?_);refine .ifT (by simp (disch:=first|exact dsc|fail) only [go_sem,seval,-List.reduceReplicate]) ?_
        (repeat refine .z rfl ?_);refine .text ?_;simp (disch:=first|exact dsc|fail) only [go_sem,seval,-List.reduceReplicate]
        cases q:decide ((2:Int)≤s) with
        | true =>
         rw [q] at h
         have hs:0≤s:=by have:=of_decide_eq_true q;omega
         simp (disch:=first|exact dsc|fail) only [go_sem,seval,-List.reduceReplicate,q]
         (repeat refine .z rfl ?_);refine .rt Tryd.func52 (by rw [Tryd.results52]) (hR := ?_);simp (disch:=first|exact dsc|fail) only [go_sem,seval,-List.reduceReplicate]
         exact h
        | false =>
         rw [q] at h
         simp (disch:=first|exact dsc|fail) only [go_sem,seval,-List.reduceReplicate,q]
         (repeat refine .z rfl ?_);refine .rt Tryd.func52 (by rw [Tryd.results52]) (hR := ?_);simp (disch:=first|exact dsc|fail) only [go_sem,seval,-List.reduceReplicate]
         exact h
       | false =>
        have n7 : ¬ k=7:=by simpa using c7
        rw [if_neg n7] at h
        (repeat refine .z rfl ?_);refine .text ?_;simp (disch:=first|exact dsc|fail) only [go_sem,seval,-List.reduceReplicate,c7]
        (repeat refine .z rfl ?_);refine .ifF (by simp (disch:=first|exact dsc|fail) only [go_sem,seval,-List.reduceReplicate,c7]) ?_
        (repeat refine .z rfl ?_);refine .text ?_;simp (disch:=first|exact dsc|fail) only [go_sem,seval,-List.reduceReplicate]
        (repeat refine .z rfl ?_);refine .rt Tryd.func52 (by rw [Tryd.results52]) (hR := ?_);simp (disch:=first|exact dsc|fail) only [go_sem,seval,-List.reduceReplicate]
        exact h
end walks
end Go.Proofs.YtmoecjgehdkhkaaDoor

/-
  Sessions: the reference's validity and encoding.
-/
namespace Go.Proofs.YtmoecjgehdkhkaaDoor
open Go Go.AL

def contR (m:Msg):Bool:=if m.kind=1 then ((((decide (1≤(m.text.length:Int))) && (decide ((m.text.length:Int)≤400))) && ((m.sums.length:Int) == 0)) && ((m.values.length:Int) == 0)) else if m.kind=3 then ((((m.text.length:Int) == 0) && (decide ((m.sums.length:Int)≤64))) && ((m.values.length:Int) == 0)) else if m.kind=4 then ((((m.text.length:Int) == 0) && ((m.sums.length:Int) == 0)) && ((m.values.length:Int) == 1)) else if m.kind=5 then ((((m.text.length:Int) == 0) && ((m.sums.length:Int) == 0)) && (decide ((m.values.length:Int)≤64))) else ((((m.text.length:Int) == 0) && ((m.sums.length:Int) == 0)) && ((m.values.length:Int) == 0))
theorem contR_eq (m:Msg):contR m=holds m.kind m.text.length m.sums.length m.values.length:=by
 unfold contR holds
 (repeat' split)<;>rw [Bool.eq_iff_iff]<;>simp only [Bool.and_eq_true,decide_eq_true_eq,beq_iff_eq]<;>omega
section walks
variable {G:Globs}
theorem Valid1_spec (x:U) (H:Hp) (R:AV → Hp → Prop) (h:R (.p (bo (fOK x))) H):ACall Tryd.prog G 87 [.p (w64 x)] H R:=by
 refine ACall.of_run (raw:=[]) Tryd.func87 rfl Tryd.ntmps87 (by simp) fun hbel => ?_
 (repeat refine .z rfl ?_);refine .text ?_;simp (disch:=first|exact dsc|fail) only [go_sem,seval]
 (repeat refine .z rfl ?_);refine .text ?_;simp (disch:=first|exact dsc|fail) only [go_sem,seval]
 (repeat refine .z rfl ?_);refine .rt Tryd.func87 (by rw [Tryd.results87]) (hR := ?_);simp (disch:=first|exact dsc|fail) only [go_sem,seval]
 exact h
theorem Valid2_spec (x:Ext) (H:Hp) (R:AV → Hp → Prop) (h:R (.p (bo (extOK x))) H):ACall Tryd.prog G 85 [.p (ext x)] H R:=by
 unfold extOK at h
 refine ACall.of_run (raw:=[]) Tryd.func85 rfl Tryd.ntmps85 (by simp) fun hbel => ?_
 (repeat refine .z rfl ?_);refine .text ?_;simp (disch:=first|exact dsc|fail) only [go_sem,seval]
 (repeat refine .z rfl ?_);refine .text ?_;simp (disch:=first|exact dsc|fail) only [go_sem,seval]
 refine CallK.of (fun R h=>Valid1_spec _ _ R h) ?_;simp (disch:=first|exact dsc|fail) only [go_sem,seval]
 cases h1:fOK x.a with
 | true =>
  simp (disch:=first|exact dsc|fail) only [go_sem,seval]
  refine CallK.of (fun R h=>Valid1_spec _ _ R h) ?_;simp (disch:=first|exact dsc|fail) only [go_sem,seval]
  (repeat refine .z rfl ?_);refine .rt Tryd.func85 (by rw [Tryd.results85]) (hR := ?_);simp (disch:=first|exact dsc|fail) only [go_sem,seval]
  simpa [h1] using h
 | false =>
  simp (disch:=first|exact dsc|fail) only [go_sem,seval]
  (repeat refine .z rfl ?_);refine .rt Tryd.func85 (by rw [Tryd.results85]) (hR := ?_);simp (disch:=first|exact dsc|fail) only [go_sem,seval]
  simpa [h1] using h
set_option maxHeartbeats 8000000 in
theorem contents_spec (m:Msg) (hm:m.Ok) (H:Hp) (R:AV → Hp → Prop) (h:R (.p (bo (holds m.kind m.text.length m.sums.length m.values.length && !m.values.any fun x => !extOK x))) H):ACall Tryd.prog G 71 [.p (msg m)] H R:=by
 have ht:=hm.text
 have hsu:=hm.sums
 have hva:=hm.values
 rw [←contR_eq] at h
 refine ACall.of_run (raw:=[]) Tryd.func71 rfl Tryd.ntmps71 (by simp) fun hbel => ?_
 (repeat refine .z rfl ?_);refine .text ?_;simp (disch:=first|exact dsc|fail) only [go_sem,seval]
 (repeat refine .z rfl ?_);refine .open [] follows (by kernel_rfl) ?_;simp (disch:=first|exact dsc|fail) only [go_sem,seval]
 (repeat refine .z rfl ?_);refine .text ?_;simp (disch:=first|exact dsc|fail) only [go_sem,seval]
 (repeat refine .z rfl ?_);refine .loopE [1,3,4,5] (fun i=>[(6,.p (i64 i)),(2,.p (bo false))]) (fun i=>[]) (fun i => ∀ j,j < i → (!extOK (nth m.values j))=false) (0) (m.values.length) (by omega) ?_ (by first | rfl | (simp (disch:=first|exact dsc|fail) only [go_sem,seval]<;>rfl)) ?_ ?_ ?_
 · simp (disch:=first|exact dsc|fail) only [go_sem,seval]<;>(repeat' (first | rfl | refine And.intro ?_ ?_))
 rotate_left 1
 intro env E hQ;simp (disch:=first|exact dsc|fail) only [go_sem,seval] at E
 rotate_left 1
 intro i env hi0 hi E hQ ihE;simp (disch:=first|exact dsc|fail) only [go_sem,seval] at E
 rotate_left 1
 · exact fun j hj=>absurd hj (by omega)
 · have hn:=any_not (p:=fun x => !extOK x) hQ
   rw [hn,Bool.not_false,Bool.and_true] at h
   unfold contR at h
   (repeat refine .z rfl ?_);refine .text ?_;simp (disch:=first|exact dsc|fail) only [go_sem,seval,E]
   (repeat refine .z rfl ?_);refine .ifF (by simp (disch:=first|exact dsc|fail) only [go_sem,seval]) ?_
   (repeat refine .z rfl ?_);refine .text ?_;simp (disch:=first|exact dsc|fail) only [go_sem,seval,E]
   cases c1:m.kind == 1 with
   | true =>
    have k1:m.kind=1:=by simpa using c1
    simp only [k1,if_true,reduceIte,Int.reduceEq] at h
    (repeat refine .z rfl ?_);refine .text ?_;simp (disch:=first|exact dsc|fail) only [go_sem,seval,c1]
    (repeat refine .z rfl ?_);refine .ifT (by simp (disch:=first|exact dsc|fail) only [go_sem,seval]) ?_
    (repeat refine .z rfl ?_);refine .text ?_;simp (disch:=first|exact dsc|fail) only [go_sem,seval,E]
    cases a0:(decide (1≤(m.text.length:Int))) with
    | false =>
     rw [a0] at h
     (try simp (disch:=first|exact dsc|fail) only [go_sem,seval,E,a0])
     (repeat refine .z rfl ?_);refine .rt Tryd.func71 (by rw [Tryd.results71]) (hR := ?_);simp (disch:=first|exact dsc|fail) only [go_sem,seval]
     simpa using h
    | true =>
     rw [a0] at h
     (try simp (disch:=first|exact dsc|fail) only [go_sem,seval,E,a0])
     cases a1:(decide ((m.text.length:Int)≤400)) with
     | false =>
      rw [a1] at h
      (try simp (disch:=first|exact dsc|fail) only [go_sem,seval,E,a1])
      (repeat refine .z rfl ?_);refine .rt Tryd.func71 (by rw [Tryd.results71]) (hR := ?_);simp (disch:=first|exact dsc|fail) only [go_sem,seval]
      simpa using h
     | true =>
      rw [a1] at h
      (try simp (disch:=first|exact dsc|fail) only [go_sem,seval,E,a1])
      cases a2:((m.sums.length:Int) == 0) with
      | false =>
       rw [a2] at h
       (try simp (disch:=first|exact dsc|fail) only [go_sem,seval,E,a2])
       (repeat refine .z rfl ?_);refine .rt Tryd.func71 (by rw [Tryd.results71]) (hR := ?_);simp (disch:=first|exact dsc|fail) only [go_sem,seval]
       simpa using h
      | true =>
       rw [a2] at h
       (try simp (disch:=first|exact dsc|fail) only [go_sem,seval,E,a2])
       cases a3:((m.values.length:Int) == 0) with
       | false =>
        rw [a3] at h
        (try simp (disch:=first|exact dsc|fail) only [go_sem,seval,E,a3])
        (repeat refine .z rfl ?_);refine .rt Tryd.func71 (by rw [Tryd.results71]) (hR := ?_);simp (disch:=first|exact dsc|fail) only [go_sem,seval]
        simpa using h
       | true =>
        rw [a3] at h
        (try simp (disch:=first|exact dsc|fail) only [go_sem,seval,E,a3])
        (repeat refine .z rfl ?_);refine .rt Tryd.func71 (by rw [Tryd.results71]) (hR := ?_);simp (disch:=first|exact dsc|fail) only [go_sem,seval]
        simpa using h
   | false =>
    have n1 : ¬ m.kind=1:=by simpa using c1
    rw [if_neg n1] at h
    (repeat refine .z rfl ?_);refine .text ?_;simp (disch:=first|exact dsc|fail) only [go_sem,seval,c1]
    (repeat refine .z rfl ?_);refine .ifF (by simp (disch:=first|exact dsc|fail) only [go_sem,seval]) ?_
    cases c3:m.kind == 3 with
    | true =>
     have k3:m.kind=3:=by simpa using c3
     simp only [k3,if_true,reduceIte,Int.reduceEq] at h
     (repeat refine .z rfl ?_);refine .text ?_;simp (disch:=first|exact dsc|fail) only [go_sem,seval,c3]
     (repeat refine .z rfl ?_);refine .ifT (by simp (disch:=first|exact dsc|fail) only [go_sem,seval]) ?_
     (repeat refine .z rfl ?_);refine .text ?_;simp (disch:=first|exact dsc|fail) only [go_sem,seval,E]
     cases a0:((m.text.length:Int) == 0) with
     | false =>
      rw [a0] at h
      (try simp (disch:=first|exact dsc|fail) only [go_sem,seval,E,a0])
      (repeat refine .z rfl ?_);refine .rt Tryd.func71 (by rw [Tryd.results71]) (hR := ?_);simp (disch:=first|exact dsc|fail) only [go_sem,seval]
      simpa using h
     | true =>
      rw [a0] at h
      (try simp (disch:=first|exact dsc|fail) only [go_sem,seval,E,a0])
      cases a1:(decide ((m.sums.length:Int)≤64)) with
      | false =>
       rw [a1] at h
       (try simp (disch:=first|exact dsc|fail) only [go_sem,seval,E,a1])
       (repeat refine .z rfl ?_);refine .rt Tryd.func71 (by rw [Tryd.results71]) (hR := ?_);simp (disch:=first|exact dsc|fail) only [go_sem,seval]
       simpa using h
      | true =>
       rw [a1] at h
       (try simp (disch:=first|exact dsc|fail) only [go_sem,seval,E,a1])
       cases a2:((m.values.length:Int) == 0) with
       | false =>
        rw [a2] at h
        (try simp (disch:=first|exact dsc|fail) only [go_sem,seval,E,a2])
        (repeat refine .z rfl ?_);refine .rt Tryd.func71 (by rw [Tryd.results71]) (hR := ?_);simp (disch:=first|exact dsc|fail) only [go_sem,seval]
        simpa using h
       | true =>
        rw [a2] at h
        (try simp (disch:=first|exact dsc|fail) only [go_sem,seval,E,a2])
        (repeat refine .z rfl ?_);refine .rt Tryd.func71 (by rw [Tryd.results71]) (hR := ?_);simp (disch:=first|exact dsc|fail) only [go_sem,seval]
        simpa using h
    | false =>
     have n3 : ¬ m.kind=3:=by simpa using c3
     rw [if_neg n3] at h
     (repeat refine .z rfl ?_);refine .text ?_;simp (disch:=first|exact dsc|fail) only [go_sem,seval,c3]
     (repeat refine .z rfl ?_);refine .ifF (by simp (disch:=first|exact dsc|fail) only [go_sem,seval]) ?_
     cases c4:m.kind == 4 with
     | true =>
      have k4:m.kind=4:=by simpa using c4
      simp only [k4,if_true,reduceIte,Int.reduceEq] at h
      (repeat refine .z rfl ?_);refine .text ?_;simp (disch:=first|exact dsc|fail) only [go_sem,seval,c4]
      (repeat refine .z rfl ?_);refine .ifT (by simp (disch:=first|exact dsc|fail) only [go_sem,seval]) ?_
      (repeat refine .z rfl ?_);refine .text ?_;simp (disch:=first|exact dsc|fail) only [go_sem,seval,E]
      cases a0:((m.text.length:Int) == 0) with
      | false =>
       rw [a0] at h
       (try simp (disch:=first|exact dsc|fail) only [go_sem,seval,E,a0])
       (repeat refine .z rfl ?_);refine .rt Tryd.func71 (by rw [Tryd.results71]) (hR := ?_);simp (disch:=first|exact dsc|fail) only [go_sem,seval]
       simpa using h
      | true =>
       rw [a0] at h
       (try simp (disch:=first|exact dsc|fail) only [go_sem,seval,E,a0])
       cases a1:((m.sums.length:Int) == 0) with
       | false =>
        rw [a1] at h
        (try simp (disch:=first|exact dsc|fail) only [go_sem,seval,E,a1])
        (repeat refine .z rfl ?_);refine .rt Tryd.func71 (by rw [Tryd.results71]) (hR := ?_);simp (disch:=first|exact dsc|fail) only [go_sem,seval]
        simpa using h
       | true =>
        rw [a1] at h
        (try simp (disch:=first|exact dsc|fail) only [go_sem,seval,E,a1])
        cases a2:((m.values.length:Int) == 1) with
        | false =>
         rw [a2] at h
         (try simp (disch:=first|exact dsc|fail) only [go_sem,seval,E,a2])
         (repeat refine .z rfl ?_);refine .rt Tryd.func71 (by rw [Tryd.results71]) (hR := ?_);simp (disch:=first|exact dsc|fail) only [go_sem,seval]
         simpa using h
        | true =>
         rw [a2] at h
         (try simp (disch:=first|exact dsc|fail) only [go_sem,seval,E,a2])
         (repeat refine .z rfl ?_);refine .rt Tryd.func71 (by rw [Tryd.results71]) (hR := ?_);simp (disch:=first|exact dsc|fail) only [go_sem,seval]
         simpa using h
     | false =>
      have n4 : ¬ m.kind=4:=by simpa using c4
      rw [if_neg n4] at h
      (repeat refine .z rfl ?_);refine .text ?_;simp (disch:=first|exact dsc|fail) only [go_sem,seval,c4]
      (repeat refine .z rfl ?_);refine .ifF (by simp (disch:=first|exact dsc|fail) only [go_sem,seval]) ?_
      cases c5:m.kind == 5 with
      | true =>
       have k5:m.kind=5:=by simpa using c5
       simp only [k5,if_true,reduceIte,Int.reduceEq] at h
       (repeat refine .z rfl ?_);refine .text ?_;simp (disch:=first|exact dsc|fail) only [go_sem,seval,c5]
       (repeat refine .z rfl ?_);refine .ifT (by simp (disch:=first|exact dsc|fail) only [go_sem,seval]) ?_
       (repeat refine .z rfl ?_);refine .text ?_;simp (disch:=first|exact dsc|fail) only [go_sem,seval,E]
       cases a0:((m.text.length:Int) == 0) with
       | false =>
        rw [a0] at h
        (try simp (disch:=first|exact dsc|fail) only [go_sem,seval,E,a0])
        (repeat refine .z rfl ?_);refine .rt Tryd.func71 (by rw [Tryd.results71]) (hR := ?_);simp (disch:=first|exact dsc|fail) only [go_sem,seval]
        simpa using h
       | true =>
        rw [a0] at h
        (try simp (disch:=first|exact dsc|fail) only [go_sem,seval,E,a0])
        cases a1:((m.sums.length:Int) == 0) with
        | false =>
         rw [a1] at h
         (try simp (disch:=first|exact dsc|fail) only [go_sem,seval,E,a1])
         (repeat refine .z rfl ?_);refine .rt Tryd.func71 (by rw [Tryd.results71]) (hR := ?_);simp (disch:=first|exact dsc|fail) only [go_sem,seval]
         simpa using h
        | true =>
         rw [a1] at h
         (try simp (disch:=first|exact dsc|fail) only [go_sem,seval,E,a1])
         cases a2:(decide ((m.values.length:Int)≤64)) with
         | false =>
          rw [a2] at h
          (try simp (disch:=first|exact dsc|fail) only [go_sem,seval,E,a2])
          (repeat refine .z rfl ?_);refine .rt Tryd.func71 (by rw [Tryd.results71]) (hR := ?_);simp (disch:=first|exact dsc|fail) only [go_sem,seval]
          simpa using h
         | true =>
          rw [a2] at h
          (try simp (disch:=first|exact dsc|fail) only [go_sem,seval,E,a2])
          (repeat refine .z rfl ?_);refine .rt Tryd.func71 (by rw [Tryd.results71]) (hR := ?_);simp (disch:=first|exact dsc|fail) only [go_sem,seval]
          simpa using h
      | false =>
       have n5 : ¬ m.kind=5:=by simpa using c5
       rw [if_neg n5] at h
       (repeat refine .z rfl ?_);refine .text ?_;simp (disch:=first|exact dsc|fail) only [go_sem,seval,c5]
       (repeat refine .z rfl ?_);refine .ifF (by simp (disch:=first|exact dsc|fail) only [go_sem,seval]) ?_
       (repeat refine .z rfl ?_);refine .text ?_;simp (disch:=first|exact dsc|fail) only [go_sem,seval,E]
       cases a0:((m.text.length:Int) == 0) with
       | false =>
        rw [a0] at h
        (try simp (disch:=first|exact dsc|fail) only [go_sem,seval,E,a0])
        (repeat refine .z rfl ?_);refine .rt Tryd.func71 (by rw [Tryd.results71]) (hR := ?_);simp (disch:=first|exact dsc|fail) only [go_sem,seval]
        simpa using h
       | true =>
        rw [a0] at h
        (try simp (disch:=first|exact dsc|fail) only [go_sem,seval,E,a0])
        cases a1:((m.sums.length:Int) == 0) with
        | false =>
         rw [a1] at h
         (try simp (disch:=first|exact dsc|fail) only [go_sem,seval,E,a1])
         (repeat refine .z rfl ?_);refine .rt Tryd.func71 (by rw [Tryd.results71]) (hR := ?_);simp (disch:=first|exact dsc|fail) only [go_sem,seval]
         simpa using h
        | true =>
         rw [a1] at h
         (try simp (disch:=first|exact dsc|fail) only [go_sem,seval,E,a1])
         cases a2:((m.values.length:Int) == 0) with
         | false =>
          rw [a2] at h
          (try simp (disch:=first|exact dsc|fail) only [go_sem,seval,E,a2])
          (repeat refine .z rfl ?_);refine .rt Tryd.func71 (by rw [Tryd.results71]) (hR := ?_);simp (disch:=first|exact dsc|fail) only [go_sem,seval]
          simpa using h
         | true =>
          rw [a2] at h
          (try simp (disch:=first|exact dsc|fail) only [go_sem,seval,E,a2])
          (repeat refine .z rfl ?_);refine .rt Tryd.func71 (by rw [Tryd.results71]) (hR := ?_);simp (disch:=first|exact dsc|fail) only [go_sem,seval]
          simpa using h
 · (repeat refine .z rfl ?_);refine .text ?_;simp (disch:=first|exact dsc|fail) only [go_sem,seval,E]
   (repeat refine .z rfl ?_);refine .ifT (by simp (disch:=first|exact dsc|fail) only [go_sem,seval]) ?_
   (repeat refine .z rfl ?_);refine .text ?_;simp (disch:=first|exact dsc|fail) only [go_sem,seval,E]
   refine CallK.of (fun R h=>Valid2_spec _ _ R h) ?_;simp (disch:=first|exact dsc|fail) only [go_sem,seval]
   cases hc:extOK (nth m.values i) with
   | false =>
    have hn:=any_of (p:=fun x => !extOK x) hi (by rw [hc];rfl)
    rw [hn,Bool.not_true,Bool.and_false] at h
    (repeat refine .z rfl ?_);refine .ifT (by simp (disch:=first|exact dsc|fail) only [go_sem,seval,hc]) ?_
    (repeat refine .z rfl ?_);refine .text ?_;simp (disch:=first|exact dsc|fail) only [go_sem,seval,E]
    (repeat refine .z rfl ?_);refine .rt Tryd.func71 (by rw [Tryd.results71]) (hR := ?_);simp (disch:=first|exact dsc|fail) only [go_sem,seval]
    exact h
   | true =>
    have hn : ∀ j,j < i+1 → (!extOK (nth m.values j))=false:=fun j hj=>by
     rcases Nat.lt_or_ge j i with q | q
     · exact hQ j q
     · rw [show j=i by omega,hc];rfl
    (repeat refine .z rfl ?_);refine .ifF (by simp (disch:=first|exact dsc|fail) only [go_sem,seval,hc]) ?_
    (repeat refine .z rfl ?_);refine .text ?_;simp (disch:=first|exact dsc|fail) only [go_sem,seval,E]
    first | (refine ihE _ _ ?_ hn ?_) | (refine .z rfl ?_;refine ihE _ _ ?_ hn ?_) | (refine .z rfl ?_;refine .z rfl ?_;refine ihE _ _ ?_ hn ?_) | (refine .z rfl ?_;refine .z rfl ?_;refine .z rfl ?_;refine ihE _ _ ?_ hn ?_)
    · simp (disch:=first|exact dsc|fail) only [go_sem,seval,E]<;>(repeat' (first | rfl | refine And.intro ?_ ?_))
    · first | rfl | (simp (disch:=first|exact dsc|fail) only [go_sem,seval,E]<;>(try rfl))
theorem Valid29_spec (m:Msg) (hm:m.Ok) (H:Hp) (R:AV → Hp → Prop) (h:R (.p (bo (valid m))) H):ACall Tryd.prog G 42 [.p (msg m)] H R:=by
 unfold valid at h
 refine ACall.of_run (raw:=[]) Tryd.func42 rfl Tryd.ntmps42 (by simp) fun hbel => ?_
 (repeat refine .z rfl ?_);refine .text ?_;simp (disch:=first|exact dsc|fail) only [go_sem,seval]
 (repeat refine .z rfl ?_);refine .text ?_;simp (disch:=first|exact dsc|fail) only [go_sem,seval]
 refine CallK.of (fun R h=>inRange_spec _ _ R h) ?_;simp (disch:=first|exact dsc|fail) only [go_sem,seval]
 cases v1:small m.session with
 | false =>
  rw [v1] at h
  simp (disch:=first|exact dsc|fail) only [go_sem,seval]
  (repeat refine .z rfl ?_);refine .rt Tryd.func42 (by rw [Tryd.results42]) (hR := ?_);simp (disch:=first|exact dsc|fail) only [go_sem,seval]
  exact h
 | true =>
  rw [v1] at h
  simp (disch:=first|exact dsc|fail) only [go_sem,seval]
  refine CallK.of (fun R h=>inRange_spec _ _ R h) ?_;simp (disch:=first|exact dsc|fail) only [go_sem,seval]
  cases v2:small m.step with
  | false =>
   rw [v2] at h
   simp (disch:=first|exact dsc|fail) only [go_sem,seval]
   (repeat refine .z rfl ?_);refine .rt Tryd.func42 (by rw [Tryd.results42]) (hR := ?_);simp (disch:=first|exact dsc|fail) only [go_sem,seval]
   exact h
  | true =>
   rw [v2] at h
   simp (disch:=first|exact dsc|fail) only [go_sem,seval]
   refine CallK.of (fun R h=>fits29_spec _ _ _ R h) ?_;simp (disch:=first|exact dsc|fail) only [go_sem,seval]
   cases v3:fits m.kind m.step with
   | false =>
    rw [v3] at h
    simp (disch:=first|exact dsc|fail) only [go_sem,seval]
    (repeat refine .z rfl ?_);refine .rt Tryd.func42 (by rw [Tryd.results42]) (hR := ?_);simp (disch:=first|exact dsc|fail) only [go_sem,seval]
    exact h
   | true =>
    rw [v3] at h
    simp (disch:=first|exact dsc|fail) only [go_sem,seval]
    refine CallK.of (fun R h=>contents_spec m hm _ R h) ?_;simp (disch:=first|exact dsc|fail) only [go_sem,seval]
    (repeat refine .z rfl ?_);refine .rt Tryd.func42 (by rw [Tryd.results42]) (hR := ?_);simp (disch:=first|exact dsc|fail) only [go_sem,seval]
    simpa [Bool.and_assoc] using h
end walks
end Go.Proofs.YtmoecjgehdkhkaaDoor

/-
  Sessions: the reference's encoding.
-/
namespace Go.Proofs.YtmoecjgehdkhkaaDoor
open Go Go.AL

theorem conv_str_bytes {P:Program} {H:Hp} {s d:TypeId} {l:By} (hs:P.underlying s=some .string) (hd:isBytesT P d=true) (hl:l.length≤140737488355000):aConv P H s d (.p (str (bytesOf l)))=some (.p (.sl false 1 (pl b8 l))):=by
 obtain ⟨e,h1,h2,h3⟩:=isBytesT_inv hd
 have hz:(bytesOf l).size≤9223372036854775806:=by rw [bytesOf_size];omega
 have:=str_elems (l:=l)
 simp only [aConv,hs,h1,aStrBytes,h2,str,hz,if_true,this]
section walks
variable {G:Globs}
set_option maxHeartbeats 4000000 in
theorem number_spec (b:By) (x:U) (n:Nat) (hn:n≤8) (hb:b.length+n≤140737488355000) (α v:Nat) (H:Hp) (hα:H.f α=some (.tail v)) (R:AV → Hp → Prop) (h:R (.sl α (v+n) 1 (pl b8 (b++le x n))) (H.set α (.tail (v+n)))) :
 ACall Tryd.prog G 43 [.sl α v 1 (pl b8 b),.p (w64 x),.p (i64 n)] H R:=by
 refine ACall.of_run (raw:=[]) Tryd.func43 rfl Tryd.ntmps43 (by simp) fun hbel => ?_
 have hαn:=Hp.lt hα
 have hs0:H.set α (.tail v)=H:=Hp.set_same H _ α hα
 (repeat refine .z rfl ?_);refine .text ?_;simp (disch:=first|exact dsc|fail) only [go_sem,seval]
 (repeat refine .z rfl ?_);refine .text ?_;simp (disch:=first|exact dsc|fail) only [go_sem,seval]
 (repeat refine .z rfl ?_);refine .loopH [1,2] (fun i=>[(0,.sl α (v+i) 1 (pl b8 (b++le x i))),(7,.p (i64 i))]) (fun i=>H.set α (.tail (v+i))) (fun i=>True) (0) (n) (by omega) ?_ (by first | rfl | (simp (disch:=first|exact dsc|fail) only [go_sem,seval,le,hs0,List.append_nil,Nat.mul_zero,BitVec.ushiftRight_zero]<;>rfl)) ?_ ?_ ?_
 · simp (disch:=first|exact dsc|fail) only [go_sem,seval,le,hs0,List.append_nil,Nat.mul_zero,BitVec.ushiftRight_zero]<;>(repeat' (first | rfl | refine And.intro ?_ ?_))
 · exact trivial
 intro env E hQ;simp (disch:=first|exact dsc|fail) only [go_sem,seval,le,hs0,List.append_nil,Nat.mul_zero,BitVec.ushiftRight_zero] at E
 rotate_left 1
 intro i env hi0 hi E hQ ihE;simp (disch:=first|exact dsc|fail) only [go_sem,seval,le,hs0,List.append_nil,Nat.mul_zero,BitVec.ushiftRight_zero] at E
 rotate_left 1
 · (repeat refine .z rfl ?_);refine .text ?_;simp (disch:=first|exact dsc|fail) only [go_sem,seval,E]
   (repeat refine .z rfl ?_);refine .ifF (by simp (disch:=first|exact dsc|fail) only [go_sem,seval]) ?_
   (repeat refine .z rfl ?_);refine .text ?_;simp (disch:=first|exact dsc|fail) only [go_sem,seval,E]
   (repeat refine .z rfl ?_);refine .retKeep Tryd.func43 (by rw [Tryd.results43]) (by simp (disch:=first|exact dsc|fail) only [go_sem,seval,E];rfl) ?_;(try simp (disch:=first|exact dsc|fail) only [go_sem,seval,E])
   exact h
 · have hl:=le_len (x:=x) (n:=i)
   obtain ⟨k,hk,h8⟩ : ∃ k:Nat,8*i=k∧(8:Int)*(i:Int)=(k:Int):=⟨8*i,rfl,by omega⟩
   (repeat refine .z rfl ?_);refine .text ?_;simp (disch:=first|exact dsc|fail) only [go_sem,seval,E]
   (repeat refine .z rfl ?_);refine .ifT (by simp (disch:=first|exact dsc|fail) only [go_sem,seval]) ?_
   (repeat refine .z rfl ?_);refine .text ?_;simp (disch:=first|exact dsc|fail) only [go_sem,seval,E,hl,h8]
   (repeat refine .z rfl ?_);refine .text ?_;simp (disch:=first|exact dsc|fail) only [go_sem,seval,E]
   first | (refine ihE _ _ ?_ trivial ?_) | (refine .z rfl ?_;refine ihE _ _ ?_ trivial ?_) | (refine .z rfl ?_;refine .z rfl ?_;refine ihE _ _ ?_ trivial ?_) | (refine .z rfl ?_;refine .z rfl ?_;refine .z rfl ?_;refine ihE _ _ ?_ trivial ?_)
   · simp (disch:=first|exact dsc|fail) only [go_sem,seval,E,le_succ,hk,List.append_assoc,Nat.add_assoc]<;>(repeat' (first | rfl | refine And.intro ?_ ?_))
   · first | rfl | (simp (disch:=first|exact dsc|fail) only [go_sem,seval,E,le_succ,hk,List.append_assoc,Nat.add_assoc]<;>(try rfl))

set_option maxHeartbeats 4000000 in
theorem number_spec0 (b:By) (x:U) (n:Nat) (hn:n≤8) (hb:b.length+n≤140737488355000) (H:Hp) (R:AV → Hp → Prop) (h:R (.sl H.n n 1 (pl b8 (b++le x n))) (H.new (.tail n))) :
 ACall Tryd.prog G 43 [.p (.sl true 1 (pl b8 b)),.p (w64 x),.p (i64 n)] H R:=by
 refine ACall.of_run (raw:=[]) Tryd.func43 rfl Tryd.ntmps43 (by simp) fun hbel => ?_
 (repeat refine .z rfl ?_);refine .text ?_;simp (disch:=first|exact dsc|fail) only [go_sem,seval]
 (repeat refine .z rfl ?_);refine .own 0 (by simp (disch:=first|exact dsc|fail) only [go_sem,seval];rfl) ?_
 (repeat refine .z rfl ?_);refine .text ?_;simp (disch:=first|exact dsc|fail) only [go_sem,seval]
 (repeat refine .z rfl ?_);refine .loopH [1,2] (fun i=>[(0,.sl H.n i 1 (pl b8 (b++le x i))),(7,.p (i64 i))]) (fun i=>H.new (.tail i)) (fun i=>True) (0) (n) (by omega) ?_ (by first | rfl | (simp (disch:=first|exact dsc|fail) only [go_sem,seval,le,List.append_nil,Nat.mul_zero,BitVec.ushiftRight_zero]<;>rfl)) ?_ ?_ ?_
 · simp (disch:=first|exact dsc|fail) only [go_sem,seval,le,List.append_nil,Nat.mul_zero,BitVec.ushiftRight_zero]<;>(repeat' (first | rfl | refine And.intro ?_ ?_))
 · exact trivial
 intro env E hQ;simp (disch:=first|exact dsc|fail) only [go_sem,seval,le,List.append_nil,Nat.mul_zero,BitVec.ushiftRight_zero] at E
 rotate_left 1
 intro i env hi0 hi E hQ ihE;simp (disch:=first|exact dsc|fail) only [go_sem,seval,le,List.append_nil,Nat.mul_zero,BitVec.ushiftRight_zero] at E
 rotate_left 1
 · (repeat refine .z rfl ?_);refine .text ?_;simp (disch:=first|exact dsc|fail) only [go_sem,seval,E]
   (repeat refine .z rfl ?_);refine .ifF (by simp (disch:=first|exact dsc|fail) only [go_sem,seval]) ?_
   (repeat refine .z rfl ?_);refine .text ?_;simp (disch:=first|exact dsc|fail) only [go_sem,seval,E]
   (repeat refine .z rfl ?_);refine .retKeep Tryd.func43 (by rw [Tryd.results43]) (by simp (disch:=first|exact dsc|fail) only [go_sem,seval,E];rfl) ?_;(try simp (disch:=first|exact dsc|fail) only [go_sem,seval,E])
   exact h
 · have hl:=le_len (x:=x) (n:=i)
   obtain ⟨k,hk,h8⟩ : ∃ k:Nat,8*i=k∧(8:Int)*(i:Int)=(k:Int):=⟨8*i,rfl,by omega⟩
   (repeat refine .z rfl ?_);refine .text ?_;simp (disch:=first|exact dsc|fail) only [go_sem,seval,E]
   (repeat refine .z rfl ?_);refine .ifT (by simp (disch:=first|exact dsc|fail) only [go_sem,seval]) ?_
   (repeat refine .z rfl ?_);refine .text ?_;simp (disch:=first|exact dsc|fail) only [go_sem,seval,E,hl,h8]
   (repeat refine .z rfl ?_);refine .text ?_;simp (disch:=first|exact dsc|fail) only [go_sem,seval,E]
   first | (refine ihE _ _ ?_ trivial ?_) | (refine .z rfl ?_;refine ihE _ _ ?_ trivial ?_) | (refine .z rfl ?_;refine .z rfl ?_;refine ihE _ _ ?_ trivial ?_) | (refine .z rfl ?_;refine .z rfl ?_;refine .z rfl ?_;refine ihE _ _ ?_ trivial ?_)
   · simp (disch:=first|exact dsc|fail) only [go_sem,seval,E,le_succ,hk,List.append_assoc]<;>(repeat' (first | rfl | refine And.intro ?_ ?_))
   · first | rfl | (simp (disch:=first|exact dsc|fail) only [go_sem,seval,E,le_succ,hk,List.append_assoc]<;>(try rfl))

theorem Encode29_nil (m:Msg) (hm:m.Ok) (hv:valid m=false) (H:Hp) (R:AV → Hp → Prop) (h:R (.p (.s (.slice none 0 0))) H):ACall Tryd.prog G 13 [.p (msg m)] H R:=by
 refine ACall.of_run (raw:=[43]) Tryd.func13 rfl Tryd.ntmps13 (by simp) fun hbel => ?_
 (repeat refine .z rfl ?_);refine .text ?_;simp (disch:=first|exact dsc|fail) only [go_sem,seval]
 (repeat refine .z rfl ?_);refine .text ?_;simp (disch:=first|exact dsc|fail) only [go_sem,seval]
 refine CallK.of (fun R h=>Valid29_spec m hm _ R h) ?_;simp (disch:=first|exact dsc|fail) only [go_sem,seval,hv]
 (repeat refine .z rfl ?_);refine .ifT (by simp (disch:=first|exact dsc|fail) only [go_sem,seval]) ?_
 repeat refine .z rfl ?_;refine .region ?_
 refine .nilA (by simp (disch:=first|exact dsc|fail) only [go_sem,seval]<;>rfl) ?_
 refine .run ?_
 simp (disch:=first|exact dsc|fail) only [go_sem,seval]
 refine .rt Tryd.func13 (by rw [Tryd.results13]) (hR := ?_);simp (disch:=first|exact dsc|fail) only [go_sem,seval]
 exact h
set_option maxHeartbeats 8000000 in
set_option maxRecDepth 20000 in
theorem Encode29_valid (m:Msg) (hm:m.Ok) (hv:valid m=true) (H:Hp) (R:AV → Hp → Prop) (h:R (.p (.sl false 1 (pl b8 (enc0 m++(sha (enc0 m)).take 8)))) H):ACall Tryd.prog G 13 [.p (msg m)] H R:=by
 obtain ⟨b1,b2,b3⟩:=valid_b hv
 have hrl:=m.root.len
 refine ACall.of_run (raw:=[43]) Tryd.func13 rfl Tryd.ntmps13 (by simp) fun hbel => ?_
 (repeat refine .z rfl ?_);refine .text ?_;simp (disch:=first|exact dsc|fail) only [go_sem,seval]
 (repeat refine .z rfl ?_);refine .text ?_;simp (disch:=first|exact dsc|fail) only [go_sem,seval]
 refine CallK.of (fun R h=>Valid29_spec m hm _ R h) ?_;simp (disch:=first|exact dsc|fail) only [go_sem,seval,hv]
 (repeat refine .z rfl ?_);refine .ifF (by simp (disch:=first|exact dsc|fail) only [go_sem,seval]) ?_
 (repeat refine .z rfl ?_);refine .text ?_;simp (disch:=first|exact dsc|fail) only [go_sem,seval]
 (repeat refine .z rfl ?_);refine .text ?_;simp (disch:=first|exact dsc|fail) only [go_sem,seval]
 refine CallK.of (fun R h=>number_spec0 [BitVec.ofInt 8 m.kind] (BitVec.ofInt 64 m.session) 4 (by omega) (by simp) _ R h) ?_;simp (disch:=first|exact dsc|fail) only [go_sem,seval]
 generalize hx1:BitVec.ofInt 8 m.kind :: le (BitVec.ofInt 64 m.session) 4=x1
 have l1:x1.length=5:=by rw [←hx1];simp [le_len]
 have l2:(le (BitVec.ofInt 64 m.step) 4).length=4:=le_len
 rw [eH_def]
 have hw : ∀ (x:By) (w:U) (k n:Nat),k≤8 → x.length≤10000 → ∀ R:AV → Hp → Prop,R (.sl (H.n+1) (n+k) 1 (pl b8 (x++le w k))) (eH H m (n+k)) → ACall Tryd.prog G 43 [.sl (H.n+1) n 1 (pl b8 x),.p (w64 w),.p (i64 k)] (eH H m n) R:=fun x w k n hk hx R h=>number_spec x w k hk (by omega) (H.n+1) n _ eH_f1 R (by rw [eH_set];exact h)
 (repeat refine .z rfl ?_);refine .text ?_;simp (disch:=first|exact dsc|fail) only [go_sem,seval]
 refine CallK.of (fun R h=>hw x1 _ 4 4 (by omega) (by omega) R h) ?_;simp (disch:=first|exact dsc|fail) only [go_sem,seval]
 (repeat refine .z rfl ?_);refine .text ?_;simp (disch:=first|exact dsc|fail) only [go_sem,seval]
 refine CallK.of (fun R h=>Bytes_spec m.root.val hrl _ R h) ?_;simp (disch:=first|exact dsc|fail) only [go_sem,seval,l1,l2,hrl]
 generalize hx2:x1++le (BitVec.ofInt 64 m.step) 4++m.root.val=x2 at *
 have l3:x2.length=41:=by rw [←hx2];simp [l1,l2,hrl]
 (repeat refine .z rfl ?_);refine .text ?_;simp (disch:=first|exact dsc|fail) only [go_sem,seval]
 refine CallK.of (fun R h=>hw x2 _ 2 9 (by omega) (by omega) R h) ?_;simp (disch:=first|exact dsc|fail) only [go_sem,seval]
 have l4:(le (BitVec.ofInt 64 m.text.length) 2).length=2:=le_len
 have htl:m.text.length≤140737488355000:=by omega
 (repeat refine .z rfl ?_);refine .text ?_;simp (disch:=first|exact dsc|fail) only [go_sem,seval,l3,l4,conv_str_bytes]
 generalize hx3:x2++le (BitVec.ofInt 64 m.text.length) 2++m.text=x3 at *
 have l5:x3.length≤443:=by rw [←hx3];simp only [List.length_append,l3,l4];omega
 have e1 : ∀ n,(eH H m n).f H.n=some (.cells (mcl m)):=fun n=>eH_f0
 (repeat refine .z rfl ?_);refine .text ?_;simp (disch:=first|exact dsc|fail) only [go_sem,seval,e1]
 (repeat refine .z rfl ?_);refine .text ?_;simp (disch:=first|exact dsc|fail) only [go_sem,seval,e1]
 have l6 : ∀ i,i≤m.sums.length → (x3++[BitVec.ofInt 8 m.sums.length]++encS (m.sums.take i)).length=x3.length+1+8*i:=fun i hi=>by
  simp only [List.length_append,encS_len,List.length_take,List.length_cons,List.length_nil];omega
 have hw3 : ∀ i,i < m.sums.length → ∀ R:AV → Hp → Prop,R (.sl (H.n+1) (13+8*(i+1)) 1 (pl b8 (x3++[BitVec.ofInt 8 m.sums.length]++encS (m.sums.take (i+1))))) (eH H m (13+8*(i+1))) → ACall Tryd.prog G 43 [.sl (H.n+1) (13+8*i) 1 (pl b8 (x3++[BitVec.ofInt 8 m.sums.length]++encS (m.sums.take i))),.p (w64 (BitVec.ofInt 64 (nth m.sums i))),.p (i64 8)] (eH H m (13+8*i)) R:=fun i hi R h=>hw _ (BitVec.ofInt 64 (nth m.sums i)) 8 (13+8*i) (by omega) (by rw [l6 i (by omega)];omega) R (by rw [List.append_assoc (x3++_),←encS_succ hi];exact h)
 (repeat refine .z rfl ?_);refine .loopH [1] (fun i=>[(3,.sl (H.n+1) (13+8*i) 1 (pl b8 (x3++[BitVec.ofInt 8 m.sums.length]++encS (m.sums.take i)))),(4,.p (i64 i))]) (fun i=>eH H m (13+8*i)) (fun i=>True) (0) (m.sums.length) (by omega) ?_ (by first | rfl | (simp (disch:=first|exact dsc|fail) only [go_sem,seval,e1,List.take_zero,Nat.mul_zero,Nat.add_zero,encS_nil,List.append_nil]<;>rfl)) ?_ ?_ ?_
 · simp (disch:=first|exact dsc|fail) only [go_sem,seval,e1,List.take_zero,Nat.mul_zero,Nat.add_zero,encS_nil,List.append_nil]<;>(repeat' (first | rfl | refine And.intro ?_ ?_))
 · exact trivial
 intro env E hQ;simp (disch:=first|exact dsc|fail) only [go_sem,seval,e1,List.take_zero,Nat.mul_zero,Nat.add_zero,encS_nil,List.append_nil] at E
 rotate_left 1
 intro i env hi0 hi E hQ ihE;simp (disch:=first|exact dsc|fail) only [go_sem,seval,e1,List.take_zero,Nat.mul_zero,Nat.add_zero,encS_nil,List.append_nil] at E
 rotate_left 1
 · have l60:=l6 _ (Nat.le_refl _)
   rw [List.take_length] at l60
   generalize hx4:x3++[BitVec.ofInt 8 m.sums.length]++encS m.sums=x4 at *
   have l7:x4.length≤1000:=by omega
   clear hw3
   generalize hv1:13+8*m.sums.length=v1 at *
   (repeat refine .z rfl ?_);refine .text ?_;simp (disch:=first|exact dsc|fail) only [go_sem,seval,E]
   (repeat refine .z rfl ?_);refine .ifF (by simp (disch:=first|exact dsc|fail) only [go_sem,seval]) ?_
   (repeat refine .z rfl ?_);refine .text ?_;simp (disch:=first|exact dsc|fail) only [go_sem,seval,E]
   (repeat refine .z rfl ?_);refine .text ?_;simp (disch:=first|exact dsc|fail) only [go_sem,seval,E]
   have l8 : ∀ i,i≤m.values.length → (x4++[BitVec.ofInt 8 m.values.length]++encV (m.values.take i)).length=x4.length+1+16*i:=fun i hi=>by
    simp only [List.length_append,encV_len,List.length_take,List.length_cons,List.length_nil];omega
   have hw4 : ∀ i,i < m.values.length → ∀ R:AV → Hp → Prop,R (.sl (H.n+1) (v1+1+16*i+8) 1 (pl b8 (x4++[BitVec.ofInt 8 m.values.length]++encV (m.values.take i)++le (nth m.values i).a 8))) (eH H m (v1+1+16*i+8)) → ACall Tryd.prog G 43 [.sl (H.n+1) (v1+1+16*i) 1 (pl b8 (x4++[BitVec.ofInt 8 m.values.length]++encV (m.values.take i))),.p (w64 (nth m.values i).a),.p (i64 8)] (eH H m (v1+1+16*i)) R:=fun i hi R h=>hw _ (nth m.values i).a 8 _ (by omega) (by rw [l8 i (by omega)];omega) R h
   have hw5 : ∀ i,i < m.values.length → ∀ R:AV → Hp → Prop,R (.sl (H.n+1) (v1+1+16*(i+1)) 1 (pl b8 (x4++[BitVec.ofInt 8 m.values.length]++encV (m.values.take (i+1))))) (eH H m (v1+1+16*(i+1))) → ACall Tryd.prog G 43 [.sl (H.n+1) (v1+1+16*i+8) 1 (pl b8 (x4++[BitVec.ofInt 8 m.values.length]++encV (m.values.take i)++le (nth m.values i).a 8)),.p (w64 (nth m.values i).b),.p (i64 8)] (eH H m (v1+1+16*i+8)) R:=fun i hi R h=>hw _ (nth m.values i).b 8 _ (by omega) (by rw [List.length_append,l8 i (by omega),le_len];omega) R (by
    have:x4++[BitVec.ofInt 8 m.values.length]++encV (m.values.take i)++le (nth m.values i).a 8++le (nth m.values i).b 8=x4++[BitVec.ofInt 8 m.values.length]++encV (m.values.take (i+1)):=by rw [encV_succ hi];simp
    rw [this]
    exact h)
   (repeat refine .z rfl ?_);refine .loopH [1] (fun i=>[(3,.sl (H.n+1) (v1+1+16*i) 1 (pl b8 (x4++[BitVec.ofInt 8 m.values.length]++encV (m.values.take i)))),(5,.p (i64 i))]) (fun i=>eH H m (v1+1+16*i)) (fun i=>True) (0) (m.values.length) (by omega) ?_ (by first | rfl | (simp (disch:=first|exact dsc|fail) only [go_sem,seval,E,List.take_zero,Nat.mul_zero,Nat.add_zero,encV_nil,List.append_nil]<;>rfl)) ?_ ?_ ?_
   · simp (disch:=first|exact dsc|fail) only [go_sem,seval,E,List.take_zero,Nat.mul_zero,Nat.add_zero,encV_nil,List.append_nil]<;>(repeat' (first | rfl | refine And.intro ?_ ?_))
   · exact trivial
   intro env F hQ;simp (disch:=first|exact dsc|fail) only [go_sem,seval,E,List.take_zero,Nat.mul_zero,Nat.add_zero,encV_nil,List.append_nil] at F
   rotate_left 1
   intro i env hi0 hi F hQ ihF;simp (disch:=first|exact dsc|fail) only [go_sem,seval,E,List.take_zero,Nat.mul_zero,Nat.add_zero,encV_nil,List.append_nil] at F
   rotate_left 1
   · have l80:=l8 _ (Nat.le_refl _)
     rw [List.take_length] at l80
     have he:enc0 m=x4++[BitVec.ofInt 8 m.values.length]++encV m.values:=by
      rw [enc0,←hx4,←hx3,←hx2,←hx1];simp [BitVec.ofInt_natCast]
     rw [he] at h
     clear hw4 hw5
     generalize x4++[BitVec.ofInt 8 m.values.length]++encV m.values=x5 at *
     generalize v1+1+16*m.values.length=v2 at *
     have hsh:(sha x5).length=32:=sha_len x5
     (repeat refine .z rfl ?_);refine .text ?_;simp (disch:=first|exact dsc|fail) only [go_sem,seval,F]
     (repeat refine .z rfl ?_);refine .ifF (by simp (disch:=first|exact dsc|fail) only [go_sem,seval]) ?_
     (repeat refine .z rfl ?_);refine .text ?_;simp (disch:=first|exact dsc|fail) only [go_sem,seval,F]
     refine CallK.of (fun R h=>SumR_spec x5 (by omega) _ R h) ?_;simp (disch:=first|exact dsc|fail) only [go_sem,seval,hsh]
     refine CallK.of (fun R h=>Bytes_spec (sha x5) hsh _ R h) ?_;simp (disch:=first|exact dsc|fail) only [go_sem,seval]
     (repeat refine .z rfl ?_);refine .text ?_;simp (disch:=first|exact dsc|fail) only [go_sem,seval,F,hsh]
     have hbel:=eH_bel (m:=m) (n:=v2+1) hbel
     (repeat refine .z rfl ?_);refine .rt Tryd.func13 (by rw [Tryd.results13]) (hR := ?_);simp (disch:=first|exact dsc|fail) only [go_sem,seval]
     exact h
   · have ha:=hw4 i hi
     have hb:=hw5 i hi
     clear hw4 hw5
     generalize x4++[BitVec.ofInt 8 m.values.length]++encV (m.values.take i)=y0 at *
     generalize x4++[BitVec.ofInt 8 m.values.length]++encV (m.values.take (i+1))=y2 at *
     (repeat refine .z rfl ?_);refine .text ?_;simp (disch:=first|exact dsc|fail) only [go_sem,seval,F]
     (repeat refine .z rfl ?_);refine .ifT (by simp (disch:=first|exact dsc|fail) only [go_sem,seval]) ?_
     (repeat refine .z rfl ?_);refine .text ?_;simp (disch:=first|exact dsc|fail) only [go_sem,seval,F,e1]
     refine CallK.of (fun R h=>ha R h) ?_;simp (disch:=first|exact dsc|fail) only [go_sem,seval]
     (repeat refine .z rfl ?_);refine .text ?_;simp (disch:=first|exact dsc|fail) only [go_sem,seval,F,e1]
     refine CallK.of (fun R h=>hb R h) ?_;simp (disch:=first|exact dsc|fail) only [go_sem,seval]
     (repeat refine .z rfl ?_);refine .text ?_;simp (disch:=first|exact dsc|fail) only [go_sem,seval,F]
     first | (refine ihF _ _ ?_ trivial ?_) | (refine .z rfl ?_;refine ihF _ _ ?_ trivial ?_) | (refine .z rfl ?_;refine .z rfl ?_;refine ihF _ _ ?_ trivial ?_) | (refine .z rfl ?_;refine .z rfl ?_;refine .z rfl ?_;refine ihF _ _ ?_ trivial ?_)
     · simp (disch:=first|exact dsc|fail) only [go_sem,seval,F,E,e1]<;>(repeat' (first | rfl | refine And.intro ?_ ?_))
     · first | rfl | (simp (disch:=first|exact dsc|fail) only [go_sem,seval,F,E,e1]<;>(try rfl))
 · have hh:=hw3 i hi
   (repeat refine .z rfl ?_);refine .text ?_;simp (disch:=first|exact dsc|fail) only [go_sem,seval,E]
   (repeat refine .z rfl ?_);refine .ifT (by simp (disch:=first|exact dsc|fail) only [go_sem,seval]) ?_
   (repeat refine .z rfl ?_);refine .text ?_;simp (disch:=first|exact dsc|fail) only [go_sem,seval,E]
   refine CallK.of (fun R h=>hh R h) ?_;simp (disch:=first|exact dsc|fail) only [go_sem,seval]
   (repeat refine .z rfl ?_);refine .text ?_;simp (disch:=first|exact dsc|fail) only [go_sem,seval,E]
   first | (refine ihE _ _ ?_ trivial ?_) | (refine .z rfl ?_;refine ihE _ _ ?_ trivial ?_) | (refine .z rfl ?_;refine .z rfl ?_;refine ihE _ _ ?_ trivial ?_) | (refine .z rfl ?_;refine .z rfl ?_;refine .z rfl ?_;refine ihE _ _ ?_ trivial ?_)
   · simp (disch:=first|exact dsc|fail) only [go_sem,seval,E,e1]<;>(repeat' (first | rfl | refine And.intro ?_ ?_))
   · first | rfl | (simp (disch:=first|exact dsc|fail) only [go_sem,seval,E,e1]<;>(try rfl))
theorem Encode29_spec (m:Msg) (hm:m.Ok) (H:Hp) (R:AV → Hp → Prop) (h:R (.p (.sl false 1 (pl b8 (enc m)))) H):ACall Tryd.prog G 13 [.p (msg m)] H R:=by
 cases hv:valid m with
 | true =>
  rw [enc,hv] at h
  exact Encode29_valid m hm hv H R h
 | false =>
  rw [enc,hv] at h
  refine ACall.wk (Encode29_nil m hm hv H (fun r H'=>r = .p (.s (.slice none 0 0))∧H'=H) ⟨rfl,rfl⟩) ?_
  rintro _ _ ⟨rfl,rfl⟩
  refine ⟨_,h,fun σ w v hv => ?_⟩
  cases hv with | p hp=>cases hp;exact .p (.nil _ _)
end walks
end Go.Proofs.YtmoecjgehdkhkaaDoor

/-
  Sessions: the reference's reader.
-/
namespace Go.Proofs.YtmoecjgehdkhkaaDoor
open Go Go.AL

def rk (st:By × Bool) (n:Nat):By × (By × Bool) :=
 if st.2=true∧n≤st.1.length then (st.1.take n,(st.1.drop n,true)) else (List.replicate n 0#8,(st.1,false))
theorem rk_len {st:By × Bool} {n:Nat}:(rk st n).1.length=n:=by
 unfold rk
 split
 · rename_i h;simp only [List.length_take];omega
 · simp
theorem rk_le {st:By × Bool} {n:Nat}:(rk st n).2.1.length≤st.1.length:=by
 unfold rk
 split<;>simp
theorem rk_app {x r:By} {n:Nat} (h:x.length=n):rk (x++r,true) n=(x,(r,true)):=by
 subst h
 unfold rk
 simp
theorem rk_inv {st:By × Bool} {n:Nat} (h:(rk st n).2.2=true):st=((rk st n).1++(rk st n).2.1,true):=by
 obtain ⟨r,ok⟩:=st
 unfold rk at h ⊢
 split at h
 · rename_i c;simp only at c;rw [if_pos c];simp [c.1]
 · cases h
theorem tk_inv {st:By × Bool} {n:Nat} (h:(tk st n).2.2=true):st=((tk st n).1++(tk st n).2.1,true):=by
 obtain ⟨r,ok⟩:=st
 unfold tk at h ⊢
 simp only at h ⊢
 split at h
 · cases h
 · rename_i c
   split at h
   · rename_i c2;rw [if_neg c,if_pos c2];simp [c2]
   · cases h
def wR (st:By × Bool):Nat → List U × (By × Bool)
 | 0=>([],st)
 | c+1=>((wR st c).1++[rd (rk (wR st c).2 8).1],(rk (wR st c).2 8).2)
def vR (st:By × Bool):Nat → List Ext × (By × Bool)
 | 0=>([],st)
 | c+1=>((vR st c).1++[⟨rd (rk (vR st c).2 8).1,rd (rk (rk (vR st c).2 8).2 8).1⟩],(rk (rk (vR st c).2 8).2 8).2)
theorem wR_len {st:By × Bool} : ∀ {c},(wR st c).1.length=c
 | 0=>rfl
 | c+1=>by simp [wR,wR_len]
theorem vR_len {st:By × Bool} : ∀ {c},(vR st c).1.length=c
 | 0=>rfl
 | c+1=>by simp [vR,vR_len]
theorem wR_le {st:By × Bool} : ∀ {c},(wR st c).2.1.length≤st.1.length
 | 0=>Nat.le_refl _
 | _+1=>Nat.le_trans rk_le wR_le
theorem vR_le {st:By × Bool} : ∀ {c},(vR st c).2.1.length≤st.1.length
 | 0=>Nat.le_refl _
 | _+1=>Nat.le_trans rk_le (Nat.le_trans rk_le vR_le)
theorem wds_app {x y:By} : ∀ {c},8*c≤x.length → wds (x++y) c=wds x c
 | 0,_=>rfl
 | c+1,h=>by
  rw [wds_succ,wds_succ,wds_app (by omega),List.take_append_of_le_length (by omega)]
theorem prs_app {x y:List U} : ∀ {c},2*c≤x.length → prs (x++y) c=prs x c
 | 0,_=>rfl
 | c+1,h=>by
  rw [prs_succ,prs_succ,prs_app (by omega),nth_append_l (by omega),nth_append_l (by omega)]
theorem wR_app : ∀ {c} {x r:By},x.length=8*c → wR (x++r,true) c=(wds x c,(r,true))
 | 0,x,r,h=>by
  have:x=[]:=List.eq_nil_of_length_eq_zero (by omega)
  subst this;rfl
 | c+1,x,r,h=>by
  obtain ⟨y,z,rfl,hy,hz⟩ : ∃ y z:By,x=y++z∧y.length=8*c∧z.length=8:=⟨x.take (8*c),x.drop (8*c),(List.take_append_drop _ _).symm,by rw [List.length_take];omega,by rw [List.length_drop];omega⟩
  have ih:=wR_app (c:=c) (x:=y) (r:=z++r) hy
  rw [wR,List.append_assoc,ih,rk_app hz,wds_succ,wds_app (by omega),List.take_of_length_le (by simp;omega),List.drop_left' hy]
theorem wds_snoc {c:Nat} {y z:By} (hy:y.length=8*c) (hz:z.length=8):wds (y++z) (c+1)=wds y c++[rd z]:=by
 rw [wds_succ,wds_app (by omega),List.take_of_length_le (by simp;omega),List.drop_left' hy]
theorem vR_app : ∀ {c} {x r:By},x.length=16*c → vR (x++r,true) c=(prs (wds x (2*c)) c,(r,true))
 | 0,x,r,h=>by
  have:x=[]:=List.eq_nil_of_length_eq_zero (by omega)
  subst this;rfl
 | c+1,x,r,h=>by
  obtain ⟨y,z,w,rfl,hy,hz,hw⟩ : ∃ y z w:By,x=y++z++w∧y.length=16*c∧z.length=8∧w.length=8:=⟨x.take (16*c),(x.drop (16*c)).take 8,(x.drop (16*c)).drop 8,by rw [List.append_assoc,List.take_append_drop,List.take_append_drop],by rw [List.length_take];omega,by rw [List.length_take,List.length_drop];omega,by rw [List.length_drop,List.length_drop];omega⟩
  have ih:=vR_app (c:=c) (x:=y) (r:=z++(w++r)) hy
  have e:y++z++w++r=y++(z++(w++r)):=by simp
  have h1:wds (y++z++w) (2*(c+1))=wds y (2*c)++[rd z]++[rd w]:=by
   rw [show 2*(c+1)=2*c+1+1 by omega,wds_snoc (y:=y++z) (by simp;omega) hw,wds_snoc (by omega) hz]
  have hl:(wds y (2*c)).length=2*c:=wds_len
  have n1:nth (wds y (2*c)++[rd z]++[rd w]) (2*c)=rd z:=by
   rw [nth_append_l (by simp;omega),nth_append_r (by omega),hl,Nat.sub_self];rfl
  have n2:nth (wds y (2*c)++[rd z]++[rd w]) (2*c+1)=rd w:=by
   rw [nth_append_r (by simp;omega),List.length_append,hl,List.length_singleton,Nat.sub_self];rfl
  rw [vR,e,ih,rk_app hz,rk_app hw,h1,prs_succ,n1,n2,List.append_assoc,prs_app (by omega)]
theorem wR_ok : ∀ {c} {st:By × Bool},(wR st c).2.2=true → st.2=true∧8*c+(wR st c).2.1.length=st.1.length
 | 0,_,h=>⟨h,by simp [wR]⟩
 | c+1,st,h=>by
  have h1:=rk_inv (st:=(wR st c).2) (n:=8) h
  have hl:=rk_len (st:=(wR st c).2) (n:=8)
  have h2:(wR st c).2.2=true:=by rw [h1]
  obtain ⟨h3,h4⟩:=wR_ok h2
  have h5:=congrArg (fun x:By × Bool=>x.1.length) h1
  simp only [List.length_append] at h5
  refine ⟨h3,?_⟩
  have h6:(wR st (c+1)).2=(rk (wR st c).2 8).2:=rfl
  rw [←h4,h5,hl,h6]
  omega
theorem vR_ok : ∀ {c} {st:By × Bool},(vR st c).2.2=true → st.2=true∧16*c+(vR st c).2.1.length=st.1.length
 | 0,_,h=>⟨h,by simp [vR]⟩
 | c+1,st,h=>by
  have h0:=rk_inv (st:=(rk (vR st c).2 8).2) (n:=8) h
  have hl0:=rk_len (st:=(rk (vR st c).2 8).2) (n:=8)
  have h1:=rk_inv (st:=(vR st c).2) (n:=8) (by rw [h0])
  have hl:=rk_len (st:=(vR st c).2) (n:=8)
  have h2:(vR st c).2.2=true:=by rw [h1]
  obtain ⟨h3,h4⟩:=vR_ok h2
  have h5:=congrArg (fun x:By × Bool=>x.1.length) h1
  have h6:=congrArg (fun x:By × Bool=>x.1.length) h0
  simp only [List.length_append] at h5 h6
  refine ⟨h3,?_⟩
  have h7:(vR st (c+1)).2=(rk (rk (vR st c).2 8).2 8).2:=rfl
  rw [←h4,h5,hl,h6,hl0,h7]
  omega
theorem wR_inv {c:Nat} {st:By × Bool} (h:(wR st c).2.2=true) : ∃ x:By,x.length=8*c∧st=(x++(wR st c).2.1,true)∧(wR st c).1=wds x c:=by
 obtain ⟨h1,h2⟩:=wR_ok h
 obtain ⟨r,ok⟩:=st
 simp only at h1 h2
 subst h1
 have hl:(r.take (8*c)).length=8*c:=by rw [List.length_take];omega
 have:=wR_app (c:=c) (x:=r.take (8*c)) (r:=r.drop (8*c)) hl
 rw [List.take_append_drop] at this
 refine ⟨r.take (8*c),hl,?_,?_⟩
 · rw [this];simp
 · rw [this]
theorem vR_inv {c:Nat} {st:By × Bool} (h:(vR st c).2.2=true) : ∃ x:By,x.length=16*c∧st=(x++(vR st c).2.1,true)∧(vR st c).1=prs (wds x (2*c)) c:=by
 obtain ⟨h1,h2⟩:=vR_ok h
 obtain ⟨r,ok⟩:=st
 simp only at h1 h2
 subst h1
 have hl:(r.take (16*c)).length=16*c:=by rw [List.length_take];omega
 have:=vR_app (c:=c) (x:=r.take (16*c)) (r:=r.drop (16*c)) hl
 rw [List.take_append_drop] at this
 refine ⟨r.take (16*c),hl,?_,?_⟩
 · rw [this];simp
 · rw [this]
def e7 (kd se sp:U) (ro tx:By) (us:List U) (vs:List Ext) (s:By × Bool):Msg × (By × Bool):=(⟨kd.toNat,se.toNat,sp.toNat,tx,mkD ro,us.map toI,vs⟩,(rk s 8).2)
def e6 (kd se sp:U) (ro tx:By) (us:List U) (c:Nat) (s:By × Bool):Msg × (By × Bool):=e7 kd se sp ro tx us (vR s c).1 (vR s c).2
def e5 (kd se sp:U) (ro tx:By) (us:List U) (s:By × Bool):Msg × (By × Bool):=e6 kd se sp ro tx us (rd (rk s 1).1).toNat (rk s 1).2
def e4 (kd se sp:U) (ro tx:By) (c:Nat) (s:By × Bool):Msg × (By × Bool):=e5 kd se sp ro tx (wR s c).1 (wR s c).2
def e3 (kd se sp:U) (ro tx:By) (s:By × Bool):Msg × (By × Bool):=e4 kd se sp ro tx (rd (rk s 1).1).toNat (rk s 1).2
def e2 (kd se sp:U) (ro:By) (tl:Nat) (s:By × Bool):Msg × (By × Bool):=e3 kd se sp ro (rk s tl).1 (rk s tl).2
def e1 (kd se sp:U) (ro:By) (s:By × Bool):Msg × (By × Bool):=e2 kd se sp ro (rd (rk s 2).1).toNat (rk s 2).2
def e0 (kd se sp:U) (s:By × Bool):Msg × (By × Bool):=e1 kd se sp (rk s 32).1 (rk s 32).2
def eS (kd se:U) (s:By × Bool):Msg × (By × Bool):=e0 kd se (rd (rk s 4).1) (rk s 4).2
def eE (kd:U) (s:By × Bool):Msg × (By × Bool):=eS kd (rd (rk s 4).1) (rk s 4).2
def decE (b:By):Msg × (By × Bool):=eE (rd (rk (b,true) 1).1) (rk (b,true) 1).2
def decG (b:By) (r:Msg × (By × Bool)):Msg × Int:=if r.2.2=false then (zM,6) else if r.2.1=[]∧enc r.1=b then (r.1,0) else (zM,5)

structure Sp (b:By) (x1 x2 x3 x4 l tx n1 sm n2 vm ck r:By):Prop where
 e:b=x1++(x2++(x3++(x4++(l++(tx++(n1++(sm++(n2++(vm++(ck++r))))))))))
 l1:x1.length=1
 l2:x2.length=4
 l3:x3.length=4
 l4:x4.length=32
 l5:l.length=2
 l6:tx.length=(rd l).toNat
 l7:n1.length=1
 l8:sm.length=8*(rd n1).toNat
 l9:n2.length=1
 l10:vm.length=16*(rd n2).toNat
 l11:ck.length=8
theorem rd1 {x:By} (h:x.length=1):(rd x).toNat=(nth x 0).toNat:=by
 match x,h with
 | [c],_=>simp [rd,nth];have:=c.isLt;omega
def spM (x1 x2 x3 x4 tx n1 sm n2 vm:By):Msg:=⟨(rd x1).toNat,(rd x2).toNat,(rd x3).toNat,tx,mkD x4,(wds sm (rd n1).toNat).map toI,prs (wds vm (2*(rd n2).toNat)) (rd n2).toNat⟩
section sp
variable {b x1 x2 x3 x4 l tx n1 sm n2 vm ck r:By}
theorem Sp.decE (h:Sp b x1 x2 x3 x4 l tx n1 sm n2 vm ck r):decE b=(spM x1 x2 x3 x4 tx n1 sm n2 vm,(r,true)):=by
 rw [h.e,Go.Proofs.YtmoecjgehdkhkaaDoor.decE,rk_app h.l1,eE,rk_app h.l2,eS,rk_app h.l3,e0,rk_app h.l4,e1,rk_app h.l5,e2,rk_app h.l6,e3,rk_app h.l7,e4,wR_app h.l8,e5,rk_app h.l9,e6,vR_app h.l10,e7,rk_app h.l11]
 rfl
theorem Sp.decM (h:Sp b x1 x2 x3 x4 l tx n1 sm n2 vm ck r):decM b=(spM x1 x2 x3 x4 tx n1 sm n2 vm,true):=by
 have hb:b=(x1++x2++x3++x4)++(l++(tx++(n1++(sm++(n2++(vm++(ck++r))))))):=by rw [h.e];simp
 have hl:(x1++x2++x3++x4).length=41:=by simp [h.l1,h.l2,h.l3,h.l4]
 have q0:nth (x1++x2++x3++x4) 0=nth x1 0:=by rw [List.append_assoc,List.append_assoc,nth_append_l (by rw [h.l1];omega)]
 have q1:((x1++x2++x3++x4).take 5).drop 1=x2:=by
  rw [List.append_assoc,List.take_left' (by simp [h.l1,h.l2]),List.drop_left' h.l1]
 have q2:((x1++x2++x3++x4).take 9).drop 5=x3:=by
  rw [List.take_left' (by simp [h.l1,h.l2,h.l3]),List.drop_left' (by simp [h.l1,h.l2])]
 have q3:(x1++x2++x3++x4).drop 9=x4:=by
  rw [List.drop_left' (by simp [h.l1,h.l2,h.l3])]
 have l8:sm.length=8*(nth n1 0).toNat:=by rw [h.l8,rd1 h.l7]
 have l10:vm.length=16*(nth n2 0).toNat:=by rw [h.l10,rd1 h.l9]
 rw [Go.Proofs.YtmoecjgehdkhkaaDoor.decM,hb,tk_app hl]
 simp only [d1,q0,q1,q2,q3]
 rw [d2,tk_app h.l5]
 simp only
 rw [d3,tk_app h.l6]
 simp only
 rw [d4,tk_app h.l7]
 simp only
 rw [d5,tk_app l8]
 simp only
 rw [tk_app h.l9,d6]
 simp only
 rw [tk_app l10,d7]
 simp only
 rw [tk_app h.l11,spM,rd1 h.l1,rd1 h.l7,rd1 h.l9]
end sp
theorem rk_inv' {st:By × Bool} {n:Nat} {p:By × (By × Bool)} (e:rk st n=p) (h:p.2.2=true):st.2=true∧st.1=p.1++p.2.1∧p.1.length=n:=by
 subst e
 have:=rk_inv h
 exact ⟨by rw [this],by rw (config := { occs := .pos [1] }) [this],rk_len⟩
theorem tk_inv' {st:By × Bool} {n:Nat} {p:By × (By × Bool)} (e:tk st n=p) (h:p.2.2=true):st.2=true∧st.1=p.1++p.2.1∧p.1.length=n:=by
 subst e
 have:=tk_inv h
 exact ⟨by rw [this],by rw (config := { occs := .pos [1] }) [this],tk_len⟩
theorem wR_inv' {st:By × Bool} {c:Nat} {p:List U × (By × Bool)} (e:wR st c=p) (h:p.2.2=true) : ∃ x:By,st.2=true∧st.1=x++p.2.1∧x.length=8*c:=by
 subst e
 obtain ⟨x,h1,h2,-⟩:=wR_inv h
 exact ⟨x,by rw [h2],by rw (config := { occs := .pos [1] }) [h2],h1⟩
theorem vR_inv' {st:By × Bool} {c:Nat} {p:List Ext × (By × Bool)} (e:vR st c=p) (h:p.2.2=true) : ∃ x:By,st.2=true∧st.1=x++p.2.1∧x.length=16*c:=by
 subst e
 obtain ⟨x,h1,h2,-⟩:=vR_inv h
 exact ⟨x,by rw [h2],by rw (config := { occs := .pos [1] }) [h2],h1⟩
theorem decE_sp {b:By} (h:(decE b).2.2=true) : ∃ x1 x2 x3 x4 l tx n1 sm n2 vm ck r,Sp b x1 x2 x3 x4 l tx n1 sm n2 vm ck r:=by
 unfold decE at h
 generalize h1:rk (b,true) 1=p1 at h
 unfold eE at h
 generalize h2:rk p1.2 4=p2 at h
 unfold eS at h
 generalize h3:rk p2.2 4=p3 at h
 unfold e0 at h
 generalize h4:rk p3.2 32=p4 at h
 unfold e1 at h
 generalize h5:rk p4.2 2=p5 at h
 unfold e2 at h
 generalize h6:rk p5.2 _=p6 at h
 unfold e3 at h
 generalize h7:rk p6.2 _=p7 at h
 unfold e4 at h
 generalize h8:wR p7.2 _=p8 at h
 unfold e5 at h
 generalize h9:rk p8.2 _=p9 at h
 unfold e6 at h
 generalize h10:vR p9.2 _=p10 at h
 unfold e7 at h
 generalize h11:rk p10.2 _=p11 at h
 obtain ⟨o11,q11,k11⟩:=rk_inv' h11 h
 obtain ⟨vm,o10,q10,k10⟩:=vR_inv' h10 o11
 obtain ⟨o9,q9,k9⟩:=rk_inv' h9 o10
 obtain ⟨sm,o8,q8,k8⟩:=wR_inv' h8 o9
 obtain ⟨o7,q7,k7⟩:=rk_inv' h7 o8
 obtain ⟨o6,q6,k6⟩:=rk_inv' h6 o7
 obtain ⟨o5,q5,k5⟩:=rk_inv' h5 o6
 obtain ⟨o4,q4,k4⟩:=rk_inv' h4 o5
 obtain ⟨o3,q3,k3⟩:=rk_inv' h3 o4
 obtain ⟨o2,q2,k2⟩:=rk_inv' h2 o3
 obtain ⟨o1,q1,k1⟩:=rk_inv' h1 o2
 exact ⟨p1.1,p2.1,p3.1,p4.1,p5.1,p6.1,p7.1,sm,p9.1,vm,p11.1,p11.2.1,⟨by rw [←q11,←q10,←q9,←q8,←q7,←q6,←q5,←q4,←q3,←q2,←q1],k1,k2,k3,k4,k5,k6,k7,k8,k9,k10,k11⟩⟩
theorem decM_sp {b:By} (h:(decM b).2=true) : ∃ x1 x2 x3 x4 l tx n1 sm n2 vm ck r,Sp b x1 x2 x3 x4 l tx n1 sm n2 vm ck r:=by
 unfold decM at h
 generalize h1:tk (b,true) 41=p1 at h
 unfold d1 d2 at h
 generalize h5:tk p1.2 2=p5 at h
 unfold d3 at h
 generalize h6:tk p5.2 _=p6 at h
 unfold d4 at h
 generalize h7:tk p6.2 _=p7 at h
 unfold d5 at h
 generalize h8:tk p7.2 _=p8 at h
 generalize h9:tk p8.2 _=p9 at h
 unfold d6 at h
 generalize h10:tk p9.2 _=p10 at h
 unfold d7 at h
 generalize h11:tk p10.2 _=p11 at h
 obtain ⟨o11,q11,k11⟩:=tk_inv' h11 h
 obtain ⟨o10,q10,k10⟩:=tk_inv' h10 o11
 obtain ⟨o9,q9,k9⟩:=tk_inv' h9 o10
 obtain ⟨o8,q8,k8⟩:=tk_inv' h8 o9
 obtain ⟨o7,q7,k7⟩:=tk_inv' h7 o8
 obtain ⟨o6,q6,k6⟩:=tk_inv' h6 o7
 obtain ⟨o5,q5,k5⟩:=tk_inv' h5 o6
 obtain ⟨o1,q1,k1⟩:=tk_inv' h1 o5
 have hsp : ∀ (x:By),x.length=41 → ∀ y,x++y=x.take 1++((x.drop 1).take 4++((x.drop 5).take 4++(x.drop 9++y))):=fun x hx y=>by
  have h1:x=x.take 1++((x.drop 1).take 4++((x.drop 5).take 4++x.drop 9)):=by
   have a1:x.drop 9=(x.drop 5).drop 4:=by simp
   have a2:x.drop 5=(x.drop 1).drop 4:=by simp
   rw [a1,List.take_append_drop,a2,List.take_append_drop,List.take_append_drop]
  rw (config := { occs := .pos [1] }) [h1]
  simp only [List.append_assoc]
 exact ⟨p1.1.take 1,(p1.1.drop 1).take 4,(p1.1.drop 5).take 4,p1.1.drop 9,p5.1,p6.1,p7.1,p8.1,p9.1,p10.1,p11.1,p11.2.1,⟨by rw [←q11,←q10,←q9,←q8,←q7,←q6,←q5,←hsp _ k1,←q1],by rw [List.length_take,k1];rfl,by rw [List.length_take,List.length_drop,k1];rfl,by rw [List.length_take,List.length_drop,k1];rfl,by rw [List.length_drop,k1],k5,k6,k7,by rw [k8,rd1 k7],k9,by rw [k10,rd1 k9],k11⟩⟩
theorem decG_eq (b:By):decG b (decE b)=dec b:=by
 by_cases h:(decE b).2.2=true
 · obtain ⟨x1,x2,x3,x4,l,tx,n1,sm,n2,vm,ck,r,hs⟩:=decE_sp h
   unfold dec decF decG
   rw [hs.decE,hs.decM]
   simp only [Bool.true_eq_false,if_false]
   by_cases he:enc (spM x1 x2 x3 x4 tx n1 sm n2 vm)=b
   · have hbl:=congrArg List.length hs.e
     simp only [List.length_append,hs.l1,hs.l2,hs.l3,hs.l4,hs.l5,hs.l7,hs.l9,hs.l11] at hbl
     have hv:valid (spM x1 x2 x3 x4 tx n1 sm n2 vm)=true:=by
      cases hv:valid (spM x1 x2 x3 x4 tx n1 sm n2 vm) with
      | true=>rfl
      | false =>
       rw [enc,hv] at he
       rw [←he] at hbl
       simp at hbl
       omega
     have hz:=enc_size hv
     rw [he] at hz
     have hr:r=[]:=by
      apply List.eq_nil_of_length_eq_zero
      have a1:(spM x1 x2 x3 x4 tx n1 sm n2 vm).text.length=tx.length:=rfl
      have a2:(spM x1 x2 x3 x4 tx n1 sm n2 vm).sums.length=(rd n1).toNat:=by show (List.map toI _).length=_;rw [List.length_map,wds_len]
      have a3:(spM x1 x2 x3 x4 tx n1 sm n2 vm).values.length=(rd n2).toNat:=prs_len
      rw [a1,a2,a3] at hz
      have:=hs.l8
      have:=hs.l10
      omega
     rw [if_pos ⟨hr,he⟩,if_pos he]
   · rw [if_neg (fun q=>he q.2),if_neg he]
 · have h2:(decM b).2=false:=by
    cases hm:(decM b).2 with
    | false=>rfl
    | true =>
     obtain ⟨x1,x2,x3,x4,l,tx,n1,sm,n2,vm,ck,r,hs⟩:=decM_sp hm
     rw [hs.decE] at h
     exact absurd rfl h
   unfold dec decF decG
   rw [if_pos h2,if_pos (by simpa using h)]
theorem rd_snoc {c:BitVec 8} : ∀ {l:By},l.length≤7 → rd (l++[c])=rd l+c.setWidth 64 <<< (8*l.length):=by
 have hcons : ∀ (c:BitVec 8) (b:By),b.length≤7 → (rd (c :: b)).toNat=c.toNat+(rd b).toNat*256:=fun c b hb=>by
  have ih:=rd_lt hb
  have hc:=c.isLt
  simp only [rd,BitVec.toNat_or,BitVec.toNat_shiftLeft,BitVec.toNat_setWidth]
  have h2:(rd b).toNat <<< 8 < 2 ^ 64:=by
   rw [Nat.shiftLeft_eq]
   have:2 ^ (8*b.length)*2 ^ 8≤2 ^ 64:=by
    rw [←Nat.pow_add];exact Nat.pow_le_pow_right (by omega) (by omega)
   have:=Nat.mul_lt_mul_of_pos_right ih (show 0 < 2 ^ 8 by decide)
   omega
  rw [Nat.mod_eq_of_lt h2,Nat.mod_eq_of_lt (show c.toNat < 2 ^ 64 by omega),←Nat.shiftLeft_add_eq_or_of_lt (by omega),Nat.shiftLeft_eq]
  omega
 have key : ∀ {l:By},l.length≤7 → (rd (l++[c])).toNat=(rd l).toNat+c.toNat*2 ^ (8*l.length):=by
  intro l
  induction l with
  | nil=>intro _;have:=c.isLt;simp [rd];omega
  | cons d l ih =>
   intro h
   rw [List.length_cons] at h
   rw [List.cons_append,hcons _ _ (by simp;omega),hcons _ _ (by omega),ih (by omega),List.length_cons,show 8*(l.length+1)=8*l.length+8 by omega,Nat.pow_add,Nat.add_mul,Nat.mul_assoc,←Nat.add_assoc]
 intro l h
 apply BitVec.eq_of_toNat_eq
 have h1:=rd_lt (b:=l) h
 have hc:=c.isLt
 have h2:c.toNat*2 ^ (8*l.length) < 2 ^ 64:=by
  have:2 ^ 8*2 ^ (8*l.length)≤2 ^ 64:=by rw [←Nat.pow_add];exact Nat.pow_le_pow_right (by omega) (by omega)
  have:=Nat.mul_lt_mul_of_pos_right (show c.toNat < 2 ^ 8 by omega) (Nat.pow_pos (n:=8*l.length) (show 0 < 2 by omega))
  omega
 have h3:(rd (l++[c])).toNat < 2 ^ 64:=(rd (l++[c])).isLt
 rw [key h] at h3
 rw [key h,BitVec.toNat_add,BitVec.toNat_shiftLeft,BitVec.toNat_setWidth,Nat.mod_eq_of_lt (show c.toNat < 2 ^ 64 by omega),Nat.shiftLeft_eq,Nat.mod_eq_of_lt h2,Nat.mod_eq_of_lt h3]
end Go.Proofs.YtmoecjgehdkhkaaDoor

/-
  Sessions: the reference's reader,walked.
-/
namespace Go.Proofs.YtmoecjgehdkhkaaDoor
open Go Go.AL

def rcl (st:By × Bool):List AV:=[.p (.sl false 1 (pl b8 st.1)),.p (bo (!st.2))]
theorem bel_rd {n b:Nat} {H:Hp} {l:By} {o:Bool} (h:Bel n H):Bel n (H.set b (.cells [.p (.sl false 1 (pl b8 l)),.p (bo o)])):=bel_setx h fun y hy=>by
 simp only [AB.vals,List.mem_cons,List.not_mem_nil,or_false] at hy
 rcases hy with rfl | rfl<;>exact .p _
section walks
variable {G:Globs}
set_option maxHeartbeats 4000000 in
theorem take29_spec (st:By × Bool) (hr:st.1.length≤140737488355000) (n:Nat) (hn:n≤100000) (cb:Nat) (H:Hp) (hc:H.f cb=some (.cells (rcl st))) (R:AV → Hp → Prop)
 (h:R (.p (.sl false 1 (pl b8 (rk st n).1))) (H.set cb (.cells (rcl (rk st n).2)))) :
 ACall Tryd.prog G 38 [.ptr cb 0,.p (i64 n)] H R:=by
 obtain ⟨rest,ok⟩:=st
 simp only at hr
 unfold rcl at hc h
 have hcn:=Hp.lt hc
 unfold rk at h
 simp only at h hc
 refine ACall.of_run (raw:=[]) Tryd.func38 rfl Tryd.ntmps38 (by simp) fun hbel => ?_
 (repeat refine .z rfl ?_);refine .text ?_;simp (disch:=first|exact dsc|fail) only [go_sem,seval]
 have hbel : ∀ l o,Bel H.n (H.set cb (.cells [.p (.sl false 1 (pl b8 l)),.p (bo o)])):=fun l o=>bel_rd hbel
 have hs0:H.set cb (.cells [.p (.sl false 1 (pl b8 rest)),.p (bo !ok)])=H:=Hp.set_same H _ cb hc
 cases ok with
 | false =>
  simp only [Bool.false_eq_true,false_and,if_false,Bool.not_false] at h hc hs0
  (repeat refine .z rfl ?_);refine .text ?_;simp (disch:=first|exact dsc|fail) only [go_sem,seval,hc]
  (repeat refine .z rfl ?_);refine .ifT (by simp (disch:=first|exact dsc|fail) only [go_sem,seval]) ?_
  (repeat refine .z rfl ?_);refine .text ?_;simp (disch:=first|exact dsc|fail) only [go_sem,seval,hc]
  (repeat refine .z rfl ?_);refine .text ?_;simp (disch:=first|exact dsc|fail) only [go_sem,seval]
  (repeat refine .z rfl ?_);refine .frzS 4 (by simp (disch:=first|exact dsc|fail) only [go_sem,seval];rfl) (by simp (disch:=first|exact dsc|fail) only [go_sem,seval]<;>rfl) (fun _=>rfl) (by first | exact dsc | fail) ?_;(try simp (disch:=first|exact dsc|fail) only [go_sem,seval])
  (repeat refine .z rfl ?_);refine .rt Tryd.func38 (by rw [Tryd.results38]) (hR := ?_);simp (disch:=first|exact dsc|fail) only [go_sem,seval]
  exact h
 | true =>
  simp only [true_and,Bool.not_true] at h hc hs0
  (repeat refine .z rfl ?_);refine .text ?_;simp (disch:=first|exact dsc|fail) only [go_sem,seval,hc]
  by_cases c:n≤rest.length
  · rw [if_pos c] at h
    simp only [Bool.not_true] at h
    have d:decide ((rest.length:Int) < (n:Int))=false:=decide_eq_false (by omega)
    (repeat refine .z rfl ?_);refine .ifF (by simp (disch:=first|exact dsc|fail) only [go_sem,seval,d]) ?_
    (repeat refine .z rfl ?_);refine .text ?_;simp (disch:=first|exact dsc|fail) only [go_sem,seval,hc]
    (repeat refine .z rfl ?_);refine .text ?_;simp (disch:=first|exact dsc|fail) only [go_sem,seval,hc]
    (repeat refine .z rfl ?_);refine .text ?_;simp (disch:=first|exact dsc|fail) only [go_sem,seval]
    (repeat refine .z rfl ?_);refine .rt Tryd.func38 (by rw [Tryd.results38]) (hR := ?_);simp (disch:=first|exact dsc|fail) only [go_sem,seval]
    exact h
  · rw [if_neg c] at h
    simp only [Bool.not_false] at h
    have d:decide ((rest.length:Int) < (n:Int))=true:=decide_eq_true (by omega)
    (repeat refine .z rfl ?_);refine .ifT (by simp (disch:=first|exact dsc|fail) only [go_sem,seval,d]) ?_
    (repeat refine .z rfl ?_);refine .text ?_;simp (disch:=first|exact dsc|fail) only [go_sem,seval,hc]
    (repeat refine .z rfl ?_);refine .text ?_;simp (disch:=first|exact dsc|fail) only [go_sem,seval]
    (repeat refine .z rfl ?_);refine .frzS 4 (by simp (disch:=first|exact dsc|fail) only [go_sem,seval];rfl) (by simp (disch:=first|exact dsc|fail) only [go_sem,seval]<;>rfl) (fun _=>rfl) (by first | exact dsc | fail) ?_;(try simp (disch:=first|exact dsc|fail) only [go_sem,seval])
    (repeat refine .z rfl ?_);refine .rt Tryd.func38 (by rw [Tryd.results38]) (hR := ?_);simp (disch:=first|exact dsc|fail) only [go_sem,seval]
    exact h
theorem rd_take_succ {b:By} {i:Nat} (hi:i < b.length) (h7:i≤7):rd (b.take i)+(nth b i).setWidth 64 <<< (8*i)=rd (b.take (i+1)):=by
 have hl:(b.take i).length=i:=by rw [List.length_take];omega
 have:=rd_snoc (c:=nth b i) (l:=b.take i) (by omega)
 rw [hl] at this
 rw [take_succ_nth hi,this]
set_option maxHeartbeats 4000000 in
theorem number37_spec (st:By × Bool) (hr:st.1.length≤140737488355000) (n:Nat) (hn:n≤8) (cb:Nat) (H:Hp) (hc:H.f cb=some (.cells (rcl st))) (R:AV → Hp → Prop)
 (h:R (.p (w64 (rd (rk st n).1))) (H.set cb (.cells (rcl (rk st n).2)))) :
 ACall Tryd.prog G 37 [.ptr cb 0,.p (i64 n)] H R:=by
 have hcn:=Hp.lt hc
 have hl:=rk_len (st:=st) (n:=n)
 refine ACall.of_run (raw:=[]) Tryd.func37 rfl Tryd.ntmps37 (by simp) fun hbel => ?_
 (repeat refine .z rfl ?_);refine .text ?_;simp (disch:=first|exact dsc|fail) only [go_sem,seval]
 (repeat refine .z rfl ?_);refine .text ?_;simp (disch:=first|exact dsc|fail) only [go_sem,seval]
 refine CallK.of (fun R h=>take29_spec st hr n (by omega) cb _ hc R h) ?_;simp (disch:=first|exact dsc|fail) only [go_sem,seval]
 generalize (rk st n).1=b at *
 have hbel:Bel H.n (H.set cb (.cells (rcl (rk st n).2))):=bel_rd hbel
 generalize AB.cells (rcl (rk st n).2)=rc at *
 (repeat refine .z rfl ?_);refine .text ?_;simp (disch:=first|exact dsc|fail) only [go_sem,seval]
 (repeat refine .z rfl ?_);refine .loopE [1,5] (fun i=>[(6,.p (w64 (rd (b.take i)))),(7,.p (i64 i))]) (fun i=>[]) (fun i=>True) (0) (n) (by omega) ?_ (by first | rfl | (simp (disch:=first|exact dsc|fail) only [go_sem,seval,List.take_zero,rd]<;>rfl)) ?_ ?_ ?_
 · simp (disch:=first|exact dsc|fail) only [go_sem,seval,List.take_zero,rd]<;>(repeat' (first | rfl | refine And.intro ?_ ?_))
 · exact trivial
 intro env E hQ;simp (disch:=first|exact dsc|fail) only [go_sem,seval,List.take_zero,rd] at E
 rotate_left 1
 intro i env hi0 hi E hQ ihE;simp (disch:=first|exact dsc|fail) only [go_sem,seval,List.take_zero,rd] at E
 rotate_left 1
 · have hbt:b.take n=b:=List.take_of_length_le (by omega)
   (repeat refine .z rfl ?_);refine .text ?_;simp (disch:=first|exact dsc|fail) only [go_sem,seval,E,hbt]
   (repeat refine .z rfl ?_);refine .ifF (by simp (disch:=first|exact dsc|fail) only [go_sem,seval]) ?_
   (repeat refine .z rfl ?_);refine .text ?_;simp (disch:=first|exact dsc|fail) only [go_sem,seval,E,hbt]
   (repeat refine .z rfl ?_);refine .rt Tryd.func37 (by rw [Tryd.results37]) (hx:=by simp (disch:=first|exact dsc|fail) only [go_sem,seval,E];rfl) (hR := ?_);simp (disch:=first|exact dsc|fail) only [go_sem,seval,E]
   exact h
 · obtain ⟨k,hk,h8⟩ : ∃ k:Nat,8*i=k∧(8:Int)*(i:Int)=(k:Int):=⟨8*i,rfl,by omega⟩
   have hs:=rd_take_succ (b:=b) (i:=i) (by omega) (by omega)
   rw [hk] at hs
   (repeat refine .z rfl ?_);refine .text ?_;simp (disch:=first|exact dsc|fail) only [go_sem,seval,E]
   (repeat refine .z rfl ?_);refine .ifT (by simp (disch:=first|exact dsc|fail) only [go_sem,seval]) ?_
   (repeat refine .z rfl ?_);refine .text ?_;simp (disch:=first|exact dsc|fail) only [go_sem,seval,E,h8,hl]
   (repeat refine .z rfl ?_);refine .text ?_;simp (disch:=first|exact dsc|fail) only [go_sem,seval,E]
   first | (refine ihE _ _ ?_ trivial ?_) | (refine .z rfl ?_;refine ihE _ _ ?_ trivial ?_) | (refine .z rfl ?_;refine .z rfl ?_;refine ihE _ _ ?_ trivial ?_) | (refine .z rfl ?_;refine .z rfl ?_;refine .z rfl ?_;refine ihE _ _ ?_ trivial ?_)
   · simp (disch:=first|exact dsc|fail) only [go_sem,seval,E,hs]<;>(repeat' (first | rfl | refine And.intro ?_ ?_))
   · first | rfl | (simp (disch:=first|exact dsc|fail) only [go_sem,seval,E,hs]<;>(try rfl))
end walks
end Go.Proofs.YtmoecjgehdkhkaaDoor

/-
  Sessions: the reference's decoding,walked.
-/
namespace Go.Proofs.YtmoecjgehdkhkaaDoor
open Go Go.AL

theorem mG_setN {k s t:Int} {tx r:By} {S V:AV} {i:Nat} {x:BitVec 8} (h:r.length=32) (hi:i < 32):(mG k s t tx r S V).set (4+i) (.p (b8 x))=mG k s t tx (r.set i x) S V:=by
 unfold mG
 rw [show 4+i=i+1+1+1+1 by omega]
 simp only [List.set_cons_succ]
 rw [List.set_append_left _ _ (by rw [cl_len];omega)]
 simp only [cl,List.map_set]
def mix (r:By) (i:Nat):By:=r.take i++List.replicate (32 - i) 0#8
theorem mix_len {r:By} {i:Nat} (h:r.length=32) (hi:i≤32):(mix r i).length=32:=by simp [mix,h];omega
theorem mix_set {r:By} {i:Nat} (h:r.length=32) (hi:i < 32):(mix r i).set i (nth r i)=mix r (i+1):=by
 unfold mix
 have hl:(r.take i).length=i:=by rw [List.length_take];omega
 rw [List.set_append_right _ _ (by omega),hl,Nat.sub_self,show 32 - i=32 - (i+1)+1 by omega,List.replicate_succ,List.set_cons_zero,take_succ_nth (by omega)]
 simp
theorem mix_all {r:By} (h:r.length=32):mix r 32=r:=by simp [mix,List.take_of_length_le (Nat.le_of_eq h)]
theorem mix_zero {r:By}:mix r 0=List.replicate 32 0#8:=by simp [mix]

theorem acells2 {x y:PV}:acells (.p (.agg [x,y]))=some [.p x,.p y]:=rfl
theorem mkAgg2 {x y:PV}:mkAgg [.p x,.p y] = .p (.agg [x,y]):=rfl
def mQ (k s t:Int):PV := .agg ([i64 k,i64 s,i64 t,str (bytesOf [])]++(pl b8 (List.replicate 32 0#8)++[.sl true 1 [],.sl true 2 []]))
theorem mP_agg {k s t:Int}:mkAgg (AV.p (i64 k) :: AV.p (i64 s) :: AV.p (i64 t) :: AV.p (str ByteArray.empty) :: List.map AV.p (pl b8 (List.replicate 32 0#8)++[PV.sl true 1 [],PV.sl true 2 []])) = .p (mQ k s t):=by
 simp only [←List.map_cons,mkAgg,pvs_p]
 rfl
theorem mQ_cells {k s t:Int}:acells (.p (mQ k s t))=some (mG k s t [] (List.replicate 32 0#8) (.p (.sl true 1 [])) (.p (.sl true 2 []))):=by
 show some ((_:List PV).map AV.p)=_
 simp [mG,cl,pl]
theorem mP_set {k s t:Int}:setAt (AV.p (i64 0) :: AV.p (i64 0) :: AV.p (i64 0) :: AV.p (str ByteArray.empty) :: List.map AV.p (pl b8 (List.replicate 32 0#8)++[PV.sl true 1 [],PV.sl true 2 []])) 0 (mG k s t [] (List.replicate 32 0#8) (.p (.sl true 1 [])) (.p (.sl true 2 [])))=mG k s t [] (List.replicate 32 0#8) (.p (.sl true 1 [])) (.p (.sl true 2 [])):=rfl
theorem mP_len:(AV.p (i64 0) :: AV.p (i64 0) :: AV.p (i64 0) :: AV.p (str ByteArray.empty) :: List.map AV.p (pl b8 (List.replicate 32 0#8)++[PV.sl true 1 [],PV.sl true 2 []])).length=38:=rfl
def mZ:List AV:=mG 0 0 0 [] (List.replicate 32 0#8) (.p (.sl true 1 [])) (.p (.sl true 2 []))
def dQ (H:Hp) (st:By × Bool):Hp:=(H.new (.cells mZ)).new (.cells (rcl st))
def dP (H:Hp) (mc:List AV) (st:By × Bool):Hp:=(dQ H st).new (.cells mc)
def dR (H:Hp) (mc:List AV) (st:By × Bool) (i j:Nat):Hp:=((dP H mc st).new (.tail i)).new (.tail j)
section dr
variable {H:Hp} {mc mc':List AV} {st st':By × Bool} {i j k:Nat}
theorem dQ_n:(dQ H st).n=H.n+2:=by simp [dQ,Hp.n_new]
theorem dQ_f1:(dQ H st).f (H.n+1)=some (.cells (rcl st)):=by simp (disch:=first|exact dsc|fail) only [dQ,go_sem,seval]
theorem dQ_set1:(dQ H st).set (H.n+1) (.cells (rcl st'))=dQ H st':=by simp (disch:=first|exact dsc|fail) only [dQ,go_sem,seval]
theorem dR_n:(dR H mc st i j).n=H.n+5:=by simp [dR,dP,dQ_n,Hp.n_new]
theorem dR_f0:(dR H mc st i j).f H.n=some (.cells mZ):=by simp (disch:=first|exact dsc|fail) only [dR,dP,dQ,go_sem,seval]
theorem dR_f1:(dR H mc st i j).f (H.n+1)=some (.cells (rcl st)):=by simp (disch:=first|exact dsc|fail) only [dR,dP,dQ,go_sem,seval]
theorem dR_f2:(dR H mc st i j).f (H.n+2)=some (.cells mc):=by simp (disch:=first|exact dsc|fail) only [dR,dP,dQ,go_sem,seval]
theorem dR_f3:(dR H mc st i j).f (H.n+3)=some (.tail i):=by simp (disch:=first|exact dsc|fail) only [dR,dP,dQ,go_sem,seval]
theorem dR_f4:(dR H mc st i j).f (H.n+4)=some (.tail j):=by simp (disch:=first|exact dsc|fail) only [dR,dP,dQ,go_sem,seval]
theorem dR_set1:(dR H mc st i j).set (H.n+1) (.cells (rcl st'))=dR H mc st' i j:=by simp (disch:=first|exact dsc|fail) only [dR,dP,dQ,go_sem,seval]
theorem dR_set2:(dR H mc st i j).set (H.n+2) (.cells mc')=dR H mc' st i j:=by simp (disch:=first|exact dsc|fail) only [dR,dP,dQ,go_sem,seval]
theorem dR_set3:(dR H mc st i j).set (H.n+3) (.tail k)=dR H mc st k j:=by simp (disch:=first|exact dsc|fail) only [dR,dP,dQ,go_sem,seval]
theorem dR_set4:(dR H mc st i j).set (H.n+4) (.tail k)=dR H mc st i k:=by simp (disch:=first|exact dsc|fail) only [dR,dP,dQ,go_sem,seval]
theorem dR_trunc:(dR H mc st i j).trunc H.n=H:=by simp (disch:=first|exact dsc|fail) only [dR,dP,dQ,go_sem,seval]
theorem dR_bel (h:Bel H.n H):Bel H.n (dR H mc st i j):=by
 unfold dR dP dQ
 exact bel_new (bel_new (bel_new (bel_new (bel_new h (Nat.le_refl _)) (by simp only [n_new'];omega)) (by simp only [n_new'];omega)) (by simp only [n_new'];omega)) (by simp only [n_new'];omega)
end dr
attribute [go_sem] dQ_n dQ_f1 dR_n dR_f0 dR_f1 dR_f2 dR_f3 dR_f4 dR_set1 dR_set2 dR_set3 dR_set4 dR_trunc
section walks
variable {G:Globs}
theorem numQ (st:By × Bool) (hr:st.1.length≤140737488355000) (n:Nat) (hn:n≤8) (H:Hp) (R:AV → Hp → Prop) (h:R (.p (w64 (rd (rk st n).1))) (dQ H (rk st n).2)):ACall Tryd.prog G 37 [.ptr (H.n+1) 0,.p (i64 n)] (dQ H st) R :=
 number37_spec st hr n hn (H.n+1) _ dQ_f1 R (by rw [dQ_set1];exact h)
theorem numR (st:By × Bool) (hr:st.1.length≤140737488355000) (n:Nat) (hn:n≤8) (H:Hp) (mc:List AV) (i j:Nat) (R:AV → Hp → Prop) (h:R (.p (w64 (rd (rk st n).1))) (dR H mc (rk st n).2 i j)):ACall Tryd.prog G 37 [.ptr (H.n+1) 0,.p (i64 n)] (dR H mc st i j) R :=
 number37_spec st hr n hn (H.n+1) _ dR_f1 R (by rw [dR_set1];exact h)
theorem takeR (st:By × Bool) (hr:st.1.length≤140737488355000) (n:Nat) (hn:n≤100000) (H:Hp) (mc:List AV) (i j:Nat) (R:AV → Hp → Prop) (h:R (.p (.sl false 1 (pl b8 (rk st n).1))) (dR H mc (rk st n).2 i j)):ACall Tryd.prog G 38 [.ptr (H.n+1) 0,.p (i64 n)] (dR H mc st i j) R :=
 take29_spec st hr n hn (H.n+1) _ dR_f1 R (by rw [dR_set1];exact h)
set_option maxHeartbeats 16000000 in
set_option maxRecDepth 20000 in
theorem Decode29_spec (b:By) (hb:b.length≤140737488355000) (H:Hp) (R:AV → Hp → Prop) (h:R (.tup [.p (msg (dec b).1),.p (i64 (dec b).2)]) H):ACall Tryd.prog G 10 [.p (.sl false 1 (pl b8 b))] H R:=by
 have hz:(List.replicate 32 0#8:By).length=32:=List.length_replicate
 rw [←decG_eq] at h
 unfold decE at h
 refine ACall.of_run (raw:=[]) Tryd.func10 rfl Tryd.ntmps10 (by simp) fun hbel => ?_
 (repeat refine .z rfl ?_);refine .text ?_;simp (disch:=first|exact dsc|fail) only [go_sem,seval,-List.reduceReplicate]
 (repeat refine .z rfl ?_);refine .text ?_;simp (disch:=first|exact dsc|fail) only [go_sem,seval,-List.reduceReplicate,acells2,mkAgg2]
 change ARun _ _ _ (dQ H (b,true)) R
 -- the head
 have k1:(rk (b,true) 1).1.length=1:=rk_len
 have q1:=rk_le (st:=(b,true)) (n:=1)
 simp only at q1
 have b1:=rd_lt2 (b:=(rk (b,true) 1).1) (by omega)
 have w1:=wrap_small (n:=(rd (rk (b,true) 1).1).toNat) (by omega)
 (repeat refine .z rfl ?_);refine .text ?_;simp (disch:=first|exact dsc|fail) only [go_sem,seval,-List.reduceReplicate]
 refine CallK.of (fun R h=>numQ (b,true) hb 1 (by omega) H R h) ?_;simp (disch:=first|exact dsc|fail) only [go_sem,seval,-List.reduceReplicate,w1]
 generalize (rk (b,true) 1).2=s1 at *
 generalize rd (rk (b,true) 1).1=kd at *
 clear k1
 unfold eE at h
 have k2:(rk s1 4).1.length=4:=rk_len
 have q2:=rk_le (st:=s1) (n:=4)
 have b2:=rd_lt4 (b:=(rk s1 4).1) (by omega)
 have w2:=wrap_small (n:=(rd (rk s1 4).1).toNat) (by omega)
 refine CallK.of (fun R h=>numQ s1 (by omega) 4 (by omega) H R h) ?_;simp (disch:=first|exact dsc|fail) only [go_sem,seval,-List.reduceReplicate,w2]
 generalize (rk s1 4).2=s2 at *
 generalize rd (rk s1 4).1=se at *
 clear k2
 unfold eS at h
 have k3:(rk s2 4).1.length=4:=rk_len
 have q3:=rk_le (st:=s2) (n:=4)
 have b3:=rd_lt4 (b:=(rk s2 4).1) (by omega)
 have w3:=wrap_small (n:=(rd (rk s2 4).1).toNat) (by omega)
 refine CallK.of (fun R h=>numQ s2 (by omega) 4 (by omega) H R h) ?_;simp (disch:=first|exact dsc|fail) only [go_sem,seval,-List.reduceReplicate,w3,mP_agg,mQ_cells,mP_set,mP_len,hz]
 generalize (rk s2 4).2=s3 at *
 generalize rd (rk s2 4).1=sp at *
 clear k3
 unfold e0 at h
 refine .ownC (H.n+2) 36 (by simp (disch:=first|exact dsc|fail) only [go_sem,seval,-List.reduceReplicate]<;>rfl) (mG_get36 hz) ?_
 simp (disch:=first|exact dsc|fail) only [go_sem,seval,-List.reduceReplicate,hz]
 refine .ownC (H.n+2) 37 (by simp (disch:=first|exact dsc|fail) only [go_sem,seval,-List.reduceReplicate]<;>rfl) (mG_get37 hz) ?_
 simp (disch:=first|exact dsc|fail) only [go_sem,seval,-List.reduceReplicate,hz]
 change ARun _ _ _ (dR H (mG kd.toNat se.toNat sp.toNat [] (List.replicate 32 0#8) (.sl (H.n+3) 0 1 []) (.sl (H.n+4) 0 2 [])) s3 0 0) R
 -- the root
 have k4:(rk s3 32).1.length=32:=rk_len
 have q4:=rk_le (st:=s3) (n:=32)
 (repeat refine .z rfl ?_);refine .text ?_;simp (disch:=first|exact dsc|fail) only [go_sem,seval,-List.reduceReplicate]
 refine CallK.of (fun R h=>takeR s3 (by omega) 32 (by omega) H _ _ _ R h) ?_;simp (disch:=first|exact dsc|fail) only [go_sem,seval,-List.reduceReplicate]
 generalize (rk s3 32).2=s4 at *
 generalize (rk s3 32).1=ro at *
 unfold e1 at h
 (repeat refine .z rfl ?_);refine .text ?_;simp (disch:=first|exact dsc|fail) only [go_sem,seval,-List.reduceReplicate]
 rw [←mix_zero (r:=ro)]
 (repeat refine .z rfl ?_);refine .loopH [0,2,4,5,6] (fun i=>[(7,.p (i64 i))]) (fun i=>dR H (mG kd.toNat se.toNat sp.toNat [] (mix ro i) (.sl (H.n+3) 0 1 []) (.sl (H.n+4) 0 2 [])) s4 0 0) (fun i=>True) (0) (32) (by omega) ?_ (by first | rfl | (simp (disch:=first|exact dsc|fail) only [go_sem,seval,-List.reduceReplicate]<;>rfl)) ?_ ?_ ?_
 · simp (disch:=first|exact dsc|fail) only [go_sem,seval,-List.reduceReplicate]<;>(repeat' (first | rfl | refine And.intro ?_ ?_))
 · exact trivial
 intro env A hQ;simp (disch:=first|exact dsc|fail) only [go_sem,seval,-List.reduceReplicate] at A
 rotate_left 1
 intro i env hi0 hi A hQ ihA;simp (disch:=first|exact dsc|fail) only [go_sem,seval,-List.reduceReplicate] at A
 rotate_left 1
 · (repeat refine .z rfl ?_);refine .text ?_;simp (disch:=first|exact dsc|fail) only [go_sem,seval,-List.reduceReplicate,A]
   (repeat refine .z rfl ?_);refine .ifF (by simp (disch:=first|exact dsc|fail) only [go_sem,seval,-List.reduceReplicate]) ?_
   (repeat refine .z rfl ?_);refine .text ?_;simp (disch:=first|exact dsc|fail) only [go_sem,seval,-List.reduceReplicate,A]
   rw [mix_all k4]
   -- the text
   have k5:(rk s4 2).1.length=2:=rk_len
   have q5:=rk_le (st:=s4) (n:=2)
   have b5:(rd (rk s4 2).1).toNat < 65536:=rd_lt2 (by omega)
   have w5:=wrap_small (n:=(rd (rk s4 2).1).toNat) (by omega)
   refine CallK.of (fun R h=>numR s4 (by omega) 2 (by omega) H _ _ _ R h) ?_;simp (disch:=first|exact dsc|fail) only [go_sem,seval,-List.reduceReplicate,w5]
   generalize (rk s4 2).2=s5 at *
   generalize (rd (rk s4 2).1).toNat=tl at *
   clear k5
   unfold e2 at h
   have k6:(rk s5 tl).1.length=tl:=rk_len
   have q6:=rk_le (st:=s5) (n:=tl)
   refine CallK.of (fun R h=>takeR s5 (by omega) tl (by omega) H _ _ _ R h) ?_;simp (disch:=first|exact dsc|fail) only [go_sem,seval,-List.reduceReplicate,conv_bytes_str,A]
   generalize (rk s5 tl).2=s6 at *
   generalize (rk s5 tl).1=tx at *
   unfold e3 at h
   -- the sums
   have k7:(rk s6 1).1.length=1:=rk_len
   have q7:=rk_le (st:=s6) (n:=1)
   have b7:(rd (rk s6 1).1).toNat < 256:=by
    rw [rd1 k7];exact (nth (rk s6 1).1 0).isLt
   have w7:=wrap_small (n:=(rd (rk s6 1).1).toNat) (by omega)
   (repeat refine .z rfl ?_);refine .text ?_;simp (disch:=first|exact dsc|fail) only [go_sem,seval,-List.reduceReplicate,A]
   refine CallK.of (fun R h=>numR s6 (by omega) 1 (by omega) H _ _ _ R h) ?_;simp (disch:=first|exact dsc|fail) only [go_sem,seval,-List.reduceReplicate,w7]
   generalize (rk s6 1).2=s7 at *
   generalize (rd (rk s6 1).1).toNat=c1 at *
   clear k7
   unfold e4 at h
   (repeat refine .z rfl ?_);refine .text ?_;simp (disch:=first|exact dsc|fail) only [go_sem,seval,-List.reduceReplicate,A]
   (repeat refine .z rfl ?_);refine .loopH [0,2,4,5,8] (fun i=>[(9,.p (i64 i))]) (fun i=>dR H (mG kd.toNat se.toNat sp.toNat tx ro (.sl (H.n+3) i 1 (pl i64 ((wR s7 i).1.map toI))) (.sl (H.n+4) 0 2 [])) (wR s7 i).2 i 0) (fun i=>True) (0) (c1) (by omega) ?_ (by first | rfl | (simp (disch:=first|exact dsc|fail) only [go_sem,seval,-List.reduceReplicate,A,wR,List.map_nil]<;>rfl)) ?_ ?_ ?_
   · simp (disch:=first|exact dsc|fail) only [go_sem,seval,-List.reduceReplicate,A,wR,List.map_nil]<;>(repeat' (first | rfl | refine And.intro ?_ ?_))
   · exact trivial
   intro env E hQ;simp (disch:=first|exact dsc|fail) only [go_sem,seval,-List.reduceReplicate,A,wR,List.map_nil] at E
   rotate_left 1
   intro i env hi0 hi E hQ ihE;simp (disch:=first|exact dsc|fail) only [go_sem,seval,-List.reduceReplicate,A,wR,List.map_nil] at E
   rotate_left 1
   · have q8:=wR_le (st:=s7) (c:=c1)
     have k8:((wR s7 c1).1.map toI).length=c1:=by rw [List.length_map,wR_len]
     generalize (wR s7 c1).2=s8 at *
     (repeat refine .z rfl ?_);refine .text ?_;simp (disch:=first|exact dsc|fail) only [go_sem,seval,-List.reduceReplicate,E]
     (repeat refine .z rfl ?_);refine .ifF (by simp (disch:=first|exact dsc|fail) only [go_sem,seval,-List.reduceReplicate]) ?_
     (repeat refine .z rfl ?_);refine .text ?_;simp (disch:=first|exact dsc|fail) only [go_sem,seval,-List.reduceReplicate,E]
     unfold e5 at h
     -- the values
     have k9:(rk s8 1).1.length=1:=rk_len
     have q9:=rk_le (st:=s8) (n:=1)
     have b9:(rd (rk s8 1).1).toNat < 256:=by
      rw [rd1 k9];exact (nth (rk s8 1).1 0).isLt
     have w9:=wrap_small (n:=(rd (rk s8 1).1).toNat) (by omega)
     refine CallK.of (fun R h=>numR s8 (by omega) 1 (by omega) H _ _ _ R h) ?_;simp (disch:=first|exact dsc|fail) only [go_sem,seval,-List.reduceReplicate,w9]
     generalize (rk s8 1).2=s9 at *
     generalize (rd (rk s8 1).1).toNat=c2 at *
     clear k9
     unfold e6 at h
     (repeat refine .z rfl ?_);refine .text ?_;simp (disch:=first|exact dsc|fail) only [go_sem,seval,-List.reduceReplicate,E]
     have hbs:(wR s7 c1).1.map toI=(wR s7 c1).1.map toI:=rfl
     generalize hus:(wR s7 c1).1=ws at *
     (repeat refine .z rfl ?_);refine .loopH [0,2,4,5,8] (fun i=>[(10,.p (i64 i))]) (fun i=>dR H (mG kd.toNat se.toNat sp.toNat tx ro (.sl (H.n+3) c1 1 (pl i64 (ws.map toI))) (.sl (H.n+4) i 2 (pl ext (vR s9 i).1))) (vR s9 i).2 c1 i) (fun i=>True) (0) (c2) (by omega) ?_ (by first | rfl | (simp (disch:=first|exact dsc|fail) only [go_sem,seval,-List.reduceReplicate,A,E,vR]<;>rfl)) ?_ ?_ ?_
     · simp (disch:=first|exact dsc|fail) only [go_sem,seval,-List.reduceReplicate,A,E,vR]<;>(repeat' (first | rfl | refine And.intro ?_ ?_))
     · exact trivial
     intro env F hQ;simp (disch:=first|exact dsc|fail) only [go_sem,seval,-List.reduceReplicate,A,E,vR] at F
     rotate_left 1
     intro i env hi0 hi F hQ ihF;simp (disch:=first|exact dsc|fail) only [go_sem,seval,-List.reduceReplicate,A,E,vR] at F
     rotate_left 1
     · have q10:=vR_le (st:=s9) (c:=c2)
       have k10:(vR s9 c2).1.length=c2:=vR_len
       generalize (vR s9 c2).2=s10 at *
       generalize (vR s9 c2).1=vs at *
       (repeat refine .z rfl ?_);refine .text ?_;simp (disch:=first|exact dsc|fail) only [go_sem,seval,-List.reduceReplicate,F]
       (repeat refine .z rfl ?_);refine .ifF (by simp (disch:=first|exact dsc|fail) only [go_sem,seval,-List.reduceReplicate]) ?_
       (repeat refine .z rfl ?_);refine .text ?_;simp (disch:=first|exact dsc|fail) only [go_sem,seval,-List.reduceReplicate,F]
       unfold e7 at h
       refine CallK.of (fun R h=>takeR s10 (by omega) 8 (by omega) H _ _ _ R h) ?_;simp (disch:=first|exact dsc|fail) only [go_sem,seval,-List.reduceReplicate]
       generalize (rk s10 8).2=s11 at *
       have hbel:Bel H.n (dR H (mG kd.toNat se.toNat sp.toNat tx ro (.sl (H.n+3) c1 1 (pl i64 (ws.map toI))) (.sl (H.n+4) c2 2 (pl ext vs))) s11 c1 c2):=dR_bel hbel
       have hf1:(dR H (mG kd.toNat se.toNat sp.toNat tx ro (.sl (H.n+3) c1 1 (pl i64 (ws.map toI))) (.sl (H.n+4) c2 2 (pl ext vs))) s11 c1 c2).f (H.n+1)=some (.cells [.p (.sl false 1 (pl b8 s11.1)),.p (bo (!s11.2))]):=dR_f1
       unfold decG at h
       simp only at h
       cases hok:s11.2 with
       | false =>
        rw [hok,if_pos rfl] at h
        rw [hok] at hf1
        (repeat refine .z rfl ?_);refine .text ?_;simp (disch:=first|exact dsc|fail) only [go_sem,seval,-List.reduceReplicate,F,E,A,hf1]
        (repeat refine .z rfl ?_);refine .ifT (by simp (disch:=first|exact dsc|fail) only [go_sem,seval,-List.reduceReplicate]) ?_
        (repeat refine .z rfl ?_);refine .text ?_;simp (disch:=first|exact dsc|fail) only [go_sem,seval,-List.reduceReplicate,F,E,A,hz,mZ]
        (repeat refine .z rfl ?_);refine .rt Tryd.func10 (by rw [Tryd.results10]) (hx:=by simp (disch:=first|exact dsc|fail) only [go_sem,seval,-List.reduceReplicate,F,E,A,hz,mZ];rfl) (hR := ?_);simp (disch:=first|exact dsc|fail) only [go_sem,seval,-List.reduceReplicate,F,E,A,hz,mZ]
        exact h
       | true =>
        rw [hok] at h hf1
        simp only [Bool.true_eq_false,if_false] at h
        (repeat refine .z rfl ?_);refine .text ?_;simp (disch:=first|exact dsc|fail) only [go_sem,seval,-List.reduceReplicate,F,E,A,hf1]
        (repeat refine .z rfl ?_);refine .ifF (by simp (disch:=first|exact dsc|fail) only [go_sem,seval,-List.reduceReplicate]) ?_
        have hM:(⟨kd.toNat,se.toNat,sp.toNat,tx,⟨ro,k4⟩,ws.map toI,vs⟩:Msg).Ok:=⟨⟨by show (_:Int)≤(kd.toNat:Int);omega,by show (kd.toNat:Int)≤_;omega⟩,⟨by show (_:Int)≤(se.toNat:Int);omega,by show (se.toNat:Int)≤_;omega⟩,⟨by show (_:Int)≤(sp.toNat:Int);omega,by show (sp.toNat:Int)≤_;omega⟩,by show tx.length≤_;omega,by show (ws.map toI).length≤_;omega,by show vs.length≤_;omega⟩
        have hagg:=mG_agg (k:=kd.toNat) (s:=se.toNat) (t:=sp.toNat) (tx:=tx) (a:=H.n+3) (v:=c1) (a':=H.n+4) (v':=c2) (su:=ws.map toI) (va:=vs) k4
        rw [mkD_eq k4] at h
        generalize (⟨kd.toNat,se.toNat,sp.toNat,tx,⟨ro,k4⟩,ws.map toI,vs⟩:Msg)=M at *
        by_cases hr:s11.1=[]
        · have d:decide ((0:Int) < (s11.1.length:Int))=false:=by rw [hr];rfl
          (repeat refine .z rfl ?_);refine .text ?_;simp (disch:=first|exact dsc|fail) only [go_sem,seval,-List.reduceReplicate,F,E,A,hf1,d,hagg]
          refine CallK.of (fun R h=>Encode29_spec M hM _ R h) ?_;simp (disch:=first|exact dsc|fail) only [go_sem,seval,-List.reduceReplicate,F,E,A]
          have hel:(enc M).length≤140737488355000:=by
           cases hv:valid M with
           | true =>
            have:=enc_size hv
            have:=valid_b hv
            omega
           | false=>rw [enc,hv];simp
          refine CallK.of (fun R h=>SameBytes_spec (enc M) b hel hb _ R h) ?_;simp (disch:=first|exact dsc|fail) only [go_sem,seval,-List.reduceReplicate]
          by_cases he:enc M=b
          · rw [if_pos ⟨hr,he⟩] at h
            have d:decide (enc M=b)=true:=decide_eq_true he
            simp (disch:=first|exact dsc|fail) only [go_sem,seval,-List.reduceReplicate,d]
            (repeat refine .z rfl ?_);refine .ifF (by simp (disch:=first|exact dsc|fail) only [go_sem,seval,-List.reduceReplicate]) ?_
            (repeat refine .z rfl ?_);refine .text ?_;simp (disch:=first|exact dsc|fail) only [go_sem,seval,-List.reduceReplicate,F,E,A,hagg,mZ]
            (repeat refine .z rfl ?_);refine .rt Tryd.func10 (by rw [Tryd.results10]) (hx:=by simp (disch:=first|exact dsc|fail) only [go_sem,seval,-List.reduceReplicate,F,E,A,hz,mZ];rfl) (hR := ?_);simp (disch:=first|exact dsc|fail) only [go_sem,seval,-List.reduceReplicate,F,E,A,hz,mZ]
            exact h
          · rw [if_neg (fun q=>he q.2)] at h
            have d:decide (enc M=b)=false:=decide_eq_false he
            simp (disch:=first|exact dsc|fail) only [go_sem,seval,-List.reduceReplicate,d]
            (repeat refine .z rfl ?_);refine .ifT (by simp (disch:=first|exact dsc|fail) only [go_sem,seval,-List.reduceReplicate]) ?_
            (repeat refine .z rfl ?_);refine .text ?_;simp (disch:=first|exact dsc|fail) only [go_sem,seval,-List.reduceReplicate,F,E,A,hz,mZ]
            (repeat refine .z rfl ?_);refine .rt Tryd.func10 (by rw [Tryd.results10]) (hx:=by simp (disch:=first|exact dsc|fail) only [go_sem,seval,-List.reduceReplicate,F,E,A,hz,mZ];rfl) (hR := ?_);simp (disch:=first|exact dsc|fail) only [go_sem,seval,-List.reduceReplicate,F,E,A,hz,mZ]
            exact h
        · have d:decide ((0:Int) < (s11.1.length:Int))=true:=decide_eq_true (by have:s11.1.length≠0:=fun q=>hr (List.eq_nil_of_length_eq_zero q);omega)
          rw [if_neg (fun q=>hr q.1)] at h
          (repeat refine .z rfl ?_);refine .text ?_;simp (disch:=first|exact dsc|fail) only [go_sem,seval,-List.reduceReplicate,F,E,A,hf1,d]
          (repeat refine .z rfl ?_);refine .ifT (by simp (disch:=first|exact dsc|fail) only [go_sem,seval,-List.reduceReplicate]) ?_
          (repeat refine .z rfl ?_);refine .text ?_;simp (disch:=first|exact dsc|fail) only [go_sem,seval,-List.reduceReplicate,F,E,A,hz,mZ]
          (repeat refine .z rfl ?_);refine .rt Tryd.func10 (by rw [Tryd.results10]) (hx:=by simp (disch:=first|exact dsc|fail) only [go_sem,seval,-List.reduceReplicate,F,E,A,hz,mZ];rfl) (hR := ?_);simp (disch:=first|exact dsc|fail) only [go_sem,seval,-List.reduceReplicate,F,E,A,hz,mZ]
          exact h
     · have hst:vR s9 (i+1)=((vR s9 i).1++[⟨rd (rk (vR s9 i).2 8).1,rd (rk (rk (vR s9 i).2 8).2 8).1⟩],(rk (rk (vR s9 i).2 8).2 8).2):=rfl
       rw [hst] at ihF
       have k10:(vR s9 i).1.length=i:=vR_len
       have q10:=vR_le (st:=s9) (c:=i)
       generalize (vR s9 i).2=s10 at *
       generalize (vR s9 i).1=vs at *
       have q11:=rk_le (st:=s10) (n:=8)
       have na : ∀ mc j l R,R (.p (w64 (rd (rk s10 8).1))) (dR H mc (rk s10 8).2 j l) → ACall Tryd.prog G 37 [.ptr (H.n+1) 0,.p (i64 8)] (dR H mc s10 j l) R:=fun mc j l R h=>numR s10 (by omega) 8 (by omega) H mc j l R h
       generalize (rk s10 8).2=s11 at *
       generalize rd (rk s10 8).1=xa at *
       have nb : ∀ mc j l R,R (.p (w64 (rd (rk s11 8).1))) (dR H mc (rk s11 8).2 j l) → ACall Tryd.prog G 37 [.ptr (H.n+1) 0,.p (i64 8)] (dR H mc s11 j l) R:=fun mc j l R h=>numR s11 (by omega) 8 (by omega) H mc j l R h
       generalize (rk s11 8).2=s12 at *
       generalize rd (rk s11 8).1=xb at *
       generalize ws.map toI=us at *
       (repeat refine .z rfl ?_);refine .text ?_;simp (disch:=first|exact dsc|fail) only [go_sem,seval,-List.reduceReplicate,F]
       (repeat refine .z rfl ?_);refine .ifT (by simp (disch:=first|exact dsc|fail) only [go_sem,seval,-List.reduceReplicate]) ?_
       (repeat refine .z rfl ?_)
       refine .openInv (fun L env' H'=>env' 0 = .p (.sl false 1 (pl b8 b))∧env' 2 = .ptr H.n 0∧env' 4 = .ptr (H.n+1) 0∧env' 5 = .ptr (H.n+2) 0∧env' 8 = .p (i64 c2)∧env' 10 = .p (i64 i)∧(L 0=true → env' 68 = .ptr (H.n+2) 37)∧(L 1=true → env' 69 = .sl (H.n+4) i 2 (pl ext vs))∧(L 2=true → env' 70 = .ptr (H.n+1) 0)∧(L 3=true → env' 71 = .p (w64 xa))∧(L 4=true → env' 72 = .ptr (H.n+1) 0)∧(L 5=true → env' 73 = .p (w64 xb))∧(L 6=true → env' 74 = .p (ext ⟨xa,xb⟩))∧(L 7=true → env' 75 = .p (.sl true 2 [ext ⟨xa,xb⟩]))∧(L 8=true → env' 76 = .sl (H.n+4) (i+1) 2 (pl ext (vs++[⟨xa,xb⟩])))∧(L 9=true → env' 77 = .ptr (H.n+2) 37)∧(L 3=true → allT L [2])∧(L 5=true → allT L [3,4])∧(L 8=true → allT L [1,5,7])∧(L 10=true → allT L [0,1,2,3,4,5,6,7,8,9])∧H'=(dR H (mG kd.toNat se.toNat sp.toNat tx ro (.sl (H.n+3) c1 1 (pl i64 us)) (if L 10 then .sl (H.n+4) (i+1) 2 (pl ext (vs++[⟨xa,xb⟩])) else .sl (H.n+4) i 2 (pl ext vs))) (if L 5 then s12 else if L 3 then s11 else s10) c1 (if L 8 then i+1 else i))) follows (by kernel_rfl) ?_ ?_ ?_
       · exact ⟨(by simp (disch:=first|exact dsc|fail) only [go_sem,seval,-List.reduceReplicate,F,E,A,k4,k10]),(by simp (disch:=first|exact dsc|fail) only [go_sem,seval,-List.reduceReplicate,F,E,A,k4,k10]),(by simp (disch:=first|exact dsc|fail) only [go_sem,seval,-List.reduceReplicate,F,E,A,k4,k10]),(by simp (disch:=first|exact dsc|fail) only [go_sem,seval,-List.reduceReplicate,F,E,A,k4,k10]),(by simp (disch:=first|exact dsc|fail) only [go_sem,seval,-List.reduceReplicate,F,E,A,k4,k10]),(by simp (disch:=first|exact dsc|fail) only [go_sem,seval,-List.reduceReplicate,F,E,A,k4,k10]),(fun h=>by cases h),(fun h=>by cases h),(fun h=>by cases h),(fun h=>by cases h),(fun h=>by cases h),(fun h=>by cases h),(fun h=>by cases h),(fun h=>by cases h),(fun h=>by cases h),(fun h=>by cases h),(fun h=>by cases h),(fun h=>by cases h),(fun h=>by cases h),(fun h=>by cases h),(by first | rfl | (simp only [Bool.false_eq_true,if_false];first | rfl | (simp (disch:=first|exact dsc|fail) only [go_sem,seval,-List.reduceReplicate,F,E,A,k4,k10]<;>rfl)))⟩
       · intro i o L env' H' ho hL hall hI
         obtain ⟨f0,f1,f2,f3,f4,f5,g0,g1,g2,g3,g4,g5,g6,g7,g8,g9,m3,m5,m8,m10,rfl⟩:=hI
         rcases i with _ | _ | _ | _ | _ | _ | _ | _ | _ | _ | _ | i
         · cases ho
           have n10:=nfT m10 hL
           refine opA_val (.ptr (H.n+2) 37) rfl rfl (by simp (disch:=first|exact dsc|fail) only [go_sem,seval,-List.reduceReplicate,reduceIte,Bool.false_eq_true,if_false,if_true,f0,f1,f2,f3,f4,f5,n10,hL,F,E,A,k4,k10]<;>rfl) rfl ?_
           exact ⟨(kf f0),(kf f1),(kf f2),(kf f3),(kf f4),(kf f5),kn,(kp g1),(kp g2),(kp g3),(kp g4),(kp g5),(kp g6),(kp g7),(kp g8),(kp g9),(ka m3),(ka m5),(ka m8),(ka m10),(by (have e3:more L 0 3=L 3:=more_ne (by decide));(have e5:more L 0 5=L 5:=more_ne (by decide));(have e8:more L 0 8=L 8:=more_ne (by decide));(have e10:more L 0 10=L 10:=more_ne (by decide));(try simp only [e3,e5,e8,e10,n10]);first | done | rfl | (simp only [e3,e5,e8,e10,n10,if_true,if_false,Bool.false_eq_true];first | done | rfl | (simp (disch:=first|exact dsc|fail) only [go_sem,seval,-List.reduceReplicate,e3,e5,e8,e10,n10,F,E,A,k4,k10]<;>rfl)))⟩
         · cases ho
           have h0:L 0=true:=hall ⟨0,.data⟩ (by simp) rfl
           have d0:=g0 h0
           have n8:=nfT m8 hL
           have n10:=nfT m10 hL
           refine opA_val (.sl (H.n+4) i 2 (pl ext vs)) rfl rfl (by simp (disch:=first|exact dsc|fail) only [go_sem,seval,-List.reduceReplicate,reduceIte,Bool.false_eq_true,if_false,if_true,f0,f1,f2,f3,f4,f5,d0,n8,n10,hL,F,E,A,k4,k10]<;>rfl) rfl ?_
           exact ⟨(kf f0),(kf f1),(kf f2),(kf f3),(kf f4),(kf f5),(kp g0),kn,(kp g2),(kp g3),(kp g4),(kp g5),(kp g6),(kp g7),(kp g8),(kp g9),(ka m3),(ka m5),(ka m8),(ka m10),(by (have e3:more L 1 3=L 3:=more_ne (by decide));(have e5:more L 1 5=L 5:=more_ne (by decide));(have e8:more L 1 8=L 8:=more_ne (by decide));(have e10:more L 1 10=L 10:=more_ne (by decide));(try simp only [e3,e5,e8,e10,n8,n10]);first | done | rfl | (simp only [e3,e5,e8,e10,n8,n10,if_true,if_false,Bool.false_eq_true];first | done | rfl | (simp (disch:=first|exact dsc|fail) only [go_sem,seval,-List.reduceReplicate,e3,e5,e8,e10,n8,n10,F,E,A,k4,k10]<;>rfl)))⟩
         · cases ho
           have n3:=nfT m3 hL
           have n10:=nfT m10 hL
           refine opA_val (.ptr (H.n+1) 0) rfl rfl (by simp (disch:=first|exact dsc|fail) only [go_sem,seval,-List.reduceReplicate,reduceIte,Bool.false_eq_true,if_false,if_true,f0,f1,f2,f3,f4,f5,n3,n10,hL,F,E,A,k4,k10]<;>rfl) rfl ?_
           exact ⟨(kf f0),(kf f1),(kf f2),(kf f3),(kf f4),(kf f5),(kp g0),(kp g1),kn,(kp g3),(kp g4),(kp g5),(kp g6),(kp g7),(kp g8),(kp g9),(ka m3),(ka m5),(ka m8),(ka m10),(by (have e3:more L 2 3=L 3:=more_ne (by decide));(have e5:more L 2 5=L 5:=more_ne (by decide));(have e8:more L 2 8=L 8:=more_ne (by decide));(have e10:more L 2 10=L 10:=more_ne (by decide));(try simp only [e3,e5,e8,e10,n3,n10]);first | done | rfl | (simp only [e3,e5,e8,e10,n3,n10,if_true,if_false,Bool.false_eq_true];first | done | rfl | (simp (disch:=first|exact dsc|fail) only [go_sem,seval,-List.reduceReplicate,e3,e5,e8,e10,n3,n10,F,E,A,k4,k10]<;>rfl)))⟩
         · cases ho
           have h2:L 2=true:=hall ⟨2,.data⟩ (by simp) rfl
           have d2:=g2 h2
           have n5:=nfT m5 hL
           have n10:=nfT m10 hL
           (try simp only [n5,n10,hL,if_true,if_false,Bool.false_eq_true])
           refine opA_call rfl rfl (by simp (disch:=first|exact dsc|fail) only [go_sem,seval,-List.reduceReplicate,reduceIte,Bool.false_eq_true,if_false,if_true,f0,f1,f2,f3,f4,f5,d2,n5,n10,hL,F,E,A,k4,k10]<;>rfl) rfl (by simp (disch:=first|exact dsc|fail) only [go_sem,seval,-List.reduceReplicate,reduceIte,Bool.false_eq_true,if_false,if_true,f0,f1,f2,f3,f4,f5,d2,n5,n10,hL,F,E,A,k4,k10]<;>rfl) (fun R h=>na _ _ _ R h) ?_
           exact ⟨(kf f0),(kf f1),(kf f2),(kf f3),(kf f4),(kf f5),(kp g0),(kp g1),(kp g2),kn,(kp g4),(kp g5),(kp g6),(kp g7),(kp g8),(kp g9),(fun _=>kt (allT_cons h2 allT_nil)),(ka m5),(ka m8),(ka m10),(by (have e3:more L 3 3=true:=more_eq);(have e5:more L 3 5=L 5:=more_ne (by decide));(have e8:more L 3 8=L 8:=more_ne (by decide));(have e10:more L 3 10=L 10:=more_ne (by decide));(try simp only [e3,e5,e8,e10,n5,n10,hL]);first | done | rfl | (simp only [e3,e5,e8,e10,n5,n10,hL,if_true,if_false,Bool.false_eq_true];first | done | rfl | (simp (disch:=first|exact dsc|fail) only [go_sem,seval,-List.reduceReplicate,e3,e5,e8,e10,n5,n10,hL,F,E,A,k4,k10]<;>rfl)))⟩
         · cases ho
           have n5:=nfT m5 hL
           have n10:=nfT m10 hL
           refine opA_val (.ptr (H.n+1) 0) rfl rfl (by simp (disch:=first|exact dsc|fail) only [go_sem,seval,-List.reduceReplicate,reduceIte,Bool.false_eq_true,if_false,if_true,f0,f1,f2,f3,f4,f5,n5,n10,hL,F,E,A,k4,k10]<;>rfl) rfl ?_
           exact ⟨(kf f0),(kf f1),(kf f2),(kf f3),(kf f4),(kf f5),(kp g0),(kp g1),(kp g2),(kp g3),kn,(kp g5),(kp g6),(kp g7),(kp g8),(kp g9),(ka m3),(ka m5),(ka m8),(ka m10),(by (have e3:more L 4 3=L 3:=more_ne (by decide));(have e5:more L 4 5=L 5:=more_ne (by decide));(have e8:more L 4 8=L 8:=more_ne (by decide));(have e10:more L 4 10=L 10:=more_ne (by decide));(try simp only [e3,e5,e8,e10,n5,n10]);first | done | rfl | (simp only [e3,e5,e8,e10,n5,n10,if_true,if_false,Bool.false_eq_true];first | done | rfl | (simp (disch:=first|exact dsc|fail) only [go_sem,seval,-List.reduceReplicate,e3,e5,e8,e10,n5,n10,F,E,A,k4,k10]<;>rfl)))⟩
         · cases ho
           have h4:L 4=true:=hall ⟨4,.data⟩ (by simp) rfl
           have d4:=g4 h4
           have h3:L 3=true:=hall ⟨3,.chain⟩ (by simp) rfl
           have n8:=nfT m8 hL
           have n10:=nfT m10 hL
           (try simp only [h3,n8,n10,hL,if_true,if_false,Bool.false_eq_true])
           refine opA_call rfl rfl (by simp (disch:=first|exact dsc|fail) only [go_sem,seval,-List.reduceReplicate,reduceIte,Bool.false_eq_true,if_false,if_true,f0,f1,f2,f3,f4,f5,d4,h3,n8,n10,hL,F,E,A,k4,k10]<;>rfl) rfl (by simp (disch:=first|exact dsc|fail) only [go_sem,seval,-List.reduceReplicate,reduceIte,Bool.false_eq_true,if_false,if_true,f0,f1,f2,f3,f4,f5,d4,h3,n8,n10,hL,F,E,A,k4,k10]<;>rfl) (fun R h=>nb _ _ _ R h) ?_
           exact ⟨(kf f0),(kf f1),(kf f2),(kf f3),(kf f4),(kf f5),(kp g0),(kp g1),(kp g2),(kp g3),(kp g4),kn,(kp g6),(kp g7),(kp g8),(kp g9),(ka m3),(fun _=>kt (allT_cons h3 (allT_cons h4 allT_nil))),(ka m8),(ka m10),(by (have e3:more L 5 3=L 3:=more_ne (by decide));(have e5:more L 5 5=true:=more_eq);(have e8:more L 5 8=L 8:=more_ne (by decide));(have e10:more L 5 10=L 10:=more_ne (by decide));(try simp only [e3,e5,e8,e10,h3,n8,n10,hL]);first | done | rfl | (simp only [e3,e5,e8,e10,h3,n8,n10,hL,if_true,if_false,Bool.false_eq_true];first | done | rfl | (simp (disch:=first|exact dsc|fail) only [go_sem,seval,-List.reduceReplicate,e3,e5,e8,e10,h3,n8,n10,hL,F,E,A,k4,k10]<;>rfl)))⟩
         · cases ho
           have h3:L 3=true:=hall ⟨3,.data⟩ (by simp) rfl
           have d3:=g3 h3
           have h5:L 5=true:=hall ⟨5,.data⟩ (by simp) rfl
           have d5:=g5 h5
           have n10:=nfT m10 hL
           refine opA_val (.p (ext ⟨xa,xb⟩)) rfl rfl (by simp (disch:=first|exact dsc|fail) only [go_sem,seval,-List.reduceReplicate,reduceIte,Bool.false_eq_true,if_false,if_true,f0,f1,f2,f3,f4,f5,d3,d5,h3,h5,n10,hL,F,E,A,k4,k10]<;>rfl) rfl ?_
           exact ⟨(kf f0),(kf f1),(kf f2),(kf f3),(kf f4),(kf f5),(kp g0),(kp g1),(kp g2),(kp g3),(kp g4),(kp g5),kn,(kp g7),(kp g8),(kp g9),(ka m3),(ka m5),(ka m8),(ka m10),(by (have e3:more L 6 3=L 3:=more_ne (by decide));(have e5:more L 6 5=L 5:=more_ne (by decide));(have e8:more L 6 8=L 8:=more_ne (by decide));(have e10:more L 6 10=L 10:=more_ne (by decide));(try simp only [e3,e5,e8,e10,h3,h5,n10]);first | done | rfl | (simp only [e3,e5,e8,e10,h3,h5,n10,if_true,if_false,Bool.false_eq_true];first | done | rfl | (simp (disch:=first|exact dsc|fail) only [go_sem,seval,-List.reduceReplicate,e3,e5,e8,e10,h3,h5,n10,F,E,A,k4,k10]<;>rfl)))⟩
         · cases ho
           have h6:L 6=true:=hall ⟨6,.data⟩ (by simp) rfl
           have d6:=g6 h6
           have n8:=nfT m8 hL
           have n10:=nfT m10 hL
           refine opA_val (.p (.sl true 2 [ext ⟨xa,xb⟩])) rfl rfl (by simp (disch:=first|exact dsc|fail) only [go_sem,seval,-List.reduceReplicate,reduceIte,Bool.false_eq_true,if_false,if_true,f0,f1,f2,f3,f4,f5,d6,n8,n10,hL,F,E,A,k4,k10]<;>rfl) rfl ?_
           exact ⟨(kf f0),(kf f1),(kf f2),(kf f3),(kf f4),(kf f5),(kp g0),(kp g1),(kp g2),(kp g3),(kp g4),(kp g5),(kp g6),kn,(kp g8),(kp g9),(ka m3),(ka m5),(ka m8),(ka m10),(by (have e3:more L 7 3=L 3:=more_ne (by decide));(have e5:more L 7 5=L 5:=more_ne (by decide));(have e8:more L 7 8=L 8:=more_ne (by decide));(have e10:more L 7 10=L 10:=more_ne (by decide));(try simp only [e3,e5,e8,e10,n8,n10]);first | done | rfl | (simp only [e3,e5,e8,e10,n8,n10,if_true,if_false,Bool.false_eq_true];first | done | rfl | (simp (disch:=first|exact dsc|fail) only [go_sem,seval,-List.reduceReplicate,e3,e5,e8,e10,n8,n10,F,E,A,k4,k10]<;>rfl)))⟩
         · cases ho
           have h1:L 1=true:=hall ⟨1,.data⟩ (by simp) rfl
           have d1:=g1 h1
           have h7:L 7=true:=hall ⟨7,.data⟩ (by simp) rfl
           have d7:=g7 h7
           have h5:L 5=true:=hall ⟨5,.chain⟩ (by simp) rfl
           have n10:=nfT m10 hL
           (try simp only [h5,n10,hL,if_true,if_false,Bool.false_eq_true])
           refine opA_valH (.sl (H.n+4) (i+1) 2 (pl ext (vs++[⟨xa,xb⟩]))) rfl rfl (by simp (disch:=first|exact dsc|fail) only [go_sem,seval,-List.reduceReplicate,reduceIte,Bool.false_eq_true,if_false,if_true,f0,f1,f2,f3,f4,f5,d1,d7,h5,n10,hL,F,E,A,k4,k10]<;>rfl) rfl ?_
           exact ⟨(kf f0),(kf f1),(kf f2),(kf f3),(kf f4),(kf f5),(kp g0),(kp g1),(kp g2),(kp g3),(kp g4),(kp g5),(kp g6),(kp g7),kn,(kp g9),(ka m3),(ka m5),(fun _=>kt (allT_cons h1 (allT_cons h5 (allT_cons h7 allT_nil)))),(ka m10),(by (have e3:more L 8 3=L 3:=more_ne (by decide));(have e5:more L 8 5=L 5:=more_ne (by decide));(have e8:more L 8 8=true:=more_eq);(have e10:more L 8 10=L 10:=more_ne (by decide));(try simp only [e3,e5,e8,e10,h5,n10,hL]);first | done | rfl | (simp only [e3,e5,e8,e10,h5,n10,hL,if_true,if_false,Bool.false_eq_true];first | done | rfl | (simp (disch:=first|exact dsc|fail) only [go_sem,seval,-List.reduceReplicate,e3,e5,e8,e10,h5,n10,hL,F,E,A,k4,k10]<;>rfl)))⟩
         · cases ho
           have h3:L 3=true:=hall ⟨3,.phase⟩ (by simp) rfl
           have h5:L 5=true:=hall ⟨5,.phase⟩ (by simp) rfl
           have h8:L 8=true:=hall ⟨8,.phase⟩ (by simp) rfl
           have n10:=nfT m10 hL
           refine opA_val (.ptr (H.n+2) 37) rfl rfl (by simp (disch:=first|exact dsc|fail) only [go_sem,seval,-List.reduceReplicate,reduceIte,Bool.false_eq_true,if_false,if_true,f0,f1,f2,f3,f4,f5,h3,h5,h8,n10,hL,F,E,A,k4,k10]<;>rfl) rfl ?_
           exact ⟨(kf f0),(kf f1),(kf f2),(kf f3),(kf f4),(kf f5),(kp g0),(kp g1),(kp g2),(kp g3),(kp g4),(kp g5),(kp g6),(kp g7),(kp g8),kn,(ka m3),(ka m5),(ka m8),(ka m10),(by (have e3:more L 9 3=L 3:=more_ne (by decide));(have e5:more L 9 5=L 5:=more_ne (by decide));(have e8:more L 9 8=L 8:=more_ne (by decide));(have e10:more L 9 10=L 10:=more_ne (by decide));(try simp only [e3,e5,e8,e10,h3,h5,h8,n10]);first | done | rfl | (simp only [e3,e5,e8,e10,h3,h5,h8,n10,if_true,if_false,Bool.false_eq_true];first | done | rfl | (simp (disch:=first|exact dsc|fail) only [go_sem,seval,-List.reduceReplicate,e3,e5,e8,e10,h3,h5,h8,n10,F,E,A,k4,k10]<;>rfl)))⟩
         · cases ho
           have h9:L 9=true:=hall ⟨9,.data⟩ (by simp) rfl
           have d9:=g9 h9
           have h8:L 8=true:=hall ⟨8,.data⟩ (by simp) rfl
           have d8:=g8 h8
           have h0:L 0=true:=hall ⟨0,.phase⟩ (by simp) rfl
           have h1:L 1=true:=hall ⟨1,.phase⟩ (by simp) rfl
           have h2:L 2=true:=hall ⟨2,.phase⟩ (by simp) rfl
           have h3:L 3=true:=hall ⟨3,.phase⟩ (by simp) rfl
           have h4:L 4=true:=hall ⟨4,.phase⟩ (by simp) rfl
           have h5:L 5=true:=hall ⟨5,.phase⟩ (by simp) rfl
           have h6:L 6=true:=hall ⟨6,.phase⟩ (by simp) rfl
           have h7:L 7=true:=hall ⟨7,.phase⟩ (by simp) rfl
           refine opA_unit rfl rfl (by simp (disch:=first|exact dsc|fail) only [go_sem,seval,-List.reduceReplicate,reduceIte,Bool.false_eq_true,if_false,if_true,f0,f1,f2,f3,f4,f5,d8,d9,h3,h5,h8,hL,F,E,A,k4,k10]<;>rfl) rfl ?_
           exact ⟨f0,f1,f2,f3,f4,f5,(kp0 g0),(kp0 g1),(kp0 g2),(kp0 g3),(kp0 g4),(kp0 g5),(kp0 g6),(kp0 g7),(kp0 g8),(kp0 g9),(ka m3),(ka m5),(ka m8),(fun _=>kt (allT_cons h0 (allT_cons h1 (allT_cons h2 (allT_cons h3 (allT_cons h4 (allT_cons h5 (allT_cons h6 (allT_cons h7 (allT_cons h8 (allT_cons h9 allT_nil))))))))))),(by (have e3:more L 10 3=L 3:=more_ne (by decide));(have e5:more L 10 5=L 5:=more_ne (by decide));(have e8:more L 10 8=L 8:=more_ne (by decide));(have e10:more L 10 10=true:=more_eq);(try simp only [e3,e5,e8,e10,h3,h5,h8,hL]);first | done | rfl | (simp only [e3,e5,e8,e10,h3,h5,h8,hL,if_true,if_false,Bool.false_eq_true];first | done | rfl | (simp (disch:=first|exact dsc|fail) only [go_sem,seval,-List.reduceReplicate,e3,e5,e8,e10,h3,h5,h8,hL,F,E,A,k4,k10]<;>rfl)))⟩
         · simp at ho
       · intro L env' H' hall hI
         obtain ⟨f0,f1,f2,f3,f4,f5,g0,g1,g2,g3,g4,g5,g6,g7,g8,g9,_,_,_,_,rfl⟩:=hI
         have l3:=hall 3 (by decide)
         have l5:=hall 5 (by decide)
         have l8:=hall 8 (by decide)
         have l10:=hall 10 (by decide)
         replace g0:=g0 (hall 0 (by decide))
         replace g1:=g1 (hall 1 (by decide))
         replace g2:=g2 (hall 2 (by decide))
         replace g3:=g3 (hall 3 (by decide))
         replace g4:=g4 (hall 4 (by decide))
         replace g5:=g5 (hall 5 (by decide))
         replace g6:=g6 (hall 6 (by decide))
         replace g7:=g7 (hall 7 (by decide))
         replace g8:=g8 (hall 8 (by decide))
         replace g9:=g9 (hall 9 (by decide))
         simp only [l3,l5,l8,l10,if_true]
         clear hall
         (repeat refine .z rfl ?_);refine .text ?_;simp (disch:=first|exact dsc|fail) only [go_sem,seval,-List.reduceReplicate,f5]
         first | (refine ihF _ _ ?_ trivial ?_) | (refine .z rfl ?_;refine ihF _ _ ?_ trivial ?_) | (refine .z rfl ?_;refine .z rfl ?_;refine ihF _ _ ?_ trivial ?_) | (refine .z rfl ?_;refine .z rfl ?_;refine .z rfl ?_;refine ihF _ _ ?_ trivial ?_)
         · simp (disch:=first|exact dsc|fail) only [go_sem,seval,-List.reduceReplicate,f0,f1,f2,f3,f4,f5,F,E,A]<;>(repeat' (first | rfl | refine And.intro ?_ ?_))
         · first | rfl | (simp (disch:=first|exact dsc|fail) only [go_sem,seval,-List.reduceReplicate,f0,f1,f2,f3,f4,f5,F,E,A]<;>(try rfl))
   · have hst:wR s7 (i+1)=((wR s7 i).1++[rd (rk (wR s7 i).2 8).1],(rk (wR s7 i).2 8).2):=rfl
     rw [hst,List.map_append] at ihE
     have k8:((wR s7 i).1.map toI).length=i:=by rw [List.length_map,wR_len]
     have q8:=wR_le (st:=s7) (c:=i)
     generalize (wR s7 i).2=s8 at *
     generalize (wR s7 i).1.map toI=us at *
     have na : ∀ mc j l R,R (.p (w64 (rd (rk s8 8).1))) (dR H mc (rk s8 8).2 j l) → ACall Tryd.prog G 37 [.ptr (H.n+1) 0,.p (i64 8)] (dR H mc s8 j l) R:=fun mc j l R h=>numR s8 (by omega) 8 (by omega) H mc j l R h
     generalize (rk s8 8).2=s9 at *
     generalize rd (rk s8 8).1=x at *
     have htoI:IntKind.i64.wrap (x.toNat:Int)=toI x:=rfl
     (repeat refine .z rfl ?_);refine .text ?_;simp (disch:=first|exact dsc|fail) only [go_sem,seval,-List.reduceReplicate,E]
     (repeat refine .z rfl ?_);refine .ifT (by simp (disch:=first|exact dsc|fail) only [go_sem,seval,-List.reduceReplicate]) ?_
     (repeat refine .z rfl ?_)
     refine .openInv (fun L env' H'=>env' 0 = .p (.sl false 1 (pl b8 b))∧env' 2 = .ptr H.n 0∧env' 4 = .ptr (H.n+1) 0∧env' 5 = .ptr (H.n+2) 0∧env' 8 = .p (i64 c1)∧env' 9 = .p (i64 i)∧(L 0=true → env' 52 = .ptr (H.n+2) 36)∧(L 1=true → env' 53 = .sl (H.n+3) i 1 (pl i64 us))∧(L 2=true → env' 54 = .ptr (H.n+1) 0)∧(L 3=true → env' 55 = .p (w64 x))∧(L 4=true → env' 56 = .p (i64 (toI x)))∧(L 5=true → env' 57 = .p (.sl true 1 [i64 (toI x)]))∧(L 6=true → env' 58 = .sl (H.n+3) (i+1) 1 (pl i64 (us++[toI x])))∧(L 7=true → env' 59 = .ptr (H.n+2) 36)∧(L 3=true → allT L [2])∧(L 6=true → allT L [1,3,5])∧(L 8=true → allT L [0,1,2,3,4,5,6,7])∧H'=(dR H (mG kd.toNat se.toNat sp.toNat tx ro (if L 8 then .sl (H.n+3) (i+1) 1 (pl i64 (us++[toI x])) else .sl (H.n+3) i 1 (pl i64 us)) (.sl (H.n+4) 0 2 [])) (if L 3 then s9 else s8) (if L 6 then i+1 else i) 0)) follows (by kernel_rfl) ?_ ?_ ?_
     · exact ⟨(by simp (disch:=first|exact dsc|fail) only [go_sem,seval,-List.reduceReplicate,E,A,k4,k8,htoI]),(by simp (disch:=first|exact dsc|fail) only [go_sem,seval,-List.reduceReplicate,E,A,k4,k8,htoI]),(by simp (disch:=first|exact dsc|fail) only [go_sem,seval,-List.reduceReplicate,E,A,k4,k8,htoI]),(by simp (disch:=first|exact dsc|fail) only [go_sem,seval,-List.reduceReplicate,E,A,k4,k8,htoI]),(by simp (disch:=first|exact dsc|fail) only [go_sem,seval,-List.reduceReplicate,E,A,k4,k8,htoI]),(by simp (disch:=first|exact dsc|fail) only [go_sem,seval,-List.reduceReplicate,E,A,k4,k8,htoI]),(fun h=>by cases h),(fun h=>by cases h),(fun h=>by cases h),(fun h=>by cases h),(fun h=>by cases h),(fun h=>by cases h),(fun h=>by cases h),(fun h=>by cases h),(fun h=>by cases h),(fun h=>by cases h),(fun h=>by cases h),(by first | rfl | (simp only [Bool.false_eq_true,if_false];first | rfl | (simp (disch:=first|exact dsc|fail) only [go_sem,seval,-List.reduceReplicate,E,A,k4,k8,htoI]<;>rfl)))⟩
     · intro i o L env' H' ho hL hall hI
       obtain ⟨f0,f1,f2,f3,f4,f5,g0,g1,g2,g3,g4,g5,g6,g7,m3,m6,m8,rfl⟩:=hI
       rcases i with _ | _ | _ | _ | _ | _ | _ | _ | _ | i
       · cases ho
         have n8:=nfT m8 hL
         refine opA_val (.ptr (H.n+2) 36) rfl rfl (by simp (disch:=first|exact dsc|fail) only [go_sem,seval,-List.reduceReplicate,reduceIte,Bool.false_eq_true,if_false,if_true,f0,f1,f2,f3,f4,f5,n8,hL,E,A,k4,k8,htoI]<;>rfl) rfl ?_
         exact ⟨(kf f0),(kf f1),(kf f2),(kf f3),(kf f4),(kf f5),kn,(kp g1),(kp g2),(kp g3),(kp g4),(kp g5),(kp g6),(kp g7),(ka m3),(ka m6),(ka m8),(by (have e3:more L 0 3=L 3:=more_ne (by decide));(have e6:more L 0 6=L 6:=more_ne (by decide));(have e8:more L 0 8=L 8:=more_ne (by decide));(try simp only [e3,e6,e8,n8]);first | done | rfl | (simp only [e3,e6,e8,n8,if_true,if_false,Bool.false_eq_true];first | done | rfl | (simp (disch:=first|exact dsc|fail) only [go_sem,seval,-List.reduceReplicate,e3,e6,e8,n8,E,A,k4,k8,htoI]<;>rfl)))⟩
       · cases ho
         have h0:L 0=true:=hall ⟨0,.data⟩ (by simp) rfl
         have d0:=g0 h0
         have n6:=nfT m6 hL
         have n8:=nfT m8 hL
         refine opA_val (.sl (H.n+3) i 1 (pl i64 us)) rfl rfl (by simp (disch:=first|exact dsc|fail) only [go_sem,seval,-List.reduceReplicate,reduceIte,Bool.false_eq_true,if_false,if_true,f0,f1,f2,f3,f4,f5,d0,n6,n8,hL,E,A,k4,k8,htoI]<;>rfl) rfl ?_
         exact ⟨(kf f0),(kf f1),(kf f2),(kf f3),(kf f4),(kf f5),(kp g0),kn,(kp g2),(kp g3),(kp g4),(kp g5),(kp g6),(kp g7),(ka m3),(ka m6),(ka m8),(by (have e3:more L 1 3=L 3:=more_ne (by decide));(have e6:more L 1 6=L 6:=more_ne (by decide));(have e8:more L 1 8=L 8:=more_ne (by decide));(try simp only [e3,e6,e8,n6,n8]);first | done | rfl | (simp only [e3,e6,e8,n6,n8,if_true,if_false,Bool.false_eq_true];first | done | rfl | (simp (disch:=first|exact dsc|fail) only [go_sem,seval,-List.reduceReplicate,e3,e6,e8,n6,n8,E,A,k4,k8,htoI]<;>rfl)))⟩
       · cases ho
         have n3:=nfT m3 hL
         have n8:=nfT m8 hL
         refine opA_val (.ptr (H.n+1) 0) rfl rfl (by simp (disch:=first|exact dsc|fail) only [go_sem,seval,-List.reduceReplicate,reduceIte,Bool.false_eq_true,if_false,if_true,f0,f1,f2,f3,f4,f5,n3,n8,hL,E,A,k4,k8,htoI]<;>rfl) rfl ?_
         exact ⟨(kf f0),(kf f1),(kf f2),(kf f3),(kf f4),(kf f5),(kp g0),(kp g1),kn,(kp g3),(kp g4),(kp g5),(kp g6),(kp g7),(ka m3),(ka m6),(ka m8),(by (have e3:more L 2 3=L 3:=more_ne (by decide));(have e6:more L 2 6=L 6:=more_ne (by decide));(have e8:more L 2 8=L 8:=more_ne (by decide));(try simp only [e3,e6,e8,n3,n8]);first | done | rfl | (simp only [e3,e6,e8,n3,n8,if_true,if_false,Bool.false_eq_true];first | done | rfl | (simp (disch:=first|exact dsc|fail) only [go_sem,seval,-List.reduceReplicate,e3,e6,e8,n3,n8,E,A,k4,k8,htoI]<;>rfl)))⟩
       · cases ho
         have h2:L 2=true:=hall ⟨2,.data⟩ (by simp) rfl
         have d2:=g2 h2
         have n6:=nfT m6 hL
         have n8:=nfT m8 hL
         (try simp only [n6,n8,hL,if_true,if_false,Bool.false_eq_true])
         refine opA_call rfl rfl (by simp (disch:=first|exact dsc|fail) only [go_sem,seval,-List.reduceReplicate,reduceIte,Bool.false_eq_true,if_false,if_true,f0,f1,f2,f3,f4,f5,d2,n6,n8,hL,E,A,k4,k8,htoI]<;>rfl) rfl (by simp (disch:=first|exact dsc|fail) only [go_sem,seval,-List.reduceReplicate,reduceIte,Bool.false_eq_true,if_false,if_true,f0,f1,f2,f3,f4,f5,d2,n6,n8,hL,E,A,k4,k8,htoI]<;>rfl) (fun R h=>na _ _ _ R h) ?_
         exact ⟨(kf f0),(kf f1),(kf f2),(kf f3),(kf f4),(kf f5),(kp g0),(kp g1),(kp g2),kn,(kp g4),(kp g5),(kp g6),(kp g7),(fun _=>kt (allT_cons h2 allT_nil)),(ka m6),(ka m8),(by (have e3:more L 3 3=true:=more_eq);(have e6:more L 3 6=L 6:=more_ne (by decide));(have e8:more L 3 8=L 8:=more_ne (by decide));(try simp only [e3,e6,e8,n6,n8,hL]);first | done | rfl | (simp only [e3,e6,e8,n6,n8,hL,if_true,if_false,Bool.false_eq_true];first | done | rfl | (simp (disch:=first|exact dsc|fail) only [go_sem,seval,-List.reduceReplicate,e3,e6,e8,n6,n8,hL,E,A,k4,k8,htoI]<;>rfl)))⟩
       · cases ho
         have h3:L 3=true:=hall ⟨3,.data⟩ (by simp) rfl
         have d3:=g3 h3
         have n8:=nfT m8 hL
         refine opA_val (.p (i64 (toI x))) rfl rfl (by simp (disch:=first|exact dsc|fail) only [go_sem,seval,-List.reduceReplicate,reduceIte,Bool.false_eq_true,if_false,if_true,f0,f1,f2,f3,f4,f5,d3,h3,n8,hL,E,A,k4,k8,htoI]<;>rfl) rfl ?_
         exact ⟨(kf f0),(kf f1),(kf f2),(kf f3),(kf f4),(kf f5),(kp g0),(kp g1),(kp g2),(kp g3),kn,(kp g5),(kp g6),(kp g7),(ka m3),(ka m6),(ka m8),(by (have e3:more L 4 3=L 3:=more_ne (by decide));(have e6:more L 4 6=L 6:=more_ne (by decide));(have e8:more L 4 8=L 8:=more_ne (by decide));(try simp only [e3,e6,e8,h3,n8]);first | done | rfl | (simp only [e3,e6,e8,h3,n8,if_true,if_false,Bool.false_eq_true];first | done | rfl | (simp (disch:=first|exact dsc|fail) only [go_sem,seval,-List.reduceReplicate,e3,e6,e8,h3,n8,E,A,k4,k8,htoI]<;>rfl)))⟩
       · cases ho
         have h4:L 4=true:=hall ⟨4,.data⟩ (by simp) rfl
         have d4:=g4 h4
         have n6:=nfT m6 hL
         have n8:=nfT m8 hL
         refine opA_val (.p (.sl true 1 [i64 (toI x)])) rfl rfl (by simp (disch:=first|exact dsc|fail) only [go_sem,seval,-List.reduceReplicate,reduceIte,Bool.false_eq_true,if_false,if_true,f0,f1,f2,f3,f4,f5,d4,n6,n8,hL,E,A,k4,k8,htoI]<;>rfl) rfl ?_
         exact ⟨(kf f0),(kf f1),(kf f2),(kf f3),(kf f4),(kf f5),(kp g0),(kp g1),(kp g2),(kp g3),(kp g4),kn,(kp g6),(kp g7),(ka m3),(ka m6),(ka m8),(by (have e3:more L 5 3=L 3:=more_ne (by decide));(have e6:more L 5 6=L 6:=more_ne (by decide));(have e8:more L 5 8=L 8:=more_ne (by decide));(try simp only [e3,e6,e8,n6,n8]);first | done | rfl | (simp only [e3,e6,e8,n6,n8,if_true,if_false,Bool.false_eq_true];first | done | rfl | (simp (disch:=first|exact dsc|fail) only [go_sem,seval,-List.reduceReplicate,e3,e6,e8,n6,n8,E,A,k4,k8,htoI]<;>rfl)))⟩
       · cases ho
         have h1:L 1=true:=hall ⟨1,.data⟩ (by simp) rfl
         have d1:=g1 h1
         have h5:L 5=true:=hall ⟨5,.data⟩ (by simp) rfl
         have d5:=g5 h5
         have h3:L 3=true:=hall ⟨3,.chain⟩ (by simp) rfl
         have n8:=nfT m8 hL
         (try simp only [h3,n8,hL,if_true,if_false,Bool.false_eq_true])
         refine opA_valH (.sl (H.n+3) (i+1) 1 (pl i64 (us++[toI x]))) rfl rfl (by simp (disch:=first|exact dsc|fail) only [go_sem,seval,-List.reduceReplicate,reduceIte,Bool.false_eq_true,if_false,if_true,f0,f1,f2,f3,f4,f5,d1,d5,h3,n8,hL,E,A,k4,k8,htoI]<;>rfl) rfl ?_
         exact ⟨(kf f0),(kf f1),(kf f2),(kf f3),(kf f4),(kf f5),(kp g0),(kp g1),(kp g2),(kp g3),(kp g4),(kp g5),kn,(kp g7),(ka m3),(fun _=>kt (allT_cons h1 (allT_cons h3 (allT_cons h5 allT_nil)))),(ka m8),(by (have e3:more L 6 3=L 3:=more_ne (by decide));(have e6:more L 6 6=true:=more_eq);(have e8:more L 6 8=L 8:=more_ne (by decide));(try simp only [e3,e6,e8,h3,n8,hL]);first | done | rfl | (simp only [e3,e6,e8,h3,n8,hL,if_true,if_false,Bool.false_eq_true];first | done | rfl | (simp (disch:=first|exact dsc|fail) only [go_sem,seval,-List.reduceReplicate,e3,e6,e8,h3,n8,hL,E,A,k4,k8,htoI]<;>rfl)))⟩
       · cases ho
         have h3:L 3=true:=hall ⟨3,.phase⟩ (by simp) rfl
         have h6:L 6=true:=hall ⟨6,.phase⟩ (by simp) rfl
         have n8:=nfT m8 hL
         refine opA_val (.ptr (H.n+2) 36) rfl rfl (by simp (disch:=first|exact dsc|fail) only [go_sem,seval,-List.reduceReplicate,reduceIte,Bool.false_eq_true,if_false,if_true,f0,f1,f2,f3,f4,f5,h3,h6,n8,hL,E,A,k4,k8,htoI]<;>rfl) rfl ?_
         exact ⟨(kf f0),(kf f1),(kf f2),(kf f3),(kf f4),(kf f5),(kp g0),(kp g1),(kp g2),(kp g3),(kp g4),(kp g5),(kp g6),kn,(ka m3),(ka m6),(ka m8),(by (have e3:more L 7 3=L 3:=more_ne (by decide));(have e6:more L 7 6=L 6:=more_ne (by decide));(have e8:more L 7 8=L 8:=more_ne (by decide));(try simp only [e3,e6,e8,h3,h6,n8]);first | done | rfl | (simp only [e3,e6,e8,h3,h6,n8,if_true,if_false,Bool.false_eq_true];first | done | rfl | (simp (disch:=first|exact dsc|fail) only [go_sem,seval,-List.reduceReplicate,e3,e6,e8,h3,h6,n8,E,A,k4,k8,htoI]<;>rfl)))⟩
       · cases ho
         have h7:L 7=true:=hall ⟨7,.data⟩ (by simp) rfl
         have d7:=g7 h7
         have h6:L 6=true:=hall ⟨6,.data⟩ (by simp) rfl
         have d6:=g6 h6
         have h0:L 0=true:=hall ⟨0,.phase⟩ (by simp) rfl
         have h1:L 1=true:=hall ⟨1,.phase⟩ (by simp) rfl
         have h2:L 2=true:=hall ⟨2,.phase⟩ (by simp) rfl
         have h3:L 3=true:=hall ⟨3,.phase⟩ (by simp) rfl
         have h4:L 4=true:=hall ⟨4,.phase⟩ (by simp) rfl
         have h5:L 5=true:=hall ⟨5,.phase⟩ (by simp) rfl
         refine opA_unit rfl rfl (by simp (disch:=first|exact dsc|fail) only [go_sem,seval,-List.reduceReplicate,reduceIte,Bool.false_eq_true,if_false,if_true,f0,f1,f2,f3,f4,f5,d6,d7,h3,h6,hL,E,A,k4,k8,htoI]<;>rfl) rfl ?_
         exact ⟨f0,f1,f2,f3,f4,f5,(kp0 g0),(kp0 g1),(kp0 g2),(kp0 g3),(kp0 g4),(kp0 g5),(kp0 g6),(kp0 g7),(ka m3),(ka m6),(fun _=>kt (allT_cons h0 (allT_cons h1 (allT_cons h2 (allT_cons h3 (allT_cons h4 (allT_cons h5 (allT_cons h6 (allT_cons h7 allT_nil))))))))),(by (have e3:more L 8 3=L 3:=more_ne (by decide));(have e6:more L 8 6=L 6:=more_ne (by decide));(have e8:more L 8 8=true:=more_eq);(try simp only [e3,e6,e8,h3,h6,hL]);first | done | rfl | (simp only [e3,e6,e8,h3,h6,hL,if_true,if_false,Bool.false_eq_true];first | done | rfl | (simp (disch:=first|exact dsc|fail) only [go_sem,seval,-List.reduceReplicate,e3,e6,e8,h3,h6,hL,E,A,k4,k8,htoI]<;>rfl)))⟩
       · simp at ho
     · intro L env' H' hall hI
       obtain ⟨f0,f1,f2,f3,f4,f5,g0,g1,g2,g3,g4,g5,g6,g7,_,_,_,rfl⟩:=hI
       have l3:=hall 3 (by decide)
       have l6:=hall 6 (by decide)
       have l8:=hall 8 (by decide)
       replace g0:=g0 (hall 0 (by decide))
       replace g1:=g1 (hall 1 (by decide))
       replace g2:=g2 (hall 2 (by decide))
       replace g3:=g3 (hall 3 (by decide))
       replace g4:=g4 (hall 4 (by decide))
       replace g5:=g5 (hall 5 (by decide))
       replace g6:=g6 (hall 6 (by decide))
       replace g7:=g7 (hall 7 (by decide))
       simp only [l3,l6,l8,if_true]
       clear hall
       (repeat refine .z rfl ?_);refine .text ?_;simp (disch:=first|exact dsc|fail) only [go_sem,seval,-List.reduceReplicate,f5]
       first | (refine ihE _ _ ?_ trivial ?_) | (refine .z rfl ?_;refine ihE _ _ ?_ trivial ?_) | (refine .z rfl ?_;refine .z rfl ?_;refine ihE _ _ ?_ trivial ?_) | (refine .z rfl ?_;refine .z rfl ?_;refine .z rfl ?_;refine ihE _ _ ?_ trivial ?_)
       · simp (disch:=first|exact dsc|fail) only [go_sem,seval,-List.reduceReplicate,f0,f1,f2,f3,f4,f5,E,A]<;>(repeat' (first | rfl | refine And.intro ?_ ?_))
       · first | rfl | (simp (disch:=first|exact dsc|fail) only [go_sem,seval,-List.reduceReplicate,f0,f1,f2,f3,f4,f5,E,A]<;>(try rfl))
 · have hml:=mix_len (i:=i) k4 (by omega)
   have hms:=mix_set (i:=i) k4 hi
   (repeat refine .z rfl ?_);refine .text ?_;simp (disch:=first|exact dsc|fail) only [go_sem,seval,-List.reduceReplicate,A]
   (repeat refine .z rfl ?_);refine .ifT (by simp (disch:=first|exact dsc|fail) only [go_sem,seval,-List.reduceReplicate]) ?_
   (repeat refine .z rfl ?_);refine .text ?_;simp (disch:=first|exact dsc|fail) only [go_sem,seval,-List.reduceReplicate,A,hml,k4,mG_setN,hms]
   (repeat refine .z rfl ?_);refine .text ?_;simp (disch:=first|exact dsc|fail) only [go_sem,seval,-List.reduceReplicate,A]
   first | (refine ihA _ _ ?_ trivial ?_) | (refine .z rfl ?_;refine ihA _ _ ?_ trivial ?_) | (refine .z rfl ?_;refine .z rfl ?_;refine ihA _ _ ?_ trivial ?_) | (refine .z rfl ?_;refine .z rfl ?_;refine .z rfl ?_;refine ihA _ _ ?_ trivial ?_)
   · simp (disch:=first|exact dsc|fail) only [go_sem,seval,-List.reduceReplicate,A]<;>(repeat' (first | rfl | refine And.intro ?_ ?_))
   · first | rfl | (simp (disch:=first|exact dsc|fail) only [go_sem,seval,-List.reduceReplicate,A]<;>(try rfl))
end walks
end Go.Proofs.YtmoecjgehdkhkaaDoor

/-
  Sessions: comparing;the reference's small functions of elements.
-/
namespace Go.Proofs.YtmoecjgehdkhkaaDoor
open Go Go.AL

theorem wf_u64 (x:U):(Lit.int .u64 (x.toNat:Int)).wf=true:=by
 have:=x.isLt
 simp only [Lit.wf,Bool.and_eq_true,decide_eq_true_eq]
 exact ⟨by show (0:Int)≤_;omega,by show _≤(18446744073709551615:Int);omega⟩
theorem keyLits_one {P:Program} {t:TypeId} {k:IntKind} {n:Int} {d:Nat} (hu:P.underlying t=some (.int k)) (h:(Lit.int k n).wf=true):P.keyLits (d+1) t [.int k n]=some [.int k n]:=by
 unfold Program.keyLits
 simp [hu,h]
theorem ext_lits (x:Ext):Tryd.prog.keyLits 64 63 [.int .u64 x.a.toNat,.int .u64 x.b.toNat]=some [.int .u64 x.a.toNat,.int .u64 x.b.toNat]:=by
 have i2 : ∀ x:U,Tryd.prog.keyLits 63 61 [.int .u64 x.toNat]=some [.int .u64 x.toNat]:=fun x=>keyLits_one Tryd.underlying61 (wf_u64 x)
 unfold Program.keyLits
 simp only [Tryd.underlying63,cells63]
 rw [if_pos ⟨rfl,by kernel_rfl⟩]
 simp only [List.mapM_cons,List.mapM_nil,cells61,List.drop_zero,List.drop_succ_cons,List.take_succ_cons,List.take_zero,i2,Option.pure_def,Option.bind_eq_bind,Option.bind_some,Option.map_some]
 rfl
theorem ext_ne (x:Ext):aBin Tryd.prog .neq 63 (.p (ext x)) (.p (ext x))=some (.p (bo false)):=by
 have:=(eq_lits (t:=63) (P:=Tryd.prog) (xs:=[w64 x.a,w64 x.b]) (ys:=[w64 x.a,w64 x.b]) (p:=True) (by kernel_rfl) rfl rfl (ext_lits x) (ext_lits x) (by simp)).2
 show aBin _ _ _ (.p (.agg [w64 x.a,w64 x.b])) (.p (.agg [w64 x.a,w64 x.b]))=_
 simpa using this
def rdc (x:U):U:=x % 18446744069414584321#64
def madeE (x:Ext):Ext:=⟨rdc x.a,rdc x.b⟩
def madeL (l:List Ext):Nat → List Ext
 | 0=>[]
 | n+1=>madeL l n++[if n < l.length then madeE (nth l n) else ⟨0#64,0#64⟩]
theorem madeL_len {l:List Ext} : ∀ {n},(madeL l n).length=n
 | 0=>rfl
 | n+1=>by simp [madeL,madeL_len]
section walks
variable {G:Globs}
theorem Reduce_spec (x:U) (H:Hp) (R:AV → Hp → Prop) (h:R (.p (w64 (rdc x))) H):ACall Tryd.prog G 76 [.p (w64 x)] H R:=by
 have hp:(18446744069414584321#64:U)≠0#64:=by decide
 refine ACall.of_run (raw:=[]) Tryd.func76 rfl Tryd.ntmps76 (by simp) fun hbel => ?_
 (repeat refine .z rfl ?_);refine .text ?_;simp (disch:=first|exact dsc|fail) only [go_sem,seval]
 (repeat refine .z rfl ?_);refine .text ?_;simp (disch:=first|exact dsc|fail) only [go_sem,seval]
 (repeat refine .z rfl ?_);refine .rt Tryd.func76 (by rw [Tryd.results76]) (hR := ?_);simp (disch:=first|exact dsc|fail) only [go_sem,seval]
 exact h
theorem Made2_spec (x:Ext) (H:Hp) (R:AV → Hp → Prop) (h:R (.p (ext (madeE x))) H):ACall Tryd.prog G 59 [.p (ext x)] H R:=by
 refine ACall.of_run (raw:=[]) Tryd.func59 rfl Tryd.ntmps59 (by simp) fun hbel => ?_
 (repeat refine .z rfl ?_);refine .text ?_;simp (disch:=first|exact dsc|fail) only [go_sem,seval]
 (repeat refine .z rfl ?_);refine .open [7] follows (by kernel_rfl) ?_;simp (disch:=first|exact dsc|fail) only [go_sem,seval]
 refine CallD.still (fun R h=>Reduce_spec _ _ R h) ?_;simp (disch:=first|exact dsc|fail) only [go_sem,seval]
 refine CallD.still (fun R h=>Reduce_spec _ _ R h) ?_;simp (disch:=first|exact dsc|fail) only [go_sem,seval]
 (repeat refine .z rfl ?_);refine .rt Tryd.func59 (by rw [Tryd.results59]) (hR := ?_);simp (disch:=first|exact dsc|fail) only [go_sem,seval]
 exact h
set_option maxHeartbeats 4000000 in
theorem MadeAll_spec (l:List Ext) (hl:l.length≤140737488355000) (n:Nat) (hn:n≤100000) (H:Hp) (R:AV → Hp → Prop) (h:R (.p (.sl false 2 (pl ext (madeL l n)))) H):ACall Tryd.prog G 30 [.p (.sl false 2 (pl ext l)),.p (i64 n)] H R:=by
 refine ACall.of_run (raw:=[]) Tryd.func30 rfl Tryd.ntmps30 (by simp) fun hbel => ?_
 (repeat refine .z rfl ?_);refine .text ?_;simp (disch:=first|exact dsc|fail) only [go_sem,seval]
 (repeat refine .z rfl ?_);refine .text ?_;simp (disch:=first|exact dsc|fail) only [go_sem,seval]
 (repeat refine .z rfl ?_);refine .own 5 (by simp (disch:=first|exact dsc|fail) only [go_sem,seval];rfl) ?_
 (repeat refine .z rfl ?_);refine .text ?_;simp (disch:=first|exact dsc|fail) only [go_sem,seval]
 (repeat refine .z rfl ?_);refine .loopF [0,1] (fun i=>[(5,.sl H.n i 2 (pl ext (madeL l i))),(6,.p (i64 i))]) (fun i=>[(H.n,.tail i)]) (fun i=>True) (0) (n) (by omega) ?_ (by first | rfl | (simp (disch:=first|exact dsc|fail) only [go_sem,seval,madeL]<;>rfl)) ?_ ?_ ?_
 · simp (disch:=first|exact dsc|fail) only [go_sem,seval,madeL]<;>(repeat' (first | rfl | refine And.intro ?_ ?_))
 · exact trivial
 intro env T E hQ;simp (disch:=first|exact dsc|fail) only [go_sem,seval,madeL] at E
 rotate_left 1
 intro i env T hi0 hi E hQ ihE;simp (disch:=first|exact dsc|fail) only [go_sem,seval,madeL] at E
 rotate_left 1
 · (repeat refine .z rfl ?_);refine .text ?_;simp (disch:=first|exact dsc|fail) only [go_sem,seval,E]
   (repeat refine .z rfl ?_);refine .ifF (by simp (disch:=first|exact dsc|fail) only [go_sem,seval]) ?_
   (repeat refine .z rfl ?_);refine .text ?_;simp (disch:=first|exact dsc|fail) only [go_sem,seval,E]
   (repeat refine .z rfl ?_);refine .rt Tryd.func30 (by rw [Tryd.results30]) (hx:=by simp (disch:=first|exact dsc|fail) only [go_sem,seval,E];rfl) (hR := ?_);simp (disch:=first|exact dsc|fail) only [go_sem,seval,E]
   exact h
 · have hml:=madeL_len (l:=l) (n:=i)
   have hst:madeL l (i+1)=madeL l i++[if i < l.length then madeE (nth l i) else ⟨0#64,0#64⟩]:=rfl
   rw [hst] at ihE
   (repeat refine .z rfl ?_);refine .text ?_;simp (disch:=first|exact dsc|fail) only [go_sem,seval,E]
   (repeat refine .z rfl ?_);refine .ifT (by simp (disch:=first|exact dsc|fail) only [go_sem,seval]) ?_
   (repeat refine .z rfl ?_);refine .text ?_;simp (disch:=first|exact dsc|fail) only [go_sem,seval,E]
   (repeat refine .z rfl ?_);refine .text ?_;simp (disch:=first|exact dsc|fail) only [go_sem,seval,E]
   by_cases c:i < l.length
   · have d:decide ((i:Int) < (l.length:Int))=true:=decide_eq_true (by omega)
     rw [if_pos c] at ihE
     (repeat refine .z rfl ?_);refine .ifT (by simp (disch:=first|exact dsc|fail) only [go_sem,seval,d]) ?_
     (repeat refine .z rfl ?_);refine .text ?_;simp (disch:=first|exact dsc|fail) only [go_sem,seval,E]
     refine CallK.of (fun R h=>Made2_spec _ _ R h) ?_;simp (disch:=first|exact dsc|fail) only [go_sem,seval]
     (repeat refine .z rfl ?_);refine .text ?_;simp (disch:=first|exact dsc|fail) only [go_sem,seval,E,hml]
     (repeat refine .z rfl ?_);refine .text ?_;simp (disch:=first|exact dsc|fail) only [go_sem,seval,E]
     first | (refine ihE _ _ ?_ trivial ?_) | (refine .z rfl ?_;refine ihE _ _ ?_ trivial ?_) | (refine .z rfl ?_;refine .z rfl ?_;refine ihE _ _ ?_ trivial ?_) | (refine .z rfl ?_;refine .z rfl ?_;refine .z rfl ?_;refine ihE _ _ ?_ trivial ?_)
     · simp (disch:=first|exact dsc|fail) only [go_sem,seval,E]<;>(repeat' (first | rfl | refine And.intro ?_ ?_))
     · first | exact .mk _ rfl | exact .mk [] rfl | (apply Later.mk;simp (disch:=first|exact dsc|fail) only [go_sem,seval,app_push,E];exact rfl) | (apply Later.mk;simp (disch:=first|exact dsc|fail) only [go_sem,seval,app_push,app_app,List.append_assoc,E]<;>(try rfl))
   · have d:decide ((i:Int) < (l.length:Int))=false:=decide_eq_false (by omega)
     rw [if_neg c] at ihE
     (repeat refine .z rfl ?_);refine .ifF (by simp (disch:=first|exact dsc|fail) only [go_sem,seval,d]) ?_
     refine .skip ?_
     (repeat refine .z rfl ?_);refine .text ?_;simp (disch:=first|exact dsc|fail) only [go_sem,seval,E,hml]
     (repeat refine .z rfl ?_);refine .text ?_;simp (disch:=first|exact dsc|fail) only [go_sem,seval,E]
     first | (refine ihE _ _ ?_ trivial ?_) | (refine .z rfl ?_;refine ihE _ _ ?_ trivial ?_) | (refine .z rfl ?_;refine .z rfl ?_;refine ihE _ _ ?_ trivial ?_) | (refine .z rfl ?_;refine .z rfl ?_;refine .z rfl ?_;refine ihE _ _ ?_ trivial ?_)
     · simp (disch:=first|exact dsc|fail) only [go_sem,seval,E]<;>(repeat' (first | rfl | refine And.intro ?_ ?_))
     · first | exact .mk _ rfl | exact .mk [] rfl | (apply Later.mk;simp (disch:=first|exact dsc|fail) only [go_sem,seval,app_push,E];exact rfl) | (apply Later.mk;simp (disch:=first|exact dsc|fail) only [go_sem,seval,app_push,app_app,List.append_assoc,E]<;>(try rfl))
set_option maxHeartbeats 4000000 in
theorem SameE_spec (l:List Ext) (hl:l.length≤140737488355000) (H:Hp) (R:AV → Hp → Prop) (h:R (.p (bo true)) H):ACall Tryd.prog G 45 [.p (.sl false 2 (pl ext l)),.p (.sl false 2 (pl ext l))] H R:=by
 refine ACall.of_run (raw:=[]) Tryd.func45 rfl Tryd.ntmps45 (by simp) fun hbel => ?_
 (repeat refine .z rfl ?_);refine .text ?_;simp (disch:=first|exact dsc|fail) only [go_sem,seval]
 (repeat refine .z rfl ?_);refine .text ?_;simp (disch:=first|exact dsc|fail) only [go_sem,seval,bne_self_eq_false]
 (repeat refine .z rfl ?_);refine .ifF (by simp (disch:=first|exact dsc|fail) only [go_sem,seval]) ?_
 (repeat refine .z rfl ?_);refine .text ?_;simp (disch:=first|exact dsc|fail) only [go_sem,seval]
 (repeat refine .z rfl ?_);refine .loopE [0,1] (fun i=>[(4,.p (bo false)),(5,.p (i64 i))]) (fun i=>[]) (fun i=>True) (0) (l.length) (by omega) ?_ (by first | rfl | (simp (disch:=first|exact dsc|fail) only [go_sem,seval]<;>rfl)) ?_ ?_ ?_
 · simp (disch:=first|exact dsc|fail) only [go_sem,seval]<;>(repeat' (first | rfl | refine And.intro ?_ ?_))
 · exact trivial
 intro env E hQ;simp (disch:=first|exact dsc|fail) only [go_sem,seval] at E
 rotate_left 1
 intro i env hi0 hi E hQ ihE;simp (disch:=first|exact dsc|fail) only [go_sem,seval] at E
 rotate_left 1
 · (repeat refine .z rfl ?_);refine .text ?_;simp (disch:=first|exact dsc|fail) only [go_sem,seval,E]
   (repeat refine .z rfl ?_);refine .ifF (by simp (disch:=first|exact dsc|fail) only [go_sem,seval]) ?_
   (repeat refine .z rfl ?_);refine .text ?_;simp (disch:=first|exact dsc|fail) only [go_sem,seval,E]
   (repeat refine .z rfl ?_);refine .rt Tryd.func45 (by rw [Tryd.results45]) (hR := ?_);simp (disch:=first|exact dsc|fail) only [go_sem,seval]
   exact h
 · (repeat refine .z rfl ?_);refine .text ?_;simp (disch:=first|exact dsc|fail) only [go_sem,seval,E]
   (repeat refine .z rfl ?_);refine .ifT (by simp (disch:=first|exact dsc|fail) only [go_sem,seval]) ?_
   (repeat refine .z rfl ?_);refine .open [] follows (by kernel_rfl) ?_;simp (disch:=first|exact dsc|fail) only [go_sem,seval,E,ext_ne]
   (repeat refine .z rfl ?_);refine .ifF (by simp (disch:=first|exact dsc|fail) only [go_sem,seval]) ?_
   (repeat refine .z rfl ?_);refine .text ?_;simp (disch:=first|exact dsc|fail) only [go_sem,seval,E]
   first | (refine ihE _ _ ?_ trivial ?_) | (refine .z rfl ?_;refine ihE _ _ ?_ trivial ?_) | (refine .z rfl ?_;refine .z rfl ?_;refine ihE _ _ ?_ trivial ?_) | (refine .z rfl ?_;refine .z rfl ?_;refine .z rfl ?_;refine ihE _ _ ?_ trivial ?_)
   · simp (disch:=first|exact dsc|fail) only [go_sem,seval,E]<;>(repeat' (first | rfl | refine And.intro ?_ ?_))
   · first | rfl | (simp (disch:=first|exact dsc|fail) only [go_sem,seval,E]<;>(try rfl))
set_option maxHeartbeats 4000000 in
theorem SameMessage_spec (m:Msg) (hm:m.Ok) (H:Hp) (R:AV → Hp → Prop) (h:R (.p (bo true)) H):ACall Tryd.prog G 14 [.p (msg m),.p (msg m)] H R:=by
 have hrl:=m.root.len
 have hsl:=hm.sums
 have hd:(!decide (m.root.val=m.root.val))=false:=by simp
 refine ACall.of_run (raw:=[]) Tryd.func14 rfl Tryd.ntmps14 (by simp) fun hbel => ?_
 (repeat refine .z rfl ?_);refine .text ?_;simp (disch:=first|exact dsc|fail) only [go_sem,seval]
 have hstr:((bytesOf m.text).toList == (bytesOf m.text).toList)=true:=beq_self_eq_true _
 (repeat refine .z rfl ?_);refine .text ?_;simp (disch:=first|exact dsc|fail) only [go_sem,seval,bne_self_eq_false,hd,hrl,hstr]
 refine CallK.of (fun R h=>SameE_spec m.values hm.values _ R h) ?_;simp (disch:=first|exact dsc|fail) only [go_sem,seval,bne_self_eq_false]
 (repeat refine .z rfl ?_);refine .ifF (by simp (disch:=first|exact dsc|fail) only [go_sem,seval]) ?_
 (repeat refine .z rfl ?_);refine .text ?_;simp (disch:=first|exact dsc|fail) only [go_sem,seval]
 (repeat refine .z rfl ?_);refine .loopE [2,3] (fun i=>[(4,.p (bo false)),(5,.p (i64 i))]) (fun i=>[]) (fun i=>True) (0) (m.sums.length) (by omega) ?_ (by first | rfl | (simp (disch:=first|exact dsc|fail) only [go_sem,seval]<;>rfl)) ?_ ?_ ?_
 · simp (disch:=first|exact dsc|fail) only [go_sem,seval]<;>(repeat' (first | rfl | refine And.intro ?_ ?_))
 · exact trivial
 intro env E hQ;simp (disch:=first|exact dsc|fail) only [go_sem,seval] at E
 rotate_left 1
 intro i env hi0 hi E hQ ihE;simp (disch:=first|exact dsc|fail) only [go_sem,seval] at E
 rotate_left 1
 · (repeat refine .z rfl ?_);refine .text ?_;simp (disch:=first|exact dsc|fail) only [go_sem,seval,E]
   (repeat refine .z rfl ?_);refine .ifF (by simp (disch:=first|exact dsc|fail) only [go_sem,seval]) ?_
   (repeat refine .z rfl ?_);refine .text ?_;simp (disch:=first|exact dsc|fail) only [go_sem,seval,E]
   (repeat refine .z rfl ?_);refine .rt Tryd.func14 (by rw [Tryd.results14]) (hR := ?_);simp (disch:=first|exact dsc|fail) only [go_sem,seval]
   exact h
 · (repeat refine .z rfl ?_);refine .text ?_;simp (disch:=first|exact dsc|fail) only [go_sem,seval,E]
   (repeat refine .z rfl ?_);refine .ifT (by simp (disch:=first|exact dsc|fail) only [go_sem,seval]) ?_
   (repeat refine .z rfl ?_);refine .open [] follows (by kernel_rfl) ?_;simp (disch:=first|exact dsc|fail) only [go_sem,seval,E,bne_self_eq_false]
   (repeat refine .z rfl ?_);refine .ifF (by simp (disch:=first|exact dsc|fail) only [go_sem,seval]) ?_
   (repeat refine .z rfl ?_);refine .text ?_;simp (disch:=first|exact dsc|fail) only [go_sem,seval,E]
   first | (refine ihE _ _ ?_ trivial ?_) | (refine .z rfl ?_;refine ihE _ _ ?_ trivial ?_) | (refine .z rfl ?_;refine .z rfl ?_;refine ihE _ _ ?_ trivial ?_) | (refine .z rfl ?_;refine .z rfl ?_;refine .z rfl ?_;refine ihE _ _ ?_ trivial ?_)
   · simp (disch:=first|exact dsc|fail) only [go_sem,seval,E]<;>(repeat' (first | rfl | refine And.intro ?_ ?_))
   · first | rfl | (simp (disch:=first|exact dsc|fail) only [go_sem,seval,E]<;>(try rfl))
end walks
end Go.Proofs.YtmoecjgehdkhkaaDoor
