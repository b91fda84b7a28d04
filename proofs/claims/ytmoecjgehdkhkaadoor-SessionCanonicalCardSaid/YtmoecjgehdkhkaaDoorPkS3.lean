/-
  Sessions: receiving;the last message again;what has been used.
-/
import Derived.Test.YtmoecjgehdkhkaaDoorPkS2
import Derived.WideKeyElems2
import Derived.LaidHandle
import Derived.Test.YtmoecjgehdkhkaaDoorCards
import Derived.Test.YtmoecjgehdkhkaaDoorTie
import Derived.LaidMore
import Derived.Deep.DeepWitnessRowRef
set_option linter.unusedSimpArgs false
set_option linter.unusedVariables false
namespace Go.Proofs.YtmoecjgehdkhkaaDoor
open Go Go.AL

theorem dig_ok:arrOK Tryd.prog 23 .u8 32=true:=by kernel_rfl
theorem eqD {a b:By} (ha:a.length=32) (hb:b.length=32):aBin Tryd.prog .eql 23 (.p (.agg (pl b8 a))) (.p (.agg (pl b8 b)))=some (.p (bo (decide (a=b)))) :=
  eq_b8 (by rw [ha];exact dig_ok) (by omega)
theorem neD {a b:By} (ha:a.length=32) (hb:b.length=32):aBin Tryd.prog .neq 23 (.p (.agg (pl b8 a))) (.p (.agg (pl b8 b)))=some (.p (bo (!decide (a=b)))):=by
  have h:=eqD ha hb
  have f1 : ∀ P t xs ys,aBin P .eql t (.p (.agg xs)) (.p (.agg ys))=(aggEq P t xs ys).map fun r => .p (.s (.bool r)):=fun _ _ _ _=>rfl
  have f2 : ∀ P t xs ys,aBin P .neq t (.p (.agg xs)) (.p (.agg ys))=(aggEq P t xs ys).map fun r => .p (.s (.bool !r)):=fun _ _ _ _=>rfl
  rw [f1] at h
  rw [f2]
  cases e:aggEq Tryd.prog 23 (pl b8 a) (pl b8 b) with
  | none=>rw [e] at h;cases h
  | some r =>
    rw [e] at h
    simp only [Option.map_some,bo,Option.some.injEq,AV.p.injEq,PV.s.injEq,Value.bool.injEq] at h
    rw [←h];rfl
attribute [go_sem] eqD neD
def rH (H:Hp) (s:Ses) (o z:List AV) (x:Ses):Hp:=(((H.new (.cells (scl s))).new (.cells o)).new (.cells z)).new (.cells (scl x))
section rh
variable {H:Hp} {s s' x x':Ses} {o o' z z':List AV}
theorem rH_n:(rH H s o z x).n=H.n+4:=by simp [rH,Hp.n_new]
theorem rH_f0:(rH H s o z x).f H.n=some (.cells (scl s)):=by simp (disch:=first|exact dsc|fail) only [rH,go_sem,seval]
theorem rH_f1:(rH H s o z x).f (H.n+1)=some (.cells o):=by simp (disch:=first|exact dsc|fail) only [rH,go_sem,seval]
theorem rH_f2:(rH H s o z x).f (H.n+2)=some (.cells z):=by simp (disch:=first|exact dsc|fail) only [rH,go_sem,seval]
theorem rH_f3:(rH H s o z x).f (H.n+3)=some (.cells (scl x)):=by simp (disch:=first|exact dsc|fail) only [rH,go_sem,seval]
theorem rH_set0:(rH H s o z x).set H.n (.cells (scl s'))=rH H s' o z x:=by simp (disch:=first|exact dsc|fail) only [rH,go_sem,seval]
theorem rH_set1:(rH H s o z x).set (H.n+1) (.cells o')=rH H s o' z x:=by simp (disch:=first|exact dsc|fail) only [rH,go_sem,seval]
theorem rH_set2:(rH H s o z x).set (H.n+2) (.cells z')=rH H s o z' x:=by simp (disch:=first|exact dsc|fail) only [rH,go_sem,seval]
theorem rH_set3:(rH H s o z x).set (H.n+3) (.cells (scl x'))=rH H s o z x':=by simp (disch:=first|exact dsc|fail) only [rH,go_sem,seval]
theorem rH_trunc:(rH H s o z x).trunc H.n=H:=by simp (disch:=first|exact dsc|fail) only [rH,go_sem,seval]
theorem rH_def:(((H.new (.cells (scl s))).new (.cells o)).new (.cells z)).new (.cells (scl x))=rH H s o z x:=rfl
theorem rH_bel (h:Bel H.n H):Bel H.n (rH H s o z x):=by
  unfold rH
  exact bel_new (bel_new (bel_new (bel_new h (Nat.le_refl _)) (by simp only [n_new'];omega)) (by simp only [n_new'];omega)) (by simp only [n_new'];omega)
end rh
attribute [go_sem] rH_n rH_f0 rH_f1 rH_f2 rH_f3 rH_set0 rH_set1 rH_set2 rH_set3 rH_trunc
theorem mz_zero:AV.p (i64 0) :: AV.p (i64 0) :: AV.p (i64 0) :: AV.p (str ByteArray.empty) :: List.map AV.p (pl b8 (List.replicate 32 0#8)++[PV.sl true 1 [],PV.sl true 2 []])=mG 0 0 0 [] (List.replicate 32 0#8) (.p (.sl true 1 [])) (.p (.sl true 2 [])):=by simp [mG,cl,pl,bytesOf_nil]
theorem sclD75 {s:Ses}:(scl s).drop 75=[.p (i64 s.bytes),.p (i64 s.rounds),.p (i64 s.words)]:=by
  rw [←sclU,List.take_of_length_le (by rw [List.length_drop,scl_len];omega)]
attribute [go_sem] sclD75
theorem zM_ok:zM.Ok:=⟨by constructor<;>decide,by constructor<;>decide,by constructor<;>decide,by decide,by decide,by decide⟩
theorem d7_ok {kd se sp:Nat} {tx dgs:By} {us:List Int} {c:Nat} {vl:By} {s:By × Bool} (h1:kd < 4294967296) (h2:se < 4294967296) (h3:sp < 4294967296) (h4:tx.length≤100000) (h5:us.length≤100000) (h6:c≤100000):(d7 kd se sp tx dgs us c vl s).1.Ok∧0≤(d7 kd se sp tx dgs us c vl s).1.step:=by
  refine ⟨⟨⟨?_,?_⟩,⟨?_,?_⟩,⟨?_,?_⟩,?_,?_,?_⟩,?_⟩
  · show (-9223372036854775808:Int)≤(kd:Int);omega
  · show (kd:Int)≤9223372036854775807;omega
  · show (-9223372036854775808:Int)≤(se:Int);omega
  · show (se:Int)≤9223372036854775807;omega
  · show (-9223372036854775808:Int)≤(sp:Int);omega
  · show (sp:Int)≤9223372036854775807;omega
  · show tx.length≤_;omega
  · show us.length≤_;omega
  · show (prs _ _).length≤_;rw [prs_len];omega
  · show (0:Int)≤(sp:Int);omega
theorem decM_ok (b:By):(decM b).1.Ok∧0≤(decM b).1.step:=by
  have hn : ∀ (l:By) i,(nth l i).toNat < 256:=fun l i=>(nth l i).isLt
  have k1:(tk (b,true) 41).1.length=41:=tk_len
  unfold decM d1 d2 d3 d4 d5 d6
  refine d7_ok ?_ ?_ ?_ ?_ ?_ ?_
  · have:=hn (tk (b,true) 41).1 0;omega
  · exact rd_lt4 (by rw [List.length_drop,List.length_take];omega)
  · exact rd_lt4 (by rw [List.length_drop,List.length_take];omega)
  · rw [tk_len]
    have:=rd_lt2 (b:=(tk (tk (b,true) 41).2 2).1) (by rw [tk_len];exact Nat.le_refl _)
    omega
  · rw [List.length_map,wds_len]
    have:=hn (tk (tk (tk (tk (b,true) 41).2 2).2 (rd (tk (tk (b,true) 41).2 2).1).toNat).2 1).1 0
    omega
  · exact Nat.le_of_lt (Nat.lt_of_lt_of_le (hn _ 0) (by omega))
theorem dec_ok (b:By):(dec b).1.Ok∧0≤(dec b).1.step:=by
  unfold dec decF
  split
  · exact ⟨zM_ok,by decide⟩
  · split
    · exact decM_ok b
    · exact ⟨zM_ok,by decide⟩
def rC (s:Ses) (d:Msg) (code:Int):Int :=
  if code != 0 then code else if d.session != s.id then 1 else if decide (d.step < s.step) then 120
  else if decide (s.step < d.step) || ((s.state != 0 && sends s) || (d.kind != 2 && !decide (d.root.val=s.seen.val))) then 290 else 0
def rCode (s:Ses) (b:By):Int:=rC s (dec b).1 (dec b).2
def recv (s:Ses) (b:By) (now:Int):Ses × Msg × Int :=
  if 3≤s.state then (s,zM,290) else if s.due < now then ({ s with state:=5 },zM,291) else if rCode s b≠0 then (s,zM,rCode s b) else (addS s (dec b).1 b,(dec b).1,0)
section walks
variable {G:Globs} {r1 r2:Nat} {m1:List (Int × Rule)} {m2:List (Int × Int)}
theorem Resend_spec (g:GR G r1 r2 m1 m2) (s:Ses) (hm:s.last.Ok) (H:Hp) (R:AV → Hp → Prop) (h:R (.p (.sl false 1 (pl b8 (enc s.last)))) H):ACall Tryd.prog G 17 [.p (ses s)] H R:=by
  refine ACall.of_run (raw:=[]) Tryd.func17 rfl Tryd.ntmps17 (by simp) fun hbel => ?_
  (repeat refine .z rfl ?_);refine .text ?_;simp (disch:=first|exact dsc|fail) only [go_sem,seval,-List.reduceReplicate]
  (repeat refine .z rfl ?_);refine .text ?_;simp (disch:=first|exact dsc|fail) only [go_sem,seval,-List.reduceReplicate]
  refine CallK.of (fun R h=>Encode_spec g _ hm _ R h) ?_;simp (disch:=first|exact dsc|fail) only [go_sem,seval,-List.reduceReplicate]
  (repeat refine .z rfl ?_);refine .rt Tryd.func17 (by rw [Tryd.results17]) (hR := ?_);simp (disch:=first|exact dsc|fail) only [go_sem,seval,-List.reduceReplicate]
  exact h
def usage (s:Ses):PV := .agg [i64 s.bytes,i64 s.rounds,i64 s.words]
theorem Usage_spec (s:Ses) (H:Hp) (R:AV → Hp → Prop) (h:R (.p (usage s)) H):ACall Tryd.prog G 25 [.p (ses s)] H R:=by
  refine ACall.of_run (raw:=[]) Tryd.func25 rfl Tryd.ntmps25 (by simp) fun hbel => ?_
  (repeat refine .z rfl ?_);refine .text ?_;simp (disch:=first|exact dsc|fail) only [go_sem,seval,-List.reduceReplicate]
  (repeat refine .z rfl ?_);refine .text ?_;simp (disch:=first|exact dsc|fail) only [go_sem,seval,-List.reduceReplicate]
  (repeat refine .z rfl ?_);refine .rt Tryd.func25 (by rw [Tryd.results25]) (hR := ?_);simp (disch:=first|exact dsc|fail) only [go_sem,seval,-List.reduceReplicate]
  exact h
set_option maxHeartbeats 4000000 in
set_option maxRecDepth 20000 in
theorem Receive_spec (g:GR G r1 r2 m1 m2) (s:Ses) (hs:s.Ok) (b:By) (hb:b.length≤140737488353000) (now:Int) (H:Hp) (R:AV → Hp → Prop) (h:R (.tup [.p (ses (recv s b now).1),.p (msg (recv s b now).2.1),.p (i64 (recv s b now).2.2)]) H):ACall Tryd.prog G 23 [.p (ses s),.p (.sl false 1 (pl b8 b)),.p (i64 now)] H R:=by
  have hstep:=hs.step
  have hz:(List.replicate 32 0#8:By).length=32:=List.length_replicate
  refine ACall.of_run (raw:=[]) Tryd.func23 rfl Tryd.ntmps23 (by simp) fun hbel => ?_
  (repeat refine .z rfl ?_);refine .text ?_;simp (disch:=first|exact dsc|fail) only [go_sem,seval,-List.reduceReplicate,nC_zero,mz_zero]
  (repeat refine .z rfl ?_);refine .text ?_;simp (disch:=first|exact dsc|fail) only [go_sem,seval,-List.reduceReplicate,nC_zero,mz_zero]
  rw [rH_def]
  have hbel:=fun s o z x=>rH_bel (s:=s) (o:=o) (z:=z) (x:=x) hbel
  have hin : ∀ R,R (.p (bo (decide (3≤s.state)))) (rH H s (nC 0 0) (mG 0 0 0 [] (List.replicate 32 0#8) (.p (.sl true 1 [])) (.p (.sl true 2 []))) s) → ACall Tryd.prog G 46 [.ptr (H.n+3) 0] (rH H s (nC 0 0) (mG 0 0 0 [] (List.replicate 32 0#8) (.p (.sl true 1 [])) (.p (.sl true 2 []))) s) R:=fun R h=>final_spec s (H.n+3) _ rH_f3 R h
  unfold recv at h
  (repeat refine .z rfl ?_);refine .text ?_;simp (disch:=first|exact dsc|fail) only [go_sem,seval,-List.reduceReplicate]
  refine CallK.of (fun R h=>hin R h) ?_;simp (disch:=first|exact dsc|fail) only [go_sem,seval,-List.reduceReplicate]
  by_cases c1:3≤s.state
  · have d1:decide (3≤s.state)=true:=decide_eq_true c1
    rw [if_pos c1] at h
    simp (disch:=first|exact dsc|fail) only [go_sem,seval,-List.reduceReplicate,d1]
    (repeat refine .z rfl ?_);refine .ifT (by simp (disch:=first|exact dsc|fail) only [go_sem,seval,-List.reduceReplicate]) ?_
    (repeat refine .z rfl ?_);refine .text ?_;simp (disch:=first|exact dsc|fail) only [go_sem,seval,-List.reduceReplicate,hz]
    (repeat refine .z rfl ?_);refine .rt Tryd.func23 (by rw [Tryd.results23]) (hx:=by simp (disch:=first|exact dsc|fail) only [go_sem,seval,-List.reduceReplicate,hz];rfl) (hR := ?_);simp (disch:=first|exact dsc|fail) only [go_sem,seval,-List.reduceReplicate,hz]
    exact h
  · have d1:decide (3≤s.state)=false:=decide_eq_false c1
    rw [if_neg c1] at h
    simp (disch:=first|exact dsc|fail) only [go_sem,seval,-List.reduceReplicate,d1]
    (repeat refine .z rfl ?_);refine .ifF (by simp (disch:=first|exact dsc|fail) only [go_sem,seval,-List.reduceReplicate]) ?_
    (repeat refine .z rfl ?_);refine .text ?_;simp (disch:=first|exact dsc|fail) only [go_sem,seval,-List.reduceReplicate]
    by_cases c2:s.due < now
    · have d2:decide (s.due < now)=true:=decide_eq_true c2
      rw [if_pos c2] at h
      (repeat refine .z rfl ?_);refine .ifT (by simp (disch:=first|exact dsc|fail) only [go_sem,seval,-List.reduceReplicate,d2]) ?_
      (repeat refine .z rfl ?_);refine .text ?_;simp (disch:=first|exact dsc|fail) only [go_sem,seval,-List.reduceReplicate]
      (repeat refine .z rfl ?_);refine .text ?_;simp (disch:=first|exact dsc|fail) only [go_sem,seval,-List.reduceReplicate,hz]
      (repeat refine .z rfl ?_);refine .rt Tryd.func23 (by rw [Tryd.results23]) (hx:=by simp (disch:=first|exact dsc|fail) only [go_sem,seval,-List.reduceReplicate,hz];rfl) (hR := ?_);simp (disch:=first|exact dsc|fail) only [go_sem,seval,-List.reduceReplicate,hz]
      exact h
    · have d2:decide (s.due < now)=false:=decide_eq_false c2
      rw [if_neg c2] at h
      obtain ⟨hdo,hds⟩:=dec_ok b
      have hsn : ∀ T,∀ R,R (.p (bo (sends s))) (app (rH H s (nC 0 0) (mG 0 0 0 [] (List.replicate 32 0#8) (.p (.sl true 1 [])) (.p (.sl true 2 []))) s) T) → ACall Tryd.prog G 47 [.ptr (H.n+3) 0] (app (rH H s (nC 0 0) (mG 0 0 0 [] (List.replicate 32 0#8) (.p (.sl true 1 [])) (.p (.sl true 2 []))) s) T) R:=fun T R h=>sends_spec s hstep.1 hs.last (H.n+3) _ (app_f' rH_f3) R h
      (repeat refine .z rfl ?_);refine .ifF (by simp (disch:=first|exact dsc|fail) only [go_sem,seval,-List.reduceReplicate,d2]) ?_
      (repeat refine .z rfl ?_);refine .text ?_;simp (disch:=first|exact dsc|fail) only [go_sem,seval,-List.reduceReplicate]
      refine CallK.of (fun R h=>Decode_spec g b (by omega) _ R h) ?_;simp (disch:=first|exact dsc|fail) only [go_sem,seval,-List.reduceReplicate,mz_zero,hz]
      unfold rCode at h
      simp only [ne_eq] at h
      generalize (dec b).1=d at *
      generalize (dec b).2=code at *
      have hsn:=hsn [.cells (mcl d)]
      simp only [app_cons,app_nil] at hsn
      have hrl:=d.root.len
      have hsl:=s.seen.len
      (repeat refine .zs rfl ?_);refine .cutE [1,3,6,7,9,10] [(11,.p (i64 (rC s d code)))] [] (fun ihF => ?_) (fun env F => ?_)
      rotate_left 1
      simp (disch:=first|exact dsc|fail) only [go_sem,seval,-List.reduceReplicate] at F
      rotate_left 1
      · unfold rC at ihF
        (repeat refine .z rfl ?_);refine .text ?_;simp (disch:=first|exact dsc|fail) only [go_sem,seval,-List.reduceReplicate]
        (repeat refine .z rfl ?_);refine .ifB (by simp (disch:=first|exact dsc|fail) only [go_sem,seval,-List.reduceReplicate];rfl) (fun b1 => ?_) (fun b1 => ?_)
        · rw [b1] at ihF
          refine .skip ?_
          first | (refine ihF _ _ ?_ ?_) | (refine .z rfl ?_;refine ihF _ _ ?_ ?_) | (refine .z rfl ?_;refine .z rfl ?_;refine ihF _ _ ?_ ?_) | (refine .z rfl ?_;refine .z rfl ?_;refine .z rfl ?_;refine ihF _ _ ?_ ?_)
          · simp (disch:=first|exact dsc|fail) only [go_sem,seval,-List.reduceReplicate]<;>(repeat' (first | rfl | refine And.intro ?_ ?_))
          · first | rfl | (simp (disch:=first|exact dsc|fail) only [go_sem,seval,-List.reduceReplicate]<;>(try rfl))
        · have hc0:code=0:=by simpa using b1
          rw [b1] at ihF
          simp only [Bool.false_eq_true,if_false] at ihF
          (repeat refine .z rfl ?_);refine .text ?_;simp (disch:=first|exact dsc|fail) only [go_sem,seval,-List.reduceReplicate]
          (repeat refine .z rfl ?_);refine .ifB (by simp (disch:=first|exact dsc|fail) only [go_sem,seval,-List.reduceReplicate];rfl) (fun b2 => ?_) (fun b2 => ?_)
          · rw [b2] at ihF
            (repeat refine .z rfl ?_);refine .text ?_;simp (disch:=first|exact dsc|fail) only [go_sem,seval,-List.reduceReplicate]
            first | (refine ihF _ _ ?_ ?_) | (refine .z rfl ?_;refine ihF _ _ ?_ ?_) | (refine .z rfl ?_;refine .z rfl ?_;refine ihF _ _ ?_ ?_) | (refine .z rfl ?_;refine .z rfl ?_;refine .z rfl ?_;refine ihF _ _ ?_ ?_)
            · simp (disch:=first|exact dsc|fail) only [go_sem,seval,-List.reduceReplicate]<;>(repeat' (first | rfl | refine And.intro ?_ ?_))
            · first | rfl | (simp (disch:=first|exact dsc|fail) only [go_sem,seval,-List.reduceReplicate]<;>(try rfl))
          · rw [b2] at ihF
            simp only [Bool.false_eq_true,if_false] at ihF
            (repeat refine .z rfl ?_);refine .text ?_;simp (disch:=first|exact dsc|fail) only [go_sem,seval,-List.reduceReplicate]
            (repeat refine .z rfl ?_);refine .ifB (by simp (disch:=first|exact dsc|fail) only [go_sem,seval,-List.reduceReplicate];rfl) (fun b3 => ?_) (fun b3 => ?_)
            · rw [b3] at ihF
              (repeat refine .z rfl ?_);refine .text ?_;simp (disch:=first|exact dsc|fail) only [go_sem,seval,-List.reduceReplicate]
              first | (refine ihF _ _ ?_ ?_) | (refine .z rfl ?_;refine ihF _ _ ?_ ?_) | (refine .z rfl ?_;refine .z rfl ?_;refine ihF _ _ ?_ ?_) | (refine .z rfl ?_;refine .z rfl ?_;refine .z rfl ?_;refine ihF _ _ ?_ ?_)
              · simp (disch:=first|exact dsc|fail) only [go_sem,seval,-List.reduceReplicate]<;>(repeat' (first | rfl | refine And.intro ?_ ?_))
              · first | rfl | (simp (disch:=first|exact dsc|fail) only [go_sem,seval,-List.reduceReplicate]<;>(try rfl))
            · rw [b3] at ihF
              simp only [Bool.false_eq_true,if_false] at ihF
              (repeat refine .z rfl ?_);refine .text ?_;simp (disch:=first|exact dsc|fail) only [go_sem,seval,-List.reduceReplicate]
              cases b4:decide (s.step < d.step) with
              | true =>
                rw [b4] at ihF
                (repeat refine .z rfl ?_);refine .ifT (by simp (disch:=first|exact dsc|fail) only [go_sem,seval,-List.reduceReplicate,b4]) ?_
                refine .skip ?_
                (repeat refine .z rfl ?_);refine .ifT (by simp (disch:=first|exact dsc|fail) only [go_sem,seval,-List.reduceReplicate]) ?_
                (repeat refine .z rfl ?_);refine .text ?_;simp (disch:=first|exact dsc|fail) only [go_sem,seval,-List.reduceReplicate]
                first | (refine ihF _ _ ?_ ?_) | (refine .z rfl ?_;refine ihF _ _ ?_ ?_) | (refine .z rfl ?_;refine .z rfl ?_;refine ihF _ _ ?_ ?_) | (refine .z rfl ?_;refine .z rfl ?_;refine .z rfl ?_;refine ihF _ _ ?_ ?_)
                · simp (disch:=first|exact dsc|fail) only [go_sem,seval,-List.reduceReplicate,hc0]<;>(repeat' (first | rfl | refine And.intro ?_ ?_))
                · first | rfl | (simp (disch:=first|exact dsc|fail) only [go_sem,seval,-List.reduceReplicate,hc0]<;>(try rfl))
              | false =>
                rw [b4] at ihF
                (repeat refine .z rfl ?_);refine .ifF (by simp (disch:=first|exact dsc|fail) only [go_sem,seval,-List.reduceReplicate,b4]) ?_
                (repeat refine .z rfl ?_);refine .text ?_;simp (disch:=first|exact dsc|fail) only [go_sem,seval,-List.reduceReplicate]
                cases b5:s.state != 0 with
                | false =>
                  rw [b5] at ihF
                  simp (disch:=first|exact dsc|fail) only [go_sem,seval,-List.reduceReplicate,b5]
                  (repeat refine .z rfl ?_);refine .ifF (by simp (disch:=first|exact dsc|fail) only [go_sem,seval,-List.reduceReplicate]) ?_
                  (repeat refine .z rfl ?_);refine .text ?_;simp (disch:=first|exact dsc|fail) only [go_sem,seval,-List.reduceReplicate]
                  cases b7:d.kind != 2 with
                  | false =>
                    rw [b7] at ihF
                    simp (disch:=first|exact dsc|fail) only [go_sem,seval,-List.reduceReplicate,b7]
                    (repeat refine .z rfl ?_);refine .ifF (by simp (disch:=first|exact dsc|fail) only [go_sem,seval,-List.reduceReplicate]) ?_
                    refine .skip ?_
                    first | (refine ihF _ _ ?_ ?_) | (refine .z rfl ?_;refine ihF _ _ ?_ ?_) | (refine .z rfl ?_;refine .z rfl ?_;refine ihF _ _ ?_ ?_) | (refine .z rfl ?_;refine .z rfl ?_;refine .z rfl ?_;refine ihF _ _ ?_ ?_)
                    · simp (disch:=first|exact dsc|fail) only [go_sem,seval,-List.reduceReplicate,hc0]<;>(repeat' (first | rfl | refine And.intro ?_ ?_))
                    · first | rfl | (simp (disch:=first|exact dsc|fail) only [go_sem,seval,-List.reduceReplicate,hc0]<;>(try rfl))
                  | true =>
                    rw [b7] at ihF
                    simp (disch:=first|exact dsc|fail) only [go_sem,seval,-List.reduceReplicate,b7]
                    cases b8:decide (d.root.val=s.seen.val) with
                    | true =>
                      rw [b8] at ihF
                      simp (disch:=first|exact dsc|fail) only [go_sem,seval,-List.reduceReplicate,b8]
                      (repeat refine .z rfl ?_);refine .ifF (by simp (disch:=first|exact dsc|fail) only [go_sem,seval,-List.reduceReplicate]) ?_
                      refine .skip ?_
                      first | (refine ihF _ _ ?_ ?_) | (refine .z rfl ?_;refine ihF _ _ ?_ ?_) | (refine .z rfl ?_;refine .z rfl ?_;refine ihF _ _ ?_ ?_) | (refine .z rfl ?_;refine .z rfl ?_;refine .z rfl ?_;refine ihF _ _ ?_ ?_)
                      · simp (disch:=first|exact dsc|fail) only [go_sem,seval,-List.reduceReplicate,hc0]<;>(repeat' (first | rfl | refine And.intro ?_ ?_))
                      · first | rfl | (simp (disch:=first|exact dsc|fail) only [go_sem,seval,-List.reduceReplicate,hc0]<;>(try rfl))
                    | false =>
                      rw [b8] at ihF
                      simp (disch:=first|exact dsc|fail) only [go_sem,seval,-List.reduceReplicate,b8]
                      (repeat refine .z rfl ?_);refine .ifT (by simp (disch:=first|exact dsc|fail) only [go_sem,seval,-List.reduceReplicate]) ?_
                      (repeat refine .z rfl ?_);refine .text ?_;simp (disch:=first|exact dsc|fail) only [go_sem,seval,-List.reduceReplicate]
                      first | (refine ihF _ _ ?_ ?_) | (refine .z rfl ?_;refine ihF _ _ ?_ ?_) | (refine .z rfl ?_;refine .z rfl ?_;refine ihF _ _ ?_ ?_) | (refine .z rfl ?_;refine .z rfl ?_;refine .z rfl ?_;refine ihF _ _ ?_ ?_)
                      · simp (disch:=first|exact dsc|fail) only [go_sem,seval,-List.reduceReplicate,hc0]<;>(repeat' (first | rfl | refine And.intro ?_ ?_))
                      · first | rfl | (simp (disch:=first|exact dsc|fail) only [go_sem,seval,-List.reduceReplicate,hc0]<;>(try rfl))
                | true =>
                  rw [b5] at ihF
                  simp (disch:=first|exact dsc|fail) only [go_sem,seval,-List.reduceReplicate,b5]
                  refine CallK.of (fun R h=>hsn R h) ?_;simp (disch:=first|exact dsc|fail) only [go_sem,seval,-List.reduceReplicate]
                  cases b6:sends s with
                  | true =>
                    rw [b6] at ihF
                    (try simp (disch:=first|exact dsc|fail) only [go_sem,seval,-List.reduceReplicate])
                    (repeat refine .z rfl ?_);refine .ifT (by simp (disch:=first|exact dsc|fail) only [go_sem,seval,-List.reduceReplicate]) ?_
                    refine .skip ?_
                    (repeat refine .z rfl ?_);refine .ifT (by simp (disch:=first|exact dsc|fail) only [go_sem,seval,-List.reduceReplicate]) ?_
                    (repeat refine .z rfl ?_);refine .text ?_;simp (disch:=first|exact dsc|fail) only [go_sem,seval,-List.reduceReplicate]
                    first | (refine ihF _ _ ?_ ?_) | (refine .z rfl ?_;refine ihF _ _ ?_ ?_) | (refine .z rfl ?_;refine .z rfl ?_;refine ihF _ _ ?_ ?_) | (refine .z rfl ?_;refine .z rfl ?_;refine .z rfl ?_;refine ihF _ _ ?_ ?_)
                    · simp (disch:=first|exact dsc|fail) only [go_sem,seval,-List.reduceReplicate,hc0]<;>(repeat' (first | rfl | refine And.intro ?_ ?_))
                    · first | rfl | (simp (disch:=first|exact dsc|fail) only [go_sem,seval,-List.reduceReplicate,hc0]<;>(try rfl))
                  | false =>
                    rw [b6] at ihF
                    (try simp (disch:=first|exact dsc|fail) only [go_sem,seval,-List.reduceReplicate])
                    (repeat refine .z rfl ?_);refine .ifF (by simp (disch:=first|exact dsc|fail) only [go_sem,seval,-List.reduceReplicate]) ?_
                    (repeat refine .z rfl ?_);refine .text ?_;simp (disch:=first|exact dsc|fail) only [go_sem,seval,-List.reduceReplicate]
                    cases b7:d.kind != 2 with
                    | false =>
                      rw [b7] at ihF
                      simp (disch:=first|exact dsc|fail) only [go_sem,seval,-List.reduceReplicate,b7]
                      (repeat refine .z rfl ?_);refine .ifF (by simp (disch:=first|exact dsc|fail) only [go_sem,seval,-List.reduceReplicate]) ?_
                      refine .skip ?_
                      first | (refine ihF _ _ ?_ ?_) | (refine .z rfl ?_;refine ihF _ _ ?_ ?_) | (refine .z rfl ?_;refine .z rfl ?_;refine ihF _ _ ?_ ?_) | (refine .z rfl ?_;refine .z rfl ?_;refine .z rfl ?_;refine ihF _ _ ?_ ?_)
                      · simp (disch:=first|exact dsc|fail) only [go_sem,seval,-List.reduceReplicate,hc0]<;>(repeat' (first | rfl | refine And.intro ?_ ?_))
                      · first | rfl | (simp (disch:=first|exact dsc|fail) only [go_sem,seval,-List.reduceReplicate,hc0]<;>(try rfl))
                    | true =>
                      rw [b7] at ihF
                      simp (disch:=first|exact dsc|fail) only [go_sem,seval,-List.reduceReplicate,b7]
                      cases b8:decide (d.root.val=s.seen.val) with
                      | true =>
                        rw [b8] at ihF
                        simp (disch:=first|exact dsc|fail) only [go_sem,seval,-List.reduceReplicate,b8]
                        (repeat refine .z rfl ?_);refine .ifF (by simp (disch:=first|exact dsc|fail) only [go_sem,seval,-List.reduceReplicate]) ?_
                        refine .skip ?_
                        first | (refine ihF _ _ ?_ ?_) | (refine .z rfl ?_;refine ihF _ _ ?_ ?_) | (refine .z rfl ?_;refine .z rfl ?_;refine ihF _ _ ?_ ?_) | (refine .z rfl ?_;refine .z rfl ?_;refine .z rfl ?_;refine ihF _ _ ?_ ?_)
                        · simp (disch:=first|exact dsc|fail) only [go_sem,seval,-List.reduceReplicate,hc0]<;>(repeat' (first | rfl | refine And.intro ?_ ?_))
                        · first | rfl | (simp (disch:=first|exact dsc|fail) only [go_sem,seval,-List.reduceReplicate,hc0]<;>(try rfl))
                      | false =>
                        rw [b8] at ihF
                        simp (disch:=first|exact dsc|fail) only [go_sem,seval,-List.reduceReplicate,b8]
                        (repeat refine .z rfl ?_);refine .ifT (by simp (disch:=first|exact dsc|fail) only [go_sem,seval,-List.reduceReplicate]) ?_
                        (repeat refine .z rfl ?_);refine .text ?_;simp (disch:=first|exact dsc|fail) only [go_sem,seval,-List.reduceReplicate]
                        first | (refine ihF _ _ ?_ ?_) | (refine .z rfl ?_;refine ihF _ _ ?_ ?_) | (refine .z rfl ?_;refine .z rfl ?_;refine ihF _ _ ?_ ?_) | (refine .z rfl ?_;refine .z rfl ?_;refine .z rfl ?_;refine ihF _ _ ?_ ?_)
                        · simp (disch:=first|exact dsc|fail) only [go_sem,seval,-List.reduceReplicate,hc0]<;>(repeat' (first | rfl | refine And.intro ?_ ?_))
                        · first | rfl | (simp (disch:=first|exact dsc|fail) only [go_sem,seval,-List.reduceReplicate,hc0]<;>(try rfl))
      · generalize rC s d code=rc at *
        (repeat refine .z rfl ?_);refine .text ?_;simp (disch:=first|exact dsc|fail) only [go_sem,seval,-List.reduceReplicate,F]
        (repeat refine .z rfl ?_);refine .ifB (by simp (disch:=first|exact dsc|fail) only [go_sem,seval,-List.reduceReplicate];rfl) (fun e0 => ?_) (fun e0 => ?_)
        · have e1 : ¬rc=0:=by simpa using e0
          rw [if_pos e1] at h
          (repeat refine .z rfl ?_);refine .text ?_;simp (disch:=first|exact dsc|fail) only [go_sem,seval,-List.reduceReplicate,F,sets_nil,hz]
          (repeat refine .z rfl ?_);refine .rt Tryd.func23 (by rw [Tryd.results23]) (hx:=by simp (disch:=first|exact dsc|fail) only [go_sem,seval,-List.reduceReplicate,F,hz];rfl) (hR := ?_);simp (disch:=first|exact dsc|fail) only [go_sem,seval,-List.reduceReplicate,F,hz]
          exact h
        · have e1:rc=0:=by simpa using e0
          rw [if_neg (by simp [e1])] at h
          have hen:enters Tryd.prog 49=true:=enters49
          (repeat refine .z rfl ?_);refine .text ?_;simp (disch:=first|exact dsc|fail) only [go_sem,seval,-List.reduceReplicate,F,sets_nil]
          have hc3 : ∀ x,((rH H s (nC 0 0) (mG 0 0 0 [] (List.replicate 32 0#8) (.p (.sl true 1 [])) (.p (.sl true 2 []))) s).new x).f (H.n+3)=some (.cells (scl s)):=fun x=>by rw [Hp.f_new_old _ _ _ (by rw [rH_n];omega)];exact rH_f3
          refine CallK.of (fun R h=>add_spec g s d hdo b (by omega) hs.step hs.bytes hs.rounds hs.words (H.n+3) _ (hc3 _) R h) ?_;simp (disch:=first|exact dsc|fail) only [go_sem,seval,-List.reduceReplicate]
          generalize addS s d b=X at *
          generalize hZ:mG 0 0 0 [] (List.replicate 32 0#8) (.p (.sl true 1 [])) (.p (.sl true 2 []))=Z at *
          have hZl:Z.length=38:=by rw [←hZ];exact mG_len hz
          (repeat refine .z rfl ?_)
          refine .openInv (fun L env' H'=>env' 6 = .ptr (H.n+1) 0∧env' 7 = .ptr (H.n+2) 0∧env' 9 = .ptr (H.n+3) 0∧env' 10 = .ptr (H.n+4) 0∧(L 0=true → env' 75 = .p (ses X))∧(L 1=true → env' 76 = .p (msg d))∧(L 4=true → env' 8 = .p (i64 0))∧(L 2=true → L 0=true)∧(L 3=true → L 0=true∧L 1=true∧L 2=true)∧(L 4=true → L 0=true∧L 1=true∧L 2=true∧L 3=true)∧H'=((rH H s (if L 2 then scl X else nC 0 0) (if L 3 then mcl d else Z) X).new (.cells (mcl d)))) follows (by kernel_rfl) ?_ ?_ ?_
          · exact ⟨(by simp (disch:=first|exact dsc|fail) only [go_sem,seval,-List.reduceReplicate,F,hZl]),(by simp (disch:=first|exact dsc|fail) only [go_sem,seval,-List.reduceReplicate,F,hZl]),(by simp (disch:=first|exact dsc|fail) only [go_sem,seval,-List.reduceReplicate,F,hZl]),(by simp (disch:=first|exact dsc|fail) only [go_sem,seval,-List.reduceReplicate,F,hZl]),(fun h=>by cases h),(fun h=>by cases h),(fun h=>by cases h),(fun h=>by cases h),(fun h=>by cases h),(fun h=>by cases h),(by first | rfl | (simp only [Bool.false_eq_true,if_false];first | rfl | (simp (disch:=first|exact dsc|fail) only [go_sem,seval,-List.reduceReplicate,F,hZl]<;>rfl)))⟩
          · intro i o L env' H' ho hL hall hI
            obtain ⟨f0,f1,f2,f3,g0,g1,g4,m2,m3,m4,rfl⟩:=hI
            rcases i with _ | _ | _ | _ | _ | i
            · cases ho
              have n2:L 2=false:=Bool.eq_false_iff.2 fun e=>by (have:=m2 e;simp [hL] at this)
              have n3:L 3=false:=Bool.eq_false_iff.2 fun e=>by (have:=m3 e;simp [hL] at this)
              have n4:L 4=false:=Bool.eq_false_iff.2 fun e=>by (have:=m4 e;simp [hL] at this)
              refine opA_val (.p (ses X)) rfl rfl (by simp (disch:=first|exact dsc|fail) only [go_sem,seval,-List.reduceReplicate,reduceIte,Bool.false_eq_true,if_false,if_true,f0,f1,f2,f3,n2,n3,n4,hL,F,hZl]<;>rfl) rfl ?_
              exact ⟨(by (try simp (disch:=first|exact dsc|fail) only [go_sem,seval,-List.reduceReplicate]);exact f0),(by (try simp (disch:=first|exact dsc|fail) only [go_sem,seval,-List.reduceReplicate]);exact f1),(by (try simp (disch:=first|exact dsc|fail) only [go_sem,seval,-List.reduceReplicate]);exact f2),(by (try simp (disch:=first|exact dsc|fail) only [go_sem,seval,-List.reduceReplicate]);exact f3),(fun _=>by simp (disch:=first|exact dsc|fail) only [go_sem,seval,-List.reduceReplicate]),(fun q=>by (rw [more_ne (by decide)] at q);(try simp (disch:=first|exact dsc|fail) only [go_sem,seval,-List.reduceReplicate]);exact g1 q),(fun q=>by (rw [more_ne (by decide)] at q);(try simp (disch:=first|exact dsc|fail) only [go_sem,seval,-List.reduceReplicate]);exact g4 q),(fun q=>by (rw [more_ne (by decide)] at q);exact more_t (m2 q)),(fun q=>by (rw [more_ne (by decide)] at q);obtain ⟨q0,q1,q2⟩:=m3 q;exact ⟨more_t q0,more_t q1,more_t q2⟩),(fun q=>by (rw [more_ne (by decide)] at q);obtain ⟨q0,q1,q2,q3⟩:=m4 q;exact ⟨more_t q0,more_t q1,more_t q2,more_t q3⟩),(by (have e2:more L 0 2=L 2:=more_ne (by decide));(have e3:more L 0 3=L 3:=more_ne (by decide));(try simp only [e2,e3,n2,n3]);first | done | rfl | (simp only [e2,e3,n2,n3,if_true,if_false,Bool.false_eq_true];first | done | rfl | (simp (disch:=first|exact dsc|fail) only [go_sem,seval,-List.reduceReplicate,e2,e3,n2,n3,F,hZl]<;>rfl)))⟩
            · cases ho
              have n3:L 3=false:=Bool.eq_false_iff.2 fun e=>by (have:=m3 e;simp [hL] at this)
              have n4:L 4=false:=Bool.eq_false_iff.2 fun e=>by (have:=m4 e;simp [hL] at this)
              refine opA_val (.p (msg d)) rfl rfl (by simp (disch:=first|exact dsc|fail) only [go_sem,seval,-List.reduceReplicate,reduceIte,Bool.false_eq_true,if_false,if_true,f0,f1,f2,f3,n3,n4,hL,F,hZl]<;>rfl) rfl ?_
              exact ⟨(by (try simp (disch:=first|exact dsc|fail) only [go_sem,seval,-List.reduceReplicate]);exact f0),(by (try simp (disch:=first|exact dsc|fail) only [go_sem,seval,-List.reduceReplicate]);exact f1),(by (try simp (disch:=first|exact dsc|fail) only [go_sem,seval,-List.reduceReplicate]);exact f2),(by (try simp (disch:=first|exact dsc|fail) only [go_sem,seval,-List.reduceReplicate]);exact f3),(fun q=>by (rw [more_ne (by decide)] at q);(try simp (disch:=first|exact dsc|fail) only [go_sem,seval,-List.reduceReplicate]);exact g0 q),(fun _=>by simp (disch:=first|exact dsc|fail) only [go_sem,seval,-List.reduceReplicate]),(fun q=>by (rw [more_ne (by decide)] at q);(try simp (disch:=first|exact dsc|fail) only [go_sem,seval,-List.reduceReplicate]);exact g4 q),(fun q=>by (rw [more_ne (by decide)] at q);exact more_t (m2 q)),(fun q=>by (rw [more_ne (by decide)] at q);obtain ⟨q0,q1,q2⟩:=m3 q;exact ⟨more_t q0,more_t q1,more_t q2⟩),(fun q=>by (rw [more_ne (by decide)] at q);obtain ⟨q0,q1,q2,q3⟩:=m4 q;exact ⟨more_t q0,more_t q1,more_t q2,more_t q3⟩),(by (have e2:more L 1 2=L 2:=more_ne (by decide));(have e3:more L 1 3=L 3:=more_ne (by decide));(try simp only [e2,e3,n3]);first | done | rfl | (simp only [e2,e3,n3,if_true,if_false,Bool.false_eq_true];first | done | rfl | (simp (disch:=first|exact dsc|fail) only [go_sem,seval,-List.reduceReplicate,e2,e3,n3,F,hZl]<;>rfl)))⟩
            · cases ho
              have h0:L 0=true:=hall ⟨0,.data⟩ (by simp) rfl
              have d0:=g0 h0
              have n3:L 3=false:=Bool.eq_false_iff.2 fun e=>by (have:=m3 e;simp [hL] at this)
              have n4:L 4=false:=Bool.eq_false_iff.2 fun e=>by (have:=m4 e;simp [hL] at this)
              refine opA_unit rfl rfl (by simp (disch:=first|exact dsc|fail) only [go_sem,seval,-List.reduceReplicate,reduceIte,Bool.false_eq_true,if_false,if_true,f0,f1,f2,f3,d0,h0,n3,n4,hL,F,hZl]<;>rfl) rfl ?_
              exact ⟨(by (try simp (disch:=first|exact dsc|fail) only [go_sem,seval,-List.reduceReplicate]);exact f0),(by (try simp (disch:=first|exact dsc|fail) only [go_sem,seval,-List.reduceReplicate]);exact f1),(by (try simp (disch:=first|exact dsc|fail) only [go_sem,seval,-List.reduceReplicate]);exact f2),(by (try simp (disch:=first|exact dsc|fail) only [go_sem,seval,-List.reduceReplicate]);exact f3),(fun q=>by (rw [more_ne (by decide)] at q);(try simp (disch:=first|exact dsc|fail) only [go_sem,seval,-List.reduceReplicate]);exact g0 q),(fun q=>by (rw [more_ne (by decide)] at q);(try simp (disch:=first|exact dsc|fail) only [go_sem,seval,-List.reduceReplicate]);exact g1 q),(fun q=>by (rw [more_ne (by decide)] at q);(try simp (disch:=first|exact dsc|fail) only [go_sem,seval,-List.reduceReplicate]);exact g4 q),(fun _=>more_t h0),(fun q=>by (rw [more_ne (by decide)] at q);obtain ⟨q0,q1,q2⟩:=m3 q;exact ⟨more_t q0,more_t q1,more_t q2⟩),(fun q=>by (rw [more_ne (by decide)] at q);obtain ⟨q0,q1,q2,q3⟩:=m4 q;exact ⟨more_t q0,more_t q1,more_t q2,more_t q3⟩),(by (have e2:more L 2 2=true:=more_eq);(have e3:more L 2 3=L 3:=more_ne (by decide));(try simp only [e2,e3,n3,hL]);first | done | rfl | (simp only [e2,e3,n3,hL,if_true,if_false,Bool.false_eq_true];first | done | rfl | (simp (disch:=first|exact dsc|fail) only [go_sem,seval,-List.reduceReplicate,e2,e3,n3,hL,F,hZl]<;>rfl)))⟩
            · cases ho
              have h1:L 1=true:=hall ⟨1,.data⟩ (by simp) rfl
              have d1:=g1 h1
              have h2:L 2=true:=hall ⟨2,.chain⟩ (by simp) rfl
              have h0:L 0=true:=hall ⟨0,.phase⟩ (by simp) rfl
              have d0:=g0 h0
              have n4:L 4=false:=Bool.eq_false_iff.2 fun e=>by (have:=m4 e;simp [hL] at this)
              refine opA_unit rfl rfl (by simp (disch:=first|exact dsc|fail) only [go_sem,seval,-List.reduceReplicate,reduceIte,Bool.false_eq_true,if_false,if_true,f0,f1,f2,f3,d0,d1,h0,h1,h2,n4,hL,F,hZl]<;>rfl) rfl ?_
              exact ⟨(by (try simp (disch:=first|exact dsc|fail) only [go_sem,seval,-List.reduceReplicate]);exact f0),(by (try simp (disch:=first|exact dsc|fail) only [go_sem,seval,-List.reduceReplicate]);exact f1),(by (try simp (disch:=first|exact dsc|fail) only [go_sem,seval,-List.reduceReplicate]);exact f2),(by (try simp (disch:=first|exact dsc|fail) only [go_sem,seval,-List.reduceReplicate]);exact f3),(fun q=>by (rw [more_ne (by decide)] at q);(try simp (disch:=first|exact dsc|fail) only [go_sem,seval,-List.reduceReplicate]);exact g0 q),(fun q=>by (rw [more_ne (by decide)] at q);(try simp (disch:=first|exact dsc|fail) only [go_sem,seval,-List.reduceReplicate]);exact g1 q),(fun q=>by (rw [more_ne (by decide)] at q);(try simp (disch:=first|exact dsc|fail) only [go_sem,seval,-List.reduceReplicate]);exact g4 q),(fun q=>by (rw [more_ne (by decide)] at q);exact more_t (m2 q)),(fun _=>⟨more_t h0,more_t h1,more_t h2⟩),(fun q=>by (rw [more_ne (by decide)] at q);obtain ⟨q0,q1,q2,q3⟩:=m4 q;exact ⟨more_t q0,more_t q1,more_t q2,more_t q3⟩),(by (have e2:more L 3 2=L 2:=more_ne (by decide));(have e3:more L 3 3=true:=more_eq);(try simp only [e2,e3,h2,hL]);first | done | rfl | (simp only [e2,e3,h2,hL,if_true,if_false,Bool.false_eq_true];first | done | rfl | (simp (disch:=first|exact dsc|fail) only [go_sem,seval,-List.reduceReplicate,e2,e3,h2,hL,F,hZl]<;>rfl)))⟩
            · cases ho
              have h3:L 3=true:=hall ⟨3,.chain⟩ (by simp) rfl
              have h0:L 0=true:=hall ⟨0,.phase⟩ (by simp) rfl
              have d0:=g0 h0
              have h1:L 1=true:=hall ⟨1,.phase⟩ (by simp) rfl
              have d1:=g1 h1
              have h2:L 2=true:=hall ⟨2,.phase⟩ (by simp) rfl
              refine opA_val (.p (i64 0)) rfl rfl (by simp (disch:=first|exact dsc|fail) only [go_sem,seval,-List.reduceReplicate,reduceIte,Bool.false_eq_true,if_false,if_true,f0,f1,f2,f3,d0,d1,h0,h1,h2,h3,hL,F,hZl]<;>rfl) rfl ?_
              exact ⟨(by (try simp (disch:=first|exact dsc|fail) only [go_sem,seval,-List.reduceReplicate]);exact f0),(by (try simp (disch:=first|exact dsc|fail) only [go_sem,seval,-List.reduceReplicate]);exact f1),(by (try simp (disch:=first|exact dsc|fail) only [go_sem,seval,-List.reduceReplicate]);exact f2),(by (try simp (disch:=first|exact dsc|fail) only [go_sem,seval,-List.reduceReplicate]);exact f3),(fun q=>by (rw [more_ne (by decide)] at q);(try simp (disch:=first|exact dsc|fail) only [go_sem,seval,-List.reduceReplicate]);exact g0 q),(fun q=>by (rw [more_ne (by decide)] at q);(try simp (disch:=first|exact dsc|fail) only [go_sem,seval,-List.reduceReplicate]);exact g1 q),(fun _=>by simp (disch:=first|exact dsc|fail) only [go_sem,seval,-List.reduceReplicate]),(fun q=>by (rw [more_ne (by decide)] at q);exact more_t (m2 q)),(fun q=>by (rw [more_ne (by decide)] at q);obtain ⟨q0,q1,q2⟩:=m3 q;exact ⟨more_t q0,more_t q1,more_t q2⟩),(fun _=>⟨more_t h0,more_t h1,more_t h2,more_t h3⟩),(by (have e2:more L 4 2=L 2:=more_ne (by decide));(have e3:more L 4 3=L 3:=more_ne (by decide));(try simp only [e2,e3,h2,h3]);first | done | rfl | (simp only [e2,e3,h2,h3,if_true,if_false,Bool.false_eq_true];first | done | rfl | (simp (disch:=first|exact dsc|fail) only [go_sem,seval,-List.reduceReplicate,e2,e3,h2,h3,F,hZl]<;>rfl)))⟩
            · simp at ho
          · intro L env' H' hall hI
            obtain ⟨f0,f1,f2,f3,g0,g1,g4,_,_,_,rfl⟩:=hI
            have l2:=hall 2 (by decide)
            have l3:=hall 3 (by decide)
            replace g0:=g0 (hall 0 (by decide))
            replace g1:=g1 (hall 1 (by decide))
            replace g4:=g4 (hall 4 (by decide))
            simp only [l2,l3,if_true]
            clear hall
            trace_state
            (repeat refine .z rfl ?_);refine .rt Tryd.func23 (by rw [Tryd.results23]) (hx:=by simp (disch:=first|exact dsc|fail) only [go_sem,seval,-List.reduceReplicate,f0,f1,g4];rfl) (hR := ?_);simp (disch:=first|exact dsc|fail) only [go_sem,seval,-List.reduceReplicate,f0,f1,g4]
            exact h
end walks
end Go.Proofs.YtmoecjgehdkhkaaDoor

/-
  Sessions: what is decoded from an encoding (plain).
-/
namespace Go.Proofs.YtmoecjgehdkhkaaDoor
open Go Go.AL

theorem tk_app {x r:By} {n:Nat} (h:x.length=n):tk (x++r,true) n=(x,(r,true)):=by
  subst h
  unfold tk
  simp
theorem tk_short {r:By} {n:Nat} (h:r.length < n):(tk (r,true) n).2.2=false:=by
  unfold tk
  rw [if_pos h]
theorem rd_le (x:U) : ∀ n,n≤8 → (rd (le x n)).toNat=x.toNat % 2 ^ (8*n):=by
  suffices h : ∀ n (b:By),n+b.length≤8 → (rd (le x n++b)).toNat=x.toNat % 2 ^ (8*n)+(rd b).toNat*2 ^ (8*n) from fun n hn=>by
    have:=h n [] (by simpa using hn)
    simpa [rd] using this
  have hlt : ∀ b:By,b.length≤8 → (rd b).toNat < 2 ^ (8*b.length):=fun b hb=>by
    by_cases h7:b.length≤7
    · exact rd_lt h7
    · have:b.length=8:=by omega
      rw [this];exact (rd b).isLt
  have hcons : ∀ (c:BitVec 8) (b:By),b.length≤7 → (rd (c :: b)).toNat=c.toNat+(rd b).toNat*256:=fun c b hb=>by
    have ih:=rd_lt hb
    have hc:=c.isLt
    simp only [rd,BitVec.toNat_or,BitVec.toNat_shiftLeft,BitVec.toNat_setWidth]
    have h2:(rd b).toNat <<< 8 < 2 ^ 64:=by
      rw [Nat.shiftLeft_eq]
      have:2 ^ (8*b.length)*2 ^ 8≤2 ^ 64:=by
        rw [←Nat.pow_add];exact Nat.pow_le_pow_right (by omega) (by omega)
      have:=Nat.mul_lt_mul_of_pos_right ih (show 0 < 2 ^ 8 by decide)
      omega
    rw [Nat.mod_eq_of_lt h2,Nat.mod_eq_of_lt (show c.toNat < 2 ^ 64 by omega),←Nat.shiftLeft_add_eq_or_of_lt (by omega),Nat.shiftLeft_eq]
    omega
  intro n
  induction n with
  | zero=>intro b _;simp [le,Nat.mod_one]
  | succ n ih =>
    intro b hb
    rw [le_succ,List.append_assoc,List.singleton_append,ih _ (by simp;omega),hcons _ _ (by omega)]
    have h1:((x >>> (8*n)).setWidth 8:BitVec 8).toNat=x.toNat / 2 ^ (8*n) % 256:=by
      simp [BitVec.toNat_setWidth,BitVec.toNat_ushiftRight,Nat.shiftRight_eq_div_pow]
    rw [h1,show 8*(n+1)=8*n+8 by omega,Nat.pow_add,Nat.mod_mul]
    rw [Nat.add_mul,Nat.add_assoc]
    congr 1
    rw [Nat.mul_comm (2 ^ (8*n)) (_ % 2 ^ 8),show (2 ^ 8:Nat)=256 by rfl,Nat.mul_assoc,Nat.mul_comm 256]
theorem rd_le64 (x:U):rd (le x 8)=x:=BitVec.eq_of_toNat_eq (by rw [rd_le x 8 (by omega)];exact Nat.mod_eq_of_lt x.isLt)
theorem toI_ofInt {n:Int} (h:okI n):toI (BitVec.ofInt 64 n)=n:=by
  obtain ⟨h1,h2⟩:=h
  unfold toI
  rw [IntKind.wrap_i64]
  have:((BitVec.ofInt 64 n).toNat:Int)=n % 18446744073709551616:=by
    rw [BitVec.toNat_ofInt]
    omega
  rw [this]
  omega
theorem wds_enc {l:List Int} (h : ∀ x∈l,okI x) (r:By):(wds (encS l++r) l.length).map toI=l:=by
  suffices hh : ∀ i,i≤l.length → (wds (encS l++r) i).map toI=l.take i by
    have:=hh l.length (Nat.le_refl _)
    rwa [List.take_length] at this
  intro i
  induction i with
  | zero=>intro _;rfl
  | succ i ih =>
    intro hi
    have hsp:encS l=encS (l.take i)++(le (BitVec.ofInt 64 (nth l i)) 8++encS (l.drop (i+1))):=by
      have h1:l=l.take i++([nth l i]++l.drop (i+1)):=by
        rw [←List.append_assoc,←take_succ_nth (by omega),List.take_append_drop]
      conv=>lhs;rw [h1]
      simp [encS]
    have hl1:(encS (l.take i)).length=8*i:=by rw [encS_len,List.length_take];omega
    have hx:((encS l++r).take (8*i+8)).drop (8*i)=le (BitVec.ofInt 64 (nth l i)) 8:=by
      rw [hsp,List.append_assoc,←hl1,List.take_length_add_append,List.drop_left,List.append_assoc,List.take_append_of_le_length (by rw [le_len];exact Nat.le_refl _),List.take_of_length_le (by rw [le_len];exact Nat.le_refl _)]
    rw [wds_succ,List.map_append,ih (by omega),hx,rd_le64,take_succ_nth (by omega)]
    have:=toI_ofInt (h (nth l i) (by rw [show nth l i=l[i] by simp [nth,show i < l.length by omega]];exact List.getElem_mem _))
    simp [this]

theorem nth_wds {b:By} {n i:Nat} (h:i < n):nth (wds b n) i=rd ((b.take (8*i+8)).drop (8*i)):=by
  induction n with
  | zero=>omega
  | succ n ih =>
    rw [wds_succ]
    by_cases e:i < n
    · rw [nth_append_l (by rw [wds_len];exact e),ih e]
    · have:i=n:=by omega
      subst this
      rw [nth_append_r (by rw [wds_len];exact Nat.le_refl _),wds_len,Nat.sub_self,nth_cons_zero]
theorem prs_enc {l:List Ext} (r:By):prs (wds (encV l++r) (2*l.length)) l.length=l:=by
  suffices hh : ∀ i,i≤l.length → prs (wds (encV l++r) (2*l.length)) i=l.take i by
    have:=hh l.length (Nat.le_refl _)
    rwa [List.take_length] at this
  intro i
  induction i with
  | zero=>intro _;rfl
  | succ i ih =>
    intro hi
    have hsp:encV l=encV (l.take i)++(le (nth l i).a 8++(le (nth l i).b 8++encV (l.drop (i+1)))):=by
      have h1:l=l.take i++([nth l i]++l.drop (i+1)):=by
        rw [←List.append_assoc,←take_succ_nth (by omega),List.take_append_drop]
      conv=>lhs;rw [h1]
      simp [encV]
    have hl1:(encV (l.take i)).length=16*i:=by rw [encV_len,List.length_take];omega
    have hx0:((encV l++r).take (8*(2*i)+8)).drop (8*(2*i))=le (nth l i).a 8:=by
      rw [hsp,List.append_assoc,show 8*(2*i)=(encV (l.take i)).length by rw [hl1];omega,List.take_length_add_append,List.drop_left,List.append_assoc,List.take_append_of_le_length (by rw [le_len];exact Nat.le_refl _),List.take_of_length_le (by rw [le_len];exact Nat.le_refl _)]
    have hx1:((encV l++r).take (8*(2*i+1)+8)).drop (8*(2*i+1))=le (nth l i).b 8:=by
      have h2:encV l++r=(encV (l.take i)++le (nth l i).a 8)++(le (nth l i).b 8++(encV (l.drop (i+1))++r)):=by rw [hsp];simp
      have h3:(encV (l.take i)++le (nth l i).a 8).length=8*(2*i+1):=by rw [List.length_append,hl1,le_len];omega
      rw [h2,←h3,List.take_length_add_append,List.drop_left,List.take_append_of_le_length (by rw [le_len];exact Nat.le_refl _),List.take_of_length_le (by rw [le_len];exact Nat.le_refl _)]
    rw [prs_succ,ih (by omega),nth_wds (by omega),nth_wds (by omega),hx0,hx1,rd_le64,rd_le64,take_succ_nth (by omega)]
theorem small_nat {n:Int} (h:small n=true):0≤n∧n < 2147483648:=by
  unfold small at h
  simp only [Bool.and_eq_true,decide_eq_true_eq] at h
  omega
theorem toNat_ofInt {n:Int} {w:Nat} (h0:0≤n) (h:n < (2 ^ w:Nat)):((BitVec.ofInt w n).toNat:Int)=n:=by
  rw [BitVec.toNat_ofInt]
  have:(n % ((2 ^ w:Nat):Int))=n:=Int.emod_eq_of_lt h0 h
  rw [this];omega
theorem rd_num {n:Int} (h0:0≤n) (h:n < 4294967296):((rd (le (BitVec.ofInt 64 n) 4)).toNat:Int)=n:=by
  have h2:=toNat_ofInt (w:=64) h0 (by omega)
  rw [rd_le _ 4 (by omega)]
  omega
theorem fits_kind {k s:Int} (h:fits k s=true):1≤k∧k≤7:=by
  obtain ⟨r,hr⟩:=fits_rule h
  unfold ruleT at hr
  (repeat' split at hr)<;>first | omega | cases hr
theorem valid_small {m:Msg} (h:valid m=true):(0≤m.session∧m.session < 2147483648)∧(0≤m.step∧m.step < 2147483648)∧fits m.kind m.step=true:=by
  unfold valid at h
  simp only [Bool.and_eq_true] at h
  obtain ⟨⟨⟨⟨h1,h2⟩,h3⟩,_⟩,_⟩:=h
  exact ⟨small_nat h1,small_nat h2,h3⟩
theorem decM_enc {m:Msg} (h:valid m=true) (hi : ∀ x∈m.sums,okI x) (y:By):decM (enc0 m++y)=(m,decide (8≤y.length)):=by
  obtain ⟨b1,b2,b3⟩:=valid_b h
  obtain ⟨s1,s2,s3⟩:=valid_small h
  have s4:=fits_kind s3
  have hrl:=m.root.len
  have e1:enc0 m++y=([BitVec.ofInt 8 m.kind]++le (BitVec.ofInt 64 m.session) 4++le (BitVec.ofInt 64 m.step) 4++m.root.val)++(le (BitVec.ofInt 64 m.text.length) 2++(m.text++([BitVec.ofInt 8 m.sums.length]++(encS m.sums++([BitVec.ofInt 8 m.values.length]++(encV m.values++y)))))):=by
    unfold enc0;simp
  have hhl:([BitVec.ofInt 8 m.kind]++le (BitVec.ofInt 64 m.session) 4++le (BitVec.ofInt 64 m.step) 4++m.root.val).length=41:=by simp [le_len,hrl]
  have q0:nth ([BitVec.ofInt 8 m.kind]++le (BitVec.ofInt 64 m.session) 4++le (BitVec.ofInt 64 m.step) 4++m.root.val) 0=BitVec.ofInt 8 m.kind:=rfl
  have q1:(([BitVec.ofInt 8 m.kind]++le (BitVec.ofInt 64 m.session) 4++le (BitVec.ofInt 64 m.step) 4++m.root.val).take 5).drop 1=le (BitVec.ofInt 64 m.session) 4:=rfl
  have q2:(([BitVec.ofInt 8 m.kind]++le (BitVec.ofInt 64 m.session) 4++le (BitVec.ofInt 64 m.step) 4++m.root.val).take 9).drop 5=le (BitVec.ofInt 64 m.step) 4:=rfl
  have q3:([BitVec.ofInt 8 m.kind]++le (BitVec.ofInt 64 m.session) 4++le (BitVec.ofInt 64 m.step) 4++m.root.val).drop 9=m.root.val:=by
    rw [List.drop_append_of_le_length (by simp [le_len]),List.drop_of_length_le (by simp [le_len])];rfl
  have hk:=toNat_ofInt (n:=m.kind) (w:=8) (by omega) (by omega)
  have ht2:(rd (le (BitVec.ofInt 64 m.text.length) 2)).toNat=m.text.length:=by
    have h2:=toNat_ofInt (n:=m.text.length) (w:=64) (by omega) (by omega)
    rw [rd_le _ 2 (by omega)];omega
  have hs2:=toNat_ofInt (n:=m.sums.length) (w:=8) (by omega) (by omega)
  have hv2:=toNat_ofInt (n:=m.values.length) (w:=8) (by omega) (by omega)
  have hs3:(nth [BitVec.ofInt 8 (m.sums.length:Int)] 0).toNat=m.sums.length:=by
    show (BitVec.ofInt 8 (m.sums.length:Int)).toNat=_;omega
  have hv3:(nth [BitVec.ofInt 8 (m.values.length:Int)] 0).toNat=m.values.length:=by
    show (BitVec.ofInt 8 (m.values.length:Int)).toNat=_;omega
  unfold decM
  rw [e1,tk_app hhl]
  simp only [d1,q0,q1,q2,q3]
  unfold d2
  rw [tk_app le_len]
  simp only [ht2]
  unfold d3
  rw [tk_app rfl]
  unfold d4
  rw [tk_app (n:=1) rfl]
  simp only [hs3]
  unfold d5
  rw [tk_app encS_len]
  simp only
  rw [tk_app (n:=1) rfl]
  simp only [hv3]
  unfold d6
  rw [tk_app encV_len]
  simp only
  unfold d7
  have w1:=wds_enc hi []
  have w2:=prs_enc (l:=m.values) []
  rw [List.append_nil] at w1 w2
  rw [w1,w2,mkD_eq hrl]
  refine Prod.ext ?_ ?_
  · have r1:=rd_num s1.1 (by omega)
    have r2:=rd_num s2.1 (by omega)
    simp only [hk,r1,r2]
    rfl
  · show (tk (y,true) 8).2.2=_
    by_cases e:y.length < 8
    · rw [tk_short e,decide_eq_false (by omega)]
    · rw [tk,if_neg e,if_pos rfl,decide_eq_true (by omega)]
theorem dec_enc {m:Msg} (h:valid m=true) (hi : ∀ x∈m.sums,okI x):dec (enc m)=(m,0):=by
  have he:enc m=enc0 m++(sha (enc0 m)).take 8:=by rw [enc,h];rfl
  have hl:((sha (enc0 m)).take 8).length=8:=by rw [List.length_take,sha_len];rfl
  unfold dec
  rw [he,decM_enc h hi,←he]
  unfold decF
  rw [if_neg (by simp [hl]),if_pos rfl]
theorem dec_cut {m:Msg} (h:valid m=true) (hi : ∀ x∈m.sums,okI x):dec ((enc m).take ((enc m).length - 1))=(zM,6):=by
  have he:enc m=enc0 m++(sha (enc0 m)).take 8:=by rw [enc,h];rfl
  have hl:((sha (enc0 m)).take 8).length=8:=by rw [List.length_take,sha_len];rfl
  have hcut:(enc m).take ((enc m).length - 1)=enc0 m++(sha (enc0 m)).take 7:=by
    rw [he,List.length_append,hl,show (enc0 m).length+8 - 1=(enc0 m).length+7 by omega,List.take_length_add_append,List.take_take];rfl
  unfold dec
  rw [hcut,decM_enc h hi]
  unfold decF
  rw [if_pos (by simp [List.length_take,sha_len])]
theorem enc_size {m:Msg} (h:valid m=true):(enc m).length=53+m.text.length+8*m.sums.length+16*m.values.length:=by
  have:=m.root.len
  rw [enc,h,if_pos rfl]
  simp only [enc0,List.length_append,le_len,encS_len,encV_len,List.length_take,sha_len,List.length_cons,List.length_nil]
  omega
end Go.Proofs.YtmoecjgehdkhkaaDoor

/-
  Sessions: what the fixed examples come to (plain).
-/
namespace Go.Proofs.YtmoecjgehdkhkaaDoor
open Go Go.AL

def kAsk:Msg:=⟨1,0,0,[99,111,117,110,116],zD,[],[]⟩
def kCoin:Msg:=⟨4,0,0,[],zD,[],[⟨1,0⟩]⟩
def oneD:Dg:=⟨1#8 :: List.replicate 31 0#8,rfl⟩
def kRoot:Msg:=⟨2,0,0,[],oneD,[],[]⟩
def sA:Ses:=newS 7 100
def M0:Msg:=⟨1,7,0,[99,111,117,110,116],zD,[],[]⟩
def p0:By:=enc M0
def a1:Ses := { addS sA M0 p0 with last:=M0 }
def b1:Ses:=addS sA M0 p0
def M1:Msg:=⟨2,7,1,[],oneD,[],[]⟩
def p1:By:=enc M1
def b2:Ses := { addS b1 M1 p1 with last:=M1 }
def a2:Ses:=addS a1 M1 p1
def M2:Msg:=⟨4,7,2,[],a2.seen,[],[⟨1,0⟩]⟩
def p2:By:=enc M2
def a3:Ses := { addS a2 M2 p2 with last:=M2 }
theorem v0:valid M0=true:=by decide +kernel
theorem v1:valid M1=true:=by decide +kernel
theorem v2:valid M2=true:=by rfl
theorem F1:send sA kCoin=(sA,[],290):=by
  unfold send;rw [show sBad sA kCoin=true by decide +kernel];rfl
theorem F2:send sA kAsk=(a1,p0,0):=by
  unfold send;rw [show sBad sA kAsk=false by decide +kernel,show sMsg sA kAsk=M0 from rfl,v0];rfl
theorem F3:send a1 kAsk=(a1,[],290):=by
  unfold send;rw [show sBad a1 kAsk=true by rfl];rfl
theorem F9:send b1 kRoot=(b2,p1,0):=by
  unfold send;rw [show sBad b1 kRoot=false by rfl,show sMsg b1 kRoot=M1 from rfl,v1];rfl
theorem F11:send a2 kCoin=(a3,p2,0):=by
  unfold send;rw [show sBad a2 kCoin=false by rfl,show sMsg a2 kCoin=M2 from rfl,v2];rfl
theorem F12:send a3 kCoin=(a3,[],290):=by
  unfold send;rw [show sBad a3 kCoin=true by rfl];rfl
theorem D0:dec p0=(M0,0):=dec_enc v0 (by simp [M0])
theorem D1:dec p1=(M1,0):=dec_enc v1 (by simp [M1])
theorem F4:recv sA p0 101=({ sA with state:=5 },zM,291):=by
  unfold recv;rw [if_neg (by decide),if_pos (by decide)]
theorem F5:recv sA (p0.take (p0.length - 1)) 1=(sA,zM,6):=by
  unfold recv rCode;rw [if_neg (by decide),if_neg (by decide),show dec (p0.take (p0.length - 1))=(zM,6) from dec_cut v0 (by simp [M0])];rfl
theorem F6:recv (newS 8 100) p0 1=(newS 8 100,zM,1):=by
  unfold recv rCode;rw [if_neg (by decide),if_neg (by decide),D0];rfl
theorem F7:recv sA p0 100=(b1,M0,0):=by
  unfold recv rCode;rw [if_neg (by decide),if_neg (by decide),D0,show rC sA (M0,(0:Int)).1 (M0,(0:Int)).2=0 by decide +kernel];rfl
theorem F8:recv b1 p0 1=(b1,zM,120):=by
  unfold recv rCode;rw [if_neg (show ¬(3≤b1.state) by show ¬((3:Int)≤1);omega),if_neg (show ¬(b1.due < 1) by show ¬((100:Int) < 1);omega),D0,show rC b1 (M0,(0:Int)).1 (M0,(0:Int)).2=120 by rfl];rfl
theorem F10:recv a1 p1 1=(a2,M1,0):=by
  unfold recv rCode;rw [if_neg (show ¬(3≤a1.state) by show ¬((3:Int)≤1);omega),if_neg (show ¬(a1.due < 1) by show ¬((100:Int) < 1);omega),D1,show rC a1 (M1,(0:Int)).1 (M1,(0:Int)).2=0 by rfl];rfl
theorem F13:recv { sA with state:=5 } p0 1=({ sA with state:=5 },zM,290):=by
  unfold recv;rw [if_pos (by decide)]
theorem F14:dec []=(zM,6):=by decide +kernel
theorem F15:enc zM=[]:=by unfold enc;rw [show valid zM=false by decide +kernel];rfl
theorem n0:p0.length=58:=by unfold p0;rw [enc_size v0];rfl
theorem n1:p1.length≤3000:=(enc_len v1).2
theorem n2:p2.length=69:=by unfold p2;rw [enc_size v2];rfl
theorem mo {m:Msg} (h1 : -9223372036854775808≤m.kind∧m.kind≤9223372036854775807) (h2 : -9223372036854775808≤m.session∧m.session≤9223372036854775807) (h3 : -9223372036854775808≤m.step∧m.step≤9223372036854775807) (h4:m.text.length≤140737488355000) (h5:m.sums.length≤140737488355000) (h6:m.values.length≤140737488355000):m.Ok:=⟨h1,h2,h3,h4,h5,h6⟩
theorem okAsk:kAsk.Ok:=by apply mo<;>decide
theorem okCoin:kCoin.Ok:=by apply mo<;>decide
theorem okRoot:kRoot.Ok:=by apply mo<;>decide
theorem okNew {id due:Int} (h:okI id):(newS id due).Ok:=by
  refine ⟨h,?_,?_,?_,?_,?_⟩<;>simp [newS,zM]
theorem okA:sA.Ok:=okNew ⟨by decide,by decide⟩
theorem okLate:({ sA with state:=5 }:Ses).Ok:=⟨⟨by decide,by decide⟩,⟨by decide,by decide⟩,by decide,⟨by decide,by decide⟩,⟨by decide,by decide⟩,⟨by decide,by decide⟩⟩
theorem ok_add {s:Ses} (h:s.Ok) {m:Msg} {b:By} (h1:s.step≤1000) (h2:s.bytes≤100000) (h3:s.rounds≤1000) (h4:s.words≤100000) (hb:b.length≤3000) (hs:m.sums.length≤3000) (hv:m.values.length≤3000):(addS s m b).Ok:=by
  obtain ⟨q1,q2,q3,q4,q5,q6⟩:=h
  refine ⟨q1,?_,q3,?_,?_,?_⟩<;>simp only [addS]<;>omega
theorem okB1:b1.Ok:=ok_add okA (by decide) (by decide) (by decide) (by decide) (by rw [n0];omega) (by decide) (by decide)
theorem okA1:a1.Ok:=by
  obtain ⟨q1,q2,q3,q4,q5,q6⟩:=okB1
  exact ⟨q1,q2,by decide,q4,q5,q6⟩
theorem eA1:a1.step=1∧a1.bytes=58∧a1.rounds=1∧a1.words=0:=⟨rfl,by show (0:Int)+(p0.length:Int)=58;rw [n0];rfl,rfl,rfl⟩
theorem okA2:a2.Ok:=ok_add okA1 (by rw [eA1.1];omega) (by rw [eA1.2.1];omega) (by rw [eA1.2.2.1];omega) (by rw [eA1.2.2.2];omega) n1 (by decide) (by decide)
theorem eA2:a2.step=2∧a2.bytes≤4000∧a2.rounds=2∧a2.words=0:=⟨rfl,by show a1.bytes+(p1.length:Int)≤4000;have:=n1;rw [eA1.2.1];omega,rfl,rfl⟩
theorem okA3:a3.Ok:=by
  obtain ⟨q1,q2,q3,q4,q5,q6⟩:=ok_add (m:=M2) okA2 (by rw [eA2.1];omega) (by have:=eA2.2.1;omega) (by rw [eA2.2.2.1];omega) (by rw [eA2.2.2.2];omega) (by rw [n2];omega) (by decide) (by decide)
  exact ⟨q1,q2,by decide,q4,q5,q6⟩
theorem okM2:M2.Ok:=by apply mo<;>decide
end Go.Proofs.YtmoecjgehdkhkaaDoor

/-
  Sessions: the fixed examples of the laws.
-/
namespace Go.Proofs.YtmoecjgehdkhkaaDoor
open Go Go.AL

def mP (k s t:Int) (tx r:By) (S V:PV):PV := .agg (i64 k :: i64 s :: i64 t :: str (bytesOf tx) :: (pl b8 r++[S,V]))
def mC (k s t:Int) (tx r:By) (S V:PV):List AV:=(i64 k :: i64 s :: i64 t :: str (bytesOf tx) :: (pl b8 r++[S,V])).map .p
section mp
variable {k s t:Int} {tx r:By} {S V:PV}
theorem mP_mk:mkAgg (.p (i64 k) :: .p (i64 s) :: .p (i64 t) :: .p (str (bytesOf tx)) :: List.map AV.p (pl b8 r++[S,V])) = .p (mP k s t tx r S V):=by
  have h:pvs? (.p (i64 k) :: .p (i64 s) :: .p (i64 t) :: .p (str (bytesOf tx)) :: List.map AV.p (pl b8 r++[S,V]))=some (i64 k :: i64 s :: i64 t :: str (bytesOf tx) :: (pl b8 r++[S,V])):=pvs_p (i64 k :: i64 s :: i64 t :: str (bytesOf tx) :: (pl b8 r++[S,V]))
  unfold mkAgg
  rw [h];rfl
theorem mP_cells:acells (.p (mP k s t tx r S V))=some (mC k s t tx r S V):=rfl
theorem mC_len (h:r.length=32):(mC k s t tx r S V).length=38:=by simp [mC,pl_len,h]
theorem mC_agg:mkAgg (mC k s t tx r S V) = .p (mP k s t tx r S V):=by unfold mkAgg mC;rw [pvs_p];rfl
theorem mC_take (h:r.length=32):(mC k s t tx r S V).take 38=mC k s t tx r S V:=List.take_of_length_le (by rw [mC_len h];exact Nat.le_refl _)
theorem mP_weak {f f':Bool} {su:List Int} {va:List Ext} (h:r.length=32):(mP k s t tx r (.sl f 1 (pl i64 su)) (.sl f' 2 (pl ext va))).weak=msg ⟨k,s,t,tx,⟨r,h⟩,su,va⟩:=by
  show PV.agg (List.map PV.weak1 (_ :: _ :: _ :: _ :: (pl b8 r++[_,_])))=_
  simp only [List.map_cons,List.map_append,List.map_nil]
  rw [pl_weak1 fun _=>rfl]
  rfl
theorem mC_set33 {x:PV}:(List.map AV.p (pl b8 (List.replicate 32 0#8)++[S,V])).set 33 (AV.p x)=List.map AV.p (pl b8 (List.replicate 32 0#8)++[S,x]):=rfl
end mp
theorem cnt_eq:({ data := #[99,111,117,110,116] }:ByteArray)=bytesOf [99,111,117,110,116]:=rfl
attribute [go_sem] mP_mk mP_cells mC_len mC_agg mC_take mC_set33
def allT (L:Nat → Bool) (l:List Nat):Prop := ∀ d∈l,L d=true
theorem allT_nil {L:Nat → Bool}:allT L []:=fun d h=>by cases h
theorem allT_cons {L:Nat → Bool} {d:Nat} {l:List Nat} (h:L d=true) (t:allT L l):allT L (d :: l):=fun x hx=>by
  rcases List.mem_cons.1 hx with rfl | hx
  · exact h
  · exact t x hx
section inv
variable {L:Nat → Bool} {i j s:Nat} {env:Env} {d:Option Nat} {x v:AV} {l:List Nat}
theorem nfT (m:L j=true → allT L l) (hL:L i=false) (h:i∈l:=by decide):L j=false:=Bool.eq_false_iff.2 fun e=>by
  have:=m e i h
  rw [hL] at this;cases this
theorem kf (e:env s=v) (h:d≠some s:=by decide):env.put d x s=v:=(put_ne fun i hi q=>h (hi.trans (congrArg some q))).trans e
theorem kp (g:L j=true → env s=v) (h:j≠i:=by decide) (hd:d≠some s:=by decide):more L i j=true → env.put d x s=v:=fun q=>kf (g (by rwa [more_ne h] at q)) hd
theorem kp0 (g:L j=true → env s=v) (h:j≠i:=by decide):more L i j=true → env s=v:=fun q=>g (by rwa [more_ne h] at q)
theorem kn {p:Prop}:p → env.put (some s) x s=x:=fun _=>put_some.trans (if_pos rfl)
theorem kj {p:Prop} (e:L j=false) (h:j≠i:=by decide):more L i j=true → p:=fun q=>by rw [more_ne h,e] at q;cases q
theorem kt (t:allT L l):allT (more L i) l:=fun d h=>more_t (t d h)
theorem kt1:allT (more L i) [i]:=fun d h=>by
  rcases List.mem_cons.1 h with rfl | h
  · exact more_eq
  · cases h
theorem ka (m:L j=true → allT L l) (h:j≠i:=by decide):more L i j=true → allT (more L i) l:=fun q=>kt (m (by rwa [more_ne h] at q))
end inv
theorem ite_f {c:Prop} [Decidable c] {X Y:Hp} {b:Nat}:(if c then X else Y).f b=if c then X.f b else Y.f b:=by split<;>rfl
theorem gen_heap {C:Cx} {k:List Item} {env:Env} {H:Hp} {R:AV → Hp → Prop} (h : ∀ B,B=H → ARun C k env B R):ARun C k env H R:=h H rfl
theorem wk_nil {σ:Gh} {H:Hp} {w:World} {v:Value} {fl:Bool} {sz:Nat} (h:RelV σ H w (.p (.s (.slice none 0 0))) v):RelV σ H w (.p (.sl fl sz [])) v:=by
  cases h with
  | p h=>cases h;exact .p (.nil _ _)
theorem nil_arg {P:Program} {G:Globs} {f:FuncId} {xs ys:List AV} {fl:Bool} {sz:Nat} {H:Hp} {R:AV → Hp → Prop} (h:ACall P G f (xs ++ .p (.sl fl sz []) :: ys) H R):ACall P G f (xs ++ .p (.s (.slice none 0 0)) :: ys) H R :=
  fun σ w vs hr hvs=>h σ w vs hr ⟨by rw [hvs.1];simp,fun i x v h1 h2=>by
    by_cases hi:i=xs.length
    · subst hi
      have e:(xs++AV.p (.sl fl sz []) :: ys)[xs.length]? = some (.p (.sl fl sz [])):=by simp
      rw [e] at h1;cases h1
      exact wk_nil (hvs.2 xs.length _ v (by simp) h2)
    · refine hvs.2 i x v ?_ h2
      rw [←h1]
      by_cases hlt:i < xs.length
      · rw [List.getElem?_append_left hlt,List.getElem?_append_left hlt]
      · rw [List.getElem?_append_right (by omega),List.getElem?_append_right (by omega)]
        obtain ⟨k,hk⟩ : ∃ k,i - xs.length=k+1:=⟨i - xs.length - 1,by omega⟩
        rw [hk,List.getElem?_cons_succ,List.getElem?_cons_succ]⟩
section walks
variable {G:Globs} {r1 r2:Nat} {m1:List (Int × Rule)} {m2:List (Int × Int)}
theorem okzM:zM.Ok:=by apply mo<;>decide
theorem One_spec (H:Hp) (R:AV → Hp → Prop) (h:R (.p (ext ⟨1,0⟩)) H):ACall Tryd.prog G 27 [] H R:=by
  refine ACall.of_run (raw:=[]) Tryd.func27 rfl Tryd.ntmps27 (by simp) fun hbel => ?_
  (repeat refine .z rfl ?_);refine .text ?_;simp (disch:=first|exact dsc|fail) only [go_sem,seval,-List.reduceReplicate]
  (repeat refine .z rfl ?_);refine .text ?_;simp (disch:=first|exact dsc|fail) only [go_sem,seval,-List.reduceReplicate]
  (repeat refine .z rfl ?_);refine .rt Tryd.func27 (by rw [Tryd.results27]) (hR := ?_);simp (disch:=first|exact dsc|fail) only [go_sem,seval,-List.reduceReplicate]
  exact h
set_option maxHeartbeats 4000000 in
set_option maxRecDepth 20000 in
theorem sanity_spec (g:GR G r1 r2 m1 m2) (H:Hp) (R:AV → Hp → Prop) (h:R (.p (bo true)) H):ACall Tryd.prog G 7 [] H R:=by
  have hz:(List.replicate 32 0#8:By).length=32:=List.length_replicate
  refine ACall.of_run (raw:=[]) Tryd.func7 rfl Tryd.ntmps7 (by simp) fun hbel => ?_
  (repeat refine .z rfl ?_);refine .text ?_;simp (disch:=first|exact dsc|fail) only [go_sem,seval,-List.reduceReplicate]
  (repeat refine .z rfl ?_);refine .text ?_;simp (disch:=first|exact dsc|fail) only [go_sem,seval,-List.reduceReplicate,cnt_eq,mz_zero,bytesOf_nil,hz]
  (repeat refine .z rfl ?_);refine .text ?_;simp (disch:=first|exact dsc|fail) only [go_sem,seval,-List.reduceReplicate]
  refine CallK.of (fun R h=>One_spec _ R h) ?_;simp (disch:=first|exact dsc|fail) only [go_sem,seval,-List.reduceReplicate,mz_zero,bytesOf_nil,hz]
  have hAsk:(mP 1 0 0 [99,111,117,110,116] (List.replicate 32 0#8) (.sl true 1 []) (.sl true 2 [])).weak=msg kAsk:=mP_weak (su:=[]) (va:=[]) hz
  have hCoin:(mP 4 0 0 [] (List.replicate 32 0#8) (.sl true 1 []) (.sl true 2 [ext ⟨1#64,0#64⟩])).weak=msg kCoin:=mP_weak (su:=[]) (va:=[⟨1,0⟩]) hz
  have hNew:newS 7 100=sA:=rfl
  have c5:(PV.sl true 1 []).weak=PV.sl false 1 []:=rfl
  (repeat refine .z rfl ?_);refine .text ?_;simp (disch:=first|exact dsc|fail) only [go_sem,seval,-List.reduceReplicate]
  refine CallK.of (fun R h=>New_spec 7 100 _ R h) ?_;simp (disch:=first|exact dsc|fail) only [go_sem,seval,-List.reduceReplicate,hNew]
  refine CallK.of (fun R h=>New_spec 7 100 _ R h) ?_;simp (disch:=first|exact dsc|fail) only [go_sem,seval,-List.reduceReplicate,hNew,nC_zero]
  (repeat refine .z rfl ?_);refine .text ?_;simp (disch:=first|exact dsc|fail) only [go_sem,seval,-List.reduceReplicate,nC_zero,hCoin]
  refine CallK.of (fun R h=>Send_spec g sA okA kCoin okCoin _ R h) ?_;simp (disch:=first|exact dsc|fail) only [go_sem,seval,-List.reduceReplicate,F1,nC_zero]
  (repeat refine .z rfl ?_);refine .text ?_;simp (disch:=first|exact dsc|fail) only [go_sem,seval,-List.reduceReplicate,nC_zero,hAsk]
  refine CallK.of (fun R h=>Send_spec g sA okA kAsk okAsk _ R h) ?_;simp (disch:=first|exact dsc|fail) only [go_sem,seval,-List.reduceReplicate,F2,nC_zero]
  (repeat refine .z rfl ?_);refine .text ?_;simp (disch:=first|exact dsc|fail) only [go_sem,seval,-List.reduceReplicate,nC_zero,hAsk]
  refine CallK.of (fun R h=>Send_spec g a1 okA1 kAsk okAsk _ R h) ?_;simp (disch:=first|exact dsc|fail) only [go_sem,seval,-List.reduceReplicate,F3,nC_zero]
  (repeat refine .z rfl ?_);refine .text ?_;simp (disch:=first|exact dsc|fail) only [go_sem,seval,-List.reduceReplicate,nC_zero,hAsk]
  refine CallK.of (fun R h=>Receive_spec g sA okA p0 (by rw [n0];omega) 101 _ R h) ?_;simp (disch:=first|exact dsc|fail) only [go_sem,seval,-List.reduceReplicate,F4,nC_zero,mz_zero,hz]
  have F5':=F5
  rw [n0] at F5'
  (repeat refine .z rfl ?_);first | refine .cutF0 [2,3,4,7,8,9,12,13,15] [(18,.p (i64 6))] (fun ihE => ?_) (fun env T E => ?_) | refine .cutF [2,3,4,7,8,9,12,13,15] [(18,.p (i64 6))] [] (fun ihE => ?_) (fun env T E => ?_)
  rotate_left 1
  simp (disch:=first|exact dsc|fail) only [go_sem,seval,-List.reduceReplicate,n0,nC_zero,mz_zero,hz] at E
  rotate_left 1
  · refine gen_heap fun B hB => ?_
    have hBn:B.n=H.n+8:=by rw [hB];simp (disch:=first|exact dsc|fail) only [go_sem,seval,-List.reduceReplicate]
    have hB4:B.f (H.n+3)=some (.cells (scl sA)):=by rw [hB];simp (disch:=first|exact dsc|fail) only [go_sem,seval,-List.reduceReplicate]
    have hcall : ∀ (B':Hp) (R:AV → Hp → Prop),R (.tup [.p (ses sA),.p (msg zM),.p (i64 6)]) B' → ACall Tryd.prog G 23 [.p (ses sA),.p (.sl false 1 (pl b8 (p0.take 57))),.p (i64 1)] B' R:=fun B' R h=>Receive_spec g sA okA (p0.take 57) (by rw [List.length_take,n0];omega) 1 B' R (by rw [show recv sA (p0.take 57) 1=(sA,zM,6) from F5'];exact h)
    (repeat refine .z rfl ?_)
    refine .openInv (fun L env' H'=>(env' 2 = .ptr (H.n+1) 0∧env' 3 = .ptr (H.n+2) 0∧env' 4 = .ptr (H.n+3) 0∧env' 7 = .p (i64 290)∧env' 8 = .p (.sl false 1 (pl b8 p0))∧env' 9 = .p (i64 0)∧env' 12 = .p (i64 290)∧env' 13 = .ptr (H.n+6) 0∧env' 15 = .p (i64 291)∧(L 0=true → env' 76 = .p (ses sA))∧(L 1=true → env' 77 = .p (.sl false 1 (pl b8 p0)))∧(L 2=true → env' 78 = .p (.sl false 1 (pl b8 p0)))∧(L 3=true → env' 79 = .p (i64 58))∧(L 4=true → env' 80 = .p (.sl false 1 (pl b8 p0)))∧(L 5=true → env' 81 = .p (i64 58))∧(L 6=true → env' 82 = .p (i64 1))∧(L 7=true → env' 83 = .p (i64 57))∧(L 8=true → env' 84 = .p (.sl false 1 (pl b8 (p0.take 57))))∧(L 9=true → env' 85 = .tup [.p (ses sA),.p (msg zM),.p (i64 6)])∧(L 10=true → env' 75 = .tup [.p (ses sA),.p (msg zM),.p (i64 6)])∧(L 11=true → env' 86 = .p (ses sA))∧(L 12=true → env' 87 = .p (msg zM))∧(L 13=true → env' 88 = .p (i64 6))∧(L 14=true → env' 16 = .ptr (H.n+8) 0)∧(L 15=true → env' 17 = .ptr (H.n+9) 0)∧(L 18=true → env' 18 = .p (i64 6))∧(L 3=true → allT L [2])∧(L 5=true → allT L [4])∧(L 6=true → allT L [5])∧(L 7=true → allT L [3,6])∧(L 8=true → allT L [1,7])∧(L 9=true → allT L [0,8])∧(L 10=true → allT L [9])∧(L 11=true → allT L [10])∧(L 12=true → allT L [10])∧(L 13=true → allT L [10])∧(L 15=true → allT L [14])∧(L 16=true → allT L [0,1,2,3,4,5,6,7,8,9,10,11,14,15])∧(L 17=true → allT L [0,1,2,3,4,5,6,7,8,9,10,11,12,14,15,16])∧(L 18=true → allT L [0,1,2,3,4,5,6,7,8,9,10,11,12,13,14,15,16,17])∧H'=(if L 14 then (if L 15 then (B.new (.cells (if L 16 then scl sA else nC 0 0))).new (.cells (if L 17 then mcl zM else mG 0 0 0 [] (List.replicate 32 0#8) (.p (.sl true 1 [])) (.p (.sl true 2 [])))) else B.new (.cells (nC 0 0))) else B)) ∨ (env' 2 = .ptr (H.n+1) 0∧env' 3 = .ptr (H.n+2) 0∧env' 4 = .ptr (H.n+3) 0∧env' 7 = .p (i64 290)∧env' 8 = .p (.sl false 1 (pl b8 p0))∧env' 9 = .p (i64 0)∧env' 12 = .p (i64 290)∧env' 13 = .ptr (H.n+6) 0∧env' 15 = .p (i64 291)∧(L 0=true → env' 76 = .p (ses sA))∧(L 1=true → env' 77 = .p (.sl false 1 (pl b8 p0)))∧(L 2=true → env' 78 = .p (.sl false 1 (pl b8 p0)))∧(L 3=true → env' 79 = .p (i64 58))∧(L 4=true → env' 80 = .p (.sl false 1 (pl b8 p0)))∧(L 5=true → env' 81 = .p (i64 58))∧(L 6=true → env' 82 = .p (i64 1))∧(L 7=true → env' 83 = .p (i64 57))∧(L 8=true → env' 84 = .p (.sl false 1 (pl b8 (p0.take 57))))∧(L 9=true → env' 85 = .tup [.p (ses sA),.p (msg zM),.p (i64 6)])∧(L 10=true → env' 75 = .tup [.p (ses sA),.p (msg zM),.p (i64 6)])∧(L 11=true → env' 86 = .p (ses sA))∧(L 12=true → env' 87 = .p (msg zM))∧(L 13=true → env' 88 = .p (i64 6))∧(L 14=true → env' 16 = .ptr (H.n+9) 0)∧(L 15=true → env' 17 = .ptr (H.n+8) 0)∧(L 18=true → env' 18 = .p (i64 6))∧(L 3=true → allT L [2])∧(L 5=true → allT L [4])∧(L 6=true → allT L [5])∧(L 7=true → allT L [3,6])∧(L 8=true → allT L [1,7])∧(L 9=true → allT L [0,8])∧(L 10=true → allT L [9])∧(L 11=true → allT L [10])∧(L 12=true → allT L [10])∧(L 13=true → allT L [10])∧(L 14=true → allT L [15])∧(L 16=true → allT L [0,1,2,3,4,5,6,7,8,9,10,11,14,15])∧(L 17=true → allT L [0,1,2,3,4,5,6,7,8,9,10,11,12,14,15,16])∧(L 18=true → allT L [0,1,2,3,4,5,6,7,8,9,10,11,12,13,14,15,16,17])∧H'=(if L 15 then (if L 14 then (B.new (.cells (if L 17 then mcl zM else mG 0 0 0 [] (List.replicate 32 0#8) (.p (.sl true 1 [])) (.p (.sl true 2 []))))).new (.cells (if L 16 then scl sA else nC 0 0)) else B.new (.cells (mG 0 0 0 [] (List.replicate 32 0#8) (.p (.sl true 1 [])) (.p (.sl true 2 []))))) else B))) follows (by kernel_rfl) ?_ ?_ ?_
    · exact .inl ⟨(by simp (disch:=first|exact dsc|fail) only [go_sem,seval,-List.reduceReplicate,hBn,hB4,n0,nC_zero,mz_zero,hz,ite_f,ite_self]),(by simp (disch:=first|exact dsc|fail) only [go_sem,seval,-List.reduceReplicate,hBn,hB4,n0,nC_zero,mz_zero,hz,ite_f,ite_self]),(by simp (disch:=first|exact dsc|fail) only [go_sem,seval,-List.reduceReplicate,hBn,hB4,n0,nC_zero,mz_zero,hz,ite_f,ite_self]),(by simp (disch:=first|exact dsc|fail) only [go_sem,seval,-List.reduceReplicate,hBn,hB4,n0,nC_zero,mz_zero,hz,ite_f,ite_self]),(by simp (disch:=first|exact dsc|fail) only [go_sem,seval,-List.reduceReplicate,hBn,hB4,n0,nC_zero,mz_zero,hz,ite_f,ite_self]),(by simp (disch:=first|exact dsc|fail) only [go_sem,seval,-List.reduceReplicate,hBn,hB4,n0,nC_zero,mz_zero,hz,ite_f,ite_self]),(by simp (disch:=first|exact dsc|fail) only [go_sem,seval,-List.reduceReplicate,hBn,hB4,n0,nC_zero,mz_zero,hz,ite_f,ite_self]),(by simp (disch:=first|exact dsc|fail) only [go_sem,seval,-List.reduceReplicate,hBn,hB4,n0,nC_zero,mz_zero,hz,ite_f,ite_self]),(by simp (disch:=first|exact dsc|fail) only [go_sem,seval,-List.reduceReplicate,hBn,hB4,n0,nC_zero,mz_zero,hz,ite_f,ite_self]),(fun h=>by cases h),(fun h=>by cases h),(fun h=>by cases h),(fun h=>by cases h),(fun h=>by cases h),(fun h=>by cases h),(fun h=>by cases h),(fun h=>by cases h),(fun h=>by cases h),(fun h=>by cases h),(fun h=>by cases h),(fun h=>by cases h),(fun h=>by cases h),(fun h=>by cases h),(fun h=>by cases h),(fun h=>by cases h),(fun h=>by cases h),(fun h=>by cases h),(fun h=>by cases h),(fun h=>by cases h),(fun h=>by cases h),(fun h=>by cases h),(fun h=>by cases h),(fun h=>by cases h),(fun h=>by cases h),(fun h=>by cases h),(fun h=>by cases h),(fun h=>by cases h),(fun h=>by cases h),(fun h=>by cases h),(fun h=>by cases h),(by first | rfl | (simp only [Bool.false_eq_true,if_false];first | rfl | (simp (disch:=first|exact dsc|fail) only [go_sem,seval,-List.reduceReplicate,hBn,hB4,n0,nC_zero,mz_zero,hz,ite_f,ite_self]<;>rfl)))⟩
    · intro i o L env' H' ho hL hall hI
      rcases hI with hI | hI
      · obtain ⟨f0,f1,f2,f3,f4,f5,f6,f7,f8,g0,g1,g2,g3,g4,g5,g6,g7,g8,g9,g10,g11,g12,g13,g14,g15,g18,m3,m5,m6,m7,m8,m9,m10,m11,m12,m13,m15,m16,m17,m18,rfl⟩:=hI
        rcases i with _ | _ | _ | _ | _ | _ | _ | _ | _ | _ | _ | _ | _ | _ | _ | _ | _ | _ | _ | i
        · cases ho
          have n9:=nfT m9 hL
          have n16:=nfT m16 hL
          have n17:=nfT m17 hL
          have n18:=nfT m18 hL
          refine opA_val (.p (ses sA)) rfl rfl (by simp (disch:=first|exact dsc|fail) only [go_sem,seval,-List.reduceReplicate,reduceIte,Bool.false_eq_true,if_false,if_true,f0,f1,f2,f3,f4,f5,f6,f7,f8,n9,n16,n17,n18,hL,hBn,hB4,n0,nC_zero,mz_zero,hz,ite_f,ite_self]<;>rfl) rfl ?_
          exact .inl ⟨(kf f0),(kf f1),(kf f2),(kf f3),(kf f4),(kf f5),(kf f6),(kf f7),(kf f8),kn,(kp g1),(kp g2),(kp g3),(kp g4),(kp g5),(kp g6),(kp g7),(kp g8),(kp g9),(kp g10),(kp g11),(kp g12),(kp g13),(kp g14),(kp g15),(kp g18),(ka m3),(ka m5),(ka m6),(ka m7),(ka m8),(ka m9),(ka m10),(ka m11),(ka m12),(ka m13),(ka m15),(ka m16),(ka m17),(ka m18),(by (have e14:more L 0 14=L 14:=more_ne (by decide));(have e15:more L 0 15=L 15:=more_ne (by decide));(have e16:more L 0 16=L 16:=more_ne (by decide));(have e17:more L 0 17=L 17:=more_ne (by decide));(try simp only [e14,e15,e16,e17,n16,n17]);first | done | rfl | (simp only [e14,e15,e16,e17,n16,n17,if_true,if_false,Bool.false_eq_true];first | done | rfl | (simp (disch:=first|exact dsc|fail) only [go_sem,seval,-List.reduceReplicate,e14,e15,e16,e17,n16,n17,hBn,hB4,n0,nC_zero,mz_zero,hz,ite_f,ite_self]<;>rfl)))⟩
        · cases ho
          have n8:=nfT m8 hL
          have n16:=nfT m16 hL
          have n17:=nfT m17 hL
          have n18:=nfT m18 hL
          refine opA_val (.p (.sl false 1 (pl b8 p0))) rfl rfl (by simp (disch:=first|exact dsc|fail) only [go_sem,seval,-List.reduceReplicate,reduceIte,Bool.false_eq_true,if_false,if_true,f0,f1,f2,f3,f4,f5,f6,f7,f8,n8,n16,n17,n18,hL,hBn,hB4,n0,nC_zero,mz_zero,hz,ite_f,ite_self]<;>rfl) rfl ?_
          exact .inl ⟨(kf f0),(kf f1),(kf f2),(kf f3),(kf f4),(kf f5),(kf f6),(kf f7),(kf f8),(kp g0),kn,(kp g2),(kp g3),(kp g4),(kp g5),(kp g6),(kp g7),(kp g8),(kp g9),(kp g10),(kp g11),(kp g12),(kp g13),(kp g14),(kp g15),(kp g18),(ka m3),(ka m5),(ka m6),(ka m7),(ka m8),(ka m9),(ka m10),(ka m11),(ka m12),(ka m13),(ka m15),(ka m16),(ka m17),(ka m18),(by (have e14:more L 1 14=L 14:=more_ne (by decide));(have e15:more L 1 15=L 15:=more_ne (by decide));(have e16:more L 1 16=L 16:=more_ne (by decide));(have e17:more L 1 17=L 17:=more_ne (by decide));(try simp only [e14,e15,e16,e17,n16,n17]);first | done | rfl | (simp only [e14,e15,e16,e17,n16,n17,if_true,if_false,Bool.false_eq_true];first | done | rfl | (simp (disch:=first|exact dsc|fail) only [go_sem,seval,-List.reduceReplicate,e14,e15,e16,e17,n16,n17,hBn,hB4,n0,nC_zero,mz_zero,hz,ite_f,ite_self]<;>rfl)))⟩
        · cases ho
          have n3:=nfT m3 hL
          have n16:=nfT m16 hL
          have n17:=nfT m17 hL
          have n18:=nfT m18 hL
          refine opA_val (.p (.sl false 1 (pl b8 p0))) rfl rfl (by simp (disch:=first|exact dsc|fail) only [go_sem,seval,-List.reduceReplicate,reduceIte,Bool.false_eq_true,if_false,if_true,f0,f1,f2,f3,f4,f5,f6,f7,f8,n3,n16,n17,n18,hL,hBn,hB4,n0,nC_zero,mz_zero,hz,ite_f,ite_self]<;>rfl) rfl ?_
          exact .inl ⟨(kf f0),(kf f1),(kf f2),(kf f3),(kf f4),(kf f5),(kf f6),(kf f7),(kf f8),(kp g0),(kp g1),kn,(kp g3),(kp g4),(kp g5),(kp g6),(kp g7),(kp g8),(kp g9),(kp g10),(kp g11),(kp g12),(kp g13),(kp g14),(kp g15),(kp g18),(ka m3),(ka m5),(ka m6),(ka m7),(ka m8),(ka m9),(ka m10),(ka m11),(ka m12),(ka m13),(ka m15),(ka m16),(ka m17),(ka m18),(by (have e14:more L 2 14=L 14:=more_ne (by decide));(have e15:more L 2 15=L 15:=more_ne (by decide));(have e16:more L 2 16=L 16:=more_ne (by decide));(have e17:more L 2 17=L 17:=more_ne (by decide));(try simp only [e14,e15,e16,e17,n16,n17]);first | done | rfl | (simp only [e14,e15,e16,e17,n16,n17,if_true,if_false,Bool.false_eq_true];first | done | rfl | (simp (disch:=first|exact dsc|fail) only [go_sem,seval,-List.reduceReplicate,e14,e15,e16,e17,n16,n17,hBn,hB4,n0,nC_zero,mz_zero,hz,ite_f,ite_self]<;>rfl)))⟩
        · cases ho
          have h2:L 2=true:=hall ⟨2,.data⟩ (by simp) rfl
          have d2:=g2 h2
          have n7:=nfT m7 hL
          have n16:=nfT m16 hL
          have n17:=nfT m17 hL
          have n18:=nfT m18 hL
          refine opA_val (.p (i64 58)) rfl rfl (by simp (disch:=first|exact dsc|fail) only [go_sem,seval,-List.reduceReplicate,reduceIte,Bool.false_eq_true,if_false,if_true,f0,f1,f2,f3,f4,f5,f6,f7,f8,d2,h2,n7,n16,n17,n18,hL,hBn,hB4,n0,nC_zero,mz_zero,hz,ite_f,ite_self]<;>rfl) rfl ?_
          exact .inl ⟨(kf f0),(kf f1),(kf f2),(kf f3),(kf f4),(kf f5),(kf f6),(kf f7),(kf f8),(kp g0),(kp g1),(kp g2),kn,(kp g4),(kp g5),(kp g6),(kp g7),(kp g8),(kp g9),(kp g10),(kp g11),(kp g12),(kp g13),(kp g14),(kp g15),(kp g18),(fun _=>kt (allT_cons h2 allT_nil)),(ka m5),(ka m6),(ka m7),(ka m8),(ka m9),(ka m10),(ka m11),(ka m12),(ka m13),(ka m15),(ka m16),(ka m17),(ka m18),(by (have e14:more L 3 14=L 14:=more_ne (by decide));(have e15:more L 3 15=L 15:=more_ne (by decide));(have e16:more L 3 16=L 16:=more_ne (by decide));(have e17:more L 3 17=L 17:=more_ne (by decide));(try simp only [e14,e15,e16,e17,n16,n17]);first | done | rfl | (simp only [e14,e15,e16,e17,n16,n17,if_true,if_false,Bool.false_eq_true];first | done | rfl | (simp (disch:=first|exact dsc|fail) only [go_sem,seval,-List.reduceReplicate,e14,e15,e16,e17,n16,n17,hBn,hB4,n0,nC_zero,mz_zero,hz,ite_f,ite_self]<;>rfl)))⟩
        · cases ho
          have n5:=nfT m5 hL
          have n16:=nfT m16 hL
          have n17:=nfT m17 hL
          have n18:=nfT m18 hL
          refine opA_val (.p (.sl false 1 (pl b8 p0))) rfl rfl (by simp (disch:=first|exact dsc|fail) only [go_sem,seval,-List.reduceReplicate,reduceIte,Bool.false_eq_true,if_false,if_true,f0,f1,f2,f3,f4,f5,f6,f7,f8,n5,n16,n17,n18,hL,hBn,hB4,n0,nC_zero,mz_zero,hz,ite_f,ite_self]<;>rfl) rfl ?_
          exact .inl ⟨(kf f0),(kf f1),(kf f2),(kf f3),(kf f4),(kf f5),(kf f6),(kf f7),(kf f8),(kp g0),(kp g1),(kp g2),(kp g3),kn,(kp g5),(kp g6),(kp g7),(kp g8),(kp g9),(kp g10),(kp g11),(kp g12),(kp g13),(kp g14),(kp g15),(kp g18),(ka m3),(ka m5),(ka m6),(ka m7),(ka m8),(ka m9),(ka m10),(ka m11),(ka m12),(ka m13),(ka m15),(ka m16),(ka m17),(ka m18),(by (have e14:more L 4 14=L 14:=more_ne (by decide));(have e15:more L 4 15=L 15:=more_ne (by decide));(have e16:more L 4 16=L 16:=more_ne (by decide));(have e17:more L 4 17=L 17:=more_ne (by decide));(try simp only [e14,e15,e16,e17,n16,n17]);first | done | rfl | (simp only [e14,e15,e16,e17,n16,n17,if_true,if_false,Bool.false_eq_true];first | done | rfl | (simp (disch:=first|exact dsc|fail) only [go_sem,seval,-List.reduceReplicate,e14,e15,e16,e17,n16,n17,hBn,hB4,n0,nC_zero,mz_zero,hz,ite_f,ite_self]<;>rfl)))⟩
        · cases ho
          have h4:L 4=true:=hall ⟨4,.data⟩ (by simp) rfl
          have d4:=g4 h4
          have n6:=nfT m6 hL
          have n16:=nfT m16 hL
          have n17:=nfT m17 hL
          have n18:=nfT m18 hL
          refine opA_val (.p (i64 58)) rfl rfl (by simp (disch:=first|exact dsc|fail) only [go_sem,seval,-List.reduceReplicate,reduceIte,Bool.false_eq_true,if_false,if_true,f0,f1,f2,f3,f4,f5,f6,f7,f8,d4,h4,n6,n16,n17,n18,hL,hBn,hB4,n0,nC_zero,mz_zero,hz,ite_f,ite_self]<;>rfl) rfl ?_
          exact .inl ⟨(kf f0),(kf f1),(kf f2),(kf f3),(kf f4),(kf f5),(kf f6),(kf f7),(kf f8),(kp g0),(kp g1),(kp g2),(kp g3),(kp g4),kn,(kp g6),(kp g7),(kp g8),(kp g9),(kp g10),(kp g11),(kp g12),(kp g13),(kp g14),(kp g15),(kp g18),(ka m3),(fun _=>kt (allT_cons h4 allT_nil)),(ka m6),(ka m7),(ka m8),(ka m9),(ka m10),(ka m11),(ka m12),(ka m13),(ka m15),(ka m16),(ka m17),(ka m18),(by (have e14:more L 5 14=L 14:=more_ne (by decide));(have e15:more L 5 15=L 15:=more_ne (by decide));(have e16:more L 5 16=L 16:=more_ne (by decide));(have e17:more L 5 17=L 17:=more_ne (by decide));(try simp only [e14,e15,e16,e17,n16,n17]);first | done | rfl | (simp only [e14,e15,e16,e17,n16,n17,if_true,if_false,Bool.false_eq_true];first | done | rfl | (simp (disch:=first|exact dsc|fail) only [go_sem,seval,-List.reduceReplicate,e14,e15,e16,e17,n16,n17,hBn,hB4,n0,nC_zero,mz_zero,hz,ite_f,ite_self]<;>rfl)))⟩
        · cases ho
          have h5:L 5=true:=hall ⟨5,.data⟩ (by simp) rfl
          have d5:=g5 h5
          have n7:=nfT m7 hL
          have n16:=nfT m16 hL
          have n17:=nfT m17 hL
          have n18:=nfT m18 hL
          refine opA_val (.p (i64 1)) rfl rfl (by simp (disch:=first|exact dsc|fail) only [go_sem,seval,-List.reduceReplicate,reduceIte,Bool.false_eq_true,if_false,if_true,f0,f1,f2,f3,f4,f5,f6,f7,f8,d5,h5,n7,n16,n17,n18,hL,hBn,hB4,n0,nC_zero,mz_zero,hz,ite_f,ite_self]<;>rfl) rfl ?_
          exact .inl ⟨(kf f0),(kf f1),(kf f2),(kf f3),(kf f4),(kf f5),(kf f6),(kf f7),(kf f8),(kp g0),(kp g1),(kp g2),(kp g3),(kp g4),(kp g5),kn,(kp g7),(kp g8),(kp g9),(kp g10),(kp g11),(kp g12),(kp g13),(kp g14),(kp g15),(kp g18),(ka m3),(ka m5),(fun _=>kt (allT_cons h5 allT_nil)),(ka m7),(ka m8),(ka m9),(ka m10),(ka m11),(ka m12),(ka m13),(ka m15),(ka m16),(ka m17),(ka m18),(by (have e14:more L 6 14=L 14:=more_ne (by decide));(have e15:more L 6 15=L 15:=more_ne (by decide));(have e16:more L 6 16=L 16:=more_ne (by decide));(have e17:more L 6 17=L 17:=more_ne (by decide));(try simp only [e14,e15,e16,e17,n16,n17]);first | done | rfl | (simp only [e14,e15,e16,e17,n16,n17,if_true,if_false,Bool.false_eq_true];first | done | rfl | (simp (disch:=first|exact dsc|fail) only [go_sem,seval,-List.reduceReplicate,e14,e15,e16,e17,n16,n17,hBn,hB4,n0,nC_zero,mz_zero,hz,ite_f,ite_self]<;>rfl)))⟩
        · cases ho
          have h3:L 3=true:=hall ⟨3,.data⟩ (by simp) rfl
          have d3:=g3 h3
          have h6:L 6=true:=hall ⟨6,.data⟩ (by simp) rfl
          have d6:=g6 h6
          have n8:=nfT m8 hL
          have n16:=nfT m16 hL
          have n17:=nfT m17 hL
          have n18:=nfT m18 hL
          refine opA_val (.p (i64 57)) rfl rfl (by simp (disch:=first|exact dsc|fail) only [go_sem,seval,-List.reduceReplicate,reduceIte,Bool.false_eq_true,if_false,if_true,f0,f1,f2,f3,f4,f5,f6,f7,f8,d3,d6,h3,h6,n8,n16,n17,n18,hL,hBn,hB4,n0,nC_zero,mz_zero,hz,ite_f,ite_self]<;>rfl) rfl ?_
          exact .inl ⟨(kf f0),(kf f1),(kf f2),(kf f3),(kf f4),(kf f5),(kf f6),(kf f7),(kf f8),(kp g0),(kp g1),(kp g2),(kp g3),(kp g4),(kp g5),(kp g6),kn,(kp g8),(kp g9),(kp g10),(kp g11),(kp g12),(kp g13),(kp g14),(kp g15),(kp g18),(ka m3),(ka m5),(ka m6),(fun _=>kt (allT_cons h3 (allT_cons h6 allT_nil))),(ka m8),(ka m9),(ka m10),(ka m11),(ka m12),(ka m13),(ka m15),(ka m16),(ka m17),(ka m18),(by (have e14:more L 7 14=L 14:=more_ne (by decide));(have e15:more L 7 15=L 15:=more_ne (by decide));(have e16:more L 7 16=L 16:=more_ne (by decide));(have e17:more L 7 17=L 17:=more_ne (by decide));(try simp only [e14,e15,e16,e17,n16,n17]);first | done | rfl | (simp only [e14,e15,e16,e17,n16,n17,if_true,if_false,Bool.false_eq_true];first | done | rfl | (simp (disch:=first|exact dsc|fail) only [go_sem,seval,-List.reduceReplicate,e14,e15,e16,e17,n16,n17,hBn,hB4,n0,nC_zero,mz_zero,hz,ite_f,ite_self]<;>rfl)))⟩
        · cases ho
          have h1:L 1=true:=hall ⟨1,.data⟩ (by simp) rfl
          have d1:=g1 h1
          have h7:L 7=true:=hall ⟨7,.data⟩ (by simp) rfl
          have d7:=g7 h7
          have n9:=nfT m9 hL
          have n16:=nfT m16 hL
          have n17:=nfT m17 hL
          have n18:=nfT m18 hL
          refine opA_val (.p (.sl false 1 (pl b8 (p0.take 57)))) rfl rfl (by simp (disch:=first|exact dsc|fail) only [go_sem,seval,-List.reduceReplicate,reduceIte,Bool.false_eq_true,if_false,if_true,f0,f1,f2,f3,f4,f5,f6,f7,f8,d1,d7,h1,h7,n9,n16,n17,n18,hL,hBn,hB4,n0,nC_zero,mz_zero,hz,ite_f,ite_self]<;>rfl) rfl ?_
          exact .inl ⟨(kf f0),(kf f1),(kf f2),(kf f3),(kf f4),(kf f5),(kf f6),(kf f7),(kf f8),(kp g0),(kp g1),(kp g2),(kp g3),(kp g4),(kp g5),(kp g6),(kp g7),kn,(kp g9),(kp g10),(kp g11),(kp g12),(kp g13),(kp g14),(kp g15),(kp g18),(ka m3),(ka m5),(ka m6),(ka m7),(fun _=>kt (allT_cons h1 (allT_cons h7 allT_nil))),(ka m9),(ka m10),(ka m11),(ka m12),(ka m13),(ka m15),(ka m16),(ka m17),(ka m18),(by (have e14:more L 8 14=L 14:=more_ne (by decide));(have e15:more L 8 15=L 15:=more_ne (by decide));(have e16:more L 8 16=L 16:=more_ne (by decide));(have e17:more L 8 17=L 17:=more_ne (by decide));(try simp only [e14,e15,e16,e17,n16,n17]);first | done | rfl | (simp only [e14,e15,e16,e17,n16,n17,if_true,if_false,Bool.false_eq_true];first | done | rfl | (simp (disch:=first|exact dsc|fail) only [go_sem,seval,-List.reduceReplicate,e14,e15,e16,e17,n16,n17,hBn,hB4,n0,nC_zero,mz_zero,hz,ite_f,ite_self]<;>rfl)))⟩
        · cases ho
          have h0:L 0=true:=hall ⟨0,.data⟩ (by simp) rfl
          have d0:=g0 h0
          have h8:L 8=true:=hall ⟨8,.data⟩ (by simp) rfl
          have d8:=g8 h8
          have n10:=nfT m10 hL
          have n16:=nfT m16 hL
          have n17:=nfT m17 hL
          have n18:=nfT m18 hL
          (try simp only [n16,n17,if_true,if_false,Bool.false_eq_true])
          refine opA_call rfl rfl (by simp (disch:=first|exact dsc|fail) only [go_sem,seval,-List.reduceReplicate,reduceIte,Bool.false_eq_true,if_false,if_true,f0,f1,f2,f3,f4,f5,f6,f7,f8,d0,d8,h0,h8,n10,n16,n17,n18,hL,hBn,hB4,n0,nC_zero,mz_zero,hz,ite_f,ite_self]<;>rfl) rfl (by simp (disch:=first|exact dsc|fail) only [go_sem,seval,-List.reduceReplicate,reduceIte,Bool.false_eq_true,if_false,if_true,f0,f1,f2,f3,f4,f5,f6,f7,f8,d0,d8,h0,h8,n10,n16,n17,n18,hL,hBn,hB4,n0,nC_zero,mz_zero,hz,ite_f,ite_self]<;>rfl) (fun R h=>hcall _ R h) ?_
          exact .inl ⟨(kf f0),(kf f1),(kf f2),(kf f3),(kf f4),(kf f5),(kf f6),(kf f7),(kf f8),(kp g0),(kp g1),(kp g2),(kp g3),(kp g4),(kp g5),(kp g6),(kp g7),(kp g8),kn,(kp g10),(kp g11),(kp g12),(kp g13),(kp g14),(kp g15),(kp g18),(ka m3),(ka m5),(ka m6),(ka m7),(ka m8),(fun _=>kt (allT_cons h0 (allT_cons h8 allT_nil))),(ka m10),(ka m11),(ka m12),(ka m13),(ka m15),(ka m16),(ka m17),(ka m18),(by (have e14:more L 9 14=L 14:=more_ne (by decide));(have e15:more L 9 15=L 15:=more_ne (by decide));(have e16:more L 9 16=L 16:=more_ne (by decide));(have e17:more L 9 17=L 17:=more_ne (by decide));(try simp only [e14,e15,e16,e17,n16,n17]);first | done | rfl | (simp only [e14,e15,e16,e17,n16,n17,if_true,if_false,Bool.false_eq_true];first | done | rfl | (simp (disch:=first|exact dsc|fail) only [go_sem,seval,-List.reduceReplicate,e14,e15,e16,e17,n16,n17,hBn,hB4,n0,nC_zero,mz_zero,hz,ite_f,ite_self]<;>rfl)))⟩
        · cases ho
          have h9:L 9=true:=hall ⟨9,.data⟩ (by simp) rfl
          have d9:=g9 h9
          have n11:=nfT m11 hL
          have n12:=nfT m12 hL
          have n13:=nfT m13 hL
          have n16:=nfT m16 hL
          have n17:=nfT m17 hL
          have n18:=nfT m18 hL
          refine opA_val (.tup [.p (ses sA),.p (msg zM),.p (i64 6)]) rfl rfl (by simp (disch:=first|exact dsc|fail) only [go_sem,seval,-List.reduceReplicate,reduceIte,Bool.false_eq_true,if_false,if_true,f0,f1,f2,f3,f4,f5,f6,f7,f8,d9,h9,n11,n12,n13,n16,n17,n18,hL,hBn,hB4,n0,nC_zero,mz_zero,hz,ite_f,ite_self]<;>rfl) rfl ?_
          exact .inl ⟨(kf f0),(kf f1),(kf f2),(kf f3),(kf f4),(kf f5),(kf f6),(kf f7),(kf f8),(kp g0),(kp g1),(kp g2),(kp g3),(kp g4),(kp g5),(kp g6),(kp g7),(kp g8),(kp g9),kn,(kp g11),(kp g12),(kp g13),(kp g14),(kp g15),(kp g18),(ka m3),(ka m5),(ka m6),(ka m7),(ka m8),(ka m9),(fun _=>kt (allT_cons h9 allT_nil)),(ka m11),(ka m12),(ka m13),(ka m15),(ka m16),(ka m17),(ka m18),(by (have e14:more L 10 14=L 14:=more_ne (by decide));(have e15:more L 10 15=L 15:=more_ne (by decide));(have e16:more L 10 16=L 16:=more_ne (by decide));(have e17:more L 10 17=L 17:=more_ne (by decide));(try simp only [e14,e15,e16,e17,n16,n17]);first | done | rfl | (simp only [e14,e15,e16,e17,n16,n17,if_true,if_false,Bool.false_eq_true];first | done | rfl | (simp (disch:=first|exact dsc|fail) only [go_sem,seval,-List.reduceReplicate,e14,e15,e16,e17,n16,n17,hBn,hB4,n0,nC_zero,mz_zero,hz,ite_f,ite_self]<;>rfl)))⟩
        · cases ho
          have h10:L 10=true:=hall ⟨10,.data⟩ (by simp) rfl
          have d10:=g10 h10
          have n16:=nfT m16 hL
          have n17:=nfT m17 hL
          have n18:=nfT m18 hL
          refine opA_val (.p (ses sA)) rfl rfl (by simp (disch:=first|exact dsc|fail) only [go_sem,seval,-List.reduceReplicate,reduceIte,Bool.false_eq_true,if_false,if_true,f0,f1,f2,f3,f4,f5,f6,f7,f8,d10,h10,n16,n17,n18,hL,hBn,hB4,n0,nC_zero,mz_zero,hz,ite_f,ite_self]<;>rfl) rfl ?_
          exact .inl ⟨(kf f0),(kf f1),(kf f2),(kf f3),(kf f4),(kf f5),(kf f6),(kf f7),(kf f8),(kp g0),(kp g1),(kp g2),(kp g3),(kp g4),(kp g5),(kp g6),(kp g7),(kp g8),(kp g9),(kp g10),kn,(kp g12),(kp g13),(kp g14),(kp g15),(kp g18),(ka m3),(ka m5),(ka m6),(ka m7),(ka m8),(ka m9),(ka m10),(fun _=>kt (allT_cons h10 allT_nil)),(ka m12),(ka m13),(ka m15),(ka m16),(ka m17),(ka m18),(by (have e14:more L 11 14=L 14:=more_ne (by decide));(have e15:more L 11 15=L 15:=more_ne (by decide));(have e16:more L 11 16=L 16:=more_ne (by decide));(have e17:more L 11 17=L 17:=more_ne (by decide));(try simp only [e14,e15,e16,e17,n16,n17]);first | done | rfl | (simp only [e14,e15,e16,e17,n16,n17,if_true,if_false,Bool.false_eq_true];first | done | rfl | (simp (disch:=first|exact dsc|fail) only [go_sem,seval,-List.reduceReplicate,e14,e15,e16,e17,n16,n17,hBn,hB4,n0,nC_zero,mz_zero,hz,ite_f,ite_self]<;>rfl)))⟩
        · cases ho
          have h10:L 10=true:=hall ⟨10,.data⟩ (by simp) rfl
          have d10:=g10 h10
          have n17:=nfT m17 hL
          have n18:=nfT m18 hL
          refine opA_val (.p (msg zM)) rfl rfl (by simp (disch:=first|exact dsc|fail) only [go_sem,seval,-List.reduceReplicate,reduceIte,Bool.false_eq_true,if_false,if_true,f0,f1,f2,f3,f4,f5,f6,f7,f8,d10,h10,n17,n18,hL,hBn,hB4,n0,nC_zero,mz_zero,hz,ite_f,ite_self]<;>rfl) rfl ?_
          exact .inl ⟨(kf f0),(kf f1),(kf f2),(kf f3),(kf f4),(kf f5),(kf f6),(kf f7),(kf f8),(kp g0),(kp g1),(kp g2),(kp g3),(kp g4),(kp g5),(kp g6),(kp g7),(kp g8),(kp g9),(kp g10),(kp g11),kn,(kp g13),(kp g14),(kp g15),(kp g18),(ka m3),(ka m5),(ka m6),(ka m7),(ka m8),(ka m9),(ka m10),(ka m11),(fun _=>kt (allT_cons h10 allT_nil)),(ka m13),(ka m15),(ka m16),(ka m17),(ka m18),(by (have e14:more L 12 14=L 14:=more_ne (by decide));(have e15:more L 12 15=L 15:=more_ne (by decide));(have e16:more L 12 16=L 16:=more_ne (by decide));(have e17:more L 12 17=L 17:=more_ne (by decide));(try simp only [e14,e15,e16,e17,n17]);first | done | rfl | (simp only [e14,e15,e16,e17,n17,if_true,if_false,Bool.false_eq_true];first | done | rfl | (simp (disch:=first|exact dsc|fail) only [go_sem,seval,-List.reduceReplicate,e14,e15,e16,e17,n17,hBn,hB4,n0,nC_zero,mz_zero,hz,ite_f,ite_self]<;>rfl)))⟩
        · cases ho
          have h10:L 10=true:=hall ⟨10,.data⟩ (by simp) rfl
          have d10:=g10 h10
          have n18:=nfT m18 hL
          refine opA_val (.p (i64 6)) rfl rfl (by simp (disch:=first|exact dsc|fail) only [go_sem,seval,-List.reduceReplicate,reduceIte,Bool.false_eq_true,if_false,if_true,f0,f1,f2,f3,f4,f5,f6,f7,f8,d10,h10,n18,hL,hBn,hB4,n0,nC_zero,mz_zero,hz,ite_f,ite_self]<;>rfl) rfl ?_
          exact .inl ⟨(kf f0),(kf f1),(kf f2),(kf f3),(kf f4),(kf f5),(kf f6),(kf f7),(kf f8),(kp g0),(kp g1),(kp g2),(kp g3),(kp g4),(kp g5),(kp g6),(kp g7),(kp g8),(kp g9),(kp g10),(kp g11),(kp g12),kn,(kp g14),(kp g15),(kp g18),(ka m3),(ka m5),(ka m6),(ka m7),(ka m8),(ka m9),(ka m10),(ka m11),(ka m12),(fun _=>kt (allT_cons h10 allT_nil)),(ka m15),(ka m16),(ka m17),(ka m18),(by (have e14:more L 13 14=L 14:=more_ne (by decide));(have e15:more L 13 15=L 15:=more_ne (by decide));(have e16:more L 13 16=L 16:=more_ne (by decide));(have e17:more L 13 17=L 17:=more_ne (by decide));(try simp only [e14,e15,e16,e17]);first | done | rfl | (simp only [e14,e15,e16,e17,if_true,if_false,Bool.false_eq_true];first | done | rfl | (simp (disch:=first|exact dsc|fail) only [go_sem,seval,-List.reduceReplicate,e14,e15,e16,e17,hBn,hB4,n0,nC_zero,mz_zero,hz,ite_f,ite_self]<;>rfl)))⟩
        · cases ho
          have n15:=nfT m15 hL
          have n16:=nfT m16 hL
          have n17:=nfT m17 hL
          have n18:=nfT m18 hL
          (try simp only [n15,n16,n17,hL,if_true,if_false,Bool.false_eq_true])
          refine opA_valH (.ptr (H.n+8) 0) rfl rfl (by simp (disch:=first|exact dsc|fail) only [go_sem,seval,-List.reduceReplicate,reduceIte,Bool.false_eq_true,if_false,if_true,f0,f1,f2,f3,f4,f5,f6,f7,f8,n15,n16,n17,n18,hL,hBn,hB4,n0,nC_zero,mz_zero,hz,ite_f,ite_self]<;>rfl) rfl ?_
          exact .inl ⟨(kf f0),(kf f1),(kf f2),(kf f3),(kf f4),(kf f5),(kf f6),(kf f7),(kf f8),(kp g0),(kp g1),(kp g2),(kp g3),(kp g4),(kp g5),(kp g6),(kp g7),(kp g8),(kp g9),(kp g10),(kp g11),(kp g12),(kp g13),kn,(kp g15),(kp g18),(ka m3),(ka m5),(ka m6),(ka m7),(ka m8),(ka m9),(ka m10),(ka m11),(ka m12),(ka m13),(ka m15),(ka m16),(ka m17),(ka m18),(by (have e14:more L 14 14=true:=more_eq);(have e15:more L 14 15=L 15:=more_ne (by decide));(have e16:more L 14 16=L 16:=more_ne (by decide));(have e17:more L 14 17=L 17:=more_ne (by decide));(try simp only [e14,e15,e16,e17,n15,n16,n17,hL]);first | done | rfl | (simp only [e14,e15,e16,e17,n15,n16,n17,hL,if_true,if_false,Bool.false_eq_true];first | done | rfl | (simp (disch:=first|exact dsc|fail) only [go_sem,seval,-List.reduceReplicate,e14,e15,e16,e17,n15,n16,n17,hL,hBn,hB4,n0,nC_zero,mz_zero,hz,ite_f,ite_self]<;>rfl)))⟩
        · cases ho
          have n16:=nfT m16 hL
          have n17:=nfT m17 hL
          have n18:=nfT m18 hL
          cases e0:L 14
          · skip
            (try simp only [n16,n17,hL,e0,if_true,if_false,Bool.false_eq_true])
            refine opA_valH (.ptr (H.n+8) 0) rfl rfl (by simp (disch:=first|exact dsc|fail) only [go_sem,seval,-List.reduceReplicate,reduceIte,Bool.false_eq_true,if_false,if_true,f0,f1,f2,f3,f4,f5,f6,f7,f8,n16,n17,n18,hL,e0,hBn,hB4,n0,nC_zero,mz_zero,hz,ite_f,ite_self]<;>rfl) rfl ?_
            exact .inr ⟨(kf f0),(kf f1),(kf f2),(kf f3),(kf f4),(kf f5),(kf f6),(kf f7),(kf f8),(kp g0),(kp g1),(kp g2),(kp g3),(kp g4),(kp g5),(kp g6),(kp g7),(kp g8),(kp g9),(kp g10),(kp g11),(kp g12),(kp g13),(kj e0),kn,(kp g18),(ka m3),(ka m5),(ka m6),(ka m7),(ka m8),(ka m9),(ka m10),(ka m11),(ka m12),(ka m13),(fun _=>kt1),(ka m16),(ka m17),(ka m18),(by (have e14:more L 15 14=L 14:=more_ne (by decide));(have e15:more L 15 15=true:=more_eq);(have e16:more L 15 16=L 16:=more_ne (by decide));(have e17:more L 15 17=L 17:=more_ne (by decide));(try simp only [e14,e15,e16,e17,n16,n17,hL,e0]);first | done | rfl | (simp only [e14,e15,e16,e17,n16,n17,hL,e0,if_true,if_false,Bool.false_eq_true];first | done | rfl | (simp (disch:=first|exact dsc|fail) only [go_sem,seval,-List.reduceReplicate,e14,e15,e16,e17,n16,n17,hL,e0,hBn,hB4,n0,nC_zero,mz_zero,hz,ite_f,ite_self]<;>rfl)))⟩
          · have h14:L 14=true:=e0
            (try simp only [h14,n16,n17,hL,if_true,if_false,Bool.false_eq_true])
            refine opA_valH (.ptr (H.n+9) 0) rfl rfl (by simp (disch:=first|exact dsc|fail) only [go_sem,seval,-List.reduceReplicate,reduceIte,Bool.false_eq_true,if_false,if_true,f0,f1,f2,f3,f4,f5,f6,f7,f8,h14,n16,n17,n18,hL,hBn,hB4,n0,nC_zero,mz_zero,hz,ite_f,ite_self]<;>rfl) rfl ?_
            exact .inl ⟨(kf f0),(kf f1),(kf f2),(kf f3),(kf f4),(kf f5),(kf f6),(kf f7),(kf f8),(kp g0),(kp g1),(kp g2),(kp g3),(kp g4),(kp g5),(kp g6),(kp g7),(kp g8),(kp g9),(kp g10),(kp g11),(kp g12),(kp g13),(kp g14),kn,(kp g18),(ka m3),(ka m5),(ka m6),(ka m7),(ka m8),(ka m9),(ka m10),(ka m11),(ka m12),(ka m13),(fun _=>kt (allT_cons h14 allT_nil)),(ka m16),(ka m17),(ka m18),(by (have e14:more L 15 14=L 14:=more_ne (by decide));(have e15:more L 15 15=true:=more_eq);(have e16:more L 15 16=L 16:=more_ne (by decide));(have e17:more L 15 17=L 17:=more_ne (by decide));(try simp only [e14,e15,e16,e17,h14,n16,n17,hL]);first | done | rfl | (simp only [e14,e15,e16,e17,h14,n16,n17,hL,if_true,if_false,Bool.false_eq_true];first | done | rfl | (simp (disch:=first|exact dsc|fail) only [go_sem,seval,-List.reduceReplicate,e14,e15,e16,e17,h14,n16,n17,hL,hBn,hB4,n0,nC_zero,mz_zero,hz,ite_f,ite_self]<;>rfl)))⟩
        · cases ho
          have h0:L 0=true:=hall ⟨0,.phase⟩ (by simp) rfl
          have d0:=g0 h0
          have h1:L 1=true:=hall ⟨1,.phase⟩ (by simp) rfl
          have d1:=g1 h1
          have h2:L 2=true:=hall ⟨2,.phase⟩ (by simp) rfl
          have d2:=g2 h2
          have h3:L 3=true:=hall ⟨3,.phase⟩ (by simp) rfl
          have d3:=g3 h3
          have h4:L 4=true:=hall ⟨4,.phase⟩ (by simp) rfl
          have d4:=g4 h4
          have h5:L 5=true:=hall ⟨5,.phase⟩ (by simp) rfl
          have d5:=g5 h5
          have h6:L 6=true:=hall ⟨6,.phase⟩ (by simp) rfl
          have d6:=g6 h6
          have h7:L 7=true:=hall ⟨7,.phase⟩ (by simp) rfl
          have d7:=g7 h7
          have h8:L 8=true:=hall ⟨8,.phase⟩ (by simp) rfl
          have d8:=g8 h8
          have h9:L 9=true:=hall ⟨9,.chain⟩ (by simp) rfl
          have d9:=g9 h9
          have h10:L 10=true:=hall ⟨10,.phase⟩ (by simp) rfl
          have d10:=g10 h10
          have h11:L 11=true:=hall ⟨11,.data⟩ (by simp) rfl
          have d11:=g11 h11
          have h14:L 14=true:=hall ⟨14,.data⟩ (by simp) rfl
          have d14:=g14 h14
          have h15:L 15=true:=hall ⟨15,.phase⟩ (by simp) rfl
          have d15:=g15 h15
          have n17:=nfT m17 hL
          have n18:=nfT m18 hL
          refine opA_unit rfl rfl (by simp (disch:=first|exact dsc|fail) only [go_sem,seval,-List.reduceReplicate,reduceIte,Bool.false_eq_true,if_false,if_true,f0,f1,f2,f3,f4,f5,f6,f7,f8,d0,d1,d2,d3,d4,d5,d6,d7,d8,d9,d10,d11,d14,d15,h0,h1,h2,h3,h4,h5,h6,h7,h8,h9,h10,h11,h14,h15,n17,n18,hL,hBn,hB4,n0,nC_zero,mz_zero,hz,ite_f,ite_self]<;>rfl) rfl ?_
          exact .inl ⟨f0,f1,f2,f3,f4,f5,f6,f7,f8,(kp0 g0),(kp0 g1),(kp0 g2),(kp0 g3),(kp0 g4),(kp0 g5),(kp0 g6),(kp0 g7),(kp0 g8),(kp0 g9),(kp0 g10),(kp0 g11),(kp0 g12),(kp0 g13),(kp0 g14),(kp0 g15),(kp0 g18),(ka m3),(ka m5),(ka m6),(ka m7),(ka m8),(ka m9),(ka m10),(ka m11),(ka m12),(ka m13),(ka m15),(fun _=>kt (allT_cons h0 (allT_cons h1 (allT_cons h2 (allT_cons h3 (allT_cons h4 (allT_cons h5 (allT_cons h6 (allT_cons h7 (allT_cons h8 (allT_cons h9 (allT_cons h10 (allT_cons h11 (allT_cons h14 (allT_cons h15 allT_nil))))))))))))))),(ka m17),(ka m18),(by (have e14:more L 16 14=L 14:=more_ne (by decide));(have e15:more L 16 15=L 15:=more_ne (by decide));(have e16:more L 16 16=true:=more_eq);(have e17:more L 16 17=L 17:=more_ne (by decide));(try simp only [e14,e15,e16,e17,h14,h15,n17,hL]);first | done | rfl | (simp only [e14,e15,e16,e17,h14,h15,n17,hL,if_true,if_false,Bool.false_eq_true];first | done | rfl | (simp (disch:=first|exact dsc|fail) only [go_sem,seval,-List.reduceReplicate,e14,e15,e16,e17,h14,h15,n17,hL,hBn,hB4,n0,nC_zero,mz_zero,hz,ite_f,ite_self]<;>rfl)))⟩
        · cases ho
          have h0:L 0=true:=hall ⟨0,.phase⟩ (by simp) rfl
          have d0:=g0 h0
          have h1:L 1=true:=hall ⟨1,.phase⟩ (by simp) rfl
          have d1:=g1 h1
          have h2:L 2=true:=hall ⟨2,.phase⟩ (by simp) rfl
          have d2:=g2 h2
          have h3:L 3=true:=hall ⟨3,.phase⟩ (by simp) rfl
          have d3:=g3 h3
          have h4:L 4=true:=hall ⟨4,.phase⟩ (by simp) rfl
          have d4:=g4 h4
          have h5:L 5=true:=hall ⟨5,.phase⟩ (by simp) rfl
          have d5:=g5 h5
          have h6:L 6=true:=hall ⟨6,.phase⟩ (by simp) rfl
          have d6:=g6 h6
          have h7:L 7=true:=hall ⟨7,.phase⟩ (by simp) rfl
          have d7:=g7 h7
          have h8:L 8=true:=hall ⟨8,.phase⟩ (by simp) rfl
          have d8:=g8 h8
          have h9:L 9=true:=hall ⟨9,.phase⟩ (by simp) rfl
          have d9:=g9 h9
          have h10:L 10=true:=hall ⟨10,.phase⟩ (by simp) rfl
          have d10:=g10 h10
          have h11:L 11=true:=hall ⟨11,.phase⟩ (by simp) rfl
          have d11:=g11 h11
          have h12:L 12=true:=hall ⟨12,.data⟩ (by simp) rfl
          have d12:=g12 h12
          have h14:L 14=true:=hall ⟨14,.phase⟩ (by simp) rfl
          have d14:=g14 h14
          have h15:L 15=true:=hall ⟨15,.data⟩ (by simp) rfl
          have d15:=g15 h15
          have h16:L 16=true:=hall ⟨16,.chain⟩ (by simp) rfl
          have n18:=nfT m18 hL
          refine opA_unit rfl rfl (by simp (disch:=first|exact dsc|fail) only [go_sem,seval,-List.reduceReplicate,reduceIte,Bool.false_eq_true,if_false,if_true,f0,f1,f2,f3,f4,f5,f6,f7,f8,d0,d1,d2,d3,d4,d5,d6,d7,d8,d9,d10,d11,d12,d14,d15,h0,h1,h2,h3,h4,h5,h6,h7,h8,h9,h10,h11,h12,h14,h15,h16,n18,hL,hBn,hB4,n0,nC_zero,mz_zero,hz,ite_f,ite_self]<;>rfl) rfl ?_
          exact .inl ⟨f0,f1,f2,f3,f4,f5,f6,f7,f8,(kp0 g0),(kp0 g1),(kp0 g2),(kp0 g3),(kp0 g4),(kp0 g5),(kp0 g6),(kp0 g7),(kp0 g8),(kp0 g9),(kp0 g10),(kp0 g11),(kp0 g12),(kp0 g13),(kp0 g14),(kp0 g15),(kp0 g18),(ka m3),(ka m5),(ka m6),(ka m7),(ka m8),(ka m9),(ka m10),(ka m11),(ka m12),(ka m13),(ka m15),(ka m16),(fun _=>kt (allT_cons h0 (allT_cons h1 (allT_cons h2 (allT_cons h3 (allT_cons h4 (allT_cons h5 (allT_cons h6 (allT_cons h7 (allT_cons h8 (allT_cons h9 (allT_cons h10 (allT_cons h11 (allT_cons h12 (allT_cons h14 (allT_cons h15 (allT_cons h16 allT_nil))))))))))))))))),(ka m18),(by (have e14:more L 17 14=L 14:=more_ne (by decide));(have e15:more L 17 15=L 15:=more_ne (by decide));(have e16:more L 17 16=L 16:=more_ne (by decide));(have e17:more L 17 17=true:=more_eq);(try simp only [e14,e15,e16,e17,h14,h15,h16,hL]);first | done | rfl | (simp only [e14,e15,e16,e17,h14,h15,h16,hL,if_true,if_false,Bool.false_eq_true];first | done | rfl | (simp (disch:=first|exact dsc|fail) only [go_sem,seval,-List.reduceReplicate,e14,e15,e16,e17,h14,h15,h16,hL,hBn,hB4,n0,nC_zero,mz_zero,hz,ite_f,ite_self]<;>rfl)))⟩
        · cases ho
          have h0:L 0=true:=hall ⟨0,.phase⟩ (by simp) rfl
          have d0:=g0 h0
          have h1:L 1=true:=hall ⟨1,.phase⟩ (by simp) rfl
          have d1:=g1 h1
          have h2:L 2=true:=hall ⟨2,.phase⟩ (by simp) rfl
          have d2:=g2 h2
          have h3:L 3=true:=hall ⟨3,.phase⟩ (by simp) rfl
          have d3:=g3 h3
          have h4:L 4=true:=hall ⟨4,.phase⟩ (by simp) rfl
          have d4:=g4 h4
          have h5:L 5=true:=hall ⟨5,.phase⟩ (by simp) rfl
          have d5:=g5 h5
          have h6:L 6=true:=hall ⟨6,.phase⟩ (by simp) rfl
          have d6:=g6 h6
          have h7:L 7=true:=hall ⟨7,.phase⟩ (by simp) rfl
          have d7:=g7 h7
          have h8:L 8=true:=hall ⟨8,.phase⟩ (by simp) rfl
          have d8:=g8 h8
          have h9:L 9=true:=hall ⟨9,.phase⟩ (by simp) rfl
          have d9:=g9 h9
          have h10:L 10=true:=hall ⟨10,.phase⟩ (by simp) rfl
          have d10:=g10 h10
          have h11:L 11=true:=hall ⟨11,.phase⟩ (by simp) rfl
          have d11:=g11 h11
          have h12:L 12=true:=hall ⟨12,.phase⟩ (by simp) rfl
          have d12:=g12 h12
          have h13:L 13=true:=hall ⟨13,.data⟩ (by simp) rfl
          have d13:=g13 h13
          have h14:L 14=true:=hall ⟨14,.phase⟩ (by simp) rfl
          have d14:=g14 h14
          have h15:L 15=true:=hall ⟨15,.phase⟩ (by simp) rfl
          have d15:=g15 h15
          have h16:L 16=true:=hall ⟨16,.phase⟩ (by simp) rfl
          have h17:L 17=true:=hall ⟨17,.chain⟩ (by simp) rfl
          refine opA_val (.p (i64 6)) rfl rfl (by simp (disch:=first|exact dsc|fail) only [go_sem,seval,-List.reduceReplicate,reduceIte,Bool.false_eq_true,if_false,if_true,f0,f1,f2,f3,f4,f5,f6,f7,f8,d0,d1,d2,d3,d4,d5,d6,d7,d8,d9,d10,d11,d12,d13,d14,d15,h0,h1,h2,h3,h4,h5,h6,h7,h8,h9,h10,h11,h12,h13,h14,h15,h16,h17,hL,hBn,hB4,n0,nC_zero,mz_zero,hz,ite_f,ite_self]<;>rfl) rfl ?_
          exact .inl ⟨(kf f0),(kf f1),(kf f2),(kf f3),(kf f4),(kf f5),(kf f6),(kf f7),(kf f8),(kp g0),(kp g1),(kp g2),(kp g3),(kp g4),(kp g5),(kp g6),(kp g7),(kp g8),(kp g9),(kp g10),(kp g11),(kp g12),(kp g13),(kp g14),(kp g15),kn,(ka m3),(ka m5),(ka m6),(ka m7),(ka m8),(ka m9),(ka m10),(ka m11),(ka m12),(ka m13),(ka m15),(ka m16),(ka m17),(fun _=>kt (allT_cons h0 (allT_cons h1 (allT_cons h2 (allT_cons h3 (allT_cons h4 (allT_cons h5 (allT_cons h6 (allT_cons h7 (allT_cons h8 (allT_cons h9 (allT_cons h10 (allT_cons h11 (allT_cons h12 (allT_cons h13 (allT_cons h14 (allT_cons h15 (allT_cons h16 (allT_cons h17 allT_nil))))))))))))))))))),(by (have e14:more L 18 14=L 14:=more_ne (by decide));(have e15:more L 18 15=L 15:=more_ne (by decide));(have e16:more L 18 16=L 16:=more_ne (by decide));(have e17:more L 18 17=L 17:=more_ne (by decide));(try simp only [e14,e15,e16,e17,h14,h15,h16,h17]);first | done | rfl | (simp only [e14,e15,e16,e17,h14,h15,h16,h17,if_true,if_false,Bool.false_eq_true];first | done | rfl | (simp (disch:=first|exact dsc|fail) only [go_sem,seval,-List.reduceReplicate,e14,e15,e16,e17,h14,h15,h16,h17,hBn,hB4,n0,nC_zero,mz_zero,hz,ite_f,ite_self]<;>rfl)))⟩
        · simp at ho
      · obtain ⟨f0,f1,f2,f3,f4,f5,f6,f7,f8,g0,g1,g2,g3,g4,g5,g6,g7,g8,g9,g10,g11,g12,g13,g14,g15,g18,m3,m5,m6,m7,m8,m9,m10,m11,m12,m13,m14,m16,m17,m18,rfl⟩:=hI
        rcases i with _ | _ | _ | _ | _ | _ | _ | _ | _ | _ | _ | _ | _ | _ | _ | _ | _ | _ | _ | i
        · cases ho
          have n9:=nfT m9 hL
          have n16:=nfT m16 hL
          have n17:=nfT m17 hL
          have n18:=nfT m18 hL
          refine opA_val (.p (ses sA)) rfl rfl (by simp (disch:=first|exact dsc|fail) only [go_sem,seval,-List.reduceReplicate,reduceIte,Bool.false_eq_true,if_false,if_true,f0,f1,f2,f3,f4,f5,f6,f7,f8,n9,n16,n17,n18,hL,hBn,hB4,n0,nC_zero,mz_zero,hz,ite_f,ite_self]<;>rfl) rfl ?_
          exact .inr ⟨(kf f0),(kf f1),(kf f2),(kf f3),(kf f4),(kf f5),(kf f6),(kf f7),(kf f8),kn,(kp g1),(kp g2),(kp g3),(kp g4),(kp g5),(kp g6),(kp g7),(kp g8),(kp g9),(kp g10),(kp g11),(kp g12),(kp g13),(kp g14),(kp g15),(kp g18),(ka m3),(ka m5),(ka m6),(ka m7),(ka m8),(ka m9),(ka m10),(ka m11),(ka m12),(ka m13),(ka m14),(ka m16),(ka m17),(ka m18),(by (have e14:more L 0 14=L 14:=more_ne (by decide));(have e15:more L 0 15=L 15:=more_ne (by decide));(have e16:more L 0 16=L 16:=more_ne (by decide));(have e17:more L 0 17=L 17:=more_ne (by decide));(try simp only [e14,e15,e16,e17,n16,n17]);first | done | rfl | (simp only [e14,e15,e16,e17,n16,n17,if_true,if_false,Bool.false_eq_true];first | done | rfl | (simp (disch:=first|exact dsc|fail) only [go_sem,seval,-List.reduceReplicate,e14,e15,e16,e17,n16,n17,hBn,hB4,n0,nC_zero,mz_zero,hz,ite_f,ite_self]<;>rfl)))⟩
        · cases ho
          have n8:=nfT m8 hL
          have n16:=nfT m16 hL
          have n17:=nfT m17 hL
          have n18:=nfT m18 hL
          refine opA_val (.p (.sl false 1 (pl b8 p0))) rfl rfl (by simp (disch:=first|exact dsc|fail) only [go_sem,seval,-List.reduceReplicate,reduceIte,Bool.false_eq_true,if_false,if_true,f0,f1,f2,f3,f4,f5,f6,f7,f8,n8,n16,n17,n18,hL,hBn,hB4,n0,nC_zero,mz_zero,hz,ite_f,ite_self]<;>rfl) rfl ?_
          exact .inr ⟨(kf f0),(kf f1),(kf f2),(kf f3),(kf f4),(kf f5),(kf f6),(kf f7),(kf f8),(kp g0),kn,(kp g2),(kp g3),(kp g4),(kp g5),(kp g6),(kp g7),(kp g8),(kp g9),(kp g10),(kp g11),(kp g12),(kp g13),(kp g14),(kp g15),(kp g18),(ka m3),(ka m5),(ka m6),(ka m7),(ka m8),(ka m9),(ka m10),(ka m11),(ka m12),(ka m13),(ka m14),(ka m16),(ka m17),(ka m18),(by (have e14:more L 1 14=L 14:=more_ne (by decide));(have e15:more L 1 15=L 15:=more_ne (by decide));(have e16:more L 1 16=L 16:=more_ne (by decide));(have e17:more L 1 17=L 17:=more_ne (by decide));(try simp only [e14,e15,e16,e17,n16,n17]);first | done | rfl | (simp only [e14,e15,e16,e17,n16,n17,if_true,if_false,Bool.false_eq_true];first | done | rfl | (simp (disch:=first|exact dsc|fail) only [go_sem,seval,-List.reduceReplicate,e14,e15,e16,e17,n16,n17,hBn,hB4,n0,nC_zero,mz_zero,hz,ite_f,ite_self]<;>rfl)))⟩
        · cases ho
          have n3:=nfT m3 hL
          have n16:=nfT m16 hL
          have n17:=nfT m17 hL
          have n18:=nfT m18 hL
          refine opA_val (.p (.sl false 1 (pl b8 p0))) rfl rfl (by simp (disch:=first|exact dsc|fail) only [go_sem,seval,-List.reduceReplicate,reduceIte,Bool.false_eq_true,if_false,if_true,f0,f1,f2,f3,f4,f5,f6,f7,f8,n3,n16,n17,n18,hL,hBn,hB4,n0,nC_zero,mz_zero,hz,ite_f,ite_self]<;>rfl) rfl ?_
          exact .inr ⟨(kf f0),(kf f1),(kf f2),(kf f3),(kf f4),(kf f5),(kf f6),(kf f7),(kf f8),(kp g0),(kp g1),kn,(kp g3),(kp g4),(kp g5),(kp g6),(kp g7),(kp g8),(kp g9),(kp g10),(kp g11),(kp g12),(kp g13),(kp g14),(kp g15),(kp g18),(ka m3),(ka m5),(ka m6),(ka m7),(ka m8),(ka m9),(ka m10),(ka m11),(ka m12),(ka m13),(ka m14),(ka m16),(ka m17),(ka m18),(by (have e14:more L 2 14=L 14:=more_ne (by decide));(have e15:more L 2 15=L 15:=more_ne (by decide));(have e16:more L 2 16=L 16:=more_ne (by decide));(have e17:more L 2 17=L 17:=more_ne (by decide));(try simp only [e14,e15,e16,e17,n16,n17]);first | done | rfl | (simp only [e14,e15,e16,e17,n16,n17,if_true,if_false,Bool.false_eq_true];first | done | rfl | (simp (disch:=first|exact dsc|fail) only [go_sem,seval,-List.reduceReplicate,e14,e15,e16,e17,n16,n17,hBn,hB4,n0,nC_zero,mz_zero,hz,ite_f,ite_self]<;>rfl)))⟩
        · cases ho
          have h2:L 2=true:=hall ⟨2,.data⟩ (by simp) rfl
          have d2:=g2 h2
          have n7:=nfT m7 hL
          have n16:=nfT m16 hL
          have n17:=nfT m17 hL
          have n18:=nfT m18 hL
          refine opA_val (.p (i64 58)) rfl rfl (by simp (disch:=first|exact dsc|fail) only [go_sem,seval,-List.reduceReplicate,reduceIte,Bool.false_eq_true,if_false,if_true,f0,f1,f2,f3,f4,f5,f6,f7,f8,d2,h2,n7,n16,n17,n18,hL,hBn,hB4,n0,nC_zero,mz_zero,hz,ite_f,ite_self]<;>rfl) rfl ?_
          exact .inr ⟨(kf f0),(kf f1),(kf f2),(kf f3),(kf f4),(kf f5),(kf f6),(kf f7),(kf f8),(kp g0),(kp g1),(kp g2),kn,(kp g4),(kp g5),(kp g6),(kp g7),(kp g8),(kp g9),(kp g10),(kp g11),(kp g12),(kp g13),(kp g14),(kp g15),(kp g18),(fun _=>kt (allT_cons h2 allT_nil)),(ka m5),(ka m6),(ka m7),(ka m8),(ka m9),(ka m10),(ka m11),(ka m12),(ka m13),(ka m14),(ka m16),(ka m17),(ka m18),(by (have e14:more L 3 14=L 14:=more_ne (by decide));(have e15:more L 3 15=L 15:=more_ne (by decide));(have e16:more L 3 16=L 16:=more_ne (by decide));(have e17:more L 3 17=L 17:=more_ne (by decide));(try simp only [e14,e15,e16,e17,n16,n17]);first | done | rfl | (simp only [e14,e15,e16,e17,n16,n17,if_true,if_false,Bool.false_eq_true];first | done | rfl | (simp (disch:=first|exact dsc|fail) only [go_sem,seval,-List.reduceReplicate,e14,e15,e16,e17,n16,n17,hBn,hB4,n0,nC_zero,mz_zero,hz,ite_f,ite_self]<;>rfl)))⟩
        · cases ho
          have n5:=nfT m5 hL
          have n16:=nfT m16 hL
          have n17:=nfT m17 hL
          have n18:=nfT m18 hL
          refine opA_val (.p (.sl false 1 (pl b8 p0))) rfl rfl (by simp (disch:=first|exact dsc|fail) only [go_sem,seval,-List.reduceReplicate,reduceIte,Bool.false_eq_true,if_false,if_true,f0,f1,f2,f3,f4,f5,f6,f7,f8,n5,n16,n17,n18,hL,hBn,hB4,n0,nC_zero,mz_zero,hz,ite_f,ite_self]<;>rfl) rfl ?_
          exact .inr ⟨(kf f0),(kf f1),(kf f2),(kf f3),(kf f4),(kf f5),(kf f6),(kf f7),(kf f8),(kp g0),(kp g1),(kp g2),(kp g3),kn,(kp g5),(kp g6),(kp g7),(kp g8),(kp g9),(kp g10),(kp g11),(kp g12),(kp g13),(kp g14),(kp g15),(kp g18),(ka m3),(ka m5),(ka m6),(ka m7),(ka m8),(ka m9),(ka m10),(ka m11),(ka m12),(ka m13),(ka m14),(ka m16),(ka m17),(ka m18),(by (have e14:more L 4 14=L 14:=more_ne (by decide));(have e15:more L 4 15=L 15:=more_ne (by decide));(have e16:more L 4 16=L 16:=more_ne (by decide));(have e17:more L 4 17=L 17:=more_ne (by decide));(try simp only [e14,e15,e16,e17,n16,n17]);first | done | rfl | (simp only [e14,e15,e16,e17,n16,n17,if_true,if_false,Bool.false_eq_true];first | done | rfl | (simp (disch:=first|exact dsc|fail) only [go_sem,seval,-List.reduceReplicate,e14,e15,e16,e17,n16,n17,hBn,hB4,n0,nC_zero,mz_zero,hz,ite_f,ite_self]<;>rfl)))⟩
        · cases ho
          have h4:L 4=true:=hall ⟨4,.data⟩ (by simp) rfl
          have d4:=g4 h4
          have n6:=nfT m6 hL
          have n16:=nfT m16 hL
          have n17:=nfT m17 hL
          have n18:=nfT m18 hL
          refine opA_val (.p (i64 58)) rfl rfl (by simp (disch:=first|exact dsc|fail) only [go_sem,seval,-List.reduceReplicate,reduceIte,Bool.false_eq_true,if_false,if_true,f0,f1,f2,f3,f4,f5,f6,f7,f8,d4,h4,n6,n16,n17,n18,hL,hBn,hB4,n0,nC_zero,mz_zero,hz,ite_f,ite_self]<;>rfl) rfl ?_
          exact .inr ⟨(kf f0),(kf f1),(kf f2),(kf f3),(kf f4),(kf f5),(kf f6),(kf f7),(kf f8),(kp g0),(kp g1),(kp g2),(kp g3),(kp g4),kn,(kp g6),(kp g7),(kp g8),(kp g9),(kp g10),(kp g11),(kp g12),(kp g13),(kp g14),(kp g15),(kp g18),(ka m3),(fun _=>kt (allT_cons h4 allT_nil)),(ka m6),(ka m7),(ka m8),(ka m9),(ka m10),(ka m11),(ka m12),(ka m13),(ka m14),(ka m16),(ka m17),(ka m18),(by (have e14:more L 5 14=L 14:=more_ne (by decide));(have e15:more L 5 15=L 15:=more_ne (by decide));(have e16:more L 5 16=L 16:=more_ne (by decide));(have e17:more L 5 17=L 17:=more_ne (by decide));(try simp only [e14,e15,e16,e17,n16,n17]);first | done | rfl | (simp only [e14,e15,e16,e17,n16,n17,if_true,if_false,Bool.false_eq_true];first | done | rfl | (simp (disch:=first|exact dsc|fail) only [go_sem,seval,-List.reduceReplicate,e14,e15,e16,e17,n16,n17,hBn,hB4,n0,nC_zero,mz_zero,hz,ite_f,ite_self]<;>rfl)))⟩
        · cases ho
          have h5:L 5=true:=hall ⟨5,.data⟩ (by simp) rfl
          have d5:=g5 h5
          have n7:=nfT m7 hL
          have n16:=nfT m16 hL
          have n17:=nfT m17 hL
          have n18:=nfT m18 hL
          refine opA_val (.p (i64 1)) rfl rfl (by simp (disch:=first|exact dsc|fail) only [go_sem,seval,-List.reduceReplicate,reduceIte,Bool.false_eq_true,if_false,if_true,f0,f1,f2,f3,f4,f5,f6,f7,f8,d5,h5,n7,n16,n17,n18,hL,hBn,hB4,n0,nC_zero,mz_zero,hz,ite_f,ite_self]<;>rfl) rfl ?_
          exact .inr ⟨(kf f0),(kf f1),(kf f2),(kf f3),(kf f4),(kf f5),(kf f6),(kf f7),(kf f8),(kp g0),(kp g1),(kp g2),(kp g3),(kp g4),(kp g5),kn,(kp g7),(kp g8),(kp g9),(kp g10),(kp g11),(kp g12),(kp g13),(kp g14),(kp g15),(kp g18),(ka m3),(ka m5),(fun _=>kt (allT_cons h5 allT_nil)),(ka m7),(ka m8),(ka m9),(ka m10),(ka m11),(ka m12),(ka m13),(ka m14),(ka m16),(ka m17),(ka m18),(by (have e14:more L 6 14=L 14:=more_ne (by decide));(have e15:more L 6 15=L 15:=more_ne (by decide));(have e16:more L 6 16=L 16:=more_ne (by decide));(have e17:more L 6 17=L 17:=more_ne (by decide));(try simp only [e14,e15,e16,e17,n16,n17]);first | done | rfl | (simp only [e14,e15,e16,e17,n16,n17,if_true,if_false,Bool.false_eq_true];first | done | rfl | (simp (disch:=first|exact dsc|fail) only [go_sem,seval,-List.reduceReplicate,e14,e15,e16,e17,n16,n17,hBn,hB4,n0,nC_zero,mz_zero,hz,ite_f,ite_self]<;>rfl)))⟩
        · cases ho
          have h3:L 3=true:=hall ⟨3,.data⟩ (by simp) rfl
          have d3:=g3 h3
          have h6:L 6=true:=hall ⟨6,.data⟩ (by simp) rfl
          have d6:=g6 h6
          have n8:=nfT m8 hL
          have n16:=nfT m16 hL
          have n17:=nfT m17 hL
          have n18:=nfT m18 hL
          refine opA_val (.p (i64 57)) rfl rfl (by simp (disch:=first|exact dsc|fail) only [go_sem,seval,-List.reduceReplicate,reduceIte,Bool.false_eq_true,if_false,if_true,f0,f1,f2,f3,f4,f5,f6,f7,f8,d3,d6,h3,h6,n8,n16,n17,n18,hL,hBn,hB4,n0,nC_zero,mz_zero,hz,ite_f,ite_self]<;>rfl) rfl ?_
          exact .inr ⟨(kf f0),(kf f1),(kf f2),(kf f3),(kf f4),(kf f5),(kf f6),(kf f7),(kf f8),(kp g0),(kp g1),(kp g2),(kp g3),(kp g4),(kp g5),(kp g6),kn,(kp g8),(kp g9),(kp g10),(kp g11),(kp g12),(kp g13),(kp g14),(kp g15),(kp g18),(ka m3),(ka m5),(ka m6),(fun _=>kt (allT_cons h3 (allT_cons h6 allT_nil))),(ka m8),(ka m9),(ka m10),(ka m11),(ka m12),(ka m13),(ka m14),(ka m16),(ka m17),(ka m18),(by (have e14:more L 7 14=L 14:=more_ne (by decide));(have e15:more L 7 15=L 15:=more_ne (by decide));(have e16:more L 7 16=L 16:=more_ne (by decide));(have e17:more L 7 17=L 17:=more_ne (by decide));(try simp only [e14,e15,e16,e17,n16,n17]);first | done | rfl | (simp only [e14,e15,e16,e17,n16,n17,if_true,if_false,Bool.false_eq_true];first | done | rfl | (simp (disch:=first|exact dsc|fail) only [go_sem,seval,-List.reduceReplicate,e14,e15,e16,e17,n16,n17,hBn,hB4,n0,nC_zero,mz_zero,hz,ite_f,ite_self]<;>rfl)))⟩
        · cases ho
          have h1:L 1=true:=hall ⟨1,.data⟩ (by simp) rfl
          have d1:=g1 h1
          have h7:L 7=true:=hall ⟨7,.data⟩ (by simp) rfl
          have d7:=g7 h7
          have n9:=nfT m9 hL
          have n16:=nfT m16 hL
          have n17:=nfT m17 hL
          have n18:=nfT m18 hL
          refine opA_val (.p (.sl false 1 (pl b8 (p0.take 57)))) rfl rfl (by simp (disch:=first|exact dsc|fail) only [go_sem,seval,-List.reduceReplicate,reduceIte,Bool.false_eq_true,if_false,if_true,f0,f1,f2,f3,f4,f5,f6,f7,f8,d1,d7,h1,h7,n9,n16,n17,n18,hL,hBn,hB4,n0,nC_zero,mz_zero,hz,ite_f,ite_self]<;>rfl) rfl ?_
          exact .inr ⟨(kf f0),(kf f1),(kf f2),(kf f3),(kf f4),(kf f5),(kf f6),(kf f7),(kf f8),(kp g0),(kp g1),(kp g2),(kp g3),(kp g4),(kp g5),(kp g6),(kp g7),kn,(kp g9),(kp g10),(kp g11),(kp g12),(kp g13),(kp g14),(kp g15),(kp g18),(ka m3),(ka m5),(ka m6),(ka m7),(fun _=>kt (allT_cons h1 (allT_cons h7 allT_nil))),(ka m9),(ka m10),(ka m11),(ka m12),(ka m13),(ka m14),(ka m16),(ka m17),(ka m18),(by (have e14:more L 8 14=L 14:=more_ne (by decide));(have e15:more L 8 15=L 15:=more_ne (by decide));(have e16:more L 8 16=L 16:=more_ne (by decide));(have e17:more L 8 17=L 17:=more_ne (by decide));(try simp only [e14,e15,e16,e17,n16,n17]);first | done | rfl | (simp only [e14,e15,e16,e17,n16,n17,if_true,if_false,Bool.false_eq_true];first | done | rfl | (simp (disch:=first|exact dsc|fail) only [go_sem,seval,-List.reduceReplicate,e14,e15,e16,e17,n16,n17,hBn,hB4,n0,nC_zero,mz_zero,hz,ite_f,ite_self]<;>rfl)))⟩
        · cases ho
          have h0:L 0=true:=hall ⟨0,.data⟩ (by simp) rfl
          have d0:=g0 h0
          have h8:L 8=true:=hall ⟨8,.data⟩ (by simp) rfl
          have d8:=g8 h8
          have n10:=nfT m10 hL
          have n16:=nfT m16 hL
          have n17:=nfT m17 hL
          have n18:=nfT m18 hL
          (try simp only [n16,n17,if_true,if_false,Bool.false_eq_true])
          refine opA_call rfl rfl (by simp (disch:=first|exact dsc|fail) only [go_sem,seval,-List.reduceReplicate,reduceIte,Bool.false_eq_true,if_false,if_true,f0,f1,f2,f3,f4,f5,f6,f7,f8,d0,d8,h0,h8,n10,n16,n17,n18,hL,hBn,hB4,n0,nC_zero,mz_zero,hz,ite_f,ite_self]<;>rfl) rfl (by simp (disch:=first|exact dsc|fail) only [go_sem,seval,-List.reduceReplicate,reduceIte,Bool.false_eq_true,if_false,if_true,f0,f1,f2,f3,f4,f5,f6,f7,f8,d0,d8,h0,h8,n10,n16,n17,n18,hL,hBn,hB4,n0,nC_zero,mz_zero,hz,ite_f,ite_self]<;>rfl) (fun R h=>hcall _ R h) ?_
          exact .inr ⟨(kf f0),(kf f1),(kf f2),(kf f3),(kf f4),(kf f5),(kf f6),(kf f7),(kf f8),(kp g0),(kp g1),(kp g2),(kp g3),(kp g4),(kp g5),(kp g6),(kp g7),(kp g8),kn,(kp g10),(kp g11),(kp g12),(kp g13),(kp g14),(kp g15),(kp g18),(ka m3),(ka m5),(ka m6),(ka m7),(ka m8),(fun _=>kt (allT_cons h0 (allT_cons h8 allT_nil))),(ka m10),(ka m11),(ka m12),(ka m13),(ka m14),(ka m16),(ka m17),(ka m18),(by (have e14:more L 9 14=L 14:=more_ne (by decide));(have e15:more L 9 15=L 15:=more_ne (by decide));(have e16:more L 9 16=L 16:=more_ne (by decide));(have e17:more L 9 17=L 17:=more_ne (by decide));(try simp only [e14,e15,e16,e17,n16,n17]);first | done | rfl | (simp only [e14,e15,e16,e17,n16,n17,if_true,if_false,Bool.false_eq_true];first | done | rfl | (simp (disch:=first|exact dsc|fail) only [go_sem,seval,-List.reduceReplicate,e14,e15,e16,e17,n16,n17,hBn,hB4,n0,nC_zero,mz_zero,hz,ite_f,ite_self]<;>rfl)))⟩
        · cases ho
          have h9:L 9=true:=hall ⟨9,.data⟩ (by simp) rfl
          have d9:=g9 h9
          have n11:=nfT m11 hL
          have n12:=nfT m12 hL
          have n13:=nfT m13 hL
          have n16:=nfT m16 hL
          have n17:=nfT m17 hL
          have n18:=nfT m18 hL
          refine opA_val (.tup [.p (ses sA),.p (msg zM),.p (i64 6)]) rfl rfl (by simp (disch:=first|exact dsc|fail) only [go_sem,seval,-List.reduceReplicate,reduceIte,Bool.false_eq_true,if_false,if_true,f0,f1,f2,f3,f4,f5,f6,f7,f8,d9,h9,n11,n12,n13,n16,n17,n18,hL,hBn,hB4,n0,nC_zero,mz_zero,hz,ite_f,ite_self]<;>rfl) rfl ?_
          exact .inr ⟨(kf f0),(kf f1),(kf f2),(kf f3),(kf f4),(kf f5),(kf f6),(kf f7),(kf f8),(kp g0),(kp g1),(kp g2),(kp g3),(kp g4),(kp g5),(kp g6),(kp g7),(kp g8),(kp g9),kn,(kp g11),(kp g12),(kp g13),(kp g14),(kp g15),(kp g18),(ka m3),(ka m5),(ka m6),(ka m7),(ka m8),(ka m9),(fun _=>kt (allT_cons h9 allT_nil)),(ka m11),(ka m12),(ka m13),(ka m14),(ka m16),(ka m17),(ka m18),(by (have e14:more L 10 14=L 14:=more_ne (by decide));(have e15:more L 10 15=L 15:=more_ne (by decide));(have e16:more L 10 16=L 16:=more_ne (by decide));(have e17:more L 10 17=L 17:=more_ne (by decide));(try simp only [e14,e15,e16,e17,n16,n17]);first | done | rfl | (simp only [e14,e15,e16,e17,n16,n17,if_true,if_false,Bool.false_eq_true];first | done | rfl | (simp (disch:=first|exact dsc|fail) only [go_sem,seval,-List.reduceReplicate,e14,e15,e16,e17,n16,n17,hBn,hB4,n0,nC_zero,mz_zero,hz,ite_f,ite_self]<;>rfl)))⟩
        · cases ho
          have h10:L 10=true:=hall ⟨10,.data⟩ (by simp) rfl
          have d10:=g10 h10
          have n16:=nfT m16 hL
          have n17:=nfT m17 hL
          have n18:=nfT m18 hL
          refine opA_val (.p (ses sA)) rfl rfl (by simp (disch:=first|exact dsc|fail) only [go_sem,seval,-List.reduceReplicate,reduceIte,Bool.false_eq_true,if_false,if_true,f0,f1,f2,f3,f4,f5,f6,f7,f8,d10,h10,n16,n17,n18,hL,hBn,hB4,n0,nC_zero,mz_zero,hz,ite_f,ite_self]<;>rfl) rfl ?_
          exact .inr ⟨(kf f0),(kf f1),(kf f2),(kf f3),(kf f4),(kf f5),(kf f6),(kf f7),(kf f8),(kp g0),(kp g1),(kp g2),(kp g3),(kp g4),(kp g5),(kp g6),(kp g7),(kp g8),(kp g9),(kp g10),kn,(kp g12),(kp g13),(kp g14),(kp g15),(kp g18),(ka m3),(ka m5),(ka m6),(ka m7),(ka m8),(ka m9),(ka m10),(fun _=>kt (allT_cons h10 allT_nil)),(ka m12),(ka m13),(ka m14),(ka m16),(ka m17),(ka m18),(by (have e14:more L 11 14=L 14:=more_ne (by decide));(have e15:more L 11 15=L 15:=more_ne (by decide));(have e16:more L 11 16=L 16:=more_ne (by decide));(have e17:more L 11 17=L 17:=more_ne (by decide));(try simp only [e14,e15,e16,e17,n16,n17]);first | done | rfl | (simp only [e14,e15,e16,e17,n16,n17,if_true,if_false,Bool.false_eq_true];first | done | rfl | (simp (disch:=first|exact dsc|fail) only [go_sem,seval,-List.reduceReplicate,e14,e15,e16,e17,n16,n17,hBn,hB4,n0,nC_zero,mz_zero,hz,ite_f,ite_self]<;>rfl)))⟩
        · cases ho
          have h10:L 10=true:=hall ⟨10,.data⟩ (by simp) rfl
          have d10:=g10 h10
          have n17:=nfT m17 hL
          have n18:=nfT m18 hL
          refine opA_val (.p (msg zM)) rfl rfl (by simp (disch:=first|exact dsc|fail) only [go_sem,seval,-List.reduceReplicate,reduceIte,Bool.false_eq_true,if_false,if_true,f0,f1,f2,f3,f4,f5,f6,f7,f8,d10,h10,n17,n18,hL,hBn,hB4,n0,nC_zero,mz_zero,hz,ite_f,ite_self]<;>rfl) rfl ?_
          exact .inr ⟨(kf f0),(kf f1),(kf f2),(kf f3),(kf f4),(kf f5),(kf f6),(kf f7),(kf f8),(kp g0),(kp g1),(kp g2),(kp g3),(kp g4),(kp g5),(kp g6),(kp g7),(kp g8),(kp g9),(kp g10),(kp g11),kn,(kp g13),(kp g14),(kp g15),(kp g18),(ka m3),(ka m5),(ka m6),(ka m7),(ka m8),(ka m9),(ka m10),(ka m11),(fun _=>kt (allT_cons h10 allT_nil)),(ka m13),(ka m14),(ka m16),(ka m17),(ka m18),(by (have e14:more L 12 14=L 14:=more_ne (by decide));(have e15:more L 12 15=L 15:=more_ne (by decide));(have e16:more L 12 16=L 16:=more_ne (by decide));(have e17:more L 12 17=L 17:=more_ne (by decide));(try simp only [e14,e15,e16,e17,n17]);first | done | rfl | (simp only [e14,e15,e16,e17,n17,if_true,if_false,Bool.false_eq_true];first | done | rfl | (simp (disch:=first|exact dsc|fail) only [go_sem,seval,-List.reduceReplicate,e14,e15,e16,e17,n17,hBn,hB4,n0,nC_zero,mz_zero,hz,ite_f,ite_self]<;>rfl)))⟩
        · cases ho
          have h10:L 10=true:=hall ⟨10,.data⟩ (by simp) rfl
          have d10:=g10 h10
          have n18:=nfT m18 hL
          refine opA_val (.p (i64 6)) rfl rfl (by simp (disch:=first|exact dsc|fail) only [go_sem,seval,-List.reduceReplicate,reduceIte,Bool.false_eq_true,if_false,if_true,f0,f1,f2,f3,f4,f5,f6,f7,f8,d10,h10,n18,hL,hBn,hB4,n0,nC_zero,mz_zero,hz,ite_f,ite_self]<;>rfl) rfl ?_
          exact .inr ⟨(kf f0),(kf f1),(kf f2),(kf f3),(kf f4),(kf f5),(kf f6),(kf f7),(kf f8),(kp g0),(kp g1),(kp g2),(kp g3),(kp g4),(kp g5),(kp g6),(kp g7),(kp g8),(kp g9),(kp g10),(kp g11),(kp g12),kn,(kp g14),(kp g15),(kp g18),(ka m3),(ka m5),(ka m6),(ka m7),(ka m8),(ka m9),(ka m10),(ka m11),(ka m12),(fun _=>kt (allT_cons h10 allT_nil)),(ka m14),(ka m16),(ka m17),(ka m18),(by (have e14:more L 13 14=L 14:=more_ne (by decide));(have e15:more L 13 15=L 15:=more_ne (by decide));(have e16:more L 13 16=L 16:=more_ne (by decide));(have e17:more L 13 17=L 17:=more_ne (by decide));(try simp only [e14,e15,e16,e17]);first | done | rfl | (simp only [e14,e15,e16,e17,if_true,if_false,Bool.false_eq_true];first | done | rfl | (simp (disch:=first|exact dsc|fail) only [go_sem,seval,-List.reduceReplicate,e14,e15,e16,e17,hBn,hB4,n0,nC_zero,mz_zero,hz,ite_f,ite_self]<;>rfl)))⟩
        · cases ho
          have n16:=nfT m16 hL
          have n17:=nfT m17 hL
          have n18:=nfT m18 hL
          cases e0:L 15
          · skip
            (try simp only [n16,n17,hL,e0,if_true,if_false,Bool.false_eq_true])
            refine opA_valH (.ptr (H.n+8) 0) rfl rfl (by simp (disch:=first|exact dsc|fail) only [go_sem,seval,-List.reduceReplicate,reduceIte,Bool.false_eq_true,if_false,if_true,f0,f1,f2,f3,f4,f5,f6,f7,f8,n16,n17,n18,hL,e0,hBn,hB4,n0,nC_zero,mz_zero,hz,ite_f,ite_self]<;>rfl) rfl ?_
            exact .inl ⟨(kf f0),(kf f1),(kf f2),(kf f3),(kf f4),(kf f5),(kf f6),(kf f7),(kf f8),(kp g0),(kp g1),(kp g2),(kp g3),(kp g4),(kp g5),(kp g6),(kp g7),(kp g8),(kp g9),(kp g10),(kp g11),(kp g12),(kp g13),kn,(kj e0),(kp g18),(ka m3),(ka m5),(ka m6),(ka m7),(ka m8),(ka m9),(ka m10),(ka m11),(ka m12),(ka m13),(fun _=>kt1),(ka m16),(ka m17),(ka m18),(by (have e14:more L 14 14=true:=more_eq);(have e15:more L 14 15=L 15:=more_ne (by decide));(have e16:more L 14 16=L 16:=more_ne (by decide));(have e17:more L 14 17=L 17:=more_ne (by decide));(try simp only [e14,e15,e16,e17,n16,n17,hL,e0]);first | done | rfl | (simp only [e14,e15,e16,e17,n16,n17,hL,e0,if_true,if_false,Bool.false_eq_true];first | done | rfl | (simp (disch:=first|exact dsc|fail) only [go_sem,seval,-List.reduceReplicate,e14,e15,e16,e17,n16,n17,hL,e0,hBn,hB4,n0,nC_zero,mz_zero,hz,ite_f,ite_self]<;>rfl)))⟩
          · have h15:L 15=true:=e0
            (try simp only [h15,n16,n17,hL,if_true,if_false,Bool.false_eq_true])
            refine opA_valH (.ptr (H.n+9) 0) rfl rfl (by simp (disch:=first|exact dsc|fail) only [go_sem,seval,-List.reduceReplicate,reduceIte,Bool.false_eq_true,if_false,if_true,f0,f1,f2,f3,f4,f5,f6,f7,f8,h15,n16,n17,n18,hL,hBn,hB4,n0,nC_zero,mz_zero,hz,ite_f,ite_self]<;>rfl) rfl ?_
            exact .inr ⟨(kf f0),(kf f1),(kf f2),(kf f3),(kf f4),(kf f5),(kf f6),(kf f7),(kf f8),(kp g0),(kp g1),(kp g2),(kp g3),(kp g4),(kp g5),(kp g6),(kp g7),(kp g8),(kp g9),(kp g10),(kp g11),(kp g12),(kp g13),kn,(kp g15),(kp g18),(ka m3),(ka m5),(ka m6),(ka m7),(ka m8),(ka m9),(ka m10),(ka m11),(ka m12),(ka m13),(fun _=>kt (allT_cons h15 allT_nil)),(ka m16),(ka m17),(ka m18),(by (have e14:more L 14 14=true:=more_eq);(have e15:more L 14 15=L 15:=more_ne (by decide));(have e16:more L 14 16=L 16:=more_ne (by decide));(have e17:more L 14 17=L 17:=more_ne (by decide));(try simp only [e14,e15,e16,e17,h15,n16,n17,hL]);first | done | rfl | (simp only [e14,e15,e16,e17,h15,n16,n17,hL,if_true,if_false,Bool.false_eq_true];first | done | rfl | (simp (disch:=first|exact dsc|fail) only [go_sem,seval,-List.reduceReplicate,e14,e15,e16,e17,h15,n16,n17,hL,hBn,hB4,n0,nC_zero,mz_zero,hz,ite_f,ite_self]<;>rfl)))⟩
        · cases ho
          have n14:=nfT m14 hL
          have n16:=nfT m16 hL
          have n17:=nfT m17 hL
          have n18:=nfT m18 hL
          (try simp only [n14,n16,n17,hL,if_true,if_false,Bool.false_eq_true])
          refine opA_valH (.ptr (H.n+8) 0) rfl rfl (by simp (disch:=first|exact dsc|fail) only [go_sem,seval,-List.reduceReplicate,reduceIte,Bool.false_eq_true,if_false,if_true,f0,f1,f2,f3,f4,f5,f6,f7,f8,n14,n16,n17,n18,hL,hBn,hB4,n0,nC_zero,mz_zero,hz,ite_f,ite_self]<;>rfl) rfl ?_
          exact .inr ⟨(kf f0),(kf f1),(kf f2),(kf f3),(kf f4),(kf f5),(kf f6),(kf f7),(kf f8),(kp g0),(kp g1),(kp g2),(kp g3),(kp g4),(kp g5),(kp g6),(kp g7),(kp g8),(kp g9),(kp g10),(kp g11),(kp g12),(kp g13),(kp g14),kn,(kp g18),(ka m3),(ka m5),(ka m6),(ka m7),(ka m8),(ka m9),(ka m10),(ka m11),(ka m12),(ka m13),(ka m14),(ka m16),(ka m17),(ka m18),(by (have e14:more L 15 14=L 14:=more_ne (by decide));(have e15:more L 15 15=true:=more_eq);(have e16:more L 15 16=L 16:=more_ne (by decide));(have e17:more L 15 17=L 17:=more_ne (by decide));(try simp only [e14,e15,e16,e17,n14,n16,n17,hL]);first | done | rfl | (simp only [e14,e15,e16,e17,n14,n16,n17,hL,if_true,if_false,Bool.false_eq_true];first | done | rfl | (simp (disch:=first|exact dsc|fail) only [go_sem,seval,-List.reduceReplicate,e14,e15,e16,e17,n14,n16,n17,hL,hBn,hB4,n0,nC_zero,mz_zero,hz,ite_f,ite_self]<;>rfl)))⟩
        · cases ho
          have h0:L 0=true:=hall ⟨0,.phase⟩ (by simp) rfl
          have d0:=g0 h0
          have h1:L 1=true:=hall ⟨1,.phase⟩ (by simp) rfl
          have d1:=g1 h1
          have h2:L 2=true:=hall ⟨2,.phase⟩ (by simp) rfl
          have d2:=g2 h2
          have h3:L 3=true:=hall ⟨3,.phase⟩ (by simp) rfl
          have d3:=g3 h3
          have h4:L 4=true:=hall ⟨4,.phase⟩ (by simp) rfl
          have d4:=g4 h4
          have h5:L 5=true:=hall ⟨5,.phase⟩ (by simp) rfl
          have d5:=g5 h5
          have h6:L 6=true:=hall ⟨6,.phase⟩ (by simp) rfl
          have d6:=g6 h6
          have h7:L 7=true:=hall ⟨7,.phase⟩ (by simp) rfl
          have d7:=g7 h7
          have h8:L 8=true:=hall ⟨8,.phase⟩ (by simp) rfl
          have d8:=g8 h8
          have h9:L 9=true:=hall ⟨9,.chain⟩ (by simp) rfl
          have d9:=g9 h9
          have h10:L 10=true:=hall ⟨10,.phase⟩ (by simp) rfl
          have d10:=g10 h10
          have h11:L 11=true:=hall ⟨11,.data⟩ (by simp) rfl
          have d11:=g11 h11
          have h14:L 14=true:=hall ⟨14,.data⟩ (by simp) rfl
          have d14:=g14 h14
          have h15:L 15=true:=hall ⟨15,.phase⟩ (by simp) rfl
          have d15:=g15 h15
          have n17:=nfT m17 hL
          have n18:=nfT m18 hL
          refine opA_unit rfl rfl (by simp (disch:=first|exact dsc|fail) only [go_sem,seval,-List.reduceReplicate,reduceIte,Bool.false_eq_true,if_false,if_true,f0,f1,f2,f3,f4,f5,f6,f7,f8,d0,d1,d2,d3,d4,d5,d6,d7,d8,d9,d10,d11,d14,d15,h0,h1,h2,h3,h4,h5,h6,h7,h8,h9,h10,h11,h14,h15,n17,n18,hL,hBn,hB4,n0,nC_zero,mz_zero,hz,ite_f,ite_self]<;>rfl) rfl ?_
          exact .inr ⟨f0,f1,f2,f3,f4,f5,f6,f7,f8,(kp0 g0),(kp0 g1),(kp0 g2),(kp0 g3),(kp0 g4),(kp0 g5),(kp0 g6),(kp0 g7),(kp0 g8),(kp0 g9),(kp0 g10),(kp0 g11),(kp0 g12),(kp0 g13),(kp0 g14),(kp0 g15),(kp0 g18),(ka m3),(ka m5),(ka m6),(ka m7),(ka m8),(ka m9),(ka m10),(ka m11),(ka m12),(ka m13),(ka m14),(fun _=>kt (allT_cons h0 (allT_cons h1 (allT_cons h2 (allT_cons h3 (allT_cons h4 (allT_cons h5 (allT_cons h6 (allT_cons h7 (allT_cons h8 (allT_cons h9 (allT_cons h10 (allT_cons h11 (allT_cons h14 (allT_cons h15 allT_nil))))))))))))))),(ka m17),(ka m18),(by (have e14:more L 16 14=L 14:=more_ne (by decide));(have e15:more L 16 15=L 15:=more_ne (by decide));(have e16:more L 16 16=true:=more_eq);(have e17:more L 16 17=L 17:=more_ne (by decide));(try simp only [e14,e15,e16,e17,h14,h15,n17,hL]);first | done | rfl | (simp only [e14,e15,e16,e17,h14,h15,n17,hL,if_true,if_false,Bool.false_eq_true];first | done | rfl | (simp (disch:=first|exact dsc|fail) only [go_sem,seval,-List.reduceReplicate,e14,e15,e16,e17,h14,h15,n17,hL,hBn,hB4,n0,nC_zero,mz_zero,hz,ite_f,ite_self]<;>rfl)))⟩
        · cases ho
          have h0:L 0=true:=hall ⟨0,.phase⟩ (by simp) rfl
          have d0:=g0 h0
          have h1:L 1=true:=hall ⟨1,.phase⟩ (by simp) rfl
          have d1:=g1 h1
          have h2:L 2=true:=hall ⟨2,.phase⟩ (by simp) rfl
          have d2:=g2 h2
          have h3:L 3=true:=hall ⟨3,.phase⟩ (by simp) rfl
          have d3:=g3 h3
          have h4:L 4=true:=hall ⟨4,.phase⟩ (by simp) rfl
          have d4:=g4 h4
          have h5:L 5=true:=hall ⟨5,.phase⟩ (by simp) rfl
          have d5:=g5 h5
          have h6:L 6=true:=hall ⟨6,.phase⟩ (by simp) rfl
          have d6:=g6 h6
          have h7:L 7=true:=hall ⟨7,.phase⟩ (by simp) rfl
          have d7:=g7 h7
          have h8:L 8=true:=hall ⟨8,.phase⟩ (by simp) rfl
          have d8:=g8 h8
          have h9:L 9=true:=hall ⟨9,.phase⟩ (by simp) rfl
          have d9:=g9 h9
          have h10:L 10=true:=hall ⟨10,.phase⟩ (by simp) rfl
          have d10:=g10 h10
          have h11:L 11=true:=hall ⟨11,.phase⟩ (by simp) rfl
          have d11:=g11 h11
          have h12:L 12=true:=hall ⟨12,.data⟩ (by simp) rfl
          have d12:=g12 h12
          have h14:L 14=true:=hall ⟨14,.phase⟩ (by simp) rfl
          have d14:=g14 h14
          have h15:L 15=true:=hall ⟨15,.data⟩ (by simp) rfl
          have d15:=g15 h15
          have h16:L 16=true:=hall ⟨16,.chain⟩ (by simp) rfl
          have n18:=nfT m18 hL
          refine opA_unit rfl rfl (by simp (disch:=first|exact dsc|fail) only [go_sem,seval,-List.reduceReplicate,reduceIte,Bool.false_eq_true,if_false,if_true,f0,f1,f2,f3,f4,f5,f6,f7,f8,d0,d1,d2,d3,d4,d5,d6,d7,d8,d9,d10,d11,d12,d14,d15,h0,h1,h2,h3,h4,h5,h6,h7,h8,h9,h10,h11,h12,h14,h15,h16,n18,hL,hBn,hB4,n0,nC_zero,mz_zero,hz,ite_f,ite_self]<;>rfl) rfl ?_
          exact .inr ⟨f0,f1,f2,f3,f4,f5,f6,f7,f8,(kp0 g0),(kp0 g1),(kp0 g2),(kp0 g3),(kp0 g4),(kp0 g5),(kp0 g6),(kp0 g7),(kp0 g8),(kp0 g9),(kp0 g10),(kp0 g11),(kp0 g12),(kp0 g13),(kp0 g14),(kp0 g15),(kp0 g18),(ka m3),(ka m5),(ka m6),(ka m7),(ka m8),(ka m9),(ka m10),(ka m11),(ka m12),(ka m13),(ka m14),(ka m16),(fun _=>kt (allT_cons h0 (allT_cons h1 (allT_cons h2 (allT_cons h3 (allT_cons h4 (allT_cons h5 (allT_cons h6 (allT_cons h7 (allT_cons h8 (allT_cons h9 (allT_cons h10 (allT_cons h11 (allT_cons h12 (allT_cons h14 (allT_cons h15 (allT_cons h16 allT_nil))))))))))))))))),(ka m18),(by (have e14:more L 17 14=L 14:=more_ne (by decide));(have e15:more L 17 15=L 15:=more_ne (by decide));(have e16:more L 17 16=L 16:=more_ne (by decide));(have e17:more L 17 17=true:=more_eq);(try simp only [e14,e15,e16,e17,h14,h15,h16,hL]);first | done | rfl | (simp only [e14,e15,e16,e17,h14,h15,h16,hL,if_true,if_false,Bool.false_eq_true];first | done | rfl | (simp (disch:=first|exact dsc|fail) only [go_sem,seval,-List.reduceReplicate,e14,e15,e16,e17,h14,h15,h16,hL,hBn,hB4,n0,nC_zero,mz_zero,hz,ite_f,ite_self]<;>rfl)))⟩
        · cases ho
          have h0:L 0=true:=hall ⟨0,.phase⟩ (by simp) rfl
          have d0:=g0 h0
          have h1:L 1=true:=hall ⟨1,.phase⟩ (by simp) rfl
          have d1:=g1 h1
          have h2:L 2=true:=hall ⟨2,.phase⟩ (by simp) rfl
          have d2:=g2 h2
          have h3:L 3=true:=hall ⟨3,.phase⟩ (by simp) rfl
          have d3:=g3 h3
          have h4:L 4=true:=hall ⟨4,.phase⟩ (by simp) rfl
          have d4:=g4 h4
          have h5:L 5=true:=hall ⟨5,.phase⟩ (by simp) rfl
          have d5:=g5 h5
          have h6:L 6=true:=hall ⟨6,.phase⟩ (by simp) rfl
          have d6:=g6 h6
          have h7:L 7=true:=hall ⟨7,.phase⟩ (by simp) rfl
          have d7:=g7 h7
          have h8:L 8=true:=hall ⟨8,.phase⟩ (by simp) rfl
          have d8:=g8 h8
          have h9:L 9=true:=hall ⟨9,.phase⟩ (by simp) rfl
          have d9:=g9 h9
          have h10:L 10=true:=hall ⟨10,.phase⟩ (by simp) rfl
          have d10:=g10 h10
          have h11:L 11=true:=hall ⟨11,.phase⟩ (by simp) rfl
          have d11:=g11 h11
          have h12:L 12=true:=hall ⟨12,.phase⟩ (by simp) rfl
          have d12:=g12 h12
          have h13:L 13=true:=hall ⟨13,.data⟩ (by simp) rfl
          have d13:=g13 h13
          have h14:L 14=true:=hall ⟨14,.phase⟩ (by simp) rfl
          have d14:=g14 h14
          have h15:L 15=true:=hall ⟨15,.phase⟩ (by simp) rfl
          have d15:=g15 h15
          have h16:L 16=true:=hall ⟨16,.phase⟩ (by simp) rfl
          have h17:L 17=true:=hall ⟨17,.chain⟩ (by simp) rfl
          refine opA_val (.p (i64 6)) rfl rfl (by simp (disch:=first|exact dsc|fail) only [go_sem,seval,-List.reduceReplicate,reduceIte,Bool.false_eq_true,if_false,if_true,f0,f1,f2,f3,f4,f5,f6,f7,f8,d0,d1,d2,d3,d4,d5,d6,d7,d8,d9,d10,d11,d12,d13,d14,d15,h0,h1,h2,h3,h4,h5,h6,h7,h8,h9,h10,h11,h12,h13,h14,h15,h16,h17,hL,hBn,hB4,n0,nC_zero,mz_zero,hz,ite_f,ite_self]<;>rfl) rfl ?_
          exact .inr ⟨(kf f0),(kf f1),(kf f2),(kf f3),(kf f4),(kf f5),(kf f6),(kf f7),(kf f8),(kp g0),(kp g1),(kp g2),(kp g3),(kp g4),(kp g5),(kp g6),(kp g7),(kp g8),(kp g9),(kp g10),(kp g11),(kp g12),(kp g13),(kp g14),(kp g15),kn,(ka m3),(ka m5),(ka m6),(ka m7),(ka m8),(ka m9),(ka m10),(ka m11),(ka m12),(ka m13),(ka m14),(ka m16),(ka m17),(fun _=>kt (allT_cons h0 (allT_cons h1 (allT_cons h2 (allT_cons h3 (allT_cons h4 (allT_cons h5 (allT_cons h6 (allT_cons h7 (allT_cons h8 (allT_cons h9 (allT_cons h10 (allT_cons h11 (allT_cons h12 (allT_cons h13 (allT_cons h14 (allT_cons h15 (allT_cons h16 (allT_cons h17 allT_nil))))))))))))))))))),(by (have e14:more L 18 14=L 14:=more_ne (by decide));(have e15:more L 18 15=L 15:=more_ne (by decide));(have e16:more L 18 16=L 16:=more_ne (by decide));(have e17:more L 18 17=L 17:=more_ne (by decide));(try simp only [e14,e15,e16,e17,h14,h15,h16,h17]);first | done | rfl | (simp only [e14,e15,e16,e17,h14,h15,h16,h17,if_true,if_false,Bool.false_eq_true];first | done | rfl | (simp (disch:=first|exact dsc|fail) only [go_sem,seval,-List.reduceReplicate,e14,e15,e16,e17,h14,h15,h16,h17,hBn,hB4,n0,nC_zero,mz_zero,hz,ite_f,ite_self]<;>rfl)))⟩
        · simp at ho
    · intro L env' H' hall hI
      rcases hI with hI | hI
      (obtain ⟨f0,f1,f2,f3,f4,f5,f6,f7,f8,g0,g1,g2,g3,g4,g5,g6,g7,g8,g9,g10,g11,g12,g13,g14,g15,g18,_,_,_,_,_,_,_,_,_,_,_,_,_,_,rfl⟩:=hI;have l14:=hall 14 (by decide);have l15:=hall 15 (by decide);have l16:=hall 16 (by decide);have l17:=hall 17 (by decide);replace g0:=g0 (hall 0 (by decide));replace g1:=g1 (hall 1 (by decide));replace g2:=g2 (hall 2 (by decide));replace g3:=g3 (hall 3 (by decide));replace g4:=g4 (hall 4 (by decide));replace g5:=g5 (hall 5 (by decide));replace g6:=g6 (hall 6 (by decide));replace g7:=g7 (hall 7 (by decide));replace g8:=g8 (hall 8 (by decide));replace g9:=g9 (hall 9 (by decide));replace g10:=g10 (hall 10 (by decide));replace g11:=g11 (hall 11 (by decide));replace g12:=g12 (hall 12 (by decide));replace g13:=g13 (hall 13 (by decide));replace g14:=g14 (hall 14 (by decide));replace g15:=g15 (hall 15 (by decide));replace g18:=g18 (hall 18 (by decide));simp only [l14,l15,l16,l17,if_true];clear hall);rotate_left
      (obtain ⟨f0,f1,f2,f3,f4,f5,f6,f7,f8,g0,g1,g2,g3,g4,g5,g6,g7,g8,g9,g10,g11,g12,g13,g14,g15,g18,_,_,_,_,_,_,_,_,_,_,_,_,_,_,rfl⟩:=hI;have l14:=hall 14 (by decide);have l15:=hall 15 (by decide);have l16:=hall 16 (by decide);have l17:=hall 17 (by decide);replace g0:=g0 (hall 0 (by decide));replace g1:=g1 (hall 1 (by decide));replace g2:=g2 (hall 2 (by decide));replace g3:=g3 (hall 3 (by decide));replace g4:=g4 (hall 4 (by decide));replace g5:=g5 (hall 5 (by decide));replace g6:=g6 (hall 6 (by decide));replace g7:=g7 (hall 7 (by decide));replace g8:=g8 (hall 8 (by decide));replace g9:=g9 (hall 9 (by decide));replace g10:=g10 (hall 10 (by decide));replace g11:=g11 (hall 11 (by decide));replace g12:=g12 (hall 12 (by decide));replace g13:=g13 (hall 13 (by decide));replace g14:=g14 (hall 14 (by decide));replace g15:=g15 (hall 15 (by decide));replace g18:=g18 (hall 18 (by decide));simp only [l14,l15,l16,l17,if_true];clear hall);rotate_left
      · subst hB
        refine ihE _ _ ?_ ?_
        · simp (disch:=first|exact dsc|fail) only [go_sem,seval,-List.reduceReplicate,f0,f1,f2,f3,f4,f5,f6,f7,f8,g18]<;>(repeat' (first | rfl | refine And.intro ?_ ?_))
        · exact .mk [_,_] rfl
      · subst hB
        refine ihE _ _ ?_ ?_
        · simp (disch:=first|exact dsc|fail) only [go_sem,seval,-List.reduceReplicate,f0,f1,f2,f3,f4,f5,f6,f7,f8,g18]<;>(repeat' (first | rfl | refine And.intro ?_ ?_))
        · exact .mk [_,_] rfl
  -- R9
  obtain ⟨e2,e3,e4,e7,e8,e9,e12,e13,e15,e18⟩:=E
  (repeat refine .z rfl ?_);refine .text ?_;simp (disch:=first|exact dsc|fail) only [go_sem,seval,-List.reduceReplicate,e2,e3,e4,e7,e8,e9,e12,e13,e15,e18]
  refine CallK.of (fun R h=>New_spec 8 100 _ R h) ?_;simp (disch:=first|exact dsc|fail) only [go_sem,seval,-List.reduceReplicate,e2,e3,e4,e7,e8,e9,e12,e13,e15,e18]
  refine CallK.of (fun R h=>Receive_spec g (newS 8 100) (okNew ⟨by decide,by decide⟩) p0 (by rw [n0];omega) 1 _ R h) ?_;simp (disch:=first|exact dsc|fail) only [go_sem,seval,-List.reduceReplicate,F6,nC_zero,mz_zero,hz]
  (repeat refine .z rfl ?_);refine .text ?_;simp (disch:=first|exact dsc|fail) only [go_sem,seval,-List.reduceReplicate,e2,e3,e4,e7,e8,e9,e12,e13,e15,e18]
  refine CallK.of (fun R h=>Receive_spec g sA okA p0 (by rw [n0];omega) 100 _ R h) ?_;simp (disch:=first|exact dsc|fail) only [go_sem,seval,-List.reduceReplicate,F7,nC_zero,mz_zero,hz,e2,e3,e4,e7,e8,e9,e12,e13,e15,e18]
  (repeat refine .z rfl ?_);refine .text ?_;simp (disch:=first|exact dsc|fail) only [go_sem,seval,-List.reduceReplicate,e2,e3,e4,e7,e8,e9,e12,e13,e15,e18]
  refine CallK.of (fun R h=>Receive_spec g b1 okB1 p0 (by rw [n0];omega) 1 _ R h) ?_;simp (disch:=first|exact dsc|fail) only [go_sem,seval,-List.reduceReplicate,F8,nC_zero,mz_zero,hz,e2,e3,e4,e7,e8,e9,e12,e13,e15,e18]
  (repeat refine .z rfl ?_);refine .text ?_;simp (disch:=first|exact dsc|fail) only [go_sem,seval,-List.reduceReplicate,e2,e3,e4,e7,e8,e9,e12,e13,e15,e18]
  have hRoot:(mkAgg (setAt (AV.p (i64 2) :: AV.p (i64 0) :: AV.p (i64 0) :: AV.p (str ByteArray.empty) :: List.map AV.p (pl b8 (List.replicate 32 0#8)++[PV.sl true 1 [],PV.sl true 2 []])) 4 (cl b8 ((List.replicate 32 0#8).set 0 1#8)))).weak = .p (msg kRoot):=rfl
  rw [hRoot]
  refine CallK.of (fun R h=>Send_spec g b1 okB1 kRoot okRoot _ R h) ?_;simp (disch:=first|exact dsc|fail) only [go_sem,seval,-List.reduceReplicate,F9,nC_zero,mz_zero,hz,e2,e3,e4,e7,e8,e9,e12,e13,e15,e18]
  (repeat refine .z rfl ?_);refine .text ?_;simp (disch:=first|exact dsc|fail) only [go_sem,seval,-List.reduceReplicate,e2,e3,e4,e7,e8,e9,e12,e13,e15,e18]
  refine CallK.of (fun R h=>Receive_spec g a1 okA1 p1 (by have:=n1;omega) 1 _ R h) ?_;simp (disch:=first|exact dsc|fail) only [go_sem,seval,-List.reduceReplicate,F10,nC_zero,mz_zero,hz,e2,e3,e4,e7,e8,e9,e12,e13,e15,e18]
  (repeat refine .z rfl ?_);refine .text ?_;simp (disch:=first|exact dsc|fail) only [go_sem,seval,-List.reduceReplicate,e2,e3,e4,e7,e8,e9,e12,e13,e15,e18,hCoin]
  refine CallK.of (fun R h=>Send_spec g a2 okA2 kCoin okCoin _ R h) ?_;simp (disch:=first|exact dsc|fail) only [go_sem,seval,-List.reduceReplicate,F11,nC_zero,mz_zero,hz,e2,e3,e4,e7,e8,e9,e12,e13,e15,e18]
  (repeat refine .z rfl ?_);refine .text ?_;simp (disch:=first|exact dsc|fail) only [go_sem,seval,-List.reduceReplicate,e2,e3,e4,e7,e8,e9,e12,e13,e15,e18,hCoin]
  refine CallK.of (fun R h=>Send_spec g a3 okA3 kCoin okCoin _ R h) ?_;simp (disch:=first|exact dsc|fail) only [go_sem,seval,-List.reduceReplicate,F12,nC_zero,mz_zero,hz,e2,e3,e4,e7,e8,e9,e12,e13,e15,e18]
  (repeat refine .z rfl ?_);refine .text ?_;simp (disch:=first|exact dsc|fail) only [go_sem,seval,-List.reduceReplicate,e2,e3,e4,e7,e8,e9,e12,e13,e15,e18]
  refine CallK.of (fun R h=>Receive_spec g { sA with state:=5 } okLate p0 (by rw [n0];omega) 1 _ R h) ?_;simp (disch:=first|exact dsc|fail) only [go_sem,seval,-List.reduceReplicate,F13,nC_zero,mz_zero,hz,e2,e3,e4,e7,e8,e9,e12,e13,e15,e18]
  (repeat refine .z rfl ?_);refine .text ?_;simp (disch:=first|exact dsc|fail) only [go_sem,seval,-List.reduceReplicate,e2,e3,e4,e7,e8,e9,e12,e13,e15,e18]
  refine CallK.of (fun R h=>nil_arg (xs:=[]) (ys:=[]) (fl:=false) (sz:=1) (Decode_spec g [] (by simp) _ R h)) ?_;simp (disch:=first|exact dsc|fail) only [go_sem,seval,-List.reduceReplicate,F14,nC_zero,mz_zero,hz,e2,e3,e4,e7,e8,e9,e12,e13,e15,e18]
  (repeat refine .z rfl ?_)
  refine .openFast follows (by kernel_rfl) ?_
  simp only [List.append_eq,List.cons_append,List.nil_append]
  have x1:((bytesOf M0.text).toList == (bytesOf [99#8,111#8,117#8,110#8,116#8]).toList)=true:=beq_self_eq_true _
  have x2:((bytesOf b2.text).toList == (bytesOf [99#8,111#8,117#8,110#8,116#8]).toList)=true:=beq_self_eq_true _
  have x3:decide (M1.root.val=(List.replicate 32 0#8).set 0 1#8)=true:=decide_eq_true rfl
  have y1:a3.step=3:=rfl
  have y2:a3.state=2:=rfl
  have y3:zM.kind=0:=rfl
  have y4:a3.words=2:=rfl
  have y5:a3.rounds=3:=rfl
  have y6:a3.last=M2:=rfl
  have y7:(newS 1 1).last=zM:=rfl
  have z0:p0.length≤140737488355000:=by rw [n0];omega
  have z1:p1.length≤140737488355000:=by have:=n1;omega
  have z2:p2.length≤140737488355000:=by rw [n2];omega
  simp (disch:=first|exact dsc|fail) only [go_sem,seval,-List.reduceReplicate,e2,e3,e4,e7,e8,e9,e12,e13,e15,e18,n0,n2,x1,x2,x3,y1,y2,y3]
  refine CallD.still (fun R h=>Usage_spec a3 _ R h) ?_;simp (disch:=first|exact dsc|fail) only [go_sem,seval,-List.reduceReplicate,e2,e3,e4,e7,e8,e9,e12,e13,e15,e18,usage,y4,y5]
  refine CallD.still (fun R h=>Usage_spec a3 _ R h) ?_;simp (disch:=first|exact dsc|fail) only [go_sem,seval,-List.reduceReplicate,e2,e3,e4,e7,e8,e9,e12,e13,e15,e18,usage,y4,y5]
  refine CallD.still (fun R h=>Resend_spec g a3 okM2 _ R h) ?_;simp (disch:=first|exact dsc|fail) only [go_sem,seval,-List.reduceReplicate,e2,e3,e4,e7,e8,e9,e12,e13,e15,e18,y6]
  refine CallD.still (fun R h=>SameBytes_spec p2 p2 z2 z2 _ R h) ?_;simp (disch:=first|exact dsc|fail) only [go_sem,seval,-List.reduceReplicate,e2,e3,e4,e7,e8,e9,e12,e13,e15,e18]
  refine CallD.still (fun R h=>New_spec 1 1 _ R h) ?_;simp (disch:=first|exact dsc|fail) only [go_sem,seval,-List.reduceReplicate,e2,e3,e4,e7,e8,e9,e12,e13,e15,e18]
  refine CallD.still (fun R h=>Resend_spec g (newS 1 1) okzM _ R h) ?_;simp (disch:=first|exact dsc|fail) only [go_sem,seval,-List.reduceReplicate,e2,e3,e4,e7,e8,e9,e12,e13,e15,e18,y7,F15]
  have xL:a3.seen.val.length=32:=a3.seen.len
  have x4:decide (a3.seen.val=pair (pair (pair (List.replicate 32 0#8) (sha p0)) (sha p1)) (sha p2))=true:=decide_eq_true rfl
  refine CallD.still (fun R h=>SumR_spec p0 z0 _ R h) ?_;simp (disch:=first|exact dsc|fail) only [go_sem,seval,-List.reduceReplicate,e2,e3,e4,e7,e8,e9,e12,e13,e15,e18]
  refine CallD.still (fun R h=>PairR_spec (List.replicate 32 0#8) (sha p0) hz (sha_len _) _ R h) ?_;simp (disch:=first|exact dsc|fail) only [go_sem,seval,-List.reduceReplicate,e2,e3,e4,e7,e8,e9,e12,e13,e15,e18]
  refine CallD.still (fun R h=>SumR_spec p1 z1 _ R h) ?_;simp (disch:=first|exact dsc|fail) only [go_sem,seval,-List.reduceReplicate,e2,e3,e4,e7,e8,e9,e12,e13,e15,e18]
  refine CallD.still (fun R h=>PairR_spec (pair (List.replicate 32 0#8) (sha p0)) (sha p1) pair_len (sha_len _) _ R h) ?_;simp (disch:=first|exact dsc|fail) only [go_sem,seval,-List.reduceReplicate,e2,e3,e4,e7,e8,e9,e12,e13,e15,e18]
  refine CallD.still (fun R h=>SumR_spec p2 z2 _ R h) ?_;simp (disch:=first|exact dsc|fail) only [go_sem,seval,-List.reduceReplicate,e2,e3,e4,e7,e8,e9,e12,e13,e15,e18]
  refine CallD.still (fun R h=>PairR_spec (pair (pair (List.replicate 32 0#8) (sha p0)) (sha p1)) (sha p2) pair_len (sha_len _) _ R h) ?_;simp (disch:=first|exact dsc|fail) only [go_sem,seval,-List.reduceReplicate,e2,e3,e4,e7,e8,e9,e12,e13,e15,e18]
  rw [eqD xL pair_len,x4]
  simp (disch:=first|exact dsc|fail) only [go_sem,seval,-List.reduceReplicate,e2,e3,e4,e7,e8,e9,e12,e13,e15,e18]
  (repeat refine .z rfl ?_);refine .rt Tryd.func7 (by rw [Tryd.results7]) (hR := ?_);simp (disch:=first|exact dsc|fail) only [go_sem,seval,-List.reduceReplicate]
  exact h
end walks
end Go.Proofs.YtmoecjgehdkhkaaDoor

/-
  Sessions: every string that is decoded is the encoding of its message.
-/
namespace Go.Proofs.YtmoecjgehdkhkaaDoor
open Go Go.AL

theorem dec_cases (b:By):(dec b=(zM,6) ∨ dec b=(zM,5)) ∨ ((dec b).2=0∧enc (dec b).1=b):=by
  unfold dec decF
  split
  · exact .inl (.inl rfl)
  · split
    · rename_i h;exact .inr ⟨rfl,h⟩
    · exact .inl (.inr rfl)
section walks
variable {G:Globs} {r1 r2:Nat} {m1:List (Int × Rule)} {m2:List (Int × Int)}
set_option maxHeartbeats 4000000 in
set_option maxRecDepth 20000 in
theorem Canonical_spec (g:GR G r1 r2 m1 m2) (b:By) (hb:b.length≤9223372036854775807) (H:Hp) (R:AV → Hp → Prop) (h:R (.p (bo true)) H):ACall Tryd.prog G 5 [.p (.sl false 1 (pl b8 b))] H R:=by
  have hz:(List.replicate 32 0#8:By).length=32:=List.length_replicate
  refine ACall.of_run (raw:=[]) Tryd.func5 rfl Tryd.ntmps5 (by simp) fun hbel => ?_
  (repeat refine .z rfl ?_);refine .text ?_;simp (disch:=first|exact dsc|fail) only [go_sem,seval,-List.reduceReplicate]
  (repeat refine .z rfl ?_);refine .text ?_;simp (disch:=first|exact dsc|fail) only [go_sem,seval,-List.reduceReplicate]
  refine CallK.of (fun R h=>sanity_spec g _ R h) ?_;simp (disch:=first|exact dsc|fail) only [go_sem,seval,-List.reduceReplicate]
  (repeat refine .z rfl ?_);refine .text ?_;simp (disch:=first|exact dsc|fail) only [go_sem,seval,-List.reduceReplicate]
  cases c1:decide ((2000:Int) < (b.length:Int)) with
  | true =>
    (repeat refine .z rfl ?_);refine .ifT (by simp (disch:=first|exact dsc|fail) only [go_sem,seval,-List.reduceReplicate,c1]) ?_
    (repeat refine .z rfl ?_);refine .text ?_;simp (disch:=first|exact dsc|fail) only [go_sem,seval,-List.reduceReplicate]
    (repeat refine .z rfl ?_);refine .rt Tryd.func5 (by rw [Tryd.results5]) (hR := ?_);simp (disch:=first|exact dsc|fail) only [go_sem,seval,-List.reduceReplicate]
    exact h
  | false =>
    have hl:b.length≤2000:=by have:=of_decide_eq_false c1;omega
    (repeat refine .z rfl ?_);refine .ifF (by simp (disch:=first|exact dsc|fail) only [go_sem,seval,-List.reduceReplicate,c1]) ?_
    (repeat refine .z rfl ?_);refine .text ?_;simp (disch:=first|exact dsc|fail) only [go_sem,seval,-List.reduceReplicate]
    have y3:zM.kind=0:=rfl
    have y8:zM.values=[]:=rfl
    rcases dec_cases b with (he | he) | ⟨he,hc⟩
    · refine CallK.of (fun R h=>Decode_spec g b (by omega) _ R h) ?_;simp (disch:=first|exact dsc|fail) only [go_sem,seval,-List.reduceReplicate,he,mz_zero,hz]
      (repeat refine .z rfl ?_);refine .text ?_;simp (disch:=first|exact dsc|fail) only [go_sem,seval,-List.reduceReplicate]
      (repeat refine .z rfl ?_);refine .ifT (by simp (disch:=first|exact dsc|fail) only [go_sem,seval,-List.reduceReplicate]) ?_
      (repeat refine .z rfl ?_);refine .text ?_;simp (disch:=first|exact dsc|fail) only [go_sem,seval,-List.reduceReplicate,y3,y8]
      (repeat refine .z rfl ?_);refine .rt Tryd.func5 (by rw [Tryd.results5]) (hR := ?_);simp (disch:=first|exact dsc|fail) only [go_sem,seval,-List.reduceReplicate]
      exact h
    · refine CallK.of (fun R h=>Decode_spec g b (by omega) _ R h) ?_;simp (disch:=first|exact dsc|fail) only [go_sem,seval,-List.reduceReplicate,he,mz_zero,hz]
      (repeat refine .z rfl ?_);refine .text ?_;simp (disch:=first|exact dsc|fail) only [go_sem,seval,-List.reduceReplicate]
      (repeat refine .z rfl ?_);refine .ifT (by simp (disch:=first|exact dsc|fail) only [go_sem,seval,-List.reduceReplicate]) ?_
      (repeat refine .z rfl ?_);refine .text ?_;simp (disch:=first|exact dsc|fail) only [go_sem,seval,-List.reduceReplicate,y3,y8]
      (repeat refine .z rfl ?_);refine .rt Tryd.func5 (by rw [Tryd.results5]) (hR := ?_);simp (disch:=first|exact dsc|fail) only [go_sem,seval,-List.reduceReplicate]
      exact h
    · have hok:=(dec_ok b).1
      refine CallK.of (fun R h=>Decode_spec g b (by omega) _ R h) ?_;simp (disch:=first|exact dsc|fail) only [go_sem,seval,-List.reduceReplicate,he,mz_zero,hz]
      (repeat refine .z rfl ?_);refine .text ?_;simp (disch:=first|exact dsc|fail) only [go_sem,seval,-List.reduceReplicate]
      (repeat refine .z rfl ?_);refine .ifF (by simp (disch:=first|exact dsc|fail) only [go_sem,seval,-List.reduceReplicate]) ?_
      (repeat refine .z rfl ?_);refine .text ?_;simp (disch:=first|exact dsc|fail) only [go_sem,seval,-List.reduceReplicate]
      refine CallK.of (fun R h=>Encode_spec g (dec b).1 hok _ R h) ?_;simp (disch:=first|exact dsc|fail) only [go_sem,seval,-List.reduceReplicate,hc]
      refine CallK.of (fun R h=>SameBytes_spec b b (by omega) (by omega) _ R h) ?_;simp (disch:=first|exact dsc|fail) only [go_sem,seval,-List.reduceReplicate]
      (repeat refine .z rfl ?_);refine .rt Tryd.func5 (by rw [Tryd.results5]) (hR := ?_);simp (disch:=first|exact dsc|fail) only [go_sem,seval,-List.reduceReplicate]
      exact h
end walks
end Go.Proofs.YtmoecjgehdkhkaaDoor

/-
  Sessions: the package-level maps,read from what the rows say is laid.
-/
namespace Go.Proofs.YtmoecjgehdkhkaaDoor
open Go Go.AL Go.WideElems

section maps
variable {H:Type} {enc:TypeId × Value → H} {P:Program} {W:World} {sp:Nat → Bool} {held:Bool} {t k e:TypeId} {α:Type}
theorem insert_perm {x:Lit × DataW H} : ∀ l,(DataW.insert x l).Perm (x :: l)
  | [] => .refl _
  | y :: r=>by
    unfold DataW.insert
    split
    · exact .refl _
    · exact ((insert_perm r).cons y).trans (.swap x y r)
theorem sorted_perm : ∀ l:List (Lit × DataW H),(l.foldr DataW.insert []).Perm l
  | [] => .refl _
  | x :: l=>(insert_perm _).trans ((sorted_perm l).cons x)
theorem assoc_of {κ α:Type} [DecidableEq κ] {T:κ → Option α} {k:κ} : ∀ {m:List (κ × α)},(∀ p∈m,T p.1=some p.2) → (∀ v,T k=some v → ∃ p∈m,p.1=k) → assoc k m=T k
  | [],_,h2=>by
    cases e:T k with
    | none=>rfl
    | some v=>obtain ⟨p,hp,_⟩:=h2 v e;cases hp
  | (a,x) :: m,h1,h2=>by
    unfold assoc
    split
    · rename_i h;subst h;exact (h1 _ (List.mem_cons_self ..)).symm
    · rename_i h
      exact assoc_of (fun p hp=>h1 p (List.mem_cons_of_mem _ hp)) fun v hv=>by
        obtain ⟨p,hp,hk⟩:=h2 v hv
        rcases List.mem_cons.1 hp with rfl | hp
        · exact absurd hk h
        · exact ⟨p,hp,hk⟩
theorem list_choose {α β:Type} {Q:α → β → Prop} : ∀ {l:List α},(∀ x∈l,∃ y,Q x y) → ∃ m:List β,m.length=l.length ∧ ∀ (j:Nat) x y,l[j]? = some x → m[j]? = some y → Q x y
  | [],_=>⟨[],rfl,fun j x y h=>by simp at h⟩
  | a :: l,h=>by
    obtain ⟨y,hy⟩:=h a (List.mem_cons_self ..)
    obtain ⟨m,hm,hq⟩:=list_choose (l:=l) fun x hx=>h x (List.mem_cons_of_mem _ hx)
    refine ⟨y :: m,by simp [hm],fun j => ?_⟩
    cases j with
    | zero=>intro x z h1 h2;simp at h1 h2;subst h1 h2;exact hy
    | succ j=>intro x z h1 h2;simp at h1 h2;exact hq j x z h1 h2
theorem key_int (hk:P.underlying k=some (.int .i64)) {v:Value} {kl:Lit} (h:keyOf P k v=some kl) : ∃ z,v=iev z∧kl = .int .i64 z∧okI z:=by
  unfold keyOf at h
  rw [hk] at h
  unfold mapKey at h
  rw [hk] at h
  cases v with
  | int q n =>
    simp only at h
    split at h
    · rename_i hc
      obtain ⟨rfl,hw⟩:=hc
      cases h
      simp only [Lit.wf,Bool.and_eq_true,decide_eq_true_eq] at hw
      exact ⟨n,rfl,rfl,hw⟩
    · cases h
  | _=>cases h
theorem gmap_of (ht:P.underlying t=some (.map k e)) (hk:P.underlying k=some (.int .i64)) {fuel:Nat} {cs:List Value} {L:List (Lit × DataW H)} {p:List MemPlace} (h:DataW.trod enc P W 0 sp held fuel t cs=some (.map L,p)) (T:Int → Option α) (f:α → AV)
    (hbel : ∀ v n,BelowN n (f v))
    (hL : ∀ (n:Nat) kk d,(kk,d)∈L → ∀ v q,elemAt enc P W 0 sp held n e v=some (d,q) → ∃ z x,kk = .int .i64 z∧T z=some x∧RelV σ0 H0 W (f x) v)
    (hT : ∀ z x,T z=some x → ∃ d,(Lit.int .i64 z,d)∈L) :
    ∃ b m,cs=[.map (some b)]∧GMap σ0 H0 W b (tm iev f m)∧(∀ q∈m,okI q.1) ∧ ∀ z,assoc z m=T z:=by
  rcases open_map ht h with ⟨_,hx⟩ | ⟨b,es,clock,n,_,hcs,hb,_,F,hx⟩
  · cases hx
  · obtain ⟨s1,s2,s3⟩:=F.stamped
    have hLe:L=(es.toList.map (rg P k (elemAt enc P W 0 sp held n e))).foldr DataW.insert []:=by
      have:=congrArg Prod.fst hx
      simpa using this
    have hperm:=sorted_perm (es.toList.map (rg P k (elemAt enc P W 0 sp held n e)))
    rw [←hLe] at hperm
    obtain ⟨m,hm,hq⟩:=list_choose (Q:=fun (x:MapEntry) (q:Int × α)=>x.key=iev q.1∧okI q.1∧T q.1=some q.2∧RelV σ0 H0 W (f q.2) x.val∧(rg P k (elemAt enc P W 0 sp held n e) x).1 = .int .i64 q.1) (l:=es.toList) fun x hx=>by
      obtain ⟨y,hy⟩:=F.reads x hx
      have hr:=rg_of hy
      obtain ⟨w,hw,hy2⟩:=rd_val hy
      have hmem:(y.1,y.2)∈L:=hperm.mem_iff.2 (List.mem_map.2 ⟨x,hx,hr⟩)
      obtain ⟨z,hz1,hz2,hz3⟩:=key_int hk (rd_key hy)
      obtain ⟨z',a,h1,h2,h3⟩:=hL n y.1 y.2 hmem x.val w.2 (by rw [hw,hy2])
      rw [hz2] at h1
      cases h1
      exact ⟨(z,a),hz1,hz3,h2,h3,by rw [hr];exact hz2⟩
    have hget : ∀ {q:Int × α},q∈m → ∃ x∈es.toList,x.key=iev q.1∧okI q.1∧T q.1=some q.2:=fun {q} hqm=>by
      obtain ⟨j,hj⟩:=List.getElem?_of_mem hqm
      have hlt:j < es.toList.length:=by have:=(List.getElem?_eq_some_iff.1 hj).1;omega
      obtain ⟨h1,h2,h3,_⟩:=hq j _ q (List.getElem?_eq_getElem hlt) hj
      exact ⟨_,List.getElem_mem hlt,h1,h2,h3⟩
    have hkeys:(tm iev f m).map (·.1)=es.toList.map (·.key):=by
      apply List.ext_getElem?
      intro j
      simp only [tm,List.map_map,List.getElem?_map]
      cases hj:m[j]? with
      | none =>
        have:es.toList[j]? = none:=by
          rw [List.getElem?_eq_none_iff] at hj ⊢;omega
        rw [this];rfl
      | some q =>
        have hlt:j < es.toList.length:=by have:=(List.getElem?_eq_some_iff.1 hj).1;omega
        rw [List.getElem?_eq_getElem hlt]
        obtain ⟨h1,_⟩:=hq j _ q (List.getElem?_eq_getElem hlt) hj
        simpa using h1.symm
    refine ⟨b,m,hcs,⟨⟨es,clock,hb,by simp [tm,hm],?_,?_⟩,free0 b,?_⟩,?_,?_⟩
    · rw [hkeys]
      exact s3
    · intro j x q hx hq'
      simp only [tm,List.getElem?_map,Option.map_eq_some_iff] at hq'
      obtain ⟨q0,hq0,rfl⟩:=hq'
      obtain ⟨h1,_,_,h4,_⟩:=hq j x q0 (by simpa using hx) hq0
      exact ⟨h1,h4⟩
    · intro q hq' n
      simp only [tm,List.mem_map] at hq'
      obtain ⟨q0,_,rfl⟩:=hq'
      exact hbel _ _
    · intro q hqm
      obtain ⟨_,_,_,h,_⟩:=hget hqm
      exact h
    · intro z
      refine assoc_of (fun q hqm => ?_) fun v hv => ?_
      · obtain ⟨_,_,_,_,h⟩:=hget hqm
        exact h
      · obtain ⟨d,hd⟩:=hT z v hv
        obtain ⟨x,hx,hr⟩:=List.mem_map.1 (hperm.mem_iff.1 hd)
        obtain ⟨j,hj⟩:=List.getElem?_of_mem hx
        have hlt:j < m.length:=by have:=(List.getElem?_eq_some_iff.1 hj).1;omega
        obtain ⟨_,_,_,_,h5⟩:=hq j x _ hj (List.getElem?_eq_getElem hlt)
        refine ⟨m[j],List.getElem_mem hlt,?_⟩
        rw [hr] at h5
        cases h5
        rfl
theorem trod_int {q:IntKind} (ht:P.underlying t=some (.int q)) {fuel:Nat} {c:Value} {z:Int} {kd:IntKind} {p:List MemPlace} (h:DataW.trod enc P W 0 sp held fuel t [c]=some (.lit (.int kd z),p)):c = .int q z:=by
  cases fuel with
  | zero=>simp [DataW.trod] at h
  | succ n =>
    rw [DataW.trod_step] at h
    unfold DataW.trodStep at h
    rw [ht] at h
    cases c<;>simp at h
    obtain ⟨⟨rfl,_⟩,⟨_,rfl⟩,_⟩:=h
    rfl
end maps
theorem elem_int {P:Program} {W:World} {sp:Nat → Bool} {held:Bool} {H:Type} {enc:TypeId × Value → H} {e:TypeId} (he:P.underlying e=some (.int .i64)) {n:Nat} {v:Value} {z:Int} {kd:IntKind} {q:List MemPlace} (h:elemAt enc P W 0 sp held n e v=some (.lit (.int kd z),q)):v = .int .i64 z:=by
  unfold elemAt at h
  split at h
  · rename_i hf
    cases v with
    | agg cs=>simp [Value.formed,he] at hf
    | tuple cs=>simp [Value.formed] at hf
    | _=>exact trod_int he h
  · cases h
theorem states_map {W:World} {fuel:Nat} {cs:List Value} {p:List MemPlace} {sp:Nat → Bool} {held:Bool} {enc:TypeId × Value → Unit} (h:DataW.trod enc Tryd.prog W 0 sp held fuel 120 cs=some (Rows.laid_attestor_session_states,p)) :
    ∃ b m,cs=[.map (some b)]∧GMap σ0 H0 W b (tm iev ivv m)∧(∀ q∈m,okI q.1) ∧ ∀ z,assoc z m=stateT z:=by
  refine gmap_of Tryd.underlying120 Tryd.underlying3 h stateT ivv (fun v n => .p _) ?_ ?_
  · intro n kk d hm v q he
    simp only [List.mem_cons,List.not_mem_nil,or_false,Prod.mk.injEq] at hm
    (rcases hm with ⟨rfl,rfl⟩ | ⟨rfl,rfl⟩ | ⟨rfl,rfl⟩ | ⟨rfl,rfl⟩ | ⟨rfl,rfl⟩ | ⟨rfl,rfl⟩ | ⟨rfl,rfl⟩)<;>(obtain rfl:=elem_int Tryd.underlying3 he;exact ⟨_,_,rfl,rfl,.p (.s _ rfl)⟩)
  · intro z x hz
    have hk:z=1 ∨ z=2 ∨ z=3 ∨ z=4 ∨ z=5 ∨ z=6 ∨ z=7:=by
      unfold stateT at hz
      repeat' split at hz
      all_goals first | omega | cases hz
    (rcases hk with rfl | rfl | rfl | rfl | rfl | rfl | rfl)<;>exact ⟨_,by simp [Rows.laid_attestor_session_states];rfl⟩

theorem trod_func {H:Type} {enc:TypeId × Value → H} {P:Program} {W:World} {sp:Nat → Bool} {t:TypeId} {ps rs:Array TypeId} {va:Bool} (ht:P.underlying t=some (.func ps rs va)) {fuel:Nat} {c:Value} {x:H} {p:List MemPlace} (h:DataW.trod enc P W 0 sp true fuel t [c]=some (.held x,p)) : ∃ fn a b,c = .func fn a b∧enc (t,c)=x:=by
  cases fuel with
  | zero=>simp [DataW.trod] at h
  | succ n =>
    rw [DataW.trod_step] at h
    unfold DataW.trodStep at h
    rw [ht] at h
    cases c<;>simp at h
    exact ⟨_,_,_,rfl,h.1⟩
theorem elem_rule {W:World} {sp:Nat → Bool} {H:Type} {enc:TypeId × Value → H} {n:Nat} {v:Value} {a b:Int} {ka kb:IntKind} {x:H} {q:List MemPlace} (h:elemAt enc Tryd.prog W 0 sp true n 111 v=some (.agg [.lit (.int ka a),.lit (.int kb b),.held x],q)) :
    ∃ fn c d,v = .agg #[.int .i64 a,.int .i64 b,.func fn c d]∧enc (109,.func fn c d)=x:=by
  unfold elemAt at h
  split at h
  · rename_i hf
    cases v with
    | agg cs =>
      simp only [Value.formed,Tryd.underlying111,cells111,beq_iff_eq] at hf
      obtain ⟨c1,c2,c3,rfl⟩ : ∃ c1 c2 c3,cs = #[c1,c2,c3]:=by
        obtain ⟨l⟩:=cs
        match l,hf with
        | [c1,c2,c3],_=>exact ⟨c1,c2,c3,rfl⟩
      cases n with
      | zero=>simp [DataW.trod] at h
      | succ n =>
        rw [DataW.trod_step] at h
        unfold DataW.trodStep at h
        simp only [Tryd.underlying111,cells111,Value.cells] at h
        simp only [List.length_cons,List.length_nil,if_true,Option.map_eq_some_iff,Prod.mk.injEq,DataW.agg.injEq] at h
        obtain ⟨xs,hm,hx,_⟩:=h
        simp only [List.mapM_cons,List.mapM_nil,cells3,cells109,List.drop_zero,List.drop_succ_cons,List.take_succ_cons,List.take_zero,Option.bind_eq_bind,Option.bind_eq_some_iff,Option.pure_def,Option.some.injEq] at hm
        obtain ⟨y1,h1,y23,⟨y2,h2,y3s,⟨y3,h3,hn,rfl,rfl⟩,rfl⟩,rfl⟩:=hm
        obtain ⟨d1,q1⟩:=y1
        obtain ⟨d2,q2⟩:=y2
        obtain ⟨d3,q3⟩:=y3
        simp only [List.map_cons,List.map_nil,List.cons.injEq,and_true] at hx
        obtain ⟨rfl,rfl,rfl⟩:=hx
        obtain rfl:=trod_int Tryd.underlying3 h1
        obtain rfl:=trod_int Tryd.underlying3 h2
        obtain ⟨fn,c,d,rfl,h4⟩:=trod_func Tryd.underlying109 h3
        exact ⟨fn,c,d,rfl,h4⟩
    | tuple cs=>simp [Value.formed] at hf
    | _=>simp [Value.formed,Tryd.underlying111] at hf
  · cases h

theorem toUTF8_inj {a b:String} (h:a.toUTF8.data.toList=b.toUTF8.data.toList):a=b:=by
  refine String.toByteArray_inj.1 ?_
  show a.toUTF8=b.toUTF8
  have:=Array.toList_inj.1 h
  cases ha:a.toUTF8;cases hb:b.toUTF8
  rw [ha,hb] at this
  cases this;rfl
theorem rule_rel {W:World} {sp:Nat → Bool} {n:Nat} {v:Value} {a b:Int} {ka kb:IntKind} {nm:String} {fid:FuncId} {q:List MemPlace} {x:UInt8} {r:List UInt8} (hx:nm.toUTF8.data.toList=x :: r) (hf:Tryd.prog.funcNamed nm=some fid)
    (h:elemAt (funcToken Tryd.prog) Tryd.prog W 0 sp true n 111 v=some (.agg [.lit (.int ka a),.lit (.int kb b),.held (x :: r)],q)):RelV σ0 H0 W (rlv ⟨a,b,fid⟩) v:=by
  obtain ⟨fn,c,d,rfl,h1⟩:=elem_rule h
  obtain ⟨f,g,h2,_,h4,h5⟩:=funcToken_tells h1
  cases h2
  have hn:g.name=nm:=toUTF8_inj (h5.trans hx.symm)
  rw [hn,hf] at h4
  cases h4
  refine .agg _ rfl ?_ ?_
  · intro i v hv
    rcases i with _ | _ | _ | i<;>simp at hv<;>subst hv<;>rfl
  · intro i y v hy hv
    rcases i with _ | _ | _ | i<;>simp at hy hv<;>subst hy<;>subst hv
    · exact .p (.s _ rfl)
    · exact .p (.s _ rfl)
    · exact .clo _ _ rfl rfl (fun i x v h=>by simp at h) (fun i x v h=>by simp at h)
def rulesD:DataW Unit:=match (Rows.laid_attestor_session_rules:DataW Unit) with
  | .iface _ d=>d
  | d=>d
theorem rules_map {W:World} {fuel:Nat} {cs:List Value} {p:List MemPlace} {sp:Nat → Bool} (h:DataW.trod (funcToken Tryd.prog) Tryd.prog W 0 sp true fuel 112 cs=some (rulesD.funcsOut,p)) :
    ∃ b m,cs=[.map (some b)]∧GMap σ0 H0 W b (tm iev rlv m)∧(∀ q∈m,okI q.1) ∧ ∀ z,assoc z m=ruleT z:=by
  refine gmap_of Tryd.underlying112 Tryd.underlying3 h ruleT rlv (fun v n => ?_) ?_ ?_
  · refine .agg _ fun i y hy => ?_
    rcases i with _ | _ | _ | i<;>simp at hy<;>subst hy
    · exact .p _
    · exact .p _
    · exact .clo _ _ _ (fun i y hy=>by simp at hy) (fun i y hy=>by simp at hy)
  · intro n kk d hm v q he
    simp only [DataW.funcsOut,DataW.funcsOutAll,DataW.funcsOutEntries,List.mem_cons,List.not_mem_nil,or_false,Prod.mk.injEq] at hm
    rcases hm with ⟨rfl,rfl⟩ | ⟨rfl,rfl⟩ | ⟨rfl,rfl⟩ | ⟨rfl,rfl⟩ | ⟨rfl,rfl⟩ | ⟨rfl,rfl⟩ | ⟨rfl,rfl⟩
    · exact ⟨_, _, rfl, rfl, rule_rel (nm := "attestor/session.rules$1") rfl (by kernel_rfl) he⟩
    · exact ⟨_, _, rfl, rfl, rule_rel (nm := "attestor/session.empty") rfl (by kernel_rfl) he⟩
    · exact ⟨_, _, rfl, rfl, rule_rel (nm := "attestor/session.rules$2") rfl (by kernel_rfl) he⟩
    · exact ⟨_, _, rfl, rfl, rule_rel (nm := "attestor/session.rules$3") rfl (by kernel_rfl) he⟩
    · exact ⟨_, _, rfl, rfl, rule_rel (nm := "attestor/session.rules$4") rfl (by kernel_rfl) he⟩
    · exact ⟨_, _, rfl, rfl, rule_rel (nm := "attestor/session.empty") rfl (by kernel_rfl) he⟩
    · exact ⟨_, _, rfl, rfl, rule_rel (nm := "attestor/session.empty") rfl (by kernel_rfl) he⟩
  · intro z x hz
    have hk:z=1 ∨ z=2 ∨ z=3 ∨ z=4 ∨ z=5 ∨ z=6 ∨ z=7:=by
      unfold ruleT at hz
      repeat' split at hz
      all_goals first | omega | cases hz
    rcases hk with rfl | rfl | rfl | rfl | rfl | rfl | rfl
    · exact ⟨_,.head _⟩
    · exact ⟨_,.tail _ (.head _)⟩
    · exact ⟨_,.tail _ (.tail _ (.head _))⟩
    · exact ⟨_,.tail _ (.tail _ (.tail _ (.head _)))⟩
    · exact ⟨_,.tail _ (.tail _ (.tail _ (.tail _ (.head _))))⟩
    · exact ⟨_,.tail _ (.tail _ (.tail _ (.tail _ (.tail _ (.head _)))))⟩
    · exact ⟨_,.tail _ (.tail _ (.tail _ (.tail _ (.tail _ (.tail _ (.head _))))))⟩
end Go.Proofs.YtmoecjgehdkhkaaDoor

/-
  What the laws' rows give their walks: the tables and the maps,a world for the witness,what the arguments read as.
-/
namespace Go.Proofs.YtmoecjgehdkhkaaDoor
open Go Go.AL Go.ChangeShapes Go.WideShapes Go.ChangeAt Go.RowKit

theorem own:ownKnob Tryd.prog.godebug=none:=by kernel_rfl
theorem laidOut:laidOutB Tryd.prog=true:=by kernel_rfl
def varR:String:=Rows.sessionCanonicalRow.named[0]!
def varI:String:=Rows.sessionCanonicalRow.named[1]!
def varC:String:=Rows.sessionCanonicalRow.named[2]!
def varS:String:=Rows.sessionCanonicalRow.named[3]!
theorem gConst:Tryd.prog.globalNamed varC=some 3:=by kernel_rfl
theorem gInit:Tryd.prog.globalNamed varI=some 1:=by kernel_rfl
theorem gRules:Tryd.prog.globalNamed varR=some 0:=by kernel_rfl
theorem gStates:Tryd.prog.globalNamed varS=some 2:=by kernel_rfl
theorem gConstT:(Tryd.prog.globals[3]?).map (·.type)=some 121:=by kernel_rfl
theorem gInitT:(Tryd.prog.globals[1]?).map (·.type)=some 94:=by kernel_rfl
theorem gRulesT:(Tryd.prog.globals[0]?).map (·.type)=some 112:=by kernel_rfl
theorem gStatesT:(Tryd.prog.globals[2]?).map (·.type)=some 120:=by kernel_rfl

def kz:List Int:=ks.map fun x=>(x.toNat:Int)
def iz:List Int:=inits.map fun x=>(x.toNat:Int)
theorem met_tail {P:Program} {x:String × DataW Unit} {l:List (String × DataW Unit)} {W:World} (h:laidMet P (x :: l) W):laidMet P l W:=by
  obtain ⟨ps,⟨g',t',cs,fuel,p,q,_,_,_,_,hq,hps⟩,hn,ha⟩:=h
  subst hps
  exact ⟨q,hq,(List.nodup_append.1 hn).2.1,fun b off hb=>ha b off (List.mem_append_right _ hb)⟩
theorem glob_map {W:World} {n:String} {g b:Nat} {cs:Array Value} (hg:Tryd.prog.globalNamed n=some g) (hv:W.var? Tryd.prog n=some cs) (hc:cs.toList=[.map (some b)]):RelV σ0 H0 W (.ip 1 [.s (.map (some b))] 0 0) (.pointer (some ⟨g,0,none⟩)):=by
  have hcell:W.cell? ⟨g,0,none⟩=some (.map (some b)):=by
    unfold World.var? at hv
    rw [hg] at hv
    simp only [Option.bind_some] at hv
    unfold World.cell?
    split at hv
    · rename_i c t f hh
      simp only [hh]
      obtain rfl:=Option.some.inj hv
      obtain ⟨l⟩:=c
      obtain rfl:l=[.map (some b)]:=hc
      rfl
    · cases hv
  have:=RelV.ip (σ:=σ0) (H:=H0) (w:=W) (sz:=1) (xs:=[.s (.map (some b))]) (i:=0) (sub:=0) (g:=g) (off:=0) (cap:=1)
    (.sl false _ _ _ 0 1 (fun k => .map (some b)) (by simp) ⟨by simp,by unfold maxLen;omega⟩ (fun x hx=>by simp only [List.mem_singleton] at hx;subst hx;rfl)
      (fun k hk=>by
        simp only [List.length_singleton,Nat.one_mul] at hk
        obtain rfl:k=0:=by omega
        exact ⟨stable0 _ _,hcell,rfl⟩)
      (fun k y hy=>by
        have:flat [PV.s (.map (some b))]=[.s (.map (some b))]:=by simp [flat,PV.cells]
        rw [this] at hy
        cases k with
        | zero=>simp at hy;subst hy;exact .s _ rfl
        | succ k=>simp at hy)) (by simp) (by omega)
  simpa using this
theorem assoc_mem {κ α:Type} [DecidableEq κ] {k:κ} {v:α} : ∀ {m:List (κ × α)},assoc k m=some v → (k,v)∈m
  | [],h=>by cases h
  | (a,x) :: m,h=>by
    unfold assoc at h
    split at h
    · rename_i e;subst e;cases h;exact List.mem_cons_self ..
    · exact List.mem_cons_of_mem _ (assoc_mem h)
theorem maps_ne {W:World} {r1 r2:Nat} {m1:List (Int × Rule)} {m2:List (Int × Int)} (h1:GMap σ0 H0 W r1 (tm iev rlv m1)) (h2:GMap σ0 H0 W r2 (tm iev ivv m2)) (t1 : ∀ z,assoc z m1=ruleT z):r1≠r2:=by
  rintro rfl
  obtain ⟨⟨es,clock,a1,a2,_,a4⟩,_⟩:=h1
  obtain ⟨⟨es',clock',b1,b2,_,b4⟩,_⟩:=h2
  rw [a1] at b1
  cases b1
  have hm:=assoc_mem ((t1 1).trans (show ruleT 1=some _ from rfl))
  have hl:0 < m1.length:=List.length_pos_of_mem hm
  simp only [tm,List.length_map] at a2 b2
  have he:es[0]? = some es[0]:=Array.getElem?_eq_getElem (by omega)
  obtain ⟨q1,hq1⟩ : ∃ q,m1[0]? = some q:=⟨_,List.getElem?_eq_getElem hl⟩
  obtain ⟨q2,hq2⟩ : ∃ q,m2[0]? = some q:=⟨_,List.getElem?_eq_getElem (by omega)⟩
  have r1:=(a4 0 _ _ he (by simp only [tm,List.getElem?_map,hq1];rfl)).2
  have r2:=(b4 0 _ _ he (by simp only [tm,List.getElem?_map,hq2];rfl)).2
  simp only [rlv,ivv] at r1 r2
  generalize es[0].val=v at r1 r2
  cases r1
  cases r2 with
  | p h=>cases h

def GG (r1 r2:Nat) (m1:List (Int × Rule)) (m2:List (Int × Int)):Globs :=
  ⟨fun g=>if g=1 then some (8,[.agg (pl w32 inits)]) else if g=3 then some (64,[.agg (pl w32 ks)]) else if g=0 then some (1,[.s (.map (some r1))]) else if g=2 then some (1,[.s (.map (some r2))]) else none,
   fun r=>if r=r1 then some (tm iev rlv m1) else if r=r2 then some (tm iev ivv m2) else none⟩
theorem rel_start {W:World} (h:laidMetH Tryd.prog Rows.sessionCanonicalRow.laid W) : ∃ r1 r2 m1 m2,GR (GG r1 r2 m1 m2) r1 r2 m1 m2∧Rel (GG r1 r2 m1 m2) σ0 H0 W:=by
  have h':laidMet Tryd.prog [(varC,Lib.tabData .u32 kz),(varI,Lib.tabData .u32 iz),(varS,Rows.laid_attestor_session_states)] W∧handlesMet Tryd.prog [(varR,Rows.laid_attestor_session_rules)] W:=h
  obtain ⟨hd,hh⟩:=h'
  have tC:=Lib.tabIs_of_head gConst gConstT Tryd.underlying121 Tryd.underlying93 cells93 cells121 hd
  have hd2:=met_tail hd
  have tI:=Lib.tabIs_of_head gInit gInitT Tryd.underlying94 Tryd.underlying93 cells93 cells94 hd2
  have hd3:=met_tail hd2
  obtain ⟨_,⟨g2,t2,c2,f2,p2,_,hg2,ht2,hv2,hr2,_⟩,_⟩:=hd3
  obtain rfl:=Option.some.inj (gStates.symm.trans hg2)
  obtain rfl:=Option.some.inj (gStatesT.symm.trans ht2)
  obtain ⟨b2,m2,hb2,gm2,k2,a2⟩:=states_map hr2
  have hh1:funcsAt Tryd.prog W varR rulesD:=hh (varR,Rows.laid_attestor_session_rules) (List.mem_cons_self ..)
  obtain ⟨g1,t1,c1,f1,p1,hg1,ht1,hv1,hr1⟩:=hh1
  obtain rfl:=Option.some.inj (gRules.symm.trans hg1)
  obtain rfl:=Option.some.inj (gRulesT.symm.trans ht1)
  obtain ⟨b1,m1,hb1,gm1,k1,a1⟩:=rules_map hr1
  have hne:=maps_ne gm1 gm2 a1
  refine ⟨b1,b2,m1,m2,⟨rfl,rfl,rfl,rfl,if_pos rfl,?_,k1,k2,a1,a2⟩,rel0 (fun g sz xs hg => ?_) fun r m hm => ?_⟩
  · show (if b2=b1 then _ else _)=_
    rw [if_neg (Ne.symm hne),if_pos rfl]
  · simp only [GG] at hg
    split at hg
    · rename_i e;subst e;cases hg
      exact glob_words (l:=inits) tI gInit rfl (by decide)
    · split at hg
      · rename_i e;subst e;cases hg
        exact glob_words (l:=ks) tC gConst rfl (by decide)
      · split at hg
        · rename_i e;subst e;cases hg
          exact glob_map gRules hv1 hb1
        · split at hg
          · rename_i e;subst e;cases hg
            exact glob_map gStates hv2 hb2
          · cases hg
  · simp only [GG] at hm
    split at hm
    · rename_i e;subst e;cases hm;exact gm1
    · split at hm
      · rename_i e;subst e;cases hm;exact gm2
      · cases hm

noncomputable def laidWorld (os:Os):World:=World.doorLaid Tryd.prog 2000 os
set_option maxRecDepth 100000 in
theorem laid_met (os:Os) (args:Array Value):laidMetH Tryd.prog Rows.sessionCanonicalRow.laid ((laidWorld os).forCall (fun _ _=>0) ⟨#[],args,[]⟩).memory :=
  laidMetH_of_parts3 (fuel:=8) (laidMet_of_run' 8 (by kernel_rfl) (by kernel_rfl)) (by kernel_rfl) (by kernel_rfl)

set_option maxRecDepth 100000
section read
variable {k:Nat} {y:List PV}
theorem rd_bytes (h:Reads Tryd.prog (k+2) 28 y) : ∃ l:By,l.length≤9223372036854775807∧y=[.sl false 1 (pl b8 l)]:=by
  obtain ⟨l,h1,rfl,-⟩:=Reads.sl b8 (fun _=>True) Tryd.underlying28 cells5 aggT5 h fun y hy=>by
    obtain ⟨b,rfl⟩:=Reads.u8 Tryd.underlying5 hy
    exact ⟨b,rfl,trivial⟩
  exact ⟨l,h1,rfl⟩
end read
section rel
variable {W:World} {v:Value} {H:Type} {enc:TypeId × Value → H} {d:DataW H} {ps:List MemPlace} {base:Nat}
theorem rel_bytes (hval:Value.okWide Tryd.prog W .any base 28 v) (h:DataW.Trod enc Tryd.prog W 0 (fun _=>true) true 28 v d ps) : ∃ l:By,l.length≤9223372036854775807∧RelV σ0 H0 W (.p (.sl false 1 (pl b8 l))) v:=by
  obtain ⟨xs,hx,e⟩:=rel_read 2 (by kernel_rfl) hval h
  obtain ⟨l,h1,rfl⟩:=rd_bytes (k:=0) hx
  rw [aggT28] at e
  exact ⟨l,h1,e⟩
end rel
end Go.Proofs.YtmoecjgehdkhkaaDoor
