/-
  The log of readings: Unpack,by the program.
-/
import Derived.Test.YtdpfkanfahchjaaDoorPkS1
set_option linter.unusedSimpArgs false
set_option linter.unusedVariables false
namespace Go.Proofs.YtdpfkanfahchjaaDoor
open Go Go.AL

/-! Operations with a guard, in a region whose order is open. -/
section gd
variable {C:Cx} {ops:Array Oper} {i:Nat} {o:Oper} {K:Env → Hp → Prop} {env:Env} {H H':Hp}
theorem yB {nt j d:Nat} {want t:Bool} (h1:(ops[j]?).bind (·.dst)=some d) (h2:decide (d < nt)=true) (h3:env d = .p (bo t)) (h4:t=want):zk nt ops (some (j,want)) env=some true:=by
 subst h4
 simp only [zk,h1,of_decide_eq_true h2,if_true,h3,bo,beq_self_eq_true]
theorem zap (x:AV) (ho:ops[i]? = some o) (hg:zk C.nt ops o.guard env=some true) (hs:zc C.P C.G o.op o.type env H = .val x H) (hd:zn C.nt o.dst=true)
 (hK:K (env.put o.dst x) H):opA C ops false i K env H:=by
 unfold opA
 rw [ho]
 simp only [hg,aOp1,hs,sOp]
 exact⟨hd,hK⟩
theorem zoR {f:FuncId} {xs xs':List AV} {r:AV} (ho:ops[i]? = some o) (hg:zk C.nt ops o.guard env=some true) (hs:zc C.P C.G o.op o.type env H = .call f xs) (hd:zn C.nt o.dst=true)
 (hargs:zz C.raw f xs=xs') (hc : ∀ R:AV → Hp → Prop,R r H' → ACall C.P C.G f xs' H R) (hK:K (env.put o.dst r) H'):opA C ops false i K env H:=by
 unfold opA
 rw [ho]
 simp only [hg,aOp1,hs,sOp,hargs]
 exact⟨hd,hc _ hK⟩
end gd
/-! A new block or none. -/
section ob
variable {B:Hp} {b k:Nat} {x y:AB}
def oB (B:Hp) (o:Option AB):Hp:=match o with | none=>B | some x=>B.new x
section ob
variable {B:Hp} {o:Option AB} {b k:Nat} {x y:AB}
theorem zvT (h:b < B.n):(oB B o).f b=B.f b:=by cases o with | none=>rfl | some x=>exact Hp.f_new_old _ _ _ h
theorem zvU:(oB B none).n=B.n:=rfl
theorem zuK:(oB B none).new x=oB B (some x):=rfl
end ob
end ob
attribute [go_sem] zvT zvU zuK
def seg (rows:Int) (cs:List By):PV := .agg [i64 rows,.sl false 1 (pl (sle 1 b8) cs)]
theorem zdW {rows:Int} {cs:List By}:zf (.p (seg rows cs))=some [.p (i64 rows),.p (.sl false 1 (pl (sle 1 b8) cs))]:=rfl
theorem zl2 {l:By}:sle 1 b8 l = .sl false 1 (pl b8 l):=rfl
def zvz (cs:List By) (k:Nat):By:=dec (prs (nth cs k))
def zl3 (rows:Int) (cs:List By):Prop:=0≤rows∧rows≤4096∧cs.length=4∧zlN rows.toNat (fun k=>nth cs k)
open Classical in
noncomputable def za2 (rows:Int) (cs:List By):List Rdg × Int:=if zl3 rows cs then (zc4 rows.toNat (fun k=>nth cs k),0) else ([],270)
/-! Readings whose first columns are told. -/
def zuL (r:Rdg) (k:Nat) (v:Int):Rdg :=
 match k with
 | 0 => { r with who:=v }
 | 1 => { r with whn:=v }
 | 2 => { r with knd:=v }
 | _ => { r with val:=v }
def cv (cs:List By) (k i:Nat):Int:=((zvz cs k)[i]?.getD 0#8).toNat
def mkU (cs:List By) (k i:Nat):Rdg:=⟨if 0 < k then cv cs 0 i else 0,if 1 < k then cv cs 1 i else 0,if 2 < k then cv cs 2 i else 0,if 3 < k then cv cs 3 i else 0⟩
def wrU (rows:Nat) (cs:List By) (k i:Nat):List Rdg:=(List.range rows).map fun j=>mkU cs (if j < i then k+1 else k) j
theorem zrV {cs:List By} {k i:Nat} (hk:k < 4):zuL (mkU cs k i) k (cv cs k i)=mkU cs (k+1) i:=by
 have:k=0 ∨ k=1 ∨ k=2 ∨ k=3:=by omega
 rcases this with rfl | rfl | rfl | rfl<;>rfl
theorem zhP {rows:Nat} {cs:List By} {k i:Nat}:(wrU rows cs k i).length=rows:=by simp [wrU]
theorem zth {rows:Nat} {cs:List By} {k i:Nat} (h:i < rows):nth (wrU rows cs k i) i=mkU cs k i:=by
 simp [nth,wrU,h]
theorem zrW {rows:Nat} {cs:List By} {k i:Nat} (hk:k < 4) (h:i < rows):(wrU rows cs k i).set i (zuL (mkU cs k i) k (cv cs k i))=wrU rows cs k (i+1):=by
 rw [zrV hk]
 apply List.ext_getElem (by simp [wrU])
 intro j h1 h2
 by_cases e:i=j
 · subst e;simp [wrU]
 · rw [List.getElem_set_ne e]
   simp only [wrU,List.getElem_map,List.getElem_range]
   by_cases q:j < i
   · rw [if_pos q,if_pos (by omega)]
   · rw [if_neg q,if_neg (by omega)]
theorem zhQ {rows:Nat} {cs:List By} {k:Nat}:wrU rows cs k rows=wrU rows cs (k+1) 0:=by
 apply List.map_congr_left
 intro j hj
 rw [if_pos (List.mem_range.1 hj),if_neg (by omega)]
theorem zti {rows:Nat} {cs:List By}:wrU rows cs 4 0=zc4 rows (fun k=>nth cs k):=by
 apply List.map_congr_left
 intro j _
 rfl
theorem zrX {rows:Nat} {cs:List By}:wrU rows cs 0 0=List.replicate rows ⟨0,0,0,0⟩:=by
 apply List.ext_getElem (by simp [wrU])
 intro j h1 h2
 simp [wrU,mkU]
def rcl (l:List Rdg):List AV:=l.flatMap fun r=>(rdL r).map .p
theorem zfG {l:List Rdg}:rcl l=(flat (pl zK l)).map AV.p:=by
 simp only [rcl,flat,pl,List.flatMap_map,List.map_flatMap]
 rfl
theorem zdv : ∀ {l:List Rdg},(rcl l).length=l.length*4
 | []=>rfl
 | r :: l=>by
  have:=zdv (l:=l)
  simp only [rcl,List.flatMap_cons,List.length_append,List.length_map,List.length_cons] at this ⊢
  rw [this,zeD];omega
theorem zm3 : ∀ {l:List Rdg} {i k:Nat} {v:Int},i < l.length → k < 4 → (rcl l).set (i*4+k) (.p (i64 v))=rcl (l.set i (zuL (nth l i) k v))
 | [],i,k,v,h,_=>by simp at h
 | r :: l,0,k,v,_,hk=>by
  have:k=0 ∨ k=1 ∨ k=2 ∨ k=3:=by omega
  rcases this with rfl | rfl | rfl | rfl<;>rfl
 | r :: l,i+1,k,v,h,hk=>by
  have ih:=zm3 (l:=l) (i:=i) (k:=k) (v:=v) (by simpa using h) hk
  rw [List.set_cons_succ,zP]
  show (((rdL r).map AV.p)++rcl l).set _ _=((rdL r).map AV.p)++rcl (l.set i _)
  rw [List.set_append_right _ _ (by rw [List.length_map,zeD];omega),List.length_map,zeD,show (i+1)*4+k - 4=i*4+k by omega,ih]
theorem zgP : ∀ {n:Nat},(zbQ n [i64 0,i64 0,i64 0,i64 0]).map AV.p=rcl (List.replicate n ⟨0,0,0,0⟩)
 | 0=>rfl
 | n+1=>by
  have ih:=zgP (n:=n)
  unfold zbQ rcl at ih ⊢
  rw [List.replicate_succ,List.replicate_succ,List.flatten_cons,List.map_append,ih,List.flatMap_cons]
  rfl
theorem zbd {α:Type} [Inhabited α] {l:List α} {i:Nat} (h:i < l.length):nth l i∈l:=by
 rw [show nth l i=l[i] by simp [nth,h]];exact List.getElem_mem h
section walks
variable {G:Globs}
theorem zjX (b o k:Nat) (hk:k < 4) (H:Hp) (hb:b < H.n) (R:AV → Hp → Prop) (h:R (.ptr b (o+k)) H):ACall Tryd.prog G (fnk k) [.ptr b o] H R:=by
 have:k=0 ∨ k=1 ∨ k=2 ∨ k=3:=by omega
 rcases this with rfl | rfl | rfl | rfl
 · exact zhF b o H hb R h
 · exact zhG b o H hb R h
 · exact zhH b o H hb R h
 · exact zhI b o H hb R h
set_option maxHeartbeats 4000000 in
set_option maxRecDepth 20000 in
theorem zbe (rows:Int) (cs:List By) (hl : ∀ c∈cs,c.length≤2000000) (H:Hp) (R:AV → Hp → Prop) (h:R (.tup [.p (.sl false 4 (pl zK (za2 rows cs).1)),.p (i64 (za2 rows cs).2)]) H):ACall Tryd.prog G 23 [.p (seg rows cs)] H R:=by
 unfold za2 at h
 have bad : ¬ zl3 rows cs → R (.tup [.p (.sl false 4 []),.p (i64 270)]) H:=fun e=>by rw [if_neg e] at h;exact h
 refine ACall.of_run (raw:=[]) Tryd.func23 rfl Tryd.ntmps23 (by simp) fun hbel => ?_
 refine .q ?_;refine .text ?_;simp (disch:=first|exact za|fail) only [go_sem,seval,-List.reduceReplicate,zdW]
 by_cases c1:rows < 0
 · have d1:decide (rows < 0)=true:=decide_eq_true c1
   refine .q ?_;refine .open [] follows (by kernel_rfl) ?_;simp (disch:=first|exact za|fail) only [go_sem,seval,-List.reduceReplicate,zdW,d1]
   refine .q ?_;refine .ifT (by simp (disch:=first|exact za|fail) only [go_sem,seval,-List.reduceReplicate]) ?_
   refine .q ?_;refine .text ?_;simp (disch:=first|exact za|fail) only [go_sem,seval,-List.reduceReplicate]
   refine .q ?_;refine .rt Tryd.func23 (by rw [Tryd.results23]) (hR := ?_);simp (disch:=first|exact za|fail) only [go_sem,seval,-List.reduceReplicate]
   exact bad fun e=>by have:=e.1;omega
 have d1:decide (rows < 0)=false:=decide_eq_false c1
 by_cases c2:4096 < rows
 · have d2:decide (4096 < rows)=true:=decide_eq_true c2
   refine .q ?_;refine .open [] follows (by kernel_rfl) ?_;simp (disch:=first|exact za|fail) only [go_sem,seval,-List.reduceReplicate,zdW,d1,d2]
   refine .q ?_;refine .ifT (by simp (disch:=first|exact za|fail) only [go_sem,seval,-List.reduceReplicate]) ?_
   refine .q ?_;refine .text ?_;simp (disch:=first|exact za|fail) only [go_sem,seval,-List.reduceReplicate]
   refine .q ?_;refine .rt Tryd.func23 (by rw [Tryd.results23]) (hR := ?_);simp (disch:=first|exact za|fail) only [go_sem,seval,-List.reduceReplicate]
   exact bad fun e=>by have:=e.2.1;omega
 have d2:decide (4096 < rows)=false:=decide_eq_false c2
 change ARun _ _ _ (oB (H.new (.cells [.p (i64 rows),.p (.sl false 1 (pl (sle 1 b8) cs))])) none) R
 (refine .q ?_)
 refine .openInv (fun L env' H'=>kF env' [(1,.ptr H.n 0)]∧kI L env' [(0,11,.ptr H.n 0),(1,12,.p (i64 rows)),(2,13,.p (bo false)),(3,14,.p (bo false)),(4,15,.ptr H.n 0),(5,16,.p (i64 rows)),(6,17,.p (bo false)),(7,18,.p (bo false)),(8,19,.p (bo false)),(9,20,.ptr H.n 1),(10,21,.p (.sl false 1 (pl (sle 1 b8) cs))),(11,22,.p (i64 cs.length)),(12,23,clm),(13,24,.p (i64 4)),(14,25,.p (bo ((cs.length:Int) != 4))),(15,26,.p (bo ((cs.length:Int) != 4)))]∧(L 12=true → allT L [8])∧H'=(oB (H.new (.cells [.p (i64 rows),.p (.sl false 1 (pl (sle 1 b8) cs))])) (if L 12 then some (.cells zrI) else none))) follows (by kernel_rfl) ?_ ?_ ?_
 · exact⟨(by simp (disch:=first|exact za|fail) only [go_sem,seval,-List.reduceReplicate,kFi,kFn,and_self,d1,d2]),(fun _ _ h=>by cases h),(fun h=>by cases h),(by first | rfl | (simp only [Bool.false_eq_true,if_false];first | rfl | (simp (disch:=first|exact za|fail) only [go_sem,seval,-List.reduceReplicate,d1,d2]<;>rfl)))⟩
 · intro i o L env' H' ho hL hall hI
   obtain⟨KF,KG,m12,rfl⟩:=hI
   rcases i with _ | _ | _ | _ | _ | _ | _ | _ | _ | _ | _ | _ | _ | _ | _ | _ | i
   · cases ho;have f0:=y0 KF 0 rfl;refine ze (.ptr H.n 0) rfl rfl (by simp (disch:=first|exact za|fail) only [go_sem,seval,-List.reduceReplicate,f0,d1,d2]<;>rfl) rfl ?_;exact⟨ya KF,yb KG,ka m12,(by rw [zb (by decide)])⟩
   · cases ho;have d0:=zQ KG 0 rfl (kL hall 0 rfl rfl);refine ze (.p (i64 rows)) rfl rfl (by simp (disch:=first|exact za|fail) only [go_sem,seval,-List.reduceReplicate,d0,d1,d2]<;>rfl) rfl ?_;exact⟨ya KF,yb KG,ka m12,(by rw [zb (by decide)])⟩
   · cases ho;have d1:=zQ KG 1 rfl (kL hall 0 rfl rfl);refine ze (.p (bo false)) rfl rfl (by simp (disch:=first|exact za|fail) only [go_sem,seval,-List.reduceReplicate,d1,d1,d2]<;>rfl) rfl ?_;exact⟨ya KF,yb KG,ka m12,(by rw [zb (by decide)])⟩
   · cases ho;have d2:=zQ KG 2 rfl (kL hall 0 rfl rfl);refine ze (.p (bo false)) rfl rfl (by simp (disch:=first|exact za|fail) only [go_sem,seval,-List.reduceReplicate,d2,d1,d2]<;>rfl) rfl ?_;exact⟨ya KF,yb KG,ka m12,(by rw [zb (by decide)])⟩
   · cases ho;have d3:=zQ KG 3 rfl (kL hall 0 rfl rfl);have f0:=y0 KF 0 rfl;refine zap (.ptr H.n 0) rfl (yB rfl rfl d3 rfl) (by simp (disch:=first|exact za|fail) only [go_sem,seval,-List.reduceReplicate,f0,d3,d1,d2]<;>rfl) rfl ?_;exact⟨ya KF,yb KG,ka m12,(by rw [zb (by decide)])⟩
   · cases ho;have d4:=zQ KG 4 rfl (kL hall 0 rfl rfl);have d3:=zQ KG 3 rfl (kL hall 1 rfl rfl);refine zap (.p (i64 rows)) rfl (yB rfl rfl d3 rfl) (by simp (disch:=first|exact za|fail) only [go_sem,seval,-List.reduceReplicate,d3,d4,d1,d2]<;>rfl) rfl ?_;exact⟨ya KF,yb KG,ka m12,(by rw [zb (by decide)])⟩
   · cases ho;have d5:=zQ KG 5 rfl (kL hall 0 rfl rfl);have d3:=zQ KG 3 rfl (kL hall 1 rfl rfl);refine zap (.p (bo false)) rfl (yB rfl rfl d3 rfl) (by simp (disch:=first|exact za|fail) only [go_sem,seval,-List.reduceReplicate,d3,d5,d1,d2]<;>rfl) rfl ?_;exact⟨ya KF,yb KG,ka m12,(by rw [zb (by decide)])⟩
   · cases ho;have d3:=zQ KG 3 rfl (kL hall 0 rfl rfl);have d6:=zQ KG 6 rfl (kL hall 1 rfl rfl);refine ze (.p (bo false)) rfl rfl (by simp (disch:=first|exact za|fail) only [go_sem,seval,-List.reduceReplicate,d3,d6,d1,d2]<;>rfl) rfl ?_;exact⟨ya KF,yb KG,ka m12,(by rw [zb (by decide)])⟩
   · cases ho;have d7:=zQ KG 7 rfl (kL hall 0 rfl rfl);refine ze (.p (bo false)) rfl rfl (by simp (disch:=first|exact za|fail) only [go_sem,seval,-List.reduceReplicate,d7,d1,d2]<;>rfl) rfl ?_;exact⟨ya KF,yb KG,ka m12,(by rw [zb (by decide)])⟩
   · cases ho;have d8:=zQ KG 8 rfl (kL hall 0 rfl rfl);have f0:=y0 KF 0 rfl;refine zap (.ptr H.n 1) rfl (yB rfl rfl d8 rfl) (by simp (disch:=first|exact za|fail) only [go_sem,seval,-List.reduceReplicate,f0,d8,d1,d2]<;>rfl) rfl ?_;exact⟨ya KF,yb KG,ka m12,(by rw [zb (by decide)])⟩
   · cases ho;have d9:=zQ KG 9 rfl (kL hall 0 rfl rfl);have d8:=zQ KG 8 rfl (kL hall 1 rfl rfl);refine zap (.p (.sl false 1 (pl (sle 1 b8) cs))) rfl (yB rfl rfl d8 rfl) (by simp (disch:=first|exact za|fail) only [go_sem,seval,-List.reduceReplicate,d8,d9,d1,d2]<;>rfl) rfl ?_;exact⟨ya KF,yb KG,ka m12,(by rw [zb (by decide)])⟩
   · cases ho;have d10:=zQ KG 10 rfl (kL hall 0 rfl rfl);have d8:=zQ KG 8 rfl (kL hall 1 rfl rfl);refine zap (.p (i64 cs.length)) rfl (yB rfl rfl d8 rfl) (by simp (disch:=first|exact za|fail) only [go_sem,seval,-List.reduceReplicate,d8,d10,d1,d2]<;>rfl) rfl ?_;exact⟨ya KF,yb KG,ka m12,(by rw [zb (by decide)])⟩
   · cases ho;have h8:=kL hall 0 rfl rfl;have d8:=zQ KG 8 rfl h8;(try simp only [hL,if_true,if_false,Bool.false_eq_true]);refine zoR rfl (yB rfl rfl d8 rfl) (by simp (disch:=first|exact za|fail) only [go_sem,seval,-List.reduceReplicate,reduceIte,Bool.false_eq_true,if_false,if_true,d8,hL,d1,d2]<;>rfl) rfl (by simp (disch:=first|exact za|fail) only [go_sem,seval,-List.reduceReplicate,reduceIte,Bool.false_eq_true,if_false,if_true,d8,hL,d1,d2]<;>rfl) (fun R h=>zaG _ R h) ?_;exact⟨ya KF,yb KG,(fun _=>kt (zg h8 yi)),(by (have e12:more L 12 12=true:=yJ);(try simp only [e12,hL]);first | done | rfl | (simp only [e12,hL,if_true,if_false,Bool.false_eq_true];first | done | rfl | (simp (disch:=first|exact za|fail) only [go_sem,seval,-List.reduceReplicate,e12,hL,d1,d2]<;>rfl)))⟩
   · cases ho;have d8:=zQ KG 8 rfl (kL hall 0 rfl rfl);have d12:=zQ KG 12 rfl (kL hall 1 rfl rfl);refine zap (.p (i64 4)) rfl (yB rfl rfl d8 rfl) (by simp (disch:=first|exact za|fail) only [go_sem,seval,-List.reduceReplicate,d8,d12,d1,d2]<;>rfl) rfl ?_;exact⟨ya KF,yb KG,ka m12,(by rw [zb (by decide)])⟩
   · cases ho;have d11:=zQ KG 11 rfl (kL hall 0 rfl rfl);have d13:=zQ KG 13 rfl (kL hall 1 rfl rfl);have d8:=zQ KG 8 rfl (kL hall 2 rfl rfl);refine zap (.p (bo ((cs.length:Int) != 4))) rfl (yB rfl rfl d8 rfl) (by simp (disch:=first|exact za|fail) only [go_sem,seval,-List.reduceReplicate,d8,d11,d13,d1,d2]<;>rfl) rfl ?_;exact⟨ya KF,yb KG,ka m12,(by rw [zb (by decide)])⟩
   · cases ho;have d8:=zQ KG 8 rfl (kL hall 0 rfl rfl);have d14:=zQ KG 14 rfl (kL hall 1 rfl rfl);refine ze (.p (bo ((cs.length:Int) != 4))) rfl rfl (by simp (disch:=first|exact za|fail) only [go_sem,seval,-List.reduceReplicate,d8,d14,d1,d2]<;>rfl) rfl ?_;exact⟨ya KF,yb KG,ka m12,(by rw [zb (by decide)])⟩
   · simp at ho
 · intro L env' H' hall hI
   obtain⟨KF,KG,_,rfl⟩:=hI
   have l12:=hall 12 (by decide)
   have f0:=y0 KF 0 rfl
   have g15:=zQ KG 15 rfl (hall 15 (by decide))
   simp only [l12,if_true]
   clear hall
   change ARun _ _ _ ((H.new (.cells [.p (i64 rows),.p (.sl false 1 (pl (sle 1 b8) cs))])).new (.cells zrI)) R
   by_cases c3:cs.length=4
   rotate_left
   · have d3:((cs.length:Int) != 4)=true:=by simp;omega
     refine .q ?_;refine .ifT (by simp (disch:=first|exact za|fail) only [go_sem,seval,-List.reduceReplicate,g15,d3]) ?_
     refine .q ?_;refine .text ?_;simp (disch:=first|exact za|fail) only [go_sem,seval,-List.reduceReplicate]
     refine .q ?_;refine .rt Tryd.func23 (by rw [Tryd.results23]) (hR := ?_);simp (disch:=first|exact za|fail) only [go_sem,seval,-List.reduceReplicate]
     exact bad fun e=>c3 e.2.2.1
   have d3:((cs.length:Int) != 4)=false:=by simp;omega
   obtain⟨n,rfl⟩ : ∃ n:Nat,rows=n:=⟨rows.toNat,by omega⟩
   have hz:(zbQ n [i64 0,i64 0,i64 0,i64 0]).map AV.p=rcl (wrU n cs 0 0):=by rw [zgP,zrX]
   refine .q ?_;refine .ifF (by simp (disch:=first|exact za|fail) only [go_sem,seval,-List.reduceReplicate,g15,d3]) ?_
   refine .skip ?_
   refine .q ?_;refine .text ?_;simp (disch:=first|exact za|fail) only [go_sem,seval,-List.reduceReplicate,f0]
   rw [hz]
   refine .q ?_;refine .text ?_;simp (disch:=first|exact za|fail) only [go_sem,seval,-List.reduceReplicate,f0]
   refine CallK.of (fun R h=>zaG _ R h) ?_;simp (disch:=first|exact za|fail) only [go_sem,seval,-List.reduceReplicate,f0]
   refine .q ?_;refine .loopF [1,4,30] (fun k=>[(31,.p (i64 k))]) (fun k=>[(H.n+2,.cells (rcl (wrU n cs k 0)))]) (fun k => ∀ j,j < k → Snd (nth cs j) n (top j)) (0) (4) (by omega) ?_ (by first | rfl | (simp (disch:=first|exact za|fail) only [go_sem,seval,-List.reduceReplicate,f0]<;>rfl)) ?_ ?_ ?_
   · simp (disch:=first|exact za|fail) only [go_sem,seval,-List.reduceReplicate,f0]<;>(repeat' (first | rfl | refine And.intro ?_ ?_))
   rotate_left 1
   intro env T E hQ;simp (disch:=first|exact za|fail) only [go_sem,seval,-List.reduceReplicate,f0] at E
   rotate_left 1
   intro k env T hk0 hk E hQ ihE;simp (disch:=first|exact za|fail) only [go_sem,seval,-List.reduceReplicate,f0] at E
   rotate_left 1
   · exact fun j hj=>absurd hj (by omega)
   · refine .q ?_;refine .text ?_;simp (disch:=first|exact za|fail) only [go_sem,seval,-List.reduceReplicate,E]
     refine .q ?_;refine .ifF (by simp (disch:=first|exact za|fail) only [go_sem,seval,-List.reduceReplicate]) ?_
     have hok:zl3 (n:Int) cs:=⟨by omega,by omega,c3,fun k hk=>hQ k hk⟩
     rw [if_pos hok,Int.toNat_natCast,←zti] at h
     refine .q ?_;refine .frzR 4 (xs:=pl zK (wrU n cs 4 0)) (by simp (disch:=first|exact za|fail) only [go_sem,seval,-List.reduceReplicate,E];rfl) (by simp (disch:=first|exact za|fail) only [go_sem,seval,-List.reduceReplicate,E]<;>rfl) zfG (by rw [zat,zhP]) (zmZ _) ?_
     simp (disch:=first|exact za|fail) only [go_sem,seval,-List.reduceReplicate,E]
     refine .q ?_;refine .text ?_;simp (disch:=first|exact za|fail) only [go_sem,seval,-List.reduceReplicate,E]
     refine .q ?_;refine .rt Tryd.func23 (by rw [Tryd.results23]) (hx:=by simp (disch:=first|exact za|fail) only [go_sem,seval,-List.reduceReplicate,E];rfl) (hR := ?_);simp (disch:=first|exact za|fail) only [go_sem,seval,-List.reduceReplicate,E]
     exact h
   · obtain⟨T0,rfl⟩ : ∃ T0,T0=T:=⟨_,rfl⟩
     have hQk:=hQ
     refine .q ?_;refine .text ?_;simp (disch:=first|exact za|fail) only [go_sem,seval,-List.reduceReplicate,E]
     refine .q ?_;refine .ifT (by simp (disch:=first|exact za|fail) only [go_sem,seval,-List.reduceReplicate]) ?_
     refine .q ?_;refine .text ?_;simp (disch:=first|exact za|fail) only [go_sem,seval,-List.reduceReplicate,E,zgH hk]
     have hck:(nth cs k).length≤2000000:=hl _ (zbd (by omega))
     have htk:top k≤255:=by unfold top;split<;>omega
     obtain⟨b,hb⟩ : ∃ b,b=nth cs k:=⟨_,rfl⟩
     rw [←hb] at hck
     refine .q ?_;refine .open [] follows (by kernel_rfl) ?_;simp (disch:=first|exact za|fail) only [go_sem,seval,-List.reduceReplicate,E,f0,←hb,zl2]
     refine CallD.still (fun R h=>zjW b n (top k) (by omega) (by omega) htk _ R h) ?_;simp (disch:=first|exact za|fail) only [go_sem,seval,-List.reduceReplicate,E,f0,←hb,zl2]
     by_cases hs:Snd b n (top k)
     · rw [zrS hs]
       obtain⟨V,hV⟩ : ∃ V,V=dec (prs b):=⟨_,rfl⟩
       have hVl:V.length=n:=by rw [hV];exact hs.2.2.2
       rw [←hV]
       simp (disch:=first|exact za|fail) only [go_sem,seval,-List.reduceReplicate,E,f0]
       refine .q ?_;refine .text ?_;simp (disch:=first|exact za|fail) only [go_sem,seval,-List.reduceReplicate,E]
       refine .q ?_;refine .ifF (by simp (disch:=first|exact za|fail) only [go_sem,seval,-List.reduceReplicate]) ?_
       refine .skip ?_
       refine .q ?_;refine .text ?_;simp (disch:=first|exact za|fail) only [go_sem,seval,-List.reduceReplicate,hVl]
       refine .q ?_;refine .loopE [1,4,6,30,31,50,51] (fun i=>[(52,.p (i64 i))]) (fun i=>[(H.n+2,.cells (rcl (wrU n cs k i)))]) (fun i=>True) (0) (n) (by omega) ?_ (by first | rfl | (simp (disch:=first|exact za|fail) only [go_sem,seval,-List.reduceReplicate,E,f0]<;>rfl)) ?_ ?_ ?_
       · simp (disch:=first|exact za|fail) only [go_sem,seval,-List.reduceReplicate,E,f0]<;>(repeat' (first | rfl | refine And.intro ?_ ?_))
       · exact trivial
       intro env W hQ;simp (disch:=first|exact za|fail) only [go_sem,seval,-List.reduceReplicate,E,f0] at W
       rotate_left 1
       intro i env hi0 hi W hQ ihW;simp (disch:=first|exact za|fail) only [go_sem,seval,-List.reduceReplicate,E,f0] at W
       rotate_left 1
       · refine .q ?_;refine .text ?_;simp (disch:=first|exact za|fail) only [go_sem,seval,-List.reduceReplicate,W,E]
         refine .q ?_;refine .ifF (by simp (disch:=first|exact za|fail) only [go_sem,seval,-List.reduceReplicate]) ?_
         refine .q ?_;refine .text ?_;simp (disch:=first|exact za|fail) only [go_sem,seval,-List.reduceReplicate,W,E]
         have hq2 : ∀ j,j < k+1 → Snd (nth cs j) n (top j):=zq hQk (by rw [←hb];exact hs)
         first | (refine ihE _ _ ?_ hq2 ?_) | (refine .z rfl ?_;refine ihE _ _ ?_ hq2 ?_) | (refine .z rfl ?_;refine .z rfl ?_;refine ihE _ _ ?_ hq2 ?_) | (refine .z rfl ?_;refine .z rfl ?_;refine .z rfl ?_;refine ihE _ _ ?_ hq2 ?_)
         · simp (disch:=first|exact za|fail) only [go_sem,seval,-List.reduceReplicate,W,E,f0,zhQ]<;>(repeat' (first | rfl | refine And.intro ?_ ?_))
         · first | exact .mk _ rfl | exact .mk [] rfl | (apply Later.mk;simp (disch:=first|exact za|fail) only [go_sem,seval,-List.reduceReplicate,zbw,W,E,f0,zhQ];exact rfl) | (apply Later.mk;simp (disch:=first|exact za|fail) only [go_sem,seval,-List.reduceReplicate,zbw,zdi,List.append_assoc,W,E,f0,zhQ]<;>(try rfl))
       · have hen:enters Tryd.prog (fnk k)=true:=zfC hk
         have hv:cv cs k i=((nth V i).toNat:Nat):=by
          rw [cv,zvz,←hb,←hV];rfl
         have hstore:=zm3 (l:=wrU n cs k i) (i:=i) (k:=k) (v:=cv cs k i) (by rw [zhP];exact hi) hk
         rw [zth hi,zrW hk hi,hv] at hstore
         have hrl:(rcl (wrU n cs k i)).length=n*4:=by rw [zdv,zhP]
         refine .q ?_;refine .text ?_;simp (disch:=first|exact za|fail) only [go_sem,seval,-List.reduceReplicate,W,E]
         refine .q ?_;refine .ifT (by simp (disch:=first|exact za|fail) only [go_sem,seval,-List.reduceReplicate]) ?_
         refine .q ?_;refine .text ?_;simp (disch:=first|exact za|fail) only [go_sem,seval,-List.reduceReplicate,W,E]
         refine .q ?_;refine .open [9] follows (by kernel_rfl) ?_;simp (disch:=first|exact za|fail) only [go_sem,seval,-List.reduceReplicate,W,E,hen]
         refine CallD.still (fun R h=>zjX (H.n+2) (i*4) k hk _ (by simp (disch:=first|exact za|fail) only [go_sem,seval,-List.reduceReplicate]) R h) ?_;simp (disch:=first|exact za|fail) only [go_sem,seval,-List.reduceReplicate,W,E,hen,hrl,hstore]
         refine .q ?_;refine .text ?_;simp (disch:=first|exact za|fail) only [go_sem,seval,-List.reduceReplicate,W,E]
         first | (refine ihW _ _ ?_ trivial ?_) | (refine .z rfl ?_;refine ihW _ _ ?_ trivial ?_) | (refine .z rfl ?_;refine .z rfl ?_;refine ihW _ _ ?_ trivial ?_) | (refine .z rfl ?_;refine .z rfl ?_;refine .z rfl ?_;refine ihW _ _ ?_ trivial ?_)
         · simp (disch:=first|exact za|fail) only [go_sem,seval,-List.reduceReplicate,W,E]<;>(repeat' (first | rfl | refine And.intro ?_ ?_))
         · first | rfl | (simp (disch:=first|exact za|fail) only [go_sem,seval,-List.reduceReplicate,W,E]<;>(try rfl))
     · have he:=zrT hs
       generalize zjV b n (top k)=X at he
       obtain⟨X1,X2⟩:=X
       dsimp only at he ⊢
       subst he
       refine .q ?_;refine .text ?_;simp (disch:=first|exact za|fail) only [go_sem,seval,-List.reduceReplicate,E,f0]
       refine .q ?_;refine .ifT (by simp (disch:=first|exact za|fail) only [go_sem,seval,-List.reduceReplicate]) ?_
       refine .q ?_;refine .text ?_;simp (disch:=first|exact za|fail) only [go_sem,seval,-List.reduceReplicate,E,f0]
       refine .q ?_;refine .rt Tryd.func23 (by rw [Tryd.results23]) (hx:=by simp (disch:=first|exact za|fail) only [go_sem,seval,-List.reduceReplicate,E];rfl) (hR := ?_);simp (disch:=first|exact za|fail) only [go_sem,seval,-List.reduceReplicate,E]
       exact bad fun e=>hs (by have:=e.2.2.2 k hk;rw [Int.toNat_natCast] at this;dsimp only at this;rw [←hb] at this;exact this)
end walks
end Go.Proofs.YtdpfkanfahchjaaDoor

/-
  The log of readings: a stored column read by the reference.
-/
namespace Go.Proofs.YtdpfkanfahchjaaDoor
open Go Go.AL

section walks
variable {G:Globs}
end walks
end Go.Proofs.YtdpfkanfahchjaaDoor

/-
  The log of readings: Unpack,by the reference.
-/
namespace Go.Proofs.YtdpfkanfahchjaaDoor
open Go Go.AL

section walks
variable {G:Globs}
end walks
end Go.Proofs.YtdpfkanfahchjaaDoor

/-
  The log of readings: slices.Clone of flags;retracting,by the program.
-/
namespace Go.AL
open Go
theorem AOps.isNilV {C:Cx} {ops:Array Oper} {rest:List Oper} {k:List Item} {env:Env} {H:Hp} {R:AV → Hp → Prop} {dst:Option Nat} {t t' ty:TypeId} {pos:String} {after:Array Edge} {x:Operand} {e:TypeId} (hu:C.P.underlying t=some (.slice e)) {b len sz:Nat} (hx:zD C.G env x = .vr b len sz) (hl:0 < len) (hd:zn C.nt dst=true)
 (h:AOps C ops rest k (env.put dst (.p (bo false))) H R) :
 AOps C ops (⟨dst,.binOp .eql t x (.const (.slice none 0 0)) t',ty,pos,after,none⟩ :: rest) k env H R:=by
 refine .of_op true rfl fun σ w a m hpre K Q hK => ?_
 have hr:=zi hpre.rel hpre.fr x
 rw [hx] at hr
 generalize hv:a.eval x=v at hr
 cases hr with | vr hr =>
 obtain⟨_,ad,cap,rfl,hado,_⟩:=hr
 have hn:ad.isNone=false:=by
  have:=hado hl
  cases ad with
  | none=>cases this
  | some a=>rfl
 unfold Oper.wpIn
 refine⟨fun f _=>trivial,?_⟩
 have hsem:Oper.semAt (Fr C σ).round a.eval ⟨dst,.binOp .eql t x (.const (.slice none 0 0)) t',ty,pos,after,none⟩=execOp a.eval ⟨dst,.binOp .eql t x (.const (.slice none 0 0)) t',ty,pos,after,none⟩:=Oper.semAt_eq _ _ _ (fun c h=>by cases h)
 rw [hsem]
 have he:(execOp a.eval ⟨dst,.binOp .eql t x (.const (.slice none 0 0)) t',ty,pos,after,none⟩).run C.P w = .ok (.value (.bool false)) w:=by
  have hc:a.eval (.const (.slice none 0 0)) = .slice none 0 0:=rfl
  simp only [execOp,hv,hc]
  have hg:=zF (P:=C.P) (w:=w) (op := .eql) (t:=t) (xo:=x) (yo := .const (.slice none 0 0)) (a := .slice ad len cap) (b := .slice none 0 0) (by simp) (by simp)
  simp only [Sem.run_bind,hg,Result.andThen_ok,binOp,run_equal_slice_nil w t e ad len cap hu,Sem.run_pure,hn]
 rw [he]
 exact hK (.p (bo false)) (.bool false) H σ w h (zL hd) hpre.rel (.p (.s _ rfl)) (Ev.refl (Nat.le_refl _))
end Go.AL
namespace Go.Proofs.YtdpfkanfahchjaaDoor
open Go Go.AL

theorem flat_bo' {l:List Bool}:flat (pl bo l)=pl bo l:=zew fun _=>rfl
theorem zuM {a n x b m y:Nat}:zO [.vr a n x,.vr b m y] = .agg [.vr a n x,.vr b m y]:=rfl
theorem zuN {a n x b m y:Nat}:zf (.agg [.vr a n x,.vr b m y])=some [.vr a n x,.vr b m y]:=rfl
theorem zuO {a n x:Nat}:zf (.vr a n x)=some [.vr a n x]:=rfl
attribute [go_sem] zuM zuN zuO
theorem zgQ:Tryd.prog.underlying 32=some (.slice 4):=by kernel_rfl
section walks
variable {G:Globs}
theorem zjY (b:Nat) (g:List Bool) (hg:0 < g.length) (hg2:g.length≤100000) (H:Hp) (hb:H.f b=some (.vec (cl bo g))) (R:AV → Hp → Prop) (h:R (.vr H.n g.length 1) (H.new (.vec (cl bo g)))) :
 ACall Tryd.prog G 72 [.vr b g.length 1] H R:=by
 have hbn:=Hp.lt hb
 have hcl:(cl bo g).length=g.length:=zaR
 refine ACall.of_run (raw:=[]) Tryd.func72 rfl Tryd.ntmps72 (by simp) fun hbel => ?_
 refine .q ?_;refine .text ?_;simp (disch:=first|exact za|fail) only [go_sem,seval,-List.reduceReplicate]
 refine .q ?_;refine .region ?_
 refine .one rfl (by simp (disch:=first|exact za|fail) only [go_sem,seval,-List.reduceReplicate]<;>rfl) rfl ?_
 refine .isNilV (b:=b) (len:=g.length) (sz:=1) zgQ (by simp (disch:=first|exact za|fail) only [go_sem,seval,-List.reduceReplicate]) hg rfl ?_
 refine .nil ?_
 refine .q ?_;refine .ifF (by simp (disch:=first|exact za|fail) only [go_sem,seval,-List.reduceReplicate]) ?_
 refine .skip ?_
 refine .q ?_;refine .region ?_
 refine .buildVec (sz:=1) (cs:=[]) (by simp (disch:=first|exact za|fail) only [go_sem,seval,-List.reduceReplicate,zN,yh]<;>rfl) (by rfl) ?_
 refine .run ?_
 simp (disch:=first|exact za|fail) only [go_sem,seval,-List.reduceReplicate,hb,hcl,flat_bo']
 refine .q ?_;refine .retKeep Tryd.func72 (by rw [Tryd.results72]) (by simp (disch:=first|exact za|fail) only [go_sem,seval,-List.reduceReplicate];rfl) ?_;(try simp (disch:=first|exact za|fail) only [go_sem,seval,-List.reduceReplicate])
 exact h
theorem zdw (α β:Nat) (l:List Rdg) (g:List Bool) (i:Int) (hl:l.length≤65536) (hg:g.length=l.length) (H:Hp) (hα:H.f α=some (.vec (rcl l))) (hβ:H.f β=some (.vec (cl bo g))) (R:AV → Hp → Prop)
 (bad : ∀ e,(yc ⟨l,g⟩ i)=(z0S,e) → e≠0 → R (.tup [.p (stm z0S),.p (i64 e)]) H)
 (good : ∀ k:Nat,i=k → k < g.length → nth g k=false → R (.tup [.agg [.vr α l.length 4,.vr (H.n+2) g.length 1],.p (i64 0)]) (((H.new (.cells [.vr α l.length 4,.vr β g.length 1])).new (.cells [.vr α l.length 4,.vr (H.n+2) g.length 1])).new (.vec (cl bo (g.set k true))))) :
 ACall Tryd.prog G 52 [.agg [.vr α l.length 4,.vr β g.length 1],.p (i64 i)] H R:=by
 have hαn:=Hp.lt hα
 have hβn:=Hp.lt hβ
 have hcl:(cl bo g).length=g.length:=zaR
 have hrl:(rcl l).length=l.length*4:=zdv
 unfold yc at bad
 refine ACall.of_run (raw:=[]) Tryd.func52 rfl Tryd.ntmps52 (by simp) fun hbel => ?_
 refine .q ?_;refine .text ?_;simp (disch:=first|exact za|fail) only [go_sem,seval,-List.reduceReplicate]
 by_cases c1:i < 0
 · have d1:decide (i < 0)=true:=decide_eq_true c1
   refine .q ?_;refine .text ?_;simp (disch:=first|exact za|fail) only [go_sem,seval,-List.reduceReplicate,d1]
   refine .q ?_;refine .ifT (by simp (disch:=first|exact za|fail) only [go_sem,seval,-List.reduceReplicate]) ?_
   refine .q ?_;refine .text ?_;simp (disch:=first|exact za|fail) only [go_sem,seval,-List.reduceReplicate]
   refine .q ?_;refine .rt Tryd.func52 (by rw [Tryd.results52]) (hR := ?_);simp (disch:=first|exact za|fail) only [go_sem,seval,-List.reduceReplicate]
   exact bad 4 (by rw [if_pos (.inl c1)]) (by decide)
 · have d1:decide (i < 0)=false:=decide_eq_false c1
   by_cases c2:(l.length:Int)≤i
   · have d2:decide ((l.length:Int)≤i)=true:=decide_eq_true c2
     refine .q ?_;refine .text ?_;simp (disch:=first|exact za|fail) only [go_sem,seval,-List.reduceReplicate,d1,d2]
     refine .q ?_;refine .ifT (by simp (disch:=first|exact za|fail) only [go_sem,seval,-List.reduceReplicate]) ?_
     refine .q ?_;refine .text ?_;simp (disch:=first|exact za|fail) only [go_sem,seval,-List.reduceReplicate]
     refine .q ?_;refine .rt Tryd.func52 (by rw [Tryd.results52]) (hR := ?_);simp (disch:=first|exact za|fail) only [go_sem,seval,-List.reduceReplicate]
     exact bad 4 (by rw [if_pos (.inr c2)]) (by decide)
   · have d2:decide ((l.length:Int)≤i)=false:=decide_eq_false c2
     rw [if_neg (by dsimp only;omega)] at bad
     obtain⟨k,rfl⟩ : ∃ k:Nat,i=k:=⟨i.toNat,by omega⟩
     rw [Int.toNat_natCast] at bad
     have hk:k < g.length:=by omega
     refine .q ?_;refine .text ?_;simp (disch:=first|exact za|fail) only [go_sem,seval,-List.reduceReplicate,d1,d2]
     refine .q ?_;refine .ifF (by simp (disch:=first|exact za|fail) only [go_sem,seval,-List.reduceReplicate]) ?_
     refine .q ?_;refine .text ?_;simp (disch:=first|exact za|fail) only [go_sem,seval,-List.reduceReplicate,hβ,hcl]
     cases hn:nth g k with
     | true =>
      rw [hn,if_pos rfl] at bad
      refine .q ?_;refine .ifT (by simp (disch:=first|exact za|fail) only [go_sem,seval,-List.reduceReplicate,hn]) ?_
      refine .q ?_;refine .text ?_;simp (disch:=first|exact za|fail) only [go_sem,seval,-List.reduceReplicate]
      refine .q ?_;refine .rt Tryd.func52 (by rw [Tryd.results52]) (hR := ?_);simp (disch:=first|exact za|fail) only [go_sem,seval,-List.reduceReplicate]
      exact bad 120 rfl (by decide)
     | false =>
      refine .q ?_;refine .ifF (by simp (disch:=first|exact za|fail) only [go_sem,seval,-List.reduceReplicate,hn]) ?_
      refine .skip ?_
      refine .q ?_;refine .text ?_;simp (disch:=first|exact za|fail) only [go_sem,seval,-List.reduceReplicate]
      refine CallK.of (fun R h=>zjY β g (by omega) (by omega) _ (by simp (disch:=first|exact za|fail) only [go_sem,seval,-List.reduceReplicate];exact hβ) R h) ?_;simp (disch:=first|exact za|fail) only [go_sem,seval,-List.reduceReplicate]
      refine .q ?_;refine .text ?_;simp (disch:=first|exact za|fail) only [go_sem,seval,-List.reduceReplicate,hcl]
      refine .q ?_;refine .text ?_;simp (disch:=first|exact za|fail) only [go_sem,seval,-List.reduceReplicate,hcl]
      refine .q ?_;refine .retKeep Tryd.func52 (by rw [Tryd.results52]) (by simp (disch:=first|exact za|fail) only [go_sem,seval,-List.reduceReplicate];rfl) ?_;(try simp (disch:=first|exact za|fail) only [go_sem,seval,-List.reduceReplicate])
      exact good k rfl hk hn
end walks
end Go.Proofs.YtdpfkanfahchjaaDoor

/-
  The log of readings: records,payloads,parts of a log,by the program.
-/
namespace Go.AL
open Go
theorem ARun.nilS {C:Cx} {todo:List Item} {env:Env} {H:Hp} {R:AV → Hp → Prop} (t sz:Nat) (ht:env t = .p (.s (.slice none 0 0))) (h:ARun C todo (env.put (some t) (.p (.sl true sz []))) H R):ARun C todo env H R :=
 .ghost (fun σ w a m hpre=>by
  obtain⟨r1,e1⟩:=zai hpre.rel (w':=w) (Nat.le_refl _) (fun _ _=>rfl) rfl rfl
  refine⟨σ,hpre.rel,fun i => ?_,e1⟩
  simp only [Env.put]
  by_cases hi:i=t
  · subst hi
    rw [if_pos rfl]
    have hs:=hpre.fr.slot i
    rw [ht] at hs
    generalize a.tmps.getD i undef=v at hs
    cases hs with | p hs =>
    cases hs
    exact .p (.nil _ _)
  · rw [if_neg hi];exact hpre.fr.slot i) h
end Go.AL
namespace Go.Proofs.YtdpfkanfahchjaaDoor
open Go Go.AL

def zgd (b:By):(BitVec 8 × By × By) × Bool:=match spl b with | some q=>(q,true) | none=>((0#8,[],[]),false)
theorem zgR : ∀ {l:List By} {c:By},zZ (l++[c])=zZ l++(yj 4 c.length++c)
 | [],c=>by simp [zZ]
 | x :: l,c=>by rw [List.cons_append,zZ,zZ,zgR];simp
theorem zl4 {cs:List By} {i:Nat} (h:i < cs.length):zZ (cs.take i)++yj 4 (nth cs i).length++nth cs i=zZ (cs.take (i+1)):=by
 rw [List.take_succ_eq_append_getElem h,zgR,show nth cs i=cs[i] by simp [nth,h],List.append_assoc]
theorem zgS : ∀ {l:List By},(zZ l).length=4*l.length+(l.map List.length).sum
 | []=>rfl
 | c :: l=>by rw [zZ,List.length_append,List.length_append,zv,zgS];simp;omega
section walks
variable {G:Globs}
set_option maxHeartbeats 2000000 in
theorem zdx (x n:Nat) (hn:n≤8) (H:Hp) (R:AV → Hp → Prop) (h:R (.sl H.n n 1 (pl b8 (yj n x))) (H.new (.tail n))) :
 ACall Tryd.prog G 53 [.p (.s (.slice none 0 0)),.p (i64 x),.p (i64 n)] H R:=by
 refine ACall.of_run (raw:=[]) Tryd.func53 rfl Tryd.ntmps53 (by simp) fun hbel => ?_
 have hx0:x / 256 ^ 0=x:=by simp
 have hn0:(n:Int) - ((0:Nat):Int)=n:=by omega
 refine .nilS 0 1 rfl ?_
 refine .q ?_;refine .text ?_;simp (disch:=first|exact za|fail) only [go_sem,seval,-List.reduceReplicate]
 refine .q ?_;refine .own 0 (by simp (disch:=first|exact za|fail) only [go_sem,seval,-List.reduceReplicate];rfl) ?_
 refine .q ?_;refine .loopH [] (fun i=>[(0,.sl H.n i 1 (pl b8 (yj i x))),(1,.p (i64 (x / 256 ^ i:Nat))),(2,.p (i64 ((n:Int) - (i:Int))))]) (fun i=>H.new (.tail i)) (fun i=>True) (0) (n) (by omega) ?_ (by first | rfl | (simp (disch:=first|exact za|fail) only [go_sem,seval,-List.reduceReplicate,yj,hx0,hn0]<;>rfl)) ?_ ?_ ?_
 · simp (disch:=first|exact za|fail) only [go_sem,seval,-List.reduceReplicate,yj,hx0,hn0]<;>(repeat' (first | rfl | refine And.intro ?_ ?_))
 · exact trivial
 intro env E hQ;simp (disch:=first|exact za|fail) only [go_sem,seval,-List.reduceReplicate,yj,hx0,hn0] at E
 rotate_left 1
 intro i env hi0 hi E hQ ihE;simp (disch:=first|exact za|fail) only [go_sem,seval,-List.reduceReplicate,yj,hx0,hn0] at E
 rotate_left 1
 · have hd:decide ((0:Int) < (n:Int) - (n:Int))=false:=decide_eq_false (by omega)
   refine .q ?_;refine .text ?_;simp (disch:=first|exact za|fail) only [go_sem,seval,-List.reduceReplicate,E,hd]
   refine .q ?_;refine .ifF (by simp (disch:=first|exact za|fail) only [go_sem,seval,-List.reduceReplicate,Int.sub_self]) ?_
   refine .q ?_;refine .text ?_;simp (disch:=first|exact za|fail) only [go_sem,seval,-List.reduceReplicate,E]
   refine .q ?_;refine .retKeep Tryd.func53 (by rw [Tryd.results53]) (by simp (disch:=first|exact za|fail) only [go_sem,seval,-List.reduceReplicate,E];rfl) ?_;(try simp (disch:=first|exact za|fail) only [go_sem,seval,-List.reduceReplicate,E])
   exact h
 · have hl:(yj i x).length=i:=zv
   have hs:yj i x++[BitVec.ofNat 8 (x / 256 ^ i)]=yj (i+1) x:=leN_snoc.symm
   have hd:decide ((0:Int) < (n:Int) - (i:Int))=true:=decide_eq_true (by omega)
   have hx:((x / 256 ^ i:Nat):Int) / 256=((x / 256 ^ (i+1):Nat):Int):=by
    rw [show (256:Int)=((256:Nat):Int) from rfl,←Int.natCast_ediv,Nat.div_div_eq_div_mul,Nat.pow_succ]
   have hn1:(n:Int) - (i:Int) - 1=(n:Int) - ((i:Int)+1):=by omega
   refine .q ?_;refine .text ?_;simp (disch:=first|exact za|fail) only [go_sem,seval,-List.reduceReplicate,E,hd]
   refine .q ?_;refine .ifT (by simp (disch:=first|exact za|fail) only [go_sem,seval,-List.reduceReplicate,hd]) ?_
   refine .q ?_;refine .text ?_;simp (disch:=first|exact za|fail) only [go_sem,seval,-List.reduceReplicate,E,hl,BitVec.ofInt_natCast,zcA,zcB]
   refine .q ?_;refine .text ?_;simp (disch:=first|exact za|fail) only [go_sem,seval,-List.reduceReplicate,E,zhK,hx]
   refine .q ?_;refine .text ?_;simp (disch:=first|exact za|fail) only [go_sem,seval,-List.reduceReplicate,E,hn1]
   first | (refine ihE _ _ ?_ trivial ?_) | (refine .z rfl ?_;refine ihE _ _ ?_ trivial ?_) | (refine .z rfl ?_;refine .z rfl ?_;refine ihE _ _ ?_ trivial ?_) | (refine .z rfl ?_;refine .z rfl ?_;refine .z rfl ?_;refine ihE _ _ ?_ trivial ?_)
   · simp (disch:=first|exact za|fail) only [go_sem,seval,-List.reduceReplicate,E,hs,zhK,hx,hn1,List.append_assoc,Nat.add_assoc]<;>(repeat' (first | rfl | refine And.intro ?_ ?_))
   · first | rfl | (simp (disch:=first|exact za|fail) only [go_sem,seval,-List.reduceReplicate,E,hs,zhK,hx,hn1,List.append_assoc,Nat.add_assoc]<;>(try rfl))
set_option maxHeartbeats 2000000 in
theorem zed (hG0:G 0=some (8,[.agg (pl zG inits)])) (hG1:G 1=some (64,[.agg (pl zG ks)])) (k:BitVec 8) (p:By) (hp:p.length≤1000000000) (H:Hp) (R:AV → Hp → Prop) (h:R (.p (.sl false 1 (pl b8 (y9 k p)))) H):ACall Tryd.prog G 45 [.p (b8 k),.p (.sl false 1 (pl b8 p))] H R:=by
 have h4:(yj 4 p.length).length=4:=zv
 have h8:((sha (k :: p)).take 8).length=8:=zs4
 have hkp:(yj 4 p.length++[k]++p).drop 4=k :: p:=by rw [List.append_assoc,List.drop_left' h4];rfl
 have hlen:(yj 4 p.length++[k]++p).length=p.length+5:=by simp [h4];omega
 have hbl:(k :: p).length≤140737488353000:=by rw [List.length_cons];omega
 have hr:yj 4 p.length++[k]++p++(sha (k :: p)).take 8=y9 k p:=by rw [y9];simp
 refine ACall.of_run (raw:=[53]) Tryd.func45 rfl Tryd.ntmps45 (by simp) fun hbel => ?_
 refine .q ?_;refine .text ?_;simp (disch:=first|exact za|fail) only [go_sem,seval,-List.reduceReplicate]
 refine .q ?_;refine .text ?_;simp (disch:=first|exact za|fail) only [go_sem,seval,-List.reduceReplicate]
 refine CallK.of (fun R h=>zdx p.length 4 (by decide) _ R h) ?_;simp (disch:=first|exact za|fail) only [go_sem,seval,-List.reduceReplicate]
 refine .q ?_;refine .text ?_;simp (disch:=first|exact za|fail) only [go_sem,seval,-List.reduceReplicate,zcA,zcB,h4]
 refine .q ?_;refine .text ?_;simp (disch:=first|exact za|fail) only [go_sem,seval,-List.reduceReplicate,hkp]
 refine CallK.of (fun R h=>zjz hG0 hG1 (k :: p) hbl _ R h) ?_;simp (disch:=first|exact za|fail) only [go_sem,seval,-List.reduceReplicate]
 have hsl:(sha (k :: p)).length=32:=zez _
 generalize sha (k :: p)=d at hr h8 hsl ⊢
 refine .q ?_;refine .text ?_;simp (disch:=first|exact za|fail) only [go_sem,seval,-List.reduceReplicate,hsl,hlen,h8,hr]
 refine .q ?_;refine .rt Tryd.func45 (by rw [Tryd.results45]) (hx:=by simp (disch:=first|exact za|fail) only [go_sem,seval,-List.reduceReplicate,hr];rfl) (hR := ?_);simp (disch:=first|exact za|fail) only [go_sem,seval,-List.reduceReplicate,hr]
 exact h
set_option maxHeartbeats 2000000 in
theorem zhR (rows:Nat) (cs:List By) (hn:cs.length≤1000) (hl : ∀ c∈cs,c.length≤1000000) (H:Hp) (R:AV → Hp → Prop) (h:R (.p (.sl false 1 (pl b8 (zoF rows cs)))) H):ACall Tryd.prog G 46 [.p (seg rows cs)] H R:=by
 have h2:(yj 2 rows).length=2:=zv
 have hb : ∀ i,i≤cs.length → (yj 2 rows++zZ (cs.take i)).length≤2000000000:=fun i hi=>by
  have key : ∀ l:List By,(∀ c∈l,c.length≤1000000) → (l.map List.length).sum≤1000000*l.length:=by
   intro l
   induction l with
   | nil=>intro _;exact Nat.le_refl _
   | cons x l ih =>
    intro h
    have h1:=ih fun c hc=>h c (by simp [hc])
    have h2:=h x (by simp)
    simp only [List.map_cons,List.sum_cons,List.length_cons]
    omega
  have:=key (cs.take i) fun c hc=>hl c (List.mem_of_mem_take hc)
  rw [List.length_append,h2,zgS,List.length_take]
  rw [List.length_take] at this
  omega
 refine ACall.of_run (raw:=[53]) Tryd.func46 rfl Tryd.ntmps46 (by simp) fun hbel => ?_
 refine .q ?_;refine .text ?_;simp (disch:=first|exact za|fail) only [go_sem,seval,-List.reduceReplicate,zdW]
 refine .q ?_;refine .text ?_;simp (disch:=first|exact za|fail) only [go_sem,seval,-List.reduceReplicate]
 refine CallK.of (fun R h=>zdx rows 2 (by decide) _ R h) ?_;simp (disch:=first|exact za|fail) only [go_sem,seval,-List.reduceReplicate]
 refine .q ?_;refine .text ?_;simp (disch:=first|exact za|fail) only [go_sem,seval,-List.reduceReplicate]
 have w0:yj 2 rows++zZ (cs.take 0)=yj 2 rows:=by simp [zZ]
 refine .q ?_;refine .loopE [10,11] (fun i=>[(3,.sl (H.n+1) (2+5*i) 1 (pl b8 (yj 2 rows++zZ (cs.take i)))),(12,.p (i64 i))]) (fun i=>[(H.n+1,.tail (2+5*i))]) (fun i=>True) (0) (cs.length) (by omega) ?_ (by first | rfl | (simp (disch:=first|exact za|fail) only [go_sem,seval,-List.reduceReplicate,w0]<;>rfl)) ?_ ?_ ?_
 · simp (disch:=first|exact za|fail) only [go_sem,seval,-List.reduceReplicate,w0]<;>(repeat' (first | rfl | refine And.intro ?_ ?_))
 · exact trivial
 intro env E hQ;simp (disch:=first|exact za|fail) only [go_sem,seval,-List.reduceReplicate,w0] at E
 rotate_left 1
 intro i env hi0 hi E hQ ihE;simp (disch:=first|exact za|fail) only [go_sem,seval,-List.reduceReplicate,w0] at E
 rotate_left 1
 · refine .q ?_;refine .text ?_;simp (disch:=first|exact za|fail) only [go_sem,seval,-List.reduceReplicate,E]
   refine .q ?_;refine .ifF (by simp (disch:=first|exact za|fail) only [go_sem,seval,-List.reduceReplicate]) ?_
   refine .q ?_;refine .text ?_;simp (disch:=first|exact za|fail) only [go_sem,seval,-List.reduceReplicate,E]
   have hall:cs.take cs.length=cs:=List.take_length
   refine .q ?_;refine .rt Tryd.func46 (by rw [Tryd.results46]) (hx:=by simp (disch:=first|exact za|fail) only [go_sem,seval,-List.reduceReplicate,E,hall];rfl) (hR := ?_);simp (disch:=first|exact za|fail) only [go_sem,seval,-List.reduceReplicate,E,hall]
   exact h
 · have hc:=hl _ (zbd hi)
   obtain⟨c,hcc⟩ : ∃ c,c=nth cs i:=⟨_,rfl⟩
   have hs:=zl4 hi
   rw [←hcc] at hc hs
   have hbi:=hb i (by omega)
   obtain⟨X,hX⟩ : ∃ X,X=yj 2 rows++zZ (cs.take i):=⟨_,rfl⟩
   have hXs:X++yj 4 c.length++c=yj 2 rows++zZ (cs.take (i+1)):=by rw [hX,←hs];simp
   have h4:(yj 4 c.length).length=4:=zv
   rw [←hX] at hbi
   refine .q ?_;refine .text ?_;simp (disch:=first|exact za|fail) only [go_sem,seval,-List.reduceReplicate,E]
   refine .q ?_;refine .ifT (by simp (disch:=first|exact za|fail) only [go_sem,seval,-List.reduceReplicate]) ?_
   refine .q ?_;refine .text ?_;simp (disch:=first|exact za|fail) only [go_sem,seval,-List.reduceReplicate,E,←hcc,zl2]
   refine .q ?_;refine .text ?_;simp (disch:=first|exact za|fail) only [go_sem,seval,-List.reduceReplicate,E,←hX]
   refine CallK.of (fun R h=>zjP X c.length 4 (by decide) (by omega) (H.n+1) (2+5*i) _ (by simp (disch:=first|exact za|fail) only [go_sem,seval,-List.reduceReplicate]) R h) ?_;simp (disch:=first|exact za|fail) only [go_sem,seval,-List.reduceReplicate,E,h4,hXs]
   refine .q ?_;refine .text ?_;simp (disch:=first|exact za|fail) only [go_sem,seval,-List.reduceReplicate,E]
   have hv5:2+5*i+4+1=2+5*(i+1):=by omega
   first | (refine ihE _ _ ?_ trivial ?_) | (refine .z rfl ?_;refine ihE _ _ ?_ trivial ?_) | (refine .z rfl ?_;refine .z rfl ?_;refine ihE _ _ ?_ trivial ?_) | (refine .z rfl ?_;refine .z rfl ?_;refine .z rfl ?_;refine ihE _ _ ?_ trivial ?_)
   · simp (disch:=first|exact za|fail) only [go_sem,seval,-List.reduceReplicate,E,hXs,hv5]<;>(repeat' (first | rfl | refine And.intro ?_ ?_))
   · first | rfl | (simp (disch:=first|exact za|fail) only [go_sem,seval,-List.reduceReplicate,E,hXs,hv5]<;>(try rfl))
theorem zl5 (hG0:G 0=some (8,[.agg (pl zG inits)])) (hG1:G 1=some (64,[.agg (pl zG ks)])) (b:By) (hb:b.length≤140737488353000) (H:Hp) (R:AV → Hp → Prop)
 (h:R (.tup [.p (b8 (zgd b).1.1),.p (.sl false 1 (pl b8 (zgd b).1.2.1)),.p (.sl false 1 (pl b8 (zgd b).1.2.2)),.p (bo (zgd b).2)]) H):ACall Tryd.prog G 37 [.p (.sl false 1 (pl b8 b))] H R:=by
 have bad:spl b=none → R (.tup [.p (b8 0#8),.p (.sl false 1 []),.p (.sl false 1 []),.p (bo false)]) H:=fun e=>by rw [zgd,e] at h;exact h
 refine ACall.of_run (raw:=[]) Tryd.func37 rfl Tryd.ntmps37 (by simp) fun hbel => ?_
 refine .q ?_;refine .text ?_;simp (disch:=first|exact za|fail) only [go_sem,seval,-List.reduceReplicate]
 by_cases c1:b.length < 13
 · have d1:decide ((b.length:Int) < 13)=true:=decide_eq_true (by omega)
   refine .q ?_;refine .text ?_;simp (disch:=first|exact za|fail) only [go_sem,seval,-List.reduceReplicate,d1]
   refine .q ?_;refine .ifT (by simp (disch:=first|exact za|fail) only [go_sem,seval,-List.reduceReplicate]) ?_
   refine .q ?_;refine .text ?_;simp (disch:=first|exact za|fail) only [go_sem,seval,-List.reduceReplicate]
   refine .q ?_;refine .rt Tryd.func37 (by rw [Tryd.results37]) (hR := ?_);simp (disch:=first|exact za|fail) only [go_sem,seval,-List.reduceReplicate]
   exact bad (by rw [spl,if_pos c1])
 have d1:decide ((b.length:Int) < 13)=false:=decide_eq_false (by omega)
 have h4:(b.take 4).length=4:=by rw [List.length_take];omega
 refine .q ?_;refine .text ?_;simp (disch:=first|exact za|fail) only [go_sem,seval,-List.reduceReplicate,d1]
 refine .q ?_;refine .ifF (by simp (disch:=first|exact za|fail) only [go_sem,seval,-List.reduceReplicate]) ?_
 refine .skip ?_
 refine .q ?_;refine .text ?_;simp (disch:=first|exact za|fail) only [go_sem,seval,-List.reduceReplicate]
 refine CallK.of (fun R h=>yd (b.take 4) (by omega) _ R h) ?_;simp (disch:=first|exact za|fail) only [go_sem,seval,-List.reduceReplicate]
 obtain⟨n,hn⟩ : ∃ n,n=val (b.take 4):=⟨_,rfl⟩
 rw [←hn]
 by_cases c2:1048576 < n
 · have d2:decide ((1048576:Int) < (n:Int))=true:=decide_eq_true (by omega)
   refine .q ?_;refine .text ?_;simp (disch:=first|exact za|fail) only [go_sem,seval,-List.reduceReplicate,d2]
   refine .q ?_;refine .ifT (by simp (disch:=first|exact za|fail) only [go_sem,seval,-List.reduceReplicate]) ?_
   refine .q ?_;refine .text ?_;simp (disch:=first|exact za|fail) only [go_sem,seval,-List.reduceReplicate]
   refine .q ?_;refine .rt Tryd.func37 (by rw [Tryd.results37]) (hR := ?_);simp (disch:=first|exact za|fail) only [go_sem,seval,-List.reduceReplicate]
   exact bad (by rw [spl,if_neg c1,←hn,if_pos (.inl c2)])
 have d2:decide ((1048576:Int) < (n:Int))=false:=decide_eq_false (by omega)
 by_cases c3:b.length < 13+n
 · have d3:decide ((b.length:Int) < 5+(n:Int)+8)=true:=decide_eq_true (by omega)
   refine .q ?_;refine .text ?_;simp (disch:=first|exact za|fail) only [go_sem,seval,-List.reduceReplicate,d2,d3]
   refine .q ?_;refine .ifT (by simp (disch:=first|exact za|fail) only [go_sem,seval,-List.reduceReplicate]) ?_
   refine .q ?_;refine .text ?_;simp (disch:=first|exact za|fail) only [go_sem,seval,-List.reduceReplicate]
   refine .q ?_;refine .rt Tryd.func37 (by rw [Tryd.results37]) (hR := ?_);simp (disch:=first|exact za|fail) only [go_sem,seval,-List.reduceReplicate]
   exact bad (by rw [spl,if_neg c1,←hn,if_pos (.inr c3)])
 have d3:decide ((b.length:Int) < 5+(n:Int)+8)=false:=decide_eq_false (by omega)
 refine .q ?_;refine .text ?_;simp (disch:=first|exact za|fail) only [go_sem,seval,-List.reduceReplicate,d2,d3]
 refine .q ?_;refine .ifF (by simp (disch:=first|exact za|fail) only [go_sem,seval,-List.reduceReplicate]) ?_
 refine .skip ?_
 have e1:(b.take (5+(n:Int)).toNat).drop 4=(b.drop 4).take (1+n):=by
  rw [show (5+(n:Int)).toNat=5+n by omega,List.drop_take,show 5+n - 4=1+n by omega]
 obtain⟨m,hm⟩ : ∃ m,m=(b.drop 4).take (1+n):=⟨_,rfl⟩
 have hml:m.length≤140737488353000:=by rw [hm,List.length_take,List.length_drop];omega
 rw [←hm] at e1
 refine .q ?_;refine .text ?_;simp (disch:=first|exact za|fail) only [go_sem,seval,-List.reduceReplicate,e1]
 refine CallK.of (fun R h=>zjz hG0 hG1 m hml _ R h) ?_;simp (disch:=first|exact za|fail) only [go_sem,seval,-List.reduceReplicate]
 have hsl:(sha m).length=32:=zez _
 obtain⟨d,hd⟩ : ∃ d,d=sha m:=⟨_,rfl⟩
 rw [←hd] at hsl ⊢
 refine .q ?_;refine .frzP 7 (by simp (disch:=first|exact za|fail) only [go_sem,seval,-List.reduceReplicate,hsl];rfl) (by simp (disch:=first|exact za|fail) only [go_sem,seval,-List.reduceReplicate,hsl]<;>rfl) (fun _=>rfl) (by first | exact za | fail) ?_;(try simp (disch:=first|exact za|fail) only [go_sem,seval,-List.reduceReplicate,hsl])
 have i1:(5+(n:Int)).toNat=5+n:=by omega
 have i2:(5+(n:Int)+8).toNat=13+n:=by omega
 have e2:(b.take (13+n)).drop (5+n)=(b.drop (5+n)).take 8:=by rw [List.drop_take,show 13+n - (5+n)=8 by omega]
 refine .q ?_;refine .open [] follows (by kernel_rfl) ?_;simp (disch:=first|exact za|fail) only [go_sem,seval,-List.reduceReplicate,hsl,i1,i2,e2]
 refine CallD.still (fun R h=>zfD _ _ _ R h) ?_;simp (disch:=first|exact za|fail) only [go_sem,seval,-List.reduceReplicate,hsl,i1,i2,e2]
 by_cases c4:d.take 8=(b.drop (5+n)).take 8
 · have d4:decide (d.take 8=(b.drop (5+n)).take 8)=true:=decide_eq_true c4
   have hs:spl b=some (nth b 4,(b.drop 5).take n,b.drop (13+n)):=by
    rw [spl,if_neg c1,←hn,if_neg (by omega),←hm,←hd,if_pos c4];rfl
   rw [zgd,hs] at h
   dsimp only at h
   have e3:(b.take (5+n)).drop 5=(b.drop 5).take n:=by rw [List.drop_take,show 5+n - 5=n by omega]
   simp (disch:=first|exact za|fail) only [go_sem,seval,-List.reduceReplicate,d4]
   refine .q ?_;refine .ifF (by simp (disch:=first|exact za|fail) only [go_sem,seval,-List.reduceReplicate]) ?_
   refine .skip ?_
   refine .q ?_;refine .open [] follows (by kernel_rfl) ?_;simp (disch:=first|exact za|fail) only [go_sem,seval,-List.reduceReplicate,hsl,i1,i2,e3]
   refine .q ?_;refine .rt Tryd.func37 (by rw [Tryd.results37]) (hR := ?_);simp (disch:=first|exact za|fail) only [go_sem,seval,-List.reduceReplicate]
   exact h
 · have d4:decide (d.take 8=(b.drop (5+n)).take 8)=false:=decide_eq_false c4
   simp (disch:=first|exact za|fail) only [go_sem,seval,-List.reduceReplicate,d4]
   refine .q ?_;refine .ifT (by simp (disch:=first|exact za|fail) only [go_sem,seval,-List.reduceReplicate]) ?_
   refine .q ?_;refine .text ?_;simp (disch:=first|exact za|fail) only [go_sem,seval,-List.reduceReplicate]
   refine .q ?_;refine .rt Tryd.func37 (by rw [Tryd.results37]) (hR := ?_);simp (disch:=first|exact za|fail) only [go_sem,seval,-List.reduceReplicate]
   exact bad (by rw [spl,if_neg c1,←hn,if_neg (by omega),←hm,←hd,if_neg c4])
end walks
end Go.Proofs.YtdpfkanfahchjaaDoor

/-
  The log of readings: the payload of a segment read,by the program;the program's write.
-/
namespace Go.Proofs.YtdpfkanfahchjaaDoor
open Go Go.AL

def zfH (b:By):Prop:=b.length < 4 ∨ b.length < 4+val (b.take 4)
instance {b:By}:Decidable (zfH b):=by unfold zfH;infer_instance
theorem zbO : ∀ {i:Nat} {b:By},z8 (i+1) b=(match z8 i b with | none=>none | some (cs,r)=>if zfH r then none else some (cs++[(r.drop 4).take (val (r.take 4))],r.drop (4+val (r.take 4))))
 | 0,b=>by
  show (if _ then _ else _)=_
  unfold zfH
  simp only [z8,List.nil_append]
 | i+1,b=>by
  have ih:=zbO (i:=i) (b:=b.drop (4+val (b.take 4)))
  conv=>lhs;unfold z8
  conv=>rhs;unfold z8
  rw [ih]
  by_cases h:b.length < 4 ∨ b.length < 4+val (b.take 4)
  · rw [if_pos h,if_pos h]
  · rw [if_neg h,if_neg h]
    cases h2:z8 i (b.drop (4+val (b.take 4))) with
    | none=>rfl
    | some q =>
     obtain⟨cs,r⟩:=q
     dsimp only
     by_cases h3:zfH r
     · rw [if_pos h3,if_pos h3]
     · rw [if_neg h3,if_neg h3];rfl
theorem zl6 {i j:Nat} {b:By} (hij:i≤j) (h:z8 i b=none):z8 j b=none:=by
  induction j with
  | zero => have : i = 0 := by omega
            subst this;exact h
  | succ j ih =>
    by_cases e:i=j+1
    · subst e;exact h
    · rw [zbO,ih (by omega)]
def csI (b:By) (i:Nat):List By:=((z8 i b).getD ([],[])).1
def rI (b:By) (i:Nat):By:=((z8 i b).getD ([],[])).2
theorem zfI {b:By} {i:Nat} (h:(z8 i b).isSome=true):z8 i b=some (csI b i,rI b i):=by
 unfold csI rI
 cases h2:z8 i b with
 | none=>rw [h2] at h;cases h
 | some q=>rfl
theorem zc6 : ∀ {i:Nat} {b:By} {cs:List By} {r:By},z8 i b=some (cs,r) → r.length≤b.length ∧ ∀ c∈cs,c.length≤b.length
 | 0,b,cs,r,h=>by cases h;exact⟨Nat.le_refl _,by simp⟩
 | i+1,b,cs,r,h=>by
  rw [zbO] at h
  cases h2:z8 i b with
  | none=>rw [h2] at h;cases h
  | some q =>
   obtain⟨cs',r'⟩:=q
   rw [h2] at h
   dsimp only at h
   split at h
   · cases h
   · cases h
     obtain⟨q1,q2⟩:=zc6 h2
     refine⟨by rw [List.length_drop];omega,fun c hc => ?_⟩
     rcases List.mem_append.1 hc with hc | hc
     · exact q2 c hc
     · rw [List.mem_singleton] at hc
       subst hc
       rw [List.length_take,List.length_drop];omega
def zbV (b:By):(Nat × List By) × Bool :=
 if b.length < 2 then ((0,[]),false) else
 match z8 4 (b.drop 2) with
 | some (cs,r)=>((val (b.take 2),cs),r.isEmpty)
 | none=>((0,[]),false)
theorem zl7 {b:By} {q:Nat × List By} (h:zes b=some q):zbV b=(q,true):=by
 unfold zes at h
 unfold zbV
 split at h
 · cases h
 · rename_i c
   rw [if_neg c]
   cases h2:z8 4 (b.drop 2) with
   | none=>rw [h2] at h;cases h
   | some p =>
    obtain⟨cs,r⟩:=p
    rw [h2] at h
    cases r with
    | nil=>cases h;rfl
    | cons x r=>cases h
theorem zl8 {b:By} (h:zes b=none):(zbV b).2=false:=by
 unfold zes at h
 unfold zbV
 split at h
 · rename_i c;rw [if_pos c]
 · rename_i c
   rw [if_neg c]
   cases h2:z8 4 (b.drop 2) with
   | none=>rfl
   | some p =>
    obtain⟨cs,r⟩:=p
    rw [h2] at h
    cases r with
    | nil=>cases h
    | cons x r=>rfl
theorem zoS {b:By} : ∀ c∈(zbV b).1.2,c.length≤b.length:=by
 unfold zbV
 split
 · simp
 · cases h2:z8 4 (b.drop 2) with
   | none=>simp
   | some p =>
    obtain⟨cs,r⟩:=p
    intro c hc
    have:=(zc6 h2).2 c hc
    rw [List.length_drop] at this
    omega
section walks
variable {G:Globs}
set_option maxHeartbeats 4000000 in
set_option maxRecDepth 20000 in
theorem zge (b:By) (hb:b.length≤1048576) (H:Hp) (R:AV → Hp → Prop) (h:R (.tup [.p (seg (zbV b).1.1 (zbV b).1.2),.p (bo (zbV b).2)]) H):ACall Tryd.prog G 62 [.p (.sl false 1 (pl b8 b))] H R:=by
  have bad:z8 4 (b.drop 2)=none ∨ b.length < 2 → R (.tup [.p (seg 0 []),.p (bo false)]) H:=fun e=>by
    rw [zbV] at h
    rcases e with e | e
    · rw [e] at h
      split at h<;>exact h
    · rw [if_pos e] at h;exact h
  refine ACall.of_run (raw:=[]) Tryd.func62 rfl Tryd.ntmps62 (by simp) fun hbel => ?_
  refine .q ?_;refine .text ?_;simp (disch:=first|exact za|fail) only [go_sem,seval,-List.reduceReplicate]
  by_cases c1:b.length < 2
  · have d1:decide ((b.length:Int) < 2)=true:=decide_eq_true (by omega)
    refine .q ?_;refine .text ?_;simp (disch:=first|exact za|fail) only [go_sem,seval,-List.reduceReplicate,d1]
    refine .q ?_;refine .ifT (by simp (disch:=first|exact za|fail) only [go_sem,seval,-List.reduceReplicate]) ?_
    refine .q ?_;refine .text ?_;simp (disch:=first|exact za|fail) only [go_sem,seval,-List.reduceReplicate]
    refine .q ?_;refine .rt Tryd.func62 (by rw [Tryd.results62]) (hR := ?_);simp (disch:=first|exact za|fail) only [go_sem,seval,-List.reduceReplicate]
    exact bad (.inr c1)
  have d1:decide ((b.length:Int) < 2)=false:=decide_eq_false (by omega)
  rw [zbV,if_neg c1] at h
  have h2:(b.take 2).length=2:=by rw [List.length_take];omega
  refine .q ?_;refine .text ?_;simp (disch:=first|exact za|fail) only [go_sem,seval,-List.reduceReplicate,d1]
  refine .q ?_;refine .ifF (by simp (disch:=first|exact za|fail) only [go_sem,seval,-List.reduceReplicate]) ?_
  refine .skip ?_
  refine .q ?_;refine .text ?_;simp (disch:=first|exact za|fail) only [go_sem,seval,-List.reduceReplicate]
  refine CallK.of (fun R h=>yd (b.take 2) (by omega) _ R h) ?_;simp (disch:=first|exact za|fail) only [go_sem,seval,-List.reduceReplicate]
  obtain⟨rows,hrows⟩ : ∃ rows,rows=val (b.take 2):=⟨_,rfl⟩
  rw [←hrows] at h ⊢
  refine .q ?_;refine .text ?_;simp (disch:=first|exact za|fail) only [go_sem,seval,-List.reduceReplicate]
  obtain⟨B,hB⟩ : ∃ B,B=b.drop 2:=⟨_,rfl⟩
  have hBl:B.length≤1048576:=by rw [hB,List.length_drop];omega
  rw [←hB] at h bad ⊢
  have hr0:rI B 0=B:=rfl
  have hc0:csI B 0=[]:=rfl
  refine .q ?_;refine .text ?_;simp (disch:=first|exact za|fail) only [go_sem,seval,-List.reduceReplicate]
  refine CallK.of (fun R h=>zaG _ R h) ?_;simp (disch:=first|exact za|fail) only [go_sem,seval,-List.reduceReplicate]
  refine .q ?_;refine .ownC (H.n+1) 1 (by simp (disch:=first|exact za|fail) only [go_sem,seval,-List.reduceReplicate];rfl) (by rfl) ?_;simp (disch:=first|exact za|fail) only [go_sem,seval,-List.reduceReplicate,List.set_cons_zero,List.set_cons_succ]
  refine .q ?_;refine .loopE [2,4] (fun i=>[(0,.p (.sl false 1 (pl b8 (rI B i)))),(17,.p (i64 i))]) (fun i=>[(H.n+1,.cells [.p (i64 rows),.sl (H.n+3) i 1 (pl (sle 1 b8) (csI B i))]),(H.n+3,.tail i)]) (fun i=>(z8 i B).isSome=true) (0) (4) (by omega) ?_ (by first | rfl | (simp (disch:=first|exact za|fail) only [go_sem,seval,-List.reduceReplicate,hr0,hc0]<;>rfl)) ?_ ?_ ?_
  · simp (disch:=first|exact za|fail) only [go_sem,seval,-List.reduceReplicate,hr0,hc0]<;>(repeat' (first | rfl | refine And.intro ?_ ?_))
  rotate_left 1
  intro env E hQ;simp (disch:=first|exact za|fail) only [go_sem,seval,-List.reduceReplicate,hr0,hc0] at E
  rotate_left 1
  intro i env hi0 hi E hQ ihE;simp (disch:=first|exact za|fail) only [go_sem,seval,-List.reduceReplicate,hr0,hc0] at E
  rotate_left 1
  · rfl
  · rw [zfI hQ] at h
    dsimp only at h
    have hie:(rI B 4).isEmpty=((((rI B 4).length:Nat):Int) == 0):=by
      cases rI B 4 with
      | nil=>rfl
      | cons x l=>simp;omega
    rw [hie] at h
    refine .q ?_;refine .text ?_;simp (disch:=first|exact za|fail) only [go_sem,seval,-List.reduceReplicate,E]
    refine .q ?_;refine .ifF (by simp (disch:=first|exact za|fail) only [go_sem,seval,-List.reduceReplicate]) ?_
    refine .q ?_;refine .text ?_;simp (disch:=first|exact za|fail) only [go_sem,seval,-List.reduceReplicate,E]
    refine .q ?_;refine .rt Tryd.func62 (by rw [Tryd.results62]) (hx:=by simp (disch:=first|exact za|fail) only [go_sem,seval,-List.reduceReplicate,E];rfl) (hR := ?_);simp (disch:=first|exact za|fail) only [go_sem,seval,-List.reduceReplicate,E]
    exact h
  · have hps:=zfI hQ
    have hsu:=zbO (i:=i) (b:=B)
    rw [hps] at hsu
    dsimp only at hsu
    obtain⟨hrl,hcl⟩:=zc6 hps
    have hcn:=zdR hps
    obtain⟨r,hr⟩ : ∃ r,r=rI B i:=⟨_,rfl⟩
    rw [←hr] at hsu hrl
    have fail:zfH r → R (.tup [.p (seg 0 []),.p (bo false)]) H:=fun e=>bad (.inl (zl6 (i:=i+1) (by omega) (by rw [hsu,if_pos e])))
    refine .q ?_;refine .text ?_;simp (disch:=first|exact za|fail) only [go_sem,seval,-List.reduceReplicate,E]
    refine .q ?_;refine .ifT (by simp (disch:=first|exact za|fail) only [go_sem,seval,-List.reduceReplicate]) ?_
    by_cases c2:r.length < 4
    · have d2:decide ((r.length:Int) < 4)=true:=decide_eq_true (by omega)
      refine .q ?_;refine .text ?_;simp (disch:=first|exact za|fail) only [go_sem,seval,-List.reduceReplicate,E,←hr,d2]
      refine .q ?_;refine .ifT (by simp (disch:=first|exact za|fail) only [go_sem,seval,-List.reduceReplicate]) ?_
      refine .q ?_;refine .text ?_;simp (disch:=first|exact za|fail) only [go_sem,seval,-List.reduceReplicate,E]
      refine .q ?_;refine .rt Tryd.func62 (by rw [Tryd.results62]) (hx:=by simp (disch:=first|exact za|fail) only [go_sem,seval,-List.reduceReplicate,E];rfl) (hR := ?_);simp (disch:=first|exact za|fail) only [go_sem,seval,-List.reduceReplicate,E]
      exact fail (.inl c2)
    have d2:decide ((r.length:Int) < 4)=false:=decide_eq_false (by omega)
    have h4:(r.take 4).length=4:=by rw [List.length_take];omega
    refine .q ?_;refine .text ?_;simp (disch:=first|exact za|fail) only [go_sem,seval,-List.reduceReplicate,E,←hr,d2]
    refine CallK.of (fun R h=>yd (r.take 4) (by omega) _ R h) ?_;simp (disch:=first|exact za|fail) only [go_sem,seval,-List.reduceReplicate,E,←hr,d2]
    obtain⟨n,hn⟩ : ∃ n,n=val (r.take 4):=⟨_,rfl⟩
    rw [←hn] at hsu ⊢
    by_cases c3:r.length < 4+n
    · have d3:decide ((r.length:Int) - 4 < (n:Int))=true:=decide_eq_true (by omega)
      simp (disch:=first|exact za|fail) only [go_sem,seval,-List.reduceReplicate,E,←hr,d3]
      refine .q ?_;refine .ifT (by simp (disch:=first|exact za|fail) only [go_sem,seval,-List.reduceReplicate]) ?_
      refine .q ?_;refine .text ?_;simp (disch:=first|exact za|fail) only [go_sem,seval,-List.reduceReplicate,E]
      refine .q ?_;refine .rt Tryd.func62 (by rw [Tryd.results62]) (hx:=by simp (disch:=first|exact za|fail) only [go_sem,seval,-List.reduceReplicate,E];rfl) (hR := ?_);simp (disch:=first|exact za|fail) only [go_sem,seval,-List.reduceReplicate,E]
      exact fail (.inr (by rw [←hn];exact c3))
    have d3:decide ((r.length:Int) - 4 < (n:Int))=false:=decide_eq_false (by omega)
    rw [if_neg (by unfold zfH;rw [←hn];omega)] at hsu
    simp (disch:=first|exact za|fail) only [go_sem,seval,-List.reduceReplicate,E,←hr,d3]
    refine .q ?_;refine .ifF (by simp (disch:=first|exact za|fail) only [go_sem,seval,-List.reduceReplicate]) ?_
    refine .skip ?_
    refine .q ?_;refine .text ?_;simp (disch:=first|exact za|fail) only [go_sem,seval,-List.reduceReplicate,E,←hr]
    refine CallK.of (fun R h=>yd (r.take 4) (by omega) _ R h) ?_;simp (disch:=first|exact za|fail) only [go_sem,seval,-List.reduceReplicate,E,←hr]
    rw [←hn]
    obtain⟨c,hc⟩ : ∃ c,c=(r.drop 4).take n:=⟨_,rfl⟩
    have e1:(r.take (4+(n:Int)).toNat).drop 4=c:=by rw [hc,show (4+(n:Int)).toNat=4+n by omega,List.drop_take,show 4+n - 4=n by omega]
    have i1:(4+(n:Int)).toNat=4+n:=by omega
    have q1 : csI B i ++ [c] = csI B (i + 1) := by rw [hc]; conv => rhs; rw [csI, hsu]
                                                   rfl
    have q2 : r.drop (4 + n) = rI B (i + 1) := by conv => rhs; rw [rI, hsu]
                                                  rfl
    have hq2:(z8 (i+1) B).isSome=true:=by rw [hsu];rfl
    have hkl:(csI B i).length≤100:=by rw [hcn];omega
    have hone:[PV.sl false 1 (pl b8 c)]=pl (sle 1 b8) [c]:=rfl
    have hwk:(PV.sl false 1 (pl b8 c)).weak=PV.sl false 1 (pl b8 c):=rfl
    have hall:((pl (sle 1 b8) [c]).all fun x=>x.cells.length == 1)=true:=rfl
    have hw2:(pl (sle 1 b8) [c]).map PV.weak=pl (sle 1 b8) [c]:=rfl
    have e1':(r.take (4+n)).drop 4=c:=by rw [←i1];exact e1
    (refine .q ?_)
    refine .openInv (fun L env' H'=>kF env' [(4,.ptr (H.n+1) 0),(5,.p (i64 (4+(n:Int)))),(17,.p (i64 i)),(2,.ptr H.n 0)]∧kI L env' [(0,36,.ptr (H.n+1) 1),(1,37,.sl (H.n+3) i 1 (pl (sle 1 b8) (csI B i))),(2,38,.p (.sl false 1 (pl b8 r))),(3,39,.p (i64 (4+(n:Int)))),(4,40,.p (.sl false 1 (pl b8 c))),(5,41,.p (.sl true 1 (pl (sle 1 b8) [c]))),(6,42,.sl (H.n+3) (i+1) 1 (pl (sle 1 b8) (csI B (i+1)))),(7,43,.p (.sl false 1 (pl b8 r))),(8,44,.p (i64 (4+(n:Int)))),(9,45,.p (.sl false 1 (pl b8 (rI B (i+1))))),(10,46,.ptr (H.n+1) 1),(12,0,.p (.sl false 1 (pl b8 (rI B (i+1)))))]∧(L 12=false → env' 0 = .p (.sl false 1 (pl b8 r)))∧(L 6=true → allT L [1,5])∧(L 11=true → allT L [0,1,2,3,4,5,6,10])∧(L 12=true → allT L [0,1,2,3,4,5,6,7,8,9,10,11])∧H'=((((H.new (.cells [.p (i64 0),.p (.sl true 1 [])])).new (.cells [.p (i64 rows),if L 11 then .sl (H.n+3) (i+1) 1 (pl (sle 1 b8) (csI B (i+1))) else .sl (H.n+3) i 1 (pl (sle 1 b8) (csI B i))])).new (.cells zrI)).new (.tail (if L 6 then i+1 else i)))) follows (by kernel_rfl) ?_ ?_ ?_
    · exact⟨(by simp (disch:=first|exact za|fail) only [go_sem,seval,-List.reduceReplicate,kFi,kFn,and_self,E,←hr,i1,e1',hone,hwk,hall,hw2,hkl,q1,q2]),(fun _ _ h=>by cases h),(fun _=>by simp (disch:=first|exact za|fail) only [go_sem,seval,-List.reduceReplicate,E,←hr,i1,e1',hone,hwk,hall,hw2,hkl,q1,q2]),(fun h=>by cases h),(fun h=>by cases h),(fun h=>by cases h),(by first | rfl | (simp only [Bool.false_eq_true,if_false];first | rfl | (simp (disch:=first|exact za|fail) only [go_sem,seval,-List.reduceReplicate,E,←hr,i1,e1',hone,hwk,hall,hw2,hkl,q1,q2]<;>rfl)))⟩
    · intro i o L env' H' ho hL hall hI
      obtain⟨KF,KG,f0,m6,m11,m12,rfl⟩:=hI
      rcases i with _ | _ | _ | _ | _ | _ | _ | _ | _ | _ | _ | _ | _ | i
      · cases ho;have f1:=y0 KF 0 rfl;refine ze (.ptr (H.n+1) 1) rfl rfl (by simp (disch:=first|exact za|fail) only [go_sem,seval,-List.reduceReplicate,f1,←hr,i1,e1',hone,hwk,hall,hw2,hkl,q1,q2]<;>rfl) rfl ?_;exact⟨ya KF,yb KG,(kq f0),ka m6,ka m11,ka m12,(by rw [zb (by decide),zb (by decide)])⟩
      · cases ho;have d0:=zQ KG 0 rfl (kL hall 0 rfl rfl);have n6:=nfT m6 hL;have n11:=nfT m11 hL;have n12:=nfT m12 hL;refine ze (.sl (H.n+3) i 1 (pl (sle 1 b8) (csI B i))) rfl rfl (by simp (disch:=first|exact za|fail) only [go_sem,seval,-List.reduceReplicate,reduceIte,Bool.false_eq_true,if_false,if_true,d0,n6,n11,n12,hL,←hr,i1,e1',hone,hwk,hall,hw2,hkl,q1,q2]<;>rfl) rfl ?_;exact⟨ya KF,yb KG,(kq f0),ka m6,ka m11,ka m12,(by rw [zb (by decide),zb (by decide)])⟩
      · cases ho;have n12:=nfT m12 hL;refine ze (.p (.sl false 1 (pl b8 r))) rfl rfl (by simp (disch:=first|exact za|fail) only [go_sem,seval,-List.reduceReplicate,f0 n12,←hr,i1,e1',hone,hwk,hall,hw2,hkl,q1,q2]<;>rfl) rfl ?_;exact⟨ya KF,yb KG,(kq f0),ka m6,ka m11,ka m12,(by rw [zb (by decide),zb (by decide)])⟩
      · cases ho;have f2:=y0 KF 1 rfl;refine ze (.p (i64 (4+(n:Int)))) rfl rfl (by simp (disch:=first|exact za|fail) only [go_sem,seval,-List.reduceReplicate,f2,←hr,i1,e1',hone,hwk,hall,hw2,hkl,q1,q2]<;>rfl) rfl ?_;exact⟨ya KF,yb KG,(kq f0),ka m6,ka m11,ka m12,(by rw [zb (by decide),zb (by decide)])⟩
      · cases ho;have d2:=zQ KG 2 rfl (kL hall 0 rfl rfl);have d3:=zQ KG 3 rfl (kL hall 1 rfl rfl);have n11:=nfT m11 hL;have n12:=nfT m12 hL;refine ze (.p (.sl false 1 (pl b8 c))) rfl rfl (by simp (disch:=first|exact za|fail) only [go_sem,seval,-List.reduceReplicate,reduceIte,Bool.false_eq_true,if_false,if_true,d2,d3,n11,n12,hL,←hr,i1,e1',hone,hwk,hall,hw2,hkl,q1,q2]<;>rfl) rfl ?_;exact⟨ya KF,yb KG,(kq f0),ka m6,ka m11,ka m12,(by rw [zb (by decide),zb (by decide)])⟩
      · cases ho;have d4:=zQ KG 4 rfl (kL hall 0 rfl rfl);have n6:=nfT m6 hL;have n11:=nfT m11 hL;have n12:=nfT m12 hL;refine ze (.p (.sl true 1 (pl (sle 1 b8) [c]))) rfl rfl (by simp (disch:=first|exact za|fail) only [go_sem,seval,-List.reduceReplicate,reduceIte,Bool.false_eq_true,if_false,if_true,d4,n6,n11,n12,hL,←hr,i1,e1',hone,hwk,hall,hw2,hkl,q1,q2]<;>rfl) rfl ?_;exact⟨ya KF,yb KG,(kq f0),ka m6,ka m11,ka m12,(by rw [zb (by decide),zb (by decide)])⟩
      · cases ho;have h1:=kL hall 0 rfl rfl;have d1:=zQ KG 1 rfl h1;have h5:=kL hall 1 rfl rfl;have d5:=zQ KG 5 rfl h5;have n11:=nfT m11 hL;have n12:=nfT m12 hL;(try simp only [n11,hL,if_true,if_false,Bool.false_eq_true]);refine zfx (.sl (H.n+3) (i+1) 1 (pl (sle 1 b8) (csI B (i+1)))) rfl rfl (by simp (disch:=first|exact za|fail) only [go_sem,seval,-List.reduceReplicate,reduceIte,Bool.false_eq_true,if_false,if_true,d1,d5,n11,n12,hL,←hr,i1,e1',hone,hwk,hall,hw2,hkl,q1,q2]<;>rfl) rfl ?_;exact⟨ya KF,yb KG,(kq f0),(fun _=>kt (zg h1 (zg h5 yi))),ka m11,ka m12,(by (have e6:more L 6 6=true:=yJ);(have e11:more L 6 11=L 11:=zb (by decide));(try simp only [e6,e11,n11,hL]);first | done | rfl | (simp only [e6,e11,n11,hL,if_true,if_false,Bool.false_eq_true];first | done | rfl | (simp (disch:=first|exact za|fail) only [go_sem,seval,-List.reduceReplicate,e6,e11,n11,hL,←hr,i1,e1',hone,hwk,hall,hw2,hkl,q1,q2]<;>rfl)))⟩
      · cases ho;have n12:=nfT m12 hL;refine ze (.p (.sl false 1 (pl b8 r))) rfl rfl (by simp (disch:=first|exact za|fail) only [go_sem,seval,-List.reduceReplicate,f0 n12,←hr,i1,e1',hone,hwk,hall,hw2,hkl,q1,q2]<;>rfl) rfl ?_;exact⟨ya KF,yb KG,(kq f0),ka m6,ka m11,ka m12,(by rw [zb (by decide),zb (by decide)])⟩
      · cases ho;have f2:=y0 KF 1 rfl;refine ze (.p (i64 (4+(n:Int)))) rfl rfl (by simp (disch:=first|exact za|fail) only [go_sem,seval,-List.reduceReplicate,f2,←hr,i1,e1',hone,hwk,hall,hw2,hkl,q1,q2]<;>rfl) rfl ?_;exact⟨ya KF,yb KG,(kq f0),ka m6,ka m11,ka m12,(by rw [zb (by decide),zb (by decide)])⟩
      · cases ho;have d7:=zQ KG 7 rfl (kL hall 0 rfl rfl);have d8:=zQ KG 8 rfl (kL hall 1 rfl rfl);refine ze (.p (.sl false 1 (pl b8 (rI B (i+1))))) rfl rfl (by simp (disch:=first|exact za|fail) only [go_sem,seval,-List.reduceReplicate,d7,d8,←hr,i1,e1',hone,hwk,hall,hw2,hkl,q1,q2]<;>rfl) rfl ?_;exact⟨ya KF,yb KG,(kq f0),ka m6,ka m11,ka m12,(by rw [zb (by decide),zb (by decide)])⟩
      · cases ho;have f1:=y0 KF 0 rfl;refine ze (.ptr (H.n+1) 1) rfl rfl (by simp (disch:=first|exact za|fail) only [go_sem,seval,-List.reduceReplicate,f1,←hr,i1,e1',hone,hwk,hall,hw2,hkl,q1,q2]<;>rfl) rfl ?_;exact⟨ya KF,yb KG,(kq f0),ka m6,ka m11,ka m12,(by rw [zb (by decide),zb (by decide)])⟩
      · cases ho;have h10:=kL hall 0 rfl rfl;have d10:=zQ KG 10 rfl h10;have h6:=kL hall 1 rfl rfl;have d6:=zQ KG 6 rfl h6;have h0:=kL hall 3 rfl rfl;have h1:=kL hall 4 rfl rfl;have h2:=kL hall 5 rfl rfl;have h3:=kL hall 6 rfl rfl;have h4:=kL hall 7 rfl rfl;have h5:=kL hall 8 rfl rfl;have n12:=nfT m12 hL;refine zaZ rfl rfl (by simp (disch:=first|exact za|fail) only [go_sem,seval,-List.reduceReplicate,reduceIte,Bool.false_eq_true,if_false,if_true,d6,d10,h6,n12,hL,←hr,i1,e1',hone,hwk,hall,hw2,hkl,q1,q2]<;>rfl) rfl ?_;exact⟨KF,kIs KG,(kq0 f0),ka m6,(fun _=>kt (zg h0 (zg h1 (zg h2 (zg h3 (zg h4 (zg h5 (zg h6 (zg h10 yi))))))))),ka m12,(by (have e6:more L 11 6=L 6:=zb (by decide));(have e11:more L 11 11=true:=yJ);(try simp only [e6,e11,h6,hL]);first | done | rfl | (simp only [e6,e11,h6,hL,if_true,if_false,Bool.false_eq_true];first | done | rfl | (simp (disch:=first|exact za|fail) only [go_sem,seval,-List.reduceReplicate,e6,e11,h6,hL,←hr,i1,e1',hone,hwk,hall,hw2,hkl,q1,q2]<;>rfl)))⟩
      · cases ho;have h9:=kL hall 0 rfl rfl;have d9:=zQ KG 9 rfl h9;have h11:=kL hall 1 rfl rfl;have h0:=kL hall 2 rfl rfl;have h1:=kL hall 3 rfl rfl;have h2:=kL hall 4 rfl rfl;have h3:=kL hall 5 rfl rfl;have h4:=kL hall 6 rfl rfl;have h5:=kL hall 7 rfl rfl;have h6:=kL hall 8 rfl rfl;have h7:=kL hall 9 rfl rfl;have h8:=kL hall 10 rfl rfl;have h10:=kL hall 12 rfl rfl;refine ze (.p (.sl false 1 (pl b8 (rI B (i+1))))) rfl rfl (by simp (disch:=first|exact za|fail) only [go_sem,seval,-List.reduceReplicate,d9,←hr,i1,e1',hone,hwk,hall,hw2,hkl,q1,q2]<;>rfl) rfl ?_;exact⟨ya KF,yb KG,kx,ka m6,ka m11,(fun _=>kt (zg h0 (zg h1 (zg h2 (zg h3 (zg h4 (zg h5 (zg h6 (zg h7 (zg h8 (zg h9 (zg h10 (zg h11 yi))))))))))))),(by rw [zb (by decide),zb (by decide)])⟩
      · simp at ho
    · intro L env' H' hall hI
      obtain⟨KF,KG,f0,_,_,_,rfl⟩:=hI
      have l6:=hall 6 (by decide)
      have l11:=hall 11 (by decide)
      have f1:=y0 KF 0 rfl
      have f2:=y0 KF 1 rfl
      have f3:=y0 KF 2 rfl
      have f4:=y0 KF 3 rfl
      have g12:=zQ KG 11 rfl (hall 12 (by decide))
      simp only [l6,l11,if_true]
      clear hall
      refine .q ?_;refine .text ?_;simp (disch:=first|exact za|fail) only [go_sem,seval,-List.reduceReplicate,f1,f2,f3,f4,E]
      first | (refine ihE _ _ ?_ hq2 ?_) | (refine .z rfl ?_;refine ihE _ _ ?_ hq2 ?_) | (refine .z rfl ?_;refine .z rfl ?_;refine ihE _ _ ?_ hq2 ?_) | (refine .z rfl ?_;refine .z rfl ?_;refine .z rfl ?_;refine ihE _ _ ?_ hq2 ?_)
      · simp (disch:=first|exact za|fail) only [go_sem,seval,-List.reduceReplicate,f1,f2,f3,f4,E,g12]<;>(repeat' (first | rfl | refine And.intro ?_ ?_))
      · first | rfl | (simp (disch:=first|exact za|fail) only [go_sem,seval,-List.reduceReplicate,f1,f2,f3,f4,E,g12]<;>(try rfl))
theorem zdy (d r:By) (s:Int) (a:Nat) (ha:a≤d.length) (hr:0 < r.length) (hd:d.length+r.length≤140737488355000) (H:Hp) (R:AV → Hp → Prop) (h:R (.p (sto (d.take a++r) (min s a))) H):ACall Tryd.prog G 44 [.p (sto d s),.p (i64 a),.p (.sl false 1 (pl b8 r))] H R:=by
 have hl:(d.take a).length=a:=by rw [List.length_take];omega
 have ht:tot [d.take a,r] [d.take a,r].length=a+r.length:=by show 0+(d.take a).length+r.length=_;rw [hl];omega
 have hc:cat [d.take a,r] 2=d.take a++r:=by show []++d.take a++r=_;rfl
 have hb : ∀ x y:By,[PV.sl false 1 (pl b8 x),.sl false 1 (pl b8 y)]=pl bs [x,y]:=fun _ _=>rfl
 refine ACall.of_run (raw:=[]) Tryd.func44 rfl Tryd.ntmps44 (by simp) fun hbel => ?_
 refine .q ?_;refine .text ?_;simp (disch:=first|exact za|fail) only [go_sem,seval,-List.reduceReplicate]
 have hba : ∀ l:List By,((pl bs l).all fun x=>x.cells.length == 1)=true:=fun l=>by rw [List.all_eq_true];intro y hy;simp only [pl,List.mem_map] at hy;obtain⟨z,_,rfl⟩:=hy;rfl
 have hbw : ∀ l:List By,(pl bs l).map PV.weak=pl bs l:=fun l=>zdg fun _=>rfl
 refine .q ?_;refine .open [12] follows (by kernel_rfl) ?_;simp (disch:=first|exact za|fail) only [go_sem,seval,-List.reduceReplicate,hb,hba,hbw]
 refine CallD.still (fun R h=>zjC [d.take a,r] (by simp) (by rw [ht];omega) (by rw [ht];omega) _ R h) ?_;simp (disch:=first|exact za|fail) only [go_sem,seval,-List.reduceReplicate,hb,hba,hbw,hc,zhN]
 refine .q ?_;refine .rt Tryd.func44 (by rw [Tryd.results44]) (hx:=by simp (disch:=first|exact za|fail) only [go_sem,seval,-List.reduceReplicate,hc,zhN];rfl) (hR := ?_);simp (disch:=first|exact za|fail) only [go_sem,seval,-List.reduceReplicate,hc,zhN]
 exact h
end walks
end Go.Proofs.YtdpfkanfahchjaaDoor

/-
  The log of readings: payloads applied to a stream,by the program.
-/
namespace Go.Proofs.YtdpfkanfahchjaaDoor
open Go Go.AL

theorem ztj {l m:List Rdg}:rcl l++(flat (pl zK m)).map AV.p=rcl (l++m):=by
 rw [←zfG];simp [rcl]
theorem zoT {g:List Bool} {n:Nat}:cl bo g++(flat (pl bo (List.replicate n false))).map AV.p=cl bo (g++List.replicate n false):=by
 rw [flat_bo',zi7];simp [cl]
theorem zrY {n:Nat} {c:Nat → By}:(zc4 n c).length=n:=by simp [zc4]
theorem zrZ {l:List Rdg} {g:List Bool} {p:By} {rows:Nat} {cs:List By} (h:zes p=some (rows,cs)):ym ⟨l,g⟩ 1#8 p=if 0 < rows∧(za2 rows cs).2=0∧l.length+rows≤65536 then some ⟨l++(za2 rows cs).1,g++List.replicate rows false⟩ else none:=by
 have h4:cs.length=4:=by
  unfold zes at h
  split at h
  · cases h
  · split at h
    · rename_i h2;cases h;exact zdR h2
    · cases h
 have hsg:zl3 (rows:Int) cs ↔ rows≤4096∧zlN rows (fun k=>cs[k]?.getD []):=by
  unfold zl3
  rw [Int.toNat_natCast]
  constructor
  · rintro ⟨_,a,_,b⟩;exact⟨by omega,b⟩
  · rintro ⟨a,b⟩;exact⟨by omega,by omega,h4,b⟩
 unfold ym
 rw [if_pos rfl,h]
 dsimp only
 unfold za2 zup
 by_cases hs:zl3 (rows:Int) cs
 · rw [if_pos hs,Int.toNat_natCast]
   have:=hsg.1 hs
   by_cases c:0 < rows∧l.length+rows≤65536
   · rw [if_pos ⟨c.1,this.1,this.2,c.2⟩,if_pos ⟨c.1,rfl,c.2⟩];rfl
   · rw [if_neg fun e=>c ⟨e.1,e.2.2.2⟩,if_neg fun e=>c ⟨e.1,e.2.2⟩]
 · rw [if_neg hs,if_neg fun e=>hs (hsg.2 ⟨e.2.1,e.2.2.1⟩),if_neg fun e=>by cases e.2.1]
theorem zr0 {rows:Nat} {cs:List By} (h:(za2 rows cs).2=0):(za2 rows cs).1.length=rows:=by
 unfold za2 at h ⊢
 split
 · rw [Int.toNat_natCast,zrY]
 · rename_i q;rw [if_neg q] at h;cases h
theorem ztk {rows:Nat} {cs:List By} (h:(za2 rows cs).2=0):rows≤4096:=by
 unfold za2 at h
 split at h
 · rename_i q;have:=q.2.1;omega
 · cases h
section walks
variable {G:Globs}
set_option maxHeartbeats 4000000 in
set_option maxRecDepth 20000 in
theorem zhS (α β:Nat) (hαβ:α≠β) (l:List Rdg) (g:List Bool) (p:By) (hl:l.length≤65536) (hg:g.length=l.length) (hp:p.length≤1048576) (H:Hp) (hα:H.f α=some (.vec (rcl l))) (hβ:H.f β=some (.vec (cl bo g))) (R:AV → Hp → Prop)
 (bad:ym ⟨l,g⟩ 1#8 p=none → ∀ x T,(∃ u v,zf x=some [u,v]) → R (.tup [x,.p (bo false)]) (app H T))
 (good : ∀ s',ym ⟨l,g⟩ 1#8 p=some s' → ∀ T,R (.tup [.agg [.vr α s'.l.length 4,.vr β s'.gone.length 1],.p (bo true)]) (app ((H.set α (.vec (rcl s'.l))).set β (.vec (cl bo s'.gone))) T)) :
 ACall Tryd.prog G 61 [.agg [.vr α l.length 4,.vr β g.length 1],.p (.sl false 1 (pl b8 p))] H R:=by
 have hαn:=Hp.lt hα
 have hβn:=Hp.lt hβ
 have hcl:(cl bo g).length=g.length:=zaR
 have hrl:(rcl l).length=l.length*4:=zdv
 have hpl:=zoS (b:=p)
 have fail : ∀ x T,ym ⟨l,g⟩ 1#8 p=none → ∀ H',H'=app H T → (∃ u v,zf x=some [u,v]) → R (.tup [x,.p (bo false)]) H':=fun x T e H' h=>by subst h;exact bad e x T
 have n0:zes p=none → ym ⟨l,g⟩ 1#8 p=none:=fun e=>by rw [ym,if_pos rfl,e]
 have a3 : ∀ x y z,((H.new x).new y).new z=app H [x,y,z]:=fun _ _ _=>rfl
 refine ACall.of_run (raw:=[]) Tryd.func61 rfl Tryd.ntmps61 (by simp) fun hbel => ?_
 refine .q ?_;refine .text ?_;simp (disch:=first|exact za|fail) only [go_sem,seval,-List.reduceReplicate]
 refine .q ?_;refine .text ?_;simp (disch:=first|exact za|fail) only [go_sem,seval,-List.reduceReplicate]
 refine CallK.of (fun R h=>zge p hp _ R h) ?_;simp (disch:=first|exact za|fail) only [go_sem,seval,-List.reduceReplicate]
 cases hps:zes p with
 | none =>
  have he:=zl8 hps
  generalize zbV p=X at he hpl
  obtain⟨⟨r,cs⟩,b⟩:=X
  dsimp only at he hpl ⊢
  subst he
  simp (disch:=first|exact za|fail) only [go_sem,seval,-List.reduceReplicate,zdW]
  refine .q ?_;refine .text ?_;simp (disch:=first|exact za|fail) only [go_sem,seval,-List.reduceReplicate]
  refine .q ?_;refine .ifT (by simp (disch:=first|exact za|fail) only [go_sem,seval,-List.reduceReplicate]) ?_
  refine .q ?_;refine .text ?_;simp (disch:=first|exact za|fail) only [go_sem,seval,-List.reduceReplicate]
  refine .q ?_;refine .retKeep Tryd.func61 (by rw [Tryd.results61]) (by simp (disch:=first|exact za|fail) only [go_sem,seval,-List.reduceReplicate];rfl) ?_;(try simp (disch:=first|exact za|fail) only [go_sem,seval,-List.reduceReplicate])
  exact fail _ [_,_,_] (n0 hps) _ (a3 _ _ _) ⟨_,_,rfl⟩
 | some q =>
  obtain⟨rows,cs⟩:=q
  have he:=zl7 hps
  rw [he] at hpl ⊢
  dsimp only at hpl ⊢
  have hpr:=zrZ (l:=l) (g:=g) hps
  simp (disch:=first|exact za|fail) only [go_sem,seval,-List.reduceReplicate,zdW]
  refine .q ?_;refine .text ?_;simp (disch:=first|exact za|fail) only [go_sem,seval,-List.reduceReplicate]
  refine .q ?_;refine .ifF (by simp (disch:=first|exact za|fail) only [go_sem,seval,-List.reduceReplicate]) ?_
  refine .skip ?_
  refine .q ?_;refine .text ?_;simp (disch:=first|exact za|fail) only [go_sem,seval,-List.reduceReplicate]
  refine CallK.of (fun R h=>zbe (rows:Int) cs (fun c hc=>Nat.le_trans (hpl c hc) (by omega)) _ R h) ?_;simp (disch:=first|exact za|fail) only [go_sem,seval,-List.reduceReplicate]
  obtain⟨e,hee⟩ : ∃ e,e=(za2 rows cs).2:=⟨_,rfl⟩
  obtain⟨W,hL⟩ : ∃ W,W=(za2 rows cs).1:=⟨_,rfl⟩
  have hLl:e=0 → W.length=rows:=fun h=>by rw [hL];exact zr0 (by rw [←hee];exact h)
  have hLe:e=0 → rows≤4096:=fun h=>ztk (cs:=cs) (by rw [←hee];exact h)
  rw [←hee,←hL] at hpr ⊢
  by_cases c1:e=0
  rotate_left
  · have d1:(e != 0)=true:=by simpa using c1
    rw [if_neg fun q=>c1 q.2.1] at hpr
    refine .q ?_;refine .text ?_;simp (disch:=first|exact za|fail) only [go_sem,seval,-List.reduceReplicate,d1]
    refine .q ?_;refine .ifT (by simp (disch:=first|exact za|fail) only [go_sem,seval,-List.reduceReplicate]) ?_
    refine .q ?_;refine .text ?_;simp (disch:=first|exact za|fail) only [go_sem,seval,-List.reduceReplicate]
    refine .q ?_;refine .retKeep Tryd.func61 (by rw [Tryd.results61]) (by simp (disch:=first|exact za|fail) only [go_sem,seval,-List.reduceReplicate];rfl) ?_;(try simp (disch:=first|exact za|fail) only [go_sem,seval,-List.reduceReplicate])
    exact fail _ [_,_,_] hpr _ (a3 _ _ _) ⟨_,_,rfl⟩
  have hLr:=hLl c1
  have hLm:=hLe c1
  have d1:(e != 0)=false:=by simpa using c1
  by_cases c2:W.length=0
  · have d2:((W.length:Int) == 0)=true:=beq_iff_eq.2 (by omega)
    have hne : ¬ (0 < rows∧e=0∧l.length+rows≤65536):=by rintro ⟨q1,q2,q3⟩;omega
    rw [if_neg hne] at hpr
    refine .q ?_;refine .text ?_;simp (disch:=first|exact za|fail) only [go_sem,seval,-List.reduceReplicate,d1,d2]
    refine .q ?_;refine .ifT (by simp (disch:=first|exact za|fail) only [go_sem,seval,-List.reduceReplicate]) ?_
    refine .q ?_;refine .text ?_;simp (disch:=first|exact za|fail) only [go_sem,seval,-List.reduceReplicate]
    refine .q ?_;refine .retKeep Tryd.func61 (by rw [Tryd.results61]) (by simp (disch:=first|exact za|fail) only [go_sem,seval,-List.reduceReplicate];rfl) ?_;(try simp (disch:=first|exact za|fail) only [go_sem,seval,-List.reduceReplicate])
    exact fail _ [_,_,_] hpr _ (a3 _ _ _) ⟨_,_,rfl⟩
  have d2:((W.length:Int) == 0)=false:=beq_eq_false_iff_ne.2 (by omega)
  by_cases c3:65536 < l.length+W.length
  · have d3:decide ((65536:Int) < (l.length:Int)+(W.length:Int))=true:=decide_eq_true (by omega)
    have hne : ¬ (0 < rows∧e=0∧l.length+rows≤65536):=by rintro ⟨q1,q2,q3⟩;omega
    rw [if_neg hne] at hpr
    refine .q ?_;refine .text ?_;simp (disch:=first|exact za|fail) only [go_sem,seval,-List.reduceReplicate,d1,d2,d3]
    refine .q ?_;refine .ifT (by simp (disch:=first|exact za|fail) only [go_sem,seval,-List.reduceReplicate]) ?_
    refine .q ?_;refine .text ?_;simp (disch:=first|exact za|fail) only [go_sem,seval,-List.reduceReplicate]
    refine .q ?_;refine .retKeep Tryd.func61 (by rw [Tryd.results61]) (by simp (disch:=first|exact za|fail) only [go_sem,seval,-List.reduceReplicate];rfl) ?_;(try simp (disch:=first|exact za|fail) only [go_sem,seval,-List.reduceReplicate])
    exact fail _ [_,_,_] hpr _ (a3 _ _ _) ⟨_,_,rfl⟩
  have d3:decide ((65536:Int) < (l.length:Int)+(W.length:Int))=false:=decide_eq_false (by omega)
  rw [if_pos ⟨by omega,c1,by omega⟩] at hpr
  refine .q ?_;refine .text ?_;simp (disch:=first|exact za|fail) only [go_sem,seval,-List.reduceReplicate,d1,d2,d3]
  refine .q ?_;refine .ifF (by simp (disch:=first|exact za|fail) only [go_sem,seval,-List.reduceReplicate]) ?_
  refine .skip ?_
  have hs1:(H.set α (.vec (rcl l))).set β (.vec (cl bo g))=H:=by rw [Hp.set_same _ _ _ hα,Hp.set_same _ _ _ hβ]
  have hap:=ztj (l:=l) (m:=W)
  have hs2:(H.set α (.vec (rcl (l++W)))).set β (.vec (cl bo g))=H.set α (.vec (rcl (l++W))):=Hp.set_same _ _ _ (by rw [Hp.f_set_ne H _ _ _ (Ne.symm hαβ)];exact hβ)
  have hlr:(List.replicate W.length false).length=W.length:=List.length_replicate
  have hbp:=zoT (g:=g) (n:=W.length)
  have hcl2:(cl bo (g++List.replicate W.length false)).length=g.length+W.length:=by rw [zaR,List.length_append,List.length_replicate]
  have hrl2:(rcl (l++W)).length=(l.length+W.length)*4:=by rw [zdv,List.length_append]
  have hset : ∀ (b:Nat) (x y:AB),((H.set α x).set β y).n=H.n:=fun _ _ _=>rfl
  (refine .q ?_)
  refine .openInv (fun L env' H'=>kF env' [(2,.ptr H.n 0),(4,.ptr (H.n+1) 0),(8,.p (.sl false 4 (pl zK W)))]∧kI L env' [(0,40,.ptr H.n 0),(1,41,.vr α l.length 4),(2,42,.p (.sl false 4 (pl zK W))),(3,43,.vr α (l.length+W.length) 4),(4,44,.ptr H.n 1),(5,45,.vr β g.length 1),(6,46,.p (.sl false 4 (pl zK W))),(7,47,.p (i64 W.length)),(8,48,.vr β (g.length+W.length) 1),(9,49,.agg [.vr α (l.length+W.length) 4,.vr β (g.length+W.length) 1]),(11,5,.p (bo true))]∧(L 3=true → allT L [1,2])∧(L 8=true → allT L [3,5,7])∧(L 10=true → allT L [0,1,2,3,4,5,6,7,8,9])∧H'=(((((H.set α (if L 3 then .vec (rcl (l++W)) else .vec (rcl l))).set β (if L 8 then .vec (cl bo (g++List.replicate W.length false)) else .vec (cl bo g))).new (.cells [.vr α l.length 4,.vr β g.length 1])).new (.cells (if L 10 then [.vr α (l.length+W.length) 4,.vr β (g.length+W.length) 1] else [.p (.sl true 4 []),.p (.sl true 1 [])]))).new (.cells [.p (i64 rows),.p (.sl false 1 (pl (sle 1 b8) cs))]))) follows (by kernel_rfl) ?_ ?_ ?_
  · exact⟨(by simp (disch:=first|exact za|fail) only [go_sem,seval,-List.reduceReplicate,kFi,kFn,and_self,hs1,hα,hβ,hs2,hap,hbp,hcl,hrl,hlr]),(fun _ _ h=>by cases h),(fun h=>by cases h),(fun h=>by cases h),(fun h=>by cases h),(by first | rfl | (simp only [Bool.false_eq_true,if_false];first | rfl | (simp (disch:=first|exact za|fail) only [go_sem,seval,-List.reduceReplicate,hs1,hα,hβ,hs2,hap,hbp,hcl,hrl,hlr]<;>rfl)))⟩
  · intro i o L env' H' ho hL hall hI
    obtain⟨KF,KG,m3,m8,m10,rfl⟩:=hI
    rcases i with _ | _ | _ | _ | _ | _ | _ | _ | _ | _ | _ | _ | i
    · cases ho;have f0:=y0 KF 0 rfl;refine ze (.ptr H.n 0) rfl rfl (by simp (disch:=first|exact za|fail) only [go_sem,seval,-List.reduceReplicate,f0,hs1,hα,hβ,hs2,hap,hbp,hcl,hrl,hlr]<;>rfl) rfl ?_;exact⟨ya KF,yb KG,ka m3,ka m8,ka m10,(by rw [zb (by decide),zb (by decide),zb (by decide)])⟩
    · cases ho;have d0:=zQ KG 0 rfl (kL hall 0 rfl rfl);have n3:=nfT m3 hL;have n10:=nfT m10 hL;refine ze (.vr α l.length 4) rfl rfl (by simp (disch:=first|exact za|fail) only [go_sem,seval,-List.reduceReplicate,reduceIte,Bool.false_eq_true,if_false,if_true,d0,n3,n10,hL,hs1,hα,hβ,hs2,hap,hbp,hcl,hrl,hlr]<;>rfl) rfl ?_;exact⟨ya KF,yb KG,ka m3,ka m8,ka m10,(by rw [zb (by decide),zb (by decide),zb (by decide)])⟩
    · cases ho;have f2:=y0 KF 2 rfl;refine ze (.p (.sl false 4 (pl zK W))) rfl rfl (by simp (disch:=first|exact za|fail) only [go_sem,seval,-List.reduceReplicate,f2,hs1,hα,hβ,hs2,hap,hbp,hcl,hrl,hlr]<;>rfl) rfl ?_;exact⟨ya KF,yb KG,ka m3,ka m8,ka m10,(by rw [zb (by decide),zb (by decide),zb (by decide)])⟩
    · cases ho;have h1:=kL hall 0 rfl rfl;have d1:=zQ KG 1 rfl h1;have h2:=kL hall 1 rfl rfl;have d2:=zQ KG 2 rfl h2;have n8:=nfT m8 hL;have n10:=nfT m10 hL;(try simp only [n8,n10,hL,if_true,if_false,Bool.false_eq_true]);refine zfx (.vr α (l.length+W.length) 4) rfl rfl (by simp (disch:=first|exact za|fail) only [go_sem,seval,-List.reduceReplicate,reduceIte,Bool.false_eq_true,if_false,if_true,d1,d2,n8,n10,hL,hs1,hα,hβ,hs2,hap,hbp,hcl,hrl,hlr]<;>rfl) rfl ?_;exact⟨ya KF,yb KG,(fun _=>kt (zg h1 (zg h2 yi))),ka m8,ka m10,(by (have e3:more L 3 3=true:=yJ);(have e8:more L 3 8=L 8:=zb (by decide));(have e10:more L 3 10=L 10:=zb (by decide));(try simp only [e3,e8,e10,n8,n10,hL]);first | done | rfl | (simp only [e3,e8,e10,n8,n10,hL,if_true,if_false,Bool.false_eq_true];first | done | rfl | (simp (disch:=first|exact za|fail) only [go_sem,seval,-List.reduceReplicate,e3,e8,e10,n8,n10,hL,hs1,hα,hβ,hs2,hap,hbp,hcl,hrl,hlr]<;>rfl)))⟩
    · cases ho;have f0:=y0 KF 0 rfl;refine ze (.ptr H.n 1) rfl rfl (by simp (disch:=first|exact za|fail) only [go_sem,seval,-List.reduceReplicate,f0,hs1,hα,hβ,hs2,hap,hbp,hcl,hrl,hlr]<;>rfl) rfl ?_;exact⟨ya KF,yb KG,ka m3,ka m8,ka m10,(by rw [zb (by decide),zb (by decide),zb (by decide)])⟩
    · cases ho;have d4:=zQ KG 4 rfl (kL hall 0 rfl rfl);have n8:=nfT m8 hL;have n10:=nfT m10 hL;refine ze (.vr β g.length 1) rfl rfl (by simp (disch:=first|exact za|fail) only [go_sem,seval,-List.reduceReplicate,reduceIte,Bool.false_eq_true,if_false,if_true,d4,n8,n10,hL,hs1,hα,hβ,hs2,hap,hbp,hcl,hrl,hlr]<;>rfl) rfl ?_;exact⟨ya KF,yb KG,ka m3,ka m8,ka m10,(by rw [zb (by decide),zb (by decide),zb (by decide)])⟩
    · cases ho;have f2:=y0 KF 2 rfl;refine ze (.p (.sl false 4 (pl zK W))) rfl rfl (by simp (disch:=first|exact za|fail) only [go_sem,seval,-List.reduceReplicate,f2,hs1,hα,hβ,hs2,hap,hbp,hcl,hrl,hlr]<;>rfl) rfl ?_;exact⟨ya KF,yb KG,ka m3,ka m8,ka m10,(by rw [zb (by decide),zb (by decide),zb (by decide)])⟩
    · cases ho;have d6:=zQ KG 6 rfl (kL hall 0 rfl rfl);have n8:=nfT m8 hL;have n10:=nfT m10 hL;refine ze (.p (i64 W.length)) rfl rfl (by simp (disch:=first|exact za|fail) only [go_sem,seval,-List.reduceReplicate,reduceIte,Bool.false_eq_true,if_false,if_true,d6,n8,n10,hL,hs1,hα,hβ,hs2,hap,hbp,hcl,hrl,hlr]<;>rfl) rfl ?_;exact⟨ya KF,yb KG,ka m3,ka m8,ka m10,(by rw [zb (by decide),zb (by decide),zb (by decide)])⟩
    · cases ho;have h5:=kL hall 0 rfl rfl;have d5:=zQ KG 5 rfl h5;have h7:=kL hall 1 rfl rfl;have d7:=zQ KG 7 rfl h7;have h3:=kL hall 2 rfl rfl;have n10:=nfT m10 hL;(try simp only [h3,n10,hL,if_true,if_false,Bool.false_eq_true]);refine zfx (.vr β (g.length+W.length) 1) rfl rfl (by simp (disch:=first|exact za|fail) only [go_sem,seval,-List.reduceReplicate,reduceIte,Bool.false_eq_true,if_false,if_true,d5,d7,h3,n10,hL,hs1,hα,hβ,hs2,hap,hbp,hcl,hrl,hlr]<;>rfl) rfl ?_;exact⟨ya KF,yb KG,ka m3,(fun _=>kt (zg h3 (zg h5 (zg h7 yi)))),ka m10,(by (have e3:more L 8 3=L 3:=zb (by decide));(have e8:more L 8 8=true:=yJ);(have e10:more L 8 10=L 10:=zb (by decide));(try simp only [e3,e8,e10,h3,n10,hL]);first | done | rfl | (simp only [e3,e8,e10,h3,n10,hL,if_true,if_false,Bool.false_eq_true];first | done | rfl | (simp (disch:=first|exact za|fail) only [go_sem,seval,-List.reduceReplicate,e3,e8,e10,h3,n10,hL,hs1,hα,hβ,hs2,hap,hbp,hcl,hrl,hlr]<;>rfl)))⟩
    · cases ho;have h3:=kL hall 0 rfl rfl;have d3:=zQ KG 3 rfl h3;have h8:=kL hall 1 rfl rfl;have d8:=zQ KG 8 rfl h8;have n10:=nfT m10 hL;refine ze (.agg [.vr α (l.length+W.length) 4,.vr β (g.length+W.length) 1]) rfl rfl (by simp (disch:=first|exact za|fail) only [go_sem,seval,-List.reduceReplicate,reduceIte,Bool.false_eq_true,if_false,if_true,d3,d8,h3,h8,n10,hL,hs1,hα,hβ,hs2,hap,hbp,hcl,hrl,hlr]<;>rfl) rfl ?_;exact⟨ya KF,yb KG,ka m3,ka m8,ka m10,(by rw [zb (by decide),zb (by decide),zb (by decide)])⟩
    · cases ho;have h9:=kL hall 0 rfl rfl;have d9:=zQ KG 9 rfl h9;have h8:=kL hall 1 rfl rfl;have h0:=kL hall 2 rfl rfl;have h1:=kL hall 3 rfl rfl;have h2:=kL hall 4 rfl rfl;have h3:=kL hall 5 rfl rfl;have h4:=kL hall 6 rfl rfl;have h5:=kL hall 7 rfl rfl;have h6:=kL hall 8 rfl rfl;have h7:=kL hall 9 rfl rfl;have f1:=y0 KF 1 rfl;refine zaZ rfl rfl (by simp (disch:=first|exact za|fail) only [go_sem,seval,-List.reduceReplicate,reduceIte,Bool.false_eq_true,if_false,if_true,f1,d9,h3,h8,hL,hs1,hα,hβ,hs2,hap,hbp,hcl,hrl,hlr]<;>rfl) rfl ?_;exact⟨KF,kIs KG,ka m3,ka m8,(fun _=>kt (zg h0 (zg h1 (zg h2 (zg h3 (zg h4 (zg h5 (zg h6 (zg h7 (zg h8 (zg h9 yi))))))))))),(by (have e3:more L 10 3=L 3:=zb (by decide));(have e8:more L 10 8=L 8:=zb (by decide));(have e10:more L 10 10=true:=yJ);(try simp only [e3,e8,e10,h3,h8,hL]);first | done | rfl | (simp only [e3,e8,e10,h3,h8,hL,if_true,if_false,Bool.false_eq_true];first | done | rfl | (simp (disch:=first|exact za|fail) only [go_sem,seval,-List.reduceReplicate,e3,e8,e10,h3,h8,hL,hs1,hα,hβ,hs2,hap,hbp,hcl,hrl,hlr]<;>rfl)))⟩
    · cases ho;refine ze (.p (bo true)) rfl rfl (by simp (disch:=first|exact za|fail) only [go_sem,seval,-List.reduceReplicate,hs1,hα,hβ,hs2,hap,hbp,hcl,hrl,hlr]<;>rfl) rfl ?_;exact⟨ya KF,yb KG,ka m3,ka m8,ka m10,(by rw [zb (by decide),zb (by decide),zb (by decide)])⟩
    · simp at ho
  · intro L env' H' hall hI
    obtain⟨KF,KG,_,_,_,rfl⟩:=hI
    have l3:=hall 3 (by decide)
    have l8:=hall 8 (by decide)
    have l10:=hall 10 (by decide)
    have f0:=y0 KF 0 rfl
    have f1:=y0 KF 1 rfl
    have f2:=y0 KF 2 rfl
    have g11:=zQ KG 10 rfl (hall 11 (by decide))
    simp only [l3,l8,l10,if_true]
    clear hall
    refine .q ?_;refine .retKeep Tryd.func61 (by rw [Tryd.results61]) (by simp (disch:=first|exact za|fail) only [go_sem,seval,-List.reduceReplicate,f1,g11];rfl) ?_;(try simp (disch:=first|exact za|fail) only [go_sem,seval,-List.reduceReplicate,f1,g11])
    have e:=good ⟨l++W,g++List.replicate W.length false⟩ (by rw [hpr,hLr]) [.cells [.vr α l.length 4,.vr β g.length 1],.cells [.vr α (l.length+W.length) 4,.vr β (g.length+W.length) 1],.cells [.p (i64 rows),.p (.sl false 1 (pl (sle 1 b8) cs))]]
    simp only [List.length_append,List.length_replicate] at e
    exact e
theorem zjZ {l:List Rdg} {g:List Bool} {p:By}:ym ⟨l,g⟩ 2#8 p=if p.length=4 then zdS ⟨l,g⟩ (val p) else none:=by
 unfold ym
 rw [if_neg (by decide)]
 by_cases h:p.length=4
 · rw [if_pos ⟨rfl,h⟩,if_pos h]
 · rw [if_neg fun e=>h e.2,if_neg h]
set_option maxHeartbeats 4000000 in
set_option maxRecDepth 20000 in
theorem zhT (α β:Nat) (l:List Rdg) (g:List Bool) (p:By) (hl:l.length≤65536) (hg:g.length=l.length) (H:Hp) (hα:H.f α=some (.vec (rcl l))) (hβ:H.f β=some (.vec (cl bo g))) (R:AV → Hp → Prop)
 (bad:ym ⟨l,g⟩ 2#8 p=none → ∀ x T,(∃ u v,zf x=some [u,v]) → R (.tup [x,.p (bo false)]) (app H T))
 (good : ∀ s',ym ⟨l,g⟩ 2#8 p=some s' → ∀ γ T,H.n≤γ → γ < H.n+T.length → (app H T).f γ=some (.vec (cl bo s'.gone)) → R (.tup [.agg [.vr α s'.l.length 4,.vr γ s'.gone.length 1],.p (bo true)]) (app H T)) :
 ACall Tryd.prog G 63 [.agg [.vr α l.length 4,.vr β g.length 1],.p (.sl false 1 (pl b8 p))] H R:=by
 have hαn:=Hp.lt hα
 have hβn:=Hp.lt hβ
 have fail : ∀ x T,ym ⟨l,g⟩ 2#8 p=none → ∀ H',H'=app H T → (∃ u v,zf x=some [u,v]) → R (.tup [x,.p (bo false)]) H':=fun x T e H' h=>by subst h;exact bad e x T
 have a2 : ∀ x y,(H.new x).new y=app H [x,y]:=fun _ _=>rfl
 rw [zjZ] at bad good fail
 refine ACall.of_run (raw:=[]) Tryd.func63 rfl Tryd.ntmps63 (by simp) fun hbel => ?_
 refine .q ?_;refine .text ?_;simp (disch:=first|exact za|fail) only [go_sem,seval,-List.reduceReplicate]
 by_cases c1:p.length=4
 rotate_left
 · have d1:((p.length:Int) != 4)=true:=bne_iff_ne.2 (by omega)
   rw [if_neg c1] at fail
   refine .q ?_;refine .text ?_;simp (disch:=first|exact za|fail) only [go_sem,seval,-List.reduceReplicate,d1]
   refine .q ?_;refine .ifT (by simp (disch:=first|exact za|fail) only [go_sem,seval,-List.reduceReplicate]) ?_
   refine .q ?_;refine .text ?_;simp (disch:=first|exact za|fail) only [go_sem,seval,-List.reduceReplicate]
   refine .q ?_;refine .retKeep Tryd.func63 (by rw [Tryd.results63]) (by simp (disch:=first|exact za|fail) only [go_sem,seval,-List.reduceReplicate];rfl) ?_;(try simp (disch:=first|exact za|fail) only [go_sem,seval,-List.reduceReplicate])
   exact fail _ [_,_] rfl _ (a2 _ _) ⟨_,_,rfl⟩
 have d1:((p.length:Int) != 4)=false:=by simp;omega
 rw [if_pos c1] at bad good
 obtain⟨n,hn⟩ : ∃ n,n=val p:=⟨_,rfl⟩
 rw [←hn] at bad good
 refine .q ?_;refine .text ?_;simp (disch:=first|exact za|fail) only [go_sem,seval,-List.reduceReplicate,d1]
 refine .q ?_;refine .ifF (by simp (disch:=first|exact za|fail) only [go_sem,seval,-List.reduceReplicate]) ?_
 refine .skip ?_
 by_cases c2:n < l.length∧nth g n=false
 rotate_left
 · have hrn:zdS ⟨l,g⟩ n=none:=by
    unfold zdS
    rw [if_neg fun e=>c2 ⟨e.1,e.2⟩]
   have hre : ∃ e,yc ⟨l,g⟩ (n:Int)=(z0S,e)∧e≠0:=by
    unfold yc
    by_cases c3:n < l.length
    · have c4:nth g n=true:=by
       cases h:nth g n with
       | true=>rfl
       | false=>exact absurd ⟨c3,h⟩ c2
      refine⟨120,?_,by decide⟩
      rw [if_neg (by dsimp only;omega),Int.toNat_natCast,c4,if_pos rfl]
    · exact⟨4,by rw [if_pos (.inr (by dsimp only;omega))],by decide⟩
   obtain⟨e,he,hne⟩:=hre
   have hret : ∀ (B:Hp),B.f α=some (.vec (rcl l)) → B.f β=some (.vec (cl bo g)) → ACall Tryd.prog G 52 [.agg [.vr α l.length 4,.vr β g.length 1],.p (i64 (n:Nat))] B (fun r H'=>r = .tup [.p (stm z0S),.p (i64 e)]∧H'=B):=fun B h1 h2 =>
    zdw α β l g n hl hg B h1 h2 _ (fun e' he' _=>by rw [he] at he';cases he';exact⟨rfl,rfl⟩) (fun k hk hk2 hk3=>by
     have hnk:n=k:=by omega
     subst hnk
     exact absurd ⟨by omega,hk3⟩ c2)
   have de:(e == 0)=false:=beq_eq_false_iff_ne.2 hne
   refine .q ?_;refine .openTr (.one 0 (.one 1 (.fork 2 7 (.fork 3 7 (.lin [4,5,6,7,8,9]) (.lin [3,4,5,6,8,9])) (.lin [2,3,4,5,6,8,9])))) [3,7,8] follows (by kernel_rfl) ?_
   refine zV (.agg [.vr α l.length 4,.vr β g.length 1]) rfl rfl (by simp (disch:=first|exact za|fail) only [go_sem,seval,-List.reduceReplicate]<;>rfl) rfl ?_
   refine zV (.p (.sl false 1 (pl b8 p))) rfl rfl (by simp (disch:=first|exact za|fail) only [go_sem,seval,-List.reduceReplicate]<;>rfl) rfl ?_
   refine And.intro (zcm (.p (i64 (n:Nat))) rfl rfl (by simp (disch:=first|exact za|fail) only [go_sem,seval,-List.reduceReplicate]<;>rfl) (by rfl) rfl (fun R h=>yd p (by omega) _ R (by rw [←hn];exact h)) (And.intro ?_ ?_)) ?_
   · refine zdN rfl rfl (by simp (disch:=first|exact za|fail) only [go_sem,seval,-List.reduceReplicate]<;>rfl) (by rfl) rfl (hret _ (by simp (disch:=first|exact za|fail) only [go_sem,seval,-List.reduceReplicate];exact hα) (by simp (disch:=first|exact za|fail) only [go_sem,seval,-List.reduceReplicate];exact hβ)) fun r H' ⟨e1,e2⟩ => ?_
     subst e1 e2
     refine yp [3,4] (by kernel_rfl) ?_
     simp (disch:=first|exact za|fail) only [go_sem,seval,-List.reduceReplicate]
     refine .q ?_;refine .text ?_;simp (disch:=first|exact za|fail) only [go_sem,seval,-List.reduceReplicate,de]
     refine .q ?_;refine .rt Tryd.func63 (by rw [Tryd.results63]) (hR := ?_);simp (disch:=first|exact za|fail) only [go_sem,seval,-List.reduceReplicate]
     exact bad hrn _ [] ⟨_,_,rfl⟩
   · refine za9 (.ptr (H.n+2) 0) rfl rfl (by simp (disch:=first|exact za|fail) only [go_sem,seval,-List.reduceReplicate]<;>rfl) rfl ?_
     refine yp [0,4] (by kernel_rfl) ?_
     simp (disch:=first|exact za|fail) only [go_sem,seval,-List.reduceReplicate]
     refine CallD.moves (hret _ (by simp (disch:=first|exact za|fail) only [go_sem,seval,-List.reduceReplicate];exact hα) (by simp (disch:=first|exact za|fail) only [go_sem,seval,-List.reduceReplicate];exact hβ)) fun r H' ⟨e1,e2⟩ => ?_
     subst e1 e2
     simp (disch:=first|exact za|fail) only [go_sem,seval,-List.reduceReplicate]
     refine .q ?_;refine .text ?_;simp (disch:=first|exact za|fail) only [go_sem,seval,-List.reduceReplicate,de]
     refine .q ?_;refine .rt Tryd.func63 (by rw [Tryd.results63]) (hR := ?_);simp (disch:=first|exact za|fail) only [go_sem,seval,-List.reduceReplicate]
     exact bad hrn _ [] ⟨_,_,rfl⟩
   · refine za9 (.ptr (H.n+2) 0) rfl rfl (by simp (disch:=first|exact za|fail) only [go_sem,seval,-List.reduceReplicate]<;>rfl) rfl ?_
     refine yp [1,5] (by kernel_rfl) ?_
     simp (disch:=first|exact za|fail) only [go_sem,seval,-List.reduceReplicate]
     refine CallD.still (fun R h=>yd p (by omega) _ R h) ?_;simp (disch:=first|exact za|fail) only [go_sem,seval,-List.reduceReplicate,←hn]
     refine CallD.moves (hret _ (by simp (disch:=first|exact za|fail) only [go_sem,seval,-List.reduceReplicate];exact hα) (by simp (disch:=first|exact za|fail) only [go_sem,seval,-List.reduceReplicate];exact hβ)) fun r H' ⟨e1,e2⟩ => ?_
     subst e1 e2
     simp (disch:=first|exact za|fail) only [go_sem,seval,-List.reduceReplicate]
     refine .q ?_;refine .text ?_;simp (disch:=first|exact za|fail) only [go_sem,seval,-List.reduceReplicate,de]
     refine .q ?_;refine .rt Tryd.func63 (by rw [Tryd.results63]) (hR := ?_);simp (disch:=first|exact za|fail) only [go_sem,seval,-List.reduceReplicate]
     exact bad hrn _ [] ⟨_,_,rfl⟩
 · have hrn:zdS ⟨l,g⟩ n=some ⟨l,g.set n true⟩:=by
    unfold zdS
    rw [if_pos ⟨c2.1,c2.2⟩]
   have fin : ∀ γ T H',H'=app H T → H.n≤γ → γ < H.n+T.length → H'.f γ=some (.vec (cl bo (g.set n true))) → R (.tup [.agg [.vr α l.length 4,.vr γ g.length 1],.p (bo true)]) H':=fun γ T H' e h1 h2 h3=>by
    subst e
    have:=good _ hrn γ T h1 h2 h3
    rw [List.length_set] at this
    exact this
   have hret : ∀ (B:Hp),B.f α=some (.vec (rcl l)) → B.f β=some (.vec (cl bo g)) → ACall Tryd.prog G 52 [.agg [.vr α l.length 4,.vr β g.length 1],.p (i64 (n:Nat))] B (fun r H'=>r = .tup [.agg [.vr α l.length 4,.vr (B.n+2) g.length 1],.p (i64 0)]∧H'=((B.new (.cells [.vr α l.length 4,.vr β g.length 1])).new (.cells [.vr α l.length 4,.vr (B.n+2) g.length 1])).new (.vec (cl bo (g.set n true)))):=fun B h1 h2 =>
    zdw α β l g n hl hg B h1 h2 _ (fun e' he' hne=>by
     unfold yc at he'
     rw [if_neg (by dsimp only;omega),Int.toNat_natCast,c2.2,if_neg (by decide)] at he'
     exact absurd (congrArg Prod.snd he').symm hne) (fun k hk hk2 hk3=>by
     have hnk:n=k:=by omega
     subst hnk
     exact⟨rfl,rfl⟩)
   refine .q ?_;refine .openTr (.one 0 (.one 1 (.fork 2 7 (.fork 3 7 (.lin [4,5,6,7,8,9]) (.lin [3,4,5,6,8,9])) (.lin [2,3,4,5,6,8,9])))) [3,7,8] follows (by kernel_rfl) ?_
   refine zV (.agg [.vr α l.length 4,.vr β g.length 1]) rfl rfl (by simp (disch:=first|exact za|fail) only [go_sem,seval,-List.reduceReplicate]<;>rfl) rfl ?_
   refine zV (.p (.sl false 1 (pl b8 p))) rfl rfl (by simp (disch:=first|exact za|fail) only [go_sem,seval,-List.reduceReplicate]<;>rfl) rfl ?_
   refine And.intro (zcm (.p (i64 (n:Nat))) rfl rfl (by simp (disch:=first|exact za|fail) only [go_sem,seval,-List.reduceReplicate]<;>rfl) (by rfl) rfl (fun R h=>yd p (by omega) _ R (by rw [←hn];exact h)) (And.intro ?_ ?_)) ?_
   · refine zdN rfl rfl (by simp (disch:=first|exact za|fail) only [go_sem,seval,-List.reduceReplicate]<;>rfl) (by rfl) rfl (hret _ (by simp (disch:=first|exact za|fail) only [go_sem,seval,-List.reduceReplicate];exact hα) (by simp (disch:=first|exact za|fail) only [go_sem,seval,-List.reduceReplicate];exact hβ)) fun r H' ⟨e1,e2⟩ => ?_
     subst e1 e2
     refine yp [3,4] (by kernel_rfl) ?_
     simp (disch:=first|exact za|fail) only [go_sem,seval,-List.reduceReplicate]
     refine .q ?_;refine .text ?_;simp (disch:=first|exact za|fail) only [go_sem,seval,-List.reduceReplicate]
     refine .q ?_;refine .retKeep Tryd.func63 (by rw [Tryd.results63]) (by simp (disch:=first|exact za|fail) only [go_sem,seval,-List.reduceReplicate];rfl) ?_;(try simp (disch:=first|exact za|fail) only [go_sem,seval,-List.reduceReplicate])
     exact fin (H.n+4) [_,_,_,_,_,_] _ rfl (by omega) (by show _ < H.n+6;omega) (by simp (disch:=first|exact za|fail) only [go_sem,seval,-List.reduceReplicate])
   · refine za9 (.ptr (H.n+2) 0) rfl rfl (by simp (disch:=first|exact za|fail) only [go_sem,seval,-List.reduceReplicate]<;>rfl) rfl ?_
     refine yp [0,4] (by kernel_rfl) ?_
     simp (disch:=first|exact za|fail) only [go_sem,seval,-List.reduceReplicate]
     refine CallD.moves (hret _ (by simp (disch:=first|exact za|fail) only [go_sem,seval,-List.reduceReplicate];exact hα) (by simp (disch:=first|exact za|fail) only [go_sem,seval,-List.reduceReplicate];exact hβ)) fun r H' ⟨e1,e2⟩ => ?_
     subst e1 e2
     simp (disch:=first|exact za|fail) only [go_sem,seval,-List.reduceReplicate]
     refine .q ?_;refine .text ?_;simp (disch:=first|exact za|fail) only [go_sem,seval,-List.reduceReplicate]
     refine .q ?_;refine .retKeep Tryd.func63 (by rw [Tryd.results63]) (by simp (disch:=first|exact za|fail) only [go_sem,seval,-List.reduceReplicate];rfl) ?_;(try simp (disch:=first|exact za|fail) only [go_sem,seval,-List.reduceReplicate])
     exact fin (H.n+5) [_,_,_,_,_,_] _ rfl (by omega) (by show _ < H.n+6;omega) (by simp (disch:=first|exact za|fail) only [go_sem,seval,-List.reduceReplicate])
   · refine za9 (.ptr (H.n+2) 0) rfl rfl (by simp (disch:=first|exact za|fail) only [go_sem,seval,-List.reduceReplicate]<;>rfl) rfl ?_
     refine yp [1,5] (by kernel_rfl) ?_
     simp (disch:=first|exact za|fail) only [go_sem,seval,-List.reduceReplicate]
     refine CallD.still (fun R h=>yd p (by omega) _ R h) ?_;simp (disch:=first|exact za|fail) only [go_sem,seval,-List.reduceReplicate,←hn]
     refine CallD.moves (hret _ (by simp (disch:=first|exact za|fail) only [go_sem,seval,-List.reduceReplicate];exact hα) (by simp (disch:=first|exact za|fail) only [go_sem,seval,-List.reduceReplicate];exact hβ)) fun r H' ⟨e1,e2⟩ => ?_
     subst e1 e2
     simp (disch:=first|exact za|fail) only [go_sem,seval,-List.reduceReplicate]
     refine .q ?_;refine .text ?_;simp (disch:=first|exact za|fail) only [go_sem,seval,-List.reduceReplicate]
     refine .q ?_;refine .retKeep Tryd.func63 (by rw [Tryd.results63]) (by simp (disch:=first|exact za|fail) only [go_sem,seval,-List.reduceReplicate];rfl) ?_;(try simp (disch:=first|exact za|fail) only [go_sem,seval,-List.reduceReplicate])
     exact fin (H.n+5) [_,_,_,_,_,_] _ rfl (by omega) (by show _ < H.n+6;omega) (by simp (disch:=first|exact za|fail) only [go_sem,seval,-List.reduceReplicate])
end walks
end Go.Proofs.YtdpfkanfahchjaaDoor

/-
  The log of readings: what the operations come to (plain).
-/
namespace Go.Proofs.YtdpfkanfahchjaaDoor
open Go Go.AL

theorem zm5 : ∀ {b:By},yj b.length (val b)=b
 | []=>rfl
 | x :: t=>by
  have hx:=x.isLt
  have h1:(x.toNat+256*val t) / 256=val t:=by omega
  have h2:BitVec.ofNat 8 (x.toNat+256*val t)=x:=by
   apply BitVec.eq_of_toNat_eq
   rw [BitVec.toNat_ofNat];omega
  rw [List.length_cons,yj,val,h1,h2,zm5]
theorem zuP {b:By} {k:BitVec 8} {p r:By} (h:spl b=some (k,p,r)):b=y9 k p++r:=by
 have hlen:=zbM h
 unfold spl at h
 split at h
 · cases h
 · rename_i c1
   split at h
   · cases h
   · rename_i c2
     split at h
     · rename_i c3
       obtain⟨n,hn⟩ : ∃ n,n=val (b.take 4):=⟨_,rfl⟩
       rw [←hn] at h c2 c3 hlen
       simp only [Option.some.injEq,Prod.mk.injEq] at h
       obtain⟨hk,hp,hr⟩:=h
       have h4:(b.take 4).length=4:=by rw [List.length_take];omega
       have e4:yj 4 p.length=b.take 4:=by
        have:=zm5 (b:=b.take 4)
        rw [h4,←hn] at this
        rw [hlen.2.2];exact this
       have ekp:k :: p=(b.drop 4).take (1+n):=by
        have hd:b.drop 4=b[4] :: b.drop 5:=List.drop_eq_getElem_cons (by omega)
        have hk':k=b[4]:=by rw [←hk,List.getElem?_eq_getElem (by omega)];rfl
        rw [hd,Nat.add_comm,List.take_succ_cons,hk']
        exact congrArg _ hp.symm
       have e8:(sha (k :: p)).take 8=(b.drop (5+n)).take 8:=by rw [ekp];exact c3
       rw [y9,e4,e8,ekp,←hr]
       have s1:(b.drop 4).take (1+n)++(b.drop 4).drop (1+n)=b.drop 4:=List.take_append_drop _ _
       have s2:(b.drop (5+n)).take 8++(b.drop (5+n)).drop 8=b.drop (5+n):=List.take_append_drop _ _
       rw [List.drop_drop,show 4+(1+n)=5+n by omega] at s1
       rw [List.drop_drop,show 5+n+8=13+n by omega] at s2
       rw [List.append_assoc,List.append_assoc,s2,s1,List.take_append_drop]
     · cases h
theorem zfJ : ∀ {s:Strm} {b:By},Log s (b.take (b.length - (ld s b).2.1)) (ld s b).1∧((ld s b).2.2=true ↔ (ld s b).2.1=0)
 | s,b=>by
  by_cases hb:b.length=0
  · rw [List.eq_nil_of_length_eq_zero hb,za1]
    exact⟨.nil _,by simp⟩
  · cases h:spl b with
    | none=>rw [zbN hb h,Nat.sub_self,List.take_zero];exact⟨.nil _,by simpa using fun e=>hb (by rw [e];rfl)⟩
    | some q =>
     obtain⟨k,p,r⟩:=q
     have hl:=zbM h
     have he:=zuP h
     cases h2:ym s k p with
     | none=>rw [zfA h h2,Nat.sub_self,List.take_zero];exact⟨.nil _,by simpa using fun e=>hb (by rw [e];rfl)⟩
     | some s' =>
      obtain⟨i1,i2⟩:=zfJ (s:=s') (b:=r)
      rw [zcy h h2]
      refine⟨?_,i2⟩
      have hr:=zmT (s:=s') (b:=r)
      have:b.take (b.length - (ld s' r).2.1)=y9 k p++r.take (r.length - (ld s' r).2.1):=by
       conv=>lhs;rw [he]
       rw [List.length_append,List.take_append,List.take_of_length_le (by omega),show (y9 k p).length+r.length - (ld s' r).2.1 - (y9 k p).length=r.length - (ld s' r).2.1 by omega]
      rw [this]
      exact .cons hl.2.1 h2 i1
termination_by s b=>b.length
decreasing_by omega
def SOk (s:Strm):Prop:=s.gone.length=s.l.length∧s.l.length≤65536
theorem zhU {s s':Strm} {k:BitVec 8} {p:By} (h:ym s k p=some s') (hs:SOk s):SOk s':=by
 unfold ym at h
 split at h
 · split at h
   · split at h
     · rename_i q
       cases h
       have:=q.2.2.2
       unfold zup at this
       have hl : ∀ n c,(zc4 n c).length=n:=fun n c=>by simp [zc4]
       refine⟨?_,?_⟩
       · rw [List.length_append,List.length_append,List.length_replicate,hl,hs.1]
       · rw [List.length_append,hl];exact this
     · cases h
   · cases h
 · split at h
   · unfold zdS at h
     split at h
     · cases h;exact⟨by rw [List.length_set];exact hs.1,hs.2⟩
     · cases h
   · cases h
theorem Log.ok {s t:Strm} {b:By} (h:Log s b t) (hs:SOk s):SOk t:=by
 induction h with
 | nil s=>exact hs
 | cons _ h _ ih=>exact ih (zhU h hs)
theorem zr1:SOk z0S:=⟨rfl,by decide⟩
abbrev Sto:=By × Int
noncomputable def lS (d:By):Strm:=(ld z0S d).1
noncomputable def lN (d:By):Nat:=d.length - (ld z0S d).2.1
noncomputable def lE (d:By):Int:=if (ld z0S d).2.2 then 0 else 270
theorem zr2 {d:By}:SOk (lS d):=zfJ.1.ok zr1
theorem zfK {d:By}:lN d≤d.length:=Nat.sub_le _ _
theorem zco {d:By} {t:Strm} (h:Log z0S d t):lS d=t∧lN d=d.length∧lE d=0:=by
 have:=zlO (b:=[]) h
 rw [List.append_nil,za1] at this
 unfold lS lN lE
 rw [this]
 exact⟨rfl,rfl,rfl⟩
def pcl (l:List Rdg):By:=zoF l.length (pkc l 4)
theorem zag {l:List Rdg} {k:Nat} (h:k < 4):(pkc l 4)[k]?.getD []=rle (zH l k):=by
 simp [pkc,h]
theorem zfL {l:List Rdg} {k:Nat}:(rle (zH l k)).length≤2*l.length:=by
 have:=zs0 (b:=zH l k)
 simpa [zH] using this
theorem zl9 {l:List Rdg} {k:Nat} : ∀ c∈pkc l k,c.length≤2*l.length:=fun c hc=>by
 simp only [pkc,List.mem_map] at hc
 obtain⟨i,_,rfl⟩:=hc
 exact zfL
theorem zdz {l:List Rdg}:(pcl l).length≤18+8*l.length:=by
 have h:pkc l 4=[rle (zH l 0),rle (zH l 1),rle (zH l 2),rle (zH l 3)]:=rfl
 have h0:=zfL (l:=l) (k:=0)
 have h1:=zfL (l:=l) (k:=1)
 have h2:=zfL (l:=l) (k:=2)
 have h3:=zfL (l:=l) (k:=3)
 unfold pcl zoF
 rw [h]
 simp only [zZ,List.length_append,zv,List.length_nil]
 omega
theorem zdA {s:Strm} {l:List Rdg} (h0:0 < l.length) (h1:l.length≤4096) (hv : ∀ r∈l,vR r) (hs:s.l.length+l.length≤65536):ym s 1#8 (pcl l)=some ⟨s.l++l,s.gone++List.replicate l.length false⟩:=by
 have hp:zes (pcl l)=some (l.length,pkc l 4):=zuo (by omega) zcz fun c hc=>by have:=zl9 c hc;omega
 have hsn:zlN l.length (fun k=>(pkc l 4)[k]?.getD []):=fun k hk=>by
  dsimp only
  rw [zag hk];exact zjF hv k hk
 have hseg:zc4 l.length (fun k=>(pkc l 4)[k]?.getD [])=l:=by
  have:=zec hv
  unfold zc4 at this ⊢
  conv=>rhs;rw [←this]
  apply List.map_congr_left
  intro i _
  simp only [mkR,zag (show 0 < 4 by decide),zag (show 1 < 4 by decide),zag (show 2 < 4 by decide),zag (show 3 < 4 by decide)]
 unfold ym
 rw [if_pos rfl,hp]
 dsimp only
 rw [if_pos ⟨h0,h1,hsn,hs⟩,hseg]
theorem zdB {s:Strm} {i:Nat} (hi:i < 65536):ym s 2#8 (yj 4 i)=zdS s i:=by
 unfold ym
 rw [if_neg (by decide),if_pos ⟨rfl,zv⟩,zcx (by omega)]
theorem zhV {s:Strm} {i:Nat}:zdS s i=if (yc s i).2=0 then some (yc s i).1 else none:=by
 have hn:nth s.gone i=s.gone[i]?.getD false:=rfl
 by_cases c:i < s.l.length
 · have h1:yc s i=if nth s.gone i then (z0S,120) else (⟨s.l,s.gone.set i true⟩,0):=by
    unfold yc
    rw [if_neg (show ¬ ((i:Int) < 0 ∨ (s.l.length:Int)≤(i:Int)) by omega),Int.toNat_natCast]
   rw [h1,hn]
   unfold zdS
   cases s.gone[i]?.getD false with
   | true=>simp
   | false=>simp [c]
 · have h1:yc s i=(z0S,4):=by unfold yc;rw [if_pos (.inr (by omega))]
   rw [h1]
   unfold zdS
   rw [if_neg (fun e=>c e.1),if_neg (by decide)]
open Classical in
noncomputable def y7 (s:Sto) (l:List Rdg):Sto × Int :=
 if l.length < 1 ∨ 4096 < l.length ∨ ¬ ∀ r∈l,vR r then (([],0),1)
 else if 65536 < (lS s.1).l.length+l.length then (([],0),2)
 else ((s.1.take (lN s.1)++y9 1#8 (pcl l),min s.2 (lN s.1)),0)
noncomputable def rtV (s:Sto) (i:Int):Sto × Int :=
 if (yc (lS s.1) i).2≠0 then (([],0),(yc (lS s.1) i).2)
 else ((s.1.take (lN s.1)++y9 2#8 (yj 4 i.toNat),min s.2 (lN s.1)),0)
end Go.Proofs.YtdpfkanfahchjaaDoor

/-
  The log of readings: Load,by the program.
-/
namespace Go.Proofs.YtdpfkanfahchjaaDoor
open Go Go.AL

def bev (x:BitVec 8):Value := .int .u8 x.toNat
def okB (_:BitVec 8):Prop:=True
def fev (i:FuncId):AV := .clo i [] []
def zdX:List (BitVec 8 × FuncId):=[(1#8,61),(2#8,63)]
theorem prsMap:MapT Tryd.prog 75 b8 bev okB fev (.p (.s .nilFunc)) where
 ty:=⟨_,_,Tryd.underlying75,ztC,fun k _=>by
  unfold keyOf
  simp only [Tryd.underlying5,mapKey,bev]
  have:=k.isLt
  rw [if_pos ⟨trivial,by
   simp only [Lit.wf,Bool.and_eq_true,decide_eq_true_eq]
   exact⟨by show (0:Int)≤_;omega,by show _≤(255:Int);omega⟩⟩]
  rfl,zjw⟩
 val k:=rfl
 inj a b _ _ h:=by
  unfold bev at h
  simp only [Value.int.injEq,true_and] at h
  exact BitVec.eq_of_toNat_eq (by omega)
def zvA:Option AV → Option AV → Option AV → Option AV
 | some x,some y,some z=>some (.tup [x,y,z])
 | _,_,_=>none
theorem zoU {x y z:AV}:zvA (some x) (some y) (some z)=some (.tup [x,y,z]):=rfl
theorem zr3 {P:Program} {a t u:Nat} {ty:TypeId} {env:Env} {H:Hp}:zcE P [.cell a ty,.tmp t,.tmp u] env H=zvA (zax P H ty (env a)) (some (env t)) (some (env u)):=by
 simp only [zcE,zaC,zbG]
 cases zax P H ty (env a)<;>rfl
attribute [go_sem] zr3 zoU
theorem zhW:zaA .nilFunc = .p (.s .nilFunc):=rfl
attribute [go_sem] zhW
theorem yC {n:Nat} {B H:Hp} (h:B.trunc n=H.trunc n) (hb:Bel n H):Bel n B:=fun b x hbn hx y hy=>by
 have h1:(B.trunc n).f b=(H.trunc n).f b:=by rw [h]
 simp only [Hp.trunc,hbn,if_true] at h1
 exact hb b x hbn (by rw [←h1];exact hx) y hy
theorem zdD {C:Cx} {todo:List Item} {env:Env} {B:Hp} {R:AV → Hp → Prop} (c α β:Nat) (l:List Rdg) (g:List Bool) (hc:B.f c=some (.cells [.vr α l.length 4,.vr β g.length 1])) (hα:B.f α=some (.vec (rcl l))) (hβ:B.f β=some (.vec (cl bo g))) (hαβ:α≠β) (h1:c≠α) (h2:c≠β)
 (h : ∀ B',B'.n=B.n → B'.f c=some (.cells [.p (.sl false 4 (pl zK l)),.p (.sl false 1 (pl bo g))]) → (∀ b,b≠c → b≠α → b≠β → B'.f b=B.f b) → (∀ n,n≤c → n≤α → n≤β → B'.trunc n=B.trunc n) → ARun C todo env B' R):ARun C todo env B R:=by
 have hcn:=Hp.lt hc
 have hαn:=Hp.lt hα
 have hβn:=Hp.lt hβ
 refine .frzCell c 0 α (x := .vr α l.length 4) (y := .p (.sl false 4 (pl zK l))) hc rfl h1 (fun σ w v hr hs=>zjk hr (xs:=pl zK l) (cs:=rcl l) (by rw [hα];rfl) zfG (by rw [zat]) (zmZ l) hs) ?_
 have e1:((B.set α .dead).set c (.cells ([AV.vr α l.length 4,AV.vr β g.length 1].set 0 (.p (.sl false 4 (pl zK l)))))).f c=some (.cells [.p (.sl false 4 (pl zK l)),.vr β g.length 1]):=Hp.f_set_self _ _ _ (by rw [Hp.n_set];exact hcn)
 have e2:((B.set α .dead).set c (.cells ([AV.vr α l.length 4,AV.vr β g.length 1].set 0 (.p (.sl false 4 (pl zK l)))))).f β=some (.vec (cl bo g)):=by
  rw [Hp.f_set_ne _ _ _ _ (Ne.symm h2),Hp.f_set_ne _ _ _ _ (Ne.symm hαβ)];exact hβ
 refine .frzCell c 1 β (x := .vr β g.length 1) (y := .p (.sl false 1 (pl bo g))) e1 rfl h2 (fun σ w v hr hs=>zjk hr (xs:=pl bo g) (cs:=cl bo g) (by rw [e2];rfl) (by rw [flat_bo',zi7]) (by rw [zat]) zhL hs) ?_
 refine h _ rfl (Hp.f_set_self _ _ _ (by simp only [Hp.n_set];exact hcn)) (fun b b1 b2 b3 => ?_) (fun n n1 n2 n3 => ?_)
 · rw [Hp.f_set_ne _ _ _ _ b1,Hp.f_set_ne _ _ _ _ b3,Hp.f_set_ne _ _ _ _ b1,Hp.f_set_ne _ _ _ _ b2]
 · refine Hp.ext (fun b => ?_) rfl
   simp only [Hp.trunc]
   by_cases hb:b < n
   · rw [if_pos hb,if_pos hb,Hp.f_set_ne _ _ _ _ (by omega),Hp.f_set_ne _ _ _ _ (by omega),Hp.f_set_ne _ _ _ _ (by omega),Hp.f_set_ne _ _ _ _ (by omega)]
   · rw [if_neg hb,if_neg hb]
structure LdS where
 B:Hp
 s:Strm
 α:Nat
 β:Nat
 b:By
structure LQ (H:Hp) (d:By) (s0:Int) (x:LdS):Prop where
 n:H.n+6≤x.B.n
 f1:x.B.f H.n=some (.cells [.p (.sl false 1 (pl b8 d)),.p (i64 s0)])
 f2:x.B.f (H.n+1)=some (.cells [.p (.sl true 4 []),.p (.sl true 1 [])])
 f5:x.B.f (H.n+2)=some (.cells [.vr x.α x.s.l.length 4,.vr x.β x.s.gone.length 1])
 fm:x.B.f (H.n+5)=some (.mapB (tm bev fev zdX))
 fα:x.B.f x.α=some (.vec (rcl x.s.l))
 fβ:x.B.f x.β=some (.vec (cl bo x.s.gone))
 αβ:x.α≠x.β
 α3:H.n+3≤x.α
 β3:H.n+3≤x.β
 ok:SOk x.s
 ld:ld z0S d=ld x.s x.b
 le:x.b.length≤d.length
 tr:x.B.trunc H.n=H
theorem zma {s s':Strm} {p:By} (h:ym s 2#8 p=some s'):s'.l=s.l:=by
 have h':ym ⟨s.l,s.gone⟩ 2#8 p=some s':=h
 rw [zjZ] at h'
 split at h'
 · unfold zdS at h'
   split at h'
   · cases h';rfl
   · cases h'
 · cases h'
def LdP (H B:Hp) (s:Strm) (α β:Nat) (k:BitVec 8) (p:By) (x:AV) (H':Hp):Prop :=
 (ym s k p=none ∧ ∃ y T,(∃ u v,zf y=some [u,v])∧x = .tup [y,.p (bo false)]∧H'=app B T) ∨
 ∃ s' γ,ym s k p=some s'∧x = .tup [.agg [.vr α s'.l.length 4,.vr γ s'.gone.length 1],.p (bo true)]∧H'.f α=some (.vec (rcl s'.l))∧H'.f γ=some (.vec (cl bo s'.gone))∧α≠γ∧(γ=β ∨ B.n≤γ) ∧
  (∀ b,b≠α → b≠γ → b < B.n → H'.f b=B.f b)∧B.n≤H'.n∧H'.trunc H.n=H
theorem zbf {H B H':Hp} {d b r:By} {s0:Int} {s s':Strm} {α β γ:Nat} (hQ:LQ H d s0 ⟨B,s,α,β,b⟩) (p1:H'.f α=some (.vec (rcl s'.l))) (p2:H'.f γ=some (.vec (cl bo s'.gone))) (p3:α≠γ) (p4:γ=β ∨ B.n≤γ)
 (p5 : ∀ b,b≠α → b≠γ → b < B.n → H'.f b=B.f b) (p6:B.n≤H'.n) (p7:H'.trunc H.n=H) (hok:SOk s') (hst:ld s b=ld s' r) (hr:r.length≤b.length) :
 LQ H d s0 ⟨(H'.new (.cells [.vr α s'.l.length 4,.vr γ s'.gone.length 1])).set (H.n+2) (.cells [.vr α s'.l.length 4,.vr γ s'.gone.length 1]),s',α,γ,r⟩:=by
 obtain⟨hn,f1,f2,f5,fm,fα,fβ,αβ,α3,β3,ok,hld,hle,tr⟩:=hQ
 dsimp only at hn f1 f2 f5 fm fα fβ αβ α3 β3 ok hld hle tr
 have hα5:α≠H.n+5:=fun e=>by rw [e,fm] at fα;cases fα
 have hβ5:β≠H.n+5:=fun e=>by rw [e,fm] at fβ;cases fβ
 have hγ3:H.n+3≤γ:=by rcases p4 with rfl | h<;>omega
 have hγ5:H.n+5≠γ:=by rcases p4 with rfl | h<;>omega
 have hαn:=Hp.lt p1
 have hγn:=Hp.lt p2
 have old : ∀ b,b≠H.n+2 → b < H'.n → ((H'.new (.cells [.vr α s'.l.length 4,.vr γ s'.gone.length 1])).set (H.n+2) (.cells [.vr α s'.l.length 4,.vr γ s'.gone.length 1])).f b=H'.f b:=fun b h1 h2=>by
  rw [Hp.f_set_ne _ _ _ _ h1,Hp.f_new_old _ _ _ h2]
 refine⟨?_,?_,?_,?_,?_,?_,?_,p3,α3,hγ3,hok,hld.trans hst,by dsimp only;omega,?_⟩<;>dsimp only
 · rw [Hp.n_set,n_new'];omega
 · rw [old _ (by omega) (by omega),p5 _ (by omega) (by omega) (by omega)];exact f1
 · rw [old _ (by omega) (by omega),p5 _ (by omega) (by omega) (by omega)];exact f2
 · exact Hp.f_set_self _ _ _ (by rw [n_new'];omega)
 · rw [old _ (by omega) (by omega),p5 _ (Ne.symm hα5) hγ5 (by omega)];exact fm
 · rw [old _ (by omega) hαn];exact p1
 · rw [old _ (by omega) hγn];exact p2
 · rw [Hp.trunc_set _ _ _ _ (by omega),Hp.trunc_new _ _ _ (by omega)];exact p7
section walks
variable {G:Globs}
theorem zhX (H:Hp) (R:AV → Hp → Prop) (h:R (.mp H.n) (H.new (.mapB (tm bev fev zdX)))):ACall Tryd.prog G 36 [] H R:=by
 have p1 : ∀ (H:Hp) (b:Nat),zgz Tryd.prog H 75 b (some []) (.p (b8 1#8)) (.clo 61 [] [])=some (H.set b (.mapB (tm bev fev [(1#8,61)]))):=fun H b=>prsMap.put (m:=[]) (by simp) trivial
 have p2 : ∀ (H:Hp) (b:Nat),zgz Tryd.prog H 75 b (some (tm bev fev [(1#8,61)])) (.p (b8 2#8)) (.clo 63 [] [])=some (H.set b (.mapB (tm bev fev zdX))):=fun H b=>prsMap.put (fun _ _=>trivial) trivial
 refine ACall.of_run (raw:=[]) Tryd.func36 rfl Tryd.ntmps36 (by simp) fun hbel => ?_
 refine .q ?_;refine .text ?_;simp (disch:=first|exact za|fail) only [go_sem,seval,-List.reduceReplicate]
 refine .q ?_;refine .text ?_;simp (disch:=first|exact za|fail) only [go_sem,seval,-List.reduceReplicate,p1,p2]
 refine .q ?_;refine .retKeep Tryd.func36 (by rw [Tryd.results36]) (by simp (disch:=first|exact za|fail) only [go_sem,seval,-List.reduceReplicate];rfl) ?_;(try simp (disch:=first|exact za|fail) only [go_sem,seval,-List.reduceReplicate])
 exact h
set_option maxHeartbeats 4000000 in
set_option maxRecDepth 20000 in
theorem yD (hG0:G 0=some (8,[.agg (pl zG inits)])) (hG1:G 1=some (64,[.agg (pl zG ks)])) (d:By) (s0:Int) (hd:d.length≤140737488353000) (H:Hp) (R:AV → Hp → Prop) (h:R (.tup [.p (stm (lS d)),.p (i64 (lN d:Nat)),.p (i64 (lE d))]) H):ACall Tryd.prog G 11 [.p (sto d s0)] H R:=by
 refine ACall.of_run (raw:=[]) Tryd.func11 rfl Tryd.ntmps11 (by simp) fun hbel => ?_
 refine .q ?_;refine .text ?_;simp (disch:=first|exact za|fail) only [go_sem,seval,-List.reduceReplicate]
 refine .q ?_;refine .text ?_;simp (disch:=first|exact za|fail) only [go_sem,seval,-List.reduceReplicate]
 (repeat refine .z rfl ?_);refine .vecC (H.n+2) 0 (by simp (disch:=first|exact za|fail) only [go_sem,seval,-List.reduceReplicate];rfl) (by rfl) ?_;simp (disch:=first|exact za|fail) only [go_sem,seval,-List.reduceReplicate,List.set_cons_zero]
 (repeat refine .z rfl ?_);refine .vecC (H.n+2) 1 (by simp (disch:=first|exact za|fail) only [go_sem,seval,-List.reduceReplicate];rfl) (by rfl) ?_;simp (disch:=first|exact za|fail) only [go_sem,seval,-List.reduceReplicate,List.set_cons_zero,List.set_cons_succ]
 have hpar : ∀ B:Hp,ACall Tryd.prog G 36 [] B (fun r H'=>r = .mp B.n∧H'=B.new (.mapB (tm bev fev zdX))):=fun B=>zhX B _ ⟨rfl,rfl⟩
 obtain⟨B0,hB0⟩ : ∃ B0,B0=(((((H.new (.cells [.p (.sl false 1 (pl b8 d)),.p (i64 s0)])).new (.cells [.p (.sl true 4 []),.p (.sl true 1 [])])).new (.cells [.vr (H.n+3) 0 4,.vr (H.n+4) 0 1])).new (.vec [])).new (.vec [])).new (.mapB (tm bev fev zdX)):=⟨_,rfl⟩
 refine .q ?_;refine .cutH [1,2,5] [(6,.mp (H.n+5)),(7,.p (.sl false 1 (pl b8 d)))] (B0) (fun ihF => ?_) (fun env F => ?_)
 rotate_left 1
 simp (disch:=first|exact za|fail) only [go_sem,seval,-List.reduceReplicate] at F
 rotate_left 1
 · refine .openTr (.one 1 (.fork 0 2 (.lin [2,3,4]) (.lin [0,3,4]))) [0] follows (by kernel_rfl) ?_
   refine zV (.ptr H.n 0) rfl rfl (by simp (disch:=first|exact za|fail) only [go_sem,seval,-List.reduceReplicate]<;>rfl) rfl ?_
   refine And.intro (zdN rfl rfl (by simp (disch:=first|exact za|fail) only [go_sem,seval,-List.reduceReplicate]<;>rfl) (by rfl) rfl (hpar _) fun r H' ⟨e1,e2⟩ => ?_) (zV (.p (.sl false 1 (pl b8 d))) rfl rfl (by simp (disch:=first|exact za|fail) only [go_sem,seval,-List.reduceReplicate]<;>rfl) rfl ?_)
   · subst e1 e2
     refine yp [] (by kernel_rfl) ?_
     simp (disch:=first|exact za|fail) only [go_sem,seval,-List.reduceReplicate]
     first | (refine ihF _ _ ?_ ?_) | (refine .z rfl ?_;refine ihF _ _ ?_ ?_) | (refine .z rfl ?_;refine .z rfl ?_;refine ihF _ _ ?_ ?_) | (refine .z rfl ?_;refine .z rfl ?_;refine .z rfl ?_;refine ihF _ _ ?_ ?_)
     · simp (disch:=first|exact za|fail) only [go_sem,seval,-List.reduceReplicate]<;>(repeat' (first | rfl | refine And.intro ?_ ?_))
     · exact hB0.symm
   · refine yp [0] (by kernel_rfl) ?_
     simp (disch:=first|exact za|fail) only [go_sem,seval,-List.reduceReplicate]
     refine CallD.moves (hpar _) fun r H' ⟨e1,e2⟩ => ?_
     subst e1 e2
     simp (disch:=first|exact za|fail) only [go_sem,seval,-List.reduceReplicate]
     first | (refine ihF _ _ ?_ ?_) | (refine .z rfl ?_;refine ihF _ _ ?_ ?_) | (refine .z rfl ?_;refine .z rfl ?_;refine ihF _ _ ?_ ?_) | (refine .z rfl ?_;refine .z rfl ?_;refine .z rfl ?_;refine ihF _ _ ?_ ?_)
     · simp (disch:=first|exact za|fail) only [go_sem,seval,-List.reduceReplicate]<;>(repeat' (first | rfl | refine And.intro ?_ ?_))
     · exact hB0.symm
 · have q0:LQ H d s0 ⟨B0,z0S,H.n+3,H.n+4,d⟩:=by
    subst hB0
    refine⟨?_,?_,?_,?_,?_,?_,?_,by dsimp only;omega,by dsimp only;omega,by dsimp only;omega,zr1,rfl,Nat.le_refl _,?_⟩<;>dsimp only
    · exact Nat.le_refl _
    · simp (disch:=first|exact za|fail) only [go_sem,seval,-List.reduceReplicate]
    · simp (disch:=first|exact za|fail) only [go_sem,seval,-List.reduceReplicate]
    · simp (disch:=first|exact za|fail) only [go_sem,seval,-List.reduceReplicate]
      rfl
    · simp (disch:=first|exact za|fail) only [go_sem,seval,-List.reduceReplicate]
    · simp (disch:=first|exact za|fail) only [go_sem,seval,-List.reduceReplicate]
      rfl
    · simp (disch:=first|exact za|fail) only [go_sem,seval,-List.reduceReplicate]
      rfl
    · simp (disch:=first|exact za|fail) only [go_sem,seval,-List.reduceReplicate]
   clear hB0
   refine .q ?_;refine .loopK (S:=LdS) [1,2,5,6] (fun x=>[(7,.p (.sl false 1 (pl b8 x.b)))]) (fun x=>x.B) (fun x=>LQ H d s0 x) (fun x=>x.b.length) (⟨B0,z0S,H.n+3,H.n+4,d⟩) ?_ (by first | rfl | (simp (disch:=first|exact za|fail) only [go_sem,seval,-List.reduceReplicate,F]<;>rfl)) ?_ ?_
   · simp (disch:=first|exact za|fail) only [go_sem,seval,-List.reduceReplicate,F]<;>(repeat' (first | rfl | refine And.intro ?_ ?_))
   rotate_left 1
   intro x env E hQ ihE;simp (disch:=first|exact za|fail) only [go_sem,seval,-List.reduceReplicate,F] at E
   rotate_left 1
   · exact q0
   · obtain⟨B,s,α,β,b⟩:=x
     obtain⟨hn,f1,f2,f5,fm,fα,fβ,αβ,α3,β3,ok,hld,hle,tr⟩:=hQ
     dsimp only at hn f1 f2 f5 fm fα fβ αβ α3 β3 ok hld hle tr E ⊢
     have hQ0:LQ H d s0 ⟨B,s,α,β,b⟩:=⟨hn,f1,f2,f5,fm,fα,fβ,αβ,α3,β3,ok,hld,hle,tr⟩
     have hc1:H.n+2≠α:=by omega
     have hc2:H.n+2≠β:=by omega
     have hbelB:Bel H.n B:=yC (by rw [tr];exact (Hp.trunc_self H).symm) hbel
     have hres : ∀ q,ld s b=q → lS d=q.1∧lN d=d.length - q.2.1∧lE d=if q.2.2 then 0 else 270:=fun q e=>by
      unfold lS lN lE
      rw [hld,e]
      exact⟨rfl,rfl,rfl⟩
     have lk : ∀ k v,zcl k zdX=some v → zd9 Tryd.prog 75 (some (tm bev fev zdX)) (.p (b8 k)) false=some (.clo v [] []):=fun k v e=>by
      have:=prsMap.at (m:=zdX) (k:=k) (fun _ _=>trivial) trivial
      rw [e] at this
      exact this
     have lkn : ∀ k,zcl k zdX=none → zd9 Tryd.prog 75 (some (tm bev fev zdX)) (.p (b8 k)) false=some (.p (.s .nilFunc)):=fun k e=>by
      have:=prsMap.at (m:=zdX) (k:=k) (fun _ _=>trivial) trivial
      rw [e] at this
      exact this
     have hspec : ∀ p:By,p.length≤1048576 → ∀ k f,zcl k zdX=some f → ACall Tryd.prog G f [.agg [.vr α s.l.length 4,.vr β s.gone.length 1],.p (.sl false 1 (pl b8 p))] B (LdP H B s α β k p):=fun p hp k f hf=>by
      have hkf:(k=1#8∧f=61) ∨ (k=2#8∧f=63):=by
       change (if 1#8=k then some 61 else if 2#8=k then some 63 else none)=some f at hf
       split at hf
       · rename_i e;cases hf;exact .inl ⟨e.symm,rfl⟩
       · split at hf
         · rename_i e;cases hf;exact .inr ⟨e.symm,rfl⟩
         · cases hf
      have hαn:=Hp.lt fα
      have hβn:=Hp.lt fβ
      rcases hkf with ⟨rfl,rfl⟩ | ⟨rfl,rfl⟩
      · refine zhS α β αβ s.l s.gone p ok.2 ok.1 hp B fα fβ _ (fun e x T hx => .inl ⟨e,x,T,hx,rfl,rfl⟩) fun s' e T => .inr ⟨s',β,e,rfl,?_,?_,αβ,.inl rfl,fun b h1 h2 h3 => ?_,?_,?_⟩
        · simp (disch:=first|exact za|fail) only [go_sem,seval,-List.reduceReplicate]
        · simp (disch:=first|exact za|fail) only [go_sem,seval,-List.reduceReplicate]
        · rw [zbT (by simp (disch:=first|exact za|fail) only [go_sem,seval,-List.reduceReplicate];exact h3),Hp.f_set_ne _ _ _ _ h2,Hp.f_set_ne _ _ _ _ h1]
        · rw [app_n'];show _≤B.n+_;omega
        · rw [zbp (by simp (disch:=first|exact za|fail) only [go_sem,seval,-List.reduceReplicate];omega)];simp (disch:=first|exact za|fail) only [go_sem,seval,-List.reduceReplicate];exact tr
      · refine zhT α β s.l s.gone p ok.2 ok.1 B fα fβ _ (fun e x T hx => .inl ⟨e,x,T,hx,rfl,rfl⟩) fun s' e γ T h1 h2 h3 => .inr ⟨s',γ,e,rfl,?_,h3,by omega,.inr h1,fun b h1 h2 h3 => ?_,?_,?_⟩
        · rw [zbT hαn,fα,zma e]
        · exact zbT h3
        · rw [app_n'];omega
        · rw [zbp (by omega)];exact tr
     have hft:zbz Tryd.prog 79=true:=by kernel_rfl
     by_cases c0:b.length=0
     · have d0:decide ((0:Int) < (b.length:Int))=false:=decide_eq_false (by omega)
       have hb0:b=[]:=List.eq_nil_of_length_eq_zero c0
       refine .q ?_;refine .text ?_;simp (disch:=first|exact za|fail) only [go_sem,seval,-List.reduceReplicate,E,F,d0]
       refine .q ?_;refine .ifF (by simp (disch:=first|exact za|fail) only [go_sem,seval,-List.reduceReplicate]) ?_
       subst hb0
       have hl:ld s []=(s,0,true):=za1
       rw [(hres _ hl).1,(hres _ hl).2.1,(hres _ hl).2.2,if_pos rfl,Nat.sub_zero] at h
       refine .q ?_;refine zdD (H.n+2) α β s.l s.gone f5 fα fβ αβ hc1 hc2 fun B' b1 b2 b3 b4 => ?_
       have g1:B'.f H.n=some (.cells [.p (.sl false 1 (pl b8 d)),.p (i64 s0)]):=(b3 _ (by omega) (by omega) (by omega)).trans f1
       have g2:B'.f (H.n+1)=some (.cells [.p (.sl true 4 []),.p (.sl true 1 [])]):=(b3 _ (by omega) (by omega) (by omega)).trans f2
       have tr':B'.trunc H.n=H:=(b4 _ (by omega) (by omega) (by omega)).trans tr
       have hbel:Bel H.n B':=yC (by rw [tr'];exact (Hp.trunc_self H).symm) hbel
       have hn':H.n+1 < B'.n:=by rw [b1];exact (by omega)
       have hs0:B'.set (H.n+1) (.cells [.p (.sl true 4 []),.p (.sl true 1 [])])=B':=Hp.set_same _ _ _ g2
       (refine .q ?_)
       refine .openInv (fun L env' H'=>kF env' [(1,.ptr H.n 0),(2,.ptr (H.n+1) 0),(5,.ptr (H.n+2) 0)]∧kI L env' [(0,61,.p (.agg [.sl false 4 (pl zK s.l),.sl false 1 (pl bo s.gone)])),(1,62,.ptr H.n 0),(2,63,.p (.sl false 1 (pl b8 d))),(3,64,.p (i64 d.length)),(5,3,.p (i64 d.length)),(6,4,.p (i64 0))]∧(L 4=true → allT L [0])∧H'=(B'.set (H.n+1) (.cells (if L 4 then [.p (.sl false 4 (pl zK s.l)),.p (.sl false 1 (pl bo s.gone))] else [.p (.sl true 4 []),.p (.sl true 1 [])])))) follows (by kernel_rfl) ?_ ?_ ?_
       · exact⟨(by simp (disch:=first|exact za|fail) only [go_sem,seval,-List.reduceReplicate,kFi,kFn,and_self,E,F,g1,g2,b2,b1,hs0]),(fun _ _ h=>by cases h),(fun h=>by cases h),(by first | rfl | (simp only [Bool.false_eq_true,if_false];first | rfl | (simp (disch:=first|exact za|fail) only [go_sem,seval,-List.reduceReplicate,E,F,g1,g2,b2,b1,hs0]<;>rfl)))⟩
       · intro i o L env' H' ho hL hall hI
         obtain⟨KF,KG,m4,rfl⟩:=hI
         rcases i with _ | _ | _ | _ | _ | _ | _ | i
         · cases ho;have n4:=nfT m4 hL;have f2:=y0 KF 2 rfl;refine ze (.p (.agg [.sl false 4 (pl zK s.l),.sl false 1 (pl bo s.gone)])) rfl rfl (by simp (disch:=first|exact za|fail) only [go_sem,seval,-List.reduceReplicate,reduceIte,Bool.false_eq_true,if_false,if_true,f2,n4,hL,g1,g2,b2,b1,hs0]<;>rfl) rfl ?_;exact⟨ya KF,yb KG,ka m4,(by rw [zb (by decide)])⟩
         · cases ho;have f0:=y0 KF 0 rfl;refine ze (.ptr H.n 0) rfl rfl (by simp (disch:=first|exact za|fail) only [go_sem,seval,-List.reduceReplicate,f0,g1,g2,b2,b1,hs0]<;>rfl) rfl ?_;exact⟨ya KF,yb KG,ka m4,(by rw [zb (by decide)])⟩
         · cases ho;have d1:=zQ KG 1 rfl (kL hall 0 rfl rfl);refine ze (.p (.sl false 1 (pl b8 d))) rfl rfl (by simp (disch:=first|exact za|fail) only [go_sem,seval,-List.reduceReplicate,d1,g1,g2,b2,b1,hs0]<;>rfl) rfl ?_;exact⟨ya KF,yb KG,ka m4,(by rw [zb (by decide)])⟩
         · cases ho;have d2:=zQ KG 2 rfl (kL hall 0 rfl rfl);refine ze (.p (i64 d.length)) rfl rfl (by simp (disch:=first|exact za|fail) only [go_sem,seval,-List.reduceReplicate,d2,g1,g2,b2,b1,hs0]<;>rfl) rfl ?_;exact⟨ya KF,yb KG,ka m4,(by rw [zb (by decide)])⟩
         · cases ho;have h0:=kL hall 0 rfl rfl;have d0:=zQ KG 0 rfl h0;have f1:=y0 KF 1 rfl;refine zaZ rfl rfl (by simp (disch:=first|exact za|fail) only [go_sem,seval,-List.reduceReplicate,reduceIte,Bool.false_eq_true,if_false,if_true,f1,d0,hL,g1,g2,b2,b1,hs0]<;>rfl) rfl ?_;exact⟨KF,kIs KG,(fun _=>kt (zg h0 yi)),(by (have e4:more L 4 4=true:=yJ);(try simp only [e4,hL]);first | done | rfl | (simp only [e4,hL,if_true,if_false,Bool.false_eq_true];first | done | rfl | (simp (disch:=first|exact za|fail) only [go_sem,seval,-List.reduceReplicate,e4,hL,g1,g2,b2,b1,hs0]<;>rfl)))⟩
         · cases ho;have d3:=zQ KG 3 rfl (kL hall 0 rfl rfl);refine ze (.p (i64 d.length)) rfl rfl (by simp (disch:=first|exact za|fail) only [go_sem,seval,-List.reduceReplicate,d3,g1,g2,b2,b1,hs0]<;>rfl) rfl ?_;exact⟨ya KF,yb KG,ka m4,(by rw [zb (by decide)])⟩
         · cases ho;refine ze (.p (i64 0)) rfl rfl (by simp (disch:=first|exact za|fail) only [go_sem,seval,-List.reduceReplicate,g1,g2,b2,b1,hs0]<;>rfl) rfl ?_;exact⟨ya KF,yb KG,ka m4,(by rw [zb (by decide)])⟩
         · simp at ho
       · intro L env' H' hall hI
         obtain⟨KF,KG,_,rfl⟩:=hI
         have l4:=hall 4 (by decide)
         have f0:=y0 KF 0 rfl
         have f1:=y0 KF 1 rfl
         have f2:=y0 KF 2 rfl
         have g1:=zQ KG 1 rfl (hall 1 (by decide))
         have g2:=zQ KG 2 rfl (hall 2 (by decide))
         have g5:=zQ KG 4 rfl (hall 5 (by decide))
         have g6:=zQ KG 5 rfl (hall 6 (by decide))
         simp only [l4,if_true]
         clear hall
         refine .q ?_;refine .rt Tryd.func11 (by rw [Tryd.results11]) (hx:=by simp (disch:=first|exact za|fail) only [go_sem,seval,-List.reduceReplicate,f1,g5,g6,tr'];rfl) (hR := ?_);simp (disch:=first|exact za|fail) only [go_sem,seval,-List.reduceReplicate,f1,g5,g6,tr']
         exact h
     · have d0:decide ((0:Int) < (b.length:Int))=true:=decide_eq_true (by omega)
       refine .q ?_;refine .text ?_;simp (disch:=first|exact za|fail) only [go_sem,seval,-List.reduceReplicate,E,F,d0]
       refine .q ?_;refine .ifT (by simp (disch:=first|exact za|fail) only [go_sem,seval,-List.reduceReplicate]) ?_
       refine .q ?_;refine .text ?_;simp (disch:=first|exact za|fail) only [go_sem,seval,-List.reduceReplicate,E,F]
       refine CallK.of (fun R h=>zl5 hG0 hG1 b (by omega) _ R h) ?_;simp (disch:=first|exact za|fail) only [go_sem,seval,-List.reduceReplicate,E,F]
       have hdi:((d.length - b.length:Nat):Int)=(d.length:Int) - (b.length:Int):=by omega
       cases hs:spl b with
       | none =>
        have hv:zgd b=((0#8,[],[]),false):=by rw [zgd,hs]
        have lk0:=lkn 0#8 rfl
        have hl:ld s b=(s,b.length,false):=zbN c0 hs
        rw [(hres _ hl).1,(hres _ hl).2.1,(hres _ hl).2.2,if_neg (by exact Bool.false_ne_true),hdi] at h
        rw [hv]
        refine .q ?_;refine .text ?_;simp (disch:=first|exact za|fail) only [go_sem,seval,-List.reduceReplicate,E,F,fm,lk0]
        refine .q ?_;refine .text ?_;simp (disch:=first|exact za|fail) only [go_sem,seval,-List.reduceReplicate,E,F]
        refine .q ?_;refine .ifT (by simp (disch:=first|exact za|fail) only [go_sem,seval,-List.reduceReplicate]) ?_
        refine .q ?_;refine zdD (H.n+2) α β s.l s.gone f5 fα fβ αβ hc1 hc2 fun B' b1 b2 b3 b4 => ?_
        have g1:B'.f H.n=some (.cells [.p (.sl false 1 (pl b8 d)),.p (i64 s0)]):=(b3 _ (by omega) (by omega) (by omega)).trans f1
        have g2:B'.f (H.n+1)=some (.cells [.p (.sl true 4 []),.p (.sl true 1 [])]):=(b3 _ (by omega) (by omega) (by omega)).trans f2
        have tr':B'.trunc H.n=H:=(b4 _ (by omega) (by omega) (by omega)).trans tr
        have hbel:Bel H.n B':=yC (by rw [tr'];exact (Hp.trunc_self H).symm) hbel
        have hn':H.n+1 < B'.n:=by rw [b1];exact (by omega)
        have hs0:B'.set (H.n+1) (.cells [.p (.sl true 4 []),.p (.sl true 1 [])])=B':=Hp.set_same _ _ _ g2
        (refine .q ?_)
        refine .openInv (fun L env' H'=>kF env' [(1,.ptr H.n 0),(2,.ptr (H.n+1) 0),(5,.ptr (H.n+2) 0),(7,.p (.sl false 1 (pl b8 b)))]∧kI L env' [(0,36,.p (.agg [.sl false 4 (pl zK s.l),.sl false 1 (pl bo s.gone)])),(1,37,.ptr H.n 0),(2,38,.p (.sl false 1 (pl b8 d))),(3,39,.p (i64 d.length)),(4,40,.p (.sl false 1 (pl b8 b))),(5,41,.p (i64 b.length)),(6,42,.p (i64 ((d.length:Int) - (b.length:Int)))),(8,3,.p (i64 ((d.length:Int) - (b.length:Int)))),(9,4,.p (i64 270))]∧(L 7=true → allT L [0])∧H'=(B'.set (H.n+1) (.cells (if L 7 then [.p (.sl false 4 (pl zK s.l)),.p (.sl false 1 (pl bo s.gone))] else [.p (.sl true 4 []),.p (.sl true 1 [])])))) follows (by kernel_rfl) ?_ ?_ ?_
        · exact⟨(by simp (disch:=first|exact za|fail) only [go_sem,seval,-List.reduceReplicate,kFi,kFn,and_self,E,F,g1,g2,b2,b1,hs0]),(fun _ _ h=>by cases h),(fun h=>by cases h),(by first | rfl | (simp only [Bool.false_eq_true,if_false];first | rfl | (simp (disch:=first|exact za|fail) only [go_sem,seval,-List.reduceReplicate,E,F,g1,g2,b2,b1,hs0]<;>rfl)))⟩
        · intro i o L env' H' ho hL hall hI
          obtain⟨KF,KG,m7,rfl⟩:=hI
          rcases i with _ | _ | _ | _ | _ | _ | _ | _ | _ | _ | i
          · cases ho;have n7:=nfT m7 hL;have f2:=y0 KF 2 rfl;refine ze (.p (.agg [.sl false 4 (pl zK s.l),.sl false 1 (pl bo s.gone)])) rfl rfl (by simp (disch:=first|exact za|fail) only [go_sem,seval,-List.reduceReplicate,reduceIte,Bool.false_eq_true,if_false,if_true,f2,n7,hL,g1,g2,b2,b1,hs0]<;>rfl) rfl ?_;exact⟨ya KF,yb KG,ka m7,(by rw [zb (by decide)])⟩
          · cases ho;have f0:=y0 KF 0 rfl;refine ze (.ptr H.n 0) rfl rfl (by simp (disch:=first|exact za|fail) only [go_sem,seval,-List.reduceReplicate,f0,g1,g2,b2,b1,hs0]<;>rfl) rfl ?_;exact⟨ya KF,yb KG,ka m7,(by rw [zb (by decide)])⟩
          · cases ho;have d1:=zQ KG 1 rfl (kL hall 0 rfl rfl);refine ze (.p (.sl false 1 (pl b8 d))) rfl rfl (by simp (disch:=first|exact za|fail) only [go_sem,seval,-List.reduceReplicate,d1,g1,g2,b2,b1,hs0]<;>rfl) rfl ?_;exact⟨ya KF,yb KG,ka m7,(by rw [zb (by decide)])⟩
          · cases ho;have d2:=zQ KG 2 rfl (kL hall 0 rfl rfl);refine ze (.p (i64 d.length)) rfl rfl (by simp (disch:=first|exact za|fail) only [go_sem,seval,-List.reduceReplicate,d2,g1,g2,b2,b1,hs0]<;>rfl) rfl ?_;exact⟨ya KF,yb KG,ka m7,(by rw [zb (by decide)])⟩
          · cases ho;have f3:=y0 KF 3 rfl;refine ze (.p (.sl false 1 (pl b8 b))) rfl rfl (by simp (disch:=first|exact za|fail) only [go_sem,seval,-List.reduceReplicate,f3,g1,g2,b2,b1,hs0]<;>rfl) rfl ?_;exact⟨ya KF,yb KG,ka m7,(by rw [zb (by decide)])⟩
          · cases ho;have d4:=zQ KG 4 rfl (kL hall 0 rfl rfl);refine ze (.p (i64 b.length)) rfl rfl (by simp (disch:=first|exact za|fail) only [go_sem,seval,-List.reduceReplicate,d4,g1,g2,b2,b1,hs0]<;>rfl) rfl ?_;exact⟨ya KF,yb KG,ka m7,(by rw [zb (by decide)])⟩
          · cases ho;have d3:=zQ KG 3 rfl (kL hall 0 rfl rfl);have d5:=zQ KG 5 rfl (kL hall 1 rfl rfl);refine ze (.p (i64 ((d.length:Int) - (b.length:Int)))) rfl rfl (by simp (disch:=first|exact za|fail) only [go_sem,seval,-List.reduceReplicate,d3,d5,g1,g2,b2,b1,hs0]<;>rfl) rfl ?_;exact⟨ya KF,yb KG,ka m7,(by rw [zb (by decide)])⟩
          · cases ho;have h0:=kL hall 0 rfl rfl;have d0:=zQ KG 0 rfl h0;have f1:=y0 KF 1 rfl;refine zaZ rfl rfl (by simp (disch:=first|exact za|fail) only [go_sem,seval,-List.reduceReplicate,reduceIte,Bool.false_eq_true,if_false,if_true,f1,d0,hL,g1,g2,b2,b1,hs0]<;>rfl) rfl ?_;exact⟨KF,kIs KG,(fun _=>kt (zg h0 yi)),(by (have e7:more L 7 7=true:=yJ);(try simp only [e7,hL]);first | done | rfl | (simp only [e7,hL,if_true,if_false,Bool.false_eq_true];first | done | rfl | (simp (disch:=first|exact za|fail) only [go_sem,seval,-List.reduceReplicate,e7,hL,g1,g2,b2,b1,hs0]<;>rfl)))⟩
          · cases ho;have d6:=zQ KG 6 rfl (kL hall 0 rfl rfl);refine ze (.p (i64 ((d.length:Int) - (b.length:Int)))) rfl rfl (by simp (disch:=first|exact za|fail) only [go_sem,seval,-List.reduceReplicate,d6,g1,g2,b2,b1,hs0]<;>rfl) rfl ?_;exact⟨ya KF,yb KG,ka m7,(by rw [zb (by decide)])⟩
          · cases ho;refine ze (.p (i64 270)) rfl rfl (by simp (disch:=first|exact za|fail) only [go_sem,seval,-List.reduceReplicate,g1,g2,b2,b1,hs0]<;>rfl) rfl ?_;exact⟨ya KF,yb KG,ka m7,(by rw [zb (by decide)])⟩
          · simp at ho
        · intro L env' H' hall hI
          obtain⟨KF,KG,_,rfl⟩:=hI
          have l7:=hall 7 (by decide)
          have f0:=y0 KF 0 rfl
          have f1:=y0 KF 1 rfl
          have f2:=y0 KF 2 rfl
          have f3:=y0 KF 3 rfl
          have g1:=zQ KG 1 rfl (hall 1 (by decide))
          have g2:=zQ KG 2 rfl (hall 2 (by decide))
          have g8:=zQ KG 7 rfl (hall 8 (by decide))
          have g9:=zQ KG 8 rfl (hall 9 (by decide))
          simp only [l7,if_true]
          clear hall
          refine .q ?_;refine .rt Tryd.func11 (by rw [Tryd.results11]) (hx:=by simp (disch:=first|exact za|fail) only [go_sem,seval,-List.reduceReplicate,f1,g8,g9,tr'];rfl) (hR := ?_);simp (disch:=first|exact za|fail) only [go_sem,seval,-List.reduceReplicate,f1,g8,g9,tr']
          exact h
       | some q =>
        obtain⟨k,p,r⟩:=q
        have hv:zgd b=((k,p,r),true):=by rw [zgd,hs]
        have hpl:=zbM hs
        rw [hv]
        by_cases k1:k=1#8
        · subst k1
          have lk1:=lk 1#8 _ rfl
          refine .q ?_;refine .text ?_;simp (disch:=first|exact za|fail) only [go_sem,seval,-List.reduceReplicate,E,F,fm,lk1]
          refine .q ?_;refine .text ?_;simp (disch:=first|exact za|fail) only [go_sem,seval,-List.reduceReplicate,E,F,zdf,hft]
          refine .q ?_;refine .ifF (by simp (disch:=first|exact za|fail) only [go_sem,seval,-List.reduceReplicate]) ?_
          refine .skip ?_
          refine .q ?_;refine .text ?_;simp (disch:=first|exact za|fail) only [go_sem,seval,-List.reduceReplicate,E,F,f5]
          refine CallK.ex (hspec p hpl.2.1 1#8 _ rfl) fun y H' hy => ?_
          rcases hy with ⟨hpn,y',T,⟨u,v,huv⟩,rfl,rfl⟩ | ⟨s',γ,hps,rfl,p1,p2,p3,p4,p5,p6,p7⟩
          · have hX : ∀ x b,b < B.n → ((app B T).new x).f b=B.f b:=fun x b hb=>by rw [Hp.f_new_old _ _ _ (by rw [app_n'];omega),zbT hb]
            have hXt : ∀ x,((app B T).new x).trunc H.n=H:=fun x=>by rw [Hp.trunc_new _ _ _ (by rw [app_n'];omega),zbp (by omega)];exact tr
            have hXn : ∀ x,H.n+1 < ((app B T).new x).n:=fun x=>by rw [n_new',app_n'];omega
            have hl:ld s b=(s,b.length,false):=zfA hs hpn
            rw [(hres _ hl).1,(hres _ hl).2.1,(hres _ hl).2.2,if_neg (by exact Bool.false_ne_true),hdi] at h
            have hαn:=Hp.lt fα
            have hβn:=Hp.lt fβ
            simp (disch:=first|exact za|fail) only [go_sem,seval,-List.reduceReplicate,E,F,huv]
            refine .q ?_;refine .text ?_;simp (disch:=first|exact za|fail) only [go_sem,seval,-List.reduceReplicate,E,F]
            refine .q ?_;refine .ifT (by simp (disch:=first|exact za|fail) only [go_sem,seval,-List.reduceReplicate]) ?_
            refine .q ?_;refine zdD (H.n+2) α β s.l s.gone ((hX _ _ (by omega)).trans f5) ((hX _ _ hαn).trans fα) ((hX _ _ hβn).trans fβ) αβ hc1 hc2 fun B' b1 b2 b3 b4 => ?_
            have g1:B'.f H.n=some (.cells [.p (.sl false 1 (pl b8 d)),.p (i64 s0)]):=(b3 _ (by omega) (by omega) (by omega)).trans ((hX _ _ (by omega)).trans f1)
            have g2:B'.f (H.n+1)=some (.cells [.p (.sl true 4 []),.p (.sl true 1 [])]):=(b3 _ (by omega) (by omega) (by omega)).trans ((hX _ _ (by omega)).trans f2)
            have tr':B'.trunc H.n=H:=(b4 _ (by omega) (by omega) (by omega)).trans (hXt _)
            have hbel:Bel H.n B':=yC (by rw [tr'];exact (Hp.trunc_self H).symm) hbel
            have hn':H.n+1 < B'.n:=by rw [b1];exact hXn _
            have hs0:B'.set (H.n+1) (.cells [.p (.sl true 4 []),.p (.sl true 1 [])])=B':=Hp.set_same _ _ _ g2
            (refine .q ?_)
            refine .openInv (fun L env' H'=>kF env' [(1,.ptr H.n 0),(2,.ptr (H.n+1) 0),(5,.ptr (H.n+2) 0),(7,.p (.sl false 1 (pl b8 b)))]∧kI L env' [(0,52,.p (.agg [.sl false 4 (pl zK s.l),.sl false 1 (pl bo s.gone)])),(1,53,.ptr H.n 0),(2,54,.p (.sl false 1 (pl b8 d))),(3,55,.p (i64 d.length)),(4,56,.p (.sl false 1 (pl b8 b))),(5,57,.p (i64 b.length)),(6,58,.p (i64 ((d.length:Int) - (b.length:Int)))),(8,3,.p (i64 ((d.length:Int) - (b.length:Int)))),(9,4,.p (i64 270))]∧(L 7=true → allT L [0])∧H'=(B'.set (H.n+1) (.cells (if L 7 then [.p (.sl false 4 (pl zK s.l)),.p (.sl false 1 (pl bo s.gone))] else [.p (.sl true 4 []),.p (.sl true 1 [])])))) follows (by kernel_rfl) ?_ ?_ ?_
            · exact⟨(by simp (disch:=first|exact za|fail) only [go_sem,seval,-List.reduceReplicate,kFi,kFn,and_self,E,F,g1,g2,b2,b1,hs0]),(fun _ _ h=>by cases h),(fun h=>by cases h),(by first | rfl | (simp only [Bool.false_eq_true,if_false];first | rfl | (simp (disch:=first|exact za|fail) only [go_sem,seval,-List.reduceReplicate,E,F,g1,g2,b2,b1,hs0]<;>rfl)))⟩
            · intro i o L env' H' ho hL hall hI
              obtain⟨KF,KG,m7,rfl⟩:=hI
              rcases i with _ | _ | _ | _ | _ | _ | _ | _ | _ | _ | i
              · cases ho;have n7:=nfT m7 hL;have f2:=y0 KF 2 rfl;refine ze (.p (.agg [.sl false 4 (pl zK s.l),.sl false 1 (pl bo s.gone)])) rfl rfl (by simp (disch:=first|exact za|fail) only [go_sem,seval,-List.reduceReplicate,reduceIte,Bool.false_eq_true,if_false,if_true,f2,n7,hL,g1,g2,b2,b1,hs0]<;>rfl) rfl ?_;exact⟨ya KF,yb KG,ka m7,(by rw [zb (by decide)])⟩
              · cases ho;have f0:=y0 KF 0 rfl;refine ze (.ptr H.n 0) rfl rfl (by simp (disch:=first|exact za|fail) only [go_sem,seval,-List.reduceReplicate,f0,g1,g2,b2,b1,hs0]<;>rfl) rfl ?_;exact⟨ya KF,yb KG,ka m7,(by rw [zb (by decide)])⟩
              · cases ho;have d1:=zQ KG 1 rfl (kL hall 0 rfl rfl);refine ze (.p (.sl false 1 (pl b8 d))) rfl rfl (by simp (disch:=first|exact za|fail) only [go_sem,seval,-List.reduceReplicate,d1,g1,g2,b2,b1,hs0]<;>rfl) rfl ?_;exact⟨ya KF,yb KG,ka m7,(by rw [zb (by decide)])⟩
              · cases ho;have d2:=zQ KG 2 rfl (kL hall 0 rfl rfl);refine ze (.p (i64 d.length)) rfl rfl (by simp (disch:=first|exact za|fail) only [go_sem,seval,-List.reduceReplicate,d2,g1,g2,b2,b1,hs0]<;>rfl) rfl ?_;exact⟨ya KF,yb KG,ka m7,(by rw [zb (by decide)])⟩
              · cases ho;have f3:=y0 KF 3 rfl;refine ze (.p (.sl false 1 (pl b8 b))) rfl rfl (by simp (disch:=first|exact za|fail) only [go_sem,seval,-List.reduceReplicate,f3,g1,g2,b2,b1,hs0]<;>rfl) rfl ?_;exact⟨ya KF,yb KG,ka m7,(by rw [zb (by decide)])⟩
              · cases ho;have d4:=zQ KG 4 rfl (kL hall 0 rfl rfl);refine ze (.p (i64 b.length)) rfl rfl (by simp (disch:=first|exact za|fail) only [go_sem,seval,-List.reduceReplicate,d4,g1,g2,b2,b1,hs0]<;>rfl) rfl ?_;exact⟨ya KF,yb KG,ka m7,(by rw [zb (by decide)])⟩
              · cases ho;have d3:=zQ KG 3 rfl (kL hall 0 rfl rfl);have d5:=zQ KG 5 rfl (kL hall 1 rfl rfl);refine ze (.p (i64 ((d.length:Int) - (b.length:Int)))) rfl rfl (by simp (disch:=first|exact za|fail) only [go_sem,seval,-List.reduceReplicate,d3,d5,g1,g2,b2,b1,hs0]<;>rfl) rfl ?_;exact⟨ya KF,yb KG,ka m7,(by rw [zb (by decide)])⟩
              · cases ho;have h0:=kL hall 0 rfl rfl;have d0:=zQ KG 0 rfl h0;have f1:=y0 KF 1 rfl;refine zaZ rfl rfl (by simp (disch:=first|exact za|fail) only [go_sem,seval,-List.reduceReplicate,reduceIte,Bool.false_eq_true,if_false,if_true,f1,d0,hL,g1,g2,b2,b1,hs0]<;>rfl) rfl ?_;exact⟨KF,kIs KG,(fun _=>kt (zg h0 yi)),(by (have e7:more L 7 7=true:=yJ);(try simp only [e7,hL]);first | done | rfl | (simp only [e7,hL,if_true,if_false,Bool.false_eq_true];first | done | rfl | (simp (disch:=first|exact za|fail) only [go_sem,seval,-List.reduceReplicate,e7,hL,g1,g2,b2,b1,hs0]<;>rfl)))⟩
              · cases ho;have d6:=zQ KG 6 rfl (kL hall 0 rfl rfl);refine ze (.p (i64 ((d.length:Int) - (b.length:Int)))) rfl rfl (by simp (disch:=first|exact za|fail) only [go_sem,seval,-List.reduceReplicate,d6,g1,g2,b2,b1,hs0]<;>rfl) rfl ?_;exact⟨ya KF,yb KG,ka m7,(by rw [zb (by decide)])⟩
              · cases ho;refine ze (.p (i64 270)) rfl rfl (by simp (disch:=first|exact za|fail) only [go_sem,seval,-List.reduceReplicate,g1,g2,b2,b1,hs0]<;>rfl) rfl ?_;exact⟨ya KF,yb KG,ka m7,(by rw [zb (by decide)])⟩
              · simp at ho
            · intro L env' H' hall hI
              obtain⟨KF,KG,_,rfl⟩:=hI
              have l7:=hall 7 (by decide)
              have f0:=y0 KF 0 rfl
              have f1:=y0 KF 1 rfl
              have f2:=y0 KF 2 rfl
              have f3:=y0 KF 3 rfl
              have g1:=zQ KG 1 rfl (hall 1 (by decide))
              have g2:=zQ KG 2 rfl (hall 2 (by decide))
              have g8:=zQ KG 7 rfl (hall 8 (by decide))
              have g9:=zQ KG 8 rfl (hall 9 (by decide))
              simp only [l7,if_true]
              clear hall
              refine .q ?_;refine .rt Tryd.func11 (by rw [Tryd.results11]) (hx:=by simp (disch:=first|exact za|fail) only [go_sem,seval,-List.reduceReplicate,f1,g8,g9,tr'];rfl) (hR := ?_);simp (disch:=first|exact za|fail) only [go_sem,seval,-List.reduceReplicate,f1,g8,g9,tr']
              exact h
          · have hstep:ld s b=ld s' r:=zcy hs hps
            have hok:=zhU hps ok
            have q5:H'.f (H.n+2)=some (.cells [.vr α s.l.length 4,.vr β s.gone.length 1]):=(p5 _ (by omega) (by omega) (by omega)).trans f5
            simp (disch:=first|exact za|fail) only [go_sem,seval,-List.reduceReplicate,E,F]
            refine .q ?_;refine .text ?_;simp (disch:=first|exact za|fail) only [go_sem,seval,-List.reduceReplicate,E,F]
            refine .q ?_;refine .ifF (by simp (disch:=first|exact za|fail) only [go_sem,seval,-List.reduceReplicate]) ?_
            refine .skip ?_
            refine .q ?_;refine .text ?_;simp (disch:=first|exact za|fail) only [go_sem,seval,-List.reduceReplicate,E,F,q5]
            have hmu:r.length < b.length:=by omega
            first | (refine ihE (⟨(H'.new (.cells [.vr α s'.l.length 4,.vr γ s'.gone.length 1])).set (H.n+2) (.cells [.vr α s'.l.length 4,.vr γ s'.gone.length 1]),s',α,γ,r⟩) _ _ ?_ ?_ (zbf hQ0 p1 p2 p3 p4 p5 p6 p7 hok hstep (by omega)) ?_) | (refine .z rfl ?_;refine ihE (⟨(H'.new (.cells [.vr α s'.l.length 4,.vr γ s'.gone.length 1])).set (H.n+2) (.cells [.vr α s'.l.length 4,.vr γ s'.gone.length 1]),s',α,γ,r⟩) _ _ ?_ ?_ (zbf hQ0 p1 p2 p3 p4 p5 p6 p7 hok hstep (by omega)) ?_) | (refine .z rfl ?_;refine .z rfl ?_;refine ihE (⟨(H'.new (.cells [.vr α s'.l.length 4,.vr γ s'.gone.length 1])).set (H.n+2) (.cells [.vr α s'.l.length 4,.vr γ s'.gone.length 1]),s',α,γ,r⟩) _ _ ?_ ?_ (zbf hQ0 p1 p2 p3 p4 p5 p6 p7 hok hstep (by omega)) ?_) | (refine .z rfl ?_;refine .z rfl ?_;refine .z rfl ?_;refine ihE (⟨(H'.new (.cells [.vr α s'.l.length 4,.vr γ s'.gone.length 1])).set (H.n+2) (.cells [.vr α s'.l.length 4,.vr γ s'.gone.length 1]),s',α,γ,r⟩) _ _ ?_ ?_ (zbf hQ0 p1 p2 p3 p4 p5 p6 p7 hok hstep (by omega)) ?_)
            rotate_left 1
            · simp (disch:=first|exact za|fail) only [go_sem,seval,-List.reduceReplicate,E,F]<;>(repeat' (first | rfl | refine And.intro ?_ ?_))
            · first | rfl | (simp (disch:=first|exact za|fail) only [go_sem,seval,-List.reduceReplicate,E,F]<;>(try rfl))
            · exact hmu
        · by_cases k2:k=2#8
          · subst k2
            have lk1:=lk 2#8 _ rfl
            refine .q ?_;refine .text ?_;simp (disch:=first|exact za|fail) only [go_sem,seval,-List.reduceReplicate,E,F,fm,lk1]
            refine .q ?_;refine .text ?_;simp (disch:=first|exact za|fail) only [go_sem,seval,-List.reduceReplicate,E,F,zdf,hft]
            refine .q ?_;refine .ifF (by simp (disch:=first|exact za|fail) only [go_sem,seval,-List.reduceReplicate]) ?_
            refine .skip ?_
            refine .q ?_;refine .text ?_;simp (disch:=first|exact za|fail) only [go_sem,seval,-List.reduceReplicate,E,F,f5]
            refine CallK.ex (hspec p hpl.2.1 2#8 _ rfl) fun y H' hy => ?_
            rcases hy with ⟨hpn,y',T,⟨u,v,huv⟩,rfl,rfl⟩ | ⟨s',γ,hps,rfl,p1,p2,p3,p4,p5,p6,p7⟩
            · have hX : ∀ x b,b < B.n → ((app B T).new x).f b=B.f b:=fun x b hb=>by rw [Hp.f_new_old _ _ _ (by rw [app_n'];omega),zbT hb]
              have hXt : ∀ x,((app B T).new x).trunc H.n=H:=fun x=>by rw [Hp.trunc_new _ _ _ (by rw [app_n'];omega),zbp (by omega)];exact tr
              have hXn : ∀ x,H.n+1 < ((app B T).new x).n:=fun x=>by rw [n_new',app_n'];omega
              have hl:ld s b=(s,b.length,false):=zfA hs hpn
              rw [(hres _ hl).1,(hres _ hl).2.1,(hres _ hl).2.2,if_neg (by exact Bool.false_ne_true),hdi] at h
              have hαn:=Hp.lt fα
              have hβn:=Hp.lt fβ
              simp (disch:=first|exact za|fail) only [go_sem,seval,-List.reduceReplicate,E,F,huv]
              refine .q ?_;refine .text ?_;simp (disch:=first|exact za|fail) only [go_sem,seval,-List.reduceReplicate,E,F]
              refine .q ?_;refine .ifT (by simp (disch:=first|exact za|fail) only [go_sem,seval,-List.reduceReplicate]) ?_
              refine .q ?_;refine zdD (H.n+2) α β s.l s.gone ((hX _ _ (by omega)).trans f5) ((hX _ _ hαn).trans fα) ((hX _ _ hβn).trans fβ) αβ hc1 hc2 fun B' b1 b2 b3 b4 => ?_
              have g1:B'.f H.n=some (.cells [.p (.sl false 1 (pl b8 d)),.p (i64 s0)]):=(b3 _ (by omega) (by omega) (by omega)).trans ((hX _ _ (by omega)).trans f1)
              have g2:B'.f (H.n+1)=some (.cells [.p (.sl true 4 []),.p (.sl true 1 [])]):=(b3 _ (by omega) (by omega) (by omega)).trans ((hX _ _ (by omega)).trans f2)
              have tr':B'.trunc H.n=H:=(b4 _ (by omega) (by omega) (by omega)).trans (hXt _)
              have hbel:Bel H.n B':=yC (by rw [tr'];exact (Hp.trunc_self H).symm) hbel
              have hn':H.n+1 < B'.n:=by rw [b1];exact hXn _
              have hs0:B'.set (H.n+1) (.cells [.p (.sl true 4 []),.p (.sl true 1 [])])=B':=Hp.set_same _ _ _ g2
              (refine .q ?_)
              refine .openInv (fun L env' H'=>kF env' [(1,.ptr H.n 0),(2,.ptr (H.n+1) 0),(5,.ptr (H.n+2) 0),(7,.p (.sl false 1 (pl b8 b)))]∧kI L env' [(0,52,.p (.agg [.sl false 4 (pl zK s.l),.sl false 1 (pl bo s.gone)])),(1,53,.ptr H.n 0),(2,54,.p (.sl false 1 (pl b8 d))),(3,55,.p (i64 d.length)),(4,56,.p (.sl false 1 (pl b8 b))),(5,57,.p (i64 b.length)),(6,58,.p (i64 ((d.length:Int) - (b.length:Int)))),(8,3,.p (i64 ((d.length:Int) - (b.length:Int)))),(9,4,.p (i64 270))]∧(L 7=true → allT L [0])∧H'=(B'.set (H.n+1) (.cells (if L 7 then [.p (.sl false 4 (pl zK s.l)),.p (.sl false 1 (pl bo s.gone))] else [.p (.sl true 4 []),.p (.sl true 1 [])])))) follows (by kernel_rfl) ?_ ?_ ?_
              · exact⟨(by simp (disch:=first|exact za|fail) only [go_sem,seval,-List.reduceReplicate,kFi,kFn,and_self,E,F,g1,g2,b2,b1,hs0]),(fun _ _ h=>by cases h),(fun h=>by cases h),(by first | rfl | (simp only [Bool.false_eq_true,if_false];first | rfl | (simp (disch:=first|exact za|fail) only [go_sem,seval,-List.reduceReplicate,E,F,g1,g2,b2,b1,hs0]<;>rfl)))⟩
              · intro i o L env' H' ho hL hall hI
                obtain⟨KF,KG,m7,rfl⟩:=hI
                rcases i with _ | _ | _ | _ | _ | _ | _ | _ | _ | _ | i
                · cases ho;have n7:=nfT m7 hL;have f2:=y0 KF 2 rfl;refine ze (.p (.agg [.sl false 4 (pl zK s.l),.sl false 1 (pl bo s.gone)])) rfl rfl (by simp (disch:=first|exact za|fail) only [go_sem,seval,-List.reduceReplicate,reduceIte,Bool.false_eq_true,if_false,if_true,f2,n7,hL,g1,g2,b2,b1,hs0]<;>rfl) rfl ?_;exact⟨ya KF,yb KG,ka m7,(by rw [zb (by decide)])⟩
                · cases ho;have f0:=y0 KF 0 rfl;refine ze (.ptr H.n 0) rfl rfl (by simp (disch:=first|exact za|fail) only [go_sem,seval,-List.reduceReplicate,f0,g1,g2,b2,b1,hs0]<;>rfl) rfl ?_;exact⟨ya KF,yb KG,ka m7,(by rw [zb (by decide)])⟩
                · cases ho;have d1:=zQ KG 1 rfl (kL hall 0 rfl rfl);refine ze (.p (.sl false 1 (pl b8 d))) rfl rfl (by simp (disch:=first|exact za|fail) only [go_sem,seval,-List.reduceReplicate,d1,g1,g2,b2,b1,hs0]<;>rfl) rfl ?_;exact⟨ya KF,yb KG,ka m7,(by rw [zb (by decide)])⟩
                · cases ho;have d2:=zQ KG 2 rfl (kL hall 0 rfl rfl);refine ze (.p (i64 d.length)) rfl rfl (by simp (disch:=first|exact za|fail) only [go_sem,seval,-List.reduceReplicate,d2,g1,g2,b2,b1,hs0]<;>rfl) rfl ?_;exact⟨ya KF,yb KG,ka m7,(by rw [zb (by decide)])⟩
                · cases ho;have f3:=y0 KF 3 rfl;refine ze (.p (.sl false 1 (pl b8 b))) rfl rfl (by simp (disch:=first|exact za|fail) only [go_sem,seval,-List.reduceReplicate,f3,g1,g2,b2,b1,hs0]<;>rfl) rfl ?_;exact⟨ya KF,yb KG,ka m7,(by rw [zb (by decide)])⟩
                · cases ho;have d4:=zQ KG 4 rfl (kL hall 0 rfl rfl);refine ze (.p (i64 b.length)) rfl rfl (by simp (disch:=first|exact za|fail) only [go_sem,seval,-List.reduceReplicate,d4,g1,g2,b2,b1,hs0]<;>rfl) rfl ?_;exact⟨ya KF,yb KG,ka m7,(by rw [zb (by decide)])⟩
                · cases ho;have d3:=zQ KG 3 rfl (kL hall 0 rfl rfl);have d5:=zQ KG 5 rfl (kL hall 1 rfl rfl);refine ze (.p (i64 ((d.length:Int) - (b.length:Int)))) rfl rfl (by simp (disch:=first|exact za|fail) only [go_sem,seval,-List.reduceReplicate,d3,d5,g1,g2,b2,b1,hs0]<;>rfl) rfl ?_;exact⟨ya KF,yb KG,ka m7,(by rw [zb (by decide)])⟩
                · cases ho;have h0:=kL hall 0 rfl rfl;have d0:=zQ KG 0 rfl h0;have f1:=y0 KF 1 rfl;refine zaZ rfl rfl (by simp (disch:=first|exact za|fail) only [go_sem,seval,-List.reduceReplicate,reduceIte,Bool.false_eq_true,if_false,if_true,f1,d0,hL,g1,g2,b2,b1,hs0]<;>rfl) rfl ?_;exact⟨KF,kIs KG,(fun _=>kt (zg h0 yi)),(by (have e7:more L 7 7=true:=yJ);(try simp only [e7,hL]);first | done | rfl | (simp only [e7,hL,if_true,if_false,Bool.false_eq_true];first | done | rfl | (simp (disch:=first|exact za|fail) only [go_sem,seval,-List.reduceReplicate,e7,hL,g1,g2,b2,b1,hs0]<;>rfl)))⟩
                · cases ho;have d6:=zQ KG 6 rfl (kL hall 0 rfl rfl);refine ze (.p (i64 ((d.length:Int) - (b.length:Int)))) rfl rfl (by simp (disch:=first|exact za|fail) only [go_sem,seval,-List.reduceReplicate,d6,g1,g2,b2,b1,hs0]<;>rfl) rfl ?_;exact⟨ya KF,yb KG,ka m7,(by rw [zb (by decide)])⟩
                · cases ho;refine ze (.p (i64 270)) rfl rfl (by simp (disch:=first|exact za|fail) only [go_sem,seval,-List.reduceReplicate,g1,g2,b2,b1,hs0]<;>rfl) rfl ?_;exact⟨ya KF,yb KG,ka m7,(by rw [zb (by decide)])⟩
                · simp at ho
              · intro L env' H' hall hI
                obtain⟨KF,KG,_,rfl⟩:=hI
                have l7:=hall 7 (by decide)
                have f0:=y0 KF 0 rfl
                have f1:=y0 KF 1 rfl
                have f2:=y0 KF 2 rfl
                have f3:=y0 KF 3 rfl
                have g1:=zQ KG 1 rfl (hall 1 (by decide))
                have g2:=zQ KG 2 rfl (hall 2 (by decide))
                have g8:=zQ KG 7 rfl (hall 8 (by decide))
                have g9:=zQ KG 8 rfl (hall 9 (by decide))
                simp only [l7,if_true]
                clear hall
                refine .q ?_;refine .rt Tryd.func11 (by rw [Tryd.results11]) (hx:=by simp (disch:=first|exact za|fail) only [go_sem,seval,-List.reduceReplicate,f1,g8,g9,tr'];rfl) (hR := ?_);simp (disch:=first|exact za|fail) only [go_sem,seval,-List.reduceReplicate,f1,g8,g9,tr']
                exact h
            · have hstep:ld s b=ld s' r:=zcy hs hps
              have hok:=zhU hps ok
              have q5:H'.f (H.n+2)=some (.cells [.vr α s.l.length 4,.vr β s.gone.length 1]):=(p5 _ (by omega) (by omega) (by omega)).trans f5
              simp (disch:=first|exact za|fail) only [go_sem,seval,-List.reduceReplicate,E,F]
              refine .q ?_;refine .text ?_;simp (disch:=first|exact za|fail) only [go_sem,seval,-List.reduceReplicate,E,F]
              refine .q ?_;refine .ifF (by simp (disch:=first|exact za|fail) only [go_sem,seval,-List.reduceReplicate]) ?_
              refine .skip ?_
              refine .q ?_;refine .text ?_;simp (disch:=first|exact za|fail) only [go_sem,seval,-List.reduceReplicate,E,F,q5]
              have hmu:r.length < b.length:=by omega
              first | (refine ihE (⟨(H'.new (.cells [.vr α s'.l.length 4,.vr γ s'.gone.length 1])).set (H.n+2) (.cells [.vr α s'.l.length 4,.vr γ s'.gone.length 1]),s',α,γ,r⟩) _ _ ?_ ?_ (zbf hQ0 p1 p2 p3 p4 p5 p6 p7 hok hstep (by omega)) ?_) | (refine .z rfl ?_;refine ihE (⟨(H'.new (.cells [.vr α s'.l.length 4,.vr γ s'.gone.length 1])).set (H.n+2) (.cells [.vr α s'.l.length 4,.vr γ s'.gone.length 1]),s',α,γ,r⟩) _ _ ?_ ?_ (zbf hQ0 p1 p2 p3 p4 p5 p6 p7 hok hstep (by omega)) ?_) | (refine .z rfl ?_;refine .z rfl ?_;refine ihE (⟨(H'.new (.cells [.vr α s'.l.length 4,.vr γ s'.gone.length 1])).set (H.n+2) (.cells [.vr α s'.l.length 4,.vr γ s'.gone.length 1]),s',α,γ,r⟩) _ _ ?_ ?_ (zbf hQ0 p1 p2 p3 p4 p5 p6 p7 hok hstep (by omega)) ?_) | (refine .z rfl ?_;refine .z rfl ?_;refine .z rfl ?_;refine ihE (⟨(H'.new (.cells [.vr α s'.l.length 4,.vr γ s'.gone.length 1])).set (H.n+2) (.cells [.vr α s'.l.length 4,.vr γ s'.gone.length 1]),s',α,γ,r⟩) _ _ ?_ ?_ (zbf hQ0 p1 p2 p3 p4 p5 p6 p7 hok hstep (by omega)) ?_)
              rotate_left 1
              · simp (disch:=first|exact za|fail) only [go_sem,seval,-List.reduceReplicate,E,F]<;>(repeat' (first | rfl | refine And.intro ?_ ?_))
              · first | rfl | (simp (disch:=first|exact za|fail) only [go_sem,seval,-List.reduceReplicate,E,F]<;>(try rfl))
              · exact hmu
          · have ha:zcl k zdX=none:=by
             show (if 1#8=k then _ else if 2#8=k then _ else none)=none
             rw [if_neg (Ne.symm k1),if_neg (Ne.symm k2)]
            have hpn:ym s k p=none:=by
             unfold ym
             rw [if_neg k1,if_neg fun e=>k2 e.1]
            have lk1:=lkn k ha
            have hl:ld s b=(s,b.length,false):=zfA hs hpn
            rw [(hres _ hl).1,(hres _ hl).2.1,(hres _ hl).2.2,if_neg (by exact Bool.false_ne_true),hdi] at h
            refine .q ?_;refine .text ?_;simp (disch:=first|exact za|fail) only [go_sem,seval,-List.reduceReplicate,E,F,fm,lk1]
            refine .q ?_;refine .text ?_;simp (disch:=first|exact za|fail) only [go_sem,seval,-List.reduceReplicate,E,F,zf2,hft]
            refine .q ?_;refine .ifT (by simp (disch:=first|exact za|fail) only [go_sem,seval,-List.reduceReplicate]) ?_
            refine .q ?_;refine zdD (H.n+2) α β s.l s.gone f5 fα fβ αβ hc1 hc2 fun B' b1 b2 b3 b4 => ?_
            have g1:B'.f H.n=some (.cells [.p (.sl false 1 (pl b8 d)),.p (i64 s0)]):=(b3 _ (by omega) (by omega) (by omega)).trans f1
            have g2:B'.f (H.n+1)=some (.cells [.p (.sl true 4 []),.p (.sl true 1 [])]):=(b3 _ (by omega) (by omega) (by omega)).trans f2
            have tr':B'.trunc H.n=H:=(b4 _ (by omega) (by omega) (by omega)).trans tr
            have hbel:Bel H.n B':=yC (by rw [tr'];exact (Hp.trunc_self H).symm) hbel
            have hn':H.n+1 < B'.n:=by rw [b1];exact (by omega)
            have hs0:B'.set (H.n+1) (.cells [.p (.sl true 4 []),.p (.sl true 1 [])])=B':=Hp.set_same _ _ _ g2
            (refine .q ?_)
            refine .openInv (fun L env' H'=>kF env' [(1,.ptr H.n 0),(2,.ptr (H.n+1) 0),(5,.ptr (H.n+2) 0),(7,.p (.sl false 1 (pl b8 b)))]∧kI L env' [(0,36,.p (.agg [.sl false 4 (pl zK s.l),.sl false 1 (pl bo s.gone)])),(1,37,.ptr H.n 0),(2,38,.p (.sl false 1 (pl b8 d))),(3,39,.p (i64 d.length)),(4,40,.p (.sl false 1 (pl b8 b))),(5,41,.p (i64 b.length)),(6,42,.p (i64 ((d.length:Int) - (b.length:Int)))),(8,3,.p (i64 ((d.length:Int) - (b.length:Int)))),(9,4,.p (i64 270))]∧(L 7=true → allT L [0])∧H'=(B'.set (H.n+1) (.cells (if L 7 then [.p (.sl false 4 (pl zK s.l)),.p (.sl false 1 (pl bo s.gone))] else [.p (.sl true 4 []),.p (.sl true 1 [])])))) follows (by kernel_rfl) ?_ ?_ ?_
            · exact⟨(by simp (disch:=first|exact za|fail) only [go_sem,seval,-List.reduceReplicate,kFi,kFn,and_self,E,F,g1,g2,b2,b1,hs0]),(fun _ _ h=>by cases h),(fun h=>by cases h),(by first | rfl | (simp only [Bool.false_eq_true,if_false];first | rfl | (simp (disch:=first|exact za|fail) only [go_sem,seval,-List.reduceReplicate,E,F,g1,g2,b2,b1,hs0]<;>rfl)))⟩
            · intro i o L env' H' ho hL hall hI
              obtain⟨KF,KG,m7,rfl⟩:=hI
              rcases i with _ | _ | _ | _ | _ | _ | _ | _ | _ | _ | i
              · cases ho;have n7:=nfT m7 hL;have f2:=y0 KF 2 rfl;refine ze (.p (.agg [.sl false 4 (pl zK s.l),.sl false 1 (pl bo s.gone)])) rfl rfl (by simp (disch:=first|exact za|fail) only [go_sem,seval,-List.reduceReplicate,reduceIte,Bool.false_eq_true,if_false,if_true,f2,n7,hL,g1,g2,b2,b1,hs0]<;>rfl) rfl ?_;exact⟨ya KF,yb KG,ka m7,(by rw [zb (by decide)])⟩
              · cases ho;have f0:=y0 KF 0 rfl;refine ze (.ptr H.n 0) rfl rfl (by simp (disch:=first|exact za|fail) only [go_sem,seval,-List.reduceReplicate,f0,g1,g2,b2,b1,hs0]<;>rfl) rfl ?_;exact⟨ya KF,yb KG,ka m7,(by rw [zb (by decide)])⟩
              · cases ho;have d1:=zQ KG 1 rfl (kL hall 0 rfl rfl);refine ze (.p (.sl false 1 (pl b8 d))) rfl rfl (by simp (disch:=first|exact za|fail) only [go_sem,seval,-List.reduceReplicate,d1,g1,g2,b2,b1,hs0]<;>rfl) rfl ?_;exact⟨ya KF,yb KG,ka m7,(by rw [zb (by decide)])⟩
              · cases ho;have d2:=zQ KG 2 rfl (kL hall 0 rfl rfl);refine ze (.p (i64 d.length)) rfl rfl (by simp (disch:=first|exact za|fail) only [go_sem,seval,-List.reduceReplicate,d2,g1,g2,b2,b1,hs0]<;>rfl) rfl ?_;exact⟨ya KF,yb KG,ka m7,(by rw [zb (by decide)])⟩
              · cases ho;have f3:=y0 KF 3 rfl;refine ze (.p (.sl false 1 (pl b8 b))) rfl rfl (by simp (disch:=first|exact za|fail) only [go_sem,seval,-List.reduceReplicate,f3,g1,g2,b2,b1,hs0]<;>rfl) rfl ?_;exact⟨ya KF,yb KG,ka m7,(by rw [zb (by decide)])⟩
              · cases ho;have d4:=zQ KG 4 rfl (kL hall 0 rfl rfl);refine ze (.p (i64 b.length)) rfl rfl (by simp (disch:=first|exact za|fail) only [go_sem,seval,-List.reduceReplicate,d4,g1,g2,b2,b1,hs0]<;>rfl) rfl ?_;exact⟨ya KF,yb KG,ka m7,(by rw [zb (by decide)])⟩
              · cases ho;have d3:=zQ KG 3 rfl (kL hall 0 rfl rfl);have d5:=zQ KG 5 rfl (kL hall 1 rfl rfl);refine ze (.p (i64 ((d.length:Int) - (b.length:Int)))) rfl rfl (by simp (disch:=first|exact za|fail) only [go_sem,seval,-List.reduceReplicate,d3,d5,g1,g2,b2,b1,hs0]<;>rfl) rfl ?_;exact⟨ya KF,yb KG,ka m7,(by rw [zb (by decide)])⟩
              · cases ho;have h0:=kL hall 0 rfl rfl;have d0:=zQ KG 0 rfl h0;have f1:=y0 KF 1 rfl;refine zaZ rfl rfl (by simp (disch:=first|exact za|fail) only [go_sem,seval,-List.reduceReplicate,reduceIte,Bool.false_eq_true,if_false,if_true,f1,d0,hL,g1,g2,b2,b1,hs0]<;>rfl) rfl ?_;exact⟨KF,kIs KG,(fun _=>kt (zg h0 yi)),(by (have e7:more L 7 7=true:=yJ);(try simp only [e7,hL]);first | done | rfl | (simp only [e7,hL,if_true,if_false,Bool.false_eq_true];first | done | rfl | (simp (disch:=first|exact za|fail) only [go_sem,seval,-List.reduceReplicate,e7,hL,g1,g2,b2,b1,hs0]<;>rfl)))⟩
              · cases ho;have d6:=zQ KG 6 rfl (kL hall 0 rfl rfl);refine ze (.p (i64 ((d.length:Int) - (b.length:Int)))) rfl rfl (by simp (disch:=first|exact za|fail) only [go_sem,seval,-List.reduceReplicate,d6,g1,g2,b2,b1,hs0]<;>rfl) rfl ?_;exact⟨ya KF,yb KG,ka m7,(by rw [zb (by decide)])⟩
              · cases ho;refine ze (.p (i64 270)) rfl rfl (by simp (disch:=first|exact za|fail) only [go_sem,seval,-List.reduceReplicate,g1,g2,b2,b1,hs0]<;>rfl) rfl ?_;exact⟨ya KF,yb KG,ka m7,(by rw [zb (by decide)])⟩
              · simp at ho
            · intro L env' H' hall hI
              obtain⟨KF,KG,_,rfl⟩:=hI
              have l7:=hall 7 (by decide)
              have f0:=y0 KF 0 rfl
              have f1:=y0 KF 1 rfl
              have f2:=y0 KF 2 rfl
              have f3:=y0 KF 3 rfl
              have g8:=zQ KG 7 rfl (hall 8 (by decide))
              have g9:=zQ KG 8 rfl (hall 9 (by decide))
              simp only [l7,if_true]
              clear hall
              refine .q ?_;refine .rt Tryd.func11 (by rw [Tryd.results11]) (hx:=by simp (disch:=first|exact za|fail) only [go_sem,seval,-List.reduceReplicate,f1,g8,g9,tr'];rfl) (hR := ?_);simp (disch:=first|exact za|fail) only [go_sem,seval,-List.reduceReplicate,f1,g8,g9,tr']
              exact h
end walks
end Go.Proofs.YtdpfkanfahchjaaDoor

/-
  The log of readings: Append and Retract,by the program.
-/
namespace Go.Proofs.YtdpfkanfahchjaaDoor
open Go Go.AL

def zgf (l:List Rdg):Int:=match l.findIdx? (fun r => !vB r) with | some i=>(i:Nat) | none => -1
theorem zm6 {l:List Rdg}:0≤zgf l ↔ ¬ ∀ r∈l,vR r:=by
 unfold zgf
 cases h:l.findIdx? (fun r => !vB r) with
 | none =>
  rw [List.findIdx?_eq_none_iff] at h
  refine⟨fun e=>absurd e (by decide),fun e=>absurd (fun r hr=>zdV.1 ?_) e⟩
  have:=h r hr
  simpa using this
 | some i =>
  refine⟨fun _ e => ?_,fun _=>by show (0:Int)≤(i:Nat);omega⟩
  rw [List.findIdx?_eq_some_iff_getElem] at h
  obtain⟨hi,hp,_⟩:=h
  have:=zdV.2 (e _ (List.getElem_mem hi))
  rw [this] at hp
  cases hp
theorem ztm {l:List Rdg} {i:Nat} (hi:i < l.length) (hb:vB (nth l i)=false) (hlt : ∀ j,j < i → vB (nth l j)=true):zgf l=i:=by
 have:l.findIdx? (fun r => !vB r)=some i:=by
  rw [List.findIdx?_eq_some_iff_getElem]
  refine⟨hi,?_,fun j hj => ?_⟩
  · rw [←show nth l i=l[i] by simp [nth,hi],hb];rfl
  · rw [←show nth l j=l[j]'(by omega) by simp [nth,show j < l.length by omega],hlt j hj];simp
 unfold zgf
 rw [this]
theorem ztn {l:List Rdg} (h : ∀ j,j < l.length → vB (nth l j)=true):zgf l = -1:=by
 have:l.findIdx? (fun r => !vB r)=none:=by
  rw [List.findIdx?_eq_none_iff]
  intro x hx
  obtain⟨j,hj,rfl⟩:=List.mem_iff_getElem.1 hx
  have:=h j hj
  rw [show nth l j=l[j] by simp [nth,hj]] at this
  rw [this];rfl
 unfold zgf
 rw [this]
section walks
variable {G:Globs}
theorem zoV (r:Rdg) (H:Hp) (R:AV → Hp → Prop) (h:R (.p (bo (!vB r))) H):ACall Tryd.prog G 41 [.p (zK r)] H R:=by
 have hac:zf (.p (zK r))=some [.p (i64 r.who),.p (i64 r.whn),.p (i64 r.knd),.p (i64 r.val)]:=rfl
 refine ACall.of_run (raw:=[]) Tryd.func41 rfl Tryd.ntmps41 (by simp) fun hbel => ?_
 refine .q ?_;refine .text ?_;simp (disch:=first|exact za|fail) only [go_sem,seval,-List.reduceReplicate,hac]
 refine .q ?_;refine .text ?_;simp (disch:=first|exact za|fail) only [go_sem,seval,-List.reduceReplicate]
 refine CallK.of (fun R h=>zlV r _ R h) ?_;simp (disch:=first|exact za|fail) only [go_sem,seval,-List.reduceReplicate]
 refine .q ?_;refine .rt Tryd.func41 (by rw [Tryd.results41]) (hR := ?_);simp (disch:=first|exact za|fail) only [go_sem,seval,-List.reduceReplicate]
 exact h
theorem zfM (l:List Rdg) (hl:l.length≤100000) (H:Hp) (R:AV → Hp → Prop) (h:R (.p (i64 (zgf l))) H):ACall Tryd.prog G 69 [.p (.sl false 4 (pl zK l)),.clo 41 [] []] H R:=by
 refine ACall.of_run (raw:=[]) Tryd.func69 rfl Tryd.ntmps69 (by simp) fun hbel => ?_
 refine .q ?_;refine .text ?_;simp (disch:=first|exact za|fail) only [go_sem,seval,-List.reduceReplicate]
 refine .q ?_;refine .text ?_;simp (disch:=first|exact za|fail) only [go_sem,seval,-List.reduceReplicate]
 refine .q ?_;refine .loopE [0,1,7] (fun i=>[(8,.p (i64 i))]) (fun i=>[]) (fun i => ∀ j,j < i → vB (nth l j)=true) (0) (l.length) (by omega) ?_ (by first | rfl | (simp (disch:=first|exact za|fail) only [go_sem,seval,-List.reduceReplicate]<;>rfl)) ?_ ?_ ?_
 · simp (disch:=first|exact za|fail) only [go_sem,seval,-List.reduceReplicate]<;>(repeat' (first | rfl | refine And.intro ?_ ?_))
 rotate_left 1
 intro env E hQ;simp (disch:=first|exact za|fail) only [go_sem,seval,-List.reduceReplicate] at E
 rotate_left 1
 intro i env hi0 hi E hQ ihE;simp (disch:=first|exact za|fail) only [go_sem,seval,-List.reduceReplicate] at E
 rotate_left 1
 · exact fun j hj=>absurd hj (by omega)
 · rw [ztn hQ] at h
   refine .q ?_;refine .text ?_;simp (disch:=first|exact za|fail) only [go_sem,seval,-List.reduceReplicate,E]
   refine .q ?_;refine .ifF (by simp (disch:=first|exact za|fail) only [go_sem,seval,-List.reduceReplicate]) ?_
   refine .q ?_;refine .text ?_;simp (disch:=first|exact za|fail) only [go_sem,seval,-List.reduceReplicate,E]
   refine .q ?_;refine .rt Tryd.func69 (by rw [Tryd.results69]) (hx:=by simp (disch:=first|exact za|fail) only [go_sem,seval,-List.reduceReplicate,E];rfl) (hR := ?_);simp (disch:=first|exact za|fail) only [go_sem,seval,-List.reduceReplicate,E]
   exact h
 · refine .q ?_;refine .text ?_;simp (disch:=first|exact za|fail) only [go_sem,seval,-List.reduceReplicate,E]
   refine .q ?_;refine .ifT (by simp (disch:=first|exact za|fail) only [go_sem,seval,-List.reduceReplicate]) ?_
   refine .q ?_;refine .text ?_;simp (disch:=first|exact za|fail) only [go_sem,seval,-List.reduceReplicate,E]
   refine .q ?_;refine .text ?_;simp (disch:=first|exact za|fail) only [go_sem,seval,-List.reduceReplicate,E]
   refine CallK.of (fun R h=>zoV (nth l i) _ R h) ?_;simp (disch:=first|exact za|fail) only [go_sem,seval,-List.reduceReplicate,E]
   cases hv:vB (nth l i) with
   | true =>
    refine .q ?_;refine .ifF (by simp (disch:=first|exact za|fail) only [go_sem,seval,-List.reduceReplicate,hv]) ?_
    refine .skip ?_
    refine .q ?_;refine .text ?_;simp (disch:=first|exact za|fail) only [go_sem,seval,-List.reduceReplicate,E]
    first | (refine ihE _ _ ?_ (zq hQ hv) ?_) | (refine .z rfl ?_;refine ihE _ _ ?_ (zq hQ hv) ?_) | (refine .z rfl ?_;refine .z rfl ?_;refine ihE _ _ ?_ (zq hQ hv) ?_) | (refine .z rfl ?_;refine .z rfl ?_;refine .z rfl ?_;refine ihE _ _ ?_ (zq hQ hv) ?_)
    · simp (disch:=first|exact za|fail) only [go_sem,seval,-List.reduceReplicate,E]<;>(repeat' (first | rfl | refine And.intro ?_ ?_))
    · first | rfl | (simp (disch:=first|exact za|fail) only [go_sem,seval,-List.reduceReplicate,E]<;>(try rfl))
   | false =>
    rw [ztm hi hv hQ] at h
    refine .q ?_;refine .ifT (by simp (disch:=first|exact za|fail) only [go_sem,seval,-List.reduceReplicate,hv]) ?_
    refine .q ?_;refine .text ?_;simp (disch:=first|exact za|fail) only [go_sem,seval,-List.reduceReplicate,E]
    refine .q ?_;refine .rt Tryd.func69 (by rw [Tryd.results69]) (hx:=by simp (disch:=first|exact za|fail) only [go_sem,seval,-List.reduceReplicate,E];rfl) (hR := ?_);simp (disch:=first|exact za|fail) only [go_sem,seval,-List.reduceReplicate,E]
    exact h
theorem zdE (l:List Rdg) (hl:l.length≤100000) (H:Hp) (R:AV → Hp → Prop) (h:R (.p (bo (decide (0≤zgf l)))) H):ACall Tryd.prog G 43 [.p (.sl false 4 (pl zK l)),.clo 41 [] []] H R:=by
 refine ACall.of_run (raw:=[]) Tryd.func43 rfl Tryd.ntmps43 (by simp) fun hbel => ?_
 refine .q ?_;refine .text ?_;simp (disch:=first|exact za|fail) only [go_sem,seval,-List.reduceReplicate]
 refine .q ?_;refine .text ?_;simp (disch:=first|exact za|fail) only [go_sem,seval,-List.reduceReplicate]
 refine CallK.of (fun R h=>zfM l hl _ R h) ?_;simp (disch:=first|exact za|fail) only [go_sem,seval,-List.reduceReplicate]
 refine .q ?_;refine .rt Tryd.func43 (by rw [Tryd.results43]) (hR := ?_);simp (disch:=first|exact za|fail) only [go_sem,seval,-List.reduceReplicate]
 exact h
set_option maxHeartbeats 4000000 in
set_option maxRecDepth 20000 in
theorem zah (hG0:G 0=some (8,[.agg (pl zG inits)])) (hG1:G 1=some (64,[.agg (pl zG ks)])) (d:By) (s0:Int) (l:List Rdg) (hd:d.length≤1000000000) (hl:l.length≤100000) (H:Hp) (R:AV → Hp → Prop)
 (h:R (.tup [.p (sto (y7 (d,s0) l).1.1 (y7 (d,s0) l).1.2),.p (i64 (y7 (d,s0) l).2)]) H):ACall Tryd.prog G 13 [.p (sto d s0),.p (.sl false 4 (pl zK l))] H R:=by
 unfold y7 at h
 have hok:=zr2 (d:=d)
 have hlN:=zfK (d:=d)
 refine ACall.of_run (raw:=[]) Tryd.func13 rfl Tryd.ntmps13 (by simp) fun hbel => ?_
 refine .q ?_;refine .text ?_;simp (disch:=first|exact za|fail) only [go_sem,seval,-List.reduceReplicate]
 refine .q ?_;refine .text ?_;simp (disch:=first|exact za|fail) only [go_sem,seval,-List.reduceReplicate]
 by_cases c1:l.length < 1
 · have d1:decide ((l.length:Int) < 1)=true:=decide_eq_true (by omega)
   rw [if_pos (.inl c1)] at h
   refine .q ?_;refine .text ?_;simp (disch:=first|exact za|fail) only [go_sem,seval,-List.reduceReplicate,d1]
   refine .q ?_;refine .ifT (by simp (disch:=first|exact za|fail) only [go_sem,seval,-List.reduceReplicate]) ?_
   refine .q ?_;refine .text ?_;simp (disch:=first|exact za|fail) only [go_sem,seval,-List.reduceReplicate]
   refine .q ?_;refine .rt Tryd.func13 (by rw [Tryd.results13]) (hR := ?_);simp (disch:=first|exact za|fail) only [go_sem,seval,-List.reduceReplicate]
   exact h
 have d1:decide ((l.length:Int) < 1)=false:=decide_eq_false (by omega)
 by_cases c2:4096 < l.length
 · have d2:decide ((4096:Int) < (l.length:Int))=true:=decide_eq_true (by omega)
   rw [if_pos (.inr (.inl c2))] at h
   refine .q ?_;refine .text ?_;simp (disch:=first|exact za|fail) only [go_sem,seval,-List.reduceReplicate,d1,d2]
   refine .q ?_;refine .ifT (by simp (disch:=first|exact za|fail) only [go_sem,seval,-List.reduceReplicate]) ?_
   refine .q ?_;refine .text ?_;simp (disch:=first|exact za|fail) only [go_sem,seval,-List.reduceReplicate]
   refine .q ?_;refine .rt Tryd.func13 (by rw [Tryd.results13]) (hR := ?_);simp (disch:=first|exact za|fail) only [go_sem,seval,-List.reduceReplicate]
   exact h
 have d2:decide ((4096:Int) < (l.length:Int))=false:=decide_eq_false (by omega)
 refine .q ?_;refine .text ?_;simp (disch:=first|exact za|fail) only [go_sem,seval,-List.reduceReplicate,d1,d2]
 refine CallK.of (fun R h=>zdE l hl _ R h) ?_;simp (disch:=first|exact za|fail) only [go_sem,seval,-List.reduceReplicate,d1,d2]
 by_cases c3 : ∀ r∈l,vR r
 rotate_left
 · have d3:decide (0≤zgf l)=true:=decide_eq_true (zm6.2 c3)
   rw [if_pos (.inr (.inr c3))] at h
   refine .q ?_;refine .ifT (by simp (disch:=first|exact za|fail) only [go_sem,seval,-List.reduceReplicate,d3]) ?_
   refine .q ?_;refine .text ?_;simp (disch:=first|exact za|fail) only [go_sem,seval,-List.reduceReplicate]
   refine .q ?_;refine .rt Tryd.func13 (by rw [Tryd.results13]) (hR := ?_);simp (disch:=first|exact za|fail) only [go_sem,seval,-List.reduceReplicate]
   exact h
 have d3:decide (0≤zgf l)=false:=decide_eq_false fun e=>zm6.1 e c3
 have hne : ¬ (l.length < 1 ∨ 4096 < l.length ∨ ¬ ∀ r∈l,vR r):=fun e=>by
  rcases e with e | e | e
  · exact c1 e
  · exact c2 e
  · exact e c3
 rw [if_neg hne] at h
 refine .q ?_;refine .ifF (by simp (disch:=first|exact za|fail) only [go_sem,seval,-List.reduceReplicate,d3]) ?_
 refine .skip ?_
 refine .q ?_;refine .text ?_;simp (disch:=first|exact za|fail) only [go_sem,seval,-List.reduceReplicate]
 refine CallK.of (fun R h=>yD hG0 hG1 d s0 (by omega) _ R h) ?_;simp (disch:=first|exact za|fail) only [go_sem,seval,-List.reduceReplicate]
 obtain⟨S,hS⟩ : ∃ S,S=lS d:=⟨_,rfl⟩
 obtain⟨N,hN⟩ : ∃ N,N=lN d:=⟨_,rfl⟩
 dsimp only at h
 rw [←hS] at h hok ⊢
 rw [←hN] at h hlN ⊢
 have hSl:=hok.2
 by_cases c4:65536 < S.l.length+l.length
 · have d4:decide ((65536:Int) < (S.l.length:Int)+(l.length:Int))=true:=decide_eq_true (by omega)
   rw [if_pos c4] at h
   refine .q ?_;refine .text ?_;simp (disch:=first|exact za|fail) only [go_sem,seval,-List.reduceReplicate,d4]
   refine .q ?_;refine .ifT (by simp (disch:=first|exact za|fail) only [go_sem,seval,-List.reduceReplicate]) ?_
   refine .q ?_;refine .text ?_;simp (disch:=first|exact za|fail) only [go_sem,seval,-List.reduceReplicate]
   refine .q ?_;refine .rt Tryd.func13 (by rw [Tryd.results13]) (hR := ?_);simp (disch:=first|exact za|fail) only [go_sem,seval,-List.reduceReplicate]
   exact h
 have d4:decide ((65536:Int) < (S.l.length:Int)+(l.length:Int))=false:=decide_eq_false (by omega)
 rw [if_neg c4] at h
 refine .q ?_;refine .text ?_;simp (disch:=first|exact za|fail) only [go_sem,seval,-List.reduceReplicate,d4]
 refine .q ?_;refine .ifF (by simp (disch:=first|exact za|fail) only [go_sem,seval,-List.reduceReplicate]) ?_
 refine .skip ?_
 have hpc:=zdz (l:=l)
 obtain⟨p,hp⟩ : ∃ p,p=pcl l:=⟨_,rfl⟩
 rw [←hp] at h hpc
 have hrl:(y9 1#8 p).length=13+p.length:=yA
 obtain⟨q,hq⟩ : ∃ q,q=y9 1#8 p:=⟨_,rfl⟩
 rw [←hq] at h hrl
 refine .q ?_;refine .open [7] follows (by kernel_rfl) ?_;simp (disch:=first|exact za|fail) only [go_sem,seval,-List.reduceReplicate]
 refine CallD.still (fun R h=>zgK l (by omega) _ R h) ?_;simp (disch:=first|exact za|fail) only [go_sem,seval,-List.reduceReplicate]
 have hsg:([i64 l.length,.sl false 1 (pl (sle 1 b8) (pkc l 4))]:List PV)=[i64 l.length,.sl false 1 (pl (sle 1 b8) (pkc l 4))]:=rfl
 have hpk:(pkc l 4).length=4:=zcz
 have hpl : ∀ c∈pkc l 4,c.length≤1000000:=fun c hc=>by have:=zl9 c hc;omega
 have hpay : ∀ (B:Hp) (R:AV → Hp → Prop),R (.p (.sl false 1 (pl b8 p))) B → ACall Tryd.prog G 46 [.p (.agg [i64 l.length,.sl false 1 (pl (sle 1 b8) (pkc l 4))])] B R:=fun B R h=>zhR l.length (pkc l 4) (by omega) hpl B R (by rw [hp] at h;exact h)
 have hrec : ∀ (B:Hp) (R:AV → Hp → Prop),R (.p (.sl false 1 (pl b8 q))) B → ACall Tryd.prog G 45 [.p (b8 1#8),.p (.sl false 1 (pl b8 p))] B R:=fun B R h=>zed hG0 hG1 1#8 p (by omega) B R (by rw [hq] at h;exact h)
 refine CallD.still (fun R h=>hpay _ R h) ?_;simp (disch:=first|exact za|fail) only [go_sem,seval,-List.reduceReplicate]
 refine CallD.still (fun R h=>hrec _ R h) ?_;simp (disch:=first|exact za|fail) only [go_sem,seval,-List.reduceReplicate]
 refine CallD.still (fun R h=>zdy d q s0 N hlN (by omega) (by omega) _ R h) ?_;simp (disch:=first|exact za|fail) only [go_sem,seval,-List.reduceReplicate]
 refine .q ?_;refine .rt Tryd.func13 (by rw [Tryd.results13]) (hR := ?_);simp (disch:=first|exact za|fail) only [go_sem,seval,-List.reduceReplicate]
 exact h
set_option maxHeartbeats 2000000 in
theorem zhY (x n:Nat) (hn:n≤8) (H:Hp) (R:AV → Hp → Prop) (h:R (.p (.sl false 1 (pl b8 (yj n x)))) H) :
 ACall Tryd.prog G 53 [.p (.s (.slice none 0 0)),.p (i64 x),.p (i64 n)] H R:=by
 refine ACall.of_run (raw:=[]) Tryd.func53 rfl Tryd.ntmps53 (by simp) fun hbel => ?_
 have hx0:x / 256 ^ 0=x:=by simp
 have hn0:(n:Int) - ((0:Nat):Int)=n:=by omega
 refine .nilS 0 1 rfl ?_
 refine .q ?_;refine .text ?_;simp (disch:=first|exact za|fail) only [go_sem,seval,-List.reduceReplicate]
 refine .q ?_;refine .own 0 (by simp (disch:=first|exact za|fail) only [go_sem,seval,-List.reduceReplicate];rfl) ?_
 refine .q ?_;refine .loopH [] (fun i=>[(0,.sl H.n i 1 (pl b8 (yj i x))),(1,.p (i64 (x / 256 ^ i:Nat))),(2,.p (i64 ((n:Int) - (i:Int))))]) (fun i=>H.new (.tail i)) (fun i=>True) (0) (n) (by omega) ?_ (by first | rfl | (simp (disch:=first|exact za|fail) only [go_sem,seval,-List.reduceReplicate,yj,hx0,hn0]<;>rfl)) ?_ ?_ ?_
 · simp (disch:=first|exact za|fail) only [go_sem,seval,-List.reduceReplicate,yj,hx0,hn0]<;>(repeat' (first | rfl | refine And.intro ?_ ?_))
 · exact trivial
 intro env E hQ;simp (disch:=first|exact za|fail) only [go_sem,seval,-List.reduceReplicate,yj,hx0,hn0] at E
 rotate_left 1
 intro i env hi0 hi E hQ ihE;simp (disch:=first|exact za|fail) only [go_sem,seval,-List.reduceReplicate,yj,hx0,hn0] at E
 rotate_left 1
 · have hd:decide ((0:Int) < (n:Int) - (n:Int))=false:=decide_eq_false (by omega)
   refine .q ?_;refine .text ?_;simp (disch:=first|exact za|fail) only [go_sem,seval,-List.reduceReplicate,E,hd]
   refine .q ?_;refine .ifF (by simp (disch:=first|exact za|fail) only [go_sem,seval,-List.reduceReplicate,Int.sub_self]) ?_
   refine .q ?_;refine .text ?_;simp (disch:=first|exact za|fail) only [go_sem,seval,-List.reduceReplicate,E]
   refine .q ?_;refine .rt Tryd.func53 (by rw [Tryd.results53]) (hx:=by simp (disch:=first|exact za|fail) only [go_sem,seval,-List.reduceReplicate,E];rfl) (hR := ?_);simp (disch:=first|exact za|fail) only [go_sem,seval,-List.reduceReplicate,E]
   exact h
 · have hl:(yj i x).length=i:=zv
   have hs:yj i x++[BitVec.ofNat 8 (x / 256 ^ i)]=yj (i+1) x:=leN_snoc.symm
   have hd:decide ((0:Int) < (n:Int) - (i:Int))=true:=decide_eq_true (by omega)
   have hx:((x / 256 ^ i:Nat):Int) / 256=((x / 256 ^ (i+1):Nat):Int):=by
    rw [show (256:Int)=((256:Nat):Int) from rfl,←Int.natCast_ediv,Nat.div_div_eq_div_mul,Nat.pow_succ]
   have hn1:(n:Int) - (i:Int) - 1=(n:Int) - ((i:Int)+1):=by omega
   refine .q ?_;refine .text ?_;simp (disch:=first|exact za|fail) only [go_sem,seval,-List.reduceReplicate,E,hd]
   refine .q ?_;refine .ifT (by simp (disch:=first|exact za|fail) only [go_sem,seval,-List.reduceReplicate,hd]) ?_
   refine .q ?_;refine .text ?_;simp (disch:=first|exact za|fail) only [go_sem,seval,-List.reduceReplicate,E,hl,BitVec.ofInt_natCast,zcA,zcB]
   refine .q ?_;refine .text ?_;simp (disch:=first|exact za|fail) only [go_sem,seval,-List.reduceReplicate,E,zhK,hx]
   refine .q ?_;refine .text ?_;simp (disch:=first|exact za|fail) only [go_sem,seval,-List.reduceReplicate,E,hn1]
   first | (refine ihE _ _ ?_ trivial ?_) | (refine .z rfl ?_;refine ihE _ _ ?_ trivial ?_) | (refine .z rfl ?_;refine .z rfl ?_;refine ihE _ _ ?_ trivial ?_) | (refine .z rfl ?_;refine .z rfl ?_;refine .z rfl ?_;refine ihE _ _ ?_ trivial ?_)
   · simp (disch:=first|exact za|fail) only [go_sem,seval,-List.reduceReplicate,E,hs,zhK,hx,hn1,List.append_assoc,Nat.add_assoc]<;>(repeat' (first | rfl | refine And.intro ?_ ?_))
   · first | rfl | (simp (disch:=first|exact za|fail) only [go_sem,seval,-List.reduceReplicate,E,hs,zhK,hx,hn1,List.append_assoc,Nat.add_assoc]<;>(try rfl))
theorem zj0 (g:List Bool) (hg:0 < g.length) (hg2:g.length≤100000) (H:Hp) (R:AV → Hp → Prop) (h:R (.vr H.n g.length 1) (H.new (.vec (cl bo g)))) :
 ACall Tryd.prog G 72 [.p (.sl false 1 (pl bo g))] H R:=by
 refine ACall.of_run (raw:=[]) Tryd.func72 rfl Tryd.ntmps72 (by simp) fun hbel => ?_
 refine .q ?_;refine .text ?_;simp (disch:=first|exact za|fail) only [go_sem,seval,-List.reduceReplicate]
 refine .q ?_;refine .region ?_
 refine .one rfl (by simp (disch:=first|exact za|fail) only [go_sem,seval,-List.reduceReplicate]<;>rfl) rfl ?_
 refine .isNil (e:=4) zgQ (xs:=pl bo g) (fl:=false) (sz:=1) (by simp (disch:=first|exact za|fail) only [go_sem,seval,-List.reduceReplicate]) rfl fun b hb => .nil ?_
 cases b with
 | true =>
  have:=hb rfl
  rw [show g=[] from List.map_eq_nil_iff.1 this] at hg
  exact absurd hg (by decide)
 | false =>
  refine .q ?_;refine .ifF (by simp (disch:=first|exact za|fail) only [go_sem,seval,-List.reduceReplicate]) ?_
  refine .skip ?_
  refine .q ?_;refine .region ?_
  refine .buildVec (sz:=1) (cs:=[]) (by simp (disch:=first|exact za|fail) only [go_sem,seval,-List.reduceReplicate,zN,yh]<;>rfl) (by rfl) ?_
  refine .run ?_
  simp (disch:=first|exact za|fail) only [go_sem,seval,-List.reduceReplicate,flat_bo']
  refine .q ?_;refine .retKeep Tryd.func72 (by rw [Tryd.results72]) (by simp (disch:=first|exact za|fail) only [go_sem,seval,-List.reduceReplicate];rfl) ?_;(try simp (disch:=first|exact za|fail) only [go_sem,seval,-List.reduceReplicate])
  exact h
theorem zgg (s:Strm) (i:Int) (hs:s.l.length≤65536) (hg:s.gone.length=s.l.length) (H:Hp) (R:AV → Hp → Prop) (h:R (.tup [.p (stm (yc s i).1),.p (i64 (yc s i).2)]) H) :
 ACall Tryd.prog G 52 [.p (stm s),.p (i64 i)] H R:=by
 unfold yc at h
 refine ACall.of_run (raw:=[]) Tryd.func52 rfl Tryd.ntmps52 (by simp) fun hbel => ?_
 refine .q ?_;refine .text ?_;simp (disch:=first|exact za|fail) only [go_sem,seval,-List.reduceReplicate]
 by_cases c1:i < 0
 · have d1:decide (i < 0)=true:=decide_eq_true c1
   rw [if_pos (.inl c1)] at h
   refine .q ?_;refine .text ?_;simp (disch:=first|exact za|fail) only [go_sem,seval,-List.reduceReplicate,d1]
   refine .q ?_;refine .ifT (by simp (disch:=first|exact za|fail) only [go_sem,seval,-List.reduceReplicate]) ?_
   refine .q ?_;refine .text ?_;simp (disch:=first|exact za|fail) only [go_sem,seval,-List.reduceReplicate]
   refine .q ?_;refine .rt Tryd.func52 (by rw [Tryd.results52]) (hR := ?_);simp (disch:=first|exact za|fail) only [go_sem,seval,-List.reduceReplicate]
   exact h
 · have d1:decide (i < 0)=false:=decide_eq_false c1
   by_cases c2:(s.l.length:Int)≤i
   · have d2:decide ((s.l.length:Int)≤i)=true:=decide_eq_true c2
     rw [if_pos (.inr c2)] at h
     refine .q ?_;refine .text ?_;simp (disch:=first|exact za|fail) only [go_sem,seval,-List.reduceReplicate,d1,d2]
     refine .q ?_;refine .ifT (by simp (disch:=first|exact za|fail) only [go_sem,seval,-List.reduceReplicate]) ?_
     refine .q ?_;refine .text ?_;simp (disch:=first|exact za|fail) only [go_sem,seval,-List.reduceReplicate]
     refine .q ?_;refine .rt Tryd.func52 (by rw [Tryd.results52]) (hR := ?_);simp (disch:=first|exact za|fail) only [go_sem,seval,-List.reduceReplicate]
     exact h
   · have d2:decide ((s.l.length:Int)≤i)=false:=decide_eq_false c2
     rw [if_neg (by omega)] at h
     obtain⟨k,rfl⟩ : ∃ k:Nat,i=k:=⟨i.toNat,by omega⟩
     rw [Int.toNat_natCast] at h
     have hk:k < s.gone.length:=by omega
     refine .q ?_;refine .text ?_;simp (disch:=first|exact za|fail) only [go_sem,seval,-List.reduceReplicate,d1,d2]
     refine .q ?_;refine .ifF (by simp (disch:=first|exact za|fail) only [go_sem,seval,-List.reduceReplicate]) ?_
     refine .q ?_;refine .text ?_;simp (disch:=first|exact za|fail) only [go_sem,seval,-List.reduceReplicate]
     cases hn:nth s.gone k with
     | true =>
      rw [hn,if_pos rfl] at h
      refine .q ?_;refine .ifT (by simp (disch:=first|exact za|fail) only [go_sem,seval,-List.reduceReplicate,hn]) ?_
      refine .q ?_;refine .text ?_;simp (disch:=first|exact za|fail) only [go_sem,seval,-List.reduceReplicate]
      refine .q ?_;refine .rt Tryd.func52 (by rw [Tryd.results52]) (hR := ?_);simp (disch:=first|exact za|fail) only [go_sem,seval,-List.reduceReplicate]
      exact h
     | false =>
      rw [hn,if_neg (by decide)] at h
      refine .q ?_;refine .ifF (by simp (disch:=first|exact za|fail) only [go_sem,seval,-List.reduceReplicate,hn]) ?_
      refine .skip ?_
      refine .q ?_;refine .text ?_;simp (disch:=first|exact za|fail) only [go_sem,seval,-List.reduceReplicate]
      refine CallK.of (fun R h=>zj0 s.gone (by omega) (by omega) _ R h) ?_;simp (disch:=first|exact za|fail) only [go_sem,seval,-List.reduceReplicate]
      refine .q ?_;refine .text ?_;simp (disch:=first|exact za|fail) only [go_sem,seval,-List.reduceReplicate]
      refine .q ?_;refine .frzV 6 (by simp (disch:=first|exact za|fail) only [go_sem,seval,-List.reduceReplicate];rfl) (by simp (disch:=first|exact za|fail) only [go_sem,seval,-List.reduceReplicate]<;>rfl) (xs:=pl bo (s.gone.set k true)) (by rw [flat_bo',zi7]) (by rw [zat,List.length_set]) zhL ?_;(try simp (disch:=first|exact za|fail) only [go_sem,seval,-List.reduceReplicate])
      refine .q ?_;refine .text ?_;simp (disch:=first|exact za|fail) only [go_sem,seval,-List.reduceReplicate,zte]
      refine .q ?_;refine .rt Tryd.func52 (by rw [Tryd.results52]) (hR := ?_);simp (disch:=first|exact za|fail) only [go_sem,seval,-List.reduceReplicate]
      exact h
set_option maxHeartbeats 4000000 in
set_option maxRecDepth 20000 in
theorem yy (hG0:G 0=some (8,[.agg (pl zG inits)])) (hG1:G 1=some (64,[.agg (pl zG ks)])) (d:By) (s0 i:Int) (hd:d.length≤1000000000) (H:Hp) (R:AV → Hp → Prop)
 (h:R (.tup [.p (sto (rtV (d,s0) i).1.1 (rtV (d,s0) i).1.2),.p (i64 (rtV (d,s0) i).2)]) H):ACall Tryd.prog G 15 [.p (sto d s0),.p (i64 i)] H R:=by
 unfold rtV at h
 have hok:=zr2 (d:=d)
 have hlN:=zfK (d:=d)
 refine ACall.of_run (raw:=[]) Tryd.func15 rfl Tryd.ntmps15 (by simp) fun hbel => ?_
 refine .q ?_;refine .text ?_;simp (disch:=first|exact za|fail) only [go_sem,seval,-List.reduceReplicate]
 refine .q ?_;refine .text ?_;simp (disch:=first|exact za|fail) only [go_sem,seval,-List.reduceReplicate]
 refine CallK.of (fun R h=>yD hG0 hG1 d s0 (by omega) _ R h) ?_;simp (disch:=first|exact za|fail) only [go_sem,seval,-List.reduceReplicate]
 obtain⟨S,hS⟩ : ∃ S,S=lS d:=⟨_,rfl⟩
 obtain⟨N,hN⟩ : ∃ N,N=lN d:=⟨_,rfl⟩
 dsimp only at h
 rw [←hS] at h hok ⊢
 rw [←hN] at h hlN ⊢
 have hSl:=hok.2
 obtain⟨V,hV⟩ : ∃ V,V=yc S i:=⟨_,rfl⟩
 have hret : ∀ (B:Hp) (R:AV → Hp → Prop),R (.tup [.p (stm V.1),.p (i64 V.2)]) B → ACall Tryd.prog G 52 [.p (stm S),.p (i64 i)] B R:=fun B R h=>zgg S i hok.2 hok.1 B R (by rw [hV] at h;exact h)
 rw [←hV] at h
 refine .q ?_;refine .text ?_;simp (disch:=first|exact za|fail) only [go_sem,seval,-List.reduceReplicate]
 refine CallK.of (fun R h=>hret _ R h) ?_;simp (disch:=first|exact za|fail) only [go_sem,seval,-List.reduceReplicate]
 by_cases c1:V.2=0
 rotate_left
 · have d1:(V.2 != 0)=true:=by simpa using c1
   rw [if_pos c1] at h
   refine .q ?_;refine .text ?_;simp (disch:=first|exact za|fail) only [go_sem,seval,-List.reduceReplicate,d1]
   refine .q ?_;refine .ifT (by simp (disch:=first|exact za|fail) only [go_sem,seval,-List.reduceReplicate]) ?_
   refine .q ?_;refine .text ?_;simp (disch:=first|exact za|fail) only [go_sem,seval,-List.reduceReplicate]
   refine .q ?_;refine .rt Tryd.func15 (by rw [Tryd.results15]) (hR := ?_);simp (disch:=first|exact za|fail) only [go_sem,seval,-List.reduceReplicate]
   exact h
 have d1:(V.2 != 0)=false:=by simpa using c1
 rw [if_neg (fun e=>e c1)] at h
 have hk : ∃ k:Nat,i=k:=by
  refine⟨i.toNat,?_⟩
  unfold yc at hV
  by_cases e:i < 0 ∨ (S.l.length:Int)≤i
  · rw [if_pos e] at hV;rw [hV] at c1;exact absurd c1 (by decide)
  · omega
 obtain⟨k,rfl⟩:=hk
 rw [Int.toNat_natCast] at h
 obtain⟨q,hq⟩ : ∃ q,q=y9 2#8 (yj 4 k):=⟨_,rfl⟩
 have hrl:q.length=17:=by rw [hq,yA,zv]
 rw [←hq] at h
 have hrec : ∀ (B:Hp) (R:AV → Hp → Prop),R (.p (.sl false 1 (pl b8 q))) B → ACall Tryd.prog G 45 [.p (b8 2#8),.p (.sl false 1 (pl b8 (yj 4 k)))] B R:=fun B R h=>zed hG0 hG1 2#8 (yj 4 k) (by rw [zv];decide) B R (by rw [hq] at h;exact h)
 refine .q ?_;refine .text ?_;simp (disch:=first|exact za|fail) only [go_sem,seval,-List.reduceReplicate,d1]
 refine .q ?_;refine .ifF (by simp (disch:=first|exact za|fail) only [go_sem,seval,-List.reduceReplicate]) ?_
 refine .skip ?_
 refine .q ?_;refine .open [6] follows (by kernel_rfl) ?_;simp (disch:=first|exact za|fail) only [go_sem,seval,-List.reduceReplicate]
 refine CallD.still (fun R h=>zhY k 4 (by decide) _ R h) ?_;simp (disch:=first|exact za|fail) only [go_sem,seval,-List.reduceReplicate]
 refine CallD.still (fun R h=>hrec _ R h) ?_;simp (disch:=first|exact za|fail) only [go_sem,seval,-List.reduceReplicate]
 refine CallD.still (fun R h=>zdy d q s0 N hlN (by omega) (by omega) _ R h) ?_;simp (disch:=first|exact za|fail) only [go_sem,seval,-List.reduceReplicate]
 refine .q ?_;refine .rt Tryd.func15 (by rw [Tryd.results15]) (hR := ?_);simp (disch:=first|exact za|fail) only [go_sem,seval,-List.reduceReplicate]
 exact h
end walks
end Go.Proofs.YtdpfkanfahchjaaDoor

/-
  The log of readings: payloads applied to a stream,by the reference.
-/
namespace Go.Proofs.YtdpfkanfahchjaaDoor
open Go Go.AL

theorem zto {rows:Nat} {c:Nat → By} (h:zlN rows c) : ∀ r∈zc4 rows c,vR r:=fun r hr=>by
 simp only [zc4,List.mem_map,List.mem_range] at hr
 obtain⟨i,hi,rfl⟩:=hr
 have key : ∀ k,k < 4 → ((((dec (prs (c k)))[i]?.getD 0#8).toNat:Nat):Int)≤top k:=fun k hk=>by
  obtain⟨_,h2,_,h4⟩:=h k hk
  have hlt:i < (dec (prs (c k))).length:=by omega
  rw [List.getElem?_eq_getElem hlt,Option.getD_some]
  obtain⟨p,hp,e⟩:=zhE.1 (List.getElem_mem hlt)
  have:=h2 p hp
  rw [e] at this
  omega
 have h0:=key 0 (by decide)
 have h1:=key 1 (by decide)
 have h2:=key 2 (by decide)
 have h3:=key 3 (by decide)
 simp only [top] at h0 h1 h2 h3
 refine⟨⟨?_,?_⟩,⟨?_,?_⟩,⟨?_,?_⟩,⟨?_,?_⟩⟩<;>simp only [mkR]<;>omega
section walks
variable {G:Globs}
end walks
end Go.Proofs.YtdpfkanfahchjaaDoor

/-
  The log of readings read whole,by the reference.
-/
namespace Go.Proofs.YtdpfkanfahchjaaDoor
open Go Go.AL

structure LrS where
 B:Hp
 s:Strm
 fl:Bool
 n:Nat
structure LR (H:Hp) (d:By) (s0:Int) (x:LrS):Prop where
 n:H.n+3≤x.B.n
 f1:x.B.f H.n=some (.cells [.p (.sl false 1 (pl b8 d)),.p (i64 s0)])
 f2:x.B.f (H.n+1)=some (.cells [.p (.sl true 4 []),.p (.sl true 1 [])])
 f5:x.B.f (H.n+2)=some (.cells [.p (.sl x.fl 4 (pl zK x.s.l)),.p (.sl x.fl 1 (pl bo x.s.gone))])
 ok:SOk x.s
 ld:ld z0S d=ld x.s (d.drop x.n)
 le:x.n≤d.length
 tr:x.B.trunc H.n=H
section walks
variable {G:Globs}
end walks
end Go.Proofs.YtdpfkanfahchjaaDoor

/-
  The log of readings: Append and Retract,by the reference;equal streams;readings of triples.
-/
namespace Go.Proofs.YtdpfkanfahchjaaDoor
open Go Go.AL

section walks
variable {G:Globs}
end walks
end Go.Proofs.YtdpfkanfahchjaaDoor

/-
  The log of readings: readings compared;equal streams;readings of triples.
-/
namespace Go.Proofs.YtdpfkanfahchjaaDoor
open Go Go.AL

def zoW (P:Program) (t:TypeId) (k:IntKind) (n:Nat):Bool :=
  match P.underlying t with
  | some (.struct fs) => fs.toList.length == n && P.cellsOf t == n && fs.all (·.name != "_") && ((List.range n).all fun i => match fs.toList[i]? with | some f => f.offset == i && P.cellsOf f.type == 1 && (match P.underlying f.type with | some (.int k') => k' == k | _ => false) | none => false) && P.keyTypeAt 64 t && !P.eqGuardType P.depth t && zJ P t
  | _=>false
theorem zfN {α β:Type} (g:β → Option (List α)) (h:β → α) : ∀ (l:List β),(∀ i∈l,g i=some [h i]) → (l.mapM g).map List.flatten=some (l.map h)
 | [],_=>rfl
 | i :: l,hg=>by
  have ih:=zfN g h l (fun j hj=>hg j (by simp [hj]))
  simp only [List.mapM_cons,hg i (by simp)]
  cases hm:l.mapM g with
  | none=>simp [hm] at ih
  | some ls =>
   simp only [hm,Option.map_some,Option.some.injEq] at ih
   simp [ih]
theorem zfO {P:Program} {t:TypeId} {k:IntKind} (l:List Int) (hw : ∀ x∈l,(Lit.int k x).wf=true) (h:zoW P t k l.length=true) :
 P.keyLits 64 t (l.map fun x=>Value.int k x)=some (l.map fun x=>Lit.int k x):=by
 unfold zoW at h
 split at h
 case h_2=>cases h
 rename_i fs hu
 simp only [Bool.and_eq_true,beq_iff_eq] at h
 obtain⟨⟨⟨⟨⟨⟨h1,h2⟩,h3⟩,h4⟩,_⟩,_⟩,_⟩:=h
 rw [List.all_eq_true] at h4
 have key : ∀ i,i < l.length → ∃ f,fs.toList[i]? = some f∧f.offset=i∧P.cellsOf f.type=1∧P.underlying f.type=some (.int k):=fun i hi=>by
  have:=h4 i (List.mem_range.2 hi)
  split at this
  case h_2=>cases this
  rename_i f hf
  simp only [Bool.and_eq_true,beq_iff_eq] at this
  obtain⟨⟨a,b⟩,c⟩:=this
  split at c
  case h_2=>cases c
  rename_i k' hk
  have hk':k'=k:=by simpa using c
  subst hk'
  exact⟨f,hf,a,b,hk⟩
 unfold Program.keyLits
 simp only [hu]
 rw [if_pos ⟨by rw [List.length_map,h2],h3⟩]
 have hm:=zfN (fun f=>P.keyLits 63 f.type (((l.map fun x=>Value.int k x).drop f.offset).take (P.cellsOf f.type))) (fun f=>Lit.int k (nth l f.offset)) fs.toList (fun f hf=>by
  obtain⟨i,hi,e⟩:=List.mem_iff_getElem.1 hf
  obtain⟨g,hg,a,b,c⟩:=key i (by omega)
  rw [List.getElem?_eq_getElem hi,e] at hg
  cases hg
  have hi':i < l.length:=by omega
  have e1:((l.map fun x=>Value.int k x).drop i).take 1=[Value.int k (nth l i)]:=by
   rw [List.take_one]
   simp [nth,hi']
  simp only [a,b,e1]
  unfold Program.keyLits
  have hx:(Lit.int k (nth l i)).wf=true:=hw _ (zbd hi')
  simp only [c]
  rw [if_pos ⟨trivial,hx⟩])
 rw [hm]
 congr 1
 refine List.ext_getElem? fun i => ?_
 by_cases hi:i < l.length
 · obtain⟨f,hf,a,_,_⟩:=key i hi
   rw [List.getElem?_map,hf,List.getElem?_map,Option.map_some,a]
   simp [hi,nth]
 · rw [List.getElem?_eq_none (by rw [List.length_map];omega),List.getElem?_eq_none (by rw [List.length_map];omega)]
theorem zr4 {P:Program} {t:TypeId} {k:IntKind} (a b:List Int) (ha : ∀ x∈a,(Lit.int k x).wf=true) (hb : ∀ x∈b,(Lit.int k x).wf=true) (h:zoW P t k a.length=true) (hl:b.length=a.length) :
 zb8 P t (a.map fun x=>PV.s (.int k x)) (b.map fun x=>PV.s (.int k x))=some (decide (a=b)):=by
 have hb':zoW P t k b.length=true:=by rw [hl];exact h
 have h2:=h
 unfold zoW at h2
 split at h2
 case h_2=>cases h2
 simp only [Bool.and_eq_true,Bool.not_eq_true'] at h2
 obtain⟨⟨⟨_,h5⟩,h6⟩,h7⟩:=h2
 unfold zb8
 rw [zcY,zcY,if_pos (by simp [h5,h6,h7])]
 simp only [zfO a ha h,zfO b hb hb',Option.some.injEq,decide_eq_decide]
 constructor
 · intro e
   refine zev hl.symm fun i hi' => ?_
   have:=congrArg (fun l:List Lit=>l[i]?) e
   simp only [List.getElem?_map,zeu hi',zeu (show i < b.length by omega),Option.map_some,Option.some.injEq,Lit.int.injEq,true_and] at this
   exact this
 · intro e;rw [e]
theorem zuQ:zoW Tryd.prog 24 .i64 4=true:=by kernel_rfl
theorem zuR {x:Int} (h : -9223372036854775808≤x∧x≤9223372036854775807):(Lit.int .i64 x).wf=true:=by
 simp only [Lit.wf,Bool.and_eq_true,decide_eq_true_eq]
 exact⟨by show (-9223372036854775808:Int)≤_;omega,by show _≤(9223372036854775807:Int);omega⟩
theorem neR {a b:Rdg} (ha:vR a) (hb:vR b):zo Tryd.prog .neq 24 (.p (zK a)) (.p (zK b))=some (.p (bo (!decide (a=b)))):=by
 have w : ∀ r,vR r → ∀ x∈([r.who,r.whn,r.knd,r.val]:List Int),(Lit.int .i64 x).wf=true:=fun r hr x hx=>by
  obtain⟨⟨a1,a2⟩,⟨b1,b2⟩,⟨c1,c2⟩,⟨d1,d2⟩⟩:=hr
  simp only [List.mem_cons,List.not_mem_nil,or_false] at hx
  rcases hx with rfl | rfl | rfl | rfl<;>exact zuR ⟨by omega,by omega⟩
 have h:=zr4 (P:=Tryd.prog) (t:=24) (k := .i64) [a.who,a.whn,a.knd,a.val] [b.who,b.whn,b.knd,b.val] (w a ha) (w b hb) zuQ rfl
 have f2 : ∀ P t xs ys,zo P .neq t (.p (.agg xs)) (.p (.agg ys))=(zb8 P t xs ys).map fun r => .p (.s (.bool !r)):=fun _ _ _ _=>rfl
 show zo _ _ _ (.p (.agg (rdL a))) (.p (.agg (rdL b)))=_
 rw [f2]
 have e:([a.who,a.whn,a.knd,a.val]=[b.who,b.whn,b.knd,b.val]) ↔ a=b:=by
  obtain⟨a1,a2,a3,a4⟩:=a
  obtain⟨b1,b2,b3,b4⟩:=b
  simp
 have h':zb8 Tryd.prog 24 (rdL a) (rdL b)=some (decide (a=b)):=by
  rw [←decide_eq_decide.2 e];exact h
 rw [h']
 rfl
abbrev T3:=BitVec 8 × BitVec 8 × BitVec 8
def tri (t:T3):PV := .agg [b8 t.1,b8 t.2.1,b8 t.2.2]
def rdt (t:T3):Rdg:=rd3 t.1 t.2.1 t.2.2
def rds (l:List T3):List Rdg:=(l.take 20).map rdt
theorem zgT {l:List T3} : ∀ r∈rds l,vR r:=fun r hr=>by
 simp only [rds,List.mem_map] at hr
 obtain⟨t,_,rfl⟩:=hr
 exact zvy
theorem zcC {l:List T3}:(rds l).length=min 20 l.length:=by simp [rds]
section walks
variable {G:Globs}
set_option maxHeartbeats 4000000 in
theorem zfP (a b:Strm) (ha : ∀ r∈a.l,vR r) (hb : ∀ r∈b.l,vR r) (hl:a.l.length≤100000000) (hg:a.gone.length≤100000000) (H:Hp) (R:AV → Hp → Prop) (h:R (.p (bo (decide (a=b)))) H):ACall Tryd.prog G 17 [.p (stm a),.p (stm b)] H R:=by
 have hag : ∀ r,(zK r).aggOf 0 4=zK r:=fun _=>rfl
 have bad:a≠b → R (.p (bo false)) H:=fun e=>by rw [decide_eq_false e] at h;exact h
 refine ACall.of_run (raw:=[]) Tryd.func17 rfl Tryd.ntmps17 (by simp) fun hbel => ?_
 refine .q ?_;refine .text ?_;simp (disch:=first|exact za|fail) only [go_sem,seval,-List.reduceReplicate]
 by_cases c1:a.l.length=b.l.length
 rotate_left
 · have d1:((a.l.length:Int) != (b.l.length:Int))=true:=bne_iff_ne.2 (by omega)
   refine .q ?_;refine .text ?_;simp (disch:=first|exact za|fail) only [go_sem,seval,-List.reduceReplicate,d1]
   refine .q ?_;refine .ifT (by simp (disch:=first|exact za|fail) only [go_sem,seval,-List.reduceReplicate]) ?_
   refine .q ?_;refine .text ?_;simp (disch:=first|exact za|fail) only [go_sem,seval,-List.reduceReplicate]
   refine .q ?_;refine .rt Tryd.func17 (by rw [Tryd.results17]) (hR := ?_);simp (disch:=first|exact za|fail) only [go_sem,seval,-List.reduceReplicate]
   exact bad fun e=>c1 (by rw [e])
 have d1:((a.l.length:Int) != (b.l.length:Int))=false:=by simp [c1]
 by_cases c2:a.gone.length=b.gone.length
 rotate_left
 · have d2:((a.gone.length:Int) != (b.gone.length:Int))=true:=bne_iff_ne.2 (by omega)
   refine .q ?_;refine .text ?_;simp (disch:=first|exact za|fail) only [go_sem,seval,-List.reduceReplicate,d1,d2]
   refine .q ?_;refine .ifT (by simp (disch:=first|exact za|fail) only [go_sem,seval,-List.reduceReplicate]) ?_
   refine .q ?_;refine .text ?_;simp (disch:=first|exact za|fail) only [go_sem,seval,-List.reduceReplicate]
   refine .q ?_;refine .rt Tryd.func17 (by rw [Tryd.results17]) (hR := ?_);simp (disch:=first|exact za|fail) only [go_sem,seval,-List.reduceReplicate]
   exact bad fun e=>c2 (by rw [e])
 have d2:((a.gone.length:Int) != (b.gone.length:Int))=false:=by simp [c2]
 refine .q ?_;refine .text ?_;simp (disch:=first|exact za|fail) only [go_sem,seval,-List.reduceReplicate,d1,d2]
 refine .q ?_;refine .ifF (by simp (disch:=first|exact za|fail) only [go_sem,seval,-List.reduceReplicate]) ?_
 refine .skip ?_
 refine .q ?_;refine .text ?_;simp (disch:=first|exact za|fail) only [go_sem,seval,-List.reduceReplicate]
 refine .q ?_;refine .loopE [2,3] (fun i=>[(5,.p (i64 i))]) (fun i=>[]) (fun i => ∀ j,j < i → nth a.l j=nth b.l j) (0) (a.l.length) (by omega) ?_ (by first | rfl | (simp (disch:=first|exact za|fail) only [go_sem,seval,-List.reduceReplicate]<;>rfl)) ?_ ?_ ?_
 · simp (disch:=first|exact za|fail) only [go_sem,seval,-List.reduceReplicate]<;>(repeat' (first | rfl | refine And.intro ?_ ?_))
 rotate_left 1
 intro env E hQ;simp (disch:=first|exact za|fail) only [go_sem,seval,-List.reduceReplicate] at E
 rotate_left 1
 intro i env hi0 hi E hQ ihE;simp (disch:=first|exact za|fail) only [go_sem,seval,-List.reduceReplicate] at E
 rotate_left 1
 · intro j hj;omega
 rotate_left
 · have hbi:i < b.l.length:=by omega
   have e:=neR (ha _ (zbd hi)) (hb _ (zbd hbi))
   refine .q ?_;refine .text ?_;simp (disch:=first|exact za|fail) only [go_sem,seval,-List.reduceReplicate,E]
   refine .q ?_;refine .ifT (by simp (disch:=first|exact za|fail) only [go_sem,seval,-List.reduceReplicate]) ?_
   by_cases q:nth a.l i=nth b.l i
   · have d:(!decide (nth a.l i=nth b.l i))=false:=by simp [q]
     rw [d] at e
     refine .q ?_;refine .open [] follows (by kernel_rfl) ?_;simp (disch:=first|exact za|fail) only [go_sem,seval,-List.reduceReplicate,E,hag,e]
     refine .q ?_;refine .ifF (by simp (disch:=first|exact za|fail) only [go_sem,seval,-List.reduceReplicate]) ?_
     refine .skip ?_
     refine .q ?_;refine .text ?_;simp (disch:=first|exact za|fail) only [go_sem,seval,-List.reduceReplicate,E]
     first | (refine ihE _ _ ?_ (zq hQ q) ?_) | (refine .z rfl ?_;refine ihE _ _ ?_ (zq hQ q) ?_) | (refine .z rfl ?_;refine .z rfl ?_;refine ihE _ _ ?_ (zq hQ q) ?_) | (refine .z rfl ?_;refine .z rfl ?_;refine .z rfl ?_;refine ihE _ _ ?_ (zq hQ q) ?_)
     · simp (disch:=first|exact za|fail) only [go_sem,seval,-List.reduceReplicate,E]<;>(repeat' (first | rfl | refine And.intro ?_ ?_))
     · first | rfl | (simp (disch:=first|exact za|fail) only [go_sem,seval,-List.reduceReplicate,E]<;>(try rfl))
   · have d:(!decide (nth a.l i=nth b.l i))=true:=by simp [q]
     rw [d] at e
     refine .q ?_;refine .open [] follows (by kernel_rfl) ?_;simp (disch:=first|exact za|fail) only [go_sem,seval,-List.reduceReplicate,E,hag,e]
     refine .q ?_;refine .ifT (by simp (disch:=first|exact za|fail) only [go_sem,seval,-List.reduceReplicate]) ?_
     refine .q ?_;refine .text ?_;simp (disch:=first|exact za|fail) only [go_sem,seval,-List.reduceReplicate,E]
     refine .q ?_;refine .rt Tryd.func17 (by rw [Tryd.results17]) (hx:=by simp (disch:=first|exact za|fail) only [go_sem,seval,-List.reduceReplicate,E];rfl) (hR := ?_);simp (disch:=first|exact za|fail) only [go_sem,seval,-List.reduceReplicate,E]
     exact bad fun x=>q (by rw [x])
 · have el:a.l=b.l:=zev c1 hQ
   refine .q ?_;refine .text ?_;simp (disch:=first|exact za|fail) only [go_sem,seval,-List.reduceReplicate,E]
   refine .q ?_;refine .ifF (by simp (disch:=first|exact za|fail) only [go_sem,seval,-List.reduceReplicate]) ?_
   refine .q ?_;refine .text ?_;simp (disch:=first|exact za|fail) only [go_sem,seval,-List.reduceReplicate,E]
   refine .q ?_;refine .loopE [2,3] (fun j=>[(6,.p (i64 j))]) (fun j=>[]) (fun j => ∀ i,i < j → nth a.gone i=nth b.gone i) (0) (a.gone.length) (by omega) ?_ (by first | rfl | (simp (disch:=first|exact za|fail) only [go_sem,seval,-List.reduceReplicate,E]<;>rfl)) ?_ ?_ ?_
   · simp (disch:=first|exact za|fail) only [go_sem,seval,-List.reduceReplicate,E]<;>(repeat' (first | rfl | refine And.intro ?_ ?_))
   rotate_left 1
   intro env F hQ;simp (disch:=first|exact za|fail) only [go_sem,seval,-List.reduceReplicate,E] at F
   rotate_left 1
   intro j env hj0 hj F hQ ihF;simp (disch:=first|exact za|fail) only [go_sem,seval,-List.reduceReplicate,E] at F
   rotate_left 1
   · intro j hj;omega
   · have eg:a.gone=b.gone:=zev c2 hQ
     have eab:a=b:=by cases a;cases b;simp only at el eg;rw [el,eg]
     refine .q ?_;refine .text ?_;simp (disch:=first|exact za|fail) only [go_sem,seval,-List.reduceReplicate,F]
     refine .q ?_;refine .ifF (by simp (disch:=first|exact za|fail) only [go_sem,seval,-List.reduceReplicate]) ?_
     refine .q ?_;refine .text ?_;simp (disch:=first|exact za|fail) only [go_sem,seval,-List.reduceReplicate,F]
     refine .q ?_;refine .rt Tryd.func17 (by rw [Tryd.results17]) (hx:=by simp (disch:=first|exact za|fail) only [go_sem,seval,-List.reduceReplicate,F,E];rfl) (hR := ?_);simp (disch:=first|exact za|fail) only [go_sem,seval,-List.reduceReplicate,F,E]
     rw [decide_eq_true eab] at h
     exact h
   · have hbj:j < b.gone.length:=by omega
     have hbo:isBool Tryd.prog 4=true:=by kernel_rfl
     refine .q ?_;refine .text ?_;simp (disch:=first|exact za|fail) only [go_sem,seval,-List.reduceReplicate,F]
     refine .q ?_;refine .ifT (by simp (disch:=first|exact za|fail) only [go_sem,seval,-List.reduceReplicate]) ?_
     by_cases q:nth a.gone j=nth b.gone j
     · have d:(!(nth a.gone j == nth b.gone j))=false:=by simp [q]
       refine .q ?_;refine .open [] follows (by kernel_rfl) ?_;simp (disch:=first|exact za|fail) only [go_sem,seval,-List.reduceReplicate,F,E,d]
       refine .q ?_;refine .ifF (by simp (disch:=first|exact za|fail) only [go_sem,seval,-List.reduceReplicate]) ?_
       refine .skip ?_
       refine .q ?_;refine .text ?_;simp (disch:=first|exact za|fail) only [go_sem,seval,-List.reduceReplicate,F]
       first | (refine ihF _ _ ?_ (zq hQ q) ?_) | (refine .z rfl ?_;refine ihF _ _ ?_ (zq hQ q) ?_) | (refine .z rfl ?_;refine .z rfl ?_;refine ihF _ _ ?_ (zq hQ q) ?_) | (refine .z rfl ?_;refine .z rfl ?_;refine .z rfl ?_;refine ihF _ _ ?_ (zq hQ q) ?_)
       · simp (disch:=first|exact za|fail) only [go_sem,seval,-List.reduceReplicate,F,E]<;>(repeat' (first | rfl | refine And.intro ?_ ?_))
       · first | rfl | (simp (disch:=first|exact za|fail) only [go_sem,seval,-List.reduceReplicate,F,E]<;>(try rfl))
     · have d:(!(nth a.gone j == nth b.gone j))=true:=by simp [q]
       refine .q ?_;refine .open [] follows (by kernel_rfl) ?_;simp (disch:=first|exact za|fail) only [go_sem,seval,-List.reduceReplicate,F,E,d]
       refine .q ?_;refine .ifT (by simp (disch:=first|exact za|fail) only [go_sem,seval,-List.reduceReplicate]) ?_
       refine .q ?_;refine .text ?_;simp (disch:=first|exact za|fail) only [go_sem,seval,-List.reduceReplicate,F]
       refine .q ?_;refine .rt Tryd.func17 (by rw [Tryd.results17]) (hx:=by simp (disch:=first|exact za|fail) only [go_sem,seval,-List.reduceReplicate,F,E];rfl) (hR := ?_);simp (disch:=first|exact za|fail) only [go_sem,seval,-List.reduceReplicate,F,E]
       exact bad fun x=>q (by rw [x])
set_option maxHeartbeats 4000000 in
theorem zcq (l:List T3) (hl:l.length≤9223372036854775807) (H:Hp) (R:AV → Hp → Prop) (h:R (.p (.sl false 4 (pl zK (rds l)))) H):ACall Tryd.prog G 31 [.p (.sl false 3 (pl tri l))] H R:=by
 have r0:pl zK ((l.take 0).map rdt)=[]:=rfl
 have hag : ∀ r,(tri r).aggOf 0 3=tri r:=fun _=>rfl
 have hlen3 : ∀ y∈pl tri l,y.cells.length=3:=fun y hy=>by
  simp only [pl,List.mem_map] at hy
  obtain⟨x,_,rfl⟩:=hy
  rfl
 refine ACall.of_run (raw:=[]) Tryd.func31 rfl Tryd.ntmps31 (by simp) fun hbel => ?_
 refine .q ?_;refine .text ?_;simp (disch:=first|exact za|fail) only [go_sem,seval,-List.reduceReplicate]
 refine .q ?_;refine .text ?_;simp (disch:=first|exact za|fail) only [go_sem,seval,-List.reduceReplicate]
 refine .q ?_;refine .own 3 (by simp (disch:=first|exact za|fail) only [go_sem,seval,-List.reduceReplicate];rfl) ?_
 refine .q ?_;refine .text ?_;simp (disch:=first|exact za|fail) only [go_sem,seval,-List.reduceReplicate]
 refine .q ?_;refine .loopE [0] (fun i=>[(3,.sl H.n i 4 (pl zK ((l.take i).map rdt))),(4,.p (i64 i))]) (fun i=>[(H.n,.tail i)]) (fun i=>True) (0) (min 20 l.length) (by omega) ?_ (by first | rfl | (simp (disch:=first|exact za|fail) only [go_sem,seval,-List.reduceReplicate,r0]<;>rfl)) ?_ ?_ ?_
 · simp (disch:=first|exact za|fail) only [go_sem,seval,-List.reduceReplicate,r0]<;>(repeat' (first | rfl | refine And.intro ?_ ?_))
 · exact trivial
 intro env E hQ;simp (disch:=first|exact za|fail) only [go_sem,seval,-List.reduceReplicate,r0] at E
 rotate_left 1
 intro i env hi0 hi E hQ ihE;simp (disch:=first|exact za|fail) only [go_sem,seval,-List.reduceReplicate,r0] at E
 rotate_left 1
 · have hall:(l.take (min 20 l.length)).map rdt=rds l:=by
    rw [rds]
    congr 1
    by_cases c:20≤l.length
    · rw [Nat.min_eq_left c]
    · rw [Nat.min_eq_right (by omega),List.take_length,List.take_of_length_le (by omega)]
   by_cases c1:l.length≤20
   · have hall':l.map rdt=rds l:=by rw [rds,List.take_of_length_le c1]
     have d1:decide (((min 20 l.length:Nat):Int) < (l.length:Int))=false:=decide_eq_false (by omega)
     refine .q ?_;refine .text ?_;simp (disch:=first|exact za|fail) only [go_sem,seval,-List.reduceReplicate,E,zj,zm,d1]
     refine .q ?_;refine .ifF (by simp (disch:=first|exact za|fail) only [go_sem,seval,-List.reduceReplicate]) ?_
     refine .q ?_;refine .text ?_;simp (disch:=first|exact za|fail) only [go_sem,seval,-List.reduceReplicate,E,zj,zm,hall,hall']
     refine .q ?_;refine .rt Tryd.func31 (by rw [Tryd.results31]) (hx:=by simp (disch:=first|exact za|fail) only [go_sem,seval,-List.reduceReplicate,E,hall];rfl) (hR := ?_);simp (disch:=first|exact za|fail) only [go_sem,seval,-List.reduceReplicate,E,hall]
     exact h
   · have d1:decide (((min 20 l.length:Nat):Int) < (l.length:Int))=true:=decide_eq_true (by omega)
     have d2:decide (((min 20 l.length:Nat):Int) < 20)=false:=decide_eq_false (by omega)
     refine .q ?_;refine .text ?_;simp (disch:=first|exact za|fail) only [go_sem,seval,-List.reduceReplicate,E,zj,zm,d1,d2]
     refine .q ?_;refine .ifF (by simp (disch:=first|exact za|fail) only [go_sem,seval,-List.reduceReplicate]) ?_
     refine .q ?_;refine .text ?_;simp (disch:=first|exact za|fail) only [go_sem,seval,-List.reduceReplicate,E,zj,zm,hall]
     refine .q ?_;refine .rt Tryd.func31 (by rw [Tryd.results31]) (hx:=by simp (disch:=first|exact za|fail) only [go_sem,seval,-List.reduceReplicate,E,hall];rfl) (hR := ?_);simp (disch:=first|exact za|fail) only [go_sem,seval,-List.reduceReplicate,E,hall]
     exact h
 · have hil:i < l.length:=by omega
   have d1:decide ((i:Int) < (l.length:Int))=true:=decide_eq_true (by omega)
   have d2:decide ((i:Int) < 20)=true:=decide_eq_true (by omega)
   have htw:(tri (nth l i)).weak = .agg [b8 (nth l i).1,b8 (nth l i).2.1,b8 (nth l i).2.2]:=rfl
   have hs:pl zK ((l.take i).map rdt)++[zK (rdt (nth l i))]=pl zK ((l.take (i+1)).map rdt):=by
    rw [←Go.AL.take_one hil];simp [pl]
   have hln:(pl zK ((l.take i).map rdt)).length≤20:=by simp [pl];omega
   have hrw:(zK (rdt (nth l i))).weak=zK (rdt (nth l i)):=rfl
   refine .q ?_;refine .text ?_;simp (disch:=first|exact za|fail) only [go_sem,seval,-List.reduceReplicate,E,zj,zm,d1,d2]
   refine .q ?_;refine .ifT (by simp (disch:=first|exact za|fail) only [go_sem,seval,-List.reduceReplicate]) ?_
   have htl : ∀ t,(tri t).cells.length=3:=fun _=>rfl
   have hrd : ∀ t:T3,rd3 t.1 t.2.1 t.2.2=rdt t:=fun _=>rfl
   have hal:((pl zK [rdt (nth l i)]).all fun y=>y.cells.length == 4)=true:=zfE
   have hon : ∀ r,[zK r]=pl zK [r]:=fun _=>rfl
   have hs2:pl zK ((l.take i).map rdt)++pl zK [rdt (nth l i)]=pl zK ((l.take (i+1)).map rdt):=hs
   refine .q ?_;refine .text ?_;simp (disch:=first|exact za|fail) only [go_sem,seval,-List.reduceReplicate,E,zj,zm,hag,htw,htl]
   refine CallK.of (fun R h=>zgb _ _ _ _ R h) ?_;simp (disch:=first|exact za|fail) only [go_sem,seval,-List.reduceReplicate,E,zj,zm,hrd,hal,hon,zbc,hs2,hln]
   refine .q ?_;refine .text ?_;simp (disch:=first|exact za|fail) only [go_sem,seval,-List.reduceReplicate,E,zj,zm]
   first | (refine ihE _ _ ?_ trivial ?_) | (refine .z rfl ?_;refine ihE _ _ ?_ trivial ?_) | (refine .z rfl ?_;refine .z rfl ?_;refine ihE _ _ ?_ trivial ?_) | (refine .z rfl ?_;refine .z rfl ?_;refine .z rfl ?_;refine ihE _ _ ?_ trivial ?_)
   · simp (disch:=first|exact za|fail) only [go_sem,seval,-List.reduceReplicate,E,zj,zm,zbc,hs2]<;>(repeat' (first | rfl | refine And.intro ?_ ?_))
   · first | rfl | (simp (disch:=first|exact za|fail) only [go_sem,seval,-List.reduceReplicate,E,zj,zm,zbc,hs2]<;>(try rfl))
end walks
end Go.Proofs.YtdpfkanfahchjaaDoor

/-
  The log of readings: operations on streams and on stores.
-/
namespace Go.Proofs.YtdpfkanfahchjaaDoor
open Go Go.AL

structure Op where
 k:BitVec 8
 l:List T3
 a:BitVec 16
def opv (x:Op):PV := .agg [b8 x.k,.sl false 3 (pl tri x.l),w16 x.a]
theorem zuS {x:Op}:zf (.p (opv x))=some [.p (b8 x.k),.p (.sl false 3 (pl tri x.l)),.p (w16 x.a)]:=rfl
def chg (s:Strm) (x:Op):Strm × Bool :=
 if x.k % 4#8=1#8 then
  if s.l.length=0 then (s,false)
  else if (yc s (x.a.toNat % s.l.length:Nat)).2≠0 then (s,false) else ((yc s (x.a.toNat % s.l.length:Nat)).1,true)
 else (⟨s.l++rds x.l,s.gone++List.replicate (rds x.l).length false⟩,decide (0 < (rds x.l).length))
section walks
variable {G:Globs}
end walks
end Go.Proofs.YtdpfkanfahchjaaDoor

/-
  The log of readings: an operation on a store.
-/
namespace Go.Proofs.YtdpfkanfahchjaaDoor
open Go Go.AL

noncomputable def apV (s:Sto) (x:Op):Sto :=
 if x.k % 4#8=1#8 then
  if (lS s.1).l.length=0 then s
  else if (rtV s (x.a.toNat % (lS s.1).l.length:Nat)).2=0 then (rtV s (x.a.toNat % (lS s.1).l.length:Nat)).1 else s
 else if x.k % 4#8=2#8 then (s.1,s.1.length)
 else if x.k % 4#8=3#8 then (s.1.take (crN s.1 s.2 x.a.toNat),(crN s.1 s.2 x.a.toNat:Nat))
 else if (y7 s (rds x.l)).2=0 then (y7 s (rds x.l)).1 else s
def WS (s:Sto):Prop:=0≤s.2∧s.2≤s.1.length
section walks
variable {G:Globs}
set_option maxHeartbeats 8000000 in
set_option maxRecDepth 20000 in
theorem zhZ (hG0:G 0=some (8,[.agg (pl zG inits)])) (hG1:G 1=some (64,[.agg (pl zG ks)])) (d:By) (s0:Int) (x:Op) (hw:WS (d,s0)) (hd:d.length≤1000000000) (hx:x.l.length≤9223372036854775807) (H:Hp) (R:AV → Hp → Prop)
 (h:R (.p (sto (apV (d,s0) x).1 (apV (d,s0) x).2)) H):ACall Tryd.prog G 35 [.p (sto d s0),.p (opv x)] H R:=by
 unfold apV at h
 dsimp only at h
 have hsw:(sto d s0).weak=sto d s0:=rfl
 have rr : ∀ y:BitVec 8,zo Tryd.prog .rem 5 (.p (b8 y)) (.p (b8 4#8))=some (.p (b8 (y % 4#8))):=fun y=>zcV _ _ _ _ (by decide)
 refine ACall.of_run (raw:=[]) Tryd.func35 rfl Tryd.ntmps35 (by simp) fun hbel => ?_
 refine .q ?_;refine .text ?_;simp (disch:=first|exact za|fail) only [go_sem,seval,-List.reduceReplicate,zuS]
 by_cases k1:x.k % 4#8=1#8
 · have dk:(x.k % 4#8 == 1#8)=true:=by simpa using k1
   rw [if_pos k1] at h
   refine .q ?_;refine .text ?_;simp (disch:=first|exact za|fail) only [go_sem,seval,-List.reduceReplicate,rr,dk]
   refine .q ?_;refine .text ?_;simp (disch:=first|exact za|fail) only [go_sem,seval,-List.reduceReplicate,rr,dk]
   refine .q ?_;refine .ifT (by simp (disch:=first|exact za|fail) only [go_sem,seval,-List.reduceReplicate]) ?_
   refine .q ?_;refine .text ?_;simp (disch:=first|exact za|fail) only [go_sem,seval,-List.reduceReplicate]
   refine CallK.of (fun R h=>yD hG0 hG1 d s0 (by omega) _ R h) ?_;simp (disch:=first|exact za|fail) only [go_sem,seval,-List.reduceReplicate]
   have hok:=zr2 (d:=d)
   obtain⟨S,hS⟩ : ∃ S,S=lS d:=⟨_,rfl⟩
   rw [←hS] at h hok ⊢
   have hSl:=hok.2
   refine .q ?_;refine .text ?_;simp (disch:=first|exact za|fail) only [go_sem,seval,-List.reduceReplicate]
   by_cases c1:S.l.length=0
   · have d1:((S.l.length:Int) == 0)=true:=beq_iff_eq.2 (by omega)
     rw [if_pos c1] at h
     refine .q ?_;refine .ifT (by simp (disch:=first|exact za|fail) only [go_sem,seval,-List.reduceReplicate,d1]) ?_
     refine .q ?_;refine .text ?_;simp (disch:=first|exact za|fail) only [go_sem,seval,-List.reduceReplicate]
     refine .q ?_;refine .rt Tryd.func35 (by rw [Tryd.results35]) (hR := ?_);simp (disch:=first|exact za|fail) only [go_sem,seval,-List.reduceReplicate]
     exact h
   have d1:((S.l.length:Int) == 0)=false:=beq_eq_false_iff_ne.2 (by omega)
   rw [if_neg c1] at h
   refine .q ?_;refine .ifF (by simp (disch:=first|exact za|fail) only [go_sem,seval,-List.reduceReplicate,d1]) ?_
   refine .skip ?_
   obtain⟨n,hn⟩ : ∃ n,n=x.a.toNat % S.l.length:=⟨_,rfl⟩
   have hmod:(x.a.toNat:Int) % (S.l.length:Int)=(n:Int):=by rw [hn];exact (Int.natCast_emod _ _).symm
   have hnl:n < S.l.length:=by rw [hn];exact Nat.mod_lt _ (by omega)
   obtain⟨V,hV⟩ : ∃ V,V=rtV (d,s0) (n:Nat):=⟨_,rfl⟩
   rw [←hn,←hV] at h
   have hret : ∀ (B:Hp) (R:AV → Hp → Prop),R (.tup [.p (sto V.1.1 V.1.2),.p (i64 V.2)]) B → ACall Tryd.prog G 15 [.p (sto d s0),.p (i64 (n:Nat))] B R:=fun B R h=>yy hG0 hG1 d s0 (n:Nat) hd B R (by rw [hV] at h;exact h)
   obtain⟨B,hB⟩ : ∃ B,B=(((H.new (.cells [.p (.sl false 1 (pl b8 d)),.p (i64 s0)])).new (.cells [.p (b8 x.k),.p (.sl false 3 (pl tri x.l)),.p (w16 x.a)])).new (.cells [.p (.sl true 1 []),.p (i64 0)])).new (.cells [.p (.sl false 4 (pl zK S.l)),.p (.sl false 1 (pl bo S.gone))]):=⟨_,rfl⟩
   obtain⟨C,hC⟩ : ∃ C,C=B.new (.cells [.p (.sl false 1 (pl b8 V.1.1)),.p (i64 V.1.2)]):=⟨_,rfl⟩
   refine .q ?_;refine .cutH [2,4] [(8,.ptr (H.n+4) 0),(9,.p (i64 V.2))] (C) (fun ihF => ?_) (fun env F => ?_)
   rotate_left 1
   simp (disch:=first|exact za|fail) only [go_sem,seval,-List.reduceReplicate] at F
   rotate_left 1
   · refine .openTr (.one 0 (.one 1 (.one 2 (.one 3 (.one 4 (.one 5 (.one 6 (.fork 7 12 (.fork 8 12 (.lin [9,10,11,12,13,14]) (.lin [8,9,10,11,13,14])) (.lin [7,8,9,10,11,13,14]))))))))) [12,13] follows (by kernel_rfl) ?_
     refine zV (.p (sto d s0)) rfl rfl (by simp (disch:=first|exact za|fail) only [go_sem,seval,-List.reduceReplicate]<;>rfl) rfl ?_
     refine zV (.ptr (H.n+1) 2) rfl rfl (by simp (disch:=first|exact za|fail) only [go_sem,seval,-List.reduceReplicate]<;>rfl) rfl ?_
     refine zV (.p (w16 x.a)) rfl rfl (by simp (disch:=first|exact za|fail) only [go_sem,seval,-List.reduceReplicate]<;>rfl) rfl ?_
     refine zV (.p (i64 x.a.toNat)) rfl rfl (by simp (disch:=first|exact za|fail) only [go_sem,seval,-List.reduceReplicate]<;>rfl) rfl ?_
     refine zV (.ptr (H.n+3) 0) rfl rfl (by simp (disch:=first|exact za|fail) only [go_sem,seval,-List.reduceReplicate]<;>rfl) rfl ?_
     refine zV (.p (.sl false 4 (pl zK S.l))) rfl rfl (by simp (disch:=first|exact za|fail) only [go_sem,seval,-List.reduceReplicate]<;>rfl) rfl ?_
     refine zV (.p (i64 S.l.length)) rfl rfl (by simp (disch:=first|exact za|fail) only [go_sem,seval,-List.reduceReplicate]<;>rfl) rfl ?_
     refine And.intro (zV (.p (i64 (n:Nat))) rfl rfl (by simp (disch:=first|exact za|fail) only [go_sem,seval,-List.reduceReplicate,hmod]<;>rfl) rfl (And.intro (zcm (.tup [.p (sto V.1.1 V.1.2),.p (i64 V.2)]) rfl rfl (by simp (disch:=first|exact za|fail) only [go_sem,seval,-List.reduceReplicate,hsw]<;>rfl) (by rfl) rfl (fun R h=>hret _ R h) ?_) ?_)) ?_
     · refine yp [3,4] (by kernel_rfl) ?_
       simp (disch:=first|exact za|fail) only [go_sem,seval,-List.reduceReplicate]
       first | (refine ihF _ _ ?_ ?_) | (refine .z rfl ?_;refine ihF _ _ ?_ ?_) | (refine .z rfl ?_;refine .z rfl ?_;refine ihF _ _ ?_ ?_) | (refine .z rfl ?_;refine .z rfl ?_;refine .z rfl ?_;refine ihF _ _ ?_ ?_)
       · simp (disch:=first|exact za|fail) only [go_sem,seval,-List.reduceReplicate]<;>(repeat' (first | rfl | refine And.intro ?_ ?_))
       · exact (by rw [hC,hB])
     · refine za9 (.ptr (H.n+4) 0) rfl rfl (by simp (disch:=first|exact za|fail) only [go_sem,seval,-List.reduceReplicate]<;>rfl) rfl ?_
       refine yp [4] (by kernel_rfl) ?_
       simp (disch:=first|exact za|fail) only [go_sem,seval,-List.reduceReplicate,hsw]
       refine CallD.still (fun R h=>hret _ R h) ?_;simp (disch:=first|exact za|fail) only [go_sem,seval,-List.reduceReplicate,hsw]
       first | (refine ihF _ _ ?_ ?_) | (refine .z rfl ?_;refine ihF _ _ ?_ ?_) | (refine .z rfl ?_;refine .z rfl ?_;refine ihF _ _ ?_ ?_) | (refine .z rfl ?_;refine .z rfl ?_;refine .z rfl ?_;refine ihF _ _ ?_ ?_)
       · simp (disch:=first|exact za|fail) only [go_sem,seval,-List.reduceReplicate]<;>(repeat' (first | rfl | refine And.intro ?_ ?_))
       · exact (by rw [hC,hB])
     · refine za9 (.ptr (H.n+4) 0) rfl rfl (by simp (disch:=first|exact za|fail) only [go_sem,seval,-List.reduceReplicate]<;>rfl) rfl ?_
       refine yp [5] (by kernel_rfl) ?_
       simp (disch:=first|exact za|fail) only [go_sem,seval,-List.reduceReplicate,hsw,hmod]
       refine CallD.still (fun R h=>hret _ R h) ?_;simp (disch:=first|exact za|fail) only [go_sem,seval,-List.reduceReplicate,hsw]
       first | (refine ihF _ _ ?_ ?_) | (refine .z rfl ?_;refine ihF _ _ ?_ ?_) | (refine .z rfl ?_;refine .z rfl ?_;refine ihF _ _ ?_ ?_) | (refine .z rfl ?_;refine .z rfl ?_;refine .z rfl ?_;refine ihF _ _ ?_ ?_)
       · simp (disch:=first|exact za|fail) only [go_sem,seval,-List.reduceReplicate]<;>(repeat' (first | rfl | refine And.intro ?_ ?_))
       · exact (by rw [hC,hB])
   · subst hC hB
     by_cases c2:V.2=0
     · have d2:(V.2 == 0)=true:=by simpa using c2
       rw [if_pos c2] at h
       refine .q ?_;refine .text ?_;simp (disch:=first|exact za|fail) only [go_sem,seval,-List.reduceReplicate,F,d2]
       refine .q ?_;refine .ifT (by simp (disch:=first|exact za|fail) only [go_sem,seval,-List.reduceReplicate]) ?_
       refine .q ?_;refine .text ?_;simp (disch:=first|exact za|fail) only [go_sem,seval,-List.reduceReplicate,F]
       refine .q ?_;refine .rt Tryd.func35 (by rw [Tryd.results35]) (hx:=by simp (disch:=first|exact za|fail) only [go_sem,seval,-List.reduceReplicate,F];rfl) (hR := ?_);simp (disch:=first|exact za|fail) only [go_sem,seval,-List.reduceReplicate,F]
       exact h
     · have d2:(V.2 == 0)=false:=by simpa using c2
       rw [if_neg c2] at h
       refine .q ?_;refine .text ?_;simp (disch:=first|exact za|fail) only [go_sem,seval,-List.reduceReplicate,F,d2]
       refine .q ?_;refine .ifF (by simp (disch:=first|exact za|fail) only [go_sem,seval,-List.reduceReplicate]) ?_
       refine .skip ?_
       refine .q ?_;refine .text ?_;simp (disch:=first|exact za|fail) only [go_sem,seval,-List.reduceReplicate,F]
       refine .q ?_;refine .rt Tryd.func35 (by rw [Tryd.results35]) (hx:=by simp (disch:=first|exact za|fail) only [go_sem,seval,-List.reduceReplicate,F];rfl) (hR := ?_);simp (disch:=first|exact za|fail) only [go_sem,seval,-List.reduceReplicate,F]
       exact h
 have dk1:(x.k % 4#8 == 1#8)=false:=by simpa using k1
 rw [if_neg k1] at h
 refine .q ?_;refine .text ?_;simp (disch:=first|exact za|fail) only [go_sem,seval,-List.reduceReplicate,rr,dk1]
 refine .q ?_;refine .text ?_;simp (disch:=first|exact za|fail) only [go_sem,seval,-List.reduceReplicate,rr,dk1]
 refine .q ?_;refine .ifF (by simp (disch:=first|exact za|fail) only [go_sem,seval,-List.reduceReplicate]) ?_
 by_cases k2:x.k % 4#8=2#8
 · have dk2:(x.k % 4#8 == 2#8)=true:=by simpa using k2
   rw [if_pos k2] at h
   refine .q ?_;refine .text ?_;simp (disch:=first|exact za|fail) only [go_sem,seval,-List.reduceReplicate,dk2]
   refine .q ?_;refine .ifT (by simp (disch:=first|exact za|fail) only [go_sem,seval,-List.reduceReplicate]) ?_
   refine .q ?_;refine .text ?_;simp (disch:=first|exact za|fail) only [go_sem,seval,-List.reduceReplicate]
   refine CallK.of (fun R h=>zgL d s0 _ R h) ?_;simp (disch:=first|exact za|fail) only [go_sem,seval,-List.reduceReplicate]
   refine .q ?_;refine .rt Tryd.func35 (by rw [Tryd.results35]) (hR := ?_);simp (disch:=first|exact za|fail) only [go_sem,seval,-List.reduceReplicate]
   exact h
 have dk2:(x.k % 4#8 == 2#8)=false:=by simpa using k2
 rw [if_neg k2] at h
 refine .q ?_;refine .text ?_;simp (disch:=first|exact za|fail) only [go_sem,seval,-List.reduceReplicate,dk2]
 refine .q ?_;refine .ifF (by simp (disch:=first|exact za|fail) only [go_sem,seval,-List.reduceReplicate]) ?_
 by_cases k3:x.k % 4#8=3#8
 · have dk3:(x.k % 4#8 == 3#8)=true:=by simpa using k3
   have hxa:=x.a.isLt
   rw [if_pos k3] at h
   refine .q ?_;refine .text ?_;simp (disch:=first|exact za|fail) only [go_sem,seval,-List.reduceReplicate,dk3]
   refine .q ?_;refine .ifT (by simp (disch:=first|exact za|fail) only [go_sem,seval,-List.reduceReplicate]) ?_
   refine .q ?_;refine .text ?_;simp (disch:=first|exact za|fail) only [go_sem,seval,-List.reduceReplicate]
   refine CallK.of (fun R h=>zc5 d s0 (x.a.toNat:Nat) hw (by omega) ⟨by omega,by omega⟩ _ R h) ?_;simp (disch:=first|exact za|fail) only [go_sem,seval,-List.reduceReplicate]
   refine .q ?_;refine .rt Tryd.func35 (by rw [Tryd.results35]) (hR := ?_);simp (disch:=first|exact za|fail) only [go_sem,seval,-List.reduceReplicate]
   exact h
 have dk3:(x.k % 4#8 == 3#8)=false:=by simpa using k3
 rw [if_neg k3] at h
 refine .q ?_;refine .text ?_;simp (disch:=first|exact za|fail) only [go_sem,seval,-List.reduceReplicate,dk3]
 refine .q ?_;refine .ifF (by simp (disch:=first|exact za|fail) only [go_sem,seval,-List.reduceReplicate]) ?_
 obtain⟨W,hW⟩ : ∃ W,W=rds x.l:=⟨_,rfl⟩
 have hWl:W.length≤20:=by rw [hW,zcC];omega
 have hrd : ∀ (B:Hp) (R:AV → Hp → Prop),R (.p (.sl false 4 (pl zK W))) B → ACall Tryd.prog G 31 [.p (.sl false 3 (pl tri x.l))] B R:=fun B R h=>zcq x.l hx B R (by rw [hW] at h;exact h)
 obtain⟨V,hV⟩ : ∃ V,V=y7 (d,s0) W:=⟨_,rfl⟩
 have happ : ∀ (B:Hp) (R:AV → Hp → Prop),R (.tup [.p (sto V.1.1 V.1.2),.p (i64 V.2)]) B → ACall Tryd.prog G 13 [.p (sto d s0),.p (.sl false 4 (pl zK W))] B R:=fun B R h=>zah hG0 hG1 d s0 W hd (by omega) B R (by rw [hV] at h;exact h)
 rw [←hW,←hV] at h
 have hww:(PV.sl false 4 (pl zK W)).weak = .sl false 4 (pl zK W):=rfl
 have htw:(PV.sl false 3 (pl tri x.l)).weak = .sl false 3 (pl tri x.l):=rfl
 obtain⟨B,hB⟩ : ∃ B,B=((H.new (.cells [.p (.sl false 1 (pl b8 d)),.p (i64 s0)])).new (.cells [.p (b8 x.k),.p (.sl false 3 (pl tri x.l)),.p (w16 x.a)])).new (.cells [.p (.sl true 1 []),.p (i64 0)]):=⟨_,rfl⟩
 obtain⟨C,hC⟩ : ∃ C,C=B.new (.cells [.p (.sl false 1 (pl b8 V.1.1)),.p (i64 V.1.2)]):=⟨_,rfl⟩
 refine .q ?_;refine .cutH [2,4] [(10,.ptr (H.n+3) 0),(11,.p (i64 V.2))] (C) (fun ihF => ?_) (fun env F => ?_)
 rotate_left 1
 simp (disch:=first|exact za|fail) only [go_sem,seval,-List.reduceReplicate] at F
 rotate_left 1
 · refine .openTr (.one 0 (.one 1 (.one 2 (.fork 3 8 (.fork 4 8 (.lin [5,6,7,8,9,10]) (.lin [4,5,6,7,9,10])) (.lin [3,4,5,6,7,9,10]))))) [8,9] follows (by kernel_rfl) ?_
   refine zV (.p (sto d s0)) rfl rfl (by simp (disch:=first|exact za|fail) only [go_sem,seval,-List.reduceReplicate]<;>rfl) rfl ?_
   refine zV (.ptr (H.n+1) 1) rfl rfl (by simp (disch:=first|exact za|fail) only [go_sem,seval,-List.reduceReplicate]<;>rfl) rfl ?_
   refine zV (.p (.sl false 3 (pl tri x.l))) rfl rfl (by simp (disch:=first|exact za|fail) only [go_sem,seval,-List.reduceReplicate]<;>rfl) rfl ?_
   refine And.intro (zcm (.p (.sl false 4 (pl zK W))) rfl rfl (by simp (disch:=first|exact za|fail) only [go_sem,seval,-List.reduceReplicate,htw]<;>rfl) (by rfl) rfl (fun R h=>hrd _ R h) (And.intro (zcm (.tup [.p (sto V.1.1 V.1.2),.p (i64 V.2)]) rfl rfl (by simp (disch:=first|exact za|fail) only [go_sem,seval,-List.reduceReplicate,hsw,hww]<;>rfl) (by rfl) rfl (fun R h=>happ _ R h) ?_) ?_)) ?_
   · refine yp [3,4] (by kernel_rfl) ?_
     simp (disch:=first|exact za|fail) only [go_sem,seval,-List.reduceReplicate]
     first | (refine ihF _ _ ?_ ?_) | (refine .z rfl ?_;refine ihF _ _ ?_ ?_) | (refine .z rfl ?_;refine .z rfl ?_;refine ihF _ _ ?_ ?_) | (refine .z rfl ?_;refine .z rfl ?_;refine .z rfl ?_;refine ihF _ _ ?_ ?_)
     · simp (disch:=first|exact za|fail) only [go_sem,seval,-List.reduceReplicate]<;>(repeat' (first | rfl | refine And.intro ?_ ?_))
     · exact (by rw [hC,hB])
   · refine za9 (.ptr (H.n+3) 0) rfl rfl (by simp (disch:=first|exact za|fail) only [go_sem,seval,-List.reduceReplicate]<;>rfl) rfl ?_
     refine yp [4] (by kernel_rfl) ?_
     simp (disch:=first|exact za|fail) only [go_sem,seval,-List.reduceReplicate,hsw,hww]
     refine CallD.still (fun R h=>happ _ R h) ?_;simp (disch:=first|exact za|fail) only [go_sem,seval,-List.reduceReplicate,hsw]
     first | (refine ihF _ _ ?_ ?_) | (refine .z rfl ?_;refine ihF _ _ ?_ ?_) | (refine .z rfl ?_;refine .z rfl ?_;refine ihF _ _ ?_ ?_) | (refine .z rfl ?_;refine .z rfl ?_;refine .z rfl ?_;refine ihF _ _ ?_ ?_)
     · simp (disch:=first|exact za|fail) only [go_sem,seval,-List.reduceReplicate]<;>(repeat' (first | rfl | refine And.intro ?_ ?_))
     · exact (by rw [hC,hB])
   · refine za9 (.ptr (H.n+3) 0) rfl rfl (by simp (disch:=first|exact za|fail) only [go_sem,seval,-List.reduceReplicate]<;>rfl) rfl ?_
     refine yp [5] (by kernel_rfl) ?_
     simp (disch:=first|exact za|fail) only [go_sem,seval,-List.reduceReplicate,hsw,htw]
     refine CallD.still (fun R h=>hrd _ R h) ?_;simp (disch:=first|exact za|fail) only [go_sem,seval,-List.reduceReplicate,hsw,hww]
     refine CallD.still (fun R h=>happ _ R h) ?_;simp (disch:=first|exact za|fail) only [go_sem,seval,-List.reduceReplicate,hsw]
     first | (refine ihF _ _ ?_ ?_) | (refine .z rfl ?_;refine ihF _ _ ?_ ?_) | (refine .z rfl ?_;refine .z rfl ?_;refine ihF _ _ ?_ ?_) | (refine .z rfl ?_;refine .z rfl ?_;refine .z rfl ?_;refine ihF _ _ ?_ ?_)
     · simp (disch:=first|exact za|fail) only [go_sem,seval,-List.reduceReplicate]<;>(repeat' (first | rfl | refine And.intro ?_ ?_))
     · exact (by rw [hC,hB])
 · subst hC hB
   by_cases c2:V.2=0
   · have d2:(V.2 == 0)=true:=by simpa using c2
     rw [if_pos c2] at h
     refine .q ?_;refine .text ?_;simp (disch:=first|exact za|fail) only [go_sem,seval,-List.reduceReplicate,F,d2]
     refine .q ?_;refine .ifT (by simp (disch:=first|exact za|fail) only [go_sem,seval,-List.reduceReplicate]) ?_
     refine .q ?_;refine .text ?_;simp (disch:=first|exact za|fail) only [go_sem,seval,-List.reduceReplicate,F]
     refine .q ?_;refine .rt Tryd.func35 (by rw [Tryd.results35]) (hx:=by simp (disch:=first|exact za|fail) only [go_sem,seval,-List.reduceReplicate,F];rfl) (hR := ?_);simp (disch:=first|exact za|fail) only [go_sem,seval,-List.reduceReplicate,F]
     exact h
   · have d2:(V.2 == 0)=false:=by simpa using c2
     rw [if_neg c2] at h
     refine .q ?_;refine .text ?_;simp (disch:=first|exact za|fail) only [go_sem,seval,-List.reduceReplicate,F,d2]
     refine .q ?_;refine .ifF (by simp (disch:=first|exact za|fail) only [go_sem,seval,-List.reduceReplicate]) ?_
     refine .skip ?_
     refine .q ?_;refine .text ?_;simp (disch:=first|exact za|fail) only [go_sem,seval,-List.reduceReplicate,F]
     refine .q ?_;refine .rt Tryd.func35 (by rw [Tryd.results35]) (hx:=by simp (disch:=first|exact za|fail) only [go_sem,seval,-List.reduceReplicate,F];rfl) (hR := ?_);simp (disch:=first|exact za|fail) only [go_sem,seval,-List.reduceReplicate,F]
     exact h
end walks
end Go.Proofs.YtdpfkanfahchjaaDoor
