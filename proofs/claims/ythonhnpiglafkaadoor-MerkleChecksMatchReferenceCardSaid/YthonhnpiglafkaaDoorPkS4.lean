/-
  What leaves read as,their lengths within what a call's arguments may hold.
-/
import Derived.Test.YthonhnpiglafkaaDoorPkS3
set_option linter.unusedSimpArgs false
set_option linter.unusedVariables false
namespace Go.Proofs.YthonhnpiglafkaaDoor
open Go Go.AL Go.ChangeShapes Go.WideShapes Go.ChangeAt Go.RowKit

set_option maxRecDepth 100000
section bound
variable {W:World} {H:Type} {enc:TypeId × Value → H}
theorem byte_row {fuel:Nat} {len cap:Nat} {a:Option Addr} {d:DataW H} {ps:List MemPlace} (h:DataW.trod enc Tryd.prog W 0 (fun _=>true) true fuel 44 [.slice a len cap]=some (d,ps)) (hw : ∀ w∈d.weights Tryd.prog 44,w≤reachBytes):len≤reachBytes:=by
  cases fuel with
  | zero=>simp [DataW.trod] at h
  | succ fuel =>
    unfold DataW.trod at h
    rw [Tryd.underlying44] at h
    cases a with
    | none =>
      cases len with
      | zero=>omega
      | succ len=>simp at h
    | some a =>
      simp only at h
      split at h
      · cases hm:(List.range len).mapM fun i=>(W.cells? 0 (a.add (i*Tryd.prog.cellsOf 5)) (Tryd.prog.cellsOf 5)).bind (DataW.trod enc Tryd.prog W 0 (fun _=>true) true fuel 5) with
        | none=>rw [hm] at h;simp at h
        | some elems =>
          rw [hm] at h
          have hl:=(mapM_get hm).1
          rw [List.length_range] at hl
          simp only [Option.bind_some,Option.map_eq_some_iff,if_true] at h
          obtain ⟨rest,_,h⟩:=h
          cases h
          have:=hw ((elems.map (·.1)).length+(rest.map (·.1)).length) (by
            rw [DataW.weights,Tryd.underlying44]
            dsimp only
            rw [bytes5,Nat.mul_one]
            exact List.mem_cons_self)
          simp at this
          omega
      · cases h
theorem weights_mem {P:Program} {e:TypeId} : ∀ {l:List (DataW H)} {i:Nat} {d:DataW H},l[i]? = some d → ∀ w∈d.weights P e,w∈DataW.weightsAll P e l
  | [],i,d,h=>by simp at h
  | x :: l,0,d,h=>by
    simp only [List.getElem?_cons_zero,Option.some.injEq] at h
    subst h
    intro w hw
    rw [DataW.weightsAll]
    exact List.mem_append_left _ hw
  | x :: l,i+1,d,h=>by
    rw [List.getElem?_cons_succ] at h
    intro w hw
    rw [DataW.weightsAll]
    exact List.mem_append_right _ (weights_mem h w hw)
theorem rows_bound {fuel:Nat} {g off len cap:Nat} {d:DataW H} {ps:List MemPlace} (h:DataW.trod enc Tryd.prog W 0 (fun _=>true) true fuel 22 [.slice (some ⟨g,off,none⟩) len cap]=some (d,ps)) (hw : ∀ w∈d.weights Tryd.prog 22,w≤reachBytes) :
    ∀ i,i < len → ∀ a' l c,W.cell? ⟨g,off+i,none⟩=some (.slice a' l c) → l≤reachBytes:=by
  cases fuel with
  | zero=>simp [DataW.trod] at h
  | succ fuel =>
    unfold DataW.trod at h
    rw [Tryd.underlying22] at h
    simp only at h
    split at h
    · cases hm:(List.range len).mapM fun i=>(W.cells? 0 ((⟨g,off,none⟩:Addr).add (i*Tryd.prog.cellsOf 44)) (Tryd.prog.cellsOf 44)).bind (DataW.trod enc Tryd.prog W 0 (fun _=>true) true fuel 44) with
      | none=>rw [hm] at h;simp at h
      | some elems =>
        rw [hm] at h
        obtain ⟨hl,hget⟩:=mapM_get hm
        simp only [Option.bind_some,Option.map_eq_some_iff,if_true] at h
        obtain ⟨rest,_,h⟩:=h
        cases h
        intro i hi a' l c hc
        obtain ⟨⟨di,pi⟩,h1,h2⟩:=hget i i (by simp [hi])
        rw [cells44,Nat.mul_one] at h2
        cases hcs:W.cells? 0 ((⟨g,off,none⟩:Addr).add i) 1 with
        | none=>rw [hcs] at h2;simp at h2
        | some cs =>
          rw [hcs] at h2
          simp only [Option.bind_some] at h2
          obtain ⟨g1,g2⟩:=cells?_get hcs
          have g3:=g2 0 (by omega)
          rw [add_none,add_none,Nat.add_zero,hc] at g3
          have hcs1:cs=[.slice a' l c]:=by
            match cs,g1,g3 with
            | [y],_,g3=>simp at g3;rw [g3]
          rw [hcs1] at h2
          refine byte_row h2 fun w hw2=>hw w ?_
          rw [DataW.weights,Tryd.underlying22]
          dsimp only
          refine List.mem_cons_of_mem _ (List.mem_append_left _ (weights_mem (i:=i) (d:=di) ?_ w hw2))
          rw [List.getElem?_map,h1]
          rfl
    · cases h
theorem rel_leavesB {v:Value} {d:DataW H} {ps:List MemPlace} {base:Nat} (hval:Value.okWide Tryd.prog W .any base 48 v) (h:DataW.Trod enc Tryd.prog W 0 (fun _=>true) true 48 v d ps) (hw : ∀ w∈d.weights Tryd.prog 48,w≤reachBytes) :
    ∃ (l:List Int) (q:List By),l.length≤9223372036854775807∧q.length≤9223372036854775807∧Short q∧RelV σ0 H0 W (.p (.agg [.sl false 1 (pl i64 l),.sl false 1 (pl bs q)])) v:=by
  obtain ⟨l,q,h1,_,h2,_,e⟩:=rel_leaves hval h
  refine ⟨l,q,h1,h2,?_,e⟩
  cases e with | p e =>
  generalize hx:[PV.sl false 1 (pl i64 l),PV.sl false 1 (pl bs q)]=xs at e
  cases e with | agg _ vs hl h1 hr =>
  subst hx
  have hl2:vs.size=2:=hl
  have e1:=hr 1 _ vs[1] rfl (by simp)
  obtain ⟨fuel,hf⟩:=h
  cases fuel with
  | zero=>simp [DataW.trod] at hf
  | succ fuel =>
    unfold DataW.trod at hf
    rw [Tryd.underlying48] at hf
    generalize hfs : (#[⟨"Index", 26, 0, false, "", "", 0⟩, ⟨"B", 22, 1, false, "", "", 24⟩] : Array Field) = fs at hf
    replace hf:(if (Value.agg vs).cells.toList.length=Tryd.prog.cellsOf 48 then (fs.toList.mapM fun f=>DataW.trod enc Tryd.prog W 0 (fun _=>true) true fuel f.type (((Value.agg vs).cells.toList.drop f.offset).take (Tryd.prog.cellsOf f.type))).map fun xs=>(.agg (xs.map (·.1)),xs.flatMap (·.2)) else none)=some (d,ps):=hf
    split at hf
    · cases hm:(fs.toList.mapM fun f=>DataW.trod enc Tryd.prog W 0 (fun _=>true) true fuel f.type (((Value.agg vs).cells.toList.drop f.offset).take (Tryd.prog.cellsOf f.type))) with
      | none=>rw [hm] at hf;simp at hf
      | some ys =>
        rw [hm] at hf
        simp only [Option.map_some,Option.some.injEq,Prod.mk.injEq] at hf
        obtain ⟨rfl,_⟩:=hf
        obtain ⟨hyl,hget⟩:=mapM_get hm
        subst hfs
        obtain ⟨⟨d1,p1⟩,g1,g2⟩:=hget 1 _ rfl
        obtain ⟨⟨d0,p0⟩,g3,g4⟩:=hget 0 _ rfl
        have hys:ys=[(d0,p0),(d1,p1)]:=by
          match ys,hyl,g1,g3 with
          | [a,b],_,g1,g3=>simp at g1 g3;rw [g1,g3]
        subst hys
        have hcs:(((Value.agg vs).cells.toList.drop 1).take (Tryd.prog.cellsOf 22))=[vs[1]]:=by
          rw [cells22]
          show (vs.toList.drop 1).take 1=[vs[1]]
          rw [List.drop_eq_getElem_cons (by rw [Array.length_toList];omega)]
          simp
        dsimp only at g2
        rw [hcs] at g2
        have hw1 : ∀ w∈d1.weights Tryd.prog 22,w≤reachBytes:=fun w h=>hw w (by
          rw [DataW.weights,Tryd.underlying48]
          show w∈DataW.weightsEach Tryd.prog [26,22] [d0,d1]
          rw [DataW.weightsEach,DataW.weightsEach]
          exact List.mem_append_right _ (List.mem_append_left _ h))
        intro i hi
        generalize vs[1]=u at e1 g2
        generalize hz:pl bs q=z at e1
        have hzl:z.length=q.length:=by rw [←hz,pl_len]
        cases e1 with
        | emp _ _ a cap=>simp at hzl;omega
        | sl _ _ _ g off cap f hfl hcap hsz hrd hc =>
          rw [hzl] at g2
          obtain ⟨_,hcell,_⟩:=hrd i (by omega)
          have hfk:(flat z)[i]? = some (bs (nth q i)):=by
            rw [←hz]
            have hfz : ∀ L:List By,flat (pl bs L)=pl bs L:=by
              intro L
              induction L with
              | nil=>rfl
              | cons x L ih =>
                have e:flat (pl bs (x :: L))=bs x :: flat (pl bs L):=rfl
                rw [e,ih];rfl
            rw [hfz,pl,List.getElem?_map,List.getElem?_eq_getElem hi]
            have:nth q i=q[i]:=by simp [nth,hi]
            rw [this];rfl
          have hrel:=hc i _ hfk
          have hb:=rows_bound g2 hw1 i hi
          generalize f i=y at hcell hrel
          have key : ∀ a' l c,y = .slice a' l c → l≤reachBytes:=fun a' l c e=>hb a' l c (by rw [hcell,e])
          generalize nth q i=x at hrel ⊢
          have hxl:(pl b8 x).length=x.length:=pl_len
          have hbx:bs x = .sl false 1 (pl b8 x):=rfl
          rw [hbx] at hrel
          generalize pl b8 x=px at hrel hxl
          have hr2:reachBytes=140737488351232:=rfl
          cases hrel with
          | emp _ _ a cap=>simp at hxl;omega
          | sl _ _ _ g off cap f=>have:=key _ _ _ rfl;omega
    · cases hf
end bound
end Go.Proofs.YthonhnpiglafkaaDoor
