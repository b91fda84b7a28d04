/- Proofs. -/
import Derived.Test.YthaoifcebimkfaaGreatDoorPkE2
set_option linter.unusedSectionVars false
set_option linter.unusedSimpArgs false
set_option linter.unusedVariables false
namespace Go.AL
open Go Go.ChangeShapes Go.WideShapes Go.ChangeAt Go.RowKit

def zbw (b:Bool) (ys:List PV):PV:=if b then .agg ys else ys.headD (.agg [])

def zdJ (P:Program):Nat → List Field → Option Nat
 | o,[]=>some o
 | o,f :: fs=>if f.offset=o then zdJ P (o+P.cellsOf f.type) fs else none

def zbW (P:Program):Nat → TypeId → Bool
 | 0,_=>false
 | k+1,t=>match P.underlying t with
  | some .bool | some (.int _) | some .string=>true
  | some (.slice e)=>zbW P k e && (decide (0 < P.cellsOf e) && (yr P e || P.cellsOf e == 1))
  | some (.struct fs)=>fs.toList.all (fun f=>zbW P k f.type) && zdJ P 0 fs.toList == some (P.cellsOf t)
  | some (.array n e)=>zbW P k e && n*P.cellsOf e == P.cellsOf t
  | _=>false

def zkN (R:TypeId → List PV → Prop) (P:Program):List Field → List PV → Prop
 | [],xs=>xs=[]
 | f :: fs,xs => ∃ ys zs,xs=ys++zs∧ys.length=P.cellsOf f.type∧R f.type ys∧zkN R P fs zs

def Reads (P:Program):Nat → TypeId → List PV → Prop
 | 0,_,_=>False
 | k+1,t,xs=>match P.underlying t with
  | some .bool => ∃ b,xs=[.s (.bool b)]
  | some (.int κ) => ∃ n,(Lit.int κ n).wf=true∧xs=[.s (.int κ n)]
  | some .string => ∃ s:ByteArray,s.size≤maxLen∧xs=[.s (.string s)]
  | some (.slice e) => ∃ yss:List (List PV),yss.length≤maxLen∧(∀ y∈yss,y.length=P.cellsOf e∧Reads P k e y)∧xs=[.sl false (P.cellsOf e) (yss.map (zbw (yr P e)))]
  | some (.struct fs)=>zkN (Reads P k) P fs.toList xs
  | some (.array n e) => ∃ yss:List (List PV),yss.length=n∧(∀ y∈yss,y.length=P.cellsOf e∧Reads P k e y)∧xs=yss.flatten
  | _=>False

def RowP (W:World) (xs:List PV) (cs:List Value):Prop :=
 xs.length=cs.length ∧ ∀ (i:Nat) x v,xs[i]? = some x → cs[i]? = some v → RelP W (Stable σ0 H0) x v∧v.oneCell'=true∧x.isAgg=false

section gen
variable {H:Type} {enc:TypeId × Value → H} {P:Program} {W:World} {sp:Nat → Bool} {held:Bool} {base:Nat}

theorem RowP.nil:RowP W [] []:=⟨rfl,fun i x v h=>by simp at h⟩
theorem RowP.one {x:PV} {v:Value} (h:RelP W (Stable σ0 H0) x v) (h1:v.oneCell'=true) (h2:x.isAgg=false):RowP W [x] [v] :=
 ⟨rfl,fun i y u hy hu=>by
  have hi:i < 1:=by simpa using (List.getElem?_eq_some_iff.1 hy).1
  have:i=0:=by omega
  subst this;simp at hy hu;subst hy;subst hu
  exact⟨h,h1,h2⟩⟩
theorem RowP.append {xs ys:List PV} {cs ds:List Value} (h:RowP W xs cs) (h':RowP W ys ds):RowP W (xs++ys) (cs++ds):=by
 refine⟨by simp [h.1,h'.1],fun i x v hx hv => ?_⟩
 by_cases hi:i < xs.length
 · rw [List.getElem?_append_left hi] at hx;rw [List.getElem?_append_left (by rw [←h.1];exact hi)] at hv;exact h.2 i x v hx hv
 · rw [List.getElem?_append_right (by omega)] at hx;rw [List.getElem?_append_right (by rw [←h.1];omega),←h.1] at hv;exact h'.2 _ x v hx hv

theorem zfi {α β:Type} {f:α → Option β} : ∀ {l:List α} {ys:List β},l.mapM f=some ys → ys.length=l.length ∧ ∀ (i:Nat) x,l[i]? = some x → ∃ y,ys[i]? = some y∧f x=some y
 | [],ys,h=>by simp at h;subst h;exact⟨rfl,fun i x h=>by simp at h⟩
 | a :: l,ys,h=>by
  rw [List.mapM_cons] at h
  cases ha:f a with
  | none=>simp [ha] at h
  | some b =>
   cases hl:l.mapM f with
   | none=>simp [ha,hl] at h
   | some bs =>
    simp [ha,hl] at h;subst h
    obtain⟨h1,h2⟩:=zfi hl
    refine⟨by simp [h1],fun i x hx => ?_⟩
    cases i with
    | zero=>simp at hx;subst hx;exact⟨b,rfl,ha⟩
    | succ i=>simp at hx;simpa using h2 i x hx

theorem list_of' {α:Type} {p:Nat → α → Prop} : ∀ (n:Nat),(∀ i,i < n → ∃ x,p i x) → ∃ l:List α,l.length=n ∧ ∀ (i:Nat) x,l[i]? = some x → p i x
 | 0,_=>⟨[],rfl,fun i x h=>by simp at h⟩
 | n+1,h=>by
  obtain⟨l,h1,h2⟩:=list_of' n fun i hi=>h i (by omega)
  obtain⟨x,hx⟩:=h n (by omega)
  refine⟨l++[x],by simp [h1],fun i y hy => ?_⟩
  by_cases hi:i < l.length
  · rw [List.getElem?_append_left hi] at hy;exact h2 i y hy
  · rw [List.getElem?_append_right (by omega)] at hy
    have hl:i - l.length < 1:=by have:=(List.getElem?_eq_some_iff.1 hy).1;simpa using this
    have:i=n:=by omega
    subst this;rw [h1,Nat.sub_self] at hy;simp at hy;subst hy;exact hx

theorem zcj {α:Type} {c:Nat} : ∀ {yss:List (List α)} {k:Nat} {z:α},(∀ y∈yss,y.length=c) → yss.flatten[k]? = some z → ∃ i j y,i < yss.length∧j < c∧k=i*c+j∧yss[i]? = some y∧y[j]? = some z
 | [],k,z,_,h=>by simp at h
 | y :: yss,k,z,hc,h=>by
  have hy:y.length=c:=hc y (by simp);rw [List.flatten_cons] at h;by_cases hk:k < c
  · rw [List.getElem?_append_left (by omega)] at h
    exact⟨0,k,y,by simp,hk,by omega,rfl,h⟩
  · rw [List.getElem?_append_right (by omega),hy] at h
    obtain⟨i,j,y',h1,h2,h3,h4,h5⟩:=zcj (fun y hy=>hc y (by simp [hy])) h
    exact⟨i+1,j,y',by simp;omega,h2,by rw [Nat.add_mul];omega,by simpa using h4,h5⟩

theorem zdK {α:Type} {c:Nat} : ∀ {yss:List (List α)},(∀ y∈yss,y.length=c) → yss.flatten.length=yss.length*c
 | [],_=>by simp
 | y :: yss,hc=>by
  rw [List.flatten_cons,List.length_append,hc y (by simp),zdK (fun y hy=>hc y (by simp [hy])),List.length_cons,Nat.add_mul];omega

theorem zmP {b:Bool} {y:List PV} (h:b=true ∨ (y.length=1 ∧ ∀ x∈y,x.isAgg=false)):(zbw b y).cells=y:=by
 rcases h with rfl | ⟨h1,h2⟩
 · rfl
 · cases b
   · match y,h1 with
     | [x],_ =>
      have:=h2 x (by simp)
      cases x<;>simp [PV.isAgg] at this<;>rfl
   · rfl

theorem cells?_get {a:Addr} {n:Nat} {cs:List Value} (h:W.cells? base a n=some cs):cs.length=n ∧ ∀ j,j < n → W.cell? (a.add j)=cs[j]? := by
 unfold World.cells? at h;split at h
 · obtain⟨h1,h2⟩:=zfi h
   rw [List.length_range] at h1
   refine⟨h1,fun j hj => ?_⟩
   obtain⟨y,hy,hf⟩:=h2 j j (by simp [hj])
   rw [hy,hf]
 · cases h

theorem zuA {a:Addr} {v:Value} (h:W.cell? a=some v):a.spot=none:=by
 unfold World.cell? at h;split at h
 · split at h
   · cases h
   · rename_i hs;cases hx:a.spot<;>simp_all
 · cases h

theorem zjr : ∀ {fs:List Field} {o m:Nat},zdJ P o fs=some m → o≤m
 | [],o,m,h=>by simp [zdJ] at h;omega
 | f :: fs,o,m,h=>by
  simp only [zdJ] at h;split at h
  · have:=zjr h;omega
  · cases h

theorem zp7 {e:TypeId} {k:Nat} {g off cap:Nat} {c:Nat} {b:Bool} {yss:List (List PV)} (hc:0 < c) (hb:b=true ∨ c=1) (hl:yss.length≤cap) (hcap:cap≤maxLen)
 (h : ∀ (i:Nat) y,yss[i]? = some y → ∃ cs,y.length=c∧(∀ j,j < c → W.cell? ⟨g,off+(i*c+j),none⟩=cs[j]?)∧RowP W y cs) :
 RelP W (Stable σ0 H0) (.sl false c (yss.map (zbw b))) (.slice (some ⟨g,off,none⟩) yss.length cap):=by
 have hlen : ∀ y∈yss,y.length=c:=fun y hy=>by
  obtain⟨i,hi⟩:=List.getElem?_of_mem hy
  obtain⟨cs,h1,_⟩:=h i y hi
  exact h1
 have hagg : ∀ y∈yss,∀ x∈y,x.isAgg=false:=fun y hy x hx=>by
  obtain⟨i,hi⟩:=List.getElem?_of_mem hy
  obtain⟨cs,h1,h2,h3⟩:=h i y hi
  obtain⟨j,hj⟩:=List.getElem?_of_mem hx
  have hjl:j < cs.length:=by rw [←h3.1];exact (List.getElem?_eq_some_iff.1 hj).1
  exact (h3.2 j x cs[j] hj (by simp [hjl])).2.2
 have hpk : ∀ y∈yss,(zbw b y).cells=y:=fun y hy=>zmP (by
  rcases hb with hb | hb
  · exact .inl hb
  · exact .inr ⟨by rw [hlen y hy,hb],hagg y hy⟩)
 have hflat:flat (yss.map (zbw b))=yss.flatten:=by
  unfold flat;rw [List.flatMap_map,←List.flatMap_id]
  have : ∀ l:List (List PV),(∀ y∈l,(zbw b y).cells=y) → l.flatMap (fun y=>(zbw b y).cells)=l.flatMap id:=by
   intro l
   induction l with
   | nil=>intro _;rfl
   | cons a l ih=>intro hl;rw [List.flatMap_cons,List.flatMap_cons,ih (fun y hy=>hl y (by simp [hy])),hl a (by simp)];rfl
  exact this yss hpk
 have key : ∀ q,q < yss.length*c → ∃ v,W.cell? ⟨g,off+q,none⟩=some v∧v.oneCell'=true:=fun q hq=>by
  have hq':q < yss.flatten.length:=by rw [zdK hlen];exact hq
  obtain⟨i,j,y,h1,h2,h3,h4,h5⟩:=zcj hlen (List.getElem?_eq_getElem hq')
  obtain⟨cs,g1,g2,g3⟩:=h i y h4
  have hj:j < cs.length:=by rw [←g3.1,g1];exact h2
  have:=g2 j h2
  rw [List.getElem?_eq_getElem hj] at this
  exact⟨cs[j],by rw [h3];exact this,(g3.2 j _ _ h5 (List.getElem?_eq_getElem hj)).2.1⟩
 have:=RelP.sl (w:=W) (S:=Stable σ0 H0) false c (yss.map (zbw b)) g off cap (fun q=>(W.cell? ⟨g,off+q,none⟩).getD .nilFunc) (by simp) ⟨by simpa using hl,hcap⟩
  (fun x hx=>by
   obtain⟨y,hy,rfl⟩:=List.mem_map.1 hx
   rw [hpk y hy];exact hlen y hy)
  (fun q hq=>by
   rw [List.length_map] at hq
   obtain⟨v,h1,h2⟩:=key q hq
   rw [h1]
   exact⟨zsh _ _,rfl,h2⟩)
  (fun q z hz=>by
   rw [hflat] at hz
   obtain⟨i,j,y,h1,h2,h3,h4,h5⟩:=zcj hlen hz
   obtain⟨cs,g1,g2,g3⟩:=h i y h4
   have hj:j < cs.length:=by rw [←g3.1,g1];exact h2
   have:=g2 j h2
   rw [List.getElem?_eq_getElem hj] at this;rw [h3,this]
   exact (g3.2 j _ _ h5 (List.getElem?_eq_getElem hj)).1)
 rwa [List.length_map] at this

theorem zgk {k fuel:Nat} {cs:List Value} {m:Nat} (hm:cs.length=m)
 (ih : ∀ (t:TypeId) (cs:List Value) (d:DataW H) (ps:List MemPlace),zbW P k t=true → DataW.trod enc P W base sp held fuel t cs=some (d,ps) → ∃ xs,RowP W xs cs∧Reads P k t xs) :
 ∀ (fs:List Field) (o:Nat) (ys:List (DataW H × List MemPlace)),(fs.all fun f=>zbW P k f.type)=true → zdJ P o fs=some m →
  (fs.mapM fun f=>DataW.trod enc P W base sp held fuel f.type ((cs.drop f.offset).take (P.cellsOf f.type)))=some ys → ∃ xs,RowP W xs (cs.drop o)∧zkN (Reads P k) P fs xs
 | [],o,ys,_,hc,_=>by
  simp only [zdJ,Option.some.injEq] at hc
  exact⟨[],by rw [List.drop_of_length_le (by omega)];exact RowP.nil,rfl⟩
 | f :: fs,o,ys,hp,hc,h=>by
  simp only [List.all_cons,Bool.and_eq_true] at hp;simp only [zdJ] at hc;split at hc
  · rename_i ho;have hle:=zjr hc;rw [List.mapM_cons] at h
    cases hf:DataW.trod enc P W base sp held fuel f.type ((cs.drop f.offset).take (P.cellsOf f.type)) with
    | none=>simp [hf] at h
    | some y =>
     cases hr:(fs.mapM fun f=>DataW.trod enc P W base sp held fuel f.type ((cs.drop f.offset).take (P.cellsOf f.type))) with
     | none=>simp [hf,hr] at h
     | some zs =>
      obtain⟨d,ps⟩:=y
      obtain⟨xs,h1,h2⟩:=ih _ _ _ _ hp.1 hf
      obtain⟨xs',h3,h4⟩:=zgk hm ih fs _ zs hp.2 hc hr
      rw [ho] at h1
      have hcat:cs.drop o=(cs.drop o).take (P.cellsOf f.type)++cs.drop (o+P.cellsOf f.type):=by
       rw [←List.drop_drop,List.take_append_drop]
      refine⟨xs++xs',by rw [hcat];exact h1.append h3,xs,xs',rfl,?_,h2,h4⟩
      rw [h1.1,List.length_take,List.length_drop];omega
  · cases hc

theorem zuB {k:Nat} {t:TypeId} {xs:List PV} (h:Reads P k t xs) (ha:yr P t=false):xs.length=1:=by
 cases k with
 | zero=>exact h.elim
 | succ k =>
  unfold Reads at h;unfold yr at ha;split at h
  · obtain⟨_,rfl⟩:=h;rfl
  · obtain⟨_,_,rfl⟩:=h;rfl
  · obtain⟨_,_,rfl⟩:=h;rfl
  · obtain⟨_,_,_,rfl⟩:=h;rfl
  · rename_i hu;rw [hu] at ha;simp [z8] at ha
  · rename_i hu;rw [hu] at ha;simp [z8] at ha
  · exact h.elim

theorem zcY : ∀ (k fuel:Nat) (t:TypeId) (cs:List Value) (d:DataW H) (ps:List MemPlace),zbW P k t=true → DataW.trod enc P W base sp held fuel t cs=some (d,ps) → ∃ xs,RowP W xs cs∧Reads P k t xs
 | 0,_,_,_,_,_,hp,_=>by simp [zbW] at hp
 | _+1,0,_,_,_,_,_,h=>by simp [DataW.trod] at h
 | k+1,fuel+1,t,cs,d,ps,hp,h=>by
  unfold zbW at hp;unfold Reads
  cases hu:P.underlying t with
  | none=>simp [hu] at hp
  | some desc =>
   rw [hu] at hp;unfold DataW.trod at h;rw [hu] at h
   cases desc<;>simp only [Bool.false_eq_true] at hp
   case bool =>
    split at h<;>first | (cases h;done) | skip
    all_goals (rename_i heq;cases heq)
    exact⟨_,RowP.one (.s _ rfl) rfl rfl,_,rfl⟩
   case int κ =>
    split at h<;>first | (cases h;done) | skip
    all_goals (rename_i heq;cases heq)
    split at h
    · rename_i hw
      obtain⟨rfl,hw⟩:=hw
      exact⟨_,RowP.one (.s _ rfl) rfl rfl,_,hw,rfl⟩
    · cases h
   case string =>
    split at h<;>first | (cases h;done) | skip
    all_goals (rename_i heq;cases heq)
    split at h
    · rename_i hw
      exact⟨_,RowP.one (.s _ rfl) rfl rfl,_,hw,rfl⟩
    · cases h
   case slice e =>
    simp only [Bool.and_eq_true,decide_eq_true_eq,Bool.or_eq_true,beq_iff_eq] at hp
    obtain⟨hp,hc,hb⟩:=hp
    split at h<;>first | (cases h;done) | skip
    all_goals (rename_i heq;cases heq)
    · exact⟨_,RowP.one (.nil false (P.cellsOf e)) rfl rfl,[],by simp,by simp,rfl⟩
    · rename_i a len cap;dsimp only at h;split at h
      · rename_i hcond
        obtain⟨hbase,hlc,hcm⟩:=hcond
        cases hm:(List.range len).mapM fun i=>(W.cells? base (a.add (i*P.cellsOf e)) (P.cellsOf e)).bind (DataW.trod enc P W base sp held fuel e) with
        | none=>rw [hm] at h;simp at h
        | some elems =>
         obtain⟨_,hget⟩:=zfi hm
         have hel : ∀ i,i < len → ∃ y:List PV,∃ cs,W.cells? base (a.add (i*P.cellsOf e)) (P.cellsOf e)=some cs∧RowP W y cs∧Reads P k e y:=fun i hi=>by
          obtain⟨z,_,hz⟩:=hget i i (by simp [hi])
          cases hcs:W.cells? base (a.add (i*P.cellsOf e)) (P.cellsOf e) with
          | none=>rw [hcs] at hz;simp at hz
          | some cs =>
           rw [hcs] at hz;simp only [Option.bind_some] at hz
           obtain⟨zd,zp⟩:=z
           obtain⟨y,h1,h2⟩:=zcY k fuel e cs zd zp hp hz
           exact⟨y,cs,rfl,h1,h2⟩
         obtain⟨yss,hyl,hy⟩:=list_of' len hel
         have hspot:0 < len → a.spot=none:=fun hl=>by
          obtain⟨y,cs,hcs,_,_⟩:=hel 0 hl
          obtain⟨g1,g2⟩:=cells?_get hcs
          have:=g2 0 hc
          rw [List.getElem?_eq_getElem (by omega)] at this;simp only [Nat.zero_mul] at this;have hs:=zuA this
          simpa [Addr.add] using hs
         refine⟨[.sl false (P.cellsOf e) (yss.map (zbw (yr P e)))],RowP.one ?_ rfl rfl,yss,by omega,fun y hym => ?_,rfl⟩
         · rcases Nat.eq_zero_or_pos len with h0 | h0
           · subst h0
             have:yss=[]:=List.length_eq_zero_iff.1 hyl
             subst this;exact .emp _ _ _ _ (fun h=>by cases h) hcm
           · have hs:=hspot h0
             obtain⟨g,off,spot⟩:=a
             simp only at hs;subst hs
             have:=zp7 (W:=W) (g:=g) (off:=off) (cap:=cap) (c:=P.cellsOf e) (b:=yr P e) (yss:=yss) (e:=e) (k:=k) hc hb (by omega) hcm (fun i y hi=>by
              obtain⟨cs,h1,h2,h3⟩:=hy i y hi
              obtain⟨g1,g2⟩:=cells?_get h1
              refine⟨cs,by rw [h2.1,g1],fun j hj => ?_,h2⟩
              have:=g2 j hj
              rw [zE,zE,Nat.add_assoc] at this
              exact this)
             rwa [hyl] at this
         · obtain⟨i,hi⟩:=List.getElem?_of_mem hym
           obtain⟨cs,h1,h2,h3⟩:=hy i y hi
           obtain⟨g1,_⟩:=cells?_get h1
           exact⟨by rw [h2.1,g1],h3⟩
      · cases h
   case struct fs =>
    simp only [Bool.and_eq_true,beq_iff_eq] at hp;replace h:(if cs.length=P.cellsOf t then (fs.toList.mapM fun f=>DataW.trod enc P W base sp held fuel f.type ((cs.drop f.offset).take (P.cellsOf f.type))).map fun xs=>(.agg (xs.map (·.1)),xs.flatMap (·.2)) else none)=some (d,ps):=h;split at h
    · rename_i hl
      cases hm:(fs.toList.mapM fun f=>DataW.trod enc P W base sp held fuel f.type ((cs.drop f.offset).take (P.cellsOf f.type))) with
      | none=>rw [hm] at h;simp at h
      | some ys =>
       obtain⟨xs,h1,h2⟩:=zgk hl (fun t cs d ps=>zcY k fuel t cs d ps) fs.toList 0 ys hp.1 hp.2 hm
       exact⟨xs,h1,h2⟩
    · cases h
   case array n e =>
    simp only [Bool.and_eq_true,beq_iff_eq] at hp;replace h:(if cs.length=P.cellsOf t then ((List.range n).mapM fun i=>DataW.trod enc P W base sp held fuel e ((cs.drop (i*P.cellsOf e)).take (P.cellsOf e))).map fun xs=>(.agg (xs.map (·.1)),xs.flatMap (·.2)) else none)=some (d,ps):=h;split at h
    · rename_i hl
      cases hm:(List.range n).mapM fun i=>DataW.trod enc P W base sp held fuel e ((cs.drop (i*P.cellsOf e)).take (P.cellsOf e)) with
      | none=>rw [hm] at h;simp at h
      | some ys =>
       obtain⟨_,hget⟩:=zfi hm
       have hel : ∀ i,i < n → ∃ y:List PV,RowP W y ((cs.drop (i*P.cellsOf e)).take (P.cellsOf e))∧Reads P k e y:=fun i hi=>by
        obtain⟨z,_,hz⟩:=hget i i (by simp [hi])
        obtain⟨zd,zp⟩:=z
        exact zcY k fuel e _ zd zp hp.1 hz
       obtain⟨yss,hyl,hy⟩:=list_of' n hel
       have hsub : ∀ i,i < n → i*P.cellsOf e+P.cellsOf e≤cs.length:=fun i hi=>by
        rw [hl,←hp.2]
        have:=Nat.mul_le_mul_right (P.cellsOf e) (show i+1≤n by omega)
        rw [Nat.add_mul] at this;omega
       have hlen : ∀ y∈yss,y.length=P.cellsOf e:=fun y hym=>by
        obtain⟨i,hi⟩:=List.getElem?_of_mem hym
        have hin:i < n:=by rw [←hyl];exact (List.getElem?_eq_some_iff.1 hi).1
        obtain⟨h1,_⟩:=hy i y hi
        rw [h1.1,List.length_take,List.length_drop]
        have:=hsub i hin
        omega
       refine⟨yss.flatten,⟨by rw [zdK hlen,hyl,hl,hp.2],fun q x v hx hv => ?_⟩,yss,hyl,fun y hym=>⟨hlen y hym,?_⟩,rfl⟩
       · obtain⟨i,j,y,h1,h2,h3,h4,h5⟩:=zcj hlen hx
         obtain⟨g1,_⟩:=hy i y h4
         refine g1.2 j x v h5 ?_;rw [List.getElem?_take_of_lt h2,List.getElem?_drop,←h3];exact hv
       · obtain⟨i,hi⟩:=List.getElem?_of_mem hym
         exact (hy i y hi).2
    · cases h

theorem zhI {t:TypeId} {v:Value} {d:DataW H} {ps:List MemPlace} (k:Nat) (hp:zbW P k t=true) (hval:Value.okWide P W .any base t v) (h:DataW.Trod enc P W 0 (fun _=>true) true t v d ps) :
 ∃ xs,Reads P k t xs∧RelV σ0 H0 W (.p (zbw (yr P t) xs)) v:=by
 obtain⟨fuel,hf⟩:=h
 obtain⟨xs,h1,h2⟩:=zcY k fuel t _ d ps hp hf
 refine⟨xs,h2,.p ?_⟩
 cases hu:P.underlying t with
 | none=>cases k<;>simp [zbW,hu] at hp
 | some desc =>
  by_cases ha:z8 desc=true
  · have hb:yr P t=true:=by simp [yr,hu,ha]
    rw [hb]
    have : ∃ cs,v = .agg cs:=by
     simp only [Value.okWide,hu] at hval
     cases desc<;>simp [z8] at ha
     all_goals obtain⟨cs,rfl,_⟩:=hval;exact⟨cs,rfl⟩
    obtain⟨cs,rfl⟩:=this
    have hcs:(Value.agg cs).cells.toList=cs.toList:=rfl;rw [hcs] at h1
    show RelP W _ (.agg xs) _
    refine .agg xs cs (by rw [h1.1];simp) (fun i u hu => ?_) fun i x u hx hu=>(h1.2 i x u hx (by simpa using hu)).1
    have hi:i < xs.length:=by rw [h1.1];simpa using (Array.getElem?_eq_some_iff.1 hu).1
    exact (h1.2 i xs[i] u (List.getElem?_eq_getElem hi) (by simpa using hu)).2.1
  · have hb:yr P t=false:=by simp only [yr,hu];simpa using ha
    rw [hb];have hl:=zuB h2 hb
    match xs,hl with
    | [x],_ =>
     have hcell:v.cells.toList=[v]:=by
      cases v with
      | agg cs =>
       exfalso
       simp only [Value.okWide,hu] at hval
       cases desc<;>simp [z8] at ha
       all_goals simp [Cell.okWide,Cell.ok,hu] at hval
       all_goals (cases k<;>simp [zbW,hu] at hp)
      | _=>rfl
     rw [hcell] at h1;exact (h1.2 0 x v rfl rfl).1
end gen

section typed
variable {P:Program} {k:Nat} {t e:TypeId} {xs:List PV}
theorem Reads.i64 (hu:P.underlying t=some (.int .i64)) (h:Reads P (k+1) t xs) : ∃ z:Int,-9223372036854775808≤z∧z≤9223372036854775807∧xs=[i64 z]:=by
 simp only [Reads,hu] at h
 obtain⟨n,hw,rfl⟩:=h
 simp only [Lit.wf,Bool.and_eq_true,decide_eq_true_eq] at hw
 have h1:IntKind.i64.min = -9223372036854775808:=by decide
 have h2:IntKind.i64.max=9223372036854775807:=by decide
 rw [h1,h2] at hw
 exact⟨n,hw.1,hw.2,rfl⟩
theorem wf_bits {κ:IntKind} {w:Nat} {n:Int} (h1:κ.min=0) (h2:κ.max=2 ^ w - 1) (h:(Lit.int κ n).wf=true):((BitVec.ofInt w n).toNat:Int)=n:=by
 simp only [Lit.wf,Bool.and_eq_true,decide_eq_true_eq] at h;rw [h1,h2] at h;rw [BitVec.toNat_ofInt]
 have hp:((2 ^ w:Nat):Int)=2 ^ w:=by simp
 have:n % (2 ^ w:Nat)=n:=Int.emod_eq_of_lt h.1 (by omega)
 rw [this];omega
theorem Reads.u8 (hu:P.underlying t=some (.int .u8)) (h:Reads P (k+1) t xs) : ∃ b:BitVec 8,xs=[b8 b]:=by
 simp only [Reads,hu] at h
 obtain⟨n,hw,rfl⟩:=h
 exact⟨BitVec.ofInt 8 n,by rw [b8,wf_bits (w:=8) (by decide) (by decide) hw]⟩
theorem Reads.u16 (hu:P.underlying t=some (.int .u16)) (h:Reads P (k+1) t xs) : ∃ b:BitVec 16,xs=[w16 b]:=by
 simp only [Reads,hu] at h
 obtain⟨n,hw,rfl⟩:=h
 exact⟨BitVec.ofInt 16 n,by rw [w16,wf_bits (w:=16) (by decide) (by decide) hw]⟩
theorem Reads.u32 (hu:P.underlying t=some (.int .u32)) (h:Reads P (k+1) t xs) : ∃ b:BitVec 32,xs=[w32 b]:=by
 simp only [Reads,hu] at h
 obtain⟨n,hw,rfl⟩:=h
 exact⟨BitVec.ofInt 32 n,by rw [w32,wf_bits (w:=32) (by decide) (by decide) hw]⟩
theorem Reads.u64 (hu:P.underlying t=some (.int .u64)) (h:Reads P (k+1) t xs) : ∃ b:BitVec 64,xs=[zg b]:=by
 simp only [Reads,hu] at h
 obtain⟨n,hw,rfl⟩:=h
 exact⟨BitVec.ofInt 64 n,by rw [zg,wf_bits (w:=64) (by decide) (by decide) hw]⟩

theorem zjs {α:Type} {enc:α → PV} {Q:α → Prop} {b:Bool} : ∀ {yss:List (List PV)},(∀ y∈yss,∃ a,zbw b y=enc a∧Q a) → ∃ l:List α,l.length=yss.length∧yss.map (zbw b)=pl enc l ∧ ∀ a∈l,Q a
 | [],_=>⟨[],rfl,rfl,by simp⟩
 | y :: yss,h=>by
  obtain⟨a,ha,hq⟩:=h y (by simp)
  obtain⟨l,h1,h2,h3⟩:=zjs (enc:=enc) (Q:=Q) (b:=b) (yss:=yss) fun y hy=>h y (by simp [hy])
  exact⟨a :: l,by simp [h1],by simp only [List.map_cons,pl,ha];rw [h2];rfl,fun x hx=>by rcases List.mem_cons.1 hx with rfl | hx;exact hq;exact h3 x hx⟩

theorem Reads.sl {α:Type} {c:Nat} {b:Bool} (enc:α → PV) (Q:α → Prop) (hu:P.underlying t=some (.slice e)) (hc:P.cellsOf e=c) (hb:yr P e=b) (h:Reads P (k+1) t xs) (he : ∀ y,Reads P k e y → ∃ a,zbw b y=enc a∧Q a) :
 ∃ l:List α,l.length≤9223372036854775807∧xs=[.sl false c (pl enc l)] ∧ ∀ a∈l,Q a:=by
 simp only [Reads,hu,hc,hb] at h
 obtain⟨yss,hl,hy,rfl⟩:=h
 obtain⟨l,h1,h2,h3⟩:=zjs (enc:=enc) (Q:=Q) (b:=b) (yss:=yss) fun y hm=>he y (hy y hm).2
 unfold maxLen at hl
 exact⟨l,by omega,by rw [h2],h3⟩

theorem zjt {α:Type} {enc:α → PV} : ∀ {yss:List (List PV)},(∀ y∈yss,∃ a,y=[enc a]) → ∃ l:List α,l.length=yss.length∧yss.flatten=pl enc l
 | [],_=>⟨[],rfl,rfl⟩
 | y :: yss,h=>by
  obtain⟨a,rfl⟩:=h y (by simp)
  obtain⟨l,h1,h2⟩:=zjt (enc:=enc) (yss:=yss) fun y hy=>h y (by simp [hy])
  exact⟨a :: l,by simp [h1],by rw [List.flatten_cons,h2];rfl⟩

theorem Reads.struct {fs:Array Field} (hu:P.underlying t=some (.struct fs)) (h:Reads P (k+1) t xs):zkN (Reads P k) P fs.toList xs:=by
 simp only [Reads,hu] at h;exact h

theorem Reads.arr {α:Type} {n:Nat} (enc:α → PV) (hu:P.underlying t=some (.array n e)) (h:Reads P (k+1) t xs) (he : ∀ y,Reads P k e y → ∃ a,y=[enc a]) :
 ∃ l:List α,l.length=n∧xs=pl enc l:=by
 simp only [Reads,hu] at h
 obtain⟨yss,hl,hy,rfl⟩:=h
 obtain⟨l,h1,h2⟩:=zjt (enc:=enc) (yss:=yss) fun y hm=>he y (hy y hm).2
 exact⟨l,by omega,h2⟩
end typed
end Go.AL

namespace Go.AL
open Go


def zeM:Op → Bool
 | .move _ | .assign _ | .load .. | .build .. | .nilCheck _ | .binOp .. | .unOp .. | .convert .. | .makeInterface .. | .makeFunc .. | .slice .. | .fieldAddr .. | .field .. | .indexAddr .. | .index .. | .extract .. | .pick .. | .buildSlice .. => true
 | .call c=>match c.callee with
  | .value _=>true
  | .builtin b=>match b with
   | .len | .min | .max=>true
   | _=>false
  | .invoke .. => false
 | _=>false

theorem app_f' {H:Hp} {T:List AB} {b:Nat} {x:AB} (h:H.f b=some x):(app H T).f b=some x:=by rw [zfh (Hp.lt h)];exact h

theorem zyx {H:Hp} {T:List AB} {x:AV}:zhj (app H T) x=zhj H x:=by unfold zhj;rw [zyv]
theorem new_ne {H:Hp} {x:AB}:H.new x≠H:=fun h=>by
 have:=congrArg Hp.n h
 rw [n_new'] at this;omega

section mono
variable {P:Program} {G:Globs} {H:Hp} {T:List AB} {env:Env}

theorem zuC {t:TypeId} {a y:AV} (h:zcg P H t a=some y):zcg P (app H T) t a=some y:=by
 unfold zcg at h ⊢
 cases hu:P.underlying t with
 | none=>simp [hu] at h
 | some d =>
  simp only [hu] at h ⊢
  cases a with
  | ptr b off =>
   simp only at h ⊢
   cases hb:H.f b with
   | none=>simp [hb] at h
   | some z=>rw [app_f' hb];rw [hb] at h;exact h
  | vp b k off =>
   simp only at h ⊢
   cases hb:H.f b with
   | none=>simp [hb] at h
   | some z=>rw [app_f' hb];rw [hb] at h;exact h
  | _=>exact h

theorem zp8 {e:TypeId} {x:AV} {ys:List PV} (h:zam P H e x=some ys):zam P (app H T) e x=some ys:=by
 unfold zam at h ⊢
 cases x with
 | ref b off len sz =>
  simp only at h ⊢
  cases hb:H.f b with
  | none=>simp [hb] at h
  | some z=>rw [app_f' hb];rw [hb] at h;exact h
 | vr b len sz =>
  simp only at h ⊢
  cases hb:H.f b with
  | none=>simp [hb] at h
  | some z=>rw [app_f' hb];rw [hb] at h;exact h
 | p x =>
  cases x with
  | s v=>cases v<;>exact h
  | _=>exact h
 | _=>exact h

theorem ziT {s d:TypeId} {x y:AV} (h:zbJ P H s d x=some y):zbJ P (app H T) s d x=some y:=by
 unfold zbJ at h ⊢
 cases hs:P.underlying s with
 | none=>simp [hs] at h
 | some a =>
  cases hd:P.underlying d with
  | none=>simp [hs,hd] at h
  | some b =>
   simp only [hs,hd] at h ⊢
   cases a with
   | slice e =>
    cases b with
    | string =>
     simp only at h ⊢
     cases he:P.underlying e with
     | none=>simp [he] at h
     | some c =>
      simp only [he] at h ⊢;split at h
      · split at h
        · rename_i ys hys
          have:(if P.cellsOf e=1 then zam P (app H T) e x else none)=some ys:=by
           split at hys
           · rename_i hc;rw [if_pos hc];exact zp8 hys
           · cases hys
          rw [this];exact h
        · cases h
      · cases h
    | _=>simp at h
   | _=>cases b<;>simp at h

theorem zuD {s d:TypeId} {x y:AV} (h:zdn P H s d x=some y):zdn P (app H T) s d x=some y:=by
 unfold zdn at h ⊢;split at h
 · exact ziT h
 · exact h
 · exact h

theorem zp9 {fn:FuncId} {args:List AV} {x:AV} {H' H2:Hp} (h:zcS P fn args H = .val x H'):zcS P fn args H2 = .val x H2:=by
 unfold zcS at h ⊢;split at h
 · rename_i nm hn
   cases hx:zki nm args with
   | none=>simp [hx,vH] at h
   | some y=>simp [hx,vH] at h ⊢;exact h.1
 · cases h

theorem zyy {op:Op} {ty:TypeId} {x:AV} (hr:zeM op=true) (h:ze P G op ty env H = .val x H):ze P G op ty env (app H T) = .val x (app H T):=by
 have vh : ∀ {y:Option AV},vH y H = .val x H → y=some x:=by
  intro y hy
  cases y with
  | none=>cases hy
  | some z=>cases hy;rfl
 cases op<;>simp only [zeM,Bool.false_eq_true] at hr<;>simp only [ze] at h ⊢
 case move a=>cases h;rfl
 case assign a=>cases h;rfl
 case build t ps=>rw [vh h];rfl
 case buildSlice t n ps =>
  unfold zaB at h ⊢;split at h
  · split at h
    · rename_i hc;rw [if_pos hc];split at h
      · split at h
        · rename_i hall;rw [if_pos hall];simp only [vHH] at h ⊢;cases h;rfl
        · cases h
      · split at h
        · split at h
          · simp only [vHH] at h
            injection h with h1 h2
            exact absurd h2 new_ne
          · cases h
        · cases h
    · cases h
  · cases h
 case load t a=>rw [zyx,zuC (vh h)];rfl
 case nilCheck a=>rw [vh h];rfl
 case binOp o t a b t'=>rw [vh h];rfl
 case unOp o t a=>rw [vh h];rfl
 case convert s d a=>rw [zuD (vh h)];rfl
 case makeInterface t a =>
  split at h
  · split at h
    · cases h
    · rename_i hi;rw [if_neg hi];cases h;rfl
  · cases h
 case makeFunc f a c =>
  split at h
  · cases h;rfl
  · cases h
 case slice t a lo hi mx=>rw [vh h];rfl
 case fieldAddr s a f=>rw [vh h];rfl
 case field s a f=>rw [vh h];rfl
 case indexAddr t a i=>rw [vh h];rfl
 case index t a i=>rw [vh h];rfl
 case extract t i =>
  split at h
  · rw [vh h];rfl
  · cases h
 case pick c a b =>
  split at h
  · cases h;rfl
  · cases h
 case call c =>
  obtain⟨callee,args,ts⟩:=c
  cases callee with
  | value f =>
   simp only [zbd] at h ⊢;split at h
   · split at h
     · cases h
     · rename_i he;simp only [he,Bool.false_eq_true,if_false];exact zp9 h
   · cases h
   · cases h
  | builtin b =>
   simp only [zW] at h ⊢;split at h
   · rw [vh h];rfl
   · simp only at hr;cases hr
   · simp only at hr;cases hr
   · rw [vh h];rfl
   · rw [vh h];rfl
   · cases h
  | invoke a b=>cases h

end mono



structure Perm (k:Nat) (π:Nat → Nat) (σ:Gh) (H1:Hp) (σ':Gh) (H2:Hp):Prop where
 n:H2.n=H1.n
 le:k≤H1.n
 f : ∀ b,H2.f b=H1.f (π b)
 c : ∀ b,σ'.c b=σ.c (π b)
 t : ∀ b,σ'.t b=σ.t (π b)
 inj : ∀ b b',π b=π b' → b=b'
 low : ∀ b,b < k → π b=b
 high : ∀ b,k≤b → k≤π b
 new : ∀ b x,k≤b → H1.f b=some x → ∀ y∈x.vals,BelowN k y
 z:H2.z=H1.z

section perm
variable {k:Nat} {π:Nat → Nat} {σ σ':Gh} {H1 H2:Hp} {w:World} {G:Globs}

theorem Perm.stable (h:Perm k π σ H1 σ' H2) {g o:Nat} (hs:Stable σ H1 g o):Stable σ' H2 g o :=
 ⟨fun b cs hb=>by rw [h.c];exact hs.1 _ cs (by rw [←h.f];exact hb),fun b v d o' s hb ht=>hs.2 (π b) v d o' s (by rw [←h.f];exact hb) (by rw [←h.t];exact ht)⟩

theorem Perm.free (h:Perm k π σ H1 σ' H2) {g:Nat} (hs:Free σ H1 g):Free σ' H2 g :=
 ⟨fun b cs hb=>by rw [h.c];exact hs.1 _ cs (by rw [←h.f];exact hb),fun b v d o' s hb ht=>hs.2 (π b) v d o' s (by rw [←h.f];exact hb) (by rw [←h.t];exact ht),fun b vs S hb=>by rw [h.c];exact hs.3 _ vs S (by rw [←h.f];exact hb)⟩

theorem Perm.relV (h:Perm k π σ H1 σ' H2) {x:AV} {v:Value} (r:RelV σ H1 w x v):BelowN k x → RelV σ' H2 w x v:=by
 have hp : ∀ {x:PV} {v:Value},RelP w (Stable σ H1) x v → RelP w (Stable σ' H2) x v:=fun q=>q.mono fun g o v h1 h2=>⟨h.stable h1,h2⟩
 have hc : ∀ b,b < k → σ'.c b=σ.c b:=fun b hb=>by rw [h.c,h.low b hb]
 induction r with
 | p q=>exact fun _ => .p (hp q)
 | sl q ht =>
  intro hb
  cases hb with | sl _ _ _ _ hb =>
  refine .sl (hp q) ⟨by rw [h.n];exact ht.1,fun k0 d hk0 => ?_⟩;rw [h.f,h.low _ hb] at hk0;rw [h.t,h.low _ hb];exact ht.2 k0 d hk0
 | ref a h0 hb1 hcap ha=>intro hb;cases hb with | ref _ _ _ _ hb=>exact .ref a h0 (by rw [h.n];exact hb1) hcap (fun hl=>by rw [hc _ hb];exact ha hl)
 | ptr hb1=>intro hb;cases hb with | ptr _ _ hb=>rw [←hc _ hb];exact .ptr (by rw [h.n];exact hb1)
 | ip q hi hs=>exact fun _ => .ip (hp q) hi hs
 | clo fs cs hf hc' _ _ ih1 ih2=>intro hb;cases hb with | clo _ _ _ h1 h2=>exact .clo fs cs hf hc' (fun i x v a b=>ih1 i x v a b (h1 i x a)) (fun i x v a b=>ih2 i x v a b (h2 i x a))
 | tup vs hl _ ih=>intro hb;cases hb with | tup _ h'=>exact .tup vs hl (fun i x v a b=>ih i x v a b (h' i x a))
 | agg vs hl h1 _ ih=>intro hb;cases hb with | agg _ h'=>exact .agg vs hl h1 (fun i x v a b=>ih i x v a b (h' i x a))
 | yld hb1=>intro hb;cases hb with | yld _ hb=>rw [←hc _ hb];exact .yld (by rw [h.n];exact hb1)
 | mp hb1=>intro hb;cases hb with | mp _ hb=>rw [←hc _ hb];exact .mp (by rw [h.n];exact hb1)
 | vr q =>
  intro hb
  cases hb with | vr _ _ _ hb =>
  obtain⟨q1,a,cap,rfl,qs,q2⟩:=q
  refine .vr ⟨by rw [h.n];exact q1,a,cap,rfl,qs,fun k0 d hk0 => ?_⟩;rw [h.f,h.low _ hb] at hk0;rw [h.t,h.low _ hb];exact q2 k0 d hk0
 | vp a q =>
  intro hb
  cases hb with | vp _ _ _ hb =>
  refine .vp a ⟨by rw [h.n];exact q.1,fun k0 d hk0 => ?_⟩;rw [h.f,h.low _ hb] at hk0;rw [h.t,h.low _ hb];exact q.2 k0 d hk0
 | top v=>exact fun _ => .top v

theorem Perm.ev (h:Perm k π σ H1 σ' H2):Ev k σ H1 w σ' H2 w :=
 ⟨fun g o v h1 h2=>⟨h.stable h1,h2⟩,fun b hb=>by rw [h.c,h.low b hb],by rw [h.n];exact h.le,fun b hb k' d hk'=>⟨k',d,by rw [h.f,h.low b hb] at hk';exact hk',Nat.le_refl _,fun _=>by rw [h.t,h.low b hb]⟩,Nat.le_refl _,fun g _ hg=>⟨rfl,h.free hg⟩,rfl,rfl⟩

theorem Perm.rel (h:Perm k π σ H1 σ' H2) (hb:Bel k H1) (hr:Rel G σ H1 w):Rel G σ' H2 w:=by
 have hval : ∀ b x y,H1.f b=some x → y∈x.vals → BelowN k y:=fun b x y hf hy=>by
  by_cases hlt:b < k
  · exact hb b x hlt hf y hy
  · exact h.new b x (by omega) hf y hy
 refine⟨fun b cs hf => ?_,fun b j d g o s hf ht => ?_,fun b k cs hf => ?_,fun b b' cs cs' hf hf' he => ?_,fun b b' cs j d g o s hf hf' ht => ?_,fun b b' j d j' d' g o s o' s' hf hf' ht ht' => ?_,fun g sz xs hg=>h.relV (hr.glob g sz xs hg) (.ip _ _ _ _),fun b vs S hf => ?_,fun b b' vs vs' S S' hf hf' he => ?_,fun r m hm=>(hr.gm r m hm).of rfl (h.free (hr.gm r m hm).2.1) fun x v hx q=>h.relV q (hx _),fun g sz xs hg=>(hr.z g sz xs (by rw [←h.z];exact hg)).of rfl (h.free (hr.z g sz xs (by rw [←h.z];exact hg)).2.1) fun q=>h.relV q (.ip _ _ _ _)⟩
 · rw [h.f] at hf
   obtain⟨c,e,q1,q2,q3⟩:=hr.cells _ cs hf
   exact⟨c,e,by rw [h.c];exact q1,q2,fun i x hx=>let ⟨v,a,b'⟩:=q3 i x hx;⟨v,a,h.relV b'.1 (hval _ _ x hf (List.mem_of_getElem? hx)),b'.2⟩⟩
 · rw [h.f] at hf;rw [h.t] at ht;exact hr.tail _ j d g o s hf ht
 · rw [h.f] at hf;rw [h.t]
   obtain⟨q0,q1,q2⟩:=hr.vec _ k cs hf
   refine⟨q0,q1,fun g o s hg => ?_⟩
   obtain⟨p0,p1,p2⟩:=q2 g o s hg
   exact⟨p0,p1,fun i x hx=>let ⟨v,a,b'⟩:=p2 i x hx;⟨v,a,h.relV b'.1 (hval _ _ x hf (List.mem_of_getElem? hx)),b'.2⟩⟩
 · rw [h.f] at hf hf';rw [h.c,h.c] at he;exact h.inj _ _ (hr.cc _ _ cs cs' hf hf' he)
 · rw [h.f] at hf hf';rw [h.t] at ht;rw [h.c];exact hr.ct _ _ cs j d g o s hf hf' ht
 · rw [h.f] at hf hf';rw [h.t] at ht ht';exact h.inj _ _ (hr.tt _ _ j d j' d' g o s o' s' hf hf' ht ht')
 · rw [h.f] at hf
   obtain⟨o,us,q1,q2,q3,q4⟩:=hr.objs _ vs S hf
   exact⟨o,us,by rw [h.c];exact q1,q2,⟨q3.1,fun i x v a b'=>h.relV (q3.2 i x v a b') (hval _ _ x hf (List.mem_of_getElem? a))⟩,q4⟩
 · rw [h.f] at hf hf';rw [h.c,h.c] at he;exact h.inj _ _ (hr.oo _ _ vs vs' S S' hf hf' he)
end perm

theorem zyz {H:Hp} : ∀ {T:List AB} {i:Nat},(app H T).f (H.n+i)=T[i]?
 | [],i=>by simp only [zCC,List.getElem?_nil];exact H.wf _ (by omega)
 | y :: T,0=>by rw [zbg,zfh (by rw [n_new'];omega),zk (by omega)];rfl
 | y :: T,i+1=>by
  have:=zyz (H:=H.new y) (T:=T) (i:=i)
  rw [n_new'] at this;rw [zbg,List.getElem?_cons_succ,←this]
  congr 1
  omega




section quiet
variable {C:Cx} {ops:Array Oper}




def zEi (C:Cx) (f:FuncId) (args:List AV) (H:Hp) (K:AV → Prop):Prop :=
 ∃ x,(∀ T,ACall C.P C.G f args (app H T) fun x' H'=>x'=x∧H'=app H T)∧BelowN H.n x∧K x

def zEj (C:Cx) (r:SRes) (rd:Bool) (dst:Option Nat) (H:Hp) (K:AV → Prop):Prop :=
 match r with
 | .val x H'=>zA C.nt dst=true∧rd=true∧H'=H∧BelowN H.n x∧K x
 | .call f args=>zA C.nt dst=true∧zEi C f (yj C.raw f args) H K
 | _=>False

def zEO (C:Cx) (ops:Array Oper):List Oper → Env → Hp → (Env → Prop) → Prop
 | [],env,_,K=>K env
 | o :: rest,env,H,K =>
  match zL C.nt ops o.guard env with
  | some true=>zEj C (ze C.P C.G o.op o.type env H) (zeM o.op) o.dst H fun x=>zEO C ops rest (env.put o.dst x) H K
  | some false=>zA C.nt o.dst=true∧zEO C ops rest (env.put o.dst (.tup [])) H K
  | none=>False

def zEP:List Oper → List AV → Env → Env
 | o :: l,x :: xs,env=>zEP l xs (env.put o.dst x)
 | _,_,env=>env

end quiet


def zgl (ops:Array Oper) (i:Nat):Option Nat:=(ops[i]?).bind (·.dst)

def after (ops:Array Oper) (env:Env):List (Nat × AV) → Env
 | []=>env
 | (i,x) :: r=>(after ops env r).put (zgl ops i) x






def waitsFor (o:Oper) (j:Nat):Bool:=o.after.any fun e=>Region.binds .any e && e.on == j

def zkO (o:Oper):List Nat:=(o.after.toList.filter fun e=>Region.binds .any e).map (·.on)
def zfW (ops:Array Oper):Nat → List Nat → List Nat
 | 0,s=>s
 | k+1,s=>zfW ops k (if s.contains k then (match ops[k]? with | some o=>s++(zkO o).filter (fun j => !s.contains j) | none=>s) else s)



structure OkE (ops:Array Oper) (p1 p:Nat):Prop where
 le:p1≤p
 size:p≤ops.size
 dst : ∀ i o j s,ops[i]? = some o → i < p → j < p → o.dst=some s → zgl ops j=some s → j=i
 back : ∀ (i:Nat) o,ops[i]? = some o → i < p → ∀ e∈o.after,Region.binds .any e=true → e.on < i
 quiet : ∀ (i:Nat) o,ops[i]? = some o → i < p1 → ∀ s∈o.looksAt ops,∀ j,j < p → zgl ops j=some s → j < i∧j < p1∧waitsFor o j=true
 alloc : ∀ (i:Nat) o,ops[i]? = some o → p1≤i → i < p → (∃ t,o.op = .alloc t)∧o.guard=none ∧ ∃ s,o.dst=some s
 late : ∀ (i:Nat) o,ops[i]? = some o → p≤i → ∀ j,j < p → j∈zfW ops p ((zkO o).filter fun j=>decide (j < p))




structure Inv1 (C:Cx) (l:List Oper) (p1 p:Nat) (X:List AV) (zs:Nat → List PV) (zgA:Env) (H:Hp) (σs:Gh) (ws:World) (m:Nat)
 (tr:List (Nat × AV)) (rem E:List Nat) (T:List AB) (listed:Array Bool) (σ:Gh) (w:World) (a:Act):Prop where
 nd:(tr.map (·.1)).Nodup
 rnd:rem.Nodup
 rem : ∀ i,i∈rem ↔ i < p∧i ∉ tr.map (·.1)
 lt : ∀ i,i∈tr.map (·.1) → i < p
 q : ∀ i x,(i,x)∈tr → i < p1 → X[i]? = some x
 al : ∀ i x,(i,x)∈tr → p1≤i → ∃ k:Nat,E[k]? = some i∧x = .ptr (H.n+k) 0
 end_:E.Nodup
 eiff : ∀ i,i∈E ↔ p1≤i∧i∈tr.map (·.1)
 t:T=E.map fun i => .cells ((zs i).map .p)
 cl : ∀ (k:Nat) o,l.toArray[k]? = some o → k∈tr.map (·.1) → ∀ e∈o.after,Region.binds .any e=true → e.on∈tr.map (·.1)
 lsz:listed.size=l.length
 lget : ∀ i,i < l.length → listed.getD i true=decide (i∈tr.map (·.1))
 rel:Rel C.G σ (app H T) w
 fr:RelF C.nt m σ (app H T) w (after l.toArray zgA tr) a
 ev:Ev H.n σs H ws σ (app H T) w

section phase
variable {C:Cx} {l:List Oper} {p1 p:Nat} {X:List AV} {zs:Nat → List PV} {zgA:Env} {H:Hp} {σs:Gh} {ws:World} {m:Nat} {ro:Option Nat} {R1:Exit → Act → World → Prop}






end phase

section openE
variable {C:Cx} {k:List Item} {env:Env} {H:Hp} {R:AV → Hp → Prop}

end openE


section steps
variable {C:Cx} {ops:Array Oper} {q:Nat → Bool} {op:Op} {ty:TypeId} {pos:String} {after:Array Edge} {dst:Option Nat} {rest l2:List Oper} {k:List Item} {env:Env} {H:Hp} {R:AV → Hp → Prop} {x:AV} {rd:Bool} {f:FuncId} {args:List AV} {j n p:Nat} {yJ:Bool}

def zmQ (C:Cx) (ops:Array Oper) (q:Nat → Bool) (l:List Oper) (p:Nat) (l2:List Oper) (k:List Item) (env:Env) (H:Hp) (R:AV → Hp → Prop):Prop :=
 zEO C ops l env H fun env1=>zax C ops q p l2 k env1 H R
def CallQE (C:Cx) (ops:Array Oper) (q:Nat → Bool) (f:FuncId) (args:List AV) (dst:Option Nat) (l:List Oper) (p:Nat) (l2:List Oper) (k:List Item) (env:Env) (H:Hp) (R:AV → Hp → Prop):Prop :=
 zEi C f args H fun x=>zmQ C ops q l p l2 k (env.put dst x) H R
def zsi (C:Cx) (ops:Array Oper) (q:Nat → Bool) (r:SRes) (rd:Bool) (dst:Option Nat) (l:List Oper) (p:Nat) (l2:List Oper) (k:List Item) (env:Env) (H:Hp) (R:AV → Hp → Prop):Prop :=
 zEj C r rd dst H fun x=>zmQ C ops q l p l2 k (env.put dst x) H R
def zhJ (C:Cx) (ops:Array Oper) (q:Nat → Bool) (g:Option Bool) (op:Op) (ty:TypeId) (dst:Option Nat) (l:List Oper) (p:Nat) (l2:List Oper) (k:List Item) (env:Env) (H:Hp) (R:AV → Hp → Prop):Prop :=
 match g with
 | some true=>zsi C ops q (ze C.P C.G op ty env H) (zeM op) dst l p l2 k env H R
 | some false=>zA C.nt dst=true∧zmQ C ops q l p l2 k (env.put dst (.tup [])) H R
 | none=>False

theorem zyA:zmQ C ops q [] p l2 k env H R=zax C ops q p l2 k env H R:=rfl
theorem zuE:zmQ C ops q (⟨dst,op,ty,pos,after,none⟩ :: rest) p l2 k env H R=zsi C ops q (ze C.P C.G op ty env H) (zeM op) dst rest p l2 k env H R:=rfl
theorem zuF:zmQ C ops q (⟨dst,op,ty,pos,after,some (j,yJ)⟩ :: rest) p l2 k env H R=zhJ C ops q (zL C.nt ops (some (j,yJ)) env) op ty dst rest p l2 k env H R:=rfl
theorem ziU:zhJ C ops q (some true) op ty dst rest p l2 k env H R=zsi C ops q (ze C.P C.G op ty env H) (zeM op) dst rest p l2 k env H R:=rfl
theorem zhK:zhJ C ops q (some false) op ty dst rest p l2 k env H R=(zA C.nt dst=true∧zmQ C ops q rest p l2 k (env.put dst (.tup [])) H R):=rfl
theorem zqa:zsi C ops q (.call f args) rd dst rest p l2 k env H R=(zA C.nt dst=true∧CallQE C ops q f (yj C.raw f args) dst rest p l2 k env H R):=rfl

theorem CallQE.of {args':List AV} (h : ∀ (H':Hp) (R:AV → Hp → Prop),R x H' → ACall C.P C.G f args' H' R) (hb:BelowN H.n x) (hk:zmQ C ops q rest p l2 k (env.put dst x) H R):CallQE C ops q f args' dst rest p l2 k env H R:=⟨x,fun T=>h _ _ ⟨rfl,rfl⟩,hb,hk⟩

end steps

attribute [go_sem] zyA zuE zuF ziU zhK zqa zeM List.take_zero List.take_nil List.take_succ_cons List.drop_zero List.drop_succ_cons

end Go.AL

namespace Go.AL
open Go




def zqb (ops:Array Oper) (i:Nat):Option Nat:=match ops[i]? with
 | some o=>(match o.op with | .store _ (.tmp s) _=>some s | _=>none)
 | none=>none

def tgt (ops:Array Oper) (p p2 j:Nat):Option Nat:=(List.range p2).find? fun i=>decide (p≤i) && (zqb ops i).isSome && zqb ops i == zgl ops j


structure OkF (ops:Array Oper) (p1 p p2:Nat):Prop where
 le:p1≤p
 le2:p≤p2
 size:p2≤ops.size
 dst : ∀ i o j s,ops[i]? = some o → i < p → j < p → o.dst=some s → zgl ops j=some s → j=i
 back : ∀ (i:Nat) o,ops[i]? = some o → i < p2 → ∀ e∈o.after,Region.binds .any e=true → e.on < i
 quiet : ∀ (i:Nat) o,ops[i]? = some o → i < p1 → ∀ s∈o.looksAt ops,∀ j,j < p → zgl ops j=some s → j < i∧j < p1∧waitsFor o j=true
 alloc : ∀ (i:Nat) o,ops[i]? = some o → p1≤i → i < p → (∃ t,o.op = .alloc t)∧o.guard=none ∧ ∃ s,o.dst=some s
 fill : ∀ (i:Nat) o,ops[i]? = some o → p≤i → i < p2 → o.guard=none∧o.dst=none ∧ ∃ t s v j u,o.op = .store t (.tmp s) (.tmp v)∧p1≤j∧j < p∧zgl ops j=some s∧waitsFor o j=true ∧
  u < p1∧zgl ops u=some v∧waitsFor o u=true ∧ ∀ i',p≤i' → i' < p2 → zqb ops i'=some s → i'=i
 late : ∀ (i:Nat) o,ops[i]? = some o → p2≤i → ∀ j,j < p2 → j∈zfW ops p2 ((zkO o).filter fun j=>decide (j < p2))


def row (ops:Array Oper) (p p2:Nat) (zs fs:Nat → List AV) (tr:List Nat) (j:Nat):List AV:=match tgt ops p p2 j with
 | some i=>if i∈tr then fs i else zs j
 | none=>zs j




structure Inv2 (C:Cx) (l:List Oper) (p1 p p2:Nat) (X:List AV) (zs fs:Nat → List AV) (zgA:Env) (H:Hp) (σs:Gh) (ws:World) (m:Nat)
 (tr:List (Nat × AV)) (rem E:List Nat) (T:List AB) (listed:Array Bool) (σ:Gh) (w:World) (a:Act):Prop where
 nd:(tr.map (·.1)).Nodup
 rnd:rem.Nodup
 rem : ∀ i,i∈rem ↔ i < p2∧i ∉ tr.map (·.1)
 lt : ∀ i,i∈tr.map (·.1) → i < p2
 q : ∀ i x,(i,x)∈tr → i < p1 → X[i]? = some x
 al : ∀ i x,(i,x)∈tr → p1≤i → i < p → ∃ k:Nat,E[k]? = some i∧x = .ptr (H.n+k) 0
 end_:E.Nodup
 eiff : ∀ i,i∈E ↔ p1≤i∧i < p∧i∈tr.map (·.1)
 t:T=E.map fun i => .cells (row l.toArray p p2 zs fs (tr.map (·.1)) i)
 cl : ∀ (k:Nat) o,l.toArray[k]? = some o → k∈tr.map (·.1) → ∀ e∈o.after,Region.binds .any e=true → e.on∈tr.map (·.1)
 lsz:listed.size=l.length
 lget : ∀ i,i < l.length → listed.getD i true=decide (i∈tr.map (·.1))
 rel:Rel C.G σ (app H T) w
 fr:RelF C.nt m σ (app H T) w (after l.toArray zgA tr) a
 ev:Ev H.n σs H ws σ (app H T) w

section phase
variable {C:Cx} {l:List Oper} {p1 p p2:Nat} {X:List AV} {zs fs:Nat → List AV} {zgA:Env} {H:Hp} {σs:Gh} {ws:World} {m:Nat} {ro:Option Nat} {R1:Exit → Act → World → Prop}







end phase


section openF
variable {C:Cx} {k:List Item} {env:Env} {H:Hp} {R:AV → Hp → Prop}

end openF

end Go.AL

namespace Go.AL
open Go

section vec
variable {C:Cx} {todo:List Item} {env:Env} {H:Hp} {R:AV → Hp → Prop} {α:Type} {f:α → PV} {l:List α}

theorem ARun.vec (t:Nat) {sz:Nat} (ht:env t = .p (.sl true sz [])) (h:ARun C todo (env.put (some t) (.vr H.n 0 sz)) (H.new (.vec [])) R):ARun C todo env H R :=
 .ghost (fun σ w a m hpre=>by
  obtain⟨r1,e1⟩:=zcp hpre.rel (w':=w) (Nat.le_refl _) (fun _ _=>rfl) rfl rfl 0 (some []) none (fun _ _ _ hh=>by cases hh) (fun cs hcs=>by cases hcs;exact⟨rfl,fun _=>rfl,fun _ _ _ hh=>by cases hh⟩)
  refine⟨_,r1,fun i => ?_,e1⟩
  simp only [Env.put];by_cases hi:i=t
  · subst hi;rw [if_pos rfl];have hs:=hpre.fr.slot i;rw [ht] at hs
    generalize a.tmps.getD i undef=v at hs
    have hv : ∃ ad,v = .slice ad 0 0∧zlH ad 0:=by
     cases hs with | p hp =>
     cases hp with
     | emp _ _ a cap h0 hc=>exact⟨a,by rw [h0 rfl],by simp [zlH]⟩
     | sl _ _ _ g off cap F hfl hcap hsz hrd hc =>
      have:=hfl rfl
      simp only [List.length_nil] at this;subst this
      exact⟨_,rfl,by simp [zlH]⟩
    obtain⟨ad,rfl,hado⟩:=hv
    refine .vr ⟨by simp [Hp.n_new],ad,0,rfl,hado,fun k0 c hk0 => ?_⟩;simp [Hp.f_new] at hk0
    exact⟨by simp,fun _ => .inl ⟨rfl,rfl,by simp [Gh.withT]⟩⟩
  · rw [if_neg hi];exact (hpre.fr.slot i).mono e1) h

theorem zfj {G:Globs} {σ:Gh} {w:World} (hr:Rel G σ H w) {b k g s:Nat} {c:Option (List AV)} (hb:H.f b=some (.tl k c)) (ht:σ.t b=some (g,0,s)) (o:Nat):Stable σ (H.set b .dead) g o:=by
 have hf : ∀ b' x,x ≠ .dead → (H.set b .dead).f b'=some x → b'≠b∧H.f b'=some x:=by
  intro b' x hx h;rw [Hp.f_set] at h;split at h
  · cases h;exact absurd rfl hx
  · rename_i hh
    exact⟨fun e=>hh ⟨e,Hp.lt hb⟩,h⟩
 refine⟨fun b' x h e => ?_,fun b' k' d o2 s' h ht' => ?_⟩
 · obtain⟨h1,h2⟩:=hf b' _ (by simp) h
   exact hr.ct b' b x k c g 0 s h2 hb ht e
 · obtain⟨h1,h2⟩:=hf b' _ (by simp) h
   exact absurd (hr.tt b' b k' d k c g o2 s' 0 s h2 hb ht' ht) h1

theorem ARun.frzV (t:Nat) {b len sz:Nat} {cs:List AV} {xs:List PV} (ht:env t = .vr b len sz) (hb:(H.f b).bind AB.vec? = some cs) (hcs:cs=(flat xs).map .p) (hl:xs.length=len) (hsz : ∀ x∈xs,x.cells.length=sz)
 (h:ARun C todo (env.put (some t) (.p (.sl false sz xs))) (H.set b .dead) R):ARun C todo env H R :=
 .ghost (fun σ w a m hpre=>by
  obtain⟨r1,e1⟩:=yX hpre.rel b
  refine⟨σ,r1,fun i => ?_,e1⟩
  simp only [Env.put];by_cases hi:i=t
  · subst hi;rw [if_pos rfl];have hs:=hpre.fr.slot i;rw [ht] at hs
    generalize a.tmps.getD i undef=v at hs
    cases hs with | vr hs =>
    subst hl;have hfl:(flat xs).length=xs.length*sz:=zV hsz
    obtain⟨ad,cap,rfl,hado,hrow⟩:=zke hpre.rel hb hs (by rw [hcs,List.length_map,hfl])
    rcases hrow with ⟨h0,rfl,hσ⟩ | ⟨g,s,rfl,hσ,h5,h6,h7,h8,hcells⟩
    · have:xs=[]:=List.eq_nil_of_length_eq_zero h0
      subst this;exact .p (.emp _ _ _ _ (by simp) (by simp))
    · obtain⟨k,hk⟩:=vec?_inv hb
      have hcell : ∀ j y,(flat xs)[j]? = some y → ∃ v,w.cell? ⟨g,j,none⟩=some v∧RelP w (Stable σ (H.set b .dead)) y v∧v.oneCell'=true:=fun j y hj=>by
       obtain⟨v,h1,h2,h3⟩:=hcells j (.p y) (by rw [hcs];simp [hj])
       have:=h2.mono e1
       cases this with | p hp=>exact⟨v,h1,hp,h3⟩
      refine .p (.sl false sz xs g 0 cap (fun j=>(w.cell? ⟨g,j,none⟩).getD undef) (by simp) ⟨h6,h7⟩ hsz (fun j hj => ?_) (fun j y hj => ?_))
      · rw [Nat.zero_add]
        obtain⟨v,h1,_,h3⟩:=hcell j ((flat xs)[j]'(by omega)) (by simp)
        exact⟨zfj hpre.rel hk hσ j,by simp [h1],by simp [h1,h3]⟩
      · obtain⟨v,h1,h2,_⟩:=hcell j y hj
        simp only [h1,Option.getD_some];exact h2
  · rw [if_neg hi];exact (hpre.fr.slot i).mono e1) h
end vec

theorem flat_nil:flat []=[]:=rfl
theorem zuG {x:PV} {xs:List PV}:flat (x :: xs)=x.cells++flat xs:=rfl

section guards
variable {C:Cx} {ops:Array Oper} {op:Op} {dst:Option Nat} {rest:List Oper} {k:List Item} {env:Env} {H:Hp} {R:AV → Hp → Prop} {ty:TypeId} {q:Nat → Bool} {n:Nat} {b:Bool}
theorem zI (h1:b=true → guarded C ops (some true) op ty dst rest k env H R) (h2:b=false → guarded C ops (some false) op ty dst rest k env H R):guarded C ops (some b) op ty dst rest k env H R:=by
 cases b
 · exact h2 rfl
 · exact h1 rfl
theorem zD (h1:b=true → zbT C ops q (some true) op ty n dst rest k env H R) (h2:b=false → zbT C ops q (some false) op ty n dst rest k env H R):zbT C ops q (some b) op ty n dst rest k env H R:=by
 cases b
 · exact h2 rfl
 · exact h1 rfl
end guards

def zsj (P:Program) (t:TypeId):Option (List (Option (Nat × Nat))) :=
 match P.underlying t with
 | some (.struct fields)=>if fields.all fun f=>(P.info? f.type).isSome then some (fields.toList.map fun f=>if (P.info? f.type).isSome then some (f.offset,P.cellsOf f.type) else none) else none
 | _=>none
theorem zB {P:Program} {t:TypeId} {pls:List (Option (Nat × Nat))} {ps:List PV} {parts:List (Nat × AV)} (h:zsj P t=some pls) (hz:zU P t=some ps) :
 yf P t parts=(yA (fun i=>pls[i]?.join) (ps.map .p) parts).map zu:=by
 unfold zsj at h;split at h
 case h_2=>cases h
 rename_i fields hu;split at h
 case isFalse=>cases h
 rename_i hall;cases h;unfold yf;rw [hu,hz];simp only [hall,if_true]
 congr 2
 funext i
 unfold zba
 cases hf:fields[i]? with
 | none=>simp [hf]
 | some f=>simp [hf]
def zEk (P:Program) (t:TypeId):Option Nat :=
 match P.underlying t with
 | some (.array _ e)=>if (P.info? e).isSome then some (P.cellsOf e) else none
 | _=>none
theorem zhL {P:Program} {t:TypeId} {n:Nat} {ps:List PV} {parts:List (Nat × AV)} (h:zEk P t=some n) (hz:zU P t=some ps) :
 yf P t parts=(yA (fun i=>some (i*n,n)) (ps.map .p) parts).map zu:=by
 unfold zEk at h;split at h
 case h_2=>cases h
 rename_i k e hu;split at h
 case isFalse=>cases h
 rename_i hi;cases h;unfold yf;rw [hu,hz];simp only [hi,if_true]
theorem zqc {place:Nat → Option (Nat × Nat)} {cells:List AV} {i:Nat} {x:AV} {rest:List (Nat × AV)} :
 yA place cells ((i,x) :: rest)=(match place i,zh x with
 | some (off,size),some cs=>if cs.length=size∧off+size≤cells.length then yA place (setAt cells off cs) rest else none
 | _,_=>none):=rfl
attribute [go_sem] zqc Option.join_some

theorem zCD {P:Program} {t:TypeId} {xs ys:List PV} {a b:List Value} {la lb:List Lit} {p:Prop} [Decidable p] (h:(P.keyTypeAt 64 t && !P.eqGuardType P.depth t && yr P t)=true) (ha:zcQ xs=some a) (hb:zcQ ys=some b)
 (hla:P.keyLits 64 t a=some la) (hlb:P.keyLits 64 t b=some lb) (hp:la=lb ↔ p):zx P .eql t (.p (.agg xs)) (.p (.agg ys))=some (.p (bo (decide p)))∧zx P .neq t (.p (.agg xs)) (.p (.agg ys))=some (.p (bo !decide p)):=by
 have:zjp P t xs ys=some (decide p):=by
  unfold zjp;rw [if_pos h,ha,hb];simp only [hla,hlb]
  congr 1
  by_cases hh:p
  · simp [hh,hp]
  · simp [hh,hp]
 exact⟨by simp only [zx,this];rfl,by simp only [zx,this];rfl⟩

section join
variable {C:Cx} {k:List Item} {env:Env} {H:Hp} {R:AV → Hp → Prop} {x y:Code} {t:Nat}
theorem ARun.ifJ {b:Bool} (I:Env → Hp → Prop) (hc:env t = .p (bo b)) (h1:b=true → (∀ env' H',I env' H' → ARun C k env' H' R) → ARun C (.code x :: k) env H R)
 (h2:b=false → (∀ env' H',I env' H' → ARun C k env' H' R) → ARun C (.code y :: k) env H R) (h3 : ∀ env' H',I env' H' → ARun C k env' H' R):ARun C (.code (.cond (.tmp t) x y) :: k) env H R :=
 .ifB hc (fun h=>h1 h h3) (fun h=>h2 h h3)
theorem ARun.cut {i:Item} (I:Env → Hp → Prop) (h1:(∀ env' H',I env' H' → ARun C k env' H' R) → ARun C (i :: k) env H R) (h3 : ∀ env' H',I env' H' → ARun C k env' H' R):ARun C (i :: k) env H R:=h1 h3
theorem ARun.cut2 {i j:Item} (I:Env → Hp → Prop) (h1:(∀ env' H',I env' H' → ARun C k env' H' R) → ARun C (i :: j :: k) env H R) (h3 : ∀ env' H',I env' H' → ARun C k env' H' R):ARun C (i :: j :: k) env H R:=h1 h3
end join

def ym {α:Type} (sz:Nat) (f:α → PV) (l:List α):PV := .sl false sz (pl f l)
section ym
variable {α:Type} {sz:Nat} {f:α → PV} {l m:List α} {ls:List (List α)} {i:Nat}
theorem zai:ym sz f l = .sl false sz (pl f l):=rfl
theorem zqd:pl (ym sz f) ls++[.sl false sz (pl f m)]=pl (ym sz f) (ls++[m]):=by simp [pl,ym]
theorem zhM:(cl (ym sz f) ls).set i (.p (.sl false sz (pl f m)))=cl (ym sz f) (ls.set i m):=by simp [cl,List.map_set,ym]
theorem zcv:flat (pl (ym sz f) ls)=pl (ym sz f) ls:=zfU fun y hy=>by
 simp only [pl,List.mem_map] at hy
 obtain⟨x,_,rfl⟩:=hy
 rfl
end ym
attribute [go_sem] zai zqd zhM zcv List.set_cons_zero List.set_cons_succ

theorem zEQ {b:Bool}:(b == true)=b:=by cases b<;>rfl
theorem zER {b:Bool}:(b == false) = !b:=by cases b<;>rfl
attribute [go_sem] flat_nil zuG zEQ zER

theorem zaN (P:Program) (t:TypeId) (x:Int) (k:Nat) (hk:k≤62):zx P .and t (.p (i64 x)) (.p (i64 ((2 ^ k - 1:Nat):Int)))=some (.p (i64 (x % (2 ^ k:Nat)))):=by
 have h1:(BitVec.ofInt 64 x &&& BitVec.ofInt 64 ((2 ^ k - 1:Nat):Int)).toNat=(x % (2 ^ k:Nat)).toNat:=by
  have hlt:2 ^ k≤2 ^ 62:=Nat.pow_le_pow_right (by omega) hk;have hp:0 < 2 ^ k:=Nat.pos_of_ne_zero (by simp);have hd:(2 ^ k:Nat) ∣ 2 ^ 64:=Nat.pow_dvd_pow 2 (by omega);rw [BitVec.toNat_and,BitVec.toNat_ofInt,BitVec.toNat_ofInt]
  have e1:(((2 ^ k - 1:Nat):Int) % (2 ^ 64:Nat)).toNat=2 ^ k - 1:=by
   rw [←Int.natCast_emod,Int.toNat_natCast,Nat.mod_eq_of_lt (by omega)]
  rw [e1,Nat.and_two_pow_sub_one_eq_mod]
  have e2:((x % (2 ^ 64:Nat)).toNat % 2 ^ k:Nat)=(x % (2 ^ k:Nat)).toNat:=by
   have h0:0≤x % ((2 ^ 64:Nat):Int):=Int.emod_nonneg _ (by decide);have h2:0≤x % ((2 ^ k:Nat):Int):=Int.emod_nonneg _ (by omega)
   have:(((x % (2 ^ 64:Nat)).toNat % 2 ^ k:Nat):Int)=x % (2 ^ k:Nat):=by
    rw [Int.natCast_emod,Int.toNat_of_nonneg h0];exact Int.emod_emod_of_dvd x (Int.natCast_dvd_natCast.2 hd)
   omega
  exact e2
 have hp:(0:Int) < (2 ^ k:Nat):=by
  have:0 < 2 ^ k:=Nat.pos_of_ne_zero (by simp)
  omega
 have h2:0≤x % (2 ^ k:Nat):=Int.emod_nonneg _ (by omega);have h3:x % (2 ^ k:Nat) < (2 ^ k:Nat):=Int.emod_lt_of_pos _ hp;have h4:(2 ^ k:Nat)≤2 ^ 62:=Nat.pow_le_pow_right (by omega) hk;simp only [zx,i64,yV,zG,zaV,Bool.false_eq_true,if_false,if_true,Option.map_some];have h5:(BitVec.ofInt IntKind.i64.bits x &&& BitVec.ofInt IntKind.i64.bits ((2 ^ k - 1:Nat):Int)).toNat=(x % (2 ^ k:Nat)).toNat:=h1;rw [h5,Int.toNat_of_nonneg h2,zfa (by omega) (by omega)]
theorem ziV (P:Program) (t:TypeId) (x:Int):zx P .and t (.p (i64 x)) (.p (i64 255))=some (.p (i64 (x % 256))):=zaN P t x 8 (by omega)
theorem ziW (P:Program) (t:TypeId) (x:Int):zx P .and t (.p (i64 x)) (.p (i64 1))=some (.p (i64 (x % 2))):=zaN P t x 1 (by omega)
theorem zhN (P:Program) (t:TypeId) (x:Int):zx P .and t (.p (i64 x)) (.p (i64 65535))=some (.p (i64 (x % 65536))):=zaN P t x 16 (by omega)
attribute [go_sem] ziV ziW zhN

theorem zCE (x y : BitVec 64) : zki "math/bits.Sub64" [.p (zg x), .p (zg y), .p (zg 0#64)] = some (.tup [.p (zg (x - y)), .p (zg (if x.toNat < y.toNat then 1#64 else 0#64))]) := by
  have hx:=x.isLt;have hy:=y.isLt
  have h1:((x.toNat:Int).toNat+2 ^ 64 - (y.toNat:Int).toNat - (0:Int).toNat) % 2 ^ 64=(x - y).toNat:=by
    rw [BitVec.toNat_sub];simp only [Int.toNat_natCast,Int.toNat_zero,Nat.sub_zero]
    congr 1
    omega
  have h2:(if (x.toNat:Int).toNat < (y.toNat:Int).toNat+(0:Int).toNat then 1 else 0:Nat)=(if x.toNat < y.toNat then 1#64 else 0#64:BitVec 64).toNat:=by
    simp only [Int.toNat_natCast,Int.toNat_zero,Nat.add_zero]
    split<;>rfl
  have hu:zkh [.p (zg x),.p (zg y),.p (zg 0#64)]=some [(x.toNat:Int),(y.toNat:Int),0]:=rfl;simp only [zki,hu];rw [if_pos ⟨by omega,by omega,by omega,by omega⟩,if_neg (by decide),if_pos trivial,h1,h2];rfl
attribute [go_sem] zCE
attribute [go_sem] app_n' n_new' n_set' zcn zad List.length_set List.length_append List.length_replicate List.length_cons List.length_nil zmN List.length_drop List.length_take List.length_map

def zsk:List Item → Option (List Item)
 | .code .skip :: k=>some k
 | .code (.seq x y) :: k=>some (.code x :: .code y :: k)
 | .code (.block id c) :: k=>some (.code c :: .inBlock id :: k)
 | .inBlock _ :: k=>some k
 | .code (.exit id) :: k=>exitTo id k
 | _=>none
theorem ARun.z {C:Cx} {t t':List Item} {env:Env} {H:Hp} {R:AV → Hp → Prop} (e:zsk t=some t') (h:ARun C t' env H R):ARun C t env H R:=by
 unfold zsk at e;split at e
 · cases e;exact .skip h
 · cases e;exact .seq h
 · cases e;exact .block h
 · cases e;exact .inBlock h
 · exact .exit e h
 · cases e
def stepsI:Nat → List Item → List Item
 | 0,t=>t
 | n+1,t=>match zsk t with | some t'=>stepsI n t' | none=>t
theorem ARun.stepsI {C:Cx} {env:Env} {H:Hp} {R:AV → Hp → Prop} : ∀ (n:Nat) {t:List Item},ARun C (stepsI n t) env H R → ARun C t env H R
 | 0,_,h=>h
 | n+1,t,h=>by
  unfold Go.AL.stepsI at h
  cases e:zsk t with
  | none=>rw [e] at h;exact h
  | some t'=>rw [e] at h;exact .z e (ARun.stepsI n h)
theorem ARun.q {C:Cx} {t:List Item} {env:Env} {H:Hp} {R:AV → Hp → Prop} (h:ARun C (Go.AL.stepsI 30 t) env H R):ARun C t env H R := .stepsI 30 h
theorem ARun.qt {C : Cx} {t k : List Item} {env : Env} {H : Hp} {R : AV → Hp → Prop} {id : Nat} {l : List Oper} (e : Go.AL.stepsI 30 t = .code (.region id l.toArray false) :: k) (h : zcs C l.toArray l k env H R) : ARun C t env H R := .q (by rw [e]; exact .text h)
theorem za {p:Prop} (h:p:=by first | omega | assumption | (simp only [go_sem];done) | (simp only [go_sem]<;>omega) | fail):p:=h
theorem ARun.qT {C : Cx} {w k : List Item} {x y : Code} {t : Nat} {env : Env} {H : Hp} {R : AV → Hp → Prop} (e : Go.AL.stepsI 30 w = .code (.cond (.tmp t) x y) :: k) (h : ARun C (.code x :: k) env H R) (hc : env t = .p (bo true) := by simp (disch:=first|exact za|fail) only [go_sem,seval]) : ARun C w env H R := .q (by rw [e]; exact .ifT hc h)
theorem ARun.qF {C : Cx} {w k : List Item} {x y : Code} {t : Nat} {env : Env} {H : Hp} {R : AV → Hp → Prop} (e : Go.AL.stepsI 30 w = .code (.cond (.tmp t) x y) :: k) (h : ARun C (.code y :: k) env H R) (hc : env t = .p (bo false) := by simp (disch:=first|exact za|fail) only [go_sem,seval]) : ARun C w env H R := .q (by rw [e]; exact .ifF hc h)
theorem ARun.rt {C:Cx} {k:List Item} {env:Env} {H:Hp} {R:AV → Hp → Prop} {fn:Func} {x y:AV} (hfn:C.P.funcs[C.fid]? = some fn) {rs:List ResultVar} (hrs:fn.results.toList=rs)
 (hx:ze7 C.P rs env H=some x:=by simp (disch:=first|exact za|fail) only [go_sem,seval];rfl) (hy:x.out C.n0=some y:=by simp (disch:=first|exact za|fail) only [go_sem,seval];rfl)
 (hb:Bel C.n0 H:=by (try dsimp only);repeat (first | with_reducible refine zaM ?_ za | with_reducible refine zfk ?_ za | with_reducible refine za8 ?_ za | with_reducible refine zpZ ?_ | with_reducible exact hbel | with_reducible exact hbel _ | with_reducible exact hbel _ _ | with_reducible exact hbel _ _ _ | with_reducible exact hbel _ _ _ _)) (hR:R y (H.trunc C.n0)) (hro:C.round=none:=by rfl) :
 ARun C (.code .ret :: k) env H R := .ret hfn hrs hx hy hb hR hro
theorem ARun.qr {C : Cx} {w k : List Item} {env : Env} {H : Hp} {R : AV → Hp → Prop} {fn : Func} {x y : AV} (e : Go.AL.stepsI 30 w = .code .ret :: k) (hfn:C.P.funcs[C.fid]? = some fn) {rs:List ResultVar} (hrs:fn.results.toList=rs) (hR : R y (H.trunc C.n0))
 (hx:ze7 C.P rs env H=some x:=by simp (disch:=first|exact za|fail) only [go_sem,seval];rfl) (hy:x.out C.n0=some y:=by simp (disch:=first|exact za|fail) only [go_sem,seval];rfl)
 (hb:Bel C.n0 H:=by (try dsimp only);repeat (first | with_reducible refine zaM ?_ za | with_reducible refine zfk ?_ za | with_reducible refine za8 ?_ za | with_reducible refine zpZ ?_ | with_reducible exact hbel | with_reducible exact hbel _ | with_reducible exact hbel _ _ | with_reducible exact hbel _ _ _ | with_reducible exact hbel _ _ _ _)) (hro:C.round=none:=by rfl) :
 ARun C w env H R := .q (by rw [e]; exact .rt hfn hrs hx hy hb hR hro)

end Go.AL

namespace Go.AL
open Go

section cell
variable {C:Cx} {todo:List Item} {env:Env} {H:Hp} {R:AV → Hp → Prop}

theorem setRow_self {w:World} {g:Nat} {c:Array Value} {e:TypeId} (h:w.heap[g]? = some (.cells c e (0,0))):w.setRow g c=w:=by
 have:(w.setRow g c).heap=w.heap:=by
  apply Array.ext_getElem?;intro i;simp only [World.setRow,Array.getElem?_modify];by_cases hi:g=i
  · subst hi;simp [h]
  · simp [hi]
 cases w
 simp only [World.setRow] at this ⊢;rw [this]

theorem ARun.ownC (b o:Nat) {cs:List AV} {sz:Nat} {xs:List PV} (hb:H.f b=some (.cells cs)) (ho:cs[o]? = some (.p (.sl true sz xs)))
 (h:ARun C todo env ((H.new (.tail 0)).set b (.cells (cs.set o (.sl H.n 0 sz xs)))) R):ARun C todo env H R :=
 .ghost (fun σ w a m hpre=>by
  obtain⟨r1,e1⟩:=zaa hpre.rel (w':=w) (Nat.le_refl _) (fun _ _=>rfl) rfl rfl none (fun _ _ _ hh=>by cases hh)
  have hb1:(H.new (.tail 0)).f b=some (.cells cs):=by rw [Hp.f_new_old H _ b (Hp.lt hb)];exact hb
  obtain⟨c,e,hw,hl,hcs⟩:=r1.cells b cs hb1
  obtain⟨r2,e2⟩:=zcN r1 hb1 hw c (cs.set o (.sl H.n 0 sz xs)) rfl (by simp) (fun i x hx=>by
   by_cases hi:o=i
   · subst hi
     obtain⟨v,hv,hrc⟩:=hcs o _ ho
     have hlt:o < cs.length:=(List.getElem?_eq_some_iff.1 ho).1;simp [hlt] at hx;subst hx
     refine⟨v,hv,?_,hrc.2⟩
     cases hrc.1 with | p hp' =>
     refine .sl ?_ ⟨by simp [Hp.n_new],fun k0 d hk0 => ?_⟩
     · cases hp' with
       | emp _ _ a cap h hc=>exact .emp _ _ a cap (by simp) hc
       | sl _ _ _ g off cap f hfl hcap hsz hrd hc=>exact .sl false _ _ g off cap f (by simp) hcap hsz hrd hc
     · simp [Hp.f_new] at hk0
       refine⟨by omega,fun _ => .inl ?_⟩
       cases hp' with
       | emp _ _ a cap h0 hc=>exact⟨a,0,by rw [h0 rfl],by simp [Gh.withT]⟩
       | sl _ _ _ g off cap f hfl hcap hsz hrd hc=>exact⟨some ⟨g,off,none⟩,xs.length,by rw [hfl rfl],by simp [Gh.withT]⟩
   · rw [List.getElem?_set_ne hi] at hx
     exact hcs i x hx)
  rw [setRow_self hw] at r2 e2
  exact⟨_,r2,fun i=>((hpre.fr.slot i).mono e1).mono e2,e1.trans (e2.weaken (by simp [Hp.n_new])) (Nat.le_refl _)⟩) h

theorem ARun.weakC (b:Nat) {cs:List AV} (hb:H.f b=some (.cells cs)) (h:ARun C todo env (H.set b (.cells (cs.map AV.weak))) R):ARun C todo env H R :=
 .ghost (fun σ w a m hpre=>by
  obtain⟨c,e,hw,hl,hcs⟩:=hpre.rel.cells b cs hb
  obtain⟨r2,e2⟩:=zcN hpre.rel hb hw c (cs.map AV.weak) rfl (by simp) (fun i x hx=>by
   rw [List.getElem?_map] at hx
   cases hy:cs[i]? with
   | none=>rw [hy] at hx;cases hx
   | some y =>
    rw [hy] at hx;cases hx
    obtain⟨v,hv,hrc⟩:=hcs i y hy
    exact⟨v,hv,hrc.1.weak,hrc.2⟩)
  rw [setRow_self hw] at r2 e2
  exact⟨_,r2,fun i=>(hpre.fr.slot i).mono e2,e2⟩) h

theorem ARun.weak (t:Nat) {x y:AV} (ht:env t=x) (hy:x.weak=y) (h:ARun C todo (env.put (some t) y) H R):ARun C todo env H R :=
 .ghost (fun σ w a m hpre=>by
  obtain⟨r1,e1⟩:=zds hpre.rel (w':=w) (Nat.le_refl _) (fun _ _=>rfl) rfl rfl
  refine⟨σ,hpre.rel,fun i => ?_,e1⟩
  simp only [Env.put];by_cases hi:i=t
  · subst hi;rw [if_pos rfl,←hy,←ht];exact (hpre.fr.slot i).weak
  · rw [if_neg hi];exact hpre.fr.slot i) h
end cell

theorem zfk {n:Nat} {H:Hp} {T:List AB} (h:Bel n H) (hn:n≤H.n):Bel n (app H T):=by
 induction T generalizing H with
 | nil=>exact h
 | cons x T ih=>exact ih ((Bel.new hn).2 h) (by rw [n_new'];omega)
theorem zHg {a:Nat}:a+1+1=a+2:=by omega
theorem zES {a:Nat}:a+1+2=a+3:=by omega
theorem zET {a:Nat}:a+1+3=a+4:=by omega
theorem zEU {a:Nat}:a+1+4=a+5:=by omega
theorem zEV {a:Nat}:a+1+5=a+6:=by omega
attribute [go_sem] zES zET zEU zEV zHg
end Go.AL

namespace Go.AL
open Go

def St:List Nat → List (Nat × AV) → Env → Env → Prop
 | t :: fx,vs,env,env'=>env' t=env t∧St fx vs env env'
 | [],(t,v) :: vs,env,env'=>env' t=v∧St [] vs env env'
 | [],[],_,_=>True
theorem zyB {t:Nat} {fx:List Nat} {vs:List (Nat × AV)} {env env':Env}:St (t :: fx) vs env env'=(env' t=env t∧St fx vs env env'):=by rw [St]
theorem zEW {t:Nat} {v:AV} {vs:List (Nat × AV)} {env env':Env}:St [] ((t,v) :: vs) env env'=(env' t=v∧St [] vs env env'):=by rw [St]
theorem zEX {env env':Env}:St [] [] env env'=True:=by rw [St]
theorem St.start {env:Env} {vs:List (Nat × AV)} (h:St [] vs env env) : ∀ {fx:List Nat},St fx vs env env
 | []=>h
 | t :: fx=>by rw [zyB];exact⟨rfl,St.start h⟩

def zcf (H:Hp):List (Nat × AB) → Hp
 | []=>H
 | (b,x) :: l=>zcf (H.set b x) l
theorem ye {H:Hp}:zcf H []=H:=by rw [zcf]
theorem zX {H:Hp} {b:Nat} {x:AB} {l:List (Nat × AB)}:zcf H ((b,x) :: l)=zcf (H.set b x) l:=by rw [zcf]
def news (H:Hp):List AB → Hp
 | []=>H
 | x :: l=>news (H.new x) l
def Later (H:Hp) (bs:List (Nat × AB)) (H':Hp):Prop := ∃ T,H'=app (zcf H bs) T
theorem Later.mk {H H':Hp} {bs:List (Nat × AB)} (T:List AB) (h:H'=app (zcf H bs) T):Later H bs H':=⟨T,h⟩

def stepS:List Item → Option (List Item)
 | .code .skip :: k=>some k
 | .code (.seq x y) :: k=>some (.code x :: .code y :: k)
 | .inBlock _ :: k=>some k
 | .code (.exit id) :: k=>exitTo id k
 | _=>none
theorem zl {H:Hp} {T:List AB} {x:AB}:(app H T).new x=app H (T++[x]):=by simp [app]
section rules
variable {C:Cx} {k:List Item} {env:Env} {H:Hp} {R:AV → Hp → Prop}
theorem ARun.zs {t t':List Item} (e:stepS t=some t') (h:ARun C t' env H R):ARun C t env H R:=by
 unfold stepS at e;split at e
 · cases e;exact .skip h
 · cases e;exact .seq h
 · cases e;exact .inBlock h
 · exact .exit e h
 · cases e
theorem ARun.loopF {c:Code} (fx:List Nat) (V:Nat → List (Nat × AV)) (B:Nat → List (Nat × AB)) (Q:Nat → Prop) (a n:Nat) (ha:a≤n) (hv:St [] (V a) env env) (hb:zcf H (B a)=H) (hq:Q a)
 (last : ∀ env' T,St fx (V n) env env' → Q n → ARun C (.code c :: .inLoop c :: k) env' (app (zcf H (B n)) T) R)
 (round : ∀ i env' T,a≤i → i < n → St fx (V i) env env' → Q i → (∀ env2 H2,St fx (V (i+1)) env env2 → Q (i+1) → Later H (B (i+1)) H2 → ARun C (.inLoop c :: k) env2 H2 R) → ARun C (.code c :: .inLoop c :: k) env' (app (zcf H (B i)) T) R) :
 ARun C (.code (.loop c) :: k) env H R :=
 .count (fun i env' H'=>St fx (V i) env env'∧Q i∧Later H (B i) H') a n ha ⟨.start hv,hq,[],hb.symm⟩
  (fun env' H' ⟨h1,h2,T,h3⟩=>by subst h3;exact last env' T h1 h2)
  (fun i env' H' h1 h2 ⟨h3,h4,T,h5⟩ ih=>by subst h5;exact round i env' T h1 h2 h3 h4 fun env2 H2 a b c=>ih env2 H2 ⟨a,b,c⟩)
theorem ARun.loopE {c:Code} (fx:List Nat) (V:Nat → List (Nat × AV)) (B:Nat → List (Nat × AB)) (Q:Nat → Prop) (a n:Nat) (ha:a≤n) (hv:St [] (V a) env env) (hb:zcf H (B a)=H) (hq:Q a)
 (last : ∀ env',St fx (V n) env env' → Q n → ARun C (.code c :: .inLoop c :: k) env' (zcf H (B n)) R)
 (round : ∀ i env',a≤i → i < n → St fx (V i) env env' → Q i → (∀ env2 H2,St fx (V (i+1)) env env2 → Q (i+1) → H2=zcf H (B (i+1)) → ARun C (.inLoop c :: k) env2 H2 R) → ARun C (.code c :: .inLoop c :: k) env' (zcf H (B i)) R) :
 ARun C (.code (.loop c) :: k) env H R :=
 .count (fun i env' H'=>St fx (V i) env env'∧Q i∧H'=zcf H (B i)) a n ha ⟨.start hv,hq,hb.symm⟩
  (fun env' H' ⟨h1,h2,h3⟩=>by subst h3;exact last env' h1 h2)
  (fun i env' H' h1 h2 ⟨h3,h4,h5⟩ ih=>by subst h5;exact round i env' h1 h2 h3 h4 fun env2 H2 a b c=>ih env2 H2 ⟨a,b,c⟩)
theorem ARun.cutE {i:Item} (fx:List Nat) (V:List (Nat × AV)) (B:List (Nat × AB)) (h1:(∀ env2 H2,St fx V env env2 → H2=zcf H B → ARun C k env2 H2 R) → ARun C (i :: k) env H R)
 (h2 : ∀ env',St fx V env env' → ARun C k env' (zcf H B) R):ARun C (i :: k) env H R :=
 h1 fun env2 H2 a b=>by subst b;exact h2 env2 a
theorem ARun.loopF0 {c:Code} {X:Hp} {T0:List AB} (fx:List Nat) (V:Nat → List (Nat × AV)) (Q:Nat → Prop) (a n:Nat) (ha:a≤n) (hv:St [] (V a) env env) (hq:Q a)
 (last : ∀ env' T,St fx (V n) env env' → Q n → ARun C (.code c :: .inLoop c :: k) env' (app X T) R)
 (round : ∀ i env' T,a≤i → i < n → St fx (V i) env env' → Q i → (∀ env2 H2,St fx (V (i+1)) env env2 → Q (i+1) → Later X [] H2 → ARun C (.inLoop c :: k) env2 H2 R) → ARun C (.code c :: .inLoop c :: k) env' (app X T) R) :
 ARun C (.code (.loop c) :: k) env (app X T0) R :=
 .count (fun i env' H'=>St fx (V i) env env'∧Q i∧Later X [] H') a n ha ⟨.start hv,hq,T0,rfl⟩
  (fun env' H' ⟨h1,h2,T,h3⟩=>by subst h3;exact last env' T h1 h2)
  (fun i env' H' h1 h2 ⟨h3,h4,T,h5⟩ ih=>by subst h5;exact round i env' T h1 h2 h3 h4 fun env2 H2 a b c=>ih env2 H2 ⟨a,b,c⟩)
theorem ARun.loopH {c:Code} (fx:List Nat) (V:Nat → List (Nat × AV)) (B:Nat → Hp) (Q:Nat → Prop) (a n:Nat) (ha:a≤n) (hv:St [] (V a) env env) (hb:B a=H) (hq:Q a)
 (last : ∀ env',St fx (V n) env env' → Q n → ARun C (.code c :: .inLoop c :: k) env' (B n) R)
 (round : ∀ i env',a≤i → i < n → St fx (V i) env env' → Q i → (∀ env2 H2,St fx (V (i+1)) env env2 → Q (i+1) → H2=B (i+1) → ARun C (.inLoop c :: k) env2 H2 R) → ARun C (.code c :: .inLoop c :: k) env' (B i) R) :
 ARun C (.code (.loop c) :: k) env H R :=
 .count (fun i env' H'=>St fx (V i) env env'∧Q i∧H'=B i) a n ha ⟨.start hv,hq,hb.symm⟩
  (fun env' H' ⟨h1,h2,h3⟩=>by subst h3;exact last env' h1 h2)
  (fun i env' H' h1 h2 ⟨h3,h4,h5⟩ ih=>by subst h5;exact round i env' h1 h2 h3 h4 fun env2 H2 a b c=>ih env2 H2 ⟨a,b,c⟩)
end rules

section rows
variable {C:Cx} {todo:List Item} {env:Env} {H:Hp} {R:AV → Hp → Prop}
def zaq {α:Type} (f:Nat → α) (n:Nat):List α:=(List.range n).map f
theorem zfl {α:Type} {f:Nat → α} {n i:Nat} (h:i < n):(zaq f n)[i]? = some (f i):=by simp [zaq,h]
theorem zhO {α:Type} {f:Nat → α} {n:Nat}:(zaq f n).length=n:=by simp [zaq]
theorem zmR {α:Type} {f:Nat → α} {n k:Nat} {x:α}:(zaq f n).set k x=zaq (fun j=>if j=k then x else f j) n:=by
 apply List.ext_getElem (by simp [zaq]);intro i h1 h2
 have hi:i < n:=by simpa [zaq] using h2
 by_cases e:k=i
 · subst e;simp [zaq]
 · rw [List.getElem_set_ne e];simp [zaq,show ¬ i=k from fun h=>e h.symm]
theorem zcZ {α:Type} {f g:Nat → α} {n:Nat} (h : ∀ i,i < n → f i=g i):zaq f n=zaq g n:=by
 unfold zaq
 exact List.map_congr_left fun i hi=>h i (List.mem_range.1 hi)
theorem ARun.ownCs (b n:Nat) {sz:Nat} (hb:H.f b=some (.cells (List.replicate n (.p (.sl true sz [])))))
 (h:ARun C todo env (app (H.set b (.cells (zaq (fun j => .sl (H.n+j) 0 sz []) n))) (List.replicate n (.tail 0))) R):ARun C todo env H R:=by
 have hlt:b < H.n:=Hp.lt hb
 have key : ∀ d m,m+d=n → ARun C todo env (app (H.set b (.cells (zaq (fun j=>if j < m then .sl (H.n+j) 0 sz [] else .p (.sl true sz [])) n))) (List.replicate m (.tail 0))) R:=by
  intro d
  induction d with
  | zero =>
   intro m hm
   have:m=n:=by omega
   subst this
   have e:zaq (fun j=>if j < m then AV.sl (H.n+j) 0 sz [] else .p (.sl true sz [])) m=zaq (fun j => .sl (H.n+j) 0 sz []) m:=zcZ fun i hi=>by rw [if_pos hi]
   rw [e];exact h
  | succ d ih =>
   intro m hm
   have hn:(app (H.set b (.cells (zaq (fun j=>if j < m then .sl (H.n+j) 0 sz [] else .p (.sl true sz [])) n))) (List.replicate m (.tail 0))).n=H.n+m:=by
    rw [app_n',n_set',List.length_replicate]
   refine .ownC b m (cs:=zaq (fun j=>if j < m then .sl (H.n+j) 0 sz [] else .p (.sl true sz [])) n) (sz:=sz) (xs:=[]) ?_ ?_ ?_
   · rw [zfh (by rw [n_set'];exact hlt),zy rfl hlt]
   · rw [zfl (by omega),if_neg (by omega)]
   · rw [hn,zl,zsg (by rw [n_set'];exact hlt),set_set',zmR]
     have:=ih (m+1) (by omega)
     rw [List.replicate_succ'] at this
     have e:zaq (fun j=>if j=m then AV.sl (H.n+m) 0 sz [] else if j < m then .sl (H.n+j) 0 sz [] else .p (.sl true sz [])) n=zaq (fun j=>if j < m+1 then .sl (H.n+j) 0 sz [] else .p (.sl true sz [])) n:=zcZ fun i hi=>by
      by_cases e1:i=m
      · subst e1;rw [if_pos rfl,if_pos (by omega)]
      · rw [if_neg e1];by_cases e2:i < m
        · rw [if_pos e2,if_pos (by omega)]
        · rw [if_neg e2,if_neg (by omega)]
     rw [e];exact this
 have:=key n 0 (by omega)
 have e:zaq (fun j=>if j < 0 then AV.sl (H.n+j) 0 sz [] else .p (.sl true sz [])) n=List.replicate n (.p (.sl true sz [])):=by
  apply List.ext_getElem (by simp [zaq]);intro i h1 h2;simp [zaq]
 rw [e,List.replicate_zero] at this
 have hs:H.set b (.cells (List.replicate n (.p (.sl true sz []))))=H:=Hp.ext (fun c=>by
  by_cases hc:c=b
  · subst hc;rw [zy rfl hlt];exact hb.symm
  · rw [f_set_ne' hc]) rfl
 rw [hs] at this;exact this
end rows
attribute [go_sem] zyB zEW zEX ye zX
end Go.AL

namespace Go.AL
open Go

section plain
variable {G:Globs} {σ:Gh} {H:Hp} {w:World} {α:Type} {f:α → PV} {l:List α}


theorem zmS (hr:Rel G σ H w) {b len sz:Nat} {v:Value} {cs:List AV} {xs:List PV} (hb:(H.f b).bind AB.vec? = some cs) (hcs:cs=(flat xs).map .p) (hl:xs.length=len) (hsz : ∀ x∈xs,x.cells.length=sz) (hs:RelV σ H w (.vr b len sz) v) :
 RelV σ (H.set b .dead) w (.p (.sl false sz xs)) v:=by
 obtain⟨r1,e1⟩:=yX hr b
 cases hs with | vr hs =>
 subst hl;have hfl:(flat xs).length=xs.length*sz:=zV hsz
 obtain⟨ad,cap,rfl,hado,hrow⟩:=zke hr hb hs (by rw [hcs,List.length_map,hfl])
 rcases hrow with ⟨h0,rfl,hσ⟩ | ⟨g,s,rfl,hσ,h5,h6,h7,h8,hcells⟩
 · have:xs=[]:=List.eq_nil_of_length_eq_zero h0
   subst this;exact .p (.emp _ _ _ _ (by simp) (by simp))
 · obtain⟨k,hk⟩:=vec?_inv hb
   have hcell : ∀ j y,(flat xs)[j]? = some y → ∃ v,w.cell? ⟨g,j,none⟩=some v∧RelP w (Stable σ (H.set b .dead)) y v∧v.oneCell'=true:=fun j y hj=>by
    obtain⟨v,h1,h2,h3⟩:=hcells j (.p y) (by rw [hcs];simp [hj])
    have:=h2.mono e1
    cases this with | p hp=>exact⟨v,h1,hp,h3⟩
   refine .p (.sl false sz xs g 0 cap (fun j=>(w.cell? ⟨g,j,none⟩).getD undef) (by simp) ⟨h6,h7⟩ hsz (fun j hj => ?_) (fun j y hj => ?_))
   · rw [Nat.zero_add]
     obtain⟨v,h1,_,h3⟩:=hcell j ((flat xs)[j]'(by omega)) (by simp)
     exact⟨zfj hr hk hσ j,by simp [h1],by simp [h1,h3]⟩
   · obtain⟨v,h1,h2,_⟩:=hcell j y hj
     simp only [h1,Option.getD_some];exact h2
end plain

section cell
variable {C:Cx} {todo:List Item} {env:Env} {H:Hp} {R:AV → Hp → Prop}

theorem ARun.frzCell (b o d:Nat) {cs:List AV} {x y:AV} (hb:H.f b=some (.cells cs)) (ho:cs[o]? = some x) (hne:b≠d)
 (hx : ∀ (σ:Gh) (w:World) (v:Value),Rel C.G σ H w → RelV σ H w x v → RelV σ (H.set d .dead) w y v)
 (h:ARun C todo env ((H.set d .dead).set b (.cells (cs.set o y))) R):ARun C todo env H R :=
 .ghost (fun σ w a m hpre=>by
  obtain⟨r1,e1⟩:=yX hpre.rel d
  have hb1:(H.set d .dead).f b=some (.cells cs):=by rw [Hp.f_set_ne H _ _ _ hne];exact hb
  obtain⟨c,e,hw,hl,hcs⟩:=r1.cells b cs hb1
  obtain⟨c0,e0,hw0,hl0,hcs0⟩:=hpre.rel.cells b cs hb
  rw [hw] at hw0;cases hw0
  obtain⟨r2,e2⟩:=zcN r1 hb1 hw c (cs.set o y) rfl (by simp) (fun i z hz=>by
   by_cases hi:o=i
   · subst hi
     obtain⟨v,hv,hrc⟩:=hcs0 o _ ho
     have hlt:o < cs.length:=(List.getElem?_eq_some_iff.1 ho).1;simp [hlt] at hz;subst hz
     exact⟨v,hv,hx σ w v hpre.rel hrc.1,hrc.2⟩
   · rw [List.getElem?_set_ne hi] at hz
     exact hcs i z hz)
  rw [setRow_self hw] at r2 e2
  exact⟨_,r2,fun i=>((hpre.fr.slot i).mono e1).mono e2,e1.trans (e2.weaken (Nat.le_refl _)) (Nat.le_refl _)⟩) h
end cell
end Go.AL

namespace Go.AL
open Go

section freeze
variable {C:Cx} {todo:List Item} {env:Env} {H:Hp} {R:AV → Hp → Prop}
theorem ARun.frzR (t:Nat) {b len sz:Nat} {cs:List AV} {xs:List PV} (ht:env t = .ref b 0 len sz) (hb:H.f b=some (.cells cs)) (hcs:cs=(flat xs).map .p) (hl:xs.length=len) (hsz : ∀ x∈xs,x.cells.length=sz)
 (h:ARun C todo (env.put (some t) (.p (.sl false sz xs))) (H.set b .dead) R):ARun C todo env H R :=
 .ghost (fun σ w a m hpre=>by
  subst hcs
  obtain⟨r1,e1⟩:=yX hpre.rel b
  obtain⟨F,hF⟩:=zeL hpre.rel hb
  refine⟨σ,r1,fun i => ?_,e1⟩
  simp only [Env.put];by_cases hi:i=t
  · subst hi;rw [if_pos rfl];have hs:=hpre.fr.slot i;rw [ht] at hs
    generalize a.tmps.getD i undef=v at hs
    cases hs with | ref ad h0 hbn hcap ha =>
    obtain⟨g,o,rfl⟩:=h0
    subst hl;have hfl:(flat xs).length=xs.length*sz:=zV hsz;by_cases hz:xs.length=0
    · have:xs=[]:=List.eq_nil_of_length_eq_zero hz
      subst this;exact .p (.emp _ _ _ _ (by simp) hcap.2)
    have:=ha (by omega)
    cases this
    refine .p (.sl false sz xs _ 0 _ F (by simp) hcap hsz (fun k hk => ?_) (fun k y hy=>(hF k y hy).2.2.2))
    obtain⟨p1,p2,p3,_⟩:=hF k ((flat xs)[k]'(by omega)) (by simp)
    rw [Nat.zero_add];exact⟨p1,p2,p3⟩
  · rw [if_neg hi];exact (hpre.fr.slot i).mono e1) h
end freeze
end Go.AL

namespace Go.AL
open Go


section fast
variable {C:Cx} {ops:Array Oper} {q:Nat → Bool} {Q:Env → Hp → Prop}


end fast
end Go.AL

namespace Go.AL
open Go

section cut
variable {G:Globs} {σ:Gh} {H:Hp} {w:World}
end cut

section ops
variable {C:Cx} {ops:Array Oper} {rest:List Oper} {k:List Item} {env:Env} {H:Hp} {R:AV → Hp → Prop}
theorem AOps.ghost {l:List Oper} {env':Env} {H':Hp}
 (hg : ∀ σ w a m,Pre C σ H w env a m → ∃ σ',Rel C.G σ' H' w∧(∀ i,RelV σ' H' w (env' i) (a.tmps.getD i undef))∧Ev H.n σ H w σ' H' w) (h:AOps C ops l k env' H' R):AOps C ops l k env H R:=by
 intro σ w a m hpre
 obtain⟨σ',hr,hs,hev⟩:=hg σ w a m hpre
 have h4:=hpre.fr.mono hev;have h1:=h σ' w a m (hpre.go hr ⟨h4.defers,h4.size,hs⟩ hev)
 have hF:Fr C σ'=Fr C σ:=by simp only [Fr,round_eq hpre.n0 hev.c hpre.lt]
 rw [hF] at h1;refine zcm l ?_ _ _ h1
 rintro e a' w2 ⟨rfl,env2,H2,σ2,hr2,hpre2,hev2⟩
 exact⟨rfl,env2,H2,σ2,hr2,hpre2,hev.trans (hev2.weaken hev.hn) (Nat.le_refl _)⟩
theorem AOps.vec {l:List Oper} (t:Nat) {sz:Nat} (ht:env t = .p (.sl true sz [])) (h:AOps C ops l k (env.put (some t) (.vr H.n 0 sz)) (H.new (.vec [])) R):AOps C ops l k env H R :=
 .ghost (fun σ w a m hpre=>by
  obtain⟨r1,e1⟩:=zcp hpre.rel (w':=w) (Nat.le_refl _) (fun _ _=>rfl) rfl rfl 0 (some []) none (fun _ _ _ hh=>by cases hh) (fun cs hcs=>by cases hcs;exact⟨rfl,fun _=>rfl,fun _ _ _ hh=>by cases hh⟩)
  refine⟨_,r1,fun i => ?_,e1⟩
  simp only [Env.put];by_cases hi:i=t
  · subst hi;rw [if_pos rfl];have hs:=hpre.fr.slot i;rw [ht] at hs
    generalize a.tmps.getD i undef=v at hs
    have hv : ∃ ad,v = .slice ad 0 0∧zlH ad 0:=by
     cases hs with | p hp =>
     cases hp with
     | emp _ _ a cap h0 hc=>exact⟨a,by rw [h0 rfl],by simp [zlH]⟩
     | sl _ _ _ g off cap F hfl hcap hsz hrd hc =>
      have:=hfl rfl
      simp only [List.length_nil] at this;subst this
      exact⟨_,rfl,by simp [zlH]⟩
    obtain⟨ad,rfl,hado⟩:=hv
    refine .vr ⟨by simp [Hp.n_new],ad,0,rfl,hado,fun k0 c hk0 => ?_⟩;simp [Hp.f_new] at hk0
    exact⟨by simp,fun _ => .inl ⟨rfl,rfl,by simp [Gh.withT]⟩⟩
  · rw [if_neg hi];exact (hpre.fr.slot i).mono e1) h
end ops
end Go.AL

namespace Go.AL
open Go

theorem ziX {P:Program} {G:Globs} {σ:Gh} {H:Hp} {w:World} {t:TypeId} {n sz:Nat} {parts:List (Nat × AV)} {vparts:Array (Nat × Value)} {cs:List AV} (hr:Rel G σ H w) (h:yh true P H t n parts=some (.ref H.n 0 n sz,H.new (.cells cs)))
 (hl:vparts.size=parts.length) (hp : ∀ (k:Nat) i x j v,parts[k]? = some (i,x) → vparts[k]? = some (j,v) → j=i∧RelV σ H w x v) :
 ∃ v w' σ',(Instr.buildSlice t n vparts).run P w = .ok v w'∧RelV σ' (H.new (.vec cs)) w' (.vr H.n n sz) v∧Rel G σ' (H.new (.vec cs)) w'∧Ev H.n σ H w σ' (H.new (.vec cs)) w':=by
 unfold yh at h;split at h
 case h_2=>cases h
 rename_i e hu;split at h
 case isFalse=>cases h
 rename_i hc
 obtain⟨hzf,hpos,hsmall,hidx⟩:=hc
 have hps : ∃ ps,zU P e=some ps∧ps.length=P.cellsOf e:=by
  unfold yE at hzf;split at hzf
  · rename_i ps hps;exact⟨ps,hps,by simpa using hzf⟩
  · cases hzf
 obtain⟨ps,hps,hpl⟩:=hps
 obtain⟨z,hz1,hz,hzs,hzz⟩:=yy (w:=w) (S:=Stable σ H) hps
 obtain⟨ie,hie⟩ : ∃ i,P.info? e=some i:=by
  cases hh:P.info? e with
  | none=>simp [hh] at hz
  | some i=>exact⟨i,rfl⟩
 have hiz:ie.zero=some z:=by simpa [hie] using hz
 have his:ie.size=P.cellsOf e:=by simp [Program.cellsOf,hie]
 have hn:parts.length=n:=by have:=congrArg List.length hidx;simpa using this
 have hval : ∀ (i:Nat) x v,(parts.map (·.2))[i]? = some x → (vparts.toList.map (·.2))[i]? = some v → RelV σ H w x v:=fun i x v h1 h2=>by
  simp only [List.getElem?_map,Option.map_eq_some_iff] at h1 h2
  obtain⟨⟨j,x'⟩,h1,rfl⟩:=h1
  obtain⟨⟨j',v'⟩,h2,rfl⟩:=h2
  exact (hp i j x' j' v' h1 (by simpa using h2)).2
 have hzip:vparts.toList=((vparts.toList.map (·.2)).zipIdx 0).map fun x=>(x.2,x.1):=by
  apply List.ext_getElem?;intro k;simp only [List.getElem?_map,List.getElem?_zipIdx,Option.map_map,Function.comp_def,Nat.zero_add]
  cases hk:vparts.toList[k]? with
  | none=>rfl
  | some jv =>
   obtain⟨j,v⟩:=jv
   have hlt:k < parts.length:=by rw [←hl];have:=(List.getElem?_eq_some_iff.1 hk).1;simpa using this
   have h1:parts[k]? = some parts[k]:=by simp
   obtain⟨hj,_⟩:=hp k parts[k].1 parts[k].2 j v h1 (by simpa using hk)
   have h2:(parts.map (·.1))[k]? = some k:=by rw [hidx];exact List.getElem?_range (by omega)
   simp [hlt] at h2;simp [hj,h2]
 have hrun : ∀ (h1 : ∀ v∈vparts.toList.map (·.2),v.cells.size=P.cellsOf e),(Instr.buildSlice t n vparts).run P w =
  .ok (.slice (some ⟨w.heap.size,0,none⟩) n n) (w.alloc (.cells ((vparts.toList.map (·.2)).flatMap fun v=>v.cells.toList).toArray e)):=fun h1=>by
  by_cases hn0:n=0
  · subst hn0;have hp0:parts=[]:=List.eq_nil_of_length_eq_zero hn;subst hp0
    have:vparts = #[]:=by simpa using hl
    subst this;simp [Instr.buildSlice,run_underlying hu,sizeOf,typeInfo,hie,Instr.fill,newRow,Array.range_zero']
  · have hpos':0 < n*P.cellsOf e:=Nat.mul_pos (by omega) hpos;refine run_buildSlice w t e n vparts _ ie z hu hie hiz (by rw [his];omega) (by rw [his];omega) ?_;rw [his]
    have:=Great.fill_whole hpos _ ((Array.range (n*P.cellsOf e)).map (z.cells[· % z.cells.size]!)) h1 (by simp [hl,hn])
    rwa [←hzip] at this
 simp only [if_true] at h;split at h
 case h_2=>cases h
 rename_i cs' hcs;split at h
 case isFalse=>cases h
 rename_i hall;simp only [Option.some.injEq,Prod.mk.injEq,AV.ref.injEq,true_and] at h
 obtain⟨hsz,hH⟩:=h
 have hcc:cs'=cs:=by
  have:=congrArg (fun H':Hp=>H'.f H.n) hH
  simpa [Hp.f_new] using this
 subst hcc hsz
 obtain⟨q1,q2,q3⟩:=zbx (sz:=P.cellsOf e) (vs:=vparts.toList.map (·.2)) hcs (by simp [hl]) hval (fun x hx=>by
  simp only [List.mem_map] at hx
  obtain⟨⟨j,p⟩,hpm,rfl⟩:=hx
  have:=List.all_eq_true.1 hall (j,p) hpm
  simp only [Option.any_eq_true,beq_iff_eq] at this
  obtain⟨a,ha,hal⟩:=this
  exact⟨a,ha,hal⟩)
 have hq2:cs'.length=n*P.cellsOf e:=by rw [q2];simp [hn]
 generalize hrow:((vparts.toList.map (·.2)).flatMap fun v=>v.cells.toList).toArray=row at *
 obtain⟨r1,r2⟩:=zcp hr (w':=w.alloc (.cells row e)) (by simp) (fun g hg=>by simp only [World.alloc];rw [Array.getElem?_push_lt hg];simp [hg]) rfl rfl cs'.length (some cs') (some (w.heap.size,0,row.size))
  (fun g o s hh=>by cases hh;exact⟨Nat.le_refl _,row,e,by rw [heap_alloc_new],rfl⟩)
  (fun ds hds=>by
   cases hds
   refine⟨rfl,fun hh=>(by cases hh),fun g o s hh => ?_⟩
   cases hh
   refine⟨rfl,by rw [q3.1];exact Nat.le_refl _,fun i x hx => ?_⟩
   have hlt:i < row.size:=by rw [q3.1];exact (List.getElem?_eq_some_iff.1 hx).1
   refine⟨row[i],?_,q3.2 i x _ hx (Array.getElem?_eq_getElem hlt)⟩
   simp only [World.cell?,heap_alloc_new]
   simp [hlt])
 refine⟨_,_,_,hrun q1,?_,r1,r2⟩
 have hnl:n≤n*P.cellsOf e:=Nat.le_mul_of_pos_right _ hpos;refine .vr ⟨by simp [Hp.n_new],_,n,rfl,fun _=>rfl,fun k0 c hk0 => ?_⟩;simp only [Hp.f_new,if_true,Option.some.injEq,AB.tl.injEq] at hk0
 obtain⟨rfl,rfl⟩:=hk0
 refine⟨by omega,fun _ => .inr ⟨w.heap.size,row.size,rfl,by simp [Gh.withT],by rw [q3.1];omega,Nat.le_refl _,by unfold maxLen;omega⟩⟩

theorem AOps.weak {C:Cx} {ops:Array Oper} {l:List Oper} {k:List Item} {env:Env} {H:Hp} {R:AV → Hp → Prop} (t:Nat) {x y:AV} (ht:env t=x) (hy:x.weak=y) (h:AOps C ops l k (env.put (some t) y) H R):AOps C ops l k env H R :=
 .ghost (fun σ w a m hpre=>by
  obtain⟨r1,e1⟩:=zds hpre.rel (w':=w) (Nat.le_refl _) (fun _ _=>rfl) rfl rfl
  refine⟨σ,hpre.rel,fun i => ?_,e1⟩
  simp only [Env.put];by_cases hi:i=t
  · subst hi;rw [if_pos rfl,←hy,←ht];exact (hpre.fr.slot i).weak
  · rw [if_neg hi];exact hpre.fr.slot i) h
theorem AOps.buildVec {C:Cx} {ops:Array Oper} {rest:List Oper} {k:List Item} {env:Env} {H:Hp} {R:AV → Hp → Prop} {d n sz:Nat} {t ty:TypeId} {pos:String} {after:Array Edge} {parts:Array (Nat × Operand)} {cs:List AV} (hb:yh true C.P H t n (y5 C.G env parts.toList)=some (.ref H.n 0 n sz,H.new (.cells cs)))
 (hd:zA C.nt (some d)=true) (h:AOps C ops rest k (env.put (some d) (.vr H.n n sz)) (H.new (.vec cs)) R) :
 AOps C ops (⟨some d,.buildSlice t n parts,ty,pos,after,none⟩ :: rest) k env H R:=by
 refine .of_op true rfl fun σ w a m hpre K Q hK => ?_
 have hsem:Oper.semAt (Fr C σ).round a.eval ⟨some d,.buildSlice t n parts,ty,pos,after,none⟩=execOp a.eval ⟨some d,.buildSlice t n parts,ty,pos,after,none⟩:=Oper.semAt_eq _ _ _ (fun c h=>by cases h)
 obtain⟨h1,h2⟩:=zcT hpre.rel hpre.fr parts.toList
 obtain⟨v,w',σ',q1,q2,q3,q4⟩:=ziX (vparts:=parts.map fun p=>(p.1,a.eval p.2)) hpre.rel hb (by simp [h1]) (fun k i x j v e1 e2=>h2 k i x j v e1 (by simpa using e2))
 unfold Oper.wpIn
 refine⟨fun f _=>trivial,?_⟩
 rw [hsem]
 have he:(execOp a.eval ⟨some d,.buildSlice t n parts,ty,pos,after,none⟩).run C.P w = .ok (.value v) w':=by
  simp only [execOp,Sem.run_bind];rw [show (parts.map fun (i,x)=>(i,a.eval x))=parts.map fun p=>(p.1,a.eval p.2) from rfl,q1];rfl
 rw [he];exact hK (.vr H.n n sz) v _ _ w' h (zaw hd) q3 q2 q4
end Go.AL

namespace Go.AL
open Go

section maps
variable {P:Program} {G:Globs} {env:Env} {H:Hp} {ty:TypeId}
theorem zmT {t:TypeId} {x i:Operand} {ok:Bool}:ze P G (.lookup t x i ok) ty env H=vH (zaK P G.map H t (yd G env x) (yd G env i) ok) H:=rfl
theorem zhP {t:TypeId} {x i y:Operand}:ze P G (.mapUpdate t x i y) ty env H=uH (zbb P H t (yd G env x) (yd G env i) (zaW P G env t y)):=rfl
theorem zmU {t:TypeId} {x i y:Operand}:ze P G (.insert t x i y) ty env H=uH (zbb P H t (yd G env x) (yd G env i) (zaW P G env t y)):=rfl
theorem zkP {t:TypeId}:ze P G (.makeMap t none) ty env H = .val (.mp H.n) (H.new (.mapB [])):=rfl

def zfm (P:Program) (t:TypeId) (m:Option (List (Value × AV))) (ix:AV) (ok:Bool):Option AV :=
 match P.underlying t with
 | some (.map kt et) =>
  match m,ix.key? with
  | some m,some kv =>
   if zhh P kt∧zdB P kt (kv :: m.map (·.1)) then
    match zdm P kt kv m,zaZ P et with
    | some v,some _=>some (if ok then .tup [v,.p (.s (.bool true))] else v)
    | none,some z=>some (if ok then .tup [z,.p (.s (.bool false))] else z)
    | _,_=>none
   else none
  | _,_=>none
 | _=>none
def zaY (P:Program) (H:Hp) (t:TypeId) (b:Nat) (m:Option (List (Value × AV))) (ix y:AV):Option Hp :=
 match P.underlying t with
 | some (.map kt _) =>
  match m,ix.key? with
  | some m,some kv=>if zhh P kt∧zdB P kt (kv :: m.map (·.1)) then some (H.set b (.mapB (zgC P kt kv y m))) else none
  | _,_=>none
 | _=>none
theorem zqe {gm:Nat → Option (List (Value × AV))} {t:TypeId} {b:Nat} {ix:AV} {ok:Bool}:zby P gm H t (.mp b) ix ok=zfm P t ((H.f b).bind AB.map?) ix ok:=rfl
theorem zqf {gm:Nat → Option (List (Value × AV))} {t:TypeId} {r:Nat} {ix:AV} {ok:Bool}:zby P gm H t (.p (.s (.map (some r)))) ix ok=zfm P t (gm r) ix ok:=rfl
theorem zqg {t:TypeId} {b:Nat} {ix y:AV}:zeg P H t (.mp b) ix y=zaY P H t b ((H.f b).bind AB.map?) ix y:=by
 unfold zeg zaY
 cases P.underlying t with
 | none=>rfl
 | some d=>cases d<;>rfl
end maps

def tm {κ α:Type} (ev:κ → Value) (f:α → AV) (m:List (κ × α)):List (Value × AV):=m.map fun p=>(ev p.1,f p.2)
def zM {κ α:Type} [DecidableEq κ] (k:κ):List (κ × α) → Option α
 | []=>none
 | (a,x) :: m=>if a=k then some x else zM k m
def zbX {κ α:Type} [DecidableEq κ] (k:κ) (x:α):List (κ × α) → List (κ × α)
 | []=>[(k,x)]
 | (a,y) :: m=>if a=k then (a,x) :: m else (a,y) :: zbX k x m
def zyC {α:Type} (f:α → AV) (z:AV) (o:Option α):AV:=match o with | some v => .tup [f v,.p (bo true)] | none => .tup [z,.p (bo false)]
theorem zqh {α:Type} {f:α → AV} {z:AV} {v:α}:zyC f z (some v) = .tup [f v,.p (bo true)]:=rfl
theorem zqi {α:Type} {f:α → AV} {z:AV}:zyC f z none = .tup [z,.p (bo false)]:=rfl

structure MapT (P:Program) (t:TypeId) {κ α:Type} [DecidableEq κ] (ek:κ → PV) (ev:κ → Value) (ok:κ → Prop) (f:α → AV) (z:AV):Prop where
 ty : ∃ kt et,P.underlying t=some (.map kt et)∧zhh P kt=true∧(∀ k,ok k → (keyOf P kt (ev k)).isSome=true)∧zaZ P et=some z
 val : ∀ k,(ek k).val? = some (ev k)
 inj : ∀ a b,ok a → ok b → ev a=ev b → a=b

section maps
variable {P:Program} {t:TypeId} {κ α:Type} [DecidableEq κ] {ek:κ → PV} {ev:κ → Value} {ok:κ → Prop} {f:α → AV} {z:AV}

theorem zju {kt:TypeId} (hk:zhh P kt=true) (ho : ∀ k,ok k → (keyOf P kt (ev k)).isSome=true) (hi : ∀ a b,ok a → ok b → ev a=ev b → a=b) {a b:κ} (ha:ok a) (hb:ok b):zdl P kt (ev a) (ev b)=decide (a=b):=by
 have K:=zeG hk;by_cases e:a=b
 · subst e
   obtain⟨l,hl⟩:=Option.isSome_iff_exists.1 (ho a ha)
   rw [zeH K hl];simp
 · rw [decide_eq_false e]
   cases h:zdl P kt (ev a) (ev b) with
   | false=>rfl
   | true=>exact absurd (hi a b ha hb (zcr K h)) e

theorem zhQ {kt:TypeId} (hk:zhh P kt=true) (ho : ∀ k,ok k → (keyOf P kt (ev k)).isSome=true) (hi : ∀ a b,ok a → ok b → ev a=ev b → a=b) {k:κ} (h:ok k) :
 ∀ m:List (κ × α),(∀ p∈m,ok p.1) → zdm P kt (ev k) (tm ev f m)=(zM k m).map f
 | [],_=>rfl
 | (a,x) :: m,hm=>by
  have h1:=zju hk ho hi (hm (a,x) (by simp)) h;have ih:=zhQ hk ho hi h m (fun p hp=>hm p (by simp [hp]));simp only [tm,List.map_cons,zdm,zM] at ih ⊢;rw [h1];by_cases e:a=k
  · simp [e]
  · simp [e,ih]

theorem zsl {kt:TypeId} (hk:zhh P kt=true) (ho : ∀ k,ok k → (keyOf P kt (ev k)).isSome=true) (hi : ∀ a b,ok a → ok b → ev a=ev b → a=b) {k:κ} (h:ok k) (x:α) :
 ∀ m:List (κ × α),(∀ p∈m,ok p.1) → zgC P kt (ev k) (f x) (tm ev f m)=tm ev f (zbX k x m)
 | [],_=>rfl
 | (a,y) :: m,hm=>by
  have h1:=zju hk ho hi (hm (a,y) (by simp)) h;have ih:=zsl hk ho hi h x m (fun p hp=>hm p (by simp [hp]));simp only [tm,List.map_cons,zgC,zbX] at ih ⊢;rw [h1];by_cases e:a=k
  · simp [e]
  · simp [e,ih]

theorem zfX {kt:TypeId} (ho : ∀ k,ok k → (keyOf P kt (ev k)).isSome=true) {k:κ} (h:ok k) {m:List (κ × α)} (hm : ∀ p∈m,ok p.1):zdB P kt (ev k :: (tm ev f m).map (·.1))=true:=by
 simp only [zdB,List.all_cons,Bool.and_eq_true,List.all_eq_true,tm,List.map_map,List.mem_map]
 refine⟨ho k h,fun v hv => ?_⟩
 obtain⟨p,hp,rfl⟩:=hv
 exact ho _ (hm p hp)

theorem MapT.look (M:MapT P t ek ev ok f z) {m:List (κ × α)} {k:κ} (hm : ∀ p∈m,ok p.1) (h:ok k):zfm P t (some (tm ev f m)) (.p (ek k)) true=some (zyC f z (zM k m)):=by
 obtain⟨kt,et,hu,hk,ho,hz⟩:=M.ty
 unfold zfm;rw [hu];simp only [AV.key?,M.val];rw [if_pos ⟨hk,zfX ho h hm⟩,zhQ hk ho M.inj h m hm,hz]
 cases zM k m<;>rfl

theorem MapT.at (M:MapT P t ek ev ok f z) {m:List (κ × α)} {k:κ} (hm : ∀ p∈m,ok p.1) (h:ok k):zfm P t (some (tm ev f m)) (.p (ek k)) false=some (match zM k m with | some v=>f v | none=>z):=by
 obtain⟨kt,et,hu,hk,ho,hz⟩:=M.ty
 unfold zfm;rw [hu];simp only [AV.key?,M.val];rw [if_pos ⟨hk,zfX ho h hm⟩,zhQ hk ho M.inj h m hm,hz]
 cases zM k m<;>rfl

theorem MapT.put (M:MapT P t ek ev ok f z) {H:Hp} {b:Nat} {m:List (κ × α)} {k:κ} {x:α} (hm : ∀ p∈m,ok p.1) (h:ok k):zaY P H t b (some (tm ev f m)) (.p (ek k)) (f x)=some (H.set b (.mapB (tm ev f (zbX k x m)))):=by
 obtain⟨kt,et,hu,hk,ho,hz⟩:=M.ty
 unfold zaY;rw [hu];simp only [AV.key?,M.val];rw [if_pos ⟨hk,zfX ho h hm⟩,zsl hk ho M.inj h x m hm]

theorem zae {k a:κ} {x:α} : ∀ m:List (κ × α),zM a (zbX k x m)=if k=a then some x else zM a m
 | []=>by simp only [zbX,zM]
 | (b,y) :: m=>by
  simp only [zbX];by_cases e:b=k
  · subst e;simp only [if_true,zM];by_cases e2:b=a
    · simp [e2]
    · simp [e2]
  · simp only [if_neg e,zM,zae m];by_cases e2:b=a
    · subst e2;simp [Ne.symm e]
    · simp [e2]
theorem zjv {k:κ} {x:α} : ∀ (m:List (κ × α)),ok k → (∀ p∈m,ok p.1) → ∀ p∈zbX k x m,ok p.1
 | [],h,_=>by simp only [zbX];intro p hp;simp at hp;subst hp;exact h
 | (a,y) :: m,h,hm=>by
  simp only [zbX]
  split
  · intro p hp;simp only [List.mem_cons] at hp
    rcases hp with rfl | hp
    · exact hm (a,y) (by simp)
    · exact hm p (by simp [hp])
  · intro p hp;simp only [List.mem_cons] at hp
    rcases hp with rfl | hp
    · exact hm (a,y) (by simp)
    · exact zjv m h (fun q hq=>hm q (by simp [hq])) p hp
end maps
attribute [go_sem] map?_mapB zmT zhP zmU zkP zlU zlV zqe zqf zqg zqh zqi
end Go.AL

namespace Go.AL
open Go

def zyD (ops:Array Oper):Bool:=(List.range ops.size).all fun i=>match ops[i]? with
 | some o=>o.after.all fun e => !Region.binds .any e || decide (e.on < i)
 | none=>true

section inv
variable {C:Cx} {ops:Array Oper} {Q:Env → Hp → Prop}

def more (L:Nat → Bool) (i:Nat):Nat → Bool:=fun k=>k == i || L k

theorem zyE (I:(Nat → Bool) → Env → Hp → Prop) (hback:zyD ops=true)
 (step : ∀ i o L env H,ops[i]? = some o → L i=false → (∀ e∈o.after,Region.binds .any e=true → L e.on=true) → I L env H → opA C ops false i (I (more L i)) env H)
 (done : ∀ L env H,(∀ i,i < ops.size → L i=true) → I L env H → Q env H) :
 ∀ (fuel:Nat) (listed:Array Bool) (env:Env) (H:Hp),listed.size=ops.size → (List.range ops.size).countP (fun i => !listed.getD i false)=fuel → I (fun i=>listed.getD i false) env H → zgD C ops (fun _=>false) Q fuel listed env H:=by
 have hb : ∀ i o,ops[i]? = some o → ∀ e∈o.after,Region.binds .any e=true → e.on < i:=fun i o ho e he hbi=>by
  have hi:i < ops.size:=(Array.getElem?_eq_some_iff.1 ho).1
  have:=(List.all_eq_true.1 hback) i (List.mem_range.2 hi)
  rw [ho] at this
  have:=(Array.all_eq_true_iff_forall_mem.1 this) e he
  simpa [hbi] using this
 have hfull : ∀ (listed:Array Bool),listed.size=ops.size → Region.ready .any ops listed=[] → ∀ i,i < ops.size → listed.getD i false=true:=by
  intro listed hs h0 i
  induction i using Nat.strongRecOn with
  | _ i ih =>
   intro hi
   refine Classical.byContradiction fun hn => ?_
   have hx:listed.getD i true=false:=by
    have:i < listed.size:=by omega
    simp [Array.getD_eq_getD_getElem?,this] at hn ⊢;exact hn
   have:i∈Region.ready .any ops listed:=mem_ready.2 ⟨hx,ops[i],by simp [hi],fun e he hbi=>by
    have:=hb i ops[i] (by simp [hi]) e he hbi
    exact ih e.on this (by omega)⟩
   rw [h0] at this
   cases this
 intro fuel
 induction fuel with
 | zero =>
  intro listed env H hs hc hI
  have hall : ∀ i,i < ops.size → listed.getD i false=true:=fun i hi=>by
   have:=(List.countP_eq_zero.1 hc) i (List.mem_range.2 hi)
   simpa using this
  refine⟨?_,done _ env H hall hI⟩
  refine List.eq_nil_iff_forall_not_mem.2 fun k hk => ?_
  obtain⟨h1,o,ho,_⟩:=mem_ready.1 hk
  have hk':k < ops.size:=(Array.getElem?_eq_some_iff.1 ho).1;have h2:=hall k hk'
  have:k < listed.size:=by omega
  simp [Array.getD_eq_getD_getElem?,this] at h1 h2;rw [h1] at h2;cases h2
 | succ fuel ih =>
  intro listed env H hs hc hI
  refine⟨fun h0=>done _ env H (hfull listed hs h0) hI,fun i hi => ?_⟩
  obtain⟨h1,o,ho,hall⟩:=mem_ready.1 hi
  have hi':i < ops.size:=(Array.getElem?_eq_some_iff.1 ho).1
  have hl:i < listed.size:=by omega
  have h1':listed.getD i false=false:=by
   simp [Array.getD_eq_getD_getElem?,hl] at h1 ⊢;exact h1
  have hm:(fun k=>(listed.setIfInBounds i true).getD k false)=more (fun k=>listed.getD k false) i:=by
   funext k
   unfold more;by_cases e:k=i
   · subst e;simp [Array.getD_eq_getD_getElem?,hl]
   · rw [beq_eq_false_iff_ne.2 e,Bool.false_or,getD_set_ne false (Ne.symm e)]
  refine zbe (fun env' H' hh=>ih (listed.setIfInBounds i true) env' H' (by simpa using hs) ?_ (by rw [hm];exact hh)) (step i o _ env H ho h1' hall hI)
  -- one less is left
  have key : ∀ (l:List Nat),l.Nodup → i∈l → l.countP (fun k => !listed.getD k false)=l.countP (fun k => !(listed.setIfInBounds i true).getD k false)+1:=by
   intro l hnd hil
   induction l with
   | nil=>cases hil
   | cons a l ihl =>
    simp only [List.nodup_cons] at hnd;rw [List.countP_cons,List.countP_cons]
    have hfun : ∀ k,(listed.setIfInBounds i true).getD k false=more (fun k=>listed.getD k false) i k:=fun k=>congrFun hm k
    by_cases e:a=i
    · subst e
      have hsame:l.countP (fun k => !listed.getD k false)=l.countP (fun k => !(listed.setIfInBounds a true).getD k false):=by
       refine List.countP_congr fun k hk => ?_
       have hka:k≠a:=fun e=>hnd.1 (e ▸ hk)
       rw [hfun k];simp [more,hka]
      rw [hsame,hfun a];simp [more,h1']
    · have hil':i∈l:=by
       rcases List.mem_cons.1 hil with h | h
       · exact absurd h.symm e
       · exact h
      rw [ihl hnd.2 hil',hfun a];simp [more,e];omega
  have:=key (List.range ops.size) List.nodup_range (List.mem_range.2 hi')
  omega

theorem ARun.openInv {id:Nat} {l:List Oper} {k:List Item} {env:Env} {H:Hp} {R:AV → Hp → Prop} (I:(Nat → Bool) → Env → Hp → Prop) (hm:C.P.follows .mixedOrders=true) (hback:zyD l.toArray=true)
 (h0:I (fun _=>false) env H)
 (step : ∀ i o L env H,l[i]? = some o → L i=false → (∀ e∈o.after,Region.binds .any e=true → L e.on=true) → I L env H → opA C l.toArray false i (I (more L i)) env H)
 (done : ∀ L env H,(∀ i,i < l.length → L i=true) → I L env H → ARun C k env H R):ARun C (.code (.region id l.toArray true) :: k) env H R :=
 .of_wp fun σ w a m hpre=>by
  obtain⟨g1,g2⟩:=zdt hpre.rel
  have:=zyE (C:=C) (ops:=l.toArray) (Q:=fun env' H'=>ARun C k env' H' R) I hback (fun i o L env H ho=>step i o L env H (by simpa using ho)) (fun L env H hall=>done L env H (by simpa using hall)) l.length (Array.replicate l.length false) env H (by simp) (by
   rw [List.countP_eq_length.2 (fun i hi=>by
    have:i < l.length:=by simpa using List.mem_range.1 hi
    simp [Array.getD_eq_getD_getElem?,this])]
   simp) (by
   have:(fun i=>(Array.replicate l.length false).getD i false)=fun _=>false:=by
    funext i
    simp only [Array.getD_eq_getD_getElem?,Array.getElem?_replicate]
    split<;>rfl
   rw [this];exact h0)
  refine wpIn_region_any hm ?_;rw [List.size_toArray]
  exact zac (m:=m) l.length _ env H σ w.drew a this g1 (hpre.fr.mono g2) (Nat.le_refl _) fun env' H' σ' w' a' b1 b2 b3 b4=>⟨rfl,env',H',σ',b1,hpre.go b2 b3 (g2.trans b4 (Nat.le_refl _)),g2.trans b4 (Nat.le_refl _)⟩
end inv

section sched
variable {C:Cx} {ops:Array Oper} {q:Nat → Bool} {Q:Env → Hp → Prop}




def zyF (o:Option Oper) (t:List Oper):List Oper:=match o with | some o=>o :: t | none=>t
def zck (l:List Oper):List Nat → List Oper
 | []=>[]
 | i :: r=>zyF l[i]? (zck l r)
theorem zuH {l:List Oper}:zck l []=[]:=rfl
theorem zc0 {l:List Oper} {i:Nat} {r:List Nat}:zck l (i :: r)=zyF l[i]? (zck l r):=rfl
theorem zc1 {o:Oper} {t:List Oper}:zyF (some o) t=o :: t:=rfl


end sched
attribute [go_sem] zuH zc0 zc1 List.getElem?_cons_zero List.getElem?_cons_succ
end Go.AL

namespace Go.AL
open Go

def zaO:Op → Bool
 | .move _ | .assign _ | .nilCheck _ | .binOp .. | .unOp .. | .fieldAddr .. | .build .. | .slice .. | .indexAddr .. | .field .. | .index .. | .extract .. => true
 | _=>false

section still
variable {C:Cx} {ops:Array Oper} {q:Nat → Bool} {Q:Env → Hp → Prop}

theorem zhR {P:Program} {G:Globs} {op:Op} {ty:TypeId} {env:Env} {H H':Hp} (hs:zaO op=true) :
 (∃ x,ze P G op ty env H = .val x H∧ze P G op ty env H' = .val x H') ∨ ze P G op ty env H = .fail:=by
 have vh : ∀ y:Option AV,(∃ x,vH y H = .val x H∧vH y H' = .val x H') ∨ vH y H = .fail:=by
  intro y
  cases y with
  | none=>exact .inr rfl
  | some z=>exact .inl ⟨z,rfl,rfl⟩
 cases op<;>simp only [zaO,Bool.false_eq_true] at hs<;>simp only [ze]
 all_goals first
  | exact vh _
  | exact .inl ⟨_,rfl,rfl⟩
  | (split;exact vh _;exact .inr rfl)

theorem YieldsA.still {o:Oper} {env:Env} {H H':Hp} {x:AV} (hs:zaO o.op=true) (hy:YieldsA C ops o env H x):YieldsA C ops o env H' x:=by
 rcases hy with ⟨h1,h2⟩ | h
 · refine .inl ⟨h1,?_⟩;unfold aOp1 at h2 ⊢
   rcases zhR (P:=C.P) (G:=C.G) (ty:=o.type) (env:=env) (H:=H) (H':=H') hs with ⟨y,e1,e2⟩ | e
   · rw [e1] at h2;rw [e2]
     exact⟨h2.1,h2.2.1,rfl⟩
   · rw [e] at h2;exact h2.elim
 · exact .inr h

theorem zmV {j:Nat} {oi oj:Oper} {x:AV} {env:Env} {H:Hp} {K:Env → Hp → Prop} (hj:ops[j]? = some oj) (hap:oi.apart ops oj=true) (hs:zaO oi.op=true) (hy:YieldsA C ops oi env H x) (h:opA C ops false j K (env.put oi.dst x) H) :
 opA C ops false j (fun env' H'=>YieldsA C ops oi env' H' x∧K (env'.put oi.dst x) H') env H:=by
 obtain⟨h1,h2,h3⟩:=Oper.apart_spec hap
 unfold opA at *;simp only [hj] at *;rw [zbf h1] at h
 split
 · rename_i hw;simp only [hw,Bool.false_eq_true,if_false] at h ⊢
   refine sOp.mono ((zct h1).1 h) fun y H' hk=>⟨(hy.put h3).still hs,?_⟩
   rw [←put_comm h2];exact hk
 · rename_i hw;simp only [hw] at h
   exact⟨h.1,hy.put h3,by rw [←put_comm h2];exact h.2⟩
 · rename_i hw;simp only [hw] at h

theorem zmW {i:Nat} {oi:Oper} {x:AV} (hi:ops[i]? = some oi) (hqi:q i=true) (Wt:Nat → Prop) (hWt : ∀ j oj,ops[j]? = some oj → Wt j → ∃ e∈oj.after,Region.binds .any e=true∧(e.on=i ∨ Wt e.on)) : ∀ (fuel:Nat) (listed:Array Bool) (env:Env) (H:Hp),
 (∀ j,Wt j → listed.getD j true=false) →
 (∀ j oj,ops[j]? = some oj → j≠i → listed.getD j true=false → ¬Wt j → (q j=true ∨ zaO oi.op=true)∧oi.apart ops oj=true) →
 i∈Region.ready .any ops listed → YieldsA C ops oi env H x → zgD C ops q Q fuel (listed.setIfInBounds i true) (env.put oi.dst x) H → zgD C ops q Q (fuel+1) listed env H:=by
 intro fuel
 induction fuel with
 | zero =>
  intro listed env H _ _ hr hy hh
  refine⟨fun h=>(by rw [h] at hr;cases hr),fun j hj => ?_⟩
  by_cases hji:j=i
  · subst hji;rw [hqi];exact hy.opA hi hh
  · have:=ready_mono hj hji
    rw [hh.1] at this
    cases this
 | succ fuel ih =>
  intro listed env H hun0 hfree hr hy hh
  refine⟨fun h=>(by rw [h] at hr;cases hr),fun j hj => ?_⟩
  by_cases hji:j=i
  · subst hji;rw [hqi];exact hy.opA hi hh
  · have h1:=hh.2 j (ready_mono hj hji)
    obtain⟨hjun,oj,hoj,hall⟩:=mem_ready.1 hj
    have hnot : ∀ e∈oj.after,Region.binds .any e=true → e.on≠i:=fun e he hb heq=>by
     have h1:=hall e he hb;have h0:=(mem_ready.1 hr).1;rw [heq] at h1
     rcases Nat.lt_or_ge i listed.size with h' | h'
     · simp [h'] at h0 h1;rw [h0] at h1;cases h1
     · simp [Array.getElem?_eq_none h'] at h1
    have hnw : ¬Wt j:=fun hw=>by
     obtain⟨e,he,hb,h | h⟩:=hWt j oj hoj hw
     · exact hnot e he hb h
     · have h1:=hall e he hb;have h0:=hun0 _ h
       rcases Nat.lt_or_ge e.on listed.size with h' | h'
       · simp [h'] at h0 h1;rw [h0] at h1;cases h1
       · simp [Array.getElem?_eq_none h'] at h1
    obtain⟨hqj,hap⟩:=hfree j oj hoj hji hjun hnw
    have h2:opA C ops (q j) j (fun env' H'=>YieldsA C ops oi env' H' x∧zgD C ops q Q fuel ((listed.setIfInBounds i true).setIfInBounds j true) (env'.put oi.dst x) H') env H:=by
     cases hq:q j with
     | true=>rw [hq] at h1;exact zko hoj hap hy h1
     | false =>
      rw [hq] at h1;exact zmV hoj hap (hqj.resolve_left (by simp [hq])) hy h1
    have hfree' : ∀ k ok,ops[k]? = some ok → k≠i → (listed.setIfInBounds j true).getD k true=false →
     ¬Wt k → (q k=true ∨ zaO oi.op=true)∧oi.apart ops ok=true:=fun k ok hk hki hun hno=>by
     refine hfree k ok hk hki ?_ hno;by_cases hjk:j=k
     · subst hjk;exact hjun
     · rw [getD_set_ne true hjk] at hun;exact hun
    have hun' : ∀ k,Wt k → (listed.setIfInBounds j true).getD k true=false:=fun k hk=>by
     by_cases hjk:j=k
     · subst hjk;exact absurd hk hnw
     · rw [getD_set_ne true hjk];exact hun0 k hk
    refine zbe (fun env' H' h3=>ih (listed.setIfInBounds j true) env' H' hun' hfree' (ready_mono hr (Ne.symm hji)) h3.1 ?_) h2;rw [Array.setIfInBounds_comm _ _ hji];exact h3.2

def zyG (q:Nat → Bool) (ops:Array Oper) (listed:Array Bool) (i:Nat):Bool :=
 match ops[i]? with
 | none=>false
 | some oi=>(List.range ops.size).all fun j=>j == i || listed.getD j true || match ops[j]? with
  | some oj=>oj.after.any (fun e=>Region.binds .any e && e.on == i) || ((q j || zaO oi.op) && oi.apart ops oj) || (zcu ops listed i).contains j
  | none=>true

theorem zqj {i:Nat} {oi:Oper} {listed:Array Bool} (hi:ops[i]? = some oi) (h:zyG q ops listed i=true) (j:Nat) (oj:Oper)
 (hj:ops[j]? = some oj) (hne:j≠i) (hun:listed.getD j true=false) (hno : ¬Waits ops listed i j):(q j=true ∨ zaO oi.op=true)∧oi.apart ops oj=true:=by
 simp only [zyG,hi,List.all_eq_true,List.mem_range] at h;have h1:=h j (Array.getElem?_eq_some_iff.1 hj).1;simp only [hj,Bool.or_eq_true,beq_iff_eq,hne,false_or,hun,Bool.false_eq_true,Bool.and_eq_true] at h1
 rcases h1 with (h1 | h1) | h1
 · refine absurd ⟨1,?_⟩ hno
   obtain⟨e,he,hb⟩:=Array.any_eq_true'.1 h1
   simp only [Bool.and_eq_true,beq_iff_eq] at hb;simp only [yG,hun,hj,Bool.not_false,Bool.true_and];exact Array.any_eq_true'.2 ⟨e,he,by simp [hb.1,hb.2]⟩
 · exact h1
 · exact absurd (za7 h1) hno

def zyH (q:Nat → Bool) (ops:Array Oper):Nat → Nat → Array Bool → Bool
 | 0,_,listed=>(Region.ready .any ops listed).isEmpty
 | fuel+1,k,listed=>(Region.ready .any ops listed).contains k && (if q k then zyG q ops listed k else Region.ready .any ops listed == [k]) && zyH q ops fuel (k+1) (listed.setIfInBounds k true)

theorem zfY : ∀ (l:List Oper) (k:Nat) (listed:Array Bool) (env:Env) (H:Hp),(∀ j,l[j]? = ops[k+j]?) → zyH q ops l.length k listed=true → ze9 C ops q Q k l env H → zgD C ops q Q l.length listed env H
 | [],_,_,_,_,_,hB,h=>⟨by simpa [zyH] using hB,h⟩
 | o :: l,k,listed,env,H,hl,hB,h=>by
  have h0:ops[k]? = some o:=by simpa using (hl 0).symm
  have hl' : ∀ j,l[j]? = ops[k+1+j]? := fun j=>by have:=hl (j+1);simpa [Nat.add_assoc,Nat.add_comm 1 j] using this
  simp only [List.length_cons,zyH,Bool.and_eq_true] at hB
  obtain⟨⟨hr,hf⟩,hB'⟩:=hB
  simp only [ze9] at h;by_cases hq:q k=true
  · rw [if_pos hq] at hf;rw [hq] at h
    have : ∃ x,YieldsA C ops o env H x∧ze9 C ops q Q (k+1) l (env.put o.dst x) H:=by
     unfold opA at h;simp only [h0] at h;split at h
     · rename_i hw;simp only [if_true] at h;obtain⟨x,h1,h2⟩:=h;exact⟨x,.inl ⟨hw,h1⟩,h2⟩
     · rename_i hw;exact⟨.tup [],.inr ⟨hw,h.1,rfl⟩,h.2⟩
     · exact h.elim
    obtain⟨x,hy,hK⟩:=this
    exact zmW h0 hq (Waits ops listed k) (fun j oj hj hw=>hw.edge hj) l.length listed env H (fun j hw=>hw.unlisted) (zqj h0 hf) (by simpa using hr) hy (zfY l (k+1) _ _ _ hl' hB' hK)
  · rw [if_neg hq] at hf
    have hrd:Region.ready .any ops listed=[k]:=by simpa using hf
    refine⟨fun h0=>(by rw [hrd] at h0;cases h0),fun i hi => ?_⟩
    rw [hrd] at hi;simp only [List.mem_singleton] at hi;subst hi;exact zbe (fun env' H' hh=>zfY l (i+1) _ _ _ hl' hB' hh) h

theorem ARun.openT {id:Nat} {l:List Oper} {k:List Item} {env:Env} {H:Hp} {R:AV → Hp → Prop} (loud:List Nat) (hm:C.P.follows .mixedOrders=true) (hB:zyH (zcX loud) l.toArray l.length 0 (Array.replicate l.length false)=true)
 (h:zax C l.toArray (zcX loud) 0 l k env H R):ARun C (.code (.region id l.toArray true) :: k) env H R :=
 .of_wp fun σ w a m hpre=>by
  obtain⟨g1,g2⟩:=zdt hpre.rel
  have:=zfY (C:=C) (ops:=l.toArray) (Q:=fun env' H'=>ARun C k env' H' R) l 0 (Array.replicate l.length false) env H (by simp) hB (yB (by simp) h)
  refine wpIn_region_any hm ?_;rw [List.size_toArray]
  exact zac (m:=m) l.length _ env H σ w.drew a this g1 (hpre.fr.mono g2) (Nat.le_refl _) fun env' H' σ' w' a' b1 b2 b3 b4=>⟨rfl,env',H',σ',b1,hpre.go b2 b3 (g2.trans b4 (Nat.le_refl _)),g2.trans b4 (Nat.le_refl _)⟩
end still
end Go.AL

namespace Go.AL
open Go

def zau:Op → Bool
 | .move _ | .assign _ | .nilCheck _ | .binOp .. | .unOp .. | .fieldAddr .. | .build .. | .load .. | .convert .. | .indexAddr .. | .field .. | .index .. | .lookup .. => true
 | .call { callee := .builtin .len,.. }=>true
 | _=>false

def zgX:Op → Bool
 | .alloc _ | .makeSlice .. => true
 | _=>false

theorem zyI {P:Program} {G:Globs} {op:Op} {ty:TypeId} {env:Env} {H:Hp} (ha:zgX op=true):ze P G op ty env H = .fail ∨ ∃ y x,ze P G op ty env H = .val y (H.new x):=by
 have hm : ∀ {t:TypeId} {a b:AV},vHH (zdk P H t a b) = .fail ∨ ∃ y x,vHH (zdk P H t a b) = .val y (H.new x):=by
  intro t a b;unfold zdk
  split
  · split
    · split
      · exact .inr ⟨_,_,rfl⟩
      · exact .inl rfl
    · exact .inl rfl
  · exact .inl rfl
 have hm0 : ∀ {t:TypeId} {a b:AV},vHH (zdA P H t a b) = .fail ∨ ∃ y x,vHH (zdA P H t a b) = .val y (H.new x):=by
  intro t a b;unfold zdA
  split
  · split
    · exact .inr ⟨_,_,rfl⟩
    · exact .inl rfl
  · exact .inl rfl
 cases op<;>simp only [zgX,Bool.false_eq_true] at ha<;>simp only [ze]
 case alloc t =>
  cases zU P t with
  | none=>exact .inl rfl
  | some z=>exact .inr ⟨_,_,rfl⟩
 case makeSlice t l c =>
  split
  · exact hm0
  · exact hm

section fork
variable {C:Cx} {ops:Array Oper} {q:Nat → Bool} {Q:Env → Hp → Prop}

theorem zuI {H:Hp} {T:List AB}:zr8 (app H T)=zr8 H:=by
 funext p v
 unfold zr8
 cases p<;>simp only [zyv]
theorem zmX {H:Hp} {T:List AB} : ∀ (sh:List Bool) (vs:List Value),RowZ (app H T) sh vs=RowZ H sh vs
 | [],[]=>rfl
 | p :: ps,v :: vs=>by simp only [RowZ,zuI,zmX ps vs]
 | [],_ :: _=>rfl
 | _ :: _,[]=>rfl
theorem zyJ {H:Hp} {T:List AB}:zhk (app H T)=zhk H:=by
 funext sh v
 unfold zhk;simp only [zmX]
theorem zuJ {P:Program} {H:Hp} {T:List AB}:zlT P (app H T)=zlT P H:=by
 funext kt kv m
 unfold zlT;simp only [zyJ]
theorem zmY {P:Program} {gm:Nat → Option (List (Value × AV))} {H:Hp} {T:List AB} {t:TypeId} {x ix y:AV} {ok:Bool} (h:zby P gm H t x ix ok=some y):zby P gm (app H T) t x ix ok=some y:=by
 cases x with
 | mp b =>
  unfold zby at h ⊢;dsimp only at h ⊢
  cases hf:H.f b with
  | none=>rw [hf] at h;split at h<;>simp at h
  | some z=>rw [app_f' hf];rw [hf] at h;exact h
 | p v =>
  cases v with
  | s u =>
   cases u with
   | map o=>cases o<;>exact h
   | _=>exact h
  | _=>exact h
 | _=>exact h
theorem zqk {P:Program} {H:Hp} {T:List AB} {t:TypeId} {x ix y:AV} {ok:Bool} (h:zaJ P H t x ix ok=some y):zaJ P (app H T) t x ix ok=some y:=by
 unfold zaJ at h ⊢;rw [zuJ];split at h
 · rename_i b _ hu hk
   cases hf:H.f b with
   | none=>rw [hf] at h;cases h
   | some z=>rw [app_f' hf];rw [hf] at h;exact h
 · cases h
theorem zkQ {P:Program} {gm:Nat → Option (List (Value × AV))} {H:Hp} {T:List AB} {t:TypeId} {x ix y:AV} {ok:Bool} (h:zaK P gm H t x ix ok=some y):zaK P gm (app H T) t x ix ok=some y:=by
 unfold zaK at h ⊢
 split
 · rename_i c;rw [if_pos c] at h;exact zqk h
 · rename_i c;rw [if_neg c] at h;exact zmY h
theorem zhS {P:Program} {G:Globs} {op:Op} {ty:TypeId} {env:Env} {H:Hp} (hs:zau op=true) :
 (∃ x,ze P G op ty env H = .val x H ∧ ∀ T,ze P G op ty env (app H T) = .val x (app H T)) ∨ ze P G op ty env H = .fail:=by
 have key:(∃ x,ze P G op ty env H = .val x H) ∨ ze P G op ty env H = .fail:=by
  have vh : ∀ y:Option AV,(∃ x,vH y H = .val x H) ∨ vH y H = .fail:=by
   intro y
   cases y with
   | none=>exact .inr rfl
   | some z=>exact .inl ⟨z,rfl⟩
  cases op
  case call c =>
   obtain⟨callee,args,ts⟩:=c
   cases callee with
   | builtin b =>
    cases b<;>simp only [zau,Bool.false_eq_true] at hs
    simp only [ze,zbd,zW]
    split<;>first
     | exact vh _
     | exact .inr rfl
     | (exfalso;simp_all;done)
   | _=>simp [zau] at hs
  all_goals simp only [zau,Bool.false_eq_true] at hs
  all_goals simp only [ze]
  all_goals first
   | exact vh _
   | exact .inl ⟨_,rfl⟩
 rcases key with ⟨x,h⟩ | h
 · by_cases hlk : ∃ t y i ok,op = .lookup t y i ok
   · obtain⟨t,y,i,ok,rfl⟩:=hlk
     simp only [ze] at h ⊢;refine .inl ⟨x,h,fun T => ?_⟩
     cases hl:zaK P G.map H t (yd G env y) (yd G env i) ok with
     | none=>rw [hl] at h;cases h
     | some z=>rw [hl] at h;rw [zkQ hl];cases h;rfl
   refine .inl ⟨x,h,fun T=>zyy ?_ h⟩
   cases op<;>first
    | exact absurd ⟨_,_,_,_,rfl⟩ hlk
    | rfl
    | (simp only [zau,Bool.false_eq_true] at hs;done)
    | skip
   case call c =>
    obtain⟨callee,args,ts⟩:=c
    cases callee with
    | builtin b=>cases b<;>first | rfl | (simp [zau] at hs;done)
    | _=>simp [zau] at hs
 · exact .inr h

theorem YieldsA.ext {o:Oper} {env:Env} {H:Hp} {T:List AB} {x:AV} (hs:zau o.op=true) (hy:YieldsA C ops o env H x):YieldsA C ops o env (app H T) x:=by
 rcases hy with ⟨h1,h2⟩ | h
 · refine .inl ⟨h1,?_⟩;unfold aOp1 at h2 ⊢
   rcases zhS (P:=C.P) (G:=C.G) (ty:=o.type) (env:=env) (H:=H) hs with ⟨y,e1,e2⟩ | e
   · rw [e1] at h2;rw [e2 T]
     exact⟨h2.1,h2.2.1,rfl⟩
   · rw [e] at h2;exact h2.elim
 · exact .inr h


theorem zyK {j:Nat} {oi oj:Oper} {x:AV} {env:Env} {H:Hp} {K:Env → Hp → Prop} (hj:ops[j]? = some oj) (hap:oi.apart ops oj=true) (hs:zau oi.op=true) (ha:zgX oj.op=true) (hy:YieldsA C ops oi env H x) (h:opA C ops false j K (env.put oi.dst x) H) :
 opA C ops false j (fun env' H'=>YieldsA C ops oi env' H' x∧K (env'.put oi.dst x) H') env H:=by
 obtain⟨h1,h2,h3⟩:=Oper.apart_spec hap
 unfold opA at *;simp only [hj] at *;rw [zbf h1] at h
 split
 · rename_i hw;simp only [hw,Bool.false_eq_true,if_false] at h ⊢;have h':=(zct h1).1 h;unfold aOp1 at h' ⊢
   rcases zyI (P:=C.P) (G:=C.G) (ty:=oj.type) (env:=env) (H:=H) ha with e | ⟨y,z,e⟩
   · rw [e] at h';exact h'.elim
   · rw [e] at h' ⊢
     refine⟨h'.1,?_,?_⟩
     · exact (hy.put h3).ext (T:=[z]) hs
     · have:=h'.2
       rw [←put_comm h2];exact this
 · rename_i hw;simp only [hw] at h
   exact⟨h.1,hy.put h3,by rw [←put_comm h2];exact h.2⟩
 · rename_i hw;simp only [hw] at h

def zhT (q:Nat → Bool) (oi oj:Oper) (j:Nat):Bool:=q j || zaO oi.op || (zau oi.op && zgX oj.op)


def zyL (q:Nat → Bool) (ops:Array Oper) (listed:Array Bool) (i:Nat):Bool :=
 match ops[i]? with
 | none=>false
 | some oi=>(List.range ops.size).all fun j=>j == i || listed.getD j true || match ops[j]? with
  | some oj=>oj.after.any (fun e=>Region.binds .any e && e.on == i) || (zhT q oi oj j && oi.apart ops oj) || (zcu ops listed i).contains j
  | none=>true

theorem zql {i:Nat} {oi:Oper} {listed:Array Bool} (hi:ops[i]? = some oi) (h:zyL q ops listed i=true) (j:Nat) (oj:Oper)
 (hj:ops[j]? = some oj) (hne:j≠i) (hun:listed.getD j true=false) (hno : ¬Waits ops listed i j):zhT q oi oj j=true∧oi.apart ops oj=true:=by
 simp only [zyL,hi,List.all_eq_true,List.mem_range] at h;have h1:=h j (Array.getElem?_eq_some_iff.1 hj).1;simp only [hj,Bool.or_eq_true,beq_iff_eq,hne,false_or,hun,Bool.false_eq_true,Bool.and_eq_true] at h1
 rcases h1 with (h1 | h1) | h1
 · refine absurd ⟨1,?_⟩ hno
   obtain⟨e,he,hb⟩:=Array.any_eq_true'.1 h1
   simp only [Bool.and_eq_true,beq_iff_eq] at hb;simp only [yG,hun,hj,Bool.not_false,Bool.true_and];exact Array.any_eq_true'.2 ⟨e,he,by simp [hb.1,hb.2]⟩
 · exact h1
 · exact absurd (za7 h1) hno







end fork
attribute [go_sem] List.cons_append List.nil_append
end Go.AL

namespace Go.AL
open Go
section fork
variable {C:Cx} {ops:Array Oper} {q:Nat → Bool} {Q:Env → Hp → Prop}
inductive Tr where
 | lin (r:List Nat)
 | one (k:Nat) (t:Tr)
 | fork (i j:Nat) (a b:Tr)
def Tr.depth:Tr → Nat
 | .lin r=>r.length
 | .one _ t=>t.depth+1
 | .fork _ _ a _=>a.depth+1
section steps
variable {K:Env → Hp → Prop} {i:Nat} {o:Oper} {env:Env} {H:Hp}
end steps
end fork
end Go.AL

namespace Go.AL
open Go


section still
variable {C:Cx} {Q:Env → Hp → Prop}
def left (listed:Array Bool):Nat → Nat
 | 0=>0
 | n+1=>(if listed.getD n true=false then 1 else 0)+left listed n
end still
end Go.AL

namespace Go.AL
open Go

def Hp.wz (H:Hp) (g:Nat) (q:Nat × List PV):Hp:=⟨H.f,H.n,H.wf,fun g'=>if g'=g then some q else H.z g'⟩
theorem zkR {H:Hp} {g:Nat} {q:Nat × List PV}:(H.wz g q).f=H.f:=rfl
theorem zGH {H:Hp} {g:Nat} {q:Nat × List PV}:(H.wz g q).n=H.n:=rfl
theorem zsm {H:Hp} {g:Nat} {q:Nat × List PV}:(H.wz g q).z g=some q:=if_pos rfl
theorem zyM {H:Hp} {g g':Nat} {q:Nat × List PV} (h:g'≠g):(H.wz g q).z g'=H.z g':=if_neg h
theorem zEY {H:Hp} {g:Nat} {q:Nat × List PV} {x:AB}:(H.wz g q).new x=(H.new x).wz g q:=rfl
theorem zEZ {H:Hp} {g b:Nat} {q:Nat × List PV} {x:AB}:(H.wz g q).set b x=(H.set b x).wz g q:=rfl
theorem zyN {H:Hp} {g n:Nat} {q:Nat × List PV}:(H.wz g q).trunc n=(H.trunc n).wz g q:=rfl
theorem zqm {H:Hp} {T:List AB}:(app H T).z=H.z:=zyv

section states
variable {G:Globs} {σ:Gh} {H:Hp} {w:World}
theorem zyO (g:Nat) (q:Nat × List PV):Ev H.n σ H w σ (H.wz g q) w :=
 ⟨fun _ _ _ a b=>⟨a,b⟩,fun _ _=>rfl,Nat.le_refl _,fun _ _ k c hk=>⟨k,c,hk,Nat.le_refl _,fun _=>rfl⟩,Nat.le_refl _,fun _ _ h=>⟨rfl,⟨h.1,h.2,h.3⟩⟩,rfl,rfl⟩
theorem zyP (hr:Rel G σ H w) {g sz:Nat} {xs:List PV} (hz:ZRow σ H w g sz xs):Rel G σ (H.wz g (sz,xs)) w:=by
 have hev:=zyO (σ:=σ) (H:=H) (w:=w) g (sz,xs)
 refine⟨fun b cs h => ?_,hr.tail,fun b k cs h => ?_,hr.cc,hr.ct,hr.tt,hr.glob_mono hev,fun b vs S h => ?_,hr.oo,hr.gm_mono hev,fun g' sz' xs' h => ?_⟩
 · obtain⟨c,e,q1,q2,q3⟩:=hr.cells b cs h
   exact⟨c,e,q1,q2,fun i y hy=>let ⟨v,p,q⟩:=q3 i y hy;⟨v,p,q.mono hev⟩⟩
 · obtain⟨q0,q1,q2⟩:=hr.vec b k cs h
   exact⟨q0,q1,fun g o s hg=>let ⟨p0,p1,p2⟩:=q2 g o s hg;⟨p0,p1,fun i x hx=>let ⟨v,a,b'⟩:=p2 i x hx;⟨v,a,b'.mono hev⟩⟩⟩
 · obtain⟨o,us,q1,q2,q3,q4⟩:=hr.objs b vs S h
   exact⟨o,us,q1,q2,q3.mono hev,q4⟩
 · by_cases e:g'=g
   · subst e;rw [zsm] at h;cases h;exact hz.mono hev
   · rw [zyM e] at h;exact (hr.z g' sz' xs' h).mono hev
theorem zjw (hr:Rel G σ H w) {b:Nat} {ps:List PV} (hb:H.f b=some (.cells (ps.map .p))) (hl:0 < ps.length):ZRow σ (H.set b .dead) w (σ.c b) ps.length [.agg ps]∧H.z (σ.c b)=none:=by
  obtain⟨c,e,q1,_,_⟩:=hr.cells b _ hb
  obtain⟨F,hF⟩:=zeL hr hb
  obtain⟨r1,_⟩:=yX hr b
  have hf : ∀ b' x,x ≠ .dead → (H.set b .dead).f b'=some x → b'≠b∧H.f b'=some x:=by
    intro b' x hx h;rw [Hp.f_set] at h;split at h
    · cases h;exact absurd rfl hx
    · rename_i hh
      exact⟨fun e=>hh ⟨e,Hp.lt hb⟩,h⟩
  have hget : ∀ k,k < ps.length → ∃ y,ps[k]? = some y:=fun k hk=>⟨_,List.getElem?_eq_getElem hk⟩
  refine⟨⟨⟨c,e,q1⟩,⟨fun b' x h he => ?_,fun b' k d o' s h ht => ?_,fun b' vs S h he => ?_⟩,?_⟩,?_⟩
  · obtain⟨h1,h2⟩:=hf b' _ (by simp) h
    exact h1 (hr.cc b' b x _ h2 hb he)
  · obtain⟨h1,h2⟩:=hf b' _ (by simp) h
    exact absurd rfl (hr.ct b b' _ k _ _ o' s hb h2 ht)
  · obtain⟨h1,h2⟩:=hf b' _ (by simp) h
    obtain⟨o,us,p1,p2,_⟩:=hr.objs b' vs S h2
    rw [he,q1] at p1
    cases p1;cases p2
  · have := RelV.ip (σ := σ) (H := H.set b .dead) (w := w) (sz := ps.length) (xs := [.agg ps]) (i := 0) (sub := 0) (g := σ.c b) (off := 0) (cap := 1)
        (.sl false _ _ _ 0 1 F (by simp) ⟨by simp,by unfold maxLen;omega⟩ (fun x hx=>by simp only [List.mem_singleton] at hx;subst hx;rfl)
          (fun k hk=>by
            simp only [List.length_singleton,Nat.one_mul] at hk
            obtain⟨y,hy⟩:=hget k hk
            obtain⟨p1,p2,p3,_⟩:=hF k y hy
            rw [Nat.zero_add];exact⟨p1,p2,p3⟩)
          (fun k y hy=>by
            have:flat [PV.agg ps]=ps:=by simp [flat,PV.cells]
            rw [this] at hy
            exact (hF k y hy).2.2.2)) (by simp) hl
    simpa using this
  · cases hz:H.z (σ.c b) with
    | none=>rfl
    | some q=>exact absurd rfl ((hr.z _ q.1 q.2 hz).2.1.1 b _ hb)
end states

section ops
variable {C:Cx} {ops:Array Oper} {k:List Item} {todo:List Item} {env:Env} {H:Hp} {R:AV → Hp → Prop}
theorem Pre.wz {σ:Gh} {w:World} {a:Act} {m:Nat} (hpre:Pre C σ H w env a m) (t:Nat) {b:Nat} {ps:List PV} (ht:env t = .ptr b 0) (hb:H.f b=some (.cells (ps.map .p))) (hl:0 < ps.length) :
 H.z (σ.c b)=none∧Rel C.G σ ((H.set b .dead).wz (σ.c b) (ps.length,[.agg ps])) w∧(∀ i,RelV σ ((H.set b .dead).wz (σ.c b) (ps.length,[.agg ps])) w (env.put (some t) (.p (ptp (σ.c b))) i) (a.tmps.getD i undef)) ∧
  Ev H.n σ H w σ ((H.set b .dead).wz (σ.c b) (ps.length,[.agg ps])) w:=by
 obtain⟨z1,z2⟩:=zjw hpre.rel hb hl
 obtain⟨r1,e1⟩:=yX hpre.rel b
 have e2:Ev H.n σ H w σ ((H.set b .dead).wz (σ.c b) (ps.length,[.agg ps])) w:=e1.trans (n1:=H.n) (zyO (σ:=σ) (H:=H.set b .dead) (w:=w) _ _) (Nat.le_refl _)
 refine⟨z2,zyP r1 z1,fun i => ?_,e2⟩
 simp only [Env.put];by_cases hi:i=t
 · subst hi;rw [if_pos rfl];have hs:=hpre.fr.slot i;rw [ht] at hs
   generalize a.tmps.getD i undef=v at hs
   cases hs with | ptr hbn =>
   exact .p (.s _ rfl)
 · rw [if_neg hi];exact (hpre.fr.slot i).mono e2

theorem AOps.frzZ {l:List Oper} (t:Nat) (ps:List PV) {b:Nat} (ht:env t = .ptr b 0) (hb:H.f b=some (.cells (ps.map .p))) (hl:0 < ps.length)
 (h : ∀ g,H.z g=none → AOps C ops l k (env.put (some t) (.p (ptp g))) ((H.set b .dead).wz g (ps.length,[.agg ps])) R):AOps C ops l k env H R:=by
 intro σ w a m hpre
 obtain⟨hz,hr,hs,hev⟩:=hpre.wz t ht hb hl
 have h4:=hpre.fr.mono hev;have h1:=h _ hz σ w a m (hpre.go hr ⟨h4.defers,h4.size,hs⟩ hev);refine zcm l ?_ _ _ h1
 rintro e a' w2 ⟨rfl,env2,H2,σ2,hr2,hpre2,hev2⟩
 exact⟨rfl,env2,H2,σ2,hr2,hpre2,hev.trans (hev2.weaken hev.hn) (Nat.le_refl _)⟩
theorem ARun.frzZ (t:Nat) (ps:List PV) {b:Nat} (ht:env t = .ptr b 0) (hb:H.f b=some (.cells (ps.map .p))) (hl:0 < ps.length)
 (h : ∀ g,H.z g=none → ARun C todo (env.put (some t) (.p (ptp g))) ((H.set b .dead).wz g (ps.length,[.agg ps])) R):ARun C todo env H R:=by
 intro σ w a b' cs m h1 hpre
 obtain⟨hz,hr,hs,hev⟩:=hpre.wz t ht hb hl
 have h4:=hpre.fr.mono hev
 obtain⟨r,H2,σ2,v,w2,M,q,st,q1,q2,q3,q5⟩:=h _ hz σ w a b' cs m (h1.mono hpre.n0 hev.c hpre.lt) (hpre.go hr ⟨h4.defers,h4.size,hs⟩ hev)
 exact⟨r,H2,σ2,v,w2,M,q,st,q1,q2,q3,hev.transM q5 hpre.n0 hpre.m⟩
theorem zmZ {w:World} {r:Nat} {o:Obj} (h:w.heap[r]? = some o):w.putObj r o=w:=by
 have:w.heap.setIfInBounds r o=w.heap:=by
  apply Array.ext_getElem?;intro i;rw [Array.getElem?_setIfInBounds]
  split
  · rename_i e;subst e
    split
    · exact h.symm
    · rename_i hh;rw [Array.getElem?_eq_none (by omega)]
  · rfl
 simp only [World.putObj,this]
theorem ARun.frzZM (b mb:Nat) (ps:List PV) (m:List (Value × AV)) (kv:Value) (hb:H.f b=some (.cells (ps.map .p))) (hl:0 < ps.length) (hm:H.f mb=some (.mapB (m++[(kv,.ptr b 0)])))
 (h : ∀ g,H.z g=none → ARun C todo env (((H.set b .dead).set mb (.mapB (m++[(kv,.p (ptp g))]))).wz g (ps.length,[.agg ps])) R):ARun C todo env H R:=by
 intro σ w a b' cs m' h1 hpre
 obtain⟨z1,z2⟩:=zjw hpre.rel hb hl
 obtain⟨r1,e1⟩:=yX hpre.rel b
 have r2:=zyP r1 z1;have e2:Ev H.n σ H w σ ((H.set b .dead).wz (σ.c b) (ps.length,[.agg ps])) w:=e1.trans (n1:=H.n) (zyO (σ:=σ) (H:=H.set b .dead) (w:=w) _ _) (Nat.le_refl _)
 have hne:mb≠b:=fun e=>by subst e;rw [hb] at hm;cases hm
 have hf:((H.set b .dead).wz (σ.c b) (ps.length,[.agg ps])).f mb=some (.mapB (m++[(kv,.ptr b 0)])):=by rw [zkR,Hp.f_set_ne _ _ _ _ hne];exact hm
 obtain⟨o,us,o1,o2,o3,o4⟩:=r2.objs mb _ _ hf
 have hus:RelVs σ ((H.set b .dead).wz (σ.c b) (ps.length,[.agg ps])) w ((m++[(kv,AV.p (ptp (σ.c b)))]).map (·.2)) us:=by
  refine⟨by simpa using o3.1,fun i x v hx hv => ?_⟩
  by_cases hi:i < m.length
  · refine o3.2 i x v ?_ hv;rw [List.map_append,List.getElem?_append_left (by simpa using hi)] at hx ⊢;exact hx
  · have:i=m.length:=by have:=(List.getElem?_eq_some_iff.1 hx).1;simp at this;omega
    subst this;have h0:=o3.2 m.length (.ptr b 0) v (by simp) hv
    have:x=AV.p (ptp (σ.c b)):=by simpa using hx.symm
    subst this;cases h0;exact .p (.s _ rfl)
 obtain⟨r3,e3⟩:=zbR r2 (vs':=(m++[(kv,AV.p (ptp (σ.c b)))]).map (·.2)) (S':=zgb ((m++[(kv,AV.p (ptp (σ.c b)))]).map (·.1))) (o':=o) hf o1 o2 hus o2 (by
  have:(m++[(kv,AV.p (ptp (σ.c b)))]).map (·.1)=(m++[(kv,AV.ptr b 0)]).map (·.1):=by simp
  rw [this];exact o4)
 rw [zmZ o1] at r3 e3;have e4:Ev H.n σ H w σ (((H.set b .dead).set mb (.mapB (m++[(kv,.p (ptp (σ.c b)))]))).wz (σ.c b) (ps.length,[.agg ps])) w:=e2.trans (n1:=H.n) e3 (Nat.le_refl _);have h4:=hpre.fr.mono e4
 obtain⟨r,H2,σ2,v,w2,M,q,st,q1,q2,q3,q5⟩:=h _ z2 σ w a b' cs m' (h1.mono hpre.n0 e4.c hpre.lt) (hpre.go r3 h4 e4)
 exact⟨r,H2,σ2,v,w2,M,q,st,q1,q2,q3,e4.transM q5 hpre.n0 hpre.m⟩
end ops

structure MapZ (P:Program) (t:TypeId) (sh:List Bool) (z:AV):Prop where
 ty : ∃ kt et,P.underlying t=some (.map kt et)∧PKeys P kt sh∧zaZ P et=some z
section maps
variable {P:Program} {t:TypeId} {sh:List Bool} {z:AV} {H:Hp} {b:Nat} {κ α:Type} [DecidableEq κ] {ek:κ → List Value} {f:α → AV} {m:List (κ × α)} {k:κ}
theorem zm0 (hi : ∀ a,(∃ x,(a,x)∈m) → ek a=ek k → a=k) : ∀ {m':List (κ × α)},(∀ p∈m',p∈m) → zdC (.agg (ek k).toArray) (tm (fun a => .agg (ek a).toArray) f m')=(zM k m').map f
 | [],_=>rfl
 | (a,x) :: m',hm=>by
  have ih:=zm0 hi (m':=m') fun p hp=>hm p (by simp [hp])
  simp only [tm,List.map_cons,zdC,zM] at ih ⊢;by_cases e:a=k
  · subst e;simp
  · have : ¬ (Value.agg (ek a).toArray=Value.agg (ek k).toArray):=fun h=>e (hi a ⟨x,hm _ (by simp)⟩ (by simpa using h))
    rw [if_neg this,if_neg e];exact ih
theorem zsn (hi : ∀ a,(∃ x,(a,x)∈m) → ek a=ek k → a=k) {y:α} : ∀ {m':List (κ × α)},(∀ p∈m',p∈m) → zfR (.agg (ek k).toArray) (f y) (tm (fun a => .agg (ek a).toArray) f m')=tm (fun a => .agg (ek a).toArray) f (zbX k y m')
 | [],_=>rfl
 | (a,x) :: m',hm=>by
  have ih:=zsn (y:=y) hi (m':=m') fun p hp=>hm p (by simp [hp])
  simp only [tm,List.map_cons,zfR,zbX] at ih ⊢;by_cases e:a=k
  · subst e;simp
  · have : ¬ (Value.agg (ek a).toArray=Value.agg (ek k).toArray):=fun h=>e (hi a ⟨x,hm _ (by simp)⟩ (by simpa using h))
    rw [if_neg this,if_neg e];simp only [List.map_cons,ih]
theorem zjx {kv:Value} {y:AV} : ∀ {m:List (Value × AV)},(∀ p∈m,p.1≠kv) → zfR kv y m=m++[(kv,y)]
 | [],_=>rfl
 | (a,x) :: m,h=>by
  have ih:=zjx (y:=y) (m:=m) fun p hp=>h p (by simp [hp])
  simp only [zfR,if_neg (h (a,x) (by simp)),ih];rfl
theorem MapZ.new (M:MapZ P t sh z) {m:List (Value × AV)} {kv:Value} (hm:(H.f b).bind AB.map? = some m) (hk:zhk H sh kv) (hks : ∀ e∈m,zhk H sh e.1) (hi : ∀ p∈m,p.1≠kv) {ix:AV} (hx:ix.key? = some kv) {y:AV} :
 zdD P H t (.mp b) ix y=some (H.set b (.mapB (m++[(kv,y)]))):=by
 obtain⟨kt,et,hu,hK,hz⟩:=M.ty
 unfold zdD;rw [hu,hx];simp only [hm];rw [if_pos ⟨sh,hK,hk,hks⟩,zjx hi]
theorem MapZ.look (M:MapZ P t sh z) (hm:(H.f b).bind AB.map? = some (tm (fun a => .agg (ek a).toArray) f m)) (hk:RowZ H sh (ek k)) (hks : ∀ p∈m,RowZ H sh (ek p.1)) (hi : ∀ a,(∃ x,(a,x)∈m) → ek a=ek k → a=k)
 {ix:AV} (hx:ix.key? = some (.agg (ek k).toArray)) (ok:Bool) :
 zaJ P H t (.mp b) ix ok=some (match zM k m with | some v=>if ok then .tup [f v,.p (.s (.bool true))] else f v | none=>if ok then .tup [z,.p (.s (.bool false))] else z):=by
 obtain⟨kt,et,hu,hK,hz⟩:=M.ty
 unfold zaJ;rw [hu,hx];simp only [hm]
 rw [if_pos ⟨sh,hK,⟨_,rfl,hk⟩,fun e he=>by
  simp only [tm,List.mem_map] at he
  obtain⟨p,hp,rfl⟩:=he
  exact⟨_,rfl,hks p hp⟩⟩,zm0 hi (fun p hp=>hp),hz]
 cases zM k m<;>rfl
theorem MapZ.put (M:MapZ P t sh z) (hm:(H.f b).bind AB.map? = some (tm (fun a => .agg (ek a).toArray) f m)) (hk:RowZ H sh (ek k)) (hks : ∀ p∈m,RowZ H sh (ek p.1)) (hi : ∀ a,(∃ x,(a,x)∈m) → ek a=ek k → a=k)
 {ix:AV} (hx:ix.key? = some (.agg (ek k).toArray)) {y:α} :
 zdD P H t (.mp b) ix (f y)=some (H.set b (.mapB (tm (fun a => .agg (ek a).toArray) f (zbX k y m)))):=by
 obtain⟨kt,et,hu,hK,hz⟩:=M.ty
 unfold zdD;rw [hu,hx];simp only [hm]
 rw [if_pos ⟨sh,hK,⟨_,rfl,hk⟩,fun e he=>by
  simp only [tm,List.mem_map] at he
  obtain⟨p,hp,rfl⟩:=he
  exact⟨_,rfl,hks p hp⟩⟩,zsn hi (fun p hp=>hp)]
end maps
attribute [go_sem] zkR zGH zsm zEY zEZ zyN zqm
end Go.AL

namespace Go.AL
open Go
section keep
variable {C:Cx} {ops:Array Oper} {q nj:Nat → Bool} {J:Hp → Prop} {Q:Env → Hp → Prop}
def zeN (C:Cx) (ops:Array Oper) (q nj:Nat → Bool) (J:Hp → Prop) (Q:Env → Hp → Prop):Nat → Array Bool → Env → Hp → Prop
 | 0,listed,env,H=>Region.ready .any ops listed=[]∧Q env H
 | fuel+1,listed,env,H=>(Region.ready .any ops listed=[] → Q env H) ∧
  ∀ i∈Region.ready .any ops listed,opA C ops (q i) i (fun env' H'=>(nj i=true ∨ J H')∧zeN C ops q nj J Q fuel (listed.setIfInBounds i true) env' H') env H
theorem zfZ : ∀ (fuel:Nat) (listed:Array Bool) (env:Env) (H:Hp),zeN C ops q nj J Q fuel listed env H → zgD C ops q Q fuel listed env H
 | 0,_,_,_,h=>h
 | fuel+1,listed,env,H,h=>⟨h.1,fun i hi=>zbe (fun env' H' hh=>zfZ fuel _ _ _ hh.2) (h.2 i hi)⟩
theorem zyQ {b:Bool} {j:Nat} {oi oj:Oper} {x:AV} {env:Env} {H:Hp} {K:Env → Hp → Prop} (hj:ops[j]? = some oj) (hap:oi.apart ops oj=true) (hy : ∀ H,J H → YieldsA C ops oi env H x) (h:opA C ops b j K (env.put oi.dst x) H) :
 opA C ops b j (fun env' H'=>(∀ H2,J H2 → YieldsA C ops oi env' H2 x)∧K (env'.put oi.dst x) H') env H:=by
 obtain⟨h1,h2,h3⟩:=Oper.apart_spec hap
 unfold opA at *;simp only [hj] at *;rw [zbf h1] at h
 split
 · rename_i hw
   cases b with
   | true =>
    simp only [hw,if_true] at h ⊢
    obtain⟨y,q1,q2⟩:=h
    exact⟨y,(zct h1).1 q1,fun H2 hJ=>(hy H2 hJ).put h3,by rw [←put_comm h2];exact q2⟩
   | false =>
    simp only [hw,Bool.false_eq_true,if_false] at h ⊢
    refine sOp.mono ((zct h1).1 h) fun y H' hk=>⟨fun H2 hJ=>(hy H2 hJ).put h3,?_⟩
    rw [←put_comm h2];exact hk
 · rename_i hw;simp only [hw] at h
   exact⟨h.1,fun H2 hJ=>(hy H2 hJ).put h3,by rw [←put_comm h2];exact h.2⟩
 · rename_i hw;simp only [hw] at h
theorem zqn {i:Nat} {oi:Oper} {x:AV} (hi:ops[i]? = some oi) (hqi:q i=true) (Wt:Nat → Prop) (hWt : ∀ j oj,ops[j]? = some oj → Wt j → ∃ e∈oj.after,Region.binds .any e=true∧(e.on=i ∨ Wt e.on)) : ∀ (fuel:Nat) (listed:Array Bool) (env:Env) (H:Hp),
 (∀ j,Wt j → listed.getD j true=false) →
 (∀ j oj,ops[j]? = some oj → j≠i → listed.getD j true=false → ¬Wt j → nj j=false∧oi.apart ops oj=true) →
 i∈Region.ready .any ops listed → J H → (∀ H,J H → YieldsA C ops oi env H x) → zeN C ops q nj J Q fuel (listed.setIfInBounds i true) (env.put oi.dst x) H → zeN C ops q nj J Q (fuel+1) listed env H:=by
 intro fuel
 induction fuel with
 | zero =>
  intro listed env H _ _ hr hJ hy hh
  refine⟨fun h=>(by rw [h] at hr;cases hr),fun j hj => ?_⟩
  by_cases hji:j=i
  · subst hji;rw [hqi];exact (hy H hJ).opA hi ⟨.inr hJ,hh⟩
  · have:=ready_mono hj hji
    rw [hh.1] at this
    cases this
 | succ fuel ih =>
  intro listed env H hun0 hfree hr hJ hy hh
  refine⟨fun h=>(by rw [h] at hr;cases hr),fun j hj => ?_⟩
  by_cases hji:j=i
  · subst hji;rw [hqi];exact (hy H hJ).opA hi ⟨.inr hJ,hh⟩
  · have h1:=hh.2 j (ready_mono hj hji)
    obtain⟨hjun,oj,hoj,hall⟩:=mem_ready.1 hj
    have hnot : ∀ e∈oj.after,Region.binds .any e=true → e.on≠i:=fun e he hb heq=>by
     have h1:=hall e he hb;have h0:=(mem_ready.1 hr).1;rw [heq] at h1
     rcases Nat.lt_or_ge i listed.size with h' | h'
     · simp [h'] at h0 h1;rw [h0] at h1;cases h1
     · simp [Array.getElem?_eq_none h'] at h1
    have hnw : ¬Wt j:=fun hw=>by
     obtain⟨e,he,hb,h | h⟩:=hWt j oj hoj hw
     · exact hnot e he hb h
     · have h1:=hall e he hb;have h0:=hun0 _ h
       rcases Nat.lt_or_ge e.on listed.size with h' | h'
       · simp [h'] at h0 h1;rw [h0] at h1;cases h1
       · simp [Array.getElem?_eq_none h'] at h1
    obtain⟨hnj,hap⟩:=hfree j oj hoj hji hjun hnw
    have h2:=zyQ hoj hap hy h1
    have hfree' : ∀ k ok,ops[k]? = some ok → k≠i → (listed.setIfInBounds j true).getD k true=false →
     ¬Wt k → nj k=false∧oi.apart ops ok=true:=fun k ok hk hki hun hno=>by
     refine hfree k ok hk hki ?_ hno;by_cases hjk:j=k
     · subst hjk;exact hjun
     · rw [getD_set_ne true hjk] at hun;exact hun
    have hun' : ∀ k,Wt k → (listed.setIfInBounds j true).getD k true=false:=fun k hk=>by
     by_cases hjk:j=k
     · subst hjk;exact absurd hk hnw
     · rw [getD_set_ne true hjk];exact hun0 k hk
    refine zbe (fun env' H' h3 => ?_) h2;have hJ':J H':=h3.2.1.resolve_left (by rw [hnj];simp)
    refine⟨.inr hJ',ih (listed.setIfInBounds j true) env' H' hun' hfree' (ready_mono hr (Ne.symm hji)) hJ' h3.1 ?_⟩
    rw [Array.setIfInBounds_comm _ _ hji];exact h3.2.2
def zyR (nj:Nat → Bool) (ops:Array Oper) (listed:Array Bool) (i:Nat):Bool :=
 match ops[i]? with
 | none=>false
 | some oi=>(List.range ops.size).all fun j=>j == i || listed.getD j true || match ops[j]? with
  | some oj=>oj.after.any (fun e=>Region.binds .any e && e.on == i) || (!nj j && oi.apart ops oj) || (zcu ops listed i).contains j
  | none=>true
theorem zqo {i:Nat} {oi:Oper} {listed:Array Bool} (hi:ops[i]? = some oi) (h:zyR nj ops listed i=true) (j:Nat) (oj:Oper)
 (hj:ops[j]? = some oj) (hne:j≠i) (hun:listed.getD j true=false) (hno : ¬Waits ops listed i j):nj j=false∧oi.apart ops oj=true:=by
 simp only [zyR,hi,List.all_eq_true,List.mem_range] at h;have h1:=h j (Array.getElem?_eq_some_iff.1 hj).1;simp only [hj,Bool.or_eq_true,beq_iff_eq,hne,false_or,hun,Bool.false_eq_true,Bool.and_eq_true,Bool.not_eq_true'] at h1
 rcases h1 with (h1 | h1) | h1
 · refine absurd ⟨1,?_⟩ hno
   obtain⟨e,he,hb⟩:=Array.any_eq_true'.1 h1
   simp only [Bool.and_eq_true,beq_iff_eq] at hb;simp only [yG,hun,hj,Bool.not_false,Bool.true_and];exact Array.any_eq_true'.2 ⟨e,he,by simp [hb.1,hb.2]⟩
 · exact h1
 · exact absurd (za7 h1) hno
def za0 (C:Cx) (ops:Array Oper):List Oper → Env → Hp → Env → Prop
 | [],env,H,E=>env=E
 | o :: r,env,H,E=>match zL C.nt ops o.guard env with
  | some true=>(match ze C.P C.G o.op o.type env H with
   | .val x H'=>zA C.nt o.dst=true∧H'=H∧za0 C ops r (env.put o.dst x) H E
   | _=>False)
  | some false=>zA C.nt o.dst=true∧za0 C ops r (env.put o.dst (.tup [])) H E
  | none=>False
def zyS (t:Nat) (r:List Oper):Bool:=r.any fun o=>o.dst == some t
theorem zbB {t:Nat} : ∀ {r:List Oper} {env E:Env} {H:Hp},zyS t r=false → za0 C ops r env H E → E t=env t
 | [],_,_,_,_,h=>by cases h;rfl
 | o :: r,env,E,H,hd,h=>by
  simp only [zyS,List.any_cons,Bool.or_eq_false_iff,beq_eq_false_iff_ne] at hd
  have hp : ∀ x,env.put o.dst x t=env t:=fun x=>put_ne fun i hi e=>hd.1 (by rw [hi,e])
  unfold za0 at h;split at h
  · split at h
    · rw [zbB (r:=r) hd.2 h.2.2,hp]
    · exact h.elim
  · rw [zbB (r:=r) hd.2 h.2,hp]
  · exact h.elim
def zm1 (nj:Nat → Bool) (ops:Array Oper) (l:List Oper):List Nat → Array Bool → Bool
 | [],_=>true
 | k :: r,listed=>decide (k < l.length) && (Region.ready .any ops listed).contains k && zyR nj ops listed k && (match (ops[k]?).bind (·.dst) with | some t => !zyS t (zck l r) | none=>false) && zm1 nj ops l r (listed.setIfInBounds k true)
def zeO (listed:Array Bool):List Nat → Array Bool
 | []=>listed
 | k :: r=>zeO (listed.setIfInBounds k true) r
theorem zhU {l:List Oper} {E:Env} {n:Nat} : ∀ (r:List Nat) (listed:Array Bool) (env:Env) (H:Hp),(∀ k∈r,q k=true) → zm1 nj l.toArray l r listed=true → J H → (∀ H,J H → za0 C l.toArray (zck l r) env H E) → zeN C l.toArray q nj J Q n (zeO listed r) E H → zeN C l.toArray q nj J Q (r.length+n) listed env H
 | [],listed,env,H,_,_,hJ,hp,h=>by
  have:env=E:=hp H hJ
  rw [this,List.length_nil,Nat.zero_add];exact h
 | k :: r,listed,env,H,hq,hB,hJ,hp,h=>by
  simp only [zm1,Bool.and_eq_true,decide_eq_true_eq] at hB
  obtain⟨⟨⟨⟨hk,hr⟩,hf⟩,hd⟩,hB'⟩:=hB
  have ho:l[k]? = some l[k]:=by simp [hk]
  have hn:l.toArray[k]? = some l[k]:=by simp [hk]
  rw [zc0,ho] at hp
  generalize hoo:l[k]=o at hp ho hn
  rw [hn] at hd;simp only [Option.bind_some] at hd
  cases hdst:o.dst with
  | none=>rw [hdst] at hd;cases hd
  | some t =>
   rw [hdst] at hd;simp only [Bool.not_eq_true'] at hd
   have one : ∀ H,J H → YieldsA C l.toArray o env H (E t)∧za0 C l.toArray (zck l r) (env.put o.dst (E t)) H E:=fun H hJ=>by
    have h1:=hp H hJ;simp only [zc1] at h1;unfold za0 at h1;split at h1
    · rename_i hw;split at h1
      · rename_i x H' hs
        obtain⟨a,rfl,b⟩:=h1
        have hx:E t=x:=by rw [zbB hd b,hdst];simp [Env.put]
        rw [hx]
        exact⟨.inl ⟨hw,by unfold aOp1;rw [hs];exact⟨a,rfl,rfl⟩⟩,b⟩
      · exact h1.elim
    · rename_i hw
      have hx:E t = .tup []:=by rw [zbB hd h1.2,hdst];simp [Env.put]
      rw [hx]
      exact⟨.inr ⟨hw,h1.1,rfl⟩,h1.2⟩
    · exact h1.elim
   rw [show (k :: r).length+n=(r.length+n)+1 by simp;omega]
   exact zqn hn (hq k (by simp)) (Waits l.toArray listed k) (fun j oj hj hw=>hw.edge hj) _ listed env H (fun j hw=>hw.unlisted) (zqo hn hf) (by simpa using hr) hJ (fun H hJ=>(one H hJ).1)
    (zhU r _ _ H (fun k hk=>hq k (by simp [hk])) hB' hJ (fun H hJ=>(one H hJ).2) h)
theorem zqp {i:Nat} {oi:Oper} {x:AV} (hi:ops[i]? = some oi) (hqi:q i=true) (hni:nj i=true) (Wt:Nat → Prop) (hWt : ∀ j oj,ops[j]? = some oj → Wt j → ∃ e∈oj.after,Region.binds .any e=true∧(e.on=i ∨ Wt e.on)) : ∀ (fuel:Nat) (listed:Array Bool) (env:Env) (H:Hp),
 (∀ j,Wt j → listed.getD j true=false) →
 (∀ j oj,ops[j]? = some oj → j≠i → listed.getD j true=false → ¬Wt j → zhT q oi oj j=true∧oi.apart ops oj=true) →
 i∈Region.ready .any ops listed → YieldsA C ops oi env H x → zeN C ops q nj J Q fuel (listed.setIfInBounds i true) (env.put oi.dst x) H → zeN C ops q nj J Q (fuel+1) listed env H:=by
 intro fuel
 induction fuel with
 | zero =>
  intro listed env H _ _ hr hy hh
  refine⟨fun h=>(by rw [h] at hr;cases hr),fun j hj => ?_⟩
  by_cases hji:j=i
  · subst hji;rw [hqi];exact hy.opA hi ⟨.inl hni,hh⟩
  · have:=ready_mono hj hji
    rw [hh.1] at this
    cases this
 | succ fuel ih =>
  intro listed env H hun0 hfree hr hy hh
  refine⟨fun h=>(by rw [h] at hr;cases hr),fun j hj => ?_⟩
  by_cases hji:j=i
  · subst hji;rw [hqi];exact hy.opA hi ⟨.inl hni,hh⟩
  · have h1:=hh.2 j (ready_mono hj hji)
    obtain⟨hjun,oj,hoj,hall⟩:=mem_ready.1 hj
    have hnot : ∀ e∈oj.after,Region.binds .any e=true → e.on≠i:=fun e he hb heq=>by
     have h1:=hall e he hb;have h0:=(mem_ready.1 hr).1;rw [heq] at h1
     rcases Nat.lt_or_ge i listed.size with h' | h'
     · simp [h'] at h0 h1;rw [h0] at h1;cases h1
     · simp [Array.getElem?_eq_none h'] at h1
    have hnw : ¬Wt j:=fun hw=>by
     obtain⟨e,he,hb,h | h⟩:=hWt j oj hoj hw
     · exact hnot e he hb h
     · have h1:=hall e he hb;have h0:=hun0 _ h
       rcases Nat.lt_or_ge e.on listed.size with h' | h'
       · simp [h'] at h0 h1;rw [h0] at h1;cases h1
       · simp [Array.getElem?_eq_none h'] at h1
    obtain⟨hqj,hap⟩:=hfree j oj hoj hji hjun hnw
    have h2:opA C ops (q j) j (fun env' H'=>YieldsA C ops oi env' H' x∧(nj j=true ∨ J H')∧zeN C ops q nj J Q fuel ((listed.setIfInBounds i true).setIfInBounds j true) (env'.put oi.dst x) H') env H:=by
     cases hq:q j with
     | true=>rw [hq] at h1;exact zko (K:=fun env' H'=>(nj j=true ∨ J H')∧zeN C ops q nj J Q fuel ((listed.setIfInBounds i true).setIfInBounds j true) env' H') hoj hap hy h1
     | false =>
      rw [hq] at h1;simp only [zhT,hq,Bool.false_or,Bool.or_eq_true,Bool.and_eq_true] at hqj
      rcases hqj with hqj | hqj
      · exact zmV (K:=fun env' H'=>(nj j=true ∨ J H')∧zeN C ops q nj J Q fuel ((listed.setIfInBounds i true).setIfInBounds j true) env' H') hoj hap hqj hy h1
      · exact zyK (K:=fun env' H'=>(nj j=true ∨ J H')∧zeN C ops q nj J Q fuel ((listed.setIfInBounds i true).setIfInBounds j true) env' H') hoj hap hqj.1 hqj.2 hy h1
    have hfree' : ∀ k ok,ops[k]? = some ok → k≠i → (listed.setIfInBounds j true).getD k true=false →
     ¬Wt k → zhT q oi ok k=true∧oi.apart ops ok=true:=fun k ok hk hki hun hno=>by
     refine hfree k ok hk hki ?_ hno;by_cases hjk:j=k
     · subst hjk;exact hjun
     · rw [getD_set_ne true hjk] at hun;exact hun
    have hun' : ∀ k,Wt k → (listed.setIfInBounds j true).getD k true=false:=fun k hk=>by
     by_cases hjk:j=k
     · subst hjk;exact absurd hk hnw
     · rw [getD_set_ne true hjk];exact hun0 k hk
    refine zbe (fun env' H' h3 => ?_) h2
    refine⟨h3.2.1,ih (listed.setIfInBounds j true) env' H' hun' hfree' (ready_mono hr (Ne.symm hji)) h3.1 ?_⟩
    rw [Array.setIfInBounds_comm _ _ hji];exact h3.2.2
def zgm (q:Nat → Bool) (ops:Array Oper):List Nat → Array Bool → Bool
 | [],listed=>(Region.ready .any ops listed).isEmpty
 | k :: r,listed=>(if q k then (Region.ready .any ops listed).contains k && zyL q ops listed k && (match ops[k]? with | some o=>zaO o.op || zau o.op | none=>false) else Region.ready .any ops listed == [k]) && zgm q ops r (listed.setIfInBounds k true)
def opX (C:Cx) (ops:Array Oper) (o:Oper) (K:Env → Hp → Prop) (env:Env) (H:Hp):Prop :=
 match zL C.nt ops o.guard env with
 | some true=>aOp1 C o env H (fun x H'=>K (env.put o.dst x) H')
 | some false=>zA C.nt o.dst=true∧K (env.put o.dst (.tup [])) H
 | none=>False
theorem zso {k:Nat} {o:Oper} {K:Env → Hp → Prop} {env:Env} {H:Hp} (h0:ops[k]? = some o) (h:opX C ops o K env H):opA C ops false k K env H:=by
 unfold opX at h;unfold opA;rw [h0];simp only [Bool.false_eq_true,if_false];exact h
def zc2 (C:Cx) (ops:Array Oper) (J:Hp → Prop) (k:List Item) (R:AV → Hp → Prop):List Bool → List Oper → Env → Hp → Prop
 | _,[],env,H=>ARun C k env H R
 | b,o :: r,env,H=>opX C ops o (fun env' H'=>(b.headD true=false ∨ J H')∧zc2 C ops J k R b.tail r env' H') env H
theorem zm2 {o:Oper} {K K':Env → Hp → Prop} {env:Env} {H:Hp} (hk : ∀ env H,K env H → K' env H) (h:opX C ops o K env H):opX C ops o K' env H:=by
 unfold opX at *
 split
 · rename_i hw;simp only [hw] at h;exact sOp.mono h fun x H' hh=>hk _ _ hh
 · rename_i hw;simp only [hw] at h;exact⟨h.1,hk _ _ h.2⟩
 · rename_i hw;simp only [hw] at h
theorem zuK {o:Oper} {K:Env → Hp → Prop} {env:Env} {H:Hp} (hs:(zaO o.op || zau o.op)=true) (h:opX C ops o K env H) : ∃ x,YieldsA C ops o env H x∧K (env.put o.dst x) H:=by
 have hv:(∃ x,ze C.P C.G o.op o.type env H = .val x H) ∨ ze C.P C.G o.op o.type env H = .fail:=by
  rcases (Bool.or_eq_true _ _).mp hs with hs | hs
  · rcases zhR (P:=C.P) (G:=C.G) (ty:=o.type) (env:=env) (H:=H) (H':=H) hs with ⟨y,e1,_⟩ | e
    · exact .inl ⟨y,e1⟩
    · exact .inr e
  · rcases zhS (P:=C.P) (G:=C.G) (ty:=o.type) (env:=env) (H:=H) hs with ⟨y,e1,_⟩ | e
    · exact .inl ⟨y,e1⟩
    · exact .inr e
 unfold opX at h;split at h
 · rename_i hw;unfold aOp1 at h
   rcases hv with ⟨y,e1⟩ | e
   · rw [e1] at h;exact⟨y,.inl ⟨hw,by unfold aOp1;rw [e1];exact⟨h.1,rfl,rfl⟩⟩,h.2⟩
   · rw [e] at h;exact h.elim
 · rename_i hw;exact⟨.tup [],.inr ⟨hw,h.1,rfl⟩,h.2⟩
 · exact h.elim
theorem zhV {l:List Oper} {k:List Item} {R:AV → Hp → Prop} : ∀ (r:List Nat) (bs:List Bool) (listed:Array Bool) (env:Env) (H:Hp),(∀ i∈r,(q i=true → nj i=true)∧i < l.length) → r.map nj=bs.map (!·) → zgm q l.toArray r listed=true → zc2 C l.toArray J k R bs (zck l r) env H → zeN C l.toArray q nj J (fun env H=>ARun C k env H R) r.length listed env H
 | [],bs,listed,env,H,_,_,hB,h=>⟨by simpa [zgm] using hB,h⟩
 | i :: r,bs,listed,env,H,hq,hb,hB,h=>by
  have hi:=(hq i (by simp)).2
  have ho:l[i]? = some l[i]:=by simp [hi]
  have hn:l.toArray[i]? = some l[i]:=by simp [hi]
  rw [zc0,ho,zc1] at h
  cases bs with
  | nil=>cases hb
  | cons b bs =>
   simp only [List.map_cons,List.cons.injEq] at hb;unfold zc2 at h;simp only [List.headD_cons,List.tail_cons] at h;simp only [zgm] at hB;rw [Bool.and_eq_true] at hB
   obtain⟨hr,hB'⟩:=hB
   have ih:=fun env' H'=>zhV (k:=k) (R:=R) r bs (listed.setIfInBounds i true) env' H' (fun m hm=>hq m (by simp [hm])) hb.2 hB'
   cases hqi:q i with
   | true =>
    rw [if_pos hqi,hn] at hr;simp only [Bool.and_eq_true] at hr
    obtain⟨⟨r1,r2⟩,r3⟩:=hr
    obtain⟨x,hy,_,hK⟩:=zuK r3 h
    exact zqp hn hqi ((hq i (by simp)).1 hqi) (Waits l.toArray listed i) (fun j oj hj hw=>hw.edge hj) _ listed env H (fun j hw=>hw.unlisted) (zql hn r2) (by simpa using r1) hy (ih _ _ hK)
   | false =>
    rw [if_neg (by simp [hqi])] at hr
    have hr:Region.ready .any l.toArray listed=[i]:=by simpa using hr
    refine⟨fun h0=>(by rw [hr] at h0;cases h0),fun j hj => ?_⟩
    rw [hr] at hj;simp only [List.mem_singleton] at hj;subst hj;rw [hqi];refine zso hn (zm2 (fun env' H' hh=>⟨?_,ih _ _ hh.2⟩) h)
    rcases hh.1 with e | e
    · subst e;exact .inl hb.1
    · exact .inr e
def zuL (order:List Nat) (bs:List Bool) (i:Nat):Bool:=(order.zip bs).any fun x=>x.1 == i && !x.2
def qOf (pre st:List Nat) (i:Nat):Bool:=pre.contains i || st.contains i
def zm4 (pre st order:List Nat) (nj:Nat → Bool) (bs:List Bool) (n:Nat):Bool:=order.all (fun i=>(!qOf pre st i || nj i) && decide (i < n)) && decide (order.map nj=bs.map (!·))
theorem zeP {pre st order:List Nat} {nj:Nat → Bool} {bs:List Bool} {n:Nat} (h:zm4 pre st order nj bs n=true):(∀ i∈order,(qOf pre st i=true → nj i=true)∧i < n)∧order.map nj=bs.map (!·):=by
 simp only [zm4,Bool.and_eq_true,List.all_eq_true,decide_eq_true_eq,Bool.or_eq_true,Bool.not_eq_true'] at h
 exact⟨fun i hi=>⟨fun hq=>((h.1 i hi).1).resolve_left (by rw [hq];simp),(h.1 i hi).2⟩,h.2⟩
theorem zsp {pre st:List Nat} : ∀ k∈pre,qOf pre st k=true:=fun k hk=>by simp [qOf,hk]
theorem ARun.openJ {id:Nat} {l:List Oper} {k:List Item} {env:Env} {H:Hp} {R:AV → Hp → Prop} {E:Env} (J:Hp → Prop) (pre st order:List Nat) (bs:List Bool) (hm:C.P.follows .mixedOrders=true)
 (hB:(zm1 (zuL order bs) l.toArray l pre (Array.replicate l.length false) && zgm (qOf pre st) l.toArray order (zeO (Array.replicate l.length false) pre) && (pre.length+order.length == l.length) && zm4 pre st order (zuL order bs) bs l.length)=true)
 (hJ:J H) (hp : ∀ H,J H → za0 C l.toArray (zck l pre) env H E) (h:zc2 C l.toArray J k R bs (zck l order) E H):ARun C (.code (.region id l.toArray true) :: k) env H R :=
 .of_wp fun σ w act m hpre=>by
  obtain⟨g1,g2⟩:=zdt hpre.rel
  simp only [Bool.and_eq_true,beq_iff_eq] at hB
  obtain⟨⟨⟨b1,b2⟩,b3⟩,b4⟩:=hB
  have b5:=zeP b4;have h1:=zhV (q:=qOf pre st) order bs _ E H b5.1 b5.2 b2 h;have h2:=zfZ _ _ _ _ (zhU pre _ env H zsp b1 hJ hp h1);rw [b3] at h2;refine wpIn_region_any hm ?_;rw [List.size_toArray]
  exact zac (m:=m) l.length _ env H σ w.drew act h2 g1 (hpre.fr.mono g2) (Nat.le_refl _) fun env' H' σ' w' a' c1 c2 c3 c4=>⟨rfl,env',H',σ',c1,hpre.go c2 c3 (g2.trans c4 (Nat.le_refl _)),g2.trans c4 (Nat.le_refl _)⟩
theorem ARun.openJ2 {id:Nat} {l:List Oper} {k:List Item} {env:Env} {H:Hp} {R:AV → Hp → Prop} {E:Env} (J:Hp → Prop) (pre st:List Nat) (i j:Nat) (a b:List Nat) (ba bb:List Bool) (hm:C.P.follows .mixedOrders=true)
 (hB:(zm1 (zuL (i :: a) ba) l.toArray l pre (Array.replicate l.length false) && (Region.ready .any l.toArray (zeO (Array.replicate l.length false) pre) == [i,j]) && (!qOf pre st i && !qOf pre st j)
  && zgm (qOf pre st) l.toArray a ((zeO (Array.replicate l.length false) pre).setIfInBounds i true) && zgm (qOf pre st) l.toArray b ((zeO (Array.replicate l.length false) pre).setIfInBounds j true)
  && (pre.length+(a.length+1) == l.length) && (a.length == b.length) && zm4 pre st (i :: a) (zuL (i :: a) ba) ba l.length && zm4 pre st (j :: b) (zuL (i :: a) ba) bb l.length)=true)
 (hJ:J H) (hp : ∀ H,J H → za0 C l.toArray (zck l pre) env H E) (ha:zc2 C l.toArray J k R ba (zck l (i :: a)) E H) (hb:zc2 C l.toArray J k R bb (zck l (j :: b)) E H):ARun C (.code (.region id l.toArray true) :: k) env H R :=
 .of_wp fun σ w act m hpre=>by
  obtain⟨g1,g2⟩:=zdt hpre.rel
  simp only [Bool.and_eq_true,beq_iff_eq,Bool.not_eq_true'] at hB
  obtain⟨⟨⟨⟨⟨⟨⟨⟨b1,b2⟩,bqi,bqj⟩,b3⟩,b4⟩,b5⟩,b6⟩,b7⟩,b8⟩:=hB
  have one : ∀ (i:Nat) (a:List Nat) (ba:List Bool) (nj:Nat → Bool) (L:Array Bool),qOf pre st i=false → (∀ m∈i :: a,(qOf pre st m=true → nj m=true)∧m < l.length) → (i :: a).map nj=ba.map (!·) → zgm (qOf pre st) l.toArray a (L.setIfInBounds i true)=true → zc2 C l.toArray J k R ba (zck l (i :: a)) E H →
   opA C l.toArray (qOf pre st i) i (fun env' H'=>(nj i=true ∨ J H')∧zeN C l.toArray (qOf pre st) nj J (fun env H=>ARun C k env H R) a.length (L.setIfInBounds i true) env' H') E H:=by
   intro i a ba nj L hqi hq hb hB h;have hi:=(hq i (by simp)).2
   have ho:l[i]? = some l[i]:=by simp [hi]
   have hn:l.toArray[i]? = some l[i]:=by simp [hi]
   rw [zc0,ho,zc1] at h
   cases ba with
   | nil=>cases hb
   | cons b bs =>
    simp only [List.map_cons,List.cons.injEq] at hb;unfold zc2 at h;simp only [List.headD_cons,List.tail_cons] at h;rw [hqi];refine zso hn (zm2 (fun env' H' hh=>⟨?_,zhV (q:=qOf pre st) a bs _ _ _ (fun m hm=>hq m (by simp [hm])) hb.2 hB hh.2⟩) h)
    rcases hh.1 with e | e
    · subst e;exact .inl hb.1
    · exact .inr e
  have o1:=zeP b7;have o2:=zeP b8
  have h1:zeN C l.toArray (qOf pre st) (zuL (i :: a) ba) J (fun env H=>ARun C k env H R) (a.length+1) (zeO (Array.replicate l.length false) pre) E H:=by
   refine⟨fun h0=>(by rw [b2] at h0;cases h0),fun m hm => ?_⟩
   rw [b2] at hm;simp only [List.mem_cons,List.not_mem_nil,or_false] at hm
   rcases hm with rfl | rfl
   · exact one _ _ _ _ _ bqi o1.1 o1.2 b3 ha
   · rw [b6];exact one _ _ _ _ _ bqj o2.1 o2.2 b4 hb
  have h2:=zfZ _ _ _ _ (zhU pre _ env H zsp b1 hJ hp h1);rw [b5] at h2;refine wpIn_region_any hm ?_;rw [List.size_toArray]
  exact zac (m:=m) l.length _ env H σ w.drew act h2 g1 (hpre.fr.mono g2) (Nat.le_refl _) fun env' H' σ' w' a' c1 c2 c3 c4=>⟨rfl,env',H',σ',c1,hpre.go c2 c3 (g2.trans c4 (Nat.le_refl _)),g2.trans c4 (Nat.le_refl _)⟩

section steps
variable {k:List Item} {R:AV → Hp → Prop} {env E:Env} {H:Hp} {o:Oper} {dst:Option Nat} {op:Op} {ty:TypeId} {pos:String} {after:Array Edge} {r rest:List Oper} {b:Bool} {bs:List Bool} {x:AV} {H':Hp} {f:FuncId} {args:List AV}
def zE0 (C:Cx) (ops:Array Oper) (res:SRes) (dst:Option Nat) (r:List Oper) (env:Env) (H:Hp) (E:Env):Prop :=
 match res with | .val x H'=>zA C.nt dst=true∧H'=H∧za0 C ops r (env.put dst x) H E | _=>False
theorem zqq:za0 C ops [] env H E=(env=E):=rfl
theorem zm5:za0 C ops (⟨dst,op,ty,pos,after,none⟩ :: r) env H E=zE0 C ops (ze C.P C.G op ty env H) dst r env H E:=rfl
theorem zyT:zE0 C ops (.val x H) dst r env H E=(zA C.nt dst=true∧za0 C ops r (env.put dst x) H E):=by simp [zE0]
def CallJ (C:Cx) (ops:Array Oper) (J:Hp → Prop) (f:FuncId) (args:List AV) (dst:Option Nat) (b:Bool) (bs:List Bool) (r:List Oper) (k:List Item) (env:Env) (H:Hp) (R:AV → Hp → Prop):Prop :=
 ACall C.P C.G f args H (fun x H'=>(b=false ∨ J H')∧zc2 C ops J k R bs r (env.put dst x) H')
def zjy (C:Cx) (ops:Array Oper) (J:Hp → Prop) (res:SRes) (dst:Option Nat) (b:Bool) (bs:List Bool) (r:List Oper) (k:List Item) (env:Env) (H:Hp) (R:AV → Hp → Prop):Prop :=
 match res with
 | .val x H'=>zA C.nt dst=true∧(b=false ∨ J H')∧zc2 C ops J k R bs r (env.put dst x) H'
 | .unit H'=>dst=none∧(b=false ∨ J H')∧zc2 C ops J k R bs r env H'
 | .call f args=>zA C.nt dst=true∧CallJ C ops J f (yj C.raw f args) dst b bs r k env H R
 | .yield y args=>zA C.nt dst=true∧AYield C.P C.G y (args.map AV.weak) H (fun x H'=>(b=false ∨ J H')∧zc2 C ops J k R bs r (env.put dst x) H')
 | .fail=>False
theorem zyU:zc2 C ops J k R bs [] env H=ARun C k env H R:=rfl
theorem zuM:zc2 C ops J k R (b :: bs) (⟨dst,op,ty,pos,after,none⟩ :: r) env H=zjy C ops J (ze C.P C.G op ty env H) dst b bs r k env H R:=by
 conv=>lhs;unfold zc2 opX
 simp only [zL,aOp1,List.headD_cons,List.tail_cons]
 cases ze C.P C.G op ty env H with
 | unit H' =>
  cases dst with
  | none=>rfl
  | some t=>simp [sOp,zjy]
 | _=>rfl
theorem zuN:zjy C ops J (.val x H') dst b bs r k env H R=(zA C.nt dst=true∧(b=false ∨ J H')∧zc2 C ops J k R bs r (env.put dst x) H'):=rfl
theorem zqr:zjy C ops J (.unit H') none b bs r k env H R=((b=false ∨ J H')∧zc2 C ops J k R bs r env H'):=by simp [zjy]
theorem zqs:zjy C ops J (.call f args) dst b bs r k env H R=(zA C.nt dst=true∧CallJ C ops J f (yj C.raw f args) dst b bs r k env H R):=rfl
theorem CallJ.moves {args':List AV} {S:AV → Hp → Prop} (h:ACall C.P C.G f args' H S) (hk : ∀ r H',S r H' → (b=false ∨ J H')∧zc2 C ops J k R bs rest (env.put dst r) H'):CallJ C ops J f args' dst b bs rest k env H R:=h.mono hk
theorem CallJ.still {args':List AV} {x:AV} (h : ∀ R:AV → Hp → Prop,R x H → ACall C.P C.G f args' H R) (hk:(b=false ∨ J H)∧zc2 C ops J k R bs rest (env.put dst x) H):CallJ C ops J f args' dst b bs rest k env H R:=h _ hk
end steps
end keep
attribute [go_sem] zqq zm5 zyT zyU zuM zuN zqr zqs
end Go.AL

namespace Go.AL
open Go
section cut
variable {C:Cx} {ops:Array Oper} {k:List Item} {env:Env} {H:Hp} {R:AV → Hp → Prop}
def zkS (C:Cx) (K:Env → Hp → Prop):List Oper → Env → Hp → Prop
 | [],env,H=>K env H
 | o :: r,env,H=>o.guard=none∧match ze C.P C.G o.op o.type env H with
  | .val x H'=>zA C.nt o.dst=true∧zkS C K r (env.put o.dst x) H'
  | _=>False
theorem AOps.pre : ∀ {l1 l2:List Oper} {env:Env} {H:Hp},zkS C (fun env H=>AOps C ops l2 k env H R) l1 env H → AOps C ops (l1++l2) k env H R
 | [],l2,env,H,h=>h
 | o :: r,l2,env,H,h=>by
  unfold zkS at h
  obtain⟨hg,h⟩:=h
  have h':aOp1 C o env H fun x H'=>AOps C ops (r++l2) k (env.put o.dst x) H' R:=by
   unfold aOp1
   generalize ze C.P C.G o.op o.type env H=res at h
   cases res with
   | val x H'=>exact⟨h.1,AOps.pre h.2⟩
   | unit H'=>exact h.elim
   | call f args=>exact h.elim
   | yield b args=>exact h.elim
   | fail=>exact h.elim
  exact .of_op true (by rw [hg];rfl) fun σ w a m hpre K Q hK=>h'.wp hpre.rel hpre.fr hK
theorem ARun.cutOps (n:Nat) {id:Nat} {l:List Oper} (h:zkS C (fun env H=>AOps C l.toArray (l.drop n) k env H R) (l.take n) env H):ARun C (.code (.region id l.toArray false) :: k) env H R :=
 .region (by have:=AOps.pre h;rwa [List.take_append_drop] at this)
def zyV (C:Cx) (res:SRes) (dst:Option Nat) (K:Env → Hp → Prop) (r:List Oper) (env:Env):Prop :=
 match res with | .val x H'=>zA C.nt dst=true∧zkS C K r (env.put dst x) H' | _=>False
theorem zyW {K:Env → Hp → Prop}:zkS C K [] env H=K env H:=rfl
theorem zuO {K:Env → Hp → Prop} {dst:Option Nat} {op:Op} {ty:TypeId} {pos:String} {after:Array Edge} {r:List Oper}:zkS C K (⟨dst,op,ty,pos,after,none⟩ :: r) env H=zyV C (ze C.P C.G op ty env H) dst K r env:=by
 unfold zyV
 conv=>lhs;unfold zkS
 simp only [true_and]
theorem zuP {K:Env → Hp → Prop} {x:AV} {H':Hp} {dst:Option Nat} {r:List Oper}:zyV C (.val x H') dst K r env=(zA C.nt dst=true∧zkS C K r (env.put dst x) H'):=rfl
end cut
attribute [go_sem] zyW zuO zuP
end Go.AL

namespace Go.AL
open Go
section append
variable {P:Program} {G:Globs} {σ:Gh} {H:Hp} {w:World}
end append
section ops
variable {C:Cx} {ops:Array Oper} {rest:List Oper} {k:List Item} {env:Env} {H:Hp} {R:AV → Hp → Prop}
end ops
end Go.AL

namespace Go.AL
open Go

theorem zkT {P:Program} {G:Globs} {σ:Gh} {H:Hp} {w:World} {t:TypeId} {l c:AV} {n sz:Nat} {cs:List AV} {vl vc:Value} (hr:Rel G σ H w) (h:zdk P H t l c=some (.ref H.n 0 n sz,H.new (.cells cs))) (hl:RelV σ H w l vl) (hc:RelV σ H w c vc) :
 ∃ v w' σ',(Instr.makeSlice t vl vc).run P w = .ok v w'∧RelV σ' (H.new (.vec cs)) w' (.vr H.n n sz) v∧Rel G σ' (H.new (.vec cs)) w'∧Ev H.n σ H w σ' (H.new (.vec cs)) w':=by
 unfold zdk at h;split at h
 case h_2=>cases h
 rename_i e n' m hu hn hm;split at h
 case h_2=>cases h
 rename_i ps hps;split at h
 case isFalse=>cases h
 rename_i hcond
 obtain⟨h0,hnm,hb,h63,hpl,hpos⟩:=hcond
 simp only [Option.some.injEq,Prod.mk.injEq,AV.ref.injEq,true_and] at h
 obtain⟨⟨hnn,hsz⟩,hH⟩:=h
 have hcc:(zbQ n'.toNat ps).map .p=cs:=by
  have:=congrArg (fun H':Hp=>H'.f H.n) hH
  simpa [Hp.f_new] using this
 subst hcc hsz
 obtain⟨kl,rfl⟩:=AV.int?_inv hn hl
 obtain⟨kc,rfl⟩:=AV.int?_inv hm hc
 obtain⟨z,_,hz,hzs,hzz⟩:=yy (w:=w) (S:=Stable σ H) hps
 obtain⟨i,hi⟩ : ∃ i,P.info? e=some i:=by
  cases hh:P.info? e with
  | none=>simp [hh] at hz
  | some i=>exact⟨i,rfl⟩
 have hiz:i.zero=some z:=by simpa [hi] using hz
 have his:i.size=P.cellsOf e:=by simp [Program.cellsOf,hi]
 have hib:(i.bytes:Int)=P.bytesOf e:=by simp [Program.bytesOf,hi]
 have hrun:=run_make (P:=P) w t e i z hu hi hiz kl kc n' m h0 hnm (by rw [hib,Int.mul_comm];omega) h63;have hml:n'.toNat*P.cellsOf e≤m.toNat*P.cellsOf e:=Nat.mul_le_mul_right _ (by omega)
 have hzpos:0 < z.cells.size:=by omega
 have hsz0:(madeCells z.cells (m.toNat*i.size)).size=m.toNat*P.cellsOf e:=by rw [size_madeCells,his]
 have hcl:((zbQ n'.toNat ps).map AV.p).length=n'.toNat*P.cellsOf e:=by simp [zed,hpl]
 obtain⟨r1,r2⟩:=zcp hr (w':=w.alloc (.cells (madeCells z.cells (m.toNat*i.size)) e)) (by simp) (fun g hg=>heap_alloc_old w _ hg) rfl rfl ((zbQ n'.toNat ps).map AV.p).length (some ((zbQ n'.toNat ps).map AV.p)) (some (w.heap.size,0,m.toNat*P.cellsOf e))
  (fun g o s hh=>by cases hh;exact⟨Nat.le_refl _,_,e,heap_alloc_new w _,hsz0⟩)
  (fun ds hds=>by
   cases hds
   refine⟨rfl,fun hh=>(by cases hh),fun g o s hh => ?_⟩
   cases hh
   refine⟨rfl,by rw [hcl];exact hml,fun j y hy => ?_⟩
   simp only [List.getElem?_map,Option.map_eq_some_iff] at hy
   obtain⟨p,hp,rfl⟩:=hy
   have hj:j < n'.toNat*ps.length:=by rw [←zed];exact (List.getElem?_eq_some_iff.1 hp).1
   rw [zfP _ _ _ hj] at hp
   have hjm:j < m.toNat*i.size:=by rw [his,←hpl];rw [hpl] at hj ⊢;omega
   have hmod:j % z.cells.size < z.cells.size:=Nat.mod_lt _ hzpos
   refine⟨z.cells[j % z.cells.size],?_,?_⟩
   · simp only [World.cell?,heap_alloc_new];simp [zep hjm hzpos,hmod]
   · rw [←hzs] at hp
     have:=hzz _ p z.cells[j % z.cells.size] hp (by simp [hmod])
     exact⟨.p this.1,this.2⟩)
 refine⟨_,_,_,hrun,?_,r1,r2⟩
 rw [←hnn];refine .vr ⟨by simp [Hp.n_new],_,m.toNat,rfl,fun _=>rfl,fun k0 c hk0 => ?_⟩;simp only [Hp.f_new,if_true,Option.some.injEq,AB.tl.injEq] at hk0
 obtain⟨rfl,rfl⟩:=hk0
 refine⟨by rw [hcl];exact Nat.le_refl _,fun _ => .inr ⟨w.heap.size,m.toNat*P.cellsOf e,rfl,by simp [Gh.withT],Nat.le_refl _,by omega,by unfold maxLen;omega⟩⟩
theorem AOps.makeVec {C:Cx} {ops:Array Oper} {rest:List Oper} {k:List Item} {env:Env} {H:Hp} {R:AV → Hp → Prop} {d n sz:Nat} {t ty:TypeId} {pos:String} {after:Array Edge} {l c:Operand} {cs:List AV} (hb:zdk C.P H t (yd C.G env l) (yd C.G env c)=some (.ref H.n 0 n sz,H.new (.cells cs)))
 (hd:zA C.nt (some d)=true) (h:AOps C ops rest k (env.put (some d) (.vr H.n n sz)) (H.new (.vec cs)) R) :
 AOps C ops (⟨some d,.makeSlice t l c,ty,pos,after,none⟩ :: rest) k env H R:=by
 refine .of_op true rfl fun σ w a m hpre K Q hK => ?_
 have hsem:Oper.semAt (Fr C σ).round a.eval ⟨some d,.makeSlice t l c,ty,pos,after,none⟩=execOp a.eval ⟨some d,.makeSlice t l c,ty,pos,after,none⟩:=Oper.semAt_eq _ _ _ (fun c h=>by cases h)
 obtain⟨v,w',σ',q1,q2,q3,q4⟩:=zkT hpre.rel hb (zj hpre.rel hpre.fr l) (zj hpre.rel hpre.fr c)
 unfold Oper.wpIn
 refine⟨fun f _=>trivial,?_⟩
 rw [hsem]
 have he:(execOp a.eval ⟨some d,.makeSlice t l c,ty,pos,after,none⟩).run C.P w = .ok (.value v) w':=by
  simp only [execOp,Sem.run_bind,q1];rfl
 rw [he];exact hK (.vr H.n n sz) v _ _ w' h (zaw hd) q3 q2 q4
theorem AOps.frzV {C:Cx} {ops:Array Oper} {l:List Oper} {k:List Item} {env:Env} {H:Hp} {R:AV → Hp → Prop} (t:Nat) {b len sz:Nat} {cs:List AV} {xs:List PV} (ht:env t = .vr b len sz) (hb:(H.f b).bind AB.vec? = some cs) (hcs:cs=(flat xs).map .p) (hl:xs.length=len) (hsz : ∀ x∈xs,x.cells.length=sz)
 (h:AOps C ops l k (env.put (some t) (.p (.sl false sz xs))) (H.set b .dead) R):AOps C ops l k env H R :=
 .ghost (fun σ w a m hpre=>by
  obtain⟨r1,e1⟩:=yX hpre.rel b
  refine⟨σ,r1,fun i => ?_,e1⟩
  simp only [Env.put];by_cases hi:i=t
  · subst hi;rw [if_pos rfl];have hs:=hpre.fr.slot i;rw [ht] at hs;exact zmS hpre.rel hb hcs hl hsz hs
  · rw [if_neg hi];exact (hpre.fr.slot i).mono e1) h
theorem ARun.frzCellV {C:Cx} {env:Env} {H:Hp} {R:AV → Hp → Prop} {todo:List Item} (b o d:Nat) {cs:List AV} {x y:AV} (hb:(H.f b).bind AB.vec? = some cs) (ho:cs[o]? = some x) (hne:b≠d)
 (hx : ∀ (σ:Gh) (w:World) (v:Value),Rel C.G σ H w → RelV σ H w x v → RelV σ (H.set d .dead) w y v)
 (h:ARun C todo env ((H.set d .dead).set b (.vec (cs.set o y))) R):ARun C todo env H R :=
 .ghost (fun σ w a m hpre=>by
  obtain⟨k0,hk⟩:=vec?_inv hb
  obtain⟨r1,e1⟩:=yX hpre.rel d
  have hb1:(H.set d .dead).f b=some (.tl k0 (some cs)):=by rw [Hp.f_set_ne H _ _ _ hne];exact hk
  obtain⟨hkl,hnone,hcells⟩:=r1.vec b k0 cs hb1
  obtain⟨_,_,hcells0⟩:=hpre.rel.vec b k0 cs hk
  obtain⟨r2,e2⟩:=zbI (G:=C.G) r1 hb1 (w':=w) (Nat.le_refl _) (fun _ _ _=>rfl) (fun _ _ _ _ _ _ _ h=>h) rfl rfl (cs.set o y).length (some (cs.set o y)) (σ.t b)
   ⟨by rw [List.length_set];omega,fun _=>rfl⟩ (fun g o' s hh=>⟨.inr ⟨o',hh,Nat.le_refl _⟩,r1.tail b k0 _ g o' s hb1 hh⟩) (fun ds hd=>by
    cases hd
    refine⟨rfl,fun hh=>(by rw [hnone hh] at ho;cases ho),fun g o' s hh => ?_⟩
    obtain⟨p0,p1,p2⟩:=hcells g o' s hh
    obtain⟨_,_,p3⟩:=hcells0 g o' s hh
    refine⟨p0,by rw [List.length_set];exact p1,fun i z hz => ?_⟩
    by_cases hi:o=i
    · subst hi
      obtain⟨v,hv,hrc⟩:=p3 o _ ho
      have hlt:o < cs.length:=(List.getElem?_eq_some_iff.1 ho).1;simp [hlt] at hz;subst hz
      exact⟨v,hv,hx σ w v hpre.rel hrc.1,hrc.2⟩
    · rw [List.getElem?_set_ne hi] at hz
      exact p2 i z hz)
  exact⟨_,r2,fun i=>((hpre.fr.slot i).mono e1).mono e2,e1.trans (e2.weaken (Nat.le_refl _)) (Nat.le_refl _)⟩) h
end Go.AL
