/-
  What arguments read as: plain data (numbers,bools,strings,structs,arrays and slices of these),by recursion on the type.
  Conditions: none;nothing here speaks of one program.
-/
import Derived.Test.YtdpfkanfahchjaaDoorPkE2
set_option linter.unusedSectionVars false
set_option linter.unusedSimpArgs false
set_option linter.unusedVariables false
namespace Go.AL
open Go Go.ChangeShapes Go.WideShapes Go.ChangeAt Go.RowKit

def za7 (b:Bool) (ys:List PV):PV:=if b then .agg ys else ys.headD (.agg [])

def zch (P:Program):Nat → List Field → Option Nat
 | o,[]=>some o
 | o,f :: fs=>if f.offset=o then zch P (o+P.cellsOf f.type) fs else none

def zaV (P:Program):Nat → TypeId → Bool
 | 0,_=>false
 | k+1,t=>match P.underlying t with
  | some .bool | some (.int _) | some .string=>true
  | some (.slice e)=>zaV P k e && (decide (0 < P.cellsOf e) && (zJ P e || P.cellsOf e == 1))
  | some (.struct fs)=>fs.toList.all (fun f=>zaV P k f.type) && zch P 0 fs.toList == some (P.cellsOf t)
  | some (.array n e)=>zaV P k e && n*P.cellsOf e == P.cellsOf t
  | _=>false

def zht (R:TypeId → List PV → Prop) (P:Program):List Field → List PV → Prop
 | [],xs=>xs=[]
 | f :: fs,xs => ∃ ys zs,xs=ys++zs∧ys.length=P.cellsOf f.type∧R f.type ys∧zht R P fs zs

def Reads (P:Program):Nat → TypeId → List PV → Prop
 | 0,_,_=>False
 | k+1,t,xs=>match P.underlying t with
  | some .bool => ∃ b,xs=[.s (.bool b)]
  | some (.int κ) => ∃ n,(Lit.int κ n).wf=true∧xs=[.s (.int κ n)]
  | some .string => ∃ s:ByteArray,s.size≤maxLen∧xs=[.s (.string s)]
  | some (.slice e) => ∃ yss:List (List PV),yss.length≤maxLen∧(∀ y∈yss,y.length=P.cellsOf e∧Reads P k e y)∧xs=[.sl false (P.cellsOf e) (yss.map (za7 (zJ P e)))]
  | some (.struct fs)=>zht (Reads P k) P fs.toList xs
  | some (.array n e) => ∃ yss:List (List PV),yss.length=n∧(∀ y∈yss,y.length=P.cellsOf e∧Reads P k e y)∧xs=yss.flatten
  | _=>False

def RowP (W:World) (xs:List PV) (cs:List Value):Prop :=
 xs.length=cs.length ∧ ∀ (i:Nat) x v,xs[i]? = some x → cs[i]? = some v → RelP W (Stable σ0 H0) x v∧v.oneCell'=true∧x.isAgg=false

section gen
variable {H:Type} {enc:TypeId × Value → H} {P:Program} {W:World} {sp:Nat → Bool} {held:Bool} {base:Nat}

theorem RowP.nil:RowP W [] []:=⟨rfl,fun i x v h=>by simp at h⟩
theorem RowP.one {x:PV} {v:Value} (h:RelP W (Stable σ0 H0) x v) (h1:v.oneCell'=true) (h2:x.isAgg=false):RowP W [x] [v] :=
 ⟨rfl,fun i y u hy hu=>by
  have hi:i < 1:=by simpa using (List.getElem?_eq_some_iff.1 hy).1
  have:i=0:=by omega
  subst this
  simp at hy hu;subst hy;subst hu
  exact⟨h,h1,h2⟩⟩
theorem RowP.append {xs ys:List PV} {cs ds:List Value} (h:RowP W xs cs) (h':RowP W ys ds):RowP W (xs++ys) (cs++ds):=by
 refine⟨by simp [h.1,h'.1],fun i x v hx hv => ?_⟩
 by_cases hi:i < xs.length
 · rw [List.getElem?_append_left hi] at hx
   rw [List.getElem?_append_left (by rw [←h.1];exact hi)] at hv
   exact h.2 i x v hx hv
 · rw [List.getElem?_append_right (by omega)] at hx
   rw [List.getElem?_append_right (by rw [←h.1];omega),←h.1] at hv
   exact h'.2 _ x v hx hv

theorem zdk {α β:Type} {f:α → Option β} : ∀ {l:List α} {ys:List β},l.mapM f=some ys → ys.length=l.length ∧ ∀ (i:Nat) x,l[i]? = some x → ∃ y,ys[i]? = some y∧f x=some y
 | [],ys,h=>by simp at h;subst h;exact⟨rfl,fun i x h=>by simp at h⟩
 | a :: l,ys,h=>by
  rw [List.mapM_cons] at h
  cases ha:f a with
  | none=>simp [ha] at h
  | some b =>
   cases hl:l.mapM f with
   | none=>simp [ha,hl] at h
   | some bs =>
    simp [ha,hl] at h
    subst h
    obtain⟨h1,h2⟩:=zdk hl
    refine⟨by simp [h1],fun i x hx => ?_⟩
    cases i with
    | zero=>simp at hx;subst hx;exact⟨b,rfl,ha⟩
    | succ i=>simp at hx;simpa using h2 i x hx

theorem list_of' {α:Type} {p:Nat → α → Prop} : ∀ (n:Nat),(∀ i,i < n → ∃ x,p i x) → ∃ l:List α,l.length=n ∧ ∀ (i:Nat) x,l[i]? = some x → p i x
 | 0,_=>⟨[],rfl,fun i x h=>by simp at h⟩
 | n+1,h=>by
  obtain⟨l,h1,h2⟩:=list_of' n fun i hi=>h i (by omega)
  obtain⟨x,hx⟩:=h n (by omega)
  refine⟨l++[x],by simp [h1],fun i y hy => ?_⟩
  by_cases hi:i < l.length
  · rw [List.getElem?_append_left hi] at hy;exact h2 i y hy
  · rw [List.getElem?_append_right (by omega)] at hy
    have hl:i - l.length < 1:=by have:=(List.getElem?_eq_some_iff.1 hy).1;simpa using this
    have:i=n:=by omega
    subst this
    rw [h1,Nat.sub_self] at hy
    simp at hy;subst hy;exact hx

theorem za8 {α:Type} {c:Nat} : ∀ {yss:List (List α)} {k:Nat} {z:α},(∀ y∈yss,y.length=c) → yss.flatten[k]? = some z → ∃ i j y,i < yss.length∧j < c∧k=i*c+j∧yss[i]? = some y∧y[j]? = some z
 | [],k,z,_,h=>by simp at h
 | y :: yss,k,z,hc,h=>by
  have hy:y.length=c:=hc y (by simp)
  rw [List.flatten_cons] at h
  by_cases hk:k < c
  · rw [List.getElem?_append_left (by omega)] at h
    exact⟨0,k,y,by simp,hk,by omega,rfl,h⟩
  · rw [List.getElem?_append_right (by omega),hy] at h
    obtain⟨i,j,y',h1,h2,h3,h4,h5⟩:=za8 (fun y hy=>hc y (by simp [hy])) h
    exact⟨i+1,j,y',by simp;omega,h2,by rw [Nat.add_mul];omega,by simpa using h4,h5⟩

theorem zci {α:Type} {c:Nat} : ∀ {yss:List (List α)},(∀ y∈yss,y.length=c) → yss.flatten.length=yss.length*c
 | [],_=>by simp
 | y :: yss,hc=>by
  rw [List.flatten_cons,List.length_append,hc y (by simp),zci (fun y hy=>hc y (by simp [hy])),List.length_cons,Nat.add_mul]
  omega

theorem zjg {b:Bool} {y:List PV} (h:b=true ∨ (y.length=1 ∧ ∀ x∈y,x.isAgg=false)):(za7 b y).cells=y:=by
 rcases h with rfl | ⟨h1,h2⟩
 · rfl
 · cases b
   · match y,h1 with
     | [x],_ =>
      have:=h2 x (by simp)
      cases x<;>simp [PV.isAgg] at this<;>rfl
   · rfl

theorem cells?_get {a:Addr} {n:Nat} {cs:List Value} (h:W.cells? base a n=some cs):cs.length=n ∧ ∀ j,j < n → W.cell? (a.add j)=cs[j]? := by
 unfold World.cells? at h
 split at h
 · obtain⟨h1,h2⟩:=zdk h
   rw [List.length_range] at h1
   refine⟨h1,fun j hj => ?_⟩
   obtain⟨y,hy,hf⟩:=h2 j j (by simp [hj])
   rw [hy,hf]
 · cases h

theorem zoo {a:Addr} {v:Value} (h:W.cell? a=some v):a.spot=none:=by
 unfold World.cell? at h
 split at h
 · split at h
   · cases h
   · rename_i hs;cases hx:a.spot<;>simp_all
 · cases h

theorem zgu : ∀ {fs:List Field} {o m:Nat},zch P o fs=some m → o≤m
 | [],o,m,h=>by simp [zch] at h;omega
 | f :: fs,o,m,h=>by
  simp only [zch] at h
  split at h
  · have:=zgu h;omega
  · cases h

theorem zln {e:TypeId} {k:Nat} {g off cap:Nat} {c:Nat} {b:Bool} {yss:List (List PV)} (hc:0 < c) (hb:b=true ∨ c=1) (hl:yss.length≤cap) (hcap:cap≤maxLen)
 (h : ∀ (i:Nat) y,yss[i]? = some y → ∃ cs,y.length=c∧(∀ j,j < c → W.cell? ⟨g,off+(i*c+j),none⟩=cs[j]?)∧RowP W y cs) :
 RelP W (Stable σ0 H0) (.sl false c (yss.map (za7 b))) (.slice (some ⟨g,off,none⟩) yss.length cap):=by
 have hlen : ∀ y∈yss,y.length=c:=fun y hy=>by
  obtain⟨i,hi⟩:=List.getElem?_of_mem hy
  obtain⟨cs,h1,_⟩:=h i y hi
  exact h1
 have hagg : ∀ y∈yss,∀ x∈y,x.isAgg=false:=fun y hy x hx=>by
  obtain⟨i,hi⟩:=List.getElem?_of_mem hy
  obtain⟨cs,h1,h2,h3⟩:=h i y hi
  obtain⟨j,hj⟩:=List.getElem?_of_mem hx
  have hjl:j < cs.length:=by rw [←h3.1];exact (List.getElem?_eq_some_iff.1 hj).1
  exact (h3.2 j x cs[j] hj (by simp [hjl])).2.2
 have hpk : ∀ y∈yss,(za7 b y).cells=y:=fun y hy=>zjg (by
  rcases hb with hb | hb
  · exact .inl hb
  · exact .inr ⟨by rw [hlen y hy,hb],hagg y hy⟩)
 have hflat:flat (yss.map (za7 b))=yss.flatten:=by
  unfold flat
  rw [List.flatMap_map,←List.flatMap_id]
  have : ∀ l:List (List PV),(∀ y∈l,(za7 b y).cells=y) → l.flatMap (fun y=>(za7 b y).cells)=l.flatMap id:=by
   intro l
   induction l with
   | nil=>intro _;rfl
   | cons a l ih=>intro hl;rw [List.flatMap_cons,List.flatMap_cons,ih (fun y hy=>hl y (by simp [hy])),hl a (by simp)];rfl
  exact this yss hpk
 have key : ∀ q,q < yss.length*c → ∃ v,W.cell? ⟨g,off+q,none⟩=some v∧v.oneCell'=true:=fun q hq=>by
  have hq':q < yss.flatten.length:=by rw [zci hlen];exact hq
  obtain⟨i,j,y,h1,h2,h3,h4,h5⟩:=za8 hlen (List.getElem?_eq_getElem hq')
  obtain⟨cs,g1,g2,g3⟩:=h i y h4
  have hj:j < cs.length:=by rw [←g3.1,g1];exact h2
  have:=g2 j h2
  rw [List.getElem?_eq_getElem hj] at this
  exact⟨cs[j],by rw [h3];exact this,(g3.2 j _ _ h5 (List.getElem?_eq_getElem hj)).2.1⟩
 have:=RelP.sl (w:=W) (S:=Stable σ0 H0) false c (yss.map (za7 b)) g off cap (fun q=>(W.cell? ⟨g,off+q,none⟩).getD .nilFunc) (by simp) ⟨by simpa using hl,hcap⟩
  (fun x hx=>by
   obtain⟨y,hy,rfl⟩:=List.mem_map.1 hx
   rw [hpk y hy];exact hlen y hy)
  (fun q hq=>by
   rw [List.length_map] at hq
   obtain⟨v,h1,h2⟩:=key q hq
   rw [h1]
   exact⟨zmr _ _,rfl,h2⟩)
  (fun q z hz=>by
   rw [hflat] at hz
   obtain⟨i,j,y,h1,h2,h3,h4,h5⟩:=za8 hlen hz
   obtain⟨cs,g1,g2,g3⟩:=h i y h4
   have hj:j < cs.length:=by rw [←g3.1,g1];exact h2
   have:=g2 j h2
   rw [List.getElem?_eq_getElem hj] at this
   rw [h3,this]
   exact (g3.2 j _ _ h5 (List.getElem?_eq_getElem hj)).1)
 rwa [List.length_map] at this

theorem zd8 {k fuel:Nat} {cs:List Value} {m:Nat} (hm:cs.length=m)
 (ih : ∀ (t:TypeId) (cs:List Value) (d:DataW H) (ps:List MemPlace),zaV P k t=true → DataW.trod enc P W base sp held fuel t cs=some (d,ps) → ∃ xs,RowP W xs cs∧Reads P k t xs) :
 ∀ (fs:List Field) (o:Nat) (ys:List (DataW H × List MemPlace)),(fs.all fun f=>zaV P k f.type)=true → zch P o fs=some m →
  (fs.mapM fun f=>DataW.trod enc P W base sp held fuel f.type ((cs.drop f.offset).take (P.cellsOf f.type)))=some ys → ∃ xs,RowP W xs (cs.drop o)∧zht (Reads P k) P fs xs
 | [],o,ys,_,hc,_=>by
  simp only [zch,Option.some.injEq] at hc
  exact⟨[],by rw [List.drop_of_length_le (by omega)];exact RowP.nil,rfl⟩
 | f :: fs,o,ys,hp,hc,h=>by
  simp only [List.all_cons,Bool.and_eq_true] at hp
  simp only [zch] at hc
  split at hc
  · rename_i ho
    have hle:=zgu hc
    rw [List.mapM_cons] at h
    cases hf:DataW.trod enc P W base sp held fuel f.type ((cs.drop f.offset).take (P.cellsOf f.type)) with
    | none=>simp [hf] at h
    | some y =>
     cases hr:(fs.mapM fun f=>DataW.trod enc P W base sp held fuel f.type ((cs.drop f.offset).take (P.cellsOf f.type))) with
     | none=>simp [hf,hr] at h
     | some zs =>
      obtain⟨d,ps⟩:=y
      obtain⟨xs,h1,h2⟩:=ih _ _ _ _ hp.1 hf
      obtain⟨xs',h3,h4⟩:=zd8 hm ih fs _ zs hp.2 hc hr
      rw [ho] at h1
      have hcat:cs.drop o=(cs.drop o).take (P.cellsOf f.type)++cs.drop (o+P.cellsOf f.type):=by
       rw [←List.drop_drop,List.take_append_drop]
      refine⟨xs++xs',by rw [hcat];exact h1.append h3,xs,xs',rfl,?_,h2,h4⟩
      rw [h1.1,List.length_take,List.length_drop]
      omega
  · cases hc

theorem zop {k:Nat} {t:TypeId} {xs:List PV} (h:Reads P k t xs) (ha:zJ P t=false):xs.length=1:=by
 cases k with
 | zero=>exact h.elim
 | succ k =>
  unfold Reads at h
  unfold zJ at ha
  split at h
  · obtain⟨_,rfl⟩:=h;rfl
  · obtain⟨_,_,rfl⟩:=h;rfl
  · obtain⟨_,_,rfl⟩:=h;rfl
  · obtain⟨_,_,_,rfl⟩:=h;rfl
  · rename_i hu;rw [hu] at ha;simp [zE] at ha
  · rename_i hu;rw [hu] at ha;simp [zE] at ha
  · exact h.elim

theorem zbL : ∀ (k fuel:Nat) (t:TypeId) (cs:List Value) (d:DataW H) (ps:List MemPlace),zaV P k t=true → DataW.trod enc P W base sp held fuel t cs=some (d,ps) → ∃ xs,RowP W xs cs∧Reads P k t xs
 | 0,_,_,_,_,_,hp,_=>by simp [zaV] at hp
 | _+1,0,_,_,_,_,_,h=>by simp [DataW.trod] at h
 | k+1,fuel+1,t,cs,d,ps,hp,h=>by
  unfold zaV at hp
  unfold Reads
  cases hu:P.underlying t with
  | none=>simp [hu] at hp
  | some desc =>
   rw [hu] at hp
   unfold DataW.trod at h
   rw [hu] at h
   cases desc<;>simp only [Bool.false_eq_true] at hp
   case bool =>
    split at h<;>first | (cases h;done) | skip
    all_goals (rename_i heq;cases heq)
    exact⟨_,RowP.one (.s _ rfl) rfl rfl,_,rfl⟩
   case int κ =>
    split at h<;>first | (cases h;done) | skip
    all_goals (rename_i heq;cases heq)
    split at h
    · rename_i hw
      obtain⟨rfl,hw⟩:=hw
      exact⟨_,RowP.one (.s _ rfl) rfl rfl,_,hw,rfl⟩
    · cases h
   case string =>
    split at h<;>first | (cases h;done) | skip
    all_goals (rename_i heq;cases heq)
    split at h
    · rename_i hw
      exact⟨_,RowP.one (.s _ rfl) rfl rfl,_,hw,rfl⟩
    · cases h
   case slice e =>
    simp only [Bool.and_eq_true,decide_eq_true_eq,Bool.or_eq_true,beq_iff_eq] at hp
    obtain⟨hp,hc,hb⟩:=hp
    split at h<;>first | (cases h;done) | skip
    all_goals (rename_i heq;cases heq)
    · exact⟨_,RowP.one (.nil false (P.cellsOf e)) rfl rfl,[],by simp,by simp,rfl⟩
    · rename_i a len cap
      dsimp only at h
      split at h
      · rename_i hcond
        obtain⟨hbase,hlc,hcm⟩:=hcond
        cases hm:(List.range len).mapM fun i=>(W.cells? base (a.add (i*P.cellsOf e)) (P.cellsOf e)).bind (DataW.trod enc P W base sp held fuel e) with
        | none=>rw [hm] at h;simp at h
        | some elems =>
         obtain⟨_,hget⟩:=zdk hm
         have hel : ∀ i,i < len → ∃ y:List PV,∃ cs,W.cells? base (a.add (i*P.cellsOf e)) (P.cellsOf e)=some cs∧RowP W y cs∧Reads P k e y:=fun i hi=>by
          obtain⟨z,_,hz⟩:=hget i i (by simp [hi])
          cases hcs:W.cells? base (a.add (i*P.cellsOf e)) (P.cellsOf e) with
          | none=>rw [hcs] at hz;simp at hz
          | some cs =>
           rw [hcs] at hz
           simp only [Option.bind_some] at hz
           obtain⟨zd,zp⟩:=z
           obtain⟨y,h1,h2⟩:=zbL k fuel e cs zd zp hp hz
           exact⟨y,cs,rfl,h1,h2⟩
         obtain⟨yss,hyl,hy⟩:=list_of' len hel
         have hspot:0 < len → a.spot=none:=fun hl=>by
          obtain⟨y,cs,hcs,_,_⟩:=hel 0 hl
          obtain⟨g1,g2⟩:=cells?_get hcs
          have:=g2 0 hc
          rw [List.getElem?_eq_getElem (by omega)] at this
          simp only [Nat.zero_mul] at this
          have hs:=zoo this
          simpa [Addr.add] using hs
         refine⟨[.sl false (P.cellsOf e) (yss.map (za7 (zJ P e)))],RowP.one ?_ rfl rfl,yss,by omega,fun y hym => ?_,rfl⟩
         · rcases Nat.eq_zero_or_pos len with h0 | h0
           · subst h0
             have:yss=[]:=List.length_eq_zero_iff.1 hyl
             subst this
             exact .emp _ _ _ _ (fun h=>by cases h) hcm
           · have hs:=hspot h0
             obtain⟨g,off,spot⟩:=a
             simp only at hs
             subst hs
             have:=zln (W:=W) (g:=g) (off:=off) (cap:=cap) (c:=P.cellsOf e) (b:=zJ P e) (yss:=yss) (e:=e) (k:=k) hc hb (by omega) hcm (fun i y hi=>by
              obtain⟨cs,h1,h2,h3⟩:=hy i y hi
              obtain⟨g1,g2⟩:=cells?_get h1
              refine⟨cs,by rw [h2.1,g1],fun j hj => ?_,h2⟩
              have:=g2 j hj
              rw [zr,zr,Nat.add_assoc] at this
              exact this)
             rwa [hyl] at this
         · obtain⟨i,hi⟩:=List.getElem?_of_mem hym
           obtain⟨cs,h1,h2,h3⟩:=hy i y hi
           obtain⟨g1,_⟩:=cells?_get h1
           exact⟨by rw [h2.1,g1],h3⟩
      · cases h
   case struct fs =>
    simp only [Bool.and_eq_true,beq_iff_eq] at hp
    replace h:(if cs.length=P.cellsOf t then (fs.toList.mapM fun f=>DataW.trod enc P W base sp held fuel f.type ((cs.drop f.offset).take (P.cellsOf f.type))).map fun xs=>(.agg (xs.map (·.1)),xs.flatMap (·.2)) else none)=some (d,ps):=h
    split at h
    · rename_i hl
      cases hm:(fs.toList.mapM fun f=>DataW.trod enc P W base sp held fuel f.type ((cs.drop f.offset).take (P.cellsOf f.type))) with
      | none=>rw [hm] at h;simp at h
      | some ys =>
       obtain⟨xs,h1,h2⟩:=zd8 hl (fun t cs d ps=>zbL k fuel t cs d ps) fs.toList 0 ys hp.1 hp.2 hm
       exact⟨xs,h1,h2⟩
    · cases h
   case array n e =>
    simp only [Bool.and_eq_true,beq_iff_eq] at hp
    replace h:(if cs.length=P.cellsOf t then ((List.range n).mapM fun i=>DataW.trod enc P W base sp held fuel e ((cs.drop (i*P.cellsOf e)).take (P.cellsOf e))).map fun xs=>(.agg (xs.map (·.1)),xs.flatMap (·.2)) else none)=some (d,ps):=h
    split at h
    · rename_i hl
      cases hm:(List.range n).mapM fun i=>DataW.trod enc P W base sp held fuel e ((cs.drop (i*P.cellsOf e)).take (P.cellsOf e)) with
      | none=>rw [hm] at h;simp at h
      | some ys =>
       obtain⟨_,hget⟩:=zdk hm
       have hel : ∀ i,i < n → ∃ y:List PV,RowP W y ((cs.drop (i*P.cellsOf e)).take (P.cellsOf e))∧Reads P k e y:=fun i hi=>by
        obtain⟨z,_,hz⟩:=hget i i (by simp [hi])
        obtain⟨zd,zp⟩:=z
        exact zbL k fuel e _ zd zp hp.1 hz
       obtain⟨yss,hyl,hy⟩:=list_of' n hel
       have hsub : ∀ i,i < n → i*P.cellsOf e+P.cellsOf e≤cs.length:=fun i hi=>by
        rw [hl,←hp.2]
        have:=Nat.mul_le_mul_right (P.cellsOf e) (show i+1≤n by omega)
        rw [Nat.add_mul] at this;omega
       have hlen : ∀ y∈yss,y.length=P.cellsOf e:=fun y hym=>by
        obtain⟨i,hi⟩:=List.getElem?_of_mem hym
        have hin:i < n:=by rw [←hyl];exact (List.getElem?_eq_some_iff.1 hi).1
        obtain⟨h1,_⟩:=hy i y hi
        rw [h1.1,List.length_take,List.length_drop]
        have:=hsub i hin
        omega
       refine⟨yss.flatten,⟨by rw [zci hlen,hyl,hl,hp.2],fun q x v hx hv => ?_⟩,yss,hyl,fun y hym=>⟨hlen y hym,?_⟩,rfl⟩
       · obtain⟨i,j,y,h1,h2,h3,h4,h5⟩:=za8 hlen hx
         obtain⟨g1,_⟩:=hy i y h4
         refine g1.2 j x v h5 ?_
         rw [List.getElem?_take_of_lt h2,List.getElem?_drop,←h3]
         exact hv
       · obtain⟨i,hi⟩:=List.getElem?_of_mem hym
         exact (hy i y hi).2
    · cases h

theorem zfi {t:TypeId} {v:Value} {d:DataW H} {ps:List MemPlace} (k:Nat) (hp:zaV P k t=true) (hval:Value.okWide P W .any base t v) (h:DataW.Trod enc P W 0 (fun _=>true) true t v d ps) :
 ∃ xs,Reads P k t xs∧RelV σ0 H0 W (.p (za7 (zJ P t) xs)) v:=by
 obtain⟨fuel,hf⟩:=h
 obtain⟨xs,h1,h2⟩:=zbL k fuel t _ d ps hp hf
 refine⟨xs,h2,.p ?_⟩
 cases hu:P.underlying t with
 | none=>cases k<;>simp [zaV,hu] at hp
 | some desc =>
  by_cases ha:zE desc=true
  · have hb:zJ P t=true:=by simp [zJ,hu,ha]
    rw [hb]
    have : ∃ cs,v = .agg cs:=by
     simp only [Value.okWide,hu] at hval
     cases desc<;>simp [zE] at ha
     all_goals obtain⟨cs,rfl,_⟩:=hval;exact⟨cs,rfl⟩
    obtain⟨cs,rfl⟩:=this
    have hcs:(Value.agg cs).cells.toList=cs.toList:=rfl
    rw [hcs] at h1
    show RelP W _ (.agg xs) _
    refine .agg xs cs (by rw [h1.1];simp) (fun i u hu => ?_) fun i x u hx hu=>(h1.2 i x u hx (by simpa using hu)).1
    have hi:i < xs.length:=by rw [h1.1];simpa using (Array.getElem?_eq_some_iff.1 hu).1
    exact (h1.2 i xs[i] u (List.getElem?_eq_getElem hi) (by simpa using hu)).2.1
  · have hb:zJ P t=false:=by simp only [zJ,hu];simpa using ha
    rw [hb]
    have hl:=zop h2 hb
    match xs,hl with
    | [x],_ =>
     have hcell:v.cells.toList=[v]:=by
      cases v with
      | agg cs =>
       exfalso
       simp only [Value.okWide,hu] at hval
       cases desc<;>simp [zE] at ha
       all_goals simp [Cell.okWide,Cell.ok,hu] at hval
       all_goals (cases k<;>simp [zaV,hu] at hp)
      | _=>rfl
     rw [hcell] at h1
     exact (h1.2 0 x v rfl rfl).1
end gen

/-! ### Typed readings -/
section typed
variable {P:Program} {k:Nat} {t e:TypeId} {xs:List PV}
theorem Reads.bo (hu:P.underlying t=some .bool) (h:Reads P (k+1) t xs) : ∃ b,xs=[AL.bo b]:=by simp only [Reads,hu] at h;exact h
theorem Reads.i64 (hu:P.underlying t=some (.int .i64)) (h:Reads P (k+1) t xs) : ∃ z:Int,-9223372036854775808≤z∧z≤9223372036854775807∧xs=[i64 z]:=by
 simp only [Reads,hu] at h
 obtain⟨n,hw,rfl⟩:=h
 simp only [Lit.wf,Bool.and_eq_true,decide_eq_true_eq] at hw
 have h1:IntKind.i64.min = -9223372036854775808:=by decide
 have h2:IntKind.i64.max=9223372036854775807:=by decide
 rw [h1,h2] at hw
 exact⟨n,hw.1,hw.2,rfl⟩
theorem wf_bits {κ:IntKind} {w:Nat} {n:Int} (h1:κ.min=0) (h2:κ.max=2 ^ w - 1) (h:(Lit.int κ n).wf=true):((BitVec.ofInt w n).toNat:Int)=n:=by
 simp only [Lit.wf,Bool.and_eq_true,decide_eq_true_eq] at h
 rw [h1,h2] at h
 rw [BitVec.toNat_ofInt]
 have hp:((2 ^ w:Nat):Int)=2 ^ w:=by simp
 have:n % (2 ^ w:Nat)=n:=Int.emod_eq_of_lt h.1 (by omega)
 rw [this]
 omega
theorem Reads.u8 (hu:P.underlying t=some (.int .u8)) (h:Reads P (k+1) t xs) : ∃ b:BitVec 8,xs=[b8 b]:=by
 simp only [Reads,hu] at h
 obtain⟨n,hw,rfl⟩:=h
 exact⟨BitVec.ofInt 8 n,by rw [b8,wf_bits (w:=8) (by decide) (by decide) hw]⟩
theorem Reads.u16 (hu:P.underlying t=some (.int .u16)) (h:Reads P (k+1) t xs) : ∃ b:BitVec 16,xs=[w16 b]:=by
 simp only [Reads,hu] at h
 obtain⟨n,hw,rfl⟩:=h
 exact⟨BitVec.ofInt 16 n,by rw [w16,wf_bits (w:=16) (by decide) (by decide) hw]⟩
theorem Reads.u32 (hu:P.underlying t=some (.int .u32)) (h:Reads P (k+1) t xs) : ∃ b:BitVec 32,xs=[zG b]:=by
 simp only [Reads,hu] at h
 obtain⟨n,hw,rfl⟩:=h
 exact⟨BitVec.ofInt 32 n,by rw [zG,wf_bits (w:=32) (by decide) (by decide) hw]⟩
theorem Reads.u64 (hu:P.underlying t=some (.int .u64)) (h:Reads P (k+1) t xs) : ∃ b:BitVec 64,xs=[yG b]:=by
 simp only [Reads,hu] at h
 obtain⟨n,hw,rfl⟩:=h
 exact⟨BitVec.ofInt 64 n,by rw [yG,wf_bits (w:=64) (by decide) (by decide) hw]⟩
theorem Reads.str (hu:P.underlying t=some .string) (h:Reads P (k+1) t xs) : ∃ s:ByteArray,s.size≤9223372036854775807∧xs=[str s]:=by
 simp only [Reads,hu] at h
 obtain⟨s,hs,rfl⟩:=h
 unfold maxLen at hs
 exact⟨s,by omega,rfl⟩

theorem zgv {α:Type} {enc:α → PV} {Q:α → Prop} {b:Bool} : ∀ {yss:List (List PV)},(∀ y∈yss,∃ a,za7 b y=enc a∧Q a) → ∃ l:List α,l.length=yss.length∧yss.map (za7 b)=pl enc l ∧ ∀ a∈l,Q a
 | [],_=>⟨[],rfl,rfl,by simp⟩
 | y :: yss,h=>by
  obtain⟨a,ha,hq⟩:=h y (by simp)
  obtain⟨l,h1,h2,h3⟩:=zgv (enc:=enc) (Q:=Q) (b:=b) (yss:=yss) fun y hy=>h y (by simp [hy])
  exact⟨a :: l,by simp [h1],by simp only [List.map_cons,pl,ha];rw [h2];rfl,fun x hx=>by rcases List.mem_cons.1 hx with rfl | hx;exact hq;exact h3 x hx⟩

theorem Reads.sl {α:Type} {c:Nat} {b:Bool} (enc:α → PV) (Q:α → Prop) (hu:P.underlying t=some (.slice e)) (hc:P.cellsOf e=c) (hb:zJ P e=b) (h:Reads P (k+1) t xs) (he : ∀ y,Reads P k e y → ∃ a,za7 b y=enc a∧Q a) :
 ∃ l:List α,l.length≤9223372036854775807∧xs=[.sl false c (pl enc l)] ∧ ∀ a∈l,Q a:=by
 simp only [Reads,hu,hc,hb] at h
 obtain⟨yss,hl,hy,rfl⟩:=h
 obtain⟨l,h1,h2,h3⟩:=zgv (enc:=enc) (Q:=Q) (b:=b) (yss:=yss) fun y hm=>he y (hy y hm).2
 unfold maxLen at hl
 exact⟨l,by omega,by rw [h2],h3⟩

theorem zgw {α:Type} {enc:α → PV} : ∀ {yss:List (List PV)},(∀ y∈yss,∃ a,y=[enc a]) → ∃ l:List α,l.length=yss.length∧yss.flatten=pl enc l
 | [],_=>⟨[],rfl,rfl⟩
 | y :: yss,h=>by
  obtain⟨a,rfl⟩:=h y (by simp)
  obtain⟨l,h1,h2⟩:=zgw (enc:=enc) (yss:=yss) fun y hy=>h y (by simp [hy])
  exact⟨a :: l,by simp [h1],by rw [List.flatten_cons,h2];rfl⟩

theorem Reads.struct {fs:Array Field} (hu:P.underlying t=some (.struct fs)) (h:Reads P (k+1) t xs):zht (Reads P k) P fs.toList xs:=by
 simp only [Reads,hu] at h;exact h

theorem Reads.arr {α:Type} {n:Nat} (enc:α → PV) (hu:P.underlying t=some (.array n e)) (h:Reads P (k+1) t xs) (he : ∀ y,Reads P k e y → ∃ a,y=[enc a]) :
 ∃ l:List α,l.length=n∧xs=pl enc l:=by
 simp only [Reads,hu] at h
 obtain⟨yss,hl,hy,rfl⟩:=h
 obtain⟨l,h1,h2⟩:=zgw (enc:=enc) (yss:=yss) fun y hm=>he y (hy y hm).2
 exact⟨l,by omega,h2⟩
end typed
end Go.AL

/-
  A region whose order is open and that makes rows of its own beside what it reads and calls: one run in the text's order serves every order.
  Conditions: none;nothing here speaks of one program.
-/
namespace Go.AL
open Go

/-! ### Reading operations see no new rows -/

def zc0:Op → Bool
 | .move _ | .assign _ | .load .. | .build .. | .nilCheck _ | .binOp .. | .unOp .. | .convert .. | .makeInterface .. | .makeFunc .. | .slice .. | .fieldAddr .. | .field .. | .indexAddr .. | .index .. | .extract .. | .pick .. | .buildSlice .. => true
 | .call c=>match c.callee with
  | .value _=>true
  | .builtin b=>match b with
   | .len | .min | .max=>true
   | _=>false
  | .invoke .. => false
 | _=>false

theorem app_f' {H:Hp} {T:List AB} {b:Nat} {x:AB} (h:H.f b=some x):(app H T).f b=some x:=by rw [zbT (Hp.lt h)];exact h

theorem new_ne {H:Hp} {x:AB}:H.new x≠H:=fun h=>by
 have:=congrArg Hp.n h
 rw [n_new'] at this
 omega

section mono
variable {P:Program} {G:Globs} {H:Hp} {T:List AB} {env:Env}

theorem zoq {t:TypeId} {a y:AV} (h:zax P H t a=some y):zax P (app H T) t a=some y:=by
 unfold zax at h ⊢
 cases hu:P.underlying t with
 | none=>simp [hu] at h
 | some d =>
  simp only [hu] at h ⊢
  cases a with
  | ptr b off =>
   simp only at h ⊢
   cases hb:H.f b with
   | none=>simp [hb] at h
   | some z=>rw [app_f' hb];rw [hb] at h;exact h
  | vp b k off =>
   simp only at h ⊢
   cases hb:H.f b with
   | none=>simp [hb] at h
   | some z=>rw [app_f' hb];rw [hb] at h;exact h
  | _=>exact h

theorem zlo {e:TypeId} {x:AV} {ys:List PV} (h:yu P H e x=some ys):yu P (app H T) e x=some ys:=by
 unfold yu at h ⊢
 cases x with
 | ref b off len sz =>
  simp only at h ⊢
  cases hb:H.f b with
  | none=>simp [hb] at h
  | some z=>rw [app_f' hb];rw [hb] at h;exact h
 | vr b len sz =>
  simp only at h ⊢
  cases hb:H.f b with
  | none=>simp [hb] at h
  | some z=>rw [app_f' hb];rw [hb] at h;exact h
 | p x =>
  cases x with
  | s v=>cases v<;>exact h
  | _=>exact h
 | _=>exact h

theorem zf3 {s d:TypeId} {x y:AV} (h:zab P H s d x=some y):zab P (app H T) s d x=some y:=by
 unfold zab at h ⊢
 cases hs:P.underlying s with
 | none=>simp [hs] at h
 | some a =>
  cases hd:P.underlying d with
  | none=>simp [hs,hd] at h
  | some b =>
   simp only [hs,hd] at h ⊢
   cases a with
   | slice e =>
    cases b with
    | string =>
     simp only at h ⊢
     cases he:P.underlying e with
     | none=>simp [he] at h
     | some c =>
      simp only [he] at h ⊢
      split at h
      · split at h
        · rename_i ys hys
          have:(if P.cellsOf e=1 then yu P (app H T) e x else none)=some ys:=by
           split at hys
           · rename_i hc;rw [if_pos hc];exact zlo hys
           · cases hys
          rw [this];exact h
        · cases h
      · cases h
    | _=>simp at h
   | _=>cases b<;>simp at h

theorem zor {s d:TypeId} {x y:AV} (h:yn P H s d x=some y):yn P (app H T) s d x=some y:=by
 unfold yn at h ⊢
 split at h
 · exact zf3 h
 · exact h
 · exact h

theorem zlp {fn:FuncId} {args:List AV} {x:AV} {H' H2:Hp} (h:zb9 P fn args H = .val x H'):zb9 P fn args H2 = .val x H2:=by
 unfold zb9 at h ⊢
 split at h
 · rename_i nm hn
   cases hx:zni nm args with
   | none=>simp [hx,vH] at h
   | some y=>simp [hx,vH] at h ⊢;exact h.1
 · cases h
theorem zjh {fn f:FuncId} {args as:List AV}:zb9 P fn args H ≠ .call f as:=by
 unfold zb9
 split
 · rename_i nm hn
   cases zni nm args<;>simp [vH]
 · simp

theorem zji {op:Op} {ty:TypeId} {x:AV} (hr:zc0 op=true) (h:zc P G op ty env H = .val x H):zc P G op ty env (app H T) = .val x (app H T):=by
 have vh : ∀ {y:Option AV},vH y H = .val x H → y=some x:=by
  intro y hy
  cases y with
  | none=>cases hy
  | some z=>cases hy;rfl
 cases op<;>simp only [zc0,Bool.false_eq_true] at hr<;>simp only [zc] at h ⊢
 case move a=>cases h;rfl
 case assign a=>cases h;rfl
 case build t ps=>rw [vh h];rfl
 case buildSlice t n ps =>
  unfold yN at h ⊢
  split at h
  · split at h
    · rename_i hc
      rw [if_pos hc]
      split at h
      · split at h
        · rename_i hall
          rw [if_pos hall]
          simp only [vHH] at h ⊢
          cases h;rfl
        · cases h
      · split at h
        · split at h
          · simp only [vHH] at h
            injection h with h1 h2
            exact absurd h2 new_ne
          · cases h
        · cases h
    · cases h
  · cases h
 case load t a=>rw [zoq (vh h)];rfl
 case nilCheck a=>rw [vh h];rfl
 case binOp o t a b t'=>rw [vh h];rfl
 case unOp o t a=>rw [vh h];rfl
 case convert s d a=>rw [zor (vh h)];rfl
 case makeInterface t a =>
  split at h
  · split at h
    · cases h
    · rename_i hi;rw [if_neg hi];cases h;rfl
  · cases h
 case makeFunc f a c =>
  split at h
  · cases h;rfl
  · cases h
 case slice t a lo hi mx=>rw [vh h];rfl
 case fieldAddr s a f=>rw [vh h];rfl
 case field s a f=>rw [vh h];rfl
 case indexAddr t a i=>rw [vh h];rfl
 case index t a i=>rw [vh h];rfl
 case extract t i =>
  split at h
  · rw [vh h];rfl
  · cases h
 case pick c a b =>
  split at h
  · cases h;rfl
  · cases h
 case call c =>
  obtain⟨callee,args,ts⟩:=c
  cases callee with
  | value f =>
   simp only [yU] at h ⊢
   split at h
   · split at h
     · cases h
     · rename_i he;simp only [he,Bool.false_eq_true,if_false];exact zlp h
   · cases h
   · cases h
  | builtin b =>
   simp only [zx] at h ⊢
   split at h
   · rw [vh h];rfl
   · simp only at hr
     cases hr
   · simp only at hr
     cases hr
   · rw [vh h];rfl
   · rw [vh h];rfl
   · cases h
  | invoke a b=>cases h

theorem zp5 {op:Op} {ty:TypeId} {f:FuncId} {args:List AV} (h:zc P G op ty env H = .call f args):zc P G op ty env (app H T) = .call f args:=by
 have nv : ∀ {y:Option AV},vH y H ≠ .call f args:=by intro y;cases y<;>simp [vH]
 have nvv : ∀ {y:Option (AV × Hp)},vHH y ≠ .call f args:=by intro y;cases y<;>simp [vHH]
 have nu : ∀ {y:Option Hp},uH y ≠ .call f args:=by intro y;cases y<;>simp [uH]
 cases op<;>simp only [zc] at h ⊢
 case call c =>
  obtain⟨callee,args',ts⟩:=c
  cases callee with
  | value g =>
   simp only [yU] at h ⊢
   split at h
   · split at h
     · rename_i he;simp only [he,if_true];exact h
     · exact absurd h zjh
   · cases h
   · cases h
  | builtin b =>
   simp only [zx] at h
   split at h<;>first | exact absurd h nv | exact absurd h nvv | cases h
  | invoke a b=>cases h
 all_goals first
  | exact absurd h nv
  | exact absurd h nvv
  | exact absurd h nu
  | cases h
  | (split at h<;>first | cases h | (split at h<;>cases h) | exact absurd h nv | exact absurd h nvv)
end mono


/-! ### New names under other numbers -/

structure Perm (k:Nat) (π:Nat → Nat) (σ:Gh) (H1:Hp) (σ':Gh) (H2:Hp):Prop where
 n:H2.n=H1.n
 le:k≤H1.n
 f : ∀ b,H2.f b=H1.f (π b)
 c : ∀ b,σ'.c b=σ.c (π b)
 t : ∀ b,σ'.t b=σ.t (π b)
 inj : ∀ b b',π b=π b' → b=b'
 low : ∀ b,b < k → π b=b
 high : ∀ b,k≤b → k≤π b
 new : ∀ b x,k≤b → H1.f b=some x → ∀ y∈x.vals,BelowN k y

section perm
variable {k:Nat} {π:Nat → Nat} {σ σ':Gh} {H1 H2:Hp} {w:World} {G:Globs}

theorem Perm.stable (h:Perm k π σ H1 σ' H2) {g o:Nat} (hs:Stable σ H1 g o):Stable σ' H2 g o :=
 ⟨fun b cs hb=>by rw [h.c];exact hs.1 _ cs (by rw [←h.f];exact hb),fun b v d o' s hb ht=>hs.2 (π b) v d o' s (by rw [←h.f];exact hb) (by rw [←h.t];exact ht)⟩

theorem Perm.free (h:Perm k π σ H1 σ' H2) {g:Nat} (hs:Free σ H1 g):Free σ' H2 g :=
 ⟨fun b cs hb=>by rw [h.c];exact hs.1 _ cs (by rw [←h.f];exact hb),fun b v d o' s hb ht=>hs.2 (π b) v d o' s (by rw [←h.f];exact hb) (by rw [←h.t];exact ht),fun b vs S hb=>by rw [h.c];exact hs.3 _ vs S (by rw [←h.f];exact hb)⟩

theorem Perm.relV (h:Perm k π σ H1 σ' H2) {x:AV} {v:Value} (r:RelV σ H1 w x v):BelowN k x → RelV σ' H2 w x v:=by
 have hp : ∀ {x:PV} {v:Value},RelP w (Stable σ H1) x v → RelP w (Stable σ' H2) x v:=fun q=>q.mono fun g o v h1 h2=>⟨h.stable h1,h2⟩
 have hc : ∀ b,b < k → σ'.c b=σ.c b:=fun b hb=>by rw [h.c,h.low b hb]
 induction r with
 | p q=>exact fun _ => .p (hp q)
 | sl q ht =>
  intro hb
  cases hb with | sl _ _ _ _ hb =>
  refine .sl (hp q) ⟨by rw [h.n];exact ht.1,fun k0 d hk0 => ?_⟩
  rw [h.f,h.low _ hb] at hk0
  rw [h.t,h.low _ hb]
  exact ht.2 k0 d hk0
 | ref a h0 hb1 hcap ha=>intro hb;cases hb with | ref _ _ _ _ hb=>exact .ref a h0 (by rw [h.n];exact hb1) hcap (fun hl=>by rw [hc _ hb];exact ha hl)
 | ptr hb1=>intro hb;cases hb with | ptr _ _ hb=>rw [←hc _ hb];exact .ptr (by rw [h.n];exact hb1)
 | ip q hi hs=>exact fun _ => .ip (hp q) hi hs
 | clo fs cs hf hc' _ _ ih1 ih2=>intro hb;cases hb with | clo _ _ _ h1 h2=>exact .clo fs cs hf hc' (fun i x v a b=>ih1 i x v a b (h1 i x a)) (fun i x v a b=>ih2 i x v a b (h2 i x a))
 | tup vs hl _ ih=>intro hb;cases hb with | tup _ h'=>exact .tup vs hl (fun i x v a b=>ih i x v a b (h' i x a))
 | agg vs hl h1 _ ih=>intro hb;cases hb with | agg _ h'=>exact .agg vs hl h1 (fun i x v a b=>ih i x v a b (h' i x a))
 | yld hb1=>intro hb;cases hb with | yld _ hb=>rw [←hc _ hb];exact .yld (by rw [h.n];exact hb1)
 | mp hb1=>intro hb;cases hb with | mp _ hb=>rw [←hc _ hb];exact .mp (by rw [h.n];exact hb1)
 | vr q =>
  intro hb
  cases hb with | vr _ _ _ hb =>
  obtain⟨q1,a,cap,rfl,qs,q2⟩:=q
  refine .vr ⟨by rw [h.n];exact q1,a,cap,rfl,qs,fun k0 d hk0 => ?_⟩
  rw [h.f,h.low _ hb] at hk0
  rw [h.t,h.low _ hb]
  exact q2 k0 d hk0
 | vp a q =>
  intro hb
  cases hb with | vp _ _ _ hb =>
  refine .vp a ⟨by rw [h.n];exact q.1,fun k0 d hk0 => ?_⟩
  rw [h.f,h.low _ hb] at hk0
  rw [h.t,h.low _ hb]
  exact q.2 k0 d hk0
 | top v=>exact fun _ => .top v

theorem Perm.ev (h:Perm k π σ H1 σ' H2):Ev k σ H1 w σ' H2 w :=
 ⟨fun g o v h1 h2=>⟨h.stable h1,h2⟩,fun b hb=>by rw [h.c,h.low b hb],by rw [h.n];exact h.le,fun b hb k' d hk'=>⟨k',d,by rw [h.f,h.low b hb] at hk';exact hk',Nat.le_refl _,fun _=>by rw [h.t,h.low b hb]⟩,Nat.le_refl _,fun g _ hg=>⟨rfl,h.free hg⟩,rfl,rfl⟩

theorem Perm.rel (h:Perm k π σ H1 σ' H2) (hb:Bel k H1) (hr:Rel G σ H1 w):Rel G σ' H2 w:=by
 have hval : ∀ b x y,H1.f b=some x → y∈x.vals → BelowN k y:=fun b x y hf hy=>by
  by_cases hlt:b < k
  · exact hb b x hlt hf y hy
  · exact h.new b x (by omega) hf y hy
 refine⟨fun b cs hf => ?_,fun b j d g o s hf ht => ?_,fun b k cs hf => ?_,fun b b' cs cs' hf hf' he => ?_,fun b b' cs j d g o s hf hf' ht => ?_,fun b b' j d j' d' g o s o' s' hf hf' ht ht' => ?_,fun g sz xs hg=>h.relV (hr.glob g sz xs hg) (.ip _ _ _ _),fun b vs S hf => ?_,fun b b' vs vs' S S' hf hf' he => ?_,fun r m hm=>(hr.gm r m hm).of rfl (h.free (hr.gm r m hm).2.1) fun x v hx q=>h.relV q (hx _)⟩
 · rw [h.f] at hf
   obtain⟨c,e,q1,q2,q3⟩:=hr.cells _ cs hf
   exact⟨c,e,by rw [h.c];exact q1,q2,fun i x hx=>let ⟨v,a,b'⟩:=q3 i x hx;⟨v,a,h.relV b'.1 (hval _ _ x hf (List.mem_of_getElem? hx)),b'.2⟩⟩
 · rw [h.f] at hf;rw [h.t] at ht;exact hr.tail _ j d g o s hf ht
 · rw [h.f] at hf
   rw [h.t]
   obtain⟨q0,q1,q2⟩:=hr.vec _ k cs hf
   refine⟨q0,q1,fun g o s hg => ?_⟩
   obtain⟨p0,p1,p2⟩:=q2 g o s hg
   exact⟨p0,p1,fun i x hx=>let ⟨v,a,b'⟩:=p2 i x hx;⟨v,a,h.relV b'.1 (hval _ _ x hf (List.mem_of_getElem? hx)),b'.2⟩⟩
 · rw [h.f] at hf hf';rw [h.c,h.c] at he;exact h.inj _ _ (hr.cc _ _ cs cs' hf hf' he)
 · rw [h.f] at hf hf';rw [h.t] at ht;rw [h.c];exact hr.ct _ _ cs j d g o s hf hf' ht
 · rw [h.f] at hf hf';rw [h.t] at ht ht';exact h.inj _ _ (hr.tt _ _ j d j' d' g o s o' s' hf hf' ht ht')
 · rw [h.f] at hf
   obtain⟨o,us,q1,q2,q3,q4⟩:=hr.objs _ vs S hf
   exact⟨o,us,by rw [h.c];exact q1,q2,⟨q3.1,fun i x v a b'=>h.relV (q3.2 i x v a b') (hval _ _ x hf (List.mem_of_getElem? a))⟩,q4⟩
 · rw [h.f] at hf hf';rw [h.c,h.c] at he;exact h.inj _ _ (hr.oo _ _ vs vs' S S' hf hf' he)
end perm

theorem zcj {H:Hp} : ∀ {T:List AB} {i:Nat},(app H T).f (H.n+i)=T[i]?
 | [],i=>by simp only [zex,List.getElem?_nil];exact H.wf _ (by omega)
 | y :: T,0=>by rw [z7,zbT (by rw [n_new'];omega),ziN (by omega)];rfl
 | y :: T,i+1=>by
  have:=zcj (H:=H.new y) (T:=T) (i:=i)
  rw [n_new'] at this
  rw [z7,List.getElem?_cons_succ,←this]
  congr 1
  omega

def yL (k p:Nat) (E:List Nat) (b:Nat):Nat:=if k≤b∧b < k+E.length then k+E.idxOf (p+(b - k)) else b

theorem zms {H:Hp} {σ:Gh} {p:Nat} {E:List Nat} {T T':List AB} (hE:E.Nodup) (hm : ∀ i,i∈E ↔ p≤i∧i < p+E.length) (hT:T.length=E.length) (hT':T'.length=E.length)
 (hz : ∀ i,i < E.length → T'[i]? = T[E.idxOf (p+i)]?) (hc : ∀ x∈T,∀ y∈x.vals,BelowN H.n y) :
 Perm H.n (yL H.n p E) σ (app H T) ⟨fun b=>σ.c (yL H.n p E b),fun b=>σ.t (yL H.n p E b)⟩ (app H T'):=by
 have hidx : ∀ i,i < E.length → E.idxOf (p+i) < E.length:=fun i hi=>List.idxOf_lt_length_iff.2 ((hm _).2 ⟨by omega,by omega⟩)
 refine⟨by rw [app_n',app_n',hT,hT'],by rw [app_n'];omega,fun b => ?_,fun _=>rfl,fun _=>rfl,fun b b' h => ?_,fun b hb => ?_,fun b hb => ?_,fun b x hb hf => ?_⟩
 · unfold yL
   split
   · rename_i h
     rw [show b=H.n+(b - H.n) by omega,zcj,Nat.add_sub_cancel_left,zcj]
     exact hz _ (by omega)
   · rename_i h
     rcases Nat.lt_or_ge b H.n with h1 | h1
     · rw [zbT h1,zbT h1]
     · rw [show b=H.n+(b - H.n) by omega,zcj,zcj,List.getElem?_eq_none (by omega),List.getElem?_eq_none (by omega)]
 · unfold yL at h
   split at h<;>split at h
   · rename_i h1 h2
     have e:E.idxOf (p+(b - H.n))=E.idxOf (p+(b' - H.n)):=by omega
     have a1:=List.getElem_idxOf (hidx (b - H.n) (by omega))
     have a2:=List.getElem_idxOf (hidx (b' - H.n) (by omega))
     have:p+(b - H.n)=p+(b' - H.n):=by rw [←a1,←a2];congr 1
     omega
   · rename_i h1 h2;have:=hidx (b - H.n) (by omega);omega
   · rename_i h1 h2;have:=hidx (b' - H.n) (by omega);omega
   · exact h
 · unfold yL;rw [if_neg (by omega)]
 · unfold yL;split<;>omega
 · rw [show b=H.n+(b - H.n) by omega,zcj] at hf
   exact hc x (List.mem_of_getElem? hf)


/-! ### The quiet operations, each with a result that does not depend on the order -/
section quiet
variable {C:Cx} {ops:Array Oper}

def OpOK (C:Cx) (ops:Array Oper) (o:Oper) (env:Env) (H:Hp) (x:AV):Prop :=
 zn C.nt o.dst=true∧BelowN H.n x∧((zk C.nt ops o.guard env=some true ∧ ∀ T,aOp1 C o env (app H T) fun x' H'=>x'=x∧H'=app H T) ∨ (zk C.nt ops o.guard env=some false∧x = .tup []))

theorem zf4 {o:Oper} {env env':Env} (h : ∀ s∈o.looksAt ops,env s=env' s):zk C.nt ops o.guard env=zk C.nt ops o.guard env':=by
 unfold zk
 split
 · rfl
 · rename_i j want hg
   cases hd:(ops[j]?).bind (·.dst) with
   | none=>rfl
   | some t=>simp only [h t (by simp [Oper.looksAt,hg,hd])]

theorem OpOK.congr {o:Oper} {env env':Env} {H:Hp} {x:AV} (h : ∀ s∈o.looksAt ops,env s=env' s) (ho:OpOK C ops o env H x):OpOK C ops o env' H x:=by
 obtain⟨h1,h2,h3⟩:=ho
 refine⟨h1,h2,?_⟩
 rw [←zf4 h]
 rcases h3 with ⟨h3,h4⟩ | h3
 · refine .inl ⟨h3,fun T => ?_⟩
   have:=h4 T
   unfold aOp1 at this ⊢
   rwa [←zbI (env:=env) (env':=env') fun y hy t ht=>h t (by
    subst ht
    exact List.mem_append_left _ (List.mem_filterMap.2 ⟨.tmp t,by simpa using hy,rfl⟩))]
 · exact .inr h3

def ztA (C:Cx) (f:FuncId) (args:List AV) (H:Hp) (K:AV → Prop):Prop :=
 ∃ x,(∀ T,ACall C.P C.G f args (app H T) fun x' H'=>x'=x∧H'=app H T)∧BelowN H.n x∧K x

def zp6 (C:Cx) (r:SRes) (rd:Bool) (dst:Option Nat) (H:Hp) (K:AV → Prop):Prop :=
 match r with
 | .val x H'=>zn C.nt dst=true∧rd=true∧H'=H∧BelowN H.n x∧K x
 | .call f args=>zn C.nt dst=true∧ztA C f (zz C.raw f args) H K
 | _=>False

def zlq (C:Cx) (ops:Array Oper):List Oper → Env → Hp → (Env → Prop) → Prop
 | [],env,_,K=>K env
 | o :: rest,env,H,K =>
  match zk C.nt ops o.guard env with
  | some true=>zp6 C (zc C.P C.G o.op o.type env H) (zc0 o.op) o.dst H fun x=>zlq C ops rest (env.put o.dst x) H K
  | some false=>zn C.nt o.dst=true∧zlq C ops rest (env.put o.dst (.tup [])) H K
  | none=>False

def zaE:List Oper → List AV → Env → Env
 | o :: l,x :: xs,env=>zaE l xs (env.put o.dst x)
 | _,_,env=>env

theorem zdJ : ∀ {l:List Oper} {env:Env} {H:Hp} {K:Env → Prop},zlq C ops l env H K → ∃ X:List AV,X.length=l.length∧K (zaE l X env) ∧ ∀ (i:Nat) o x,l[i]? = some o → X[i]? = some x → OpOK C ops o (zaE (l.take i) (X.take i) env) H x
 | [],env,H,K,h=>⟨[],rfl,h,fun i o x h1=>by simp at h1⟩
 | o :: l,env,H,K,h=>by
  have key : ∀ x,OpOK C ops o env H x → zlq C ops l (env.put o.dst x) H K → ∃ X:List AV,X.length=(o :: l).length∧K (zaE (o :: l) X env) ∧ ∀ (i:Nat) o' x,(o :: l)[i]? = some o' → X[i]? = some x → OpOK C ops o' (zaE ((o :: l).take i) (X.take i) env) H x:=by
   intro x hx hr
   obtain⟨X,h1,h2,h3⟩:=zdJ hr
   refine⟨x :: X,by simp [h1],h2,fun i o' y ho' hy => ?_⟩
   cases i with
   | zero=>simp at ho' hy;subst ho';subst hy;exact hx
   | succ i=>simp only [List.getElem?_cons_succ] at ho' hy;exact h3 i o' y ho' hy
  unfold zlq at h
  split at h
  · rename_i hw
    unfold zp6 at h
    split at h
    · rename_i x H' hs
      obtain⟨h1,h2,rfl,h4,h5⟩:=h
      refine key x ⟨h1,h4,.inl ⟨hw,fun T => ?_⟩⟩ h5
      unfold aOp1
      rw [zji h2 hs]
      exact⟨h1,rfl,rfl⟩
    · rename_i f args hs
      obtain⟨h1,x,h2,h3,h4⟩:=h
      refine key x ⟨h1,h3,.inl ⟨hw,fun T => ?_⟩⟩ h4
      unfold aOp1
      rw [zp5 hs]
      exact⟨h1,h2 T⟩
    · exact h.elim
  · rename_i hw
    exact key (.tup []) ⟨h.1,.tup _ (by simp),.inr ⟨hw,rfl⟩⟩ h.2
  · exact h.elim
end quiet

/-! ### What has run, and what the slots then hold -/

def zl (ops:Array Oper) (i:Nat):Option Nat:=(ops[i]?).bind (·.dst)

def after (ops:Array Oper) (env:Env):List (Nat × AV) → Env
 | []=>env
 | (i,x) :: r=>(after ops env r).put (zl ops i) x

theorem zaJ {ops:Array Oper} {env:Env} {s:Nat} : ∀ {tr:List (Nat × AV)} {i:Nat} {x:AV},(i,x)∈tr → zl ops i=some s → (∀ j y,(j,y)∈tr → zl ops j=some s → j=i) → (tr.map (·.1)).Nodup → after ops env tr s=x
 | [],i,x,h,_,_,_=>by cases h
 | (j,y) :: r,i,x,h,hd,hu,hn=>by
  simp only [List.map_cons,List.nodup_cons] at hn
  simp only [after]
  rcases List.mem_cons.1 h with h | h
  · cases h
    rw [hd];simp [Env.put]
  · have hne:zl ops j≠some s:=fun e=>by
     have:=hu j y (by simp) e
     subst this
     exact hn.1 (List.mem_map.2 ⟨_,h,rfl⟩)
    rw [zcU fun t ht e=>hne (by rw [ht,e])]
    exact zaJ h hd (fun j' y' h'=>hu j' y' (by simp [h'])) hn.2

theorem zaW {ops:Array Oper} {env:Env} {s:Nat} : ∀ {tr:List (Nat × AV)},(∀ j y,(j,y)∈tr → zl ops j≠some s) → after ops env tr s=env s
 | [],_=>rfl
 | (j,y) :: r,h=>by
  simp only [after]
  rw [zcU fun t ht e=>h j y (by simp) (by rw [ht,e])]
  exact zaW fun j' y' h'=>h j' y' (by simp [h'])

theorem zaK {s:Nat} : ∀ {l:List Oper} {X:List AV} {env:Env},(∀ (j:Nat) o,l[j]? = some o → o.dst≠some s) → zaE l X env s=env s
 | [],_,_,_=>rfl
 | o :: l,[],_,_=>rfl
 | o :: l,x :: X,env,h=>by
  simp only [zaE]
  rw [zaK fun j o' ho=>h (j+1) o' (by simpa using ho)]
  exact zcU fun t ht e=>h 0 o rfl (by rw [ht,e])

theorem zan {s:Nat} : ∀ {l:List Oper} {X:List AV} {env:Env} {j:Nat} {o:Oper} {x:AV},l[j]? = some o → X[j]? = some x → o.dst=some s → (∀ (j':Nat) o',l[j']? = some o' → o'.dst=some s → j'=j) → zaE l X env s=x
 | [],_,_,_,_,_,h,_,_,_=>by simp at h
 | o :: l,[],_,_,_,_,_,h,_,_=>by simp at h
 | o :: l,y :: X,env,0,o',x,h1,h2,hd,hu=>by
  simp at h1 h2
  subst h1;subst h2
  simp only [zaE]
  rw [zaK fun j o' ho hd'=>by have:=hu (j+1) o' (by simpa using ho) hd';omega]
  rw [hd];simp [Env.put]
 | o :: l,y :: X,env,j+1,o',x,h1,h2,hd,hu=>by
  simp only [zaE]
  exact zan (by simpa using h1) (by simpa using h2) hd fun j' o'' ho hd'=>by have:=hu (j'+1) o'' (by simpa using ho) hd';omega

/-! ### The check on a region: p1 quiet operations, then allocations up to p, then the rest -/

def waitsFor (o:Oper) (j:Nat):Bool:=o.after.any fun e=>Region.binds .any e && e.on == j

def zdl (o:Oper):List Nat:=(o.after.toList.filter fun e=>Region.binds .any e).map (·.on)
def zaL (ops:Array Oper):Nat → List Nat → List Nat
 | 0,s=>s
 | k+1,s=>zaL ops k (if s.contains k then (match ops[k]? with | some o=>s++(zdl o).filter (fun j => !s.contains j) | none=>s) else s)

theorem zbh {ops:Array Oper} {S:Nat → Prop} (hS : ∀ (k:Nat) o,ops[k]? = some o → S k → ∀ e∈o.after,Region.binds .any e=true → S e.on) : ∀ (n:Nat) (s:List Nat),(∀ j∈s,S j) → ∀ j∈zaL ops n s,S j
 | 0,s,h=>h
 | k+1,s,h=>zbh hS k _ fun j hj=>by
  split at hj
  · rename_i hk
    split at hj
    · rename_i o ho
      rcases List.mem_append.1 hj with hj | hj
      · exact h j hj
      · obtain⟨e,he,rfl⟩:=List.mem_map.1 (List.mem_filter.1 hj).1
        obtain⟨h1,h2⟩:=List.mem_filter.1 he
        exact hS k o ho (h k (by simpa using hk)) e (Array.mem_toList_iff.1 h1) h2
    · exact h j hj
  · exact h j hj

def okE (ops:Array Oper) (p1 p:Nat):Bool :=
 p1≤p && p≤ops.size && (List.range ops.size).all fun i=>match ops[i]? with
  | none=>false
  | some o =>
   if i < p then
    (List.range p).all (fun j=>j == i || (zl ops j).isNone || zl ops j != o.dst) &&
    o.after.all (fun e => !Region.binds .any e || decide (e.on < i)) &&
    (if i < p1 then
     (List.range p).all (fun j=>match zl ops j with
      | some s => !(o.looksAt ops).contains s || (decide (j < i) && decide (j < p1) && waitsFor o j)
      | none=>true)
    else (match o.op with | .alloc _=>true | _=>false) && o.guard.isNone && o.dst.isSome)
   else (List.range p).all fun j=>(zaL ops p ((zdl o).filter fun j=>decide (j < p))).contains j

structure OkE (ops:Array Oper) (p1 p:Nat):Prop where
 le:p1≤p
 size:p≤ops.size
 dst : ∀ i o j s,ops[i]? = some o → i < p → j < p → o.dst=some s → zl ops j=some s → j=i
 back : ∀ (i:Nat) o,ops[i]? = some o → i < p → ∀ e∈o.after,Region.binds .any e=true → e.on < i
 quiet : ∀ (i:Nat) o,ops[i]? = some o → i < p1 → ∀ s∈o.looksAt ops,∀ j,j < p → zl ops j=some s → j < i∧j < p1∧waitsFor o j=true
 alloc : ∀ (i:Nat) o,ops[i]? = some o → p1≤i → i < p → (∃ t,o.op = .alloc t)∧o.guard=none ∧ ∃ s,o.dst=some s
 late : ∀ (i:Nat) o,ops[i]? = some o → p≤i → ∀ j,j < p → j∈zaL ops p ((zdl o).filter fun j=>decide (j < p))

theorem zp7 {ops:Array Oper} {p1 p:Nat} (h:okE ops p1 p=true):OkE ops p1 p:=by
 simp only [okE,Bool.and_eq_true,decide_eq_true_eq,List.all_eq_true,List.mem_range] at h
 obtain⟨⟨h1,h2⟩,h3⟩:=h
 have lt : ∀ {i:Nat} {o:Oper},ops[i]? = some o → i < ops.size:=fun h=>(Array.getElem?_eq_some_iff.1 h).1
 refine⟨h1,h2,fun i o j s hi hip hj hd hdj => ?_,fun i o hi hip e he hb => ?_,fun i o hi hip s hs j hj hdj => ?_,fun i o hi hp1 hip => ?_,fun i o hi hip j hj => ?_⟩
 · have:=h3 i (lt hi)
   simp only [hi,if_pos hip,Bool.and_eq_true,List.all_eq_true,List.mem_range] at this
   have:=this.1.1 j hj
   simpa [hdj,hd] using this
 · have:=h3 i (lt hi)
   simp only [hi,if_pos hip,Bool.and_eq_true,Array.all_eq_true'] at this
   have:=this.1.2 e he
   simpa [hb] using this
 · have:=h3 i (lt hi)
   simp only [hi,if_pos (show i < p by omega),if_pos hip,Bool.and_eq_true,List.all_eq_true,List.mem_range] at this
   have:=this.2 j hj
   simp only [hdj,Bool.or_eq_true,Bool.not_eq_true',Bool.and_eq_true,decide_eq_true_eq] at this
   rcases this with h | h
   · rw [List.contains_eq_mem,decide_eq_false_iff_not] at h;exact absurd hs h
   · exact⟨h.1.1,h.1.2,h.2⟩
 · have:=h3 i (lt hi)
   simp only [hi,if_pos hip,if_neg (show ¬i < p1 by omega),Bool.and_eq_true,Option.isNone_iff_eq_none,Option.isSome_iff_exists] at this
   obtain⟨_,⟨h4,h5⟩,h6⟩:=this
   refine⟨?_,h5,h6⟩
   split at h4
   · rename_i t ht;exact⟨t,ht⟩
   · cases h4
 · have:=h3 i (lt hi)
   simp only [hi,if_neg (show ¬i < p by omega),List.all_eq_true,List.mem_range] at this
   simpa using this j hj

theorem zau {o:Oper} {j:Nat} {listed:Array Bool} (h:waitsFor o j=true) (hall : ∀ e∈o.after,Region.binds .any e=true → listed.getD e.on false=true):listed.getD j false=true:=by
 obtain⟨e,he,hb⟩:=Array.any_eq_true'.1 h
 simp only [Bool.and_eq_true,beq_iff_eq] at hb
 rw [←hb.2]
 exact hall e he hb.1


structure Inv1 (C:Cx) (l:List Oper) (p1 p:Nat) (X:List AV) (zs:Nat → List PV) (yH:Env) (H:Hp) (σs:Gh) (ws:World) (m:Nat)
 (tr:List (Nat × AV)) (rem E:List Nat) (T:List AB) (listed:Array Bool) (σ:Gh) (w:World) (a:Act):Prop where
 nd:(tr.map (·.1)).Nodup
 rnd:rem.Nodup
 rem : ∀ i,i∈rem ↔ i < p∧i ∉ tr.map (·.1)
 lt : ∀ i,i∈tr.map (·.1) → i < p
 q : ∀ i x,(i,x)∈tr → i < p1 → X[i]? = some x
 al : ∀ i x,(i,x)∈tr → p1≤i → ∃ k:Nat,E[k]? = some i∧x = .ptr (H.n+k) 0
 end_:E.Nodup
 eiff : ∀ i,i∈E ↔ p1≤i∧i∈tr.map (·.1)
 t:T=E.map fun i => .cells ((zs i).map .p)
 cl : ∀ (k:Nat) o,l.toArray[k]? = some o → k∈tr.map (·.1) → ∀ e∈o.after,Region.binds .any e=true → e.on∈tr.map (·.1)
 lsz:listed.size=l.length
 lget : ∀ i,i < l.length → listed.getD i true=decide (i∈tr.map (·.1))
 rel:Rel C.G σ (app H T) w
 fr:RelF C.nt m σ (app H T) w (after l.toArray yH tr) a
 ev:Ev H.n σs H ws σ (app H T) w

section phase
variable {C:Cx} {l:List Oper} {p1 p:Nat} {X:List AV} {zs:Nat → List PV} {yH:Env} {H:Hp} {σs:Gh} {ws:World} {m:Nat} {ro:Option Nat} {R1:Exit → Act → World → Prop}

theorem getD_lt {listed:Array Bool} {i:Nat} (h:i < listed.size) (d d':Bool):listed.getD i d=listed.getD i d':=by
 simp [Array.getD_eq_getD_getElem?,h]

theorem zt1 (hok:OkE l.toArray p1 p) (hop : ∀ (i:Nat) o x,i < p1 → l[i]? = some o → X[i]? = some x → OpOK C l.toArray o (zaE (l.take i) (X.take i) yH) H x) (hX:X.length=p1)
 (haz : ∀ (i:Nat) o t,p1≤i → i < p → l[i]? = some o → o.op = .alloc t → zB C.P t=some (zs i)∧zn C.nt o.dst=true)
 (hfin : ∀ tr E T listed σ w a,Inv1 C l p1 p X zs yH H σs ws m tr [] E T listed σ w a → wpAnyIn { Fence.wide with round:=ro } 0 C.P .any l.toArray R1 (l.length - p) listed a w) :
 ∀ r tr rem E T listed σ w a,rem.length=r → Inv1 C l p1 p X zs yH H σs ws m tr rem E T listed σ w a → wpAnyIn { Fence.wide with round:=ro } 0 C.P .any l.toArray R1 (r+(l.length - p)) listed a w:=by
 intro r
 induction r with
 | zero =>
  intro tr rem E T listed σ w a hr I
  have:rem=[]:=List.eq_nil_of_length_eq_zero hr
  subst this
  rw [Nat.zero_add]
  exact hfin tr E T listed σ w a I
 | succ r ih =>
  intro tr rem E T listed σ w a hr I
  have hpl:p≤l.length:=by simpa using hok.size
  have hunl : ∀ i,i < l.length → (listed.getD i true=false ↔ i ∉ tr.map (·.1)):=fun i hi=>by rw [I.lget i hi];simp
  have hlis : ∀ i,i < l.length → listed.getD i false=true → i∈tr.map (·.1):=fun i hi h=>by
   rw [getD_lt (by rw [I.lsz];exact hi) false true,I.lget i hi] at h
   simpa using h
  have hlis' : ∀ i,i < l.length → i∈tr.map (·.1) → listed.getD i false=true:=fun i hi h=>by
   rw [getD_lt (by rw [I.lsz];exact hi) false true,I.lget i hi]
   simpa using h
  have hne:rem≠[]:=fun h=>by rw [h] at hr;cases hr
  have hsome : ¬∀ i,i < p → i∈tr.map (·.1):=fun h=>by
   obtain⟨i,hi⟩:=List.exists_mem_of_ne_nil rem hne
   exact ((I.rem i).1 hi).2 (h i ((I.rem i).1 hi).1)
  rw [show r+1+(l.length - p)=(r+(l.length - p))+1 by omega]
  refine⟨fun h0 => ?_,fun i hi => ?_⟩
  · -- something is ready
    refine absurd ?_ hsome
    intro i
    induction i using Nat.strongRecOn with
    | _ i ihi =>
     intro hip
     refine Classical.byContradiction fun hni => ?_
     have hil:i < l.length:=by omega
     have hoi:l.toArray[i]? = some l[i]:=by simp [hil]
     have:i∈Region.ready .any l.toArray listed:=mem_ready.2 ⟨(hunl i hil).2 hni,l[i],hoi,fun e he hb=>by
      have hlt:=hok.back i _ hoi hip e he hb
      exact hlis' _ (by omega) (ihi _ hlt (by omega))⟩
     rw [h0] at this
     cases this
  · obtain⟨hun,o,ho,hall⟩:=mem_ready.1 hi
    have hil:i < l.length:=by simpa using (Array.getElem?_eq_some_iff.1 ho).1
    have hol:l[i]? = some o:=by simpa using ho
    have hni:=(hunl i hil).1 hun
    have hip:i < p:=Classical.byContradiction fun h=>hsome fun j hj=>zbh (S:=fun j=>j∈tr.map (·.1)) I.cl p _ (fun j' hj'=>by
     obtain⟨h1,h2⟩:=List.mem_filter.1 hj'
     obtain⟨e,he,rfl⟩:=List.mem_map.1 h1
     obtain⟨h3,h4⟩:=List.mem_filter.1 he
     exact hlis _ (by simp at h2;omega) (hall e (Array.mem_toList_iff.1 h3) h4)) j (hok.late i o ho (by omega) j hj)
    have hirem:i∈rem:=(I.rem i).2 ⟨hip,hni⟩
    have hdst:zl l.toArray i=o.dst:=by simp [zl,ho]
    -- what is handed on
    have go : ∀ x v E' T' σ' w',(i < p1 → X[i]? = some x∧E'=E∧T'=T) → (p1≤i → E'=E++[i]∧T'=T++[.cells ((zs i).map .p)]∧x = .ptr (H.n+E.length) 0) → Rel C.G σ' (app H T') w' → RelV σ' (app H T') w' x v → Ev (app H T).n σ (app H T) w σ' (app H T') w' → zn C.nt o.dst=true →
     wpAnyIn { Fence.wide with round:=ro } 0 C.P .any l.toArray R1 (r+(l.length - p)) (listed.setIfInBounds i true) (a.put o.dst v) w':=by
     intro x v E' T' σ' w' hq hal hrel hrv hev hd
     have hEl:E'.Nodup∧(∀ j,j∈E' ↔ p1≤j∧(j=i ∨ j∈tr.map (·.1)))∧T'=E'.map (fun i => .cells ((zs i).map .p)):=by
      by_cases hi1:i < p1
      · obtain⟨_,rfl,rfl⟩:=hq hi1
        refine⟨I.end_,fun j => ?_,I.t⟩
        rw [I.eiff]
        constructor
        · exact fun h=>⟨h.1,.inr h.2⟩
        · rintro ⟨h1,rfl | h2⟩
          · omega
          · exact⟨h1,h2⟩
      · obtain⟨rfl,rfl,_⟩:=hal (by omega)
        refine⟨List.nodup_append.2 ⟨I.end_,by simp,fun j hj k hk e => ?_⟩,fun j => ?_,by rw [List.map_append,←I.t];rfl⟩
        · simp only [List.mem_singleton] at hk
          subst hk;subst e
          exact hni ((I.eiff _).1 hj).2
        · rw [List.mem_append,List.mem_singleton,I.eiff]
          constructor
          · rintro (h | rfl)
            · exact⟨h.1,.inr h.2⟩
            · exact⟨by omega,.inl rfl⟩
          · rintro ⟨h1,rfl | h2⟩
            · exact .inr rfl
            · exact .inl ⟨h1,h2⟩
     refine ih ((i,x) :: tr) (rem.erase i) E' T' _ σ' w' _ (by rw [List.length_erase_of_mem hirem,hr];rfl) ⟨?_,I.rnd.erase i,fun j => ?_,fun j hj => ?_,fun j y hj h1 => ?_,fun j y hj h1 => ?_,hEl.1,fun j => ?_,hEl.2.2,fun j o' ho' hj e he hb => ?_,?_,fun j hj => ?_,hrel,?_,I.ev.trans (hev.weaken (by rw [app_n'];omega)) (Nat.le_refl _)⟩
     · rw [List.map_cons,List.nodup_cons];exact⟨hni,I.nd⟩
     · rw [I.rnd.mem_erase_iff,I.rem,List.map_cons,List.mem_cons]
       constructor
       · exact fun h=>⟨h.2.1,fun h'=>h'.elim h.1 h.2.2⟩
       · exact fun h=>⟨fun e=>h.2 (.inl e),h.1,fun e=>h.2 (.inr e)⟩
     · rw [List.map_cons,List.mem_cons] at hj
       rcases hj with rfl | hj
       · exact hip
       · exact I.lt j hj
     · rcases List.mem_cons.1 hj with h | h
       · cases h;exact (hq h1).1
       · exact I.q j y h h1
     · rcases List.mem_cons.1 hj with h | h
       · cases h
         obtain⟨rfl,_,rfl⟩:=hal h1
         exact⟨E.length,by simp,rfl⟩
       · obtain⟨k,hk,hy⟩:=I.al j y h h1
         refine⟨k,?_,hy⟩
         by_cases hi1:i < p1
         · rw [(hq hi1).2.1];exact hk
         · rw [(hal (by omega)).1,List.getElem?_append_left (List.getElem?_eq_some_iff.1 hk).1];exact hk
     · rw [List.map_cons,List.mem_cons];exact hEl.2.1 j
     · rw [List.map_cons,List.mem_cons] at hj ⊢
       rcases hj with h | h
       · simp only at h
         subst h
         rw [ho] at ho';cases ho'
         have:=hok.back j o ho hip e he hb
         exact .inr (hlis _ (by omega) (hall e he hb))
       · exact .inr (I.cl j o' ho' h e he hb)
     · rw [Array.size_setIfInBounds];exact I.lsz
     · rw [List.map_cons]
       by_cases hij:i=j
       · subst hij
         have:(listed.setIfInBounds i true).getD i true=true:=by simp [Array.getD_eq_getD_getElem?]
         rw [this];simp
       · rw [getD_set_ne true hij,I.lget j hj]
         simp [Ne.symm hij]
     · have:=(I.fr.mono hev).put (zL hd) hrv
       simp only [after,hdst]
       exact this
    unfold wpOpIn
    simp only [ho]
    by_cases hi1:i < p1
    · -- a quiet operation
      have hxi:X[i]? = some X[i]:=by simp [hX,hi1]
      have hOK:OpOK C l.toArray o (after l.toArray yH tr) H X[i]:=by
       refine (hop i o X[i] hi1 hol hxi).congr fun s hs => ?_
       by_cases hw : ∃ j,j < p∧zl l.toArray j=some s
       · obtain⟨j,hj,hdj⟩:=hw
         obtain⟨h1,h2,h3⟩:=hok.quiet i o ho hi1 s hs j hj hdj
         have hjt:=hlis j (by omega) (zau h3 hall)
         obtain⟨⟨j',y⟩,hjy,rfl⟩:=List.mem_map.1 hjt
         have hjl:j' < l.length:=by omega
         have hoj:l[j']? = some l[j']:=by simp [hjl]
         have hdd:l[j'].dst=some s:=by simpa [zl,hoj] using hdj
         have hyx:=I.q j' y hjy h2
         rw [zaJ hjy hdj (fun k z hk hdk=>by
          have hkp:=I.lt k (List.mem_map.2 ⟨_,hk,rfl⟩)
          exact hok.dst j' l[j'] k s (by simp [hjl]) hj hkp hdd hdk) I.nd]
         refine zan (j:=j') (o:=l[j']) (by rw [List.getElem?_take_of_lt h1];exact hoj) (by rw [List.getElem?_take_of_lt h1];exact hyx) hdd fun k o' hk hdk => ?_
         have hki:k < i:=by have:=(List.getElem?_eq_some_iff.1 hk).1;simp at this;omega
         rw [List.getElem?_take_of_lt hki] at hk
         exact hok.dst j' l[j'] k s (by simp [hjl]) hj (by omega) hdd (by simp [zl,hk,hdk])
       · rw [zaW fun j y hj hd=>hw ⟨j,I.lt j (List.mem_map.2 ⟨_,hj,rfl⟩),hd⟩]
         refine zaK fun j o' hj hd=>hw ⟨j,?_,?_⟩
         · have:=(List.getElem?_eq_some_iff.1 hj).1;simp at this;omega
         · have hji:j < i:=by have:=(List.getElem?_eq_some_iff.1 hj).1;simp at this;omega
           rw [List.getElem?_take_of_lt hji] at hj
           simp [zl,hj,hd]
      obtain⟨hd,hbn,hcase⟩:=hOK
      rcases hcase with ⟨hw,hstep⟩ | ⟨hw,hx⟩
      · rw [if_pos (ye hw I.fr rfl)]
        refine (hstep T).wp I.rel I.fr ?_
        intro x v H' σ' w' ⟨e1,e2⟩ _ hrel hrv hev
        subst e1;subst e2
        exact go _ v E T σ' w' (fun _=>⟨hxi,rfl,rfl⟩) (fun h=>by omega) hrel hrv hev hd
      · rw [if_neg (by rw [ye hw I.fr rfl];simp)]
        refine⟨fun f _=>trivial,go X[i] undef E T σ w (fun _=>⟨hxi,rfl,rfl⟩) (fun h=>by omega) I.rel (by rw [hx];exact .tup #[] rfl (by simp)) (Ev.refl (Nat.le_refl _)) hd⟩
    · -- an allocation
      obtain⟨⟨t,ht⟩,hg,s,hs⟩:=hok.alloc i o ho (by omega) hip
      obtain⟨hz,hd⟩:=haz i o t (by omega) hip hol ht
      rw [if_pos (by simp [Region.wanted,hg])]
      have hstep:aOp1 C o (after l.toArray yH tr) (app H T) fun x H'=>x = .ptr (app H T).n 0∧H'=(app H T).new (.cells ((zs i).map .p)):=by
       unfold aOp1
       rw [ht]
       simp only [zc,hz]
       exact⟨hd,rfl,rfl⟩
      refine hstep.wp I.rel I.fr ?_
      intro x v H' σ' w' ⟨e1,e2⟩ _ hrel hrv hev
      subst e1;subst e2
      have hTl:T.length=E.length:=by rw [I.t];simp
      have happ:(app H T).new (.cells ((zs i).map .p))=app H (T++[.cells ((zs i).map .p)]):=by rw [zmq,zdi]
      rw [happ] at hrel hrv hev
      exact go _ v (E++[i]) (T++[.cells ((zs i).map .p)]) σ' w' (fun h=>absurd h hi1) (fun _=>⟨rfl,rfl,by rw [app_n',hTl]⟩) hrel hrv hev hd

theorem zck : ∀ {l1 l2:List Oper} {X1 X2:List AV} {env:Env},X1.length=l1.length → zaE (l1++l2) (X1++X2) env=zaE l2 X2 (zaE l1 X1 env)
 | [],l2,[],X2,env,_=>rfl
 | [],l2,x :: X1,X2,env,h=>by simp at h
 | o :: l1,l2,[],X2,env,h=>by simp at h
 | o :: l1,l2,x :: X1,X2,env,h=>by
  simp only [List.cons_append,zaE]
  exact zck (by simpa using h)

theorem zgx {E:List Nat} {a n:Nat} (hE:E.Nodup) (hm : ∀ i,i∈E ↔ a≤i∧i < a+n):E.length=n:=by
 have:=((List.perm_ext_iff_of_nodup hE (List.nodup_range' (s:=a) (n:=n) (step:=1))).2 fun i=>by rw [List.mem_range'_1];exact hm i).length_eq
 simpa using this

theorem zlr (hok:OkE l.toArray p1 p) (hop : ∀ (i:Nat) o x,i < p1 → l[i]? = some o → X[i]? = some x → BelowN H.n x) (hX:X.length=p1) (hb0 : ∀ s,BelowN H.n (yH s)) (hbel:Bel H.n H)
 {tr:List (Nat × AV)} {E:List Nat} {T:List AB} {listed:Array Bool} {σ:Gh} {w:World} {a:Act} (I:Inv1 C l p1 p X zs yH H σs ws m tr [] E T listed σ w a) :
 ∃ σ',Rel C.G σ' (app H ((List.range (p - p1)).map fun j => .cells ((zs (p1+j)).map .p))) w ∧
  RelF C.nt m σ' (app H ((List.range (p - p1)).map fun j => .cells ((zs (p1+j)).map .p))) w (zaE (l.take p) (X++(List.range (p - p1)).map fun j => .ptr (H.n+j) 0) yH) a ∧
  Ev H.n σs H ws σ' (app H ((List.range (p - p1)).map fun j => .cells ((zs (p1+j)).map .p))) w∧listed=((List.range l.length).map fun i=>decide (i < p)).toArray:=by
 have hpl:p≤l.length:=by simpa using hok.size
 have hle:=hok.le
 have hin : ∀ i,i < p → i∈tr.map (·.1):=fun i hi=>Classical.byContradiction fun h=>by
  have:=(I.rem i).2 ⟨hi,h⟩
  cases this
 have hEm : ∀ i,i∈E ↔ p1≤i∧i < p1+(p - p1):=fun i=>by
  rw [I.eiff]
  exact⟨fun h=>⟨h.1,by have:=I.lt i h.2;omega⟩,fun h=>⟨h.1,hin i (by omega)⟩⟩
 have hEl:E.length=p - p1:=zgx I.end_ hEm
 have hP:=zms (H:=H) (σ:=σ) (p:=p1) (E:=E) (T:=T) (T':=(List.range (p - p1)).map fun j => .cells ((zs (p1+j)).map .p)) I.end_ (by rw [hEl];exact hEm) (by rw [I.t];simp) (by simp [hEl]) (fun i hi=>by
  have hix:E.idxOf (p1+i) < E.length:=List.idxOf_lt_length_iff.2 ((hEm _).2 ⟨by omega,by omega⟩)
  rw [I.t,List.getElem?_map,List.getElem?_map,List.getElem?_eq_getElem hix,List.getElem_idxOf hix]
  simp [hEl ▸ hi]) (fun x hx y hy=>by
   rw [I.t] at hx
   obtain⟨i,_,rfl⟩:=List.mem_map.1 hx
   simp only [AB.vals,List.mem_map] at hy
   obtain⟨z,_,rfl⟩:=hy
   exact .p z)
 have hbel':Bel H.n (app H T):=fun b x hb hf y hy=>hbel b x hb (by rwa [zbT hb] at hf) y hy
 refine⟨_,hP.rel hbel' I.rel,⟨?_,I.fr.size,fun s => ?_⟩,I.ev.trans hP.ev (Nat.le_refl _),?_⟩
 · obtain⟨ms,q1,q2,q3⟩:=I.fr.defers
   exact⟨ms,q1,q2,fun g hg=>let ⟨a1,a2,a3⟩:=q3 g hg;⟨a1,a2,hP.free a3⟩⟩
 · have hs:=I.fr.slot s
   have hget : ∀ (j:Nat) o',(l.take p)[j]? = some o' → j < p∧zl l.toArray j=o'.dst:=fun j o' hj=>by
    have hjp:j < p:=by have:=(List.getElem?_eq_some_iff.1 hj).1;simp at this;omega
    rw [List.getElem?_take_of_lt hjp] at hj
    exact⟨hjp,by simp [zl,hj]⟩
   by_cases hw : ∃ j,j < p∧zl l.toArray j=some s
   · obtain⟨j,hj,hdj⟩:=hw
     obtain⟨⟨j',x⟩,hjx,rfl⟩:=List.mem_map.1 (hin j hj)
     have hjl:j' < l.length:=by omega
     have hoj:l[j']? = some l[j']:=by simp [hjl]
     have hdd:l[j'].dst=some s:=by simpa [zl,hoj] using hdj
     rw [zaJ hjx hdj (fun i z hi hdi=>hok.dst j' l[j'] i s (by simp [hjl]) hj (I.lt i (List.mem_map.2 ⟨_,hi,rfl⟩)) hdd hdi) I.nd] at hs
     have huniq : ∀ (i:Nat) o',(l.take p)[i]? = some o' → o'.dst=some s → i=j':=fun i o' hi hdi=>by
      obtain⟨h1,h2⟩:=hget i o' hi
      exact hok.dst j' l[j'] i s (by simp [hjl]) hj h1 hdd (h2.trans hdi)
     have hoj':(l.take p)[j']? = some l[j']:=by rw [List.getElem?_take_of_lt hj];exact hoj
     by_cases h1:j' < p1
     · have hxj:=I.q j' x hjx h1
       rw [zan (x:=x) hoj' (by rw [List.getElem?_append_left (by omega)];exact hxj) hdd huniq]
       exact hP.relV hs (hop j' _ x h1 hoj hxj)
     · obtain⟨kk,hk,rfl⟩:=I.al j' x hjx (by omega)
       rw [zan (x := .ptr (H.n+(j' - p1)) 0) hoj' (by have hj2:j' < p:=hj;rw [List.getElem?_append_right (by omega),hX,List.getElem?_map,List.getElem?_range (by omega)];rfl) hdd huniq]
       generalize a.tmps.getD s undef=v at hs
       have hkl:=(List.getElem?_eq_some_iff.1 hk).1
       have hidx:E.idxOf j'=kk:=by
        have hix:E.idxOf j' < E.length:=List.idxOf_lt_length_iff.2 (List.mem_of_getElem? hk)
        refine (List.getElem_inj I.end_ (h₀:=hix) (h₁:=hkl)).1 ?_
        rw [List.getElem_idxOf hix]
        exact (List.getElem?_eq_some_iff.1 hk).2.symm
       have hperm:yL H.n p1 E (H.n+(j' - p1))=H.n+kk:=by
        unfold yL
        rw [if_pos (by omega),Nat.add_sub_cancel_left,show p1+(j' - p1)=j' by omega,hidx]
       cases hs with | ptr hb =>
       rw [←hperm]
       exact .ptr (σ:=⟨fun b=>σ.c (yL H.n p1 E b),fun b=>σ.t (yL H.n p1 E b)⟩) (by rw [app_n',List.length_map,List.length_range];have:j' < p:=hj;omega)
   · rw [zaW fun j y hj hd=>hw ⟨j,I.lt j (List.mem_map.2 ⟨_,hj,rfl⟩),hd⟩] at hs
     rw [zaK fun j o' hj hd=>hw ⟨j,(hget j o' hj).1,(hget j o' hj).2.trans hd⟩]
     exact hP.relV hs (hb0 s)
 · refine Array.ext (by rw [I.lsz];simp) fun i h1 h2 => ?_
   rw [I.lsz] at h1
   have:=I.lget i h1
   rw [Array.getD_eq_getD_getElem?,Array.getElem?_eq_getElem (by rw [I.lsz];exact h1)] at this
   simp only [Option.getD_some] at this
   rw [this]
   simp only [List.getElem_toArray,List.getElem_map,List.getElem_range]
   rw [decide_eq_decide]
   exact⟨fun h=>I.lt i h,hin i⟩

theorem zc1 {ops:Array Oper} {q:Nat → Bool} {lb:List Oper} {k:List Item} {R:AV → Hp → Prop} : ∀ (la:List Oper) (n:Nat) (env:Env) (H:Hp),(∀ o∈la,(∃ t,o.op = .alloc t)∧o.guard=none ∧ ∃ s,o.dst=some s) → zU C ops q n (la++lb) k env H R →
 ∃ Z:List (List PV),Z.length=la.length∧(∀ (i:Nat) o t,la[i]? = some o → o.op = .alloc t → ∃ z,Z[i]? = some z∧zB C.P t=some z∧zn C.nt o.dst=true) ∧
  zU C ops q (n+la.length) lb k (zaE la ((List.range la.length).map fun j => .ptr (H.n+j) 0) env) (app H (Z.map fun z => .cells (z.map .p))) R
 | [],n,env,H,_,h=>⟨[],rfl,fun i o t h1=>by simp at h1,h⟩
 | o :: la,n,env,H,ho,h=>by
  obtain⟨⟨t,ht⟩,hg,s,hs⟩:=ho o (by simp)
  rw [List.cons_append] at h
  unfold zU at h
  rw [hg,show zk C.nt ops none env=some true from rfl] at h
  simp only [ht,zc] at h
  cases hz:zB C.P t with
  | none=>rw [hz] at h;exact h.elim
  | some z =>
   rw [hz] at h
   obtain⟨h1,_,h2⟩:=h
   obtain⟨Z,z1,z2,z3⟩:=zc1 la (n+1) _ _ (fun o' ho'=>ho o' (by simp [ho'])) h2
   refine⟨z :: Z,by simp [z1],fun i o' t' hi ht' => ?_,?_⟩
   · cases i with
     | zero=>simp at hi;subst hi;rw [ht] at ht';cases ht';exact⟨z,rfl,hz,h1⟩
     | succ i=>simp only [List.getElem?_cons_succ] at hi ⊢;exact z2 i o' t' hi ht'
   · rw [List.length_cons,List.range_succ_eq_map,List.map_cons,List.map_map,List.map_cons,z7]
     simp only [zaE]
     rw [show n+(la.length+1)=n+1+la.length by omega]
     rw [n_new'] at z3
     have:((fun j=>AV.ptr (H.n+j) 0) ∘ Nat.succ)=fun j=>AV.ptr (H.n+1+j) 0:=by
      funext j;simp only [Function.comp];rw [show H.n+j.succ=H.n+1+j by omega]
     rw [this]
     exact z3
end phase

section openE
variable {C:Cx} {k:List Item} {env:Env} {H:Hp} {R:AV → Hp → Prop}

theorem ARun.openE {id:Nat} {l:List Oper} (p1 p:Nat) (loud:List Nat) (hm:C.P.follows .mixedOrders=true) (hok:okE l.toArray p1 p=true)
 (hB:zii (zM loud) l.toArray (l.length - p) p ((List.range l.length).map fun i=>decide (i < p)).toArray=true)
 (h:zlq C l.toArray (l.take p1) env H fun env1=>zU C l.toArray (zM loud) p1 (l.drop p1) k env1 H R):ARun C (.code (.region id l.toArray true) :: k) env H R :=
 .of_wp fun σ w a m hpre=>by
  obtain⟨X,hX,hK,hop⟩:=zdJ h
  have hokE:=zp7 hok
  have hle:=hokE.le
  have hpl:p≤l.length:=by simpa using hokE.size
  rw [List.length_take,Nat.min_eq_left (by omega)] at hX
  have hdrop:l.drop p1=(l.drop p1).take (p - p1)++l.drop p:=by
   conv=>lhs;rw [←List.take_append_drop (p - p1) (l.drop p1)]
   rw [List.drop_drop,show p1+(p - p1)=p by omega]
  have hgd : ∀ (i:Nat) o,((l.drop p1).take (p - p1))[i]? = some o → i < p - p1∧l[p1+i]? = some o:=fun i o hi=>by
   have hlt:i < p - p1:=by have:=(List.getElem?_eq_some_iff.1 hi).1;simp at this;omega
   rw [List.getElem?_take_of_lt hlt,List.getElem?_drop] at hi
   exact⟨hlt,hi⟩
  have hlen:((l.drop p1).take (p - p1)).length=p - p1:=by rw [List.length_take,List.length_drop];omega
  rw [hdrop] at hK
  obtain⟨Z,z1,z2,z3⟩:=zc1 _ p1 _ H (fun o ho=>by
   obtain⟨i,hi⟩:=List.getElem?_of_mem ho
   obtain⟨h1,h2⟩:=hgd i o hi
   exact hokE.alloc (p1+i) o (by simpa using h2) (by omega) (by omega)) hK
  rw [hlen] at z1 z3
  have hop' : ∀ (i:Nat) o x,i < p1 → l[i]? = some o → X[i]? = some x → OpOK C l.toArray o (zaE (l.take i) (X.take i) env) H x:=fun i o x hi ho hx=>by
   have:=hop i o x (by rw [List.getElem?_take_of_lt hi];exact ho) hx
   rwa [List.take_take,Nat.min_eq_left (by omega)] at this
  obtain⟨g1,g2⟩:=zaM hpre.rel
  refine wpIn_region_any hm ?_
  rw [List.size_toArray]
  have hZ:(List.range (p - p1)).map (fun j=>AB.cells (((fun i=>(Z[i - p1]?).getD []) (p1+j)).map .p))=Z.map fun z => .cells (z.map .p):=by
   refine List.ext_getElem (by simp [z1]) fun i h1 h2 => ?_
   simp only [List.length_map,List.length_range] at h1 h2
   simp [h2]
  have key:=zt1 (C:=C) (l:=l) (p1:=p1) (p:=p) (X:=X) (zs:=fun i=>(Z[i - p1]?).getD []) (yH:=env) (H:=H) (σs:=σ) (ws:=w) (m:=m) (ro:=C.round.map σ.c)
   (R1:=fun e a' w'=>e = .normal ∧ ∃ env' H' σ',ARun C k env' H' R∧Pre C σ' H' w' env' a' m∧Ev H.n σ H w σ' H' w') hokE hop' hX
   (fun i o t h1 h2 ho ht=>by
    obtain⟨z,q1,q2,q3⟩:=z2 (i - p1) o t (by rw [List.getElem?_take_of_lt (by omega),List.getElem?_drop,show p1+(i - p1)=i by omega];exact ho) ht
    exact⟨by rw [q1];exact q2,q3⟩)
   (fun tr E T listed σ1 w1 a1 I=>by
    obtain⟨σ2,r1,r2,r3,r4⟩:=zlr hokE (fun i o x h1 h2 h3=>(hop' i o x h1 h2 h3).2.1) hX (fun s=>(hpre.fr.slot s).belowN) hpre.rel.bel I
    rw [hZ] at r1 r2 r3
    subst r4
    have hrun:zU C l.toArray (zM loud) p (l.drop p) k (zaE (l.take p) (X++(List.range (p - p1)).map fun j => .ptr (H.n+j) 0) env) (app H (Z.map fun z => .cells (z.map .p))) R:=by
     have e:l.take p=l.take p1++(l.drop p1).take (p - p1):=by
      conv=>lhs;rw [show p=p1+(p - p1) by omega,List.take_add]
     rw [e,zck (by rw [hX,List.length_take];omega)]
     rw [show p1+(p - p1)=p by omega] at z3
     exact z3
    have hla : ∀ j,(l.drop p)[j]? = l.toArray[p+j]? := fun j=>by rw [List.getElem?_drop];simp
    have hA:=zce (C:=C) (ops:=l.toArray) (Q:=fun env' H'=>ARun C k env' H' R) (l.drop p) p _ _ _ hla (by rw [List.length_drop];exact hB) (zC hla hrun)
    rw [List.length_drop] at hA
    exact zW (n1:=H.n) (m:=m) (l.length - p) _ _ _ σ2 w1 a1 hA r1 r2 (by rw [app_n'];omega) fun env' H' σ' w' a' b1 b2 b3 b4=>⟨rfl,env',H',σ',b1,hpre.go b2 b3 (r3.trans b4 (Nat.le_refl _)),r3.trans b4 (Nat.le_refl _)⟩)
   p [] (List.range p) [] [] (Array.replicate l.length false) σ w.drew a (by simp)
   ⟨List.nodup_nil,List.nodup_range,fun i=>by simp,fun i h=>by simp at h,fun i x h=>by simp at h,fun i x h=>by simp at h,List.nodup_nil,fun i=>by simp,rfl,fun k o _ hk=>by simp at hk,by simp,fun i hi=>by simp [Array.getD_eq_getD_getElem?,hi],g1,hpre.fr.mono g2,g2⟩
  rw [show p+(l.length - p)=l.length by omega] at key
  exact key
end openE


section steps
variable {C:Cx} {ops:Array Oper} {q:Nat → Bool} {op:Op} {ty:TypeId} {pos:String} {after:Array Edge} {dst:Option Nat} {rest l2:List Oper} {k:List Item} {env:Env} {H:Hp} {R:AV → Hp → Prop} {x:AV} {rd:Bool} {f:FuncId} {args:List AV} {j n p:Nat} {want:Bool}

def zhu (C:Cx) (ops:Array Oper) (q:Nat → Bool) (l:List Oper) (p:Nat) (l2:List Oper) (k:List Item) (env:Env) (H:Hp) (R:AV → Hp → Prop):Prop :=
 zlq C ops l env H fun env1=>zU C ops q p l2 k env1 H R
def CallQE (C:Cx) (ops:Array Oper) (q:Nat → Bool) (f:FuncId) (args:List AV) (dst:Option Nat) (l:List Oper) (p:Nat) (l2:List Oper) (k:List Item) (env:Env) (H:Hp) (R:AV → Hp → Prop):Prop :=
 ztA C f args H fun x=>zhu C ops q l p l2 k (env.put dst x) H R
def zmt (C:Cx) (ops:Array Oper) (q:Nat → Bool) (r:SRes) (rd:Bool) (dst:Option Nat) (l:List Oper) (p:Nat) (l2:List Oper) (k:List Item) (env:Env) (H:Hp) (R:AV → Hp → Prop):Prop :=
 zp6 C r rd dst H fun x=>zhu C ops q l p l2 k (env.put dst x) H R
def zfj (C:Cx) (ops:Array Oper) (q:Nat → Bool) (g:Option Bool) (op:Op) (ty:TypeId) (dst:Option Nat) (l:List Oper) (p:Nat) (l2:List Oper) (k:List Item) (env:Env) (H:Hp) (R:AV → Hp → Prop):Prop :=
 match g with
 | some true=>zmt C ops q (zc C.P C.G op ty env H) (zc0 op) dst l p l2 k env H R
 | some false=>zn C.nt dst=true∧zhu C ops q l p l2 k (env.put dst (.tup [])) H R
 | none=>False

theorem zp8:zhu C ops q [] p l2 k env H R=zU C ops q p l2 k env H R:=rfl
theorem zos:zhu C ops q (⟨dst,op,ty,pos,after,none⟩ :: rest) p l2 k env H R=zmt C ops q (zc C.P C.G op ty env H) (zc0 op) dst rest p l2 k env H R:=rfl
theorem zot:zhu C ops q (⟨dst,op,ty,pos,after,some (j,want)⟩ :: rest) p l2 k env H R=zfj C ops q (zk C.nt ops (some (j,want)) env) op ty dst rest p l2 k env H R:=rfl
theorem zf5:zfj C ops q (some true) op ty dst rest p l2 k env H R=zmt C ops q (zc C.P C.G op ty env H) (zc0 op) dst rest p l2 k env H R:=rfl
theorem zfk:zfj C ops q (some false) op ty dst rest p l2 k env H R=(zn C.nt dst=true∧zhu C ops q rest p l2 k (env.put dst (.tup [])) H R):=rfl
theorem zls:zmt C ops q (.call f args) rd dst rest p l2 k env H R=(zn C.nt dst=true∧CallQE C ops q f (zz C.raw f args) dst rest p l2 k env H R):=rfl

theorem CallQE.of {args':List AV} (h : ∀ (H':Hp) (R:AV → Hp → Prop),R x H' → ACall C.P C.G f args' H' R) (hb:BelowN H.n x) (hk:zhu C ops q rest p l2 k (env.put dst x) H R):CallQE C ops q f args' dst rest p l2 k env H R:=⟨x,fun T=>h _ _ ⟨rfl,rfl⟩,hb,hk⟩

end steps

attribute [go_sem] zp8 zos zot zf5 zfk zls zc0 List.take_zero List.take_nil List.take_succ_cons List.drop_zero List.drop_succ_cons

end Go.AL

/-
  A region whose order is open,that makes rows of its own and stores its quiet results into them,in any order.
  Conditions: none;nothing here speaks of one program.
-/
namespace Go.AL
open Go

theorem zc2 {x:AB} : ∀ {T:List AB} {H:Hp} {k:Nat},k < T.length → (app H T).set (H.n+k) x=app H (T.set k x)
 | [],H,k,h=>by simp at h
 | y :: T,H,0,h=>by
  rw [z7,Nat.add_zero,zmp (by rw [n_new'];omega),ze3 rfl,List.set_cons_zero,z7]
 | y :: T,H,k+1,h=>by
  have:=zc2 (x:=x) (T:=T) (H:=H.new y) (k:=k) (by simpa using h)
  rw [n_new'] at this
  rw [z7,show H.n+(k+1)=H.n+1+k by omega,this,List.set_cons_succ,z7]

theorem zhv {n:Nat} {x:AV} {xs:List AV} (h:zf x=some xs) (hb:BelowN n x) : ∀ y∈xs,BelowN n y:=by
 intro y hy
 cases hb with
 | p x =>
  cases x with
  | agg ys=>simp only [zf,Option.some.injEq] at h;subst h;obtain⟨z,_,rfl⟩:=List.mem_map.1 hy;exact .p z
  | _=>simp only [zf,Option.some.injEq] at h;subst h;simp only [List.mem_singleton] at hy;subst hy;exact .p _
 | agg ys hs=>simp only [zf,Option.some.injEq] at h;subst h;obtain⟨i,hi⟩:=List.getElem?_of_mem hy;exact hs i y hi
 | tup ys hs=>cases h
 | top=>cases h
 | sl a v sz ys hb=>simp only [zf,Option.some.injEq] at h;subst h;simp only [List.mem_singleton] at hy;subst hy;exact .sl _ _ _ _ hb
 | ref b off len sz hb=>simp only [zf,Option.some.injEq] at h;subst h;simp only [List.mem_singleton] at hy;subst hy;exact .ref _ _ _ _ hb
 | ptr b off hb=>simp only [zf,Option.some.injEq] at h;subst h;simp only [List.mem_singleton] at hy;subst hy;exact .ptr _ _ hb
 | ip sz ys i sub=>simp only [zf,Option.some.injEq] at h;subst h;simp only [List.mem_singleton] at hy;subst hy;exact .ip _ _ _ _
 | clo f a c h1 h2=>simp only [zf,Option.some.injEq] at h;subst h;simp only [List.mem_singleton] at hy;subst hy;exact .clo _ _ _ h1 h2
 | yld b hb=>simp only [zf,Option.some.injEq] at h;subst h;simp only [List.mem_singleton] at hy;subst hy;exact .yld _ hb
 | mp b hb=>simp only [zf,Option.some.injEq] at h;subst h;simp only [List.mem_singleton] at hy;subst hy;exact .mp _ hb
 | vr b _ _ hb=>simp only [zf,Option.some.injEq] at h;subst h;simp only [List.mem_singleton] at hy;subst hy;exact .vr _ _ _ hb
 | vp b _ _ hb=>simp only [zf,Option.some.injEq] at h;subst h;simp only [List.mem_singleton] at hy;subst hy;exact .vp _ _ _ hb

theorem zou {cs xs:List AV} {y:AV} (h:0+xs.length≤cs.length) (hy:y∈setAt cs 0 xs):y∈cs ∨ y∈xs:=by
 rw [yt _ _ _ h] at hy
 simp only [List.mem_append] at hy
 rcases hy with (hy | hy) | hy
 · exact .inl (List.mem_of_mem_take hy)
 · exact .inr hy
 · exact .inl (List.mem_of_mem_drop hy)

def yl (ops:Array Oper) (i:Nat):Option Nat:=match ops[i]? with
 | some o=>(match o.op with | .store _ (.tmp s) _=>some s | _=>none)
 | none=>none

def tgt (ops:Array Oper) (p p2 j:Nat):Option Nat:=(List.range p2).find? fun i=>decide (p≤i) && (yl ops i).isSome && yl ops i == zl ops j

def okF (ops:Array Oper) (p1 p p2:Nat):Bool :=
 p1≤p && p≤p2 && p2≤ops.size && (List.range ops.size).all fun i=>match ops[i]? with
  | none=>false
  | some o =>
   if i < p2 then
    o.after.all (fun e => !Region.binds .any e || decide (e.on < i)) &&
    (if i < p then
     (List.range p).all (fun j=>j == i || (zl ops j).isNone || zl ops j != o.dst) &&
     (if i < p1 then
      (List.range p).all (fun j=>match zl ops j with
       | some s => !(o.looksAt ops).contains s || (decide (j < i) && decide (j < p1) && waitsFor o j)
       | none=>true)
     else (match o.op with | .alloc _=>true | _=>false) && o.guard.isNone && o.dst.isSome)
    else o.guard.isNone && o.dst.isNone && (match o.op with
     | .store _ (.tmp s) (.tmp v)=>(List.range p).any (fun j=>decide (p1≤j) && zl ops j == some s && waitsFor o j) && (List.range p1).any (fun u=>zl ops u == some v && waitsFor o u) &&
      (List.range p2).all (fun i'=>i' == i || decide (i' < p) || yl ops i' != some s)
     | _=>false))
   else (List.range p2).all fun j=>(zaL ops p2 ((zdl o).filter fun j=>decide (j < p2))).contains j

structure OkF (ops:Array Oper) (p1 p p2:Nat):Prop where
 le:p1≤p
 le2:p≤p2
 size:p2≤ops.size
 dst : ∀ i o j s,ops[i]? = some o → i < p → j < p → o.dst=some s → zl ops j=some s → j=i
 back : ∀ (i:Nat) o,ops[i]? = some o → i < p2 → ∀ e∈o.after,Region.binds .any e=true → e.on < i
 quiet : ∀ (i:Nat) o,ops[i]? = some o → i < p1 → ∀ s∈o.looksAt ops,∀ j,j < p → zl ops j=some s → j < i∧j < p1∧waitsFor o j=true
 alloc : ∀ (i:Nat) o,ops[i]? = some o → p1≤i → i < p → (∃ t,o.op = .alloc t)∧o.guard=none ∧ ∃ s,o.dst=some s
 fill : ∀ (i:Nat) o,ops[i]? = some o → p≤i → i < p2 → o.guard=none∧o.dst=none ∧ ∃ t s v j u,o.op = .store t (.tmp s) (.tmp v)∧p1≤j∧j < p∧zl ops j=some s∧waitsFor o j=true ∧
  u < p1∧zl ops u=some v∧waitsFor o u=true ∧ ∀ i',p≤i' → i' < p2 → yl ops i'=some s → i'=i
 late : ∀ (i:Nat) o,ops[i]? = some o → p2≤i → ∀ j,j < p2 → j∈zaL ops p2 ((zdl o).filter fun j=>decide (j < p2))

theorem zp9 {ops:Array Oper} {p1 p p2:Nat} (h:okF ops p1 p p2=true):OkF ops p1 p p2:=by
 simp only [okF,Bool.and_eq_true,decide_eq_true_eq,List.all_eq_true,List.mem_range] at h
 obtain⟨⟨⟨h1,h2⟩,h3⟩,h4⟩:=h
 have lt : ∀ {i:Nat} {o:Oper},ops[i]? = some o → i < ops.size:=fun h=>(Array.getElem?_eq_some_iff.1 h).1
 refine⟨h1,h2,h3,fun i o j s hi hip hj hd hdj => ?_,fun i o hi hip e he hb => ?_,fun i o hi hip s hs j hj hdj => ?_,fun i o hi hp1 hip => ?_,fun i o hi hp hip => ?_,fun i o hi hip j hj => ?_⟩
 · have:=h4 i (lt hi)
   simp only [hi,if_pos (show i < p2 by omega),if_pos hip,Bool.and_eq_true,List.all_eq_true,List.mem_range] at this
   have:=this.2.1 j hj
   simpa [hdj,hd] using this
 · have:=h4 i (lt hi)
   simp only [hi,if_pos hip,Bool.and_eq_true,Array.all_eq_true'] at this
   have:=this.1 e he
   simpa [hb] using this
 · have:=h4 i (lt hi)
   simp only [hi,if_pos (show i < p2 by omega),if_pos (show i < p by omega),if_pos hip,Bool.and_eq_true,List.all_eq_true,List.mem_range] at this
   have:=this.2.2 j hj
   simp only [hdj,Bool.or_eq_true,Bool.not_eq_true',Bool.and_eq_true,decide_eq_true_eq] at this
   rcases this with h | h
   · rw [List.contains_eq_mem,decide_eq_false_iff_not] at h;exact absurd hs h
   · exact⟨h.1.1,h.1.2,h.2⟩
 · have:=h4 i (lt hi)
   simp only [hi,if_pos (show i < p2 by omega),if_pos hip,if_neg (show ¬i < p1 by omega),Bool.and_eq_true,Option.isNone_iff_eq_none,Option.isSome_iff_exists] at this
   obtain⟨_,_,⟨h4,h5⟩,h6⟩:=this
   refine⟨?_,h5,h6⟩
   split at h4
   · rename_i t ht;exact⟨t,ht⟩
   · cases h4
 · have:=h4 i (lt hi)
   simp only [hi,if_pos hip,if_neg (show ¬i < p by omega),Bool.and_eq_true,Option.isNone_iff_eq_none] at this
   obtain⟨_,⟨h5,h6⟩,h7⟩:=this
   refine⟨h5,h6,?_⟩
   split at h7
   · rename_i t s v ht
     simp only [Bool.and_eq_true,List.any_eq_true,List.mem_range,decide_eq_true_eq,beq_iff_eq,List.all_eq_true,Bool.or_eq_true,bne_iff_ne] at h7
     obtain⟨⟨⟨j,j1,⟨j2,j3⟩,j4⟩,u,u1,u2,u3⟩,hu⟩:=h7
     exact⟨t,s,v,j,u,ht,j2,j1,j3,j4,u1,u2,u3,fun i' a b c=>by
      rcases hu i' b with (e | e) | e
      · exact e
      · omega
      · exact absurd c e⟩
   · cases h7
 · have:=h4 i (lt hi)
   simp only [hi,if_neg (show ¬i < p2 by omega),List.all_eq_true,List.mem_range] at this
   simpa using this j hj

def row (ops:Array Oper) (p p2:Nat) (zs fs:Nat → List AV) (tr:List Nat) (j:Nat):List AV:=match tgt ops p p2 j with
 | some i=>if i∈tr then fs i else zs j
 | none=>zs j

theorem zqa {ops:Array Oper} {p1 p p2 i j s:Nat} (hok:OkF ops p1 p p2) (hp:p≤i) (hi:i < p2) (hs:yl ops i=some s) (hj:zl ops j=some s):tgt ops p p2 j=some i:=by
 have hio : ∃ o,ops[i]? = some o:=⟨ops[i]'(by have:=hok.size;omega),by simp⟩
 obtain⟨o,ho⟩:=hio
 obtain⟨_,_,t,s',v,j',u,hop,_,_,_,_,_,_,_,huniq⟩:=hok.fill i o ho hp hi
 have hs':yl ops i=some s':=by simp [yl,ho,hop]
 obtain rfl:s'=s:=by rw [hs'] at hs;exact Option.some.inj hs
 unfold tgt
 cases hf:(List.range p2).find? (fun i=>decide (p≤i) && (yl ops i).isSome && yl ops i == zl ops j) with
 | none =>
  have:=List.find?_eq_none.1 hf i (by simpa using hi)
  simp [hp,hs,hj] at this
 | some i' =>
  have h1:=List.find?_some hf
  have h2:=List.mem_of_find?_eq_some hf
  simp only [Bool.and_eq_true,decide_eq_true_eq,beq_iff_eq] at h1
  rw [huniq i' h1.1.1 (by simpa using h2) (by rw [h1.2,hj])]

theorem zaX {ops:Array Oper} {p p2 i j:Nat} (h:tgt ops p p2 j=some i):p≤i∧i < p2 ∧ ∃ s,yl ops i=some s∧zl ops j=some s:=by
 unfold tgt at h
 have h1:=List.find?_some h
 have h2:=List.mem_of_find?_eq_some h
 simp only [Bool.and_eq_true,decide_eq_true_eq,beq_iff_eq] at h1
 obtain⟨s,hs⟩:=Option.isSome_iff_exists.1 h1.1.2
 exact⟨h1.1.1,by simpa using h2,s,hs,by rw [←h1.2,hs]⟩

theorem zmu {ops:Array Oper} {p p2 i j:Nat} {zs fs:Nat → List AV} {tr:List Nat} (h:i < p):row ops p p2 zs fs (i :: tr) j=row ops p p2 zs fs tr j:=by
 unfold row
 cases ht:tgt ops p p2 j with
 | none=>rfl
 | some i' =>
  have:=(zaX ht).1
  have hne:i'≠i:=by omega
  simp [hne]

structure Inv2 (C:Cx) (l:List Oper) (p1 p p2:Nat) (X:List AV) (zs fs:Nat → List AV) (yH:Env) (H:Hp) (σs:Gh) (ws:World) (m:Nat)
 (tr:List (Nat × AV)) (rem E:List Nat) (T:List AB) (listed:Array Bool) (σ:Gh) (w:World) (a:Act):Prop where
 nd:(tr.map (·.1)).Nodup
 rnd:rem.Nodup
 rem : ∀ i,i∈rem ↔ i < p2∧i ∉ tr.map (·.1)
 lt : ∀ i,i∈tr.map (·.1) → i < p2
 q : ∀ i x,(i,x)∈tr → i < p1 → X[i]? = some x
 al : ∀ i x,(i,x)∈tr → p1≤i → i < p → ∃ k:Nat,E[k]? = some i∧x = .ptr (H.n+k) 0
 end_:E.Nodup
 eiff : ∀ i,i∈E ↔ p1≤i∧i < p∧i∈tr.map (·.1)
 t:T=E.map fun i => .cells (row l.toArray p p2 zs fs (tr.map (·.1)) i)
 cl : ∀ (k:Nat) o,l.toArray[k]? = some o → k∈tr.map (·.1) → ∀ e∈o.after,Region.binds .any e=true → e.on∈tr.map (·.1)
 lsz:listed.size=l.length
 lget : ∀ i,i < l.length → listed.getD i true=decide (i∈tr.map (·.1))
 rel:Rel C.G σ (app H T) w
 fr:RelF C.nt m σ (app H T) w (after l.toArray yH tr) a
 ev:Ev H.n σs H ws σ (app H T) w

section phase
variable {C:Cx} {l:List Oper} {p1 p p2:Nat} {X:List AV} {zs fs:Nat → List AV} {yH:Env} {H:Hp} {σs:Gh} {ws:World} {m:Nat} {ro:Option Nat} {R1:Exit → Act → World → Prop}

theorem zt2 (hok:OkF l.toArray p1 p p2) (hop : ∀ (i:Nat) o x,i < p1 → l[i]? = some o → X[i]? = some x → OpOK C l.toArray o (zaE (l.take i) (X.take i) yH) H x) (hX:X.length=p1)
 (haz : ∀ (i:Nat) o t,p1≤i → i < p → l[i]? = some o → o.op = .alloc t → ∃ z,zB C.P t=some z∧zs i=z.map .p∧zn C.nt o.dst=true)
 (hfl : ∀ (i:Nat) o t s v j u x,p≤i → i < p2 → l[i]? = some o → o.op = .store t (.tmp s) (.tmp v) → p1≤j → j < p → zl l.toArray j=some s → u < p1 → zl l.toArray u=some v → X[u]? = some x →
  ∃ xs,zf x=some xs∧(C.P.underlying t).isSome∧C.P.cellsOf t=xs.length∧0+xs.length≤(zs j).length∧fs i=setAt (zs j) 0 xs)
 (hfin : ∀ tr E T listed σ w a,Inv2 C l p1 p p2 X zs fs yH H σs ws m tr [] E T listed σ w a → wpAnyIn { Fence.wide with round:=ro } 0 C.P .any l.toArray R1 (l.length - p2) listed a w) :
 ∀ r tr rem E T listed σ w a,rem.length=r → Inv2 C l p1 p p2 X zs fs yH H σs ws m tr rem E T listed σ w a → wpAnyIn { Fence.wide with round:=ro } 0 C.P .any l.toArray R1 (r+(l.length - p2)) listed a w:=by
 intro r
 induction r with
 | zero =>
  intro tr rem E T listed σ w a hr I
  have:rem=[]:=List.eq_nil_of_length_eq_zero hr
  subst this
  rw [Nat.zero_add]
  exact hfin tr E T listed σ w a I
 | succ r ih =>
  intro tr rem E T listed σ w a hr I
  have hpl:p2≤l.length:=by simpa using hok.size
  have hle:=hok.le
  have hle2:=hok.le2
  have hunl : ∀ i,i < l.length → (listed.getD i true=false ↔ i ∉ tr.map (·.1)):=fun i hi=>by rw [I.lget i hi];simp
  have hlis : ∀ i,i < l.length → listed.getD i false=true → i∈tr.map (·.1):=fun i hi h=>by
   rw [getD_lt (by rw [I.lsz];exact hi) false true,I.lget i hi] at h
   simpa using h
  have hlis' : ∀ i,i < l.length → i∈tr.map (·.1) → listed.getD i false=true:=fun i hi h=>by
   rw [getD_lt (by rw [I.lsz];exact hi) false true,I.lget i hi]
   simpa using h
  have hne:rem≠[]:=fun h=>by rw [h] at hr;cases hr
  have hsome : ¬∀ i,i < p2 → i∈tr.map (·.1):=fun h=>by
   obtain⟨i,hi⟩:=List.exists_mem_of_ne_nil rem hne
   exact ((I.rem i).1 hi).2 (h i ((I.rem i).1 hi).1)
  rw [show r+1+(l.length - p2)=(r+(l.length - p2))+1 by omega]
  refine⟨fun h0 => ?_,fun i hi => ?_⟩
  · refine absurd ?_ hsome
    intro i
    induction i using Nat.strongRecOn with
    | _ i ihi =>
     intro hip
     refine Classical.byContradiction fun hni => ?_
     have hil:i < l.length:=by omega
     have hoi:l.toArray[i]? = some l[i]:=by simp [hil]
     have:i∈Region.ready .any l.toArray listed:=mem_ready.2 ⟨(hunl i hil).2 hni,l[i],hoi,fun e he hb=>by
      have hlt:=hok.back i _ hoi hip e he hb
      exact hlis' _ (by omega) (ihi _ hlt (by omega))⟩
     rw [h0] at this
     cases this
  · obtain⟨hun,o,ho,hall⟩:=mem_ready.1 hi
    have hil:i < l.length:=by simpa using (Array.getElem?_eq_some_iff.1 ho).1
    have hol:l[i]? = some o:=by simpa using ho
    have hni:=(hunl i hil).1 hun
    have hip:i < p2:=Classical.byContradiction fun h=>hsome fun j hj=>zbh (S:=fun j=>j∈tr.map (·.1)) I.cl p2 _ (fun j' hj'=>by
     obtain⟨h1,h2⟩:=List.mem_filter.1 hj'
     obtain⟨e,he,rfl⟩:=List.mem_map.1 h1
     obtain⟨h3,h4⟩:=List.mem_filter.1 he
     exact hlis _ (by simp at h2;omega) (hall e (Array.mem_toList_iff.1 h3) h4)) j (hok.late i o ho (by omega) j hj)
    have hirem:i∈rem:=(I.rem i).2 ⟨hip,hni⟩
    have hdst:zl l.toArray i=o.dst:=by simp [zl,ho]
    have hwt : ∀ j,j < l.length → waitsFor o j=true → j∈tr.map (·.1):=fun j hj hw=>hlis j hj (zau hw hall)
    -- what is handed on
    have go : ∀ (x:AV) (v:Value) (E':List Nat) (T':List AB) (σ':Gh) (w':World),E'.Nodup → (∀ j,j∈E' ↔ p1≤j∧j < p∧(j=i ∨ j∈tr.map (·.1))) → (∀ (k:Nat) j,E[k]? = some j → E'[k]? = some j) → T'=E'.map (fun j => .cells (row l.toArray p p2 zs fs (i :: tr.map (·.1)) j)) →
     (i < p1 → X[i]? = some x) → (p1≤i → i < p → ∃ k:Nat,E'[k]? = some i∧x = .ptr (H.n+k) 0) → Rel C.G σ' (app H T') w' → RelV σ' (app H T') w' x v → Ev (app H T).n σ (app H T) w σ' (app H T') w' → zn C.nt o.dst=true →
     wpAnyIn { Fence.wide with round:=ro } 0 C.P .any l.toArray R1 (r+(l.length - p2)) (listed.setIfInBounds i true) (a.put o.dst v) w':=by
     intro x v E' T' σ' w' hE1 hE2 hE3 hT hq hal hrel hrv hev hd
     refine ih ((i,x) :: tr) (rem.erase i) E' T' _ σ' w' _ (by rw [List.length_erase_of_mem hirem,hr];rfl) ⟨?_,I.rnd.erase i,fun j => ?_,fun j hj => ?_,fun j y hj h1 => ?_,fun j y hj h1 h2 => ?_,hE1,fun j => ?_,hT,fun j o' ho' hj e he hb => ?_,?_,fun j hj => ?_,hrel,?_,I.ev.trans (hev.weaken (by rw [app_n'];omega)) (Nat.le_refl _)⟩
     · rw [List.map_cons,List.nodup_cons];exact⟨hni,I.nd⟩
     · rw [I.rnd.mem_erase_iff,I.rem,List.map_cons,List.mem_cons]
       constructor
       · exact fun h=>⟨h.2.1,fun h'=>h'.elim h.1 h.2.2⟩
       · exact fun h=>⟨fun e=>h.2 (.inl e),h.1,fun e=>h.2 (.inr e)⟩
     · rw [List.map_cons,List.mem_cons] at hj
       rcases hj with rfl | hj
       · exact hip
       · exact I.lt j hj
     · rcases List.mem_cons.1 hj with h | h
       · cases h;exact hq h1
       · exact I.q j y h h1
     · rcases List.mem_cons.1 hj with h | h
       · cases h;exact hal h1 h2
       · obtain⟨k,hk,hy⟩:=I.al j y h h1 h2
         exact⟨k,hE3 k j hk,hy⟩
     · rw [List.map_cons,List.mem_cons];exact hE2 j
     · rw [List.map_cons,List.mem_cons] at hj ⊢
       rcases hj with h | h
       · simp only at h
         subst h
         rw [ho] at ho';cases ho'
         have:=hok.back j o ho hip e he hb
         exact .inr (hlis _ (by omega) (hall e he hb))
       · exact .inr (I.cl j o' ho' h e he hb)
     · rw [Array.size_setIfInBounds];exact I.lsz
     · rw [List.map_cons]
       by_cases hij:i=j
       · subst hij
         have:(listed.setIfInBounds i true).getD i true=true:=by simp [Array.getD_eq_getD_getElem?]
         rw [this];simp
       · rw [getD_set_ne true hij,I.lget j hj]
         simp [Ne.symm hij]
     · have:=(I.fr.mono hev).put (zL hd) hrv
       simp only [after,hdst]
       exact this
    have hlow:i < p → T=E.map (fun j => .cells (row l.toArray p p2 zs fs (i :: tr.map (·.1)) j)):=fun h=>by
     rw [I.t];exact List.map_congr_left fun j _=>by rw [zmu h]
    have hEno : ¬(p1≤i∧i < p) → ∀ j,j∈E ↔ p1≤j∧j < p∧(j=i ∨ j∈tr.map (·.1)):=fun hn j=>by
     rw [I.eiff]
     constructor
     · exact fun h=>⟨h.1,h.2.1,.inr h.2.2⟩
     · rintro ⟨h1,h2,rfl | h3⟩
       · exact absurd ⟨h1,h2⟩ hn
       · exact⟨h1,h2,h3⟩
    unfold wpOpIn
    simp only [ho]
    by_cases hi1:i < p1
    · -- a quiet operation
      have hxi:X[i]? = some X[i]:=by simp [hX,hi1]
      have hOK:OpOK C l.toArray o (after l.toArray yH tr) H X[i]:=by
       refine (hop i o X[i] hi1 hol hxi).congr fun s hs => ?_
       by_cases hw : ∃ j,j < p∧zl l.toArray j=some s
       · obtain⟨j,hj,hdj⟩:=hw
         obtain⟨h1,h2,h3⟩:=hok.quiet i o ho hi1 s hs j hj hdj
         have hjt:=hlis j (by omega) (zau h3 hall)
         obtain⟨⟨j',y⟩,hjy,rfl⟩:=List.mem_map.1 hjt
         have hjl:j' < l.length:=by omega
         have hoj:l[j']? = some l[j']:=by simp [hjl]
         have hdd:l[j'].dst=some s:=by simpa [zl,hoj] using hdj
         have hyx:=I.q j' y hjy h2
         rw [zaJ hjy hdj (fun k z hk hdk=>by
          have hkp:=I.lt k (List.mem_map.2 ⟨_,hk,rfl⟩)
          by_cases hkp':k < p
          · exact hok.dst j' l[j'] k s (by simp [hjl]) hj hkp' hdd hdk
          · obtain⟨_,hnone,_⟩:=hok.fill k l[k] (by first | (simp;done) | (simp;omega)) (by omega) hkp
            simp [zl,show k < l.length by omega,hnone] at hdk) I.nd]
         refine zan (j:=j') (o:=l[j']) (by rw [List.getElem?_take_of_lt h1];exact hoj) (by rw [List.getElem?_take_of_lt h1];exact hyx) hdd fun k o' hk hdk => ?_
         have hki:k < i:=by have:=(List.getElem?_eq_some_iff.1 hk).1;simp at this;omega
         rw [List.getElem?_take_of_lt hki] at hk
         exact hok.dst j' l[j'] k s (by simp [hjl]) hj (by omega) hdd (by simp [zl,hk,hdk])
       · rw [zaW fun j y hj hd=>hw ⟨j,by
          refine Classical.byContradiction fun hjp => ?_
          have hj2:=I.lt j (List.mem_map.2 ⟨_,hj,rfl⟩)
          obtain⟨_,hnone,_⟩:=hok.fill j l[j] (by first | (simp;done) | (simp;omega)) (by omega) hj2
          simp [zl,show j < l.length by omega,hnone] at hd,hd⟩]
         refine zaK fun j o' hj hd=>hw ⟨j,?_,?_⟩
         · have:=(List.getElem?_eq_some_iff.1 hj).1;simp at this;omega
         · have hji:j < i:=by have:=(List.getElem?_eq_some_iff.1 hj).1;simp at this;omega
           rw [List.getElem?_take_of_lt hji] at hj
           simp [zl,hj,hd]
      obtain⟨hd,hbn,hcase⟩:=hOK
      rcases hcase with ⟨hw,hstep⟩ | ⟨hw,hx⟩
      · rw [if_pos (ye hw I.fr rfl)]
        refine (hstep T).wp I.rel I.fr ?_
        intro x v H' σ' w' ⟨e1,e2⟩ _ hrel hrv hev
        subst e1;subst e2
        exact go _ v E T σ' w' I.end_ (hEno (by omega)) (fun _ _ h=>h) (hlow (by omega)) (fun _=>hxi) (fun h=>by omega) hrel hrv hev hd
      · rw [if_neg (by rw [ye hw I.fr rfl];simp)]
        refine⟨fun f _=>trivial,go X[i] undef E T σ w I.end_ (hEno (by omega)) (fun _ _ h=>h) (hlow (by omega)) (fun _=>hxi) (fun h=>by omega) I.rel (by rw [hx];exact .tup #[] rfl (by simp)) (Ev.refl (Nat.le_refl _)) hd⟩
    · by_cases hi2:i < p
      · -- an allocation
        obtain⟨⟨t,ht⟩,hg,s,hs⟩:=hok.alloc i o ho (by omega) hi2
        obtain⟨z,hz,hzs,hd⟩:=haz i o t (by omega) hi2 hol ht
        rw [if_pos (by simp [Region.wanted,hg])]
        have hstep:aOp1 C o (after l.toArray yH tr) (app H T) fun x H'=>x = .ptr (app H T).n 0∧H'=(app H T).new (.cells (zs i)):=by
         unfold aOp1
         rw [ht,hzs]
         simp only [zc,hz]
         exact⟨hd,rfl,rfl⟩
        refine hstep.wp I.rel I.fr ?_
        intro x v H' σ' w' ⟨e1,e2⟩ _ hrel hrv hev
        subst e1;subst e2
        have hTl:T.length=E.length:=by rw [I.t];simp
        have happ:(app H T).new (.cells (zs i))=app H (T++[.cells (zs i)]):=by rw [zmq,zdi]
        rw [happ] at hrel hrv hev
        have hrow:row l.toArray p p2 zs fs (i :: tr.map (·.1)) i=zs i:=by
         rw [zmu hi2]
         unfold row
         cases htg:tgt l.toArray p p2 i with
         | none=>rfl
         | some i' =>
          obtain⟨g1,g2,s',g3,g4⟩:=zaX htg
          have hni':i' ∉ tr.map (·.1):=fun hmem=>by
           obtain⟨_,_,t',s2,v',j',u',hop',_,hj2,hj3,hw',_⟩:=hok.fill i' l[i'] (by first | (simp;done) | (simp;omega)) g1 g2
           have:yl l.toArray i'=some s2:=by simp [yl,show i' < l.length by omega,hop']
           obtain rfl:s2=s':=by rw [this] at g3;exact Option.some.inj g3
           have hds:o.dst=some s2:=by rw [←hdst];exact g4
           have:j'=i:=hok.dst i o j' s2 ho hi2 hj2 hds hj3
           subst this
           obtain⟨e,he,hb⟩:=Array.any_eq_true'.1 hw'
           simp only [Bool.and_eq_true,beq_iff_eq] at hb
           have:=I.cl i' _ (by first | (simp;done) | (simp;omega)) hmem e he hb.1
           rw [hb.2] at this
           exact hni this
          simp [hni']
        refine go _ v (E++[i]) (T++[.cells (zs i)]) σ' w' (List.nodup_append.2 ⟨I.end_,by simp,fun j hj k hk e => ?_⟩) (fun j => ?_) (fun k j hk=>by rw [List.getElem?_append_left (List.getElem?_eq_some_iff.1 hk).1];exact hk) (by rw [List.map_append,←hlow hi2,List.map_cons,List.map_nil,hrow]) (fun h=>absurd h hi1) (fun _ _=>⟨E.length,by simp,by rw [app_n',hTl]⟩) hrel hrv hev hd
        · simp only [List.mem_singleton] at hk
          subst hk;subst e
          exact hni ((I.eiff _).1 hj).2.2
        · rw [List.mem_append,List.mem_singleton,I.eiff]
          constructor
          · rintro (h | rfl)
            · exact⟨h.1,h.2.1,.inr h.2.2⟩
            · exact⟨by omega,hi2,.inl rfl⟩
          · rintro ⟨h1,h2,rfl | h3⟩
            · exact .inr rfl
            · exact .inl ⟨h1,h2,h3⟩
      · -- a store
        obtain⟨hg,hdn,t,s,vv,j,u,hopi,hj1,hj2,hj3,hj4,hu1,hu2,hu3,huniq⟩:=hok.fill i o ho (by omega) hip
        have hsti:yl l.toArray i=some s:=by simp [yl,hil,show l[i]=o from (List.getElem?_eq_some_iff.1 hol).2,hopi]
        rw [if_pos (by simp [Region.wanted,hg])]
        have hnofill : ∀ k z s',(k,z)∈tr → zl l.toArray k=some s' → k < p:=fun k z s' hk hd=>by
         refine Classical.byContradiction fun hkp => ?_
         have hk2:=I.lt k (List.mem_map.2 ⟨_,hk,rfl⟩)
         obtain⟨_,hnone,_⟩:=hok.fill k l[k] (by first | (simp;done) | (simp;omega)) (by omega) hk2
         simp [zl,show k < l.length by omega,hnone] at hd
        have hget : ∀ k s',k < p → zl l.toArray k=some s' → waitsFor o k=true → ∃ x,(k,x)∈tr∧after l.toArray yH tr s'=x:=fun k s' hk hd hw=>by
         obtain⟨⟨k',x⟩,hkx,rfl⟩:=List.mem_map.1 (hwt k (by omega) hw)
         have hok':l[k']? = some l[k']:=by first | (simp;done) | (simp;omega)
         have hdd:l[k'].dst=some s':=by simpa [zl,hok'] using hd
         exact⟨x,hkx,zaJ hkx hd (fun k2 z hk2 hdk=>hok.dst k' l[k'] k2 s' (by first | (simp;done) | (simp;omega)) hk (hnofill k2 z s' hk2 hdk) hdd hdk) I.nd⟩
        obtain⟨xj,hxj,hsj⟩:=hget j s hj2 hj3 hj4
        obtain⟨xu,hxu,hsu⟩:=hget u vv (by omega) hu2 hu3
        obtain⟨k,hk,rfl⟩:=I.al j xj hxj hj1 hj2
        have hXu:=I.q u xu hxu hu1
        obtain⟨xs,a1,a2,a3,a4,a5⟩:=hfl i o t s vv j u xu (by omega) hip hol hopi hj1 hj2 hj3 hu1 hu2 hXu
        have htg:tgt l.toArray p p2 j=some i:=zqa hok (by omega) hip hsti hj3
        have hkE:=(List.getElem?_eq_some_iff.1 hk).1
        have hTk:T[k]? = some (.cells (zs j)):=by
         rw [I.t,List.getElem?_map,hk]
         simp [row,htg,hni]
        have hkT:k < T.length:=(List.getElem?_eq_some_iff.1 hTk).1
        have hstep:aOp1 C o (after l.toArray yH tr) (app H T) fun x H'=>x = .top∧H'=app H (T.set k (.cells (fs i))):=by
         unfold aOp1
         rw [hopi]
         simp only [zc,zhg,zfa,hsj,hsu]
         unfold zb2
         simp only [zcj,hTk,a1]
         rw [if_pos ⟨a2,a3,a4⟩,←a5,zc2 hkT]
         exact⟨hdn,rfl,rfl⟩
        refine hstep.wp I.rel I.fr ?_
        intro x v H' σ' w' ⟨e1,e2⟩ _ hrel hrv hev
        subst e1;subst e2
        refine go _ v E (T.set k (.cells (fs i))) σ' w' I.end_ (hEno (by omega)) (fun _ _ h=>h) ?_ (fun h=>absurd h hi1) (fun _ h=>absurd h hi2) hrel hrv hev (by rw [hdn];rfl)
        refine List.ext_getElem (by rw [List.length_set,I.t];simp) fun k' h1 h2 => ?_
        rw [List.getElem_set,List.getElem_map]
        have hk'E:k' < E.length:=by simpa using h2
        split
        · rename_i e
          subst e
          have:E[k]=j:=(List.getElem?_eq_some_iff.1 hk).2
          rw [this]
          simp [row,htg]
        · rename_i e
          have hk'T:T[k']? = some (.cells (row l.toArray p p2 zs fs (tr.map (·.1)) E[k'])):=by rw [I.t,List.getElem?_map,List.getElem?_eq_getElem hk'E];rfl
          have hT':=(List.getElem?_eq_some_iff.1 hk'T).2
          rw [hT']
          have hrr : ∀ J,J=E[k'] → row l.toArray p p2 zs fs (i :: tr.map (·.1)) J=row l.toArray p p2 zs fs (tr.map (·.1)) J:=fun J hJ=>by
           unfold row
           cases htg':tgt l.toArray p p2 J with
           | none=>rfl
           | some i' =>
            have hne:i'≠i:=fun e'=>by
             subst e'
             obtain⟨_,_,s',g3,g4⟩:=zaX htg'
             rw [hsti] at g3
             cases g3
             have hEk:=(I.eiff J).1 (by rw [hJ];exact List.getElem_mem hk'E)
             have hjE:J=j:=by
              have hjl:j < l.length:=by omega
              have hdd:l[j].dst=some s:=by simpa [zl,hjl] using hj3
              exact hok.dst j l[j] J s (by simp [hjl]) hj2 hEk.2.1 hdd g4
             have hEj:E[k]=j:=(List.getElem?_eq_some_iff.1 hk).2
             exact e ((List.getElem_inj I.end_).1 (hEj.trans (hjE.symm.trans hJ)))
            by_cases hm:i'∈tr.map (·.1)
            · exact (if_pos (List.mem_cons_of_mem _ hm)).trans (if_pos hm).symm
            · exact (if_neg (fun h=>(List.mem_cons.1 h).elim hne hm)).trans (if_neg hm).symm
          rw [hrr _ rfl]

def zav (ops:Array Oper) (p p2:Nat) (zs fs:Nat → List AV) (j:Nat):List AV:=match tgt ops p p2 j with
 | some i=>fs i
 | none=>zs j

theorem zmv {ops:Array Oper} {tr:List Nat} (h : ∀ i,i < p2 → i∈tr) (j:Nat):row ops p p2 zs fs tr j=zav ops p p2 zs fs j:=by
 unfold row zav
 cases ht:tgt ops p p2 j with
 | none=>rfl
 | some i=>exact if_pos (h i (zaX ht).2.1)

theorem zlu (hok:OkF l.toArray p1 p p2) (hop : ∀ (i:Nat) o x,i < p1 → l[i]? = some o → X[i]? = some x → BelowN H.n x) (hX:X.length=p1) (hb0 : ∀ s,BelowN H.n (yH s)) (hbel:Bel H.n H)
 (hbr : ∀ j,p1≤j → j < p → ∀ y∈zav l.toArray p p2 zs fs j,BelowN H.n y)
 {tr:List (Nat × AV)} {E:List Nat} {T:List AB} {listed:Array Bool} {σ:Gh} {w:World} {a:Act} (I:Inv2 C l p1 p p2 X zs fs yH H σs ws m tr [] E T listed σ w a) :
 ∃ σ',Rel C.G σ' (app H ((List.range (p - p1)).map fun j => .cells (zav l.toArray p p2 zs fs (p1+j)))) w ∧
  RelF C.nt m σ' (app H ((List.range (p - p1)).map fun j => .cells (zav l.toArray p p2 zs fs (p1+j)))) w (zaE (l.take p) (X++(List.range (p - p1)).map fun j => .ptr (H.n+j) 0) yH) a ∧
  Ev H.n σs H ws σ' (app H ((List.range (p - p1)).map fun j => .cells (zav l.toArray p p2 zs fs (p1+j)))) w∧listed=((List.range l.length).map fun i=>decide (i < p2)).toArray:=by
 have hpl:p2≤l.length:=by simpa using hok.size
 have hle:=hok.le
 have hle2:=hok.le2
 have hin : ∀ i,i < p2 → i∈tr.map (·.1):=fun i hi=>Classical.byContradiction fun h=>by
  have:=(I.rem i).2 ⟨hi,h⟩
  cases this
 have hEm : ∀ i,i∈E ↔ p1≤i∧i < p1+(p - p1):=fun i=>by
  rw [I.eiff]
  exact⟨fun h=>⟨h.1,by omega⟩,fun h=>⟨h.1,by omega,hin i (by omega)⟩⟩
 have hEl:E.length=p - p1:=zgx I.end_ hEm
 have hT:T=E.map fun j => .cells (zav l.toArray p p2 zs fs j):=by rw [I.t];exact List.map_congr_left fun j _=>by rw [zmv hin]
 have hP:=zms (H:=H) (σ:=σ) (p:=p1) (E:=E) (T:=T) (T':=(List.range (p - p1)).map fun j => .cells (zav l.toArray p p2 zs fs (p1+j))) I.end_ (by rw [hEl];exact hEm) (by rw [hT];simp) (by simp [hEl]) (fun i hi=>by
  have hix:E.idxOf (p1+i) < E.length:=List.idxOf_lt_length_iff.2 ((hEm _).2 ⟨by omega,by omega⟩)
  rw [hT,List.getElem?_map,List.getElem?_map,List.getElem?_eq_getElem hix,List.getElem_idxOf hix]
  simp [hEl ▸ hi]) (fun x hx y hy=>by
   rw [hT] at hx
   obtain⟨i,hi,rfl⟩:=List.mem_map.1 hx
   have:=(hEm i).1 hi
   exact hbr i this.1 (by omega) y hy)
 have hbel':Bel H.n (app H T):=fun b x hb hf y hy=>hbel b x hb (by rwa [zbT hb] at hf) y hy
 have hnofill : ∀ k z s',(k,z)∈tr → zl l.toArray k=some s' → k < p:=fun k z s' hk hd=>by
  refine Classical.byContradiction fun hkp => ?_
  have hk2:=I.lt k (List.mem_map.2 ⟨_,hk,rfl⟩)
  obtain⟨_,hnone,_⟩:=hok.fill k l[k] (by first | (simp;done) | (simp;omega)) (by omega) hk2
  simp [zl,show k < l.length by omega,hnone] at hd
 refine⟨_,hP.rel hbel' I.rel,⟨?_,I.fr.size,fun s => ?_⟩,I.ev.trans hP.ev (Nat.le_refl _),?_⟩
 · obtain⟨ms,q1,q2,q3⟩:=I.fr.defers
   exact⟨ms,q1,q2,fun g hg=>let ⟨a1,a2,a3⟩:=q3 g hg;⟨a1,a2,hP.free a3⟩⟩
 · have hs:=I.fr.slot s
   have hget : ∀ (j:Nat) o',(l.take p)[j]? = some o' → j < p∧zl l.toArray j=o'.dst:=fun j o' hj=>by
    have hjp:j < p:=by have:=(List.getElem?_eq_some_iff.1 hj).1;simp at this;omega
    rw [List.getElem?_take_of_lt hjp] at hj
    exact⟨hjp,by simp [zl,hj]⟩
   by_cases hw : ∃ j,j < p∧zl l.toArray j=some s
   · obtain⟨j,hj,hdj⟩:=hw
     obtain⟨⟨j',x⟩,hjx,rfl⟩:=List.mem_map.1 (hin j (by omega))
     have hjl:j' < l.length:=by have:j' < p:=hj;omega
     have hoj:l[j']? = some l[j']:=by simp [hjl]
     have hdd:l[j'].dst=some s:=by simpa [zl,hoj] using hdj
     rw [zaJ hjx hdj (fun i z hi hdi=>hok.dst j' l[j'] i s (by simp [hjl]) hj (hnofill i z s hi hdi) hdd hdi) I.nd] at hs
     have huniq : ∀ (i:Nat) o',(l.take p)[i]? = some o' → o'.dst=some s → i=j':=fun i o' hi hdi=>by
      obtain⟨h1,h2⟩:=hget i o' hi
      exact hok.dst j' l[j'] i s (by simp [hjl]) hj h1 hdd (h2.trans hdi)
     have hoj':(l.take p)[j']? = some l[j']:=by rw [List.getElem?_take_of_lt hj];exact hoj
     by_cases h1:j' < p1
     · have hxj:=I.q j' x hjx h1
       rw [zan (x:=x) hoj' (by rw [List.getElem?_append_left (by omega)];exact hxj) hdd huniq]
       exact hP.relV hs (hop j' _ x h1 hoj hxj)
     · obtain⟨kk,hk,rfl⟩:=I.al j' x hjx (by omega) hj
       rw [zan (x := .ptr (H.n+(j' - p1)) 0) hoj' (by have hj2:j' < p:=hj;rw [List.getElem?_append_right (by omega),hX,List.getElem?_map,List.getElem?_range (by omega)];rfl) hdd huniq]
       generalize a.tmps.getD s undef=v at hs
       have hkl:=(List.getElem?_eq_some_iff.1 hk).1
       have hidx:E.idxOf j'=kk:=by
        have hix:E.idxOf j' < E.length:=List.idxOf_lt_length_iff.2 (List.mem_of_getElem? hk)
        refine (List.getElem_inj I.end_ (h₀:=hix) (h₁:=hkl)).1 ?_
        rw [List.getElem_idxOf hix]
        exact (List.getElem?_eq_some_iff.1 hk).2.symm
       have hperm:yL H.n p1 E (H.n+(j' - p1))=H.n+kk:=by
        have hj2:j' < p:=hj
        unfold yL
        rw [if_pos (by omega),Nat.add_sub_cancel_left,show p1+(j' - p1)=j' by omega,hidx]
       cases hs with | ptr hb =>
       rw [←hperm]
       exact .ptr (σ:=⟨fun b=>σ.c (yL H.n p1 E b),fun b=>σ.t (yL H.n p1 E b)⟩) (by rw [app_n',List.length_map,List.length_range];have:j' < p:=hj;omega)
   · rw [zaW fun j y hj hd=>hw ⟨j,hnofill j y s hj hd,hd⟩] at hs
     rw [zaK fun j o' hj hd=>hw ⟨j,(hget j o' hj).1,(hget j o' hj).2.trans hd⟩]
     exact hP.relV hs (hb0 s)
 · refine Array.ext (by rw [I.lsz];simp) fun i h1 h2 => ?_
   rw [I.lsz] at h1
   have:=I.lget i h1
   rw [Array.getD_eq_getD_getElem?,Array.getElem?_eq_getElem (by rw [I.lsz];exact h1)] at this
   simp only [Option.getD_some] at this
   rw [this]
   simp only [List.getElem_toArray,List.getElem_map,List.getElem_range]
   rw [decide_eq_decide]
   exact⟨fun h=>I.lt i h,hin i⟩

def zao (l:List Oper) (p1 p:Nat) (zs:Nat → List AV) (env:Env) (i:Nat):List AV:=match l[i]? with
 | some o=>(match o.op with
  | .store _ (.tmp s) (.tmp v)=>setAt (zs (((List.range p).find? fun j=>decide (p1≤j) && zl l.toArray j == some s).getD 0)) 0 ((zf (env v)).getD [])
  | _=>[])
 | none=>[]

theorem zjj (hok:OkF l.toArray p1 p p2) {env:Env} {i j:Nat} {o:Oper} {t:TypeId} {s v:Nat} {xs:List AV} (ho:l[i]? = some o) (hop:o.op = .store t (.tmp s) (.tmp v)) (h1:p1≤j) (h2:j < p) (hj:zl l.toArray j=some s) (hx:zf (env v)=some xs) :
 zao l p1 p zs env i=setAt (zs j) 0 xs:=by
 unfold zao
 simp only [ho,hop,hx,Option.getD_some]
 have:(List.range p).find? (fun j=>decide (p1≤j) && zl l.toArray j == some s)=some j:=by
  cases hf:(List.range p).find? (fun j=>decide (p1≤j) && zl l.toArray j == some s) with
  | none =>
   have:=List.find?_eq_none.1 hf j (by simpa using h2)
   simp [h1,hj] at this
  | some j' =>
   have g1:=List.find?_some hf
   have g2:=List.mem_of_find?_eq_some hf
   simp only [Bool.and_eq_true,decide_eq_true_eq,beq_iff_eq] at g1
   have hpl:p2≤l.length:=by simpa using hok.size
   have hle2:=hok.le2
   have hjl:j < l.length:=by omega
   rw [hok.dst j l[j] j' s (by simp [hjl]) h2 (by simpa using g2) (by simpa [zl,hjl] using hj) g1.2]
 rw [this,Option.getD_some]

theorem zgy {q:Nat → Bool} {k:List Item} {env:Env} {R:AV → Hp → Prop} (hok:OkF l.toArray p1 p p2) (henv : ∀ j s,p1≤j → j < p → zl l.toArray j=some s → env s = .ptr (H.n+(j - p1)) 0) :
 ∀ (c i:Nat),i+c=p2 → p≤i → zU C l.toArray q i (l.drop i) k env (app H ((List.range (p - p1)).map fun j => .cells (row l.toArray p p2 zs (zao l p1 p zs env) (List.range i) (p1+j)))) R →
  (∀ (i':Nat) o t s v j,i≤i' → i' < p2 → l[i']? = some o → o.op = .store t (.tmp s) (.tmp v) → p1≤j → j < p → zl l.toArray j=some s → ∃ xs,zf (env v)=some xs∧(C.P.underlying t).isSome∧C.P.cellsOf t=xs.length∧0+xs.length≤(zs j).length) ∧
  zU C l.toArray q p2 (l.drop p2) k env (app H ((List.range (p - p1)).map fun j => .cells (zav l.toArray p p2 zs (zao l p1 p zs env) (p1+j)))) R
 | 0,i,hi,hp,h=>by
  have:i=p2:=by omega
  subst this
  refine⟨fun i' o t s v j h1 h2=>by omega,?_⟩
  have e:((List.range (p - p1)).map fun j=>AB.cells (row l.toArray p i zs (zao l p1 p zs env) (List.range i) (p1+j)))=(List.range (p - p1)).map fun j => .cells (zav l.toArray p i zs (zao l p1 p zs env) (p1+j)) :=
   List.map_congr_left fun j _=>by rw [zmv fun i hi=>by simpa using hi]
  rw [e] at h
  exact h
 | c+1,i,hi,hp,h=>by
  have hpl:p2≤l.length:=by simpa using hok.size
  have hil:i < l.length:=by omega
  have hol:l[i]? = some l[i]:=by simp [hil]
  obtain⟨hg,hdn,t,s,v,j,u,hop,hj1,hj2,hj3,_,_,_,_,huniq⟩:=hok.fill i l[i] (by simp [hil]) hp (by omega)
  have hsti:yl l.toArray i=some s:=by simp [yl,hil,hop]
  have htg:tgt l.toArray p p2 j=some i:=zqa hok hp (by omega) hsti hj3
  rw [List.drop_eq_getElem_cons hil] at h
  unfold zU at h
  rw [hg,show zk C.nt l.toArray none env=some true from rfl] at h
  simp only [hop,zc,zhg,zfa,henv j s hj1 hj2 hj3] at h
  have hrow:((List.range (p - p1)).map fun j=>AB.cells (row l.toArray p p2 zs (zao l p1 p zs env) (List.range i) (p1+j)))[j - p1]? = some (.cells (zs j)):=by
   rw [List.getElem?_map,List.getElem?_range (by omega),Option.map_some,show p1+(j - p1)=j by omega]
   simp [row,htg]
  unfold zb2 at h
  simp only [zcj,hrow] at h
  cases hx:zf (env v) with
  | none=>rw [hx] at h;exact h.elim
  | some xs =>
   rw [hx] at h
   simp only at h
   by_cases hc:(C.P.underlying t).isSome=true∧C.P.cellsOf t=xs.length∧0+xs.length≤(zs j).length
   · rw [if_pos hc] at h
     obtain⟨_,_,h2⟩:=h
     rw [zc2 (by simp;omega)] at h2
     have hrows:((List.range (p - p1)).map fun j=>AB.cells (row l.toArray p p2 zs (zao l p1 p zs env) (List.range i) (p1+j))).set (j - p1) (.cells (setAt (zs j) 0 xs))=(List.range (p - p1)).map fun j => .cells (row l.toArray p p2 zs (zao l p1 p zs env) (List.range (i+1)) (p1+j)):=by
      refine List.ext_getElem (by simp) fun k' h1 h2 => ?_
      have hk':k' < p - p1:=by simpa using h2
      rw [List.getElem_set]
      split
      · rename_i e
        subst e
        simp only [List.getElem_map,List.getElem_range,show p1+(j - p1)=j by omega]
        rw [show row l.toArray p p2 zs (zao l p1 p zs env) (List.range (i+1)) j=zao l p1 p zs env i by simp [row,htg],zjj hok hol hop hj1 hj2 hj3 hx]
      · rename_i e
        simp only [List.getElem_map,List.getElem_range]
        congr 1
        unfold row
        cases htg':tgt l.toArray p p2 (p1+k') with
        | none=>rfl
        | some i' =>
         have hne:i'≠i:=fun e'=>by
          subst e'
          obtain⟨_,_,s',g3,g4⟩:=zaX htg'
          rw [hsti] at g3
          cases g3
          have hjl:j < l.length:=by have:=hok.le2;omega
          have:=hok.dst j l[j] (p1+k') s (by simp [hjl]) hj2 (by omega) (by simpa [zl,hjl] using hj3) g4
          omega
         by_cases hm:i'∈List.range i
         · exact (if_pos hm).trans (if_pos (by simp at hm ⊢;omega)).symm
         · exact (if_neg hm).trans (if_neg (by simp at hm ⊢;omega)).symm
     rw [hrows] at h2
     obtain⟨g1,g2⟩:=zgy hok henv c (i+1) (by omega) (by omega) h2
     refine⟨fun i' o' t' s' v' j' a1 a2 a3 a4 a5 a6 a7 => ?_,g2⟩
     by_cases hii:i'=i
     · subst hii
       rw [hol] at a3;cases a3
       rw [hop] at a4;cases a4
       have hjl:j < l.length:=by have:=hok.le2;omega
       have:j'=j:=hok.dst j l[j] j' s (by simp [hjl]) hj2 a6 (by simpa [zl,hjl] using hj3) a7
       subst this
       exact⟨xs,hx,hc.1,hc.2.1,hc.2.2⟩
     · exact g1 i' o' t' s' v' j' (by omega) a2 a3 a4 a5 a6 a7
   · rw [if_neg hc] at h;exact h.elim
end phase


section openF
variable {C:Cx} {k:List Item} {env:Env} {H:Hp} {R:AV → Hp → Prop}

theorem ARun.openF {id:Nat} {l:List Oper} (p1 p p2:Nat) (loud:List Nat) (hm:C.P.follows .mixedOrders=true) (hok:okF l.toArray p1 p p2=true)
 (hB:zii (zM loud) l.toArray (l.length - p2) p2 ((List.range l.length).map fun i=>decide (i < p2)).toArray=true)
 (h:zhu C l.toArray (zM loud) (l.take p1) p1 (l.drop p1) k env H R):ARun C (.code (.region id l.toArray true) :: k) env H R :=
 .of_wp fun σ w a m hpre=>by
  obtain⟨X,hX,hK,hop⟩:=zdJ h
  have hokE:=zp9 hok
  have hle:=hokE.le
  have hle2:=hokE.le2
  have hpl:p2≤l.length:=by simpa using hokE.size
  rw [List.length_take,Nat.min_eq_left (by omega)] at hX
  have hdrop:l.drop p1=(l.drop p1).take (p - p1)++l.drop p:=by
   conv=>lhs;rw [←List.take_append_drop (p - p1) (l.drop p1)]
   rw [List.drop_drop,show p1+(p - p1)=p by omega]
  have hgd : ∀ (i:Nat) o,((l.drop p1).take (p - p1))[i]? = some o → i < p - p1∧l[p1+i]? = some o:=fun i o hi=>by
   have hlt:i < p - p1:=by have:=(List.getElem?_eq_some_iff.1 hi).1;simp at this;omega
   rw [List.getElem?_take_of_lt hlt,List.getElem?_drop] at hi
   exact⟨hlt,hi⟩
  have hlen:((l.drop p1).take (p - p1)).length=p - p1:=by rw [List.length_take,List.length_drop];omega
  rw [hdrop] at hK
  obtain⟨Z,z1,z2,z3⟩:=zc1 _ p1 _ H (fun o ho=>by
   obtain⟨i,hi⟩:=List.getElem?_of_mem ho
   obtain⟨h1,h2⟩:=hgd i o hi
   exact hokE.alloc (p1+i) o (by simpa using h2) (by omega) (by omega)) hK
  rw [hlen] at z1 z3
  have hop' : ∀ (i:Nat) o x,i < p1 → l[i]? = some o → X[i]? = some x → OpOK C l.toArray o (zaE (l.take i) (X.take i) env) H x:=fun i o x hi ho hx=>by
   have:=hop i o x (by rw [List.getElem?_take_of_lt hi];exact ho) hx
   rwa [List.take_take,Nat.min_eq_left (by omega)] at this
  generalize hzs:(fun i=>((Z[i - p1]?).getD []).map AV.p)=zs
  generalize henvF:zaE (l.take p) (X++(List.range (p - p1)).map fun j => .ptr (H.n+j) 0) env=envF
  have hput : ∀ j x s,j < p → (X++(List.range (p - p1)).map fun j=>AV.ptr (H.n+j) 0)[j]? = some x → zl l.toArray j=some s → envF s=x:=fun j x s hj hx hd=>by
   have hjl:j < l.length:=by omega
   rw [←henvF]
   refine zan (o:=l[j]) (by rw [List.getElem?_take_of_lt hj];simp [hjl]) hx (by simpa [zl,hjl] using hd) fun j' o' hj' hd' => ?_
   have hjp:j' < p:=by have:=(List.getElem?_eq_some_iff.1 hj').1;simp at this;omega
   rw [List.getElem?_take_of_lt hjp] at hj'
   exact hokE.dst j l[j] j' s (by simp [hjl]) hj hjp (by simpa [zl,hjl] using hd) (by simp [zl,hj',hd'])
  have henv : ∀ j s,p1≤j → j < p → zl l.toArray j=some s → envF s = .ptr (H.n+(j - p1)) 0:=fun j s h1 h2 hd =>
   hput j _ s h2 (by rw [List.getElem?_append_right (by omega),hX,List.getElem?_map,List.getElem?_range (by omega)];rfl) hd
  have hrows:((List.range (p - p1)).map fun j=>AB.cells (row l.toArray p p2 zs (zao l p1 p zs envF) (List.range p) (p1+j)))=Z.map fun z => .cells (z.map .p):=by
   refine List.ext_getElem (by simp [z1]) fun i h1 h2 => ?_
   have hz:i < Z.length:=by simpa using h2
   have:row l.toArray p p2 zs (zao l p1 p zs envF) (List.range p) (p1+i)=zs (p1+i):=by
    unfold row
    cases htg:tgt l.toArray p p2 (p1+i) with
    | none=>rfl
    | some i'=>exact if_neg (by have:=(zaX htg).1;simp;omega)
   simp only [List.getElem_map,List.getElem_range,this]
   rw [←hzs]
   simp [hz]
  have hrun0:zU C l.toArray (zM loud) p (l.drop p) k envF (app H ((List.range (p - p1)).map fun j => .cells (row l.toArray p p2 zs (zao l p1 p zs envF) (List.range p) (p1+j)))) R:=by
   rw [hrows,←henvF]
   have e:l.take p=l.take p1++(l.drop p1).take (p - p1):=by
    conv=>lhs;rw [show p=p1+(p - p1) by omega,List.take_add]
   rw [e,zck (by rw [hX,List.length_take];omega)]
   rw [show p1+(p - p1)=p by omega] at z3
   exact z3
  obtain⟨f1,f2⟩:=zgy (C:=C) (zs:=zs) hokE henv (p2 - p) p (by omega) (Nat.le_refl _) hrun0
  have hXF : ∀ u v x,u < p1 → zl l.toArray u=some v → X[u]? = some x → envF v=x:=fun u v x hu hd hx=>hput u x v (by omega) (by rw [List.getElem?_append_left (by omega)];exact hx) hd
  have hfl : ∀ (i:Nat) o t s v j u x,p≤i → i < p2 → l[i]? = some o → o.op = .store t (.tmp s) (.tmp v) → p1≤j → j < p → zl l.toArray j=some s → u < p1 → zl l.toArray u=some v → X[u]? = some x →
   ∃ xs,zf x=some xs∧(C.P.underlying t).isSome∧C.P.cellsOf t=xs.length∧0+xs.length≤(zs j).length∧zao l p1 p zs envF i=setAt (zs j) 0 xs:=fun i o t s v j u x h1 h2 ho hp h3 h4 h5 h6 h7 h8=>by
   obtain⟨xs,b1,b2,b3,b4⟩:=f1 i o t s v j h1 h2 ho hp h3 h4 h5
   exact⟨xs,by rw [←hXF u v x h6 h7 h8];exact b1,b2,b3,b4,zjj hokE ho hp h3 h4 h5 b1⟩
  have hbz : ∀ j,∀ y∈zs j,BelowN H.n y:=fun j y hy=>by
   rw [←hzs] at hy
   obtain⟨z,_,rfl⟩:=List.mem_map.1 hy
   exact .p z
  have hbr : ∀ j,p1≤j → j < p → ∀ y∈zav l.toArray p p2 zs (zao l p1 p zs envF) j,BelowN H.n y:=fun j h1 h2 y hy=>by
   unfold zav at hy
   cases htg:tgt l.toArray p p2 j with
   | none=>rw [htg] at hy;exact hbz j y hy
   | some i =>
    rw [htg] at hy
    obtain⟨c1,c2,s,c3,c4⟩:=zaX htg
    have hil:i < l.length:=by omega
    obtain⟨_,_,t,s',v,j',u,hopi,j1,j2,j3,_,u1,u2,_,_⟩:=hokE.fill i l[i] (by simp [hil]) c1 c2
    have:yl l.toArray i=some s':=by simp [yl,hil,hopi]
    obtain rfl:s'=s:=by rw [this] at c3;exact Option.some.inj c3
    have hxu:X[u]? = some X[u]:=by simp [hX,u1]
    obtain⟨xs,b1,_,_,b4,b5⟩:=hfl i l[i] t s' v j u X[u] c1 c2 (by simp [hil]) hopi h1 h2 c4 u1 u2 hxu
    simp only [b5] at hy
    rcases zou b4 hy with hy | hy
    · exact hbz j y hy
    · exact zhv b1 ((hop' u l[u] X[u] u1 (by first | (simp;done) | (simp;omega)) hxu).2.1) y hy
  obtain⟨g1,g2⟩:=zaM hpre.rel
  refine wpIn_region_any hm ?_
  rw [List.size_toArray]
  have key:=zt2 (C:=C) (l:=l) (p1:=p1) (p:=p) (p2:=p2) (X:=X) (zs:=zs) (fs:=zao l p1 p zs envF) (yH:=env) (H:=H) (σs:=σ) (ws:=w) (m:=m) (ro:=C.round.map σ.c)
   (R1:=fun e a' w'=>e = .normal ∧ ∃ env' H' σ',ARun C k env' H' R∧Pre C σ' H' w' env' a' m∧Ev H.n σ H w σ' H' w') hokE hop' hX
   (fun i o t h1 h2 ho ht=>by
    obtain⟨z,q1,q2,q3⟩:=z2 (i - p1) o t (by rw [List.getElem?_take_of_lt (by omega),List.getElem?_drop,show p1+(i - p1)=i by omega];exact ho) ht
    exact⟨z,q2,by rw [←hzs];simp [q1],q3⟩) hfl
   (fun tr E T listed σ1 w1 a1 I=>by
    obtain⟨σ2,r1,r2,r3,r4⟩:=zlu hokE (fun i o x h1 h2 h3=>(hop' i o x h1 h2 h3).2.1) hX (fun s=>(hpre.fr.slot s).belowN) hpre.rel.bel hbr I
    rw [henvF] at r2
    subst r4
    have hla : ∀ j,(l.drop p2)[j]? = l.toArray[p2+j]? := fun j=>by rw [List.getElem?_drop];simp
    have hA:=zce (C:=C) (ops:=l.toArray) (Q:=fun env' H'=>ARun C k env' H' R) (l.drop p2) p2 _ _ _ hla (by rw [List.length_drop];exact hB) (zC hla f2)
    rw [List.length_drop] at hA
    exact zW (n1:=H.n) (m:=m) (l.length - p2) _ _ _ σ2 w1 a1 hA r1 r2 (by rw [app_n'];omega) fun env' H' σ' w' a' b1 b2 b3 b4=>⟨rfl,env',H',σ',b1,hpre.go b2 b3 (r3.trans b4 (Nat.le_refl _)),r3.trans b4 (Nat.le_refl _)⟩)
   p2 [] (List.range p2) [] [] (Array.replicate l.length false) σ w.drew a (by simp)
   ⟨List.nodup_nil,List.nodup_range,fun i=>by simp,fun i h=>by simp at h,fun i x h=>by simp at h,fun i x h=>by simp at h,List.nodup_nil,fun i=>by simp,rfl,fun k o _ hk=>by simp at hk,by simp,fun i hi=>by simp [Array.getD_eq_getD_getElem?,hi],g1,hpre.fr.mono g2,g2⟩
  rw [show p2+(l.length - p2)=l.length by omega] at key
  exact key
end openF

end Go.AL

/-
  Rows that are built by append and written by name: where they begin and where they become plain data.
  Conditions: none;nothing here speaks of one program.
-/
namespace Go.AL
open Go

section vec
variable {C:Cx} {todo:List Item} {env:Env} {H:Hp} {R:AV → Hp → Prop} {α:Type} {f:α → PV} {l:List α}

theorem ARun.vec (t:Nat) {sz:Nat} (ht:env t = .p (.sl true sz [])) (h:ARun C todo (env.put (some t) (.vr H.n 0 sz)) (H.new (.vec [])) R):ARun C todo env H R :=
 .ghost (fun σ w a m hpre=>by
  obtain⟨r1,e1⟩:=zbj hpre.rel (w':=w) (Nat.le_refl _) (fun _ _=>rfl) rfl rfl 0 (some []) none (fun _ _ _ hh=>by cases hh) (fun cs hcs=>by cases hcs;exact⟨rfl,fun _=>rfl,fun _ _ _ hh=>by cases hh⟩)
  refine⟨_,r1,fun i => ?_,e1⟩
  simp only [Env.put]
  by_cases hi:i=t
  · subst hi
    rw [if_pos rfl]
    have hs:=hpre.fr.slot i
    rw [ht] at hs
    generalize a.tmps.getD i undef=v at hs
    have hv : ∃ ad,v = .slice ad 0 0∧zeH ad 0:=by
     cases hs with | p hp =>
     cases hp with
     | emp _ _ a cap h0 hc=>exact⟨a,by rw [h0 rfl],by simp [zeH]⟩
     | sl _ _ _ g off cap F hfl hcap hsz hrd hc =>
      have:=hfl rfl
      simp only [List.length_nil] at this
      subst this
      exact⟨_,rfl,by simp [zeH]⟩
    obtain⟨ad,rfl,hado⟩:=hv
    refine .vr ⟨by simp [Hp.n_new],ad,0,rfl,hado,fun k0 c hk0 => ?_⟩
    simp [Hp.f_new] at hk0
    exact⟨by simp,fun _ => .inl ⟨rfl,rfl,by simp [Gh.withT]⟩⟩
  · rw [if_neg hi];exact (hpre.fr.slot i).mono e1) h

theorem zdm {G:Globs} {σ:Gh} {w:World} (hr:Rel G σ H w) {b k g s:Nat} {c:Option (List AV)} (hb:H.f b=some (.tl k c)) (ht:σ.t b=some (g,0,s)) (o:Nat):Stable σ (H.set b .dead) g o:=by
 have hf : ∀ b' x,x ≠ .dead → (H.set b .dead).f b'=some x → b'≠b∧H.f b'=some x:=by
  intro b' x hx h
  rw [Hp.f_set] at h
  split at h
  · cases h;exact absurd rfl hx
  · rename_i hh
    exact⟨fun e=>hh ⟨e,Hp.lt hb⟩,h⟩
 refine⟨fun b' x h e => ?_,fun b' k' d o2 s' h ht' => ?_⟩
 · obtain⟨h1,h2⟩:=hf b' _ (by simp) h
   exact hr.ct b' b x k c g 0 s h2 hb ht e
 · obtain⟨h1,h2⟩:=hf b' _ (by simp) h
   exact absurd (hr.tt b' b k' d k c g o2 s' 0 s h2 hb ht' ht) h1

theorem ARun.frzV (t:Nat) {b len sz:Nat} {cs:List AV} {xs:List PV} (ht:env t = .vr b len sz) (hb:(H.f b).bind AB.vec? = some cs) (hcs:cs=(flat xs).map .p) (hl:xs.length=len) (hsz : ∀ x∈xs,x.cells.length=sz)
 (h:ARun C todo (env.put (some t) (.p (.sl false sz xs))) (H.set b .dead) R):ARun C todo env H R :=
 .ghost (fun σ w a m hpre=>by
  obtain⟨r1,e1⟩:=zaU hpre.rel b
  refine⟨σ,r1,fun i => ?_,e1⟩
  simp only [Env.put]
  by_cases hi:i=t
  · subst hi
    rw [if_pos rfl]
    have hs:=hpre.fr.slot i
    rw [ht] at hs
    generalize a.tmps.getD i undef=v at hs
    cases hs with | vr hs =>
    subst hl
    have hfl:(flat xs).length=xs.length*sz:=zy hsz
    obtain⟨ad,cap,rfl,hado,hrow⟩:=zgY hpre.rel hb hs (by rw [hcs,List.length_map,hfl])
    rcases hrow with ⟨h0,rfl,hσ⟩ | ⟨g,s,rfl,hσ,h5,h6,h7,h8,hcells⟩
    · have:xs=[]:=List.eq_nil_of_length_eq_zero h0
      subst this
      exact .p (.emp _ _ _ _ (by simp) (by simp))
    · obtain⟨k,hk⟩:=vec?_inv hb
      have hcell : ∀ j y,(flat xs)[j]? = some y → ∃ v,w.cell? ⟨g,j,none⟩=some v∧RelP w (Stable σ (H.set b .dead)) y v∧v.oneCell'=true:=fun j y hj=>by
       obtain⟨v,h1,h2,h3⟩:=hcells j (.p y) (by rw [hcs];simp [hj])
       have:=h2.mono e1
       cases this with | p hp=>exact⟨v,h1,hp,h3⟩
      refine .p (.sl false sz xs g 0 cap (fun j=>(w.cell? ⟨g,j,none⟩).getD undef) (by simp) ⟨h6,h7⟩ hsz (fun j hj => ?_) (fun j y hj => ?_))
      · rw [Nat.zero_add]
        obtain⟨v,h1,_,h3⟩:=hcell j ((flat xs)[j]'(by omega)) (by simp)
        exact⟨zdm hpre.rel hk hσ j,by simp [h1],by simp [h1,h3]⟩
      · obtain⟨v,h1,h2,_⟩:=hcell j y hj
        simp only [h1,Option.getD_some]
        exact h2
  · rw [if_neg hi];exact (hpre.fr.slot i).mono e1) h
end vec

theorem flat_nil:flat []=[]:=rfl
theorem zov {x:PV} {xs:List PV}:flat (x :: xs)=x.cells++flat xs:=rfl

section guards
variable {C:Cx} {ops:Array Oper} {op:Op} {dst:Option Nat} {rest:List Oper} {k:List Item} {env:Env} {H:Hp} {R:AV → Hp → Prop} {ty:TypeId} {q:Nat → Bool} {n:Nat} {b:Bool}
theorem zX (h1:b=true → guarded C ops (some true) op ty dst rest k env H R) (h2:b=false → guarded C ops (some false) op ty dst rest k env H R):guarded C ops (some b) op ty dst rest k env H R:=by
 cases b
 · exact h2 rfl
 · exact h1 rfl
theorem zR (h1:b=true → zaQ C ops q (some true) op ty n dst rest k env H R) (h2:b=false → zaQ C ops q (some false) op ty n dst rest k env H R):zaQ C ops q (some b) op ty n dst rest k env H R:=by
 cases b
 · exact h2 rfl
 · exact h1 rfl
end guards

def zmw (P:Program) (t:TypeId):Option (List (Option (Nat × Nat))) :=
 match P.underlying t with
 | some (.struct fields)=>if fields.all fun f=>(P.info? f.type).isSome then some (fields.toList.map fun f=>if (P.info? f.type).isSome then some (f.offset,P.cellsOf f.type) else none) else none
 | _=>none
theorem zY {P:Program} {t:TypeId} {pls:List (Option (Nat × Nat))} {ps:List PV} {parts:List (Nat × AV)} (h:zmw P t=some pls) (hz:zB P t=some ps) :
 yv P t parts=(yE (fun i=>pls[i]?.join) (ps.map .p) parts).map zO:=by
 unfold zmw at h
 split at h
 case h_2=>cases h
 rename_i fields hu
 split at h
 case isFalse=>cases h
 rename_i hall
 cases h
 unfold yv
 rw [hu,hz]
 simp only [hall,if_true]
 congr 2
 funext i
 unfold zal
 cases hf:fields[i]? with
 | none=>simp [hf]
 | some f=>simp [hf]
def ztB (P:Program) (t:TypeId):Option Nat :=
 match P.underlying t with
 | some (.array _ e)=>if (P.info? e).isSome then some (P.cellsOf e) else none
 | _=>none
theorem zfl {P:Program} {t:TypeId} {n:Nat} {ps:List PV} {parts:List (Nat × AV)} (h:ztB P t=some n) (hz:zB P t=some ps) :
 yv P t parts=(yE (fun i=>some (i*n,n)) (ps.map .p) parts).map zO:=by
 unfold ztB at h
 split at h
 case h_2=>cases h
 rename_i k e hu
 split at h
 case isFalse=>cases h
 rename_i hi
 cases h
 unfold yv
 rw [hu,hz]
 simp only [hi,if_true]
theorem zlv {place:Nat → Option (Nat × Nat)} {cells:List AV} {i:Nat} {x:AV} {rest:List (Nat × AV)} :
 yE place cells ((i,x) :: rest)=(match place i,zf x with
 | some (off,size),some cs=>if cs.length=size∧off+size≤cells.length then yE place (setAt cells off cs) rest else none
 | _,_=>none):=rfl
attribute [go_sem] zlv Option.join_some


section join
variable {C:Cx} {k:List Item} {env:Env} {H:Hp} {R:AV → Hp → Prop} {x y:Code} {t:Nat}
theorem ARun.cut {i:Item} (I:Env → Hp → Prop) (h1:(∀ env' H',I env' H' → ARun C k env' H' R) → ARun C (i :: k) env H R) (h3 : ∀ env' H',I env' H' → ARun C k env' H' R):ARun C (i :: k) env H R:=h1 h3
end join

def sle {α:Type} (sz:Nat) (f:α → PV) (l:List α):PV := .sl false sz (pl f l)
section sle
variable {α:Type} {sz:Nat} {f:α → PV} {l m:List α} {ls:List (List α)} {i:Nat}
theorem zsz:sle sz f l = .sl false sz (pl f l):=rfl
end sle
attribute [go_sem] zsz List.set_cons_zero List.set_cons_succ

theorem zt3 {b:Bool}:(b == true)=b:=by cases b<;>rfl
theorem zt4 {b:Bool}:(b == false) = !b:=by cases b<;>rfl
attribute [go_sem] flat_nil zov zt3 zt4




attribute [go_sem] app_n' n_new' n_set' zaR zat List.length_set List.length_append List.length_replicate List.length_cons List.length_nil zi9 List.length_drop List.length_take List.length_map

/-! ### Short words for the walks -/
def zmx:List Item → Option (List Item)
 | .code .skip :: k=>some k
 | .code (.seq x y) :: k=>some (.code x :: .code y :: k)
 | .code (.block id c) :: k=>some (.code c :: .inBlock id :: k)
 | .inBlock _ :: k=>some k
 | .code (.exit id) :: k=>exitTo id k
 | _=>none
theorem ARun.z {C:Cx} {t t':List Item} {env:Env} {H:Hp} {R:AV → Hp → Prop} (e:zmx t=some t') (h:ARun C t' env H R):ARun C t env H R:=by
 unfold zmx at e
 split at e
 · cases e;exact .skip h
 · cases e;exact .seq h
 · cases e;exact .block h
 · cases e;exact .inBlock h
 · exact .exit e h
 · cases e
def stepsI:Nat → List Item → List Item
 | 0,t=>t
 | n+1,t=>match zmx t with | some t'=>stepsI n t' | none=>t
theorem ARun.stepsI {C:Cx} {env:Env} {H:Hp} {R:AV → Hp → Prop} : ∀ (n:Nat) {t:List Item},ARun C (stepsI n t) env H R → ARun C t env H R
 | 0,_,h=>h
 | n+1,t,h=>by
  unfold Go.AL.stepsI at h
  cases e:zmx t with
  | none=>rw [e] at h;exact h
  | some t'=>rw [e] at h;exact .z e (ARun.stepsI n h)
theorem ARun.q {C:Cx} {t:List Item} {env:Env} {H:Hp} {R:AV → Hp → Prop} (h:ARun C (Go.AL.stepsI 30 t) env H R):ARun C t env H R := .stepsI 30 h
theorem za {p:Prop} (h:p:=by first | omega | assumption | (simp only [go_sem];done) | (simp only [go_sem]<;>omega) | fail):p:=h
theorem ARun.rt {C:Cx} {k:List Item} {env:Env} {H:Hp} {R:AV → Hp → Prop} {fn:Func} {x y:AV} (hfn:C.P.funcs[C.fid]? = some fn) {rs:List ResultVar} (hrs:fn.results.toList=rs)
 (hx:zcE C.P rs env H=some x:=by simp (disch:=first|exact za|fail) only [go_sem,seval];rfl) (hy:x.out C.n0=some y:=by simp (disch:=first|exact za|fail) only [go_sem,seval];rfl)
 (hb:Bel C.n0 H:=by (try dsimp only);repeat (first | with_reducible refine zbJ ?_ za | with_reducible refine zaY ?_ za | with_reducible refine zbK ?_ za | with_reducible refine zad ?_ | with_reducible exact hbel | with_reducible exact hbel _ | with_reducible exact hbel _ _ | with_reducible exact hbel _ _ _ | with_reducible exact hbel _ _ _ _)) (hR:R y (H.trunc C.n0)) (hro:C.round=none:=by rfl) :
 ARun C (.code .ret :: k) env H R := .ret hfn hrs hx hy hb hR hro

end Go.AL

/-
  A full slice in a cell becomes the holder's own.
  Conditions: none;nothing here speaks of one program.
-/
namespace Go.AL
open Go

section cell
variable {C:Cx} {todo:List Item} {env:Env} {H:Hp} {R:AV → Hp → Prop}

theorem setRow_self {w:World} {g:Nat} {c:Array Value} {e:TypeId} (h:w.heap[g]? = some (.cells c e (0,0))):w.setRow g c=w:=by
 have:(w.setRow g c).heap=w.heap:=by
  apply Array.ext_getElem?
  intro i
  simp only [World.setRow,Array.getElem?_modify]
  by_cases hi:g=i
  · subst hi;simp [h]
  · simp [hi]
 cases w
 simp only [World.setRow] at this ⊢
 rw [this]

theorem ARun.ownC (b o:Nat) {cs:List AV} {sz:Nat} {xs:List PV} (hb:H.f b=some (.cells cs)) (ho:cs[o]? = some (.p (.sl true sz xs)))
 (h:ARun C todo env ((H.new (.tail 0)).set b (.cells (cs.set o (.sl H.n 0 sz xs)))) R):ARun C todo env H R :=
 .ghost (fun σ w a m hpre=>by
  obtain⟨r1,e1⟩:=yM hpre.rel (w':=w) (Nat.le_refl _) (fun _ _=>rfl) rfl rfl none (fun _ _ _ hh=>by cases hh)
  have hb1:(H.new (.tail 0)).f b=some (.cells cs):=by rw [Hp.f_new_old H _ b (Hp.lt hb)];exact hb
  obtain⟨c,e,hw,hl,hcs⟩:=r1.cells b cs hb1
  obtain⟨r2,e2⟩:=zbx r1 hb1 hw c (cs.set o (.sl H.n 0 sz xs)) rfl (by simp) (fun i x hx=>by
   by_cases hi:o=i
   · subst hi
     obtain⟨v,hv,hrc⟩:=hcs o _ ho
     have hlt:o < cs.length:=(List.getElem?_eq_some_iff.1 ho).1
     simp [hlt] at hx
     subst hx
     refine⟨v,hv,?_,hrc.2⟩
     cases hrc.1 with | p hp' =>
     refine .sl ?_ ⟨by simp [Hp.n_new],fun k0 d hk0 => ?_⟩
     · cases hp' with
       | emp _ _ a cap h hc=>exact .emp _ _ a cap (by simp) hc
       | sl _ _ _ g off cap f hfl hcap hsz hrd hc=>exact .sl false _ _ g off cap f (by simp) hcap hsz hrd hc
     · simp [Hp.f_new] at hk0
       refine⟨by omega,fun _ => .inl ?_⟩
       cases hp' with
       | emp _ _ a cap h0 hc=>exact⟨a,0,by rw [h0 rfl],by simp [Gh.withT]⟩
       | sl _ _ _ g off cap f hfl hcap hsz hrd hc=>exact⟨some ⟨g,off,none⟩,xs.length,by rw [hfl rfl],by simp [Gh.withT]⟩
   · rw [List.getElem?_set_ne hi] at hx
     exact hcs i x hx)
  rw [setRow_self hw] at r2 e2
  exact⟨_,r2,fun i=>((hpre.fr.slot i).mono e1).mono e2,e1.trans (e2.weaken (by simp [Hp.n_new])) (Nat.le_refl _)⟩) h


theorem ARun.weak (t:Nat) {x y:AV} (ht:env t=x) (hy:x.weak=y) (h:ARun C todo (env.put (some t) y) H R):ARun C todo env H R :=
 .ghost (fun σ w a m hpre=>by
  obtain⟨r1,e1⟩:=zai hpre.rel (w':=w) (Nat.le_refl _) (fun _ _=>rfl) rfl rfl
  refine⟨σ,hpre.rel,fun i => ?_,e1⟩
  simp only [Env.put]
  by_cases hi:i=t
  · subst hi
    rw [if_pos rfl,←hy,←ht]
    exact (hpre.fr.slot i).weak
  · rw [if_neg hi];exact hpre.fr.slot i) h
end cell

theorem zaY {n:Nat} {H:Hp} {T:List AB} (h:Bel n H) (hn:n≤H.n):Bel n (app H T):=by
 induction T generalizing H with
 | nil=>exact h
 | cons x T ih=>exact ih ((Bel.new hn).2 h) (by rw [n_new'];omega)
theorem zvM {a:Nat}:a+1+1=a+2:=by omega
theorem zt5 {a:Nat}:a+1+2=a+3:=by omega
theorem zt6 {a:Nat}:a+1+3=a+4:=by omega
theorem zt7 {a:Nat}:a+1+4=a+5:=by omega
theorem zt8 {a:Nat}:a+1+5=a+6:=by omega
attribute [go_sem] zt5 zt6 zt7 zt8 zvM
end Go.AL

/-
  Loops and cuts whose fixed y8 need not be told: what a slot held before it holds afterwards.
  Conditions: none;nothing here speaks of one program.
-/
namespace Go.AL
open Go

def St:List Nat → List (Nat × AV) → Env → Env → Prop
 | t :: fx,vs,env,env'=>env' t=env t∧St fx vs env env'
 | [],(t,v) :: vs,env,env'=>env' t=v∧St [] vs env env'
 | [],[],_,_=>True
theorem zqb {t:Nat} {fx:List Nat} {vs:List (Nat × AV)} {env env':Env}:St (t :: fx) vs env env'=(env' t=env t∧St fx vs env env'):=by rw [St]
theorem zt9 {t:Nat} {v:AV} {vs:List (Nat × AV)} {env env':Env}:St [] ((t,v) :: vs) env env'=(env' t=v∧St [] vs env env'):=by rw [St]
theorem zua {env env':Env}:St [] [] env env'=True:=by rw [St]
theorem St.start {env:Env} {vs:List (Nat × AV)} (h:St [] vs env env) : ∀ {fx:List Nat},St fx vs env env
 | []=>h
 | t :: fx=>by rw [zqb];exact⟨rfl,St.start h⟩

def zbv (H:Hp):List (Nat × AB) → Hp
 | []=>H
 | (b,x) :: l=>zbv (H.set b x) l
theorem zm {H:Hp}:zbv H []=H:=by rw [zbv]
theorem zj {H:Hp} {b:Nat} {x:AB} {l:List (Nat × AB)}:zbv H ((b,x) :: l)=zbv (H.set b x) l:=by rw [zbv]
def news (H:Hp):List AB → Hp
 | []=>H
 | x :: l=>news (H.new x) l
def Later (H:Hp) (bs:List (Nat × AB)) (H':Hp):Prop := ∃ T,H'=app (zbv H bs) T
theorem Later.mk {H H':Hp} {bs:List (Nat × AB)} (T:List AB) (h:H'=app (zbv H bs) T):Later H bs H':=⟨T,h⟩

def stepS:List Item → Option (List Item)
 | .code .skip :: k=>some k
 | .code (.seq x y) :: k=>some (.code x :: .code y :: k)
 | .inBlock _ :: k=>some k
 | .code (.exit id) :: k=>exitTo id k
 | _=>none
theorem zbw {H:Hp} {T:List AB} {x:AB}:(app H T).new x=app H (T++[x]):=by simp [app]
section rules
variable {C:Cx} {k:List Item} {env:Env} {H:Hp} {R:AV → Hp → Prop}
theorem ARun.zs {t t':List Item} (e:stepS t=some t') (h:ARun C t' env H R):ARun C t env H R:=by
 unfold stepS at e
 split at e
 · cases e;exact .skip h
 · cases e;exact .seq h
 · cases e;exact .inBlock h
 · exact .exit e h
 · cases e
theorem ARun.loopF {c:Code} (fx:List Nat) (V:Nat → List (Nat × AV)) (B:Nat → List (Nat × AB)) (Q:Nat → Prop) (a n:Nat) (ha:a≤n) (hv:St [] (V a) env env) (hb:zbv H (B a)=H) (hq:Q a)
 (last : ∀ env' T,St fx (V n) env env' → Q n → ARun C (.code c :: .inLoop c :: k) env' (app (zbv H (B n)) T) R)
 (round : ∀ i env' T,a≤i → i < n → St fx (V i) env env' → Q i → (∀ env2 H2,St fx (V (i+1)) env env2 → Q (i+1) → Later H (B (i+1)) H2 → ARun C (.inLoop c :: k) env2 H2 R) → ARun C (.code c :: .inLoop c :: k) env' (app (zbv H (B i)) T) R) :
 ARun C (.code (.loop c) :: k) env H R :=
 .count (fun i env' H'=>St fx (V i) env env'∧Q i∧Later H (B i) H') a n ha ⟨.start hv,hq,[],hb.symm⟩
  (fun env' H' ⟨h1,h2,T,h3⟩=>by subst h3;exact last env' T h1 h2)
  (fun i env' H' h1 h2 ⟨h3,h4,T,h5⟩ ih=>by subst h5;exact round i env' T h1 h2 h3 h4 fun env2 H2 a b c=>ih env2 H2 ⟨a,b,c⟩)
theorem ARun.loopE {c:Code} (fx:List Nat) (V:Nat → List (Nat × AV)) (B:Nat → List (Nat × AB)) (Q:Nat → Prop) (a n:Nat) (ha:a≤n) (hv:St [] (V a) env env) (hb:zbv H (B a)=H) (hq:Q a)
 (last : ∀ env',St fx (V n) env env' → Q n → ARun C (.code c :: .inLoop c :: k) env' (zbv H (B n)) R)
 (round : ∀ i env',a≤i → i < n → St fx (V i) env env' → Q i → (∀ env2 H2,St fx (V (i+1)) env env2 → Q (i+1) → H2=zbv H (B (i+1)) → ARun C (.inLoop c :: k) env2 H2 R) → ARun C (.code c :: .inLoop c :: k) env' (zbv H (B i)) R) :
 ARun C (.code (.loop c) :: k) env H R :=
 .count (fun i env' H'=>St fx (V i) env env'∧Q i∧H'=zbv H (B i)) a n ha ⟨.start hv,hq,hb.symm⟩
  (fun env' H' ⟨h1,h2,h3⟩=>by subst h3;exact last env' h1 h2)
  (fun i env' H' h1 h2 ⟨h3,h4,h5⟩ ih=>by subst h5;exact round i env' h1 h2 h3 h4 fun env2 H2 a b c=>ih env2 H2 ⟨a,b,c⟩)
theorem ARun.loopT {c:Code} {S:Type} (fx:List Nat) (V:S → List (Nat × AV)) (B:S → List (Nat × AB)) (Q:S → Prop) (μ:S → Nat) (s0:S) (hv:St [] (V s0) env env) (hb:zbv H (B s0)=H) (hq:Q s0)
 (round : ∀ s env',St fx (V s) env env' → Q s → (∀ s2 env2 H2,μ s2 < μ s → St fx (V s2) env env2 → Q s2 → H2=zbv H (B s2) → ARun C (.inLoop c :: k) env2 H2 R) → ARun C (.code c :: .inLoop c :: k) env' (zbv H (B s)) R) :
 ARun C (.code (.loop c) :: k) env H R :=
 .iter (S:=S) (fun s env' H'=>St fx (V s) env env'∧Q s∧H'=zbv H (B s)) μ s0 ⟨.start hv,hq,hb.symm⟩
  (fun s env' H' ⟨h3,h4,h5⟩ ih=>by subst h5;exact round s env' h3 h4 fun s2 env2 H2 m a b c=>ih s2 env2 H2 ⟨a,b,c⟩ m)
theorem ARun.loopF0 {c:Code} {X:Hp} {T0:List AB} (fx:List Nat) (V:Nat → List (Nat × AV)) (Q:Nat → Prop) (a n:Nat) (ha:a≤n) (hv:St [] (V a) env env) (hq:Q a)
 (last : ∀ env' T,St fx (V n) env env' → Q n → ARun C (.code c :: .inLoop c :: k) env' (app X T) R)
 (round : ∀ i env' T,a≤i → i < n → St fx (V i) env env' → Q i → (∀ env2 H2,St fx (V (i+1)) env env2 → Q (i+1) → Later X [] H2 → ARun C (.inLoop c :: k) env2 H2 R) → ARun C (.code c :: .inLoop c :: k) env' (app X T) R) :
 ARun C (.code (.loop c) :: k) env (app X T0) R :=
 .count (fun i env' H'=>St fx (V i) env env'∧Q i∧Later X [] H') a n ha ⟨.start hv,hq,T0,rfl⟩
  (fun env' H' ⟨h1,h2,T,h3⟩=>by subst h3;exact last env' T h1 h2)
  (fun i env' H' h1 h2 ⟨h3,h4,T,h5⟩ ih=>by subst h5;exact round i env' T h1 h2 h3 h4 fun env2 H2 a b c=>ih env2 H2 ⟨a,b,c⟩)
theorem ARun.loopH {c:Code} (fx:List Nat) (V:Nat → List (Nat × AV)) (B:Nat → Hp) (Q:Nat → Prop) (a n:Nat) (ha:a≤n) (hv:St [] (V a) env env) (hb:B a=H) (hq:Q a)
 (last : ∀ env',St fx (V n) env env' → Q n → ARun C (.code c :: .inLoop c :: k) env' (B n) R)
 (round : ∀ i env',a≤i → i < n → St fx (V i) env env' → Q i → (∀ env2 H2,St fx (V (i+1)) env env2 → Q (i+1) → H2=B (i+1) → ARun C (.inLoop c :: k) env2 H2 R) → ARun C (.code c :: .inLoop c :: k) env' (B i) R) :
 ARun C (.code (.loop c) :: k) env H R :=
 .count (fun i env' H'=>St fx (V i) env env'∧Q i∧H'=B i) a n ha ⟨.start hv,hq,hb.symm⟩
  (fun env' H' ⟨h1,h2,h3⟩=>by subst h3;exact last env' h1 h2)
  (fun i env' H' h1 h2 ⟨h3,h4,h5⟩ ih=>by subst h5;exact round i env' h1 h2 h3 h4 fun env2 H2 a b c=>ih env2 H2 ⟨a,b,c⟩)
theorem ARun.loopK {c:Code} {S:Type} (fx:List Nat) (V:S → List (Nat × AV)) (B:S → Hp) (Q:S → Prop) (μ:S → Nat) (s0:S) (hv:St [] (V s0) env env) (hb:B s0=H) (hq:Q s0)
 (round : ∀ s env',St fx (V s) env env' → Q s → (∀ s2 env2 H2,μ s2 < μ s → St fx (V s2) env env2 → Q s2 → H2=B s2 → ARun C (.inLoop c :: k) env2 H2 R) → ARun C (.code c :: .inLoop c :: k) env' (B s) R) :
 ARun C (.code (.loop c) :: k) env H R :=
 .iter (S:=S) (fun s env' H'=>St fx (V s) env env'∧Q s∧H'=B s) μ s0 ⟨.start hv,hq,hb.symm⟩
  (fun s env' H' ⟨h3,h4,h5⟩ ih=>by subst h5;exact round s env' h3 h4 fun s2 env2 H2 m a b c=>ih s2 env2 H2 ⟨a,b,c⟩ m)
theorem ARun.cutH {i:Item} (fx:List Nat) (V:List (Nat × AV)) (B:Hp) (h1:(∀ env2 H2,St fx V env env2 → H2=B → ARun C k env2 H2 R) → ARun C (i :: k) env H R)
 (h2 : ∀ env',St fx V env env' → ARun C k env' B R):ARun C (i :: k) env H R :=
 h1 fun env2 H2 a b=>by subst b;exact h2 env2 a
end rules

/-! ### Rows of rows that are appended to -/
section rows
variable {C:Cx} {todo:List Item} {env:Env} {H:Hp} {R:AV → Hp → Prop}
end rows
attribute [go_sem] zqb zt9 zua zm zj
end Go.AL

/-
  A row behind a cell is written no more.
  Conditions: none;nothing here speaks of one program.
-/
namespace Go.AL
open Go

section plain
variable {G:Globs} {σ:Gh} {H:Hp} {w:World} {α:Type} {f:α → PV} {l:List α}


theorem zjk (hr:Rel G σ H w) {b len sz:Nat} {v:Value} {cs:List AV} {xs:List PV} (hb:(H.f b).bind AB.vec? = some cs) (hcs:cs=(flat xs).map .p) (hl:xs.length=len) (hsz : ∀ x∈xs,x.cells.length=sz) (hs:RelV σ H w (.vr b len sz) v) :
 RelV σ (H.set b .dead) w (.p (.sl false sz xs)) v:=by
 obtain⟨r1,e1⟩:=zaU hr b
 cases hs with | vr hs =>
 subst hl
 have hfl:(flat xs).length=xs.length*sz:=zy hsz
 obtain⟨ad,cap,rfl,hado,hrow⟩:=zgY hr hb hs (by rw [hcs,List.length_map,hfl])
 rcases hrow with ⟨h0,rfl,hσ⟩ | ⟨g,s,rfl,hσ,h5,h6,h7,h8,hcells⟩
 · have:xs=[]:=List.eq_nil_of_length_eq_zero h0
   subst this
   exact .p (.emp _ _ _ _ (by simp) (by simp))
 · obtain⟨k,hk⟩:=vec?_inv hb
   have hcell : ∀ j y,(flat xs)[j]? = some y → ∃ v,w.cell? ⟨g,j,none⟩=some v∧RelP w (Stable σ (H.set b .dead)) y v∧v.oneCell'=true:=fun j y hj=>by
    obtain⟨v,h1,h2,h3⟩:=hcells j (.p y) (by rw [hcs];simp [hj])
    have:=h2.mono e1
    cases this with | p hp=>exact⟨v,h1,hp,h3⟩
   refine .p (.sl false sz xs g 0 cap (fun j=>(w.cell? ⟨g,j,none⟩).getD undef) (by simp) ⟨h6,h7⟩ hsz (fun j hj => ?_) (fun j y hj => ?_))
   · rw [Nat.zero_add]
     obtain⟨v,h1,_,h3⟩:=hcell j ((flat xs)[j]'(by omega)) (by simp)
     exact⟨zdm hr hk hσ j,by simp [h1],by simp [h1,h3]⟩
   · obtain⟨v,h1,h2,_⟩:=hcell j y hj
     simp only [h1,Option.getD_some]
     exact h2
end plain

section cell
variable {C:Cx} {todo:List Item} {env:Env} {H:Hp} {R:AV → Hp → Prop}

theorem ARun.frzCell (b o d:Nat) {cs:List AV} {x y:AV} (hb:H.f b=some (.cells cs)) (ho:cs[o]? = some x) (hne:b≠d)
 (hx : ∀ (σ:Gh) (w:World) (v:Value),Rel C.G σ H w → RelV σ H w x v → RelV σ (H.set d .dead) w y v)
 (h:ARun C todo env ((H.set d .dead).set b (.cells (cs.set o y))) R):ARun C todo env H R :=
 .ghost (fun σ w a m hpre=>by
  obtain⟨r1,e1⟩:=zaU hpre.rel d
  have hb1:(H.set d .dead).f b=some (.cells cs):=by rw [Hp.f_set_ne H _ _ _ hne];exact hb
  obtain⟨c,e,hw,hl,hcs⟩:=r1.cells b cs hb1
  obtain⟨c0,e0,hw0,hl0,hcs0⟩:=hpre.rel.cells b cs hb
  rw [hw] at hw0
  cases hw0
  obtain⟨r2,e2⟩:=zbx r1 hb1 hw c (cs.set o y) rfl (by simp) (fun i z hz=>by
   by_cases hi:o=i
   · subst hi
     obtain⟨v,hv,hrc⟩:=hcs0 o _ ho
     have hlt:o < cs.length:=(List.getElem?_eq_some_iff.1 ho).1
     simp [hlt] at hz
     subst hz
     exact⟨v,hv,hx σ w v hpre.rel hrc.1,hrc.2⟩
   · rw [List.getElem?_set_ne hi] at hz
     exact hcs i z hz)
  rw [setRow_self hw] at r2 e2
  exact⟨_,r2,fun i=>((hpre.fr.slot i).mono e1).mono e2,e1.trans (e2.weaken (Nat.le_refl _)) (Nat.le_refl _)⟩) h
end cell
end Go.AL

/-
  A row of wide elements that was written by index is written no more.
  Conditions: none;nothing here speaks of one program.
-/
namespace Go.AL
open Go

section freeze
variable {C:Cx} {todo:List Item} {env:Env} {H:Hp} {R:AV → Hp → Prop}
theorem ARun.frzR (t:Nat) {b len sz:Nat} {cs:List AV} {xs:List PV} (ht:env t = .ref b 0 len sz) (hb:H.f b=some (.cells cs)) (hcs:cs=(flat xs).map .p) (hl:xs.length=len) (hsz : ∀ x∈xs,x.cells.length=sz)
 (h:ARun C todo (env.put (some t) (.p (.sl false sz xs))) (H.set b .dead) R):ARun C todo env H R :=
 .ghost (fun σ w a m hpre=>by
  subst hcs
  obtain⟨r1,e1⟩:=zaU hpre.rel b
  obtain⟨F,hF⟩:=zcZ hpre.rel hb
  refine⟨σ,r1,fun i => ?_,e1⟩
  simp only [Env.put]
  by_cases hi:i=t
  · subst hi
    rw [if_pos rfl]
    have hs:=hpre.fr.slot i
    rw [ht] at hs
    generalize a.tmps.getD i undef=v at hs
    cases hs with | ref ad h0 hbn hcap ha =>
    obtain⟨g,o,rfl⟩:=h0
    subst hl
    have hfl:(flat xs).length=xs.length*sz:=zy hsz
    by_cases hz:xs.length=0
    · have:xs=[]:=List.eq_nil_of_length_eq_zero hz
      subst this
      exact .p (.emp _ _ _ _ (by simp) hcap.2)
    have:=ha (by omega)
    cases this
    refine .p (.sl false sz xs _ 0 _ F (by simp) hcap hsz (fun k hk => ?_) (fun k y hy=>(hF k y hy).2.2.2))
    obtain⟨p1,p2,p3,_⟩:=hF k ((flat xs)[k]'(by omega)) (by simp)
    rw [Nat.zero_add];exact⟨p1,p2,p3⟩
  · rw [if_neg hi];exact (hpre.fr.slot i).mono e1) h
theorem ARun.vecC (b o:Nat) {cs:List AV} {sz:Nat} (hb:H.f b=some (.cells cs)) (ho:cs[o]? = some (.p (.sl true sz [])))
 (h:ARun C todo env ((H.new (.vec [])).set b (.cells (cs.set o (.vr H.n 0 sz)))) R):ARun C todo env H R :=
 .ghost (fun σ w a m hpre=>by
  obtain⟨r1,e1⟩:=zbj hpre.rel (w':=w) (Nat.le_refl _) (fun _ _=>rfl) rfl rfl 0 (some []) none (fun _ _ _ hh=>by cases hh) (fun cs hcs=>by cases hcs;exact⟨rfl,fun _=>rfl,fun _ _ _ hh=>by cases hh⟩)
  have hb1:(H.new (.vec [])).f b=some (.cells cs):=by rw [Hp.f_new_old H _ b (Hp.lt hb)];exact hb
  obtain⟨c,e,hw,hl,hcs⟩:=r1.cells b cs hb1
  obtain⟨r2,e2⟩:=zbx r1 hb1 hw c (cs.set o (.vr H.n 0 sz)) rfl (by simp) (fun i x hx=>by
   by_cases hi:o=i
   · subst hi
     obtain⟨v,hv,hrc⟩:=hcs o _ ho
     have hlt:o < cs.length:=(List.getElem?_eq_some_iff.1 ho).1
     simp [hlt] at hx
     subst hx
     refine⟨v,hv,?_,hrc.2⟩
     cases hrc.1 with | p hp =>
     have hv2 : ∃ ad,v = .slice ad 0 0∧zeH ad 0:=by
      cases hp with
      | emp _ _ a cap h0 hc=>exact⟨a,by rw [h0 rfl],by simp [zeH]⟩
      | sl _ _ _ g off cap F hfl hcap hsz hrd hc =>
       have:=hfl rfl
       simp only [List.length_nil] at this
       subst this
       exact⟨_,rfl,by simp [zeH]⟩
     obtain⟨ad,rfl,hado⟩:=hv2
     refine .vr ⟨by simp [Hp.n_new],ad,0,rfl,hado,fun k0 c hk0 => ?_⟩
     simp [Hp.f_new] at hk0
     exact⟨by simp,fun _ => .inl ⟨rfl,rfl,by simp [Gh.withT]⟩⟩
   · rw [List.getElem?_set_ne hi] at hx
     exact hcs i x hx)
  rw [setRow_self hw] at r2 e2
  exact⟨_,r2,fun i=>((hpre.fr.slot i).mono e1).mono e2,e1.trans (e2.weaken (by simp [Hp.n_new])) (Nat.le_refl _)⟩) h
end freeze
end Go.AL

/-
  A region whose order is open and whose operations are all quiet: a quicker check that one run in the text's order serves every order.
  Conditions: none;nothing here speaks of one program.
-/
namespace Go.AL
open Go


section fast
variable {C:Cx} {ops:Array Oper} {q:Nat → Bool} {Q:Env → Hp → Prop}


end fast
end Go.AL

/-
  Rows that one holder writes: another reading of the machine's state between the operations of a region;the first part of such a row.
  Conditions: none;nothing here speaks of one program.
-/
namespace Go.AL
open Go

section cut
variable {G:Globs} {σ:Gh} {H:Hp} {w:World}
end cut

section ops
variable {C:Cx} {ops:Array Oper} {rest:List Oper} {k:List Item} {env:Env} {H:Hp} {R:AV → Hp → Prop}
theorem AOps.ghost {l:List Oper} {env':Env} {H':Hp}
 (hg : ∀ σ w a m,Pre C σ H w env a m → ∃ σ',Rel C.G σ' H' w∧(∀ i,RelV σ' H' w (env' i) (a.tmps.getD i undef))∧Ev H.n σ H w σ' H' w) (h:AOps C ops l k env' H' R):AOps C ops l k env H R:=by
 intro σ w a m hpre
 obtain⟨σ',hr,hs,hev⟩:=hg σ w a m hpre
 have h4:=hpre.fr.mono hev
 have h1:=h σ' w a m (hpre.go hr ⟨h4.defers,h4.size,hs⟩ hev)
 have hF:Fr C σ'=Fr C σ:=by simp only [Fr,round_eq hpre.n0 hev.c hpre.lt]
 rw [hF] at h1
 refine zcH l ?_ _ _ h1
 rintro e a' w2 ⟨rfl,env2,H2,σ2,hr2,hpre2,hev2⟩
 exact⟨rfl,env2,H2,σ2,hr2,hpre2,hev.trans (hev2.weaken hev.hn) (Nat.le_refl _)⟩
theorem AOps.vec {l:List Oper} (t:Nat) {sz:Nat} (ht:env t = .p (.sl true sz [])) (h:AOps C ops l k (env.put (some t) (.vr H.n 0 sz)) (H.new (.vec [])) R):AOps C ops l k env H R :=
 .ghost (fun σ w a m hpre=>by
  obtain⟨r1,e1⟩:=zbj hpre.rel (w':=w) (Nat.le_refl _) (fun _ _=>rfl) rfl rfl 0 (some []) none (fun _ _ _ hh=>by cases hh) (fun cs hcs=>by cases hcs;exact⟨rfl,fun _=>rfl,fun _ _ _ hh=>by cases hh⟩)
  refine⟨_,r1,fun i => ?_,e1⟩
  simp only [Env.put]
  by_cases hi:i=t
  · subst hi
    rw [if_pos rfl]
    have hs:=hpre.fr.slot i
    rw [ht] at hs
    generalize a.tmps.getD i undef=v at hs
    have hv : ∃ ad,v = .slice ad 0 0∧zeH ad 0:=by
     cases hs with | p hp =>
     cases hp with
     | emp _ _ a cap h0 hc=>exact⟨a,by rw [h0 rfl],by simp [zeH]⟩
     | sl _ _ _ g off cap F hfl hcap hsz hrd hc =>
      have:=hfl rfl
      simp only [List.length_nil] at this
      subst this
      exact⟨_,rfl,by simp [zeH]⟩
    obtain⟨ad,rfl,hado⟩:=hv
    refine .vr ⟨by simp [Hp.n_new],ad,0,rfl,hado,fun k0 c hk0 => ?_⟩
    simp [Hp.f_new] at hk0
    exact⟨by simp,fun _ => .inl ⟨rfl,rfl,by simp [Gh.withT]⟩⟩
  · rw [if_neg hi];exact (hpre.fr.slot i).mono e1) h
end ops
end Go.AL

/-
  A slice literal that is appended to and written by index later becomes a version row.
  Conditions: none;nothing here speaks of one program.
-/
namespace Go.AL
open Go

theorem zf6 {P:Program} {G:Globs} {σ:Gh} {H:Hp} {w:World} {t:TypeId} {n sz:Nat} {parts:List (Nat × AV)} {vparts:Array (Nat × Value)} {cs:List AV} (hr:Rel G σ H w) (h:zN true P H t n parts=some (.ref H.n 0 n sz,H.new (.cells cs)))
 (hl:vparts.size=parts.length) (hp : ∀ (k:Nat) i x j v,parts[k]? = some (i,x) → vparts[k]? = some (j,v) → j=i∧RelV σ H w x v) :
 ∃ v w' σ',(Instr.buildSlice t n vparts).run P w = .ok v w'∧RelV σ' (H.new (.vec cs)) w' (.vr H.n n sz) v∧Rel G σ' (H.new (.vec cs)) w'∧Ev H.n σ H w σ' (H.new (.vec cs)) w':=by
 unfold zN at h
 split at h
 case h_2=>cases h
 rename_i e hu
 split at h
 case isFalse=>cases h
 rename_i hc
 obtain⟨hzf,hpos,hsmall,hidx⟩:=hc
 have hps : ∃ ps,zB P e=some ps∧ps.length=P.cellsOf e:=by
  unfold zak at hzf
  split at hzf
  · rename_i ps hps;exact⟨ps,hps,by simpa using hzf⟩
  · cases hzf
 obtain⟨ps,hps,hpl⟩:=hps
 obtain⟨z,hz1,hz,hzs,hzz⟩:=zS (w:=w) (S:=Stable σ H) hps
 obtain⟨ie,hie⟩ : ∃ i,P.info? e=some i:=by
  cases hh:P.info? e with
  | none=>simp [hh] at hz
  | some i=>exact⟨i,rfl⟩
 have hiz:ie.zero=some z:=by simpa [hie] using hz
 have his:ie.size=P.cellsOf e:=by simp [Program.cellsOf,hie]
 have hn:parts.length=n:=by have:=congrArg List.length hidx;simpa using this
 have hval : ∀ (i:Nat) x v,(parts.map (·.2))[i]? = some x → (vparts.toList.map (·.2))[i]? = some v → RelV σ H w x v:=fun i x v h1 h2=>by
  simp only [List.getElem?_map,Option.map_eq_some_iff] at h1 h2
  obtain⟨⟨j,x'⟩,h1,rfl⟩:=h1
  obtain⟨⟨j',v'⟩,h2,rfl⟩:=h2
  exact (hp i j x' j' v' h1 (by simpa using h2)).2
 have hzip:vparts.toList=((vparts.toList.map (·.2)).zipIdx 0).map fun x=>(x.2,x.1):=by
  apply List.ext_getElem?
  intro k
  simp only [List.getElem?_map,List.getElem?_zipIdx,Option.map_map,Function.comp_def,Nat.zero_add]
  cases hk:vparts.toList[k]? with
  | none=>rfl
  | some jv =>
   obtain⟨j,v⟩:=jv
   have hlt:k < parts.length:=by rw [←hl];have:=(List.getElem?_eq_some_iff.1 hk).1;simpa using this
   have h1:parts[k]? = some parts[k]:=by simp
   obtain⟨hj,_⟩:=hp k parts[k].1 parts[k].2 j v h1 (by simpa using hk)
   have h2:(parts.map (·.1))[k]? = some k:=by rw [hidx];exact List.getElem?_range (by omega)
   simp [hlt] at h2
   simp [hj,h2]
 have hrun : ∀ (h1 : ∀ v∈vparts.toList.map (·.2),v.cells.size=P.cellsOf e),(Instr.buildSlice t n vparts).run P w =
  .ok (.slice (some ⟨w.heap.size,0,none⟩) n n) (w.alloc (.cells ((vparts.toList.map (·.2)).flatMap fun v=>v.cells.toList).toArray e)):=fun h1=>by
  by_cases hn0:n=0
  · subst hn0
    have hp0:parts=[]:=List.eq_nil_of_length_eq_zero hn
    subst hp0
    have:vparts = #[]:=by simpa using hl
    subst this
    simp [Instr.buildSlice,run_underlying hu,sizeOf,typeInfo,hie,Instr.fill,newRow,Array.range_zero']
  · have hpos':0 < n*P.cellsOf e:=Nat.mul_pos (by omega) hpos
    refine run_buildSlice w t e n vparts _ ie z hu hie hiz (by rw [his];omega) (by rw [his];omega) ?_
    rw [his]
    have:=Great.fill_whole hpos _ ((Array.range (n*P.cellsOf e)).map (z.cells[· % z.cells.size]!)) h1 (by simp [hl,hn])
    rwa [←hzip] at this
 simp only [if_true] at h
 split at h
 case h_2=>cases h
 rename_i cs' hcs
 split at h
 case isFalse=>cases h
 rename_i hall
 simp only [Option.some.injEq,Prod.mk.injEq,AV.ref.injEq,true_and] at h
 obtain⟨hsz,hH⟩:=h
 have hcc:cs'=cs:=by
  have:=congrArg (fun H':Hp=>H'.f H.n) hH
  simpa [Hp.f_new] using this
 subst hcc hsz
 obtain⟨q1,q2,q3⟩:=zay (sz:=P.cellsOf e) (vs:=vparts.toList.map (·.2)) hcs (by simp [hl]) hval (fun x hx=>by
  simp only [List.mem_map] at hx
  obtain⟨⟨j,p⟩,hpm,rfl⟩:=hx
  have:=List.all_eq_true.1 hall (j,p) hpm
  simp only [Option.any_eq_true,beq_iff_eq] at this
  obtain⟨a,ha,hal⟩:=this
  exact⟨a,ha,hal⟩)
 have hq2:cs'.length=n*P.cellsOf e:=by rw [q2];simp [hn]
 generalize hrow:((vparts.toList.map (·.2)).flatMap fun v=>v.cells.toList).toArray=row at *
 obtain⟨r1,r2⟩:=zbj hr (w':=w.alloc (.cells row e)) (by simp) (fun g hg=>by simp only [World.alloc];rw [Array.getElem?_push_lt hg];simp [hg]) rfl rfl cs'.length (some cs') (some (w.heap.size,0,row.size))
  (fun g o s hh=>by cases hh;exact⟨Nat.le_refl _,row,e,by rw [heap_alloc_new],rfl⟩)
  (fun ds hds=>by
   cases hds
   refine⟨rfl,fun hh=>(by cases hh),fun g o s hh => ?_⟩
   cases hh
   refine⟨rfl,by rw [q3.1];exact Nat.le_refl _,fun i x hx => ?_⟩
   have hlt:i < row.size:=by rw [q3.1];exact (List.getElem?_eq_some_iff.1 hx).1
   refine⟨row[i],?_,q3.2 i x _ hx (Array.getElem?_eq_getElem hlt)⟩
   simp only [World.cell?,heap_alloc_new]
   simp [hlt])
 refine⟨_,_,_,hrun q1,?_,r1,r2⟩
 have hnl:n≤n*P.cellsOf e:=Nat.le_mul_of_pos_right _ hpos
 refine .vr ⟨by simp [Hp.n_new],_,n,rfl,fun _=>rfl,fun k0 c hk0 => ?_⟩
 simp only [Hp.f_new,if_true,Option.some.injEq,AB.tl.injEq] at hk0
 obtain⟨rfl,rfl⟩:=hk0
 refine⟨by omega,fun _ => .inr ⟨w.heap.size,row.size,rfl,by simp [Gh.withT],by rw [q3.1];omega,Nat.le_refl _,by unfold maxLen;omega⟩⟩

theorem AOps.weak {C:Cx} {ops:Array Oper} {l:List Oper} {k:List Item} {env:Env} {H:Hp} {R:AV → Hp → Prop} (t:Nat) {x y:AV} (ht:env t=x) (hy:x.weak=y) (h:AOps C ops l k (env.put (some t) y) H R):AOps C ops l k env H R :=
 .ghost (fun σ w a m hpre=>by
  obtain⟨r1,e1⟩:=zai hpre.rel (w':=w) (Nat.le_refl _) (fun _ _=>rfl) rfl rfl
  refine⟨σ,hpre.rel,fun i => ?_,e1⟩
  simp only [Env.put]
  by_cases hi:i=t
  · subst hi
    rw [if_pos rfl,←hy,←ht]
    exact (hpre.fr.slot i).weak
  · rw [if_neg hi];exact hpre.fr.slot i) h
theorem AOps.buildVec {C:Cx} {ops:Array Oper} {rest:List Oper} {k:List Item} {env:Env} {H:Hp} {R:AV → Hp → Prop} {d n sz:Nat} {t ty:TypeId} {pos:String} {after:Array Edge} {parts:Array (Nat × Operand)} {cs:List AV} (hb:zN true C.P H t n (yk C.G env parts.toList)=some (.ref H.n 0 n sz,H.new (.cells cs)))
 (hd:zn C.nt (some d)=true) (h:AOps C ops rest k (env.put (some d) (.vr H.n n sz)) (H.new (.vec cs)) R) :
 AOps C ops (⟨some d,.buildSlice t n parts,ty,pos,after,none⟩ :: rest) k env H R:=by
 refine .of_op true rfl fun σ w a m hpre K Q hK => ?_
 have hsem:Oper.semAt (Fr C σ).round a.eval ⟨some d,.buildSlice t n parts,ty,pos,after,none⟩=execOp a.eval ⟨some d,.buildSlice t n parts,ty,pos,after,none⟩:=Oper.semAt_eq _ _ _ (fun c h=>by cases h)
 obtain⟨h1,h2⟩:=zbE hpre.rel hpre.fr parts.toList
 obtain⟨v,w',σ',q1,q2,q3,q4⟩:=zf6 (vparts:=parts.map fun p=>(p.1,a.eval p.2)) hpre.rel hb (by simp [h1]) (fun k i x j v e1 e2=>h2 k i x j v e1 (by simpa using e2))
 unfold Oper.wpIn
 refine⟨fun f _=>trivial,?_⟩
 rw [hsem]
 have he:(execOp a.eval ⟨some d,.buildSlice t n parts,ty,pos,after,none⟩).run C.P w = .ok (.value v) w':=by
  simp only [execOp,Sem.run_bind]
  rw [show (parts.map fun (i,x)=>(i,a.eval x))=parts.map fun p=>(p.1,a.eval p.2) from rfl,q1]
  rfl
 rw [he]
 exact hK (.vr H.n n sz) v _ _ w' h (zL hd) q3 q2 q4
end Go.AL

/-
  Maps with keys of one kind: looking up and writing.
  Conditions: none;nothing here speaks of one program.
-/
namespace Go.AL
open Go

section maps
variable {P:Program} {G:Globs} {env:Env} {H:Hp} {ty:TypeId}
theorem zjl {t:TypeId} {x i:Operand} {ok:Bool}:zc P G (.lookup t x i ok) ty env H=vH (zcu P G.map H t (zD G env x) (zD G env i) ok) H:=rfl
theorem zfm {t:TypeId} {x i y:Operand}:zc P G (.mapUpdate t x i y) ty env H=uH (zaz P H t (zD G env x) (zD G env i) (y4 P G env t y)):=rfl
theorem zjm {t:TypeId} {x i y:Operand}:zc P G (.insert t x i y) ty env H=uH (zaz P H t (zD G env x) (zD G env i) (y4 P G env t y)):=rfl
theorem zhw {t:TypeId}:zc P G (.makeMap t none) ty env H = .val (.mp H.n) (H.new (.mapB [])):=rfl

def zd9 (P:Program) (t:TypeId) (m:Option (List (Value × AV))) (ix:AV) (ok:Bool):Option AV :=
 match P.underlying t with
 | some (.map kt et) =>
  match m,ix.key? with
  | some m,some kv =>
   if zeR P kt∧zb6 P kt (kv :: m.map (·.1)) then
    match zbS P kt kv m,zb7 P et with
    | some v,some _=>some (if ok then .tup [v,.p (.s (.bool true))] else v)
    | none,some z=>some (if ok then .tup [z,.p (.s (.bool false))] else z)
    | _,_=>none
   else none
  | _,_=>none
 | _=>none
def zgz (P:Program) (H:Hp) (t:TypeId) (b:Nat) (m:Option (List (Value × AV))) (ix y:AV):Option Hp :=
 match P.underlying t with
 | some (.map kt _) =>
  match m,ix.key? with
  | some m,some kv=>if zeR P kt∧zb6 P kt (kv :: m.map (·.1)) then some (H.set b (.mapB (zef P kt kv y m))) else none
  | _,_=>none
 | _=>none
theorem zlw {gm:Nat → Option (List (Value × AV))} {t:TypeId} {b:Nat} {ix:AV} {ok:Bool}:zcu P gm H t (.mp b) ix ok=zd9 P t ((H.f b).bind AB.map?) ix ok:=rfl
theorem zlx {gm:Nat → Option (List (Value × AV))} {t:TypeId} {r:Nat} {ix:AV} {ok:Bool}:zcu P gm H t (.p (.s (.map (some r)))) ix ok=zd9 P t (gm r) ix ok:=rfl
theorem zly {t:TypeId} {b:Nat} {ix y:AV}:zaz P H t (.mp b) ix y=zgz P H t b ((H.f b).bind AB.map?) ix y:=by
 unfold zaz zgz
 cases P.underlying t with
 | none=>rfl
 | some d=>cases d<;>rfl
end maps

def tm {κ α:Type} (ev:κ → Value) (f:α → AV) (m:List (κ × α)):List (Value × AV):=m.map fun p=>(ev p.1,f p.2)
def zcl {κ α:Type} [DecidableEq κ] (k:κ):List (κ × α) → Option α
 | []=>none
 | (a,x) :: m=>if a=k then some x else zcl k m
def zsA {κ α:Type} [DecidableEq κ] (k:κ) (x:α):List (κ × α) → List (κ × α)
 | []=>[(k,x)]
 | (a,y) :: m=>if a=k then (a,x) :: m else (a,y) :: zsA k x m
def zqc {α:Type} (f:α → AV) (z:AV) (o:Option α):AV:=match o with | some v => .tup [f v,.p (bo true)] | none => .tup [z,.p (bo false)]
theorem zlz {α:Type} {f:α → AV} {z:AV} {v:α}:zqc f z (some v) = .tup [f v,.p (bo true)]:=rfl
theorem zlA {α:Type} {f:α → AV} {z:AV}:zqc f z none = .tup [z,.p (bo false)]:=rfl

structure MapT (P:Program) (t:TypeId) {κ α:Type} [DecidableEq κ] (ek:κ → PV) (ev:κ → Value) (ok:κ → Prop) (f:α → AV) (z:AV):Prop where
 ty : ∃ kt et,P.underlying t=some (.map kt et)∧zeR P kt=true∧(∀ k,ok k → (keyOf P kt (ev k)).isSome=true)∧zb7 P et=some z
 val : ∀ k,(ek k).val? = some (ev k)
 inj : ∀ a b,ok a → ok b → ev a=ev b → a=b

section maps
variable {P:Program} {t:TypeId} {κ α:Type} [DecidableEq κ] {ek:κ → PV} {ev:κ → Value} {ok:κ → Prop} {f:α → AV} {z:AV}

theorem zgA {kt:TypeId} (hk:zeR P kt=true) (ho : ∀ k,ok k → (keyOf P kt (ev k)).isSome=true) (hi : ∀ a b,ok a → ok b → ev a=ev b → a=b) {a b:κ} (ha:ok a) (hb:ok b):zbR P kt (ev a) (ev b)=decide (a=b):=by
 have K:=zcQ hk
 by_cases e:a=b
 · subst e
   obtain⟨l,hl⟩:=Option.isSome_iff_exists.1 (ho a ha)
   rw [zcR K hl];simp
 · rw [decide_eq_false e]
   cases h:zbR P kt (ev a) (ev b) with
   | false=>rfl
   | true=>exact absurd (hi a b ha hb (zbn K h)) e

theorem zfn {kt:TypeId} (hk:zeR P kt=true) (ho : ∀ k,ok k → (keyOf P kt (ev k)).isSome=true) (hi : ∀ a b,ok a → ok b → ev a=ev b → a=b) {k:κ} (h:ok k) :
 ∀ m:List (κ × α),(∀ p∈m,ok p.1) → zbS P kt (ev k) (tm ev f m)=(zcl k m).map f
 | [],_=>rfl
 | (a,x) :: m,hm=>by
  have h1:=zgA hk ho hi (hm (a,x) (by simp)) h
  have ih:=zfn hk ho hi h m (fun p hp=>hm p (by simp [hp]))
  simp only [tm,List.map_cons,zbS,zcl] at ih ⊢
  rw [h1]
  by_cases e:a=k
  · simp [e]
  · simp [e,ih]

theorem zmy {kt:TypeId} (hk:zeR P kt=true) (ho : ∀ k,ok k → (keyOf P kt (ev k)).isSome=true) (hi : ∀ a b,ok a → ok b → ev a=ev b → a=b) {k:κ} (h:ok k) (x:α) :
 ∀ m:List (κ × α),(∀ p∈m,ok p.1) → zef P kt (ev k) (f x) (tm ev f m)=tm ev f (zsA k x m)
 | [],_=>rfl
 | (a,y) :: m,hm=>by
  have h1:=zgA hk ho hi (hm (a,y) (by simp)) h
  have ih:=zmy hk ho hi h x m (fun p hp=>hm p (by simp [hp]))
  simp only [tm,List.map_cons,zef,zsA] at ih ⊢
  rw [h1]
  by_cases e:a=k
  · simp [e]
  · simp [e,ih]

theorem zdK {kt:TypeId} (ho : ∀ k,ok k → (keyOf P kt (ev k)).isSome=true) {k:κ} (h:ok k) {m:List (κ × α)} (hm : ∀ p∈m,ok p.1):zb6 P kt (ev k :: (tm ev f m).map (·.1))=true:=by
 simp only [zb6,List.all_cons,Bool.and_eq_true,List.all_eq_true,tm,List.map_map,List.mem_map]
 refine⟨ho k h,fun v hv => ?_⟩
 obtain⟨p,hp,rfl⟩:=hv
 exact ho _ (hm p hp)

theorem MapT.look (M:MapT P t ek ev ok f z) {m:List (κ × α)} {k:κ} (hm : ∀ p∈m,ok p.1) (h:ok k):zd9 P t (some (tm ev f m)) (.p (ek k)) true=some (zqc f z (zcl k m)):=by
 obtain⟨kt,et,hu,hk,ho,hz⟩:=M.ty
 unfold zd9
 rw [hu]
 simp only [AV.key?,M.val]
 rw [if_pos ⟨hk,zdK ho h hm⟩,zfn hk ho M.inj h m hm,hz]
 cases zcl k m<;>rfl

theorem MapT.at (M:MapT P t ek ev ok f z) {m:List (κ × α)} {k:κ} (hm : ∀ p∈m,ok p.1) (h:ok k):zd9 P t (some (tm ev f m)) (.p (ek k)) false=some (match zcl k m with | some v=>f v | none=>z):=by
 obtain⟨kt,et,hu,hk,ho,hz⟩:=M.ty
 unfold zd9
 rw [hu]
 simp only [AV.key?,M.val]
 rw [if_pos ⟨hk,zdK ho h hm⟩,zfn hk ho M.inj h m hm,hz]
 cases zcl k m<;>rfl

theorem MapT.put (M:MapT P t ek ev ok f z) {H:Hp} {b:Nat} {m:List (κ × α)} {k:κ} {x:α} (hm : ∀ p∈m,ok p.1) (h:ok k):zgz P H t b (some (tm ev f m)) (.p (ek k)) (f x)=some (H.set b (.mapB (tm ev f (zsA k x m)))):=by
 obtain⟨kt,et,hu,hk,ho,hz⟩:=M.ty
 unfold zgz
 rw [hu]
 simp only [AV.key?,M.val]
 rw [if_pos ⟨hk,zdK ho h hm⟩,zmy hk ho M.inj h x m hm]

end maps
attribute [go_sem] map?_mapB zjl zfm zjm zhw zlw zlx zly zlz zlA
end Go.AL

/-
  A region whose order is open,by an invariant that speaks of what has run.
  Conditions: none;nothing here speaks of one program.
-/
namespace Go.AL
open Go

def zqd (ops:Array Oper):Bool:=(List.range ops.size).all fun i=>match ops[i]? with
 | some o=>o.after.all fun e => !Region.binds .any e || decide (e.on < i)
 | none=>true

section inv
variable {C:Cx} {ops:Array Oper} {Q:Env → Hp → Prop}

def more (L:Nat → Bool) (i:Nat):Nat → Bool:=fun k=>k == i || L k

theorem zqe (I:(Nat → Bool) → Env → Hp → Prop) (hback:zqd ops=true)
 (step : ∀ i o L env H,ops[i]? = some o → L i=false → (∀ e∈o.after,Region.binds .any e=true → L e.on=true) → I L env H → opA C ops false i (I (more L i)) env H)
 (done : ∀ L env H,(∀ i,i < ops.size → L i=true) → I L env H → Q env H) :
 ∀ (fuel:Nat) (listed:Array Bool) (env:Env) (H:Hp),listed.size=ops.size → (List.range ops.size).countP (fun i => !listed.getD i false)=fuel → I (fun i=>listed.getD i false) env H → zcc C ops (fun _=>false) Q fuel listed env H:=by
 have hb : ∀ i o,ops[i]? = some o → ∀ e∈o.after,Region.binds .any e=true → e.on < i:=fun i o ho e he hbi=>by
  have hi:i < ops.size:=(Array.getElem?_eq_some_iff.1 ho).1
  have:=(List.all_eq_true.1 hback) i (List.mem_range.2 hi)
  rw [ho] at this
  have:=(Array.all_eq_true_iff_forall_mem.1 this) e he
  simpa [hbi] using this
 have hfull : ∀ (listed:Array Bool),listed.size=ops.size → Region.ready .any ops listed=[] → ∀ i,i < ops.size → listed.getD i false=true:=by
  intro listed hs h0 i
  induction i using Nat.strongRecOn with
  | _ i ih =>
   intro hi
   refine Classical.byContradiction fun hn => ?_
   have hx:listed.getD i true=false:=by
    have:i < listed.size:=by omega
    simp [Array.getD_eq_getD_getElem?,this] at hn ⊢
    exact hn
   have:i∈Region.ready .any ops listed:=mem_ready.2 ⟨hx,ops[i],by simp [hi],fun e he hbi=>by
    have:=hb i ops[i] (by simp [hi]) e he hbi
    exact ih e.on this (by omega)⟩
   rw [h0] at this
   cases this
 intro fuel
 induction fuel with
 | zero =>
  intro listed env H hs hc hI
  have hall : ∀ i,i < ops.size → listed.getD i false=true:=fun i hi=>by
   have:=(List.countP_eq_zero.1 hc) i (List.mem_range.2 hi)
   simpa using this
  refine⟨?_,done _ env H hall hI⟩
  refine List.eq_nil_iff_forall_not_mem.2 fun k hk => ?_
  obtain⟨h1,o,ho,_⟩:=mem_ready.1 hk
  have hk':k < ops.size:=(Array.getElem?_eq_some_iff.1 ho).1
  have h2:=hall k hk'
  have:k < listed.size:=by omega
  simp [Array.getD_eq_getD_getElem?,this] at h1 h2
  rw [h1] at h2
  cases h2
 | succ fuel ih =>
  intro listed env H hs hc hI
  refine⟨fun h0=>done _ env H (hfull listed hs h0) hI,fun i hi => ?_⟩
  obtain⟨h1,o,ho,hall⟩:=mem_ready.1 hi
  have hi':i < ops.size:=(Array.getElem?_eq_some_iff.1 ho).1
  have hl:i < listed.size:=by omega
  have h1':listed.getD i false=false:=by
   simp [Array.getD_eq_getD_getElem?,hl] at h1 ⊢
   exact h1
  have hm:(fun k=>(listed.setIfInBounds i true).getD k false)=more (fun k=>listed.getD k false) i:=by
   funext k
   unfold more
   by_cases e:k=i
   · subst e
     simp [Array.getD_eq_getD_getElem?,hl]
   · rw [beq_eq_false_iff_ne.2 e,Bool.false_or,getD_set_ne false (Ne.symm e)]
  refine yI (fun env' H' hh=>ih (listed.setIfInBounds i true) env' H' (by simpa using hs) ?_ (by rw [hm];exact hh)) (step i o _ env H ho h1' hall hI)
  -- one less is left
  have key : ∀ (l:List Nat),l.Nodup → i∈l → l.countP (fun k => !listed.getD k false)=l.countP (fun k => !(listed.setIfInBounds i true).getD k false)+1:=by
   intro l hnd hil
   induction l with
   | nil=>cases hil
   | cons a l ihl =>
    simp only [List.nodup_cons] at hnd
    rw [List.countP_cons,List.countP_cons]
    have hfun : ∀ k,(listed.setIfInBounds i true).getD k false=more (fun k=>listed.getD k false) i k:=fun k=>congrFun hm k
    by_cases e:a=i
    · subst e
      have hsame:l.countP (fun k => !listed.getD k false)=l.countP (fun k => !(listed.setIfInBounds a true).getD k false):=by
       refine List.countP_congr fun k hk => ?_
       have hka:k≠a:=fun e=>hnd.1 (e ▸ hk)
       rw [hfun k]
       simp [more,hka]
      rw [hsame,hfun a]
      simp [more,h1']
    · have hil':i∈l:=by
       rcases List.mem_cons.1 hil with h | h
       · exact absurd h.symm e
       · exact h
      rw [ihl hnd.2 hil',hfun a]
      simp [more,e]
      omega
  have:=key (List.range ops.size) List.nodup_range (List.mem_range.2 hi')
  omega

theorem ARun.openInv {id:Nat} {l:List Oper} {k:List Item} {env:Env} {H:Hp} {R:AV → Hp → Prop} (I:(Nat → Bool) → Env → Hp → Prop) (hm:C.P.follows .mixedOrders=true) (hback:zqd l.toArray=true)
 (h0:I (fun _=>false) env H)
 (step : ∀ i o L env H,l[i]? = some o → L i=false → (∀ e∈o.after,Region.binds .any e=true → L e.on=true) → I L env H → opA C l.toArray false i (I (more L i)) env H)
 (done : ∀ L env H,(∀ i,i < l.length → L i=true) → I L env H → ARun C k env H R):ARun C (.code (.region id l.toArray true) :: k) env H R :=
 .of_wp fun σ w a m hpre=>by
  obtain⟨g1,g2⟩:=zaM hpre.rel
  have:=zqe (C:=C) (ops:=l.toArray) (Q:=fun env' H'=>ARun C k env' H' R) I hback (fun i o L env H ho=>step i o L env H (by simpa using ho)) (fun L env H hall=>done L env H (by simpa using hall)) l.length (Array.replicate l.length false) env H (by simp) (by
   rw [List.countP_eq_length.2 (fun i hi=>by
    have:i < l.length:=by simpa using List.mem_range.1 hi
    simp [Array.getD_eq_getD_getElem?,this])]
   simp) (by
   have:(fun i=>(Array.replicate l.length false).getD i false)=fun _=>false:=by
    funext i
    simp only [Array.getD_eq_getD_getElem?,Array.getElem?_replicate]
    split<;>rfl
   rw [this];exact h0)
  refine wpIn_region_any hm ?_
  rw [List.size_toArray]
  exact zW (m:=m) l.length _ env H σ w.drew a this g1 (hpre.fr.mono g2) (Nat.le_refl _) fun env' H' σ' w' a' b1 b2 b3 b4=>⟨rfl,env',H',σ',b1,hpre.go b2 b3 (g2.trans b4 (Nat.le_refl _)),g2.trans b4 (Nat.le_refl _)⟩
end inv

/-! ### A region in another order than the text's -/
section sched
variable {C:Cx} {ops:Array Oper} {q:Nat → Bool} {Q:Env → Hp → Prop}


def zow (C:Cx) (ops:Array Oper) (q:Nat → Bool) (Q:Env → Hp → Prop):List Nat → Env → Hp → Prop
 | [],env,H=>Q env H
 | k :: r,env,H=>opA C ops (q k) k (zow C ops q Q r) env H


def zqf (o:Option Oper) (t:List Oper):List Oper:=match o with | some o=>o :: t | none=>t
def zgB (l:List Oper):List Nat → List Oper
 | []=>[]
 | i :: r=>zqf l[i]? (zgB l r)
theorem zox {l:List Oper}:zgB l []=[]:=rfl
theorem zfo {l:List Oper} {i:Nat} {r:List Nat}:zgB l (i :: r)=zqf l[i]? (zgB l r):=rfl
theorem zfp {o:Oper} {t:List Oper}:zqf (some o) t=o :: t:=rfl

theorem zdn {l:List Oper} {q':Nat → Bool} {k:List Item} {R:AV → Hp → Prop} : ∀ (r:List Nat) (n:Nat) (env:Env) (H:Hp),(∀ i∈r,i < l.length) → (∀ m i,r[m]? = some i → q' (n+m)=q i) → zU C l.toArray q' n (zgB l r) k env H R → zow C l.toArray q (fun env' H'=>ARun C k env' H' R) r env H
 | [],n,env,H,_,_,h=>h
 | i :: r,n,env,H,hl,hq,h=>by
  have hi:i < l.length:=hl i (by simp)
  have ho:l[i]? = some l[i]:=by simp [hi]
  have hn:l.toArray[i]? = some l[i]:=by simp [hi]
  have hl' : ∀ j∈r,j < l.length:=fun j hj=>hl j (by simp [hj])
  have hq' : ∀ m j,r[m]? = some j → q' (n+1+m)=q j:=fun m j hm=>by
   have:=hq (m+1) j (by simpa using hm)
   rwa [show n+(m+1)=n+1+m by omega] at this
  have hq0:q' n=q i:=hq 0 i rfl
  have ih:=fun env H=>zdn (k:=k) (R:=R) r (n+1) env H hl' hq'
  rw [zfo,ho,zfp] at h
  generalize l[i]=o at *
  unfold zU at h
  rw [hq0] at h
  unfold zow opA
  (try simp only [hn])
  split at h
  · rename_i hw
    (try simp only [hw])
    cases hr:zc C.P C.G o.op o.type env H with
    | val x H' =>
     rw [hr] at h
     obtain⟨h1,h2,h3⟩:=h
     by_cases hqi:q i=true
     · rw [if_pos hqi]
       have:=h2 hqi;subst this
       exact⟨x,by unfold aOp1;rw [hr];exact⟨h1,rfl,rfl⟩,ih _ _ h3⟩
     · rw [if_neg hqi]
       unfold aOp1;rw [hr]
       exact⟨h1,ih _ _ h3⟩
    | unit H' =>
     rw [hr] at h
     obtain⟨h1,h2,h3⟩:=h
     rw [if_neg (by simp [h2])]
     unfold aOp1;rw [hr]
     exact⟨h1,by rw [h1];exact ih _ _ h3⟩
    | call f args =>
     rw [hr] at h
     obtain⟨h1,h2⟩:=h
     by_cases hqi:q i=true
     · rw [if_pos hqi] at h2 ⊢
       obtain⟨x,a,b⟩:=h2
       exact⟨x,by unfold aOp1;rw [hr];exact⟨h1,a⟩,ih _ _ b⟩
     · rw [if_neg hqi] at h2 ⊢
       unfold aOp1;rw [hr]
       exact⟨h1,h2.mono fun x H' b=>ih _ _ b⟩
    | yield b args =>
     rw [hr] at h
     obtain⟨h1,h2,h3⟩:=h
     rw [if_neg (by simp [h2])]
     unfold aOp1;rw [hr]
     exact⟨h1,h3.mono fun x H' b=>ih _ _ b⟩
    | fail=>rw [hr] at h;exact h.elim
  · rename_i hw
    (try simp only [hw])
    exact⟨h.1,ih _ _ h.2⟩
  · exact h.elim

end sched
attribute [go_sem] zox zfo zfp List.getElem?_cons_zero List.getElem?_cons_succ
end Go.AL

/-
  Regions whose order is open,with operations that do not look at the heap.
  Conditions: none;nothing here speaks of one program.
-/
namespace Go.AL
open Go

def zaF:Op → Bool
 | .move _ | .assign _ | .nilCheck _ | .binOp .. | .unOp .. | .fieldAddr .. | .build .. | .slice .. | .indexAddr .. | .field .. | .index .. | .extract .. => true
 | _=>false

section still
variable {C:Cx} {ops:Array Oper} {q:Nat → Bool} {Q:Env → Hp → Prop}

theorem zlB {P:Program} {G:Globs} {op:Op} {ty:TypeId} {env:Env} {H H':Hp} (hs:zaF op=true) :
 (∃ x,zc P G op ty env H = .val x H∧zc P G op ty env H' = .val x H') ∨ zc P G op ty env H = .fail:=by
 have vh : ∀ y:Option AV,(∃ x,vH y H = .val x H∧vH y H' = .val x H') ∨ vH y H = .fail:=by
  intro y
  cases y with
  | none=>exact .inr rfl
  | some z=>exact .inl ⟨z,rfl,rfl⟩
 cases op<;>simp only [zaF,Bool.false_eq_true] at hs<;>simp only [zc]
 all_goals first
  | exact vh _
  | exact .inl ⟨_,rfl,rfl⟩
  | (split;exact vh _;exact .inr rfl)

theorem YieldsA.still {o:Oper} {env:Env} {H H':Hp} {x:AV} (hs:zaF o.op=true) (hy:YieldsA C ops o env H x):YieldsA C ops o env H' x:=by
 rcases hy with ⟨h1,h2⟩ | h
 · refine .inl ⟨h1,?_⟩
   unfold aOp1 at h2 ⊢
   rcases zlB (P:=C.P) (G:=C.G) (ty:=o.type) (env:=env) (H:=H) (H':=H') hs with ⟨y,e1,e2⟩ | e
   · rw [e1] at h2;rw [e2]
     exact⟨h2.1,h2.2.1,rfl⟩
   · rw [e] at h2;exact h2.elim
 · exact .inr h

theorem zjn {j:Nat} {oi oj:Oper} {x:AV} {env:Env} {H:Hp} {K:Env → Hp → Prop} (hj:ops[j]? = some oj) (hap:oi.apart ops oj=true) (hs:zaF oi.op=true) (hy:YieldsA C ops oi env H x) (h:opA C ops false j K (env.put oi.dst x) H) :
 opA C ops false j (fun env' H'=>YieldsA C ops oi env' H' x∧K (env'.put oi.dst x) H') env H:=by
 obtain⟨h1,h2,h3⟩:=Oper.apart_spec hap
 unfold opA at *
 simp only [hj] at *
 rw [za5 h1] at h
 split
 · rename_i hw
   simp only [hw,Bool.false_eq_true,if_false] at h ⊢
   refine sOp.mono ((zde h1).1 h) fun y H' hk=>⟨(hy.put h3).still hs,?_⟩
   rw [←put_comm h2];exact hk
 · rename_i hw
   simp only [hw] at h
   exact⟨h.1,hy.put h3,by rw [←put_comm h2];exact h.2⟩
 · rename_i hw;simp only [hw] at h

theorem zjo {i:Nat} {oi:Oper} {x:AV} (hi:ops[i]? = some oi) (hqi:q i=true) (Wt:Nat → Prop) (hWt : ∀ j oj,ops[j]? = some oj → Wt j → ∃ e∈oj.after,Region.binds .any e=true∧(e.on=i ∨ Wt e.on)) : ∀ (fuel:Nat) (listed:Array Bool) (env:Env) (H:Hp),
 (∀ j,Wt j → listed.getD j true=false) →
 (∀ j oj,ops[j]? = some oj → j≠i → listed.getD j true=false → ¬Wt j → (q j=true ∨ zaF oi.op=true)∧oi.apart ops oj=true) →
 i∈Region.ready .any ops listed → YieldsA C ops oi env H x → zcc C ops q Q fuel (listed.setIfInBounds i true) (env.put oi.dst x) H → zcc C ops q Q (fuel+1) listed env H:=by
 intro fuel
 induction fuel with
 | zero =>
  intro listed env H _ _ hr hy hh
  refine⟨fun h=>(by rw [h] at hr;cases hr),fun j hj => ?_⟩
  by_cases hji:j=i
  · subst hji;rw [hqi];exact hy.opA hi hh
  · have:=ready_mono hj hji
    rw [hh.1] at this
    cases this
 | succ fuel ih =>
  intro listed env H hun0 hfree hr hy hh
  refine⟨fun h=>(by rw [h] at hr;cases hr),fun j hj => ?_⟩
  by_cases hji:j=i
  · subst hji;rw [hqi];exact hy.opA hi hh
  · have h1:=hh.2 j (ready_mono hj hji)
    obtain⟨hjun,oj,hoj,hall⟩:=mem_ready.1 hj
    have hnot : ∀ e∈oj.after,Region.binds .any e=true → e.on≠i:=fun e he hb heq=>by
     have h1:=hall e he hb
     have h0:=(mem_ready.1 hr).1
     rw [heq] at h1
     rcases Nat.lt_or_ge i listed.size with h' | h'
     · simp [h'] at h0 h1;rw [h0] at h1;cases h1
     · simp [Array.getElem?_eq_none h'] at h1
    have hnw : ¬Wt j:=fun hw=>by
     obtain⟨e,he,hb,h | h⟩:=hWt j oj hoj hw
     · exact hnot e he hb h
     · have h1:=hall e he hb
       have h0:=hun0 _ h
       rcases Nat.lt_or_ge e.on listed.size with h' | h'
       · simp [h'] at h0 h1;rw [h0] at h1;cases h1
       · simp [Array.getElem?_eq_none h'] at h1
    obtain⟨hqj,hap⟩:=hfree j oj hoj hji hjun hnw
    have h2:opA C ops (q j) j (fun env' H'=>YieldsA C ops oi env' H' x∧zcc C ops q Q fuel ((listed.setIfInBounds i true).setIfInBounds j true) (env'.put oi.dst x) H') env H:=by
     cases hq:q j with
     | true=>rw [hq] at h1;exact zg3 hoj hap hy h1
     | false =>
      rw [hq] at h1
      exact zjn hoj hap (hqj.resolve_left (by simp [hq])) hy h1
    have hfree' : ∀ k ok,ops[k]? = some ok → k≠i → (listed.setIfInBounds j true).getD k true=false →
     ¬Wt k → (q k=true ∨ zaF oi.op=true)∧oi.apart ops ok=true:=fun k ok hk hki hun hno=>by
     refine hfree k ok hk hki ?_ hno
     by_cases hjk:j=k
     · subst hjk;exact hjun
     · rw [getD_set_ne true hjk] at hun;exact hun
    have hun' : ∀ k,Wt k → (listed.setIfInBounds j true).getD k true=false:=fun k hk=>by
     by_cases hjk:j=k
     · subst hjk;exact absurd hk hnw
     · rw [getD_set_ne true hjk];exact hun0 k hk
    refine yI (fun env' H' h3=>ih (listed.setIfInBounds j true) env' H' hun' hfree' (ready_mono hr (Ne.symm hji)) h3.1 ?_) h2
    rw [Array.setIfInBounds_comm _ _ hji]
    exact h3.2

def zqg (q:Nat → Bool) (ops:Array Oper) (listed:Array Bool) (i:Nat):Bool :=
 match ops[i]? with
 | none=>false
 | some oi=>(List.range ops.size).all fun j=>j == i || listed.getD j true || match ops[j]? with
  | some oj=>oj.after.any (fun e=>Region.binds .any e && e.on == i) || ((q j || zaF oi.op) && oi.apart ops oj) || (zcd ops listed i).contains j
  | none=>true

theorem zlC {i:Nat} {oi:Oper} {listed:Array Bool} (hi:ops[i]? = some oi) (h:zqg q ops listed i=true) (j:Nat) (oj:Oper)
 (hj:ops[j]? = some oj) (hne:j≠i) (hun:listed.getD j true=false) (hno : ¬Waits ops listed i j):(q j=true ∨ zaF oi.op=true)∧oi.apart ops oj=true:=by
 simp only [zqg,hi,List.all_eq_true,List.mem_range] at h
 have h1:=h j (Array.getElem?_eq_some_iff.1 hj).1
 simp only [hj,Bool.or_eq_true,beq_iff_eq,hne,false_or,hun,Bool.false_eq_true,Bool.and_eq_true] at h1
 rcases h1 with (h1 | h1) | h1
 · refine absurd ⟨1,?_⟩ hno
   obtain⟨e,he,hb⟩:=Array.any_eq_true'.1 h1
   simp only [Bool.and_eq_true,beq_iff_eq] at hb
   simp only [yg,hun,hj,Bool.not_false,Bool.true_and]
   exact Array.any_eq_true'.2 ⟨e,he,by simp [hb.1,hb.2]⟩
 · exact h1
 · exact absurd (zbg h1) hno

def zqh (q:Nat → Bool) (ops:Array Oper):Nat → Nat → Array Bool → Bool
 | 0,_,listed=>(Region.ready .any ops listed).isEmpty
 | fuel+1,k,listed=>(Region.ready .any ops listed).contains k && (if q k then zqg q ops listed k else Region.ready .any ops listed == [k]) && zqh q ops fuel (k+1) (listed.setIfInBounds k true)

theorem zdL : ∀ (l:List Oper) (k:Nat) (listed:Array Bool) (env:Env) (H:Hp),(∀ j,l[j]? = ops[k+j]?) → zqh q ops l.length k listed=true → zcF C ops q Q k l env H → zcc C ops q Q l.length listed env H
 | [],_,_,_,_,_,hB,h=>⟨by simpa [zqh] using hB,h⟩
 | o :: l,k,listed,env,H,hl,hB,h=>by
  have h0:ops[k]? = some o:=by simpa using (hl 0).symm
  have hl' : ∀ j,l[j]? = ops[k+1+j]? := fun j=>by have:=hl (j+1);simpa [Nat.add_assoc,Nat.add_comm 1 j] using this
  simp only [List.length_cons,zqh,Bool.and_eq_true] at hB
  obtain⟨⟨hr,hf⟩,hB'⟩:=hB
  simp only [zcF] at h
  by_cases hq:q k=true
  · rw [if_pos hq] at hf
    rw [hq] at h
    have : ∃ x,YieldsA C ops o env H x∧zcF C ops q Q (k+1) l (env.put o.dst x) H:=by
     unfold opA at h
     simp only [h0] at h
     split at h
     · rename_i hw;simp only [if_true] at h;obtain⟨x,h1,h2⟩:=h;exact⟨x,.inl ⟨hw,h1⟩,h2⟩
     · rename_i hw;exact⟨.tup [],.inr ⟨hw,h.1,rfl⟩,h.2⟩
     · exact h.elim
    obtain⟨x,hy,hK⟩:=this
    exact zjo h0 hq (Waits ops listed k) (fun j oj hj hw=>hw.edge hj) l.length listed env H (fun j hw=>hw.unlisted) (zlC h0 hf) (by simpa using hr) hy (zdL l (k+1) _ _ _ hl' hB' hK)
  · rw [if_neg hq] at hf
    have hrd:Region.ready .any ops listed=[k]:=by simpa using hf
    refine⟨fun h0=>(by rw [hrd] at h0;cases h0),fun i hi => ?_⟩
    rw [hrd] at hi
    simp only [List.mem_singleton] at hi
    subst hi
    exact yI (fun env' H' hh=>zdL l (i+1) _ _ _ hl' hB' hh) h

theorem ARun.openT {id:Nat} {l:List Oper} {k:List Item} {env:Env} {H:Hp} {R:AV → Hp → Prop} (loud:List Nat) (hm:C.P.follows .mixedOrders=true) (hB:zqh (zM loud) l.toArray l.length 0 (Array.replicate l.length false)=true)
 (h:zU C l.toArray (zM loud) 0 l k env H R):ARun C (.code (.region id l.toArray true) :: k) env H R :=
 .of_wp fun σ w a m hpre=>by
  obtain⟨g1,g2⟩:=zaM hpre.rel
  have:=zdL (C:=C) (ops:=l.toArray) (Q:=fun env' H'=>ARun C k env' H' R) l 0 (Array.replicate l.length false) env H (by simp) hB (zC (by simp) h)
  refine wpIn_region_any hm ?_
  rw [List.size_toArray]
  exact zW (m:=m) l.length _ env H σ w.drew a this g1 (hpre.fr.mono g2) (Nat.le_refl _) fun env' H' σ' w' a' b1 b2 b3 b4=>⟨rfl,env',H',σ',b1,hpre.go b2 b3 (g2.trans b4 (Nat.le_refl _)),g2.trans b4 (Nat.le_refl _)⟩
end still
end Go.AL

/-
  Regions whose order is open,in which two new rows may be made in either order: one run for each.
  Conditions: none;nothing here speaks of one program.
-/
namespace Go.AL
open Go

def zaf:Op → Bool
 | .move _ | .assign _ | .nilCheck _ | .binOp .. | .unOp .. | .fieldAddr .. | .build .. | .load .. | .convert .. | .indexAddr .. | .field .. | .index .. => true
 | .call { callee := .builtin .len,.. }=>true
 | _=>false

def zey:Op → Bool
 | .alloc _ | .makeSlice .. => true
 | _=>false

theorem zqi {P:Program} {G:Globs} {op:Op} {ty:TypeId} {env:Env} {H:Hp} (ha:zey op=true):zc P G op ty env H = .fail ∨ ∃ y x,zc P G op ty env H = .val y (H.new x):=by
 have hm : ∀ {t:TypeId} {a b:AV},vHH (zd0 P H t a b) = .fail ∨ ∃ y x,vHH (zd0 P H t a b) = .val y (H.new x):=by
  intro t a b
  unfold zd0
  split
  · split
    · split
      · exact .inr ⟨_,_,rfl⟩
      · exact .inl rfl
    · exact .inl rfl
  · exact .inl rfl
 have hm0 : ∀ {t:TypeId} {a b:AV},vHH (zb5 P H t a b) = .fail ∨ ∃ y x,vHH (zb5 P H t a b) = .val y (H.new x):=by
  intro t a b
  unfold zb5
  split
  · split
    · exact .inr ⟨_,_,rfl⟩
    · exact .inl rfl
  · exact .inl rfl
 cases op<;>simp only [zey,Bool.false_eq_true] at ha<;>simp only [zc]
 case alloc t =>
  cases zB P t with
  | none=>exact .inl rfl
  | some z=>exact .inr ⟨_,_,rfl⟩
 case makeSlice t l c =>
  split
  · exact hm0
  · exact hm

section fork
variable {C:Cx} {ops:Array Oper} {q:Nat → Bool} {Q:Env → Hp → Prop}

theorem zlD {P:Program} {G:Globs} {op:Op} {ty:TypeId} {env:Env} {H:Hp} (hs:zaf op=true) :
 (∃ x,zc P G op ty env H = .val x H ∧ ∀ T,zc P G op ty env (app H T) = .val x (app H T)) ∨ zc P G op ty env H = .fail:=by
 have key:(∃ x,zc P G op ty env H = .val x H) ∨ zc P G op ty env H = .fail:=by
  have vh : ∀ y:Option AV,(∃ x,vH y H = .val x H) ∨ vH y H = .fail:=by
   intro y
   cases y with
   | none=>exact .inr rfl
   | some z=>exact .inl ⟨z,rfl⟩
  cases op
  case call c =>
   obtain⟨callee,args,ts⟩:=c
   cases callee with
   | builtin b =>
    cases b<;>simp only [zaf,Bool.false_eq_true] at hs
    simp only [zc,yU,zx]
    split<;>first
     | exact vh _
     | exact .inr rfl
     | (exfalso;simp_all;done)
   | _=>simp [zaf] at hs
  all_goals simp only [zaf,Bool.false_eq_true] at hs
  all_goals simp only [zc]
  all_goals first
   | exact vh _
   | exact .inl ⟨_,rfl⟩
 rcases key with ⟨x,h⟩ | h
 · refine .inl ⟨x,h,fun T=>zji ?_ h⟩
   cases op<;>first
    | rfl
    | (simp only [zaf,Bool.false_eq_true] at hs;done)
    | skip
   case call c =>
    obtain⟨callee,args,ts⟩:=c
    cases callee with
    | builtin b=>cases b<;>first | rfl | (simp [zaf] at hs;done)
    | _=>simp [zaf] at hs
 · exact .inr h

theorem YieldsA.ext {o:Oper} {env:Env} {H:Hp} {T:List AB} {x:AV} (hs:zaf o.op=true) (hy:YieldsA C ops o env H x):YieldsA C ops o env (app H T) x:=by
 rcases hy with ⟨h1,h2⟩ | h
 · refine .inl ⟨h1,?_⟩
   unfold aOp1 at h2 ⊢
   rcases zlD (P:=C.P) (G:=C.G) (ty:=o.type) (env:=env) (H:=H) hs with ⟨y,e1,e2⟩ | e
   · rw [e1] at h2;rw [e2 T]
     exact⟨h2.1,h2.2.1,rfl⟩
   · rw [e] at h2;exact h2.elim
 · exact .inr h


theorem zqj {j:Nat} {oi oj:Oper} {x:AV} {env:Env} {H:Hp} {K:Env → Hp → Prop} (hj:ops[j]? = some oj) (hap:oi.apart ops oj=true) (hs:zaf oi.op=true) (ha:zey oj.op=true) (hy:YieldsA C ops oi env H x) (h:opA C ops false j K (env.put oi.dst x) H) :
 opA C ops false j (fun env' H'=>YieldsA C ops oi env' H' x∧K (env'.put oi.dst x) H') env H:=by
 obtain⟨h1,h2,h3⟩:=Oper.apart_spec hap
 unfold opA at *
 simp only [hj] at *
 rw [za5 h1] at h
 split
 · rename_i hw
   simp only [hw,Bool.false_eq_true,if_false] at h ⊢
   have h':=(zde h1).1 h
   unfold aOp1 at h' ⊢
   rcases zqi (P:=C.P) (G:=C.G) (ty:=oj.type) (env:=env) (H:=H) ha with e | ⟨y,z,e⟩
   · rw [e] at h';exact h'.elim
   · rw [e] at h' ⊢
     refine⟨h'.1,?_,?_⟩
     · exact (hy.put h3).ext (T:=[z]) hs
     · have:=h'.2
       rw [←put_comm h2];exact this
 · rename_i hw
   simp only [hw] at h
   exact⟨h.1,hy.put h3,by rw [←put_comm h2];exact h.2⟩
 · rename_i hw;simp only [hw] at h

def zfq (q:Nat → Bool) (oi oj:Oper) (j:Nat):Bool:=q j || zaF oi.op || (zaf oi.op && zey oj.op)

theorem zea {i:Nat} {oi:Oper} {x:AV} (hi:ops[i]? = some oi) (hqi:q i=true) (Wt:Nat → Prop) (hWt : ∀ j oj,ops[j]? = some oj → Wt j → ∃ e∈oj.after,Region.binds .any e=true∧(e.on=i ∨ Wt e.on)) : ∀ (fuel:Nat) (listed:Array Bool) (env:Env) (H:Hp),
 (∀ j,Wt j → listed.getD j true=false) →
 (∀ j oj,ops[j]? = some oj → j≠i → listed.getD j true=false → ¬Wt j → zfq q oi oj j=true∧oi.apart ops oj=true) →
 i∈Region.ready .any ops listed → YieldsA C ops oi env H x → zcc C ops q Q fuel (listed.setIfInBounds i true) (env.put oi.dst x) H → zcc C ops q Q (fuel+1) listed env H:=by
 intro fuel
 induction fuel with
 | zero =>
  intro listed env H _ _ hr hy hh
  refine⟨fun h=>(by rw [h] at hr;cases hr),fun j hj => ?_⟩
  by_cases hji:j=i
  · subst hji;rw [hqi];exact hy.opA hi hh
  · have:=ready_mono hj hji
    rw [hh.1] at this
    cases this
 | succ fuel ih =>
  intro listed env H hun0 hfree hr hy hh
  refine⟨fun h=>(by rw [h] at hr;cases hr),fun j hj => ?_⟩
  by_cases hji:j=i
  · subst hji;rw [hqi];exact hy.opA hi hh
  · have h1:=hh.2 j (ready_mono hj hji)
    obtain⟨hjun,oj,hoj,hall⟩:=mem_ready.1 hj
    have hnot : ∀ e∈oj.after,Region.binds .any e=true → e.on≠i:=fun e he hb heq=>by
     have h1:=hall e he hb
     have h0:=(mem_ready.1 hr).1
     rw [heq] at h1
     rcases Nat.lt_or_ge i listed.size with h' | h'
     · simp [h'] at h0 h1;rw [h0] at h1;cases h1
     · simp [Array.getElem?_eq_none h'] at h1
    have hnw : ¬Wt j:=fun hw=>by
     obtain⟨e,he,hb,h | h⟩:=hWt j oj hoj hw
     · exact hnot e he hb h
     · have h1:=hall e he hb
       have h0:=hun0 _ h
       rcases Nat.lt_or_ge e.on listed.size with h' | h'
       · simp [h'] at h0 h1;rw [h0] at h1;cases h1
       · simp [Array.getElem?_eq_none h'] at h1
    obtain⟨hqj,hap⟩:=hfree j oj hoj hji hjun hnw
    have h2:opA C ops (q j) j (fun env' H'=>YieldsA C ops oi env' H' x∧zcc C ops q Q fuel ((listed.setIfInBounds i true).setIfInBounds j true) (env'.put oi.dst x) H') env H:=by
     cases hq:q j with
     | true=>rw [hq] at h1;exact zg3 hoj hap hy h1
     | false =>
      rw [hq] at h1
      simp only [zfq,hq,Bool.false_or,Bool.or_eq_true,Bool.and_eq_true] at hqj
      rcases hqj with hqj | hqj
      · exact zjn hoj hap hqj hy h1
      · exact zqj hoj hap hqj.1 hqj.2 hy h1
    have hfree' : ∀ k ok,ops[k]? = some ok → k≠i → (listed.setIfInBounds j true).getD k true=false →
     ¬Wt k → zfq q oi ok k=true∧oi.apart ops ok=true:=fun k ok hk hki hun hno=>by
     refine hfree k ok hk hki ?_ hno
     by_cases hjk:j=k
     · subst hjk;exact hjun
     · rw [getD_set_ne true hjk] at hun;exact hun
    have hun' : ∀ k,Wt k → (listed.setIfInBounds j true).getD k true=false:=fun k hk=>by
     by_cases hjk:j=k
     · subst hjk;exact absurd hk hnw
     · rw [getD_set_ne true hjk];exact hun0 k hk
    refine yI (fun env' H' h3=>ih (listed.setIfInBounds j true) env' H' hun' hfree' (ready_mono hr (Ne.symm hji)) h3.1 ?_) h2
    rw [Array.setIfInBounds_comm _ _ hji]
    exact h3.2

def zmz (q:Nat → Bool) (ops:Array Oper) (listed:Array Bool) (i:Nat):Bool :=
 match ops[i]? with
 | none=>false
 | some oi=>(List.range ops.size).all fun j=>j == i || listed.getD j true || match ops[j]? with
  | some oj=>oj.after.any (fun e=>Region.binds .any e && e.on == i) || (zfq q oi oj j && oi.apart ops oj) || (zcd ops listed i).contains j
  | none=>true

theorem zfr {i:Nat} {oi:Oper} {listed:Array Bool} (hi:ops[i]? = some oi) (h:zmz q ops listed i=true) (j:Nat) (oj:Oper)
 (hj:ops[j]? = some oj) (hne:j≠i) (hun:listed.getD j true=false) (hno : ¬Waits ops listed i j):zfq q oi oj j=true∧oi.apart ops oj=true:=by
 simp only [zmz,hi,List.all_eq_true,List.mem_range] at h
 have h1:=h j (Array.getElem?_eq_some_iff.1 hj).1
 simp only [hj,Bool.or_eq_true,beq_iff_eq,hne,false_or,hun,Bool.false_eq_true,Bool.and_eq_true] at h1
 rcases h1 with (h1 | h1) | h1
 · refine absurd ⟨1,?_⟩ hno
   obtain⟨e,he,hb⟩:=Array.any_eq_true'.1 h1
   simp only [Bool.and_eq_true,beq_iff_eq] at hb
   simp only [yg,hun,hj,Bool.not_false,Bool.true_and]
   exact Array.any_eq_true'.2 ⟨e,he,by simp [hb.1,hb.2]⟩
 · exact h1
 · exact absurd (zbg h1) hno

def zfs (q:Nat → Bool) (ops:Array Oper):List Nat → Array Bool → Bool
 | [],listed=>(Region.ready .any ops listed).isEmpty
 | k :: r,listed=>decide (k < ops.size) && (Region.ready .any ops listed).contains k && (if q k then zmz q ops listed k else Region.ready .any ops listed == [k]) && zfs q ops r (listed.setIfInBounds k true)

theorem zc3 {k:Nat} {o:Oper} {env:Env} {H:Hp} {K:Env → Hp → Prop} (h0:ops[k]? = some o) (h:opA C ops true k K env H) : ∃ x,YieldsA C ops o env H x∧K (env.put o.dst x) H:=by
 unfold opA at h
 simp only [h0] at h
 split at h
 · rename_i hw;simp only [if_true] at h;obtain⟨x,h1,h2⟩:=h;exact⟨x,.inl ⟨hw,h1⟩,h2⟩
 · rename_i hw;exact⟨.tup [],.inr ⟨hw,h.1,rfl⟩,h.2⟩
 · exact h.elim

theorem zdM : ∀ (r:List Nat) (listed:Array Bool) (env:Env) (H:Hp),zfs q ops r listed=true → zow C ops q Q r env H → zcc C ops q Q r.length listed env H
 | [],_,_,_,hB,h=>⟨by simpa [zfs] using hB,h⟩
 | k :: r,listed,env,H,hB,h=>by
  simp only [zfs,Bool.and_eq_true,decide_eq_true_eq] at hB
  obtain⟨⟨⟨hk,hr⟩,hf⟩,hB'⟩:=hB
  obtain⟨o,h0⟩ : ∃ o,ops[k]? = some o:=⟨_,Array.getElem?_eq_getElem hk⟩
  simp only [zow] at h
  by_cases hq:q k=true
  · rw [if_pos hq] at hf
    rw [hq] at h
    obtain⟨x,hy,hK⟩:=zc3 h0 h
    exact zea h0 hq (Waits ops listed k) (fun j oj hj hw=>hw.edge hj) r.length listed env H (fun j hw=>hw.unlisted) (zfr h0 hf) (by simpa using hr) hy (zdM r _ _ _ hB' hK)
  · rw [if_neg hq] at hf
    have hrd:Region.ready .any ops listed=[k]:=by simpa using hf
    refine⟨fun h0=>(by rw [hrd] at h0;cases h0),fun i hi => ?_⟩
    rw [hrd] at hi
    simp only [List.mem_singleton] at hi
    subst hi
    exact yI (fun env' H' hh=>zdM r _ _ _ hB' hh) h




end fork
attribute [go_sem] List.cons_append List.nil_append
end Go.AL

/-
  A region whose order is open: after operations that keep the heap (calls too),two that change it may come in either order.
  Conditions: none;nothing here speaks of one program.
-/
namespace Go.AL
open Go
section fork
variable {C:Cx} {ops:Array Oper} {q:Nat → Bool} {Q:Env → Hp → Prop}
def zmA (n:Nat) (loud lp order:List Nat):Bool:=order.all (· < n) && (List.range order.length).all fun m=>zM lp m == zM loud (order.getD m 0)
inductive Tr where
 | lin (r:List Nat)
 | one (k:Nat) (t:Tr)
 | fork (i j:Nat) (a b:Tr)
def Tr.depth:Tr → Nat
 | .lin r=>r.length
 | .one _ t=>t.depth+1
 | .fork _ _ a _=>a.depth+1
def zlE (q:Nat → Bool) (ops:Array Oper):Tr → Array Bool → Bool
 | .lin r,listed=>zfs q ops r listed
 | .one k t,listed=>decide (k < ops.size) && (Region.ready .any ops listed).contains k && (if q k then zmz q ops listed k else Region.ready .any ops listed == [k]) && zlE q ops t (listed.setIfInBounds k true)
 | .fork i j a b,listed=>Region.ready .any ops listed == [i,j] && a.depth == b.depth && zlE q ops a (listed.setIfInBounds i true) && zlE q ops b (listed.setIfInBounds j true)
def trA (C:Cx) (ops:Array Oper) (q:Nat → Bool) (Q:Env → Hp → Prop):Tr → Env → Hp → Prop
 | .lin r,env,H=>zow C ops q Q r env H
 | .one k t,env,H=>opA C ops (q k) k (trA C ops q Q t) env H
 | .fork i j a b,env,H=>opA C ops (q i) i (trA C ops q Q a) env H∧opA C ops (q j) j (trA C ops q Q b) env H
theorem zdo : ∀ (t:Tr) (listed:Array Bool) (env:Env) (H:Hp),zlE q ops t listed=true → trA C ops q Q t env H → zcc C ops q Q t.depth listed env H
 | .lin r,listed,env,H,hB,h=>zdM r listed env H hB h
 | .one k t,listed,env,H,hB,h=>by
  simp only [zlE,Bool.and_eq_true,decide_eq_true_eq] at hB
  obtain⟨⟨⟨hk,hr⟩,hf⟩,hB'⟩:=hB
  obtain⟨o,h0⟩ : ∃ o,ops[k]? = some o:=⟨_,Array.getElem?_eq_getElem hk⟩
  simp only [trA] at h
  by_cases hq:q k=true
  · rw [if_pos hq] at hf
    rw [hq] at h
    obtain⟨x,hy,hK⟩:=zc3 h0 h
    exact zea h0 hq (Waits ops listed k) (fun j oj hj hw=>hw.edge hj) t.depth listed env H (fun j hw=>hw.unlisted) (zfr h0 hf) (by simpa using hr) hy (zdo t _ _ _ hB' hK)
  · rw [if_neg hq] at hf
    have hrd:Region.ready .any ops listed=[k]:=by simpa using hf
    refine⟨fun h0=>(by rw [hrd] at h0;cases h0),fun i hi => ?_⟩
    rw [hrd] at hi
    simp only [List.mem_singleton] at hi
    subst hi
    exact yI (fun env' H' hh=>zdo t _ _ _ hB' hh) h
 | .fork i j a b,listed,env,H,hB,h=>by
  simp only [zlE,Bool.and_eq_true,beq_iff_eq] at hB
  obtain⟨⟨⟨hr,hab⟩,hA⟩,hBB⟩:=hB
  obtain⟨h1,h2⟩:=h
  refine⟨fun h0=>(by rw [hr] at h0;cases h0),fun k hk => ?_⟩
  rw [hr] at hk
  simp only [List.mem_cons,List.not_mem_nil,or_false] at hk
  rcases hk with rfl | rfl
  · exact yI (fun env' H' hh=>zdo a _ _ _ hA hh) h1
  · have:=yI (fun env' H' hh=>zdo b _ _ _ hBB hh) h2
    rw [←hab] at this
    exact this
theorem ARun.openTr {id:Nat} {l:List Oper} {k:List Item} {env:Env} {H:Hp} {R:AV → Hp → Prop} (t:Tr) (loud:List Nat) (hm:C.P.follows .mixedOrders=true)
 (hB:(zlE (zM loud) l.toArray t (Array.replicate l.length false) && t.depth == l.length)=true)
 (h:trA C l.toArray (zM loud) (fun env H=>ARun C k env H R) t env H):ARun C (.code (.region id l.toArray true) :: k) env H R :=
 .of_wp fun σ w act m hpre=>by
  obtain⟨g1,g2⟩:=zaM hpre.rel
  simp only [Bool.and_eq_true,beq_iff_eq] at hB
  have:=zdo t (Array.replicate l.length false) env H hB.1 h
  rw [hB.2] at this
  refine wpIn_region_any hm ?_
  rw [List.size_toArray]
  exact zW (m:=m) l.length _ env H σ w.drew act this g1 (hpre.fr.mono g2) (Nat.le_refl _) fun env' H' σ' w' a' b1 b2 b3 b4=>⟨rfl,env',H',σ',b1,hpre.go b2 b3 (g2.trans b4 (Nat.le_refl _)),g2.trans b4 (Nat.le_refl _)⟩
theorem yp {l:List Oper} {k:List Item} {env:Env} {H:Hp} {R:AV → Hp → Prop} {r:List Nat} {loud:List Nat} (lp:List Nat) (hp:zmA l.length loud lp r=true) (h:zU C l.toArray (zM lp) 0 (zgB l r) k env H R):trA C l.toArray (zM loud) (fun env H=>ARun C k env H R) (.lin r) env H:=by
 simp only [zmA,Bool.and_eq_true,List.all_eq_true,decide_eq_true_eq,beq_iff_eq] at hp
 obtain⟨q2,q3⟩:=hp
 exact zdn (q:=zM loud) r 0 env H q2 (fun j i hj=>by
  have hlt:=(List.getElem?_eq_some_iff.1 hj).1
  have:=q3 j (List.mem_range.2 hlt)
  rw [List.getD_eq_getElem?_getD,hj] at this
  simpa using this) h
section steps
variable {K:Env → Hp → Prop} {i:Nat} {o:Oper} {env:Env} {H:Hp}
theorem zV (x:AV) (ho:ops[i]? = some o) (hg:o.guard=none) (hs:zc C.P C.G o.op o.type env H = .val x H) (hd:zn C.nt o.dst=true)
 (hK:K (env.put o.dst x) H):opA C ops true i K env H:=by
 unfold opA
 simp only [ho,hg,zk,if_true]
 exact⟨x,by simp only [aOp1,hs];exact⟨hd,rfl,rfl⟩,hK⟩
theorem zcm {f:FuncId} {xs xs':List AV} (x:AV) (ho:ops[i]? = some o) (hg:o.guard=none) (hs:zc C.P C.G o.op o.type env H = .call f xs) (hargs:zz C.raw f xs=xs') (hd:zn C.nt o.dst=true)
 (hc : ∀ R:AV → Hp → Prop,R x H → ACall C.P C.G f xs' H R) (hK:K (env.put o.dst x) H):opA C ops true i K env H:=by
 unfold opA
 simp only [ho,hg,zk,if_true]
 exact⟨x,by simp only [aOp1,hs,sOp,hargs];exact⟨hd,hc _ ⟨rfl,rfl⟩⟩,hK⟩
theorem za9 {H':Hp} (x:AV) (ho:ops[i]? = some o) (hg:o.guard=none) (hs:zc C.P C.G o.op o.type env H = .val x H') (hd:zn C.nt o.dst=true)
 (hK:K (env.put o.dst x) H'):opA C ops false i K env H:=by
 unfold opA
 rw [ho]
 simp only [hg,zk,aOp1,hs,sOp]
 exact⟨hd,hK⟩
theorem zdN {f:FuncId} {xs xs':List AV} {S:AV → Hp → Prop} (ho:ops[i]? = some o) (hg:o.guard=none) (hs:zc C.P C.G o.op o.type env H = .call f xs) (hargs:zz C.raw f xs=xs') (hd:zn C.nt o.dst=true)
 (hc:ACall C.P C.G f xs' H S) (hK : ∀ x H',S x H' → K (env.put o.dst x) H'):opA C ops false i K env H:=by
 unfold opA
 rw [ho]
 simp only [hg,zk,aOp1,hs,sOp,hargs]
 exact⟨hd,hc.mono hK⟩
end steps
end fork
end Go.AL

/-
  Regions whose order is open and whose operations are all quiet: a cheap test for many operations.
  Conditions: none;nothing here speaks of one program.
-/
namespace Go.AL
open Go

def zaw:List (Option Nat) → Nat → Nat → Option Nat
 | [],_,_=>none
 | none :: r,n,t=>zaw r (n+1) t
 | some u :: r,n,t=>if u == t then some n else zaw r (n+1) t
def zdp:List (Option Nat) → Bool
 | []=>true
 | none :: r=>zdp r
 | some u :: r=>(zaw r 0 u).isNone && zdp r
theorem yP : ∀ {l:List (Option Nat)} {n t j:Nat},zaw l n t=some j → n≤j∧l[j - n]? = some (some t)
 | none :: r,n,t,j,h=>by
  obtain⟨h1,h2⟩:=yP (l:=r) (n:=n+1) h
  refine⟨by omega,?_⟩
  rw [show j - n=j - (n+1)+1 by omega];simpa using h2
 | some u :: r,n,t,j,h=>by
  unfold zaw at h
  split at h
  · rename_i e
    cases h
    refine⟨Nat.le_refl _,?_⟩
    rw [Nat.sub_self]
    simp only [beq_iff_eq] at e
    simp [e]
  · obtain⟨h1,h2⟩:=yP (l:=r) (n:=n+1) h
    refine⟨by omega,?_⟩
    rw [show j - n=j - (n+1)+1 by omega];simpa using h2
theorem zba : ∀ {l:List (Option Nat)} {n t:Nat},zaw l n t=none → ∀ (j:Nat),l[j]? ≠ some (some t)
 | [],n,t,_,j=>by simp
 | none :: r,n,t,h,j=>by
  have:=zba (l:=r) (n:=n+1) h
  cases j with
  | zero=>simp
  | succ j=>simpa using this j
 | some u :: r,n,t,h,j=>by
  unfold zaw at h
  split at h
  · cases h
  · rename_i e
    have:=zba (l:=r) (n:=n+1) h
    cases j with
    | zero=>simp only [List.getElem?_cons_zero,Option.some.injEq,ne_eq];intro q;exact e (by simp [q])
    | succ j=>simpa using this j
theorem zft : ∀ {l:List (Option Nat)} {i j t:Nat},zdp l=true → l[i]? = some (some t) → l[j]? = some (some t) → i=j
 | [],_,_,_,_,h,_=>by simp at h
 | none :: r,i,j,t,hd,h1,h2=>by
  cases i with
  | zero=>simp at h1
  | succ i=>cases j with
   | zero=>simp at h2
   | succ j=>rw [zft (l:=r) (i:=i) (j:=j) hd (by simpa using h1) (by simpa using h2)]
 | some u :: r,i,j,t,hd,h1,h2=>by
  simp only [zdp,Bool.and_eq_true,Option.isNone_iff_eq_none] at hd
  have hn:=zba hd.1
  cases i with
  | zero=>cases j with
   | zero=>rfl
   | succ j =>
    simp at h1 h2
    subst h1
    exact absurd h2 (hn j)
  | succ i=>cases j with
   | zero =>
    simp at h1 h2
    subst h2
    exact absurd h1 (hn i)
   | succ j=>rw [zft (l:=r) (i:=i) (j:=j) hd.2 (by simpa using h1) (by simpa using h2)]
def y5 (dl:List (Option Nat)) (xs:Nat → AV) (S:Nat → Bool) (env:Env):Env:=fun t=>match zaw dl 0 t with
 | some j=>if S j then xs j else env t
 | none=>env t
theorem zvl {dl:List (Option Nat)} (hd:zdp dl=true) {i t:Nat} (h:dl[i]? = some (some t)):zaw dl 0 t=some i:=by
 cases e:zaw dl 0 t with
 | none=>exact absurd h (zba e i)
 | some j =>
  have:=(yP e).2
  rw [Nat.sub_zero] at this
  rw [zft hd this h]
theorem zjp {dl:List (Option Nat)} (hd:zdp dl=true) {xs:Nat → AV} {S S':Nat → Bool} {env:Env} {i:Nat} {d:Option Nat} (h:dl[i]? = some d) (hi:S' i=true) (ho : ∀ j,j≠i → S' j=S j) :
 (y5 dl xs S env).put d (xs i)=y5 dl xs S' env:=by
 funext t
 cases d with
 | none =>
  show y5 dl xs S env t=y5 dl xs S' env t
  unfold y5
  split
  · rename_i j e
    have hj:=(yP e).2
    rw [Nat.sub_zero] at hj
    have:j≠i:=fun q=>by subst q;rw [h] at hj;cases hj
    rw [ho j this]
  · rfl
 | some u =>
  have hw:=zvl hd h
  by_cases q:u=t
  · subst q
    show Env.put _ (some u) _ u=_
    unfold y5
    rw [hw]
    simp [Env.put,hi]
  · rw [zcU fun k hk=>by cases hk;exact q]
    unfold y5
    split
    · rename_i j e
      have:j≠i:=fun q'=>by
       subst q'
       have hj:=(yP e).2
       rw [Nat.sub_zero,h] at hj
       cases hj
       exact q rfl
      rw [ho j this]
    · rfl
def zcn (dl:List (Option Nat)) (A:Array Oper) (o:Oper) (i:Nat):Bool :=
 ((o.looksAt A).all fun t=>match zaw dl 0 t with
  | none=>true
  | some j=>decide (j < i) && o.after.any fun e=>e.on == j && Region.binds .any e) && (o.after.all fun e => !Region.binds .any e || decide (e.on < i))
def zcw (dl:List (Option Nat)) (A:Array Oper):List Oper → Nat → Bool
 | [],_=>true
 | o :: r,i=>zcn dl A o i && zcw dl A r (i+1)
def zmB (ops:List Oper):Bool:=zdp (ops.map (·.dst)) && zcw (ops.map (·.dst)) ops.toArray ops 0
theorem zcL {dl:List (Option Nat)} {A:Array Oper} {o:Oper} {i:Nat} (h:zcn dl A o i=true) :
 (∀ t∈o.looksAt A,∀ j,zaw dl 0 t=some j → j < i ∧ ∃ e∈o.after,e.on=j∧Region.binds .any e=true) ∧ ∀ e∈o.after,Region.binds .any e=true → e.on < i:=by
 unfold zcn at h
 rw [Bool.and_eq_true,List.all_eq_true] at h
 obtain⟨h1,h2⟩:=h
 refine⟨fun t ht j hj => ?_,fun e he hb => ?_⟩
 · have:=h1 t ht
   rw [hj] at this
   dsimp only at this
   rw [Bool.and_eq_true,decide_eq_true_eq,Array.any_eq_true'] at this
   obtain⟨a,e,he,bc⟩:=this
   rw [Bool.and_eq_true,beq_iff_eq] at bc
   exact⟨a,e,he,bc.1,bc.2⟩
 · have:=(Array.all_eq_true'.1 h2) e he
   rw [Bool.or_eq_true,Bool.not_eq_true',decide_eq_true_eq] at this
   rcases this with q | q
   · rw [hb] at q;cases q
   · exact q
theorem zhx {dl:List (Option Nat)} {A:Array Oper} {o:Oper} {r:List Oper} {i:Nat}:zcw dl A (o :: r) i=(zcn dl A o i && zcw dl A r (i+1)):=rfl
theorem zfu {dl:List (Option Nat)} {A:Array Oper} : ∀ (l:List Oper) (n i:Nat) (o:Oper),zcw dl A l n=true → l[i]? = some o → zcn dl A o (n+i)=true:=by
 intro l
 induction l with
 | nil=>intro n i o _ ho;cases ho
 | cons o' r ih =>
  intro n i o h ho
  rw [zhx] at h
  have h':=(Bool.and_eq_true _ _).mp h
  cases i with
  | zero =>
   rw [List.getElem?_cons_zero] at ho
   cases ho
   exact h'.1
  | succ i =>
   rw [List.getElem?_cons_succ] at ho
   have:=ih (n+1) i o h'.2 ho
   rw [Nat.add_right_comm] at this
   exact this

section still
variable {C:Cx} {Q:Env → Hp → Prop}
theorem zmC {ops:Array Oper} {dl:List (Option Nat)} (hd:zdp dl=true) (hdl : ∀ i:Nat,dl[i]? = (ops[i]?).map (·.dst)) : ∀ (l:List Oper) (k:Nat) (xs:Nat → AV) (env:Env) (H:Hp),(∀ j:Nat,l[j]? = ops[k+j]?) →
 (∀ i:Nat,∀ o,i < k → ops[i]? = some o → YieldsA C ops o (y5 dl xs (fun j=>decide (j < i)) env) H (xs i)) →
 zcF C ops (zM []) Q k l (y5 dl xs (fun j=>decide (j < k)) env) H →
 ∃ ys:Nat → AV,(∀ i:Nat,∀ o,i < k+l.length → ops[i]? = some o → YieldsA C ops o (y5 dl ys (fun j=>decide (j < i)) env) H (ys i))∧Q (y5 dl ys (fun j=>decide (j < k+l.length)) env) H
 | [],k,xs,env,H,_,hx,h=>⟨xs,fun i o hi ho=>hx i o hi ho,h⟩
 | o :: l,k,xs,env,H,hl,hx,h=>by
  have h0:ops[k]? = some o:=by simpa using (hl 0).symm
  have hl' : ∀ j:Nat,l[j]? = ops[k+1+j]? := fun j=>by have:=hl (j+1);simpa [Nat.add_assoc,Nat.add_comm 1 j] using this
  simp only [zcF,zcW] at h
  obtain⟨x,hy,hK⟩:=zc3 h0 h
  let ys:Nat → AV:=fun j=>if j=k then x else xs j
  have hsame : ∀ i,i≤k → y5 dl ys (fun j=>decide (j < i)) env=y5 dl xs (fun j=>decide (j < i)) env:=fun i hi=>by
   funext t
   unfold y5
   split
   · rename_i j e
     by_cases c:j < i
     · simp only [c,decide_true,if_true]
       show (if j=k then x else xs j)=xs j
       rw [if_neg (by omega)]
     · simp [c]
   · rfl
  have hput:(y5 dl xs (fun j=>decide (j < k)) env).put o.dst x=y5 dl ys (fun j=>decide (j < k+1)) env:=by
   rw [←hsame k (Nat.le_refl _)]
   have:x=ys k:=by show x=if k=k then x else xs k;rw [if_pos rfl]
   conv=>lhs;rw [this]
   refine zjp hd (i:=k) (by rw [hdl,h0];rfl) (by simp) fun j hj => ?_
   have:(j < k+1)=(j < k):=propext ⟨fun _=>by omega,fun _=>by omega⟩
   simp only [this]
  rw [hput] at hK
  have:=zmC hd hdl l (k+1) ys env H hl' (fun i oi hi hoi=>by
   by_cases c:i=k
   · subst c
     rw [h0] at hoi;cases hoi
     rw [hsame _ (Nat.le_refl _)]
     show YieldsA C ops o _ H (if i=i then x else xs i)
     rw [if_pos rfl];exact hy
   · rw [hsame i (by omega)]
     show YieldsA C ops oi _ H (if i=k then x else xs i)
     rw [if_neg c]
     exact hx i oi (by omega) hoi) hK
  rw [show k+1+l.length=k+(o :: l).length by simp only [List.length_cons];omega] at this
  exact this
theorem YieldsA.agree {ops:Array Oper} {o:Oper} {env env':Env} {H:Hp} {x:AV} (h : ∀ t∈o.looksAt ops,env t=env' t) (hy:YieldsA C ops o env H x):YieldsA C ops o env' H x:=by
 have hw:zk C.nt ops o.guard env'=zk C.nt ops o.guard env:=by
  unfold zk
  split
  · rfl
  · rename_i j want hg
    cases hd:(ops[j]?).bind (·.dst) with
    | none=>rfl
    | some t =>
     have:env' t=env t:=(h t (by simp [Oper.looksAt,hg,hd])).symm
     simp only [this]
 have ha : ∀ K,aOp1 C o env' H K ↔ aOp1 C o env H K:=fun K=>by
  unfold aOp1
  rw [zbI (env':=env) fun y hy t ht=>(h t (by
   subst ht
   exact List.mem_append_left _ (List.mem_filterMap.2 ⟨.tmp t,by simpa using hy,rfl⟩))).symm]
 unfold YieldsA at *
 rw [hw]
 rcases hy with ⟨h1,h2⟩ | h1
 · exact .inl ⟨h1,(ha _).2 h2⟩
 · exact .inr h1
def left (listed:Array Bool):Nat → Nat
 | 0=>0
 | n+1=>(if listed.getD n true=false then 1 else 0)+left listed n
theorem zgC {listed:Array Bool} : ∀ {n:Nat},left listed n=0 → ∀ i,i < n → listed.getD i true=true
 | n+1,h,i,hi=>by
  unfold left at h
  by_cases c:listed.getD n true=false
  · rw [if_pos c] at h;omega
  · by_cases e:i=n
    · subst e;simpa using c
    · exact zgC (n:=n) (by rw [if_neg c] at h;omega) i (by omega)
theorem zjq {listed:Array Bool} {i:Nat} (hi:listed.getD i true=false) : ∀ {n:Nat},(i < n → left listed n=left (listed.setIfInBounds i true) n+1)∧(n≤i → left listed n=left (listed.setIfInBounds i true) n)
 | 0=>⟨fun h=>by omega,fun _=>rfl⟩
 | n+1=>by
  obtain⟨h1,h2⟩:=zjq hi (n:=n)
  have hs:i < listed.size:=by
   rcases Nat.lt_or_ge i listed.size with c | c
   · exact c
   · rw [Array.getD_eq_getD_getElem?,Array.getElem?_eq_none c] at hi;cases hi
  refine⟨fun h => ?_,fun h => ?_⟩
  · by_cases e:i=n
    · subst e
      have:=h2 (Nat.le_refl _)
      have hg:(listed.setIfInBounds i true).getD i true=true:=by rw [Array.getD_eq_getD_getElem?];simp
      unfold left
      rw [if_pos hi,hg,if_neg (by decide)]
      omega
    · have:=h1 (by omega)
      unfold left
      rw [getD_set_ne true e]
      omega
  · have:=h2 (by omega)
    unfold left
    rw [getD_set_ne true (show i≠n by omega)]
    omega
theorem zlF {ops:Array Oper} {dl:List (Option Nat)} {xs:Nat → AV} {env:Env} {H:Hp} (hd:zdp dl=true) (hdl : ∀ i:Nat,dl[i]? = (ops[i]?).map (·.dst)) (hB:zcw dl ops ops.toList 0=true)
 (hx : ∀ i:Nat,∀ o,ops[i]? = some o → YieldsA C ops o (y5 dl xs (fun j=>decide (j < i)) env) H (xs i)) (hQ:Q (y5 dl xs (fun j=>decide (j < ops.size)) env) H) :
 ∀ (fuel:Nat) (listed:Array Bool),listed.size=ops.size → left listed ops.size≤fuel → zcc C ops (zM []) Q fuel listed (y5 dl xs (fun j=>listed.getD j false) env) H:=by
 have fin : ∀ listed:Array Bool,listed.size=ops.size → Region.ready .any ops listed=[] → Q (y5 dl xs (fun j=>listed.getD j false) env) H:=fun listed hs hr=>by
  have hall : ∀ i,i < ops.size → listed.getD i true=true:=by
   intro i
   induction i using Nat.strongRecOn with
   | _ i ih =>
    intro hi
    cases c:listed.getD i true with
    | true=>rfl
    | false =>
     exfalso
     have hm:i∈Region.ready .any ops listed:=by
      rw [mem_ready]
      refine⟨c,ops[i],Array.getElem?_eq_getElem hi,fun e he hb => ?_⟩
      have h2:=(zcL (zfu _ 0 i ops[i] hB (by simp [hi]))).2 e he hb
      rw [Nat.zero_add] at h2
      have h3:=ih e.on h2 (by omega)
      rw [Array.getD_eq_getD_getElem?] at h3 ⊢
      rw [Array.getElem?_eq_getElem (by omega)] at h3 ⊢
      exact h3
     rw [hr] at hm
     cases hm
  have:y5 dl xs (fun j=>listed.getD j false) env=y5 dl xs (fun j=>decide (j < ops.size)) env:=by
   funext t
   unfold y5
   split
   · rename_i j e
     have hj:=(yP e).2
     rw [Nat.sub_zero,hdl] at hj
     have hjs:j < ops.size:=by
      rcases Nat.lt_or_ge j ops.size with c | c
      · exact c
      · rw [Array.getElem?_eq_none c] at hj;cases hj
     have h1:=hall j hjs
     have h2:listed.getD j false=true:=by
      rw [Array.getD_eq_getD_getElem?] at h1 ⊢
      rw [Array.getElem?_eq_getElem (by omega)] at h1 ⊢
      exact h1
     simp [h2,hjs]
   · rfl
  rw [this];exact hQ
 intro fuel
 induction fuel with
 | zero =>
  intro listed hs hle
  have hz:=zgC (n:=ops.size) (listed:=listed) (by omega)
  have hr:Region.ready .any ops listed=[]:=by
   rw [List.eq_nil_iff_forall_not_mem]
   intro i hi
   obtain⟨h1,o,ho,_⟩:=mem_ready.1 hi
   have:=hz i (Array.getElem?_eq_some_iff.1 ho).1
   rw [this] at h1;cases h1
  exact⟨hr,fin listed hs hr⟩
 | succ fuel ih =>
  intro listed hs hle
  refine⟨fun hr=>fin listed hs hr,fun i hi => ?_⟩
  obtain⟨hun,o,ho,hall⟩:=mem_ready.1 hi
  have hio:i < ops.size:=(Array.getElem?_eq_some_iff.1 ho).1
  have hB':=zcL (zfu _ 0 i o hB (by rw [Array.getElem?_toList];exact ho))
  rw [Nat.zero_add] at hB'
  rw [zcW]
  refine YieldsA.opA ho ((hx i o ho).agree fun t ht => ?_) ?_
  · unfold y5
    split
    · rename_i j e
      obtain⟨h1,e',he',h2,h3⟩:=hB'.1 t ht j e
      have h4:=hall e' he' h3
      rw [h2] at h4
      simp [h4,h1]
    · rfl
  · rw [zjp hd (i:=i) (by rw [hdl,ho];rfl) (S':=fun j=>(listed.setIfInBounds i true).getD j false) (by rw [Array.getD_eq_getD_getElem?];simp [hs,hio]) fun j hj=>by rw [getD_set_ne false (Ne.symm hj)]]
    exact ih (listed.setIfInBounds i true) (by simp [hs]) (by have:=(zjq hun (n:=ops.size)).1 hio;omega)
theorem ARun.openStill {id:Nat} {l:List Oper} {k:List Item} {env:Env} {H:Hp} {R:AV → Hp → Prop} (hm:C.P.follows .mixedOrders=true) (hB:zmB l=true)
 (h:zU C l.toArray (zM []) 0 l k env H R):ARun C (.code (.region id l.toArray true) :: k) env H R :=
 .of_wp fun σ w a m hpre=>by
  obtain⟨g1,g2⟩:=zaM hpre.rel
  have hL:=zC (ops:=l.toArray) (n:=0) (by simp) h
  unfold zmB at hB
  simp only [Bool.and_eq_true] at hB
  obtain⟨hd,hgo⟩:=hB
  have hdl : ∀ i:Nat,(l.map (·.dst))[i]? = (l.toArray[i]?).map (·.dst):=fun i=>by simp
  have hs0 : ∀ xs,y5 (l.map (·.dst)) xs (fun j=>decide (j < 0)) env=env:=fun xs=>by
   funext t;unfold y5;split<;>simp
  obtain⟨ys,hy,hq⟩:=zmC (Q:=fun env' H'=>ARun C k env' H' R) hd hdl l 0 (fun _ => .tup []) env H (by simp) (fun i o hi=>by omega) (by rw [hs0];exact hL)
  rw [Nat.zero_add] at hy hq
  have hs1:y5 (l.map (·.dst)) ys (fun j=>(Array.replicate l.length false).getD j false) env=env:=by
   funext t;unfold y5
   split
   · rename_i j e
     have:(Array.replicate l.length false).getD j false=false:=by
      rw [Array.getD_eq_getD_getElem?]
      rcases Nat.lt_or_ge j l.length with c | c
      · simp [c]
      · rw [Array.getElem?_eq_none (by simpa using c)];rfl
     simp [this]
   · rfl
  have hleft : ∀ n (L:Array Bool),left L n≤n:=fun n L=>by
   induction n with
   | zero=>exact Nat.le_refl _
   | succ n ih=>unfold left;split<;>omega
  have:=zlF (C:=C) (ops:=l.toArray) (Q:=fun env' H'=>ARun C k env' H' R) (xs:=ys) (env:=env) (H:=H) hd hdl (by simpa using hgo)
   (fun i o ho=>hy i o (by have:=(Array.getElem?_eq_some_iff.1 ho).1;simpa using this) ho) (by simpa using hq) l.length (Array.replicate l.length false) (by simp) (by simpa using hleft l.length _)
  rw [hs1] at this
  refine wpIn_region_any hm ?_
  rw [List.size_toArray]
  exact zW (m:=m) l.length _ env H σ w.drew a this g1 (hpre.fr.mono g2) (Nat.le_refl _) fun env' H' σ' w' a' b1 b2 b3 b4=>⟨rfl,env',H',σ',b1,hpre.go b2 b3 (g2.trans b4 (Nat.le_refl _)),g2.trans b4 (Nat.le_refl _)⟩
end still
end Go.AL
