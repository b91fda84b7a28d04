/-
  Sessions: decoding a message.
-/
import Derived.Test.YtgflpgcogkdpgaaGreatDoorPkS1
set_option linter.unusedSimpArgs false
set_option linter.unusedVariables false
namespace Go.Proofs.YtgflpgcogkdpgaaGreatDoor
open Go Go.AL

def mG (k s t:Int) (tx:By) (r:By) (S V:AV):List AV := .p (i64 k) :: .p (i64 s) :: .p (i64 t) :: .p (str (bytesOf tx)) :: (cl b8 r++[S,V])
theorem zbY:ByteArray.empty=bytesOf []:=rfl
section mg
variable {k s t:Int} {tx r:By} {S V:AV}
theorem zgQ (h:r.length=32):(mG k s t tx r S V).length=38:=by simp [mG,zak,h]
theorem zxW {x:Int}:(mG k s t tx r S V).set 0 (.p (i64 x))=mG x s t tx r S V:=rfl
theorem zxX {x:Int}:(mG k s t tx r S V).set 1 (.p (i64 x))=mG k x t tx r S V:=rfl
theorem zxY {x:Int}:(mG k s t tx r S V).set 2 (.p (i64 x))=mG k s x tx r S V:=rfl
theorem zxZ {x:By}:(mG k s t tx r S V).set 3 (.p (str (bytesOf x)))=mG k s t x r S V:=rfl
theorem zx0 {x:By} (h:r.length=32) (hx:x.length=32):setAt (mG k s t tx r S V) 4 (cl b8 x)=mG k s t tx x S V:=by
 rw [yd _ _ _ (by rw [zgQ h,zak,hx];omega),zak,hx]
 unfold mG
 simp only [List.take_succ_cons,List.take_zero,List.drop_succ_cons,List.cons_append,List.nil_append]
 rw [List.drop_append_of_le_length (by rw [zak];omega),List.drop_of_length_le (by rw [zak];omega)];rfl
theorem zgR (h:r.length=32):(mG k s t tx r S V)[36]? = some S:=by
 unfold mG;simp only [List.getElem?_cons_succ];rw [zcz (by rw [zak,h]) (by omega)];rfl
theorem zgS (h:r.length=32):(mG k s t tx r S V)[37]? = some V:=by
 unfold mG;simp only [List.getElem?_cons_succ];rw [zcz (by rw [zak,h]) (by omega)];rfl
theorem zlv {x:AV} (h:r.length=32):(mG k s t tx r S V).set 36 x=mG k s t tx r x V:=by
 unfold mG
 simp only [List.set_cons_succ]
 rw [List.set_append_right _ _ (by rw [zak];omega),zak,h];rfl
theorem zlw {x:AV} (h:r.length=32):(mG k s t tx r S V).set 37 x=mG k s t tx r S x:=by
 unfold mG
 simp only [List.set_cons_succ]
 rw [List.set_append_right _ _ (by rw [zak];omega),zak,h];rfl
theorem zx1 (h:r.length=32):(mG k s t tx r S V).take 38=mG k s t tx r S V:=List.take_of_length_le (by rw [zgQ h];exact Nat.le_refl _)
theorem zfE {l:List AV} {ps qs:List PV} {m:List AV} (h:pvs? l=some ps) (h2:pvs? m=some qs):pvs? (l++m)=some (ps++qs):=by
 induction l generalizing ps with
 | nil=>simp [pvs?] at h;subst h;simpa using h2
 | cons a l ih =>
  simp only [pvs?] at h
  split at h
  · rename_i p q h3 h4
    cases h
    have:=ih h4
    simp [pvs?,h3,this]
  · cases h
theorem zn1 {a v a' v':Nat} {su:List Int} {va:List Ext} (h:r.length=32):zq (mG k s t tx r (.sl a v 1 (pl i64 su)) (.sl a' v' 2 (pl ext va))) = .p (ym ⟨k,s,t,tx,⟨r,h⟩,su,va⟩):=by
 unfold zq
 have h1:pvs? (mG k s t tx r (.sl a v 1 (pl i64 su)) (.sl a' v' 2 (pl ext va)))=some (zdA ⟨k,s,t,tx,⟨r,h⟩,su,va⟩):=by
  have h2:pvs? (cl b8 r)=some (pl b8 r):=by rw [←zni];exact zdF _
  have h3:pvs? [AV.sl a v 1 (pl i64 su),AV.sl a' v' 2 (pl ext va)]=some [.sl false 1 (pl i64 su),.sl false 2 (pl ext va)]:=rfl
  have h4:=zfE h2 h3
  have h5:pvs? [AV.p (i64 k),.p (i64 s),.p (i64 t),.p (str (bytesOf tx))]=some [i64 k,i64 s,i64 t,str (bytesOf tx)]:=rfl
  exact zfE h5 h4
 rw [h1];rfl
theorem zx2:((([i64 0,i64 0,i64 0,str ByteArray.empty]:List PV)++List.replicate 32 (b8 0#8)++([.sl true 1 [],.sl true 2 []]:List PV)).map .p)=mG 0 0 0 [] (List.replicate 32 0#8) (.p (.sl true 1 [])) (.p (.sl true 2 [])):=rfl
end mg
theorem zgT : ∀ {b:By},b.length≤7 → (rd b).toNat < 2 ^ (8*b.length)
 | [],_=>by simp [rd]
 | c :: b,h=>by
  have ih:=zgT (b:=b) (by simp at h;omega)
  have hc:=c.isLt
  have h1:(rd (c :: b)).toNat=(rd b).toNat*256+c.toNat:=by
   simp only [rd,BitVec.toNat_or,BitVec.toNat_shiftLeft,BitVec.toNat_setWidth]
   have h2:(rd b).toNat <<< 8 < 2 ^ 64:=by
    rw [Nat.shiftLeft_eq]
    have:2 ^ (8*b.length)*2 ^ 8≤2 ^ 64:=by
     rw [←Nat.pow_add];exact Nat.pow_le_pow_right (by omega) (by simp at h;omega)
    have:=Nat.mul_lt_mul_of_pos_right ih (show 0 < 2 ^ 8 by decide)
    omega
   rw [Nat.mod_eq_of_lt h2,Nat.mod_eq_of_lt (show c.toNat < 2 ^ 64 by omega),←Nat.shiftLeft_add_eq_or_of_lt (by omega),Nat.shiftLeft_eq]
  rw [h1,List.length_cons,show 8*(b.length+1)=8*b.length+8 by omega,Nat.pow_add]
  omega
theorem zeP {b:By} (h:b.length≤4):(rd b).toNat < 4294967296:=by
 have:=zgT (b:=b) (by omega)
 have h2:2 ^ (8*b.length)≤2 ^ 32:=Nat.pow_le_pow_right (by omega) (by omega)
 omega
theorem zjf {b:By} (h:b.length≤2):(rd b).toNat < 65536:=by
 have:=zgT (b:=b) (by omega)
 have h2:2 ^ (8*b.length)≤2 ^ 16:=Nat.pow_le_pow_right (by omega) (by omega)
 omega
theorem wrap_small {n:Nat} (h:n < 9223372036854775808):IntKind.i64.wrap (n:Int)=n:=zea (by omega) (by omega)
def dH (H:Hp) (mc:List AV) (st:By × Bool):Hp :=
 ((((H.new (.cells (mG 0 0 0 [] (List.replicate 32 0#8) (.p (.sl true 1 [])) (.p (.sl true 2 []))))).new (.cells mc)).new (.cells [.p (.sl false 1 (pl b8 st.1))])).new (.cells [.clo 91 [] [.ptr (H.n+2) 0]])).new (.cells [.p (bo st.2)])
section dh
variable {H:Hp} {mc mc':List AV} {st st':By × Bool}
theorem zCy:(dH H mc st).n=H.n+5:=by simp [dH,Hp.n_new]
theorem zzz:(dH H mc st).f H.n=some (.cells (mG 0 0 0 [] (List.replicate 32 0#8) (.p (.sl true 1 [])) (.p (.sl true 2 [])))):=by simp (disch:=first|exact za|fail) only [dH,go_sem,seval,-List.reduceReplicate]
theorem zzA:(dH H mc st).f (H.n+1)=some (.cells mc):=by simp (disch:=first|exact za|fail) only [dH,go_sem,seval,-List.reduceReplicate]
theorem zzB:(dH H mc st).f (H.n+2)=some (.cells [.p (.sl false 1 (pl b8 st.1))]):=by simp (disch:=first|exact za|fail) only [dH,go_sem,seval,-List.reduceReplicate]
theorem zzC:(dH H mc st).f (H.n+3)=some (.cells [.clo 91 [] [.ptr (H.n+2) 0]]):=by simp (disch:=first|exact za|fail) only [dH,go_sem,seval,-List.reduceReplicate]
theorem zzD:(dH H mc st).f (H.n+4)=some (.cells [.p (bo st.2)]):=by simp (disch:=first|exact za|fail) only [dH,go_sem,seval,-List.reduceReplicate]
theorem zx3:(dH H mc st).set (H.n+1) (.cells mc')=dH H mc' st:=by simp (disch:=first|exact za|fail) only [dH,go_sem,seval,-List.reduceReplicate]
end dh
def dK (H:Hp) (mc:List AV) (st:By × Bool) (i j:Nat):Hp:=((dH H mc st).new (.tail i)).new (.tail j)
section dk
variable {H:Hp} {mc mc':List AV} {st st':By × Bool} {i j k:Nat}
theorem zAu:(dK H mc st i j).n=H.n+7:=by simp [dK,zCy,Hp.n_new]
theorem zgU {b:Nat} {x:AB} (h:(dH H mc st).f b=some x):(dK H mc st i j).f b=some x:=by
 have:=Hp.lt h
 unfold dK
 rw [Hp.f_new_old _ _ _ (by rw [Hp.n_new];omega),Hp.f_new_old _ _ _ this,h]
theorem zCz:(dK H mc st i j).f H.n=some (.cells (mG 0 0 0 [] (List.replicate 32 0#8) (.p (.sl true 1 [])) (.p (.sl true 2 [])))):=zgU zzz
theorem zCA:(dK H mc st i j).f (H.n+1)=some (.cells mc):=zgU zzA
theorem zvA:(dK H mc st i j).f (H.n+2)=some (.cells [.p (.sl false 1 (pl b8 st.1))]):=zgU zzB
theorem zvB:(dK H mc st i j).f (H.n+3)=some (.cells [.clo 91 [] [.ptr (H.n+2) 0]]):=zgU zzC
theorem zpt:(dK H mc st i j).f (H.n+4)=some (.cells [.p (bo st.2)]):=zgU zzD
theorem zCB:(dK H mc st i j).f (H.n+5)=some (.tail i):=by simp (disch:=first|exact za|fail) only [dK,dH,go_sem,seval,-List.reduceReplicate]
theorem zCC:(dK H mc st i j).f (H.n+6)=some (.tail j):=by simp (disch:=first|exact za|fail) only [dK,dH,go_sem,seval,-List.reduceReplicate]
theorem zx4:(dK H mc st i j).set (H.n+1) (.cells mc')=dK H mc' st i j:=by simp (disch:=first|exact za|fail) only [dK,dH,go_sem,seval,-List.reduceReplicate]
theorem zx5:(dK H mc st i j).set (H.n+5) (.tail k)=dK H mc st k j:=by simp (disch:=first|exact za|fail) only [dK,dH,go_sem,seval,-List.reduceReplicate]
theorem zx6:(dK H mc st i j).set (H.n+6) (.tail k)=dK H mc st i k:=by simp (disch:=first|exact za|fail) only [dK,dH,go_sem,seval,-List.reduceReplicate]
theorem zvC:((dK H mc st i j).set (H.n+2) (.cells [.p (.sl false 1 (pl b8 st'.1))])).set (H.n+4) (.cells [.p (bo st'.2)])=dK H mc st' i j:=by simp (disch:=first|exact za|fail) only [dK,dH,go_sem,seval,-List.reduceReplicate]
theorem zvD:(dK H mc st i j).trunc H.n=H:=by simp (disch:=first|exact za|fail) only [dK,dH,go_sem,seval,-List.reduceReplicate]
theorem zn2 {n:Nat} {a b c:Int} {tx r:By} {S V:AV} (hS:BelowN n S) (hV:BelowN n V) : ∀ y∈mG a b c tx r S V,BelowN n y:=fun y hy=>by
 simp only [mG,List.mem_cons,List.mem_append,List.not_mem_nil,or_false,cl,List.mem_map] at hy
 rcases hy with rfl | rfl | rfl | rfl | ⟨x,_,rfl⟩ | rfl | rfl<;>first | exact .p _ | assumption
theorem zvE {n:Nat} (hn:H.n+7≤n) (h:Bel H.n H) (hm : ∀ y∈mc,BelowN n y):Bel n (dK H mc st i j):=by
 unfold dK dH
 refine yu (yu (yu (yu (yu (yu (yu (yI h (by omega)) ?_) hm) ?_) ?_) ?_) ?_) ?_
 · exact zn2 (.p _) (.p _)
 · intro y hy;simp only [AB.vals,List.mem_singleton] at hy;subst hy;exact .p _
 · intro y hy;simp only [AB.vals,List.mem_singleton] at hy;subst hy
   refine .clo _ _ _ (fun i x h=>by simp at h) fun i x h => ?_
   have:i=0:=by have:=(List.getElem?_eq_some_iff.1 h).1;simpa using this
   subst this;simp at h;subst h;exact .ptr _ _ (by omega)
 · intro y hy;simp only [AB.vals,List.mem_singleton] at hy;subst hy;exact .p _
 · intro y hy;simp [AB.vals] at hy
 · intro y hy;simp [AB.vals] at hy
end dk
theorem zx7 {H:Hp} {mc:List AV} {st:By × Bool} {i j:Nat} (h:Bel H.n H):Bel H.n (dK H mc st i j):=by
 unfold dK dH
 exact zv (zv (zv (zv (zv (zv (zv h (Nat.le_refl _)) (by simp only [n_new'];omega)) (by simp only [n_new'];omega)) (by simp only [n_new'];omega)) (by simp only [n_new'];omega)) (by simp only [n_new'];omega)) (by simp only [n_new'];omega)
def zP:PV := .agg ([i64 0,i64 0,i64 0,str (bytesOf [])]++(pl b8 (List.replicate 32 0#8)++[.sl true 1 [],.sl true 2 []]))
def toI (x:U):Int:=IntKind.i64.wrap x.toNat
attribute [go_sem] zAu zCz zCA zvA zvB zpt zCB zCC zx4 zx5 zx6 zvD zCy zzz zzA zzB zzC zzD zx3 zgQ zxW zxX zxY zxZ zx0 zgR zgS zlv zlw zx1 zx2
def prs (w:List U):Nat → List Ext
 | 0=>[]
 | j+1=>prs w j++[⟨nth w (2*j),nth w (2*j+1)⟩]
theorem zdb {w:List U} {j:Nat}:prs w (j+1)=prs w j++[⟨nth w (2*j),nth w (2*j+1)⟩]:=rfl
theorem zes {w:List U} : ∀ {j},(prs w j).length=j
 | 0=>rfl
 | j+1=>by simp [prs,zes]
def mkD (l:By):Dg:=if h:l.length=32 then ⟨l,h⟩ else zD
theorem zn3 {l:By} (h:l.length=32):mkD l=⟨l,h⟩:=dif_pos h
def zM:Msg:=⟨0,0,0,[],zD,[],[]⟩
def d7 (kd se sp:Nat) (tx dgs:By) (us:List Int) (c:Nat) (vl:By) (s:By × Bool):Msg × Bool:=(⟨kd,se,sp,tx,mkD dgs,us,prs (wds vl (2*c)) c⟩,(tk s 8).2.2)
def d6 (kd se sp:Nat) (tx dgs:By) (us:List Int) (c:Nat) (s:By × Bool):Msg × Bool:=d7 kd se sp tx dgs us c (tk s (16*c)).1 (tk s (16*c)).2
def d5 (kd se sp:Nat) (tx dgs:By) (c:Nat) (s:By × Bool):Msg × Bool:=d6 kd se sp tx dgs ((wds (tk s (8*c)).1 c).map toI) (nth (tk (tk s (8*c)).2 1).1 0).toNat (tk (tk s (8*c)).2 1).2
def d4 (kd se sp:Nat) (tx dgs:By) (s:By × Bool):Msg × Bool:=d5 kd se sp tx dgs (nth (tk s 1).1 0).toNat (tk s 1).2
def d3 (kd se sp:Nat) (dgs:By) (tl:Nat) (s:By × Bool):Msg × Bool:=d4 kd se sp (tk s tl).1 dgs (tk s tl).2
def d2 (kd se sp:Nat) (dgs:By) (s:By × Bool):Msg × Bool:=d3 kd se sp dgs (rd (tk s 2).1).toNat (tk s 2).2
def d1 (hd:By) (s:By × Bool):Msg × Bool:=d2 (nth hd 0).toNat (rd ((hd.take 5).drop 1)).toNat (rd ((hd.take 9).drop 5)).toNat (hd.drop 9) s
def decM (b:By):Msg × Bool:=d1 (tk (b,true) 41).1 (tk (b,true) 41).2
def zly (b:By) (r:Msg × Bool):Msg × Int:=if r.2=false then (zM,6) else if enc r.1=b then (r.1,0) else (zM,5)
def dec (b:By):Msg × Int:=zly b (decM b)
section walks
variable {G:Globs} {r1 r2:Nat} {m1:List (Int × Rule)} {m2:List (Int × Int)}
theorem take_at (st:By × Bool) (hr:st.1.length≤140737488355000) (n:Nat) (hn:n≤100000) (H:Hp) (mc:List AV) (i j:Nat) (R:AV → Hp → Prop) (h:R (.p (.sl false 1 (pl b8 (tk st n).1))) (dK H mc (tk st n).2 i j)) :
 ACall Tryz.prog G 69 [.p (i64 n),.ptr (H.n+3) 0,.ptr (H.n+4) 0] (dK H mc st i j) R :=
 zie st hr n hn (H.n+2) (H.n+3) (H.n+4) _ zvA zvB zpt (by omega) (by omega) R (by rw [zvC];exact h)
theorem zvF (T:List AB) (st:By × Bool) (hr:st.1.length≤140737488355000) (n:Nat) (hn:n≤100000) (H:Hp) (mc:List AV) (i j:Nat) (R:AV → Hp → Prop) (h:R (.p (.sl false 1 (pl b8 (tk st n).1))) (app (dK H mc (tk st n).2 i j) T)) :
 ACall Tryz.prog G 69 [.p (i64 n),.ptr (H.n+3) 0,.ptr (H.n+4) 0] (app (dK H mc st i j) T) R :=
 zie st hr n hn (H.n+2) (H.n+3) (H.n+4) _ (app_f' zvA) (app_f' zvB) (app_f' zpt) (by omega) (by omega) R (by rw [zds (by rw [zAu];omega),zds (by rw [Hp.n_set,zAu];omega),zvC];exact h)
theorem zpu:zq (mG 0 0 0 [] (List.replicate 32 0#8) (.p (.sl true 1 [])) (.p (.sl true 2 []))) = .p zP:=by
 unfold zq
 have h2:pvs? (cl b8 (List.replicate 32 0#8))=some (pl b8 (List.replicate 32 0#8)):=by rw [←zni];exact zdF _
 have h4:=zfE h2 (show pvs? [AV.p (.sl true 1 []),.p (.sl true 2 [])]=some [.sl true 1 [],.sl true 2 []] from rfl)
 have h5:=zfE (show pvs? [AV.p (i64 0),.p (i64 0),.p (i64 0),.p (str (bytesOf []))]=some [i64 0,i64 0,i64 0,str (bytesOf [])] from rfl) h4
 rw [show pvs? (mG 0 0 0 [] (List.replicate 32 0#8) (.p (.sl true 1 [])) (.p (.sl true 2 [])))=_ from h5]
 rfl
theorem zAv:zP.weak=ym zM:=by
 show PV.agg (List.map PV.weak1 _)=_
 rw [List.map_append,List.map_append,za9 (l:=pl b8 _) fun x hx=>by simp only [pl,List.mem_map] at hx;obtain⟨y,_,rfl⟩:=hx;rfl]
 rfl
theorem mG_aggZ':zq (.p (i64 0) :: .p (i64 0) :: .p (i64 0) :: .p (str ByteArray.empty) :: List.map AV.p (pl b8 (List.replicate 32 0#8)++[PV.sl true 1 [],PV.sl true 2 []])) = .p zP:=by
 rw [←zpu];simp [mG,cl,pl,zbY]
theorem zvG:zi (.p zP)=some (mG 0 0 0 [] (List.replicate 32 0#8) (.p (.sl true 1 [])) (.p (.sl true 2 []))):=by
 show some ((_:List PV).map AV.p)=_
 simp [mG,cl,pl]
attribute [go_sem] zpu mG_aggZ' zvG zAv
def zCD:Option AV → Option AV → Option AV
 | some x,some y=>some (.tup [x,y])
 | _,_=>none
theorem zrP {x y:AV}:zCD (some x) (some y)=some (.tup [x,y]):=rfl
theorem zx8 {P:Program} {a t:Nat} {ty:TypeId} {env:Env} {H:Hp}:zcM P [.cell a ty,.tmp t] env H=zCD (zay P H ty (env a)) (some (env t)):=by
 simp only [zcM,zaQ,zbW]
 cases zay P H ty (env a)<;>rfl
def zAw:Option AV → Option AV → Option AV → Option AV
 | some x,some y,some z=>some (.tup [x,y,z])
 | _,_,_=>none
theorem zrQ {x y z:AV}:zAw (some x) (some y) (some z)=some (.tup [x,y,z]):=rfl
theorem zvH {P:Program} {a t u:Nat} {ty:TypeId} {env:Env} {H:Hp}:zcM P [.cell a ty,.tmp t,.tmp u] env H=zAw (zay P H ty (env a)) (some (env t)) (some (env u)):=by
 simp only [zcM,zaQ,zbW]
 cases zay P H ty (env a)<;>rfl
theorem zvI {P:Program} {a b u:Nat} {ty ty':TypeId} {env:Env} {H:Hp}:zcM P [.cell a ty,.cell b ty',.tmp u] env H=zAw (zay P H ty (env a)) (zay P H ty' (env b)) (some (env u)):=by
 simp only [zcM,zaQ,zbW]
 cases zay P H ty (env a)<;>cases zay P H ty' (env b)<;>rfl
attribute [go_sem] zrP zx8 zrQ zvH zvI
set_option maxHeartbeats 16000000 in
set_option maxRecDepth 20000 in
theorem zlz (g:GR G r1 r2 m1 m2) (b:By) (hb:b.length≤140737488355000) (H:Hp) (R:AV → Hp → Prop) (h:R (.tup [.p (ym (dec b).1),.p (i64 (dec b).2)]) H):ACall Tryz.prog G 47 [.p (.sl false 1 (pl b8 b))] H R:=by
 have hen:enters Tryz.prog 69=true:=zk9
 have hz:(List.replicate 32 0#8:By).length=32:=List.length_replicate
 refine ACall.of_run (raw:=[]) Tryz.func47 rfl Tryz.ntmps47 (by simp) fun hbel => ?_
 refine .q ?_;refine .text ?_;simp (disch:=first|exact za|fail) only [go_sem,seval,-List.reduceReplicate]
 refine .q ?_;refine .text ?_;simp (disch:=first|exact za|fail) only [go_sem,seval,-List.reduceReplicate]
 refine .q ?_;refine .text ?_;simp (disch:=first|exact za|fail) only [go_sem,seval,-List.reduceReplicate]
 refine CallK.of (fun R h=>zhA b _ R h) ?_;simp (disch:=first|exact za|fail) only [go_sem,seval,-List.reduceReplicate]
 change ARun _ _ _ (dH H (mG 0 0 0 [] (List.replicate 32 0#8) (.p (.sl true 1 [])) (.p (.sl true 2 []))) (b,true)) R
 refine .ownC (H.n+1) 36 (by simp (disch:=first|exact za|fail) only [go_sem,seval,-List.reduceReplicate]<;>rfl) (zgR hz) ?_
 simp (disch:=first|exact za|fail) only [go_sem,seval,-List.reduceReplicate,hz]
 refine .ownC (H.n+1) 37 (by simp (disch:=first|exact za|fail) only [go_sem,seval,-List.reduceReplicate]<;>rfl) (zgS hz) ?_
 simp (disch:=first|exact za|fail) only [go_sem,seval,-List.reduceReplicate,hz]
 change ARun _ _ _ (dK H (mG 0 0 0 [] (List.replicate 32 0#8) (.sl (H.n+5) 0 1 []) (.sl (H.n+6) 0 2 [])) (b,true) 0 0) R
 have k1:(tk (b,true) 41).1.length=41:=zbJ
 have q1:=zgN (st:=(b,true)) (n:=41)
 refine .q ?_;refine .text ?_;simp (disch:=first|exact za|fail) only [go_sem,seval,-List.reduceReplicate]
 refine .q ?_;refine .text ?_;simp (disch:=first|exact za|fail) only [go_sem,seval,-List.reduceReplicate,hen]
 refine CallK.of (fun R h=>take_at (b,true) hb 41 (by omega) H _ _ _ R h) ?_;simp (disch:=first|exact za|fail) only [go_sem,seval,-List.reduceReplicate]
 simp only at q1
 unfold dec decM at h
 generalize (tk (b,true) 41).2=s1 at *
 generalize (tk (b,true) 41).1=hd at *
 refine .q ?_;refine .text ?_;simp (disch:=first|exact za|fail) only [go_sem,seval,-List.reduceReplicate,k1]
 have k3:((hd.take 5).drop 1).length=4:=by rw [List.length_drop,List.length_take];omega
 have k4:((hd.take 9).drop 5).length=4:=by rw [List.length_drop,List.length_take];omega
 have w3:=zeP (Nat.le_of_eq k3)
 have w4:=zeP (Nat.le_of_eq k4)
 have w5:=wrap_small (n:=(rd ((hd.take 5).drop 1)).toNat) (by omega)
 have w6:=wrap_small (n:=(rd ((hd.take 9).drop 5)).toNat) (by omega)
 have k2:(hd.drop 9).length=32:=by rw [List.length_drop,k1]
 refine .q ?_;refine .text ?_;simp (disch:=first|exact za|fail) only [go_sem,seval,-List.reduceReplicate,k1]
 refine CallK.of (fun R h=>zdt ((hd.take 5).drop 1) (by omega) _ R h) ?_;simp (disch:=first|exact za|fail) only [go_sem,seval,-List.reduceReplicate,w5]
 refine .q ?_;refine .text ?_;simp (disch:=first|exact za|fail) only [go_sem,seval,-List.reduceReplicate,k1]
 refine CallK.of (fun R h=>zdt ((hd.take 9).drop 5) (by omega) _ R h) ?_;simp (disch:=first|exact za|fail) only [go_sem,seval,-List.reduceReplicate,w6]
 unfold d1 at h
 generalize hse:(rd ((hd.take 5).drop 1)).toNat=se at *
 generalize hsp:(rd ((hd.take 9).drop 5)).toNat=sp at *
 generalize hdg:hd.drop 9=dgs at *
 generalize hkd:(nth hd 0).toNat=kd at *
 refine .q ?_;refine .open [4] follows (by kernel_rfl) ?_;simp (disch:=first|exact za|fail) only [go_sem,seval,-List.reduceReplicate,k1,k2,hdg]
 -- the text
 have k5:(tk s1 2).1.length=2:=zbJ
 have q2:=zgN (st:=s1) (n:=2)
 have w7:=zjf (Nat.le_of_eq k5)
 have w8:=wrap_small (n:=(rd (tk s1 2).1).toNat) (by omega)
 refine .q ?_;refine .text ?_;simp (disch:=first|exact za|fail) only [go_sem,seval,-List.reduceReplicate]
 refine CallK.of (fun R h=>take_at s1 (by omega) 2 (by omega) H _ _ _ R h) ?_;simp (disch:=first|exact za|fail) only [go_sem,seval,-List.reduceReplicate]
 refine CallK.of (fun R h=>zdt (tk s1 2).1 (by omega) _ R h) ?_;simp (disch:=first|exact za|fail) only [go_sem,seval,-List.reduceReplicate,w8]
 unfold d2 at h
 generalize hs2:(tk s1 2).2=s2 at *
 generalize htl:(rd (tk s1 2).1).toNat=tl at *
 have k6:(tk s2 tl).1.length=tl:=zbJ
 have q3:=zgN (st:=s2) (n:=tl)
 refine CallK.of (fun R h=>take_at s2 (by omega) tl (by omega) H _ _ _ R h) ?_;simp (disch:=first|exact za|fail) only [go_sem,seval,-List.reduceReplicate,zaI]
 unfold d3 at h
 generalize hs3:(tk s2 tl).2=s3 at *
 generalize htx:(tk s2 tl).1=tx at *
 -- the numbers
 have k7:(tk s3 1).1.length=1:=zbJ
 have q4:=zgN (st:=s3) (n:=1)
 refine .q ?_;refine .text ?_;simp (disch:=first|exact za|fail) only [go_sem,seval,-List.reduceReplicate]
 refine CallK.of (fun R h=>take_at s3 (by omega) 1 (by omega) H _ _ _ R h) ?_;simp (disch:=first|exact za|fail) only [go_sem,seval,-List.reduceReplicate,k7]
 unfold d4 at h
 generalize hs4:(tk s3 1).2=s4 at *
 generalize hc1:(nth (tk s3 1).1 0).toNat=c1 at *
 have hc1b:c1 < 256:=by rw [←hc1];exact (nth (tk s3 1).1 0).isLt
 obtain⟨n8,hn8,h8⟩ : ∃ n8:Nat,n8=8*c1∧8*(c1:Int)=(n8:Int):=⟨8*c1,rfl,by omega⟩
 have k8:(tk s4 n8).1.length=n8:=zbJ
 have q5:=zgN (st:=s4) (n:=n8)
 simp (disch:=first|exact za|fail) only [go_sem,seval,-List.reduceReplicate,h8]
 refine CallK.of (fun R h=>take_at s4 (by omega) n8 (by omega) H _ _ _ R h) ?_;simp (disch:=first|exact za|fail) only [go_sem,seval,-List.reduceReplicate]
 unfold d5 at h
 rw [←hn8] at h
 generalize hs5:(tk s4 n8).2=s5 at *
 generalize hsm:(tk s4 n8).1=sm at *
 refine CallK.of (fun R h=>zgP sm c1 (by omega) (by omega) _ R h) ?_;simp (disch:=first|exact za|fail) only [go_sem,seval,-List.reduceReplicate,zas]
 generalize hws:wds sm c1=ws at *
 have hwl:ws.length=c1:=by rw [←hws];exact zas
 refine .q ?_;refine .loopH [0,2,4,6,7,11,53,54,77] (fun i=>[(55,.p (i64 i))]) (fun i=>dK H (mG kd se sp tx dgs (.sl (H.n+5) i 1 (pl i64 ((ws.take i).map toI))) (.sl (H.n+6) 0 2 [])) s5 i 0) (fun i=>True) (0) (c1) (by omega) ?_ (by first | rfl | (simp (disch:=first|exact za|fail) only [go_sem,seval,-List.reduceReplicate,k2,List.take_zero,List.map_nil]<;>rfl)) ?_ ?_ ?_
 · simp (disch:=first|exact za|fail) only [go_sem,seval,-List.reduceReplicate,k2,List.take_zero,List.map_nil]<;>(repeat' (first | rfl | refine And.intro ?_ ?_))
 · exact trivial
 intro env E hQ;simp (disch:=first|exact za|fail) only [go_sem,seval,-List.reduceReplicate,k2,List.take_zero,List.map_nil] at E
 rotate_left 1
 intro i env hi0 hi E hQ ihE;simp (disch:=first|exact za|fail) only [go_sem,seval,-List.reduceReplicate,k2,List.take_zero,List.map_nil] at E
 rotate_left 1
 · have hwt:ws.take c1=ws:=List.take_of_length_le (by omega)
   rw [hwt] at *
   have hvl:(ws.map toI).length=c1:=by rw [List.length_map];exact hwl
   generalize ws.map toI=us at *
   refine .q ?_;refine .text ?_;simp (disch:=first|exact za|fail) only [go_sem,seval,-List.reduceReplicate,E]
   refine .q ?_;refine .ifF (by simp (disch:=first|exact za|fail) only [go_sem,seval,-List.reduceReplicate]) ?_
   have k9:(tk s5 1).1.length=1:=zbJ
   have q6:=zgN (st:=s5) (n:=1)
   refine .q ?_;refine .text ?_;simp (disch:=first|exact za|fail) only [go_sem,seval,-List.reduceReplicate,E,hen]
   refine CallK.of (fun R h=>take_at s5 (by omega) 1 (by omega) H _ _ _ R h) ?_;simp (disch:=first|exact za|fail) only [go_sem,seval,-List.reduceReplicate,k9]
   generalize hs6:(tk s5 1).2=s6 at *
   generalize hc2:(nth (tk s5 1).1 0).toNat=c2 at *
   have hc2b:c2 < 256:=by rw [←hc2];exact (nth (tk s5 1).1 0).isLt
   obtain⟨n16,hn16,h16⟩ : ∃ n16:Nat,n16=16*c2∧16*(c2:Int)=(n16:Int):=⟨16*c2,rfl,by omega⟩
   have k10:(tk s6 n16).1.length=n16:=zbJ
   have q7:=zgN (st:=s6) (n:=n16)
   simp (disch:=first|exact za|fail) only [go_sem,seval,-List.reduceReplicate,h16]
   refine CallK.of (fun R h=>take_at s6 (by omega) n16 (by omega) H _ _ _ R h) ?_;simp (disch:=first|exact za|fail) only [go_sem,seval,-List.reduceReplicate]
   unfold d6 at h
   rw [←hn16] at h
   generalize hs7:(tk s6 n16).2=s7 at *
   generalize hvm:(tk s6 n16).1=vm at *
   refine CallK.of (fun R h=>zgP vm (2*c2) (by omega) (by omega) _ R h) ?_;simp (disch:=first|exact za|fail) only [go_sem,seval,-List.reduceReplicate,zas]
   unfold d7 at h
   generalize hwv:wds vm (2*c2)=wv at *
   have hwvl:wv.length=2*c2:=by rw [←hwv];exact zas
   refine CallK.of (fun R h=>zlu wv 2 (by omega) _ R h) ?_;simp (disch:=first|exact za|fail) only [go_sem,seval,-List.reduceReplicate]
   refine .q ?_;refine .rangeFunc (ps:=[77]) rfl (by simp (disch:=first|exact za|fail) only [go_sem,seval,-List.reduceReplicate];rfl) (by simp (disch:=first|exact za|fail) only [go_sem,seval,-List.reduceReplicate]) (by simp) fun L vs hL hvs hround => ?_;simp (disch:=first|exact za|fail) only [go_sem,seval,-List.reduceReplicate]
   refine zje wv 2 c2 (by omega) hwvl (by omega) (H.n+9) (H.n+7) (H.n+8) (H.n+10) (fun j=>(((dK H (mG kd se sp tx dgs (.sl (H.n+5) c1 1 (pl i64 us)) (.sl (H.n+6) j 2 (pl ext (prs wv j)))) s7 c1 j).new (.cells [.p (.sl false 1 (pl zw wv))])).new (.cells [.p (i64 (2:Nat))])).new (.obj vs (L .ready none))) (fun j=>by simp (disch:=first|exact za|fail) only [go_sem,seval,-List.reduceReplicate]) (fun j => ?_) (by omega) (fun j=>by simp (disch:=first|exact za|fail) only [go_sem,seval,-List.reduceReplicate]) (fun j=>by simp (disch:=first|exact za|fail) only [go_sem,seval,-List.reduceReplicate]) (fun j hj S K hK => ?_) _ ?_
   · (try dsimp only);(repeat (first | with_reducible exact hbel | with_reducible exact yI hbel za | with_reducible refine zaY ?_ | with_reducible refine zaZ ?_ | with_reducible refine za0 ?_ | with_reducible refine za1 hvs ?_ za | with_reducible refine yY ?_ | with_reducible refine za2 ?_ | with_reducible refine za3 ?_ | with_reducible refine za4 ?_ | with_reducible refine za5 ?_))
     exact zvE (by omega) hbel (zn2 (.sl _ _ _ _ (by omega)) (.sl _ _ _ _ (by omega)))
   · rw [zdb] at hK
     have hpl:=zes (w:=wv) (j:=j)
     have hl:((wv.take (2*j+2)).drop (2*j)).length=2:=by rw [List.length_drop,List.length_take];omega
     have hx0:nth ((wv.take (2*j+2)).drop (2*j)) 0=nth wv (2*j):=by rw [nth_drop,zec (by omega)];rfl
     have hx1:nth ((wv.take (2*j+2)).drop (2*j)) 1=nth wv (2*j+1):=by rw [nth_drop,zec (by omega)]
     rw [←hx0,←hx1] at hK
     clear hx0 hx1
     generalize (wv.take (2*j+2)).drop (2*j)=x at *
     generalize prs wv j=ps at *
     refine hround _ _ _ rfl (by simp (disch:=first|exact za|fail) only [go_sem,seval,-List.reduceReplicate]) fun hbel2 => ?_
     dsimp only
     simp (disch:=first|exact za|fail) only [go_sem,seval,-List.reduceReplicate]
     refine .q ?_;refine .text ?_;simp (disch:=first|exact za|fail) only [go_sem,seval,-List.reduceReplicate]
     refine .q ?_;refine .beginRound rfl hL (by simp (disch:=first|exact za|fail) only [go_sem,seval,-List.reduceReplicate];rfl) ?_;simp (disch:=first|exact za|fail) only [go_sem,seval,-List.reduceReplicate]
     refine .q ?_;refine .open [10,12] follows (by kernel_rfl) ?_;simp (disch:=first|exact za|fail) only [go_sem,seval,-List.reduceReplicate,E,k2,hpl,hl]
     refine .q ?_;refine .roundEndK rfl hL (by simp (disch:=first|exact za|fail) only [go_sem,seval,-List.reduceReplicate];rfl) ?_;simp (disch:=first|exact za|fail) only [go_sem,seval,-List.reduceReplicate]
     exact hK
   · unfold zeg;refine⟨?_,.inl ⟨(by simp (disch:=first|exact za|fail) only [go_sem,seval,-List.reduceReplicate]<;>rfl),?_⟩⟩;(try dsimp only);(repeat (first | with_reducible exact hbel | with_reducible exact yI hbel za | with_reducible refine zaY ?_ | with_reducible refine zaZ ?_ | with_reducible refine za0 ?_ | with_reducible refine za1 hvs ?_ za | with_reducible refine yY ?_ | with_reducible refine za2 ?_ | with_reducible refine za3 ?_ | with_reducible refine za4 ?_ | with_reducible refine za5 ?_));simp (disch:=first|exact za|fail) only [go_sem,seval,-List.reduceReplicate]
     · exact zvE (by omega) hbel (zn2 (.sl _ _ _ _ (by omega)) (.sl _ _ _ _ (by omega)))
     have ktx:tx.length=tl:=k6
     have kps:=zes (w:=wv) (j:=c2)
     rw [zn3 k2] at h
     generalize prs wv c2=ps at *
     simp (disch:=first|exact za|fail) only [go_sem,seval,-List.reduceReplicate]
     refine .q ?_;refine .text ?_;simp (disch:=first|exact za|fail) only [go_sem,seval,-List.reduceReplicate,E,hen]
     refine CallK.of (fun R h=>zvF [.cells [.p (.sl false 1 (pl zw wv))],.cells [.p (i64 2)]] s7 (by omega) 8 (by omega) H _ _ _ R h) ?_;simp (disch:=first|exact za|fail) only [go_sem,seval,-List.reduceReplicate]
     generalize (tk s7 8).2=s8 at *
     generalize [AB.cells [AV.p (PV.sl false 1 (pl zw wv))],AB.cells [AV.p (i64 2)]]=T
     have hbel:Bel H.n (dK H (mG kd se sp tx dgs (.sl (H.n+5) c1 1 (pl i64 us)) (.sl (H.n+6) c2 2 (pl ext ps))) s8 c1 c2):=zx7 hbel
     have hf4:(dK H (mG kd se sp tx dgs (.sl (H.n+5) c1 1 (pl i64 us)) (.sl (H.n+6) c2 2 (pl ext ps))) s8 c1 c2).f (H.n+4)=some (.cells [.p (bo s8.2)]):=zpt
     cases hok:s8.2 with
     | false =>
      rw [hok] at h hf4
      simp only [zly,if_true] at h
      refine .q ?_;refine .text ?_;simp (disch:=first|exact za|fail) only [go_sem,seval,-List.reduceReplicate,E,hf4]
      refine .q ?_;refine .ifT (by simp (disch:=first|exact za|fail) only [go_sem,seval,-List.reduceReplicate]) ?_
      refine .q ?_;refine .text ?_;simp (disch:=first|exact za|fail) only [go_sem,seval,-List.reduceReplicate,E,hz]
      refine .q ?_;refine .rt Tryz.func47 (by rw [Tryz.results47]) (hx:=by simp (disch:=first|exact za|fail) only [go_sem,seval,-List.reduceReplicate,E,hz];rfl) (hR := ?_);simp (disch:=first|exact za|fail) only [go_sem,seval,-List.reduceReplicate,E,hz]
      exact h
     | true =>
      rw [hok] at h hf4
      simp only [zly,Bool.true_eq_false,if_false] at h
      refine .q ?_;refine .text ?_;simp (disch:=first|exact za|fail) only [go_sem,seval,-List.reduceReplicate,E,hf4]
      refine .q ?_;refine .ifF (by simp (disch:=first|exact za|fail) only [go_sem,seval,-List.reduceReplicate]) ?_
      refine .q ?_;refine .text ?_;simp (disch:=first|exact za|fail) only [go_sem,seval,-List.reduceReplicate,E,zn1 k2]
      have hM:(⟨kd,se,sp,tx,⟨dgs,k2⟩,us,ps⟩:Msg).Ok:=⟨⟨by show (_:Int)≤(kd:Int);omega,by show (kd:Int)≤_;omega⟩,⟨by show (_:Int)≤(se:Int);omega,by show (se:Int)≤_;omega⟩,⟨by show (_:Int)≤(sp:Int);omega,by show (sp:Int)≤_;omega⟩,by show tx.length≤_;omega,by show us.length≤_;omega,by show ps.length≤_;omega⟩
      have hagg:=zn1 (k:=kd) (s:=se) (t:=sp) (tx:=tx) (a:=H.n+5) (v:=c1) (a':=H.n+6) (v':=c2) (su:=us) (va:=ps) k2
      generalize (⟨kd,se,sp,tx,⟨dgs,k2⟩,us,ps⟩:Msg)=M at *
      refine CallK.of (fun R h=>zc9 g M hM _ R h) ?_;simp (disch:=first|exact za|fail) only [go_sem,seval,-List.reduceReplicate,E]
      refine CallK.of (fun R h=>zgO _ _ _ R h) ?_;simp (disch:=first|exact za|fail) only [go_sem,seval,-List.reduceReplicate]
      by_cases he:enc M=b
      · rw [if_pos he] at h
        have d:decide (enc M=b)=true:=decide_eq_true he
        simp (disch:=first|exact za|fail) only [go_sem,seval,-List.reduceReplicate,d]
        refine .q ?_;refine .ifF (by simp (disch:=first|exact za|fail) only [go_sem,seval,-List.reduceReplicate]) ?_
        refine .q ?_;refine .text ?_;simp (disch:=first|exact za|fail) only [go_sem,seval,-List.reduceReplicate,E,hagg]
        refine .q ?_;refine .rt Tryz.func47 (by rw [Tryz.results47]) (hx:=by simp (disch:=first|exact za|fail) only [go_sem,seval,-List.reduceReplicate,E,hz];rfl) (hR := ?_);simp (disch:=first|exact za|fail) only [go_sem,seval,-List.reduceReplicate,E,hz]
        exact h
      · rw [if_neg he] at h
        have d:decide (enc M=b)=false:=decide_eq_false he
        simp (disch:=first|exact za|fail) only [go_sem,seval,-List.reduceReplicate,d]
        refine .q ?_;refine .ifT (by simp (disch:=first|exact za|fail) only [go_sem,seval,-List.reduceReplicate]) ?_
        refine .q ?_;refine .text ?_;simp (disch:=first|exact za|fail) only [go_sem,seval,-List.reduceReplicate,E,hz]
        refine .q ?_;refine .rt Tryz.func47 (by rw [Tryz.results47]) (hx:=by simp (disch:=first|exact za|fail) only [go_sem,seval,-List.reduceReplicate,E,hz];rfl) (hR := ?_);simp (disch:=first|exact za|fail) only [go_sem,seval,-List.reduceReplicate,E,hz]
        exact h
 · have hst:(ws.take (i+1)).map toI=(ws.take i).map toI++[toI (nth ws i)]:=by rw [zX (by omega),List.map_append];rfl
   have hli:((ws.take i).map toI).length=i:=by rw [List.length_map,List.length_take];omega
   rw [hst] at ihE
   have htoI : ∀ x:U,IntKind.i64.wrap (x.toNat:Int)=toI x:=fun _=>rfl
   generalize (ws.take i).map toI=us at *
   refine .q ?_;refine .text ?_;simp (disch:=first|exact za|fail) only [go_sem,seval,-List.reduceReplicate,E]
   refine .q ?_;refine .ifT (by simp (disch:=first|exact za|fail) only [go_sem,seval,-List.reduceReplicate]) ?_
   refine .q ?_;refine .text ?_;simp (disch:=first|exact za|fail) only [go_sem,seval,-List.reduceReplicate,E]
   refine .q ?_;refine .text ?_;simp (disch:=first|exact za|fail) only [go_sem,seval,-List.reduceReplicate,E,k2,hli,htoI]
   refine .q ?_;refine .text ?_;simp (disch:=first|exact za|fail) only [go_sem,seval,-List.reduceReplicate,E]
   first | (refine ihE _ _ ?_ trivial ?_) | (refine .z rfl ?_;refine ihE _ _ ?_ trivial ?_) | (refine .z rfl ?_;refine .z rfl ?_;refine ihE _ _ ?_ trivial ?_) | (refine .z rfl ?_;refine .z rfl ?_;refine .z rfl ?_;refine ihE _ _ ?_ trivial ?_)
   · simp (disch:=first|exact za|fail) only [go_sem,seval,-List.reduceReplicate,E]<;>(repeat' (first | rfl | refine And.intro ?_ ?_))
   · first | rfl | (simp (disch:=first|exact za|fail) only [go_sem,seval,-List.reduceReplicate,E]<;>(try rfl))
end walks
end Go.Proofs.YtgflpgcogkdpgaaGreatDoor

/-
  Sessions: their states,sending and receiving.
-/
namespace Go.Proofs.YtgflpgcogkdpgaaGreatDoor
open Go Go.AL

def zeQ (id due:Int):Ses:=⟨id,0,0,[],zD,zM,due,0,0,0⟩
def nS (id due:Int):PV := .agg ([i64 id,i64 0,i64 0,str (bytesOf [])]++(pl b8 (List.replicate 32 0#8)++([i64 0,i64 0,i64 0,str (bytesOf [])]++(pl b8 (List.replicate 32 0#8)++[.sl true 1 [],.sl true 2 [],i64 due,i64 0,i64 0,i64 0]))))
def nC (id due:Int):List AV:=([i64 id,i64 0,i64 0,str (bytesOf [])]++(pl b8 (List.replicate 32 0#8)++([i64 0,i64 0,i64 0,str (bytesOf [])]++(pl b8 (List.replicate 32 0#8)++[.sl true 1 [],.sl true 2 [],i64 due,i64 0,i64 0,i64 0])))).map .p
theorem zCE {id due:Int}:zq (AV.p (i64 id) :: AV.p (i64 0) :: AV.p (i64 0) :: AV.p (str ByteArray.empty) :: (List.map AV.p (pl b8 (List.replicate 32 0#8)++[i64 0,i64 0,i64 0,str ByteArray.empty]++pl b8 (List.replicate 32 0#8)++[PV.sl true 1 [],PV.sl true 2 [],i64 0,i64 0,i64 0,i64 0])).set 70 (AV.p (i64 due))) = .p (nS id due):=rfl
theorem zvJ {id due:Int}:zi (.p (nS id due))=some (nC id due):=rfl
theorem zAx {id due:Int}:(nC id due).length=78:=rfl
theorem zAy {id due:Int}:zq (nC id due) = .p (nS id due):=rfl
theorem zx9 {id due:Int}:(nC id due).take 78=nC id due:=rfl
theorem zya {id due:Int}:(nS id due).weak=y9 (zeQ id due):=rfl
theorem zn:AV.p (i64 0) :: AV.p (i64 0) :: AV.p (i64 0) :: AV.p (str ByteArray.empty) :: List.map AV.p (pl b8 (List.replicate 32 0#8)++[i64 0,i64 0,i64 0,str ByteArray.empty]++pl b8 (List.replicate 32 0#8)++[PV.sl true 1 [],PV.sl true 2 [],i64 0,i64 0,i64 0,i64 0])=nC 0 0:=rfl
theorem zyb {a b id:Int}:(nC a b).set 0 (.p (i64 id))=nC id b:=rfl
theorem zvK {a b due:Int}:(nC a b).set 74 (.p (i64 due))=nC a due:=rfl
theorem zdc {a b:By}:(pair a b).length=32:=zbq _
theorem ssetR' {s:Ses} {x:By} (h:x.length=32):setAt (zJ s) 4 (cl b8 x)=zJ { s with seen:=⟨x,h⟩ }:=zzw (d:=⟨x,h⟩)
theorem zyc {a b c:PV}:zi (.p (.agg [a,b,c]))=some [.p a,.p b,.p c]:=rfl
theorem zAz {a b c:PV}:zq [.p a,.p b,.p c] = .p (.agg [a,b,c]):=rfl
attribute [go_sem] zyc zAz zyb zvK ssetR' zCE zvJ zAx zAy zx9 zya
section walks
variable {G:Globs} {r1 r2:Nat} {m1:List (Int × Rule)} {m2:List (Int × Int)}
theorem zet (id due:Int) (H:Hp) (R:AV → Hp → Prop) (h:R (.p (y9 (zeQ id due))) H):ACall Tryz.prog G 25 [.p (i64 id),.p (i64 due)] H R:=by
 refine ACall.of_run (raw:=[]) Tryz.func25 rfl Tryz.ntmps25 (by simp) fun hbel => ?_
 refine .q ?_;refine .text ?_;simp (disch:=first|exact za|fail) only [go_sem,seval,-List.reduceReplicate]
 refine .q ?_;refine .text ?_;simp (disch:=first|exact za|fail) only [go_sem,seval,-List.reduceReplicate,zn]
 refine .q ?_;refine .rt Tryz.func25 (by rw [Tryz.results25]) (hR := ?_);simp (disch:=first|exact za|fail) only [go_sem,seval,-List.reduceReplicate]
 exact h
theorem zgV (s:Ses) (b:Nat) (H:Hp) (hb:H.f b=some (.cells (zJ s))) (R:AV → Hp → Prop) (h:R (.p (bo (decide (3≤s.state)))) H):ACall Tryz.prog G 43 [.ptr b 0] H R:=by
 refine ACall.of_run (raw:=[]) Tryz.func43 rfl Tryz.ntmps43 (by simp) fun hbel => ?_
 refine .q ?_;refine .text ?_;simp (disch:=first|exact za|fail) only [go_sem,seval]
 refine .q ?_;refine .text ?_;simp (disch:=first|exact za|fail) only [go_sem,seval,hb]
 refine .q ?_;refine .rt Tryz.func43 (by rw [Tryz.results43]) (hR := ?_);simp (disch:=first|exact za|fail) only [go_sem,seval]
 exact h
def zbc (s:Ses):Bool:=(((s.last.kind != 0) && (s.last.step % 2 == 0)) == (s.step % 2 == 0))
theorem zgW (s:Ses) (h1:0≤s.step) (h2:0≤s.last.step) (b:Nat) (H:Hp) (hb:H.f b=some (.cells (zJ s))) (R:AV → Hp → Prop) (h:R (.p (bo (zbc s))) H):ACall Tryz.prog G 44 [.ptr b 0] H R:=by
 unfold zbc at h
 refine ACall.of_run (raw:=[]) Tryz.func44 rfl Tryz.ntmps44 (by simp) fun hbel => ?_
 refine .q ?_;refine .text ?_;simp (disch:=first|exact za|fail) only [go_sem,seval]
 refine .q ?_;refine .text ?_;simp (disch:=first|exact za|fail) only [go_sem,seval,hb]
 (first | refine yC (fun c1 => ?_) (fun c1 => ?_) | refine yv (fun c1 => ?_) (fun c1 => ?_))<;>(try simp only [Bool.not_eq_true',Bool.not_eq_false'] at c1)<;>simp (disch:=first|exact za|fail) only [go_sem,seval,c1,hb]
 · rw [c1] at h
   refine .q ?_;refine .text ?_;simp (disch:=first|exact za|fail) only [go_sem,seval,hb]
   refine .q ?_;refine .rt Tryz.func44 (by rw [Tryz.results44]) (hR := ?_);simp (disch:=first|exact za|fail) only [go_sem,seval]
   exact h
 · rw [c1] at h
   refine .q ?_;refine .text ?_;simp (disch:=first|exact za|fail) only [go_sem,seval,hb]
   refine .q ?_;refine .rt Tryz.func44 (by rw [Tryz.results44]) (hR := ?_);simp (disch:=first|exact za|fail) only [go_sem,seval]
   exact h
def zbS (s:Ses) (m:Msg) (b:By):Ses :=
 { s with step:=s.step+1,seen:=⟨pair s.seen.val (sha b),zdc⟩,bytes:=s.bytes+b.length,rounds:=s.rounds+1,words:=s.words+m.sums.length+2*m.values.length,state:=(zbk m.kind).getD 0,text:=if m.kind=1 then m.text else s.text }
theorem zyd {n b:Nat} {H:Hp} {s:Ses} (h:Bel n H):Bel n (H.set b (.cells (zJ s))):=zbD h fun y hy=>by
 simp only [AB.vals,zJ,List.mem_map] at hy
 obtain⟨x,_,rfl⟩:=hy
 exact .p _
set_option maxHeartbeats 4000000 in
set_option maxRecDepth 20000 in
theorem zlA (g:GR G r1 r2 m1 m2) (s:Ses) (m:Msg) (hm:m.Ok) (b:By) (hb:b.length≤140737488353000) (h1:0≤s.step∧s.step≤1000000000000) (h2:0≤s.bytes∧s.bytes≤1000000000000000000) (h3:0≤s.rounds∧s.rounds≤1000000000000) (h4:0≤s.words∧s.words≤1000000000000000000)
 (c:Nat) (H:Hp) (hc:H.f c=some (.cells (zJ s))) (R:AV → Hp → Prop) (h:R (.tup []) (H.set c (.cells (zJ (zbS s m b))))):ACall Tryz.prog G 46 [.ptr c 0,.p (ym m),.p (.sl false 1 (pl b8 b))] H R:=by
 have hcn:=Hp.lt hc
 have e1:=g.g2
 have e2:=g.h2
 have e3:=g.state hm.kind
 have hsu:=hm.sums
 have hva:=hm.values
 have hsl:=s.seen.len
 have hsh:=zbq b
 have hp:(pair s.seen.val (sha b)).length=32:=zdc
 refine ACall.of_run (raw:=[]) Tryz.func46 rfl Tryz.ntmps46 (by simp) fun hbel => ?_
 refine .q ?_;refine .text ?_;simp (disch:=first|exact za|fail) only [go_sem,seval]
 refine .q ?_;refine .text ?_;simp (disch:=first|exact za|fail) only [go_sem,seval,hc]
 refine .q ?_;refine .open [10] follows (by kernel_rfl) ?_;simp (disch:=first|exact za|fail) only [go_sem,seval]
 refine CallD.still (fun R h=>zgF g.s0 g.s1 b hb _ R h) ?_;simp (disch:=first|exact za|fail) only [go_sem,seval,hsh]
 refine CallD.still (fun R h=>zrE g.s0 g.s1 _ _ hsl hsh _ R h) ?_;simp (disch:=first|exact za|fail) only [go_sem,seval,hp]
 refine .q ?_;refine .open [32] follows (by kernel_rfl) ?_;simp (disch:=first|exact za|fail) only [go_sem,seval]
 refine .q ?_;refine .text ?_;simp (disch:=first|exact za|fail) only [go_sem,seval,e1,e2,e3]
 refine .q ?_;refine .text ?_;simp (disch:=first|exact za|fail) only [go_sem,seval]
 have hbel:=fun x=>zyd (b:=c) (s:=x) hbel
 refine .q ?_;refine .ifB (by simp (disch:=first|exact za|fail) only [go_sem,seval];rfl) (fun hk => ?_) (fun hk => ?_)
 · have hk1:m.kind=1:=by simpa using hk
   unfold zbS at h
   rw [if_pos hk1] at h
   refine .q ?_;refine .text ?_;simp (disch:=first|exact za|fail) only [go_sem,seval]
   refine .q ?_;refine .fin Tryz.func46 (by rw [Tryz.results46]) (by simp (disch:=first|exact za|fail) only [go_sem,seval];rfl) (by simp (disch:=first|exact za|fail) only [go_sem,seval];rfl) (by (try dsimp only);repeat (first | with_reducible refine zv ?_ za | with_reducible refine zad ?_ za | with_reducible refine zaR ?_ za | with_reducible refine yY ?_ | with_reducible exact hbel | with_reducible exact hbel _)) ?_;simp (disch:=first|exact za|fail) only [go_sem,seval]
   exact h
 · have hk1:m.kind≠1:=by simpa using hk
   unfold zbS at h
   rw [if_neg hk1] at h
   refine .skip ?_
   refine .q ?_;refine .fin Tryz.func46 (by rw [Tryz.results46]) (by simp (disch:=first|exact za|fail) only [go_sem,seval];rfl) (by simp (disch:=first|exact za|fail) only [go_sem,seval];rfl) (by (try dsimp only);repeat (first | with_reducible refine zv ?_ za | with_reducible refine zad ?_ za | with_reducible refine zaR ?_ za | with_reducible refine yY ?_ | with_reducible exact hbel | with_reducible exact hbel _)) ?_;simp (disch:=first|exact za|fail) only [go_sem,seval]
   exact h
end walks
theorem zfF {m:Msg} (h:valid m=true):50≤(enc m).length∧(enc m).length≤3000:=by
 obtain⟨b1,b2,b3⟩:=zdu h
 have:=m.root.len
 rw [enc,h,if_pos rfl]
 simp only [zcg,List.length_append,ya,zch,zci,List.length_take,zbq,List.length_cons,List.length_nil]
 omega
def sH (H:Hp) (s:Ses) (m:Msg) (o:List AV) (x:Ses):Hp:=(((H.new (.cells (zJ s))).new (.cells (yR m))).new (.cells o)).new (.cells (zJ x))
section sh
variable {H:Hp} {s s' x x':Ses} {m m':Msg} {o o':List AV}
theorem zCF:(sH H s m o x).f H.n=some (.cells (zJ s)):=by simp (disch:=first|exact za|fail) only [sH,go_sem,seval]
theorem zCG:(sH H s m o x).f (H.n+1)=some (.cells (yR m)):=by simp (disch:=first|exact za|fail) only [sH,go_sem,seval]
theorem zCH:(sH H s m o x).f (H.n+2)=some (.cells o):=by simp (disch:=first|exact za|fail) only [sH,go_sem,seval]
theorem zpv:(sH H s m o x).f (H.n+3)=some (.cells (zJ x)):=by simp (disch:=first|exact za|fail) only [sH,go_sem,seval]
theorem zye:(sH H s m o x).set (H.n+1) (.cells (yR m'))=sH H s m' o x:=by simp (disch:=first|exact za|fail) only [sH,go_sem,seval]
theorem zyf:(sH H s m o x).set (H.n+2) (.cells o')=sH H s m o' x:=by simp (disch:=first|exact za|fail) only [sH,go_sem,seval]
theorem zyg:(sH H s m o x).set (H.n+3) (.cells (zJ x'))=sH H s m o x':=by simp (disch:=first|exact za|fail) only [sH,go_sem,seval]
theorem zvL:(sH H s m o x).trunc H.n=H:=by simp (disch:=first|exact za|fail) only [sH,go_sem,seval]
theorem zAA:(((H.new (.cells (zJ s))).new (.cells (yR m))).new (.cells o)).new (.cells (zJ x))=sH H s m o x:=rfl
theorem zAB (h:Bel H.n H):Bel H.n (sH H s m o x):=by
 unfold sH
 exact zv (zv (zv (zv h (Nat.le_refl _)) (by simp only [n_new'];omega)) (by simp only [n_new'];omega)) (by simp only [n_new'];omega)
end sh
attribute [go_sem] zCF zCG zCH zpv zye zyf zyg zvL
section walks
variable {G:Globs} {r1 r2:Nat} {m1:List (Int × Rule)} {m2:List (Int × Int)}
def zcj (s:Ses) (m:Msg):Bool:=decide (3≤s.state) || (s.state != 0 && !zbc s) || !fits m.kind s.step
def zcN (s:Ses) (m:Msg):Msg := { m with session:=s.id,step:=s.step,root:=if m.kind != 2 then s.seen else m.root }
def send (s:Ses) (m:Msg):Ses × By × Int :=
 if zcj s m then (s,[],290) else if valid (zcN s m) then ({ zbS s (zcN s m) (enc (zcN s m)) with last:=zcN s m },enc (zcN s m),0) else (s,[],1)
structure Ses.Ok (s:Ses):Prop where
 id:okI s.id
 step:0≤s.step∧s.step≤1000000000000
 last:0≤s.last.step
 bytes:0≤s.bytes∧s.bytes≤1000000000000000000
 rounds:0≤s.rounds∧s.rounds≤1000000000000
 words:0≤s.words∧s.words≤1000000000000000000
set_option maxHeartbeats 4000000 in
set_option maxRecDepth 20000 in
theorem zeR (g:GR G r1 r2 m1 m2) (s:Ses) (hs:s.Ok) (m:Msg) (hm:m.Ok) (H:Hp) (R:AV → Hp → Prop) (h:R (.tup [.p (y9 (send s m).1),.p (.sl false 1 (pl b8 (send s m).2.1)),.p (i64 (send s m).2.2)]) H):ACall Tryz.prog G 26 [.p (y9 s),.p (ym m)] H R:=by
 have hstep:=hs.step
 have hko:okI s.step:=⟨by omega,by omega⟩
 refine ACall.of_run (raw:=[]) Tryz.func26 rfl Tryz.ntmps26 (by simp) fun hbel => ?_
 refine .q ?_;refine .text ?_;simp (disch:=first|exact za|fail) only [go_sem,seval,zn]
 refine .q ?_;refine .text ?_;simp (disch:=first|exact za|fail) only [go_sem,seval,zn]
 rw [zAA]
 have hbel:=fun s m o x=>zAB (s:=s) (m:=m) (o:=o) (x:=x) hbel
 have hin : ∀ R,R (.p (bo (decide (3≤s.state)))) (sH H s m (nC 0 0) s) → ACall Tryz.prog G 43 [.ptr (H.n+3) 0] (sH H s m (nC 0 0) s) R:=fun R h=>zgV s (H.n+3) _ zpv R h
 have hsn : ∀ R,R (.p (bo (zbc s))) (sH H s m (nC 0 0) s) → ACall Tryz.prog G 44 [.ptr (H.n+3) 0] (sH H s m (nC 0 0) s) R:=fun R h=>zgW s hstep.1 hs.last (H.n+3) _ zpv R h
 refine .q ?_;refine .cutE [2,3,4,7] [(28,.p (bo (zcj s m)))] [] (fun ihE => ?_) (fun env E => ?_)
 rotate_left 1
 simp (disch:=first|exact za|fail) only [go_sem,seval] at E
 rotate_left 1
 · unfold zcj at ihE
   refine .q ?_;refine .text ?_;simp (disch:=first|exact za|fail) only [go_sem,seval]
   refine CallK.of (fun R h=>hin R h) ?_;simp (disch:=first|exact za|fail) only [go_sem,seval]
   cases f1:decide (3≤s.state) with
   | true =>
    rw [f1] at ihE
    simp (disch:=first|exact za|fail) only [go_sem,seval]
    first | (refine ihE _ _ ?_ ?_) | (refine .z rfl ?_;refine ihE _ _ ?_ ?_) | (refine .z rfl ?_;refine .z rfl ?_;refine ihE _ _ ?_ ?_) | (refine .z rfl ?_;refine .z rfl ?_;refine .z rfl ?_;refine ihE _ _ ?_ ?_)
    · simp (disch:=first|exact za|fail) only [go_sem,seval]<;>(repeat' (first | rfl | refine And.intro ?_ ?_))
    · first | rfl | (simp (disch:=first|exact za|fail) only [go_sem,seval]<;>(try rfl))
   | false =>
    rw [f1] at ihE
    simp (disch:=first|exact za|fail) only [go_sem,seval]
    cases f2:s.state != 0 with
    | false =>
     rw [f2] at ihE
     simp (disch:=first|exact za|fail) only [go_sem,seval,f2]
     refine CallK.of (fun R h=>zeO g _ _ hm.kind hko _ R h) ?_;simp (disch:=first|exact za|fail) only [go_sem,seval]
     first | (refine ihE _ _ ?_ ?_) | (refine .z rfl ?_;refine ihE _ _ ?_ ?_) | (refine .z rfl ?_;refine .z rfl ?_;refine ihE _ _ ?_ ?_) | (refine .z rfl ?_;refine .z rfl ?_;refine .z rfl ?_;refine ihE _ _ ?_ ?_)
     · simp (disch:=first|exact za|fail) only [go_sem,seval]<;>(repeat' (first | rfl | refine And.intro ?_ ?_))
     · first | rfl | (simp (disch:=first|exact za|fail) only [go_sem,seval]<;>(try rfl))
    | true =>
     rw [f2] at ihE
     simp (disch:=first|exact za|fail) only [go_sem,seval,f2]
     refine CallK.of (fun R h=>hsn R h) ?_;simp (disch:=first|exact za|fail) only [go_sem,seval]
     cases f3:zbc s with
     | false =>
      rw [f3] at ihE
      simp (disch:=first|exact za|fail) only [go_sem,seval]
      first | (refine ihE _ _ ?_ ?_) | (refine .z rfl ?_;refine ihE _ _ ?_ ?_) | (refine .z rfl ?_;refine .z rfl ?_;refine ihE _ _ ?_ ?_) | (refine .z rfl ?_;refine .z rfl ?_;refine .z rfl ?_;refine ihE _ _ ?_ ?_)
      · simp (disch:=first|exact za|fail) only [go_sem,seval]<;>(repeat' (first | rfl | refine And.intro ?_ ?_))
      · first | rfl | (simp (disch:=first|exact za|fail) only [go_sem,seval]<;>(try rfl))
     | true =>
      rw [f3] at ihE
      simp (disch:=first|exact za|fail) only [go_sem,seval]
      refine CallK.of (fun R h=>zeO g _ _ hm.kind hko _ R h) ?_;simp (disch:=first|exact za|fail) only [go_sem,seval]
      first | (refine ihE _ _ ?_ ?_) | (refine .z rfl ?_;refine ihE _ _ ?_ ?_) | (refine .z rfl ?_;refine .z rfl ?_;refine ihE _ _ ?_ ?_) | (refine .z rfl ?_;refine .z rfl ?_;refine .z rfl ?_;refine ihE _ _ ?_ ?_)
      · simp (disch:=first|exact za|fail) only [go_sem,seval]<;>(repeat' (first | rfl | refine And.intro ?_ ?_))
      · first | rfl | (simp (disch:=first|exact za|fail) only [go_sem,seval]<;>(try rfl))
 · unfold send at h
   cases hbad:zcj s m with
   | true =>
    rw [hbad,if_pos rfl] at h
    refine .q ?_;refine .ifT (by simp (disch:=first|exact za|fail) only [go_sem,seval,E,hbad]) ?_
    refine .q ?_;refine .text ?_;simp (disch:=first|exact za|fail) only [go_sem,seval,E,zf]
    refine .q ?_;refine .rt Tryz.func26 (by rw [Tryz.results26]) (hx:=by simp (disch:=first|exact za|fail) only [go_sem,seval,E];rfl) (hR := ?_);simp (disch:=first|exact za|fail) only [go_sem,seval,E]
    exact h
   | false =>
    rw [hbad] at h
    simp only [Bool.false_eq_true,if_false] at h
    refine .q ?_;refine .ifF (by simp (disch:=first|exact za|fail) only [go_sem,seval,E,hbad]) ?_
    rw [zf]
    (refine .q ?_)
    refine .openInv (fun L env' H'=>kF env' [(2,.ptr H.n 0),(3,.ptr (H.n+1) 0),(4,.ptr (H.n+2) 0),(7,.ptr (H.n+3) 0)]∧kI L env' [(0,30,.ptr H.n 0),(1,31,.p (i64 s.id)),(2,32,.ptr H.n 1),(3,33,.p (i64 s.step)),(4,34,.ptr (H.n+1) 1),(6,35,.ptr (H.n+1) 2)]∧(L 5=true → allT L [0,1,4])∧(L 7=true → allT L [0,1,2,3,4,5,6])∧H'=(sH H s (if L 7 then { m with session:=s.id,step:=s.step } else if L 5 then { m with session:=s.id } else m) (nC 0 0) s)) follows (by kernel_rfl) ?_ ?_ ?_
    · exact⟨(by simp (disch:=first|exact za|fail) only [go_sem,seval,kFi,kFn,and_self,E]),(fun _ _ h=>by cases h),(fun h=>by cases h),(fun h=>by cases h),(by first | rfl | (simp only [Bool.false_eq_true,if_false];first | rfl | (simp (disch:=first|exact za|fail) only [go_sem,seval,E]<;>rfl)))⟩
    · intro i o L env' H' ho hL hall hI
      obtain⟨KF,KG,m5,m7,rfl⟩:=hI
      rcases i with _ | _ | _ | _ | _ | _ | _ | _ | i
      · cases ho;have f0:=yl KF 0 rfl;refine zg (.ptr H.n 0) rfl rfl (by simp (disch:=first|exact za|fail) only [go_sem,seval,f0]<;>rfl) rfl ?_;exact⟨zT KF,zU KG,ka m5,ka m7,(by rw [zb (by decide),zb (by decide)])⟩
      · cases ho;have d0:=zG KG 0 rfl (kL hall 0 rfl rfl);have n5:=y8 m5 hL;have n7:=y8 m7 hL;refine zg (.p (i64 s.id)) rfl rfl (by simp (disch:=first|exact za|fail) only [go_sem,seval,reduceIte,Bool.false_eq_true,if_false,if_true,d0,n5,n7,hL]<;>rfl) rfl ?_;exact⟨zT KF,zU KG,ka m5,ka m7,(by rw [zb (by decide),zb (by decide)])⟩
      · cases ho;have f0:=yl KF 0 rfl;refine zg (.ptr H.n 1) rfl rfl (by simp (disch:=first|exact za|fail) only [go_sem,seval,f0]<;>rfl) rfl ?_;exact⟨zT KF,zU KG,ka m5,ka m7,(by rw [zb (by decide),zb (by decide)])⟩
      · cases ho;have d2:=zG KG 2 rfl (kL hall 0 rfl rfl);have n7:=y8 m7 hL;refine zg (.p (i64 s.step)) rfl rfl (by simp (disch:=first|exact za|fail) only [go_sem,seval,reduceIte,Bool.false_eq_true,if_false,if_true,d2,n7,hL]<;>rfl) rfl ?_;exact⟨zT KF,zU KG,ka m5,ka m7,(by rw [zb (by decide),zb (by decide)])⟩
      · cases ho;have f1:=yl KF 1 rfl;refine zg (.ptr (H.n+1) 1) rfl rfl (by simp (disch:=first|exact za|fail) only [go_sem,seval,f1]<;>rfl) rfl ?_;exact⟨zT KF,zU KG,ka m5,ka m7,(by rw [zb (by decide),zb (by decide)])⟩
      · cases ho;have h4:=kL hall 0 rfl rfl;have d4:=zG KG 4 rfl h4;have h1:=kL hall 1 rfl rfl;have d1:=zG KG 1 rfl h1;have h0:=kL hall 2 rfl rfl;have n7:=y8 m7 hL;refine yz rfl rfl (by simp (disch:=first|exact za|fail) only [go_sem,seval,reduceIte,Bool.false_eq_true,if_false,if_true,d1,d4,n7,hL]<;>rfl) rfl ?_;exact⟨KF,kIs KG,(fun _=>kt (ze h0 (ze h1 (ze h4 zz)))),ka m7,(by (have e5:more L 5 5=true:=zF);(have e7:more L 5 7=L 7:=zb (by decide));(try simp only [e5,e7,n7,hL]);first | done | rfl | (simp only [e5,e7,n7,hL,if_true,if_false,Bool.false_eq_true];first | done | rfl | (simp (disch:=first|exact za|fail) only [go_sem,seval,e5,e7,n7,hL]<;>rfl)))⟩
      · cases ho;have f1:=yl KF 1 rfl;refine zg (.ptr (H.n+1) 2) rfl rfl (by simp (disch:=first|exact za|fail) only [go_sem,seval,f1]<;>rfl) rfl ?_;exact⟨zT KF,zU KG,ka m5,ka m7,(by rw [zb (by decide),zb (by decide)])⟩
      · cases ho;have h6:=kL hall 0 rfl rfl;have d6:=zG KG 5 rfl h6;have h3:=kL hall 1 rfl rfl;have d3:=zG KG 3 rfl h3;have h5:=kL hall 2 rfl rfl;have h0:=kL hall 3 rfl rfl;have h1:=kL hall 4 rfl rfl;have h2:=kL hall 5 rfl rfl;have h4:=kL hall 7 rfl rfl;refine yz rfl rfl (by simp (disch:=first|exact za|fail) only [go_sem,seval,reduceIte,Bool.false_eq_true,if_false,if_true,d3,d6,h5,hL]<;>rfl) rfl ?_;exact⟨KF,kIs KG,ka m5,(fun _=>kt (ze h0 (ze h1 (ze h2 (ze h3 (ze h4 (ze h5 (ze h6 zz)))))))),(by (have e5:more L 7 5=L 5:=zb (by decide));(have e7:more L 7 7=true:=zF);(try simp only [e5,e7,h5,hL]);first | done | rfl | (simp only [e5,e7,h5,hL,if_true,if_false,Bool.false_eq_true];first | done | rfl | (simp (disch:=first|exact za|fail) only [go_sem,seval,e5,e7,h5,hL]<;>rfl)))⟩
      · simp at ho
    · intro L env' H' hall hI
      obtain⟨KF,KG,_,_,rfl⟩:=hI
      have l5:=hall 5 (by decide)
      have l7:=hall 7 (by decide)
      have f0:=yl KF 0 rfl
      have f1:=yl KF 1 rfl
      have f2:=yl KF 2 rfl
      have f3:=yl KF 3 rfl
      simp only [l5,l7,if_true]
      clear hall
      refine .q ?_;refine .text ?_;simp (disch:=first|exact za|fail) only [go_sem,seval,f0,f1,f2,f3]
      have hm2:(zcN s m).Ok:=⟨hm.kind,hs.id,hko,hm.text,hm.sums,hm.values⟩
      refine .q ?_;refine .cutE [2,3,4,7] [] [(H.n+1,.cells (yR (zcN s m)))] (fun ihF => ?_) (fun env F => ?_)
      rotate_left 1
      simp (disch:=first|exact za|fail) only [go_sem,seval,f0,f1,f2,f3] at F
      rotate_left 1
      · unfold zcN at ihF
        refine .q ?_;refine .ifB (by simp (disch:=first|exact za|fail) only [go_sem,seval];rfl) (fun hk => ?_) (fun hk => ?_)
        · rw [hk] at ihF
          simp only [if_true] at ihF
          refine .q ?_;refine .text ?_;simp (disch:=first|exact za|fail) only [go_sem,seval,f0,f1,f2,f3]
          first | (refine ihF _ _ ?_ ?_) | (refine .z rfl ?_;refine ihF _ _ ?_ ?_) | (refine .z rfl ?_;refine .z rfl ?_;refine ihF _ _ ?_ ?_) | (refine .z rfl ?_;refine .z rfl ?_;refine .z rfl ?_;refine ihF _ _ ?_ ?_)
          · simp (disch:=first|exact za|fail) only [go_sem,seval,f0,f1,f2,f3]<;>(repeat' (first | rfl | refine And.intro ?_ ?_))
          · first | rfl | (simp (disch:=first|exact za|fail) only [go_sem,seval,f0,f1,f2,f3]<;>(try rfl))
        · rw [hk] at ihF
          simp only [Bool.false_eq_true,if_false] at ihF
          refine .skip ?_
          first | (refine ihF _ _ ?_ ?_) | (refine .z rfl ?_;refine ihF _ _ ?_ ?_) | (refine .z rfl ?_;refine .z rfl ?_;refine ihF _ _ ?_ ?_) | (refine .z rfl ?_;refine .z rfl ?_;refine .z rfl ?_;refine ihF _ _ ?_ ?_)
          · simp (disch:=first|exact za|fail) only [go_sem,seval,f0,f1,f2,f3]<;>(repeat' (first | rfl | refine And.intro ?_ ?_))
          · first | rfl | (simp (disch:=first|exact za|fail) only [go_sem,seval,f0,f1,f2,f3]<;>(try rfl))
      · generalize zcN s m=M at *
        clear f0 f1 f2 f3
        refine .q ?_;refine .text ?_;simp (disch:=first|exact za|fail) only [go_sem,seval,F,zc,zf]
        cases hv:valid M with
        | false =>
         rw [hv] at h
         simp only [Bool.false_eq_true,if_false] at h
         refine CallK.of (fun R h=>zgL g M hm2 hv _ R h) ?_;simp (disch:=first|exact za|fail) only [go_sem,seval]
         refine .q ?_;refine .text ?_;simp (disch:=first|exact za|fail) only [go_sem,seval]
         refine .q ?_;refine .ifT (by simp (disch:=first|exact za|fail) only [go_sem,seval]) ?_
         refine .q ?_;refine .text ?_;simp (disch:=first|exact za|fail) only [go_sem,seval,F]
         refine .q ?_;refine .rt Tryz.func26 (by rw [Tryz.results26]) (hx:=by simp (disch:=first|exact za|fail) only [go_sem,seval,F];rfl) (hR := ?_);simp (disch:=first|exact za|fail) only [go_sem,seval,F]
         exact h
        | true =>
         rw [hv] at h
         simp only [if_true] at h
         have hev:zcg M++(sha (zcg M)).take 8=enc M:=by rw [enc,hv];rfl
         have hlen:=zfF hv
         have hne:(enc M).length≠0:=by omega
         have hen:enters Tryz.prog 46=true:=zgB
         refine CallK.of (fun R h=>zer g M hm2 hv _ R h) ?_;simp (disch:=first|exact za|fail) only [go_sem,seval,hev]
         generalize enc M=e at *
         refine .q ?_;refine .text ?_;simp (disch:=first|exact za|fail) only [go_sem,seval]
         refine .q ?_;refine .ifF (by simp (disch:=first|exact za|fail) only [go_sem,seval]) ?_
         refine .q ?_;refine .text ?_;simp (disch:=first|exact za|fail) only [go_sem,seval,F]
         refine .q ?_;refine .text ?_;simp (disch:=first|exact za|fail) only [go_sem,seval,F,hen]
         refine CallK.of (fun R h=>zlA g s M hm2 e (by omega) hs.step hs.bytes hs.rounds hs.words (H.n+3) (sH H s M (nC 0 0) s) zpv R h) ?_;simp (disch:=first|exact za|fail) only [go_sem,seval]
         refine .q ?_;refine .text ?_;simp (disch:=first|exact za|fail) only [go_sem,seval,F]
         refine .q ?_;refine .text ?_;simp (disch:=first|exact za|fail) only [go_sem,seval,F]
         refine .q ?_;refine .rt Tryz.func26 (by rw [Tryz.results26]) (hx:=by simp (disch:=first|exact za|fail) only [go_sem,seval,F];rfl) (hR := ?_);simp (disch:=first|exact za|fail) only [go_sem,seval,F]
         exact h
end walks
end Go.Proofs.YtgflpgcogkdpgaaGreatDoor

/-
  Sessions: receiving;the last message again;what has been used.
-/
namespace Go.Proofs.YtgflpgcogkdpgaaGreatDoor
open Go Go.AL

theorem zvM:zee Tryz.prog 33 .u8 32=true:=by kernel_rfl
theorem eqD {a b:By} (ha:a.length=32) (hb:b.length=32):zt Tryz.prog .eql 33 (.p (.agg (pl b8 a))) (.p (.agg (pl b8 b)))=some (.p (bo (decide (a=b)))) :=
 zzo (by rw [ha];exact zvM) (by omega)
theorem neD {a b:By} (ha:a.length=32) (hb:b.length=32):zt Tryz.prog .neq 33 (.p (.agg (pl b8 a))) (.p (.agg (pl b8 b)))=some (.p (bo (!decide (a=b)))):=by
 have h:=eqD ha hb
 have f1 : ∀ P t xs ys,zt P .eql t (.p (.agg xs)) (.p (.agg ys))=(zcH P t xs ys).map fun r => .p (.s (.bool r)):=fun _ _ _ _=>rfl
 have f2 : ∀ P t xs ys,zt P .neq t (.p (.agg xs)) (.p (.agg ys))=(zcH P t xs ys).map fun r => .p (.s (.bool !r)):=fun _ _ _ _=>rfl
 rw [f1] at h
 rw [f2]
 cases e:zcH Tryz.prog 33 (pl b8 a) (pl b8 b) with
 | none=>rw [e] at h;cases h
 | some r =>
  rw [e] at h
  simp only [Option.map_some,bo,Option.some.injEq,AV.p.injEq,PV.s.injEq,Value.bool.injEq] at h
  rw [←h];rfl
attribute [go_sem] eqD neD
def rH (H:Hp) (s:Ses) (o z:List AV) (x:Ses):Hp:=(((H.new (.cells (zJ s))).new (.cells o)).new (.cells z)).new (.cells (zJ x))
section rh
variable {H:Hp} {s s' x x':Ses} {o o' z z':List AV}
theorem zCI:(rH H s o z x).n=H.n+4:=by simp [rH,Hp.n_new]
theorem zCJ:(rH H s o z x).f H.n=some (.cells (zJ s)):=by simp (disch:=first|exact za|fail) only [rH,go_sem,seval]
theorem zCK:(rH H s o z x).f (H.n+1)=some (.cells o):=by simp (disch:=first|exact za|fail) only [rH,go_sem,seval]
theorem zCL:(rH H s o z x).f (H.n+2)=some (.cells z):=by simp (disch:=first|exact za|fail) only [rH,go_sem,seval]
theorem zpw:(rH H s o z x).f (H.n+3)=some (.cells (zJ x)):=by simp (disch:=first|exact za|fail) only [rH,go_sem,seval]
theorem zyh:(rH H s o z x).set H.n (.cells (zJ s'))=rH H s' o z x:=by simp (disch:=first|exact za|fail) only [rH,go_sem,seval]
theorem zyi:(rH H s o z x).set (H.n+1) (.cells o')=rH H s o' z x:=by simp (disch:=first|exact za|fail) only [rH,go_sem,seval]
theorem zyj:(rH H s o z x).set (H.n+2) (.cells z')=rH H s o z' x:=by simp (disch:=first|exact za|fail) only [rH,go_sem,seval]
theorem zyk:(rH H s o z x).set (H.n+3) (.cells (zJ x'))=rH H s o z x':=by simp (disch:=first|exact za|fail) only [rH,go_sem,seval]
theorem zvN:(rH H s o z x).trunc H.n=H:=by simp (disch:=first|exact za|fail) only [rH,go_sem,seval]
theorem zAC:(((H.new (.cells (zJ s))).new (.cells o)).new (.cells z)).new (.cells (zJ x))=rH H s o z x:=rfl
theorem zAD (h:Bel H.n H):Bel H.n (rH H s o z x):=by
 unfold rH
 exact zv (zv (zv (zv h (Nat.le_refl _)) (by simp only [n_new'];omega)) (by simp only [n_new'];omega)) (by simp only [n_new'];omega)
end rh
attribute [go_sem] zCI zCJ zCK zCL zpw zyh zyi zyj zyk zvN
theorem zjg:AV.p (i64 0) :: AV.p (i64 0) :: AV.p (i64 0) :: AV.p (str ByteArray.empty) :: List.map AV.p (pl b8 (List.replicate 32 0#8)++[PV.sl true 1 [],PV.sl true 2 []])=mG 0 0 0 [] (List.replicate 32 0#8) (.p (.sl true 1 [])) (.p (.sl true 2 [])):=by simp [mG,cl,pl,zbY]
theorem zAE {s:Ses}:(zJ s).drop 75=[.p (i64 s.bytes),.p (i64 s.rounds),.p (i64 s.words)]:=by
 rw [←zCo,List.take_of_length_le (by rw [List.length_drop,zV];omega)]
attribute [go_sem] zAE
theorem zvO:zM.Ok:=⟨by constructor<;>decide,by constructor<;>decide,by constructor<;>decide,by decide,by decide,by decide⟩
theorem zCM {kd se sp:Nat} {tx dgs:By} {us:List Int} {c:Nat} {vl:By} {s:By × Bool} (h1:kd < 4294967296) (h2:se < 4294967296) (h3:sp < 4294967296) (h4:tx.length≤100000) (h5:us.length≤100000) (h6:c≤100000):(d7 kd se sp tx dgs us c vl s).1.Ok∧0≤(d7 kd se sp tx dgs us c vl s).1.step:=by
 refine⟨⟨⟨?_,?_⟩,⟨?_,?_⟩,⟨?_,?_⟩,?_,?_,?_⟩,?_⟩
 · show (-9223372036854775808:Int)≤(kd:Int);omega
 · show (kd:Int)≤9223372036854775807;omega
 · show (-9223372036854775808:Int)≤(se:Int);omega
 · show (se:Int)≤9223372036854775807;omega
 · show (-9223372036854775808:Int)≤(sp:Int);omega
 · show (sp:Int)≤9223372036854775807;omega
 · show tx.length≤_;omega
 · show us.length≤_;omega
 · show (prs _ _).length≤_;rw [zes];omega
 · show (0:Int)≤(sp:Int);omega
theorem zyl (b:By):(decM b).1.Ok∧0≤(decM b).1.step:=by
 have hn : ∀ (l:By) i,(nth l i).toNat < 256:=fun l i=>(nth l i).isLt
 have k1:(tk (b,true) 41).1.length=41:=zbJ
 unfold decM d1 d2 d3 d4 d5 d6
 refine zCM ?_ ?_ ?_ ?_ ?_ ?_
 · have:=hn (tk (b,true) 41).1 0;omega
 · exact zeP (by rw [List.length_drop,List.length_take];omega)
 · exact zeP (by rw [List.length_drop,List.length_take];omega)
 · rw [zbJ]
   have:=zjf (b:=(tk (tk (b,true) 41).2 2).1) (by rw [zbJ];exact Nat.le_refl _)
   omega
 · rw [List.length_map,zas]
   have:=hn (tk (tk (tk (tk (b,true) 41).2 2).2 (rd (tk (tk (b,true) 41).2 2).1).toNat).2 1).1 0
   omega
 · exact Nat.le_of_lt (Nat.lt_of_lt_of_le (hn _ 0) (by omega))
theorem zvP (b:By):(dec b).1.Ok∧0≤(dec b).1.step:=by
 unfold dec zly
 split
 · exact⟨zvO,by decide⟩
 · split
   · exact zyl b
   · exact⟨zvO,by decide⟩
def rC (s:Ses) (d:Msg) (code:Int):Int :=
 if code != 0 then code else if d.session != s.id then 1 else if decide (d.step < s.step) then 120
 else if decide (s.step < d.step) || ((s.state != 0 && zbc s) || (d.kind != 2 && !decide (d.root.val=s.seen.val))) then 290 else 0
def ze6 (s:Ses) (b:By):Int:=rC s (dec b).1 (dec b).2
def recv (s:Ses) (b:By) (now:Int):Ses × Msg × Int :=
 if 3≤s.state then (s,zM,290) else if s.due < now then ({ s with state:=5 },zM,291) else if ze6 s b≠0 then (s,zM,ze6 s b) else (zbS s (dec b).1 b,(dec b).1,0)
section walks
variable {G:Globs} {r1 r2:Nat} {m1:List (Int × Rule)} {m2:List (Int × Int)}
def zif (s:Ses):PV := .agg [i64 s.bytes,i64 s.rounds,i64 s.words]
theorem zgX (s:Ses) (H:Hp) (R:AV → Hp → Prop) (h:R (.p (zif s)) H):ACall Tryz.prog G 28 [.p (y9 s)] H R:=by
 refine ACall.of_run (raw:=[]) Tryz.func28 rfl Tryz.ntmps28 (by simp) fun hbel => ?_
 refine .q ?_;refine .text ?_;simp (disch:=first|exact za|fail) only [go_sem,seval]
 refine .q ?_;refine .text ?_;simp (disch:=first|exact za|fail) only [go_sem,seval]
 refine .q ?_;refine .rt Tryz.func28 (by rw [Tryz.results28]) (hR := ?_);simp (disch:=first|exact za|fail) only [go_sem,seval]
 exact h
set_option maxHeartbeats 4000000 in
set_option maxRecDepth 20000 in
theorem zlB (g:GR G r1 r2 m1 m2) (s:Ses) (hs:s.Ok) (b:By) (now:Int) (hb0:3≤s.state ∨ s.due < now ∨ b.length≤140737488353000) (H:Hp) (R:AV → Hp → Prop) (h:R (.tup [.p (y9 (recv s b now).1),.p (ym (recv s b now).2.1),.p (i64 (recv s b now).2.2)]) H):ACall Tryz.prog G 27 [.p (y9 s),.p (.sl false 1 (pl b8 b)),.p (i64 now)] H R:=by
 have hstep:=hs.step
 have hz:(List.replicate 32 0#8:By).length=32:=List.length_replicate
 refine ACall.of_run (raw:=[]) Tryz.func27 rfl Tryz.ntmps27 (by simp) fun hbel => ?_
 refine .q ?_;refine .text ?_;simp (disch:=first|exact za|fail) only [go_sem,seval,-List.reduceReplicate,zn,zjg]
 refine .q ?_;refine .text ?_;simp (disch:=first|exact za|fail) only [go_sem,seval,-List.reduceReplicate,zn,zjg]
 rw [zAC]
 have hbel:=fun s o z x=>zAD (s:=s) (o:=o) (z:=z) (x:=x) hbel
 have hin : ∀ R,R (.p (bo (decide (3≤s.state)))) (rH H s (nC 0 0) (mG 0 0 0 [] (List.replicate 32 0#8) (.p (.sl true 1 [])) (.p (.sl true 2 []))) s) → ACall Tryz.prog G 43 [.ptr (H.n+3) 0] (rH H s (nC 0 0) (mG 0 0 0 [] (List.replicate 32 0#8) (.p (.sl true 1 [])) (.p (.sl true 2 []))) s) R:=fun R h=>zgV s (H.n+3) _ zpw R h
 unfold recv at h
 refine .q ?_;refine .text ?_;simp (disch:=first|exact za|fail) only [go_sem,seval,-List.reduceReplicate]
 refine CallK.of (fun R h=>hin R h) ?_;simp (disch:=first|exact za|fail) only [go_sem,seval,-List.reduceReplicate]
 by_cases c1:3≤s.state
 · have d1:decide (3≤s.state)=true:=decide_eq_true c1
   rw [if_pos c1] at h
   simp (disch:=first|exact za|fail) only [go_sem,seval,-List.reduceReplicate,d1]
   refine .q ?_;refine .ifT (by simp (disch:=first|exact za|fail) only [go_sem,seval,-List.reduceReplicate]) ?_
   refine .q ?_;refine .text ?_;simp (disch:=first|exact za|fail) only [go_sem,seval,-List.reduceReplicate,hz]
   refine .q ?_;refine .rt Tryz.func27 (by rw [Tryz.results27]) (hx:=by simp (disch:=first|exact za|fail) only [go_sem,seval,-List.reduceReplicate,hz];rfl) (hR := ?_);simp (disch:=first|exact za|fail) only [go_sem,seval,-List.reduceReplicate,hz]
   exact h
 · have d1:decide (3≤s.state)=false:=decide_eq_false c1
   rw [if_neg c1] at h
   simp (disch:=first|exact za|fail) only [go_sem,seval,-List.reduceReplicate,d1]
   refine .q ?_;refine .ifF (by simp (disch:=first|exact za|fail) only [go_sem,seval,-List.reduceReplicate]) ?_
   refine .q ?_;refine .text ?_;simp (disch:=first|exact za|fail) only [go_sem,seval,-List.reduceReplicate]
   by_cases c2:s.due < now
   · have d2:decide (s.due < now)=true:=decide_eq_true c2
     rw [if_pos c2] at h
     refine .q ?_;refine .ifT (by simp (disch:=first|exact za|fail) only [go_sem,seval,-List.reduceReplicate,d2]) ?_
     refine .q ?_;refine .text ?_;simp (disch:=first|exact za|fail) only [go_sem,seval,-List.reduceReplicate]
     refine .q ?_;refine .text ?_;simp (disch:=first|exact za|fail) only [go_sem,seval,-List.reduceReplicate,hz]
     refine .q ?_;refine .rt Tryz.func27 (by rw [Tryz.results27]) (hx:=by simp (disch:=first|exact za|fail) only [go_sem,seval,-List.reduceReplicate,hz];rfl) (hR := ?_);simp (disch:=first|exact za|fail) only [go_sem,seval,-List.reduceReplicate,hz]
     exact h
   · have d2:decide (s.due < now)=false:=decide_eq_false c2
     rw [if_neg c2] at h
     have hb:b.length≤140737488353000:=by omega
     obtain⟨hdo,hds⟩:=zvP b
     have hsn : ∀ T,∀ R,R (.p (bo (zbc s))) (app (rH H s (nC 0 0) (mG 0 0 0 [] (List.replicate 32 0#8) (.p (.sl true 1 [])) (.p (.sl true 2 []))) s) T) → ACall Tryz.prog G 44 [.ptr (H.n+3) 0] (app (rH H s (nC 0 0) (mG 0 0 0 [] (List.replicate 32 0#8) (.p (.sl true 1 [])) (.p (.sl true 2 []))) s) T) R:=fun T R h=>zgW s hstep.1 hs.last (H.n+3) _ (app_f' zpw) R h
     refine .q ?_;refine .ifF (by simp (disch:=first|exact za|fail) only [go_sem,seval,-List.reduceReplicate,d2]) ?_
     refine .q ?_;refine .text ?_;simp (disch:=first|exact za|fail) only [go_sem,seval,-List.reduceReplicate]
     refine CallK.of (fun R h=>zlz g b (by omega) _ R h) ?_;simp (disch:=first|exact za|fail) only [go_sem,seval,-List.reduceReplicate,zjg,hz]
     unfold ze6 at h
     simp only [ne_eq] at h
     generalize (dec b).1=d at *
     generalize (dec b).2=code at *
     have hsn:=hsn [.cells (yR d)]
     simp only [zY,zaS] at hsn
     have hrl:=d.root.len
     have hsl:=s.seen.len
     (repeat refine .zs rfl ?_);refine .cutE [1,3,6,7,9,10] [(11,.p (i64 (rC s d code)))] [] (fun ihF => ?_) (fun env F => ?_)
     rotate_left 1
     simp (disch:=first|exact za|fail) only [go_sem,seval,-List.reduceReplicate] at F
     rotate_left 1
     · unfold rC at ihF
       refine .q ?_;refine .text ?_;simp (disch:=first|exact za|fail) only [go_sem,seval,-List.reduceReplicate]
       refine .q ?_;refine .ifB (by simp (disch:=first|exact za|fail) only [go_sem,seval,-List.reduceReplicate];rfl) (fun b1 => ?_) (fun b1 => ?_)
       · rw [b1] at ihF
         refine .skip ?_
         first | (refine ihF _ _ ?_ ?_) | (refine .z rfl ?_;refine ihF _ _ ?_ ?_) | (refine .z rfl ?_;refine .z rfl ?_;refine ihF _ _ ?_ ?_) | (refine .z rfl ?_;refine .z rfl ?_;refine .z rfl ?_;refine ihF _ _ ?_ ?_)
         · simp (disch:=first|exact za|fail) only [go_sem,seval,-List.reduceReplicate]<;>(repeat' (first | rfl | refine And.intro ?_ ?_))
         · first | rfl | (simp (disch:=first|exact za|fail) only [go_sem,seval,-List.reduceReplicate]<;>(try rfl))
       · have hc0:code=0:=by simpa using b1
         rw [b1] at ihF
         simp only [Bool.false_eq_true,if_false] at ihF
         refine .q ?_;refine .text ?_;simp (disch:=first|exact za|fail) only [go_sem,seval,-List.reduceReplicate]
         refine .q ?_;refine .ifB (by simp (disch:=first|exact za|fail) only [go_sem,seval,-List.reduceReplicate];rfl) (fun b2 => ?_) (fun b2 => ?_)
         · rw [b2] at ihF
           refine .q ?_;refine .text ?_;simp (disch:=first|exact za|fail) only [go_sem,seval,-List.reduceReplicate]
           first | (refine ihF _ _ ?_ ?_) | (refine .z rfl ?_;refine ihF _ _ ?_ ?_) | (refine .z rfl ?_;refine .z rfl ?_;refine ihF _ _ ?_ ?_) | (refine .z rfl ?_;refine .z rfl ?_;refine .z rfl ?_;refine ihF _ _ ?_ ?_)
           · simp (disch:=first|exact za|fail) only [go_sem,seval,-List.reduceReplicate]<;>(repeat' (first | rfl | refine And.intro ?_ ?_))
           · first | rfl | (simp (disch:=first|exact za|fail) only [go_sem,seval,-List.reduceReplicate]<;>(try rfl))
         · rw [b2] at ihF
           simp only [Bool.false_eq_true,if_false] at ihF
           refine .q ?_;refine .text ?_;simp (disch:=first|exact za|fail) only [go_sem,seval,-List.reduceReplicate]
           refine .q ?_;refine .ifB (by simp (disch:=first|exact za|fail) only [go_sem,seval,-List.reduceReplicate];rfl) (fun b3 => ?_) (fun b3 => ?_)
           · rw [b3] at ihF
             refine .q ?_;refine .text ?_;simp (disch:=first|exact za|fail) only [go_sem,seval,-List.reduceReplicate]
             first | (refine ihF _ _ ?_ ?_) | (refine .z rfl ?_;refine ihF _ _ ?_ ?_) | (refine .z rfl ?_;refine .z rfl ?_;refine ihF _ _ ?_ ?_) | (refine .z rfl ?_;refine .z rfl ?_;refine .z rfl ?_;refine ihF _ _ ?_ ?_)
             · simp (disch:=first|exact za|fail) only [go_sem,seval,-List.reduceReplicate]<;>(repeat' (first | rfl | refine And.intro ?_ ?_))
             · first | rfl | (simp (disch:=first|exact za|fail) only [go_sem,seval,-List.reduceReplicate]<;>(try rfl))
           · rw [b3] at ihF
             simp only [Bool.false_eq_true,if_false] at ihF
             refine .q ?_;refine .text ?_;simp (disch:=first|exact za|fail) only [go_sem,seval,-List.reduceReplicate]
             cases b4:decide (s.step < d.step) with
             | true =>
              rw [b4] at ihF
              refine .q ?_;refine .ifT (by simp (disch:=first|exact za|fail) only [go_sem,seval,-List.reduceReplicate,b4]) ?_
              refine .skip ?_
              refine .q ?_;refine .ifT (by simp (disch:=first|exact za|fail) only [go_sem,seval,-List.reduceReplicate]) ?_
              refine .q ?_;refine .text ?_;simp (disch:=first|exact za|fail) only [go_sem,seval,-List.reduceReplicate]
              first | (refine ihF _ _ ?_ ?_) | (refine .z rfl ?_;refine ihF _ _ ?_ ?_) | (refine .z rfl ?_;refine .z rfl ?_;refine ihF _ _ ?_ ?_) | (refine .z rfl ?_;refine .z rfl ?_;refine .z rfl ?_;refine ihF _ _ ?_ ?_)
              · simp (disch:=first|exact za|fail) only [go_sem,seval,-List.reduceReplicate,hc0]<;>(repeat' (first | rfl | refine And.intro ?_ ?_))
              · first | rfl | (simp (disch:=first|exact za|fail) only [go_sem,seval,-List.reduceReplicate,hc0]<;>(try rfl))
             | false =>
              rw [b4] at ihF
              refine .q ?_;refine .ifF (by simp (disch:=first|exact za|fail) only [go_sem,seval,-List.reduceReplicate,b4]) ?_
              refine .q ?_;refine .text ?_;simp (disch:=first|exact za|fail) only [go_sem,seval,-List.reduceReplicate]
              cases b5:s.state != 0 with
              | false =>
               rw [b5] at ihF
               simp (disch:=first|exact za|fail) only [go_sem,seval,-List.reduceReplicate,b5]
               refine .q ?_;refine .ifF (by simp (disch:=first|exact za|fail) only [go_sem,seval,-List.reduceReplicate]) ?_
               refine .q ?_;refine .text ?_;simp (disch:=first|exact za|fail) only [go_sem,seval,-List.reduceReplicate]
               cases b7:d.kind != 2 with
               | false =>
                rw [b7] at ihF
                simp (disch:=first|exact za|fail) only [go_sem,seval,-List.reduceReplicate,b7]
                refine .q ?_;refine .ifF (by simp (disch:=first|exact za|fail) only [go_sem,seval,-List.reduceReplicate]) ?_
                refine .skip ?_
                first | (refine ihF _ _ ?_ ?_) | (refine .z rfl ?_;refine ihF _ _ ?_ ?_) | (refine .z rfl ?_;refine .z rfl ?_;refine ihF _ _ ?_ ?_) | (refine .z rfl ?_;refine .z rfl ?_;refine .z rfl ?_;refine ihF _ _ ?_ ?_)
                · simp (disch:=first|exact za|fail) only [go_sem,seval,-List.reduceReplicate,hc0]<;>(repeat' (first | rfl | refine And.intro ?_ ?_))
                · first | rfl | (simp (disch:=first|exact za|fail) only [go_sem,seval,-List.reduceReplicate,hc0]<;>(try rfl))
               | true =>
                rw [b7] at ihF
                simp (disch:=first|exact za|fail) only [go_sem,seval,-List.reduceReplicate,b7]
                cases b8:decide (d.root.val=s.seen.val) with
                | true =>
                 rw [b8] at ihF
                 simp (disch:=first|exact za|fail) only [go_sem,seval,-List.reduceReplicate,b8]
                 refine .q ?_;refine .ifF (by simp (disch:=first|exact za|fail) only [go_sem,seval,-List.reduceReplicate]) ?_
                 refine .skip ?_
                 first | (refine ihF _ _ ?_ ?_) | (refine .z rfl ?_;refine ihF _ _ ?_ ?_) | (refine .z rfl ?_;refine .z rfl ?_;refine ihF _ _ ?_ ?_) | (refine .z rfl ?_;refine .z rfl ?_;refine .z rfl ?_;refine ihF _ _ ?_ ?_)
                 · simp (disch:=first|exact za|fail) only [go_sem,seval,-List.reduceReplicate,hc0]<;>(repeat' (first | rfl | refine And.intro ?_ ?_))
                 · first | rfl | (simp (disch:=first|exact za|fail) only [go_sem,seval,-List.reduceReplicate,hc0]<;>(try rfl))
                | false =>
                 rw [b8] at ihF
                 simp (disch:=first|exact za|fail) only [go_sem,seval,-List.reduceReplicate,b8]
                 refine .q ?_;refine .ifT (by simp (disch:=first|exact za|fail) only [go_sem,seval,-List.reduceReplicate]) ?_
                 refine .q ?_;refine .text ?_;simp (disch:=first|exact za|fail) only [go_sem,seval,-List.reduceReplicate]
                 first | (refine ihF _ _ ?_ ?_) | (refine .z rfl ?_;refine ihF _ _ ?_ ?_) | (refine .z rfl ?_;refine .z rfl ?_;refine ihF _ _ ?_ ?_) | (refine .z rfl ?_;refine .z rfl ?_;refine .z rfl ?_;refine ihF _ _ ?_ ?_)
                 · simp (disch:=first|exact za|fail) only [go_sem,seval,-List.reduceReplicate,hc0]<;>(repeat' (first | rfl | refine And.intro ?_ ?_))
                 · first | rfl | (simp (disch:=first|exact za|fail) only [go_sem,seval,-List.reduceReplicate,hc0]<;>(try rfl))
              | true =>
               rw [b5] at ihF
               simp (disch:=first|exact za|fail) only [go_sem,seval,-List.reduceReplicate,b5]
               refine CallK.of (fun R h=>hsn R h) ?_;simp (disch:=first|exact za|fail) only [go_sem,seval,-List.reduceReplicate]
               cases b6:zbc s with
               | true =>
                rw [b6] at ihF
                (try simp (disch:=first|exact za|fail) only [go_sem,seval,-List.reduceReplicate])
                refine .q ?_;refine .ifT (by simp (disch:=first|exact za|fail) only [go_sem,seval,-List.reduceReplicate]) ?_
                refine .skip ?_
                refine .q ?_;refine .ifT (by simp (disch:=first|exact za|fail) only [go_sem,seval,-List.reduceReplicate]) ?_
                refine .q ?_;refine .text ?_;simp (disch:=first|exact za|fail) only [go_sem,seval,-List.reduceReplicate]
                first | (refine ihF _ _ ?_ ?_) | (refine .z rfl ?_;refine ihF _ _ ?_ ?_) | (refine .z rfl ?_;refine .z rfl ?_;refine ihF _ _ ?_ ?_) | (refine .z rfl ?_;refine .z rfl ?_;refine .z rfl ?_;refine ihF _ _ ?_ ?_)
                · simp (disch:=first|exact za|fail) only [go_sem,seval,-List.reduceReplicate,hc0]<;>(repeat' (first | rfl | refine And.intro ?_ ?_))
                · first | rfl | (simp (disch:=first|exact za|fail) only [go_sem,seval,-List.reduceReplicate,hc0]<;>(try rfl))
               | false =>
                rw [b6] at ihF
                (try simp (disch:=first|exact za|fail) only [go_sem,seval,-List.reduceReplicate])
                refine .q ?_;refine .ifF (by simp (disch:=first|exact za|fail) only [go_sem,seval,-List.reduceReplicate]) ?_
                refine .q ?_;refine .text ?_;simp (disch:=first|exact za|fail) only [go_sem,seval,-List.reduceReplicate]
                cases b7:d.kind != 2 with
                | false =>
                 rw [b7] at ihF
                 simp (disch:=first|exact za|fail) only [go_sem,seval,-List.reduceReplicate,b7]
                 refine .q ?_;refine .ifF (by simp (disch:=first|exact za|fail) only [go_sem,seval,-List.reduceReplicate]) ?_
                 refine .skip ?_
                 first | (refine ihF _ _ ?_ ?_) | (refine .z rfl ?_;refine ihF _ _ ?_ ?_) | (refine .z rfl ?_;refine .z rfl ?_;refine ihF _ _ ?_ ?_) | (refine .z rfl ?_;refine .z rfl ?_;refine .z rfl ?_;refine ihF _ _ ?_ ?_)
                 · simp (disch:=first|exact za|fail) only [go_sem,seval,-List.reduceReplicate,hc0]<;>(repeat' (first | rfl | refine And.intro ?_ ?_))
                 · first | rfl | (simp (disch:=first|exact za|fail) only [go_sem,seval,-List.reduceReplicate,hc0]<;>(try rfl))
                | true =>
                 rw [b7] at ihF
                 simp (disch:=first|exact za|fail) only [go_sem,seval,-List.reduceReplicate,b7]
                 cases b8:decide (d.root.val=s.seen.val) with
                 | true =>
                  rw [b8] at ihF
                  simp (disch:=first|exact za|fail) only [go_sem,seval,-List.reduceReplicate,b8]
                  refine .q ?_;refine .ifF (by simp (disch:=first|exact za|fail) only [go_sem,seval,-List.reduceReplicate]) ?_
                  refine .skip ?_
                  first | (refine ihF _ _ ?_ ?_) | (refine .z rfl ?_;refine ihF _ _ ?_ ?_) | (refine .z rfl ?_;refine .z rfl ?_;refine ihF _ _ ?_ ?_) | (refine .z rfl ?_;refine .z rfl ?_;refine .z rfl ?_;refine ihF _ _ ?_ ?_)
                  · simp (disch:=first|exact za|fail) only [go_sem,seval,-List.reduceReplicate,hc0]<;>(repeat' (first | rfl | refine And.intro ?_ ?_))
                  · first | rfl | (simp (disch:=first|exact za|fail) only [go_sem,seval,-List.reduceReplicate,hc0]<;>(try rfl))
                 | false =>
                  rw [b8] at ihF
                  simp (disch:=first|exact za|fail) only [go_sem,seval,-List.reduceReplicate,b8]
                  refine .q ?_;refine .ifT (by simp (disch:=first|exact za|fail) only [go_sem,seval,-List.reduceReplicate]) ?_
                  refine .q ?_;refine .text ?_;simp (disch:=first|exact za|fail) only [go_sem,seval,-List.reduceReplicate]
                  first | (refine ihF _ _ ?_ ?_) | (refine .z rfl ?_;refine ihF _ _ ?_ ?_) | (refine .z rfl ?_;refine .z rfl ?_;refine ihF _ _ ?_ ?_) | (refine .z rfl ?_;refine .z rfl ?_;refine .z rfl ?_;refine ihF _ _ ?_ ?_)
                  · simp (disch:=first|exact za|fail) only [go_sem,seval,-List.reduceReplicate,hc0]<;>(repeat' (first | rfl | refine And.intro ?_ ?_))
                  · first | rfl | (simp (disch:=first|exact za|fail) only [go_sem,seval,-List.reduceReplicate,hc0]<;>(try rfl))
     · generalize rC s d code=rc at *
       refine .q ?_;refine .text ?_;simp (disch:=first|exact za|fail) only [go_sem,seval,-List.reduceReplicate,F]
       refine .q ?_;refine .ifB (by simp (disch:=first|exact za|fail) only [go_sem,seval,-List.reduceReplicate];rfl) (fun e0 => ?_) (fun e0 => ?_)
       · have e1 : ¬rc=0:=by simpa using e0
         rw [if_pos e1] at h
         refine .q ?_;refine .text ?_;simp (disch:=first|exact za|fail) only [go_sem,seval,-List.reduceReplicate,F,zf,hz]
         refine .q ?_;refine .rt Tryz.func27 (by rw [Tryz.results27]) (hx:=by simp (disch:=first|exact za|fail) only [go_sem,seval,-List.reduceReplicate,F,hz];rfl) (hR := ?_);simp (disch:=first|exact za|fail) only [go_sem,seval,-List.reduceReplicate,F,hz]
         exact h
       · have e1:rc=0:=by simpa using e0
         rw [if_neg (by simp [e1])] at h
         have hen:enters Tryz.prog 46=true:=zgB
         refine .q ?_;refine .text ?_;simp (disch:=first|exact za|fail) only [go_sem,seval,-List.reduceReplicate,F,zf]
         have hc3 : ∀ x,((rH H s (nC 0 0) (mG 0 0 0 [] (List.replicate 32 0#8) (.p (.sl true 1 [])) (.p (.sl true 2 []))) s).new x).f (H.n+3)=some (.cells (zJ s)):=fun x=>by rw [Hp.f_new_old _ _ _ (by rw [zCI];omega)];exact zpw
         refine CallK.of (fun R h=>zlA g s d hdo b (by omega) hs.step hs.bytes hs.rounds hs.words (H.n+3) _ (hc3 _) R h) ?_;simp (disch:=first|exact za|fail) only [go_sem,seval,-List.reduceReplicate]
         generalize zbS s d b=X at *
         generalize hZ:mG 0 0 0 [] (List.replicate 32 0#8) (.p (.sl true 1 [])) (.p (.sl true 2 []))=Z at *
         have hZl:Z.length=38:=by rw [←hZ];exact zgQ hz
         (refine .q ?_)
         refine .openInv (fun L env' H'=>kF env' [(6,.ptr (H.n+1) 0),(7,.ptr (H.n+2) 0),(9,.ptr (H.n+3) 0),(10,.ptr (H.n+4) 0)]∧kI L env' [(0,75,.p (y9 X)),(1,76,.p (ym d)),(4,8,.p (i64 0))]∧(L 2=true → allT L [0])∧(L 3=true → allT L [0,1,2])∧H'=((rH H s (if L 2 then zJ X else nC 0 0) (if L 3 then yR d else Z) X).new (.cells (yR d)))) follows (by kernel_rfl) ?_ ?_ ?_
         · exact⟨(by simp (disch:=first|exact za|fail) only [go_sem,seval,-List.reduceReplicate,kFi,kFn,and_self,F,hZl]),(fun _ _ h=>by cases h),(fun h=>by cases h),(fun h=>by cases h),(by first | rfl | (simp only [Bool.false_eq_true,if_false];first | rfl | (simp (disch:=first|exact za|fail) only [go_sem,seval,-List.reduceReplicate,F,hZl]<;>rfl)))⟩
         · intro i o L env' H' ho hL hall hI
           obtain⟨KF,KG,m2,m3,rfl⟩:=hI
           rcases i with _ | _ | _ | _ | _ | i
           · cases ho;have n2:=y8 m2 hL;have n3:=y8 m3 hL;have f2:=yl KF 2 rfl;refine zg (.p (y9 X)) rfl rfl (by simp (disch:=first|exact za|fail) only [go_sem,seval,-List.reduceReplicate,reduceIte,Bool.false_eq_true,if_false,if_true,f2,n2,n3,hL,hZl]<;>rfl) rfl ?_;exact⟨zT KF,zU KG,ka m2,ka m3,(by rw [zb (by decide),zb (by decide)])⟩
           · cases ho;have n3:=y8 m3 hL;have f3:=yl KF 3 rfl;refine zg (.p (ym d)) rfl rfl (by simp (disch:=first|exact za|fail) only [go_sem,seval,-List.reduceReplicate,reduceIte,Bool.false_eq_true,if_false,if_true,f3,n3,hL,hZl]<;>rfl) rfl ?_;exact⟨zT KF,zU KG,ka m2,ka m3,(by rw [zb (by decide),zb (by decide)])⟩
           · cases ho;have h0:=kL hall 0 rfl rfl;have d0:=zG KG 0 rfl h0;have n3:=y8 m3 hL;have f0:=yl KF 0 rfl;refine yz rfl rfl (by simp (disch:=first|exact za|fail) only [go_sem,seval,-List.reduceReplicate,reduceIte,Bool.false_eq_true,if_false,if_true,f0,d0,n3,hL,hZl]<;>rfl) rfl ?_;exact⟨KF,kIs KG,(fun _=>kt (ze h0 zz)),ka m3,(by (have e2:more L 2 2=true:=zF);(have e3:more L 2 3=L 3:=zb (by decide));(try simp only [e2,e3,n3,hL]);first | done | rfl | (simp only [e2,e3,n3,hL,if_true,if_false,Bool.false_eq_true];first | done | rfl | (simp (disch:=first|exact za|fail) only [go_sem,seval,-List.reduceReplicate,e2,e3,n3,hL,hZl]<;>rfl)))⟩
           · cases ho;have h1:=kL hall 0 rfl rfl;have d1:=zG KG 1 rfl h1;have h2:=kL hall 1 rfl rfl;have h0:=kL hall 2 rfl rfl;have f1:=yl KF 1 rfl;refine yz rfl rfl (by simp (disch:=first|exact za|fail) only [go_sem,seval,-List.reduceReplicate,reduceIte,Bool.false_eq_true,if_false,if_true,f1,d1,h2,hL,hZl]<;>rfl) rfl ?_;exact⟨KF,kIs KG,ka m2,(fun _=>kt (ze h0 (ze h1 (ze h2 zz)))),(by (have e2:more L 3 2=L 2:=zb (by decide));(have e3:more L 3 3=true:=zF);(try simp only [e2,e3,h2,hL]);first | done | rfl | (simp only [e2,e3,h2,hL,if_true,if_false,Bool.false_eq_true];first | done | rfl | (simp (disch:=first|exact za|fail) only [go_sem,seval,-List.reduceReplicate,e2,e3,h2,hL,hZl]<;>rfl)))⟩
           · cases ho;refine zg (.p (i64 0)) rfl rfl (by simp (disch:=first|exact za|fail) only [go_sem,seval,-List.reduceReplicate,hZl]<;>rfl) rfl ?_;exact⟨zT KF,zU KG,ka m2,ka m3,(by rw [zb (by decide),zb (by decide)])⟩
           · simp at ho
         · intro L env' H' hall hI
           obtain⟨KF,KG,_,_,rfl⟩:=hI
           have l2:=hall 2 (by decide)
           have l3:=hall 3 (by decide)
           have f0:=yl KF 0 rfl
           have f1:=yl KF 1 rfl
           have f2:=yl KF 2 rfl
           have f3:=yl KF 3 rfl
           have g4:=zG KG 2 rfl (hall 4 (by decide))
           simp only [l2,l3,if_true]
           clear hall
           refine .q ?_;refine .rt Tryz.func27 (by rw [Tryz.results27]) (hx:=by simp (disch:=first|exact za|fail) only [go_sem,seval,-List.reduceReplicate,f0,f1,g4];rfl) (hR := ?_);simp (disch:=first|exact za|fail) only [go_sem,seval,-List.reduceReplicate,f0,f1,g4]
           exact h
theorem zcB (g:GR G r1 r2 m1 m2) (s:Ses) (hs:s.Ok) (b:By) (hb:b.length≤140737488353000) (now:Int) (H:Hp) (R:AV → Hp → Prop) (h:R (.tup [.p (y9 (recv s b now).1),.p (ym (recv s b now).2.1),.p (i64 (recv s b now).2.2)]) H):ACall Tryz.prog G 27 [.p (y9 s),.p (.sl false 1 (pl b8 b)),.p (i64 now)] H R :=
 zlB g s hs b now (.inr (.inr hb)) H R h
end walks
end Go.Proofs.YtgflpgcogkdpgaaGreatDoor

/-
  Sessions: what is decoded from an encoding (plain).
-/
namespace Go.Proofs.YtgflpgcogkdpgaaGreatDoor
open Go Go.AL

theorem zaw {x r:By} {n:Nat} (h:x.length=n):tk (x++r,true) n=(x,(r,true)):=by
 subst h
 unfold tk
 simp
theorem zvQ {r:By} {n:Nat} (h:r.length < n):(tk (r,true) n).2.2=false:=by
 unfold tk
 rw [if_pos h]
theorem zvR (x:U) : ∀ n,n≤8 → (rd (le x n)).toNat=x.toNat % 2 ^ (8*n):=by
 suffices h : ∀ n (b:By),n+b.length≤8 → (rd (le x n++b)).toNat=x.toNat % 2 ^ (8*n)+(rd b).toNat*2 ^ (8*n) from fun n hn=>by
  have:=h n [] (by simpa using hn)
  simpa [rd] using this
 have hlt : ∀ b:By,b.length≤8 → (rd b).toNat < 2 ^ (8*b.length):=fun b hb=>by
  by_cases h7:b.length≤7
  · exact zgT h7
  · have:b.length=8:=by omega
    rw [this];exact (rd b).isLt
 have hcons : ∀ (c:BitVec 8) (b:By),b.length≤7 → (rd (c :: b)).toNat=c.toNat+(rd b).toNat*256:=fun c b hb=>by
  have ih:=zgT hb
  have hc:=c.isLt
  simp only [rd,BitVec.toNat_or,BitVec.toNat_shiftLeft,BitVec.toNat_setWidth]
  have h2:(rd b).toNat <<< 8 < 2 ^ 64:=by
   rw [Nat.shiftLeft_eq]
   have:2 ^ (8*b.length)*2 ^ 8≤2 ^ 64:=by
    rw [←Nat.pow_add];exact Nat.pow_le_pow_right (by omega) (by omega)
   have:=Nat.mul_lt_mul_of_pos_right ih (show 0 < 2 ^ 8 by decide)
   omega
  rw [Nat.mod_eq_of_lt h2,Nat.mod_eq_of_lt (show c.toNat < 2 ^ 64 by omega),←Nat.shiftLeft_add_eq_or_of_lt (by omega),Nat.shiftLeft_eq]
  omega
 intro n
 induction n with
 | zero=>intro b _;simp [le,Nat.mod_one]
 | succ n ih =>
  intro b hb
  rw [zbr,List.append_assoc,List.singleton_append,ih _ (by simp;omega),hcons _ _ (by omega)]
  have h1:((x >>> (8*n)).setWidth 8:BitVec 8).toNat=x.toNat / 2 ^ (8*n) % 256:=by
   simp [BitVec.toNat_setWidth,BitVec.toNat_ushiftRight,Nat.shiftRight_eq_div_pow]
  rw [h1,show 8*(n+1)=8*n+8 by omega,Nat.pow_add,Nat.mod_mul]
  rw [Nat.add_mul,Nat.add_assoc]
  congr 1
  rw [Nat.mul_comm (2 ^ (8*n)) (_ % 2 ^ 8),show (2 ^ 8:Nat)=256 by rfl,Nat.mul_assoc,Nat.mul_comm 256]
theorem zjh (x:U):rd (le x 8)=x:=BitVec.eq_of_toNat_eq (by rw [zvR x 8 (by omega)];exact Nat.mod_eq_of_lt x.isLt)
theorem zrR {n:Int} (h:okI n):toI (BitVec.ofInt 64 n)=n:=by
 obtain⟨h1,h2⟩:=h
 unfold toI
 rw [IntKind.wrap_i64]
 have:((BitVec.ofInt 64 n).toNat:Int)=n % 18446744073709551616:=by
  rw [BitVec.toNat_ofInt]
  omega
 rw [this]
 omega
theorem zym {l:List Int} (h : ∀ x∈l,okI x) (r:By):(wds (encS l++r) l.length).map toI=l:=by
 suffices hh : ∀ i,i≤l.length → (wds (encS l++r) i).map toI=l.take i by
  have:=hh l.length (Nat.le_refl _)
  rwa [List.take_length] at this
 intro i
 induction i with
 | zero=>intro _;rfl
 | succ i ih =>
  intro hi
  have hsp:encS l=encS (l.take i)++(le (BitVec.ofInt 64 (nth l i)) 8++encS (l.drop (i+1))):=by
   have h1:l=l.take i++([nth l i]++l.drop (i+1)):=by
    rw [←List.append_assoc,←zX (by omega),List.take_append_drop]
   conv=>lhs;rw [h1]
   simp [encS]
  have hl1:(encS (l.take i)).length=8*i:=by rw [zch,List.length_take];omega
  have hx:((encS l++r).take (8*i+8)).drop (8*i)=le (BitVec.ofInt 64 (nth l i)) 8:=by
   rw [hsp,List.append_assoc,←hl1,List.take_length_add_append,List.drop_left,List.append_assoc,List.take_append_of_le_length (by rw [ya];exact Nat.le_refl _),List.take_of_length_le (by rw [ya];exact Nat.le_refl _)]
  rw [zbK,List.map_append,ih (by omega),hx,zjh,zX (by omega)]
  have:=zrR (h (nth l i) (by rw [show nth l i=l[i] by simp [nth,show i < l.length by omega]];exact List.getElem_mem _))
  simp [this]

theorem zpx {b:By} {n i:Nat} (h:i < n):nth (wds b n) i=rd ((b.take (8*i+8)).drop (8*i)):=by
 induction n with
 | zero=>omega
 | succ n ih =>
  rw [zbK]
  by_cases e:i < n
  · rw [zaH (by rw [zas];exact e),ih e]
  · have:i=n:=by omega
    subst this
    rw [zct (by rw [zas];exact Nat.le_refl _),zas,Nat.sub_self,zho]
theorem zyn {l:List Ext} (r:By):prs (wds (yx l++r) (2*l.length)) l.length=l:=by
 suffices hh : ∀ i,i≤l.length → prs (wds (yx l++r) (2*l.length)) i=l.take i by
  have:=hh l.length (Nat.le_refl _)
  rwa [List.take_length] at this
 intro i
 induction i with
 | zero=>intro _;rfl
 | succ i ih =>
  intro hi
  have hsp:yx l=yx (l.take i)++(le (nth l i).a 8++(le (nth l i).b 8++yx (l.drop (i+1)))):=by
   have h1:l=l.take i++([nth l i]++l.drop (i+1)):=by
    rw [←List.append_assoc,←zX (by omega),List.take_append_drop]
   conv=>lhs;rw [h1]
   simp [yx]
  have hl1:(yx (l.take i)).length=16*i:=by rw [zci,List.length_take];omega
  have hx0:((yx l++r).take (8*(2*i)+8)).drop (8*(2*i))=le (nth l i).a 8:=by
   rw [hsp,List.append_assoc,show 8*(2*i)=(yx (l.take i)).length by rw [hl1];omega,List.take_length_add_append,List.drop_left,List.append_assoc,List.take_append_of_le_length (by rw [ya];exact Nat.le_refl _),List.take_of_length_le (by rw [ya];exact Nat.le_refl _)]
  have hx1:((yx l++r).take (8*(2*i+1)+8)).drop (8*(2*i+1))=le (nth l i).b 8:=by
   have h2:yx l++r=(yx (l.take i)++le (nth l i).a 8)++(le (nth l i).b 8++(yx (l.drop (i+1))++r)):=by rw [hsp];simp
   have h3:(yx (l.take i)++le (nth l i).a 8).length=8*(2*i+1):=by rw [List.length_append,hl1,ya];omega
   rw [h2,←h3,List.take_length_add_append,List.drop_left,List.take_append_of_le_length (by rw [ya];exact Nat.le_refl _),List.take_of_length_le (by rw [ya];exact Nat.le_refl _)]
  rw [zdb,ih (by omega),zpx (by omega),zpx (by omega),hx0,hx1,zjh,zjh,zX (by omega)]
theorem zig {n:Int} (h:small n=true):0≤n∧n < 2147483648:=by
 unfold small at h
 simp only [Bool.and_eq_true,decide_eq_true_eq] at h
 omega
theorem toNat_ofInt {n:Int} {w:Nat} (h0:0≤n) (h:n < (2 ^ w:Nat)):((BitVec.ofInt w n).toNat:Int)=n:=by
 rw [BitVec.toNat_ofInt]
 have:(n % ((2 ^ w:Nat):Int))=n:=Int.emod_eq_of_lt h0 h
 rw [this];omega
theorem zvS {n:Int} (h0:0≤n) (h:n < 4294967296):((rd (le (BitVec.ofInt 64 n) 4)).toNat:Int)=n:=by
 have h2:=toNat_ofInt (w:=64) h0 (by omega)
 rw [zvR _ 4 (by omega)]
 omega
theorem zdv {k s:Int} (h:fits k s=true):1≤k∧k≤7:=by
 obtain⟨r,hr⟩:=zib h
 unfold zao at hr
 (repeat' split at hr)<;>first | omega | cases hr
theorem zdd {m:Msg} (h:valid m=true):(0≤m.session∧m.session < 2147483648)∧(0≤m.step∧m.step < 2147483648)∧fits m.kind m.step=true:=by
 unfold valid at h
 simp only [Bool.and_eq_true] at h
 obtain⟨⟨⟨⟨h1,h2⟩,h3⟩,_⟩,_⟩:=h
 exact⟨zig h1,zig h2,h3⟩
theorem zvT {m:Msg} (h:valid m=true) (hi : ∀ x∈m.sums,okI x) (y:By):decM (zcg m++y)=(m,decide (8≤y.length)):=by
 obtain⟨b1,b2,b3⟩:=zdu h
 obtain⟨s1,s2,s3⟩:=zdd h
 have s4:=zdv s3
 have hrl:=m.root.len
 have e1:zcg m++y=([BitVec.ofInt 8 m.kind]++le (BitVec.ofInt 64 m.session) 4++le (BitVec.ofInt 64 m.step) 4++m.root.val)++(le (BitVec.ofInt 64 m.text.length) 2++(m.text++([BitVec.ofInt 8 m.sums.length]++(encS m.sums++([BitVec.ofInt 8 m.values.length]++(yx m.values++y)))))):=by
  unfold zcg;simp
 have hhl:([BitVec.ofInt 8 m.kind]++le (BitVec.ofInt 64 m.session) 4++le (BitVec.ofInt 64 m.step) 4++m.root.val).length=41:=by simp [ya,hrl]
 have q0:nth ([BitVec.ofInt 8 m.kind]++le (BitVec.ofInt 64 m.session) 4++le (BitVec.ofInt 64 m.step) 4++m.root.val) 0=BitVec.ofInt 8 m.kind:=rfl
 have q1:(([BitVec.ofInt 8 m.kind]++le (BitVec.ofInt 64 m.session) 4++le (BitVec.ofInt 64 m.step) 4++m.root.val).take 5).drop 1=le (BitVec.ofInt 64 m.session) 4:=rfl
 have q2:(([BitVec.ofInt 8 m.kind]++le (BitVec.ofInt 64 m.session) 4++le (BitVec.ofInt 64 m.step) 4++m.root.val).take 9).drop 5=le (BitVec.ofInt 64 m.step) 4:=rfl
 have q3:([BitVec.ofInt 8 m.kind]++le (BitVec.ofInt 64 m.session) 4++le (BitVec.ofInt 64 m.step) 4++m.root.val).drop 9=m.root.val:=by
  rw [List.drop_append_of_le_length (by simp [ya]),List.drop_of_length_le (by simp [ya])];rfl
 have hk:=toNat_ofInt (n:=m.kind) (w:=8) (by omega) (by omega)
 have ht2:(rd (le (BitVec.ofInt 64 m.text.length) 2)).toNat=m.text.length:=by
  have h2:=toNat_ofInt (n:=m.text.length) (w:=64) (by omega) (by omega)
  rw [zvR _ 2 (by omega)];omega
 have hs2:=toNat_ofInt (n:=m.sums.length) (w:=8) (by omega) (by omega)
 have hv2:=toNat_ofInt (n:=m.values.length) (w:=8) (by omega) (by omega)
 have hs3:(nth [BitVec.ofInt 8 (m.sums.length:Int)] 0).toNat=m.sums.length:=by
  show (BitVec.ofInt 8 (m.sums.length:Int)).toNat=_;omega
 have hv3:(nth [BitVec.ofInt 8 (m.values.length:Int)] 0).toNat=m.values.length:=by
  show (BitVec.ofInt 8 (m.values.length:Int)).toNat=_;omega
 unfold decM
 rw [e1,zaw hhl]
 simp only [d1,q0,q1,q2,q3]
 unfold d2
 rw [zaw ya]
 simp only [ht2]
 unfold d3
 rw [zaw rfl]
 unfold d4
 rw [zaw (n:=1) rfl]
 simp only [hs3]
 unfold d5
 rw [zaw zch]
 simp only
 rw [zaw (n:=1) rfl]
 simp only [hv3]
 unfold d6
 rw [zaw zci]
 simp only
 unfold d7
 have w1:=zym hi []
 have w2:=zyn (l:=m.values) []
 rw [List.append_nil] at w1 w2
 rw [w1,w2,zn3 hrl]
 refine Prod.ext ?_ ?_
 · have r1:=zvS s1.1 (by omega)
   have r2:=zvS s2.1 (by omega)
   simp only [hk,r1,r2]
   rfl
 · show (tk (y,true) 8).2.2=_
   by_cases e:y.length < 8
   · rw [zvQ e,decide_eq_false (by omega)]
   · rw [tk,if_neg e,if_pos rfl,decide_eq_true (by omega)]
theorem zyo {m:Msg} (h:valid m=true) (hi : ∀ x∈m.sums,okI x):dec (enc m)=(m,0):=by
 have he:enc m=zcg m++(sha (zcg m)).take 8:=by rw [enc,h];rfl
 have hl:((sha (zcg m)).take 8).length=8:=by rw [List.length_take,zbq];rfl
 unfold dec
 rw [he,zvT h hi,←he]
 unfold zly
 rw [if_neg (by simp [hl]),if_pos rfl]
theorem zde {m:Msg} (h:valid m=true):(enc m).length=53+m.text.length+8*m.sums.length+16*m.values.length:=by
 have:=m.root.len
 rw [enc,h,if_pos rfl]
 simp only [zcg,List.length_append,ya,zch,zci,List.length_take,zbq,List.length_cons,List.length_nil]
 omega
end Go.Proofs.YtgflpgcogkdpgaaGreatDoor

/-
  Sessions: the reference's small functions.
-/
namespace Go.Proofs.YtgflpgcogkdpgaaGreatDoor
open Go Go.AL

def zpy (k s:Int):Bool :=
 if k=1 then s == 0 else if k=2 then s == 1 else if k=3 then s == 3 else if k=4 then decide (2≤s) && s % 2 == 0 else if k=5 then decide (5≤s) && s % 2 == 1 else if k=6 then decide (4≤s) && s % 2 == 0 else if k=7 then decide (2≤s) && s % 2 == 0 else false
theorem zvU (k s:Int):zpy k s=fits k s:=by
 by_cases h:k=1 ∨ k=2 ∨ k=3 ∨ k=4 ∨ k=5 ∨ k=6 ∨ k=7
 · rw [Bool.eq_iff_iff]
   rcases h with rfl | rfl | rfl | rfl | rfl | rfl | rfl<;>simp [zpy,fits,zao]<;>omega
 · simp only [not_or] at h
   obtain⟨h1,h2,h3,h4,h5,h6,h7⟩:=h
   simp [zpy,fits,zao,h1,h2,h3,h4,h5,h6,h7]
section walks
variable {G:Globs}
theorem zeu (n:Int) (H:Hp) (R:AV → Hp → Prop) (h:R (.p (bo (small n))) H):ACall Tryz.prog G 77 [.p (i64 n)] H R:=by
 have e:small n=(decide (0≤n) && decide (n < 2147483648)):=by
  unfold small
  congr 1
  exact decide_eq_decide.2 (by omega)
 rw [e] at h
 refine ACall.of_run (raw:=[]) Tryz.func77 rfl Tryz.ntmps77 (by simp) fun hbel => ?_
 refine .q ?_;refine .text ?_;simp (disch:=first|exact za|fail) only [go_sem,seval]
 cases c:decide (0≤n) with
 | true =>
  rw [c] at h
  refine .q ?_;refine .text ?_;simp (disch:=first|exact za|fail) only [go_sem,seval,c]
  refine .q ?_;refine .rt Tryz.func77 (by rw [Tryz.results77]) (hR := ?_);simp (disch:=first|exact za|fail) only [go_sem,seval]
  exact h
 | false =>
  rw [c] at h
  refine .q ?_;refine .text ?_;simp (disch:=first|exact za|fail) only [go_sem,seval,c]
  refine .q ?_;refine .rt Tryz.func77 (by rw [Tryz.results77]) (hR := ?_);simp (disch:=first|exact za|fail) only [go_sem,seval]
  exact h
theorem zcC (id due:Int) (H:Hp) (R:AV → Hp → Prop) (h:R (.p (y9 (zeQ id due))) H):ACall Tryz.prog G 29 [.p (i64 id),.p (i64 due)] H R:=by
 refine ACall.of_run (raw:=[]) Tryz.func29 rfl Tryz.ntmps29 (by simp) fun hbel => ?_
 refine .q ?_;refine .text ?_;simp (disch:=first|exact za|fail) only [go_sem,seval,-List.reduceReplicate]
 refine .q ?_;refine .text ?_;simp (disch:=first|exact za|fail) only [go_sem,seval,-List.reduceReplicate,zn]
 refine .q ?_;refine .rt Tryz.func29 (by rw [Tryz.results29]) (hR := ?_);simp (disch:=first|exact za|fail) only [go_sem,seval,-List.reduceReplicate]
 exact h
theorem zev (s:Ses) (H:Hp) (R:AV → Hp → Prop) (h:R (.p (bo (decide (3≤s.state)))) H):ACall Tryz.prog G 49 [.p (y9 s)] H R:=by
 refine ACall.of_run (raw:=[]) Tryz.func49 rfl Tryz.ntmps49 (by simp) fun hbel => ?_
 refine .q ?_;refine .text ?_;simp (disch:=first|exact za|fail) only [go_sem,seval]
 refine .q ?_;refine .text ?_;simp (disch:=first|exact za|fail) only [go_sem,seval]
 refine .q ?_;refine .rt Tryz.func49 (by rw [Tryz.results49]) (hR := ?_);simp (disch:=first|exact za|fail) only [go_sem,seval]
 exact h
def turn (s:Ses):Bool:=s.state == 0 || zbc s
theorem ze7 (s:Ses) (h1:0≤s.step) (h2:0≤s.last.step) (H:Hp) (R:AV → Hp → Prop) (h:R (.p (bo (turn s))) H):ACall Tryz.prog G 50 [.p (y9 s)] H R:=by
 unfold turn zbc at h
 refine ACall.of_run (raw:=[]) Tryz.func50 rfl Tryz.ntmps50 (by simp) fun hbel => ?_
 refine .q ?_;refine .text ?_;simp (disch:=first|exact za|fail) only [go_sem,seval]
 refine .q ?_;refine .text ?_;simp (disch:=first|exact za|fail) only [go_sem,seval]
 cases c:s.state == 0 with
 | true =>
  rw [c] at h
  refine .q ?_;refine .ifT (by simp (disch:=first|exact za|fail) only [go_sem,seval,c]) ?_
  refine .q ?_;refine .text ?_;simp (disch:=first|exact za|fail) only [go_sem,seval]
  refine .q ?_;refine .rt Tryz.func50 (by rw [Tryz.results50]) (hR := ?_);simp (disch:=first|exact za|fail) only [go_sem,seval]
  exact h
 | false =>
  rw [c] at h
  refine .q ?_;refine .ifF (by simp (disch:=first|exact za|fail) only [go_sem,seval,c]) ?_
  refine .q ?_;refine .text ?_;simp (disch:=first|exact za|fail) only [go_sem,seval]
  cases c1:s.last.kind != 0 with
  | true =>
   rw [c1] at h
   simp (disch:=first|exact za|fail) only [go_sem,seval,c1]
   refine .q ?_;refine .text ?_;simp (disch:=first|exact za|fail) only [go_sem,seval]
   refine .q ?_;refine .rt Tryz.func50 (by rw [Tryz.results50]) (hR := ?_);simp (disch:=first|exact za|fail) only [go_sem,seval]
   simpa using h
  | false =>
   rw [c1] at h
   simp (disch:=first|exact za|fail) only [go_sem,seval,c1]
   refine .q ?_;refine .text ?_;simp (disch:=first|exact za|fail) only [go_sem,seval]
   refine .q ?_;refine .rt Tryz.func50 (by rw [Tryz.results50]) (hR := ?_);simp (disch:=first|exact za|fail) only [go_sem,seval]
   simpa using h
theorem ze8 (k s:Int) (H:Hp) (R:AV → Hp → Prop) (h:R (.p (bo (fits k s))) H):ACall Tryz.prog G 51 [.p (i64 k),.p (i64 s)] H R:=by
 rw [←zvU] at h
 unfold zpy at h
 refine ACall.of_run (raw:=[]) Tryz.func51 rfl Tryz.ntmps51 (by simp) fun hbel => ?_
 refine .q ?_;refine .text ?_;simp (disch:=first|exact za|fail) only [go_sem,seval]
 refine .q ?_;refine .text ?_;simp (disch:=first|exact za|fail) only [go_sem,seval]
 cases c1:k == 1 with
 | true =>
  obtain rfl:k=1:=by simpa using c1
  simp only [if_true,reduceIte,Int.reduceEq] at h
  refine .q ?_;refine .text ?_;simp (disch:=first|exact za|fail) only [go_sem,seval,c1]
  refine .q ?_;refine .ifT (by simp (disch:=first|exact za|fail) only [go_sem,seval]) ?_
  refine .q ?_;refine .text ?_;simp (disch:=first|exact za|fail) only [go_sem,seval]
  refine .q ?_;refine .rt Tryz.func51 (by rw [Tryz.results51]) (hR := ?_);simp (disch:=first|exact za|fail) only [go_sem,seval]
  exact h
 | false =>
  have n1 : ¬ k=1:=by simpa using c1
  rw [if_neg n1] at h
  refine .q ?_;refine .text ?_;simp (disch:=first|exact za|fail) only [go_sem,seval,c1]
  refine .q ?_;refine .ifF (by simp (disch:=first|exact za|fail) only [go_sem,seval,c1]) ?_
  cases c2:k == 2 with
  | true =>
   obtain rfl:k=2:=by simpa using c2
   simp only [if_true,reduceIte,Int.reduceEq] at h
   refine .q ?_;refine .text ?_;simp (disch:=first|exact za|fail) only [go_sem,seval,c2]
   refine .q ?_;refine .ifT (by simp (disch:=first|exact za|fail) only [go_sem,seval]) ?_
   refine .q ?_;refine .text ?_;simp (disch:=first|exact za|fail) only [go_sem,seval]
   refine .q ?_;refine .rt Tryz.func51 (by rw [Tryz.results51]) (hR := ?_);simp (disch:=first|exact za|fail) only [go_sem,seval]
   exact h
  | false =>
   have n2 : ¬ k=2:=by simpa using c2
   rw [if_neg n2] at h
   refine .q ?_;refine .text ?_;simp (disch:=first|exact za|fail) only [go_sem,seval,c2]
   refine .q ?_;refine .ifF (by simp (disch:=first|exact za|fail) only [go_sem,seval,c2]) ?_
   cases c3:k == 3 with
   | true =>
    obtain rfl:k=3:=by simpa using c3
    simp only [if_true,reduceIte,Int.reduceEq] at h
    refine .q ?_;refine .text ?_;simp (disch:=first|exact za|fail) only [go_sem,seval,c3]
    refine .q ?_;refine .ifT (by simp (disch:=first|exact za|fail) only [go_sem,seval]) ?_
    refine .q ?_;refine .text ?_;simp (disch:=first|exact za|fail) only [go_sem,seval]
    refine .q ?_;refine .rt Tryz.func51 (by rw [Tryz.results51]) (hR := ?_);simp (disch:=first|exact za|fail) only [go_sem,seval]
    exact h
   | false =>
    have n3 : ¬ k=3:=by simpa using c3
    rw [if_neg n3] at h
    refine .q ?_;refine .text ?_;simp (disch:=first|exact za|fail) only [go_sem,seval,c3]
    refine .q ?_;refine .ifF (by simp (disch:=first|exact za|fail) only [go_sem,seval,c3]) ?_
    cases c4:k == 4 with
    | true =>
     obtain rfl:k=4:=by simpa using c4
     simp only [if_true,reduceIte,Int.reduceEq] at h
     refine .q ?_;refine .text ?_;simp (disch:=first|exact za|fail) only [go_sem,seval,c4]
     refine .q ?_;refine .ifT (by simp (disch:=first|exact za|fail) only [go_sem,seval]) ?_
     refine .q ?_;refine .text ?_;simp (disch:=first|exact za|fail) only [go_sem,seval]
     cases q:decide ((2:Int)≤s) with
     | true =>
      rw [q] at h
      have hs:0≤s:=by have:=of_decide_eq_true q;omega
      simp (disch:=first|exact za|fail) only [go_sem,seval,q]
      refine .q ?_;refine .rt Tryz.func51 (by rw [Tryz.results51]) (hR := ?_);simp (disch:=first|exact za|fail) only [go_sem,seval]
      exact h
     | false =>
      rw [q] at h
      simp (disch:=first|exact za|fail) only [go_sem,seval,q]
      refine .q ?_;refine .rt Tryz.func51 (by rw [Tryz.results51]) (hR := ?_);simp (disch:=first|exact za|fail) only [go_sem,seval]
      exact h
    | false =>
     have n4 : ¬ k=4:=by simpa using c4
     rw [if_neg n4] at h
     refine .q ?_;refine .text ?_;simp (disch:=first|exact za|fail) only [go_sem,seval,c4]
     refine .q ?_;refine .ifF (by simp (disch:=first|exact za|fail) only [go_sem,seval,c4]) ?_
     cases c5:k == 5 with
     | true =>
      obtain rfl:k=5:=by simpa using c5
      simp only [if_true,reduceIte,Int.reduceEq] at h
      refine .q ?_;refine .text ?_;simp (disch:=first|exact za|fail) only [go_sem,seval,c5]
      refine .q ?_;refine .ifT (by simp (disch:=first|exact za|fail) only [go_sem,seval]) ?_
      refine .q ?_;refine .text ?_;simp (disch:=first|exact za|fail) only [go_sem,seval]
      cases q:decide ((5:Int)≤s) with
      | true =>
       rw [q] at h
       have hs:0≤s:=by have:=of_decide_eq_true q;omega
       simp (disch:=first|exact za|fail) only [go_sem,seval,q]
       refine .q ?_;refine .rt Tryz.func51 (by rw [Tryz.results51]) (hR := ?_);simp (disch:=first|exact za|fail) only [go_sem,seval]
       exact h
      | false =>
       rw [q] at h
       simp (disch:=first|exact za|fail) only [go_sem,seval,q]
       refine .q ?_;refine .rt Tryz.func51 (by rw [Tryz.results51]) (hR := ?_);simp (disch:=first|exact za|fail) only [go_sem,seval]
       exact h
     | false =>
      have n5 : ¬ k=5:=by simpa using c5
      rw [if_neg n5] at h
      refine .q ?_;refine .text ?_;simp (disch:=first|exact za|fail) only [go_sem,seval,c5]
      refine .q ?_;refine .ifF (by simp (disch:=first|exact za|fail) only [go_sem,seval,c5]) ?_
      cases c6:k == 6 with
      | true =>
       obtain rfl:k=6:=by simpa using c6
       simp only [if_true,reduceIte,Int.reduceEq] at h
       refine .q ?_;refine .text ?_;simp (disch:=first|exact za|fail) only [go_sem,seval,c6]
       refine .q ?_;refine .ifT (by simp (disch:=first|exact za|fail) only [go_sem,seval]) ?_
       refine .q ?_;refine .text ?_;simp (disch:=first|exact za|fail) only [go_sem,seval]
       cases q:decide ((4:Int)≤s) with
       | true =>
        rw [q] at h
        have hs:0≤s:=by have:=of_decide_eq_true q;omega
        simp (disch:=first|exact za|fail) only [go_sem,seval,q]
        refine .q ?_;refine .rt Tryz.func51 (by rw [Tryz.results51]) (hR := ?_);simp (disch:=first|exact za|fail) only [go_sem,seval]
        exact h
       | false =>
        rw [q] at h
        simp (disch:=first|exact za|fail) only [go_sem,seval,q]
        refine .q ?_;refine .rt Tryz.func51 (by rw [Tryz.results51]) (hR := ?_);simp (disch:=first|exact za|fail) only [go_sem,seval]
        exact h
      | false =>
       have n6 : ¬ k=6:=by simpa using c6
       rw [if_neg n6] at h
       refine .q ?_;refine .text ?_;simp (disch:=first|exact za|fail) only [go_sem,seval,c6]
       refine .q ?_;refine .ifF (by simp (disch:=first|exact za|fail) only [go_sem,seval,c6]) ?_
       cases c7:k == 7 with
       | true =>
        obtain rfl:k=7:=by simpa using c7
        simp only [if_true,reduceIte,Int.reduceEq] at h
        refine .q ?_;refine .text ?_;simp (disch:=first|exact za|fail) only [go_sem,seval,c7]
        refine .q ?_;refine .ifT (by simp (disch:=first|exact za|fail) only [go_sem,seval]) ?_
        refine .q ?_;refine .text ?_;simp (disch:=first|exact za|fail) only [go_sem,seval]
        cases q:decide ((2:Int)≤s) with
        | true =>
         rw [q] at h
         have hs:0≤s:=by have:=of_decide_eq_true q;omega
         simp (disch:=first|exact za|fail) only [go_sem,seval,q]
         refine .q ?_;refine .rt Tryz.func51 (by rw [Tryz.results51]) (hR := ?_);simp (disch:=first|exact za|fail) only [go_sem,seval]
         exact h
        | false =>
         rw [q] at h
         simp (disch:=first|exact za|fail) only [go_sem,seval,q]
         refine .q ?_;refine .rt Tryz.func51 (by rw [Tryz.results51]) (hR := ?_);simp (disch:=first|exact za|fail) only [go_sem,seval]
         exact h
       | false =>
        have n7 : ¬ k=7:=by simpa using c7
        rw [if_neg n7] at h
        refine .q ?_;refine .text ?_;simp (disch:=first|exact za|fail) only [go_sem,seval,c7]
        refine .q ?_;refine .ifF (by simp (disch:=first|exact za|fail) only [go_sem,seval,c7]) ?_
        refine .q ?_;refine .text ?_;simp (disch:=first|exact za|fail) only [go_sem,seval]
        refine .q ?_;refine .rt Tryz.func51 (by rw [Tryz.results51]) (hR := ?_);simp (disch:=first|exact za|fail) only [go_sem,seval]
        exact h
end walks
end Go.Proofs.YtgflpgcogkdpgaaGreatDoor

/-
  Sessions: the reference's validity and encoding.
-/
namespace Go.Proofs.YtgflpgcogkdpgaaGreatDoor
open Go Go.AL

def zvV (m:Msg):Bool:=if m.kind=1 then ((((decide (1≤(m.text.length:Int))) && (decide ((m.text.length:Int)≤400))) && ((m.sums.length:Int) == 0)) && ((m.values.length:Int) == 0)) else if m.kind=3 then ((((m.text.length:Int) == 0) && (decide ((m.sums.length:Int)≤64))) && ((m.values.length:Int) == 0)) else if m.kind=4 then ((((m.text.length:Int) == 0) && ((m.sums.length:Int) == 0)) && ((m.values.length:Int) == 1)) else if m.kind=5 then ((((m.text.length:Int) == 0) && ((m.sums.length:Int) == 0)) && (decide ((m.values.length:Int)≤64))) else ((((m.text.length:Int) == 0) && ((m.sums.length:Int) == 0)) && ((m.values.length:Int) == 0))
theorem zvW (m:Msg):zvV m=holds m.kind m.text.length m.sums.length m.values.length:=by
 unfold zvV holds
 (repeat' split)<;>rw [Bool.eq_iff_iff]<;>simp only [Bool.and_eq_true,decide_eq_true_eq,beq_iff_eq]<;>omega
section walks
variable {G:Globs}
theorem ze9 (x:U) (H:Hp) (R:AV → Hp → Prop) (h:R (.p (bo (fOK x))) H):ACall Tryz.prog G 110 [.p (zw x)] H R:=by
 refine ACall.of_run (raw:=[]) Tryz.func110 rfl Tryz.ntmps110 (by simp) fun hbel => ?_
 refine .q ?_;refine .text ?_;simp (disch:=first|exact za|fail) only [go_sem,seval,-List.reduceReplicate]
 refine .q ?_;refine .text ?_;simp (disch:=first|exact za|fail) only [go_sem,seval,-List.reduceReplicate]
 refine .q ?_;refine .rt Tryz.func110 (by rw [Tryz.results110]) (hR := ?_);simp (disch:=first|exact za|fail) only [go_sem,seval,-List.reduceReplicate]
 exact h
theorem zlC (x:Ext) (H:Hp) (R:AV → Hp → Prop) (h:R (.p (bo (zaB x))) H):ACall Tryz.prog G 96 [.p (ext x)] H R:=by
 unfold zaB at h
 refine ACall.of_run (raw:=[]) Tryz.func96 rfl Tryz.ntmps96 (by simp) fun hbel => ?_
 refine .q ?_;refine .text ?_;simp (disch:=first|exact za|fail) only [go_sem,seval,-List.reduceReplicate]
 refine .q ?_;refine .text ?_;simp (disch:=first|exact za|fail) only [go_sem,seval,-List.reduceReplicate]
 refine CallK.of (fun R h=>ze9 _ _ R h) ?_;simp (disch:=first|exact za|fail) only [go_sem,seval,-List.reduceReplicate]
 cases h1:fOK x.a with
 | true =>
  simp (disch:=first|exact za|fail) only [go_sem,seval,-List.reduceReplicate]
  refine CallK.of (fun R h=>ze9 _ _ R h) ?_;simp (disch:=first|exact za|fail) only [go_sem,seval,-List.reduceReplicate]
  refine .q ?_;refine .rt Tryz.func96 (by rw [Tryz.results96]) (hR := ?_);simp (disch:=first|exact za|fail) only [go_sem,seval,-List.reduceReplicate]
  simpa [h1] using h
 | false =>
  simp (disch:=first|exact za|fail) only [go_sem,seval,-List.reduceReplicate]
  refine .q ?_;refine .rt Tryz.func96 (by rw [Tryz.results96]) (hR := ?_);simp (disch:=first|exact za|fail) only [go_sem,seval,-List.reduceReplicate]
  simpa [h1] using h
set_option maxHeartbeats 8000000 in
theorem zhB (m:Msg) (hm:m.Ok) (H:Hp) (R:AV → Hp → Prop) (h:R (.p (bo (holds m.kind m.text.length m.sums.length m.values.length && !m.values.any fun x => !zaB x))) H):ACall Tryz.prog G 78 [.p (ym m)] H R:=by
 have ht:=hm.text
 have hsu:=hm.sums
 have hva:=hm.values
 rw [←zvW] at h
 refine ACall.of_run (raw:=[]) Tryz.func78 rfl Tryz.ntmps78 (by simp) fun hbel => ?_
 refine .q ?_;refine .text ?_;simp (disch:=first|exact za|fail) only [go_sem,seval,-List.reduceReplicate]
 refine .q ?_;refine .open [] follows (by kernel_rfl) ?_;simp (disch:=first|exact za|fail) only [go_sem,seval,-List.reduceReplicate]
 refine .q ?_;refine .text ?_;simp (disch:=first|exact za|fail) only [go_sem,seval,-List.reduceReplicate]
 refine .q ?_;refine .loopE [1,3,4,5] (fun i=>[(6,.p (i64 i)),(2,.p (bo false))]) (fun i=>[]) (fun i => ∀ j,j < i → (!zaB (nth m.values j))=false) (0) (m.values.length) (by omega) ?_ (by first | rfl | (simp (disch:=first|exact za|fail) only [go_sem,seval,-List.reduceReplicate]<;>rfl)) ?_ ?_ ?_
 · simp (disch:=first|exact za|fail) only [go_sem,seval,-List.reduceReplicate]<;>(repeat' (first | rfl | refine And.intro ?_ ?_))
 rotate_left 1
 intro env E hQ;simp (disch:=first|exact za|fail) only [go_sem,seval,-List.reduceReplicate] at E
 rotate_left 1
 intro i env hi0 hi E hQ ihE;simp (disch:=first|exact za|fail) only [go_sem,seval,-List.reduceReplicate] at E
 rotate_left 1
 · exact fun j hj=>absurd hj (by omega)
 · have hn:=zpr (p:=fun x => !zaB x) hQ
   rw [hn,Bool.not_false,Bool.and_true] at h
   unfold zvV at h
   refine .q ?_;refine .text ?_;simp (disch:=first|exact za|fail) only [go_sem,seval,-List.reduceReplicate,E]
   refine .q ?_;refine .ifF (by simp (disch:=first|exact za|fail) only [go_sem,seval,-List.reduceReplicate]) ?_
   refine .q ?_;refine .text ?_;simp (disch:=first|exact za|fail) only [go_sem,seval,-List.reduceReplicate,E]
   cases c1:m.kind == 1 with
   | true =>
    have k1:m.kind=1:=by simpa using c1
    simp only [k1,if_true,reduceIte,Int.reduceEq] at h
    refine .q ?_;refine .text ?_;simp (disch:=first|exact za|fail) only [go_sem,seval,-List.reduceReplicate,c1]
    refine .q ?_;refine .ifT (by simp (disch:=first|exact za|fail) only [go_sem,seval,-List.reduceReplicate]) ?_
    refine .q ?_;refine .text ?_;simp (disch:=first|exact za|fail) only [go_sem,seval,-List.reduceReplicate,E]
    cases a0:(decide (1≤(m.text.length:Int)))<;>cases a1:(decide ((m.text.length:Int)≤400))<;>cases a2:((m.sums.length:Int) == 0)<;>cases a3:((m.values.length:Int) == 0)
    all_goals (rw [a0,a1,a2,a3] at h;(try simp (disch:=first|exact za|fail) only [go_sem,seval,-List.reduceReplicate,E,a0,a1,a2,a3]);refine .q ?_;refine .rt Tryz.func78 (by rw [Tryz.results78]) (hR := ?_);simp (disch:=first|exact za|fail) only [go_sem,seval,-List.reduceReplicate];simpa using h)
   | false =>
    have n1 : ¬ m.kind=1:=by simpa using c1
    rw [if_neg n1] at h
    refine .q ?_;refine .text ?_;simp (disch:=first|exact za|fail) only [go_sem,seval,-List.reduceReplicate,c1]
    refine .q ?_;refine .ifF (by simp (disch:=first|exact za|fail) only [go_sem,seval,-List.reduceReplicate]) ?_
    cases c3:m.kind == 3 with
    | true =>
     have k3:m.kind=3:=by simpa using c3
     simp only [k3,if_true,reduceIte,Int.reduceEq] at h
     refine .q ?_;refine .text ?_;simp (disch:=first|exact za|fail) only [go_sem,seval,-List.reduceReplicate,c3]
     refine .q ?_;refine .ifT (by simp (disch:=first|exact za|fail) only [go_sem,seval,-List.reduceReplicate]) ?_
     refine .q ?_;refine .text ?_;simp (disch:=first|exact za|fail) only [go_sem,seval,-List.reduceReplicate,E]
     cases a0:((m.text.length:Int) == 0)<;>cases a1:(decide ((m.sums.length:Int)≤64))<;>cases a2:((m.values.length:Int) == 0)
     all_goals (rw [a0,a1,a2] at h;(try simp (disch:=first|exact za|fail) only [go_sem,seval,-List.reduceReplicate,E,a0,a1,a2]);refine .q ?_;refine .rt Tryz.func78 (by rw [Tryz.results78]) (hR := ?_);simp (disch:=first|exact za|fail) only [go_sem,seval,-List.reduceReplicate];simpa using h)
    | false =>
     have n3 : ¬ m.kind=3:=by simpa using c3
     rw [if_neg n3] at h
     refine .q ?_;refine .text ?_;simp (disch:=first|exact za|fail) only [go_sem,seval,-List.reduceReplicate,c3]
     refine .q ?_;refine .ifF (by simp (disch:=first|exact za|fail) only [go_sem,seval,-List.reduceReplicate]) ?_
     cases c4:m.kind == 4 with
     | true =>
      have k4:m.kind=4:=by simpa using c4
      simp only [k4,if_true,reduceIte,Int.reduceEq] at h
      refine .q ?_;refine .text ?_;simp (disch:=first|exact za|fail) only [go_sem,seval,-List.reduceReplicate,c4]
      refine .q ?_;refine .ifT (by simp (disch:=first|exact za|fail) only [go_sem,seval,-List.reduceReplicate]) ?_
      refine .q ?_;refine .text ?_;simp (disch:=first|exact za|fail) only [go_sem,seval,-List.reduceReplicate,E]
      cases a0:((m.text.length:Int) == 0)<;>cases a1:((m.sums.length:Int) == 0)<;>cases a2:((m.values.length:Int) == 1)
      all_goals (rw [a0,a1,a2] at h;(try simp (disch:=first|exact za|fail) only [go_sem,seval,-List.reduceReplicate,E,a0,a1,a2]);refine .q ?_;refine .rt Tryz.func78 (by rw [Tryz.results78]) (hR := ?_);simp (disch:=first|exact za|fail) only [go_sem,seval,-List.reduceReplicate];simpa using h)
     | false =>
      have n4 : ¬ m.kind=4:=by simpa using c4
      rw [if_neg n4] at h
      refine .q ?_;refine .text ?_;simp (disch:=first|exact za|fail) only [go_sem,seval,-List.reduceReplicate,c4]
      refine .q ?_;refine .ifF (by simp (disch:=first|exact za|fail) only [go_sem,seval,-List.reduceReplicate]) ?_
      cases c5:m.kind == 5 with
      | true =>
       have k5:m.kind=5:=by simpa using c5
       simp only [k5,if_true,reduceIte,Int.reduceEq] at h
       refine .q ?_;refine .text ?_;simp (disch:=first|exact za|fail) only [go_sem,seval,-List.reduceReplicate,c5]
       refine .q ?_;refine .ifT (by simp (disch:=first|exact za|fail) only [go_sem,seval,-List.reduceReplicate]) ?_
       refine .q ?_;refine .text ?_;simp (disch:=first|exact za|fail) only [go_sem,seval,-List.reduceReplicate,E]
       cases a0:((m.text.length:Int) == 0)<;>cases a1:((m.sums.length:Int) == 0)<;>cases a2:(decide ((m.values.length:Int)≤64))
       all_goals (rw [a0,a1,a2] at h;(try simp (disch:=first|exact za|fail) only [go_sem,seval,-List.reduceReplicate,E,a0,a1,a2]);refine .q ?_;refine .rt Tryz.func78 (by rw [Tryz.results78]) (hR := ?_);simp (disch:=first|exact za|fail) only [go_sem,seval,-List.reduceReplicate];simpa using h)
      | false =>
       have n5 : ¬ m.kind=5:=by simpa using c5
       rw [if_neg n5] at h
       refine .q ?_;refine .text ?_;simp (disch:=first|exact za|fail) only [go_sem,seval,-List.reduceReplicate,c5]
       refine .q ?_;refine .ifF (by simp (disch:=first|exact za|fail) only [go_sem,seval,-List.reduceReplicate]) ?_
       refine .q ?_;refine .text ?_;simp (disch:=first|exact za|fail) only [go_sem,seval,-List.reduceReplicate,E]
       cases a0:((m.text.length:Int) == 0)<;>cases a1:((m.sums.length:Int) == 0)<;>cases a2:((m.values.length:Int) == 0)
       all_goals (rw [a0,a1,a2] at h;(try simp (disch:=first|exact za|fail) only [go_sem,seval,-List.reduceReplicate,E,a0,a1,a2]);refine .q ?_;refine .rt Tryz.func78 (by rw [Tryz.results78]) (hR := ?_);simp (disch:=first|exact za|fail) only [go_sem,seval,-List.reduceReplicate];simpa using h)
 · refine .q ?_;refine .text ?_;simp (disch:=first|exact za|fail) only [go_sem,seval,-List.reduceReplicate,E]
   refine .q ?_;refine .ifT (by simp (disch:=first|exact za|fail) only [go_sem,seval,-List.reduceReplicate]) ?_
   refine .q ?_;refine .text ?_;simp (disch:=first|exact za|fail) only [go_sem,seval,-List.reduceReplicate,E]
   refine CallK.of (fun R h=>zlC _ _ R h) ?_;simp (disch:=first|exact za|fail) only [go_sem,seval,-List.reduceReplicate]
   cases hc:zaB (nth m.values i) with
   | false =>
    have hn:=zvw (p:=fun x => !zaB x) hi (by rw [hc];rfl)
    rw [hn,Bool.not_true,Bool.and_false] at h
    refine .q ?_;refine .ifT (by simp (disch:=first|exact za|fail) only [go_sem,seval,-List.reduceReplicate,hc]) ?_
    refine .q ?_;refine .text ?_;simp (disch:=first|exact za|fail) only [go_sem,seval,-List.reduceReplicate,E]
    refine .q ?_;refine .rt Tryz.func78 (by rw [Tryz.results78]) (hR := ?_);simp (disch:=first|exact za|fail) only [go_sem,seval,-List.reduceReplicate]
    exact h
   | true =>
    have hn : ∀ j,j < i+1 → (!zaB (nth m.values j))=false:=fun j hj=>by
     rcases Nat.lt_or_ge j i with q | q
     · exact hQ j q
     · rw [show j=i by omega,hc];rfl
    refine .q ?_;refine .ifF (by simp (disch:=first|exact za|fail) only [go_sem,seval,-List.reduceReplicate,hc]) ?_
    refine .q ?_;refine .text ?_;simp (disch:=first|exact za|fail) only [go_sem,seval,-List.reduceReplicate,E]
    first | (refine ihE _ _ ?_ hn ?_) | (refine .z rfl ?_;refine ihE _ _ ?_ hn ?_) | (refine .z rfl ?_;refine .z rfl ?_;refine ihE _ _ ?_ hn ?_) | (refine .z rfl ?_;refine .z rfl ?_;refine .z rfl ?_;refine ihE _ _ ?_ hn ?_)
    · simp (disch:=first|exact za|fail) only [go_sem,seval,-List.reduceReplicate,E]<;>(repeat' (first | rfl | refine And.intro ?_ ?_))
    · first | rfl | (simp (disch:=first|exact za|fail) only [go_sem,seval,-List.reduceReplicate,E]<;>(try rfl))
theorem zew (m:Msg) (hm:m.Ok) (H:Hp) (R:AV → Hp → Prop) (h:R (.p (bo (valid m))) H):ACall Tryz.prog G 57 [.p (ym m)] H R:=by
 unfold valid at h
 refine ACall.of_run (raw:=[]) Tryz.func57 rfl Tryz.ntmps57 (by simp) fun hbel => ?_
 refine .q ?_;refine .text ?_;simp (disch:=first|exact za|fail) only [go_sem,seval,-List.reduceReplicate]
 refine .q ?_;refine .text ?_;simp (disch:=first|exact za|fail) only [go_sem,seval,-List.reduceReplicate]
 refine CallK.of (fun R h=>zeu _ _ R h) ?_;simp (disch:=first|exact za|fail) only [go_sem,seval,-List.reduceReplicate]
 cases v1:small m.session with
 | false =>
  rw [v1] at h
  simp (disch:=first|exact za|fail) only [go_sem,seval,-List.reduceReplicate]
  refine .q ?_;refine .rt Tryz.func57 (by rw [Tryz.results57]) (hR := ?_);simp (disch:=first|exact za|fail) only [go_sem,seval,-List.reduceReplicate]
  exact h
 | true =>
  rw [v1] at h
  simp (disch:=first|exact za|fail) only [go_sem,seval,-List.reduceReplicate]
  refine CallK.of (fun R h=>zeu _ _ R h) ?_;simp (disch:=first|exact za|fail) only [go_sem,seval,-List.reduceReplicate]
  cases v2:small m.step with
  | false =>
   rw [v2] at h
   simp (disch:=first|exact za|fail) only [go_sem,seval,-List.reduceReplicate]
   refine .q ?_;refine .rt Tryz.func57 (by rw [Tryz.results57]) (hR := ?_);simp (disch:=first|exact za|fail) only [go_sem,seval,-List.reduceReplicate]
   exact h
  | true =>
   rw [v2] at h
   simp (disch:=first|exact za|fail) only [go_sem,seval,-List.reduceReplicate]
   refine CallK.of (fun R h=>ze8 _ _ _ R h) ?_;simp (disch:=first|exact za|fail) only [go_sem,seval,-List.reduceReplicate]
   cases v3:fits m.kind m.step with
   | false =>
    rw [v3] at h
    simp (disch:=first|exact za|fail) only [go_sem,seval,-List.reduceReplicate]
    refine .q ?_;refine .rt Tryz.func57 (by rw [Tryz.results57]) (hR := ?_);simp (disch:=first|exact za|fail) only [go_sem,seval,-List.reduceReplicate]
    exact h
   | true =>
    rw [v3] at h
    simp (disch:=first|exact za|fail) only [go_sem,seval,-List.reduceReplicate]
    refine CallK.of (fun R h=>zhB m hm _ R h) ?_;simp (disch:=first|exact za|fail) only [go_sem,seval,-List.reduceReplicate]
    refine .q ?_;refine .rt Tryz.func57 (by rw [Tryz.results57]) (hR := ?_);simp (disch:=first|exact za|fail) only [go_sem,seval,-List.reduceReplicate]
    simpa [Bool.and_assoc] using h
end walks
end Go.Proofs.YtgflpgcogkdpgaaGreatDoor

/-
  Sessions: the reference's encoding.
-/
namespace Go.Proofs.YtgflpgcogkdpgaaGreatDoor
open Go Go.AL

theorem zgY {P:Program} {H:Hp} {s d:TypeId} {l:By} (hs:P.underlying s=some .string) (hd:zc3 P d=true) (hl:l.length≤140737488355000):yN P H s d (.p (str (bytesOf l)))=some (.p (.sl false 1 (pl b8 l))):=by
 obtain⟨e,h1,h2,h3⟩:=zei hd
 have hz:(bytesOf l).size≤9223372036854775806:=by rw [zeo];omega
 have:=zS (l:=l)
 simp only [yN,hs,h1,zcd,h2,str,hz,if_true,this]
section walks
variable {G:Globs}
set_option maxHeartbeats 4000000 in
theorem zlD (b:By) (x:U) (n:Nat) (hn:n≤8) (hb:b.length+n≤140737488355000) (α v:Nat) (H:Hp) (hα:H.f α=some (.tail v)) (R:AV → Hp → Prop) (h:R (.sl α (v+n) 1 (pl b8 (b++le x n))) (H.set α (.tail (v+n)))) :
 ACall Tryz.prog G 58 [.sl α v 1 (pl b8 b),.p (zw x),.p (i64 n)] H R:=by
 refine ACall.of_run (raw:=[]) Tryz.func58 rfl Tryz.ntmps58 (by simp) fun hbel => ?_
 have hαn:=Hp.lt hα
 have hs0:H.set α (.tail v)=H:=Hp.set_same H _ α hα
 refine .q ?_;refine .text ?_;simp (disch:=first|exact za|fail) only [go_sem,seval]
 refine .q ?_;refine .text ?_;simp (disch:=first|exact za|fail) only [go_sem,seval]
 refine .q ?_;refine .loopH [1,2] (fun i=>[(0,.sl α (v+i) 1 (pl b8 (b++le x i))),(7,.p (i64 i))]) (fun i=>H.set α (.tail (v+i))) (fun i=>True) (0) (n) (by omega) ?_ (by first | rfl | (simp (disch:=first|exact za|fail) only [go_sem,seval,le,hs0,List.append_nil,Nat.mul_zero,BitVec.ushiftRight_zero]<;>rfl)) ?_ ?_ ?_
 · simp (disch:=first|exact za|fail) only [go_sem,seval,le,hs0,List.append_nil,Nat.mul_zero,BitVec.ushiftRight_zero]<;>(repeat' (first | rfl | refine And.intro ?_ ?_))
 · exact trivial
 intro env E hQ;simp (disch:=first|exact za|fail) only [go_sem,seval,le,hs0,List.append_nil,Nat.mul_zero,BitVec.ushiftRight_zero] at E
 rotate_left 1
 intro i env hi0 hi E hQ ihE;simp (disch:=first|exact za|fail) only [go_sem,seval,le,hs0,List.append_nil,Nat.mul_zero,BitVec.ushiftRight_zero] at E
 rotate_left 1
 · refine .q ?_;refine .text ?_;simp (disch:=first|exact za|fail) only [go_sem,seval,E]
   refine .q ?_;refine .ifF (by simp (disch:=first|exact za|fail) only [go_sem,seval]) ?_
   refine .q ?_;refine .text ?_;simp (disch:=first|exact za|fail) only [go_sem,seval,E]
   refine .q ?_;refine .retKeep Tryz.func58 (by rw [Tryz.results58]) (by simp (disch:=first|exact za|fail) only [go_sem,seval,E];rfl) ?_;(try simp (disch:=first|exact za|fail) only [go_sem,seval,E])
   exact h
 · have hl:=ya (x:=x) (n:=i)
   obtain⟨k,hk,h8⟩ : ∃ k:Nat,8*i=k∧(8:Int)*(i:Int)=(k:Int):=⟨8*i,rfl,by omega⟩
   refine .q ?_;refine .text ?_;simp (disch:=first|exact za|fail) only [go_sem,seval,E]
   refine .q ?_;refine .ifT (by simp (disch:=first|exact za|fail) only [go_sem,seval]) ?_
   refine .q ?_;refine .text ?_;simp (disch:=first|exact za|fail) only [go_sem,seval,E,hl,h8]
   refine .q ?_;refine .text ?_;simp (disch:=first|exact za|fail) only [go_sem,seval,E]
   first | (refine ihE _ _ ?_ trivial ?_) | (refine .z rfl ?_;refine ihE _ _ ?_ trivial ?_) | (refine .z rfl ?_;refine .z rfl ?_;refine ihE _ _ ?_ trivial ?_) | (refine .z rfl ?_;refine .z rfl ?_;refine .z rfl ?_;refine ihE _ _ ?_ trivial ?_)
   · simp (disch:=first|exact za|fail) only [go_sem,seval,E,zbr,hk,List.append_assoc,Nat.add_assoc]<;>(repeat' (first | rfl | refine And.intro ?_ ?_))
   · first | rfl | (simp (disch:=first|exact za|fail) only [go_sem,seval,E,zbr,hk,List.append_assoc,Nat.add_assoc]<;>(try rfl))

set_option maxHeartbeats 4000000 in
theorem zji (b:By) (x:U) (n:Nat) (hn:n≤8) (hb:b.length+n≤140737488355000) (H:Hp) (R:AV → Hp → Prop) (h:R (.sl H.n n 1 (pl b8 (b++le x n))) (H.new (.tail n))) :
 ACall Tryz.prog G 58 [.p (.sl true 1 (pl b8 b)),.p (zw x),.p (i64 n)] H R:=by
 refine ACall.of_run (raw:=[]) Tryz.func58 rfl Tryz.ntmps58 (by simp) fun hbel => ?_
 refine .q ?_;refine .text ?_;simp (disch:=first|exact za|fail) only [go_sem,seval]
 refine .q ?_;refine .own 0 (by simp (disch:=first|exact za|fail) only [go_sem,seval];rfl) ?_
 refine .q ?_;refine .text ?_;simp (disch:=first|exact za|fail) only [go_sem,seval]
 refine .q ?_;refine .loopH [1,2] (fun i=>[(0,.sl H.n i 1 (pl b8 (b++le x i))),(7,.p (i64 i))]) (fun i=>H.new (.tail i)) (fun i=>True) (0) (n) (by omega) ?_ (by first | rfl | (simp (disch:=first|exact za|fail) only [go_sem,seval,le,List.append_nil,Nat.mul_zero,BitVec.ushiftRight_zero]<;>rfl)) ?_ ?_ ?_
 · simp (disch:=first|exact za|fail) only [go_sem,seval,le,List.append_nil,Nat.mul_zero,BitVec.ushiftRight_zero]<;>(repeat' (first | rfl | refine And.intro ?_ ?_))
 · exact trivial
 intro env E hQ;simp (disch:=first|exact za|fail) only [go_sem,seval,le,List.append_nil,Nat.mul_zero,BitVec.ushiftRight_zero] at E
 rotate_left 1
 intro i env hi0 hi E hQ ihE;simp (disch:=first|exact za|fail) only [go_sem,seval,le,List.append_nil,Nat.mul_zero,BitVec.ushiftRight_zero] at E
 rotate_left 1
 · refine .q ?_;refine .text ?_;simp (disch:=first|exact za|fail) only [go_sem,seval,E]
   refine .q ?_;refine .ifF (by simp (disch:=first|exact za|fail) only [go_sem,seval]) ?_
   refine .q ?_;refine .text ?_;simp (disch:=first|exact za|fail) only [go_sem,seval,E]
   refine .q ?_;refine .retKeep Tryz.func58 (by rw [Tryz.results58]) (by simp (disch:=first|exact za|fail) only [go_sem,seval,E];rfl) ?_;(try simp (disch:=first|exact za|fail) only [go_sem,seval,E])
   exact h
 · have hl:=ya (x:=x) (n:=i)
   obtain⟨k,hk,h8⟩ : ∃ k:Nat,8*i=k∧(8:Int)*(i:Int)=(k:Int):=⟨8*i,rfl,by omega⟩
   refine .q ?_;refine .text ?_;simp (disch:=first|exact za|fail) only [go_sem,seval,E]
   refine .q ?_;refine .ifT (by simp (disch:=first|exact za|fail) only [go_sem,seval]) ?_
   refine .q ?_;refine .text ?_;simp (disch:=first|exact za|fail) only [go_sem,seval,E,hl,h8]
   refine .q ?_;refine .text ?_;simp (disch:=first|exact za|fail) only [go_sem,seval,E]
   first | (refine ihE _ _ ?_ trivial ?_) | (refine .z rfl ?_;refine ihE _ _ ?_ trivial ?_) | (refine .z rfl ?_;refine .z rfl ?_;refine ihE _ _ ?_ trivial ?_) | (refine .z rfl ?_;refine .z rfl ?_;refine .z rfl ?_;refine ihE _ _ ?_ trivial ?_)
   · simp (disch:=first|exact za|fail) only [go_sem,seval,E,zbr,hk,List.append_assoc]<;>(repeat' (first | rfl | refine And.intro ?_ ?_))
   · first | rfl | (simp (disch:=first|exact za|fail) only [go_sem,seval,E,zbr,hk,List.append_assoc]<;>(try rfl))

theorem zjj (m:Msg) (hm:m.Ok) (hv:valid m=false) (H:Hp) (R:AV → Hp → Prop) (h:R (.p (.s (.slice none 0 0))) H):ACall Tryz.prog G 35 [.p (ym m)] H R:=by
 refine ACall.of_run (raw:=[58]) Tryz.func35 rfl Tryz.ntmps35 (by simp) fun hbel => ?_
 refine .q ?_;refine .text ?_;simp (disch:=first|exact za|fail) only [go_sem,seval]
 refine .q ?_;refine .text ?_;simp (disch:=first|exact za|fail) only [go_sem,seval]
 refine CallK.of (fun R h=>zew m hm _ R h) ?_;simp (disch:=first|exact za|fail) only [go_sem,seval,hv]
 refine .q ?_;refine .ifT (by simp (disch:=first|exact za|fail) only [go_sem,seval]) ?_
 refine .q ?_;refine .region ?_
 refine .nilA (by simp (disch:=first|exact za|fail) only [go_sem,seval]<;>rfl) ?_
 refine .run ?_
 simp (disch:=first|exact za|fail) only [go_sem,seval]
 refine .rt Tryz.func35 (by rw [Tryz.results35]) (hR := ?_);simp (disch:=first|exact za|fail) only [go_sem,seval]
 exact h
set_option maxHeartbeats 8000000 in
set_option maxRecDepth 20000 in
theorem zgZ (m:Msg) (hm:m.Ok) (hv:valid m=true) (H:Hp) (R:AV → Hp → Prop) (h:R (.p (.sl false 1 (pl b8 (zcg m++(sha (zcg m)).take 8)))) H):ACall Tryz.prog G 35 [.p (ym m)] H R:=by
 obtain⟨b1,b2,b3⟩:=zdu hv
 have hrl:=m.root.len
 refine ACall.of_run (raw:=[58]) Tryz.func35 rfl Tryz.ntmps35 (by simp) fun hbel => ?_
 refine .q ?_;refine .text ?_;simp (disch:=first|exact za|fail) only [go_sem,seval]
 refine .q ?_;refine .text ?_;simp (disch:=first|exact za|fail) only [go_sem,seval]
 refine CallK.of (fun R h=>zew m hm _ R h) ?_;simp (disch:=first|exact za|fail) only [go_sem,seval,hv]
 refine .q ?_;refine .ifF (by simp (disch:=first|exact za|fail) only [go_sem,seval]) ?_
 refine .q ?_;refine .text ?_;simp (disch:=first|exact za|fail) only [go_sem,seval]
 refine .q ?_;refine .text ?_;simp (disch:=first|exact za|fail) only [go_sem,seval]
 refine CallK.of (fun R h=>zji [BitVec.ofInt 8 m.kind] (BitVec.ofInt 64 m.session) 4 (by omega) (by simp) _ R h) ?_;simp (disch:=first|exact za|fail) only [go_sem,seval]
 generalize hx1:BitVec.ofInt 8 m.kind :: le (BitVec.ofInt 64 m.session) 4=x1
 have l1:x1.length=5:=by rw [←hx1];simp [ya]
 have l2:(le (BitVec.ofInt 64 m.step) 4).length=4:=ya
 rw [zvx]
 have hw : ∀ (x:By) (w:U) (k n:Nat),k≤8 → x.length≤10000 → ∀ R:AV → Hp → Prop,R (.sl (H.n+1) (n+k) 1 (pl b8 (x++le w k))) (eH H m (n+k)) → ACall Tryz.prog G 58 [.sl (H.n+1) n 1 (pl b8 x),.p (zw w),.p (i64 k)] (eH H m n) R:=fun x w k n hk hx R h=>zlD x w k hk (by omega) (H.n+1) n _ zlr R (by rw [zc8];exact h)
 refine .q ?_;refine .text ?_;simp (disch:=first|exact za|fail) only [go_sem,seval]
 refine CallK.of (fun R h=>hw x1 _ 4 4 (by omega) (by omega) R h) ?_;simp (disch:=first|exact za|fail) only [go_sem,seval]
 refine .q ?_;refine .text ?_;simp (disch:=first|exact za|fail) only [go_sem,seval]
 refine CallK.of (fun R h=>zcy m.root.val hrl _ R h) ?_;simp (disch:=first|exact za|fail) only [go_sem,seval,l1,l2,hrl]
 generalize hx2:x1++le (BitVec.ofInt 64 m.step) 4++m.root.val=x2 at *
 have l3:x2.length=41:=by rw [←hx2];simp [l1,l2,hrl]
 refine .q ?_;refine .text ?_;simp (disch:=first|exact za|fail) only [go_sem,seval]
 refine CallK.of (fun R h=>hw x2 _ 2 9 (by omega) (by omega) R h) ?_;simp (disch:=first|exact za|fail) only [go_sem,seval]
 have l4:(le (BitVec.ofInt 64 m.text.length) 2).length=2:=ya
 have htl:m.text.length≤140737488355000:=by omega
 refine .q ?_;refine .text ?_;simp (disch:=first|exact za|fail) only [go_sem,seval,l3,l4,zgY]
 generalize hx3:x2++le (BitVec.ofInt 64 m.text.length) 2++m.text=x3 at *
 have l5:x3.length≤443:=by rw [←hx3];simp only [List.length_append,l3,l4];omega
 have e1 : ∀ n,(eH H m n).f H.n=some (.cells (yR m)):=fun n=>zzy
 refine .q ?_;refine .text ?_;simp (disch:=first|exact za|fail) only [go_sem,seval,e1]
 refine .q ?_;refine .text ?_;simp (disch:=first|exact za|fail) only [go_sem,seval,e1]
 have l6 : ∀ i,i≤m.sums.length → (x3++[BitVec.ofInt 8 m.sums.length]++encS (m.sums.take i)).length=x3.length+1+8*i:=fun i hi=>by
  simp only [List.length_append,zch,List.length_take,List.length_cons,List.length_nil];omega
 have hw3 : ∀ i,i < m.sums.length → ∀ R:AV → Hp → Prop,R (.sl (H.n+1) (13+8*(i+1)) 1 (pl b8 (x3++[BitVec.ofInt 8 m.sums.length]++encS (m.sums.take (i+1))))) (eH H m (13+8*(i+1))) → ACall Tryz.prog G 58 [.sl (H.n+1) (13+8*i) 1 (pl b8 (x3++[BitVec.ofInt 8 m.sums.length]++encS (m.sums.take i))),.p (zw (BitVec.ofInt 64 (nth m.sums i))),.p (i64 8)] (eH H m (13+8*i)) R:=fun i hi R h=>hw _ (BitVec.ofInt 64 (nth m.sums i)) 8 (13+8*i) (by omega) (by rw [l6 i (by omega)];omega) R (by rw [List.append_assoc (x3++_),←zic hi];exact h)
 refine .q ?_;refine .loopH [1] (fun i=>[(3,.sl (H.n+1) (13+8*i) 1 (pl b8 (x3++[BitVec.ofInt 8 m.sums.length]++encS (m.sums.take i)))),(4,.p (i64 i))]) (fun i=>eH H m (13+8*i)) (fun i=>True) (0) (m.sums.length) (by omega) ?_ (by first | rfl | (simp (disch:=first|exact za|fail) only [go_sem,seval,e1,List.take_zero,Nat.mul_zero,Nat.add_zero,zba,List.append_nil]<;>rfl)) ?_ ?_ ?_
 · simp (disch:=first|exact za|fail) only [go_sem,seval,e1,List.take_zero,Nat.mul_zero,Nat.add_zero,zba,List.append_nil]<;>(repeat' (first | rfl | refine And.intro ?_ ?_))
 · exact trivial
 intro env E hQ;simp (disch:=first|exact za|fail) only [go_sem,seval,e1,List.take_zero,Nat.mul_zero,Nat.add_zero,zba,List.append_nil] at E
 rotate_left 1
 intro i env hi0 hi E hQ ihE;simp (disch:=first|exact za|fail) only [go_sem,seval,e1,List.take_zero,Nat.mul_zero,Nat.add_zero,zba,List.append_nil] at E
 rotate_left 1
 · have l60:=l6 _ (Nat.le_refl _)
   rw [List.take_length] at l60
   generalize hx4:x3++[BitVec.ofInt 8 m.sums.length]++encS m.sums=x4 at *
   have l7:x4.length≤1000:=by omega
   clear hw3
   generalize hv1:13+8*m.sums.length=v1 at *
   refine .q ?_;refine .text ?_;simp (disch:=first|exact za|fail) only [go_sem,seval,E]
   refine .q ?_;refine .ifF (by simp (disch:=first|exact za|fail) only [go_sem,seval]) ?_
   refine .q ?_;refine .text ?_;simp (disch:=first|exact za|fail) only [go_sem,seval,E]
   refine .q ?_;refine .text ?_;simp (disch:=first|exact za|fail) only [go_sem,seval,E]
   have l8 : ∀ i,i≤m.values.length → (x4++[BitVec.ofInt 8 m.values.length]++yx (m.values.take i)).length=x4.length+1+16*i:=fun i hi=>by
    simp only [List.length_append,zci,List.length_take,List.length_cons,List.length_nil];omega
   have hw4 : ∀ i,i < m.values.length → ∀ R:AV → Hp → Prop,R (.sl (H.n+1) (v1+1+16*i+8) 1 (pl b8 (x4++[BitVec.ofInt 8 m.values.length]++yx (m.values.take i)++le (nth m.values i).a 8))) (eH H m (v1+1+16*i+8)) → ACall Tryz.prog G 58 [.sl (H.n+1) (v1+1+16*i) 1 (pl b8 (x4++[BitVec.ofInt 8 m.values.length]++yx (m.values.take i))),.p (zw (nth m.values i).a),.p (i64 8)] (eH H m (v1+1+16*i)) R:=fun i hi R h=>hw _ (nth m.values i).a 8 _ (by omega) (by rw [l8 i (by omega)];omega) R h
   have hw5 : ∀ i,i < m.values.length → ∀ R:AV → Hp → Prop,R (.sl (H.n+1) (v1+1+16*(i+1)) 1 (pl b8 (x4++[BitVec.ofInt 8 m.values.length]++yx (m.values.take (i+1))))) (eH H m (v1+1+16*(i+1))) → ACall Tryz.prog G 58 [.sl (H.n+1) (v1+1+16*i+8) 1 (pl b8 (x4++[BitVec.ofInt 8 m.values.length]++yx (m.values.take i)++le (nth m.values i).a 8)),.p (zw (nth m.values i).b),.p (i64 8)] (eH H m (v1+1+16*i+8)) R:=fun i hi R h=>hw _ (nth m.values i).b 8 _ (by omega) (by rw [List.length_append,l8 i (by omega),ya];omega) R (by
    have:x4++[BitVec.ofInt 8 m.values.length]++yx (m.values.take i)++le (nth m.values i).a 8++le (nth m.values i).b 8=x4++[BitVec.ofInt 8 m.values.length]++yx (m.values.take (i+1)):=by rw [zid hi];simp
    rw [this]
    exact h)
   refine .q ?_;refine .loopH [1] (fun i=>[(3,.sl (H.n+1) (v1+1+16*i) 1 (pl b8 (x4++[BitVec.ofInt 8 m.values.length]++yx (m.values.take i)))),(5,.p (i64 i))]) (fun i=>eH H m (v1+1+16*i)) (fun i=>True) (0) (m.values.length) (by omega) ?_ (by first | rfl | (simp (disch:=first|exact za|fail) only [go_sem,seval,E,List.take_zero,Nat.mul_zero,Nat.add_zero,zbb,List.append_nil]<;>rfl)) ?_ ?_ ?_
   · simp (disch:=first|exact za|fail) only [go_sem,seval,E,List.take_zero,Nat.mul_zero,Nat.add_zero,zbb,List.append_nil]<;>(repeat' (first | rfl | refine And.intro ?_ ?_))
   · exact trivial
   intro env F hQ;simp (disch:=first|exact za|fail) only [go_sem,seval,E,List.take_zero,Nat.mul_zero,Nat.add_zero,zbb,List.append_nil] at F
   rotate_left 1
   intro i env hi0 hi F hQ ihF;simp (disch:=first|exact za|fail) only [go_sem,seval,E,List.take_zero,Nat.mul_zero,Nat.add_zero,zbb,List.append_nil] at F
   rotate_left 1
   · have l80:=l8 _ (Nat.le_refl _)
     rw [List.take_length] at l80
     have he:zcg m=x4++[BitVec.ofInt 8 m.values.length]++yx m.values:=by
      rw [zcg,←hx4,←hx3,←hx2,←hx1];simp [BitVec.ofInt_natCast]
     rw [he] at h
     clear hw4 hw5
     generalize x4++[BitVec.ofInt 8 m.values.length]++yx m.values=x5 at *
     generalize v1+1+16*m.values.length=v2 at *
     have hsh:(sha x5).length=32:=zbq x5
     refine .q ?_;refine .text ?_;simp (disch:=first|exact za|fail) only [go_sem,seval,F]
     refine .q ?_;refine .ifF (by simp (disch:=first|exact za|fail) only [go_sem,seval]) ?_
     refine .q ?_;refine .text ?_;simp (disch:=first|exact za|fail) only [go_sem,seval,F]
     refine CallK.of (fun R h=>zeN x5 (by omega) _ R h) ?_;simp (disch:=first|exact za|fail) only [go_sem,seval,hsh]
     refine CallK.of (fun R h=>zcy (sha x5) hsh _ R h) ?_;simp (disch:=first|exact za|fail) only [go_sem,seval]
     refine .q ?_;refine .text ?_;simp (disch:=first|exact za|fail) only [go_sem,seval,F,hsh]
     have hbel:=zvz (m:=m) (n:=v2+1) hbel
     refine .q ?_;refine .rt Tryz.func35 (by rw [Tryz.results35]) (hR := ?_);simp (disch:=first|exact za|fail) only [go_sem,seval]
     exact h
   · have ha:=hw4 i hi
     have hb:=hw5 i hi
     clear hw4 hw5
     generalize x4++[BitVec.ofInt 8 m.values.length]++yx (m.values.take i)=y0 at *
     generalize x4++[BitVec.ofInt 8 m.values.length]++yx (m.values.take (i+1))=y2 at *
     refine .q ?_;refine .text ?_;simp (disch:=first|exact za|fail) only [go_sem,seval,F]
     refine .q ?_;refine .ifT (by simp (disch:=first|exact za|fail) only [go_sem,seval]) ?_
     refine .q ?_;refine .text ?_;simp (disch:=first|exact za|fail) only [go_sem,seval,F,e1]
     refine CallK.of (fun R h=>ha R h) ?_;simp (disch:=first|exact za|fail) only [go_sem,seval]
     refine .q ?_;refine .text ?_;simp (disch:=first|exact za|fail) only [go_sem,seval,F,e1]
     refine CallK.of (fun R h=>hb R h) ?_;simp (disch:=first|exact za|fail) only [go_sem,seval]
     refine .q ?_;refine .text ?_;simp (disch:=first|exact za|fail) only [go_sem,seval,F]
     first | (refine ihF _ _ ?_ trivial ?_) | (refine .z rfl ?_;refine ihF _ _ ?_ trivial ?_) | (refine .z rfl ?_;refine .z rfl ?_;refine ihF _ _ ?_ trivial ?_) | (refine .z rfl ?_;refine .z rfl ?_;refine .z rfl ?_;refine ihF _ _ ?_ trivial ?_)
     · simp (disch:=first|exact za|fail) only [go_sem,seval,F,E,e1]<;>(repeat' (first | rfl | refine And.intro ?_ ?_))
     · first | rfl | (simp (disch:=first|exact za|fail) only [go_sem,seval,F,E,e1]<;>(try rfl))
 · have hh:=hw3 i hi
   refine .q ?_;refine .text ?_;simp (disch:=first|exact za|fail) only [go_sem,seval,E]
   refine .q ?_;refine .ifT (by simp (disch:=first|exact za|fail) only [go_sem,seval]) ?_
   refine .q ?_;refine .text ?_;simp (disch:=first|exact za|fail) only [go_sem,seval,E]
   refine CallK.of (fun R h=>hh R h) ?_;simp (disch:=first|exact za|fail) only [go_sem,seval]
   refine .q ?_;refine .text ?_;simp (disch:=first|exact za|fail) only [go_sem,seval,E]
   first | (refine ihE _ _ ?_ trivial ?_) | (refine .z rfl ?_;refine ihE _ _ ?_ trivial ?_) | (refine .z rfl ?_;refine .z rfl ?_;refine ihE _ _ ?_ trivial ?_) | (refine .z rfl ?_;refine .z rfl ?_;refine .z rfl ?_;refine ihE _ _ ?_ trivial ?_)
   · simp (disch:=first|exact za|fail) only [go_sem,seval,E,e1]<;>(repeat' (first | rfl | refine And.intro ?_ ?_))
   · first | rfl | (simp (disch:=first|exact za|fail) only [go_sem,seval,E,e1]<;>(try rfl))
theorem zaU (m:Msg) (hm:m.Ok) (H:Hp) (R:AV → Hp → Prop) (h:R (.p (.sl false 1 (pl b8 (enc m)))) H):ACall Tryz.prog G 35 [.p (ym m)] H R:=by
 cases hv:valid m with
 | true =>
  rw [enc,hv] at h
  exact zgZ m hm hv H R h
 | false =>
  rw [enc,hv] at h
  refine ACall.wk (zjj m hm hv H (fun r H'=>r = .p (.s (.slice none 0 0))∧H'=H) ⟨rfl,rfl⟩) ?_
  rintro _ _ ⟨rfl,rfl⟩
  refine⟨_,h,fun σ w v hv => ?_⟩
  cases hv with | p hp=>cases hp;exact .p (.nil _ _)
end walks
end Go.Proofs.YtgflpgcogkdpgaaGreatDoor

/-
  Sessions: the reference's reader.
-/
namespace Go.Proofs.YtgflpgcogkdpgaaGreatDoor
open Go Go.AL

def rk (st:By × Bool) (n:Nat):By × (By × Bool) :=
 if st.2=true∧n≤st.1.length then (st.1.take n,(st.1.drop n,true)) else (List.replicate n 0#8,(st.1,false))
theorem zaP {st:By × Bool} {n:Nat}:(rk st n).1.length=n:=by
 unfold rk
 split
 · rename_i h;simp only [List.length_take];omega
 · simp
theorem zcJ {st:By × Bool} {n:Nat}:(rk st n).2.1.length≤st.1.length:=by
 unfold rk
 split<;>simp
theorem zbl {x r:By} {n:Nat} (h:x.length=n):rk (x++r,true) n=(x,(r,true)):=by
 subst h
 unfold rk
 simp
theorem zjk {st:By × Bool} {n:Nat} (h:(rk st n).2.2=true):st=((rk st n).1++(rk st n).2.1,true):=by
 obtain⟨r,ok⟩:=st
 unfold rk at h ⊢
 split at h
 · rename_i c;simp only at c;rw [if_pos c];simp [c.1]
 · cases h
theorem zAF {st:By × Bool} {n:Nat} (h:(tk st n).2.2=true):st=((tk st n).1++(tk st n).2.1,true):=by
 obtain⟨r,ok⟩:=st
 unfold tk at h ⊢
 simp only at h ⊢
 split at h
 · cases h
 · rename_i c
   split at h
   · rename_i c2;rw [if_neg c,if_pos c2];simp [c2]
   · cases h
def wR (st:By × Bool):Nat → List U × (By × Bool)
 | 0=>([],st)
 | c+1=>((wR st c).1++[rd (rk (wR st c).2 8).1],(rk (wR st c).2 8).2)
def vR (st:By × Bool):Nat → List Ext × (By × Bool)
 | 0=>([],st)
 | c+1=>((vR st c).1++[⟨rd (rk (vR st c).2 8).1,rd (rk (rk (vR st c).2 8).2 8).1⟩],(rk (rk (vR st c).2 8).2 8).2)
theorem zn4 {st:By × Bool} : ∀ {c},(wR st c).1.length=c
 | 0=>rfl
 | c+1=>by simp [wR,zn4]
theorem zn5 {st:By × Bool} : ∀ {c},(vR st c).1.length=c
 | 0=>rfl
 | c+1=>by simp [vR,zn5]
theorem zvX {st:By × Bool} : ∀ {c},(wR st c).2.1.length≤st.1.length
 | 0=>Nat.le_refl _
 | _+1=>Nat.le_trans zcJ zvX
theorem zvY {st:By × Bool} : ∀ {c},(vR st c).2.1.length≤st.1.length
 | 0=>Nat.le_refl _
 | _+1=>Nat.le_trans zcJ (Nat.le_trans zcJ zvY)
theorem zjl {x y:By} : ∀ {c},8*c≤x.length → wds (x++y) c=wds x c
 | 0,_=>rfl
 | c+1,h=>by
  rw [zbK,zbK,zjl (by omega),List.take_append_of_le_length (by omega)]
theorem zpz {x y:List U} : ∀ {c},2*c≤x.length → prs (x++y) c=prs x c
 | 0,_=>rfl
 | c+1,h=>by
  rw [zdb,zdb,zpz (by omega),zaH (by omega),zaH (by omega)]
theorem zn6 : ∀ {c} {x r:By},x.length=8*c → wR (x++r,true) c=(wds x c,(r,true))
 | 0,x,r,h=>by
  have:x=[]:=List.eq_nil_of_length_eq_zero (by omega)
  subst this;rfl
 | c+1,x,r,h=>by
  obtain⟨y,z,rfl,hy,hz⟩ : ∃ y z:By,x=y++z∧y.length=8*c∧z.length=8:=⟨x.take (8*c),x.drop (8*c),(List.take_append_drop _ _).symm,by rw [List.length_take];omega,by rw [List.length_drop];omega⟩
  have ih:=zn6 (c:=c) (x:=y) (r:=z++r) hy
  rw [wR,List.append_assoc,ih,zbl hz,zbK,zjl (by omega),List.take_of_length_le (by simp;omega),List.drop_left' hy]
theorem zlE {c:Nat} {y z:By} (hy:y.length=8*c) (hz:z.length=8):wds (y++z) (c+1)=wds y c++[rd z]:=by
 rw [zbK,zjl (by omega),List.take_of_length_le (by simp;omega),List.drop_left' hy]
theorem zn7 : ∀ {c} {x r:By},x.length=16*c → vR (x++r,true) c=(prs (wds x (2*c)) c,(r,true))
 | 0,x,r,h=>by
  have:x=[]:=List.eq_nil_of_length_eq_zero (by omega)
  subst this;rfl
 | c+1,x,r,h=>by
  obtain⟨y,z,w,rfl,hy,hz,hw⟩ : ∃ y z w:By,x=y++z++w∧y.length=16*c∧z.length=8∧w.length=8:=⟨x.take (16*c),(x.drop (16*c)).take 8,(x.drop (16*c)).drop 8,by rw [List.append_assoc,List.take_append_drop,List.take_append_drop],by rw [List.length_take];omega,by rw [List.length_take,List.length_drop];omega,by rw [List.length_drop,List.length_drop];omega⟩
  have ih:=zn7 (c:=c) (x:=y) (r:=z++(w++r)) hy
  have e:y++z++w++r=y++(z++(w++r)):=by simp
  have h1:wds (y++z++w) (2*(c+1))=wds y (2*c)++[rd z]++[rd w]:=by
   rw [show 2*(c+1)=2*c+1+1 by omega,zlE (y:=y++z) (by simp;omega) hw,zlE (by omega) hz]
  have hl:(wds y (2*c)).length=2*c:=zas
  have n1:nth (wds y (2*c)++[rd z]++[rd w]) (2*c)=rd z:=by
   rw [zaH (by simp;omega),zct (by omega),hl,Nat.sub_self];rfl
  have n2:nth (wds y (2*c)++[rd z]++[rd w]) (2*c+1)=rd w:=by
   rw [zct (by simp;omega),List.length_append,hl,List.length_singleton,Nat.sub_self];rfl
  rw [vR,e,ih,zbl hz,zbl hw,h1,zdb,n1,n2,List.append_assoc,zpz (by omega)]
theorem zzE : ∀ {c} {st:By × Bool},(wR st c).2.2=true → st.2=true∧8*c+(wR st c).2.1.length=st.1.length
 | 0,_,h=>⟨h,by simp [wR]⟩
 | c+1,st,h=>by
  have h1:=zjk (st:=(wR st c).2) (n:=8) h
  have hl:=zaP (st:=(wR st c).2) (n:=8)
  have h2:(wR st c).2.2=true:=by rw [h1]
  obtain⟨h3,h4⟩:=zzE h2
  have h5:=congrArg (fun x:By × Bool=>x.1.length) h1
  simp only [List.length_append] at h5
  refine⟨h3,?_⟩
  have h6:(wR st (c+1)).2=(rk (wR st c).2 8).2:=rfl
  rw [←h4,h5,hl,h6]
  omega
theorem zzF : ∀ {c} {st:By × Bool},(vR st c).2.2=true → st.2=true∧16*c+(vR st c).2.1.length=st.1.length
 | 0,_,h=>⟨h,by simp [vR]⟩
 | c+1,st,h=>by
  have h0:=zjk (st:=(rk (vR st c).2 8).2) (n:=8) h
  have hl0:=zaP (st:=(rk (vR st c).2 8).2) (n:=8)
  have h1:=zjk (st:=(vR st c).2) (n:=8) (by rw [h0])
  have hl:=zaP (st:=(vR st c).2) (n:=8)
  have h2:(vR st c).2.2=true:=by rw [h1]
  obtain⟨h3,h4⟩:=zzF h2
  have h5:=congrArg (fun x:By × Bool=>x.1.length) h1
  have h6:=congrArg (fun x:By × Bool=>x.1.length) h0
  simp only [List.length_append] at h5 h6
  refine⟨h3,?_⟩
  have h7:(vR st (c+1)).2=(rk (rk (vR st c).2 8).2 8).2:=rfl
  rw [←h4,h5,hl,h6,hl0,h7]
  omega
theorem zAG {c:Nat} {st:By × Bool} (h:(wR st c).2.2=true) : ∃ x:By,x.length=8*c∧st=(x++(wR st c).2.1,true)∧(wR st c).1=wds x c:=by
 obtain⟨h1,h2⟩:=zzE h
 obtain⟨r,ok⟩:=st
 simp only at h1 h2
 subst h1
 have hl:(r.take (8*c)).length=8*c:=by rw [List.length_take];omega
 have:=zn6 (c:=c) (x:=r.take (8*c)) (r:=r.drop (8*c)) hl
 rw [List.take_append_drop] at this
 refine⟨r.take (8*c),hl,?_,?_⟩
 · rw [this];simp
 · rw [this]
theorem zAH {c:Nat} {st:By × Bool} (h:(vR st c).2.2=true) : ∃ x:By,x.length=16*c∧st=(x++(vR st c).2.1,true)∧(vR st c).1=prs (wds x (2*c)) c:=by
 obtain⟨h1,h2⟩:=zzF h
 obtain⟨r,ok⟩:=st
 simp only at h1 h2
 subst h1
 have hl:(r.take (16*c)).length=16*c:=by rw [List.length_take];omega
 have:=zn7 (c:=c) (x:=r.take (16*c)) (r:=r.drop (16*c)) hl
 rw [List.take_append_drop] at this
 refine⟨r.take (16*c),hl,?_,?_⟩
 · rw [this];simp
 · rw [this]
def e7 (kd se sp:U) (ro tx:By) (us:List U) (vs:List Ext) (s:By × Bool):Msg × (By × Bool):=(⟨kd.toNat,se.toNat,sp.toNat,tx,mkD ro,us.map toI,vs⟩,(rk s 8).2)
def e6 (kd se sp:U) (ro tx:By) (us:List U) (c:Nat) (s:By × Bool):Msg × (By × Bool):=e7 kd se sp ro tx us (vR s c).1 (vR s c).2
def e5 (kd se sp:U) (ro tx:By) (us:List U) (s:By × Bool):Msg × (By × Bool):=e6 kd se sp ro tx us (rd (rk s 1).1).toNat (rk s 1).2
def e4 (kd se sp:U) (ro tx:By) (c:Nat) (s:By × Bool):Msg × (By × Bool):=e5 kd se sp ro tx (wR s c).1 (wR s c).2
def e3 (kd se sp:U) (ro tx:By) (s:By × Bool):Msg × (By × Bool):=e4 kd se sp ro tx (rd (rk s 1).1).toNat (rk s 1).2
def e2 (kd se sp:U) (ro:By) (tl:Nat) (s:By × Bool):Msg × (By × Bool):=e3 kd se sp ro (rk s tl).1 (rk s tl).2
def e1 (kd se sp:U) (ro:By) (s:By × Bool):Msg × (By × Bool):=e2 kd se sp ro (rd (rk s 2).1).toNat (rk s 2).2
def e0 (kd se sp:U) (s:By × Bool):Msg × (By × Bool):=e1 kd se sp (rk s 32).1 (rk s 32).2
def eS (kd se:U) (s:By × Bool):Msg × (By × Bool):=e0 kd se (rd (rk s 4).1) (rk s 4).2
def eE (kd:U) (s:By × Bool):Msg × (By × Bool):=eS kd (rd (rk s 4).1) (rk s 4).2
def decE (b:By):Msg × (By × Bool):=eE (rd (rk (b,true) 1).1) (rk (b,true) 1).2
def zyp (b:By) (r:Msg × (By × Bool)):Msg × Int:=if r.2.2=false then (zM,6) else if r.2.1=[]∧enc r.1=b then (r.1,0) else (zM,5)

structure Sp (b:By) (x1 x2 x3 x4 l tx n1 sm n2 vm ck r:By):Prop where
 e:b=x1++(x2++(x3++(x4++(l++(tx++(n1++(sm++(n2++(vm++(ck++r))))))))))
 l1:x1.length=1
 l2:x2.length=4
 l3:x3.length=4
 l4:x4.length=32
 l5:l.length=2
 l6:tx.length=(rd l).toNat
 l7:n1.length=1
 l8:sm.length=8*(rd n1).toNat
 l9:n2.length=1
 l10:vm.length=16*(rd n2).toNat
 l11:ck.length=8
theorem rd1 {x:By} (h:x.length=1):(rd x).toNat=(nth x 0).toNat:=by
 match x,h with
 | [c],_=>simp [rd,nth];have:=c.isLt;omega
def spM (x1 x2 x3 x4 tx n1 sm n2 vm:By):Msg:=⟨(rd x1).toNat,(rd x2).toNat,(rd x3).toNat,tx,mkD x4,(wds sm (rd n1).toNat).map toI,prs (wds vm (2*(rd n2).toNat)) (rd n2).toNat⟩
section sp
variable {b x1 x2 x3 x4 l tx n1 sm n2 vm ck r:By}
theorem Sp.decE (h:Sp b x1 x2 x3 x4 l tx n1 sm n2 vm ck r):decE b=(spM x1 x2 x3 x4 tx n1 sm n2 vm,(r,true)):=by
 rw [h.e,Go.Proofs.YtgflpgcogkdpgaaGreatDoor.decE,zbl h.l1,eE,zbl h.l2,eS,zbl h.l3,e0,zbl h.l4,e1,zbl h.l5,e2,zbl h.l6,e3,zbl h.l7,e4,zn6 h.l8,e5,zbl h.l9,e6,zn7 h.l10,e7,zbl h.l11]
 rfl
theorem Sp.decM (h:Sp b x1 x2 x3 x4 l tx n1 sm n2 vm ck r):decM b=(spM x1 x2 x3 x4 tx n1 sm n2 vm,true):=by
 have hb:b=(x1++x2++x3++x4)++(l++(tx++(n1++(sm++(n2++(vm++(ck++r))))))):=by rw [h.e];simp
 have hl:(x1++x2++x3++x4).length=41:=by simp [h.l1,h.l2,h.l3,h.l4]
 have q0:nth (x1++x2++x3++x4) 0=nth x1 0:=by rw [List.append_assoc,List.append_assoc,zaH (by rw [h.l1];omega)]
 have q1:((x1++x2++x3++x4).take 5).drop 1=x2:=by
  rw [List.append_assoc,List.take_left' (by simp [h.l1,h.l2]),List.drop_left' h.l1]
 have q2:((x1++x2++x3++x4).take 9).drop 5=x3:=by
  rw [List.take_left' (by simp [h.l1,h.l2,h.l3]),List.drop_left' (by simp [h.l1,h.l2])]
 have q3:(x1++x2++x3++x4).drop 9=x4:=by
  rw [List.drop_left' (by simp [h.l1,h.l2,h.l3])]
 have l8:sm.length=8*(nth n1 0).toNat:=by rw [h.l8,rd1 h.l7]
 have l10:vm.length=16*(nth n2 0).toNat:=by rw [h.l10,rd1 h.l9]
 rw [Go.Proofs.YtgflpgcogkdpgaaGreatDoor.decM,hb,zaw hl]
 simp only [d1,q0,q1,q2,q3]
 rw [d2,zaw h.l5]
 simp only
 rw [d3,zaw h.l6]
 simp only
 rw [d4,zaw h.l7]
 simp only
 rw [d5,zaw l8]
 simp only
 rw [zaw h.l9,d6]
 simp only
 rw [zaw l10,d7]
 simp only
 rw [zaw h.l11,spM,rd1 h.l1,rd1 h.l7,rd1 h.l9]
end sp
theorem rk_inv' {st:By × Bool} {n:Nat} {p:By × (By × Bool)} (e:rk st n=p) (h:p.2.2=true):st.2=true∧st.1=p.1++p.2.1∧p.1.length=n:=by
 subst e
 have:=zjk h
 exact⟨by rw [this],by rw (config := { occs := .pos [1] }) [this],zaP⟩
theorem tk_inv' {st:By × Bool} {n:Nat} {p:By × (By × Bool)} (e:tk st n=p) (h:p.2.2=true):st.2=true∧st.1=p.1++p.2.1∧p.1.length=n:=by
 subst e
 have:=zAF h
 exact⟨by rw [this],by rw (config := { occs := .pos [1] }) [this],zbJ⟩
theorem wR_inv' {st:By × Bool} {c:Nat} {p:List U × (By × Bool)} (e:wR st c=p) (h:p.2.2=true) : ∃ x:By,st.2=true∧st.1=x++p.2.1∧x.length=8*c:=by
 subst e
 obtain⟨x,h1,h2,-⟩:=zAG h
 exact⟨x,by rw [h2],by rw (config := { occs := .pos [1] }) [h2],h1⟩
theorem vR_inv' {st:By × Bool} {c:Nat} {p:List Ext × (By × Bool)} (e:vR st c=p) (h:p.2.2=true) : ∃ x:By,st.2=true∧st.1=x++p.2.1∧x.length=16*c:=by
 subst e
 obtain⟨x,h1,h2,-⟩:=zAH h
 exact⟨x,by rw [h2],by rw (config := { occs := .pos [1] }) [h2],h1⟩
theorem zys {b:By} (h:(decE b).2.2=true) : ∃ x1 x2 x3 x4 l tx n1 sm n2 vm ck r,Sp b x1 x2 x3 x4 l tx n1 sm n2 vm ck r:=by
 unfold decE at h
 generalize h1:rk (b,true) 1=p1 at h
 unfold eE at h
 generalize h2:rk p1.2 4=p2 at h
 unfold eS at h
 generalize h3:rk p2.2 4=p3 at h
 unfold e0 at h
 generalize h4:rk p3.2 32=p4 at h
 unfold e1 at h
 generalize h5:rk p4.2 2=p5 at h
 unfold e2 at h
 generalize h6:rk p5.2 _=p6 at h
 unfold e3 at h
 generalize h7:rk p6.2 _=p7 at h
 unfold e4 at h
 generalize h8:wR p7.2 _=p8 at h
 unfold e5 at h
 generalize h9:rk p8.2 _=p9 at h
 unfold e6 at h
 generalize h10:vR p9.2 _=p10 at h
 unfold e7 at h
 generalize h11:rk p10.2 _=p11 at h
 obtain⟨o11,q11,k11⟩:=rk_inv' h11 h
 obtain⟨vm,o10,q10,k10⟩:=vR_inv' h10 o11
 obtain⟨o9,q9,k9⟩:=rk_inv' h9 o10
 obtain⟨sm,o8,q8,k8⟩:=wR_inv' h8 o9
 obtain⟨o7,q7,k7⟩:=rk_inv' h7 o8
 obtain⟨o6,q6,k6⟩:=rk_inv' h6 o7
 obtain⟨o5,q5,k5⟩:=rk_inv' h5 o6
 obtain⟨o4,q4,k4⟩:=rk_inv' h4 o5
 obtain⟨o3,q3,k3⟩:=rk_inv' h3 o4
 obtain⟨o2,q2,k2⟩:=rk_inv' h2 o3
 obtain⟨o1,q1,k1⟩:=rk_inv' h1 o2
 exact⟨p1.1,p2.1,p3.1,p4.1,p5.1,p6.1,p7.1,sm,p9.1,vm,p11.1,p11.2.1,⟨by rw [←q11,←q10,←q9,←q8,←q7,←q6,←q5,←q4,←q3,←q2,←q1],k1,k2,k3,k4,k5,k6,k7,k8,k9,k10,k11⟩⟩
theorem zpA {b:By} (h:(decM b).2=true) : ∃ x1 x2 x3 x4 l tx n1 sm n2 vm ck r,Sp b x1 x2 x3 x4 l tx n1 sm n2 vm ck r:=by
 unfold decM at h
 generalize h1:tk (b,true) 41=p1 at h
 unfold d1 d2 at h
 generalize h5:tk p1.2 2=p5 at h
 unfold d3 at h
 generalize h6:tk p5.2 _=p6 at h
 unfold d4 at h
 generalize h7:tk p6.2 _=p7 at h
 unfold d5 at h
 generalize h8:tk p7.2 _=p8 at h
 generalize h9:tk p8.2 _=p9 at h
 unfold d6 at h
 generalize h10:tk p9.2 _=p10 at h
 unfold d7 at h
 generalize h11:tk p10.2 _=p11 at h
 obtain⟨o11,q11,k11⟩:=tk_inv' h11 h
 obtain⟨o10,q10,k10⟩:=tk_inv' h10 o11
 obtain⟨o9,q9,k9⟩:=tk_inv' h9 o10
 obtain⟨o8,q8,k8⟩:=tk_inv' h8 o9
 obtain⟨o7,q7,k7⟩:=tk_inv' h7 o8
 obtain⟨o6,q6,k6⟩:=tk_inv' h6 o7
 obtain⟨o5,q5,k5⟩:=tk_inv' h5 o6
 obtain⟨o1,q1,k1⟩:=tk_inv' h1 o5
 have hsp : ∀ (x:By),x.length=41 → ∀ y,x++y=x.take 1++((x.drop 1).take 4++((x.drop 5).take 4++(x.drop 9++y))):=fun x hx y=>by
  have h1:x=x.take 1++((x.drop 1).take 4++((x.drop 5).take 4++x.drop 9)):=by
   have a1:x.drop 9=(x.drop 5).drop 4:=by simp
   have a2:x.drop 5=(x.drop 1).drop 4:=by simp
   rw [a1,List.take_append_drop,a2,List.take_append_drop,List.take_append_drop]
  rw (config := { occs := .pos [1] }) [h1]
  simp only [List.append_assoc]
 exact⟨p1.1.take 1,(p1.1.drop 1).take 4,(p1.1.drop 5).take 4,p1.1.drop 9,p5.1,p6.1,p7.1,p8.1,p9.1,p10.1,p11.1,p11.2.1,⟨by rw [←q11,←q10,←q9,←q8,←q7,←q6,←q5,←hsp _ k1,←q1],by rw [List.length_take,k1];rfl,by rw [List.length_take,List.length_drop,k1];rfl,by rw [List.length_take,List.length_drop,k1];rfl,by rw [List.length_drop,k1],k5,k6,k7,by rw [k8,rd1 k7],k9,by rw [k10,rd1 k9],k11⟩⟩
theorem zyt (b:By):zyp b (decE b)=dec b:=by
 by_cases h:(decE b).2.2=true
 · obtain⟨x1,x2,x3,x4,l,tx,n1,sm,n2,vm,ck,r,hs⟩:=zys h
   unfold dec zly zyp
   rw [hs.decE,hs.decM]
   simp only [Bool.true_eq_false,if_false]
   by_cases he:enc (spM x1 x2 x3 x4 tx n1 sm n2 vm)=b
   · have hbl:=congrArg List.length hs.e
     simp only [List.length_append,hs.l1,hs.l2,hs.l3,hs.l4,hs.l5,hs.l7,hs.l9,hs.l11] at hbl
     have hv:valid (spM x1 x2 x3 x4 tx n1 sm n2 vm)=true:=by
      cases hv:valid (spM x1 x2 x3 x4 tx n1 sm n2 vm) with
      | true=>rfl
      | false =>
       rw [enc,hv] at he
       rw [←he] at hbl
       simp at hbl
       omega
     have hz:=zde hv
     rw [he] at hz
     have hr:r=[]:=by
      apply List.eq_nil_of_length_eq_zero
      have a1:(spM x1 x2 x3 x4 tx n1 sm n2 vm).text.length=tx.length:=rfl
      have a2:(spM x1 x2 x3 x4 tx n1 sm n2 vm).sums.length=(rd n1).toNat:=by show (List.map toI _).length=_;rw [List.length_map,zas]
      have a3:(spM x1 x2 x3 x4 tx n1 sm n2 vm).values.length=(rd n2).toNat:=zes
      rw [a1,a2,a3] at hz
      have:=hs.l8
      have:=hs.l10
      omega
     rw [if_pos ⟨hr,he⟩,if_pos he]
   · rw [if_neg (fun q=>he q.2),if_neg he]
 · have h2:(decM b).2=false:=by
    cases hm:(decM b).2 with
    | false=>rfl
    | true =>
     obtain⟨x1,x2,x3,x4,l,tx,n1,sm,n2,vm,ck,r,hs⟩:=zpA hm
     rw [hs.decE] at h
     exact absurd rfl h
   unfold dec zly zyp
   rw [if_pos h2,if_pos (by simpa using h)]
theorem zyu {c:BitVec 8} : ∀ {l:By},l.length≤7 → rd (l++[c])=rd l+c.setWidth 64 <<< (8*l.length):=by
 have hcons : ∀ (c:BitVec 8) (b:By),b.length≤7 → (rd (c :: b)).toNat=c.toNat+(rd b).toNat*256:=fun c b hb=>by
  have ih:=zgT hb
  have hc:=c.isLt
  simp only [rd,BitVec.toNat_or,BitVec.toNat_shiftLeft,BitVec.toNat_setWidth]
  have h2:(rd b).toNat <<< 8 < 2 ^ 64:=by
   rw [Nat.shiftLeft_eq]
   have:2 ^ (8*b.length)*2 ^ 8≤2 ^ 64:=by
    rw [←Nat.pow_add];exact Nat.pow_le_pow_right (by omega) (by omega)
   have:=Nat.mul_lt_mul_of_pos_right ih (show 0 < 2 ^ 8 by decide)
   omega
  rw [Nat.mod_eq_of_lt h2,Nat.mod_eq_of_lt (show c.toNat < 2 ^ 64 by omega),←Nat.shiftLeft_add_eq_or_of_lt (by omega),Nat.shiftLeft_eq]
  omega
 have key : ∀ {l:By},l.length≤7 → (rd (l++[c])).toNat=(rd l).toNat+c.toNat*2 ^ (8*l.length):=by
  intro l
  induction l with
  | nil=>intro _;have:=c.isLt;simp [rd];omega
  | cons d l ih =>
   intro h
   rw [List.length_cons] at h
   rw [List.cons_append,hcons _ _ (by simp;omega),hcons _ _ (by omega),ih (by omega),List.length_cons,show 8*(l.length+1)=8*l.length+8 by omega,Nat.pow_add,Nat.add_mul,Nat.mul_assoc,←Nat.add_assoc]
 intro l h
 apply BitVec.eq_of_toNat_eq
 have h1:=zgT (b:=l) h
 have hc:=c.isLt
 have h2:c.toNat*2 ^ (8*l.length) < 2 ^ 64:=by
  have:2 ^ 8*2 ^ (8*l.length)≤2 ^ 64:=by rw [←Nat.pow_add];exact Nat.pow_le_pow_right (by omega) (by omega)
  have:=Nat.mul_lt_mul_of_pos_right (show c.toNat < 2 ^ 8 by omega) (Nat.pow_pos (n:=8*l.length) (show 0 < 2 by omega))
  omega
 have h3:(rd (l++[c])).toNat < 2 ^ 64:=(rd (l++[c])).isLt
 rw [key h] at h3
 rw [key h,BitVec.toNat_add,BitVec.toNat_shiftLeft,BitVec.toNat_setWidth,Nat.mod_eq_of_lt (show c.toNat < 2 ^ 64 by omega),Nat.shiftLeft_eq,Nat.mod_eq_of_lt h2,Nat.mod_eq_of_lt h3]
end Go.Proofs.YtgflpgcogkdpgaaGreatDoor

/-
  Sessions: the reference's reader,walked.
-/
namespace Go.Proofs.YtgflpgcogkdpgaaGreatDoor
open Go Go.AL

def rcl (st:By × Bool):List AV:=[.p (.sl false 1 (pl b8 st.1)),.p (bo (!st.2))]
theorem zvZ {n b:Nat} {H:Hp} {l:By} {o:Bool} (h:Bel n H):Bel n (H.set b (.cells [.p (.sl false 1 (pl b8 l)),.p (bo o)])):=zbD h fun y hy=>by
 simp only [AB.vals,List.mem_cons,List.not_mem_nil,or_false] at hy
 rcases hy with rfl | rfl<;>exact .p _
section walks
variable {G:Globs}
set_option maxHeartbeats 4000000 in
theorem zfa (st:By × Bool) (hr:st.1.length≤140737488355000) (n:Nat) (hn:n≤100000) (cb:Nat) (H:Hp) (hc:H.f cb=some (.cells (rcl st))) (R:AV → Hp → Prop)
 (h:R (.p (.sl false 1 (pl b8 (rk st n).1))) (H.set cb (.cells (rcl (rk st n).2)))) :
 ACall Tryz.prog G 75 [.ptr cb 0,.p (i64 n)] H R:=by
 obtain⟨rest,ok⟩:=st
 simp only at hr
 unfold rcl at hc h
 have hcn:=Hp.lt hc
 unfold rk at h
 simp only at h hc
 refine ACall.of_run (raw:=[]) Tryz.func75 rfl Tryz.ntmps75 (by simp) fun hbel => ?_
 refine .q ?_;refine .text ?_;simp (disch:=first|exact za|fail) only [go_sem,seval]
 have hbel : ∀ l o,Bel H.n (H.set cb (.cells [.p (.sl false 1 (pl b8 l)),.p (bo o)])):=fun l o=>zvZ hbel
 have hs0:H.set cb (.cells [.p (.sl false 1 (pl b8 rest)),.p (bo !ok)])=H:=Hp.set_same H _ cb hc
 cases ok with
 | false =>
  simp only [Bool.false_eq_true,false_and,if_false,Bool.not_false] at h hc hs0
  refine .q ?_;refine .text ?_;simp (disch:=first|exact za|fail) only [go_sem,seval,hc]
  refine .q ?_;refine .ifT (by simp (disch:=first|exact za|fail) only [go_sem,seval]) ?_
  refine .q ?_;refine .text ?_;simp (disch:=first|exact za|fail) only [go_sem,seval,hc]
  refine .q ?_;refine .text ?_;simp (disch:=first|exact za|fail) only [go_sem,seval]
  refine .q ?_;refine .frzS 4 (by simp (disch:=first|exact za|fail) only [go_sem,seval];rfl) (by simp (disch:=first|exact za|fail) only [go_sem,seval]<;>rfl) (fun _=>rfl) (by first | exact za | fail) ?_;(try simp (disch:=first|exact za|fail) only [go_sem,seval])
  refine .q ?_;refine .rt Tryz.func75 (by rw [Tryz.results75]) (hR := ?_);simp (disch:=first|exact za|fail) only [go_sem,seval]
  exact h
 | true =>
  simp only [true_and,Bool.not_true] at h hc hs0
  refine .q ?_;refine .text ?_;simp (disch:=first|exact za|fail) only [go_sem,seval,hc]
  by_cases c:n≤rest.length
  · rw [if_pos c] at h
    simp only [Bool.not_true] at h
    have d:decide ((rest.length:Int) < (n:Int))=false:=decide_eq_false (by omega)
    refine .q ?_;refine .ifF (by simp (disch:=first|exact za|fail) only [go_sem,seval,d]) ?_
    refine .q ?_;refine .text ?_;simp (disch:=first|exact za|fail) only [go_sem,seval,hc]
    refine .q ?_;refine .text ?_;simp (disch:=first|exact za|fail) only [go_sem,seval,hc]
    refine .q ?_;refine .text ?_;simp (disch:=first|exact za|fail) only [go_sem,seval]
    refine .q ?_;refine .rt Tryz.func75 (by rw [Tryz.results75]) (hR := ?_);simp (disch:=first|exact za|fail) only [go_sem,seval]
    exact h
  · rw [if_neg c] at h
    simp only [Bool.not_false] at h
    have d:decide ((rest.length:Int) < (n:Int))=true:=decide_eq_true (by omega)
    refine .q ?_;refine .ifT (by simp (disch:=first|exact za|fail) only [go_sem,seval,d]) ?_
    refine .q ?_;refine .text ?_;simp (disch:=first|exact za|fail) only [go_sem,seval,hc]
    refine .q ?_;refine .text ?_;simp (disch:=first|exact za|fail) only [go_sem,seval]
    refine .q ?_;refine .frzS 4 (by simp (disch:=first|exact za|fail) only [go_sem,seval];rfl) (by simp (disch:=first|exact za|fail) only [go_sem,seval]<;>rfl) (fun _=>rfl) (by first | exact za | fail) ?_;(try simp (disch:=first|exact za|fail) only [go_sem,seval])
    refine .q ?_;refine .rt Tryz.func75 (by rw [Tryz.results75]) (hR := ?_);simp (disch:=first|exact za|fail) only [go_sem,seval]
    exact h
theorem zjm {b:By} {i:Nat} (hi:i < b.length) (h7:i≤7):rd (b.take i)+(nth b i).setWidth 64 <<< (8*i)=rd (b.take (i+1)):=by
 have hl:(b.take i).length=i:=by rw [List.length_take];omega
 have:=zyu (c:=nth b i) (l:=b.take i) (by omega)
 rw [hl] at this
 rw [zX hi,this]
set_option maxHeartbeats 4000000 in
theorem zdG (st:By × Bool) (hr:st.1.length≤140737488355000) (n:Nat) (hn:n≤8) (cb:Nat) (H:Hp) (hc:H.f cb=some (.cells (rcl st))) (R:AV → Hp → Prop)
 (h:R (.p (zw (rd (rk st n).1))) (H.set cb (.cells (rcl (rk st n).2)))) :
 ACall Tryz.prog G 74 [.ptr cb 0,.p (i64 n)] H R:=by
 have hcn:=Hp.lt hc
 have hl:=zaP (st:=st) (n:=n)
 refine ACall.of_run (raw:=[]) Tryz.func74 rfl Tryz.ntmps74 (by simp) fun hbel => ?_
 refine .q ?_;refine .text ?_;simp (disch:=first|exact za|fail) only [go_sem,seval]
 refine .q ?_;refine .text ?_;simp (disch:=first|exact za|fail) only [go_sem,seval]
 refine CallK.of (fun R h=>zfa st hr n (by omega) cb _ hc R h) ?_;simp (disch:=first|exact za|fail) only [go_sem,seval]
 generalize (rk st n).1=b at *
 have hbel:Bel H.n (H.set cb (.cells (rcl (rk st n).2))):=zvZ hbel
 generalize AB.cells (rcl (rk st n).2)=rc at *
 refine .q ?_;refine .text ?_;simp (disch:=first|exact za|fail) only [go_sem,seval]
 refine .q ?_;refine .loopE [1,5] (fun i=>[(6,.p (zw (rd (b.take i)))),(7,.p (i64 i))]) (fun i=>[]) (fun i=>True) (0) (n) (by omega) ?_ (by first | rfl | (simp (disch:=first|exact za|fail) only [go_sem,seval,List.take_zero,rd]<;>rfl)) ?_ ?_ ?_
 · simp (disch:=first|exact za|fail) only [go_sem,seval,List.take_zero,rd]<;>(repeat' (first | rfl | refine And.intro ?_ ?_))
 · exact trivial
 intro env E hQ;simp (disch:=first|exact za|fail) only [go_sem,seval,List.take_zero,rd] at E
 rotate_left 1
 intro i env hi0 hi E hQ ihE;simp (disch:=first|exact za|fail) only [go_sem,seval,List.take_zero,rd] at E
 rotate_left 1
 · have hbt:b.take n=b:=List.take_of_length_le (by omega)
   refine .q ?_;refine .text ?_;simp (disch:=first|exact za|fail) only [go_sem,seval,E,hbt]
   refine .q ?_;refine .ifF (by simp (disch:=first|exact za|fail) only [go_sem,seval]) ?_
   refine .q ?_;refine .text ?_;simp (disch:=first|exact za|fail) only [go_sem,seval,E,hbt]
   refine .q ?_;refine .rt Tryz.func74 (by rw [Tryz.results74]) (hx:=by simp (disch:=first|exact za|fail) only [go_sem,seval,E];rfl) (hR := ?_);simp (disch:=first|exact za|fail) only [go_sem,seval,E]
   exact h
 · obtain⟨k,hk,h8⟩ : ∃ k:Nat,8*i=k∧(8:Int)*(i:Int)=(k:Int):=⟨8*i,rfl,by omega⟩
   have hs:=zjm (b:=b) (i:=i) (by omega) (by omega)
   rw [hk] at hs
   refine .q ?_;refine .text ?_;simp (disch:=first|exact za|fail) only [go_sem,seval,E]
   refine .q ?_;refine .ifT (by simp (disch:=first|exact za|fail) only [go_sem,seval]) ?_
   refine .q ?_;refine .text ?_;simp (disch:=first|exact za|fail) only [go_sem,seval,E,h8,hl]
   refine .q ?_;refine .text ?_;simp (disch:=first|exact za|fail) only [go_sem,seval,E]
   first | (refine ihE _ _ ?_ trivial ?_) | (refine .z rfl ?_;refine ihE _ _ ?_ trivial ?_) | (refine .z rfl ?_;refine .z rfl ?_;refine ihE _ _ ?_ trivial ?_) | (refine .z rfl ?_;refine .z rfl ?_;refine .z rfl ?_;refine ihE _ _ ?_ trivial ?_)
   · simp (disch:=first|exact za|fail) only [go_sem,seval,E,hs]<;>(repeat' (first | rfl | refine And.intro ?_ ?_))
   · first | rfl | (simp (disch:=first|exact za|fail) only [go_sem,seval,E,hs]<;>(try rfl))
end walks
end Go.Proofs.YtgflpgcogkdpgaaGreatDoor

/-
  Sessions: the reference's decoding,walked.
-/
namespace Go.Proofs.YtgflpgcogkdpgaaGreatDoor
open Go Go.AL

theorem zyv {k s t:Int} {tx r:By} {S V:AV} {i:Nat} {x:BitVec 8} (h:r.length=32) (hi:i < 32):(mG k s t tx r S V).set (4+i) (.p (b8 x))=mG k s t tx (r.set i x) S V:=by
 unfold mG
 rw [show 4+i=i+1+1+1+1 by omega]
 simp only [List.set_cons_succ]
 rw [List.set_append_left _ _ (by rw [zak];omega)]
 simp only [cl,List.map_set]
def mix (r:By) (i:Nat):By:=r.take i++List.replicate (32 - i) 0#8
theorem zyw {r:By} {i:Nat} (h:r.length=32) (hi:i≤32):(mix r i).length=32:=by simp [mix,h];omega
theorem zyx {r:By} {i:Nat} (h:r.length=32) (hi:i < 32):(mix r i).set i (nth r i)=mix r (i+1):=by
 unfold mix
 have hl:(r.take i).length=i:=by rw [List.length_take];omega
 rw [List.set_append_right _ _ (by omega),hl,Nat.sub_self,show 32 - i=32 - (i+1)+1 by omega,List.replicate_succ,List.set_cons_zero,zX (by omega)]
 simp
theorem zyy {r:By} (h:r.length=32):mix r 32=r:=by simp [mix,List.take_of_length_le (Nat.le_of_eq h)]
theorem zv0 {r:By}:mix r 0=List.replicate 32 0#8:=by simp [mix]

theorem zyz {x y:PV}:zi (.p (.agg [x,y]))=some [.p x,.p y]:=rfl
theorem zAI {x y:PV}:zq [.p x,.p y] = .p (.agg [x,y]):=rfl
def mQ (k s t:Int):PV := .agg ([i64 k,i64 s,i64 t,str (bytesOf [])]++(pl b8 (List.replicate 32 0#8)++[.sl true 1 [],.sl true 2 []]))
theorem zAJ {k s t:Int}:zq (AV.p (i64 k) :: AV.p (i64 s) :: AV.p (i64 t) :: AV.p (str ByteArray.empty) :: List.map AV.p (pl b8 (List.replicate 32 0#8)++[PV.sl true 1 [],PV.sl true 2 []])) = .p (mQ k s t):=by
 simp only [←List.map_cons,zq,zdF]
 rfl
theorem zv1 {k s t:Int}:zi (.p (mQ k s t))=some (mG k s t [] (List.replicate 32 0#8) (.p (.sl true 1 [])) (.p (.sl true 2 []))):=by
 show some ((_:List PV).map AV.p)=_
 simp [mG,cl,pl]
theorem zAK {k s t:Int}:setAt (AV.p (i64 0) :: AV.p (i64 0) :: AV.p (i64 0) :: AV.p (str ByteArray.empty) :: List.map AV.p (pl b8 (List.replicate 32 0#8)++[PV.sl true 1 [],PV.sl true 2 []])) 0 (mG k s t [] (List.replicate 32 0#8) (.p (.sl true 1 [])) (.p (.sl true 2 [])))=mG k s t [] (List.replicate 32 0#8) (.p (.sl true 1 [])) (.p (.sl true 2 [])):=rfl
theorem zAL:(AV.p (i64 0) :: AV.p (i64 0) :: AV.p (i64 0) :: AV.p (str ByteArray.empty) :: List.map AV.p (pl b8 (List.replicate 32 0#8)++[PV.sl true 1 [],PV.sl true 2 []])).length=38:=rfl
def mZ:List AV:=mG 0 0 0 [] (List.replicate 32 0#8) (.p (.sl true 1 [])) (.p (.sl true 2 []))
def dQ (H:Hp) (st:By × Bool):Hp:=(H.new (.cells mZ)).new (.cells (rcl st))
def dP (H:Hp) (mc:List AV) (st:By × Bool):Hp:=(dQ H st).new (.cells mc)
def dR (H:Hp) (mc:List AV) (st:By × Bool) (i j:Nat):Hp:=((dP H mc st).new (.tail i)).new (.tail j)
section dr
variable {H:Hp} {mc mc':List AV} {st st':By × Bool} {i j k:Nat}
theorem zCN:(dQ H st).n=H.n+2:=by simp [dQ,Hp.n_new]
theorem zzG:(dQ H st).f (H.n+1)=some (.cells (rcl st)):=by simp (disch:=first|exact za|fail) only [dQ,go_sem,seval]
theorem zyA:(dQ H st).set (H.n+1) (.cells (rcl st'))=dQ H st':=by simp (disch:=first|exact za|fail) only [dQ,go_sem,seval]
theorem zEe:(dR H mc st i j).n=H.n+5:=by simp [dR,dP,zCN,Hp.n_new]
theorem zCO:(dR H mc st i j).f H.n=some (.cells mZ):=by simp (disch:=first|exact za|fail) only [dR,dP,dQ,go_sem,seval]
theorem zpB:(dR H mc st i j).f (H.n+1)=some (.cells (rcl st)):=by simp (disch:=first|exact za|fail) only [dR,dP,dQ,go_sem,seval]
theorem zCP:(dR H mc st i j).f (H.n+2)=some (.cells mc):=by simp (disch:=first|exact za|fail) only [dR,dP,dQ,go_sem,seval]
theorem zCQ:(dR H mc st i j).f (H.n+3)=some (.tail i):=by simp (disch:=first|exact za|fail) only [dR,dP,dQ,go_sem,seval]
theorem zCR:(dR H mc st i j).f (H.n+4)=some (.tail j):=by simp (disch:=first|exact za|fail) only [dR,dP,dQ,go_sem,seval]
theorem zjn:(dR H mc st i j).set (H.n+1) (.cells (rcl st'))=dR H mc st' i j:=by simp (disch:=first|exact za|fail) only [dR,dP,dQ,go_sem,seval]
theorem zyB:(dR H mc st i j).set (H.n+2) (.cells mc')=dR H mc' st i j:=by simp (disch:=first|exact za|fail) only [dR,dP,dQ,go_sem,seval]
theorem zyC:(dR H mc st i j).set (H.n+3) (.tail k)=dR H mc st k j:=by simp (disch:=first|exact za|fail) only [dR,dP,dQ,go_sem,seval]
theorem zyD:(dR H mc st i j).set (H.n+4) (.tail k)=dR H mc st i k:=by simp (disch:=first|exact za|fail) only [dR,dP,dQ,go_sem,seval]
theorem zv2:(dR H mc st i j).trunc H.n=H:=by simp (disch:=first|exact za|fail) only [dR,dP,dQ,go_sem,seval]
theorem zAM (h:Bel H.n H):Bel H.n (dR H mc st i j):=by
 unfold dR dP dQ
 exact zv (zv (zv (zv (zv h (Nat.le_refl _)) (by simp only [n_new'];omega)) (by simp only [n_new'];omega)) (by simp only [n_new'];omega)) (by simp only [n_new'];omega)
end dr
attribute [go_sem] zCN zzG zEe zCO zpB zCP zCQ zCR zjn zyB zyC zyD zv2
section walks
variable {G:Globs}
theorem zAN (st:By × Bool) (hr:st.1.length≤140737488355000) (n:Nat) (hn:n≤8) (H:Hp) (R:AV → Hp → Prop) (h:R (.p (zw (rd (rk st n).1))) (dQ H (rk st n).2)):ACall Tryz.prog G 74 [.ptr (H.n+1) 0,.p (i64 n)] (dQ H st) R :=
 zdG st hr n hn (H.n+1) _ zzG R (by rw [zyA];exact h)
theorem zrS (st:By × Bool) (hr:st.1.length≤140737488355000) (n:Nat) (hn:n≤8) (H:Hp) (mc:List AV) (i j:Nat) (R:AV → Hp → Prop) (h:R (.p (zw (rd (rk st n).1))) (dR H mc (rk st n).2 i j)):ACall Tryz.prog G 74 [.ptr (H.n+1) 0,.p (i64 n)] (dR H mc st i j) R :=
 zdG st hr n hn (H.n+1) _ zpB R (by rw [zjn];exact h)
theorem zv3 (st:By × Bool) (hr:st.1.length≤140737488355000) (n:Nat) (hn:n≤100000) (H:Hp) (mc:List AV) (i j:Nat) (R:AV → Hp → Prop) (h:R (.p (.sl false 1 (pl b8 (rk st n).1))) (dR H mc (rk st n).2 i j)):ACall Tryz.prog G 75 [.ptr (H.n+1) 0,.p (i64 n)] (dR H mc st i j) R :=
 zfa st hr n hn (H.n+1) _ zpB R (by rw [zjn];exact h)
set_option maxHeartbeats 16000000 in
set_option maxRecDepth 20000 in
theorem zhC (b:By) (hb:b.length≤140737488355000) (H:Hp) (R:AV → Hp → Prop) (h:R (.tup [.p (ym (dec b).1),.p (i64 (dec b).2)]) H):ACall Tryz.prog G 53 [.p (.sl false 1 (pl b8 b))] H R:=by
 have hz:(List.replicate 32 0#8:By).length=32:=List.length_replicate
 rw [←zyt] at h
 unfold decE at h
 refine ACall.of_run (raw:=[]) Tryz.func53 rfl Tryz.ntmps53 (by simp) fun hbel => ?_
 refine .q ?_;refine .text ?_;simp (disch:=first|exact za|fail) only [go_sem,seval,-List.reduceReplicate]
 refine .q ?_;refine .text ?_;simp (disch:=first|exact za|fail) only [go_sem,seval,-List.reduceReplicate,zyz,zAI]
 change ARun _ _ _ (dQ H (b,true)) R
 -- the head
 have k1:(rk (b,true) 1).1.length=1:=zaP
 have q1:=zcJ (st:=(b,true)) (n:=1)
 simp only at q1
 have b1:=zjf (b:=(rk (b,true) 1).1) (by omega)
 have w1:=wrap_small (n:=(rd (rk (b,true) 1).1).toNat) (by omega)
 refine .q ?_;refine .text ?_;simp (disch:=first|exact za|fail) only [go_sem,seval,-List.reduceReplicate]
 refine CallK.of (fun R h=>zAN (b,true) hb 1 (by omega) H R h) ?_;simp (disch:=first|exact za|fail) only [go_sem,seval,-List.reduceReplicate,w1]
 generalize (rk (b,true) 1).2=s1 at *
 generalize rd (rk (b,true) 1).1=kd at *
 clear k1
 unfold eE at h
 have k2:(rk s1 4).1.length=4:=zaP
 have q2:=zcJ (st:=s1) (n:=4)
 have b2:=zeP (b:=(rk s1 4).1) (by omega)
 have w2:=wrap_small (n:=(rd (rk s1 4).1).toNat) (by omega)
 refine CallK.of (fun R h=>zAN s1 (by omega) 4 (by omega) H R h) ?_;simp (disch:=first|exact za|fail) only [go_sem,seval,-List.reduceReplicate,w2]
 generalize (rk s1 4).2=s2 at *
 generalize rd (rk s1 4).1=se at *
 clear k2
 unfold eS at h
 have k3:(rk s2 4).1.length=4:=zaP
 have q3:=zcJ (st:=s2) (n:=4)
 have b3:=zeP (b:=(rk s2 4).1) (by omega)
 have w3:=wrap_small (n:=(rd (rk s2 4).1).toNat) (by omega)
 refine CallK.of (fun R h=>zAN s2 (by omega) 4 (by omega) H R h) ?_;simp (disch:=first|exact za|fail) only [go_sem,seval,-List.reduceReplicate,w3,zAJ,zv1,zAK,zAL,hz]
 generalize (rk s2 4).2=s3 at *
 generalize rd (rk s2 4).1=sp at *
 clear k3
 unfold e0 at h
 refine .ownC (H.n+2) 36 (by simp (disch:=first|exact za|fail) only [go_sem,seval,-List.reduceReplicate]<;>rfl) (zgR hz) ?_
 simp (disch:=first|exact za|fail) only [go_sem,seval,-List.reduceReplicate,hz]
 refine .ownC (H.n+2) 37 (by simp (disch:=first|exact za|fail) only [go_sem,seval,-List.reduceReplicate]<;>rfl) (zgS hz) ?_
 simp (disch:=first|exact za|fail) only [go_sem,seval,-List.reduceReplicate,hz]
 change ARun _ _ _ (dR H (mG kd.toNat se.toNat sp.toNat [] (List.replicate 32 0#8) (.sl (H.n+3) 0 1 []) (.sl (H.n+4) 0 2 [])) s3 0 0) R
 -- the root
 have k4:(rk s3 32).1.length=32:=zaP
 have q4:=zcJ (st:=s3) (n:=32)
 refine .q ?_;refine .text ?_;simp (disch:=first|exact za|fail) only [go_sem,seval,-List.reduceReplicate]
 refine CallK.of (fun R h=>zv3 s3 (by omega) 32 (by omega) H _ _ _ R h) ?_;simp (disch:=first|exact za|fail) only [go_sem,seval,-List.reduceReplicate]
 generalize (rk s3 32).2=s4 at *
 generalize (rk s3 32).1=ro at *
 unfold e1 at h
 refine .q ?_;refine .text ?_;simp (disch:=first|exact za|fail) only [go_sem,seval,-List.reduceReplicate]
 rw [←zv0 (r:=ro)]
 refine .q ?_;refine .loopH [0,2,4,5,6] (fun i=>[(7,.p (i64 i))]) (fun i=>dR H (mG kd.toNat se.toNat sp.toNat [] (mix ro i) (.sl (H.n+3) 0 1 []) (.sl (H.n+4) 0 2 [])) s4 0 0) (fun i=>True) (0) (32) (by omega) ?_ (by first | rfl | (simp (disch:=first|exact za|fail) only [go_sem,seval,-List.reduceReplicate]<;>rfl)) ?_ ?_ ?_
 · simp (disch:=first|exact za|fail) only [go_sem,seval,-List.reduceReplicate]<;>(repeat' (first | rfl | refine And.intro ?_ ?_))
 · exact trivial
 intro env A hQ;simp (disch:=first|exact za|fail) only [go_sem,seval,-List.reduceReplicate] at A
 rotate_left 1
 intro i env hi0 hi A hQ ihA;simp (disch:=first|exact za|fail) only [go_sem,seval,-List.reduceReplicate] at A
 rotate_left 1
 · refine .q ?_;refine .text ?_;simp (disch:=first|exact za|fail) only [go_sem,seval,-List.reduceReplicate,A]
   refine .q ?_;refine .ifF (by simp (disch:=first|exact za|fail) only [go_sem,seval,-List.reduceReplicate]) ?_
   refine .q ?_;refine .text ?_;simp (disch:=first|exact za|fail) only [go_sem,seval,-List.reduceReplicate,A]
   rw [zyy k4]
   -- the text
   have k5:(rk s4 2).1.length=2:=zaP
   have q5:=zcJ (st:=s4) (n:=2)
   have b5:(rd (rk s4 2).1).toNat < 65536:=zjf (by omega)
   have w5:=wrap_small (n:=(rd (rk s4 2).1).toNat) (by omega)
   refine CallK.of (fun R h=>zrS s4 (by omega) 2 (by omega) H _ _ _ R h) ?_;simp (disch:=first|exact za|fail) only [go_sem,seval,-List.reduceReplicate,w5]
   generalize (rk s4 2).2=s5 at *
   generalize (rd (rk s4 2).1).toNat=tl at *
   clear k5
   unfold e2 at h
   have k6:(rk s5 tl).1.length=tl:=zaP
   have q6:=zcJ (st:=s5) (n:=tl)
   refine CallK.of (fun R h=>zv3 s5 (by omega) tl (by omega) H _ _ _ R h) ?_;simp (disch:=first|exact za|fail) only [go_sem,seval,-List.reduceReplicate,zaI,A]
   generalize (rk s5 tl).2=s6 at *
   generalize (rk s5 tl).1=tx at *
   unfold e3 at h
   -- the sums
   have k7:(rk s6 1).1.length=1:=zaP
   have q7:=zcJ (st:=s6) (n:=1)
   have b7:(rd (rk s6 1).1).toNat < 256:=by
    rw [rd1 k7];exact (nth (rk s6 1).1 0).isLt
   have w7:=wrap_small (n:=(rd (rk s6 1).1).toNat) (by omega)
   refine .q ?_;refine .text ?_;simp (disch:=first|exact za|fail) only [go_sem,seval,-List.reduceReplicate,A]
   refine CallK.of (fun R h=>zrS s6 (by omega) 1 (by omega) H _ _ _ R h) ?_;simp (disch:=first|exact za|fail) only [go_sem,seval,-List.reduceReplicate,w7]
   generalize (rk s6 1).2=s7 at *
   generalize (rd (rk s6 1).1).toNat=c1 at *
   clear k7
   unfold e4 at h
   refine .q ?_;refine .text ?_;simp (disch:=first|exact za|fail) only [go_sem,seval,-List.reduceReplicate,A]
   refine .q ?_;refine .loopH [0,2,4,5,8] (fun i=>[(9,.p (i64 i))]) (fun i=>dR H (mG kd.toNat se.toNat sp.toNat tx ro (.sl (H.n+3) i 1 (pl i64 ((wR s7 i).1.map toI))) (.sl (H.n+4) 0 2 [])) (wR s7 i).2 i 0) (fun i=>True) (0) (c1) (by omega) ?_ (by first | rfl | (simp (disch:=first|exact za|fail) only [go_sem,seval,-List.reduceReplicate,A,wR,List.map_nil]<;>rfl)) ?_ ?_ ?_
   · simp (disch:=first|exact za|fail) only [go_sem,seval,-List.reduceReplicate,A,wR,List.map_nil]<;>(repeat' (first | rfl | refine And.intro ?_ ?_))
   · exact trivial
   intro env E hQ;simp (disch:=first|exact za|fail) only [go_sem,seval,-List.reduceReplicate,A,wR,List.map_nil] at E
   rotate_left 1
   intro i env hi0 hi E hQ ihE;simp (disch:=first|exact za|fail) only [go_sem,seval,-List.reduceReplicate,A,wR,List.map_nil] at E
   rotate_left 1
   · have q8:=zvX (st:=s7) (c:=c1)
     have k8:((wR s7 c1).1.map toI).length=c1:=by rw [List.length_map,zn4]
     generalize (wR s7 c1).2=s8 at *
     refine .q ?_;refine .text ?_;simp (disch:=first|exact za|fail) only [go_sem,seval,-List.reduceReplicate,E]
     refine .q ?_;refine .ifF (by simp (disch:=first|exact za|fail) only [go_sem,seval,-List.reduceReplicate]) ?_
     refine .q ?_;refine .text ?_;simp (disch:=first|exact za|fail) only [go_sem,seval,-List.reduceReplicate,E]
     unfold e5 at h
     -- the values
     have k9:(rk s8 1).1.length=1:=zaP
     have q9:=zcJ (st:=s8) (n:=1)
     have b9:(rd (rk s8 1).1).toNat < 256:=by
      rw [rd1 k9];exact (nth (rk s8 1).1 0).isLt
     have w9:=wrap_small (n:=(rd (rk s8 1).1).toNat) (by omega)
     refine CallK.of (fun R h=>zrS s8 (by omega) 1 (by omega) H _ _ _ R h) ?_;simp (disch:=first|exact za|fail) only [go_sem,seval,-List.reduceReplicate,w9]
     generalize (rk s8 1).2=s9 at *
     generalize (rd (rk s8 1).1).toNat=c2 at *
     clear k9
     unfold e6 at h
     refine .q ?_;refine .text ?_;simp (disch:=first|exact za|fail) only [go_sem,seval,-List.reduceReplicate,E]
     have hbs:(wR s7 c1).1.map toI=(wR s7 c1).1.map toI:=rfl
     generalize hus:(wR s7 c1).1=ws at *
     refine .q ?_;refine .loopH [0,2,4,5,8] (fun i=>[(10,.p (i64 i))]) (fun i=>dR H (mG kd.toNat se.toNat sp.toNat tx ro (.sl (H.n+3) c1 1 (pl i64 (ws.map toI))) (.sl (H.n+4) i 2 (pl ext (vR s9 i).1))) (vR s9 i).2 c1 i) (fun i=>True) (0) (c2) (by omega) ?_ (by first | rfl | (simp (disch:=first|exact za|fail) only [go_sem,seval,-List.reduceReplicate,A,E,vR]<;>rfl)) ?_ ?_ ?_
     · simp (disch:=first|exact za|fail) only [go_sem,seval,-List.reduceReplicate,A,E,vR]<;>(repeat' (first | rfl | refine And.intro ?_ ?_))
     · exact trivial
     intro env F hQ;simp (disch:=first|exact za|fail) only [go_sem,seval,-List.reduceReplicate,A,E,vR] at F
     rotate_left 1
     intro i env hi0 hi F hQ ihF;simp (disch:=first|exact za|fail) only [go_sem,seval,-List.reduceReplicate,A,E,vR] at F
     rotate_left 1
     · have q10:=zvY (st:=s9) (c:=c2)
       have k10:(vR s9 c2).1.length=c2:=zn5
       generalize (vR s9 c2).2=s10 at *
       generalize (vR s9 c2).1=vs at *
       refine .q ?_;refine .text ?_;simp (disch:=first|exact za|fail) only [go_sem,seval,-List.reduceReplicate,F]
       refine .q ?_;refine .ifF (by simp (disch:=first|exact za|fail) only [go_sem,seval,-List.reduceReplicate]) ?_
       refine .q ?_;refine .text ?_;simp (disch:=first|exact za|fail) only [go_sem,seval,-List.reduceReplicate,F]
       unfold e7 at h
       refine CallK.of (fun R h=>zv3 s10 (by omega) 8 (by omega) H _ _ _ R h) ?_;simp (disch:=first|exact za|fail) only [go_sem,seval,-List.reduceReplicate]
       generalize (rk s10 8).2=s11 at *
       have hbel:Bel H.n (dR H (mG kd.toNat se.toNat sp.toNat tx ro (.sl (H.n+3) c1 1 (pl i64 (ws.map toI))) (.sl (H.n+4) c2 2 (pl ext vs))) s11 c1 c2):=zAM hbel
       have hf1:(dR H (mG kd.toNat se.toNat sp.toNat tx ro (.sl (H.n+3) c1 1 (pl i64 (ws.map toI))) (.sl (H.n+4) c2 2 (pl ext vs))) s11 c1 c2).f (H.n+1)=some (.cells [.p (.sl false 1 (pl b8 s11.1)),.p (bo (!s11.2))]):=zpB
       unfold zyp at h
       simp only at h
       cases hok:s11.2 with
       | false =>
        rw [hok,if_pos rfl] at h
        rw [hok] at hf1
        refine .q ?_;refine .text ?_;simp (disch:=first|exact za|fail) only [go_sem,seval,-List.reduceReplicate,F,E,A,hf1]
        refine .q ?_;refine .ifT (by simp (disch:=first|exact za|fail) only [go_sem,seval,-List.reduceReplicate]) ?_
        refine .q ?_;refine .text ?_;simp (disch:=first|exact za|fail) only [go_sem,seval,-List.reduceReplicate,F,E,A,hz,mZ]
        refine .q ?_;refine .rt Tryz.func53 (by rw [Tryz.results53]) (hx:=by simp (disch:=first|exact za|fail) only [go_sem,seval,-List.reduceReplicate,F,E,A,hz,mZ];rfl) (hR := ?_);simp (disch:=first|exact za|fail) only [go_sem,seval,-List.reduceReplicate,F,E,A,hz,mZ]
        exact h
       | true =>
        rw [hok] at h hf1
        simp only [Bool.true_eq_false,if_false] at h
        refine .q ?_;refine .text ?_;simp (disch:=first|exact za|fail) only [go_sem,seval,-List.reduceReplicate,F,E,A,hf1]
        refine .q ?_;refine .ifF (by simp (disch:=first|exact za|fail) only [go_sem,seval,-List.reduceReplicate]) ?_
        have hM:(⟨kd.toNat,se.toNat,sp.toNat,tx,⟨ro,k4⟩,ws.map toI,vs⟩:Msg).Ok:=⟨⟨by show (_:Int)≤(kd.toNat:Int);omega,by show (kd.toNat:Int)≤_;omega⟩,⟨by show (_:Int)≤(se.toNat:Int);omega,by show (se.toNat:Int)≤_;omega⟩,⟨by show (_:Int)≤(sp.toNat:Int);omega,by show (sp.toNat:Int)≤_;omega⟩,by show tx.length≤_;omega,by show (ws.map toI).length≤_;omega,by show vs.length≤_;omega⟩
        have hagg:=zn1 (k:=kd.toNat) (s:=se.toNat) (t:=sp.toNat) (tx:=tx) (a:=H.n+3) (v:=c1) (a':=H.n+4) (v':=c2) (su:=ws.map toI) (va:=vs) k4
        rw [zn3 k4] at h
        generalize (⟨kd.toNat,se.toNat,sp.toNat,tx,⟨ro,k4⟩,ws.map toI,vs⟩:Msg)=M at *
        by_cases hr:s11.1=[]
        · have d:decide ((0:Int) < (s11.1.length:Int))=false:=by rw [hr];rfl
          refine .q ?_;refine .text ?_;simp (disch:=first|exact za|fail) only [go_sem,seval,-List.reduceReplicate,F,E,A,hf1,d,hagg]
          refine CallK.of (fun R h=>zaU M hM _ R h) ?_;simp (disch:=first|exact za|fail) only [go_sem,seval,-List.reduceReplicate,F,E,A]
          have hel:(enc M).length≤140737488355000:=by
           cases hv:valid M with
           | true =>
            have:=zde hv
            have:=zdu hv
            omega
           | false=>rw [enc,hv];simp
          refine CallK.of (fun R h=>zgG (enc M) b hel hb _ R h) ?_;simp (disch:=first|exact za|fail) only [go_sem,seval,-List.reduceReplicate]
          by_cases he:enc M=b
          · rw [if_pos ⟨hr,he⟩] at h
            have d:decide (enc M=b)=true:=decide_eq_true he
            simp (disch:=first|exact za|fail) only [go_sem,seval,-List.reduceReplicate,d]
            refine .q ?_;refine .ifF (by simp (disch:=first|exact za|fail) only [go_sem,seval,-List.reduceReplicate]) ?_
            refine .q ?_;refine .text ?_;simp (disch:=first|exact za|fail) only [go_sem,seval,-List.reduceReplicate,F,E,A,hagg,mZ]
            refine .q ?_;refine .rt Tryz.func53 (by rw [Tryz.results53]) (hx:=by simp (disch:=first|exact za|fail) only [go_sem,seval,-List.reduceReplicate,F,E,A,hz,mZ];rfl) (hR := ?_);simp (disch:=first|exact za|fail) only [go_sem,seval,-List.reduceReplicate,F,E,A,hz,mZ]
            exact h
          · rw [if_neg (fun q=>he q.2)] at h
            have d:decide (enc M=b)=false:=decide_eq_false he
            simp (disch:=first|exact za|fail) only [go_sem,seval,-List.reduceReplicate,d]
            refine .q ?_;refine .ifT (by simp (disch:=first|exact za|fail) only [go_sem,seval,-List.reduceReplicate]) ?_
            refine .q ?_;refine .text ?_;simp (disch:=first|exact za|fail) only [go_sem,seval,-List.reduceReplicate,F,E,A,hz,mZ]
            refine .q ?_;refine .rt Tryz.func53 (by rw [Tryz.results53]) (hx:=by simp (disch:=first|exact za|fail) only [go_sem,seval,-List.reduceReplicate,F,E,A,hz,mZ];rfl) (hR := ?_);simp (disch:=first|exact za|fail) only [go_sem,seval,-List.reduceReplicate,F,E,A,hz,mZ]
            exact h
        · have d:decide ((0:Int) < (s11.1.length:Int))=true:=decide_eq_true (by have:s11.1.length≠0:=fun q=>hr (List.eq_nil_of_length_eq_zero q);omega)
          rw [if_neg (fun q=>hr q.1)] at h
          refine .q ?_;refine .text ?_;simp (disch:=first|exact za|fail) only [go_sem,seval,-List.reduceReplicate,F,E,A,hf1,d]
          refine .q ?_;refine .ifT (by simp (disch:=first|exact za|fail) only [go_sem,seval,-List.reduceReplicate]) ?_
          refine .q ?_;refine .text ?_;simp (disch:=first|exact za|fail) only [go_sem,seval,-List.reduceReplicate,F,E,A,hz,mZ]
          refine .q ?_;refine .rt Tryz.func53 (by rw [Tryz.results53]) (hx:=by simp (disch:=first|exact za|fail) only [go_sem,seval,-List.reduceReplicate,F,E,A,hz,mZ];rfl) (hR := ?_);simp (disch:=first|exact za|fail) only [go_sem,seval,-List.reduceReplicate,F,E,A,hz,mZ]
          exact h
     · have hst:vR s9 (i+1)=((vR s9 i).1++[⟨rd (rk (vR s9 i).2 8).1,rd (rk (rk (vR s9 i).2 8).2 8).1⟩],(rk (rk (vR s9 i).2 8).2 8).2):=rfl
       rw [hst] at ihF
       have k10:(vR s9 i).1.length=i:=zn5
       have q10:=zvY (st:=s9) (c:=i)
       generalize (vR s9 i).2=s10 at *
       generalize (vR s9 i).1=vs at *
       have q11:=zcJ (st:=s10) (n:=8)
       have na : ∀ mc j l R,R (.p (zw (rd (rk s10 8).1))) (dR H mc (rk s10 8).2 j l) → ACall Tryz.prog G 74 [.ptr (H.n+1) 0,.p (i64 8)] (dR H mc s10 j l) R:=fun mc j l R h=>zrS s10 (by omega) 8 (by omega) H mc j l R h
       generalize (rk s10 8).2=s11 at *
       generalize rd (rk s10 8).1=xa at *
       have nb : ∀ mc j l R,R (.p (zw (rd (rk s11 8).1))) (dR H mc (rk s11 8).2 j l) → ACall Tryz.prog G 74 [.ptr (H.n+1) 0,.p (i64 8)] (dR H mc s11 j l) R:=fun mc j l R h=>zrS s11 (by omega) 8 (by omega) H mc j l R h
       generalize (rk s11 8).2=s12 at *
       generalize rd (rk s11 8).1=xb at *
       generalize ws.map toI=us at *
       refine .q ?_;refine .text ?_;simp (disch:=first|exact za|fail) only [go_sem,seval,-List.reduceReplicate,F]
       refine .q ?_;refine .ifT (by simp (disch:=first|exact za|fail) only [go_sem,seval,-List.reduceReplicate]) ?_
       (refine .q ?_)
       refine .openInv (fun L env' H'=>kF env' [(0,.p (.sl false 1 (pl b8 b))),(2,.ptr H.n 0),(4,.ptr (H.n+1) 0),(5,.ptr (H.n+2) 0),(8,.p (i64 c2)),(10,.p (i64 i))]∧kI L env' [(0,68,.ptr (H.n+2) 37),(1,69,.sl (H.n+4) i 2 (pl ext vs)),(2,70,.ptr (H.n+1) 0),(3,71,.p (zw xa)),(4,72,.ptr (H.n+1) 0),(5,73,.p (zw xb)),(6,74,.p (ext ⟨xa,xb⟩)),(7,75,.p (.sl true 2 [ext ⟨xa,xb⟩])),(8,76,.sl (H.n+4) (i+1) 2 (pl ext (vs++[⟨xa,xb⟩]))),(9,77,.ptr (H.n+2) 37)]∧(L 3=true → allT L [2])∧(L 5=true → allT L [3,4])∧(L 8=true → allT L [1,5,7])∧(L 10=true → allT L [0,1,2,3,4,5,6,7,8,9])∧H'=(dR H (mG kd.toNat se.toNat sp.toNat tx ro (.sl (H.n+3) c1 1 (pl i64 us)) (if L 10 then .sl (H.n+4) (i+1) 2 (pl ext (vs++[⟨xa,xb⟩])) else .sl (H.n+4) i 2 (pl ext vs))) (if L 5 then s12 else if L 3 then s11 else s10) c1 (if L 8 then i+1 else i))) follows (by kernel_rfl) ?_ ?_ ?_
       · exact⟨(by simp (disch:=first|exact za|fail) only [go_sem,seval,-List.reduceReplicate,kFi,kFn,and_self,F,E,A,k4,k10]),(fun _ _ h=>by cases h),(fun h=>by cases h),(fun h=>by cases h),(fun h=>by cases h),(fun h=>by cases h),(by first | rfl | (simp only [Bool.false_eq_true,if_false];first | rfl | (simp (disch:=first|exact za|fail) only [go_sem,seval,-List.reduceReplicate,F,E,A,k4,k10]<;>rfl)))⟩
       · intro i o L env' H' ho hL hall hI
         obtain⟨KF,KG,m3,m5,m8,m10,rfl⟩:=hI
         rcases i with _ | _ | _ | _ | _ | _ | _ | _ | _ | _ | _ | i
         · cases ho;have f3:=yl KF 3 rfl;refine zg (.ptr (H.n+2) 37) rfl rfl (by simp (disch:=first|exact za|fail) only [go_sem,seval,-List.reduceReplicate,f3,k4,k10]<;>rfl) rfl ?_;exact⟨zT KF,zU KG,ka m3,ka m5,ka m8,ka m10,(by rw [zb (by decide),zb (by decide),zb (by decide),zb (by decide)])⟩
         · cases ho;have d0:=zG KG 0 rfl (kL hall 0 rfl rfl);have n8:=y8 m8 hL;have n10:=y8 m10 hL;refine zg (.sl (H.n+4) i 2 (pl ext vs)) rfl rfl (by simp (disch:=first|exact za|fail) only [go_sem,seval,-List.reduceReplicate,reduceIte,Bool.false_eq_true,if_false,if_true,d0,n8,n10,hL,k4,k10]<;>rfl) rfl ?_;exact⟨zT KF,zU KG,ka m3,ka m5,ka m8,ka m10,(by rw [zb (by decide),zb (by decide),zb (by decide),zb (by decide)])⟩
         · cases ho;have f2:=yl KF 2 rfl;refine zg (.ptr (H.n+1) 0) rfl rfl (by simp (disch:=first|exact za|fail) only [go_sem,seval,-List.reduceReplicate,f2,k4,k10]<;>rfl) rfl ?_;exact⟨zT KF,zU KG,ka m3,ka m5,ka m8,ka m10,(by rw [zb (by decide),zb (by decide),zb (by decide),zb (by decide)])⟩
         · cases ho;have h2:=kL hall 0 rfl rfl;have d2:=zG KG 2 rfl h2;have n5:=y8 m5 hL;have n10:=y8 m10 hL;(try simp only [n5,n10,hL,if_true,if_false,Bool.false_eq_true]);refine yT rfl rfl (by simp (disch:=first|exact za|fail) only [go_sem,seval,-List.reduceReplicate,reduceIte,Bool.false_eq_true,if_false,if_true,d2,n5,n10,hL,k4,k10]<;>rfl) rfl (by simp (disch:=first|exact za|fail) only [go_sem,seval,-List.reduceReplicate,reduceIte,Bool.false_eq_true,if_false,if_true,d2,n5,n10,hL,k4,k10]<;>rfl) (fun R h=>na _ _ _ R h) ?_;exact⟨zT KF,zU KG,(fun _=>kt (ze h2 zz)),ka m5,ka m8,ka m10,(by (have e3:more L 3 3=true:=zF);(have e5:more L 3 5=L 5:=zb (by decide));(have e8:more L 3 8=L 8:=zb (by decide));(have e10:more L 3 10=L 10:=zb (by decide));(try simp only [e3,e5,e8,e10,n5,n10,hL]);first | done | rfl | (simp only [e3,e5,e8,e10,n5,n10,hL,if_true,if_false,Bool.false_eq_true];first | done | rfl | (simp (disch:=first|exact za|fail) only [go_sem,seval,-List.reduceReplicate,e3,e5,e8,e10,n5,n10,hL,k4,k10]<;>rfl)))⟩
         · cases ho;have f2:=yl KF 2 rfl;refine zg (.ptr (H.n+1) 0) rfl rfl (by simp (disch:=first|exact za|fail) only [go_sem,seval,-List.reduceReplicate,f2,k4,k10]<;>rfl) rfl ?_;exact⟨zT KF,zU KG,ka m3,ka m5,ka m8,ka m10,(by rw [zb (by decide),zb (by decide),zb (by decide),zb (by decide)])⟩
         · cases ho;have h4:=kL hall 0 rfl rfl;have d4:=zG KG 4 rfl h4;have h3:=kL hall 1 rfl rfl;have n8:=y8 m8 hL;have n10:=y8 m10 hL;(try simp only [h3,n8,n10,hL,if_true,if_false,Bool.false_eq_true]);refine yT rfl rfl (by simp (disch:=first|exact za|fail) only [go_sem,seval,-List.reduceReplicate,reduceIte,Bool.false_eq_true,if_false,if_true,d4,h3,n8,n10,hL,k4,k10]<;>rfl) rfl (by simp (disch:=first|exact za|fail) only [go_sem,seval,-List.reduceReplicate,reduceIte,Bool.false_eq_true,if_false,if_true,d4,h3,n8,n10,hL,k4,k10]<;>rfl) (fun R h=>nb _ _ _ R h) ?_;exact⟨zT KF,zU KG,ka m3,(fun _=>kt (ze h3 (ze h4 zz))),ka m8,ka m10,(by (have e3:more L 5 3=L 3:=zb (by decide));(have e5:more L 5 5=true:=zF);(have e8:more L 5 8=L 8:=zb (by decide));(have e10:more L 5 10=L 10:=zb (by decide));(try simp only [e3,e5,e8,e10,h3,n8,n10,hL]);first | done | rfl | (simp only [e3,e5,e8,e10,h3,n8,n10,hL,if_true,if_false,Bool.false_eq_true];first | done | rfl | (simp (disch:=first|exact za|fail) only [go_sem,seval,-List.reduceReplicate,e3,e5,e8,e10,h3,n8,n10,hL,k4,k10]<;>rfl)))⟩
         · cases ho;have h3:=kL hall 0 rfl rfl;have d3:=zG KG 3 rfl h3;have h5:=kL hall 1 rfl rfl;have d5:=zG KG 5 rfl h5;have n10:=y8 m10 hL;refine zg (.p (ext ⟨xa,xb⟩)) rfl rfl (by simp (disch:=first|exact za|fail) only [go_sem,seval,-List.reduceReplicate,reduceIte,Bool.false_eq_true,if_false,if_true,d3,d5,h3,h5,n10,hL,k4,k10]<;>rfl) rfl ?_;exact⟨zT KF,zU KG,ka m3,ka m5,ka m8,ka m10,(by rw [zb (by decide),zb (by decide),zb (by decide),zb (by decide)])⟩
         · cases ho;have d6:=zG KG 6 rfl (kL hall 0 rfl rfl);have n8:=y8 m8 hL;have n10:=y8 m10 hL;refine zg (.p (.sl true 2 [ext ⟨xa,xb⟩])) rfl rfl (by simp (disch:=first|exact za|fail) only [go_sem,seval,-List.reduceReplicate,reduceIte,Bool.false_eq_true,if_false,if_true,d6,n8,n10,hL,k4,k10]<;>rfl) rfl ?_;exact⟨zT KF,zU KG,ka m3,ka m5,ka m8,ka m10,(by rw [zb (by decide),zb (by decide),zb (by decide),zb (by decide)])⟩
         · cases ho;have h1:=kL hall 0 rfl rfl;have d1:=zG KG 1 rfl h1;have h7:=kL hall 1 rfl rfl;have d7:=zG KG 7 rfl h7;have h5:=kL hall 2 rfl rfl;have n10:=y8 m10 hL;(try simp only [h5,n10,hL,if_true,if_false,Bool.false_eq_true]);refine za8 (.sl (H.n+4) (i+1) 2 (pl ext (vs++[⟨xa,xb⟩]))) rfl rfl (by simp (disch:=first|exact za|fail) only [go_sem,seval,-List.reduceReplicate,reduceIte,Bool.false_eq_true,if_false,if_true,d1,d7,h5,n10,hL,k4,k10]<;>rfl) rfl ?_;exact⟨zT KF,zU KG,ka m3,ka m5,(fun _=>kt (ze h1 (ze h5 (ze h7 zz)))),ka m10,(by (have e3:more L 8 3=L 3:=zb (by decide));(have e5:more L 8 5=L 5:=zb (by decide));(have e8:more L 8 8=true:=zF);(have e10:more L 8 10=L 10:=zb (by decide));(try simp only [e3,e5,e8,e10,h5,n10,hL]);first | done | rfl | (simp only [e3,e5,e8,e10,h5,n10,hL,if_true,if_false,Bool.false_eq_true];first | done | rfl | (simp (disch:=first|exact za|fail) only [go_sem,seval,-List.reduceReplicate,e3,e5,e8,e10,h5,n10,hL,k4,k10]<;>rfl)))⟩
         · cases ho;have f3:=yl KF 3 rfl;refine zg (.ptr (H.n+2) 37) rfl rfl (by simp (disch:=first|exact za|fail) only [go_sem,seval,-List.reduceReplicate,f3,k4,k10]<;>rfl) rfl ?_;exact⟨zT KF,zU KG,ka m3,ka m5,ka m8,ka m10,(by rw [zb (by decide),zb (by decide),zb (by decide),zb (by decide)])⟩
         · cases ho;have h9:=kL hall 0 rfl rfl;have d9:=zG KG 9 rfl h9;have h8:=kL hall 1 rfl rfl;have d8:=zG KG 8 rfl h8;have h0:=kL hall 3 rfl rfl;have h1:=kL hall 4 rfl rfl;have h2:=kL hall 5 rfl rfl;have h3:=kL hall 6 rfl rfl;have h4:=kL hall 7 rfl rfl;have h5:=kL hall 8 rfl rfl;have h6:=kL hall 9 rfl rfl;have h7:=kL hall 10 rfl rfl;refine yz rfl rfl (by simp (disch:=first|exact za|fail) only [go_sem,seval,-List.reduceReplicate,reduceIte,Bool.false_eq_true,if_false,if_true,d8,d9,h3,h5,h8,hL,k4,k10]<;>rfl) rfl ?_;exact⟨KF,kIs KG,ka m3,ka m5,ka m8,(fun _=>kt (ze h0 (ze h1 (ze h2 (ze h3 (ze h4 (ze h5 (ze h6 (ze h7 (ze h8 (ze h9 zz))))))))))),(by (have e3:more L 10 3=L 3:=zb (by decide));(have e5:more L 10 5=L 5:=zb (by decide));(have e8:more L 10 8=L 8:=zb (by decide));(have e10:more L 10 10=true:=zF);(try simp only [e3,e5,e8,e10,h3,h5,h8,hL]);first | done | rfl | (simp only [e3,e5,e8,e10,h3,h5,h8,hL,if_true,if_false,Bool.false_eq_true];first | done | rfl | (simp (disch:=first|exact za|fail) only [go_sem,seval,-List.reduceReplicate,e3,e5,e8,e10,h3,h5,h8,hL,k4,k10]<;>rfl)))⟩
         · simp at ho
       · intro L env' H' hall hI
         obtain⟨KF,KG,_,_,_,_,rfl⟩:=hI
         have l3:=hall 3 (by decide)
         have l5:=hall 5 (by decide)
         have l8:=hall 8 (by decide)
         have l10:=hall 10 (by decide)
         have f0:=yl KF 0 rfl
         have f1:=yl KF 1 rfl
         have f2:=yl KF 2 rfl
         have f3:=yl KF 3 rfl
         have f4:=yl KF 4 rfl
         have f5:=yl KF 5 rfl
         simp only [l3,l5,l8,l10,if_true]
         clear hall
         refine .q ?_;refine .text ?_;simp (disch:=first|exact za|fail) only [go_sem,seval,-List.reduceReplicate,f5]
         first | (refine ihF _ _ ?_ trivial ?_) | (refine .z rfl ?_;refine ihF _ _ ?_ trivial ?_) | (refine .z rfl ?_;refine .z rfl ?_;refine ihF _ _ ?_ trivial ?_) | (refine .z rfl ?_;refine .z rfl ?_;refine .z rfl ?_;refine ihF _ _ ?_ trivial ?_)
         · simp (disch:=first|exact za|fail) only [go_sem,seval,-List.reduceReplicate,f0,f1,f2,f3,f4,f5,F,E,A]<;>(repeat' (first | rfl | refine And.intro ?_ ?_))
         · first | rfl | (simp (disch:=first|exact za|fail) only [go_sem,seval,-List.reduceReplicate,f0,f1,f2,f3,f4,f5,F,E,A]<;>(try rfl))
   · have hst:wR s7 (i+1)=((wR s7 i).1++[rd (rk (wR s7 i).2 8).1],(rk (wR s7 i).2 8).2):=rfl
     rw [hst,List.map_append] at ihE
     have k8:((wR s7 i).1.map toI).length=i:=by rw [List.length_map,zn4]
     have q8:=zvX (st:=s7) (c:=i)
     generalize (wR s7 i).2=s8 at *
     generalize (wR s7 i).1.map toI=us at *
     have na : ∀ mc j l R,R (.p (zw (rd (rk s8 8).1))) (dR H mc (rk s8 8).2 j l) → ACall Tryz.prog G 74 [.ptr (H.n+1) 0,.p (i64 8)] (dR H mc s8 j l) R:=fun mc j l R h=>zrS s8 (by omega) 8 (by omega) H mc j l R h
     generalize (rk s8 8).2=s9 at *
     generalize rd (rk s8 8).1=x at *
     have htoI:IntKind.i64.wrap (x.toNat:Int)=toI x:=rfl
     refine .q ?_;refine .text ?_;simp (disch:=first|exact za|fail) only [go_sem,seval,-List.reduceReplicate,E]
     refine .q ?_;refine .ifT (by simp (disch:=first|exact za|fail) only [go_sem,seval,-List.reduceReplicate]) ?_
     (refine .q ?_)
     refine .openInv (fun L env' H'=>kF env' [(0,.p (.sl false 1 (pl b8 b))),(2,.ptr H.n 0),(4,.ptr (H.n+1) 0),(5,.ptr (H.n+2) 0),(8,.p (i64 c1)),(9,.p (i64 i))]∧kI L env' [(0,52,.ptr (H.n+2) 36),(1,53,.sl (H.n+3) i 1 (pl i64 us)),(2,54,.ptr (H.n+1) 0),(3,55,.p (zw x)),(4,56,.p (i64 (toI x))),(5,57,.p (.sl true 1 [i64 (toI x)])),(6,58,.sl (H.n+3) (i+1) 1 (pl i64 (us++[toI x]))),(7,59,.ptr (H.n+2) 36)]∧(L 3=true → allT L [2])∧(L 6=true → allT L [1,3,5])∧(L 8=true → allT L [0,1,2,3,4,5,6,7])∧H'=(dR H (mG kd.toNat se.toNat sp.toNat tx ro (if L 8 then .sl (H.n+3) (i+1) 1 (pl i64 (us++[toI x])) else .sl (H.n+3) i 1 (pl i64 us)) (.sl (H.n+4) 0 2 [])) (if L 3 then s9 else s8) (if L 6 then i+1 else i) 0)) follows (by kernel_rfl) ?_ ?_ ?_
     · exact⟨(by simp (disch:=first|exact za|fail) only [go_sem,seval,-List.reduceReplicate,kFi,kFn,and_self,E,A,k4,k8,htoI]),(fun _ _ h=>by cases h),(fun h=>by cases h),(fun h=>by cases h),(fun h=>by cases h),(by first | rfl | (simp only [Bool.false_eq_true,if_false];first | rfl | (simp (disch:=first|exact za|fail) only [go_sem,seval,-List.reduceReplicate,E,A,k4,k8,htoI]<;>rfl)))⟩
     · intro i o L env' H' ho hL hall hI
       obtain⟨KF,KG,m3,m6,m8,rfl⟩:=hI
       rcases i with _ | _ | _ | _ | _ | _ | _ | _ | _ | i
       · cases ho;have f3:=yl KF 3 rfl;refine zg (.ptr (H.n+2) 36) rfl rfl (by simp (disch:=first|exact za|fail) only [go_sem,seval,-List.reduceReplicate,f3,k4,k8,htoI]<;>rfl) rfl ?_;exact⟨zT KF,zU KG,ka m3,ka m6,ka m8,(by rw [zb (by decide),zb (by decide),zb (by decide)])⟩
       · cases ho;have d0:=zG KG 0 rfl (kL hall 0 rfl rfl);have n6:=y8 m6 hL;have n8:=y8 m8 hL;refine zg (.sl (H.n+3) i 1 (pl i64 us)) rfl rfl (by simp (disch:=first|exact za|fail) only [go_sem,seval,-List.reduceReplicate,reduceIte,Bool.false_eq_true,if_false,if_true,d0,n6,n8,hL,k4,k8,htoI]<;>rfl) rfl ?_;exact⟨zT KF,zU KG,ka m3,ka m6,ka m8,(by rw [zb (by decide),zb (by decide),zb (by decide)])⟩
       · cases ho;have f2:=yl KF 2 rfl;refine zg (.ptr (H.n+1) 0) rfl rfl (by simp (disch:=first|exact za|fail) only [go_sem,seval,-List.reduceReplicate,f2,k4,k8,htoI]<;>rfl) rfl ?_;exact⟨zT KF,zU KG,ka m3,ka m6,ka m8,(by rw [zb (by decide),zb (by decide),zb (by decide)])⟩
       · cases ho;have h2:=kL hall 0 rfl rfl;have d2:=zG KG 2 rfl h2;have n6:=y8 m6 hL;have n8:=y8 m8 hL;(try simp only [n6,n8,hL,if_true,if_false,Bool.false_eq_true]);refine yT rfl rfl (by simp (disch:=first|exact za|fail) only [go_sem,seval,-List.reduceReplicate,reduceIte,Bool.false_eq_true,if_false,if_true,d2,n6,n8,hL,k4,k8,htoI]<;>rfl) rfl (by simp (disch:=first|exact za|fail) only [go_sem,seval,-List.reduceReplicate,reduceIte,Bool.false_eq_true,if_false,if_true,d2,n6,n8,hL,k4,k8,htoI]<;>rfl) (fun R h=>na _ _ _ R h) ?_;exact⟨zT KF,zU KG,(fun _=>kt (ze h2 zz)),ka m6,ka m8,(by (have e3:more L 3 3=true:=zF);(have e6:more L 3 6=L 6:=zb (by decide));(have e8:more L 3 8=L 8:=zb (by decide));(try simp only [e3,e6,e8,n6,n8,hL]);first | done | rfl | (simp only [e3,e6,e8,n6,n8,hL,if_true,if_false,Bool.false_eq_true];first | done | rfl | (simp (disch:=first|exact za|fail) only [go_sem,seval,-List.reduceReplicate,e3,e6,e8,n6,n8,hL,k4,k8,htoI]<;>rfl)))⟩
       · cases ho;have d3:=zG KG 3 rfl (kL hall 0 rfl rfl);refine zg (.p (i64 (toI x))) rfl rfl (by simp (disch:=first|exact za|fail) only [go_sem,seval,-List.reduceReplicate,d3,k4,k8,htoI]<;>rfl) rfl ?_;exact⟨zT KF,zU KG,ka m3,ka m6,ka m8,(by rw [zb (by decide),zb (by decide),zb (by decide)])⟩
       · cases ho;have d4:=zG KG 4 rfl (kL hall 0 rfl rfl);have n6:=y8 m6 hL;have n8:=y8 m8 hL;refine zg (.p (.sl true 1 [i64 (toI x)])) rfl rfl (by simp (disch:=first|exact za|fail) only [go_sem,seval,-List.reduceReplicate,reduceIte,Bool.false_eq_true,if_false,if_true,d4,n6,n8,hL,k4,k8,htoI]<;>rfl) rfl ?_;exact⟨zT KF,zU KG,ka m3,ka m6,ka m8,(by rw [zb (by decide),zb (by decide),zb (by decide)])⟩
       · cases ho;have h1:=kL hall 0 rfl rfl;have d1:=zG KG 1 rfl h1;have h5:=kL hall 1 rfl rfl;have d5:=zG KG 5 rfl h5;have h3:=kL hall 2 rfl rfl;have n8:=y8 m8 hL;(try simp only [h3,n8,hL,if_true,if_false,Bool.false_eq_true]);refine za8 (.sl (H.n+3) (i+1) 1 (pl i64 (us++[toI x]))) rfl rfl (by simp (disch:=first|exact za|fail) only [go_sem,seval,-List.reduceReplicate,reduceIte,Bool.false_eq_true,if_false,if_true,d1,d5,h3,n8,hL,k4,k8,htoI]<;>rfl) rfl ?_;exact⟨zT KF,zU KG,ka m3,(fun _=>kt (ze h1 (ze h3 (ze h5 zz)))),ka m8,(by (have e3:more L 6 3=L 3:=zb (by decide));(have e6:more L 6 6=true:=zF);(have e8:more L 6 8=L 8:=zb (by decide));(try simp only [e3,e6,e8,h3,n8,hL]);first | done | rfl | (simp only [e3,e6,e8,h3,n8,hL,if_true,if_false,Bool.false_eq_true];first | done | rfl | (simp (disch:=first|exact za|fail) only [go_sem,seval,-List.reduceReplicate,e3,e6,e8,h3,n8,hL,k4,k8,htoI]<;>rfl)))⟩
       · cases ho;have f3:=yl KF 3 rfl;refine zg (.ptr (H.n+2) 36) rfl rfl (by simp (disch:=first|exact za|fail) only [go_sem,seval,-List.reduceReplicate,f3,k4,k8,htoI]<;>rfl) rfl ?_;exact⟨zT KF,zU KG,ka m3,ka m6,ka m8,(by rw [zb (by decide),zb (by decide),zb (by decide)])⟩
       · cases ho;have h7:=kL hall 0 rfl rfl;have d7:=zG KG 7 rfl h7;have h6:=kL hall 1 rfl rfl;have d6:=zG KG 6 rfl h6;have h0:=kL hall 3 rfl rfl;have h1:=kL hall 4 rfl rfl;have h2:=kL hall 5 rfl rfl;have h3:=kL hall 6 rfl rfl;have h4:=kL hall 7 rfl rfl;have h5:=kL hall 8 rfl rfl;refine yz rfl rfl (by simp (disch:=first|exact za|fail) only [go_sem,seval,-List.reduceReplicate,reduceIte,Bool.false_eq_true,if_false,if_true,d6,d7,h3,h6,hL,k4,k8,htoI]<;>rfl) rfl ?_;exact⟨KF,kIs KG,ka m3,ka m6,(fun _=>kt (ze h0 (ze h1 (ze h2 (ze h3 (ze h4 (ze h5 (ze h6 (ze h7 zz))))))))),(by (have e3:more L 8 3=L 3:=zb (by decide));(have e6:more L 8 6=L 6:=zb (by decide));(have e8:more L 8 8=true:=zF);(try simp only [e3,e6,e8,h3,h6,hL]);first | done | rfl | (simp only [e3,e6,e8,h3,h6,hL,if_true,if_false,Bool.false_eq_true];first | done | rfl | (simp (disch:=first|exact za|fail) only [go_sem,seval,-List.reduceReplicate,e3,e6,e8,h3,h6,hL,k4,k8,htoI]<;>rfl)))⟩
       · simp at ho
     · intro L env' H' hall hI
       obtain⟨KF,KG,_,_,_,rfl⟩:=hI
       have l3:=hall 3 (by decide)
       have l6:=hall 6 (by decide)
       have l8:=hall 8 (by decide)
       have f0:=yl KF 0 rfl
       have f1:=yl KF 1 rfl
       have f2:=yl KF 2 rfl
       have f3:=yl KF 3 rfl
       have f4:=yl KF 4 rfl
       have f5:=yl KF 5 rfl
       simp only [l3,l6,l8,if_true]
       clear hall
       refine .q ?_;refine .text ?_;simp (disch:=first|exact za|fail) only [go_sem,seval,-List.reduceReplicate,f5]
       first | (refine ihE _ _ ?_ trivial ?_) | (refine .z rfl ?_;refine ihE _ _ ?_ trivial ?_) | (refine .z rfl ?_;refine .z rfl ?_;refine ihE _ _ ?_ trivial ?_) | (refine .z rfl ?_;refine .z rfl ?_;refine .z rfl ?_;refine ihE _ _ ?_ trivial ?_)
       · simp (disch:=first|exact za|fail) only [go_sem,seval,-List.reduceReplicate,f0,f1,f2,f3,f4,f5,E,A]<;>(repeat' (first | rfl | refine And.intro ?_ ?_))
       · first | rfl | (simp (disch:=first|exact za|fail) only [go_sem,seval,-List.reduceReplicate,f0,f1,f2,f3,f4,f5,E,A]<;>(try rfl))
 · have hml:=zyw (i:=i) k4 (by omega)
   have hms:=zyx (i:=i) k4 hi
   refine .q ?_;refine .text ?_;simp (disch:=first|exact za|fail) only [go_sem,seval,-List.reduceReplicate,A]
   refine .q ?_;refine .ifT (by simp (disch:=first|exact za|fail) only [go_sem,seval,-List.reduceReplicate]) ?_
   refine .q ?_;refine .text ?_;simp (disch:=first|exact za|fail) only [go_sem,seval,-List.reduceReplicate,A,hml,k4,zyv,hms]
   refine .q ?_;refine .text ?_;simp (disch:=first|exact za|fail) only [go_sem,seval,-List.reduceReplicate,A]
   first | (refine ihA _ _ ?_ trivial ?_) | (refine .z rfl ?_;refine ihA _ _ ?_ trivial ?_) | (refine .z rfl ?_;refine .z rfl ?_;refine ihA _ _ ?_ trivial ?_) | (refine .z rfl ?_;refine .z rfl ?_;refine .z rfl ?_;refine ihA _ _ ?_ trivial ?_)
   · simp (disch:=first|exact za|fail) only [go_sem,seval,-List.reduceReplicate,A]<;>(repeat' (first | rfl | refine And.intro ?_ ?_))
   · first | rfl | (simp (disch:=first|exact za|fail) only [go_sem,seval,-List.reduceReplicate,A]<;>(try rfl))
end walks
end Go.Proofs.YtgflpgcogkdpgaaGreatDoor

/-
  Sessions: comparing;the reference's small functions of elements.
-/
namespace Go.Proofs.YtgflpgcogkdpgaaGreatDoor
open Go Go.AL

theorem zdf {P:Program} {t:TypeId} {k:IntKind} {n:Int} {d:Nat} (hu:P.underlying t=some (.int k)) (h:(Lit.int k n).wf=true):P.keyLits (d+1) t [.int k n]=some [.int k n]:=by
 unfold Program.keyLits
 simp [hu,h]
theorem zlF {a b c:Int} (ha:okI a) (hb:okI b) (hc:okI c):Tryz.prog.keyLits 64 29 [.int .i64 a,.int .i64 b,.int .i64 c]=some [.int .i64 a,.int .i64 b,.int .i64 c]:=by
 have i1 : ∀ n,okI n → Tryz.prog.keyLits 63 3 [.int .i64 n]=some [.int .i64 n]:=fun n h=>zdf Tryz.underlying3 (wf_i64 h.1 h.2)
 have h1:=i1 _ ha
 have h2:=i1 _ hb
 have h3:=i1 _ hc
 unfold Program.keyLits
 simp only [Tryz.underlying29,cells29]
 rw [if_pos ⟨rfl,by kernel_rfl⟩]
 simp only [List.mapM_cons,List.mapM_nil,cells3,List.drop_zero,List.drop_succ_cons,List.take_succ_cons,List.take_zero,h1,h2,h3,Option.pure_def,Option.bind_eq_bind,Option.bind_some,Option.map_some]
 rfl
theorem zn8 {a b c:Int} (ha:okI a) (hb:okI b) (hc:okI c):zt Tryz.prog .eql 29 (.p (.agg [i64 a,i64 b,i64 c])) (.p (.agg [i64 a,i64 b,i64 c]))=some (.p (bo true))∧zt Tryz.prog .neq 29 (.p (.agg [i64 a,i64 b,i64 c])) (.p (.agg [i64 a,i64 b,i64 c]))=some (.p (bo false)):=by
 have:=zxh (t:=29) (P:=Tryz.prog) (xs:=[i64 a,i64 b,i64 c]) (ys:=[i64 a,i64 b,i64 c]) (p:=True) (by kernel_rfl) rfl rfl (zlF ha hb hc) (zlF ha hb hc) (by simp)
 simpa using this
def rdc (x:U):U:=x % 18446744069414584321#64
def zg0 (x:Ext):Ext:=⟨rdc x.a,rdc x.b⟩
def zbm (l:List Ext):Nat → List Ext
 | 0=>[]
 | n+1=>zbm l n++[if n < l.length then zg0 (nth l n) else ⟨0#64,0#64⟩]
theorem zeS {l:List Ext} : ∀ {n},(zbm l n).length=n
 | 0=>rfl
 | n+1=>by simp [zbm,zeS]
section walks
variable {G:Globs}
theorem zfb (x:U) (H:Hp) (R:AV → Hp → Prop) (h:R (.p (zw (rdc x))) H):ACall Tryz.prog G 65 [.p (zw x)] H R:=by
 have hp:(18446744069414584321#64:U)≠0#64:=by decide
 refine ACall.of_run (raw:=[]) Tryz.func65 rfl Tryz.ntmps65 (by simp) fun hbel => ?_
 refine .q ?_;refine .text ?_;simp (disch:=first|exact za|fail) only [go_sem,seval]
 refine .q ?_;refine .text ?_;simp (disch:=first|exact za|fail) only [go_sem,seval]
 refine .q ?_;refine .rt Tryz.func65 (by rw [Tryz.results65]) (hR := ?_);simp (disch:=first|exact za|fail) only [go_sem,seval]
 exact h
theorem zn9 (x:Ext) (H:Hp) (R:AV → Hp → Prop) (h:R (.p (ext (zg0 x))) H):ACall Tryz.prog G 48 [.p (ext x)] H R:=by
 refine ACall.of_run (raw:=[]) Tryz.func48 rfl Tryz.ntmps48 (by simp) fun hbel => ?_
 refine .q ?_;refine .text ?_;simp (disch:=first|exact za|fail) only [go_sem,seval]
 refine .q ?_;refine .open [7] follows (by kernel_rfl) ?_;simp (disch:=first|exact za|fail) only [go_sem,seval]
 refine CallD.still (fun R h=>zfb _ _ R h) ?_;simp (disch:=first|exact za|fail) only [go_sem,seval]
 refine CallD.still (fun R h=>zfb _ _ R h) ?_;simp (disch:=first|exact za|fail) only [go_sem,seval]
 refine .q ?_;refine .rt Tryz.func48 (by rw [Tryz.results48]) (hR := ?_);simp (disch:=first|exact za|fail) only [go_sem,seval]
 exact h
set_option maxHeartbeats 4000000 in
theorem zex (l:List Ext) (hl:l.length≤9223372036854775807) (n:Nat) (hn:n≤100000) (H:Hp) (R:AV → Hp → Prop) (h:R (.p (.sl false 2 (pl ext (zbm l n)))) H):ACall Tryz.prog G 30 [.p (.sl false 2 (pl ext l)),.p (i64 n)] H R:=by
 refine ACall.of_run (raw:=[]) Tryz.func30 rfl Tryz.ntmps30 (by simp) fun hbel => ?_
 refine .q ?_;refine .text ?_;simp (disch:=first|exact za|fail) only [go_sem,seval]
 refine .q ?_;refine .text ?_;simp (disch:=first|exact za|fail) only [go_sem,seval]
 refine .q ?_;refine .own 5 (by simp (disch:=first|exact za|fail) only [go_sem,seval];rfl) ?_
 refine .q ?_;refine .text ?_;simp (disch:=first|exact za|fail) only [go_sem,seval]
 refine .q ?_;refine .loopF [0,1] (fun i=>[(5,.sl H.n i 2 (pl ext (zbm l i))),(6,.p (i64 i))]) (fun i=>[(H.n,.tail i)]) (fun i=>True) (0) (n) (by omega) ?_ (by first | rfl | (simp (disch:=first|exact za|fail) only [go_sem,seval,zbm]<;>rfl)) ?_ ?_ ?_
 · simp (disch:=first|exact za|fail) only [go_sem,seval,zbm]<;>(repeat' (first | rfl | refine And.intro ?_ ?_))
 · exact trivial
 intro env T E hQ;simp (disch:=first|exact za|fail) only [go_sem,seval,zbm] at E
 rotate_left 1
 intro i env T hi0 hi E hQ ihE;simp (disch:=first|exact za|fail) only [go_sem,seval,zbm] at E
 rotate_left 1
 · refine .q ?_;refine .text ?_;simp (disch:=first|exact za|fail) only [go_sem,seval,E]
   refine .q ?_;refine .ifF (by simp (disch:=first|exact za|fail) only [go_sem,seval]) ?_
   refine .q ?_;refine .text ?_;simp (disch:=first|exact za|fail) only [go_sem,seval,E]
   refine .q ?_;refine .rt Tryz.func30 (by rw [Tryz.results30]) (hx:=by simp (disch:=first|exact za|fail) only [go_sem,seval,E];rfl) (hR := ?_);simp (disch:=first|exact za|fail) only [go_sem,seval,E]
   exact h
 · have hml:=zeS (l:=l) (n:=i)
   have hst:zbm l (i+1)=zbm l i++[if i < l.length then zg0 (nth l i) else ⟨0#64,0#64⟩]:=rfl
   rw [hst] at ihE
   refine .q ?_;refine .text ?_;simp (disch:=first|exact za|fail) only [go_sem,seval,E]
   refine .q ?_;refine .ifT (by simp (disch:=first|exact za|fail) only [go_sem,seval]) ?_
   refine .q ?_;refine .text ?_;simp (disch:=first|exact za|fail) only [go_sem,seval,E]
   refine .q ?_;refine .text ?_;simp (disch:=first|exact za|fail) only [go_sem,seval,E]
   by_cases c:i < l.length
   · have d:decide ((i:Int) < (l.length:Int))=true:=decide_eq_true (by omega)
     rw [if_pos c] at ihE
     refine .q ?_;refine .ifT (by simp (disch:=first|exact za|fail) only [go_sem,seval,d]) ?_
     refine .q ?_;refine .text ?_;simp (disch:=first|exact za|fail) only [go_sem,seval,E]
     refine CallK.of (fun R h=>zn9 _ _ R h) ?_;simp (disch:=first|exact za|fail) only [go_sem,seval]
     refine .q ?_;refine .text ?_;simp (disch:=first|exact za|fail) only [go_sem,seval,E,hml]
     refine .q ?_;refine .text ?_;simp (disch:=first|exact za|fail) only [go_sem,seval,E]
     first | (refine ihE _ _ ?_ trivial ?_) | (refine .z rfl ?_;refine ihE _ _ ?_ trivial ?_) | (refine .z rfl ?_;refine .z rfl ?_;refine ihE _ _ ?_ trivial ?_) | (refine .z rfl ?_;refine .z rfl ?_;refine .z rfl ?_;refine ihE _ _ ?_ trivial ?_)
     · simp (disch:=first|exact za|fail) only [go_sem,seval,E]<;>(repeat' (first | rfl | refine And.intro ?_ ?_))
     · first | exact .mk _ rfl | exact .mk [] rfl | (apply Later.mk;simp (disch:=first|exact za|fail) only [go_sem,seval,zm,E];exact rfl) | (apply Later.mk;simp (disch:=first|exact za|fail) only [go_sem,seval,zm,zO,List.append_assoc,E]<;>(try rfl))
   · have d:decide ((i:Int) < (l.length:Int))=false:=decide_eq_false (by omega)
     rw [if_neg c] at ihE
     refine .q ?_;refine .ifF (by simp (disch:=first|exact za|fail) only [go_sem,seval,d]) ?_
     refine .skip ?_
     refine .q ?_;refine .text ?_;simp (disch:=first|exact za|fail) only [go_sem,seval,E,hml]
     refine .q ?_;refine .text ?_;simp (disch:=first|exact za|fail) only [go_sem,seval,E]
     first | (refine ihE _ _ ?_ trivial ?_) | (refine .z rfl ?_;refine ihE _ _ ?_ trivial ?_) | (refine .z rfl ?_;refine .z rfl ?_;refine ihE _ _ ?_ trivial ?_) | (refine .z rfl ?_;refine .z rfl ?_;refine .z rfl ?_;refine ihE _ _ ?_ trivial ?_)
     · simp (disch:=first|exact za|fail) only [go_sem,seval,E]<;>(repeat' (first | rfl | refine And.intro ?_ ?_))
     · first | exact .mk _ rfl | exact .mk [] rfl | (apply Later.mk;simp (disch:=first|exact za|fail) only [go_sem,seval,zm,E];exact rfl) | (apply Later.mk;simp (disch:=first|exact za|fail) only [go_sem,seval,zm,zO,List.append_assoc,E]<;>(try rfl))
end walks
end Go.Proofs.YtgflpgcogkdpgaaGreatDoor

/-
  Sessions: the reference's messages for the laws.
-/
namespace Go.Proofs.YtgflpgcogkdpgaaGreatDoor
open Go Go.AL

theorem bytesOf_take {a:By} {n:Nat}:(bytesOf a).extract 0 n=bytesOf (a.take n):=by
 apply ByteArray.ext
 simp [bytesOf,ByteArray.data_extract]
def mV (k s t:Int) (tx r:By) (x y:PV):PV := .agg ([i64 k,i64 s,i64 t,str (bytesOf tx)]++(pl b8 r++[x,y]))
section mv
variable {k s t:Int} {tx r:By} {x y:PV}
theorem zjo:zq (mG k s t tx r (.p x) (.p y)) = .p (mV k s t tx r x y):=by
 have:mG k s t tx r (.p x) (.p y)=([i64 k,i64 s,i64 t,str (bytesOf tx)]++(pl b8 r++[x,y])).map .p:=by simp [mG,cl,pl]
 rw [this,zq,zdF]
 rfl
theorem zv4:zi (.p (mV k s t tx r x y))=some (mG k s t tx r (.p x) (.p y)):=by
 show some ((_:List PV).map AV.p)=_
 simp [mG,cl,pl]
theorem zyE (h:r.length=32) {su:List Int} {va:List Ext} (hx:x.weak1 = .sl false 1 (pl i64 su)) (hy:y.weak1 = .sl false 2 (pl ext va)):(mV k s t tx r x y).weak=ym ⟨k,s,t,tx,⟨r,h⟩,su,va⟩:=by
 show PV.agg (List.map PV.weak1 _)=_
 rw [List.map_append,List.map_append,za9 (l:=pl b8 _) fun x hx=>by simp only [pl,List.mem_map] at hx;obtain⟨y,_,rfl⟩:=hx;rfl]
 simp only [List.map_cons,List.map_nil,hx,hy]
 rfl
end mv
def mB (H:Hp) (m:Msg) (kl:List Int):Hp:=((H.new (.cells (yR m))).new (.cells mZ)).new (.cells (cl i64 kl))
def mH (H:Hp) (m:Msg) (kl:List Int) (mc:List AV):Hp:=(mB H m kl).new (.cells mc)
section mh
variable {H:Hp} {m:Msg} {kl:List Int} {mc mc':List AV}
def mX (H:Hp) (m:Msg) (kl:List Int) (o:Option (List AV)):Hp:=match o with | none=>mB H m kl | some mc=>mH H m kl mc
theorem zAO:(mX H m kl none).new (.cells mc)=mX H m kl (some mc):=rfl
end mh
attribute [go_sem] zAO

section walks
variable {G:Globs}
end walks
theorem zcD {m:Msg}:(enc m).length≤3000:=by
 cases hv:valid m with
 | true=>exact (zfF hv).2
 | false=>rw [enc,hv];simp
theorem zih {b:By} (h:(dec b).2=0):valid (dec b).1=true:=by
 unfold dec zly at h ⊢
 split at h
 · simp at h
 · rename_i h1
   split at h
   · rename_i h2
     rw [if_neg h1,if_pos h2]
     obtain⟨x1,x2,x3,x4,l,tx,n1,sm,n2,vm,ck,r,hs⟩:=zpA (b:=b) (by simpa using h1)
     cases hv:valid (decM b).1 with
     | true=>rfl
     | false =>
      rw [enc,hv] at h2
      have:=congrArg List.length hs.e
      rw [←h2] at this
      simp only [List.length_append,hs.l1] at this
      simp at this
      omega
   · simp at h
end Go.Proofs.YtgflpgcogkdpgaaGreatDoor

/-
  Sessions: acts,and the packet that an act delivers.
-/
namespace Go.Proofs.YtgflpgcogkdpgaaGreatDoor
open Go Go.AL

structure Act where
 what:BitVec 8
 who:BitVec 8
 m:Msg
 pos:BitVec 8
 by_:BitVec 8
def zAP (x:Act):List PV:=[b8 x.what,b8 x.who]++(zdA x.m++[b8 x.pos,b8 x.by_])
def act (x:Act):PV := .agg (zAP x)
def acl (x:Act):List AV:=(zAP x).map .p
instance:Inhabited Act:=⟨⟨0#8,0#8,zM,0#8,0#8⟩⟩
section act
variable {x:Act} {l:List Act}
theorem zoa:zi (.p (act x))=some (acl x):=rfl
theorem zrT:(act x).cells=zAP x:=rfl
theorem zrU:(act x).isAgg=true:=rfl
theorem zob:(AV.p (act x)).isAggV=true:=rfl
end act
attribute [go_sem] zoa zrT zrU zob
def mx (x:BitVec 8):BitVec 8:=if x=0#8 then 1#8 else x
section walks
variable {G:Globs}
end walks
end Go.Proofs.YtgflpgcogkdpgaaGreatDoor

/-
  Sessions: what the fixed examples come to (plain).
-/
namespace Go.Proofs.YtgflpgcogkdpgaaGreatDoor
open Go Go.AL

def zEg:Dg:=⟨1#8 :: List.replicate 31 0#8,rfl⟩
def sA:Ses:=zeQ 7 100
def M0:Msg:=⟨1,7,0,[99,111,117,110,116],zD,[],[]⟩
def p0:By:=enc M0
def a1:Ses := { zbS sA M0 p0 with last:=M0 }
def b1:Ses:=zbS sA M0 p0
def M1:Msg:=⟨2,7,1,[],zEg,[],[]⟩
def p1:By:=enc M1
def b2:Ses := { zbS b1 M1 p1 with last:=M1 }
def a2:Ses:=zbS a1 M1 p1
def M2:Msg:=⟨4,7,2,[],a2.seen,[],[⟨1,0⟩]⟩
def p2:By:=enc M2
def a3:Ses := { zbS a2 M2 p2 with last:=M2 }
theorem v0:valid M0=true:=by decide +kernel
theorem v1:valid M1=true:=by decide +kernel
theorem v2:valid M2=true:=by rfl
theorem n0:p0.length=58:=by unfold p0;rw [zde v0];rfl
theorem n1:p1.length≤3000:=(zfF v1).2
theorem n2:p2.length=69:=by unfold p2;rw [zde v2];rfl
end Go.Proofs.YtgflpgcogkdpgaaGreatDoor

/-
  Sessions: the fixed examples of the laws.
-/
namespace Go.Proofs.YtgflpgcogkdpgaaGreatDoor
open Go Go.AL

def mP (k s t:Int) (tx r:By) (S V:PV):PV := .agg (i64 k :: i64 s :: i64 t :: str (bytesOf tx) :: (pl b8 r++[S,V]))
def mC (k s t:Int) (tx r:By) (S V:PV):List AV:=(i64 k :: i64 s :: i64 t :: str (bytesOf tx) :: (pl b8 r++[S,V])).map .p
section mp
variable {k s t:Int} {tx r:By} {S V:PV}
theorem zv5:zi (.p (mP k s t tx r S V))=some (mC k s t tx r S V):=rfl
theorem zv6 {x:PV}:(List.map AV.p (pl b8 (List.replicate 32 0#8)++[S,V])).set 33 (AV.p x)=List.map AV.p (pl b8 (List.replicate 32 0#8)++[S,x]):=rfl
end mp
theorem zAQ:({ data := #[99,111,117,110,116] }:ByteArray)=bytesOf [99,111,117,110,116]:=rfl
attribute [go_sem] zv5 zv6
theorem zlG {C:Cx} {k:List Item} {env:Env} {H:Hp} {R:AV → Hp → Prop} (h : ∀ B,B=H → ARun C k env B R):ARun C k env H R:=h H rfl
theorem zAR {σ:Gh} {H:Hp} {w:World} {v:Value} {fl:Bool} {sz:Nat} (h:RelV σ H w (.p (.s (.slice none 0 0))) v):RelV σ H w (.p (.sl fl sz [])) v:=by
 cases h with
 | p h=>cases h;exact .p (.nil _ _)
section walks
variable {G:Globs} {r1 r2:Nat} {m1:List (Int × Rule)} {m2:List (Int × Int)}
end walks
end Go.Proofs.YtgflpgcogkdpgaaGreatDoor

/-
  Sessions: a play of two sides.
-/
namespace Go.Proofs.YtgflpgcogkdpgaaGreatDoor
open Go Go.AL

structure Good (dd:Int) (i:Nat) (s:Ses):Prop where
 id:okI s.id
 due:s.due=dd
 step:0≤s.step∧s.step≤i
 bytes:0≤s.bytes∧s.bytes≤3000*i
 rounds:0≤s.rounds∧s.rounds≤i
 words:0≤s.words∧s.words≤200*i
 lstep:0≤s.last.step
 last:s.last.Ok
theorem Good.ok {dd:Int} {i:Nat} {s:Ses} (h:Good dd i s) (hi:i≤1000):s.Ok:=by
 obtain⟨h1,_,h3,h4,h5,h6,h7,_⟩:=h
 exact⟨h1,by omega,h7,by omega,by omega,by omega⟩
theorem Good.mono {dd:Int} {i j:Nat} {s:Ses} (h:Good dd i s) (hi:i≤j):Good dd j s:=by
 obtain⟨h1,h2,h3,h4,h5,h6,h7,h8⟩:=h
 exact⟨h1,h2,by omega,by omega,by omega,by omega,h7,h8⟩
theorem Good.new {dd:Int}:Good dd 0 (zeQ 5 dd):=⟨⟨by show (_:Int)≤5;decide,by show (5:Int)≤_;decide⟩,rfl,⟨by show (0:Int)≤0;decide,by show (0:Int)≤0;decide⟩,⟨by show (0:Int)≤0;decide,by show (0:Int)≤3000*((0:Nat):Int);decide⟩,⟨by show (0:Int)≤0;decide,by show (0:Int)≤0;decide⟩,⟨by show (0:Int)≤0;decide,by show (0:Int)≤200*((0:Nat):Int);decide⟩,by show (0:Int)≤0;decide,zvO⟩
theorem Good.add {dd:Int} {i:Nat} {s:Ses} (h:Good dd i s) {m:Msg} (hv:valid m=true) {b:By} (hb:b.length≤3000):Good dd (i+1) (zbS s m b):=by
 obtain⟨h1,h2,h3,h4,h5,h6,h7,h8⟩:=h
 obtain⟨_,v2,v3⟩:=zdu hv
 exact⟨h1,h2,by show 0≤s.step+1∧s.step+1≤_;omega,by show 0≤s.bytes+(b.length:Int)∧s.bytes+(b.length:Int)≤_;omega,by show 0≤s.rounds+1∧s.rounds+1≤_;omega,by show 0≤s.words+(m.sums.length:Int)+2*(m.values.length:Int)∧s.words+(m.sums.length:Int)+2*(m.values.length:Int)≤_;omega,h7,h8⟩
theorem Good.send {dd:Int} {i:Nat} {s:Ses} (h:Good dd i s) (hi:i≤1000) {m:Msg} (hm:m.Ok):Good dd (i+1) (send s m).1:=by
 unfold Go.Proofs.YtgflpgcogkdpgaaGreatDoor.send
 split
 · exact h.mono (by omega)
 · split
   · rename_i hv
     have h1:=h.add hv (b:=enc (zcN s m)) zcD
     obtain⟨h1,h2,h3,h4,h5,h6,h7,h8⟩:=h1
     have hst:=h.step
     exact⟨h1,h2,h3,h4,h5,h6,hst.1,⟨hm.kind,h.id,⟨by show _≤s.step;omega,by show s.step≤_;omega⟩,hm.text,hm.sums,hm.values⟩⟩
   · exact h.mono (by omega)
theorem zg1 {s:Ses} {m:Msg}:(send s m).2.1.length≤3000:=by
 unfold send
 split
 · simp
 · split
   · exact zcD
   · simp
theorem Good.recv {dd:Int} {i:Nat} {s:Ses} (h:Good dd i s) {b:By} (hb:b.length≤3000) (now:Int):Good dd (i+1) (recv s b now).1:=by
 unfold Go.Proofs.YtgflpgcogkdpgaaGreatDoor.recv
 split
 · exact h.mono (by omega)
 · split
   · obtain⟨h1,h2,h3,h4,h5,h6,h7,h8⟩:=h.mono (show i≤i+1 by omega)
     exact⟨h1,h2,h3,h4,h5,h6,h7,h8⟩
   · split
     · exact h.mono (by omega)
     · rename_i h0
       have hc:(dec b).2=0:=by
        have h0:ze6 s b=0:=by simpa using h0
        unfold ze6 rC at h0
        split at h0
        · rename_i hc;rw [h0] at hc;simp at hc
        · rename_i hc;simpa using hc
       exact h.add (zih hc) hb
def rw2 (p:Nat → Ses):List AV:=zJ (p 0)++zJ (p 1)
def upd (p:Nat → Ses) (k:Nat) (x:Ses):Nat → Ses:=fun j=>if j=k then x else p j
section rw
variable {p:Nat → Ses} {k:Nat}
theorem zpC:(rw2 p).length=156:=by simp [rw2,zV]
theorem zv7 (hk:k < 2):((rw2 p).drop (k*78)).take 78=zJ (p k):=by
 have:k=0 ∨ k=1:=by omega
 rcases this with rfl | rfl
 · rw [Nat.zero_mul,List.drop_zero,rw2,List.take_left' zV]
 · rw [Nat.one_mul,rw2,List.drop_left' zV,zlm]
theorem zyF (hk:k < 2) {x:Ses}:setAt (rw2 p) (k*78) (zJ x)=rw2 (upd p k x):=by
 rw [yd _ _ _ (by rw [zpC,zV];omega)]
 have:k=0 ∨ k=1:=by omega
 rcases this with rfl | rfl
 · rw [Nat.zero_mul,List.take_zero,zV,rw2,List.drop_left' zV];simp [rw2,upd]
 · rw [Nat.one_mul,zV,rw2,List.take_left' zV,List.drop_of_length_le (by simp [zV])];simp [rw2,upd]
theorem zlH {dd:Int} {i j:Nat} {x:Ses} (h : ∀ k,k < 2 → Good dd i (p k)) (hj:i≤j) (hx:Good dd j x) : ∀ l,l < 2 → Good dd j (upd p k x l):=fun l hl=>by
 unfold upd;split
 · exact hx
 · exact (h l hl).mono hj
end rw
section pq
variable {H:Hp} {p p':Nat → Ses} {v v':Nat} {T L:List AB} {a b c d x:AB}
end pq
section pr
variable {H:Hp} {p:Nat → Ses} {v:Nat} {T:List AB} {o o' x:List AV}
end pr

attribute [go_sem] zv7 zyF zpC
structure PlS where
 i:Nat
 p:Nat → Ses
 P:List By
 T:List AB
section pt
variable {H:Hp} {p p':Nat → Ses} {v v':Nat} {T L:List AB} {a b c x:AB} {o o':Option AB}
end pt

def zAct:List AV:=AV.p (b8 0#8) :: AV.p (b8 0#8) :: AV.p (i64 0) :: AV.p (i64 0) :: AV.p (i64 0) :: AV.p (str ByteArray.empty) :: List.map AV.p (pl b8 (List.replicate 32 0#8)++[PV.sl true 1 [],PV.sl true 2 [],b8 0#8,b8 0#8])
theorem zyG:AV.p (b8 0#8) :: AV.p (b8 0#8) :: AV.p (i64 0) :: AV.p (i64 0) :: AV.p (i64 0) :: AV.p (str ByteArray.empty) :: List.map AV.p (pl b8 (List.replicate 32 0#8)++[PV.sl true 1 [],PV.sl true 2 [],b8 0#8,b8 0#8])=zAct:=rfl
theorem zv8:zAct.length=42:=rfl
theorem zAS:AV.p (i64 0) :: AV.p (i64 0) :: AV.p (i64 0) :: AV.p (str ByteArray.empty) :: List.map AV.p (pl b8 (List.replicate 32 0#8)++[PV.sl true 1 [],PV.sl true 2 []])=mZ:=by simp [mZ,mG,cl,pl,zbY]
theorem zAT:mZ.length=38:=rfl
attribute [go_sem] zyG zv8 zAS zAT zn
structure PlQ (n:Nat) (s:PlS):Prop where
 i:s.i≤n
 p : ∀ k,k < 2 → Good 100 s.i (s.p k)
 P:s.P.length≤s.i
 b : ∀ b∈s.P,b.length≤3000
section walks
variable {G:Globs} {r1 r2:Nat} {m1:List (Int × Rule)} {m2:List (Int × Int)}
end walks
end Go.Proofs.YtgflpgcogkdpgaaGreatDoor
