/-
  What the rules ask of the types and functions of this program: closed facts,by the kernel.
  Conditions: none. Written by gen_tab.py.
-/
import Derived.Test.YtdpfkanfahchjaaDoorPkE3
import Derived.Test.YtdpfkanfahchjaaDoorChecked
import Derived.Shelf.Spec.SlicesGrow
import Derived.Lib.MakeNoZero
import Derived.Laws.Externs
set_option linter.unusedSimpArgs false
set_option linter.unusedVariables false
namespace Go.Proofs.YtdpfkanfahchjaaDoor
open Go Go.AL

theorem cells3:Tryd.prog.cellsOf 3=1:=by kernel_rfl
theorem zuc:yF Tryd.prog 3=true:=by kernel_rfl
theorem zud:zB Tryd.prog 3=some ([i64 0]):=by kernel_rfl
theorem cells4:Tryd.prog.cellsOf 4=1:=by kernel_rfl
theorem bytes4:Tryd.prog.bytesOf 4=1:=by kernel_rfl
theorem zvm:zJ Tryd.prog 4=false:=by kernel_rfl
theorem zue:zB Tryd.prog 4=some ([bo false]):=by kernel_rfl
theorem zuf:zak Tryd.prog 4=true:=by kernel_rfl
theorem cells5:Tryd.prog.cellsOf 5=1:=by kernel_rfl
theorem bytes5:Tryd.prog.bytesOf 5=1:=by kernel_rfl
theorem zvn:zJ Tryd.prog 5=false:=by kernel_rfl
theorem zug:yF Tryd.prog 5=true:=by kernel_rfl
theorem zuh:zB Tryd.prog 5=some ([b8 0#8]):=by kernel_rfl
theorem zui:zak Tryd.prog 5=true:=by kernel_rfl
theorem zqk:zJ Tryd.prog 22=false:=by kernel_rfl
theorem cells24:Tryd.prog.cellsOf 24=4:=by kernel_rfl
theorem zsB:Tryd.prog.bytesOf 24=32:=by kernel_rfl
theorem zmD:zB Tryd.prog 24=some ([i64 0,i64 0,i64 0,i64 0]):=by kernel_rfl
theorem zsC:zak Tryd.prog 24=true:=by kernel_rfl
theorem zsD : ∀ parts,yv Tryd.prog 24 parts=(yE (fun i=>[some (0,1),some (1,1),some (2,1),some (3,1)][i]?.join) ([.p (i64 0),.p (i64 0),.p (i64 0),.p (i64 0)]) parts).map zO:=fun _=>zY (by kernel_rfl) zmD
theorem cells27:Tryd.prog.cellsOf 27=1:=by kernel_rfl
theorem bytes27:Tryd.prog.bytesOf 27=24:=by kernel_rfl
theorem zoy:zdj Tryd.prog 27=true:=by kernel_rfl
theorem zsE:zB Tryd.prog 27=some ([.sl true 1 []]):=by kernel_rfl
theorem zsF:zak Tryd.prog 27=true:=by kernel_rfl
theorem cells29:Tryd.prog.cellsOf 29=2:=by kernel_rfl
theorem zmE:zB Tryd.prog 29=some ([.sl true 1 [],i64 0]):=by kernel_rfl
theorem build29 : ∀ parts,yv Tryd.prog 29 parts=(yE (fun i=>[some (0,1),some (1,1)][i]?.join) ([.p (.sl true 1 []),.p (i64 0)]) parts).map zO:=fun _=>zY (by kernel_rfl) zmE
theorem cells31:Tryd.prog.cellsOf 31=1:=by kernel_rfl
theorem cells32:Tryd.prog.cellsOf 32=1:=by kernel_rfl
theorem cells34:Tryd.prog.cellsOf 34=2:=by kernel_rfl
theorem zmF:zB Tryd.prog 34=some ([.sl true 4 [],.sl true 1 []]):=by kernel_rfl
theorem zsG : ∀ parts,yv Tryd.prog 34 parts=(yE (fun i=>[some (0,1),some (1,1)][i]?.join) ([.p (.sl true 4 []),.p (.sl true 1 [])]) parts).map zO:=fun _=>zY (by kernel_rfl) zmF
theorem cells46:Tryd.prog.cellsOf 46=1:=by kernel_rfl
theorem zql:zJ Tryd.prog 46=false:=by kernel_rfl
theorem zsH:yF Tryd.prog 46=true:=by kernel_rfl
theorem cells47:Tryd.prog.cellsOf 47=1:=by kernel_rfl
theorem cells49:Tryd.prog.cellsOf 49=2:=by kernel_rfl
theorem zmG:zB Tryd.prog 49=some ([i64 0,.sl true 1 []]):=by kernel_rfl
theorem zsI : ∀ parts,yv Tryd.prog 49 parts=(yE (fun i=>[some (0,1),some (1,1)][i]?.join) ([.p (i64 0),.p (.sl true 1 [])]) parts).map zO:=fun _=>zY (by kernel_rfl) zmG
theorem zsJ:Tryd.prog.cellsOf 61=1:=by kernel_rfl
theorem zqm:zJ Tryd.prog 61=false:=by kernel_rfl
theorem zmH:Tryd.prog.cellsOf 63=3:=by kernel_rfl
theorem zqn:zJ Tryd.prog 63=true:=by kernel_rfl
theorem zmI:Tryd.prog.cellsOf 74=3:=by kernel_rfl
theorem zqo:zJ Tryd.prog 74=true:=by kernel_rfl
theorem zsK:Tryd.prog.cellsOf 91=1:=by kernel_rfl
theorem zsL:Tryd.prog.cellsOf 92=2:=by kernel_rfl
theorem zmJ:zB Tryd.prog 92=some ([.s .nilFunc,i64 0]):=by kernel_rfl
theorem zsM : ∀ parts,yv Tryd.prog 92 parts=(yE (fun i=>[some (0,1),some (1,1)][i]?.join) ([.p (.s .nilFunc),.p (i64 0)]) parts).map zO:=fun _=>zY (by kernel_rfl) zmJ
theorem zsN:Tryd.prog.cellsOf 93=8:=by kernel_rfl
theorem zmK:zB Tryd.prog 93=some ([.s .nilFunc,i64 0,.s .nilFunc,i64 0,.s .nilFunc,i64 0,.s .nilFunc,i64 0]):=by kernel_rfl
theorem zsO : ∀ parts,yv Tryd.prog 93 parts=(yE (fun i=>some (i*2,2)) ([.p (.s .nilFunc),.p (i64 0),.p (.s .nilFunc),.p (i64 0),.p (.s .nilFunc),.p (i64 0),.p (.s .nilFunc),.p (i64 0)]) parts).map zO:=fun _=>zfl (by kernel_rfl) zmK
theorem zqp:yF Tryd.prog 105=true:=by kernel_rfl
theorem zqq:Tryd.prog.cellsOf 112=2:=by kernel_rfl
theorem zjr:zB Tryd.prog 112=some ([b8 0#8,i64 0]):=by kernel_rfl
theorem zqr : ∀ parts,yv Tryd.prog 112 parts=(yE (fun i=>[some (0,1),some (1,1)][i]?.join) ([.p (b8 0#8),.p (i64 0)]) parts).map zO:=fun _=>zY (by kernel_rfl) zjr
theorem zqs:Tryd.prog.cellsOf 116=32:=by kernel_rfl
theorem zqt:zB Tryd.prog 116=some (List.replicate 32 (b8 0#8)):=by kernel_rfl
theorem zqu:Tryd.prog.cellsOf 119=1:=by kernel_rfl
theorem zqv:Tryd.prog.cellsOf 120=2:=by kernel_rfl
theorem zjs:zB Tryd.prog 120=some ([.s .nilFunc,i64 0]):=by kernel_rfl
theorem zqw : ∀ parts,yv Tryd.prog 120 parts=(yE (fun i=>[some (0,1),some (1,1)][i]?.join) ([.p (.s .nilFunc),.p (i64 0)]) parts).map zO:=fun _=>zY (by kernel_rfl) zjs
theorem zqx:Tryd.prog.cellsOf 121=8:=by kernel_rfl
theorem zjt:zB Tryd.prog 121=some ([.s .nilFunc,i64 0,.s .nilFunc,i64 0,.s .nilFunc,i64 0,.s .nilFunc,i64 0]):=by kernel_rfl
theorem zqy : ∀ parts,yv Tryd.prog 121 parts=(yE (fun i=>some (i*2,2)) ([.p (.s .nilFunc),.p (i64 0),.p (.s .nilFunc),.p (i64 0),.p (.s .nilFunc),.p (i64 0),.p (.s .nilFunc),.p (i64 0)]) parts).map zO:=fun _=>zfl (by kernel_rfl) zjt
theorem zfv:Tryd.prog.cellsOf 132=1:=by kernel_rfl
theorem zsP:zJ Tryd.prog 132=false:=by kernel_rfl
theorem zqz:yF Tryd.prog 132=true:=by kernel_rfl
theorem zju:Tryd.prog.cellsOf 133=8:=by kernel_rfl
theorem zqA:Tryd.prog.cellsOf 134=8:=by kernel_rfl
theorem zqB:zB Tryd.prog 134=some (List.replicate 8 (zG 0#32)):=by kernel_rfl
theorem zqC:yF Tryd.prog 146=true:=by kernel_rfl
theorem zjv:Tryd.prog.cellsOf 148=64:=by kernel_rfl
theorem zqD:zB Tryd.prog 148=some (List.replicate 64 (zG 0#32)):=by kernel_rfl
theorem zsQ:enters Tryd.prog 9=true:=by kernel_rfl
theorem zqE:enters Tryd.prog 10=true:=by kernel_rfl
theorem zqF:enters Tryd.prog 11=true:=by kernel_rfl
theorem zqG:enters Tryd.prog 13=true:=by kernel_rfl
theorem zqH:enters Tryd.prog 15=true:=by kernel_rfl
theorem zqI:enters Tryd.prog 17=true:=by kernel_rfl
theorem zqJ:enters Tryd.prog 18=true:=by kernel_rfl
theorem zqK:enters Tryd.prog 19=true:=by kernel_rfl
theorem zqL:enters Tryd.prog 21=true:=by kernel_rfl
theorem zqM:enters Tryd.prog 23=true:=by kernel_rfl
theorem zqN:enters Tryd.prog 29=true:=by kernel_rfl
theorem zqO:enters Tryd.prog 30=true:=by kernel_rfl
theorem zqP:enters Tryd.prog 31=true:=by kernel_rfl
theorem zqQ:enters Tryd.prog 32=true:=by kernel_rfl
theorem zqR:enters Tryd.prog 33=true:=by kernel_rfl
theorem zqS:enters Tryd.prog 34=true:=by kernel_rfl
theorem zqT:enters Tryd.prog 35=true:=by kernel_rfl
theorem zqU:enters Tryd.prog 36=true:=by kernel_rfl
theorem zqV:enters Tryd.prog 37=true:=by kernel_rfl
theorem zqW:enters Tryd.prog 41=true:=by kernel_rfl
theorem zqX:enters Tryd.prog 42=true:=by kernel_rfl
theorem zqY:enters Tryd.prog 43=true:=by kernel_rfl
theorem zqZ:enters Tryd.prog 44=true:=by kernel_rfl
theorem zq0:enters Tryd.prog 45=true:=by kernel_rfl
theorem zq1:enters Tryd.prog 46=true:=by kernel_rfl
theorem zq2:enters Tryd.prog 47=true:=by kernel_rfl
theorem zq3:enters Tryd.prog 52=true:=by kernel_rfl
theorem zq4:enters Tryd.prog 53=true:=by kernel_rfl
theorem zq5:enters Tryd.prog 54=true:=by kernel_rfl
theorem zq6:enters Tryd.prog 55=true:=by kernel_rfl
theorem zq7:enters Tryd.prog 59=true:=by kernel_rfl
theorem zq8:enters Tryd.prog 60=true:=by kernel_rfl
theorem zq9:enters Tryd.prog 61=true:=by kernel_rfl
theorem zra:enters Tryd.prog 62=true:=by kernel_rfl
theorem zrb:enters Tryd.prog 63=true:=by kernel_rfl
theorem zrc:enters Tryd.prog 64=true:=by kernel_rfl
theorem zrd:enters Tryd.prog 65=true:=by kernel_rfl
theorem zre:enters Tryd.prog 66=true:=by kernel_rfl
theorem zrf:enters Tryd.prog 68=true:=by kernel_rfl
theorem zrg:enters Tryd.prog 69=true:=by kernel_rfl
theorem zrh:enters Tryd.prog 70=true:=by kernel_rfl
theorem zri:enters Tryd.prog 72=true:=by kernel_rfl
theorem zrj:enters Tryd.prog 77=true:=by kernel_rfl
theorem zrk:enters Tryd.prog 78=true:=by kernel_rfl
theorem zrl:enters Tryd.prog 79=true:=by kernel_rfl
theorem zrm:enters Tryd.prog 80=true:=by kernel_rfl
theorem zrn:enters Tryd.prog 81=true:=by kernel_rfl
theorem zro:enters Tryd.prog 90=true:=by kernel_rfl
theorem zrp:enters Tryd.prog 91=true:=by kernel_rfl
theorem zrq:enters Tryd.prog 93=true:=by kernel_rfl
theorem zrr:enters Tryd.prog 94=true:=by kernel_rfl
theorem zrs:enters Tryd.prog 95=true:=by kernel_rfl
theorem zrt:enters Tryd.prog 96=true:=by kernel_rfl
theorem zru:enters Tryd.prog 97=true:=by kernel_rfl
theorem zoz:enters Tryd.prog 102=true:=by kernel_rfl
theorem ztC:zeR Tryd.prog 5=true:=by kernel_rfl
theorem zjw:zb7 Tryd.prog 79=some (.p (.s .nilFunc)):=by kernel_rfl
theorem follows:Tryd.prog.follows .mixedOrders=true:=by kernel_rfl
attribute [go_sem] cells3 zuc zud cells4 bytes4 zvm zue zuf cells5 bytes5 zvn zug zuh zui zqk cells24 zsB zmD zsC zsD cells27 bytes27 zoy zsE zsF cells29 zmE build29 cells31 cells32 cells34 zmF zsG cells46 zql zsH cells47 cells49 zmG zsI zsJ zqm zmH zqn zmI zqo zsK zsL zmJ zsM zsN zmK zsO zqp zqq zjr zqr zqs zqt zqu zqv zjs zqw zqx zjt zqy zfv zsP zqz zju zqA zqB zqC zjv zqD zsQ zqE zqF zqG zqH zqI zqJ zqK zqL zqM zqN zqO zqP zqQ zqR zqS zqT zqU zqV zqW zqX zqY zqZ zq0 zq1 zq2 zq3 zq4 zq5 zq6 zq7 zq8 zq9 zra zrb zrc zrd zre zrf zrg zrh zri zrj zrk zrl zrm zrn zro zrp zrq zrr zrs zrt zru zoz ztC zjw
attribute [go_sem] Tryd.underlying1 Tryd.underlying2 Tryd.underlying3 Tryd.underlying4 Tryd.underlying5 Tryd.underlying6 Tryd.underlying7 Tryd.underlying8 Tryd.underlying9 Tryd.underlying10 Tryd.underlying11 Tryd.underlying12 Tryd.underlying13 Tryd.underlying14 Tryd.underlying15 Tryd.underlying16 Tryd.underlying17 Tryd.underlying18 Tryd.underlying19 Tryd.underlying20 Tryd.underlying21 Tryd.underlying22 Tryd.underlying23 Tryd.underlying24 Tryd.underlying25 Tryd.underlying26 Tryd.underlying27 Tryd.underlying28 Tryd.underlying29 Tryd.underlying30 Tryd.underlying31 Tryd.underlying32 Tryd.underlying33 Tryd.underlying34 Tryd.underlying35 Tryd.underlying37 Tryd.underlying39 Tryd.underlying40 Tryd.underlying41 Tryd.underlying42 Tryd.underlying43 Tryd.underlying44 Tryd.underlying45 Tryd.underlying46 Tryd.underlying47 Tryd.underlying48 Tryd.underlying49 Tryd.underlying51 Tryd.underlying52 Tryd.underlying53 Tryd.underlying54 Tryd.underlying55 Tryd.underlying57 Tryd.underlying58 Tryd.underlying59 Tryd.underlying60 Tryd.underlying61 Tryd.underlying62 Tryd.underlying63 Tryd.underlying64 Tryd.underlying65 Tryd.underlying66 Tryd.underlying68 Tryd.underlying69 Tryd.underlying70 Tryd.underlying71 Tryd.underlying72 Tryd.underlying73 Tryd.underlying74 Tryd.underlying75 Tryd.underlying76 Tryd.underlying78 Tryd.underlying79 Tryd.underlying81 Tryd.underlying82 Tryd.underlying83 Tryd.underlying84 Tryd.underlying85 Tryd.underlying86 Tryd.underlying87 Tryd.underlying88 Tryd.underlying89 Tryd.underlying90 Tryd.underlying91 Tryd.underlying92 Tryd.underlying93 Tryd.underlying94 Tryd.underlying96 Tryd.underlying97 Tryd.underlying98 Tryd.underlying99 Tryd.underlying100 Tryd.underlying102 Tryd.underlying103 Tryd.underlying104 Tryd.underlying105 Tryd.underlying107 Tryd.underlying108 Tryd.underlying109 Tryd.underlying110 Tryd.underlying111 Tryd.underlying112 Tryd.underlying114 Tryd.underlying115 Tryd.underlying116 Tryd.underlying117 Tryd.underlying118 Tryd.underlying119 Tryd.underlying120 Tryd.underlying121 Tryd.underlying122 Tryd.underlying123 Tryd.underlying124 Tryd.underlying125 Tryd.underlying126 Tryd.underlying127 Tryd.underlying128 Tryd.underlying129 Tryd.underlying130 Tryd.underlying131 Tryd.underlying132 Tryd.underlying133 Tryd.underlying134 Tryd.underlying135 Tryd.underlying136 Tryd.underlying137 Tryd.underlying138 Tryd.underlying139 Tryd.underlying140 Tryd.underlying142 Tryd.underlying143 Tryd.underlying144 Tryd.underlying145 Tryd.underlying146 Tryd.underlying147 Tryd.underlying148 Tryd.underlying149 Tryd.underlying150 Tryd.underlying151 Tryd.underlying152 Tryd.underlying154 Tryd.underlying156 Tryd.underlying157 Tryd.underlying158 Tryd.underlying159 Tryd.underlying160 Tryd.underlying161 Tryd.underlying162 Tryd.underlying163 Tryd.underlying164 Tryd.underlying165 Tryd.underlying166 Tryd.underlying167 Tryd.underlying168 Tryd.underlying169 Tryd.underlying170 Tryd.underlying171 Tryd.underlying172

end Go.Proofs.YtdpfkanfahchjaaDoor

/-
  The walk of slices.Clone.
-/
namespace Go.Proofs.YtdpfkanfahchjaaDoor
open Go Go.AL

set_option maxHeartbeats 4000000 in
theorem zlG {G:Globs} (a:List (BitVec 8)) (ha:a.length≤140737488355000) (H:Hp) (R:AV → Hp → Prop) (h:R (.sl H.n 0 1 (pl b8 a)) (H.new (.tail 0))) :
 ACall Tryd.prog G 95 [.p (.sl false 1 (pl b8 a))] H R:=by
 refine ACall.of_run (raw:=[]) Tryd.func95 rfl Tryd.ntmps95 (by simp) fun hbel => ?_
 refine .q ?_;refine .text ?_;simp (disch:=first|exact za|fail) only [go_sem,seval]
 refine .q ?_
 refine .region (.one rfl (by simp (disch:=first|exact za|fail) only [go_sem,seval];rfl) rfl ?_)
 refine .isNil (e:=5) Tryd.underlying27 (xs:=pl b8 a) (fl:=false) (sz:=1) (by simp (disch:=first|exact za|fail) only [go_sem,seval]) rfl fun b hb => .nil ?_
 cases b with
 | true =>
  have ha0:a=[]:=by have:=hb rfl;cases a with | nil=>rfl | cons x l=>cases this
  subst ha0
  refine .q ?_;refine .ifT (by simp (disch:=first|exact za|fail) only [go_sem,seval]) ?_
  refine .q ?_;refine .text ?_;simp (disch:=first|exact za|fail) only [go_sem,seval]
  refine .q ?_;refine .own 2 (by simp (disch:=first|exact za|fail) only [go_sem,seval];rfl) ?_
  refine .q ?_;refine .retOwn Tryd.func95 (by rw [Tryd.results95]) (by simp (disch:=first|exact za|fail) only [go_sem,seval];rfl) (by simp (disch:=first|exact za|fail) only [go_sem,seval]) (by first | exact Nat.le_refl _ | (dsimp only;omega)) (by (try dsimp only);repeat (first | with_reducible refine zbJ ?_ za | with_reducible refine zaY ?_ za | with_reducible refine zbK ?_ za | with_reducible refine zad ?_ | with_reducible exact hbel | with_reducible exact hbel _)) ?_;simp (disch:=first|exact za|fail) only [go_sem,seval]
  exact h
 | false =>
  refine .q ?_;refine .ifF (by simp (disch:=first|exact za|fail) only [go_sem,seval]) ?_
  refine .q ?_;refine .text ?_;simp (disch:=first|exact za|fail) only [go_sem,seval]
  refine .q ?_;refine .retOwn Tryd.func95 (by rw [Tryd.results95]) (by simp (disch:=first|exact za|fail) only [go_sem,seval];rfl) (by simp (disch:=first|exact za|fail) only [go_sem,seval]) (by first | exact Nat.le_refl _ | (dsimp only;omega)) (by (try dsimp only);repeat (first | with_reducible refine zbJ ?_ za | with_reducible refine zaY ?_ za | with_reducible refine zbK ?_ za | with_reducible refine zad ?_ | with_reducible exact hbel | with_reducible exact hbel _)) ?_;simp (disch:=first|exact za|fail) only [go_sem,seval]
  exact h

end Go.Proofs.YtdpfkanfahchjaaDoor

/-
  SHA-256's round and schedule as plain functions on words.
-/
namespace Go.Proofs.YtdpfkanfahchjaaDoor
open Go Go.AL

def zdO (x:BitVec 32) (n:Nat):BitVec 32:=x >>> n ||| x <<< (32 - n)
def sg0 (x:BitVec 32):BitVec 32:=zdO x 7 ^^^ zdO x 18 ^^^ x >>> 3
def sg1 (x:BitVec 32):BitVec 32:=zdO x 17 ^^^ zdO x 19 ^^^ x >>> 10
def bg0 (x:BitVec 32):BitVec 32:=zdO x 2 ^^^ zdO x 13 ^^^ zdO x 22
def bg1 (x:BitVec 32):BitVec 32:=zdO x 6 ^^^ zdO x 11 ^^^ zdO x 25

def word (b:List (BitVec 8)) (i:Nat):BitVec 32:=(nth b (4*i)).setWidth 32*16777216#32+(nth b (4*i+1)).setWidth 32*65536#32+(nth b (4*i+2)).setWidth 32*256#32+(nth b (4*i+3)).setWidth 32

def zrv (b:List (BitVec 8)) (w:List (BitVec 32)) (i:Nat):BitVec 32:=if i < 16 then word b i else nth w (i - 16)+sg0 (nth w (i - 15))+nth w (i - 7)+sg1 (nth w (i - 2))

def sW (b:List (BitVec 8)):Nat → List (BitVec 32)
 | 0=>List.replicate 64 0#32
 | i+1=>(sW b i).set i (zrv b (sW b i) i)

theorem zhy (b:List (BitVec 8)) (i:Nat):(sW b i).length=64:=by
 induction i with
 | zero=>simp [sW]
 | succ i ih=>simp [sW,ih]

attribute [go_sem] zhy
def ks:List (BitVec 32):=[
 0x428a2f98#32,0x71374491#32,0xb5c0fbcf#32,0xe9b5dba5#32,0x3956c25b#32,0x59f111f1#32,0x923f82a4#32,0xab1c5ed5#32,
 0xd807aa98#32,0x12835b01#32,0x243185be#32,0x550c7dc3#32,0x72be5d74#32,0x80deb1fe#32,0x9bdc06a7#32,0xc19bf174#32,
 0xe49b69c1#32,0xefbe4786#32,0x0fc19dc6#32,0x240ca1cc#32,0x2de92c6f#32,0x4a7484aa#32,0x5cb0a9dc#32,0x76f988da#32,
 0x983e5152#32,0xa831c66d#32,0xb00327c8#32,0xbf597fc7#32,0xc6e00bf3#32,0xd5a79147#32,0x06ca6351#32,0x14292967#32,
 0x27b70a85#32,0x2e1b2138#32,0x4d2c6dfc#32,0x53380d13#32,0x650a7354#32,0x766a0abb#32,0x81c2c92e#32,0x92722c85#32,
 0xa2bfe8a1#32,0xa81a664b#32,0xc24b8b70#32,0xc76c51a3#32,0xd192e819#32,0xd6990624#32,0xf40e3585#32,0x106aa070#32,
 0x19a4c116#32,0x1e376c08#32,0x2748774c#32,0x34b0bcb5#32,0x391c0cb3#32,0x4ed8aa4a#32,0x5b9cca4f#32,0x682e6ff3#32,
 0x748f82ee#32,0x78a5636f#32,0x84c87814#32,0x8cc70208#32,0x90befffa#32,0xa4506ceb#32,0xbef9a3f7#32,0xc67178f2#32]
def inits:List (BitVec 32):=[0x6a09e667#32,0xbb67ae85#32,0x3c6ef372#32,0xa54ff53a#32,0x510e527f#32,0x9b05688c#32,0x1f83d9ab#32,0x5be0cd19#32]

structure St where
 (a b c d e f g h:BitVec 32)

def rnd (s:St) (k w:BitVec 32):St :=
 let t:=s.h+bg1 s.e+(s.e &&& s.f ^^^ (4294967295#32 - s.e) &&& s.g)+k+w
 let u:=bg0 s.a+(s.a &&& s.b ||| s.a &&& s.c ||| s.b &&& s.c)
 ⟨t+u,s.a,s.b,s.c,s.d+t,s.e,s.f,s.g⟩
def zlH (w:List (BitVec 32)) (s:St):Nat → St
 | 0=>s
 | i+1=>rnd (zlH w s i) (nth ks i) (nth w i)
def st (s:List (BitVec 32)):St:=⟨nth s 0,nth s 1,nth s 2,nth s 3,nth s 4,nth s 5,nth s 6,nth s 7⟩
def fin (s:List (BitVec 32)) (z:St):List (BitVec 32):=[nth s 0+z.a,nth s 1+z.b,nth s 2+z.c,nth s 3+z.d,nth s 4+z.e,nth s 5+z.f,nth s 6+z.g,nth s 7+z.h]
def comp (s:List (BitVec 32)) (b:List (BitVec 8)):List (BitVec 32):=fin s (zlH (sW b 64) (st s) 64)
end Go.Proofs.YtdpfkanfahchjaaDoor

/-
  The walks of the functions that compute one round: rotations,the tables.
-/
namespace Go.Proofs.YtdpfkanfahchjaaDoor
open Go Go.AL


theorem zu {G:Globs} (x:BitVec 32) (n:Int) (m:Nat) (hm:BitVec.ofInt 64 n &&& 31#64=BitVec.ofNat 64 m) (h1:m≤32) (H:Hp) (R:AV → Hp → Prop) (h:R (.p (zG (zdO x (32 - m)))) H):ACall Tryd.prog G 97 [.p (zG x),.p (i64 n)] H R:=by
 have e1:(BitVec.ofNat 64 m).toNat=m:=by simp;omega
 have e2:(32#64 - BitVec.ofNat 64 m).toNat=32 - m:=by simp;omega
 refine ACall.of_run (raw:=[]) Tryd.func97 rfl Tryd.ntmps97 (by simp) fun hbel => ?_
 refine .q ?_;refine .text ?_;simp (disch:=first|exact za|fail) only [go_sem,seval]
 refine .q ?_;refine .text ?_;simp (disch:=first|exact za|fail) only [go_sem,seval]
 refine .q ?_;refine .text ?_;simp (disch:=first|exact za|fail) only [go_sem,seval,hm,e1,e2]
 refine .q ?_;refine .rt Tryd.func97 (by rw [Tryd.results97]) (hR := ?_);simp (disch:=first|exact za|fail) only [go_sem,seval]
 have e:x <<< m ||| x >>> (32 - m)=zdO x (32 - m):=by
  unfold zdO
  rw [show 32 - (32 - m)=m by omega,BitVec.or_comm]
 rw [e]
 exact h

end Go.Proofs.YtdpfkanfahchjaaDoor

/-
  The walk of the reference's schedule.
-/
namespace Go.Proofs.YtdpfkanfahchjaaDoor
open Go Go.AL


end Go.Proofs.YtdpfkanfahchjaaDoor

/-
  The walks of the reference's tables and of its compression of one block.
-/
namespace Go.Proofs.YtdpfkanfahchjaaDoor
open Go Go.AL




end Go.Proofs.YtdpfkanfahchjaaDoor

/-
  The plain laws of the words: how a word is put together of four bytes;choice and majority.
-/
namespace Go.Proofs.YtdpfkanfahchjaaDoor
open Go Go.AL

theorem zsR (x:BitVec 32) (y:BitVec 8):x <<< 8 ||| y.setWidth 32=x*256#32+y.setWidth 32:=by
 have e:x*256#32=x <<< 8:=by
  rw [BitVec.shiftLeft_eq_mul_twoPow];rfl
 rw [e]
 symm
 apply BitVec.add_eq_or_of_and_eq_zero
 ext i hi
 simp only [BitVec.getElem_and,BitVec.getElem_shiftLeft,BitVec.getElem_setWidth,BitVec.getElem_zero]
 by_cases h:i < 8
 · simp [h]
 · simp [h,BitVec.getLsbD_of_ge y i (by omega)]

def part (b:List (BitVec 8)) (i:Nat):Nat → BitVec 32
 | 0=>0#32
 | j+1=>part b i j <<< 8 ||| (nth b (4*i+j)).setWidth 32

theorem zoA (b:List (BitVec 8)) (i:Nat):part b i 4=word b i:=by
 simp only [part,zsR,word,BitVec.add_mul,BitVec.mul_assoc,Nat.add_zero,BitVec.zero_mul,BitVec.zero_add]
 rfl

theorem zmL (b:List (BitVec 8)) : ∀ (i j:Nat),i≤j → j < 64 → nth (sW b i) j=0#32
 | 0,j,_,hj=>zcJ hj
 | i+1,j,h,hj=>by rw [sW,zff (by omega)];exact zmL b i j (by omega) hj

theorem zsS {α:Type} [Inhabited α] {l:List α} {i:Nat} (h:i < l.length):l.set i (nth l i)=l:=by
 refine zev (by simp) fun j hj => ?_
 by_cases e:i=j
 · subst e;rw [zfe rfl h]
 · rw [zff e]

theorem zrw (b:List (BitVec 8)) (i:Nat) (h:i < 64):(sW b i).set i (part b i 0)=sW b i:=by
 have:=zsS (l:=sW b i) (i:=i) (by rw [zhy];exact h)
 rwa [zmL b i i (Nat.le_refl _) h] at this

theorem zrx (b:List (BitVec 8)) (i:Nat) (h:i < 16):(sW b i).set i (part b i 4)=sW b (i+1):=by
 rw [zoA,sW,zrv,if_pos h]

theorem zsT (e:BitVec 32) : ~~~e=4294967295#32 - e:=by
 rw [show (4294967295#32:BitVec 32)=BitVec.allOnes 32 from rfl,BitVec.allOnes_sub_eq_not]
theorem zuj (a b c:BitVec 32):a &&& b ^^^ a &&& c ^^^ b &&& c=a &&& b ||| a &&& c ||| b &&& c:=by
 ext i hi
 simp only [BitVec.getElem_and,BitVec.getElem_xor,BitVec.getElem_or]
 cases a[i]<;>cases b[i]<;>cases c[i]<;>rfl
end Go.Proofs.YtdpfkanfahchjaaDoor

/-
  The walks of the package's schedule and of its compression of one block.
-/
namespace Go.Proofs.YtdpfkanfahchjaaDoor
open Go Go.AL

set_option maxHeartbeats 8000000 in
theorem zf7 {G:Globs} (b:List (BitVec 8)) (hb:b.length=64) (H:Hp) (R:AV → Hp → Prop) (h:R (.p (.agg (pl zG (sW b 64)))) H):ACall Tryd.prog G 96 [.p (.sl false 1 (pl b8 b))] H R:=by
 refine ACall.of_run (raw:=[]) Tryd.func96 rfl Tryd.ntmps96 (by simp) fun hbel => ?_
 refine .q ?_;refine .text ?_;simp (disch:=first|exact za|fail) only [go_sem,seval,-List.reduceReplicate]
 refine .q ?_;refine .text ?_;simp (disch:=first|exact za|fail) only [go_sem,seval,-List.reduceReplicate]
 refine .q ?_;refine .text ?_;simp (disch:=first|exact za|fail) only [go_sem,seval,-List.reduceReplicate]
 refine .q ?_
 refine .count (fun i env H'=>env 0 = .p (.sl false 1 (pl b8 b))∧env 2 = .ptr H.n 0∧env 3 = .ptr (H.n+1) 0∧env 12 = .p (i64 i)∧H'=(H.new (.cells (cl zG (List.replicate 64 0#32)))).new (.cells (cl zG (sW b i)))) 0 16 (by omega) ?_ ?_ ?_
 · simp (disch:=first|exact za|fail) only [go_sem,seval,-List.reduceReplicate]
   rw [sW]
 · intro env H' ⟨e0,e2,e3,e12,eH⟩
   subst eH
   refine .q ?_;refine .text ?_;simp (disch:=first|exact za|fail) only [go_sem,seval,-List.reduceReplicate,e12]
   refine .q ?_;refine .ifF (by simp (disch:=first|exact za|fail) only [go_sem,seval,-List.reduceReplicate]) ?_
   refine .q ?_;refine .text ?_;simp (disch:=first|exact za|fail) only [go_sem,seval,-List.reduceReplicate,e12]
   refine .q ?_
   refine .count (fun i env H'=>env 2 = .ptr H.n 0∧env 3 = .ptr (H.n+1) 0∧env 7 = .p (i64 i)∧H'=(H.new (.cells (cl zG (List.replicate 64 0#32)))).new (.cells (cl zG (sW b i)))) 16 64 (by omega) ?_ ?_ ?_
   · simp (disch:=first|exact za|fail) only [go_sem,seval,-List.reduceReplicate,e2,e3]
   · intro env H' ⟨e2,e3,e7,eH⟩
     subst eH
     refine .q ?_;refine .text ?_;simp (disch:=first|exact za|fail) only [go_sem,seval,-List.reduceReplicate,e7]
     refine .q ?_;refine .ifF (by simp (disch:=first|exact za|fail) only [go_sem,seval,-List.reduceReplicate]) ?_
     refine .q ?_;refine .text ?_;simp (disch:=first|exact za|fail) only [go_sem,seval,-List.reduceReplicate,e3,e2]
     refine .q ?_;refine .rt Tryd.func96 (by rw [Tryd.results96]) (hx:=by simp (disch:=first|exact za|fail) only [go_sem,seval,-List.reduceReplicate,e2];rfl) (hR := ?_);simp (disch:=first|exact za|fail) only [go_sem,seval,-List.reduceReplicate,e2]
     exact h
   · intro i env H' hi0 hi ⟨e2,e3,e7,eH⟩ ih
     subst eH
     refine .q ?_;refine .text ?_;simp (disch:=first|exact za|fail) only [go_sem,seval,-List.reduceReplicate,e7]
     refine .q ?_;refine .ifT (by simp (disch:=first|exact za|fail) only [go_sem,seval,-List.reduceReplicate]) ?_
     refine .q ?_;refine .open [] follows (by kernel_rfl) ?_;simp (disch:=first|exact za|fail) only [go_sem,seval,-List.reduceReplicate,e7,e3,e2]
     refine .q ?_;refine .text ?_;simp (disch:=first|exact za|fail) only [go_sem,seval,-List.reduceReplicate,e7,e3,e2]
     refine CallK.of (fun R h=>zu _ (-7) 25 (by decide) (by omega) _ R h) ?_;simp (disch:=first|exact za|fail) only [go_sem,seval,-List.reduceReplicate,e7,e3,e2]
     refine CallK.of (fun R h=>zu _ (-18) 14 (by decide) (by omega) _ R h) ?_;simp (disch:=first|exact za|fail) only [go_sem,seval,-List.reduceReplicate,e7,e3,e2]
     refine .q ?_;refine .text ?_;simp (disch:=first|exact za|fail) only [go_sem,seval,-List.reduceReplicate,e7,e3,e2]
     refine CallK.of (fun R h=>zu _ (-17) 15 (by decide) (by omega) _ R h) ?_;simp (disch:=first|exact za|fail) only [go_sem,seval,-List.reduceReplicate,e7,e3,e2]
     refine CallK.of (fun R h=>zu _ (-19) 13 (by decide) (by omega) _ R h) ?_;simp (disch:=first|exact za|fail) only [go_sem,seval,-List.reduceReplicate,e7,e3,e2]
     refine .q ?_;refine .open [15] follows (by kernel_rfl) ?_;simp (disch:=first|exact za|fail) only [go_sem,seval,-List.reduceReplicate,e7,e3,e2]
     refine .q ?_;refine .text ?_;simp (disch:=first|exact za|fail) only [go_sem,seval,-List.reduceReplicate,e7,e3,e2]
     refine ih _ _ ?_
     simp (disch:=first|exact za|fail) only [go_sem,seval,-List.reduceReplicate,e2,e3,e7]
     have hi16 : ¬i < 16:=by omega
     simp only [sW,zrv,if_neg hi16,sg0,sg1]
 · intro i env H' _ hi ⟨e0,e2,e3,e12,eH⟩ ih
   subst eH
   refine .q ?_;refine .text ?_;simp (disch:=first|exact za|fail) only [go_sem,seval,-List.reduceReplicate,e12]
   refine .q ?_;refine .ifT (by simp (disch:=first|exact za|fail) only [go_sem,seval,-List.reduceReplicate]) ?_
   refine .q ?_;refine .text ?_;simp (disch:=first|exact za|fail) only [go_sem,seval,-List.reduceReplicate,e12]
   refine .q ?_;refine .text ?_;simp (disch:=first|exact za|fail) only [go_sem,seval,-List.reduceReplicate,e0,e12]
   refine .q ?_
   refine .count (fun j env H'=>env 0 = .p (.sl false 1 (pl b8 b))∧env 2 = .ptr H.n 0∧env 3 = .ptr (H.n+1) 0∧env 4 = .p (i64 i)∧env 12 = .p (i64 i)∧env 21 = .p (.sl false 1 (pl b8 ((b.take (4*i+4)).drop (4*i))))∧env 22 = .p (i64 4)∧env 23 = .p (i64 j) ∧
    H'=(H.new (.cells (cl zG (List.replicate 64 0#32)))).new (.cells (cl zG ((sW b i).set i (part b i j))))) 0 4 (by omega) ?_ ?_ ?_
   · simp (disch:=first|exact za|fail) only [go_sem,seval,-List.reduceReplicate,e0,e2,e3,e12]
     rw [zrw b i (by omega)]
   · intro env H' ⟨e0,e2,e3,e4,e12,e21,e22,e23,eH⟩
     subst eH
     refine .q ?_;refine .text ?_;simp (disch:=first|exact za|fail) only [go_sem,seval,-List.reduceReplicate,e22,e23]
     refine .q ?_;refine .ifF (by simp (disch:=first|exact za|fail) only [go_sem,seval,-List.reduceReplicate]) ?_
     refine .q ?_;refine .text ?_;simp (disch:=first|exact za|fail) only [go_sem,seval,-List.reduceReplicate,e12]
     refine ih _ _ ?_
     simp (disch:=first|exact za|fail) only [go_sem,seval,-List.reduceReplicate,e0,e2,e3,e12]
     rw [zrx b i hi]
   · intro j env H' _ hj ⟨e0,e2,e3,e4,e12,e21,e22,e23,eH⟩ ih2
     subst eH
     refine .q ?_;refine .text ?_;simp (disch:=first|exact za|fail) only [go_sem,seval,-List.reduceReplicate,e22,e23]
     refine .q ?_;refine .ifT (by simp (disch:=first|exact za|fail) only [go_sem,seval,-List.reduceReplicate]) ?_
     refine .q ?_;refine .text ?_;simp (disch:=first|exact za|fail) only [go_sem,seval,-List.reduceReplicate,e21,e23]
     refine .q ?_;refine .text ?_;simp (disch:=first|exact za|fail) only [go_sem,seval,-List.reduceReplicate,e3,e4]
     refine .q ?_;refine .text ?_;simp (disch:=first|exact za|fail) only [go_sem,seval,-List.reduceReplicate,e23]
     refine ih2 _ _ ?_
     simp (disch:=first|exact za|fail) only [go_sem,seval,-List.reduceReplicate,e0,e2,e3,e4,e12,e21,e22,e23]
     rw [List.set_set,zfe rfl (by rw [zhy];omega),zpQ,zpR (by omega),part]

def row (z:St):List (BitVec 32):=[z.a,z.b,z.c,z.d,z.e,z.f,z.g,z.h]
theorem zsU (z:St):(row z).length=8:=rfl
def zvo (s:St) (k w:BitVec 32):St :=
 let t:=s.h+bg1 s.e+(s.e &&& s.f ^^^ (4294967295#32 - s.e) &&& s.g)+k+w
 ⟨t+bg0 s.a+(s.a &&& s.b ||| s.a &&& s.c ||| s.b &&& s.c),s.a,s.b,s.c,s.d+t,s.e,s.f,s.g⟩
theorem zoB (s:St) (k w:BitVec 32):rnd s k w=zvo s k w:=by
 unfold rnd zvo
 simp only [BitVec.add_assoc]
def addRow (r s:List (BitVec 32)):Nat → List (BitVec 32)
 | 0=>s
 | i+1=>(addRow r s i).set i (nth (addRow r s i) i+nth r i)
theorem zlI (r s:List (BitVec 32)) (i:Nat):(addRow r s i).length=s.length:=by
 induction i with
 | zero=>rfl
 | succ i ih=>simp [addRow,ih]
attribute [go_sem] zsU zlI
theorem zvp (s:List (BitVec 32)) (h:s.length=8):s=[nth s 0,nth s 1,nth s 2,nth s 3,nth s 4,nth s 5,nth s 6,nth s 7]:=by
 rcases s with _ | ⟨a0,_ | ⟨a1,_ | ⟨a2,_ | ⟨a3,_ | ⟨a4,_ | ⟨a5,_ | ⟨a6,_ | ⟨a7,_ | ⟨a8,l⟩⟩⟩⟩⟩⟩⟩⟩⟩<;>simp at h
 rfl
theorem zsV (z:St) (s:List (BitVec 32)) (h:s.length=8):addRow (row z) s 8=fin s z:=by
 rw [zvp s h]
 rfl

set_option maxHeartbeats 16000000 in
theorem zf8 {G:Globs} (hG:G 1=some (64,[.agg (pl zG ks)])) (s:List (BitVec 32)) (b:List (BitVec 8)) (hs:s.length=8) (hb:b.length=64) (H:Hp) (p:Nat) (hp:H.f p=some (.cells (cl zG s))) (hpn:p < H.n) (R:AV → Hp → Prop)
 (h:R (.tup []) (H.set p (.cells (cl zG (comp s b))))) :
 ACall Tryd.prog G 81 [.ptr p 0,.p (.sl false 1 (pl b8 b))] H R:=by
 refine ACall.of_run (raw:=[]) Tryd.func81 rfl Tryd.ntmps81 (by simp) fun hbel => ?_
 have hk:ks.length=64:=rfl
 have hw:(sW b 64).length=64:=zhy _ _
 generalize hW:sW b 64=W at hw
 refine .q ?_;refine .text ?_;simp (disch:=first|exact za|fail) only [go_sem,seval,-List.reduceReplicate]
 refine CallK.of (fun R h=>zf7 b hb _ R h) ?_;simp (disch:=first|exact za|fail) only [go_sem,seval,-List.reduceReplicate,hW]
 refine .q ?_;refine .text ?_;simp (disch:=first|exact za|fail) only [go_sem,seval,-List.reduceReplicate,hp]
 refine .q ?_;refine .text ?_;simp (disch:=first|exact za|fail) only [go_sem,seval,-List.reduceReplicate]
 refine .q ?_
 refine .count (fun i env H'=>env 0 = .ptr p 0∧env 4 = .ptr H.n 0∧env 5 = .ptr (H.n+1) 0∧env 21 = .p (i64 i)∧H'=(H.new (.cells (cl zG W))).new (.cells (cl zG (row (zlH W (st s) i))))) 0 64 (by omega) ?_ ?_ ?_
 · simp (disch:=first|exact za|fail) only [go_sem,seval,-List.reduceReplicate]
   simp only [row,zlH,st]
   rw [←zvp s hs]
 · intro env H' ⟨e0,e4,e5,e21,eH⟩
   subst eH
   refine .q ?_;refine .text ?_;simp (disch:=first|exact za|fail) only [go_sem,seval,-List.reduceReplicate,e21]
   refine .q ?_;refine .ifF (by simp (disch:=first|exact za|fail) only [go_sem,seval,-List.reduceReplicate]) ?_
   refine .q ?_;refine .text ?_;simp (disch:=first|exact za|fail) only [go_sem,seval,-List.reduceReplicate,e5,e0]
   generalize hz:zlH W (st s) 64=z
   refine .q ?_
   refine .count (fun i env H'=>env 0 = .ptr p 0∧env 98 = .p (.agg (pl zG (row z)))∧env 99 = .p (i64 i)∧H'=((H.set p (.cells (cl zG (addRow (row z) s i)))).new (.cells (cl zG W))).new (.cells (cl zG (row z)))) 0 8 (by omega) ?_ ?_ ?_
   · simp (disch:=first|exact za|fail) only [go_sem,seval,-List.reduceReplicate,e0]
     rw [addRow,set_same hp]
   · intro env H' ⟨e0,e98,e99,eH⟩
     subst eH
     refine .q ?_;refine .text ?_;simp (disch:=first|exact za|fail) only [go_sem,seval,-List.reduceReplicate,e99]
     refine .q ?_;refine .ifF (by simp (disch:=first|exact za|fail) only [go_sem,seval,-List.reduceReplicate]) ?_
     refine .q ?_;refine .fin Tryd.func81 (by rw [Tryd.results81]) (by simp (disch:=first|exact za|fail) only [go_sem,seval,-List.reduceReplicate];rfl) (by simp (disch:=first|exact za|fail) only [go_sem,seval,-List.reduceReplicate];rfl) (by (try dsimp only);repeat (first | with_reducible refine zbJ ?_ za | with_reducible refine zaY ?_ za | with_reducible refine zbK ?_ za | with_reducible refine zad ?_ | with_reducible exact hbel | with_reducible exact hbel _)) ?_;simp (disch:=first|exact za|fail) only [go_sem,seval,-List.reduceReplicate]
     rw [zsV z s hs,←hz,←hW] at *
     exact h
   · intro i env H' _ hi ⟨e0,e98,e99,eH⟩ ih
     subst eH
     refine .q ?_;refine .text ?_;simp (disch:=first|exact za|fail) only [go_sem,seval,-List.reduceReplicate,e99]
     refine .q ?_;refine .ifT (by simp (disch:=first|exact za|fail) only [go_sem,seval,-List.reduceReplicate]) ?_
     refine .q ?_;refine .text ?_;simp (disch:=first|exact za|fail) only [go_sem,seval,-List.reduceReplicate,e98,e99]
     refine .q ?_;refine .open [9] follows (by kernel_rfl) ?_;simp (disch:=first|exact za|fail) only [go_sem,seval,-List.reduceReplicate,e0,hp]
     refine .q ?_;refine .text ?_;simp (disch:=first|exact za|fail) only [go_sem,seval,-List.reduceReplicate,e99]
     refine ih _ _ ?_
     simp (disch:=first|exact za|fail) only [go_sem,seval,-List.reduceReplicate,e0,e98,e99]
     rw [addRow]
 · intro i env H' _ hi ⟨e0,e4,e5,e21,eH⟩ ih
   subst eH
   refine .q ?_;refine .text ?_;simp (disch:=first|exact za|fail) only [go_sem,seval,-List.reduceReplicate,e21]
   refine .q ?_;refine .ifT (by simp (disch:=first|exact za|fail) only [go_sem,seval,-List.reduceReplicate]) ?_
   refine .q ?_;refine .text ?_;simp (disch:=first|exact za|fail) only [go_sem,seval,-List.reduceReplicate,e21]
   refine .q ?_;refine .open [] follows (by kernel_rfl) ?_;simp (disch:=first|exact za|fail) only [go_sem,seval,-List.reduceReplicate,e0,e4,e5,e21]
   refine .q ?_;refine .text ?_;simp (disch:=first|exact za|fail) only [go_sem,seval,-List.reduceReplicate,e0,e4,e5,e21]
   refine CallK.of (fun R h=>zu _ (-6) 26 (by decide) (by omega) _ R h) ?_;simp (disch:=first|exact za|fail) only [go_sem,seval,-List.reduceReplicate,e0,e4,e5,e21]
   refine CallK.of (fun R h=>zu _ (-11) 21 (by decide) (by omega) _ R h) ?_;simp (disch:=first|exact za|fail) only [go_sem,seval,-List.reduceReplicate,e0,e4,e5,e21]
   refine CallK.of (fun R h=>zu _ (-25) 7 (by decide) (by omega) _ R h) ?_;simp (disch:=first|exact za|fail) only [go_sem,seval,-List.reduceReplicate,e0,e4,e5,e21]
   refine .q ?_;refine .text ?_;simp (disch:=first|exact za|fail) only [go_sem,seval,-List.reduceReplicate,e0,e4,e5,e21]
   refine .q ?_;refine .open [] follows (by kernel_rfl) ?_;simp (disch:=first|exact za|fail) only [go_sem,seval,-List.reduceReplicate,e0,e4,e5,e21,hG]
   refine .q ?_;refine .text ?_;simp (disch:=first|exact za|fail) only [go_sem,seval,-List.reduceReplicate,e0,e4,e5,e21]
   refine CallK.of (fun R h=>zu _ (-2) 30 (by decide) (by omega) _ R h) ?_;simp (disch:=first|exact za|fail) only [go_sem,seval,-List.reduceReplicate,e0,e4,e5,e21]
   refine CallK.of (fun R h=>zu _ (-13) 19 (by decide) (by omega) _ R h) ?_;simp (disch:=first|exact za|fail) only [go_sem,seval,-List.reduceReplicate,e0,e4,e5,e21]
   refine CallK.of (fun R h=>zu _ (-22) 10 (by decide) (by omega) _ R h) ?_;simp (disch:=first|exact za|fail) only [go_sem,seval,-List.reduceReplicate,e0,e4,e5,e21]
   refine .q ?_;refine .text ?_;simp (disch:=first|exact za|fail) only [go_sem,seval,-List.reduceReplicate,e0,e4,e5,e21]
   refine .q ?_;refine .open [2] follows (by kernel_rfl) ?_;simp (disch:=first|exact za|fail) only [go_sem,seval,-List.reduceReplicate,e0,e4,e5,e21]
   refine .q ?_;refine .text ?_;simp (disch:=first|exact za|fail) only [go_sem,seval,-List.reduceReplicate,e5]
   refine .q ?_;refine .text ?_;simp (disch:=first|exact za|fail) only [go_sem,seval,-List.reduceReplicate,e5]
   refine .q ?_;refine .text ?_;simp (disch:=first|exact za|fail) only [go_sem,seval,-List.reduceReplicate,e21]
   refine ih _ _ ?_
   simp (disch:=first|exact za|fail) only [go_sem,seval,-List.reduceReplicate,e0,e4,e5,e21]
   simp only [zlH,zsT,zuj,zoB]
   generalize zlH W (st s) i=z
   rfl

end Go.Proofs.YtdpfkanfahchjaaDoor

/-
  Padding,the digest's bytes and the whole hash as plain functions.
-/
namespace Go.Proofs.YtdpfkanfahchjaaDoor
open Go Go.AL

def zbW (n:Nat):Nat:=(119 - n % 64) % 64
theorem zry (n:Nat):(n+1+zbW n) % 64=56:=by unfold zbW;omega
theorem zsW (n j:Nat) (h:j < zbW n):(n+1+j) % 64≠56:=by unfold zbW at h;omega
theorem zsX (n:Nat):zbW n≤63:=by unfold zbW;omega
def zhz (v:BitVec 64):Nat → List (BitVec 8)
 | 0=>[]
 | i+1=>zhz v i++[(v >>> (56 - 8*i)).setWidth 8]
theorem zjx (v:BitVec 64) (i:Nat):(zhz v i).length=i:=by
 induction i with
 | zero=>rfl
 | succ i ih=>simp [zhz,ih]
def pad (b:List (BitVec 8)):List (BitVec 8):=b++[128#8]++List.replicate (zbW b.length) 0#8++zhz (BitVec.ofInt 64 b.length*8#64) 8
theorem zsY (b:List (BitVec 8)):(pad b).length=b.length+1+zbW b.length+8:=by simp [pad,zjx];omega

def dg (s:List (BitVec 32)):Nat → List (BitVec 8)
 | 0=>List.replicate 32 0#8
 | i+1=>(dg s i).set i ((nth s (i / 4) >>> (24 - 8*(i % 4))).setWidth 8)
theorem dg_len (s:List (BitVec 32)) (i:Nat):(dg s i).length=32:=by
 induction i with
 | zero=>simp [dg]
 | succ i ih=>simp [dg,ih]
attribute [go_sem] zjx dg_len
def yQ (p:List (BitVec 8)) (s:List (BitVec 32)):Nat → List (BitVec 32)
 | 0=>s
 | i+1=>comp (yQ p s i) ((p.take (64*i+64)).drop (64*i))
theorem zrz (s:List (BitVec 32)) (b:List (BitVec 8)):(comp s b).length=8:=rfl
theorem zcM (p:List (BitVec 8)) (s:List (BitVec 32)) (hs:s.length=8) (i:Nat):(yQ p s i).length=8:=by
 cases i with
 | zero=>exact hs
 | succ i=>rfl
def sha (b:List (BitVec 8)):List (BitVec 8):=dg (yQ (pad b) inits ((pad b).length / 64)) 32
theorem zez (b:List (BitVec 8)):(sha b).length=32:=dg_len _ _
attribute [go_sem] zrz zez
def made (b:List (BitVec 8)):Nat → List (BitVec 8)
 | 0=>List.replicate 32 0#8
 | i+1=>(made b i).set i (nth b i)
def mk (b:List (BitVec 8)):List (BitVec 8):=made b (min 32 b.length)
def masked (k:List (BitVec 8)) (m:BitVec 8):Nat → List (BitVec 8)
 | 0=>[]
 | i+1=>masked k m i++[if i < 32 then nth k i ^^^ m else m]

def leaf (b:List (BitVec 8)):List (BitVec 8):=sha ([0#8]++b)
def pair (a b:List (BitVec 8)):List (BitVec 8):=sha ([1#8]++a++b)
def keyed (k b:List (BitVec 8)):List (BitVec 8):=sha (masked k 92#8 64++sha (masked k 54#8 64++b))
end Go.Proofs.YtdpfkanfahchjaaDoor

/-
  The walk of the iterator over the blocks of the padded message,and of the hash.
-/
namespace Go.Proofs.YtdpfkanfahchjaaDoor
open Go Go.AL

theorem zlJ (b:List (BitVec 8)) (i:Nat) (h:i < b.length / 64):((pad b).take (64*i+64)).drop (64*i)=(b.take (64*i+64)).drop (64*i):=by
 rw [pad,List.append_assoc,List.append_assoc,List.take_append_of_le_length (by omega)]

def zeb (b:List (BitVec 8)):List (BitVec 8):=(pad b).drop (64*(b.length / 64))
theorem zoC (b:List (BitVec 8)):(zeb b).length=(pad b).length - 64*(b.length / 64):=by simp [zeb]
theorem zrA (b:List (BitVec 8)):zeb b=b.drop (64*(b.length / 64))++[128#8]++List.replicate (zbW b.length) 0#8++zhz (BitVec.ofInt 64 b.length*8#64) 8:=by
 unfold zeb pad
 rw [List.append_assoc,List.append_assoc,List.drop_append_of_le_length (by omega)]
 simp only [List.append_assoc]
theorem zlK (b:List (BitVec 8)) (i:Nat):((zeb b).take (64*i+64)).drop (64*i)=((pad b).take (64*(b.length / 64+i)+64)).drop (64*(b.length / 64+i)):=by
 unfold zeb
 rw [List.take_drop,List.drop_drop]
 congr 2<;>omega

set_option maxHeartbeats 8000000 in
theorem zhA {G:Globs} (b:List (BitVec 8)) (hb:b.length≤140737488353000) (y p n0:Nat) (Ls:Nat → Hp) (hL : ∀ i,(Ls i).n=n0) (hB : ∀ i,Bel n0 (Ls i)) (hy0:y < n0) (hp:p < n0) (hbox : ∀ i,(Ls i).f p=some (.cells [.p (.sl false 1 (pl b8 b))]))
 (hy : ∀ i,i < (pad b).length / 64 → ∀ (T:List AB) (K:AV → Hp → Prop),K (.p (bo true)) (app (Ls (i+1)) T) → AYield Tryd.prog G y [.p (.sl false 1 (pl b8 (((pad b).take (64*i+64)).drop (64*i))))] (app (Ls i) T) K)
 (R:AV → Hp → Prop) (h:R (.tup []) (Ls ((pad b).length / 64))):ACall Tryd.prog G 94 [.yld y,.ptr p 0] (Ls 0) R:=by
 refine ACall.of_run (raw:=[]) Tryd.func94 rfl Tryd.ntmps94 (by simp) fun hbel => ?_
 have hpl:=zsY b
 have hm:=zry b.length
 have hpn:=zsX b.length
 have hlen:=zoC b
 generalize hN:(pad b).length=N at hpl hy h hlen
 refine .q ?_;refine .text ?_;simp (disch:=first|exact za|fail) only [go_sem,seval,-List.reduceReplicate,hbox,hL]
 refine .q ?_;refine .text ?_;simp (disch:=first|exact za|fail) only [go_sem,seval,-List.reduceReplicate]
 refine .q ?_
 refine .count (fun i env H'=>env 0 = .yld y∧env 1 = .ptr p 0∧env 3 = .p (i64 (64*(b.length / 64):Nat))∧env 4 = .p (i64 (64*i:Nat))∧H'=Ls i) 0 (b.length / 64) (by omega) ?_ ?_ ?_
 · simp (disch:=first|exact za|fail) only [go_sem,seval,-List.reduceReplicate]
   exact zsy (by omega)
 · intro env H' ⟨e0,e1,e3,e4,eH⟩
   subst eH
   refine .q ?_;refine .text ?_;simp (disch:=first|exact za|fail) only [go_sem,seval,-List.reduceReplicate,e3,e4]
   refine .q ?_;refine .ifF (by simp (disch:=first|exact za|fail) only [go_sem,seval,-List.reduceReplicate]) ?_
   refine .q ?_;refine .text ?_;simp (disch:=first|exact za|fail) only [go_sem,seval,-List.reduceReplicate,e1,e3,hbox,hL]
   have hd:(b.drop (64*(b.length / 64))).length=b.length - 64*(b.length / 64):=List.length_drop
   have hdm:(b.drop (64*(b.length / 64))).length % 64=b.length % 64:=by omega
   have hLk:=hL (b.length / 64)
   generalize hdd:b.drop (64*(b.length / 64))=dd at hd hdm
   refine CallK.of (fun R h=>zlG dd (by omega) _ R h) ?_;simp (disch:=first|exact za|fail) only [go_sem,seval,-List.reduceReplicate,hL]
   refine .q ?_
   refine .count (fun j env H'=>env 0 = .yld y∧env 1 = .ptr p 0∧env 5 = .sl n0 (1+j) 1 (pl b8 (dd++[128#8]++List.replicate j 0#8))∧H'=(Ls (b.length / 64)).new (.tail (1+j))) 0 (zbW b.length) (by omega) ?_ ?_ ?_
   · simp (disch:=first|exact za|fail) only [go_sem,seval,-List.reduceReplicate,e0,e1,hL]
     simp only [List.replicate_zero,List.append_nil]
   · intro env H' ⟨e0,e1,e5,eH⟩
     subst eH
     have hm2:(dd.length+1+zbW b.length) % 64=56:=by omega
     refine .q ?_;refine .text ?_;simp (disch:=first|exact za|fail) only [go_sem,seval,-List.reduceReplicate,e5]
     refine .q ?_;refine .ifF (by simp (disch:=first|exact za|fail) only [go_sem,seval,-List.reduceReplicate]) ?_
     refine .q ?_;refine .text ?_;simp (disch:=first|exact za|fail) only [go_sem,seval,-List.reduceReplicate,e1,hbox,hL]
     refine .q ?_;refine .text ?_;simp (disch:=first|exact za|fail) only [go_sem,seval,-List.reduceReplicate]
     refine .q ?_
     generalize hw:dd++[128#8]++List.replicate (zbW b.length) 0#8=ww at e5
     have hwl:ww.length=dd.length+1+zbW b.length:=by rw [←hw];simp;omega
     refine .count (fun j env H'=>env 0 = .yld y∧env 1 = .ptr p 0∧env 5 = .sl n0 (1+zbW b.length+j) 1 (pl b8 (ww++zhz (BitVec.ofInt 64 b.length*8#64) j))∧env 6 = .p (yG (BitVec.ofInt 64 b.length*8#64))∧env 7 = .p (i64 (56 - 8*(j:Int)))∧H'=(Ls (b.length / 64)).new (.tail (1+zbW b.length+j))) 0 8 (by omega) ?_ ?_ ?_
     · simp (disch:=first|exact za|fail) only [go_sem,seval,-List.reduceReplicate,e0,e1,e5]
       simp only [zhz,List.append_nil]
     · intro env H' ⟨e0,e1,e5,e6,e7,eH⟩
       subst eH
       refine .q ?_;refine .text ?_;simp (disch:=first|exact za|fail) only [go_sem,seval,-List.reduceReplicate,e7]
       refine .q ?_;refine .ifF (by simp (disch:=first|exact za|fail) only [go_sem,seval,-List.reduceReplicate]) ?_
       refine .q ?_;refine .text ?_;simp (disch:=first|exact za|fail) only [go_sem,seval,-List.reduceReplicate]
       refine .q ?_
       have hlb:zeb b=ww++zhz (BitVec.ofInt 64 b.length*8#64) 8:=by rw [zrA,hdd,hw]
       have hll:=hlen
       rw [←hlb] at e5
       generalize hx:zeb b=lb at e5 hll
       refine .count (fun j env H'=>env 0 = .yld y∧env 5 = .sl n0 (1+zbW b.length+8) 1 (pl b8 lb)∧env 8 = .p (i64 (64*j:Nat))∧H'=(Ls (b.length / 64+j)).new (.tail (1+zbW b.length+8))) 0 (N / 64 - b.length / 64) (by omega) ?_ ?_ ?_
       · simp (disch:=first|exact za|fail) only [go_sem,seval,-List.reduceReplicate,e0,e1,e5]
       · intro env H' ⟨e0,e5,e8,eH⟩
         subst eH
         have hLe:=hL (N / 64)
         have hbel:=hB (N / 64)
         have hj:b.length / 64+(N / 64 - b.length / 64)=N / 64:=by omega
         rw [hj]
         refine .q ?_;refine .text ?_;simp (disch:=first|exact za|fail) only [go_sem,seval,-List.reduceReplicate,e5,e8]
         refine .q ?_;refine .ifF (by simp (disch:=first|exact za|fail) only [go_sem,seval,-List.reduceReplicate]) ?_
         refine .q ?_;refine .fin Tryd.func94 (by rw [Tryd.results94]) (by simp (disch:=first|exact za|fail) only [go_sem,seval,-List.reduceReplicate];rfl) (by simp (disch:=first|exact za|fail) only [go_sem,seval,-List.reduceReplicate];rfl) (by (try dsimp only);repeat (first | with_reducible refine zbJ ?_ za | with_reducible refine zaY ?_ za | with_reducible refine zbK ?_ za | with_reducible refine zad ?_ | with_reducible exact hbel | with_reducible exact hbel _)) ?_;simp (disch:=first|exact za|fail) only [go_sem,seval,-List.reduceReplicate]
         exact h
       · intro j env H' _ hj ⟨e0,e5,e8,eH⟩ ih
         subst eH
         have hLj:=hL (b.length / 64+j)
         have hLj1:=hL (b.length / 64+j+1)
         have hyi:=hy (b.length / 64+j) (by omega) [.tail (1+zbW b.length+8)]
         rw [←zlK b j,hx] at hyi
         simp only [zex,z7] at hyi
         refine .q ?_;refine .text ?_;simp (disch:=first|exact za|fail) only [go_sem,seval,-List.reduceReplicate,e5,e8]
         refine .q ?_;refine .ifT (by simp (disch:=first|exact za|fail) only [go_sem,seval,-List.reduceReplicate]) ?_
         refine .q ?_;refine .text ?_;simp (disch:=first|exact za|fail) only [go_sem,seval,-List.reduceReplicate,e0,e5,e8]
         refine YieldK.of (fun K hK=>hyi K hK) ?_;simp (disch:=first|exact za|fail) only [go_sem,seval,-List.reduceReplicate]
         refine .q ?_;refine .ifF (by simp (disch:=first|exact za|fail) only [go_sem,seval,-List.reduceReplicate]) ?_
         refine .q ?_;refine .text ?_;simp (disch:=first|exact za|fail) only [go_sem,seval,-List.reduceReplicate,e8]
         refine ih _ _ ?_
         simp (disch:=first|exact za|fail) only [go_sem,seval,-List.reduceReplicate,e0,e5,e8]
         exact⟨zsy (by omega),rfl⟩
     · intro j env H' _ hj ⟨e0,e1,e5,e6,e7,eH⟩ ih
       subst eH
       have ht:(56 - 8*(j:Int)).toNat=56 - 8*j:=by omega
       refine .q ?_;refine .text ?_;simp (disch:=first|exact za|fail) only [go_sem,seval,-List.reduceReplicate,e7]
       refine .q ?_;refine .ifT (by simp (disch:=first|exact za|fail) only [go_sem,seval,-List.reduceReplicate]) ?_
       refine .q ?_;refine .text ?_;simp (disch:=first|exact za|fail) only [go_sem,seval,-List.reduceReplicate,e5,e6,e7,ht]
       refine .q ?_;refine .text ?_;simp (disch:=first|exact za|fail) only [go_sem,seval,-List.reduceReplicate,e7]
       refine ih _ _ ?_
       simp (disch:=first|exact za|fail) only [go_sem,seval,-List.reduceReplicate,e0,e1,e5,e6,e7]
       simp only [zhz,List.append_assoc,Nat.add_assoc,true_and,and_true]
       exact zsy (by omega)
   · intro j env H' _ hj ⟨e0,e1,e5,eH⟩ ih
     subst eH
     have hmj:=zsW b.length j hj
     have hmj2:(dd.length+1+j) % 64≠56:=by omega
     refine .q ?_;refine .text ?_;simp (disch:=first|exact za|fail) only [go_sem,seval,-List.reduceReplicate,e5]
     refine .q ?_;refine .ifT (by simp (disch:=first|exact za|fail) only [go_sem,seval,-List.reduceReplicate]) ?_
     refine .q ?_;refine .text ?_;simp (disch:=first|exact za|fail) only [go_sem,seval,-List.reduceReplicate,e5]
     refine .q ?_
     refine ih _ _ ?_
     simp (disch:=first|exact za|fail) only [go_sem,seval,-List.reduceReplicate,e0,e1,e5]
     simp only [List.replicate_succ',List.append_assoc,Nat.add_assoc,and_self]
 · intro i env H' _ hi ⟨e0,e1,e3,e4,eH⟩ ih
   subst eH
   have hyi:=hy i (by omega) []
   rw [zlJ b i hi] at hyi
   simp only [zex] at hyi
   refine .q ?_;refine .text ?_;simp (disch:=first|exact za|fail) only [go_sem,seval,-List.reduceReplicate,e3,e4]
   refine .q ?_;refine .ifT (by simp (disch:=first|exact za|fail) only [go_sem,seval,-List.reduceReplicate]) ?_
   refine .q ?_;refine .text ?_;simp (disch:=first|exact za|fail) only [go_sem,seval,-List.reduceReplicate,e0,e1,e4,hbox,hL]
   refine YieldK.of (fun K hK=>hyi K hK) ?_;simp (disch:=first|exact za|fail) only [go_sem,seval,-List.reduceReplicate]
   refine .q ?_;refine .ifF (by simp (disch:=first|exact za|fail) only [go_sem,seval,-List.reduceReplicate]) ?_
   refine .q ?_;refine .text ?_;simp (disch:=first|exact za|fail) only [go_sem,seval,-List.reduceReplicate,e4]
   refine ih _ _ ?_
   simp (disch:=first|exact za|fail) only [go_sem,seval,-List.reduceReplicate,e0,e1,e3,e4]
   exact zsy (by omega)

end Go.Proofs.YtdpfkanfahchjaaDoor

/-
  The walk of the hash.
-/
namespace Go.Proofs.YtdpfkanfahchjaaDoor
open Go Go.AL

theorem zjy {G:Globs} (b:List (BitVec 8)) (H:Hp) (R:AV → Hp → Prop) (h:R (.clo 94 [] [.ptr H.n 0]) (H.new (.cells [.p (.sl false 1 (pl b8 b))]))):ACall Tryd.prog G 80 [.p (.sl false 1 (pl b8 b))] H R:=by
 refine ACall.of_run (raw:=[]) Tryd.func80 rfl Tryd.ntmps80 (by simp) fun hbel => ?_
 refine .q ?_;refine .text ?_;simp (disch:=first|exact za|fail) only [go_sem,seval,-List.reduceReplicate]
 refine .q ?_;refine .text ?_;simp (disch:=first|exact za|fail) only [go_sem,seval,-List.reduceReplicate]
 refine .q ?_;refine .retKeep Tryd.func80 (by rw [Tryd.results80]) (by simp (disch:=first|exact za|fail) only [go_sem,seval,-List.reduceReplicate];rfl) ?_;(try simp (disch:=first|exact za|fail) only [go_sem,seval,-List.reduceReplicate])
 exact h

set_option maxHeartbeats 8000000 in
theorem zjz {G:Globs} (hG0:G 0=some (8,[.agg (pl zG inits)])) (hG1:G 1=some (64,[.agg (pl zG ks)])) (b:List (BitVec 8)) (hb:b.length≤140737488353000) (H:Hp) (R:AV → Hp → Prop) (h:R (.p (.agg (pl b8 (sha b)))) H) :
 ACall Tryd.prog G 65 [.p (.sl false 1 (pl b8 b))] H R:=by
 refine ACall.of_run (raw:=[]) Tryd.func65 rfl Tryd.ntmps65 (by simp) fun hbel => ?_
 have hi0:inits.length=8:=rfl
 have hi1:(yQ (pad b) inits 0)=inits:=rfl
 refine .q ?_;refine .text ?_;simp (disch:=first|exact za|fail) only [go_sem,seval,-List.reduceReplicate]
 refine .q ?_;refine .text ?_;simp (disch:=first|exact za|fail) only [go_sem,seval,-List.reduceReplicate,hG0]
 refine .q ?_;refine .text ?_;simp (disch:=first|exact za|fail) only [go_sem,seval,-List.reduceReplicate]
 refine CallK.of (fun R h=>zjy b _ R h) ?_;simp (disch:=first|exact za|fail) only [go_sem,seval,-List.reduceReplicate]
 refine .q ?_;refine .rangeFunc (ps:=[12]) rfl (by simp (disch:=first|exact za|fail) only [go_sem,seval,-List.reduceReplicate];rfl) (by simp (disch:=first|exact za|fail) only [go_sem,seval,-List.reduceReplicate]) (by simp) fun L vs hL hvs hround => ?_;simp (disch:=first|exact za|fail) only [go_sem,seval,-List.reduceReplicate]
 refine zhA b hb (H.n+3) (H.n+2) (H.n+4) (fun i=>(((H.new (.cells (cl b8 (List.replicate 32 0#8)))).new (.cells (cl zG (yQ (pad b) inits i)))).new (.cells [.p (.sl false 1 (pl b8 b))])).new (.obj vs (L .ready none))) (fun i=>by simp (disch:=first|exact za|fail) only [go_sem,seval,-List.reduceReplicate]) (fun i => ?_) (by omega) (by omega) (fun i=>by simp (disch:=first|exact za|fail) only [go_sem,seval,-List.reduceReplicate]) (fun i hi T K hK => ?_) _ ?_
 · (try dsimp only);(repeat (first | with_reducible exact hbel | with_reducible exact zaI hbel za | with_reducible refine zbq ?_ | with_reducible refine yX ?_ | with_reducible refine zbr ?_ | with_reducible refine yY hvs ?_ za | with_reducible refine zad ?_ | with_reducible refine zbs ?_ | with_reducible refine yZ ?_ | with_reducible refine zbt ?_ | with_reducible refine zbu ?_))
 · refine hround _ _ _ rfl (by simp (disch:=first|exact za|fail) only [go_sem,seval,-List.reduceReplicate]) fun hbel2 => ?_
   dsimp only
   simp (disch:=first|exact za|fail) only [go_sem,seval,-List.reduceReplicate]
   refine .q ?_;refine .text ?_;simp (disch:=first|exact za|fail) only [go_sem,seval,-List.reduceReplicate]
   refine .q ?_;refine .beginRound rfl hL (by simp (disch:=first|exact za|fail) only [go_sem,seval,-List.reduceReplicate];rfl) ?_;simp (disch:=first|exact za|fail) only [go_sem,seval,-List.reduceReplicate]
   have hrl:(yQ (pad b) inits i).length=8:=zcM _ _ hi0 i
   have hbl:(((pad b).take (64*i+64)).drop (64*i)).length=64:=by simp only [List.length_drop,List.length_take];omega
   generalize hbk:((pad b).take (64*i+64)).drop (64*i)=blk at hbl
   refine .q ?_;refine .text ?_;simp (disch:=first|exact za|fail) only [go_sem,seval,-List.reduceReplicate]
   refine CallK.of (fun R h=>zf8 hG1 _ blk hrl hbl _ (H.n+1) (by simp (disch:=first|exact za|fail) only [go_sem,seval,-List.reduceReplicate]) (by simp (disch:=first|exact za|fail) only [go_sem,seval,-List.reduceReplicate];omega) R h) ?_;simp (disch:=first|exact za|fail) only [go_sem,seval,-List.reduceReplicate]
   refine .q ?_;refine .roundEndK rfl hL (by simp (disch:=first|exact za|fail) only [go_sem,seval,-List.reduceReplicate];rfl) ?_;simp (disch:=first|exact za|fail) only [go_sem,seval,-List.reduceReplicate]
   rw [yQ,hbk] at hK
   exact hK
 · unfold zdh;refine⟨?_,.inl ⟨(by simp (disch:=first|exact za|fail) only [go_sem,seval,-List.reduceReplicate]<;>rfl),?_⟩⟩;(try dsimp only);(repeat (first | with_reducible exact hbel | with_reducible exact zaI hbel za | with_reducible refine zbq ?_ | with_reducible refine yX ?_ | with_reducible refine zbr ?_ | with_reducible refine yY hvs ?_ za | with_reducible refine zad ?_ | with_reducible refine zbs ?_ | with_reducible refine yZ ?_ | with_reducible refine zbt ?_ | with_reducible refine zbu ?_));simp (disch:=first|exact za|fail) only [go_sem,seval,-List.reduceReplicate]
   have hrl:=zcM (pad b) inits hi0 ((pad b).length / 64)
   unfold sha at h
   generalize yQ (pad b) inits ((pad b).length / 64)=s at hrl h
   refine .q ?_;refine .text ?_;simp (disch:=first|exact za|fail) only [go_sem,seval,-List.reduceReplicate]
   refine .q ?_;refine .text ?_;simp (disch:=first|exact za|fail) only [go_sem,seval,-List.reduceReplicate]
   refine .q ?_
   refine .count (fun i env H'=>env 2 = .ptr H.n 0∧env 15 = .p (.agg (pl zG s))∧env 5 = .ptr (H.n+3) 0∧env 16 = .p (i64 i)∧H'=(((H.new (.cells (cl b8 (List.replicate 32 0#8)))).new (.cells (cl zG s))).new (.cells [.p (.sl false 1 (pl b8 b))])).new (.cells (cl b8 (dg s (4*i))))) 0 8 (by omega) ?_ ?_ ?_
   · simp (disch:=first|exact za|fail) only [go_sem,seval,-List.reduceReplicate]
     rfl
   · intro env H' ⟨e2,e15,e5,e16,eH⟩
     subst eH
     refine .q ?_;refine .text ?_;simp (disch:=first|exact za|fail) only [go_sem,seval,-List.reduceReplicate,e16]
     refine .q ?_;refine .ifF (by simp (disch:=first|exact za|fail) only [go_sem,seval,-List.reduceReplicate]) ?_
     refine .q ?_;refine .text ?_;simp (disch:=first|exact za|fail) only [go_sem,seval,-List.reduceReplicate,e2,e5]
     refine .q ?_;refine .rt Tryd.func65 (by rw [Tryd.results65]) (hx:=by simp (disch:=first|exact za|fail) only [go_sem,seval,-List.reduceReplicate,e2];rfl) (hR := ?_);simp (disch:=first|exact za|fail) only [go_sem,seval,-List.reduceReplicate,e2]
     exact h
   · intro i env H' _ hi ⟨e2,e15,e5,e16,eH⟩ ih
     subst eH
     refine .q ?_;refine .text ?_;simp (disch:=first|exact za|fail) only [go_sem,seval,-List.reduceReplicate,e16]
     refine .q ?_;refine .ifT (by simp (disch:=first|exact za|fail) only [go_sem,seval,-List.reduceReplicate]) ?_
     refine .q ?_;refine .text ?_;simp (disch:=first|exact za|fail) only [go_sem,seval,-List.reduceReplicate,e15,e16]
     refine .q ?_;refine .text ?_;simp (disch:=first|exact za|fail) only [go_sem,seval,-List.reduceReplicate]
     refine .q ?_
     refine .count (fun k env H'=>env 2 = .ptr H.n 0∧env 15 = .p (.agg (pl zG s))∧env 5 = .ptr (H.n+3) 0∧env 16 = .p (i64 i)∧env 6 = .p (i64 i)∧env 7 = .p (zG (nth s i))∧env 20 = .p (i64 k)∧H'=(((H.new (.cells (cl b8 (List.replicate 32 0#8)))).new (.cells (cl zG s))).new (.cells [.p (.sl false 1 (pl b8 b))])).new (.cells (cl b8 (dg s (4*i+k))))) 0 4 (by omega) ?_ ?_ ?_
     · simp (disch:=first|exact za|fail) only [go_sem,seval,-List.reduceReplicate,e2,e15,e5,e16]
     · intro env H' ⟨e2,e15,e5,e16,e6,e7,e20,eH⟩
       subst eH
       refine .q ?_;refine .text ?_;simp (disch:=first|exact za|fail) only [go_sem,seval,-List.reduceReplicate,e20]
       refine .q ?_;refine .ifF (by simp (disch:=first|exact za|fail) only [go_sem,seval,-List.reduceReplicate]) ?_
       refine .q ?_;refine .text ?_;simp (disch:=first|exact za|fail) only [go_sem,seval,-List.reduceReplicate,e16]
       refine ih _ _ ?_
       simp (disch:=first|exact za|fail) only [go_sem,seval,-List.reduceReplicate,e2,e15,e5,e16]
       rw [Nat.mul_add]
     · intro k env H' _ hk ⟨e2,e15,e5,e16,e6,e7,e20,eH⟩ ih2
       subst eH
       have ht:(24 - 8*(k:Int)).toNat=24 - 8*k:=by omega
       refine .q ?_;refine .text ?_;simp (disch:=first|exact za|fail) only [go_sem,seval,-List.reduceReplicate,e20]
       refine .q ?_;refine .ifT (by simp (disch:=first|exact za|fail) only [go_sem,seval,-List.reduceReplicate]) ?_
       refine .q ?_;refine .text ?_;simp (disch:=first|exact za|fail) only [go_sem,seval,-List.reduceReplicate,e20]
       refine .q ?_;refine .text ?_;simp (disch:=first|exact za|fail) only [go_sem,seval,-List.reduceReplicate,e5,e6,e7,ht]
       refine .q ?_;refine .text ?_;simp (disch:=first|exact za|fail) only [go_sem,seval,-List.reduceReplicate,e20]
       refine ih2 _ _ ?_
       simp (disch:=first|exact za|fail) only [go_sem,seval,-List.reduceReplicate,e2,e15,e5,e16,e6,e7,e20]
       have h1:(4*i+k) / 4=i:=by omega
       have h2:(4*i+k) % 4=k:=by omega
       rw [←Nat.add_assoc,dg,h1,h2]

end Go.Proofs.YtdpfkanfahchjaaDoor

/-
  slices.Grow at nil,by the library's contract.
-/
namespace Go.Proofs.YtdpfkanfahchjaaDoor
open Go Go.AL Go.Proofs Go.Shelf

def ren41:Ren:=⟨fun n=>if n=4 then 90 else n,fun n=>if n=25 then 5 else if n=22 then 27 else if n=20 then 20 else if n=9 then 9 else if n=4 then 4 else if n=3 then 3 else if n=0 then 0 else n,fun n=>n⟩

theorem zoD:Lays8.n4 Tryd.prog ren41 where
  mixed:=follows
  f4 := ⟨"slices.Grow[[]byte,byte]", by decide, by kernel_rfl⟩
  t0:=Tryd.underlying0
  a0:=fun w=>by kernel_rfl
  z0:=fun w=>by kernel_rfl
  v0:=fun w=>by kernel_rfl
  t3:=Tryd.underlying3
  a3:=fun w=>by kernel_rfl
  z3:=fun w=>by kernel_rfl
  v3:=fun w=>by kernel_rfl
  t4:=Tryd.underlying4
  a4:=fun w=>by kernel_rfl
  z4:=fun w=>by kernel_rfl
  v4:=fun w=>by kernel_rfl
  t9:=Tryd.underlying9
  a9:=fun w=>by kernel_rfl
  z9:=fun w=>by kernel_rfl
  v9:=fun w=>by kernel_rfl
  t20:=Tryd.underlying20
  a20:=fun w=>by kernel_rfl
  z20:=fun w=>by kernel_rfl
  v20:=fun w=>by kernel_rfl
  t22:=Tryd.underlying27
  a22:=fun w=>by kernel_rfl
  z22:=fun w=>by kernel_rfl
  v22:=fun w=>by kernel_rfl

theorem zuk:Tryd.prog.info? 5=some Tryd.t5:=by kernel_rfl

theorem zoE {G:Globs} (n:Nat) (hn0:0 < n) (hn:n≤140737488355300) (H:Hp) (R:AV → Hp → Prop) (h:R (.sl H.n 0 1 []) (H.new (.tail 0))) :
 ACall Tryd.prog G 90 [.p (.s (.slice none 0 0)),.p (i64 n)] H R:=by
 intro σ w vs hr hvs
 have hs:vs.size=2:=hvs.1
 have r0:=hvs.2 0 _ vs[0] rfl (by simp)
 have r1:=hvs.2 1 _ vs[1] rfl (by simp)
 have e1:vs[1] = .int .i64 n:=by
  generalize vs[1]=v at r1
  cases r1 with | p r=>cases r;rfl
 obtain⟨base,e0⟩ : ∃ base,vs[0] = .slice base 0 0:=by
  generalize vs[0]=v at r0
  cases r0 with | p r =>
  cases r;exact⟨none,rfl⟩
 have hv:vs = #[.slice base 0 0,.int .i64 n]:=by
  apply Array.ext
  · simp [hs]
  · intro i h1 h2
    have:i=0 ∨ i=1:=by simp at h2;omega
    rcases this with rfl | rfl
    · simpa using e0
    · simpa using e1
 have hc:=Any8.slices_Grow_grow zoD Tryd.t5 (.int .u8 0) zuk rfl (by decide) base 0 0 n [] w (Nat.le_refl _) (by omega) (by show (0+n)*1≤_;omega) (by omega) rfl (fun _=>rfl) (by simp)
 rw [hv]
 refine Calls.mono hc ?_
 rintro e w' ⟨rfl,rfl⟩
 generalize hC:(([]:List Value).toArray++Builtin.zeroCells (Value.int .u8 0).cells (0+n - 0)++Builtin.zeroCells (Value.int .u8 0).cells (grownCap w (0+n) 0 (ren41.t 25) - (0+n)))=C
 have hCs:grownCap w (0+n) 0 (ren41.t 25)≤C.size:=by
  rw [←hC]
  simp [Builtin.zeroCells,Value.cells]
  omega
 have hmax:grownCap w (0+n) 0 (ren41.t 25)≤maxLen:=grownCap_le_maxLen w _ _ _ (by unfold maxLen;omega)
 generalize grownCap w (0+n) 0 (ren41.t 25)=cap at hCs hmax
 obtain⟨h1,h2⟩:=yM hr (w':=w.drew.alloc (.cells C (ren41.t 25))) (by show w.drew.heap.size≤_;simp) (fun g hg=>heap_alloc_old w.drew _ hg) rfl rfl
  (some (w.heap.size,0,C.size)) (fun g o s hh=>by cases hh;exact⟨Nat.le_refl _,_,_,heap_alloc_new w.drew _,rfl⟩)
 refine⟨_,_,_,_,h,rfl,h1,.sl ?_ ⟨by simp [Hp.n_new],fun k0 d hk0 => ?_⟩,h2⟩
 · exact .sl false _ [] _ 0 _ (fun _=>undef) (by simp) ⟨by simp,hmax⟩ (by simp) (by simp) (by simp [flat])
 · simp [Hp.f_new] at hk0
   exact⟨by omega,fun _ => .inr ⟨w.heap.size,0,0,cap,C.size,by simp,by simp [Gh.withT],by omega⟩⟩

end Go.Proofs.YtdpfkanfahchjaaDoor

/-
  The walk of slices.Concat.
-/
namespace Go.Proofs.YtdpfkanfahchjaaDoor
open Go Go.AL

def bs (l:List (BitVec 8)):PV := .sl false 1 (pl b8 l)
theorem zjA (l:List (BitVec 8)):(bs l).cells=[bs l]:=rfl
theorem zrB (l:List (BitVec 8)):AV.p (bs l) = .p (.sl false 1 (pl b8 l)):=rfl
def tot (ps:List (List (BitVec 8))):Nat → Nat
 | 0=>0
 | i+1=>tot ps i+(nth ps i).length
def cat (ps:List (List (BitVec 8))):Nat → List (BitVec 8)
 | 0=>[]
 | i+1=>cat ps i++nth ps i
theorem zsZ (ps:List (List (BitVec 8))) (i:Nat):(cat ps i).length=tot ps i:=by
 induction i with
 | zero=>rfl
 | succ i ih=>simp [cat,tot,ih]
theorem zjB (ps:List (List (BitVec 8))) {i j:Nat} (h:i≤j):tot ps i≤tot ps j:=by
  induction j with
  | zero => have : i = 0 := by omega
            subst this;exact Nat.le_refl _
  | succ j ih =>
    by_cases e:i=j+1
    · rw [e];exact Nat.le_refl _
    · have:=ih (by omega);simp only [tot];omega

set_option maxHeartbeats 8000000 in
theorem zjC {G:Globs} (ps:List (List (BitVec 8))) (hn:ps.length≤1000) (h0:0 < tot ps ps.length) (h1:tot ps ps.length≤140737488355000) (H:Hp) (R:AV → Hp → Prop) (h:R (.p (.sl false 1 (pl b8 (cat ps ps.length)))) H) :
 ACall Tryd.prog G 70 [.p (.sl false 1 (pl bs ps))] H R:=by
 refine ACall.of_run (raw:=[90]) Tryd.func70 rfl Tryd.ntmps70 (by simp) fun hbel => ?_
 refine .q ?_;refine .text ?_;simp (disch:=first|exact za|fail) only [go_sem,seval]
 refine .q ?_;refine .text ?_;simp (disch:=first|exact za|fail) only [go_sem,seval]
 refine .q ?_;refine .text ?_;simp (disch:=first|exact za|fail) only [go_sem,seval]
 refine .q ?_
 refine .count (fun i env H'=>env 0 = .p (.sl false 1 (pl bs ps))∧env 3 = .p (i64 (tot ps i))∧env 9 = .p (.sl false 1 (pl bs ps))∧env 10 = .p (i64 ps.length)∧env 11 = .p (i64 i)∧H'=H) 0 ps.length (by omega) ?_ ?_ ?_
 · simp (disch:=first|exact za|fail) only [go_sem,seval]
   rfl
 · intro env H' ⟨e0,e3,e9,e10,e11,eH⟩
   subst eH
   refine .q ?_;refine .text ?_;simp (disch:=first|exact za|fail) only [go_sem,seval,e10,e11]
   refine .q ?_;refine .ifF (by simp (disch:=first|exact za|fail) only [go_sem,seval]) ?_
   refine .q ?_;refine .text ?_;simp (disch:=first|exact za|fail) only [go_sem,seval,e3]
   refine CallK.of (fun R h=>zoE _ h0 (by omega) _ R h) ?_;simp (disch:=first|exact za|fail) only [go_sem,seval]
   refine .q ?_;refine .text ?_;simp (disch:=first|exact za|fail) only [go_sem,seval,e0]
   refine .q ?_
   refine .count (fun i env H2=>env 6 = .sl H'.n i 1 (pl b8 (cat ps i))∧env 25 = .p (.sl false 1 (pl bs ps))∧env 26 = .p (i64 ps.length)∧env 27 = .p (i64 i)∧H2=H'.new (.tail i)) 0 ps.length (by omega) ?_ ?_ ?_
   · simp (disch:=first|exact za|fail) only [go_sem,seval]
     rfl
   · intro env H2 ⟨e6,e25,e26,e27,eH⟩
     subst eH
     refine .q ?_;refine .text ?_;simp (disch:=first|exact za|fail) only [go_sem,seval,e26,e27]
     refine .q ?_;refine .ifF (by simp (disch:=first|exact za|fail) only [go_sem,seval]) ?_
     refine .q ?_;refine .text ?_;simp (disch:=first|exact za|fail) only [go_sem,seval,e6]
     refine .q ?_;refine .rt Tryd.func70 (by rw [Tryd.results70]) (hR := ?_);simp (disch:=first|exact za|fail) only [go_sem,seval]
     exact h
   · intro i env H2 _ hi ⟨e6,e25,e26,e27,eH⟩ ih
     subst eH
     have hm:=zjB ps (show i+1≤ps.length by omega)
     have hs:tot ps (i+1)=tot ps i+(nth ps i).length:=rfl
     have hcl:(cat ps i).length=tot ps i:=zsZ ps i
     refine .q ?_;refine .text ?_;simp (disch:=first|exact za|fail) only [go_sem,seval,e26,e27]
     refine .q ?_;refine .ifT (by simp (disch:=first|exact za|fail) only [go_sem,seval]) ?_
     refine .q ?_;refine .text ?_;simp (disch:=first|exact za|fail) only [go_sem,seval,e25,e27,zjA,zrB]
     refine .q ?_;refine .text ?_;simp (disch:=first|exact za|fail) only [go_sem,seval,e6]
     refine .q ?_;refine .text ?_;simp (disch:=first|exact za|fail) only [go_sem,seval,e27]
     refine ih _ _ ?_
     simp (disch:=first|exact za|fail) only [go_sem,seval,e6,e25,e26,e27]
     rfl
 · intro i env H' _ hi ⟨e0,e3,e9,e10,e11,eH⟩ ih
   subst eH
   have hm:=zjB ps (show i+1≤ps.length by omega)
   have hs:tot ps (i+1)=tot ps i+(nth ps i).length:=rfl
   refine .q ?_;refine .text ?_;simp (disch:=first|exact za|fail) only [go_sem,seval,e10,e11]
   refine .q ?_;refine .ifT (by simp (disch:=first|exact za|fail) only [go_sem,seval]) ?_
   refine .q ?_;refine .text ?_;simp (disch:=first|exact za|fail) only [go_sem,seval,e9,e11,zjA,zrB]
   refine .q ?_;refine .text ?_;simp (disch:=first|exact za|fail) only [go_sem,seval,e3]
   refine .q ?_;refine .text ?_;simp (disch:=first|exact za|fail) only [go_sem,seval]
   refine .q ?_;refine .ifF (by simp (disch:=first|exact za|fail) only [go_sem,seval]) ?_
   refine .q ?_;refine .text ?_;simp (disch:=first|exact za|fail) only [go_sem,seval,e11]
   refine ih _ _ ?_
   simp (disch:=first|exact za|fail) only [go_sem,seval,e0,e3,e9,e10,e11]
   rw [hs]
   rfl

end Go.Proofs.YtdpfkanfahchjaaDoor

/-
  The walks of the leaf's,the pair's and the keyed hash.
-/
namespace Go.Proofs.YtdpfkanfahchjaaDoor
open Go Go.AL


def fl (m:BitVec 8):Nat → List (BitVec 8)
 | 0=>List.replicate 64 0#8
 | i+1=>(fl m i).set i m


end Go.Proofs.YtdpfkanfahchjaaDoor

/-
  The walks of the reference's padding,digest and joins.
-/
namespace Go.Proofs.YtdpfkanfahchjaaDoor
open Go Go.AL



end Go.Proofs.YtdpfkanfahchjaaDoor

/-
  The walks of the reference's hash,leaf,pair and keyed hash.
-/
namespace Go.Proofs.YtdpfkanfahchjaaDoor
open Go Go.AL



end Go.Proofs.YtdpfkanfahchjaaDoor

/-
  The walks of the comparison of bytes and of the row of equal bytes.
-/
namespace Go.Proofs.YtdpfkanfahchjaaDoor
open Go Go.AL

end Go.Proofs.YtdpfkanfahchjaaDoor

/-
  Sessions: numbers as bytes;the program's write and read.
-/
namespace Go.Proofs.YtdpfkanfahchjaaDoor
open Go Go.AL

abbrev By:=List (BitVec 8)
abbrev U:=BitVec 64
theorem CallD.of {C:Cx} {ops:Array Oper} {q:Nat → Bool} {f:FuncId} {args':List AV} {dst:Option Nat} {n:Nat} {rest:List Oper} {k:List Item} {env:Env} {H H':Hp} {R:AV → Hp → Prop} {r:AV}
 (h : ∀ R:AV → Hp → Prop,R r H' → ACall C.P C.G f args' H R) (hk:zU C ops q n rest k (env.put dst r) H' R):CallD C ops q false f args' dst n rest k env H R :=
 .moves (h (fun r' H2=>r'=r∧H2=H') ⟨rfl,rfl⟩) (by rintro _ _ ⟨rfl,rfl⟩;exact hk)

theorem ze {C:Cx} {ops:Array Oper} {i:Nat} {o:Oper} {K:Env → Hp → Prop} {env:Env} {H:Hp} (x:AV) (ho:ops[i]? = some o) (hg:o.guard=none) (hs:zc C.P C.G o.op o.type env H = .val x H) (hd:zn C.nt o.dst=true)
 (hK:K (env.put o.dst x) H):opA C ops false i K env H:=by
 unfold opA
 rw [ho]
 simp only [hg,zk,aOp1,hs,sOp]
 exact⟨hd,hK⟩
theorem zfx {C:Cx} {ops:Array Oper} {i:Nat} {o:Oper} {K:Env → Hp → Prop} {env:Env} {H H':Hp} (x:AV) (ho:ops[i]? = some o) (hg:o.guard=none) (hs:zc C.P C.G o.op o.type env H = .val x H') (hd:zn C.nt o.dst=true)
 (hK:K (env.put o.dst x) H'):opA C ops false i K env H:=by
 unfold opA
 rw [ho]
 simp only [hg,zk,aOp1,hs,sOp]
 exact⟨hd,hK⟩
theorem zaZ {C:Cx} {ops:Array Oper} {i:Nat} {o:Oper} {K:Env → Hp → Prop} {env:Env} {H H':Hp} (ho:ops[i]? = some o) (hg:o.guard=none) (hs:zc C.P C.G o.op o.type env H = .unit H') (hd:o.dst=none)
 (hK:K env H'):opA C ops false i K env H:=by
 unfold opA
 rw [ho]
 simp only [hg,zk,aOp1,hs,sOp]
 exact⟨hd,by rw [hd];exact hK⟩
theorem zb {L:Nat → Bool} {i k:Nat} (h:k≠i):more L i k=L k:=by simp [more,h]
theorem yJ {L:Nat → Bool} {i:Nat}:more L i i=true:=by simp [more]
theorem zum {L:Nat → Bool} {i k:Nat} (h:L k=true):more L i k=true:=by simp [more,h]
def allT (L:Nat → Bool) (l:List Nat):Prop := ∀ d∈l,L d=true
theorem yi {L:Nat → Bool}:allT L []:=fun d h=>by cases h
theorem zg {L:Nat → Bool} {d:Nat} {l:List Nat} (h:L d=true) (t:allT L l):allT L (d :: l):=fun x hx=>by
 rcases List.mem_cons.1 hx with rfl | hx
 · exact h
 · exact t x hx
section inv
variable {L:Nat → Bool} {i j s:Nat} {env:Env} {d:Option Nat} {x v:AV} {l:List Nat}
theorem nfT (m:L j=true → allT L l) (hL:L i=false) (h:i∈l:=by decide):L j=false:=Bool.eq_false_iff.2 fun e=>by
 have:=m e i h
 rw [hL] at this;cases this
theorem kf (e:env s=v) (h:d≠some s:=by decide):env.put d x s=v:=(zcU fun i hi q=>h (hi.trans (congrArg some q))).trans e
theorem kn {p:Prop}:p → env.put (some s) x s=x:=fun _=>put_some.trans (if_pos rfl)
theorem kt (t:allT L l):allT (more L i) l:=fun d h=>zum (t d h)
theorem ka (m:L j=true → allT L l) (h:j≠i:=by decide):more L i j=true → allT (more L i) l:=fun q=>kt (m (by rwa [zb h] at q))
theorem kL {A:Array Edge} {L:Nat → Bool} (hall : ∀ e∈A,Region.binds .any e=true → L e.on=true) (k:Nat) {j:Nat} {g:Ground} (h1:A[k]? = some ⟨j,g⟩) (h2:Region.binds .any ⟨j,g⟩=true):L j=true:=hall _ (Array.mem_of_getElem? h1) h2
def kF (env:Env) (l:List (Nat × AV)):Prop := ∀ p∈l,env p.1=p.2
def kI (L:Nat → Bool) (env:Env) (l:List (Nat × Nat × AV)):Prop := ∀ p∈l,L p.1=true → env p.2.1=p.2.2
theorem kF0:kF env []:=fun p h=>by cases h
theorem kFc {t:List (Nat × AV)} (h:env s=v) (r:kF env t):kF env ((s,v) :: t):=fun p hp=>by
 rcases List.mem_cons.1 hp with rfl | hp
 · exact h
 · exact r p hp
theorem kFi {t:List (Nat × AV)}:kF env ((s,v) :: t)=(env s=v∧kF env t):=propext ⟨fun F=>⟨F _ List.mem_cons_self,fun p hp=>F p (List.mem_cons_of_mem _ hp)⟩,fun h=>kFc h.1 h.2⟩
theorem kFn:kF env []=True:=propext ⟨fun _=>trivial,fun _=>kF0⟩
theorem y0 {t:List (Nat × AV)} (F:kF env t) (k:Nat) (e:t[k]? = some (s,v)):env s=v:=F _ (List.mem_of_getElem? e)
theorem zQ {t:List (Nat × Nat × AV)} (G:kI L env t) (k:Nat) (e:t[k]? = some (i,s,v)) (h:L i=true):env s=v:=G _ (List.mem_of_getElem? e) h
theorem ya {t:List (Nat × AV)} (F:kF env t) (h:t.all (fun p=>p.1 != s)=true:=by rfl):kF (env.put (some s) x) t:=fun p hp =>
 kf (F p hp) fun q=>by
  have h1:=List.all_eq_true.1 h p hp
  simp only [Option.some.injEq] at q
  simp [q] at h1
theorem yb {t:List (Nat × Nat × AV)} (G:kI L env t) (h1:t.all (fun p=>p.1 == i || p.2.1 != s)=true:=by rfl) (h2:t.filter (fun p=>p.1 == i)=[(i,s,x)]:=by rfl):kI (more L i) (env.put (some s) x) t:=fun p hp hL=>by
 by_cases e:p.1=i
 · have h3:p∈t.filter (fun p=>p.1 == i):=List.mem_filter.2 ⟨hp,by simp [e]⟩
   rw [h2] at h3
   obtain rfl:=List.mem_singleton.1 h3
   exact kn (p:=True) trivial
 · refine kf (G p hp (by rwa [zb e] at hL)) fun q => ?_
   have h3:=List.all_eq_true.1 h1 p hp
   simp only [Option.some.injEq] at q
   simp [q,e] at h3
theorem kIs {t:List (Nat × Nat × AV)} (G:kI L env t) (h1:t.all (fun p=>p.1 != i)=true:=by rfl):kI (more L i) env t:=fun p hp hL=>by
 have h3:=List.all_eq_true.1 h1 p hp
 exact G p hp (by rwa [zb (by simpa using h3)] at hL)
theorem kx {p:Prop}:more L i i=false → p:=fun q=>by rw [yJ] at q;cases q
theorem kq (f:L j=false → env s=v) (h:j≠i:=by decide) (hd:d≠some s:=by decide):more L i j=false → env.put d x s=v:=fun q=>kf (f (by rwa [zb h] at q)) hd
theorem kq0 (f:L j=false → env s=v) (h:j≠i:=by decide):more L i j=false → env s=v:=fun q=>f (by rwa [zb h] at q)
end inv

theorem zhB {f:FuncId} {args:List AV}:zz [f] f args=args:=by simp [zz]
theorem zjD {f g:Nat} {args:List AV} (h:f≠g):zz [g] f args=args.map AV.weak:=by simp [zz,h]
attribute [go_sem] zhB zjD
def le (x:U):Nat → By
 | 0=>[]
 | n+1=>le x n++[(x >>> (8*n)).setWidth 8]

def rd:By → U
 | []=>0
 | c :: b=>rd b <<< 8 ||| c.setWidth 64

section walks
variable {G:Globs}
theorem zf9 (L:By) (H:Hp) (R:AV → Hp → Prop) (h:R (.clo 93 [] [.ptr H.n 0]) (H.new (.cells [.p (.sl false 1 (pl b8 L))]))):ACall Tryd.prog G 79 [.p (.sl false 1 (pl b8 L))] H R:=by
 refine ACall.of_run (raw:=[]) Tryd.func79 rfl Tryd.ntmps79 (by simp) fun hbel => ?_
 refine .q ?_;refine .text ?_;simp (disch:=first|exact za|fail) only [go_sem,seval]
 refine .q ?_;refine .text ?_;simp (disch:=first|exact za|fail) only [go_sem,seval]
 refine .q ?_;refine .retKeep Tryd.func79 (by rw [Tryd.results79]) (by simp (disch:=first|exact za|fail) only [go_sem,seval];rfl) ?_;(try simp (disch:=first|exact za|fail) only [go_sem,seval])
 exact h

set_option maxHeartbeats 8000000 in
theorem zfy (L:By) (hl:L.length≤140737488355000) (y p m:Nat) (X:Nat → Hp) (hX : ∀ i,(X i).n=m) (hB : ∀ i,Bel m (X i)) (hy0:y < m) (hp : ∀ i,(X i).f p=some (.cells [.p (.sl false 1 (pl b8 L))]))
 (hy : ∀ j,j < L.length → ∀ (S:List AB) (K:AV → Hp → Prop),K (.p (bo true)) (app (X (j+1)) S) → AYield Tryd.prog G y [.p (i64 ((L.length:Int) - 1 - j)),.p (b8 (nth L (L.length - 1 - j)))] (app (X j) S) K)
 (R:AV → Hp → Prop) (h:R (.tup []) (X L.length)):ACall Tryd.prog G 93 [.yld y,.ptr p 0] (X 0) R:=by
 have hX0:=hX 0
 have hp0:=hp 0
 refine ACall.of_run (raw:=[]) Tryd.func93 rfl Tryd.ntmps93 (by simp) fun hbel => ?_
 rw [hX0]
 have hbel : ∀ i,Bel m (X i):=hB
 refine .q ?_;refine .text ?_;simp (disch:=first|exact za|fail) only [go_sem,seval,hp0]
 refine .q ?_;refine .loopH [0,1] (fun j=>[(3,.p (i64 ((L.length:Int) - 1 - j)))]) (fun j=>X j) (fun j=>True) (0) (L.length) (by omega) ?_ (by first | rfl | (simp (disch:=first|exact za|fail) only [go_sem,seval,Int.sub_zero]<;>rfl)) ?_ ?_ ?_
 · simp (disch:=first|exact za|fail) only [go_sem,seval,Int.sub_zero]<;>(repeat' (first | rfl | refine And.intro ?_ ?_))
 · exact trivial
 intro env E hQ;simp (disch:=first|exact za|fail) only [go_sem,seval,Int.sub_zero] at E
 rotate_left 1
 intro j env hj0 hj E hQ ihE;simp (disch:=first|exact za|fail) only [go_sem,seval,Int.sub_zero] at E
 rotate_left 1
 · have d:decide ((0:Int)≤(L.length:Int) - 1 - (L.length:Int))=false:=by simp only [decide_eq_false_iff_not];omega
   have hXe:=hX L.length
   refine .q ?_;refine .text ?_;simp (disch:=first|exact za|fail) only [go_sem,seval,E,d]
   refine .q ?_;refine .ifF (by simp (disch:=first|exact za|fail) only [go_sem,seval,d]) ?_
   refine .q ?_;refine .fin Tryd.func93 (by rw [Tryd.results93]) (by simp (disch:=first|exact za|fail) only [go_sem,seval];rfl) (by simp (disch:=first|exact za|fail) only [go_sem,seval];rfl) (by (try dsimp only);repeat (first | with_reducible refine zbJ ?_ za | with_reducible refine zaY ?_ za | with_reducible refine zbK ?_ za | with_reducible refine zad ?_ | with_reducible exact hbel | with_reducible exact hbel _)) ?_;simp (disch:=first|exact za|fail) only [go_sem,seval]
   (try rw [ziP hXe.symm])
   exact h
 · have d:decide ((0:Int)≤(L.length:Int) - 1 - (j:Int))=true:=by simp only [decide_eq_true_eq];omega
   have ht:((L.length:Int) - 1 - (j:Int)).toNat=L.length - 1 - j:=by omega
   have hyj:=hy j hj []
   simp only [zex] at hyj
   have hpj:=hp j
   have hq:(L.length:Int) - 1 - ((j:Int)+1)=(L.length:Int) - 1 - (j:Int) - 1:=by omega
   refine .q ?_;refine .text ?_;simp (disch:=first|exact za|fail) only [go_sem,seval,E,d]
   refine .q ?_;refine .ifT (by simp (disch:=first|exact za|fail) only [go_sem,seval,d]) ?_
   refine .q ?_;refine .text ?_;simp (disch:=first|exact za|fail) only [go_sem,seval,E,hpj,ht]
   refine YieldK.of (fun K hK=>hyj K hK) ?_;simp (disch:=first|exact za|fail) only [go_sem,seval]
   refine .q ?_;refine .ifF (by simp (disch:=first|exact za|fail) only [go_sem,seval]) ?_
   refine .q ?_;refine .text ?_;simp (disch:=first|exact za|fail) only [go_sem,seval,E]
   first | (refine ihE _ _ ?_ trivial ?_) | (refine .z rfl ?_;refine ihE _ _ ?_ trivial ?_) | (refine .z rfl ?_;refine .z rfl ?_;refine ihE _ _ ?_ trivial ?_) | (refine .z rfl ?_;refine .z rfl ?_;refine .z rfl ?_;refine ihE _ _ ?_ trivial ?_)
   · simp (disch:=first|exact za|fail) only [go_sem,seval,E,hq]<;>(repeat' (first | rfl | refine And.intro ?_ ?_))
   · first | rfl | (simp (disch:=first|exact za|fail) only [go_sem,seval,E,hq]<;>(try rfl))

end walks
end Go.Proofs.YtdpfkanfahchjaaDoor

/-
  The log of readings: runs of equal values (plain).
-/
namespace Go.Proofs.YtdpfkanfahchjaaDoor
open Go Go.AL

abbrev Prs:=List (BitVec 8 × Nat)
def lead (v:BitVec 8):By → Nat → Nat
 | [],_=>0
 | _ :: _,0=>0
 | w :: t,k+1=>if w=v then lead v t k+1 else 0
theorem zhC {v:BitVec 8} : ∀ {t:By} {k:Nat},lead v t k≤k
 | [],_=>Nat.zero_le _
 | _ :: _,0=>Nat.le_refl _
 | w :: t,k+1=>by
  unfold lead
  split
  · have:=zhC (v:=v) (t:=t) (k:=k);omega
  · omega
theorem zgD {v:BitVec 8} : ∀ {t:By} {k:Nat},t.take (lead v t k)=List.replicate (lead v t k) v
 | [],_=>by simp [lead]
 | _ :: _,0=>by simp [lead]
 | w :: t,k+1=>by
  unfold lead
  split
  · rename_i h
    rw [List.take_succ_cons,zgD,h,List.replicate_succ]
  · simp
theorem zdP {v w:BitVec 8} {r:By} : ∀ {t:By} {k:Nat},t.drop (lead v t k)=w :: r → w=v → lead v t k=k
 | [],_,h,_=>by simp at h
 | _ :: _,0,_,_=>rfl
 | x :: t,k+1,h,e=>by
  unfold lead at h ⊢
  split at h
  · rename_i hx
    rw [if_pos hx]
    rw [List.drop_succ_cons] at h
    rw [zdP h e]
  · rename_i hx
    rw [List.drop_zero] at h
    exact absurd ((List.cons.inj h).1.trans e) hx
theorem zjE {v:BitVec 8} {r:By} (hr : ∀ w t,r=w :: t → w≠v) : ∀ {n k:Nat},n≤k → lead v (List.replicate n v++r) k=n
 | 0,k,_=>by
  cases r with
  | nil=>cases k<;>rfl
  | cons w t =>
   cases k with
   | zero=>rfl
   | succ k =>
    show lead v (w :: t) (k+1)=0
    rw [lead,if_neg (hr w t rfl)]
 | n+1,0,h=>by omega
 | n+1,k+1,h=>by
  rw [List.replicate_succ,List.cons_append,lead,if_pos rfl,zjE hr (by omega)]
theorem zgE {v:BitVec 8} {r:By} : ∀ {n:Nat},lead v (List.replicate n v++r) n=n
 | 0=>by cases r<;>rfl
 | n+1=>by rw [List.replicate_succ,List.cons_append,lead,if_pos rfl,zgE]
def y6 (b:By):Prs :=
 match b with
 | []=>[]
 | v :: t=>(v,lead v t 255) :: y6 (t.drop (lead v t 255))
termination_by b.length
decreasing_by simp;omega
theorem zdq:y6 []=[]:=by rw [y6]
theorem za0 {v:BitVec 8} {t:By}:y6 (v :: t)=(v,lead v t 255) :: y6 (t.drop (lead v t 255)):=by rw [y6]
def dec:Prs → By
 | []=>[]
 | p :: l=>List.replicate (p.2+1) p.1++dec l
def Can:Prs → Prop
 | []=>True
 | [p]=>p.2≤255
 | p :: q :: t=>p.2≤255∧(p.1=q.1 → p.2=255)∧Can (q :: t)
theorem zbb (b:By):dec (y6 b)=b:=by
 match b with
 | []=>rw [zdq];rfl
 | v :: t =>
  rw [za0,dec,zbb (t.drop (lead v t 255))]
  dsimp only
  rw [List.replicate_succ,←zgD,List.cons_append,List.take_append_drop]
termination_by b.length
decreasing_by simp;omega
theorem Can.tail {p:BitVec 8 × Nat} {l:Prs} (h:Can (p :: l)):Can l:=by
 cases l with
 | nil=>trivial
 | cons q t=>exact h.2.2
theorem Can.le {p:BitVec 8 × Nat} {l:Prs} (h:Can (p :: l)):p.2≤255:=by
 cases l with
 | nil=>exact h
 | cons q t=>exact h.1
theorem Can.mk {p:BitVec 8 × Nat} {l:Prs} (h1:p.2≤255) (h2 : ∀ q t,l=q :: t → p.1=q.1 → p.2=255) (h3:Can l):Can (p :: l):=by
 cases l with
 | nil=>exact h1
 | cons q t=>exact⟨h1,h2 q t rfl,h3⟩
theorem zdr (b:By):Can (y6 b):=by
 match b with
 | []=>rw [zdq];trivial
 | v :: t =>
  rw [za0]
  refine .mk zhC (fun q s hq e => ?_) (zdr _)
  cases hd:t.drop (lead v t 255) with
  | nil=>rw [hd,zdq] at hq;cases hq
  | cons w r =>
   rw [hd,za0] at hq
   obtain⟨rfl,_⟩:=List.cons.inj hq
   exact zdP hd e.symm
termination_by b.length
decreasing_by simp;omega
theorem zhD : ∀ {l:Prs},Can l → y6 (dec l)=l
 | [],_=>by rw [dec,zdq]
 | p :: l,h=>by
  rw [dec,List.replicate_succ,List.cons_append,za0]
  have hl:lead p.1 (List.replicate p.2 p.1++dec l) 255=p.2:=by
   by_cases c:p.2=255
   · rw [c];exact zgE
   · refine zjE (fun w t ht e=>c ?_) h.le
     cases l with
     | nil=>cases ht
     | cons q s =>
      rw [dec,List.replicate_succ,List.cons_append] at ht
      exact h.2.1 ((List.cons.inj ht).1.trans e).symm
  rw [hl,List.drop_left' (by simp),zhD h.tail]
/-! columns as bytes -/
def flq:Prs → By
 | []=>[]
 | p :: l=>p.1 :: BitVec.ofNat 8 p.2 :: flq l
def prs:By → Prs
 | a :: b :: t=>(a,b.toNat) :: prs t
 | _=>[]
theorem zmM : ∀ {l:Prs},(∀ p∈l,p.2≤255) → prs (flq l)=l
 | [],_=>rfl
 | p :: l,h=>by
  rw [flq,prs,zmM fun q hq=>h q (by simp [hq])]
  have:=h p (by simp)
  have e:(BitVec.ofNat 8 p.2).toNat=p.2:=by simp;omega
  rw [e]
theorem zmN : ∀ {b:By},b.length % 2=0 → flq (prs b)=b
 | [],_=>rfl
 | [_],h=>by simp at h
 | a :: b :: t,h=>by
  rw [prs,flq,zmN (by simp at h;omega)]
  simp
theorem zds : ∀ {l:Prs},(flq l).length=2*l.length
 | []=>rfl
 | p :: l=>by rw [flq];simp [zds (l:=l)];omega
theorem zmO : ∀ {b:By},b.length % 2=0 → 2*(prs b).length=b.length
 | [],_=>rfl
 | [_],h=>by simp at h
 | a :: b :: t,h=>by
  have:=zmO (b:=t) (by simp at h;omega)
  rw [prs];simp;omega
theorem zrC : ∀ {b:By},∀ p∈prs b,p.2≤255
 | [],p,h=>by simp [prs] at h
 | [_],p,h=>by simp [prs] at h
 | a :: b :: t,p,h=>by
  rw [prs] at h
  rcases List.mem_cons.1 h with rfl | h
  · have:=b.isLt;show b.toNat≤255;omega
  · exact zrC p h
theorem zlM {b:By} : ∀ p∈y6 b,p.2≤255:=by
 have : ∀ {l:Prs},Can l → ∀ p∈l,p.2≤255:=by
  intro l
  induction l with
  | nil=>intro _ p h;cases h
  | cons q l ih =>
   intro hc p h
   rcases List.mem_cons.1 h with rfl | h
   · exact hc.le
   · exact ih hc.tail p h
 exact this (zdr b)
def rle (b:By):By:=flq (y6 b)
theorem zrD {b:By}:(rle b).length % 2=0:=by rw [rle,zds];omega
theorem zeA {b:By}:prs (rle b)=y6 b:=zmM zlM
theorem zgF {b:By} (h:b.length % 2=0):rle (dec (prs b))=b ↔ Can (prs b):=by
 constructor
 · intro e
   have:=congrArg prs e
   rw [zeA] at this
   rw [←this];exact zdr _
 · intro c
   rw [rle,zhD c,zmN h]
theorem zmP {b:By}:dec (prs (rle b))=b:=by rw [zeA,zbb]
theorem zeB : ∀ {l:Prs},l.length≤(dec l).length
 | []=>Nat.le_refl _
 | p :: l=>by have:=zeB (l:=l);rw [dec];simp;omega
theorem zs0 {b:By}:(rle b).length≤2*b.length:=by
 rw [rle,zds]
 have:=zeB (l:=y6 b)
 rw [zbb] at this
 omega
def Snd (b:By) (rows top:Nat):Prop:=b.length % 2=0∧(∀ p∈prs b,p.1.toNat≤top)∧Can (prs b)∧(dec (prs b)).length=rows
theorem zhE : ∀ {l:Prs} {x:BitVec 8},x∈dec l ↔ ∃ p∈l,p.1=x
 | [],x=>by simp [dec]
 | p :: l,x=>by
  rw [dec,List.mem_append,zhE (l:=l)]
  simp only [List.mem_replicate,List.mem_cons,exists_eq_or_imp]
  constructor
  · rintro (⟨_,rfl⟩ | h)
    · exact .inl rfl
    · exact .inr h
  · rintro (h | h)
    · exact .inl ⟨by omega,h.symm⟩
    · exact .inr h
theorem zs2 {b:By} {top:Nat} (h : ∀ x∈b,x.toNat≤top):Snd (rle b) b.length top:=by
 refine⟨zrD,fun p hp => ?_,?_,?_⟩
 · rw [zeA] at hp
   refine h _ ?_
   have:=(zhE (l:=y6 b) (x:=p.1)).2 ⟨p,hp,rfl⟩
   rwa [zbb] at this
 · rw [zeA];exact zdr b
 · rw [zmP]
theorem zs3 {b:By} {rows top:Nat} (h:Snd b rows top):rle (dec (prs b))=b:=(zgF h.1).2 h.2.2.1
end Go.Proofs.YtdpfkanfahchjaaDoor

/-
  The log of readings: numbers,readings,segments (plain).
-/
namespace Go.Proofs.YtdpfkanfahchjaaDoor
open Go Go.AL

/-! ### Numbers -/
def yj:Nat → Nat → By
 | 0,_=>[]
 | n+1,x=>BitVec.ofNat 8 x :: yj n (x / 256)
def val:By → Nat
 | []=>0
 | b :: t=>b.toNat+256*val t
theorem zv : ∀ {n x:Nat},(yj n x).length=n
 | 0,_=>rfl
 | n+1,x=>by rw [yj,List.length_cons,zv]
theorem zcx : ∀ {n x:Nat},x < 256 ^ n → val (yj n x)=x
 | 0,x,h=>by
  have:x=0:=by simpa using h
  subst this;rfl
 | n+1,x,h=>by
  rw [yj,val,zcx (by rw [Nat.pow_succ] at h;exact Nat.div_lt_of_lt_mul (by omega))]
  simp;omega
theorem zrE : ∀ {b:By},val b < 256 ^ b.length
 | []=>by simp [val]
 | b :: t=>by
  have h1:=zrE (b:=t)
  have h2:=b.isLt
  rw [val,List.length_cons,Nat.pow_succ]
  omega
/-! ### Readings and streams -/
structure Rdg where
 who:Int
 whn:Int
 knd:Int
 val:Int
 deriving DecidableEq
instance:Inhabited Rdg:=⟨⟨0,0,0,0⟩⟩
structure Strm where
 l:List Rdg
 gone:List Bool
 deriving DecidableEq
def vR (r:Rdg):Prop:=(0≤r.who∧r.who < 16)∧(0≤r.whn∧r.whn < 256)∧(0≤r.knd∧r.knd < 16)∧(0≤r.val∧r.val < 256)
instance {r:Rdg}:Decidable (vR r):=by unfold vR;infer_instance
def fR (r:Rdg):Nat → Int
 | 0=>r.who
 | 1=>r.whn
 | 2=>r.knd
 | _=>r.val
def top:Nat → Nat
 | 0=>15
 | 1=>255
 | 2=>15
 | _=>255
def zH (l:List Rdg) (k:Nat):By:=l.map fun r=>BitVec.ofInt 8 (fR r k)
def mkR (c:Nat → By) (i:Nat):Rdg:=⟨((c 0)[i]?.getD 0#8).toNat,((c 1)[i]?.getD 0#8).toNat,((c 2)[i]?.getD 0#8).toNat,((c 3)[i]?.getD 0#8).toNat⟩
theorem zrF {r:Rdg} (h:vR r) : ∀ k,0≤fR r k∧fR r k≤top k:=by
 obtain⟨h1,h2,h3,h4⟩:=h
 intro k
 match k with
 | 0=>exact⟨h1.1,by show r.who≤15;omega⟩
 | 1=>exact⟨h2.1,by show r.whn≤255;omega⟩
 | 2=>exact⟨h3.1,by show r.knd≤15;omega⟩
 | k+3=>exact⟨h4.1,by show r.val≤255;omega⟩
def zc4 (rows:Nat) (c:Nat → By):List Rdg:=(List.range rows).map (mkR fun k=>dec (prs (c k)))
def zlN (rows:Nat) (c:Nat → By):Prop := ∀ k,k < 4 → Snd (c k) rows (top k)
theorem zjF {l:List Rdg} (h : ∀ r∈l,vR r):zlN l.length fun k=>rle (zH l k):=fun k _=>by
 have hl:(zH l k).length=l.length:=by simp [zH]
 rw [←hl]
 refine zs2 fun x hx => ?_
 simp only [zH,List.mem_map] at hx
 obtain⟨r,hr,rfl⟩:=hx
 have:=zrF (h r hr) k
 have ht:top k≤255:=by
  match k with
  | 0=>decide
  | 1=>decide
  | 2=>decide
  | k+3=>exact Nat.le_refl _
 rw [BitVec.toNat_ofInt]
 omega
theorem zec {l:List Rdg} (h : ∀ r∈l,vR r):zc4 l.length (fun k=>rle (zH l k))=l:=by
 unfold zc4
 apply List.ext_getElem
 · simp
 · intro i h1 h2
   simp only [List.getElem_map,List.getElem_range,mkR,zmP]
   have hr:=zrF (h l[i] (List.getElem_mem h2))
   have e : ∀ k,(((zH l k)[i]?.getD 0#8).toNat:Int)=fR l[i] k:=fun k=>by
    have:=hr k
    have ht:top k≤255:=by
     match k with
     | 0=>decide
     | 1=>decide
     | 2=>decide
     | k+3=>exact Nat.le_refl _
    simp only [zH,List.getElem?_map,List.getElem?_eq_getElem h2,Option.map_some,Option.getD_some]
    rw [BitVec.toNat_ofInt]
    omega
   rw [e 0,e 1,e 2,e 3]
   rfl
end Go.Proofs.YtdpfkanfahchjaaDoor

/-
  The log of readings: records,payloads,what a log says (plain).
-/
namespace Go.Proofs.YtdpfkanfahchjaaDoor
open Go Go.AL

/-! ### Records -/
def y9 (k:BitVec 8) (p:By):By:=yj 4 p.length++((k :: p)++(sha (k :: p)).take 8)
def spl (b:By):Option (BitVec 8 × By × By) :=
 if b.length < 13 then none
 else if 1048576 < val (b.take 4) ∨ b.length < 13+val (b.take 4) then none
 else if (sha ((b.drop 4).take (1+val (b.take 4)))).take 8=(b.drop (5+val (b.take 4))).take 8 then some ((b[4]?).getD 0#8,(b.drop 5).take (val (b.take 4)),b.drop (13+val (b.take 4))) else none
theorem zs4 {b:By}:((sha b).take 8).length=8:=by rw [List.length_take,zez];rfl
theorem yA {k:BitVec 8} {p:By}:(y9 k p).length=13+p.length:=by
 rw [y9,List.length_append,List.length_append,zv,zs4,List.length_cons];omega
theorem zmQ {k:BitVec 8} {p r:By} (h:p.length≤1048576):spl (y9 k p++r)=some (k,p,r):=by
 have e:y9 k p++r=yj 4 p.length++(k :: (p++((sha (k :: p)).take 8++r))):=by simp [y9]
 have h4:(yj 4 p.length).length=4:=zv
 have hv:val ((y9 k p++r).take 4)=p.length:=by
  rw [e,List.take_left' h4,zcx (by omega)]
 have d4:(y9 k p++r).drop 4=k :: (p++((sha (k :: p)).take 8++r)):=by rw [e,List.drop_left' h4]
 have dn : ∀ n,(y9 k p++r).drop (4+n)=(k :: (p++((sha (k :: p)).take 8++r))).drop n:=fun n=>by rw [←List.drop_drop,d4]
 have hl:(y9 k p++r).length=13+p.length+r.length:=by rw [List.length_append,yA]
 unfold spl
 rw [if_neg (by omega),hv,if_neg (by omega),d4]
 have t1:(k :: (p++((sha (k :: p)).take 8++r))).take (1+p.length)=k :: p:=by
  rw [Nat.add_comm,List.take_succ_cons,List.take_left' rfl]
 have t2:(y9 k p++r).drop (5+p.length)=(sha (k :: p)).take 8++r:=by
  rw [show 5+p.length=4+(p.length+1) by omega,dn,List.drop_succ_cons,List.drop_left' rfl]
 have t3:(y9 k p++r).drop 5=p++((sha (k :: p)).take 8++r):=by
  rw [show 5=4+1 from rfl,dn,List.drop_succ_cons,List.drop_zero]
 have t4:(y9 k p++r).drop (13+p.length)=r:=by
  rw [show 13+p.length=5+p.length+8 by omega,←List.drop_drop,t2,List.drop_left' zs4]
 have t5:(y9 k p++r)[4]? = some k:=by
  rw [e,List.getElem?_append_right (by omega),h4];rfl
 rw [t1,t2,List.take_left' zs4,if_pos rfl,t3,List.take_left' rfl,t4,t5]
 rfl
theorem zbM {b:By} {k:BitVec 8} {p r:By} (h:spl b=some (k,p,r)):b.length=13+p.length+r.length∧p.length≤1048576∧p.length=val (b.take 4):=by
 unfold spl at h
 split at h
 · cases h
 · split at h
   · cases h
   · split at h
     · simp only [Option.some.injEq,Prod.mk.injEq] at h
       obtain⟨_,rfl,rfl⟩:=h
       simp only [List.length_take,List.length_drop]
       omega
     · cases h
/-! ### Payloads -/
def z8:Nat → By → Option (List By × By)
 | 0,b=>some ([],b)
 | n+1,b=>if b.length < 4 ∨ b.length < 4+val (b.take 4) then none else
  match z8 n (b.drop (4+val (b.take 4))) with
  | some (cs,r)=>some ((b.drop 4).take (val (b.take 4)) :: cs,r)
  | none=>none
def zes (b:By):Option (Nat × List By) :=
 if b.length < 2 then none else
 match z8 4 (b.drop 2) with
 | some (cs,[])=>some (val (b.take 2),cs)
 | _=>none
def zZ:List By → By
 | []=>[]
 | c :: cs=>yj 4 c.length++(c++zZ cs)
def zoF (rows:Nat) (cs:List By):By:=yj 2 rows++zZ cs
theorem zmR {r:By} : ∀ {cs:List By},(∀ c∈cs,c.length < 4294967296) → z8 cs.length (zZ cs++r)=some (cs,r)
 | [],_=>rfl
 | c :: cs,h=>by
  have h4:(yj 4 c.length).length=4:=zv
  have e:zZ (c :: cs)++r=yj 4 c.length++(c++(zZ cs++r)):=by simp [zZ]
  have hv:val ((zZ (c :: cs)++r).take 4)=c.length:=by
   rw [e,List.take_left' h4,zcx (by have:=h c (by simp);omega)]
  have d4:(zZ (c :: cs)++r).drop 4=c++(zZ cs++r):=by rw [e,List.drop_left' h4]
  have hl:(zZ (c :: cs)++r).length=4+(c.length+(zZ cs++r).length):=by rw [e,List.length_append,List.length_append,h4]
  show (if _ then _ else _)=_
  rw [hv,if_neg (by omega),←List.drop_drop,d4,List.drop_left' rfl,List.take_left' rfl,zmR fun x hx=>h x (by simp [hx])]
theorem zuo {rows:Nat} {cs:List By} (hr:rows < 65536) (h4:cs.length=4) (h : ∀ c∈cs,c.length < 4294967296):zes (zoF rows cs)=some (rows,cs):=by
 have h2:(yj 2 rows).length=2:=zv
 unfold zes zoF
 rw [if_neg (by rw [List.length_append,h2];omega),List.drop_left' h2,List.take_left' h2,zcx (by omega)]
 have:=zmR (r:=[]) h
 rw [h4,List.append_nil] at this
 rw [this]
theorem zdR : ∀ {n:Nat} {b:By} {cs:List By} {r:By},z8 n b=some (cs,r) → cs.length=n
 | 0,b,cs,r,h=>by cases h;rfl
 | n+1,b,cs,r,h=>by
  unfold z8 at h
  split at h
  · cases h
  · split at h
    · rename_i cs' r' e
      cases h
      rw [List.length_cons,zdR e]
    · cases h
/-! ### Streams -/
def zup:Nat:=65536
def zdS (s:Strm) (i:Nat):Option Strm:=if i < s.l.length∧s.gone[i]?.getD false=false then some ⟨s.l,s.gone.set i true⟩ else none
open Classical in
noncomputable def ym (s:Strm) (k:BitVec 8) (p:By):Option Strm :=
 if k=1#8 then
  match zes p with
  | some (rows,cs)=>if 0 < rows∧rows≤4096∧zlN rows (fun k=>cs[k]?.getD [])∧s.l.length+rows≤zup then some ⟨s.l++zc4 rows (fun k=>cs[k]?.getD []),s.gone++List.replicate rows false⟩ else none
  | none=>none
 else if k=2#8∧p.length=4 then zdS s (val p) else none
noncomputable def ld (s:Strm) (b:By):Strm × Nat × Bool :=
 if hb:b.length=0 then (s,0,true)
 else match h:spl b with
  | none=>(s,b.length,false)
  | some (k,p,r)=>match ym s k p with
   | none=>(s,b.length,false)
   | some s'=>ld s' r
termination_by b.length
decreasing_by have:=(zbM h).1;omega
theorem za1 {s:Strm}:ld s []=(s,0,true):=by rw [ld];rfl
theorem zbN {s:Strm} {b:By} (hb:b.length≠0) (h:spl b=none):ld s b=(s,b.length,false):=by
 rw [ld,dif_neg hb]
 split
 · rfl
 · rename_i h2;rw [h] at h2;cases h2
theorem zfA {s:Strm} {b:By} {k:BitVec 8} {p r:By} (h:spl b=some (k,p,r)) (h2:ym s k p=none):ld s b=(s,b.length,false):=by
 rw [ld,dif_neg (by have:=(zbM h).1;omega)]
 split
 · rename_i e;exact absurd (h.symm.trans e) (by simp)
 · rename_i k' p' r' e
   rw [h] at e;cases e
   (try rw [h2])
theorem zcy {s s':Strm} {b:By} {k:BitVec 8} {p r:By} (h:spl b=some (k,p,r)) (h2:ym s k p=some s'):ld s b=ld s' r:=by
 conv=>lhs;rw [ld,dif_neg (by have:=(zbM h).1;omega)]
 split
 · rename_i e;exact absurd (h.symm.trans e) (by simp)
 · rename_i k' p' r' e
   rw [h] at e;cases e
   (try rw [h2])
inductive Log:Strm → By → Strm → Prop
 | nil (s):Log s [] s
 | cons {s s' t:Strm} {k:BitVec 8} {p b:By} (hp:p.length≤1048576) (h:ym s k p=some s') (h2:Log s' b t):Log s (y9 k p++b) t
theorem zlO {s t:Strm} {a b:By} (h:Log s a t):ld s (a++b)=ld t b:=by
 induction h with
 | nil s=>rfl
 | cons hp h h2 ih=>rw [List.append_assoc,zcy (zmQ hp) h,ih]
theorem Log.snoc {s t u:Strm} {a p:By} {k:BitVec 8} (h:Log s a t) (hp:p.length≤1048576) (h2:ym t k p=some u):Log s (a++y9 k p) u:=by
 induction h with
 | nil s=>rw [List.nil_append,←List.append_nil (y9 k p)];exact .cons hp h2 (.nil _)
 | cons hp' h' _ ih=>rw [List.append_assoc];exact .cons hp' h' (ih h2)
end Go.Proofs.YtdpfkanfahchjaaDoor

/-
  The log of readings: logs that are cut off or damaged (plain).
-/
namespace Go.Proofs.YtdpfkanfahchjaaDoor
open Go Go.AL

/-! ### Logs of records, cut off or damaged -/
abbrev Recs:=List (BitVec 8 × By)
def lg:Recs → By
 | []=>[]
 | q :: l=>y9 q.1 q.2++lg l
def zrG (l:Recs):Prop := ∀ q∈l,q.2.length≤1048576
def Sqn (sq:Nat → Strm) (l:Recs):Prop := ∀ i q,l[i]? = some q → ym (sq i) q.1 q.2=some (sq (i+1))
theorem Sqn.tail {sq:Nat → Strm} {q:BitVec 8 × By} {l:Recs} (h:Sqn sq (q :: l)):Sqn (fun i=>sq (i+1)) l:=fun i q' hq=>h (i+1) q' (by simpa using hq)
theorem zlP : ∀ {l m:Recs},lg (l++m)=lg l++lg m
 | [],_=>rfl
 | q :: l,m=>by rw [List.cons_append,lg,lg,zlP,List.append_assoc]
theorem zs5 {l:Recs} {k:BitVec 8} {p:By}:lg (l++[(k,p)])=lg l++y9 k p:=by rw [zlP];simp [lg]
theorem zmS : ∀ {l:Recs} {sq:Nat → Strm},zrG l → Sqn sq l → Log (sq 0) (lg l) (sq l.length)
 | [],sq,_,_ => .nil _
 | q :: l,sq,h,hs => .cons (h q (by simp)) (hs 0 q rfl) (zmS (sq:=fun i=>sq (i+1)) (fun x hx=>h x (by simp [hx])) hs.tail)
theorem zeC {k:BitVec 8} {p r:By} {n:Nat} (hp:p.length≤1048576) (hn:n < 13+p.length):spl ((y9 k p++r).take n)=none:=by
 have hl:((y9 k p++r).take n).length=n:=by rw [List.length_take,List.length_append,yA];omega
 unfold spl
 rw [hl]
 by_cases h:n < 13
 · rw [if_pos h]
 · have h4:(yj 4 p.length).length=4:=zv
   have hv:val (((y9 k p++r).take n).take 4)=p.length:=by
    rw [List.take_take,Nat.min_eq_left (by omega),y9,List.append_assoc,List.take_left' h4,zcx (by omega)]
   rw [if_neg h,hv,if_pos (by omega)]
theorem zrH : ∀ {l:Recs} {sq:Nat → Strm} {n:Nat},zrG l → Sqn sq l → n≤(lg l).length →
 ∃ i,i≤l.length∧(lg (l.take i)).length≤n∧(∀ j,j≤l.length → (lg (l.take j)).length≤n → j≤i)∧(ld (sq 0) ((lg l).take n)).1=sq i∧(ld (sq 0) ((lg l).take n)).2.1=n - (lg (l.take i)).length
 | [],sq,n,_,_,hn=>by
  have h0:n=0:=by simpa [lg] using hn
  subst h0
  refine⟨0,Nat.le_refl _,by simp [lg],fun j hj _=>by simpa using hj,?_,?_⟩
  · rw [List.take_zero,za1]
  · rw [List.take_zero,za1];simp
 | q :: l,sq,n,ho,hs,hn=>by
  have hq:=ho q (by simp)
  have hlq:(y9 q.1 q.2).length=13+q.2.length:=yA
  by_cases hc:n < 13+q.2.length
  · refine⟨0,Nat.zero_le _,by simp [lg],fun j hj hjn => ?_,?_,?_⟩
    · rcases j with _ | j
      · exact Nat.le_refl _
      · rw [List.take_succ_cons,lg,List.length_append,hlq] at hjn
        omega
    · by_cases h0:n=0
      · subst h0;rw [List.take_zero,za1]
      · rw [lg,zbN (by rw [List.length_take,List.length_append,hlq];omega) (zeC hq hc)]
    · by_cases h0:n=0
      · subst h0;rw [List.take_zero,za1];simp
      · rw [lg,zbN (by rw [List.length_take,List.length_append,hlq];omega) (zeC hq hc)]
        simp [lg,hlq];omega
  · have ht:(lg (q :: l)).take n=y9 q.1 q.2++(lg l).take (n - (13+q.2.length)):=by
     rw [lg,List.take_append,List.take_of_length_le (by omega),hlq]
    rw [lg,List.length_append,hlq] at hn
    obtain⟨i,h1,h2,h3,h4,h5⟩:=zrH (sq:=fun i=>sq (i+1)) (n:=n - (13+q.2.length)) (fun x hx=>ho x (by simp [hx])) hs.tail (by omega)
    have hst:=hs 0 q rfl
    rw [ht,zcy (zmQ hq) hst]
    refine⟨i+1,by simp;omega,?_,fun j hj hjn => ?_,h4,?_⟩
    · rw [List.take_succ_cons,lg,List.length_append,hlq];omega
    · rcases j with _ | j
      · omega
      · rw [List.take_succ_cons,lg,List.length_append,hlq] at hjn
        have:=h3 j (by simpa using hj) (by omega)
        omega
    · rw [h5,List.take_succ_cons,lg,List.length_append,hlq];omega
theorem zmT {s:Strm} {b:By}:(ld s b).2.1≤b.length:=by
 by_cases hb:b.length=0
 · rw [List.eq_nil_of_length_eq_zero hb,za1];exact Nat.le_refl _
 · cases h:spl b with
   | none=>rw [zbN hb h];exact Nat.le_refl _
   | some q =>
    obtain⟨k,p,r⟩:=q
    have hl:=(zbM h).1
    cases h2:ym s k p with
    | none=>rw [zfA h h2];exact Nat.le_refl _
    | some s' =>
     rw [zcy h h2]
     exact Nat.le_trans zmT (by omega)
termination_by b.length
end Go.Proofs.YtdpfkanfahchjaaDoor

/-
  The log of readings: columns,runs.
-/
namespace Go.Proofs.YtdpfkanfahchjaaDoor
open Go Go.AL

def zrI:List AV:=[.clo 73 [] [],.p (i64 15),.clo 74 [] [],.p (i64 255),.clo 75 [] [],.p (i64 15),.clo 76 [] [],.p (i64 255)]
def clm:AV := .agg zrI
section cl
variable {f g f1 f2 f3:FuncId} {x y:PV}
theorem zs6:zO [.clo f [] [],.p x] = .agg [.clo f [] [],.p x]:=rfl
theorem zur {cs:List AV}:zf (.agg cs)=some cs:=rfl
theorem zus {x y z w:PV}:zO [.clo f [] [],.p x,.clo f1 [] [],.p y,.clo f2 [] [],.p z,.clo f3 [] [],.p w] = .agg [.clo f [] [],.p x,.clo f1 [] [],.p y,.clo f2 [] [],.p z,.clo f3 [] [],.p w]:=rfl
theorem zoG {cs:List AV}:(AV.agg cs).isAggV=true:=rfl
variable {a b c d e k l m u v:AV} {r:List AV}
theorem zvr:setAt (a :: b :: r) 0 [u,v]=u :: v :: r:=yt _ _ _ (by simp)
theorem zvs:setAt (a :: b :: c :: d :: r) 2 [u,v]=a :: b :: u :: v :: r:=yt _ _ _ (by simp)
theorem zvt:setAt (a :: b :: c :: d :: e :: k :: r) 4 [u,v]=a :: b :: c :: d :: u :: v :: r:=yt _ _ _ (by simp)
theorem zvu:setAt (a :: b :: c :: d :: e :: k :: l :: m :: r) 6 [u,v]=a :: b :: c :: d :: e :: k :: u :: v :: r:=yt _ _ _ (by simp)
end cl
attribute [go_sem] zvr zvs zvt zvu
attribute [go_sem] zs6 zur zus zoG
section walks
variable {G:Globs}
theorem zaG (H:Hp) (R:AV → Hp → Prop) (h:R clm (H.new (.cells zrI))):ACall Tryd.prog G 54 [] H R:=by
 refine ACall.of_run (raw:=[]) Tryd.func54 rfl Tryd.ntmps54 (by simp) fun hbel => ?_
 refine .q ?_;refine .text ?_;simp (disch:=first|exact za|fail) only [go_sem,seval,-List.reduceReplicate]
 refine .q ?_;refine .text ?_;simp (disch:=first|exact za|fail) only [go_sem,seval,-List.reduceReplicate]
 refine .q ?_;refine .retKeep Tryd.func54 (by rw [Tryd.results54]) (by simp (disch:=first|exact za|fail) only [go_sem,seval,-List.reduceReplicate];rfl) ?_;(try simp (disch:=first|exact za|fail) only [go_sem,seval,-List.reduceReplicate])
 exact h
theorem zjG (xs:List PV) (i:Nat) (hi:i < xs.length) (H:Hp) (R:AV → Hp → Prop) (h:R (.ip 4 xs i 0) H):ACall Tryd.prog G 73 [.ip 4 xs i 0] H R:=by
 refine ACall.of_run (raw:=[]) Tryd.func73 rfl Tryd.ntmps73 (by simp) fun hbel => ?_
 refine .q ?_;refine .text ?_;simp (disch:=first|exact za|fail) only [go_sem,seval,-List.reduceReplicate]
 refine .q ?_;refine .text ?_;simp (disch:=first|exact za|fail) only [go_sem,seval,-List.reduceReplicate]
 refine .q ?_;refine .retKeep Tryd.func73 (by rw [Tryd.results73]) (by simp (disch:=first|exact za|fail) only [go_sem,seval,-List.reduceReplicate];rfl) ?_;(try simp (disch:=first|exact za|fail) only [go_sem,seval,-List.reduceReplicate])
 exact h
theorem zjH (xs:List PV) (i:Nat) (hi:i < xs.length) (H:Hp) (R:AV → Hp → Prop) (h:R (.ip 4 xs i 1) H):ACall Tryd.prog G 74 [.ip 4 xs i 0] H R:=by
 refine ACall.of_run (raw:=[]) Tryd.func74 rfl Tryd.ntmps74 (by simp) fun hbel => ?_
 refine .q ?_;refine .text ?_;simp (disch:=first|exact za|fail) only [go_sem,seval,-List.reduceReplicate]
 refine .q ?_;refine .text ?_;simp (disch:=first|exact za|fail) only [go_sem,seval,-List.reduceReplicate]
 refine .q ?_;refine .retKeep Tryd.func74 (by rw [Tryd.results74]) (by simp (disch:=first|exact za|fail) only [go_sem,seval,-List.reduceReplicate];rfl) ?_;(try simp (disch:=first|exact za|fail) only [go_sem,seval,-List.reduceReplicate])
 exact h
theorem zjI (xs:List PV) (i:Nat) (hi:i < xs.length) (H:Hp) (R:AV → Hp → Prop) (h:R (.ip 4 xs i 2) H):ACall Tryd.prog G 75 [.ip 4 xs i 0] H R:=by
 refine ACall.of_run (raw:=[]) Tryd.func75 rfl Tryd.ntmps75 (by simp) fun hbel => ?_
 refine .q ?_;refine .text ?_;simp (disch:=first|exact za|fail) only [go_sem,seval,-List.reduceReplicate]
 refine .q ?_;refine .text ?_;simp (disch:=first|exact za|fail) only [go_sem,seval,-List.reduceReplicate]
 refine .q ?_;refine .retKeep Tryd.func75 (by rw [Tryd.results75]) (by simp (disch:=first|exact za|fail) only [go_sem,seval,-List.reduceReplicate];rfl) ?_;(try simp (disch:=first|exact za|fail) only [go_sem,seval,-List.reduceReplicate])
 exact h
theorem zjJ (xs:List PV) (i:Nat) (hi:i < xs.length) (H:Hp) (R:AV → Hp → Prop) (h:R (.ip 4 xs i 3) H):ACall Tryd.prog G 76 [.ip 4 xs i 0] H R:=by
 refine ACall.of_run (raw:=[]) Tryd.func76 rfl Tryd.ntmps76 (by simp) fun hbel => ?_
 refine .q ?_;refine .text ?_;simp (disch:=first|exact za|fail) only [go_sem,seval,-List.reduceReplicate]
 refine .q ?_;refine .text ?_;simp (disch:=first|exact za|fail) only [go_sem,seval,-List.reduceReplicate]
 refine .q ?_;refine .retKeep Tryd.func76 (by rw [Tryd.results76]) (by simp (disch:=first|exact za|fail) only [go_sem,seval,-List.reduceReplicate];rfl) ?_;(try simp (disch:=first|exact za|fail) only [go_sem,seval,-List.reduceReplicate])
 exact h
theorem zhF (b o:Nat) (H:Hp) (hb:b < H.n) (R:AV → Hp → Prop) (h:R (.ptr b (o+0)) H):ACall Tryd.prog G 73 [.ptr b o] H R:=by
 refine ACall.of_run (raw:=[]) Tryd.func73 rfl Tryd.ntmps73 (by simp) fun hbel => ?_
 refine .q ?_;refine .text ?_;simp (disch:=first|exact za|fail) only [go_sem,seval,-List.reduceReplicate]
 refine .q ?_;refine .text ?_;simp (disch:=first|exact za|fail) only [go_sem,seval,-List.reduceReplicate]
 refine .q ?_;refine .retKeep Tryd.func73 (by rw [Tryd.results73]) (by simp (disch:=first|exact za|fail) only [go_sem,seval,-List.reduceReplicate];rfl) ?_;(try simp (disch:=first|exact za|fail) only [go_sem,seval,-List.reduceReplicate])
 exact h
theorem zhG (b o:Nat) (H:Hp) (hb:b < H.n) (R:AV → Hp → Prop) (h:R (.ptr b (o+1)) H):ACall Tryd.prog G 74 [.ptr b o] H R:=by
 refine ACall.of_run (raw:=[]) Tryd.func74 rfl Tryd.ntmps74 (by simp) fun hbel => ?_
 refine .q ?_;refine .text ?_;simp (disch:=first|exact za|fail) only [go_sem,seval,-List.reduceReplicate]
 refine .q ?_;refine .text ?_;simp (disch:=first|exact za|fail) only [go_sem,seval,-List.reduceReplicate]
 refine .q ?_;refine .retKeep Tryd.func74 (by rw [Tryd.results74]) (by simp (disch:=first|exact za|fail) only [go_sem,seval,-List.reduceReplicate];rfl) ?_;(try simp (disch:=first|exact za|fail) only [go_sem,seval,-List.reduceReplicate])
 exact h
theorem zhH (b o:Nat) (H:Hp) (hb:b < H.n) (R:AV → Hp → Prop) (h:R (.ptr b (o+2)) H):ACall Tryd.prog G 75 [.ptr b o] H R:=by
 refine ACall.of_run (raw:=[]) Tryd.func75 rfl Tryd.ntmps75 (by simp) fun hbel => ?_
 refine .q ?_;refine .text ?_;simp (disch:=first|exact za|fail) only [go_sem,seval,-List.reduceReplicate]
 refine .q ?_;refine .text ?_;simp (disch:=first|exact za|fail) only [go_sem,seval,-List.reduceReplicate]
 refine .q ?_;refine .retKeep Tryd.func75 (by rw [Tryd.results75]) (by simp (disch:=first|exact za|fail) only [go_sem,seval,-List.reduceReplicate];rfl) ?_;(try simp (disch:=first|exact za|fail) only [go_sem,seval,-List.reduceReplicate])
 exact h
theorem zhI (b o:Nat) (H:Hp) (hb:b < H.n) (R:AV → Hp → Prop) (h:R (.ptr b (o+3)) H):ACall Tryd.prog G 76 [.ptr b o] H R:=by
 refine ACall.of_run (raw:=[]) Tryd.func76 rfl Tryd.ntmps76 (by simp) fun hbel => ?_
 refine .q ?_;refine .text ?_;simp (disch:=first|exact za|fail) only [go_sem,seval,-List.reduceReplicate]
 refine .q ?_;refine .text ?_;simp (disch:=first|exact za|fail) only [go_sem,seval,-List.reduceReplicate]
 refine .q ?_;refine .retKeep Tryd.func76 (by rw [Tryd.results76]) (by simp (disch:=first|exact za|fail) only [go_sem,seval,-List.reduceReplicate];rfl) ?_;(try simp (disch:=first|exact za|fail) only [go_sem,seval,-List.reduceReplicate])
 exact h
theorem zgG (b:By) (H:Hp) (R:AV → Hp → Prop) (h:R (.clo 78 [] [.ptr H.n 0]) (H.new (.cells [.p (.sl false 1 (pl b8 b))]))):ACall Tryd.prog G 60 [.p (.sl false 1 (pl b8 b))] H R:=by
 refine ACall.of_run (raw:=[]) Tryd.func60 rfl Tryd.ntmps60 (by simp) fun hbel => ?_
 refine .q ?_;refine .text ?_;simp (disch:=first|exact za|fail) only [go_sem,seval,-List.reduceReplicate]
 refine .q ?_;refine .text ?_;simp (disch:=first|exact za|fail) only [go_sem,seval,-List.reduceReplicate]
 refine .q ?_;refine .retKeep Tryd.func60 (by rw [Tryd.results60]) (by simp (disch:=first|exact za|fail) only [go_sem,seval,-List.reduceReplicate];rfl) ?_;(try simp (disch:=first|exact za|fail) only [go_sem,seval,-List.reduceReplicate])
 exact h
end walks
end Go.Proofs.YtdpfkanfahchjaaDoor

/-
  The log of readings: the iterator over runs.
-/
namespace Go.Proofs.YtdpfkanfahchjaaDoor
open Go Go.AL

def rst (b:By) (i:Nat):By:=dec ((y6 b).drop i)
theorem zjK : ∀ {l:Prs} (i:Nat),Can l → Can (l.drop i)
 | [],i,_=>by simp;trivial
 | _ :: _,0,h=>h
 | p :: l,i+1,h=>by rw [List.drop_succ_cons];exact zjK i h.tail
theorem zs7 {b:By} {i:Nat}:y6 (rst b i)=(y6 b).drop i:=zhD (zjK i (zdr b))
theorem zs8 {b:By}:rst b (y6 b).length=[]:=by rw [rst,List.drop_length];rfl
theorem zrJ {b:By}:rst b 0=b:=by rw [rst,List.drop_zero,zbb]
theorem zut {b:By} : ∀ i,(rst b i).length≤b.length:=by
 have h : ∀ (l:Prs) (i:Nat),(dec (l.drop i)).length≤(dec l).length:=by
  intro l
  induction l with
  | nil=>intro i;simp
  | cons p l ih =>
   intro i
   cases i with
   | zero=>exact Nat.le_refl _
   | succ i =>
    rw [List.drop_succ_cons,dec,List.length_append]
    have:=ih i;omega
 intro i
 have:=h (y6 b) i
 rwa [zbb] at this
structure RunAt (b:By) (i:Nat) (v:BitVec 8) (c:Nat) (t:By):Prop where
 run:(y6 b)[i]? = some (v,c)
 rest:rst b i=v :: t
 le:c≤255
 len:c≤t.length
 eq : ∀ j,j < c → nth t j=v
 stop:c=t.length ∨ c=255 ∨ nth t c≠v
 next:(v :: t).drop (c+1)=rst b (i+1)
theorem zvv {b:By} {i:Nat} (hi:i < (y6 b).length) : ∃ v c t,RunAt b i v c t:=by
 obtain⟨q,hq⟩ : ∃ q,(y6 b)[i]? = some q:=⟨_,List.getElem?_eq_getElem hi⟩
 have hd:(y6 b).drop i=q :: (y6 b).drop (i+1):=by
  rw [List.drop_eq_getElem_cons hi]
  rw [List.getElem?_eq_getElem hi] at hq
  rw [Option.some.inj hq]
 have hr:rst b i=q.1 :: (List.replicate q.2 q.1++rst b (i+1)):=by
  rw [rst,hd,dec,List.replicate_succ,List.cons_append];rfl
 have hg:y6 (rst b i)=q :: (y6 b).drop (i+1):=by rw [zs7,hd]
 rw [hr,za0] at hg
 have hl:lead q.1 (List.replicate q.2 q.1++rst b (i+1)) 255=q.2:=congrArg Prod.snd (List.cons.inj hg).1
 refine⟨q.1,q.2,List.replicate q.2 q.1++rst b (i+1),hq,hr,?_,by simp,fun j hj => ?_,?_,?_⟩
 · rw [←hl];exact zhC
 · rw [zhm (by simpa using hj),zcJ hj]
 · by_cases h1:q.2=(List.replicate q.2 q.1++rst b (i+1)).length
   · exact .inl h1
   · by_cases h2:q.2=255
     · exact .inr (.inl h2)
     · refine .inr (.inr fun e=>h2 ?_)
       have hlt:q.2 < (List.replicate q.2 q.1++rst b (i+1)).length:=by
        have:(List.replicate q.2 q.1++rst b (i+1)).length=q.2+(rst b (i+1)).length:=by simp
        omega
       have hdr:=List.drop_eq_getElem_cons hlt
       have hn:(List.replicate q.2 q.1++rst b (i+1))[q.2]=q.1:=by
        have e2:((List.replicate q.2 q.1++rst b (i+1))[q.2]?).getD default=q.1:=e
        rw [List.getElem?_eq_getElem hlt] at e2;exact e2
       have:=zdP (v:=q.1) (t:=List.replicate q.2 q.1++rst b (i+1)) (k:=255) (by rw [hl];exact hdr) hn
       rw [hl] at this;exact this
 · rw [List.drop_succ_cons,List.drop_left' (by simp)]
theorem zdU {x y:PV}:zO [.p x,.p y] = .p (.agg [x,y]):=rfl
section walks
variable {G:Globs}
set_option maxHeartbeats 2000000 in
theorem zfB (b:By) (hb:b.length≤140737488355000) (y p n0:Nat) (Ls Ms:Nat → Hp) (hL : ∀ i,(Ls i).n=n0) (hM : ∀ i,(Ms i).n=n0) (hB : ∀ i,Bel n0 (Ls i)) (hy0:y < n0) (hp:p < n0)
 (hbox : ∀ i,(Ls i).f p=some (.cells [.p (.sl false 1 (pl b8 (rst b i)))])) (hboxM : ∀ i,(Ms i).f p=some (.cells [.p (.sl false 1 (pl b8 (rst b i)))]))
 (hset : ∀ i,i < (y6 b).length → (Ms i).set p (.cells [.p (.sl false 1 (pl b8 (rst b (i+1))))])=Ls (i+1))
 (hy : ∀ i v c,(y6 b)[i]? = some (v,c) → ∀ K:AV → Hp → Prop,K (.p (bo true)) (Ms i) → AYield Tryd.prog G y [.p (.agg [b8 v,i64 (((c+1:Nat)):Int)])] (Ls i) K)
 (R:AV → Hp → Prop) (h:R (.tup []) (Ls (y6 b).length)):ACall Tryd.prog G 78 [.yld y,.ptr p 0] (Ls 0) R:=by
 refine ACall.of_run (raw:=[]) Tryd.func78 rfl Tryd.ntmps78 (by simp) fun hbel => ?_
 rw [hL 0]
 refine .q ?_
 refine .count (fun i env H'=>env 0 = .yld y∧env 1 = .ptr p 0∧H'=Ls i) 0 (y6 b).length (by omega) ?_ ?_ ?_
 · exact⟨rfl,rfl,rfl⟩
 · intro env H' ⟨e0,e1,eH⟩
   subst eH
   have hLe:=hL (y6 b).length
   have hbel:=hB (y6 b).length
   refine .q ?_;refine .text ?_;simp (disch:=first|exact za|fail) only [go_sem,seval,-List.reduceReplicate,e0,e1,hbox,zs8]
   refine .q ?_;refine .ifF (by simp (disch:=first|exact za|fail) only [go_sem,seval,-List.reduceReplicate]) ?_
   refine .q ?_;refine .fin Tryd.func78 (by rw [Tryd.results78]) (by simp (disch:=first|exact za|fail) only [go_sem,seval,-List.reduceReplicate];rfl) (by simp (disch:=first|exact za|fail) only [go_sem,seval,-List.reduceReplicate];rfl) (by (try dsimp only);repeat (first | with_reducible refine zbJ ?_ za | with_reducible refine zaY ?_ za | with_reducible refine zbK ?_ za | with_reducible refine zad ?_ | with_reducible exact hbel | with_reducible exact hbel _)) ?_;simp (disch:=first|exact za|fail) only [go_sem,seval,-List.reduceReplicate]
   exact h
 · intro i env H' _ hi ⟨e0,e1,eH⟩ ih
   subst eH
   obtain⟨v,c,t,hr⟩:=zvv hi
   have hLi:=hL i
   have hbx:=hbox i
   have hbxM:=hboxM i
   have hyi:=hy i v c hr.run
   have hst:=hset i hi
   have hlt:t.length≤b.length:=by have:=zut (b:=b) i;rw [hr.rest] at this;simp at this;omega
   rw [hr.rest] at hbx hbxM
   rw [←hr.next,List.drop_succ_cons] at hst
   have h1:=hr.le
   have h2:=hr.len
   refine .q ?_;refine .text ?_;simp (disch:=first|exact za|fail) only [go_sem,seval,-List.reduceReplicate,e0,e1,hbx]
   refine .q ?_;refine .ifT (by simp (disch:=first|exact za|fail) only [go_sem,seval,-List.reduceReplicate]) ?_
   refine .q ?_;refine .text ?_;simp (disch:=first|exact za|fail) only [go_sem,seval,-List.reduceReplicate]
   refine .q ?_
   refine .count (fun j env H'=>env 0 = .yld y∧env 1 = .ptr p 0∧env 3 = .p (i64 ((j:Int)+1))∧H'=Ls i) 0 c (by omega) ?_ ?_ ?_
   · simp (disch:=first|exact za|fail) only [go_sem,seval,-List.reduceReplicate,e0,e1]
   · intro env H' ⟨e0,e1,e3,eH⟩
     subst eH
     by_cases c1:c < t.length
     · have d1:decide ((c:Int)+1 < (t.length:Int)+1)=true:=decide_eq_true (by omega)
       by_cases c2:c=255
       · have d2:decide ((c:Int)+1 < 256)=false:=decide_eq_false (by omega)
         refine .q ?_;refine .open [17] follows (by kernel_rfl) ?_;simp (disch:=first|exact za|fail) only [go_sem,seval,-List.reduceReplicate,e0,e1,e3,hbx,d1,d2]
         refine .q ?_;refine .ifF (by simp (disch:=first|exact za|fail) only [go_sem,seval,-List.reduceReplicate]) ?_
         refine .q ?_;refine .text ?_;simp (disch:=first|exact za|fail) only [go_sem,seval,-List.reduceReplicate,e0,e1,e3,hbx,zdU]
         refine YieldK.of (fun K hK=>hyi K hK) ?_;simp (disch:=first|exact za|fail) only [go_sem,seval,-List.reduceReplicate]
         refine .q ?_;refine .ifF (by simp (disch:=first|exact za|fail) only [go_sem,seval,-List.reduceReplicate]) ?_
         refine .skip ?_
         refine .q ?_;refine .text ?_;simp (disch:=first|exact za|fail) only [go_sem,seval,-List.reduceReplicate,e1,e3,hbxM]
         first | (refine ih _ _ ?_) | (refine .z rfl ?_;refine ih _ _ ?_) | (refine .z rfl ?_;refine .z rfl ?_;refine ih _ _ ?_) | (refine .z rfl ?_;refine .z rfl ?_;refine .z rfl ?_;refine ih _ _ ?_)
         simp (disch:=first|exact za|fail) only [go_sem,seval,-List.reduceReplicate,e0,e1,hst]
       · have d2:decide ((c:Int)+1 < 256)=true:=decide_eq_true (by omega)
         have d3:(nth t c == v)=false:=by
          rcases hr.stop with q | q | q
          · omega
          · omega
          · simpa using q
         refine .q ?_;refine .open [17] follows (by kernel_rfl) ?_;simp (disch:=first|exact za|fail) only [go_sem,seval,-List.reduceReplicate,e0,e1,e3,hbx,d1,d2]
         refine .q ?_;refine .ifF (by simp (disch:=first|exact za|fail) only [go_sem,seval,-List.reduceReplicate,zP,zcI,d3]) ?_
         refine .q ?_;refine .text ?_;simp (disch:=first|exact za|fail) only [go_sem,seval,-List.reduceReplicate,e0,e1,e3,hbx,zdU]
         refine YieldK.of (fun K hK=>hyi K hK) ?_;simp (disch:=first|exact za|fail) only [go_sem,seval,-List.reduceReplicate]
         refine .q ?_;refine .ifF (by simp (disch:=first|exact za|fail) only [go_sem,seval,-List.reduceReplicate]) ?_
         refine .skip ?_
         refine .q ?_;refine .text ?_;simp (disch:=first|exact za|fail) only [go_sem,seval,-List.reduceReplicate,e1,e3,hbxM]
         first | (refine ih _ _ ?_) | (refine .z rfl ?_;refine ih _ _ ?_) | (refine .z rfl ?_;refine .z rfl ?_;refine ih _ _ ?_) | (refine .z rfl ?_;refine .z rfl ?_;refine .z rfl ?_;refine ih _ _ ?_)
         simp (disch:=first|exact za|fail) only [go_sem,seval,-List.reduceReplicate,e0,e1,hst]
     · have d1:decide ((c:Int)+1 < (t.length:Int)+1)=false:=decide_eq_false (by omega)
       refine .q ?_;refine .open [17] follows (by kernel_rfl) ?_;simp (disch:=first|exact za|fail) only [go_sem,seval,-List.reduceReplicate,e0,e1,e3,hbx,d1]
       refine .q ?_;refine .ifF (by simp (disch:=first|exact za|fail) only [go_sem,seval,-List.reduceReplicate]) ?_
       refine .q ?_;refine .text ?_;simp (disch:=first|exact za|fail) only [go_sem,seval,-List.reduceReplicate,e0,e1,e3,hbx,zdU]
       refine YieldK.of (fun K hK=>hyi K hK) ?_;simp (disch:=first|exact za|fail) only [go_sem,seval,-List.reduceReplicate]
       refine .q ?_;refine .ifF (by simp (disch:=first|exact za|fail) only [go_sem,seval,-List.reduceReplicate]) ?_
       refine .skip ?_
       refine .q ?_;refine .text ?_;simp (disch:=first|exact za|fail) only [go_sem,seval,-List.reduceReplicate,e1,e3,hbxM]
       first | (refine ih _ _ ?_) | (refine .z rfl ?_;refine ih _ _ ?_) | (refine .z rfl ?_;refine .z rfl ?_;refine ih _ _ ?_) | (refine .z rfl ?_;refine .z rfl ?_;refine .z rfl ?_;refine ih _ _ ?_)
       simp (disch:=first|exact za|fail) only [go_sem,seval,-List.reduceReplicate,e0,e1,hst]
   · intro j env H' _ hj ⟨e0,e1,e3,eH⟩ ih2
     subst eH
     have d1:decide (((j:Int)+1) < ((v :: t).length:Int))=true:=decide_eq_true (by rw [List.length_cons];omega)
     have d2:decide (((j:Int)+1) < 256)=true:=decide_eq_true (by omega)
     have d3:nth t j=v:=hr.eq j hj
     refine .q ?_;refine .open [17] follows (by kernel_rfl) ?_;simp (disch:=first|exact za|fail) only [go_sem,seval,-List.reduceReplicate,e0,e1,e3,hbx]
     refine .q ?_;refine .ifT (by simp (disch:=first|exact za|fail) only [go_sem,seval,-List.reduceReplicate,zP,zcI,d3,beq_self_eq_true]) ?_
     refine .q ?_;refine .text ?_;simp (disch:=first|exact za|fail) only [go_sem,seval,-List.reduceReplicate,e3]
     first | (refine ih2 _ _ ?_) | (refine .z rfl ?_;refine ih2 _ _ ?_) | (refine .z rfl ?_;refine .z rfl ?_;refine ih2 _ _ ?_) | (refine .z rfl ?_;refine .z rfl ?_;refine .z rfl ?_;refine ih2 _ _ ?_)
     simp (disch:=first|exact za|fail) only [go_sem,seval,-List.reduceReplicate,e0,e1,e3]
end walks
end Go.Proofs.YtdpfkanfahchjaaDoor

/-
  The log of readings: Pack.
-/
namespace Go.Proofs.YtdpfkanfahchjaaDoor
open Go Go.AL

def rdL (r:Rdg):List PV:=[i64 r.who,i64 r.whn,i64 r.knd,i64 r.val]
def zK (r:Rdg):PV := .agg (rdL r)
def pkc (l:List Rdg) (k:Nat):List By:=(List.range k).map fun k=>rle (zH l k)
theorem pkc_succ {l:List Rdg} {k:Nat}:pkc l (k+1)=pkc l k++[rle (zH l k)]:=by simp [pkc,List.range_succ]
theorem zcz {l:List Rdg} {k:Nat}:(pkc l k).length=k:=by simp [pkc]
def fnk (k:Nat):FuncId:=nth [73,74,75,76] k
theorem zuu {x y:PV}:zf (.p (.agg [x,y]))=some [.p x,.p y]:=rfl
theorem zuv {x:PV} {α n:Nat} {sz:Nat} {xs:List PV}:zO [.p x,.sl α n sz xs] = .p (.agg [x,.sl false sz xs]):=rfl
attribute [go_sem] zdU zuu zuv
def wrt (l:List Rdg) (k i:Nat):By:=(zH l k).take i++List.replicate (l.length - i) 0#8
theorem zdt {l:List Rdg} {k:Nat}:List.replicate l.length (0#8:BitVec 8)=wrt l k 0:=by simp [wrt]
theorem zs9 {l:List Rdg} {k i:Nat} (h:i≤l.length):(wrt l k i).length=l.length:=by simp [wrt,zH];omega
section enc
variable {r:Rdg} {l:List Rdg} {k:Nat}
theorem zoH:(zK r).cells=rdL r:=rfl
theorem zeD:(rdL r).length=4:=rfl
theorem zta (h:k < 4):(rdL r)[k]? = some (i64 (fR r k)):=by
 have:k=0 ∨ k=1 ∨ k=2 ∨ k=3:=by omega
 rcases this with rfl | rfl | rfl | rfl<;>rfl
theorem zuw:yK Tryd.prog 93 clm (.p (i64 0))=some (.agg [.clo 73 [] [],.p (i64 15)]):=by kernel_rfl
theorem zux:yK Tryd.prog 93 clm (.p (i64 1))=some (.agg [.clo 74 [] [],.p (i64 255)]):=by kernel_rfl
theorem zuy:yK Tryd.prog 93 clm (.p (i64 2))=some (.agg [.clo 75 [] [],.p (i64 15)]):=by kernel_rfl
theorem zuz:yK Tryd.prog 93 clm (.p (i64 3))=some (.agg [.clo 76 [] [],.p (i64 255)]):=by kernel_rfl
theorem zgH (h:k < 4):yK Tryd.prog 93 clm (.p (i64 k))=some (.agg [.clo (fnk k) [] [],.p (i64 (top k))]):=by
 have:k=0 ∨ k=1 ∨ k=2 ∨ k=3:=by omega
 rcases this with rfl | rfl | rfl | rfl
 · exact zuw
 · exact zux
 · exact zuy
 · exact zuz
theorem en0:enters Tryd.prog 73=true:=by kernel_rfl
theorem en1:enters Tryd.prog 74=true:=by kernel_rfl
theorem en2:enters Tryd.prog 75=true:=by kernel_rfl
theorem en3:enters Tryd.prog 76=true:=by kernel_rfl
theorem zfC (h:k < 4):enters Tryd.prog (fnk k)=true:=by
 have:k=0 ∨ k=1 ∨ k=2 ∨ k=3:=by omega
 rcases this with rfl | rfl | rfl | rfl
 · exact en0
 · exact en1
 · exact en2
 · exact en3
theorem zhJ:wrt l k l.length=zH l k:=by unfold wrt;rw [List.take_of_length_le (by simp [zH]),Nat.sub_self];simp
theorem zrK {i:Nat} (h:i < l.length):(wrt l k i).set i (BitVec.ofInt 8 (fR (nth l i) k))=wrt l k (i+1):=by
 have hc:(zH l k).length=l.length:=by simp [zH]
 have hl:((zH l k).take i).length=i:=by rw [List.length_take,hc];omega
 unfold wrt
 rw [List.set_append_right _ _ (by omega),hl,Nat.sub_self]
 obtain⟨m,hm⟩ : ∃ m,l.length - i=m+1:=⟨l.length - i - 1,by omega⟩
 rw [hm,List.replicate_succ,List.set_cons_zero,show l.length - (i+1)=m by omega,List.take_succ_eq_append_getElem (by rw [hc];exact h),List.append_assoc]
 congr 2
 simp [zH,nth,h]
end enc
attribute [go_sem] zoH zeD
theorem zjL {C:Cx} {todo:List Item} {env:Env} {H:Hp} {R:AV → Hp → Prop} (h:Bel H.n H → ARun C todo env H R):ARun C todo env H R:=fun σ w a b cs m h1 h2=>h h2.rel.bel σ w a b cs m h1 h2
theorem zjM {C:Cx} {k:List Item} {env:Env} {H:Hp} {R:AV → Hp → Prop} (h : ∀ B,B=H → ARun C k env B R):ARun C k env H R:=h H rfl
theorem zrL {l:List Rdg} {k:Nat}:(zH l k).length=l.length:=by simp [zH]
def pkH (B:Hp) (c t:Nat) (b:By) (i j:Nat) (x:AB):Hp:=(((B.set c (.cells [.sl t i 1 (pl b8 (flq ((y6 b).take i)))])).set t (.tail i)).new (.cells [.p (.sl false 1 (pl b8 (rst b j)))])).new x
theorem zmV : ∀ {l m:Prs},flq (l++m)=flq l++flq m
 | [],_=>rfl
 | p :: l,m=>by rw [List.cons_append,flq,flq,zmV];rfl
theorem zjN {l:Prs} {i:Nat} {v:BitVec 8} {n:Nat} (h:l[i]? = some (v,n)):flq (l.take i)++[v,BitVec.ofInt 8 (n:Int)]=flq (l.take (i+1)):=by
 have hi:i < l.length:=(List.getElem?_eq_some_iff.1 h).1
 rw [List.take_succ_eq_append_getElem hi,zmV]
 have:l[i]=(v,n):=(List.getElem?_eq_some_iff.1 h).2
 rw [this]
 simp [flq]
theorem zmW {B:Hp} {c u:Nat} {x y z:AB} (h:c≠u):((B.set c x).set u y).set c z=(B.set c z).set u y:=Hp.ext (fun b=>by
 simp only [Hp.f_set,Hp.n_set]
 by_cases h1:b=c
 · subst h1;by_cases h2:b < B.n<;>simp [h,h2]
 · simp [h1]) rfl
theorem zlQ {α v sz:Nat} {l:List PV}:pvs? [.sl α v sz l]=some [.sl false sz l]:=rfl
attribute [go_sem] zlQ
section pk
variable {B:Hp} {c u:Nat} {b:By} {i j:Nat} {x y:AB}
theorem zgJ:(pkH B c u b i j x).n=B.n+2:=rfl
theorem zeE:(pkH B c u b i j x).f B.n=some (.cells [.p (.sl false 1 (pl b8 (rst b j)))]):=by
 unfold pkH
 simp (disch:=first|exact za|fail) only [go_sem,seval]
theorem zmX:(pkH B c u b i j x).set B.n (.cells [.p (.sl false 1 (pl b8 (rst b (j+1))))])=pkH B c u b i (j+1) x:=by
 unfold pkH
 simp (disch:=first|exact za|fail) only [go_sem,seval]
theorem zjO (hc:B.f c=some (.cells [.sl u 0 1 [] ])) (hu:B.f u=some (.tail 0)):(B.new (.cells [.p (.sl false 1 (pl b8 b))])).new x=pkH B c u b 0 0 x:=by
 unfold pkH
 rw [List.take_zero,show pl b8 (flq [])=[] from rfl,Hp.set_same _ _ _ hc,Hp.set_same _ _ _ hu,zrJ]
theorem zdu {m i sz:Nat} {xs:List PV} (h:Bel B.n B) (hm:B.n≤m) (hu:u < m):Bel m (B.set c (.cells [.sl u i sz xs])):=zaT (zfg h (Nat.le_refl _) hm) fun y hy=>by
 simp [AB.vals] at hy
 subst hy
 exact .sl _ _ _ _ hu
theorem zmY {m:Nat} {vs:List AV} {S:OS} (h:Bel B.n B) (hu:u < B.n) (hv : ∀ y∈vs,BelowN m y) (hm:m≤B.n+2):Bel (B.n+2) (pkH B c u b i j (.obj vs S)):=by
 unfold pkH
 refine yY hv (yX (yZ (zaT (zfg h (Nat.le_refl _) (by omega)) fun y hy => ?_))) (by omega)
 simp [AB.vals] at hy
 subst hy
 exact .sl _ _ _ _ (by omega)
end pk
section walks
variable {G:Globs}
theorem zlR (xs:List PV) (i k:Nat) (hi:i < xs.length) (hk:k < 4) (H:Hp) (R:AV → Hp → Prop) (h:R (.ip 4 xs i k) H):ACall Tryd.prog G (fnk k) [.ip 4 xs i 0] H R:=by
 have:k=0 ∨ k=1 ∨ k=2 ∨ k=3:=by omega
 rcases this with rfl | rfl | rfl | rfl
 · exact zjG xs i hi H R h
 · exact zjH xs i hi H R h
 · exact zjI xs i hi H R h
 · exact zjJ xs i hi H R h
set_option maxHeartbeats 2000000 in
theorem zgK (l:List Rdg) (hl:l.length≤100000) (H:Hp) (R:AV → Hp → Prop) (h:R (.p (.agg [i64 l.length,.sl false 1 (pl (sle 1 b8) (pkc l 4))])) H):ACall Tryd.prog G 30 [.p (.sl false 4 (pl zK l))] H R:=by
 refine ACall.of_run (raw:=[]) Tryd.func30 rfl Tryd.ntmps30 (by simp) fun hbel => ?_
 refine .q ?_;refine .text ?_;simp (disch:=first|exact za|fail) only [go_sem,seval,-List.reduceReplicate]
 refine .q ?_;refine .text ?_;simp (disch:=first|exact za|fail) only [go_sem,seval,-List.reduceReplicate]
 refine .q ?_;refine .text ?_;simp (disch:=first|exact za|fail) only [go_sem,seval,-List.reduceReplicate]
 refine CallK.of (fun R h=>zaG _ R h) ?_;simp (disch:=first|exact za|fail) only [go_sem,seval,-List.reduceReplicate]
 refine .q ?_;refine .ownC (H.n+1) 1 (by simp (disch:=first|exact za|fail) only [go_sem,seval,-List.reduceReplicate];rfl) (by rfl) ?_;simp (disch:=first|exact za|fail) only [go_sem,seval,-List.reduceReplicate,List.set_cons_zero,List.set_cons_succ]
 refine .q ?_;refine .loopF [0,2,3,13] (fun k=>[(14,.p (i64 k))]) (fun k=>[(H.n+1,.cells [.p (i64 l.length),.sl (H.n+3) k 1 (pl (sle 1 b8) (pkc l k))]),(H.n+3,.tail k)]) (fun k=>True) (0) (4) (by omega) ?_ (by first | rfl | (simp (disch:=first|exact za|fail) only [go_sem,seval,-List.reduceReplicate]<;>rfl)) ?_ ?_ ?_
 · simp (disch:=first|exact za|fail) only [go_sem,seval,-List.reduceReplicate]<;>(repeat' (first | rfl | refine And.intro ?_ ?_))
 · exact trivial
 intro env T E hQ;simp (disch:=first|exact za|fail) only [go_sem,seval,-List.reduceReplicate] at E
 rotate_left 1
 intro k env T hk0 hk E hQ ihE;simp (disch:=first|exact za|fail) only [go_sem,seval,-List.reduceReplicate] at E
 rotate_left 1
 · refine .q ?_;refine .text ?_;simp (disch:=first|exact za|fail) only [go_sem,seval,-List.reduceReplicate,E,zj,zm]
   refine .q ?_;refine .ifF (by simp (disch:=first|exact za|fail) only [go_sem,seval,-List.reduceReplicate]) ?_
   refine .q ?_;refine .text ?_;simp (disch:=first|exact za|fail) only [go_sem,seval,-List.reduceReplicate,E]
   refine .q ?_;refine .rt Tryd.func30 (by rw [Tryd.results30]) (hx:=by simp (disch:=first|exact za|fail) only [go_sem,seval,-List.reduceReplicate,E];rfl) (hR := ?_);simp (disch:=first|exact za|fail) only [go_sem,seval,-List.reduceReplicate,E]
   exact h
 · obtain⟨T0,rfl⟩ : ∃ T0,T0=T:=⟨_,rfl⟩
   refine .q ?_;refine .text ?_;simp (disch:=first|exact za|fail) only [go_sem,seval,-List.reduceReplicate,E,zj,zm]
   refine .q ?_;refine .ifT (by simp (disch:=first|exact za|fail) only [go_sem,seval,-List.reduceReplicate]) ?_
   refine .q ?_;refine .text ?_;simp (disch:=first|exact za|fail) only [go_sem,seval,-List.reduceReplicate,E,zgH hk]
   refine .q ?_;refine .text ?_;simp (disch:=first|exact za|fail) only [go_sem,seval,-List.reduceReplicate,E]
   refine .q ?_;refine .text ?_;simp (disch:=first|exact za|fail) only [go_sem,seval,-List.reduceReplicate,E]
   refine .q ?_;refine .loopE [0,2,3,5,6,13,14,21] (fun i=>[(22,.p (i64 i))]) (fun i=>[(H.n+5+T0.length,.cells (cl b8 (wrt l k i)))]) (fun i=>True) (0) (l.length) (by omega) ?_ (by first | rfl | (simp (disch:=first|exact za|fail) only [go_sem,seval,-List.reduceReplicate,E,zdt]<;>rfl)) ?_ ?_ ?_
   · simp (disch:=first|exact za|fail) only [go_sem,seval,-List.reduceReplicate,E,zdt]<;>(repeat' (first | rfl | refine And.intro ?_ ?_))
   · exact trivial
   intro env V hQ;simp (disch:=first|exact za|fail) only [go_sem,seval,-List.reduceReplicate,E,zdt] at V
   rotate_left 1
   intro i env hi0 hi V hQ ihV;simp (disch:=first|exact za|fail) only [go_sem,seval,-List.reduceReplicate,E,zdt] at V
   rotate_left 1
   · refine .q ?_;refine .text ?_;simp (disch:=first|exact za|fail) only [go_sem,seval,-List.reduceReplicate,V,E,zj,zm]
     refine .q ?_;refine .ifF (by simp (disch:=first|exact za|fail) only [go_sem,seval,-List.reduceReplicate]) ?_
     refine .q ?_;refine .text ?_;simp (disch:=first|exact za|fail) only [go_sem,seval,-List.reduceReplicate,V,E]
     have hcl:=zrL (l:=l) (k:=k)
     refine .q ?_;refine .frzS 6 (by simp (disch:=first|exact za|fail) only [go_sem,seval,-List.reduceReplicate,V,E,zhJ];rfl) (by simp (disch:=first|exact za|fail) only [go_sem,seval,-List.reduceReplicate,V,E,zhJ]<;>rfl) (fun _=>rfl) (by first | exact za | fail) ?_;(try simp (disch:=first|exact za|fail) only [go_sem,seval,-List.reduceReplicate,V,E,zhJ])
     refine .q ?_;refine .ownC (H.n+4+T0.length+2) 0 (by simp (disch:=first|exact za|fail) only [go_sem,seval,-List.reduceReplicate,V,E];rfl) (by rfl) ?_;simp (disch:=first|exact za|fail) only [go_sem,seval,-List.reduceReplicate,List.set_cons_zero,List.set_cons_succ,V,E]
     refine zjL fun hbT=>zjM fun B hB => ?_
     rw [←hB] at hbT
     have hBn:B.n=H.n+8+T0.length:=by rw [hB];simp (disch:=first|exact za|fail) only [go_sem,seval,-List.reduceReplicate];omega
     have hBc:B.f (H.n+4+T0.length+2)=some (.cells [.sl (H.n+4+T0.length+3) 0 1 []]):=by rw [hB];simp (disch:=first|exact za|fail) only [go_sem,seval,-List.reduceReplicate]
     have hBt:B.f (H.n+4+T0.length+3)=some (.tail 0):=by rw [hB];simp (disch:=first|exact za|fail) only [go_sem,seval,-List.reduceReplicate]
     refine .q ?_;refine .text ?_;simp (disch:=first|exact za|fail) only [go_sem,seval,-List.reduceReplicate,V,E]
     refine CallK.of (fun R h=>zgG _ _ R h) ?_;simp (disch:=first|exact za|fail) only [go_sem,seval,-List.reduceReplicate,V,E]
     refine .q ?_;refine .rangeFunc (ps:=[40]) rfl (by simp (disch:=first|exact za|fail) only [go_sem,seval,-List.reduceReplicate,V,E];rfl) (by simp (disch:=first|exact za|fail) only [go_sem,seval,-List.reduceReplicate,V,E]) (by simp) fun L vs hL hvs hround => ?_;simp (disch:=first|exact za|fail) only [go_sem,seval,-List.reduceReplicate,V,E]
     obtain⟨c,hc⟩ : ∃ c,c=H.n+4+T0.length+2:=⟨_,rfl⟩
     obtain⟨u,hu⟩ : ∃ u,u=H.n+4+T0.length+3:=⟨_,rfl⟩
     rw [←hc] at hBc
     rw [←hu] at hBc hBt
     rw [zjO (u:=u) hBc hBt]
     refine zfB (zH l k) (by omega) (B.n+1) B.n (B.n+2) (fun i=>pkH B c u (zH l k) i i (.obj vs (L .ready none))) (fun i=>pkH B c u (zH l k) (i+1) i (.obj vs (L .ready none))) (fun i=>zgJ) (fun i=>zgJ) (fun i=>zmY hbT (by omega) hvs (by simp only [n_new'];omega)) (by omega) (by omega) (fun i=>zeE) (fun i=>zeE) (fun i hi=>zmX) (fun i v n hv K hK => ?_) _ ?_
     · have hbn:=zgJ (B:=B) (c:=c) (u:=u) (b:=zH l k) (i:=i) (j:=i) (x := .obj vs (L .ready none))
       refine hround _ _ _ rfl (by unfold pkH;simp (disch:=first|exact za|fail) only [go_sem,seval,-List.reduceReplicate]) fun hbel2 => ?_
       dsimp only
       unfold pkH
       simp (disch:=first|exact za|fail) only [go_sem,seval,-List.reduceReplicate]
       refine .q ?_;refine .text ?_;simp (disch:=first|exact za|fail) only [go_sem,seval,-List.reduceReplicate]
       refine .q ?_;refine .beginRound rfl hL (by simp (disch:=first|exact za|fail) only [go_sem,seval,-List.reduceReplicate];rfl) ?_;simp (disch:=first|exact za|fail) only [go_sem,seval,-List.reduceReplicate]
       have hfs:flq ((y6 (zH l k)).take i)++[v,BitVec.ofInt 8 (n:Int)]=flq ((y6 (zH l k)).take (i+1)):=zjN hv
       have hfl:(flq ((y6 (zH l k)).take i)).length≤1000000:=by
        rw [zds,List.length_take]
        have:=zeB (l:=y6 (zH l k))
        rw [zbb] at this
        omega
       refine .q ?_;refine .text ?_;simp (disch:=first|exact za|fail) only [go_sem,seval,-List.reduceReplicate,←hc,hfs]
       (repeat refine .z rfl ?_);refine .roundEnd rfl hL (by simp (disch:=first|exact za|fail) only [go_sem,seval,-List.reduceReplicate];rfl) ?_ ?_
       · refine zaS (yY hvs (yX (zaT (yZ (zdu hbT (by dsimp only;omega) (by dsimp only;omega))) fun y hy => ?_)) (by simp only [n_new'];omega)) fun y hy => ?_
         · simp [AB.vals] at hy
           subst hy
           exact .sl _ _ _ _ (by dsimp only;omega)
         · simp [AB.vals] at hy
           rcases hy with rfl | rfl<;>exact .p _
       · have hn255:n≤255:=zlM (v,n) (List.mem_of_getElem? hv)
         have hwr:IntKind.i64.wrap ((n:Int)+1 - 1)=(n:Int):=by rw [show (n:Int)+1 - 1=n by omega];exact zaD (by omega) (by omega)
         simp (disch:=first|exact za|fail) only [go_sem,seval,-List.reduceReplicate,hwr,hfs]
         rw [zmW (by omega)]
         exact hK
     · have hall:(y6 (zH l k)).take (y6 (zH l k)).length=y6 (zH l k):=List.take_length
       have hB1:B.f (H.n+1)=some (.cells [.p (i64 l.length),.sl (H.n+3) k 1 (pl (sle 1 b8) (pkc l k))]):=by rw [hB];simp (disch:=first|exact za|fail) only [go_sem,seval,-List.reduceReplicate]
       have hB3:B.f (H.n+3)=some (.tail k):=by rw [hB];simp (disch:=first|exact za|fail) only [go_sem,seval,-List.reduceReplicate]
       unfold pkH
       rw [hall]
       unfold zdh;refine⟨?_,.inl ⟨(by simp (disch:=first|exact za|fail) only [go_sem,seval,-List.reduceReplicate]<;>rfl),?_⟩⟩;(try dsimp only);(repeat (first | with_reducible exact hbel | with_reducible exact zaI hbel za | with_reducible refine zbq ?_ | with_reducible refine yX ?_ | with_reducible refine zbr ?_ | with_reducible refine yY hvs ?_ za | with_reducible refine zad ?_ | with_reducible refine zbs ?_ | with_reducible refine yZ ?_ | with_reducible refine zbt ?_ | with_reducible refine zbu ?_));simp (disch:=first|exact za|fail) only [go_sem,seval,-List.reduceReplicate]
       · exact zdu hbT (by omega) (by omega)
       have hpl:(pkc l k).length=k:=zcz
       have hBl:(pkc l k).length≤100:=by rw [zcz];omega
       have hss:pkc l k++[flq (y6 (zH l k))]=pkc l (k+1):=pkc_succ.symm
       have h1e:[PV.sl false 1 (pl b8 (flq (y6 (zH l k))))]=pl (sle 1 b8) [flq (y6 (zH l k))]:=rfl
       have h1w:(PV.sl false 1 (pl b8 (flq (y6 (zH l k))))).weak=PV.sl false 1 (pl b8 (flq (y6 (zH l k)))):=rfl
       have h1a:((pl (sle 1 b8) [flq (y6 (zH l k))]).all fun x=>x.cells.length == 1)=true:=rfl
       have h1v:(pl (sle 1 b8) [flq (y6 (zH l k))]).map PV.weak=pl (sle 1 b8) [flq (y6 (zH l k))]:=rfl
       refine .q ?_;refine .text ?_;simp (disch:=first|exact za|fail) only [go_sem,seval,-List.reduceReplicate,V,E,←hc,hpl,hB1,hB3,hBl,h1w,h1e,h1a,h1v,hss]
       refine .q ?_;refine .text ?_;simp (disch:=first|exact za|fail) only [go_sem,seval,-List.reduceReplicate,V,E,hss]
       subst hc hu
       subst hB
       simp (disch:=first|exact za|fail) only [go_sem,seval,-List.reduceReplicate]
       first | (refine ihE _ _ ?_ trivial ?_) | (refine .z rfl ?_;refine ihE _ _ ?_ trivial ?_) | (refine .z rfl ?_;refine .z rfl ?_;refine ihE _ _ ?_ trivial ?_) | (refine .z rfl ?_;refine .z rfl ?_;refine .z rfl ?_;refine ihE _ _ ?_ trivial ?_)
       · simp (disch:=first|exact za|fail) only [go_sem,seval,-List.reduceReplicate,V,E,zj,zm,hss]<;>(repeat' (first | rfl | refine And.intro ?_ ?_))
       · first | exact .mk _ rfl | exact .mk [] rfl | (apply Later.mk;simp (disch:=first|exact za|fail) only [go_sem,seval,-List.reduceReplicate,zbw,V,E,zj,zm,hss];exact rfl) | (apply Later.mk;simp (disch:=first|exact za|fail) only [go_sem,seval,-List.reduceReplicate,zbw,zdi,List.append_assoc,V,E,zj,zm,hss]<;>(try rfl))
   · refine .q ?_;refine .text ?_;simp (disch:=first|exact za|fail) only [go_sem,seval,-List.reduceReplicate,V,E,zj,zm]
     refine .q ?_;refine .ifT (by simp (disch:=first|exact za|fail) only [go_sem,seval,-List.reduceReplicate]) ?_
     refine .q ?_;refine .text ?_;simp (disch:=first|exact za|fail) only [go_sem,seval,-List.reduceReplicate,V,E]
     have hen:enters Tryd.prog (fnk k)=true:=zfC hk
     have hget:(rdL (nth l i))[k]? = some (i64 (fR (nth l i) k)):=zta hk
     have hw:=zrK (k:=k) hi
     have hwl:=zs9 (k:=k) (Nat.le_of_lt hi)
     refine .q ?_;refine .open [12] follows (by kernel_rfl) ?_;simp (disch:=first|exact za|fail) only [go_sem,seval,-List.reduceReplicate,V,E,hen]
     refine CallD.still (fun R h=>zlR (pl zK l) i k (by rw [zat];exact hi) hk _ R h) ?_;simp (disch:=first|exact za|fail) only [go_sem,seval,-List.reduceReplicate,V,E,hen,hget,hwl]
     refine .q ?_;refine .text ?_;simp (disch:=first|exact za|fail) only [go_sem,seval,-List.reduceReplicate,V,E]
     first | (refine ihV _ _ ?_ trivial ?_) | (refine .z rfl ?_;refine ihV _ _ ?_ trivial ?_) | (refine .z rfl ?_;refine .z rfl ?_;refine ihV _ _ ?_ trivial ?_) | (refine .z rfl ?_;refine .z rfl ?_;refine .z rfl ?_;refine ihV _ _ ?_ trivial ?_)
     · simp (disch:=first|exact za|fail) only [go_sem,seval,-List.reduceReplicate,V,E,zj,zm,hw]<;>(repeat' (first | rfl | refine And.intro ?_ ?_))
     · first | rfl | (simp (disch:=first|exact za|fail) only [go_sem,seval,-List.reduceReplicate,V,E,zj,zm,hw]<;>(try rfl))
end walks
end Go.Proofs.YtdpfkanfahchjaaDoor

/-
  The log of readings: the reference's fields,widths and numbers.
-/
namespace Go.Proofs.YtdpfkanfahchjaaDoor
open Go Go.AL

section rd
variable {a b c d:PV}
theorem zuA {r:Rdg}:zf (.p (zK r))=some [.p (i64 r.who),.p (i64 r.whn),.p (i64 r.knd),.p (i64 r.val)]:=rfl
theorem zuB {a b c d:Int}:zO [.p (i64 a),.p (i64 b),.p (i64 c),.p (i64 d)] = .p (zK ⟨a,b,c,d⟩):=rfl
end rd
attribute [go_sem] zuA zuB
section walks
variable {G:Globs}
end walks
end Go.Proofs.YtdpfkanfahchjaaDoor

/-
  The log of readings: the reference's Pack.
-/
namespace Go.Proofs.YtdpfkanfahchjaaDoor
open Go Go.AL

section walks
variable {G:Globs}
end walks
end Go.Proofs.YtdpfkanfahchjaaDoor

/-
  The log of readings: numbers as bytes.
-/
namespace Go.Proofs.YtdpfkanfahchjaaDoor
open Go Go.AL

theorem leN_snoc : ∀ {i x:Nat},yj (i+1) x=yj i x++[BitVec.ofNat 8 (x / 256 ^ i)]
 | 0,x=>by simp [yj]
 | i+1,x=>by
  rw [yj,leN_snoc,yj,Nat.div_div_eq_div_mul,List.cons_append,Nat.pow_succ,Nat.mul_comm (256 ^ i) 256]
theorem zhK {P:Program} {t:TypeId} {x:Int}:zo P .shr t (.p (i64 x)) (.p (yG 8#64))=some (.p (i64 (x / 2 ^ 8))):=by
 have:x.fdiv (2 ^ 8)=x / 2 ^ 8:=Int.fdiv_eq_ediv_of_nonneg _ (by decide)
 rw [←this];rfl
theorem zvN {P:Program} {t:TypeId} {x:Int}:zo P .shl t (.p (i64 x)) (.p (yG 8#64))=some (.p (i64 (IntKind.i64.wrap (x*2 ^ 8)))):=rfl
theorem zcA {b:BitVec 8}:[b8 b]=pl b8 [b]:=rfl
theorem zcB {b:BitVec 8}:((pl b8 [b]).all fun y=>y.cells.length == 1)=true:=rfl
section walks
variable {G:Globs}
set_option maxHeartbeats 2000000 in
theorem zjP (b:By) (x n:Nat) (hn:n≤8) (hb:b.length+n≤140737488355000) (α v:Nat) (H:Hp) (hα:H.f α=some (.tail v)) (R:AV → Hp → Prop) (h:R (.sl α (v+n) 1 (pl b8 (b++yj n x))) (H.set α (.tail (v+n)))) :
 ACall Tryd.prog G 53 [.sl α v 1 (pl b8 b),.p (i64 x),.p (i64 n)] H R:=by
 refine ACall.of_run (raw:=[]) Tryd.func53 rfl Tryd.ntmps53 (by simp) fun hbel => ?_
 have hαn:=Hp.lt hα
 have hs0:H.set α (.tail v)=H:=Hp.set_same H _ α hα
 have hx0:x / 256 ^ 0=x:=by simp
 have hn0:(n:Int) - ((0:Nat):Int)=n:=by omega
 refine .q ?_;refine .text ?_;simp (disch:=first|exact za|fail) only [go_sem,seval,-List.reduceReplicate]
 refine .q ?_;refine .loopH [] (fun i=>[(0,.sl α (v+i) 1 (pl b8 (b++yj i x))),(1,.p (i64 (x / 256 ^ i:Nat))),(2,.p (i64 ((n:Int) - (i:Int))))]) (fun i=>H.set α (.tail (v+i))) (fun i=>True) (0) (n) (by omega) ?_ (by first | rfl | (simp (disch:=first|exact za|fail) only [go_sem,seval,-List.reduceReplicate,yj,hs0,List.append_nil,hx0,hn0]<;>rfl)) ?_ ?_ ?_
 · simp (disch:=first|exact za|fail) only [go_sem,seval,-List.reduceReplicate,yj,hs0,List.append_nil,hx0,hn0]<;>(repeat' (first | rfl | refine And.intro ?_ ?_))
 · exact trivial
 intro env E hQ;simp (disch:=first|exact za|fail) only [go_sem,seval,-List.reduceReplicate,yj,hs0,List.append_nil,hx0,hn0] at E
 rotate_left 1
 intro i env hi0 hi E hQ ihE;simp (disch:=first|exact za|fail) only [go_sem,seval,-List.reduceReplicate,yj,hs0,List.append_nil,hx0,hn0] at E
 rotate_left 1
 · have hd:decide ((0:Int) < (n:Int) - (n:Int))=false:=decide_eq_false (by omega)
   refine .q ?_;refine .text ?_;simp (disch:=first|exact za|fail) only [go_sem,seval,-List.reduceReplicate,E,hd]
   refine .q ?_;refine .ifF (by simp (disch:=first|exact za|fail) only [go_sem,seval,-List.reduceReplicate,Int.sub_self]) ?_
   refine .q ?_;refine .text ?_;simp (disch:=first|exact za|fail) only [go_sem,seval,-List.reduceReplicate,E]
   refine .q ?_;refine .retKeep Tryd.func53 (by rw [Tryd.results53]) (by simp (disch:=first|exact za|fail) only [go_sem,seval,-List.reduceReplicate,E];rfl) ?_;(try simp (disch:=first|exact za|fail) only [go_sem,seval,-List.reduceReplicate,E])
   exact h
 · have hl:(yj i x).length=i:=zv
   have hs:yj i x++[BitVec.ofNat 8 (x / 256 ^ i)]=yj (i+1) x:=leN_snoc.symm
   have hd:decide ((0:Int) < (n:Int) - (i:Int))=true:=decide_eq_true (by omega)
   have hx:((x / 256 ^ i:Nat):Int) / 256=((x / 256 ^ (i+1):Nat):Int):=by
    rw [show (256:Int)=((256:Nat):Int) from rfl,←Int.natCast_ediv,Nat.div_div_eq_div_mul,Nat.pow_succ]
   have hn1:(n:Int) - (i:Int) - 1=(n:Int) - ((i:Int)+1):=by omega
   refine .q ?_;refine .text ?_;simp (disch:=first|exact za|fail) only [go_sem,seval,-List.reduceReplicate,E,hd]
   refine .q ?_;refine .ifT (by simp (disch:=first|exact za|fail) only [go_sem,seval,-List.reduceReplicate,hd]) ?_
   refine .q ?_;refine .text ?_;simp (disch:=first|exact za|fail) only [go_sem,seval,-List.reduceReplicate,E,hl,BitVec.ofInt_natCast,zcA,zcB]
   refine .q ?_;refine .text ?_;simp (disch:=first|exact za|fail) only [go_sem,seval,-List.reduceReplicate,E,zhK,hx]
   refine .q ?_;refine .text ?_;simp (disch:=first|exact za|fail) only [go_sem,seval,-List.reduceReplicate,E,hn1]
   first | (refine ihE _ _ ?_ trivial ?_) | (refine .z rfl ?_;refine ihE _ _ ?_ trivial ?_) | (refine .z rfl ?_;refine .z rfl ?_;refine ihE _ _ ?_ trivial ?_) | (refine .z rfl ?_;refine .z rfl ?_;refine .z rfl ?_;refine ihE _ _ ?_ trivial ?_)
   · simp (disch:=first|exact za|fail) only [go_sem,seval,-List.reduceReplicate,E,hs,zhK,hx,hn1,List.append_assoc,Nat.add_assoc]<;>(repeat' (first | rfl | refine And.intro ?_ ?_))
   · first | rfl | (simp (disch:=first|exact za|fail) only [go_sem,seval,-List.reduceReplicate,E,hs,zhK,hx,hn1,List.append_assoc,Nat.add_assoc]<;>(try rfl))
end walks
end Go.Proofs.YtdpfkanfahchjaaDoor

/-
  The log of readings: bytes as numbers.
-/
namespace Go.Proofs.YtdpfkanfahchjaaDoor
open Go Go.AL

theorem ztb {a b k:Nat} (ha:a < 2 ^ k) (h:a+b*2 ^ k < 2 ^ 63):(BitVec.ofInt 64 (a:Int) ||| BitVec.ofInt 64 ((b*2 ^ k:Nat):Int)).toNat=a+b*2 ^ k:=by
 rw [BitVec.ofInt_natCast,BitVec.ofInt_natCast,BitVec.toNat_or,BitVec.toNat_ofNat,BitVec.toNat_ofNat,Nat.mod_eq_of_lt (by omega),Nat.mod_eq_of_lt (by omega)]
 have:=Nat.shiftLeft_add_eq_or_of_lt ha b
 rw [Nat.shiftLeft_eq] at this
 rw [Nat.or_comm,←this,Nat.add_comm]
theorem zlS {P:Program} {t:TypeId} {a b k:Nat} (ha:a < 2 ^ k) (h:a+b*2 ^ k < 2 ^ 63):zo P .or t (.p (i64 ((b*2 ^ k:Nat):Int))) (.p (i64 (a:Nat)))=some (.p (i64 ((a+b*2 ^ k:Nat):Int))):=by
 have:zo P .or t (.p (i64 ((b*2 ^ k:Nat):Int))) (.p (i64 (a:Nat)))=some (.p (i64 (IntKind.i64.wrap ((BitVec.ofInt 64 ((b*2 ^ k:Nat):Int) ||| BitVec.ofInt 64 (a:Int)).toNat:Int)))):=rfl
 rw [this,BitVec.or_comm,ztb ha h,zaD (by omega) (by omega)]
theorem zrM {b:By} {i:Nat} (h:i < b.length):val (b.drop i)=(nth b i).toNat+256*val (b.drop (i+1)):=by
 rw [List.drop_eq_getElem_cons h,show nth b i=b[i] by simp [nth,h]]
 rfl
section walks
variable {G:Globs}
set_option maxHeartbeats 8000000 in
theorem yd (b:By) (hb:b.length≤7) (H:Hp) (R:AV → Hp → Prop) (h:R (.p (i64 (val b:Nat))) H):ACall Tryd.prog G 64 [.p (.sl false 1 (pl b8 b))] H R:=by
 refine ACall.of_run (raw:=[]) Tryd.func64 rfl Tryd.ntmps64 (by simp) fun hbel => ?_
 refine .q ?_;refine .text ?_;simp (disch:=first|exact za|fail) only [go_sem,seval,-List.reduceReplicate]
 refine .q ?_;refine .text ?_;simp (disch:=first|exact za|fail) only [go_sem,seval,-List.reduceReplicate]
 refine .q ?_;refine .text ?_;simp (disch:=first|exact za|fail) only [go_sem,seval,-List.reduceReplicate]
 refine CallK.of (fun R h=>zf9 b _ R h) ?_;simp (disch:=first|exact za|fail) only [go_sem,seval,-List.reduceReplicate]
 refine .q ?_;refine .rangeFunc (ps:=[8,9]) rfl (by simp (disch:=first|exact za|fail) only [go_sem,seval,-List.reduceReplicate];rfl) (by simp (disch:=first|exact za|fail) only [go_sem,seval,-List.reduceReplicate]) (by simp) fun L vs hL hvs hround => ?_;simp (disch:=first|exact za|fail) only [go_sem,seval,-List.reduceReplicate]
 have h0:(0:Int)=((val (b.drop (b.length - 0)):Nat):Int):=by rw [Nat.sub_zero,List.drop_length];rfl
 rw [h0]
 refine zfy b (by omega) (H.n+2) (H.n+1) (H.n+3) (fun j=>(((H.new (.cells [.p (i64 (val (b.drop (b.length - j)):Nat))])).new (.cells [.p (.sl false 1 (pl b8 b))])).new (.obj vs (L .ready none)))) (fun j=>by simp (disch:=first|exact za|fail) only [go_sem,seval,-List.reduceReplicate]) (fun j => ?_) (by omega) (fun j=>by simp (disch:=first|exact za|fail) only [go_sem,seval,-List.reduceReplicate]) (fun j hj S K hK => ?_) _ ?_
 · (try dsimp only);(repeat (first | with_reducible exact hbel | with_reducible exact zaI hbel za | with_reducible refine zbq ?_ | with_reducible refine yX ?_ | with_reducible refine zbr ?_ | with_reducible refine yY hvs ?_ za | with_reducible refine zad ?_ | with_reducible refine zbs ?_ | with_reducible refine yZ ?_ | with_reducible refine zbt ?_ | with_reducible refine zbu ?_))
 · have hst:val (b.drop (b.length - (j+1)))=(nth b (b.length - 1 - j)).toNat+val (b.drop (b.length - j))*2 ^ 8:=by
    rw [zrM (b:=b) (i:=b.length - (j+1)) (by omega),show b.length - (j+1)+1=b.length - j by omega,show b.length - (j+1)=b.length - 1 - j by omega,Nat.mul_comm]
   have hlt:=zrE (b:=b.drop (b.length - (j+1)))
   rw [List.length_drop,hst] at hlt
   have hp:256 ^ (b.length - (b.length - (j+1)))≤256 ^ 7:=Nat.pow_le_pow_right (by decide) (by omega)
   have hbig:(256:Nat) ^ 7 < 2 ^ 63:=by decide
   have hc:=(nth b (b.length - 1 - j)).isLt
   have hor:=zlS (P:=Tryd.prog) (t:=3) (a:=(nth b (b.length - 1 - j)).toNat) (b:=val (b.drop (b.length - j))) (k:=8) hc (by omega)
   rw [←hst] at hor
   have hw:IntKind.i64.wrap (((val (b.drop (b.length - j)):Nat):Int)*2 ^ 8)=((val (b.drop (b.length - j))*2 ^ 8:Nat):Int):=by
    rw [zaD (by omega) (by omega)];exact (Int.natCast_mul _ _).symm
   have hsh:zo Tryd.prog .shl 3 (.p (i64 ((val (b.drop (b.length - j)):Nat):Int))) (.p (yG 8#64))=some (.p (i64 ((val (b.drop (b.length - j))*2 ^ 8:Nat):Int))):=by rw [zvN,hw]
   generalize val (b.drop (b.length - j))*2 ^ 8=N at hsh hor
   generalize val (b.drop (b.length - (j+1)))=M at hK hor
   refine hround _ _ _ rfl (by simp (disch:=first|exact za|fail) only [go_sem,seval,-List.reduceReplicate]) fun hbel2 => ?_
   dsimp only
   simp (disch:=first|exact za|fail) only [go_sem,seval,-List.reduceReplicate]
   refine .q ?_;refine .text ?_;simp (disch:=first|exact za|fail) only [go_sem,seval,-List.reduceReplicate]
   refine .q ?_;refine .beginRound rfl hL (by simp (disch:=first|exact za|fail) only [go_sem,seval,-List.reduceReplicate];rfl) ?_;simp (disch:=first|exact za|fail) only [go_sem,seval,-List.reduceReplicate]
   refine .q ?_;refine .text ?_;simp (disch:=first|exact za|fail) only [go_sem,seval,-List.reduceReplicate,hsh,hor]
   refine .q ?_;refine .roundEndK rfl hL (by simp (disch:=first|exact za|fail) only [go_sem,seval,-List.reduceReplicate];rfl) ?_;simp (disch:=first|exact za|fail) only [go_sem,seval,-List.reduceReplicate]
   exact hK
 · unfold zdh;refine⟨?_,.inl ⟨(by simp (disch:=first|exact za|fail) only [go_sem,seval,-List.reduceReplicate]<;>rfl),?_⟩⟩;(try dsimp only);(repeat (first | with_reducible exact hbel | with_reducible exact zaI hbel za | with_reducible refine zbq ?_ | with_reducible refine yX ?_ | with_reducible refine zbr ?_ | with_reducible refine yY hvs ?_ za | with_reducible refine zad ?_ | with_reducible refine zbs ?_ | with_reducible refine yZ ?_ | with_reducible refine zbt ?_ | with_reducible refine zbu ?_));simp (disch:=first|exact za|fail) only [go_sem,seval,-List.reduceReplicate]
   rw [Nat.sub_self,List.drop_zero]
   refine .q ?_;refine .text ?_;simp (disch:=first|exact za|fail) only [go_sem,seval,-List.reduceReplicate]
   refine .q ?_;refine .rt Tryd.func64 (by rw [Tryd.results64]) (hR := ?_);simp (disch:=first|exact za|fail) only [go_sem,seval,-List.reduceReplicate]
   exact h
end walks
end Go.Proofs.YtdpfkanfahchjaaDoor

/-
  The log of readings: comparing bytes;stores.
-/
namespace Go.Proofs.YtdpfkanfahchjaaDoor
open Go Go.AL

theorem zjQ {a b:By}:bytesOf a=bytesOf b ↔ a=b:=by
 constructor
 · intro h
   have h1:(bytesOf a).data.toList=(bytesOf b).data.toList:=by rw [h]
   simp only [bytesOf] at h1
   have h2 : ∀ l m:By,(l.map fun x=>UInt8.ofBitVec x)=(m.map fun x=>UInt8.ofBitVec x) → l=m:=by
    intro l
    induction l with
    | nil=>intro m h;cases m<;>simp at h ⊢
    | cons x l ih =>
     intro m h
     cases m with
     | nil=>simp at h
     | cons y m =>
      simp only [List.map_cons,List.cons.injEq] at h
      rw [ih m h.2]
      have:=congrArg UInt8.toBitVec h.1
      simp at this
      rw [this]
   exact h2 _ _ h1
 · rintro rfl;rfl
theorem zeF {a b:By}:((bytesOf a).toList == (bytesOf b).toList)=decide (a=b):=by
 rw [ByteArray.toList_eq,ByteArray.toList_eq]
 by_cases e:a=b
 · subst e;simp
 · rw [decide_eq_false e,beq_eq_false_iff_ne]
   intro h
   refine e (zjQ.1 ?_)
   have:(bytesOf a).data=(bytesOf b).data:=Array.toList_inj.1 h
   cases hx:bytesOf a;cases hy:bytesOf b
   rw [hx,hy] at this
   simp only at this
   rw [this]
def sto (d:By) (s:Int):PV := .agg [.sl false 1 (pl b8 d),i64 s]
theorem zuC {d:By} {s:Int}:zf (.p (sto d s))=some [.p (.sl false 1 (pl b8 d)),.p (i64 s)]:=rfl
theorem zuD {d:By} {s:Int}:zO [.p (.sl false 1 (pl b8 d)),.p (i64 s)] = .p (sto d s):=rfl
def crN (d:By) (s k:Int):Nat:=(s+min (max k 0) ((d.length:Int) - s)).toNat
attribute [go_sem] zuC zuD
section walks
variable {G:Globs}
theorem zfD (a b:By) (H:Hp) (R:AV → Hp → Prop) (h:R (.p (bo (decide (a=b)))) H):ACall Tryd.prog G 66 [.p (.sl false 1 (pl b8 a)),.p (.sl false 1 (pl b8 b))] H R:=by
 refine ACall.of_run (raw:=[]) Tryd.func66 rfl Tryd.ntmps66 (by simp) fun hbel => ?_
 refine .q ?_;refine .text ?_;simp (disch:=first|exact za|fail) only [go_sem,seval,-List.reduceReplicate]
 refine .q ?_;refine .text ?_;simp (disch:=first|exact za|fail) only [go_sem,seval,-List.reduceReplicate,yx,zeF]
 refine .q ?_;refine .rt Tryd.func66 (by rw [Tryd.results66]) (hR := ?_);simp (disch:=first|exact za|fail) only [go_sem,seval,-List.reduceReplicate]
 exact h
theorem zgL (d:By) (s:Int) (H:Hp) (R:AV → Hp → Prop) (h:R (.p (sto d d.length)) H):ACall Tryd.prog G 19 [.p (sto d s)] H R:=by
 refine ACall.of_run (raw:=[]) Tryd.func19 rfl Tryd.ntmps19 (by simp) fun hbel => ?_
 refine .q ?_;refine .text ?_;simp (disch:=first|exact za|fail) only [go_sem,seval,-List.reduceReplicate]
 refine .q ?_;refine .text ?_;simp (disch:=first|exact za|fail) only [go_sem,seval,-List.reduceReplicate]
 refine .q ?_;refine .rt Tryd.func19 (by rw [Tryd.results19]) (hR := ?_);simp (disch:=first|exact za|fail) only [go_sem,seval,-List.reduceReplicate]
 exact h
theorem zc5 (d:By) (s k:Int) (hs:0≤s∧s≤d.length) (hd:d.length≤140737488355000) (hk : -9223372036854775808≤k∧k≤9223372036854775807) (H:Hp) (R:AV → Hp → Prop) (h:R (.p (sto (d.take (crN d s k)) (crN d s k:Nat))) H):ACall Tryd.prog G 21 [.p (sto d s),.p (i64 k)] H R:=by
 obtain⟨n,hn⟩ : ∃ n,n=crN d s k:=⟨_,rfl⟩
 rw [←hn] at h
 have hn2:s+min (max k 0) ((d.length:Int) - s)=(n:Int):=by rw [hn,crN];omega
 have hnl:n≤d.length:=by omega
 refine ACall.of_run (raw:=[]) Tryd.func21 rfl Tryd.ntmps21 (by simp) fun hbel => ?_
 refine .q ?_;refine .text ?_;simp (disch:=first|exact za|fail) only [go_sem,seval,-List.reduceReplicate]
 refine .q ?_;refine .text ?_;simp (disch:=first|exact za|fail) only [go_sem,seval,-List.reduceReplicate,hn2]
 refine .q ?_;refine .text ?_;simp (disch:=first|exact za|fail) only [go_sem,seval,-List.reduceReplicate]
 refine .q ?_;refine .rt Tryd.func21 (by rw [Tryd.results21]) (hR := ?_);simp (disch:=first|exact za|fail) only [go_sem,seval,-List.reduceReplicate]
 exact h
end walks
end Go.Proofs.YtdpfkanfahchjaaDoor

/-
  The log of readings: valid readings.
-/
namespace Go.Proofs.YtdpfkanfahchjaaDoor
open Go Go.AL

def vB (r:Rdg):Bool:=decide ((0:Int)≤r.who) && (decide (r.who < 16) && (decide ((0:Int)≤r.knd) && (decide (r.knd < 16) && (decide ((0:Int)≤r.whn) && (decide (r.whn < 256) && (decide ((0:Int)≤r.val) && (decide (r.val < 256))))))))
theorem zdV {r:Rdg}:vB r=true ↔ vR r:=by
 simp only [vB,vR,Bool.and_eq_true,decide_eq_true_eq]
 omega
section walks
variable {G:Globs}
set_option maxHeartbeats 2000000 in
theorem zjR (r:Rdg) (H:Hp) (R:AV → Hp → Prop) (h:R (.p (bo (vB r))) H):ACall Tryd.prog G 47 [.p (zK r)] H R:=by
 unfold vB at h
 refine ACall.of_run (raw:=[]) Tryd.func47 rfl Tryd.ntmps47 (by simp) fun hbel => ?_
 refine .q ?_;refine .text ?_;simp (disch:=first|exact za|fail) only [go_sem,seval,-List.reduceReplicate]
 refine .q ?_;refine .text ?_;simp (disch:=first|exact za|fail) only [go_sem,seval,-List.reduceReplicate]
 (first | refine zX (fun h0 => ?_) (fun h0 => ?_) | refine zR (fun h0 => ?_) (fun h0 => ?_))<;>(try simp only [Bool.not_eq_true',Bool.not_eq_false'] at h0)<;>simp (disch:=first|exact za|fail) only [go_sem,seval,-List.reduceReplicate,h0]
 rotate_left
 · rw [h0] at h
   refine .q ?_;refine .rt Tryd.func47 (by rw [Tryd.results47]) (hR := ?_);simp (disch:=first|exact za|fail) only [go_sem,seval,-List.reduceReplicate]
   exact h
 rw [h0,Bool.true_and] at h
 (first | refine zX (fun h1 => ?_) (fun h1 => ?_) | refine zR (fun h1 => ?_) (fun h1 => ?_))<;>(try simp only [Bool.not_eq_true',Bool.not_eq_false'] at h1)<;>simp (disch:=first|exact za|fail) only [go_sem,seval,-List.reduceReplicate,h1]
 rotate_left
 · rw [h1] at h
   refine .q ?_;refine .rt Tryd.func47 (by rw [Tryd.results47]) (hR := ?_);simp (disch:=first|exact za|fail) only [go_sem,seval,-List.reduceReplicate]
   exact h
 rw [h1,Bool.true_and] at h
 (first | refine zX (fun h2 => ?_) (fun h2 => ?_) | refine zR (fun h2 => ?_) (fun h2 => ?_))<;>(try simp only [Bool.not_eq_true',Bool.not_eq_false'] at h2)<;>simp (disch:=first|exact za|fail) only [go_sem,seval,-List.reduceReplicate,h2]
 rotate_left
 · rw [h2] at h
   refine .q ?_;refine .rt Tryd.func47 (by rw [Tryd.results47]) (hR := ?_);simp (disch:=first|exact za|fail) only [go_sem,seval,-List.reduceReplicate]
   exact h
 rw [h2,Bool.true_and] at h
 (first | refine zX (fun h3 => ?_) (fun h3 => ?_) | refine zR (fun h3 => ?_) (fun h3 => ?_))<;>(try simp only [Bool.not_eq_true',Bool.not_eq_false'] at h3)<;>simp (disch:=first|exact za|fail) only [go_sem,seval,-List.reduceReplicate,h3]
 rotate_left
 · rw [h3] at h
   refine .q ?_;refine .rt Tryd.func47 (by rw [Tryd.results47]) (hR := ?_);simp (disch:=first|exact za|fail) only [go_sem,seval,-List.reduceReplicate]
   exact h
 rw [h3,Bool.true_and] at h
 (first | refine zX (fun h4 => ?_) (fun h4 => ?_) | refine zR (fun h4 => ?_) (fun h4 => ?_))<;>(try simp only [Bool.not_eq_true',Bool.not_eq_false'] at h4)<;>simp (disch:=first|exact za|fail) only [go_sem,seval,-List.reduceReplicate,h4]
 rotate_left
 · rw [h4] at h
   refine .q ?_;refine .rt Tryd.func47 (by rw [Tryd.results47]) (hR := ?_);simp (disch:=first|exact za|fail) only [go_sem,seval,-List.reduceReplicate]
   exact h
 rw [h4,Bool.true_and] at h
 (first | refine zX (fun h5 => ?_) (fun h5 => ?_) | refine zR (fun h5 => ?_) (fun h5 => ?_))<;>(try simp only [Bool.not_eq_true',Bool.not_eq_false'] at h5)<;>simp (disch:=first|exact za|fail) only [go_sem,seval,-List.reduceReplicate,h5]
 rotate_left
 · rw [h5] at h
   refine .q ?_;refine .rt Tryd.func47 (by rw [Tryd.results47]) (hR := ?_);simp (disch:=first|exact za|fail) only [go_sem,seval,-List.reduceReplicate]
   exact h
 rw [h5,Bool.true_and] at h
 (first | refine zX (fun h6 => ?_) (fun h6 => ?_) | refine zR (fun h6 => ?_) (fun h6 => ?_))<;>(try simp only [Bool.not_eq_true',Bool.not_eq_false'] at h6)<;>simp (disch:=first|exact za|fail) only [go_sem,seval,-List.reduceReplicate,h6]
 rotate_left
 · rw [h6] at h
   refine .q ?_;refine .rt Tryd.func47 (by rw [Tryd.results47]) (hR := ?_);simp (disch:=first|exact za|fail) only [go_sem,seval,-List.reduceReplicate]
   exact h
 rw [h6,Bool.true_and] at h
 refine .q ?_;refine .rt Tryd.func47 (by rw [Tryd.results47]) (hR := ?_);simp (disch:=first|exact za|fail) only [go_sem,seval,-List.reduceReplicate]
 exact h
end walks
end Go.Proofs.YtdpfkanfahchjaaDoor

/-
  The log of readings: valid readings,by the program.
-/
namespace Go.Proofs.YtdpfkanfahchjaaDoor
open Go Go.AL

def bits (k:Nat):Nat:=if k=0 ∨ k=2 then 4 else 8
def zvw:List AV:=[.clo 86 [] [],.p (i64 4),.clo 87 [] [],.p (i64 8),.clo 88 [] [],.p (i64 4),.clo 89 [] [],.p (i64 8)]
def fld:AV := .agg zvw
def gnk (k:Nat):FuncId:=nth [86,87,88,89] k
theorem zuE:yK Tryd.prog 121 fld (.p (i64 0))=some (.agg [.clo 86 [] [],.p (i64 4)]):=by kernel_rfl
theorem zvP:enters Tryd.prog 86=true:=by kernel_rfl
theorem zuF:yK Tryd.prog 121 fld (.p (i64 1))=some (.agg [.clo 87 [] [],.p (i64 8)]):=by kernel_rfl
theorem zvQ:enters Tryd.prog 87=true:=by kernel_rfl
theorem zuG:yK Tryd.prog 121 fld (.p (i64 2))=some (.agg [.clo 88 [] [],.p (i64 4)]):=by kernel_rfl
theorem zvR:enters Tryd.prog 88=true:=by kernel_rfl
theorem zuH:yK Tryd.prog 121 fld (.p (i64 3))=some (.agg [.clo 89 [] [],.p (i64 8)]):=by kernel_rfl
theorem zvS:enters Tryd.prog 89=true:=by kernel_rfl
theorem zoI {k:Nat} (h:k < 4):yK Tryd.prog 121 fld (.p (i64 k))=some (.agg [.clo (gnk k) [] [],.p (i64 (bits k))]):=by
 have:k=0 ∨ k=1 ∨ k=2 ∨ k=3:=by omega
 rcases this with rfl | rfl | rfl | rfl
 · exact zuE
 · exact zuF
 · exact zuG
 · exact zuH
theorem zlT {k:Nat} (h:k < 4):enters Tryd.prog (gnk k)=true:=by
 have:k=0 ∨ k=1 ∨ k=2 ∨ k=3:=by omega
 rcases this with rfl | rfl | rfl | rfl
 · exact zvP
 · exact zvQ
 · exact zvR
 · exact zvS
theorem zq {p:Nat → Prop} {i:Nat} (h : ∀ j,j < i → p j) (hi:p i) : ∀ j,j < i+1 → p j:=fun j hj=>by
 rcases Nat.lt_or_ge j i with q | q
 · exact h j q
 · rw [show j=i by omega];exact hi
theorem zlU {r:Rdg}:vR r ↔ ∀ k,k < 4 → 0≤fR r k∧fR r k < 2 ^ bits k:=by
 constructor
 · rintro ⟨h1,h2,h3,h4⟩ k hk
   have:k=0 ∨ k=1 ∨ k=2 ∨ k=3:=by omega
   rcases this with rfl | rfl | rfl | rfl
   · exact⟨h1.1,h1.2⟩
   · exact⟨h2.1,h2.2⟩
   · exact⟨h3.1,h3.2⟩
   · exact⟨h4.1,h4.2⟩
 · intro h
   exact⟨h 0 (by decide),h 1 (by decide),h 2 (by decide),h 3 (by decide)⟩
section walks
variable {G:Globs} {r1 r2:Nat}
theorem zjS (H:Hp) (R:AV → Hp → Prop) (h:R fld (H.new (.cells zvw))):ACall Tryd.prog G 68 [] H R:=by
 refine ACall.of_run (raw:=[]) Tryd.func68 rfl Tryd.ntmps68 (by simp) fun hbel => ?_
 refine .q ?_;refine .text ?_;simp (disch:=first|exact za|fail) only [go_sem,seval,-List.reduceReplicate]
 refine .q ?_;refine .text ?_;simp (disch:=first|exact za|fail) only [go_sem,seval,-List.reduceReplicate]
 refine .q ?_;refine .retKeep Tryd.func68 (by rw [Tryd.results68]) (by simp (disch:=first|exact za|fail) only [go_sem,seval,-List.reduceReplicate];rfl) ?_;(try simp (disch:=first|exact za|fail) only [go_sem,seval,-List.reduceReplicate])
 exact h
theorem zoJ (r:Rdg) (H:Hp) (R:AV → Hp → Prop) (h:R (.p (i64 (fR r 0))) H):ACall Tryd.prog G 86 [.p (zK r)] H R:=by
 refine ACall.of_run (raw:=[]) Tryd.func86 rfl Tryd.ntmps86 (by simp) fun hbel => ?_
 refine .q ?_;refine .text ?_;simp (disch:=first|exact za|fail) only [go_sem,seval,-List.reduceReplicate]
 refine .q ?_;refine .text ?_;simp (disch:=first|exact za|fail) only [go_sem,seval,-List.reduceReplicate]
 refine .q ?_;refine .rt Tryd.func86 (by rw [Tryd.results86]) (hR := ?_);simp (disch:=first|exact za|fail) only [go_sem,seval,-List.reduceReplicate]
 exact h
theorem zoK (r:Rdg) (H:Hp) (R:AV → Hp → Prop) (h:R (.p (i64 (fR r 1))) H):ACall Tryd.prog G 87 [.p (zK r)] H R:=by
 refine ACall.of_run (raw:=[]) Tryd.func87 rfl Tryd.ntmps87 (by simp) fun hbel => ?_
 refine .q ?_;refine .text ?_;simp (disch:=first|exact za|fail) only [go_sem,seval,-List.reduceReplicate]
 refine .q ?_;refine .text ?_;simp (disch:=first|exact za|fail) only [go_sem,seval,-List.reduceReplicate]
 refine .q ?_;refine .rt Tryd.func87 (by rw [Tryd.results87]) (hR := ?_);simp (disch:=first|exact za|fail) only [go_sem,seval,-List.reduceReplicate]
 exact h
theorem zoL (r:Rdg) (H:Hp) (R:AV → Hp → Prop) (h:R (.p (i64 (fR r 2))) H):ACall Tryd.prog G 88 [.p (zK r)] H R:=by
 refine ACall.of_run (raw:=[]) Tryd.func88 rfl Tryd.ntmps88 (by simp) fun hbel => ?_
 refine .q ?_;refine .text ?_;simp (disch:=first|exact za|fail) only [go_sem,seval,-List.reduceReplicate]
 refine .q ?_;refine .text ?_;simp (disch:=first|exact za|fail) only [go_sem,seval,-List.reduceReplicate]
 refine .q ?_;refine .rt Tryd.func88 (by rw [Tryd.results88]) (hR := ?_);simp (disch:=first|exact za|fail) only [go_sem,seval,-List.reduceReplicate]
 exact h
theorem zoM (r:Rdg) (H:Hp) (R:AV → Hp → Prop) (h:R (.p (i64 (fR r 3))) H):ACall Tryd.prog G 89 [.p (zK r)] H R:=by
 refine ACall.of_run (raw:=[]) Tryd.func89 rfl Tryd.ntmps89 (by simp) fun hbel => ?_
 refine .q ?_;refine .text ?_;simp (disch:=first|exact za|fail) only [go_sem,seval,-List.reduceReplicate]
 refine .q ?_;refine .text ?_;simp (disch:=first|exact za|fail) only [go_sem,seval,-List.reduceReplicate]
 refine .q ?_;refine .rt Tryd.func89 (by rw [Tryd.results89]) (hR := ?_);simp (disch:=first|exact za|fail) only [go_sem,seval,-List.reduceReplicate]
 exact h
theorem zrN (r:Rdg) (k:Nat) (hk:k < 4) (H:Hp) (R:AV → Hp → Prop) (h:R (.p (i64 (fR r k))) H):ACall Tryd.prog G (gnk k) [.p (zK r)] H R:=by
 have:k=0 ∨ k=1 ∨ k=2 ∨ k=3:=by omega
 rcases this with rfl | rfl | rfl | rfl
 · exact zoJ r H R h
 · exact zoK r H R h
 · exact zoL r H R h
 · exact zoM r H R h
set_option maxHeartbeats 2000000 in
theorem zlV (r:Rdg) (H:Hp) (R:AV → Hp → Prop) (h:R (.p (bo (vB r))) H):ACall Tryd.prog G 42 [.p (zK r)] H R:=by
 refine ACall.of_run (raw:=[]) Tryd.func42 rfl Tryd.ntmps42 (by simp) fun hbel => ?_
 refine .q ?_;refine .text ?_;simp (disch:=first|exact za|fail) only [go_sem,seval,-List.reduceReplicate]
 refine .q ?_;refine .text ?_;simp (disch:=first|exact za|fail) only [go_sem,seval,-List.reduceReplicate]
 refine CallK.of (fun R h=>zjS _ R h) ?_;simp (disch:=first|exact za|fail) only [go_sem,seval,-List.reduceReplicate]
 refine .q ?_;first | refine .loopF0 [1,6] (fun k=>[(7,.p (i64 k))]) (fun k => ∀ j,j < k → 0≤fR r j∧fR r j < 2 ^ bits j) (0) (4) (by omega) ?_ ?_ ?_ ?_ | refine .loopF [1,6] (fun k=>[(7,.p (i64 k))]) (fun _=>[]) (fun k => ∀ j,j < k → 0≤fR r j∧fR r j < 2 ^ bits j) (0) (4) (by omega) ?_ (by rfl) ?_ ?_ ?_
 · simp (disch:=first|exact za|fail) only [go_sem,seval,-List.reduceReplicate]<;>(repeat' (first | rfl | refine And.intro ?_ ?_))
 rotate_left 1
 intro env T E hQ;simp (disch:=first|exact za|fail) only [go_sem,seval,-List.reduceReplicate] at E
 rotate_left 1
 intro k env T hk0 hk E hQ ihE;simp (disch:=first|exact za|fail) only [go_sem,seval,-List.reduceReplicate] at E
 rotate_left 1
 · exact fun j hj=>absurd hj (by omega)
 · have hv:vB r=true:=zdV.2 (zlU.2 hQ)
   rw [hv] at h
   refine .q ?_;refine .text ?_;simp (disch:=first|exact za|fail) only [go_sem,seval,-List.reduceReplicate,E,zj,zm]
   refine .q ?_;refine .ifF (by simp (disch:=first|exact za|fail) only [go_sem,seval,-List.reduceReplicate]) ?_
   refine .q ?_;refine .text ?_;simp (disch:=first|exact za|fail) only [go_sem,seval,-List.reduceReplicate,E]
   refine .q ?_;refine .rt Tryd.func42 (by rw [Tryd.results42]) (hx:=by simp (disch:=first|exact za|fail) only [go_sem,seval,-List.reduceReplicate,E];rfl) (hR := ?_);simp (disch:=first|exact za|fail) only [go_sem,seval,-List.reduceReplicate,E]
   exact h
 · obtain⟨T0,rfl⟩ : ∃ T0,T0=T:=⟨_,rfl⟩
   have hsb:((bits k:Nat):Int).toNat=bits k:=by omega
   have hb8:bits k≤8:=by unfold bits;split<;>omega
   have hpw:(2:Int) ^ bits k≤2 ^ 8:=by
    have:=Nat.pow_le_pow_right (show 0 < 2 by decide) hb8
    exact_mod_cast this
   have hsh:zo Tryd.prog .shl 3 (.p (i64 1)) (.p (i64 (bits k:Nat)))=some (.p (i64 (2 ^ bits k))):=by
    rw [zd6 _ _ _ _ (by omega) (by omega),hsb,Int.one_mul,zaD (by have:(0:Int) < 2 ^ bits k:=Int.pow_pos (by decide);omega) (by omega)]
   refine .q ?_;refine .text ?_;simp (disch:=first|exact za|fail) only [go_sem,seval,-List.reduceReplicate,E,zj,zm]
   refine .q ?_;refine .ifT (by simp (disch:=first|exact za|fail) only [go_sem,seval,-List.reduceReplicate]) ?_
   refine .q ?_;refine .text ?_;simp (disch:=first|exact za|fail) only [go_sem,seval,-List.reduceReplicate,E,zoI hk]
   refine .q ?_;refine .text ?_;simp (disch:=first|exact za|fail) only [go_sem,seval,-List.reduceReplicate,E,zlT hk]
   refine CallK.of (fun R h=>zrN r k hk _ R h) ?_;simp (disch:=first|exact za|fail) only [go_sem,seval,-List.reduceReplicate,E]
   by_cases c1:fR r k < 0
   · have d1:decide (fR r k < 0)=true:=decide_eq_true c1
     have hv:vB r=false:=Bool.eq_false_iff.2 fun e=>by have:=zlU.1 (zdV.1 e) k hk;omega
     rw [hv] at h
     refine .q ?_;refine .text ?_;simp (disch:=first|exact za|fail) only [go_sem,seval,-List.reduceReplicate,E,d1]
     refine .q ?_;refine .ifT (by simp (disch:=first|exact za|fail) only [go_sem,seval,-List.reduceReplicate]) ?_
     refine .q ?_;refine .text ?_;simp (disch:=first|exact za|fail) only [go_sem,seval,-List.reduceReplicate,E]
     refine .q ?_;refine .rt Tryd.func42 (by rw [Tryd.results42]) (hx:=by simp (disch:=first|exact za|fail) only [go_sem,seval,-List.reduceReplicate,E];rfl) (hR := ?_);simp (disch:=first|exact za|fail) only [go_sem,seval,-List.reduceReplicate,E]
     exact h
   · have d1:decide (fR r k < 0)=false:=decide_eq_false c1
     by_cases c2:2 ^ bits k≤fR r k
     · have d2:decide ((2:Int) ^ bits k≤fR r k)=true:=decide_eq_true c2
       have hv:vB r=false:=Bool.eq_false_iff.2 fun e=>by have:=zlU.1 (zdV.1 e) k hk;omega
       rw [hv] at h
       refine .q ?_;refine .text ?_;simp (disch:=first|exact za|fail) only [go_sem,seval,-List.reduceReplicate,E,d1,hsh,d2]
       refine .q ?_;refine .ifT (by simp (disch:=first|exact za|fail) only [go_sem,seval,-List.reduceReplicate]) ?_
       refine .q ?_;refine .text ?_;simp (disch:=first|exact za|fail) only [go_sem,seval,-List.reduceReplicate,E]
       refine .q ?_;refine .rt Tryd.func42 (by rw [Tryd.results42]) (hx:=by simp (disch:=first|exact za|fail) only [go_sem,seval,-List.reduceReplicate,E];rfl) (hR := ?_);simp (disch:=first|exact za|fail) only [go_sem,seval,-List.reduceReplicate,E]
       exact h
     · have d2:decide ((2:Int) ^ bits k≤fR r k)=false:=decide_eq_false c2
       refine .q ?_;refine .text ?_;simp (disch:=first|exact za|fail) only [go_sem,seval,-List.reduceReplicate,E,d1,hsh,d2]
       refine .q ?_;refine .ifF (by simp (disch:=first|exact za|fail) only [go_sem,seval,-List.reduceReplicate]) ?_
       refine .skip ?_
       refine .q ?_;refine .text ?_;simp (disch:=first|exact za|fail) only [go_sem,seval,-List.reduceReplicate,E]
       first | (refine ihE _ _ ?_ (zq hQ ⟨by omega,by omega⟩) ?_) | (refine .z rfl ?_;refine ihE _ _ ?_ (zq hQ ⟨by omega,by omega⟩) ?_) | (refine .z rfl ?_;refine .z rfl ?_;refine ihE _ _ ?_ (zq hQ ⟨by omega,by omega⟩) ?_) | (refine .z rfl ?_;refine .z rfl ?_;refine .z rfl ?_;refine ihE _ _ ?_ (zq hQ ⟨by omega,by omega⟩) ?_)
       · simp (disch:=first|exact za|fail) only [go_sem,seval,-List.reduceReplicate,E,zj,zm]<;>(repeat' (first | rfl | refine And.intro ?_ ?_))
       · first | exact .mk _ rfl | exact .mk [] rfl | (apply Later.mk;simp (disch:=first|exact za|fail) only [go_sem,seval,-List.reduceReplicate,zbw,E,zj,zm];exact rfl) | (apply Later.mk;simp (disch:=first|exact za|fail) only [go_sem,seval,-List.reduceReplicate,zbw,zdi,List.append_assoc,E,zj,zm]<;>(try rfl))
end walks
end Go.Proofs.YtdpfkanfahchjaaDoor

/-
  The log of readings: streams;the reference's Take;equal stores.
-/
namespace Go.Proofs.YtdpfkanfahchjaaDoor
open Go Go.AL

def zvx:Option AV → Option AV → Option AV
 | some x,some y=>some (.tup [x,y])
 | _,_=>none
theorem zoN {x y:AV}:zvx (some x) (some y)=some (.tup [x,y]):=rfl
theorem ztc {P:Program} {a t:Nat} {ty:TypeId} {env:Env} {H:Hp}:zcE P [.cell a ty,.tmp t] env H=zvx (zax P H ty (env a)) (some (env t)):=by
 simp only [zcE,zaC,zbG]
 cases zax P H ty (env a)<;>rfl
attribute [go_sem] ztc zoN
def stm (s:Strm):PV := .agg [.sl false 4 (pl zK s.l),.sl false 1 (pl bo s.gone)]
theorem zuI {s:Strm}:zf (.p (stm s))=some [.p (.sl false 4 (pl zK s.l)),.p (.sl false 1 (pl bo s.gone))]:=rfl
theorem zlW {r:Rdg}:[zK r]=pl zK [r]:=rfl
theorem zfE {r:Rdg}:((pl zK [r]).all fun y=>y.cells.length == 4)=true:=rfl
theorem zbc {l:List Rdg}:(pl zK l).map PV.weak=pl zK l:=zdg fun _=>rfl
theorem zoO {b:Bool}:[bo b]=pl bo [b]:=rfl
theorem zoP {b:Bool}:((pl bo [b]).all fun y=>y.cells.length == 1)=true:=rfl
theorem zmZ : ∀ (l:List Rdg),∀ y∈pl zK l,y.cells.length=4:=fun l y hy=>by
 simp only [pl,List.mem_map] at hy
 obtain⟨x,_,rfl⟩:=hy
 rfl
theorem zuJ {α n β m:Nat} {l:List Rdg} {g:List Bool}:zO [.sl α n 4 (pl zK l),.sl β m 1 (pl bo g)] = .p (stm ⟨l,g⟩):=rfl
theorem ztd {r:Rdg}:(⟨r.who,r.whn,r.knd,r.val⟩:Rdg)=r:=rfl
attribute [go_sem] zuI zuJ ztd
section walks
variable {G:Globs}
theorem zfF (a b:By) (x y:Int) (H:Hp) (R:AV → Hp → Prop) (h:R (.p (bo (decide (a=b) && (x == y)))) H):ACall Tryd.prog G 18 [.p (sto a x),.p (sto b y)] H R:=by
 refine ACall.of_run (raw:=[]) Tryd.func18 rfl Tryd.ntmps18 (by simp) fun hbel => ?_
 refine .q ?_;refine .text ?_;simp (disch:=first|exact za|fail) only [go_sem,seval,-List.reduceReplicate]
 by_cases e:a=b
 · have d:decide (a=b)=true:=decide_eq_true e
   rw [d,Bool.true_and] at h
   refine .q ?_;refine .text ?_;simp (disch:=first|exact za|fail) only [go_sem,seval,-List.reduceReplicate,yx,zeF,d]
   refine .q ?_;refine .rt Tryd.func18 (by rw [Tryd.results18]) (hR := ?_);simp (disch:=first|exact za|fail) only [go_sem,seval,-List.reduceReplicate]
   exact h
 · have d:decide (a=b)=false:=decide_eq_false e
   rw [d,Bool.false_and] at h
   refine .q ?_;refine .text ?_;simp (disch:=first|exact za|fail) only [go_sem,seval,-List.reduceReplicate,yx,zeF,d]
   refine .q ?_;refine .rt Tryd.func18 (by rw [Tryd.results18]) (hR := ?_);simp (disch:=first|exact za|fail) only [go_sem,seval,-List.reduceReplicate]
   exact h
set_option maxHeartbeats 1000000 in
set_option maxRecDepth 20000 in
theorem zlX (s:Strm) (r:Rdg) (hs:s.l.length < 65536) (hg:s.gone.length < 65536) (hr:vR r) (H:Hp) (R:AV → Hp → Prop) (h:R (.tup [.p (stm ⟨s.l++[r],s.gone++[false]⟩),.p (i64 0)]) H):ACall Tryd.prog G 32 [.p (stm s),.p (zK r)] H R:=by
 have hv:vB r=true:=zdV.2 hr
 have d1:decide ((65536:Int)≤(s.l.length:Int))=false:=decide_eq_false (by omega)
 refine ACall.of_run (raw:=[]) Tryd.func32 rfl Tryd.ntmps32 (by simp) fun hbel => ?_
 refine .q ?_;refine .text ?_;simp (disch:=first|exact za|fail) only [go_sem,seval,-List.reduceReplicate]
 refine .q ?_;refine .text ?_;simp (disch:=first|exact za|fail) only [go_sem,seval,-List.reduceReplicate]
 refine CallK.of (fun R h=>zjR r _ R h) ?_;simp (disch:=first|exact za|fail) only [go_sem,seval,-List.reduceReplicate,hv]
 refine .q ?_;refine .ifF (by simp (disch:=first|exact za|fail) only [go_sem,seval,-List.reduceReplicate]) ?_
 refine .skip ?_
 refine .q ?_;refine .text ?_;simp (disch:=first|exact za|fail) only [go_sem,seval,-List.reduceReplicate]
 refine .q ?_;refine .ifF (by simp (disch:=first|exact za|fail) only [go_sem,seval,-List.reduceReplicate,d1]) ?_
 refine .skip ?_
 refine .q ?_;refine .text ?_;simp (disch:=first|exact za|fail) only [go_sem,seval,-List.reduceReplicate]
 refine .q ?_;refine .text ?_;simp (disch:=first|exact za|fail) only [go_sem,seval,-List.reduceReplicate]
 refine .q ?_;refine .text ?_;simp (disch:=first|exact za|fail) only [go_sem,seval,-List.reduceReplicate,zlW,zfE,zbc,zoO,zoP]
 refine .q ?_;refine .rt Tryd.func32 (by rw [Tryd.results32]) (hx:=by simp (disch:=first|exact za|fail) only [go_sem,seval,-List.reduceReplicate,zdU];rfl) (hR := ?_);simp (disch:=first|exact za|fail) only [go_sem,seval,-List.reduceReplicate,zdU]
 exact h
end walks
end Go.Proofs.YtdpfkanfahchjaaDoor

/-
  The log of readings: retracting,by the reference.
-/
namespace Go.Proofs.YtdpfkanfahchjaaDoor
open Go Go.AL

def z0S:Strm:=⟨[],[]⟩
def yc (s:Strm) (i:Int):Strm × Int :=
 if i < 0 ∨ (s.l.length:Int)≤i then (z0S,4) else if nth s.gone i.toNat then (z0S,120) else (⟨s.l,s.gone.set i.toNat true⟩,0)
theorem zte {l:List Rdg} {g:List Bool}:zO [.p (.sl false 4 (pl zK l)),.p (.sl false 1 (pl bo g))] = .p (stm ⟨l,g⟩):=rfl
theorem ztf {α n:Nat} {l:List Rdg} {g:List Bool}:zO [.sl α n 4 (pl zK l),.p (.sl false 1 (pl bo g))] = .p (stm ⟨l,g⟩):=rfl
theorem zhL {l:List Bool} : ∀ x∈pl bo l,x.cells.length=1:=fun x hx=>by
 simp only [pl,List.mem_map] at hx
 obtain⟨y,_,rfl⟩:=hx
 rfl
section walks
variable {G:Globs}
set_option maxHeartbeats 1000000 in
set_option maxRecDepth 20000 in
theorem zga (s:Strm) (i:Int) (hs:s.l.length≤65536) (hg:s.gone.length=s.l.length) (H:Hp) (R:AV → Hp → Prop) (h:R (.tup [.p (stm (yc s i).1),.p (i64 (yc s i).2)]) H):ACall Tryd.prog G 33 [.p (stm s),.p (i64 i)] H R:=by
 unfold yc at h
 refine ACall.of_run (raw:=[]) Tryd.func33 rfl Tryd.ntmps33 (by simp) fun hbel => ?_
 refine .q ?_;refine .text ?_;simp (disch:=first|exact za|fail) only [go_sem,seval,-List.reduceReplicate]
 by_cases c1:i < 0
 · have d1:decide (i < 0)=true:=decide_eq_true c1
   rw [if_pos (.inl c1)] at h
   refine .q ?_;refine .text ?_;simp (disch:=first|exact za|fail) only [go_sem,seval,-List.reduceReplicate,d1]
   refine .q ?_;refine .ifT (by simp (disch:=first|exact za|fail) only [go_sem,seval,-List.reduceReplicate]) ?_
   refine .q ?_;refine .text ?_;simp (disch:=first|exact za|fail) only [go_sem,seval,-List.reduceReplicate]
   refine .q ?_;refine .rt Tryd.func33 (by rw [Tryd.results33]) (hR := ?_);simp (disch:=first|exact za|fail) only [go_sem,seval,-List.reduceReplicate]
   exact h
 · have d1:decide (i < 0)=false:=decide_eq_false c1
   by_cases c2:(s.l.length:Int)≤i
   · have d2:decide ((s.l.length:Int)≤i)=true:=decide_eq_true c2
     rw [if_pos (.inr c2)] at h
     refine .q ?_;refine .text ?_;simp (disch:=first|exact za|fail) only [go_sem,seval,-List.reduceReplicate,d1,d2]
     refine .q ?_;refine .ifT (by simp (disch:=first|exact za|fail) only [go_sem,seval,-List.reduceReplicate]) ?_
     refine .q ?_;refine .text ?_;simp (disch:=first|exact za|fail) only [go_sem,seval,-List.reduceReplicate]
     refine .q ?_;refine .rt Tryd.func33 (by rw [Tryd.results33]) (hR := ?_);simp (disch:=first|exact za|fail) only [go_sem,seval,-List.reduceReplicate]
     exact h
   · have d2:decide ((s.l.length:Int)≤i)=false:=decide_eq_false c2
     rw [if_neg (by omega)] at h
     obtain⟨k,rfl⟩ : ∃ k:Nat,i=k:=⟨i.toNat,by omega⟩
     rw [Int.toNat_natCast] at h
     have hk:k < s.gone.length:=by omega
     refine .q ?_;refine .text ?_;simp (disch:=first|exact za|fail) only [go_sem,seval,-List.reduceReplicate,d1,d2]
     refine .q ?_;refine .ifF (by simp (disch:=first|exact za|fail) only [go_sem,seval,-List.reduceReplicate]) ?_
     refine .skip ?_
     refine .q ?_;refine .text ?_;simp (disch:=first|exact za|fail) only [go_sem,seval,-List.reduceReplicate]
     cases hn:nth s.gone k with
     | true =>
      rw [hn,if_pos rfl] at h
      refine .q ?_;refine .ifT (by simp (disch:=first|exact za|fail) only [go_sem,seval,-List.reduceReplicate,hn]) ?_
      refine .q ?_;refine .text ?_;simp (disch:=first|exact za|fail) only [go_sem,seval,-List.reduceReplicate]
      refine .q ?_;refine .rt Tryd.func33 (by rw [Tryd.results33]) (hR := ?_);simp (disch:=first|exact za|fail) only [go_sem,seval,-List.reduceReplicate]
      exact h
     | false =>
      rw [hn,if_neg (by decide)] at h
      refine .q ?_;refine .ifF (by simp (disch:=first|exact za|fail) only [go_sem,seval,-List.reduceReplicate,hn]) ?_
      refine .skip ?_
      refine .q ?_;refine .region ?_
      refine .buildVec (sz:=1) (cs:=[]) (by simp (disch:=first|exact za|fail) only [go_sem,seval,-List.reduceReplicate,zN,yh]<;>rfl) (by rfl) ?_
      refine .run ?_
      simp (disch:=first|exact za|fail) only [go_sem,seval,-List.reduceReplicate,zhp]
      refine .q ?_;refine .text ?_;simp (disch:=first|exact za|fail) only [go_sem,seval,-List.reduceReplicate]
      refine .q ?_;refine .frzV 6 (by simp (disch:=first|exact za|fail) only [go_sem,seval,-List.reduceReplicate];rfl) (by simp (disch:=first|exact za|fail) only [go_sem,seval,-List.reduceReplicate]<;>rfl) (xs:=pl bo (s.gone.set k true)) (by rw [zhp,zi7]) (by rw [zat,List.length_set]) zhL ?_;(try simp (disch:=first|exact za|fail) only [go_sem,seval,-List.reduceReplicate])
      refine .q ?_;refine .text ?_;simp (disch:=first|exact za|fail) only [go_sem,seval,-List.reduceReplicate,ztf]
      refine .q ?_;refine .rt Tryd.func33 (by rw [Tryd.results33]) (hR := ?_);simp (disch:=first|exact za|fail) only [go_sem,seval,-List.reduceReplicate]
      exact h
end walks
end Go.Proofs.YtdpfkanfahchjaaDoor

/-
  The log of readings: the reference's digests and records.
-/
namespace Go.Proofs.YtdpfkanfahchjaaDoor
open Go Go.AL

section walks
variable {G:Globs}
end walks
end Go.Proofs.YtdpfkanfahchjaaDoor

/-
  The log of readings: readings of three bytes.
-/
namespace Go.Proofs.YtdpfkanfahchjaaDoor
open Go Go.AL

def rd3 (a b c:BitVec 8):Rdg:=⟨((a % 16#8).toNat:Nat),(b.toNat:Nat),((a / 16#8).toNat:Nat),(c.toNat:Nat)⟩
theorem zvy {a b c:BitVec 8}:vR (rd3 a b c):=by
 have h1:=(a % 16#8).isLt
 have h2:=b.isLt
 have h3:=c.isLt
 have h4:=a.isLt
 have e1:(a % 16#8).toNat=a.toNat % 16:=by rw [BitVec.toNat_umod];rfl
 have e2:(a / 16#8).toNat=a.toNat / 16:=by rw [BitVec.toNat_udiv];rfl
 unfold vR rd3
 dsimp only
 rw [e1,e2]
 omega
section walks
variable {G:Globs}
set_option maxHeartbeats 1000000 in
theorem zhM (a b c:BitVec 8) (H:Hp) (R:AV → Hp → Prop) (h:R (.tup [.p (zK (rd3 a b c)),.p (i64 0)]) H):ACall Tryd.prog G 59 [.p (.sl false 1 (pl b8 [a,b,c]))] H R:=by
 have n0:nth [a,b,c] 0=a:=rfl
 have n1:nth [a,b,c] 1=b:=rfl
 have n2:nth [a,b,c] 2=c:=rfl
 have hl:[a,b,c].length=3:=rfl
 have rr:zo Tryd.prog .rem 5 (.p (b8 a)) (.p (b8 16#8))=some (.p (b8 (a % 16#8))):=zcV _ _ _ _ (by decide)
 have rq:zo Tryd.prog .quo 5 (.p (b8 a)) (.p (b8 16#8))=some (.p (b8 (a / 16#8))):=zeZ _ _ _ _ (by decide)
 refine ACall.of_run (raw:=[]) Tryd.func59 rfl Tryd.ntmps59 (by simp) fun hbel => ?_
 refine .q ?_;refine .text ?_;simp (disch:=first|exact za|fail) only [go_sem,seval,-List.reduceReplicate]
 refine .q ?_;refine .text ?_;simp (disch:=first|exact za|fail) only [go_sem,seval,-List.reduceReplicate,hl]
 refine .q ?_;refine .ifF (by simp (disch:=first|exact za|fail) only [go_sem,seval,-List.reduceReplicate]) ?_
 refine .skip ?_
 refine .q ?_;refine .open [19,20] follows (by kernel_rfl) ?_;simp (disch:=first|exact za|fail) only [go_sem,seval,-List.reduceReplicate,n0,n1,n2,rr,rq]
 refine .q ?_;refine .rt Tryd.func59 (by rw [Tryd.results59]) (hR := ?_);simp (disch:=first|exact za|fail) only [go_sem,seval,-List.reduceReplicate]
 exact h
theorem zgb (a b c:BitVec 8) (H:Hp) (R:AV → Hp → Prop) (h:R (.p (zK (rd3 a b c))) H):ACall Tryd.prog G 29 [.p (.agg [b8 a,b8 b,b8 c])] H R:=by
 have h3:zf (.p (.agg [b8 a,b8 b,b8 c]))=some [.p (b8 a),.p (b8 b),.p (b8 c)]:=rfl
 refine ACall.of_run (raw:=[]) Tryd.func29 rfl Tryd.ntmps29 (by simp) fun hbel => ?_
 refine .q ?_;refine .text ?_;simp (disch:=first|exact za|fail) only [go_sem,seval,-List.reduceReplicate,h3]
 refine .q ?_;refine .text ?_;simp (disch:=first|exact za|fail) only [go_sem,seval,-List.reduceReplicate]
 refine CallK.of (fun R h=>zhM a b c _ R h) ?_;simp (disch:=first|exact za|fail) only [go_sem,seval,-List.reduceReplicate]
 refine .q ?_;refine .text ?_;simp (disch:=first|exact za|fail) only [go_sem,seval,-List.reduceReplicate]
 refine .q ?_;refine .rt Tryd.func29 (by rw [Tryd.results29]) (hR := ?_);simp (disch:=first|exact za|fail) only [go_sem,seval,-List.reduceReplicate]
 exact h
end walks
end Go.Proofs.YtdpfkanfahchjaaDoor

/-
  The log of readings: the reference's write.
-/
namespace Go.Proofs.YtdpfkanfahchjaaDoor
open Go Go.AL

section walks
variable {G:Globs}
theorem zhN {α n:Nat} {d:By} {s:Int}:zO [.sl α n 1 (pl b8 d),.p (i64 s)] = .p (sto d s):=rfl
end walks
end Go.Proofs.YtdpfkanfahchjaaDoor

/-
  The log of readings: memory of any bytes (bytealg.MakeNoZero),bytes.Repeat of one byte.
-/
namespace Go.AL
open Go
def dg:Nat → Nat → List (BitVec 8)
 | 0,_=>[]
 | n+1,t=>BitVec.ofNat 8 t :: dg n (t / 256)
theorem dg_len : ∀ {n t:Nat},(dg n t).length=n
 | 0,_=>rfl
 | n+1,t=>by rw [dg,List.length_cons,dg_len]
theorem zgN : ∀ (n t:Nat) (acc:Array Value),(Extern.BytealgMakeNoZero.digits n t acc).toList=acc.toList++(dg n t).map fun b=>Value.int .u8 (b.toNat:Int)
 | 0,_,acc=>by simp [Extern.BytealgMakeNoZero.digits,dg]
 | n+1,t,acc=>by
  rw [Extern.BytealgMakeNoZero.digits,zgN n,dg]
  simp
theorem zlY {P:Program} (w:World) (ps:Array TypeId) (t e:TypeId) (ht:P.underlying t=some (.slice e)) (n:Nat) (hn:n≤1000000) :
    ∃ d:List (BitVec 8),n≤d.length∧d.length≤maxLen∧(Extern.BytealgMakeNoZero.makeNoZero ps #[t] #[.int .i64 n]).run P w = .ok (.slice (some ⟨w.heap.size,0,none⟩) n d.length) (w.drew.drew.alloc (.cells (d.map fun b=>Value.int .u8 (b.toNat:Int)).toArray e)):=by
  have hdef:Extern.BytealgMakeNoZero.makeNoZero ps #[t] #[.int .i64 n] =
      (do
        let .slice elem ← underlying t | stuck "bytealg.MakeNoZero: slice type expected"
        if (n : Int) < 0 || (n : Int) > 2 ^ 48 then runtimePanic (.error "makeslice: len out of range")
        let cap ←choose (.appendCap (n:Int).toNat 0 elem)
        askRoom cap
        let bytes ← choose (.extern "internal/bytealg.MakeNoZero.bytes" 0)
        let a ←newRow elem (Extern.BytealgMakeNoZero.digits cap bytes #[])
        pure (.slice (some a) (n:Int).toNat cap)):=rfl
  obtain ⟨b, hb⟩ : ∃ b, b = (Question.extern "internal/bytealg.MakeNoZero.bytes" 0).cut (w.tape (w.drawn + 1) (.extern "internal/bytealg.MakeNoZero.bytes" 0)) := ⟨_, rfl⟩
  have hd:(((dg (grownCap w n 0 e) b).map fun b=>Value.int .u8 (b.toNat:Int)).toArray)=Extern.BytealgMakeNoZero.digits (grownCap w n 0 e) b #[]:=by
    apply Array.toList_inj.1
    rw [zgN];simp
  refine⟨dg (grownCap w n 0 e) b,?_,?_,?_⟩
  · rw [dg_len]
    simpa using grownCap_ge w n 0 e
  · rw [dg_len]
    exact grownCap_le_maxLen w n 0 e (by unfold maxLen;omega)
  · rw [hdef,hd,dg_len,hb]
    have h1 : ¬ (n:Int) < 0:=by omega
    have h2 : ¬ (281474976710656:Int) < (n:Int):=by omega
    simp [run_underlying ht,h1,h2,Question.forced,newRow,Lib.size_digits,grownCap]
theorem AOps.noZero {C:Cx} {ops:Array Oper} {rest:List Oper} {k:List Item} {env:Env} {H:Hp} {R:AV → Hp → Prop} {d:Nat} {f:Operand} {args:Array Operand} {ts:Array TypeId} {ty:TypeId} {pos:String} {after:Array Edge} {fn:Func} {t e:TypeId} {fid:FuncId} {n:Nat}
    (hf : C.P.funcs[fid]? = some fn) (hx : zbD C.P fid = some "internal/bytealg.MakeNoZero") (hrt : fn.resultTypes = #[t]) (hu : C.P.underlying t = some (.slice e))
    (he:zD C.G env f = .clo fid [] []) (ha:z6 C.P C.G env args.toList ts.toList=[.p (i64 n)]) (hn:n≤1000000) (hd:zn C.nt (some d)=true)
    (h : ∀ x:List (BitVec 8),x.length=n → AOps C ops rest k (env.put (some d) (.ref H.n 0 n 1)) (H.new (.cells (cl b8 x))) R) :
    AOps C ops (⟨some d,.call ⟨.value f,args,ts⟩,ty,pos,after,none⟩ :: rest) k env H R:=by
  refine .of_op true rfl fun σ w a m hpre K Q hK => ?_
  have hsem:Oper.semAt (Fr C σ).round a.eval ⟨some d,.call ⟨.value f,args,ts⟩,ty,pos,after,none⟩=execOp a.eval ⟨some d,.call ⟨.value f,args,ts⟩,ty,pos,after,none⟩:=Oper.semAt_eq _ _ _ (fun c h=>by cases h)
  have hnm : fn.name = "internal/bytealg.MakeNoZero" ∧ fn.origin = "" ∧ fn.body.isNone = true := by
    unfold zbD at hx
    rw [hf] at hx
    simp only at hx
    split at hx
    · rename_i q
      simp only [Bool.and_eq_true,beq_iff_eq] at q
      exact⟨Option.some.inj hx,q.2,q.1⟩
    · cases hx
  have h1:=zi hpre.rel hpre.fr f
  rw [he] at h1
  obtain⟨l2,r2⟩:=zbo (P:=C.P) hpre.rel hpre.fr args.toList ts.toList
  rw [ha] at l2 r2
  have hargs:args.map a.eval = #[.int .i64 n]:=by
    have hs:args.size=1:=by simpa using l2.symm
    apply Array.ext (by simp [hs])
    intro i hi1 hi2
    have hi:i=0:=by simp at hi2;exact hi2
    subst hi
    have:=r2 0 (.p (i64 n)) (a.eval args[0]) rfl (by simp [hs])
    have e1:(args.map a.eval)[0]'hi1=a.eval args[0]:=by simp
    rw [e1]
    generalize a.eval args[0]=v at this ⊢
    cases this with | p h=>cases h;rfl
  have hcal:a.eval f = .func (.func fid) #[] #[]:=by
    generalize hv:a.eval f=v at h1
    cases h1 with | clo fs cs q1 q2 q3 q4 =>
    have e1:fs = #[]:=Array.eq_empty_of_size_eq_zero (by simpa using q1)
    have e2:cs = #[]:=Array.eq_empty_of_size_eq_zero (by simpa using q2)
    rw [e1,e2]
  obtain⟨x,x1,x2,hrun⟩:=zlY (P:=C.P) w fn.params t e hu n hn
  have hfind:Extern.find fn=some (Extern.BytealgMakeNoZero.makeNoZero fn.params #[t]):=by
    unfold Extern.find
    rw [hnm.1,←hrt]
    kernel_rfl
  have hcall:(callFunc fid #[.int .i64 n]).run C.P w = .ok (.value (.slice (some ⟨w.heap.size,0,none⟩) n x.length)) (w.drew.drew.alloc (.cells (x.map fun b=>Value.int .u8 (b.toNat:Int)).toArray e)):=by
    rw [run_callFunc_extern hf (by rw [hnm.1];decide) hnm.2.2 (zdH _ hnm.1 hnm.2.1 (by kernel_rfl)) hfind,hrun]
    rfl
  obtain⟨g1,g2⟩:=zai hpre.rel (w':=w.drew.drew) (Nat.le_refl _) (fun _ _=>rfl) rfl rfl
  obtain⟨g3,g4⟩:=zc8 g1 (x.map fun b=>Value.int .u8 (b.toNat:Int)).toArray e (cl b8 (x.take n)) (by simp [cl];omega) (fun i y hy=>by
    simp only [cl,List.getElem?_map,Option.map_eq_some_iff] at hy
    obtain⟨b,hb,rfl⟩:=hy
    have hb':x[i]? = some b:=by
      rw [List.getElem?_take] at hb
      split at hb
      · exact hb
      · cases hb
    exact⟨.int .u8 b.toNat,by simp [hb'],.p (.s _ rfl),rfl⟩)
  unfold Oper.wpIn
  refine⟨fun f _=>trivial,?_⟩
  rw [hsem]
  have he2:(execOp a.eval ⟨some d,.call ⟨.value f,args,ts⟩,ty,pos,after,none⟩).run C.P w = .ok (.value (.slice (some ⟨w.heap.size,0,none⟩) n x.length)) (w.drew.drew.alloc (.cells (x.map fun b=>Value.int .u8 (b.toNat:Int)).toArray e)):=by
    simp only [execOp,resolve,hcal,hargs,Deferred.ofValue,Sem.run_bind,Sem.run_pure,Result.andThen_ok,invoke]
    exact hcall
  rw [he2]
  refine hK (.ref H.n 0 n 1) _ _ _ _ (h (x.take n) (by rw [List.length_take];omega)) (zL hd) g3 ?_ (g2.trans g4 (Nat.le_refl _))
  refine .ref ⟨w.heap.size,0,none⟩ ⟨_,_,rfl⟩ (by simp [Hp.n_new]) ⟨x1,x2⟩ (fun _=>by simp [Gh.withC])
theorem AOps.sliceMx {C:Cx} {ops:Array Oper} {rest:List Oper} {k:List Item} {env:Env} {H:Hp} {R:AV → Hp → Prop} {d:Nat} {t ty:TypeId} {pos:String} {after:Array Edge} {x hi mx:Operand} {e:TypeId} {b sz n:Nat} (hu:C.P.underlying t=some (.slice e))
 (hx:zD C.G env x = .ref b 0 n sz) (hs0:0 < C.P.cellsOf e) (hhi:zD C.G env hi = .p (i64 (n:Nat))) (hmx:zD C.G env mx = .p (i64 (n:Nat))) (hd:zn C.nt (some d)=true)
 (h:AOps C ops rest k (env.put (some d) (.ref b 0 n sz)) H R):AOps C ops (⟨some d,.slice t x none (some hi) (some mx),ty,pos,after,none⟩ :: rest) k env H R:=by
 refine .of_op true rfl fun σ w a m hpre K Q hK => ?_
 have hr:=zi hpre.rel hpre.fr x
 have hr2:=zi hpre.rel hpre.fr hi
 have hr3:=zi hpre.rel hpre.fr mx
 rw [hx] at hr
 rw [hhi] at hr2
 rw [hmx] at hr3
 generalize hv:a.eval x=v at hr
 generalize hvh:a.eval hi=vh at hr2
 generalize hvm:a.eval mx=vm at hr3
 cases hr with | @ref _ _ _ _ cap ad h0 hb hcap ha =>
 have hbn:=zT (P:=C.P) (w:=w) (isSlice:=true) (len:=n) (cap:=cap) (lo:=none) (hi:=some (.p (i64 (n:Nat)))) (mx:=some (.p (i64 (n:Nat)))) (vlo:=none) (vhi:=some vh) (vmx:=some vm) (l:=0) (h:=(n:Int)) (m:=(n:Int)) rfl rfl rfl
  trivial hr2 hr3 (by omega) (by omega) (by omega) (by omega) (by simp)
 have hs2:(sizeOf e).run C.P w = .ok (C.P.cellsOf e) w:=zw (by omega)
 have hsem:Oper.semAt (Fr C σ).round a.eval ⟨some d,.slice t x none (some hi) (some mx),ty,pos,after,none⟩=execOp a.eval ⟨some d,.slice t x none (some hi) (some mx),ty,pos,after,none⟩:=Oper.semAt_eq _ _ _ (fun c h=>by cases h)
 have hrun:(Instr.sliceAt t (.slice (some ad) n cap) none (some vh) (some vm)).run C.P w = .ok (.slice (some ad) n n) w:=by
  unfold Instr.sliceAt
  simp only [Sem.run_bind,run_underlying hu,Result.andThen_ok,Instr.slice,hbn,hs2,Sem.run_pure,Int.toNat_natCast,Int.toNat_zero,Nat.sub_zero,Nat.zero_mul]
  split
  · rfl
  · simp [Addr.add]
 unfold Oper.wpIn
 refine⟨fun f _=>trivial,?_⟩
 rw [hsem]
 have he:(execOp a.eval ⟨some d,.slice t x none (some hi) (some mx),ty,pos,after,none⟩).run C.P w = .ok (.value (.slice (some ad) n n)) w:=by
  simp only [execOp,hv,Option.map_none,Option.map_some,hvh,hvm,Sem.run_bind,hrun,Result.andThen_ok,Sem.run_pure]
 rw [he]
 obtain⟨g1,g2⟩:=zai hpre.rel (w':=w) (Nat.le_refl _) (fun _ _=>rfl) rfl rfl
 exact hK (.ref b 0 n sz) (.slice (some ad) n n) _ _ w h (zL hd) hpre.rel (.ref ad h0 hb ⟨Nat.le_refl _,by omega⟩ ha) g2
end Go.AL
namespace Go.Proofs.YtdpfkanfahchjaaDoor
open Go Go.AL

abbrev U6:=BitVec 64
def zrO (x y:U6):U6 :=
 let t:=(x >>> 32)*(y &&& 4294967295#64)+((x &&& 4294967295#64)*(y &&& 4294967295#64)) >>> 32
 (x >>> 32)*(y >>> 32)+t >>> 32+((t &&& 4294967295#64)+(x &&& 4294967295#64)*(y >>> 32)) >>> 32
theorem zoQ (c:Fin 257):zrO 1#64 (BitVec.ofNat 64 c.val)=0#64:=by revert c;decide +kernel
theorem mul_one' (c:Fin 257):(1#64*BitVec.ofNat 64 c.val).toNat=c.val:=by revert c;decide +kernel
theorem zlZ : zbD Tryd.prog 92 = some "internal/bytealg.MakeNoZero" := by
  unfold zbD
  rw [Tryd.func92]
  rfl
theorem zl0:(Tryd.prog.funcs[(92:Nat)]?).map (fun f=>f.resultTypes)=some #[27]:=by rw [Tryd.func92];rfl
theorem cells_b8:Tryd.prog.cellsOf 5=1:=by kernel_rfl
theorem zgO:Tryd.prog.underlying 27=some (.slice 5):=by kernel_rfl
section walks
variable {G:Globs} {a b:U6}
theorem zl1 (H:Hp) (R:AV → Hp → Prop) (h:R (.tup [.p (yG (zrO a b)),.p (yG (a*b))]) H):ACall Tryd.prog G 102 [.p (yG a),.p (yG b)] H R:=by
 refine ACall.of_run (raw:=[]) Tryd.func102 rfl Tryd.ntmps102 (by simp) fun hbel => ?_
 refine .q ?_;refine .text ?_;simp (disch:=first|exact za|fail) only [go_sem,seval,-List.reduceReplicate]
 refine .q ?_;refine .text ?_;simp (disch:=first|exact za|fail) only [go_sem,seval,-List.reduceReplicate]
 refine .q ?_;refine .text ?_;simp (disch:=first|exact za|fail) only [go_sem,seval,-List.reduceReplicate]
 refine .q ?_;refine .text ?_;simp (disch:=first|exact za|fail) only [go_sem,seval,-List.reduceReplicate]
 refine .q ?_;refine .text ?_;simp (disch:=first|exact za|fail) only [go_sem,seval,-List.reduceReplicate]
 refine .q ?_;refine .text ?_;simp (disch:=first|exact za|fail) only [go_sem,seval,-List.reduceReplicate]
 refine .q ?_;refine .text ?_;simp (disch:=first|exact za|fail) only [go_sem,seval,-List.reduceReplicate]
 refine .q ?_;refine .text ?_;simp (disch:=first|exact za|fail) only [go_sem,seval,-List.reduceReplicate]
 refine .q ?_;refine .text ?_;simp (disch:=first|exact za|fail) only [go_sem,seval,-List.reduceReplicate]
 refine .q ?_;refine .text ?_;simp (disch:=first|exact za|fail) only [go_sem,seval,-List.reduceReplicate]
 refine .q ?_;refine .text ?_;simp (disch:=first|exact za|fail) only [go_sem,seval,-List.reduceReplicate]
 refine .q ?_;refine .text ?_;simp (disch:=first|exact za|fail) only [go_sem,seval,-List.reduceReplicate]
 refine .q ?_;refine .rt Tryd.func102 (by rw [Tryd.results102]) (hR := ?_);simp (disch:=first|exact za|fail) only [go_sem,seval,-List.reduceReplicate]
 exact h
theorem zrP (H:Hp) (R:AV → Hp → Prop) (h:R (.tup [.p (yG (zrO a b)),.p (yG (a*b))]) H):ACall Tryd.prog G 91 [.p (yG a),.p (yG b)] H R:=by
 refine ACall.of_run (raw:=[]) Tryd.func91 rfl Tryd.ntmps91 (by simp) fun hbel => ?_
 refine .q ?_;refine .text ?_;simp (disch:=first|exact za|fail) only [go_sem,seval,-List.reduceReplicate]
 refine .q ?_;refine ARun.cond (t:=false) rfl ?_
 refine .skip ?_
 refine .q ?_;refine .text ?_;simp (disch:=first|exact za|fail) only [go_sem,seval,-List.reduceReplicate]
 refine CallK.of (fun R h=>zl1 _ R h) ?_;simp (disch:=first|exact za|fail) only [go_sem,seval,-List.reduceReplicate]
 refine .q ?_;refine .text ?_;simp (disch:=first|exact za|fail) only [go_sem,seval,-List.reduceReplicate]
 refine .q ?_;refine .rt Tryd.func91 (by rw [Tryd.results91]) (hR := ?_);simp (disch:=first|exact za|fail) only [go_sem,seval,-List.reduceReplicate]
 exact h
def rpt (v:BitVec 8) (d:By) (s:Nat):By:=List.replicate s v++d.drop s
theorem zm0 {v:BitVec 8} {d:By} {s:Nat} (h:s≤d.length):(rpt v d s).length=d.length:=by simp [rpt];omega
theorem ztg {v:BitVec 8} {d:By} {n:Nat} (h:d.length=n):rpt v d n=List.replicate n v:=by simp [rpt,←h]
theorem zrQ {v:BitVec 8} {d:By} {s c:Nat} (h1:c≤s) (h2:s+c≤d.length):(rpt v d s).take s++(rpt v d s).take c++(rpt v d s).drop (s+c)=rpt v d (s+c):=by
 have e1:(rpt v d s).take s=List.replicate s v:=by rw [rpt,List.take_left' (by simp)]
 have e2:(rpt v d s).take c=List.replicate c v:=by rw [rpt,List.take_append_of_le_length (by simpa using h1),List.take_replicate,Nat.min_eq_left h1]
 have e3:(rpt v d s).drop (s+c)=d.drop (s+c):=by rw [rpt,←List.drop_drop,List.drop_left' (by simp),List.drop_drop]
 rw [e1,e2,e3,rpt,List.replicate_append_replicate]
set_option maxHeartbeats 2000000 in
theorem zjT (v:BitVec 8) (c:Nat) (hc:c≤255) (H:Hp) (R:AV → Hp → Prop) (h:R (.p (.sl false 1 (pl b8 (List.replicate (c+1) v)))) H):ACall Tryd.prog G 77 [.p (.sl false 1 (pl b8 [v])),.p (i64 ((c:Int)+1))] H R:=by
 have hm1:=zoQ ⟨c+1,by omega⟩
 have hm2:=mul_one' ⟨c+1,by omega⟩
 have hof:BitVec.ofInt 64 ((c:Int)+1)=BitVec.ofNat 64 (c+1):=by
  rw [show (c:Int)+1=((c+1:Nat):Int) by omega,BitVec.ofInt_natCast]
 have ho1:BitVec.ofInt 64 1=1#64:=rfl
 have d0:((c:Int)+1 == 0)=false:=by simp;omega
 have d1:decide ((c:Int)+1 < 0)=false:=decide_eq_false (by omega)
 have hl1:[v].length=1:=rfl
 simp only at hm1 hm2
 refine ACall.of_run (raw:=[]) Tryd.func77 rfl Tryd.ntmps77 (by simp) fun hbel => ?_
 refine .q ?_;refine .text ?_;simp (disch:=first|exact za|fail) only [go_sem,seval,-List.reduceReplicate]
 refine .q ?_;refine .text ?_;simp (disch:=first|exact za|fail) only [go_sem,seval,-List.reduceReplicate,d0]
 refine .q ?_;refine .ifF (by simp (disch:=first|exact za|fail) only [go_sem,seval,-List.reduceReplicate,d0]) ?_
 refine .skip ?_
 refine .q ?_;refine .text ?_;simp (disch:=first|exact za|fail) only [go_sem,seval,-List.reduceReplicate,d1]
 refine .q ?_;refine .ifF (by simp (disch:=first|exact za|fail) only [go_sem,seval,-List.reduceReplicate,d1]) ?_
 refine .skip ?_
 refine .q ?_;refine .text ?_;simp (disch:=first|exact za|fail) only [go_sem,seval,-List.reduceReplicate,hl1,hof,ho1]
 refine CallK.of (fun R h=>zrP _ R h) ?_;simp (disch:=first|exact za|fail) only [go_sem,seval,-List.reduceReplicate,hm1]
 obtain⟨p,hp⟩ : ∃ p,p=1#64*BitVec.ofNat 64 (c+1):=⟨_,rfl⟩
 rw [←hp] at hm2 ⊢
 have g1:decide (9223372036854775807#64 < p)=false:=decide_eq_false (by rw [BitVec.lt_def,hm2];simp;omega)
 refine .q ?_;refine .text ?_;simp (disch:=first|exact za|fail) only [go_sem,seval,-List.reduceReplicate,g1]
 refine .q ?_;refine .ifF (by simp (disch:=first|exact za|fail) only [go_sem,seval,-List.reduceReplicate]) ?_
 refine .skip ?_
 have hp2:IntKind.i64.wrap (p.toNat:Int)=((c+1:Nat):Int):=by rw [hm2,zaD (by omega) (by omega)]
 refine .q ?_;refine .text ?_;simp (disch:=first|exact za|fail) only [go_sem,seval,-List.reduceReplicate,hp2]
 refine .q ?_;refine .text ?_;simp (disch:=first|exact za|fail) only [go_sem,seval,-List.reduceReplicate,hl1]
 refine .q ?_;refine .ifF (by simp (disch:=first|exact za|fail) only [go_sem,seval,-List.reduceReplicate]) ?_
 refine .skip ?_
 refine .q ?_;refine .text ?_;simp (disch:=first|exact za|fail) only [go_sem,seval,-List.reduceReplicate]
 have g2:decide ((8192:Int) < ((c+1:Nat):Int))=false:=decide_eq_false (by omega)
 refine .q ?_;refine .text ?_;simp (disch:=first|exact za|fail) only [go_sem,seval,-List.reduceReplicate,g2]
 refine .q ?_;refine .ifF (by simp (disch:=first|exact za|fail) only [go_sem,seval,-List.reduceReplicate,g2]) ?_
 refine .skip ?_
 refine .q ?_;refine .region ?_
 refine .one rfl (by simp (disch:=first|exact za|fail) only [go_sem,seval,-List.reduceReplicate]<;>rfl) rfl ?_
 refine AOps.noZero (n:=c+1) Tryd.func92 zlZ (by have:=zl0;rw [Tryd.func92] at this;exact Option.some.inj this) zgO (by simp (disch:=first|exact za|fail) only [go_sem,seval,-List.reduceReplicate]<;>rfl) (by simp (disch:=first|exact za|fail) only [go_sem,seval,-List.reduceReplicate]<;>rfl) (by omega) rfl fun d hd => ?_
 refine .one rfl (by simp (disch:=first|exact za|fail) only [go_sem,seval,-List.reduceReplicate]<;>rfl) rfl ?_
 refine .one rfl (by simp (disch:=first|exact za|fail) only [go_sem,seval,-List.reduceReplicate]<;>rfl) rfl ?_
 refine AOps.sliceMx (b:=H.n) (n:=c+1) (sz:=1) zgO (by simp (disch:=first|exact za|fail) only [go_sem,seval,-List.reduceReplicate]<;>rfl) (by show 0 < Tryd.prog.cellsOf 5;rw [cells_b8];decide) (by simp (disch:=first|exact za|fail) only [go_sem,seval,-List.reduceReplicate]<;>rfl) (by simp (disch:=first|exact za|fail) only [go_sem,seval,-List.reduceReplicate]<;>rfl) rfl ?_
 refine .run ?_
 simp (disch:=first|exact za|fail) only [go_sem,seval,-List.reduceReplicate]
 refine .q ?_;refine .text ?_;simp (disch:=first|exact za|fail) only [go_sem,seval,-List.reduceReplicate,zaR,hd]
 have hcp : ∀ s,1≤s → s≤c+1 → s≤(rpt v d s).length:=fun s h1 h2=>by rw [zm0 (by omega)];omega
 refine .q ?_;refine .loopT (S:=Nat) [7,8,9] (fun s=>[(10,.p (i64 s))]) (fun s=>[(H.n,.cells (cl b8 (rpt v d s)))]) (fun s=>1≤s∧s≤c+1) (fun s=>c+1 - s) (1) ?_ (by first | rfl | (simp (disch:=first|exact za|fail) only [go_sem,seval,-List.reduceReplicate,zaR,hd]<;>rfl)) ?_ ?_
 · simp (disch:=first|exact za|fail) only [go_sem,seval,-List.reduceReplicate,zaR,hd]<;>(repeat' (first | rfl | refine And.intro ?_ ?_))
 rotate_left 1
 intro s env E hQ ihE;simp (disch:=first|exact za|fail) only [go_sem,seval,-List.reduceReplicate,zaR,hd] at E
 rotate_left 1
 · omega
 · by_cases hs:s < c+1
   · have g3:decide ((s:Int) < (c:Int)+1)=true:=decide_eq_true (by omega)
     have hmin:min (s:Int) ((c:Int)+1)=(s:Int):=by omega
     have hle:=hcp s hQ.1 hQ.2
     have hlen:(rpt v d s).length=c+1:=by rw [zm0 (by omega)];exact hd
     refine .q ?_;refine .text ?_;simp (disch:=first|exact za|fail) only [go_sem,seval,-List.reduceReplicate,E,g3]
     refine .q ?_;refine .ifT (by simp (disch:=first|exact za|fail) only [go_sem,seval,-List.reduceReplicate,g3]) ?_
     refine .q ?_;refine .text ?_;simp (disch:=first|exact za|fail) only [go_sem,seval,-List.reduceReplicate,E,hmin]
     have hst:(rpt v d s).take s++((rpt v d s).take s).take (c+1 - s)++(rpt v d s).drop (s+min (c+1 - s) s)=rpt v d (s+min s (c+1 - s)):=by
      rw [List.take_take,Nat.min_comm (c+1 - s) s,←zrQ (c:=min s (c+1 - s)) (Nat.min_le_left _ _) (by omega)]
     have hsm:s+min s (c+1 - s)≤c+1:=by omega
     have hgt:1≤s+min s (c+1 - s):=by omega
     have hmu:c+1 - (s+min s (c+1 - s)) < c+1 - s:=by omega
     refine .q ?_;refine .openT [7] follows (by kernel_rfl) ?_;simp (disch:=first|exact za|fail) only [go_sem,seval,-List.reduceReplicate,E,hst]
     first | (refine ihE (s+min s (c+1 - s)) _ _ ?_ ?_ ⟨hgt,hsm⟩ ?_) | (refine .z rfl ?_;refine ihE (s+min s (c+1 - s)) _ _ ?_ ?_ ⟨hgt,hsm⟩ ?_) | (refine .z rfl ?_;refine .z rfl ?_;refine ihE (s+min s (c+1 - s)) _ _ ?_ ?_ ⟨hgt,hsm⟩ ?_) | (refine .z rfl ?_;refine .z rfl ?_;refine .z rfl ?_;refine ihE (s+min s (c+1 - s)) _ _ ?_ ?_ ⟨hgt,hsm⟩ ?_)
     rotate_left 1
     · simp (disch:=first|exact za|fail) only [go_sem,seval,-List.reduceReplicate,E,hst]<;>(repeat' (first | rfl | refine And.intro ?_ ?_))
     · first | rfl | (simp (disch:=first|exact za|fail) only [go_sem,seval,-List.reduceReplicate,E,hst]<;>(try rfl))
     · exact hmu
   · have hs1:s=c+1:=by omega
     subst hs1
     refine .q ?_;refine .text ?_;simp (disch:=first|exact za|fail) only [go_sem,seval,-List.reduceReplicate,E]
     refine .q ?_;refine .ifF (by simp (disch:=first|exact za|fail) only [go_sem,seval,-List.reduceReplicate]) ?_
     rw [ztg hd]
     refine .q ?_;refine .frzS 9 (by simp (disch:=first|exact za|fail) only [go_sem,seval,-List.reduceReplicate,E];rfl) (by simp (disch:=first|exact za|fail) only [go_sem,seval,-List.reduceReplicate,E]<;>rfl) (fun _=>rfl) (by first | exact za | fail) ?_;(try simp (disch:=first|exact za|fail) only [go_sem,seval,-List.reduceReplicate,E])
     refine .q ?_;refine .text ?_;simp (disch:=first|exact za|fail) only [go_sem,seval,-List.reduceReplicate,E]
     refine .q ?_;refine .rt Tryd.func77 (by rw [Tryd.results77]) (hx:=by simp (disch:=first|exact za|fail) only [go_sem,seval,-List.reduceReplicate,E];rfl) (hR := ?_);simp (disch:=first|exact za|fail) only [go_sem,seval,-List.reduceReplicate,E]
     exact h
end walks
end Go.Proofs.YtdpfkanfahchjaaDoor

/-
  The log of readings: a stored column read by the program.
-/
namespace Go.Proofs.YtdpfkanfahchjaaDoor
open Go Go.AL

def Thr (b:By) (rows top:Nat):Prop := ∀ j,j < (prs b).length → (nth (prs b) j).1.toNat≤top∧(dec ((prs b).take j)).length≤rows
theorem zhO : ∀ {l m:Prs},dec (l++m)=dec l++dec m
 | [],_=>rfl
 | p :: l,m=>by rw [List.cons_append,dec,dec,zhO,List.append_assoc]
theorem zjU {l:Prs} {j:Nat}:(dec (l.take j)).length≤(dec l).length:=by
 have h:dec (l.take j)++dec (l.drop j)=dec l:=by rw [←zhO,List.take_append_drop]
 rw [←h,List.length_append]
 omega
theorem zrR {l:Prs} {j:Nat} (h:j < l.length):dec (l.take j)++List.replicate ((nth l j).2+1) (nth l j).1=dec (l.take (j+1)):=by
 rw [List.take_succ_eq_append_getElem h,zhO]
 congr 1
 have:nth l j=l[j]:=by simp [nth,h]
 rw [this,dec,dec,List.append_nil]
theorem zm1 {b:By} {rows top:Nat}:Snd b rows top ↔ b.length % 2=0∧Thr b rows top∧(dec (prs b)).length=rows∧rle (dec (prs b))=b:=by
 constructor
 · intro h
   refine⟨h.1,fun j hj=>⟨?_,?_⟩,h.2.2.2,zs3 h⟩
   · refine h.2.1 _ ?_
     have:nth (prs b) j=(prs b)[j]:=by simp [nth,hj]
     rw [this];exact List.getElem_mem hj
   · rw [←h.2.2.2];exact zjU
 · rintro ⟨h1,h2,h3,h4⟩
   refine⟨h1,fun p hp => ?_,(zgF h1).1 h4,h3⟩
   obtain⟨j,hj,rfl⟩:=List.mem_iff_getElem.1 hp
   have:=(h2 j hj).1
   rwa [show nth (prs b) j=(prs b)[j] by simp [nth,hj]] at this
theorem zm2 : ∀ {b:By} {j:Nat},2*j+1 < b.length → nth (prs b) j=(nth b (2*j),(nth b (2*j+1)).toNat)
 | [],j,h=>by simp at h
 | [_],j,h=>by simp at h
 | a :: c :: t,0,h=>rfl
 | a :: c :: t,j+1,h=>by
  have:=zm2 (b:=t) (j:=j) (by simp at h;omega)
  rw [prs,zP,this,show 2*(j+1)=2*j+1+1 by omega,zP,zP,zP,zP]
open Classical in
noncomputable def zjV (b:By) (rows top:Nat):PV × Bool :=
 if b.length % 2=0∧Thr b rows top then (.sl false 1 (pl b8 (dec (prs b))),decide ((dec (prs b)).length=rows) && decide (rle (dec (prs b))=b)) else (.sl false 1 [],false)
theorem zrS {b:By} {rows top:Nat} (h:Snd b rows top):zjV b rows top=(.sl false 1 (pl b8 (dec (prs b))),true):=by
 have h':=zm1.1 h
 rw [zjV,if_pos ⟨h'.1,h'.2.1⟩,decide_eq_true h'.2.2.1,decide_eq_true h'.2.2.2]
 rfl
theorem zrT {b:By} {rows top:Nat} (h : ¬ Snd b rows top):(zjV b rows top).2=false:=by
 unfold zjV
 split
 · rename_i q
   refine Bool.eq_false_iff.2 fun e=>h (zm1.2 ⟨q.1,q.2,?_⟩)
   simpa using e
 · rfl
theorem take_one {b:By} {i:Nat} (h:i < b.length):(b.take (i+1)).drop i=[nth b i]:=by
 rw [List.take_succ_eq_append_getElem h,List.drop_left' (by rw [List.length_take];omega)]
 simp [nth,h]
theorem zrU : ∀ {l:Prs},(∀ p∈l,p.2≤255) → (dec l).length≤256*l.length
 | [],_=>Nat.le_refl _
 | p :: l,h=>by
  have:=zrU (l:=l) fun q hq=>h q (by simp [hq])
  have:=h p (by simp)
  rw [dec,List.length_append,List.length_replicate,List.length_cons]
  omega
section walks
variable {G:Globs}
set_option maxHeartbeats 4000000 in
theorem zjW (b:By) (rows top:Nat) (hb:b.length≤2000000) (hr:rows≤5000) (ht:top≤255) (H:Hp) (R:AV → Hp → Prop) (h:R (.tup [.p (zjV b rows top).1,.p (bo (zjV b rows top).2)]) H):ACall Tryd.prog G 55 [.p (.sl false 1 (pl b8 b)),.p (i64 rows),.p (i64 top)] H R:=by
 unfold zjV at h
 refine ACall.of_run (raw:=[]) Tryd.func55 rfl Tryd.ntmps55 (by simp) fun hbel => ?_
 refine .q ?_;refine .text ?_;simp (disch:=first|exact za|fail) only [go_sem,seval,-List.reduceReplicate]
 refine .q ?_;refine .text ?_;simp (disch:=first|exact za|fail) only [go_sem,seval,-List.reduceReplicate]
 by_cases c0:b.length % 2=0
 rotate_left
 · have d0:((b.length:Int) % 2 == 0)=false:=by simp;omega
   rw [if_neg fun e=>c0 e.1] at h
   refine .q ?_;refine .text ?_;simp (disch:=first|exact za|fail) only [go_sem,seval,-List.reduceReplicate,d0]
   refine .q ?_;refine .ifT (by simp (disch:=first|exact za|fail) only [go_sem,seval,-List.reduceReplicate]) ?_
   refine .q ?_;refine .text ?_;simp (disch:=first|exact za|fail) only [go_sem,seval,-List.reduceReplicate]
   refine .q ?_;refine .rt Tryd.func55 (by rw [Tryd.results55]) (hR := ?_);simp (disch:=first|exact za|fail) only [go_sem,seval,-List.reduceReplicate]
   exact h
 have d0:((b.length:Int) % 2 == 0)=true:=by simp;omega
 have hpl:=zmO c0
 refine .q ?_;refine .text ?_;simp (disch:=first|exact za|fail) only [go_sem,seval,-List.reduceReplicate,d0]
 refine .q ?_;refine .ifF (by simp (disch:=first|exact za|fail) only [go_sem,seval,-List.reduceReplicate]) ?_
 refine .skip ?_
 refine .q ?_;refine .text ?_;simp (disch:=first|exact za|fail) only [go_sem,seval,-List.reduceReplicate]
 refine .q ?_;refine .own 8 (by simp (disch:=first|exact za|fail) only [go_sem,seval,-List.reduceReplicate];rfl) ?_
 refine .q ?_;refine .loopE [0,1,2,9] (fun j=>[(8,.sl (H.n+1) j 1 (pl b8 (dec ((prs b).take j)))),(10,.p (i64 (2*(j:Int))))]) (fun j=>[(H.n+1,.tail j)]) (fun j => ∀ i,i < j → (nth (prs b) i).1.toNat≤top∧(dec ((prs b).take i)).length≤rows) (0) ((prs b).length) (by omega) ?_ (by first | rfl | (simp (disch:=first|exact za|fail) only [go_sem,seval,-List.reduceReplicate,dec]<;>rfl)) ?_ ?_ ?_
 · simp (disch:=first|exact za|fail) only [go_sem,seval,-List.reduceReplicate,dec]<;>(repeat' (first | rfl | refine And.intro ?_ ?_))
 rotate_left 1
 intro env E hQ;simp (disch:=first|exact za|fail) only [go_sem,seval,-List.reduceReplicate,dec] at E
 rotate_left 1
 intro j env hj0 hj E hQ ihE;simp (disch:=first|exact za|fail) only [go_sem,seval,-List.reduceReplicate,dec] at E
 rotate_left 1
 · exact fun j hj=>absurd hj (by omega)
 · rw [if_pos ⟨c0,hQ⟩] at h
   have hall:(prs b).take (prs b).length=prs b:=List.take_length
   have hdl:(2:Int)*((prs b).length:Int)=(b.length:Int):=by omega
   obtain⟨X,hX⟩ : ∃ X,X=dec (prs b):=⟨_,rfl⟩
   have hXl:X.length≤1000000000:=by
    have:=zrU (l:=prs b) zrC
    rw [hX];omega
   refine .q ?_;refine .text ?_;simp (disch:=first|exact za|fail) only [go_sem,seval,-List.reduceReplicate,E,hdl]
   refine .q ?_;refine .ifF (by simp (disch:=first|exact za|fail) only [go_sem,seval,-List.reduceReplicate]) ?_
   refine .q ?_;refine .ownC H.n 0 (by simp (disch:=first|exact za|fail) only [go_sem,seval,-List.reduceReplicate,E,hall];rfl) (by rfl) ?_;simp (disch:=first|exact za|fail) only [go_sem,seval,-List.reduceReplicate,List.set_cons_zero,List.set_cons_succ,E,hall]
   refine zjL fun hbT=>zjM fun B hB => ?_
   rw [←hB] at hbT
   have hBn:B.n=H.n+3:=by rw [hB];simp (disch:=first|exact za|fail) only [go_sem,seval,-List.reduceReplicate]
   have hBc:B.f H.n=some (.cells [.sl (H.n+2) 0 1 []]):=by rw [hB];simp (disch:=first|exact za|fail) only [go_sem,seval,-List.reduceReplicate]
   have hBt:B.f (H.n+2)=some (.tail 0):=by rw [hB];simp (disch:=first|exact za|fail) only [go_sem,seval,-List.reduceReplicate]
   refine .q ?_;refine .text ?_;simp (disch:=first|exact za|fail) only [go_sem,seval,-List.reduceReplicate,E,hall,←hX]
   refine CallK.of (fun R h=>zgG _ _ R h) ?_;simp (disch:=first|exact za|fail) only [go_sem,seval,-List.reduceReplicate,E]
   refine .q ?_;refine .rangeFunc (ps:=[52]) rfl (by simp (disch:=first|exact za|fail) only [go_sem,seval,-List.reduceReplicate,E];rfl) (by simp (disch:=first|exact za|fail) only [go_sem,seval,-List.reduceReplicate,E]) (by simp) fun L vs hL hvs hround => ?_;simp (disch:=first|exact za|fail) only [go_sem,seval,-List.reduceReplicate,E]
   obtain⟨c,hc⟩ : ∃ c,c=H.n:=⟨_,rfl⟩
   obtain⟨u,hu⟩ : ∃ u,u=H.n+2:=⟨_,rfl⟩
   rw [←hu] at hBc hBt
   rw [←hc] at hBc
   rw [zjO (u:=u) hBc hBt]
   refine zfB X (by omega) (B.n+1) B.n (B.n+2) (fun i=>pkH B c u X i i (.obj vs (L .ready none))) (fun i=>pkH B c u X (i+1) i (.obj vs (L .ready none))) (fun i=>zgJ) (fun i=>zgJ) (fun i=>zmY hbT (by omega) hvs (by simp only [n_new'];omega)) (by omega) (by omega) (fun i=>zeE) (fun i=>zeE) (fun i hi=>zmX) (fun i v n hv K hK => ?_) _ ?_
   · have hbn:=zgJ (B:=B) (c:=c) (u:=u) (b:=X) (i:=i) (j:=i) (x := .obj vs (L .ready none))
     refine hround _ _ _ rfl (by unfold pkH;simp (disch:=first|exact za|fail) only [go_sem,seval,-List.reduceReplicate]) fun hbel2 => ?_
     dsimp only
     unfold pkH
     simp (disch:=first|exact za|fail) only [go_sem,seval,-List.reduceReplicate]
     refine .q ?_;refine .text ?_;simp (disch:=first|exact za|fail) only [go_sem,seval,-List.reduceReplicate]
     refine .q ?_;refine .beginRound rfl hL (by simp (disch:=first|exact za|fail) only [go_sem,seval,-List.reduceReplicate];rfl) ?_;simp (disch:=first|exact za|fail) only [go_sem,seval,-List.reduceReplicate]
     have hfs:flq ((y6 X).take i)++[v,BitVec.ofInt 8 (n:Int)]=flq ((y6 X).take (i+1)):=zjN hv
     have hfl:(flq ((y6 X).take i)).length≤3000000000:=by
      rw [zds,List.length_take]
      have:=zeB (l:=y6 X)
      rw [zbb] at this
      omega
     refine .q ?_;refine .text ?_;simp (disch:=first|exact za|fail) only [go_sem,seval,-List.reduceReplicate,E,←hc,hfs]
     (repeat refine .z rfl ?_);refine .roundEnd rfl hL (by simp (disch:=first|exact za|fail) only [go_sem,seval,-List.reduceReplicate];rfl) ?_ ?_
     · refine zaS (yY hvs (yX (zaT (yZ (zdu hbT (by dsimp only;omega) (by dsimp only;omega))) fun y hy => ?_)) (by simp only [n_new'];omega)) fun y hy => ?_
       · simp [AB.vals] at hy
         subst hy
         exact .sl _ _ _ _ (by dsimp only;omega)
       · simp [AB.vals] at hy
         rcases hy with rfl | rfl<;>exact .p _
     · have hn255:n≤255:=zlM (v,n) (List.mem_of_getElem? hv)
       have hwr:IntKind.i64.wrap ((n:Int)+1 - 1)=(n:Int):=by rw [show (n:Int)+1 - 1=n by omega];exact zaD (by omega) (by omega)
       simp (disch:=first|exact za|fail) only [go_sem,seval,-List.reduceReplicate,hwr,hfs]
       rw [zmW (by omega)]
       exact hK
   · have hallg:(y6 X).take (y6 X).length=y6 X:=List.take_length
     unfold pkH
     rw [hallg]
     unfold zdh;refine⟨?_,.inl ⟨(by simp (disch:=first|exact za|fail) only [go_sem,seval,-List.reduceReplicate]<;>rfl),?_⟩⟩;(try dsimp only);(repeat (first | with_reducible exact hbel | with_reducible exact zaI hbel za | with_reducible refine zbq ?_ | with_reducible refine yX ?_ | with_reducible refine zbr ?_ | with_reducible refine yY hvs ?_ za | with_reducible refine zad ?_ | with_reducible refine zbs ?_ | with_reducible refine yZ ?_ | with_reducible refine zbt ?_ | with_reducible refine zbu ?_));simp (disch:=first|exact za|fail) only [go_sem,seval,-List.reduceReplicate]
     · exact zdu hbT (by omega) (by omega)
     rw [←hX] at h
     dsimp only at h
     by_cases c3:X.length=rows
     · have g3:((X.length:Int) == (rows:Int))=true:=by simp;omega
       rw [decide_eq_true c3,Bool.true_and] at h
       subst hc hu
       refine .q ?_;refine .text ?_;simp (disch:=first|exact za|fail) only [go_sem,seval,-List.reduceReplicate,E,←hX,g3]
       refine CallK.of (fun R h=>zfD _ b _ R h) ?_;simp (disch:=first|exact za|fail) only [go_sem,seval,-List.reduceReplicate,E,←hX,g3]
       subst hB
       simp (disch:=first|exact za|fail) only [go_sem,seval,-List.reduceReplicate]
       refine .q ?_;refine .rt Tryd.func55 (by rw [Tryd.results55]) (hx:=by simp (disch:=first|exact za|fail) only [go_sem,seval,-List.reduceReplicate,E,←hX];rfl) (hR := ?_);simp (disch:=first|exact za|fail) only [go_sem,seval,-List.reduceReplicate,E,←hX]
       exact h
     · have g3:((X.length:Int) == (rows:Int))=false:=by simp;omega
       rw [decide_eq_false c3,Bool.false_and] at h
       subst hc hu
       refine .q ?_;refine .text ?_;simp (disch:=first|exact za|fail) only [go_sem,seval,-List.reduceReplicate,E,←hX,g3]
       subst hB
       simp (disch:=first|exact za|fail) only [go_sem,seval,-List.reduceReplicate]
       refine .q ?_;refine .rt Tryd.func55 (by rw [Tryd.results55]) (hx:=by simp (disch:=first|exact za|fail) only [go_sem,seval,-List.reduceReplicate,E,←hX];rfl) (hR := ?_);simp (disch:=first|exact za|fail) only [go_sem,seval,-List.reduceReplicate,E,←hX]
       exact h
 · have d1:decide (2*(j:Int) < (b.length:Int))=true:=decide_eq_true (by omega)
   have hpj:=zm2 (b:=b) (j:=j) (by omega)
   obtain⟨v,hv⟩ : ∃ v,v=nth b (2*j):=⟨_,rfl⟩
   obtain⟨w,hw⟩ : ∃ w,w=nth b (2*j+1):=⟨_,rfl⟩
   rw [←hv,←hw] at hpj
   have hw255:w.toNat≤255:=by have:=w.isLt;omega
   have hi1:(2*(j:Int)).toNat=2*j:=by omega
   have hi2:(2*(j:Int)+1).toNat=2*j+1:=by omega
   have hsl:=take_one (b:=b) (i:=2*j) (by omega)
   rw [←hv] at hsl
   obtain⟨X,hX⟩ : ∃ X,X=dec ((prs b).take j):=⟨_,rfl⟩
   refine .q ?_;refine .text ?_;simp (disch:=first|exact za|fail) only [go_sem,seval,-List.reduceReplicate,E,d1]
   refine .q ?_;refine .ifT (by simp (disch:=first|exact za|fail) only [go_sem,seval,-List.reduceReplicate]) ?_
   by_cases c1:(nth (prs b) j).1.toNat≤top∧X.length≤rows
   · have g1:decide ((top:Int) < (v.toNat:Int))=false:=decide_eq_false (by rw [hpj] at c1;have:=c1.1;dsimp only at this;omega)
     have g2:decide ((rows:Int) < (X.length:Int))=false:=decide_eq_false (by omega)
     refine .q ?_;refine .text ?_;simp (disch:=first|exact za|fail) only [go_sem,seval,-List.reduceReplicate,E,hi1,←hv,g1,←hX,g2]
     refine .q ?_;refine .ifF (by simp (disch:=first|exact za|fail) only [go_sem,seval,-List.reduceReplicate]) ?_
     refine .skip ?_
     have hXl:X.length≤5000:=by omega
     have hw1:IntKind.i64.wrap (w.toNat:Int)=(w.toNat:Int):=zaD (by omega) (by omega)
     have hsn:=zrR hj
     rw [hpj,←hX] at hsn
     dsimp only at hsn
     have hra:((pl b8 (List.replicate (w.toNat+1) v)).all fun y=>y.cells.length == 1)=true:=by rw [List.all_eq_true];intro y hy;simp only [pl,List.mem_map] at hy;obtain⟨z,_,rfl⟩:=hy;rfl
     have hrl:(List.replicate (w.toNat+1) v).length=w.toNat+1:=by simp
     obtain⟨Y,hY⟩ : ∃ Y,Y=List.replicate (w.toNat+1) v:=⟨_,rfl⟩
     rw [←hY] at hsn hra hrl
     refine .q ?_;refine .open [14] follows (by kernel_rfl) ?_;simp (disch:=first|exact za|fail) only [go_sem,seval,-List.reduceReplicate,E,hi1,hi2,←hw,hsl,←hX,hw1]
     refine CallD.still (fun R h=>zjT v w.toNat hw255 _ R h) ?_;simp (disch:=first|exact za|fail) only [go_sem,seval,-List.reduceReplicate,E,hi1,hi2,←hw,hsl,←hX,hw1,←hY,hrl,hra]
     refine .q ?_;refine .text ?_;simp (disch:=first|exact za|fail) only [go_sem,seval,-List.reduceReplicate,E]
     have hq2 : ∀ i,i < j+1 → (nth (prs b) i).1.toNat≤top∧(dec ((prs b).take i)).length≤rows:=zq hQ (by rw [←hX];exact c1)
     have hj2:2*(j:Int)+2=2*((j:Int)+1):=by omega
     first | (refine ihE _ _ ?_ hq2 ?_) | (refine .z rfl ?_;refine ihE _ _ ?_ hq2 ?_) | (refine .z rfl ?_;refine .z rfl ?_;refine ihE _ _ ?_ hq2 ?_) | (refine .z rfl ?_;refine .z rfl ?_;refine .z rfl ?_;refine ihE _ _ ?_ hq2 ?_)
     · simp (disch:=first|exact za|fail) only [go_sem,seval,-List.reduceReplicate,E,hsn,hj2]<;>(repeat' (first | rfl | refine And.intro ?_ ?_))
     · first | rfl | (simp (disch:=first|exact za|fail) only [go_sem,seval,-List.reduceReplicate,E,hsn,hj2]<;>(try rfl))
   · have hh:=h
     rw [if_neg fun e=>c1 (by have:=e.2 j hj;rw [←hX] at this;exact this)] at hh
     by_cases c2:(nth (prs b) j).1.toNat≤top
     · have g1:decide ((top:Int) < (v.toNat:Int))=false:=decide_eq_false (by rw [hpj] at c2;dsimp only at c2;omega)
       have g2:decide ((rows:Int) < (X.length:Int))=true:=decide_eq_true (by have : ¬ X.length≤rows:=fun q=>c1 ⟨c2,q⟩;omega)
       refine .q ?_;refine .text ?_;simp (disch:=first|exact za|fail) only [go_sem,seval,-List.reduceReplicate,E,hi1,←hv,g1,←hX,g2]
       refine .q ?_;refine .ifT (by simp (disch:=first|exact za|fail) only [go_sem,seval,-List.reduceReplicate]) ?_
       refine .q ?_;refine .text ?_;simp (disch:=first|exact za|fail) only [go_sem,seval,-List.reduceReplicate,E]
       refine .q ?_;refine .rt Tryd.func55 (by rw [Tryd.results55]) (hx:=by simp (disch:=first|exact za|fail) only [go_sem,seval,-List.reduceReplicate,E,←hX];rfl) (hR := ?_);simp (disch:=first|exact za|fail) only [go_sem,seval,-List.reduceReplicate,E,←hX]
       exact hh
     · have g1:decide ((top:Int) < (v.toNat:Int))=true:=decide_eq_true (by rw [hpj] at c2;dsimp only at c2;omega)
       refine .q ?_;refine .text ?_;simp (disch:=first|exact za|fail) only [go_sem,seval,-List.reduceReplicate,E,hi1,←hv,g1]
       refine .q ?_;refine .ifT (by simp (disch:=first|exact za|fail) only [go_sem,seval,-List.reduceReplicate]) ?_
       refine .q ?_;refine .text ?_;simp (disch:=first|exact za|fail) only [go_sem,seval,-List.reduceReplicate,E]
       refine .q ?_;refine .rt Tryd.func55 (by rw [Tryd.results55]) (hx:=by simp (disch:=first|exact za|fail) only [go_sem,seval,-List.reduceReplicate,E,←hX];rfl) (hR := ?_);simp (disch:=first|exact za|fail) only [go_sem,seval,-List.reduceReplicate,E,←hX]
       exact hh
end walks
end Go.Proofs.YtdpfkanfahchjaaDoor
