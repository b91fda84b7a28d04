/-
  What the rules ask of the types and functions of this program: closed facts,by the kernel.
  Conditions: none. Written by gen_tab.py.
-/
import Derived.Test.YtgflpgcogkdpgaaGreatDoorPkE3
import Derived.Test.YtgflpgcogkdpgaaGreatDoorPkB1
import Derived.Test.YtgflpgcogkdpgaaGreatDoorPkB2
import Derived.Test.YtgflpgcogkdpgaaGreatDoorChecked
import Derived.Shelf.Spec.SlicesGrow
set_option linter.unusedSimpArgs false
set_option linter.unusedVariables false
namespace Go.Proofs.YtgflpgcogkdpgaaGreatDoor
open Go Go.AL

theorem cells2:Tryz.prog.cellsOf 2=1:=by kernel_rfl
theorem zAh:Tryz.prog.bytesOf 2=8:=by kernel_rfl
theorem zzs:z8 Tryz.prog 2=false:=by kernel_rfl
theorem zAi:zau Tryz.prog 2=true:=by kernel_rfl
theorem zAj:yF Tryz.prog 2=true:=by kernel_rfl
theorem cells3:Tryz.prog.cellsOf 3=1:=by kernel_rfl
theorem bytes3:Tryz.prog.bytesOf 3=8:=by kernel_rfl
theorem zAk:zau Tryz.prog 3=true:=by kernel_rfl
theorem zAl:yF Tryz.prog 3=true:=by kernel_rfl
theorem cells4:Tryz.prog.cellsOf 4=1:=by kernel_rfl
theorem zxj:isBool Tryz.prog 4=true:=by kernel_rfl
theorem zAm:zI Tryz.prog 4=some ([bo false]):=by kernel_rfl
theorem cells5:Tryz.prog.cellsOf 5=1:=by kernel_rfl
theorem bytes5:Tryz.prog.bytesOf 5=1:=by kernel_rfl
theorem ztt:z8 Tryz.prog 5=false:=by kernel_rfl
theorem zAn:zau Tryz.prog 5=true:=by kernel_rfl
theorem zAo:zI Tryz.prog 5=some ([b8 0#8]):=by kernel_rfl
theorem zAp:yF Tryz.prog 5=true:=by kernel_rfl
theorem cells9:Tryz.prog.cellsOf 9=1:=by kernel_rfl
theorem cells22:Tryz.prog.cellsOf 22=1:=by kernel_rfl
theorem zrm:zc3 Tryz.prog 22=true:=by kernel_rfl
theorem zxk:yF Tryz.prog 22=true:=by kernel_rfl
theorem cells23:Tryz.prog.cellsOf 23=1:=by kernel_rfl
theorem cells24:Tryz.prog.cellsOf 24=1:=by kernel_rfl
theorem cells26:Tryz.prog.cellsOf 26=6:=by kernel_rfl
theorem ztu:z8 Tryz.prog 26=true:=by kernel_rfl
theorem zo8:zI Tryz.prog 26=some ([i64 0,str ByteArray.empty,.sl true 1 [],.sl true 1 [],.sl true 1 [],b8 0#8]):=by kernel_rfl
theorem zxl : ∀ parts,yi Tryz.prog 26 parts=(yj (fun i=>[some (0,1),some (1,1),some (2,1),some (3,1),some (4,1),some (5,1)][i]?.join) ([.p (i64 0),.p (str ByteArray.empty),.p (.sl true 1 []),.p (.sl true 1 []),.p (.sl true 1 []),.p (b8 0#8)]) parts).map zq:=fun _=>zB (by kernel_rfl) zo8
theorem ztv:z8 Tryz.prog 27=false:=by kernel_rfl
theorem cells29:Tryz.prog.cellsOf 29=3:=by kernel_rfl
theorem ztw:z8 Tryz.prog 29=true:=by kernel_rfl
theorem zo9:zI Tryz.prog 29=some ([i64 0,i64 0,i64 0]):=by kernel_rfl
theorem build29 : ∀ parts,yi Tryz.prog 29 parts=(yj (fun i=>[some (0,1),some (1,1),some (2,1)][i]?.join) ([.p (i64 0),.p (i64 0),.p (i64 0)]) parts).map zq:=fun _=>zB (by kernel_rfl) zo9
theorem cells33:Tryz.prog.cellsOf 33=32:=by kernel_rfl
theorem zpa:zI Tryz.prog 33=some (List.replicate 32 (b8 0#8)):=by kernel_rfl
theorem zxm : ∀ parts,yi Tryz.prog 33 parts=(yj (fun i=>some (i*1,1)) ((List.replicate 32 (b8 0#8)).map .p) parts).map zq:=fun _=>zcx (by kernel_rfl) zpa
theorem cells34:Tryz.prog.cellsOf 34=1:=by kernel_rfl
theorem ztx:z8 Tryz.prog 34=false:=by kernel_rfl
theorem zxn:yF Tryz.prog 34=true:=by kernel_rfl
theorem cells36:Tryz.prog.cellsOf 36=38:=by kernel_rfl
theorem zxo:Tryz.prog.bytesOf 36=120:=by kernel_rfl
theorem zty:z8 Tryz.prog 36=true:=by kernel_rfl
theorem zpb:zI Tryz.prog 36=some (([i64 0,i64 0,i64 0,str ByteArray.empty]:List PV)++List.replicate 32 (b8 0#8)++([.sl true 1 [],.sl true 2 []]:List PV)):=by kernel_rfl
theorem zxp:yF Tryz.prog 36=true:=by kernel_rfl
theorem zxq : ∀ parts,yi Tryz.prog 36 parts=(yj (fun i=>[some (0,1),some (1,1),some (2,1),some (3,1),some (4,32),some (36,1),some (37,1)][i]?.join) ((([i64 0,i64 0,i64 0,str ByteArray.empty]:List PV)++List.replicate 32 (b8 0#8)++([.sl true 1 [],.sl true 2 []]:List PV)).map .p) parts).map zq:=fun _=>zB (by kernel_rfl) zpb
theorem cells37:Tryz.prog.cellsOf 37=1:=by kernel_rfl
theorem zxr:Tryz.prog.bytesOf 37=8:=by kernel_rfl
theorem zxs:zau Tryz.prog 37=true:=by kernel_rfl
theorem zxt:zI Tryz.prog 37=some ([zw 0#64]):=by kernel_rfl
theorem zxu:yF Tryz.prog 37=true:=by kernel_rfl
theorem cells39:Tryz.prog.cellsOf 39=6:=by kernel_rfl
theorem zpc:zI Tryz.prog 39=some ([i64 0,i64 0,zw 0#64,zw 0#64,zw 0#64,zw 0#64]):=by kernel_rfl
theorem zxv:yF Tryz.prog 39=true:=by kernel_rfl
theorem zxw : ∀ parts,yi Tryz.prog 39 parts=(yj (fun i=>[some (0,1),some (1,1),some (2,1),some (3,1),some (4,1),some (5,1)][i]?.join) ([.p (i64 0),.p (i64 0),.p (zw 0#64),.p (zw 0#64),.p (zw 0#64),.p (zw 0#64)]) parts).map zq:=fun _=>zB (by kernel_rfl) zpc
theorem cells40:Tryz.prog.cellsOf 40=1:=by kernel_rfl
theorem zxx:yF Tryz.prog 40=true:=by kernel_rfl
theorem cells41:Tryz.prog.cellsOf 41=1:=by kernel_rfl
theorem cells43:Tryz.prog.cellsOf 43=3:=by kernel_rfl
theorem zpd:zI Tryz.prog 43=some ([i64 0,.sl true 1 [],i64 0]):=by kernel_rfl
theorem zxy : ∀ parts,yi Tryz.prog 43 parts=(yj (fun i=>[some (0,1),some (1,1),some (2,1)][i]?.join) ([.p (i64 0),.p (.sl true 1 []),.p (i64 0)]) parts).map zq:=fun _=>zB (by kernel_rfl) zpd
theorem zrn:isIface Tryz.prog 44=false:=by kernel_rfl
theorem zpe:Tryz.prog.cellsOf 61=2:=by kernel_rfl
theorem zxz:Tryz.prog.bytesOf 61=16:=by kernel_rfl
theorem ztz:z8 Tryz.prog 61=true:=by kernel_rfl
theorem zpf:zI Tryz.prog 61=some ([zw 0#64,zw 0#64]):=by kernel_rfl
theorem zxA:yF Tryz.prog 61=true:=by kernel_rfl
theorem zxB : ∀ parts,yi Tryz.prog 61 parts=(yj (fun i=>[some (0,1),some (1,1)][i]?.join) ([.p (zw 0#64),.p (zw 0#64)]) parts).map zq:=fun _=>zB (by kernel_rfl) zpf
theorem cells69:Tryz.prog.cellsOf 69=49:=by kernel_rfl
theorem zpg:zI Tryz.prog 69=some (([str ByteArray.empty,i64 0]:List PV)++List.replicate 32 (b8 0#8)++([i64 0,i64 0,i64 0,i64 0,.sl true 1 [],.sl true 1 [],.sl true 6 [],.sl true 6 [],.sl true 1 [],zw 0#64,zw 0#64,.sl true 2 [],.sl true 2 [],.sl true 1 [],.sl true 32 []]:List PV)):=by kernel_rfl
theorem zxC:yF Tryz.prog 69=true:=by kernel_rfl
theorem zxD : ∀ parts,yi Tryz.prog 69 parts=(yj (fun i=>[some (0,1),some (1,1),some (2,32),some (34,4),some (38,1),some (39,3),some (42,1),some (43,2),some (45,4)][i]?.join) ((([str ByteArray.empty,i64 0]:List PV)++List.replicate 32 (b8 0#8)++([i64 0,i64 0,i64 0,i64 0,.sl true 1 [],.sl true 1 [],.sl true 6 [],.sl true 6 [],.sl true 1 [],zw 0#64,zw 0#64,.sl true 2 [],.sl true 2 [],.sl true 1 [],.sl true 32 []]:List PV)).map .p) parts).map zq:=fun _=>zB (by kernel_rfl) zpg
theorem zxE:Tryz.prog.cellsOf 81=78:=by kernel_rfl
theorem zph:zI Tryz.prog 81=some (([i64 0,i64 0,i64 0,str ByteArray.empty]:List PV)++List.replicate 32 (b8 0#8)++([i64 0,i64 0,i64 0,str ByteArray.empty]:List PV)++List.replicate 32 (b8 0#8)++([.sl true 1 [],.sl true 2 [],i64 0,i64 0,i64 0,i64 0]:List PV)):=by kernel_rfl
theorem zxF : ∀ parts,yi Tryz.prog 81 parts=(yj (fun i=>[some (0,1),some (1,1),some (2,1),some (3,1),some (4,32),some (36,38),some (74,1),some (75,3)][i]?.join) ((([i64 0,i64 0,i64 0,str ByteArray.empty]:List PV)++List.replicate 32 (b8 0#8)++([i64 0,i64 0,i64 0,str ByteArray.empty]:List PV)++List.replicate 32 (b8 0#8)++([.sl true 1 [],.sl true 2 [],i64 0,i64 0,i64 0,i64 0]:List PV)).map .p) parts).map zq:=fun _=>zB (by kernel_rfl) zph
theorem zxG:Tryz.prog.cellsOf 90=156:=by kernel_rfl
theorem zpi:zI Tryz.prog 90=some (([i64 0,i64 0,i64 0,str ByteArray.empty]:List PV)++List.replicate 32 (b8 0#8)++([i64 0,i64 0,i64 0,str ByteArray.empty]:List PV)++List.replicate 32 (b8 0#8)++([.sl true 1 [],.sl true 2 []]:List PV)++List.replicate 7 (i64 0)++([str ByteArray.empty]:List PV)++List.replicate 32 (b8 0#8)++([i64 0,i64 0,i64 0,str ByteArray.empty]:List PV)++List.replicate 32 (b8 0#8)++([.sl true 1 [],.sl true 2 [],i64 0,i64 0,i64 0,i64 0]:List PV)):=by kernel_rfl
theorem zxH : ∀ parts,yi Tryz.prog 90 parts=(yj (fun i=>some (i*78,78)) ((([i64 0,i64 0,i64 0,str ByteArray.empty]:List PV)++List.replicate 32 (b8 0#8)++([i64 0,i64 0,i64 0,str ByteArray.empty]:List PV)++List.replicate 32 (b8 0#8)++([.sl true 1 [],.sl true 2 []]:List PV)++List.replicate 7 (i64 0)++([str ByteArray.empty]:List PV)++List.replicate 32 (b8 0#8)++([i64 0,i64 0,i64 0,str ByteArray.empty]:List PV)++List.replicate 32 (b8 0#8)++([.sl true 1 [],.sl true 2 [],i64 0,i64 0,i64 0,i64 0]:List PV)).map .p) parts).map zq:=fun _=>zcx (by kernel_rfl) zpi
theorem zxI:Tryz.prog.cellsOf 99=1:=by kernel_rfl
theorem ztA:Tryz.prog.cellsOf 101=5:=by kernel_rfl
theorem ztB:Tryz.prog.bytesOf 101=72:=by kernel_rfl
theorem zkX:zI Tryz.prog 101=some ([i64 0,i64 0,bo false,.sl true 3 [],.sl true 32 []]):=by kernel_rfl
theorem ztC:yF Tryz.prog 101=true:=by kernel_rfl
theorem ztD : ∀ parts,yi Tryz.prog 101 parts=(yj (fun i=>[some (0,1),some (1,1),some (2,1),some (3,1),some (4,1)][i]?.join) ([.p (i64 0),.p (i64 0),.p (bo false),.p (.sl true 3 []),.p (.sl true 32 [])]) parts).map zq:=fun _=>zB (by kernel_rfl) zkX
theorem ztE:Tryz.prog.cellsOf 103=3:=by kernel_rfl
theorem ztF:Tryz.prog.bytesOf 103=56:=by kernel_rfl
theorem zkY:zI Tryz.prog 103=some ([.sl true 2 [],.sl true 2 [],bo false]):=by kernel_rfl
theorem ztG:yF Tryz.prog 103=true:=by kernel_rfl
theorem ztH : ∀ parts,yi Tryz.prog 103 parts=(yj (fun i=>[some (0,1),some (1,1),some (2,1)][i]?.join) ([.p (.sl true 2 []),.p (.sl true 2 []),.p (bo false)]) parts).map zq:=fun _=>zB (by kernel_rfl) zkY
theorem ztI:Tryz.prog.cellsOf 104=1:=by kernel_rfl
theorem ztJ:Tryz.prog.cellsOf 106=34:=by kernel_rfl
theorem ztK:Tryz.prog.bytesOf 106=64:=by kernel_rfl
theorem zkZ:zI Tryz.prog 106=some (([zw 0#64]:List PV)++List.replicate 32 (b8 0#8)++([.sl true 5 []]:List PV)):=by kernel_rfl
theorem ztL:yF Tryz.prog 106=true:=by kernel_rfl
theorem ztM : ∀ parts,yi Tryz.prog 106 parts=(yj (fun i=>[some (0,1),some (1,32),some (33,1)][i]?.join) ((([zw 0#64]:List PV)++List.replicate 32 (b8 0#8)++([.sl true 5 []]:List PV)).map .p) parts).map zq:=fun _=>zB (by kernel_rfl) zkZ
theorem zgx:Tryz.prog.cellsOf 109=2:=by kernel_rfl
theorem zk0:zI Tryz.prog 109=some ([i64 0,i64 0]):=by kernel_rfl
theorem ztN : ∀ parts,yi Tryz.prog 109 parts=(yj (fun i=>[some (0,1),some (1,1)][i]?.join) ([.p (i64 0),.p (i64 0)]) parts).map zq:=fun _=>zB (by kernel_rfl) zk0
theorem zgy:Tryz.prog.cellsOf 114=34:=by kernel_rfl
theorem zk1:zI Tryz.prog 114=some (([str ByteArray.empty,i64 0]:List PV)++List.replicate 32 (b8 0#8)):=by kernel_rfl
theorem ztO : ∀ parts,yi Tryz.prog 114 parts=(yj (fun i=>[some (0,1),some (1,1),some (2,32)][i]?.join) ((([str ByteArray.empty,i64 0]:List PV)++List.replicate 32 (b8 0#8)).map .p) parts).map zq:=fun _=>zB (by kernel_rfl) zk1
theorem ztP:Tryz.prog.cellsOf 117=78:=by kernel_rfl
theorem ztQ:zI Tryz.prog 117=some (([i64 0,i64 0,i64 0,str ByteArray.empty]:List PV)++List.replicate 32 (b8 0#8)++([i64 0,i64 0,i64 0,str ByteArray.empty]:List PV)++List.replicate 32 (b8 0#8)++([.sl true 1 [],.sl true 2 [],i64 0,i64 0,i64 0,i64 0]:List PV)):=by kernel_rfl
theorem zk2:Tryz.prog.cellsOf 138=1:=by kernel_rfl
theorem zgz:Tryz.prog.cellsOf 140=3:=by kernel_rfl
theorem ztR:zI Tryz.prog 140=some ([i64 0,i64 0,.s .nilFunc]):=by kernel_rfl
theorem ztS:Tryz.prog.cellsOf 145=1:=by kernel_rfl
theorem ztT:zI Tryz.prog 145=some ([.s .nilFunc]):=by kernel_rfl
theorem ztU:Tryz.prog.cellsOf 150=1:=by kernel_rfl
theorem ztV:zI Tryz.prog 150=some ([.sl true 1 []]):=by kernel_rfl
theorem zk3:zI Tryz.prog 157=some ([.sl true 1 [],bo false]):=by kernel_rfl
theorem ztW : ∀ parts,yi Tryz.prog 157 parts=(yj (fun i=>[some (0,1),some (1,1)][i]?.join) ([.p (.sl true 1 []),.p (bo false)]) parts).map zq:=fun _=>zB (by kernel_rfl) zk3
theorem zgA:Tryz.prog.cellsOf 171=1:=by kernel_rfl
theorem zxJ:z8 Tryz.prog 171=false:=by kernel_rfl
theorem ztX:zau Tryz.prog 171=true:=by kernel_rfl
theorem zk4:Tryz.prog.cellsOf 172=8:=by kernel_rfl
theorem zk5:zI Tryz.prog 172=some (List.replicate 8 (zN 0#32)):=by kernel_rfl
theorem ztY : ∀ parts,yi Tryz.prog 172 parts=(yj (fun i=>some (i*1,1)) ((List.replicate 8 (zN 0#32)).map .p) parts).map zq:=fun _=>zcx (by kernel_rfl) zk5
theorem ztZ:Tryz.prog.cellsOf 180=8:=by kernel_rfl
theorem zt0:zI Tryz.prog 180=some (List.replicate 8 (zN 0#32)):=by kernel_rfl
theorem zk6:Tryz.prog.cellsOf 192=64:=by kernel_rfl
theorem zk7:zI Tryz.prog 192=some (List.replicate 64 (zN 0#32)):=by kernel_rfl
theorem zt1 : ∀ parts,yi Tryz.prog 192 parts=(yj (fun i=>some (i*1,1)) ((List.replicate 64 (zN 0#32)).map .p) parts).map zq:=fun _=>zcx (by kernel_rfl) zk7
theorem zxK:enters Tryz.prog 9=true:=by kernel_rfl
theorem zt2:enters Tryz.prog 10=true:=by kernel_rfl
theorem zt3:enters Tryz.prog 11=true:=by kernel_rfl
theorem zt4:enters Tryz.prog 12=true:=by kernel_rfl
theorem zt5:enters Tryz.prog 13=true:=by kernel_rfl
theorem zt6:enters Tryz.prog 14=true:=by kernel_rfl
theorem zt7:enters Tryz.prog 15=true:=by kernel_rfl
theorem zt8:enters Tryz.prog 16=true:=by kernel_rfl
theorem zt9:enters Tryz.prog 17=true:=by kernel_rfl
theorem zua:enters Tryz.prog 18=true:=by kernel_rfl
theorem zub:enters Tryz.prog 20=true:=by kernel_rfl
theorem zuc:enters Tryz.prog 24=true:=by kernel_rfl
theorem zud:enters Tryz.prog 25=true:=by kernel_rfl
theorem zue:enters Tryz.prog 26=true:=by kernel_rfl
theorem zuf:enters Tryz.prog 27=true:=by kernel_rfl
theorem zug:enters Tryz.prog 28=true:=by kernel_rfl
theorem zuh:enters Tryz.prog 29=true:=by kernel_rfl
theorem zui:enters Tryz.prog 30=true:=by kernel_rfl
theorem zuj:enters Tryz.prog 31=true:=by kernel_rfl
theorem zuk:enters Tryz.prog 32=true:=by kernel_rfl
theorem zul:enters Tryz.prog 33=true:=by kernel_rfl
theorem zum:enters Tryz.prog 34=true:=by kernel_rfl
theorem zun:enters Tryz.prog 35=true:=by kernel_rfl
theorem zuo:enters Tryz.prog 36=true:=by kernel_rfl
theorem zup:enters Tryz.prog 37=true:=by kernel_rfl
theorem zk8:enters Tryz.prog 38=true:=by kernel_rfl
theorem zuq:enters Tryz.prog 40=true:=by kernel_rfl
theorem zur:enters Tryz.prog 42=true:=by kernel_rfl
theorem zus:enters Tryz.prog 43=true:=by kernel_rfl
theorem zut:enters Tryz.prog 44=true:=by kernel_rfl
theorem zuu:enters Tryz.prog 45=true:=by kernel_rfl
theorem zgB:enters Tryz.prog 46=true:=by kernel_rfl
theorem zuv:enters Tryz.prog 47=true:=by kernel_rfl
theorem zuw:enters Tryz.prog 48=true:=by kernel_rfl
theorem zux:enters Tryz.prog 49=true:=by kernel_rfl
theorem zuy:enters Tryz.prog 50=true:=by kernel_rfl
theorem zuz:enters Tryz.prog 51=true:=by kernel_rfl
theorem zuA:enters Tryz.prog 52=true:=by kernel_rfl
theorem zuB:enters Tryz.prog 53=true:=by kernel_rfl
theorem zuC:enters Tryz.prog 54=true:=by kernel_rfl
theorem zuD:enters Tryz.prog 57=true:=by kernel_rfl
theorem zuE:enters Tryz.prog 58=true:=by kernel_rfl
theorem zuF:enters Tryz.prog 59=true:=by kernel_rfl
theorem zuG:enters Tryz.prog 60=true:=by kernel_rfl
theorem zuH:enters Tryz.prog 61=true:=by kernel_rfl
theorem zuI:enters Tryz.prog 62=true:=by kernel_rfl
theorem zuJ:enters Tryz.prog 63=true:=by kernel_rfl
theorem zuK:enters Tryz.prog 64=true:=by kernel_rfl
theorem zuL:enters Tryz.prog 65=true:=by kernel_rfl
theorem zuM:enters Tryz.prog 66=true:=by kernel_rfl
theorem zuN:enters Tryz.prog 67=true:=by kernel_rfl
theorem zuO:enters Tryz.prog 68=true:=by kernel_rfl
theorem zk9:enters Tryz.prog 69=true:=by kernel_rfl
theorem zuP:enters Tryz.prog 70=true:=by kernel_rfl
theorem zuQ:enters Tryz.prog 71=true:=by kernel_rfl
theorem zuR:enters Tryz.prog 72=true:=by kernel_rfl
theorem zuS:enters Tryz.prog 73=true:=by kernel_rfl
theorem zuT:enters Tryz.prog 74=true:=by kernel_rfl
theorem zuU:enters Tryz.prog 75=true:=by kernel_rfl
theorem zuV:enters Tryz.prog 76=true:=by kernel_rfl
theorem zuW:enters Tryz.prog 77=true:=by kernel_rfl
theorem zuX:enters Tryz.prog 78=true:=by kernel_rfl
theorem zuY:enters Tryz.prog 79=true:=by kernel_rfl
theorem zuZ:enters Tryz.prog 80=true:=by kernel_rfl
theorem zu0:enters Tryz.prog 81=true:=by kernel_rfl
theorem zu1:enters Tryz.prog 82=true:=by kernel_rfl
theorem zu2:enters Tryz.prog 83=true:=by kernel_rfl
theorem zu3:enters Tryz.prog 84=true:=by kernel_rfl
theorem zla:enters Tryz.prog 85=true:=by kernel_rfl
theorem zu4:enters Tryz.prog 86=true:=by kernel_rfl
theorem zu5:enters Tryz.prog 87=true:=by kernel_rfl
theorem zu6:enters Tryz.prog 88=true:=by kernel_rfl
theorem zu7:enters Tryz.prog 89=true:=by kernel_rfl
theorem zu8:enters Tryz.prog 90=true:=by kernel_rfl
theorem zlb:enters Tryz.prog 91=true:=by kernel_rfl
theorem zu9:enters Tryz.prog 92=true:=by kernel_rfl
theorem zva:enters Tryz.prog 93=true:=by kernel_rfl
theorem zvb:enters Tryz.prog 94=true:=by kernel_rfl
theorem zvc:enters Tryz.prog 95=true:=by kernel_rfl
theorem zvd:enters Tryz.prog 96=true:=by kernel_rfl
theorem zve:enters Tryz.prog 97=true:=by kernel_rfl
theorem zvf:enters Tryz.prog 98=true:=by kernel_rfl
theorem zvg:enters Tryz.prog 99=true:=by kernel_rfl
theorem zro:enters Tryz.prog 100=true:=by kernel_rfl
theorem zrp:enters Tryz.prog 101=true:=by kernel_rfl
theorem zrq:enters Tryz.prog 102=true:=by kernel_rfl
theorem zrr:enters Tryz.prog 103=true:=by kernel_rfl
theorem zrs:enters Tryz.prog 104=true:=by kernel_rfl
theorem zrt:enters Tryz.prog 105=true:=by kernel_rfl
theorem zru:enters Tryz.prog 106=true:=by kernel_rfl
theorem zrv:enters Tryz.prog 107=true:=by kernel_rfl
theorem zrw:enters Tryz.prog 108=true:=by kernel_rfl
theorem zrx:enters Tryz.prog 109=true:=by kernel_rfl
theorem zry:enters Tryz.prog 110=true:=by kernel_rfl
theorem zh4:enters Tryz.prog 143=true:=by kernel_rfl
theorem zh5:enters Tryz.prog 144=true:=by kernel_rfl
theorem zh6:enters Tryz.prog 145=true:=by kernel_rfl
theorem zh7:enters Tryz.prog 146=true:=by kernel_rfl
theorem zh8:enters Tryz.prog 147=true:=by kernel_rfl
theorem zpj:zeG Tryz.prog 109=true:=by kernel_rfl
theorem zpk:zeG Tryz.prog 114=true:=by kernel_rfl
theorem zvh:zeG Tryz.prog 3=true:=by kernel_rfl
theorem zh9:zb1 Tryz.prog 140=some (.p (.agg [i64 0,i64 0,.s .nilFunc])):=by kernel_rfl
theorem zpl:zb1 Tryz.prog 3=some (.p (i64 0)):=by kernel_rfl
theorem follows:Tryz.prog.follows .mixedOrders=true:=by kernel_rfl
attribute [go_sem] cells2 zAh zzs zAi zAj cells3 bytes3 zAk zAl cells4 zxj zAm cells5 bytes5 ztt zAn zAo zAp cells9 cells22 zrm zxk cells23 cells24 cells26 ztu zo8 zxl ztv cells29 ztw zo9 build29 cells33 zpa zxm cells34 ztx zxn cells36 zxo zty zpb zxp zxq cells37 zxr zxs zxt zxu cells39 zpc zxv zxw cells40 zxx cells41 cells43 zpd zxy zrn zpe zxz ztz zpf zxA zxB cells69 zpg zxC zxD zxE zph zxF zxG zpi zxH zxI ztA ztB zkX ztC ztD ztE ztF zkY ztG ztH ztI ztJ ztK zkZ ztL ztM zgx zk0 ztN zgy zk1 ztO ztP ztQ zk2 zgz ztR ztS ztT ztU ztV zk3 ztW zgA zxJ ztX zk4 zk5 ztY ztZ zt0 zk6 zk7 zt1 zxK zt2 zt3 zt4 zt5 zt6 zt7 zt8 zt9 zua zub zuc zud zue zuf zug zuh zui zuj zuk zul zum zun zuo zup zk8 zuq zur zus zut zuu zgB zuv zuw zux zuy zuz zuA zuB zuC zuD zuE zuF zuG zuH zuI zuJ zuK zuL zuM zuN zuO zk9 zuP zuQ zuR zuS zuT zuU zuV zuW zuX zuY zuZ zu0 zu1 zu2 zu3 zla zu4 zu5 zu6 zu7 zu8 zlb zu9 zva zvb zvc zvd zve zvf zvg zro zrp zrq zrr zrs zrt zru zrv zrw zrx zry zh4 zh5 zh6 zh7 zh8 zpj zpk zvh zh9 zpl
attribute [go_sem] Tryz.underlying1 Tryz.underlying2 Tryz.underlying3 Tryz.underlying4 Tryz.underlying5 Tryz.underlying6 Tryz.underlying7 Tryz.underlying8 Tryz.underlying9 Tryz.underlying10 Tryz.underlying11 Tryz.underlying12 Tryz.underlying13 Tryz.underlying14 Tryz.underlying15 Tryz.underlying16 Tryz.underlying17 Tryz.underlying18 Tryz.underlying19 Tryz.underlying20 Tryz.underlying21 Tryz.underlying22 Tryz.underlying23 Tryz.underlying24 Tryz.underlying25 Tryz.underlying26 Tryz.underlying27 Tryz.underlying28 Tryz.underlying29 Tryz.underlying30 Tryz.underlying31 Tryz.underlying32 Tryz.underlying33 Tryz.underlying34 Tryz.underlying35 Tryz.underlying36 Tryz.underlying37 Tryz.underlying38 Tryz.underlying39 Tryz.underlying40 Tryz.underlying41 Tryz.underlying42 Tryz.underlying43 Tryz.underlying44 Tryz.underlying45 Tryz.underlying46 Tryz.underlying47 Tryz.underlying48 Tryz.underlying49 Tryz.underlying50 Tryz.underlying51 Tryz.underlying53 Tryz.underlying54 Tryz.underlying55 Tryz.underlying56 Tryz.underlying57 Tryz.underlying58 Tryz.underlying59 Tryz.underlying60 Tryz.underlying61 Tryz.underlying62 Tryz.underlying63 Tryz.underlying64 Tryz.underlying65 Tryz.underlying66 Tryz.underlying67 Tryz.underlying68 Tryz.underlying69 Tryz.underlying70 Tryz.underlying71 Tryz.underlying72 Tryz.underlying73 Tryz.underlying74 Tryz.underlying75 Tryz.underlying76 Tryz.underlying77 Tryz.underlying78 Tryz.underlying79 Tryz.underlying80 Tryz.underlying81 Tryz.underlying82 Tryz.underlying84 Tryz.underlying86 Tryz.underlying87 Tryz.underlying88 Tryz.underlying89 Tryz.underlying90 Tryz.underlying91 Tryz.underlying92 Tryz.underlying93 Tryz.underlying94 Tryz.underlying95 Tryz.underlying97 Tryz.underlying98 Tryz.underlying99 Tryz.underlying100 Tryz.underlying101 Tryz.underlying102 Tryz.underlying103 Tryz.underlying104 Tryz.underlying105 Tryz.underlying106 Tryz.underlying107 Tryz.underlying108 Tryz.underlying109 Tryz.underlying111 Tryz.underlying112 Tryz.underlying113 Tryz.underlying114 Tryz.underlying116 Tryz.underlying117 Tryz.underlying118 Tryz.underlying120 Tryz.underlying121 Tryz.underlying122 Tryz.underlying123 Tryz.underlying124 Tryz.underlying125 Tryz.underlying126 Tryz.underlying127 Tryz.underlying128 Tryz.underlying129 Tryz.underlying130 Tryz.underlying131 Tryz.underlying132 Tryz.underlying133 Tryz.underlying134 Tryz.underlying135 Tryz.underlying136 Tryz.underlying137 Tryz.underlying138 Tryz.underlying139 Tryz.underlying140 Tryz.underlying142 Tryz.underlying143 Tryz.underlying144 Tryz.underlying145 Tryz.underlying146 Tryz.underlying148 Tryz.underlying149 Tryz.underlying150 Tryz.underlying151 Tryz.underlying152 Tryz.underlying153 Tryz.underlying154 Tryz.underlying155 Tryz.underlying156 Tryz.underlying157 Tryz.underlying158 Tryz.underlying159 Tryz.underlying160 Tryz.underlying161 Tryz.underlying162 Tryz.underlying164 Tryz.underlying165 Tryz.underlying166 Tryz.underlying167 Tryz.underlying168 Tryz.underlying169 Tryz.underlying170 Tryz.underlying171 Tryz.underlying172 Tryz.underlying173 Tryz.underlying174 Tryz.underlying175 Tryz.underlying176 Tryz.underlying177 Tryz.underlying178 Tryz.underlying179 Tryz.underlying180 Tryz.underlying181 Tryz.underlying182 Tryz.underlying183 Tryz.underlying184 Tryz.underlying185 Tryz.underlying186 Tryz.underlying187 Tryz.underlying188 Tryz.underlying189 Tryz.underlying190 Tryz.underlying191 Tryz.underlying192 Tryz.underlying193 Tryz.underlying194 Tryz.underlying195 Tryz.underlying196 Tryz.underlying197 Tryz.underlying198 Tryz.underlying199 Tryz.underlying200 Tryz.underlying201 Tryz.underlying202 Tryz.underlying203 Tryz.underlying204 Tryz.underlying205 Tryz.underlying206 Tryz.underlying207 Tryz.underlying208 Tryz.underlying209 Tryz.underlying210 Tryz.underlying211 Tryz.underlying212 Tryz.underlying213 Tryz.underlying214 Tryz.underlying215 Tryz.underlying216 Tryz.underlying217 Tryz.underlying218 Tryz.underlying219 Tryz.underlying220 Tryz.underlying221 Tryz.underlying222 Tryz.underlying223 Tryz.underlying224 Tryz.underlying225 Tryz.underlying226 Tryz.underlying227 Tryz.underlying228 Tryz.underlying229 Tryz.underlying230 Tryz.underlying231 Tryz.underlying232 Tryz.underlying233 Tryz.underlying234 Tryz.underlying235 Tryz.underlying236 Tryz.underlying237 Tryz.underlying238 Tryz.underlying239 Tryz.underlying240 Tryz.underlying241

end Go.Proofs.YtgflpgcogkdpgaaGreatDoor

/-
  The walk of slices.Clone.
-/
namespace Go.Proofs.YtgflpgcogkdpgaaGreatDoor
open Go Go.AL

set_option maxHeartbeats 4000000 in
theorem znL {G:Globs} (a:List (BitVec 8)) (ha:a.length≤140737488355000) (H:Hp) (R:AV → Hp → Prop) (h:R (.sl H.n 0 1 (pl b8 a)) (H.new (.tail 0))) :
 ACall Tryz.prog G 103 [.p (.sl false 1 (pl b8 a))] H R:=by
 refine ACall.of_run (raw:=[]) Tryz.func103 rfl Tryz.ntmps103 (by simp) fun hbel => ?_
 refine .q ?_;refine .text ?_;simp (disch:=first|exact za|fail) only [go_sem,seval]
 refine .q ?_
 refine .region (.one rfl (by simp (disch:=first|exact za|fail) only [go_sem,seval];rfl) rfl ?_)
 refine .isNil (e:=5) Tryz.underlying22 (xs:=pl b8 a) (fl:=false) (sz:=1) (by simp (disch:=first|exact za|fail) only [go_sem,seval]) rfl fun b hb => .nil ?_
 cases b with
 | true =>
  have ha0:a=[]:=by have:=hb rfl;cases a with | nil=>rfl | cons x l=>cases this
  subst ha0
  refine .q ?_;refine .ifT (by simp (disch:=first|exact za|fail) only [go_sem,seval]) ?_
  refine .q ?_;refine .text ?_;simp (disch:=first|exact za|fail) only [go_sem,seval]
  refine .q ?_;refine .own 2 (by simp (disch:=first|exact za|fail) only [go_sem,seval];rfl) ?_
  refine .q ?_;refine .retOwn Tryz.func103 (by rw [Tryz.results103]) (by simp (disch:=first|exact za|fail) only [go_sem,seval];rfl) (by simp (disch:=first|exact za|fail) only [go_sem,seval]) (by first | exact Nat.le_refl _ | (dsimp only;omega)) (by (try dsimp only);repeat (first | with_reducible refine zv ?_ za | with_reducible refine zad ?_ za | with_reducible refine zaR ?_ za | with_reducible refine yY ?_ | with_reducible exact hbel | with_reducible exact hbel _)) ?_;simp (disch:=first|exact za|fail) only [go_sem,seval]
  exact h
 | false =>
  refine .q ?_;refine .ifF (by simp (disch:=first|exact za|fail) only [go_sem,seval]) ?_
  refine .q ?_;refine .text ?_;simp (disch:=first|exact za|fail) only [go_sem,seval]
  refine .q ?_;refine .retOwn Tryz.func103 (by rw [Tryz.results103]) (by simp (disch:=first|exact za|fail) only [go_sem,seval];rfl) (by simp (disch:=first|exact za|fail) only [go_sem,seval]) (by first | exact Nat.le_refl _ | (dsimp only;omega)) (by (try dsimp only);repeat (first | with_reducible refine zv ?_ za | with_reducible refine zad ?_ za | with_reducible refine zaR ?_ za | with_reducible refine yY ?_ | with_reducible exact hbel | with_reducible exact hbel _)) ?_;simp (disch:=first|exact za|fail) only [go_sem,seval]
  exact h

end Go.Proofs.YtgflpgcogkdpgaaGreatDoor

/-
  SHA-256's round and schedule as plain functions on words.
-/
namespace Go.Proofs.YtgflpgcogkdpgaaGreatDoor
open Go Go.AL

def zem (x:BitVec 32) (n:Nat):BitVec 32:=x >>> n ||| x <<< (32 - n)
def sg0 (x:BitVec 32):BitVec 32:=zem x 7 ^^^ zem x 18 ^^^ x >>> 3
def sg1 (x:BitVec 32):BitVec 32:=zem x 17 ^^^ zem x 19 ^^^ x >>> 10
def bg0 (x:BitVec 32):BitVec 32:=zem x 2 ^^^ zem x 13 ^^^ zem x 22
def bg1 (x:BitVec 32):BitVec 32:=zem x 6 ^^^ zem x 11 ^^^ zem x 25

def word (b:List (BitVec 8)) (i:Nat):BitVec 32:=(nth b (4*i)).setWidth 32*16777216#32+(nth b (4*i+1)).setWidth 32*65536#32+(nth b (4*i+2)).setWidth 32*256#32+(nth b (4*i+3)).setWidth 32

def zlc (b:List (BitVec 8)) (w:List (BitVec 32)) (i:Nat):BitVec 32:=if i < 16 then word b i else nth w (i - 16)+sg0 (nth w (i - 15))+nth w (i - 7)+sg1 (nth w (i - 2))

def sW (b:List (BitVec 8)):Nat → List (BitVec 32)
 | 0=>List.replicate 64 0#32
 | i+1=>(sW b i).set i (zlc b (sW b i) i)

theorem zgC (b:List (BitVec 8)) (i:Nat):(sW b i).length=64:=by
 induction i with
 | zero=>simp [sW]
 | succ i ih=>simp [sW,ih]

attribute [go_sem] zgC
def ks:List (BitVec 32):=[
 0x428a2f98#32,0x71374491#32,0xb5c0fbcf#32,0xe9b5dba5#32,0x3956c25b#32,0x59f111f1#32,0x923f82a4#32,0xab1c5ed5#32,
 0xd807aa98#32,0x12835b01#32,0x243185be#32,0x550c7dc3#32,0x72be5d74#32,0x80deb1fe#32,0x9bdc06a7#32,0xc19bf174#32,
 0xe49b69c1#32,0xefbe4786#32,0x0fc19dc6#32,0x240ca1cc#32,0x2de92c6f#32,0x4a7484aa#32,0x5cb0a9dc#32,0x76f988da#32,
 0x983e5152#32,0xa831c66d#32,0xb00327c8#32,0xbf597fc7#32,0xc6e00bf3#32,0xd5a79147#32,0x06ca6351#32,0x14292967#32,
 0x27b70a85#32,0x2e1b2138#32,0x4d2c6dfc#32,0x53380d13#32,0x650a7354#32,0x766a0abb#32,0x81c2c92e#32,0x92722c85#32,
 0xa2bfe8a1#32,0xa81a664b#32,0xc24b8b70#32,0xc76c51a3#32,0xd192e819#32,0xd6990624#32,0xf40e3585#32,0x106aa070#32,
 0x19a4c116#32,0x1e376c08#32,0x2748774c#32,0x34b0bcb5#32,0x391c0cb3#32,0x4ed8aa4a#32,0x5b9cca4f#32,0x682e6ff3#32,
 0x748f82ee#32,0x78a5636f#32,0x84c87814#32,0x8cc70208#32,0x90befffa#32,0xa4506ceb#32,0xbef9a3f7#32,0xc67178f2#32]
def inits:List (BitVec 32):=[0x6a09e667#32,0xbb67ae85#32,0x3c6ef372#32,0xa54ff53a#32,0x510e527f#32,0x9b05688c#32,0x1f83d9ab#32,0x5be0cd19#32]

structure St where
 (a b c d e f g h:BitVec 32)

def rnd (s:St) (k w:BitVec 32):St :=
 let t:=s.h+bg1 s.e+(s.e &&& s.f ^^^ (4294967295#32 - s.e) &&& s.g)+k+w
 let u:=bg0 s.a+(s.a &&& s.b ||| s.a &&& s.c ||| s.b &&& s.c)
 ⟨t+u,s.a,s.b,s.c,s.d+t,s.e,s.f,s.g⟩
def zc7 (w:List (BitVec 32)) (s:St):Nat → St
 | 0=>s
 | i+1=>rnd (zc7 w s i) (nth ks i) (nth w i)
def st (s:List (BitVec 32)):St:=⟨nth s 0,nth s 1,nth s 2,nth s 3,nth s 4,nth s 5,nth s 6,nth s 7⟩
def fin (s:List (BitVec 32)) (z:St):List (BitVec 32):=[nth s 0+z.a,nth s 1+z.b,nth s 2+z.c,nth s 3+z.d,nth s 4+z.e,nth s 5+z.f,nth s 6+z.g,nth s 7+z.h]
def comp (s:List (BitVec 32)) (b:List (BitVec 8)):List (BitVec 32):=fin s (zc7 (sW b 64) (st s) 64)
end Go.Proofs.YtgflpgcogkdpgaaGreatDoor

/-
  The walks of the functions that compute one round: rotations,the tables.
-/
namespace Go.Proofs.YtgflpgcogkdpgaaGreatDoor
open Go Go.AL

theorem yq {G:Globs} (x:BitVec 32) (n:Nat) (hn:n≤32) (H:Hp) (R:AV → Hp → Prop) (h:R (.p (zN (zem x n))) H):ACall Tryz.prog G 99 [.p (zN x),.p (i64 n)] H R:=by
 refine ACall.of_run (raw:=[]) Tryz.func99 rfl Tryz.ntmps99 (by simp) fun hbel => ?_
 have e:(32 - (n:Int)).toNat=32 - n:=by omega
 refine .q ?_;refine .text ?_;simp (disch:=first|exact za|fail) only [go_sem,seval]
 refine .q ?_;refine .open [] follows (by kernel_rfl) ?_;simp (disch:=first|exact za|fail) only [go_sem,seval,e]
 refine .q ?_;refine .rt Tryz.func99 (by rw [Tryz.results99]) (hR := ?_);simp (disch:=first|exact za|fail) only [go_sem,seval]
 exact h

theorem zC {G:Globs} (x:BitVec 32) (n:Int) (m:Nat) (hm:BitVec.ofInt 64 n &&& 31#64=BitVec.ofNat 64 m) (h1:m≤32) (H:Hp) (R:AV → Hp → Prop) (h:R (.p (zN (zem x (32 - m)))) H):ACall Tryz.prog G 105 [.p (zN x),.p (i64 n)] H R:=by
 have e1:(BitVec.ofNat 64 m).toNat=m:=by simp;omega
 have e2:(32#64 - BitVec.ofNat 64 m).toNat=32 - m:=by simp;omega
 refine ACall.of_run (raw:=[]) Tryz.func105 rfl Tryz.ntmps105 (by simp) fun hbel => ?_
 refine .q ?_;refine .text ?_;simp (disch:=first|exact za|fail) only [go_sem,seval]
 refine .q ?_;refine .text ?_;simp (disch:=first|exact za|fail) only [go_sem,seval]
 refine .q ?_;refine .text ?_;simp (disch:=first|exact za|fail) only [go_sem,seval,hm,e1,e2]
 refine .q ?_;refine .rt Tryz.func105 (by rw [Tryz.results105]) (hR := ?_);simp (disch:=first|exact za|fail) only [go_sem,seval]
 have e:x <<< m ||| x >>> (32 - m)=zem x (32 - m):=by
  unfold zem
  rw [show 32 - (32 - m)=m by omega,BitVec.or_comm]
 rw [e]
 exact h

end Go.Proofs.YtgflpgcogkdpgaaGreatDoor

/-
  The walk of the reference's schedule.
-/
namespace Go.Proofs.YtgflpgcogkdpgaaGreatDoor
open Go Go.AL

set_option maxHeartbeats 4000000 in
theorem zld {G:Globs} (b:List (BitVec 8)) (hb:b.length=64) (H:Hp) (R:AV → Hp → Prop) (h:R (.p (.agg (pl zN (sW b 64)))) H):ACall Tryz.prog G 97 [.p (.sl false 1 (pl b8 b))] H R:=by
 refine ACall.of_run (raw:=[]) Tryz.func97 rfl Tryz.ntmps97 (by simp) fun hbel => ?_
 refine .q ?_;refine .text ?_;simp (disch:=first|exact za|fail) only [go_sem,seval,-List.reduceReplicate]
 refine .q ?_;refine .text ?_;simp (disch:=first|exact za|fail) only [go_sem,seval,-List.reduceReplicate]
 refine .q ?_;refine .text ?_;simp (disch:=first|exact za|fail) only [go_sem,seval,-List.reduceReplicate]
 refine .q ?_
 refine .count (fun i env H'=>env 0 = .p (.sl false 1 (pl b8 b))∧env 2 = .ptr H.n 0∧env 3 = .ptr (H.n+1) 0∧env 4 = .p (i64 i)∧H'=(H.new (.cells (cl zN (List.replicate 64 0#32)))).new (.cells (cl zN (sW b i)))) 0 64 (by omega) ?_ ?_ ?_
 · simp (disch:=first|exact za|fail) only [go_sem,seval,-List.reduceReplicate]
   rw [sW]
 · intro env H' ⟨e0,e2,e3,e4,eH⟩
   subst eH
   refine .q ?_;refine .text ?_;simp (disch:=first|exact za|fail) only [go_sem,seval,-List.reduceReplicate,e0,e2,e3,e4]
   refine .q ?_;refine .ifF (by simp (disch:=first|exact za|fail) only [go_sem,seval,-List.reduceReplicate]) ?_
   refine .q ?_;refine .text ?_;simp (disch:=first|exact za|fail) only [go_sem,seval,-List.reduceReplicate,e0,e2,e3,e4]
   refine .q ?_;refine .rt Tryz.func97 (by rw [Tryz.results97]) (hx:=by simp (disch:=first|exact za|fail) only [go_sem,seval,-List.reduceReplicate,e0,e2,e3,e4];rfl) (hR := ?_);simp (disch:=first|exact za|fail) only [go_sem,seval,-List.reduceReplicate,e0,e2,e3,e4]
   exact h
 · intro i env H' _ hi ⟨e0,e2,e3,e4,eH⟩ ih
   subst eH
   refine .q ?_;refine .text ?_;simp (disch:=first|exact za|fail) only [go_sem,seval,-List.reduceReplicate,e0,e2,e3,e4]
   refine .q ?_;refine .ifT (by simp (disch:=first|exact za|fail) only [go_sem,seval,-List.reduceReplicate]) ?_
   refine .q ?_;refine .text ?_;simp (disch:=first|exact za|fail) only [go_sem,seval,-List.reduceReplicate,e0,e2,e3,e4]
   by_cases hi16:i < 16
   · refine .q ?_;refine .ifT (by simp (disch:=first|exact za|fail) only [go_sem,seval,-List.reduceReplicate]) ?_
     refine .q ?_;refine .open [35] follows (by kernel_rfl) ?_;simp (disch:=first|exact za|fail) only [go_sem,seval,-List.reduceReplicate,e0,e2,e3,e4]
     refine .q ?_;refine .text ?_;simp (disch:=first|exact za|fail) only [go_sem,seval,-List.reduceReplicate,e0,e2,e3,e4]
     refine ih _ _ ?_
     simp (disch:=first|exact za|fail) only [go_sem,seval,-List.reduceReplicate,e0,e2,e3,e4]
     simp only [sW,zlc,if_pos hi16,word]
   · refine .q ?_;refine .ifF (by simp (disch:=first|exact za|fail) only [go_sem,seval,-List.reduceReplicate]) ?_
     refine .q ?_;refine .open [] follows (by kernel_rfl) ?_;simp (disch:=first|exact za|fail) only [go_sem,seval,-List.reduceReplicate,e0,e2,e3,e4]
     refine .q ?_;refine .open [29] follows (by kernel_rfl) ?_;simp (disch:=first|exact za|fail) only [go_sem,seval,-List.reduceReplicate,e0,e2,e3,e4]
     refine CallD.still (fun R h=>yq _ 7 (by omega) _ R h) ?_;simp (disch:=first|exact za|fail) only [go_sem,seval,-List.reduceReplicate,e0,e2,e3,e4]
     refine CallD.still (fun R h=>yq _ 18 (by omega) _ R h) ?_;simp (disch:=first|exact za|fail) only [go_sem,seval,-List.reduceReplicate,e0,e2,e3,e4]
     refine CallD.still (fun R h=>yq _ 17 (by omega) _ R h) ?_;simp (disch:=first|exact za|fail) only [go_sem,seval,-List.reduceReplicate,e0,e2,e3,e4]
     refine CallD.still (fun R h=>yq _ 19 (by omega) _ R h) ?_;simp (disch:=first|exact za|fail) only [go_sem,seval,-List.reduceReplicate,e0,e2,e3,e4]
     refine .q ?_;refine .text ?_;simp (disch:=first|exact za|fail) only [go_sem,seval,-List.reduceReplicate,e0,e2,e3,e4]
     refine ih _ _ ?_
     simp (disch:=first|exact za|fail) only [go_sem,seval,-List.reduceReplicate,e0,e2,e3,e4]
     simp only [sW,zlc,if_neg hi16,sg0,sg1]

end Go.Proofs.YtgflpgcogkdpgaaGreatDoor

/-
  The walks of the reference's tables and of its compression of one block.
-/
namespace Go.Proofs.YtgflpgcogkdpgaaGreatDoor
open Go Go.AL

set_option maxHeartbeats 4000000 in
theorem zgD {G:Globs} (H:Hp) (R:AV → Hp → Prop) (h:R (.p (.agg (pl zN ks))) H):ACall Tryz.prog G 98 [] H R:=by
 refine ACall.of_run (raw:=[]) Tryz.func98 rfl Tryz.ntmps98 (by simp) fun hbel => ?_
 refine .q ?_;refine .text ?_;simp (disch:=first|exact za|fail) only [go_sem,seval,-List.reduceReplicate]
 refine .q ?_;refine .text ?_;simp (disch:=first|exact za|fail) only [go_sem,seval,-List.reduceReplicate,yj]
 refine .q ?_;refine .rt Tryz.func98 (by rw [Tryz.results98]) (hR := ?_);simp (disch:=first|exact za|fail) only [go_sem,seval,-List.reduceReplicate]
 exact h

set_option maxHeartbeats 4000000 in
theorem zi6 {G:Globs} (H:Hp) (R:AV → Hp → Prop) (h:R (.p (.agg (pl zN inits))) H):ACall Tryz.prog G 79 [] H R:=by
 refine ACall.of_run (raw:=[]) Tryz.func79 rfl Tryz.ntmps79 (by simp) fun hbel => ?_
 refine .q ?_;refine .text ?_;simp (disch:=first|exact za|fail) only [go_sem,seval,-List.reduceReplicate]
 refine .q ?_;refine .text ?_;simp (disch:=first|exact za|fail) only [go_sem,seval,-List.reduceReplicate,yj]
 refine .q ?_;refine .rt Tryz.func79 (by rw [Tryz.results79]) (hR := ?_);simp (disch:=first|exact za|fail) only [go_sem,seval,-List.reduceReplicate]
 exact h

set_option maxHeartbeats 8000000 in
theorem zhu {G:Globs} (s:List (BitVec 32)) (b:List (BitVec 8)) (hs:s.length=8) (hb:b.length=64) (H:Hp) (R:AV → Hp → Prop) (h:R (.p (.agg (pl zN (comp s b)))) H) :
 ACall Tryz.prog G 81 [.p (.agg (pl zN s)),.p (.sl false 1 (pl b8 b))] H R:=by
 refine ACall.of_run (raw:=[]) Tryz.func81 rfl Tryz.ntmps81 (by simp) fun hbel => ?_
 have hk:ks.length=64:=rfl
 have hw:(sW b 64).length=64:=zgC _ _
 generalize hW:sW b 64=W at hw
 refine .q ?_;refine .text ?_;simp (disch:=first|exact za|fail) only [go_sem,seval,-List.reduceReplicate]
 refine .q ?_;refine .text ?_;simp (disch:=first|exact za|fail) only [go_sem,seval,-List.reduceReplicate]
 refine CallK.of (fun R h=>zld b hb _ R h) ?_;simp (disch:=first|exact za|fail) only [go_sem,seval,-List.reduceReplicate]
 refine CallK.of (fun R h=>zgD _ R h) ?_;simp (disch:=first|exact za|fail) only [go_sem,seval,-List.reduceReplicate,hW]
 refine .q ?_;refine .open [] follows (by kernel_rfl) ?_;simp (disch:=first|exact za|fail) only [go_sem,seval,-List.reduceReplicate]
 refine .q ?_;refine .open [] follows (by kernel_rfl) ?_;simp (disch:=first|exact za|fail) only [go_sem,seval,-List.reduceReplicate]
 refine .q ?_;refine .text ?_;simp (disch:=first|exact za|fail) only [go_sem,seval,-List.reduceReplicate]
 refine .q ?_
 refine .count (fun i env H'=>env 4 = .ptr (H.n+1) 0∧env 2 = .ptr H.n 0∧env 5 = .ptr (H.n+2) 0∧env 6 = .ptr (H.n+3) 0∧env 15 = .p (i64 i) ∧
  env 7 = .p (zN (zc7 W (st s) i).a)∧env 8 = .p (zN (zc7 W (st s) i).b)∧env 9 = .p (zN (zc7 W (st s) i).c)∧env 10 = .p (zN (zc7 W (st s) i).d) ∧
  env 11 = .p (zN (zc7 W (st s) i).e)∧env 12 = .p (zN (zc7 W (st s) i).f)∧env 13 = .p (zN (zc7 W (st s) i).g)∧env 14 = .p (zN (zc7 W (st s) i).h) ∧
  H'=(((H.new (.cells (cl zN s))).new (.cells (cl zN (List.replicate 8 0#32)))).new (.cells (cl zN W))).new (.cells (cl zN ks))) 0 64 (by omega) ?_ ?_ ?_
 · simp (disch:=first|exact za|fail) only [go_sem,seval,-List.reduceReplicate]
   simp only [zc7,st,and_self]
 · intro env H' ⟨e4,e2,e5,e6,e15,e7,e8,e9,e10,e11,e12,e13,e14,eH⟩
   subst eH
   refine .q ?_;refine .text ?_;simp (disch:=first|exact za|fail) only [go_sem,seval,-List.reduceReplicate,e15]
   refine .q ?_;refine .ifF (by simp (disch:=first|exact za|fail) only [go_sem,seval,-List.reduceReplicate]) ?_
   refine .q ?_;refine .text ?_;simp (disch:=first|exact za|fail) only [go_sem,seval,-List.reduceReplicate,e2,e4,e7,e8,e9,e10,e11,e12,e13,e14,yj]
   refine .q ?_;refine .rt Tryz.func81 (by rw [Tryz.results81]) (hx:=by simp (disch:=first|exact za|fail) only [go_sem,seval,-List.reduceReplicate,e4];rfl) (hR := ?_);simp (disch:=first|exact za|fail) only [go_sem,seval,-List.reduceReplicate,e4]
   unfold comp fin at h
   rw [hW] at h
   exact h
 · intro i env H' _ hi ⟨e4,e2,e5,e6,e15,e7,e8,e9,e10,e11,e12,e13,e14,eH⟩ ih
   subst eH
   refine .q ?_;refine .text ?_;simp (disch:=first|exact za|fail) only [go_sem,seval,-List.reduceReplicate,e15]
   refine .q ?_;refine .ifT (by simp (disch:=first|exact za|fail) only [go_sem,seval,-List.reduceReplicate]) ?_
   refine .q ?_;refine .open [] follows (by kernel_rfl) ?_;simp (disch:=first|exact za|fail) only [go_sem,seval,-List.reduceReplicate,e2,e4,e5,e6,e7,e8,e9,e10,e11,e12,e13,e14,e15]
   refine CallD.still (fun R h=>yq _ 6 (by omega) _ R h) ?_;simp (disch:=first|exact za|fail) only [go_sem,seval,-List.reduceReplicate,e2,e4,e5,e6,e7,e8,e9,e10,e11,e12,e13,e14,e15]
   refine CallD.still (fun R h=>yq _ 11 (by omega) _ R h) ?_;simp (disch:=first|exact za|fail) only [go_sem,seval,-List.reduceReplicate,e2,e4,e5,e6,e7,e8,e9,e10,e11,e12,e13,e14,e15]
   refine CallD.still (fun R h=>yq _ 25 (by omega) _ R h) ?_;simp (disch:=first|exact za|fail) only [go_sem,seval,-List.reduceReplicate,e2,e4,e5,e6,e7,e8,e9,e10,e11,e12,e13,e14,e15]
   refine .q ?_;refine .text ?_;simp (disch:=first|exact za|fail) only [go_sem,seval,-List.reduceReplicate,e2,e4,e5,e6,e7,e8,e9,e10,e11,e12,e13,e14,e15]
   refine CallK.of (fun R h=>yq _ 2 (by omega) _ R h) ?_;simp (disch:=first|exact za|fail) only [go_sem,seval,-List.reduceReplicate,e2,e4,e5,e6,e7,e8,e9,e10,e11,e12,e13,e14,e15]
   refine CallK.of (fun R h=>yq _ 13 (by omega) _ R h) ?_;simp (disch:=first|exact za|fail) only [go_sem,seval,-List.reduceReplicate,e2,e4,e5,e6,e7,e8,e9,e10,e11,e12,e13,e14,e15]
   refine CallK.of (fun R h=>yq _ 22 (by omega) _ R h) ?_;simp (disch:=first|exact za|fail) only [go_sem,seval,-List.reduceReplicate,e2,e4,e5,e6,e7,e8,e9,e10,e11,e12,e13,e14,e15]
   refine .q ?_;refine .text ?_;simp (disch:=first|exact za|fail) only [go_sem,seval,-List.reduceReplicate,e13]
   refine .q ?_;refine .text ?_;simp (disch:=first|exact za|fail) only [go_sem,seval,-List.reduceReplicate,e12]
   refine .q ?_;refine .text ?_;simp (disch:=first|exact za|fail) only [go_sem,seval,-List.reduceReplicate,e11]
   refine .q ?_;refine .text ?_;simp (disch:=first|exact za|fail) only [go_sem,seval,-List.reduceReplicate,e10]
   refine .q ?_;refine .text ?_;simp (disch:=first|exact za|fail) only [go_sem,seval,-List.reduceReplicate,e9]
   refine .q ?_;refine .text ?_;simp (disch:=first|exact za|fail) only [go_sem,seval,-List.reduceReplicate,e8]
   refine .q ?_;refine .text ?_;simp (disch:=first|exact za|fail) only [go_sem,seval,-List.reduceReplicate,e7]
   refine .q ?_;refine .text ?_;simp (disch:=first|exact za|fail) only [go_sem,seval,-List.reduceReplicate,e7]
   refine .q ?_;refine .text ?_;simp (disch:=first|exact za|fail) only [go_sem,seval,-List.reduceReplicate,e15]
   refine ih _ _ ?_
   simp (disch:=first|exact za|fail) only [go_sem,seval,-List.reduceReplicate,e2,e4,e5,e6,e7,e8,e9,e10,e11,e12,e13,e14,e15]
   simp only [zc7,rnd,bg0,bg1,and_self]

end Go.Proofs.YtgflpgcogkdpgaaGreatDoor

/-
  The plain laws of the words: how a word is put together of four bytes;choice and majority.
-/
namespace Go.Proofs.YtgflpgcogkdpgaaGreatDoor
open Go Go.AL

theorem zxL (x:BitVec 32) (y:BitVec 8):x <<< 8 ||| y.setWidth 32=x*256#32+y.setWidth 32:=by
 have e:x*256#32=x <<< 8:=by
  rw [BitVec.shiftLeft_eq_mul_twoPow];rfl
 rw [e]
 symm
 apply BitVec.add_eq_or_of_and_eq_zero
 ext i hi
 simp only [BitVec.getElem_and,BitVec.getElem_shiftLeft,BitVec.getElem_setWidth,BitVec.getElem_zero]
 by_cases h:i < 8
 · simp [h]
 · simp [h,BitVec.getLsbD_of_ge y i (by omega)]

def part (b:List (BitVec 8)) (i:Nat):Nat → BitVec 32
 | 0=>0#32
 | j+1=>part b i j <<< 8 ||| (nth b (4*i+j)).setWidth 32

theorem zrz (b:List (BitVec 8)) (i:Nat):part b i 4=word b i:=by
 simp only [part,zxL,word,BitVec.add_mul,BitVec.mul_assoc,Nat.add_zero,BitVec.zero_mul,BitVec.zero_add]
 rfl

theorem zpm (b:List (BitVec 8)) : ∀ (i j:Nat),i≤j → j < 64 → nth (sW b i) j=0#32
 | 0,j,_,hj=>zhp hj
 | i+1,j,h,hj=>by rw [sW,zgo (by omega)];exact zpm b i j (by omega) hj

theorem zxM {α:Type} [Inhabited α] {l:List α} {i:Nat} (h:i < l.length):l.set i (nth l i)=l:=by
 refine zfB (by simp) fun j hj => ?_
 by_cases e:i=j
 · subst e;rw [zgn rfl h]
 · rw [zgo e]

theorem zvi (b:List (BitVec 8)) (i:Nat) (h:i < 64):(sW b i).set i (part b i 0)=sW b i:=by
 have:=zxM (l:=sW b i) (i:=i) (by rw [zgC];exact h)
 rwa [zpm b i i (Nat.le_refl _) h] at this

theorem zvj (b:List (BitVec 8)) (i:Nat) (h:i < 16):(sW b i).set i (part b i 4)=sW b (i+1):=by
 rw [zrz,sW,zlc,if_pos h]

theorem zxN (e:BitVec 32) : ~~~e=4294967295#32 - e:=by
 rw [show (4294967295#32:BitVec 32)=BitVec.allOnes 32 from rfl,BitVec.allOnes_sub_eq_not]
theorem zAq (a b c:BitVec 32):a &&& b ^^^ a &&& c ^^^ b &&& c=a &&& b ||| a &&& c ||| b &&& c:=by
 ext i hi
 simp only [BitVec.getElem_and,BitVec.getElem_xor,BitVec.getElem_or]
 cases a[i]<;>cases b[i]<;>cases c[i]<;>rfl
end Go.Proofs.YtgflpgcogkdpgaaGreatDoor

/-
  The walks of the package's schedule and of its compression of one block.
-/
namespace Go.Proofs.YtgflpgcogkdpgaaGreatDoor
open Go Go.AL

set_option maxHeartbeats 8000000 in
theorem zhv {G:Globs} (b:List (BitVec 8)) (hb:b.length=64) (H:Hp) (R:AV → Hp → Prop) (h:R (.p (.agg (pl zN (sW b 64)))) H):ACall Tryz.prog G 104 [.p (.sl false 1 (pl b8 b))] H R:=by
 refine ACall.of_run (raw:=[]) Tryz.func104 rfl Tryz.ntmps104 (by simp) fun hbel => ?_
 refine .q ?_;refine .text ?_;simp (disch:=first|exact za|fail) only [go_sem,seval,-List.reduceReplicate]
 refine .q ?_;refine .text ?_;simp (disch:=first|exact za|fail) only [go_sem,seval,-List.reduceReplicate]
 refine .q ?_;refine .text ?_;simp (disch:=first|exact za|fail) only [go_sem,seval,-List.reduceReplicate]
 refine .q ?_
 refine .count (fun i env H'=>env 0 = .p (.sl false 1 (pl b8 b))∧env 2 = .ptr H.n 0∧env 3 = .ptr (H.n+1) 0∧env 12 = .p (i64 i)∧H'=(H.new (.cells (cl zN (List.replicate 64 0#32)))).new (.cells (cl zN (sW b i)))) 0 16 (by omega) ?_ ?_ ?_
 · simp (disch:=first|exact za|fail) only [go_sem,seval,-List.reduceReplicate]
   rw [sW]
 · intro env H' ⟨e0,e2,e3,e12,eH⟩
   subst eH
   refine .q ?_;refine .text ?_;simp (disch:=first|exact za|fail) only [go_sem,seval,-List.reduceReplicate,e12]
   refine .q ?_;refine .ifF (by simp (disch:=first|exact za|fail) only [go_sem,seval,-List.reduceReplicate]) ?_
   refine .q ?_;refine .text ?_;simp (disch:=first|exact za|fail) only [go_sem,seval,-List.reduceReplicate,e12]
   refine .q ?_
   refine .count (fun i env H'=>env 2 = .ptr H.n 0∧env 3 = .ptr (H.n+1) 0∧env 7 = .p (i64 i)∧H'=(H.new (.cells (cl zN (List.replicate 64 0#32)))).new (.cells (cl zN (sW b i)))) 16 64 (by omega) ?_ ?_ ?_
   · simp (disch:=first|exact za|fail) only [go_sem,seval,-List.reduceReplicate,e2,e3]
   · intro env H' ⟨e2,e3,e7,eH⟩
     subst eH
     refine .q ?_;refine .text ?_;simp (disch:=first|exact za|fail) only [go_sem,seval,-List.reduceReplicate,e7]
     refine .q ?_;refine .ifF (by simp (disch:=first|exact za|fail) only [go_sem,seval,-List.reduceReplicate]) ?_
     refine .q ?_;refine .text ?_;simp (disch:=first|exact za|fail) only [go_sem,seval,-List.reduceReplicate,e3,e2]
     refine .q ?_;refine .rt Tryz.func104 (by rw [Tryz.results104]) (hx:=by simp (disch:=first|exact za|fail) only [go_sem,seval,-List.reduceReplicate,e2];rfl) (hR := ?_);simp (disch:=first|exact za|fail) only [go_sem,seval,-List.reduceReplicate,e2]
     exact h
   · intro i env H' hi0 hi ⟨e2,e3,e7,eH⟩ ih
     subst eH
     refine .q ?_;refine .text ?_;simp (disch:=first|exact za|fail) only [go_sem,seval,-List.reduceReplicate,e7]
     refine .q ?_;refine .ifT (by simp (disch:=first|exact za|fail) only [go_sem,seval,-List.reduceReplicate]) ?_
     refine .q ?_;refine .open [] follows (by kernel_rfl) ?_;simp (disch:=first|exact za|fail) only [go_sem,seval,-List.reduceReplicate,e7,e3,e2]
     refine .q ?_;refine .text ?_;simp (disch:=first|exact za|fail) only [go_sem,seval,-List.reduceReplicate,e7,e3,e2]
     refine CallK.of (fun R h=>zC _ (-7) 25 (by decide) (by omega) _ R h) ?_;simp (disch:=first|exact za|fail) only [go_sem,seval,-List.reduceReplicate,e7,e3,e2]
     refine CallK.of (fun R h=>zC _ (-18) 14 (by decide) (by omega) _ R h) ?_;simp (disch:=first|exact za|fail) only [go_sem,seval,-List.reduceReplicate,e7,e3,e2]
     refine .q ?_;refine .text ?_;simp (disch:=first|exact za|fail) only [go_sem,seval,-List.reduceReplicate,e7,e3,e2]
     refine CallK.of (fun R h=>zC _ (-17) 15 (by decide) (by omega) _ R h) ?_;simp (disch:=first|exact za|fail) only [go_sem,seval,-List.reduceReplicate,e7,e3,e2]
     refine CallK.of (fun R h=>zC _ (-19) 13 (by decide) (by omega) _ R h) ?_;simp (disch:=first|exact za|fail) only [go_sem,seval,-List.reduceReplicate,e7,e3,e2]
     refine .q ?_;refine .open [15] follows (by kernel_rfl) ?_;simp (disch:=first|exact za|fail) only [go_sem,seval,-List.reduceReplicate,e7,e3,e2]
     refine .q ?_;refine .text ?_;simp (disch:=first|exact za|fail) only [go_sem,seval,-List.reduceReplicate,e7,e3,e2]
     refine ih _ _ ?_
     simp (disch:=first|exact za|fail) only [go_sem,seval,-List.reduceReplicate,e2,e3,e7]
     have hi16 : ¬i < 16:=by omega
     simp only [sW,zlc,if_neg hi16,sg0,sg1]
 · intro i env H' _ hi ⟨e0,e2,e3,e12,eH⟩ ih
   subst eH
   refine .q ?_;refine .text ?_;simp (disch:=first|exact za|fail) only [go_sem,seval,-List.reduceReplicate,e12]
   refine .q ?_;refine .ifT (by simp (disch:=first|exact za|fail) only [go_sem,seval,-List.reduceReplicate]) ?_
   refine .q ?_;refine .text ?_;simp (disch:=first|exact za|fail) only [go_sem,seval,-List.reduceReplicate,e12]
   refine .q ?_;refine .text ?_;simp (disch:=first|exact za|fail) only [go_sem,seval,-List.reduceReplicate,e0,e12]
   refine .q ?_
   refine .count (fun j env H'=>env 0 = .p (.sl false 1 (pl b8 b))∧env 2 = .ptr H.n 0∧env 3 = .ptr (H.n+1) 0∧env 4 = .p (i64 i)∧env 12 = .p (i64 i)∧env 21 = .p (.sl false 1 (pl b8 ((b.take (4*i+4)).drop (4*i))))∧env 22 = .p (i64 4)∧env 23 = .p (i64 j) ∧
    H'=(H.new (.cells (cl zN (List.replicate 64 0#32)))).new (.cells (cl zN ((sW b i).set i (part b i j))))) 0 4 (by omega) ?_ ?_ ?_
   · simp (disch:=first|exact za|fail) only [go_sem,seval,-List.reduceReplicate,e0,e2,e3,e12]
     rw [zvi b i (by omega)]
   · intro env H' ⟨e0,e2,e3,e4,e12,e21,e22,e23,eH⟩
     subst eH
     refine .q ?_;refine .text ?_;simp (disch:=first|exact za|fail) only [go_sem,seval,-List.reduceReplicate,e22,e23]
     refine .q ?_;refine .ifF (by simp (disch:=first|exact za|fail) only [go_sem,seval,-List.reduceReplicate]) ?_
     refine .q ?_;refine .text ?_;simp (disch:=first|exact za|fail) only [go_sem,seval,-List.reduceReplicate,e12]
     refine ih _ _ ?_
     simp (disch:=first|exact za|fail) only [go_sem,seval,-List.reduceReplicate,e0,e2,e3,e12]
     rw [zvj b i hi]
   · intro j env H' _ hj ⟨e0,e2,e3,e4,e12,e21,e22,e23,eH⟩ ih2
     subst eH
     refine .q ?_;refine .text ?_;simp (disch:=first|exact za|fail) only [go_sem,seval,-List.reduceReplicate,e22,e23]
     refine .q ?_;refine .ifT (by simp (disch:=first|exact za|fail) only [go_sem,seval,-List.reduceReplicate]) ?_
     refine .q ?_;refine .text ?_;simp (disch:=first|exact za|fail) only [go_sem,seval,-List.reduceReplicate,e21,e23]
     refine .q ?_;refine .text ?_;simp (disch:=first|exact za|fail) only [go_sem,seval,-List.reduceReplicate,e3,e4]
     refine .q ?_;refine .text ?_;simp (disch:=first|exact za|fail) only [go_sem,seval,-List.reduceReplicate,e23]
     refine ih2 _ _ ?_
     simp (disch:=first|exact za|fail) only [go_sem,seval,-List.reduceReplicate,e0,e2,e3,e4,e12,e21,e22,e23]
     rw [List.set_set,zgn rfl (by rw [zgC];omega),nth_drop,zec (by omega),part]

def row (z:St):List (BitVec 32):=[z.a,z.b,z.c,z.d,z.e,z.f,z.g,z.h]
theorem zxO (z:St):(row z).length=8:=rfl
def zCa (s:St) (k w:BitVec 32):St :=
 let t:=s.h+bg1 s.e+(s.e &&& s.f ^^^ (4294967295#32 - s.e) &&& s.g)+k+w
 ⟨t+bg0 s.a+(s.a &&& s.b ||| s.a &&& s.c ||| s.b &&& s.c),s.a,s.b,s.c,s.d+t,s.e,s.f,s.g⟩
theorem zrA (s:St) (k w:BitVec 32):rnd s k w=zCa s k w:=by
 unfold rnd zCa
 simp only [BitVec.add_assoc]
def addRow (r s:List (BitVec 32)):Nat → List (BitVec 32)
 | 0=>s
 | i+1=>(addRow r s i).set i (nth (addRow r s i) i+nth r i)
theorem znM (r s:List (BitVec 32)) (i:Nat):(addRow r s i).length=s.length:=by
 induction i with
 | zero=>rfl
 | succ i ih=>simp [addRow,ih]
attribute [go_sem] zxO znM
theorem zCb (s:List (BitVec 32)) (h:s.length=8):s=[nth s 0,nth s 1,nth s 2,nth s 3,nth s 4,nth s 5,nth s 6,nth s 7]:=by
 rcases s with _ | ⟨a0,_ | ⟨a1,_ | ⟨a2,_ | ⟨a3,_ | ⟨a4,_ | ⟨a5,_ | ⟨a6,_ | ⟨a7,_ | ⟨a8,l⟩⟩⟩⟩⟩⟩⟩⟩⟩<;>simp at h
 rfl
theorem zxP (z:St) (s:List (BitVec 32)) (h:s.length=8):addRow (row z) s 8=fin s z:=by
 rw [zCb s h]
 rfl

set_option maxHeartbeats 16000000 in
theorem zhw {G:Globs} (hG:G 3=some (64,[.agg (pl zN ks)])) (s:List (BitVec 32)) (b:List (BitVec 8)) (hs:s.length=8) (hb:b.length=64) (H:Hp) (p:Nat) (hp:H.f p=some (.cells (cl zN s))) (hpn:p < H.n) (R:AV → Hp → Prop)
 (h:R (.tup []) (H.set p (.cells (cl zN (comp s b))))) :
 ACall Tryz.prog G 88 [.ptr p 0,.p (.sl false 1 (pl b8 b))] H R:=by
 refine ACall.of_run (raw:=[]) Tryz.func88 rfl Tryz.ntmps88 (by simp) fun hbel => ?_
 have hk:ks.length=64:=rfl
 have hw:(sW b 64).length=64:=zgC _ _
 generalize hW:sW b 64=W at hw
 refine .q ?_;refine .text ?_;simp (disch:=first|exact za|fail) only [go_sem,seval,-List.reduceReplicate]
 refine CallK.of (fun R h=>zhv b hb _ R h) ?_;simp (disch:=first|exact za|fail) only [go_sem,seval,-List.reduceReplicate,hW]
 refine .q ?_;refine .text ?_;simp (disch:=first|exact za|fail) only [go_sem,seval,-List.reduceReplicate,hp]
 refine .q ?_;refine .text ?_;simp (disch:=first|exact za|fail) only [go_sem,seval,-List.reduceReplicate]
 refine .q ?_
 refine .count (fun i env H'=>env 0 = .ptr p 0∧env 4 = .ptr H.n 0∧env 5 = .ptr (H.n+1) 0∧env 21 = .p (i64 i)∧H'=(H.new (.cells (cl zN W))).new (.cells (cl zN (row (zc7 W (st s) i))))) 0 64 (by omega) ?_ ?_ ?_
 · simp (disch:=first|exact za|fail) only [go_sem,seval,-List.reduceReplicate]
   simp only [row,zc7,st]
   rw [←zCb s hs]
 · intro env H' ⟨e0,e4,e5,e21,eH⟩
   subst eH
   refine .q ?_;refine .text ?_;simp (disch:=first|exact za|fail) only [go_sem,seval,-List.reduceReplicate,e21]
   refine .q ?_;refine .ifF (by simp (disch:=first|exact za|fail) only [go_sem,seval,-List.reduceReplicate]) ?_
   refine .q ?_;refine .text ?_;simp (disch:=first|exact za|fail) only [go_sem,seval,-List.reduceReplicate,e5,e0]
   generalize hz:zc7 W (st s) 64=z
   refine .q ?_
   refine .count (fun i env H'=>env 0 = .ptr p 0∧env 98 = .p (.agg (pl zN (row z)))∧env 99 = .p (i64 i)∧H'=((H.set p (.cells (cl zN (addRow (row z) s i)))).new (.cells (cl zN W))).new (.cells (cl zN (row z)))) 0 8 (by omega) ?_ ?_ ?_
   · simp (disch:=first|exact za|fail) only [go_sem,seval,-List.reduceReplicate,e0]
     rw [addRow,set_same hp]
   · intro env H' ⟨e0,e98,e99,eH⟩
     subst eH
     refine .q ?_;refine .text ?_;simp (disch:=first|exact za|fail) only [go_sem,seval,-List.reduceReplicate,e99]
     refine .q ?_;refine .ifF (by simp (disch:=first|exact za|fail) only [go_sem,seval,-List.reduceReplicate]) ?_
     refine .q ?_;refine .fin Tryz.func88 (by rw [Tryz.results88]) (by simp (disch:=first|exact za|fail) only [go_sem,seval,-List.reduceReplicate];rfl) (by simp (disch:=first|exact za|fail) only [go_sem,seval,-List.reduceReplicate];rfl) (by (try dsimp only);repeat (first | with_reducible refine zv ?_ za | with_reducible refine zad ?_ za | with_reducible refine zaR ?_ za | with_reducible refine yY ?_ | with_reducible exact hbel | with_reducible exact hbel _)) ?_;simp (disch:=first|exact za|fail) only [go_sem,seval,-List.reduceReplicate]
     rw [zxP z s hs,←hz,←hW] at *
     exact h
   · intro i env H' _ hi ⟨e0,e98,e99,eH⟩ ih
     subst eH
     refine .q ?_;refine .text ?_;simp (disch:=first|exact za|fail) only [go_sem,seval,-List.reduceReplicate,e99]
     refine .q ?_;refine .ifT (by simp (disch:=first|exact za|fail) only [go_sem,seval,-List.reduceReplicate]) ?_
     refine .q ?_;refine .text ?_;simp (disch:=first|exact za|fail) only [go_sem,seval,-List.reduceReplicate,e98,e99]
     refine .q ?_;refine .open [9] follows (by kernel_rfl) ?_;simp (disch:=first|exact za|fail) only [go_sem,seval,-List.reduceReplicate,e0,hp]
     refine .q ?_;refine .text ?_;simp (disch:=first|exact za|fail) only [go_sem,seval,-List.reduceReplicate,e99]
     refine ih _ _ ?_
     simp (disch:=first|exact za|fail) only [go_sem,seval,-List.reduceReplicate,e0,e98,e99]
     rw [addRow]
 · intro i env H' _ hi ⟨e0,e4,e5,e21,eH⟩ ih
   subst eH
   refine .q ?_;refine .text ?_;simp (disch:=first|exact za|fail) only [go_sem,seval,-List.reduceReplicate,e21]
   refine .q ?_;refine .ifT (by simp (disch:=first|exact za|fail) only [go_sem,seval,-List.reduceReplicate]) ?_
   refine .q ?_;refine .text ?_;simp (disch:=first|exact za|fail) only [go_sem,seval,-List.reduceReplicate,e21]
   refine .q ?_;refine .open [] follows (by kernel_rfl) ?_;simp (disch:=first|exact za|fail) only [go_sem,seval,-List.reduceReplicate,e0,e4,e5,e21]
   refine .q ?_;refine .text ?_;simp (disch:=first|exact za|fail) only [go_sem,seval,-List.reduceReplicate,e0,e4,e5,e21]
   refine CallK.of (fun R h=>zC _ (-6) 26 (by decide) (by omega) _ R h) ?_;simp (disch:=first|exact za|fail) only [go_sem,seval,-List.reduceReplicate,e0,e4,e5,e21]
   refine CallK.of (fun R h=>zC _ (-11) 21 (by decide) (by omega) _ R h) ?_;simp (disch:=first|exact za|fail) only [go_sem,seval,-List.reduceReplicate,e0,e4,e5,e21]
   refine CallK.of (fun R h=>zC _ (-25) 7 (by decide) (by omega) _ R h) ?_;simp (disch:=first|exact za|fail) only [go_sem,seval,-List.reduceReplicate,e0,e4,e5,e21]
   refine .q ?_;refine .text ?_;simp (disch:=first|exact za|fail) only [go_sem,seval,-List.reduceReplicate,e0,e4,e5,e21]
   refine .q ?_;refine .open [] follows (by kernel_rfl) ?_;simp (disch:=first|exact za|fail) only [go_sem,seval,-List.reduceReplicate,e0,e4,e5,e21,hG]
   refine .q ?_;refine .text ?_;simp (disch:=first|exact za|fail) only [go_sem,seval,-List.reduceReplicate,e0,e4,e5,e21]
   refine CallK.of (fun R h=>zC _ (-2) 30 (by decide) (by omega) _ R h) ?_;simp (disch:=first|exact za|fail) only [go_sem,seval,-List.reduceReplicate,e0,e4,e5,e21]
   refine CallK.of (fun R h=>zC _ (-13) 19 (by decide) (by omega) _ R h) ?_;simp (disch:=first|exact za|fail) only [go_sem,seval,-List.reduceReplicate,e0,e4,e5,e21]
   refine CallK.of (fun R h=>zC _ (-22) 10 (by decide) (by omega) _ R h) ?_;simp (disch:=first|exact za|fail) only [go_sem,seval,-List.reduceReplicate,e0,e4,e5,e21]
   refine .q ?_;refine .text ?_;simp (disch:=first|exact za|fail) only [go_sem,seval,-List.reduceReplicate,e0,e4,e5,e21]
   refine .q ?_;refine .open [2] follows (by kernel_rfl) ?_;simp (disch:=first|exact za|fail) only [go_sem,seval,-List.reduceReplicate,e0,e4,e5,e21]
   refine .q ?_;refine .text ?_;simp (disch:=first|exact za|fail) only [go_sem,seval,-List.reduceReplicate,e5]
   refine .q ?_;refine .text ?_;simp (disch:=first|exact za|fail) only [go_sem,seval,-List.reduceReplicate,e5]
   refine .q ?_;refine .text ?_;simp (disch:=first|exact za|fail) only [go_sem,seval,-List.reduceReplicate,e21]
   refine ih _ _ ?_
   simp (disch:=first|exact za|fail) only [go_sem,seval,-List.reduceReplicate,e0,e4,e5,e21]
   simp only [zc7,zxN,zAq,zrA]
   generalize zc7 W (st s) i=z
   rfl

end Go.Proofs.YtgflpgcogkdpgaaGreatDoor

/-
  Padding,the digest's bytes and the whole hash as plain functions.
-/
namespace Go.Proofs.YtgflpgcogkdpgaaGreatDoor
open Go Go.AL

def zbR (n:Nat):Nat:=(119 - n % 64) % 64
theorem zgE (n:Nat):(n+1+zbR n) % 64=56:=by unfold zbR;omega
theorem zpn (n j:Nat) (h:j < zbR n):(n+1+j) % 64≠56:=by unfold zbR at h;omega
theorem zi7 (n:Nat):zbR n≤63:=by unfold zbR;omega
def zfx (v:BitVec 64):Nat → List (BitVec 8)
 | 0=>[]
 | i+1=>zfx v i++[(v >>> (56 - 8*i)).setWidth 8]
theorem zle (v:BitVec 64) (i:Nat):(zfx v i).length=i:=by
 induction i with
 | zero=>rfl
 | succ i ih=>simp [zfx,ih]
def pad (b:List (BitVec 8)):List (BitVec 8):=b++[128#8]++List.replicate (zbR b.length) 0#8++zfx (BitVec.ofInt 64 b.length*8#64) 8
theorem zi8 (b:List (BitVec 8)):(pad b).length=b.length+1+zbR b.length+8:=by simp [pad,zle];omega

def dg (s:List (BitVec 32)):Nat → List (BitVec 8)
 | 0=>List.replicate 32 0#8
 | i+1=>(dg s i).set i ((nth s (i / 4) >>> (24 - 8*(i % 4))).setWidth 8)
theorem zvk (s:List (BitVec 32)) (i:Nat):(dg s i).length=32:=by
 induction i with
 | zero=>simp [dg]
 | succ i ih=>simp [dg,ih]
attribute [go_sem] zle zvk
def yk (p:List (BitVec 8)) (s:List (BitVec 32)):Nat → List (BitVec 32)
 | 0=>s
 | i+1=>comp (yk p s i) ((p.take (64*i+64)).drop (64*i))
theorem zvl (s:List (BitVec 32)) (b:List (BitVec 8)):(comp s b).length=8:=rfl
theorem zaT (p:List (BitVec 8)) (s:List (BitVec 32)) (hs:s.length=8) (i:Nat):(yk p s i).length=8:=by
 cases i with
 | zero=>exact hs
 | succ i=>rfl
def sha (b:List (BitVec 8)):List (BitVec 8):=dg (yk (pad b) inits ((pad b).length / 64)) 32
theorem zbq (b:List (BitVec 8)):(sha b).length=32:=zvk _ _
attribute [go_sem] zvl zbq
def made (b:List (BitVec 8)):Nat → List (BitVec 8)
 | 0=>List.replicate 32 0#8
 | i+1=>(made b i).set i (nth b i)
def mk (b:List (BitVec 8)):List (BitVec 8):=made b (min 32 b.length)
def masked (k:List (BitVec 8)) (m:BitVec 8):Nat → List (BitVec 8)
 | 0=>[]
 | i+1=>masked k m i++[if i < 32 then nth k i ^^^ m else m]

def leaf (b:List (BitVec 8)):List (BitVec 8):=sha ([0#8]++b)
def pair (a b:List (BitVec 8)):List (BitVec 8):=sha ([1#8]++a++b)
def keyed (k b:List (BitVec 8)):List (BitVec 8):=sha (masked k 92#8 64++sha (masked k 54#8 64++b))
end Go.Proofs.YtgflpgcogkdpgaaGreatDoor

/-
  The walk of the iterator over the blocks of the padded message,and of the hash.
-/
namespace Go.Proofs.YtgflpgcogkdpgaaGreatDoor
open Go Go.AL

theorem znN (b:List (BitVec 8)) (i:Nat) (h:i < b.length / 64):((pad b).take (64*i+64)).drop (64*i)=(b.take (64*i+64)).drop (64*i):=by
 rw [pad,List.append_assoc,List.append_assoc,List.take_append_of_le_length (by omega)]

def ze4 (b:List (BitVec 8)):List (BitVec 8):=(pad b).drop (64*(b.length / 64))
theorem zrB (b:List (BitVec 8)):(ze4 b).length=(pad b).length - 64*(b.length / 64):=by simp [ze4]
theorem zvm (b:List (BitVec 8)):ze4 b=b.drop (64*(b.length / 64))++[128#8]++List.replicate (zbR b.length) 0#8++zfx (BitVec.ofInt 64 b.length*8#64) 8:=by
 unfold ze4 pad
 rw [List.append_assoc,List.append_assoc,List.drop_append_of_le_length (by omega)]
 simp only [List.append_assoc]
theorem znO (b:List (BitVec 8)) (i:Nat):((ze4 b).take (64*i+64)).drop (64*i)=((pad b).take (64*(b.length / 64+i)+64)).drop (64*(b.length / 64+i)):=by
 unfold ze4
 rw [List.take_drop,List.drop_drop]
 congr 2<;>omega

set_option maxHeartbeats 8000000 in
theorem zi9 {G:Globs} (b:List (BitVec 8)) (hb:b.length≤140737488353000) (y p n0:Nat) (Ls:Nat → Hp) (hL : ∀ i,(Ls i).n=n0) (hB : ∀ i,Bel n0 (Ls i)) (hy0:y < n0) (hp:p < n0) (hbox : ∀ i,(Ls i).f p=some (.cells [.p (.sl false 1 (pl b8 b))]))
 (hy : ∀ i,i < (pad b).length / 64 → ∀ (T:List AB) (K:AV → Hp → Prop),K (.p (bo true)) (app (Ls (i+1)) T) → AYield Tryz.prog G y [.p (.sl false 1 (pl b8 (((pad b).take (64*i+64)).drop (64*i))))] (app (Ls i) T) K)
 (R:AV → Hp → Prop) (h:R (.tup []) (Ls ((pad b).length / 64))):ACall Tryz.prog G 102 [.yld y,.ptr p 0] (Ls 0) R:=by
 refine ACall.of_run (raw:=[]) Tryz.func102 rfl Tryz.ntmps102 (by simp) fun hbel => ?_
 have hpl:=zi8 b
 have hm:=zgE b.length
 have hpn:=zi7 b.length
 have hlen:=zrB b
 generalize hN:(pad b).length=N at hpl hy h hlen
 refine .q ?_;refine .text ?_;simp (disch:=first|exact za|fail) only [go_sem,seval,-List.reduceReplicate,hbox,hL]
 refine .q ?_;refine .text ?_;simp (disch:=first|exact za|fail) only [go_sem,seval,-List.reduceReplicate]
 refine .q ?_
 refine .count (fun i env H'=>env 0 = .yld y∧env 1 = .ptr p 0∧env 3 = .p (i64 (64*(b.length / 64):Nat))∧env 4 = .p (i64 (64*i:Nat))∧H'=Ls i) 0 (b.length / 64) (by omega) ?_ ?_ ?_
 · simp (disch:=first|exact za|fail) only [go_sem,seval,-List.reduceReplicate]
   exact zxg (by omega)
 · intro env H' ⟨e0,e1,e3,e4,eH⟩
   subst eH
   refine .q ?_;refine .text ?_;simp (disch:=first|exact za|fail) only [go_sem,seval,-List.reduceReplicate,e3,e4]
   refine .q ?_;refine .ifF (by simp (disch:=first|exact za|fail) only [go_sem,seval,-List.reduceReplicate]) ?_
   refine .q ?_;refine .text ?_;simp (disch:=first|exact za|fail) only [go_sem,seval,-List.reduceReplicate,e1,e3,hbox,hL]
   have hd:(b.drop (64*(b.length / 64))).length=b.length - 64*(b.length / 64):=List.length_drop
   have hdm:(b.drop (64*(b.length / 64))).length % 64=b.length % 64:=by omega
   have hLk:=hL (b.length / 64)
   generalize hdd:b.drop (64*(b.length / 64))=dd at hd hdm
   refine CallK.of (fun R h=>znL dd (by omega) _ R h) ?_;simp (disch:=first|exact za|fail) only [go_sem,seval,-List.reduceReplicate,hL]
   refine .q ?_
   refine .count (fun j env H'=>env 0 = .yld y∧env 1 = .ptr p 0∧env 5 = .sl n0 (1+j) 1 (pl b8 (dd++[128#8]++List.replicate j 0#8))∧H'=(Ls (b.length / 64)).new (.tail (1+j))) 0 (zbR b.length) (by omega) ?_ ?_ ?_
   · simp (disch:=first|exact za|fail) only [go_sem,seval,-List.reduceReplicate,e0,e1,hL]
     simp only [List.replicate_zero,List.append_nil]
   · intro env H' ⟨e0,e1,e5,eH⟩
     subst eH
     have hm2:(dd.length+1+zbR b.length) % 64=56:=by omega
     refine .q ?_;refine .text ?_;simp (disch:=first|exact za|fail) only [go_sem,seval,-List.reduceReplicate,e5]
     refine .q ?_;refine .ifF (by simp (disch:=first|exact za|fail) only [go_sem,seval,-List.reduceReplicate]) ?_
     refine .q ?_;refine .text ?_;simp (disch:=first|exact za|fail) only [go_sem,seval,-List.reduceReplicate,e1,hbox,hL]
     refine .q ?_;refine .text ?_;simp (disch:=first|exact za|fail) only [go_sem,seval,-List.reduceReplicate]
     refine .q ?_
     generalize hw:dd++[128#8]++List.replicate (zbR b.length) 0#8=ww at e5
     have hwl:ww.length=dd.length+1+zbR b.length:=by rw [←hw];simp;omega
     refine .count (fun j env H'=>env 0 = .yld y∧env 1 = .ptr p 0∧env 5 = .sl n0 (1+zbR b.length+j) 1 (pl b8 (ww++zfx (BitVec.ofInt 64 b.length*8#64) j))∧env 6 = .p (zw (BitVec.ofInt 64 b.length*8#64))∧env 7 = .p (i64 (56 - 8*(j:Int)))∧H'=(Ls (b.length / 64)).new (.tail (1+zbR b.length+j))) 0 8 (by omega) ?_ ?_ ?_
     · simp (disch:=first|exact za|fail) only [go_sem,seval,-List.reduceReplicate,e0,e1,e5]
       simp only [zfx,List.append_nil]
     · intro env H' ⟨e0,e1,e5,e6,e7,eH⟩
       subst eH
       refine .q ?_;refine .text ?_;simp (disch:=first|exact za|fail) only [go_sem,seval,-List.reduceReplicate,e7]
       refine .q ?_;refine .ifF (by simp (disch:=first|exact za|fail) only [go_sem,seval,-List.reduceReplicate]) ?_
       refine .q ?_;refine .text ?_;simp (disch:=first|exact za|fail) only [go_sem,seval,-List.reduceReplicate]
       refine .q ?_
       have hlb:ze4 b=ww++zfx (BitVec.ofInt 64 b.length*8#64) 8:=by rw [zvm,hdd,hw]
       have hll:=hlen
       rw [←hlb] at e5
       generalize hx:ze4 b=lb at e5 hll
       refine .count (fun j env H'=>env 0 = .yld y∧env 5 = .sl n0 (1+zbR b.length+8) 1 (pl b8 lb)∧env 8 = .p (i64 (64*j:Nat))∧H'=(Ls (b.length / 64+j)).new (.tail (1+zbR b.length+8))) 0 (N / 64 - b.length / 64) (by omega) ?_ ?_ ?_
       · simp (disch:=first|exact za|fail) only [go_sem,seval,-List.reduceReplicate,e0,e1,e5]
       · intro env H' ⟨e0,e5,e8,eH⟩
         subst eH
         have hLe:=hL (N / 64)
         have hbel:=hB (N / 64)
         have hj:b.length / 64+(N / 64 - b.length / 64)=N / 64:=by omega
         rw [hj]
         refine .q ?_;refine .text ?_;simp (disch:=first|exact za|fail) only [go_sem,seval,-List.reduceReplicate,e5,e8]
         refine .q ?_;refine .ifF (by simp (disch:=first|exact za|fail) only [go_sem,seval,-List.reduceReplicate]) ?_
         refine .q ?_;refine .fin Tryz.func102 (by rw [Tryz.results102]) (by simp (disch:=first|exact za|fail) only [go_sem,seval,-List.reduceReplicate];rfl) (by simp (disch:=first|exact za|fail) only [go_sem,seval,-List.reduceReplicate];rfl) (by (try dsimp only);repeat (first | with_reducible refine zv ?_ za | with_reducible refine zad ?_ za | with_reducible refine zaR ?_ za | with_reducible refine yY ?_ | with_reducible exact hbel | with_reducible exact hbel _)) ?_;simp (disch:=first|exact za|fail) only [go_sem,seval,-List.reduceReplicate]
         exact h
       · intro j env H' _ hj ⟨e0,e5,e8,eH⟩ ih
         subst eH
         have hLj:=hL (b.length / 64+j)
         have hLj1:=hL (b.length / 64+j+1)
         have hyi:=hy (b.length / 64+j) (by omega) [.tail (1+zbR b.length+8)]
         rw [←znO b j,hx] at hyi
         simp only [zaS,zY] at hyi
         refine .q ?_;refine .text ?_;simp (disch:=first|exact za|fail) only [go_sem,seval,-List.reduceReplicate,e5,e8]
         refine .q ?_;refine .ifT (by simp (disch:=first|exact za|fail) only [go_sem,seval,-List.reduceReplicate]) ?_
         refine .q ?_;refine .text ?_;simp (disch:=first|exact za|fail) only [go_sem,seval,-List.reduceReplicate,e0,e5,e8]
         refine YieldK.of (fun K hK=>hyi K hK) ?_;simp (disch:=first|exact za|fail) only [go_sem,seval,-List.reduceReplicate]
         refine .q ?_;refine .ifF (by simp (disch:=first|exact za|fail) only [go_sem,seval,-List.reduceReplicate]) ?_
         refine .q ?_;refine .text ?_;simp (disch:=first|exact za|fail) only [go_sem,seval,-List.reduceReplicate,e8]
         refine ih _ _ ?_
         simp (disch:=first|exact za|fail) only [go_sem,seval,-List.reduceReplicate,e0,e5,e8]
         exact⟨zxg (by omega),rfl⟩
     · intro j env H' _ hj ⟨e0,e1,e5,e6,e7,eH⟩ ih
       subst eH
       have ht:(56 - 8*(j:Int)).toNat=56 - 8*j:=by omega
       refine .q ?_;refine .text ?_;simp (disch:=first|exact za|fail) only [go_sem,seval,-List.reduceReplicate,e7]
       refine .q ?_;refine .ifT (by simp (disch:=first|exact za|fail) only [go_sem,seval,-List.reduceReplicate]) ?_
       refine .q ?_;refine .text ?_;simp (disch:=first|exact za|fail) only [go_sem,seval,-List.reduceReplicate,e5,e6,e7,ht]
       refine .q ?_;refine .text ?_;simp (disch:=first|exact za|fail) only [go_sem,seval,-List.reduceReplicate,e7]
       refine ih _ _ ?_
       simp (disch:=first|exact za|fail) only [go_sem,seval,-List.reduceReplicate,e0,e1,e5,e6,e7]
       simp only [zfx,List.append_assoc,Nat.add_assoc,true_and,and_true]
       exact zxg (by omega)
   · intro j env H' _ hj ⟨e0,e1,e5,eH⟩ ih
     subst eH
     have hmj:=zpn b.length j hj
     have hmj2:(dd.length+1+j) % 64≠56:=by omega
     refine .q ?_;refine .text ?_;simp (disch:=first|exact za|fail) only [go_sem,seval,-List.reduceReplicate,e5]
     refine .q ?_;refine .ifT (by simp (disch:=first|exact za|fail) only [go_sem,seval,-List.reduceReplicate]) ?_
     refine .q ?_;refine .text ?_;simp (disch:=first|exact za|fail) only [go_sem,seval,-List.reduceReplicate,e5]
     refine .q ?_
     refine ih _ _ ?_
     simp (disch:=first|exact za|fail) only [go_sem,seval,-List.reduceReplicate,e0,e1,e5]
     simp only [List.replicate_succ',List.append_assoc,Nat.add_assoc,and_self]
 · intro i env H' _ hi ⟨e0,e1,e3,e4,eH⟩ ih
   subst eH
   have hyi:=hy i (by omega) []
   rw [znN b i hi] at hyi
   simp only [zaS] at hyi
   refine .q ?_;refine .text ?_;simp (disch:=first|exact za|fail) only [go_sem,seval,-List.reduceReplicate,e3,e4]
   refine .q ?_;refine .ifT (by simp (disch:=first|exact za|fail) only [go_sem,seval,-List.reduceReplicate]) ?_
   refine .q ?_;refine .text ?_;simp (disch:=first|exact za|fail) only [go_sem,seval,-List.reduceReplicate,e0,e1,e4,hbox,hL]
   refine YieldK.of (fun K hK=>hyi K hK) ?_;simp (disch:=first|exact za|fail) only [go_sem,seval,-List.reduceReplicate]
   refine .q ?_;refine .ifF (by simp (disch:=first|exact za|fail) only [go_sem,seval,-List.reduceReplicate]) ?_
   refine .q ?_;refine .text ?_;simp (disch:=first|exact za|fail) only [go_sem,seval,-List.reduceReplicate,e4]
   refine ih _ _ ?_
   simp (disch:=first|exact za|fail) only [go_sem,seval,-List.reduceReplicate,e0,e1,e3,e4]
   exact zxg (by omega)

end Go.Proofs.YtgflpgcogkdpgaaGreatDoor

/-
  The walk of the hash.
-/
namespace Go.Proofs.YtgflpgcogkdpgaaGreatDoor
open Go Go.AL

theorem zlf {G:Globs} (b:List (BitVec 8)) (H:Hp) (R:AV → Hp → Prop) (h:R (.clo 102 [] [.ptr H.n 0]) (H.new (.cells [.p (.sl false 1 (pl b8 b))]))):ACall Tryz.prog G 87 [.p (.sl false 1 (pl b8 b))] H R:=by
 refine ACall.of_run (raw:=[]) Tryz.func87 rfl Tryz.ntmps87 (by simp) fun hbel => ?_
 refine .q ?_;refine .text ?_;simp (disch:=first|exact za|fail) only [go_sem,seval,-List.reduceReplicate]
 refine .q ?_;refine .text ?_;simp (disch:=first|exact za|fail) only [go_sem,seval,-List.reduceReplicate]
 refine .q ?_;refine .retKeep Tryz.func87 (by rw [Tryz.results87]) (by simp (disch:=first|exact za|fail) only [go_sem,seval,-List.reduceReplicate];rfl) ?_;(try simp (disch:=first|exact za|fail) only [go_sem,seval,-List.reduceReplicate])
 exact h

set_option maxHeartbeats 8000000 in
theorem zgF {G:Globs} (hG0:G 2=some (8,[.agg (pl zN inits)])) (hG1:G 3=some (64,[.agg (pl zN ks)])) (b:List (BitVec 8)) (hb:b.length≤140737488353000) (H:Hp) (R:AV → Hp → Prop) (h:R (.p (.agg (pl b8 (sha b)))) H) :
 ACall Tryz.prog G 63 [.p (.sl false 1 (pl b8 b))] H R:=by
 refine ACall.of_run (raw:=[]) Tryz.func63 rfl Tryz.ntmps63 (by simp) fun hbel => ?_
 have hi0:inits.length=8:=rfl
 have hi1:(yk (pad b) inits 0)=inits:=rfl
 refine .q ?_;refine .text ?_;simp (disch:=first|exact za|fail) only [go_sem,seval,-List.reduceReplicate]
 refine .q ?_;refine .text ?_;simp (disch:=first|exact za|fail) only [go_sem,seval,-List.reduceReplicate,hG0]
 refine .q ?_;refine .text ?_;simp (disch:=first|exact za|fail) only [go_sem,seval,-List.reduceReplicate]
 refine CallK.of (fun R h=>zlf b _ R h) ?_;simp (disch:=first|exact za|fail) only [go_sem,seval,-List.reduceReplicate]
 refine .q ?_;refine .rangeFunc (ps:=[12]) rfl (by simp (disch:=first|exact za|fail) only [go_sem,seval,-List.reduceReplicate];rfl) (by simp (disch:=first|exact za|fail) only [go_sem,seval,-List.reduceReplicate]) (by simp) fun L vs hL hvs hround => ?_;simp (disch:=first|exact za|fail) only [go_sem,seval,-List.reduceReplicate]
 refine zi9 b hb (H.n+3) (H.n+2) (H.n+4) (fun i=>(((H.new (.cells (cl b8 (List.replicate 32 0#8)))).new (.cells (cl zN (yk (pad b) inits i)))).new (.cells [.p (.sl false 1 (pl b8 b))])).new (.obj vs (L .ready none))) (fun i=>by simp (disch:=first|exact za|fail) only [go_sem,seval,-List.reduceReplicate]) (fun i => ?_) (by omega) (by omega) (fun i=>by simp (disch:=first|exact za|fail) only [go_sem,seval,-List.reduceReplicate]) (fun i hi T K hK => ?_) _ ?_
 · (try dsimp only);(repeat (first | with_reducible exact hbel | with_reducible exact yI hbel za | with_reducible refine zaY ?_ | with_reducible refine zaZ ?_ | with_reducible refine za0 ?_ | with_reducible refine za1 hvs ?_ za | with_reducible refine yY ?_ | with_reducible refine za2 ?_ | with_reducible refine za3 ?_ | with_reducible refine za4 ?_ | with_reducible refine za5 ?_))
 · refine hround _ _ _ rfl (by simp (disch:=first|exact za|fail) only [go_sem,seval,-List.reduceReplicate]) fun hbel2 => ?_
   dsimp only
   simp (disch:=first|exact za|fail) only [go_sem,seval,-List.reduceReplicate]
   refine .q ?_;refine .text ?_;simp (disch:=first|exact za|fail) only [go_sem,seval,-List.reduceReplicate]
   refine .q ?_;refine .beginRound rfl hL (by simp (disch:=first|exact za|fail) only [go_sem,seval,-List.reduceReplicate];rfl) ?_;simp (disch:=first|exact za|fail) only [go_sem,seval,-List.reduceReplicate]
   have hrl:(yk (pad b) inits i).length=8:=zaT _ _ hi0 i
   have hbl:(((pad b).take (64*i+64)).drop (64*i)).length=64:=by simp only [List.length_drop,List.length_take];omega
   generalize hbk:((pad b).take (64*i+64)).drop (64*i)=blk at hbl
   refine .q ?_;refine .text ?_;simp (disch:=first|exact za|fail) only [go_sem,seval,-List.reduceReplicate]
   refine CallK.of (fun R h=>zhw hG1 _ blk hrl hbl _ (H.n+1) (by simp (disch:=first|exact za|fail) only [go_sem,seval,-List.reduceReplicate]) (by simp (disch:=first|exact za|fail) only [go_sem,seval,-List.reduceReplicate];omega) R h) ?_;simp (disch:=first|exact za|fail) only [go_sem,seval,-List.reduceReplicate]
   refine .q ?_;refine .roundEndK rfl hL (by simp (disch:=first|exact za|fail) only [go_sem,seval,-List.reduceReplicate];rfl) ?_;simp (disch:=first|exact za|fail) only [go_sem,seval,-List.reduceReplicate]
   rw [yk,hbk] at hK
   exact hK
 · unfold zeg;refine⟨?_,.inl ⟨(by simp (disch:=first|exact za|fail) only [go_sem,seval,-List.reduceReplicate]<;>rfl),?_⟩⟩;(try dsimp only);(repeat (first | with_reducible exact hbel | with_reducible exact yI hbel za | with_reducible refine zaY ?_ | with_reducible refine zaZ ?_ | with_reducible refine za0 ?_ | with_reducible refine za1 hvs ?_ za | with_reducible refine yY ?_ | with_reducible refine za2 ?_ | with_reducible refine za3 ?_ | with_reducible refine za4 ?_ | with_reducible refine za5 ?_));simp (disch:=first|exact za|fail) only [go_sem,seval,-List.reduceReplicate]
   have hrl:=zaT (pad b) inits hi0 ((pad b).length / 64)
   unfold sha at h
   generalize yk (pad b) inits ((pad b).length / 64)=s at hrl h
   refine .q ?_;refine .text ?_;simp (disch:=first|exact za|fail) only [go_sem,seval,-List.reduceReplicate]
   refine .q ?_;refine .text ?_;simp (disch:=first|exact za|fail) only [go_sem,seval,-List.reduceReplicate]
   refine .q ?_
   refine .count (fun i env H'=>env 2 = .ptr H.n 0∧env 15 = .p (.agg (pl zN s))∧env 5 = .ptr (H.n+3) 0∧env 16 = .p (i64 i)∧H'=(((H.new (.cells (cl b8 (List.replicate 32 0#8)))).new (.cells (cl zN s))).new (.cells [.p (.sl false 1 (pl b8 b))])).new (.cells (cl b8 (dg s (4*i))))) 0 8 (by omega) ?_ ?_ ?_
   · simp (disch:=first|exact za|fail) only [go_sem,seval,-List.reduceReplicate]
     rfl
   · intro env H' ⟨e2,e15,e5,e16,eH⟩
     subst eH
     refine .q ?_;refine .text ?_;simp (disch:=first|exact za|fail) only [go_sem,seval,-List.reduceReplicate,e16]
     refine .q ?_;refine .ifF (by simp (disch:=first|exact za|fail) only [go_sem,seval,-List.reduceReplicate]) ?_
     refine .q ?_;refine .text ?_;simp (disch:=first|exact za|fail) only [go_sem,seval,-List.reduceReplicate,e2,e5]
     refine .q ?_;refine .rt Tryz.func63 (by rw [Tryz.results63]) (hx:=by simp (disch:=first|exact za|fail) only [go_sem,seval,-List.reduceReplicate,e2];rfl) (hR := ?_);simp (disch:=first|exact za|fail) only [go_sem,seval,-List.reduceReplicate,e2]
     exact h
   · intro i env H' _ hi ⟨e2,e15,e5,e16,eH⟩ ih
     subst eH
     refine .q ?_;refine .text ?_;simp (disch:=first|exact za|fail) only [go_sem,seval,-List.reduceReplicate,e16]
     refine .q ?_;refine .ifT (by simp (disch:=first|exact za|fail) only [go_sem,seval,-List.reduceReplicate]) ?_
     refine .q ?_;refine .text ?_;simp (disch:=first|exact za|fail) only [go_sem,seval,-List.reduceReplicate,e15,e16]
     refine .q ?_;refine .text ?_;simp (disch:=first|exact za|fail) only [go_sem,seval,-List.reduceReplicate]
     refine .q ?_
     refine .count (fun k env H'=>env 2 = .ptr H.n 0∧env 15 = .p (.agg (pl zN s))∧env 5 = .ptr (H.n+3) 0∧env 16 = .p (i64 i)∧env 6 = .p (i64 i)∧env 7 = .p (zN (nth s i))∧env 20 = .p (i64 k)∧H'=(((H.new (.cells (cl b8 (List.replicate 32 0#8)))).new (.cells (cl zN s))).new (.cells [.p (.sl false 1 (pl b8 b))])).new (.cells (cl b8 (dg s (4*i+k))))) 0 4 (by omega) ?_ ?_ ?_
     · simp (disch:=first|exact za|fail) only [go_sem,seval,-List.reduceReplicate,e2,e15,e5,e16]
     · intro env H' ⟨e2,e15,e5,e16,e6,e7,e20,eH⟩
       subst eH
       refine .q ?_;refine .text ?_;simp (disch:=first|exact za|fail) only [go_sem,seval,-List.reduceReplicate,e20]
       refine .q ?_;refine .ifF (by simp (disch:=first|exact za|fail) only [go_sem,seval,-List.reduceReplicate]) ?_
       refine .q ?_;refine .text ?_;simp (disch:=first|exact za|fail) only [go_sem,seval,-List.reduceReplicate,e16]
       refine ih _ _ ?_
       simp (disch:=first|exact za|fail) only [go_sem,seval,-List.reduceReplicate,e2,e15,e5,e16]
       rw [Nat.mul_add]
     · intro k env H' _ hk ⟨e2,e15,e5,e16,e6,e7,e20,eH⟩ ih2
       subst eH
       have ht:(24 - 8*(k:Int)).toNat=24 - 8*k:=by omega
       refine .q ?_;refine .text ?_;simp (disch:=first|exact za|fail) only [go_sem,seval,-List.reduceReplicate,e20]
       refine .q ?_;refine .ifT (by simp (disch:=first|exact za|fail) only [go_sem,seval,-List.reduceReplicate]) ?_
       refine .q ?_;refine .text ?_;simp (disch:=first|exact za|fail) only [go_sem,seval,-List.reduceReplicate,e20]
       refine .q ?_;refine .text ?_;simp (disch:=first|exact za|fail) only [go_sem,seval,-List.reduceReplicate,e5,e6,e7,ht]
       refine .q ?_;refine .text ?_;simp (disch:=first|exact za|fail) only [go_sem,seval,-List.reduceReplicate,e20]
       refine ih2 _ _ ?_
       simp (disch:=first|exact za|fail) only [go_sem,seval,-List.reduceReplicate,e2,e15,e5,e16,e6,e7,e20]
       have h1:(4*i+k) / 4=i:=by omega
       have h2:(4*i+k) % 4=k:=by omega
       rw [←Nat.add_assoc,dg,h1,h2]

end Go.Proofs.YtgflpgcogkdpgaaGreatDoor

/-
  slices.Grow at nil,by the library's contract.
-/
namespace Go.Proofs.YtgflpgcogkdpgaaGreatDoor
open Go Go.AL Go.Proofs Go.Shelf

def ren41:Ren:=⟨fun n=>if n=4 then 107 else n,fun n=>if n=25 then 5 else if n=22 then 22 else if n=20 then 20 else if n=9 then 9 else if n=4 then 4 else if n=3 then 3 else if n=0 then 0 else n,fun n=>n⟩

theorem zrC:Lays8.n4 Tryz.prog ren41 where
  mixed:=follows
  f4 := ⟨"slices.Grow[[]byte,byte]", by decide, by kernel_rfl⟩
  t0:=Tryz.underlying0
  a0:=fun w=>by kernel_rfl
  z0:=fun w=>by kernel_rfl
  v0:=fun w=>by kernel_rfl
  t3:=Tryz.underlying3
  a3:=fun w=>by kernel_rfl
  z3:=fun w=>by kernel_rfl
  v3:=fun w=>by kernel_rfl
  t4:=Tryz.underlying4
  a4:=fun w=>by kernel_rfl
  z4:=fun w=>by kernel_rfl
  v4:=fun w=>by kernel_rfl
  t9:=Tryz.underlying9
  a9:=fun w=>by kernel_rfl
  z9:=fun w=>by kernel_rfl
  v9:=fun w=>by kernel_rfl
  t20:=Tryz.underlying20
  a20:=fun w=>by kernel_rfl
  z20:=fun w=>by kernel_rfl
  v20:=fun w=>by kernel_rfl
  t22:=Tryz.underlying22
  a22:=fun w=>by kernel_rfl
  z22:=fun w=>by kernel_rfl
  v22:=fun w=>by kernel_rfl

theorem zAr:Tryz.prog.info? 5=some Tryz.t5:=by kernel_rfl

theorem zrD {G:Globs} (n:Nat) (hn0:0 < n) (hn:n≤140737488355300) (H:Hp) (R:AV → Hp → Prop) (h:R (.sl H.n 0 1 []) (H.new (.tail 0))) :
 ACall Tryz.prog G 107 [.p (.s (.slice none 0 0)),.p (i64 n)] H R:=by
 intro σ w vs hr hvs
 have hs:vs.size=2:=hvs.1
 have r0:=hvs.2 0 _ vs[0] rfl (by simp)
 have r1:=hvs.2 1 _ vs[1] rfl (by simp)
 have e1:vs[1] = .int .i64 n:=by
  generalize vs[1]=v at r1
  cases r1 with | p r=>cases r;rfl
 obtain⟨base,e0⟩ : ∃ base,vs[0] = .slice base 0 0:=by
  generalize vs[0]=v at r0
  cases r0 with | p r =>
  cases r;exact⟨none,rfl⟩
 have hv:vs = #[.slice base 0 0,.int .i64 n]:=by
  apply Array.ext
  · simp [hs]
  · intro i h1 h2
    have:i=0 ∨ i=1:=by simp at h2;omega
    rcases this with rfl | rfl
    · simpa using e0
    · simpa using e1
 have hc:=Any8.slices_Grow_grow zrC Tryz.t5 (.int .u8 0) zAr rfl (by decide) base 0 0 n [] w (Nat.le_refl _) (by omega) (by show (0+n)*1≤_;omega) (by omega) rfl (fun _=>rfl) (by simp)
 rw [hv]
 refine Calls.mono hc ?_
 rintro e w' ⟨rfl,rfl⟩
 generalize hC:(([]:List Value).toArray++Builtin.zeroCells (Value.int .u8 0).cells (0+n - 0)++Builtin.zeroCells (Value.int .u8 0).cells (grownCap w (0+n) 0 (ren41.t 25) - (0+n)))=C
 have hCs:grownCap w (0+n) 0 (ren41.t 25)≤C.size:=by
  rw [←hC]
  simp [Builtin.zeroCells,Value.cells]
  omega
 have hmax:grownCap w (0+n) 0 (ren41.t 25)≤maxLen:=grownCap_le_maxLen w _ _ _ (by unfold maxLen;omega)
 generalize grownCap w (0+n) 0 (ren41.t 25)=cap at hCs hmax
 obtain⟨h1,h2⟩:=zax hr (w':=w.drew.alloc (.cells C (ren41.t 25))) (by show w.drew.heap.size≤_;simp) (fun g hg=>heap_alloc_old w.drew _ hg) rfl rfl
  (some (w.heap.size,0,C.size)) (fun g o s hh=>by cases hh;exact⟨Nat.le_refl _,_,_,heap_alloc_new w.drew _,rfl⟩)
 refine⟨_,_,_,_,h,rfl,h1,.sl ?_ ⟨by simp [Hp.n_new],fun k0 d hk0 => ?_⟩,h2⟩
 · exact .sl false _ [] _ 0 _ (fun _=>undef) (by simp) ⟨by simp,hmax⟩ (by simp) (by simp) (by simp [flat])
 · simp [Hp.f_new] at hk0
   exact⟨by omega,fun _ => .inr ⟨w.heap.size,0,0,cap,C.size,by simp,by simp [Gh.withT],by omega⟩⟩

end Go.Proofs.YtgflpgcogkdpgaaGreatDoor

/-
  The walk of slices.Concat.
-/
namespace Go.Proofs.YtgflpgcogkdpgaaGreatDoor
open Go Go.AL

def bs (l:List (BitVec 8)):PV := .sl false 1 (pl b8 l)
theorem zlg (l:List (BitVec 8)):(bs l).cells=[bs l]:=rfl
theorem zvn (l:List (BitVec 8)):AV.p (bs l) = .p (.sl false 1 (pl b8 l)):=rfl
def tot (ps:List (List (BitVec 8))):Nat → Nat
 | 0=>0
 | i+1=>tot ps i+(nth ps i).length
def cat (ps:List (List (BitVec 8))):Nat → List (BitVec 8)
 | 0=>[]
 | i+1=>cat ps i++nth ps i
theorem zxQ (ps:List (List (BitVec 8))) (i:Nat):(cat ps i).length=tot ps i:=by
 induction i with
 | zero=>rfl
 | succ i ih=>simp [cat,tot,ih]
theorem zlh (ps:List (List (BitVec 8))) {i j:Nat} (h:i≤j):tot ps i≤tot ps j:=by
  induction j with
  | zero => have : i = 0 := by omega
            subst this;exact Nat.le_refl _
  | succ j ih =>
    by_cases e:i=j+1
    · rw [e];exact Nat.le_refl _
    · have:=ih (by omega);simp only [tot];omega

set_option maxHeartbeats 8000000 in
theorem zli {G:Globs} (ps:List (List (BitVec 8))) (hn:ps.length≤1000) (h0:0 < tot ps ps.length) (h1:tot ps ps.length≤140737488355000) (H:Hp) (R:AV → Hp → Prop) (h:R (.p (.sl false 1 (pl b8 (cat ps ps.length)))) H) :
 ACall Tryz.prog G 90 [.p (.sl false 1 (pl bs ps))] H R:=by
 refine ACall.of_run (raw:=[107]) Tryz.func90 rfl Tryz.ntmps90 (by simp) fun hbel => ?_
 refine .q ?_;refine .text ?_;simp (disch:=first|exact za|fail) only [go_sem,seval]
 refine .q ?_;refine .text ?_;simp (disch:=first|exact za|fail) only [go_sem,seval]
 refine .q ?_;refine .text ?_;simp (disch:=first|exact za|fail) only [go_sem,seval]
 refine .q ?_
 refine .count (fun i env H'=>env 0 = .p (.sl false 1 (pl bs ps))∧env 3 = .p (i64 (tot ps i))∧env 9 = .p (.sl false 1 (pl bs ps))∧env 10 = .p (i64 ps.length)∧env 11 = .p (i64 i)∧H'=H) 0 ps.length (by omega) ?_ ?_ ?_
 · simp (disch:=first|exact za|fail) only [go_sem,seval]
   rfl
 · intro env H' ⟨e0,e3,e9,e10,e11,eH⟩
   subst eH
   refine .q ?_;refine .text ?_;simp (disch:=first|exact za|fail) only [go_sem,seval,e10,e11]
   refine .q ?_;refine .ifF (by simp (disch:=first|exact za|fail) only [go_sem,seval]) ?_
   refine .q ?_;refine .text ?_;simp (disch:=first|exact za|fail) only [go_sem,seval,e3]
   refine CallK.of (fun R h=>zrD _ h0 (by omega) _ R h) ?_;simp (disch:=first|exact za|fail) only [go_sem,seval]
   refine .q ?_;refine .text ?_;simp (disch:=first|exact za|fail) only [go_sem,seval,e0]
   refine .q ?_
   refine .count (fun i env H2=>env 6 = .sl H'.n i 1 (pl b8 (cat ps i))∧env 25 = .p (.sl false 1 (pl bs ps))∧env 26 = .p (i64 ps.length)∧env 27 = .p (i64 i)∧H2=H'.new (.tail i)) 0 ps.length (by omega) ?_ ?_ ?_
   · simp (disch:=first|exact za|fail) only [go_sem,seval]
     rfl
   · intro env H2 ⟨e6,e25,e26,e27,eH⟩
     subst eH
     refine .q ?_;refine .text ?_;simp (disch:=first|exact za|fail) only [go_sem,seval,e26,e27]
     refine .q ?_;refine .ifF (by simp (disch:=first|exact za|fail) only [go_sem,seval]) ?_
     refine .q ?_;refine .text ?_;simp (disch:=first|exact za|fail) only [go_sem,seval,e6]
     refine .q ?_;refine .rt Tryz.func90 (by rw [Tryz.results90]) (hR := ?_);simp (disch:=first|exact za|fail) only [go_sem,seval]
     exact h
   · intro i env H2 _ hi ⟨e6,e25,e26,e27,eH⟩ ih
     subst eH
     have hm:=zlh ps (show i+1≤ps.length by omega)
     have hs:tot ps (i+1)=tot ps i+(nth ps i).length:=rfl
     have hcl:(cat ps i).length=tot ps i:=zxQ ps i
     refine .q ?_;refine .text ?_;simp (disch:=first|exact za|fail) only [go_sem,seval,e26,e27]
     refine .q ?_;refine .ifT (by simp (disch:=first|exact za|fail) only [go_sem,seval]) ?_
     refine .q ?_;refine .text ?_;simp (disch:=first|exact za|fail) only [go_sem,seval,e25,e27,zlg,zvn]
     refine .q ?_;refine .text ?_;simp (disch:=first|exact za|fail) only [go_sem,seval,e6]
     refine .q ?_;refine .text ?_;simp (disch:=first|exact za|fail) only [go_sem,seval,e27]
     refine ih _ _ ?_
     simp (disch:=first|exact za|fail) only [go_sem,seval,e6,e25,e26,e27]
     rfl
 · intro i env H' _ hi ⟨e0,e3,e9,e10,e11,eH⟩ ih
   subst eH
   have hm:=zlh ps (show i+1≤ps.length by omega)
   have hs:tot ps (i+1)=tot ps i+(nth ps i).length:=rfl
   refine .q ?_;refine .text ?_;simp (disch:=first|exact za|fail) only [go_sem,seval,e10,e11]
   refine .q ?_;refine .ifT (by simp (disch:=first|exact za|fail) only [go_sem,seval]) ?_
   refine .q ?_;refine .text ?_;simp (disch:=first|exact za|fail) only [go_sem,seval,e9,e11,zlg,zvn]
   refine .q ?_;refine .text ?_;simp (disch:=first|exact za|fail) only [go_sem,seval,e3]
   refine .q ?_;refine .text ?_;simp (disch:=first|exact za|fail) only [go_sem,seval]
   refine .q ?_;refine .ifF (by simp (disch:=first|exact za|fail) only [go_sem,seval]) ?_
   refine .q ?_;refine .text ?_;simp (disch:=first|exact za|fail) only [go_sem,seval,e11]
   refine ih _ _ ?_
   simp (disch:=first|exact za|fail) only [go_sem,seval,e0,e3,e9,e10,e11]
   rw [hs]
   rfl

end Go.Proofs.YtgflpgcogkdpgaaGreatDoor

/-
  The walks of the leaf's,the pair's and the keyed hash.
-/
namespace Go.Proofs.YtgflpgcogkdpgaaGreatDoor
open Go Go.AL

theorem zAs (a b c:List (BitVec 8)):[PV.sl false 1 (pl b8 a),PV.sl false 1 (pl b8 b),PV.sl false 1 (pl b8 c)]=pl bs [a,b,c]:=rfl
theorem zD7 (a b c:List (BitVec 8)):cat [a,b,c] 3=a++b++c:=by simp [cat,nth]
theorem zCc (a b c:List (BitVec 8)):tot [a,b,c] 3=a.length+b.length+c.length:=by simp [tot,nth]

set_option maxHeartbeats 8000000 in
theorem zrE {G:Globs} (hG0:G 2=some (8,[.agg (pl zN inits)])) (hG1:G 3=some (64,[.agg (pl zN ks)])) (a b:List (BitVec 8)) (ha:a.length=32) (hb:b.length=32) (H:Hp) (R:AV → Hp → Prop) (h:R (.p (.agg (pl b8 (pair a b)))) H) :
 ACall Tryz.prog G 67 [.p (.agg (pl b8 a)),.p (.agg (pl b8 b))] H R:=by
 refine ACall.of_run (raw:=[]) Tryz.func67 rfl Tryz.ntmps67 (by simp) fun hbel => ?_
 refine .q ?_;refine .text ?_;simp (disch:=first|exact za|fail) only [go_sem,seval,-List.reduceReplicate]
 refine .q ?_;refine .frzP 2 (by simp (disch:=first|exact za|fail) only [go_sem,seval,-List.reduceReplicate];rfl) (by simp (disch:=first|exact za|fail) only [go_sem,seval,-List.reduceReplicate]<;>rfl) (fun _=>rfl) (by first | exact za | fail) ?_;(try simp (disch:=first|exact za|fail) only [go_sem,seval,-List.reduceReplicate])
 refine .q ?_;refine .frzP 3 (by simp (disch:=first|exact za|fail) only [go_sem,seval,-List.reduceReplicate];rfl) (by simp (disch:=first|exact za|fail) only [go_sem,seval,-List.reduceReplicate]<;>rfl) (fun _=>rfl) (by first | exact za | fail) ?_;(try simp (disch:=first|exact za|fail) only [go_sem,seval,-List.reduceReplicate])
 refine .q ?_;refine .open [6] follows (by kernel_rfl) ?_;simp (disch:=first|exact za|fail) only [go_sem,seval,-List.reduceReplicate,zAs]
 refine CallD.still (fun R h=>zli [[1#8],a,b] (by simp) (by simp [zCc];omega) (by simp [zCc];omega) _ R h) ?_;simp (disch:=first|exact za|fail) only [go_sem,seval,-List.reduceReplicate,zD7]
 refine CallD.still (fun R h=>zgF hG0 hG1 ([1#8]++a++b) (by simp;omega) _ R h) ?_;simp (disch:=first|exact za|fail) only [go_sem,seval,-List.reduceReplicate]
 refine .q ?_;refine .rt Tryz.func67 (by rw [Tryz.results67]) (hR := ?_);simp (disch:=first|exact za|fail) only [go_sem,seval,-List.reduceReplicate]
 exact h

def fl (m:BitVec 8):Nat → List (BitVec 8)
 | 0=>List.replicate 64 0#8
 | i+1=>(fl m i).set i m


end Go.Proofs.YtgflpgcogkdpgaaGreatDoor

/-
  The walks of the reference's padding,digest and joins.
-/
namespace Go.Proofs.YtgflpgcogkdpgaaGreatDoor
open Go Go.AL

set_option maxHeartbeats 8000000 in
theorem zia {G:Globs} (a b:List (BitVec 8)) (ha:a.length≤140737488355000) (hb:a.length+b.length≤140737488355300) (H:Hp) (R:AV → Hp → Prop) (h:R (.p (.sl false 1 (pl b8 (a++b)))) H) :
 ACall Tryz.prog G 95 [.p (.sl false 1 (pl b8 a)),.p (.sl false 1 (pl b8 b))] H R:=by
 refine ACall.of_run (raw:=[]) Tryz.func95 rfl Tryz.ntmps95 (by simp) fun hbel => ?_
 refine .q ?_;refine .text ?_;simp (disch:=first|exact za|fail) only [go_sem,seval,-List.reduceReplicate]
 refine .q ?_;refine .text ?_;simp (disch:=first|exact za|fail) only [go_sem,seval,-List.reduceReplicate]
 refine .q ?_;refine .text ?_;simp (disch:=first|exact za|fail) only [go_sem,seval,-List.reduceReplicate]
 refine .q ?_;refine .text ?_;simp (disch:=first|exact za|fail) only [go_sem,seval,-List.reduceReplicate]
 refine .q ?_;refine .rt Tryz.func95 (by rw [Tryz.results95]) (hR := ?_);simp (disch:=first|exact za|fail) only [go_sem,seval,-List.reduceReplicate]
 exact h

set_option maxHeartbeats 8000000 in
theorem zvo {G:Globs} (b:List (BitVec 8)) (hb:b.length≤140737488355000) (H:Hp) (R:AV → Hp → Prop) (h:R (.p (.sl false 1 (pl b8 (pad b)))) H) :
 ACall Tryz.prog G 80 [.p (.sl false 1 (pl b8 b))] H R:=by
 refine ACall.of_run (raw:=[]) Tryz.func80 rfl Tryz.ntmps80 (by simp) fun hbel => ?_
 have hpn:=zi7 b.length
 refine .q ?_;refine .text ?_;simp (disch:=first|exact za|fail) only [go_sem,seval,-List.reduceReplicate]
 refine .q ?_;refine .text ?_;simp (disch:=first|exact za|fail) only [go_sem,seval,-List.reduceReplicate]
 refine .q ?_;refine .text ?_;simp (disch:=first|exact za|fail) only [go_sem,seval,-List.reduceReplicate]
 refine .q ?_
 refine .count (fun j env H'=>env 0 = .p (.sl false 1 (pl b8 b))∧env 3 = .sl H.n (1+j) 1 (pl b8 (b++[128#8]++List.replicate j 0#8))∧H'=H.new (.tail (1+j))) 0 (zbR b.length) (by omega) ?_ ?_ ?_
 · simp (disch:=first|exact za|fail) only [go_sem,seval,-List.reduceReplicate]
   simp only [List.replicate_zero,List.append_nil]
 · intro env H' ⟨e0,e3,eH⟩
   subst eH
   have hm:=zgE b.length
   refine .q ?_;refine .text ?_;simp (disch:=first|exact za|fail) only [go_sem,seval,-List.reduceReplicate,e0,e3]
   refine .q ?_;refine .ifF (by simp (disch:=first|exact za|fail) only [go_sem,seval,-List.reduceReplicate]) ?_
   refine .q ?_;refine .text ?_;simp (disch:=first|exact za|fail) only [go_sem,seval,-List.reduceReplicate,e0]
   refine .q ?_;refine .text ?_;simp (disch:=first|exact za|fail) only [go_sem,seval,-List.reduceReplicate,e3]
   refine .q ?_
   refine .count (fun i env H'=>env 3 = .sl H.n (1+zbR b.length+i) 1 (pl b8 (b++[128#8]++List.replicate (zbR b.length) 0#8++zfx (BitVec.ofInt 64 b.length*8#64) i))∧env 4 = .p (zw (BitVec.ofInt 64 b.length*8#64))∧env 5 = .p (i64 i)∧H'=H.new (.tail (1+zbR b.length+i))) 0 8 (by omega) ?_ ?_ ?_
   · simp (disch:=first|exact za|fail) only [go_sem,seval,-List.reduceReplicate,e3]
     simp only [zfx,List.append_nil]
   · intro env H' ⟨e3,e4,e5,eH⟩
     subst eH
     refine .q ?_;refine .text ?_;simp (disch:=first|exact za|fail) only [go_sem,seval,-List.reduceReplicate,e5]
     refine .q ?_;refine .ifF (by simp (disch:=first|exact za|fail) only [go_sem,seval,-List.reduceReplicate]) ?_
     refine .q ?_;refine .text ?_;simp (disch:=first|exact za|fail) only [go_sem,seval,-List.reduceReplicate,e3]
     refine .q ?_;refine .rt Tryz.func80 (by rw [Tryz.results80]) (hR := ?_);simp (disch:=first|exact za|fail) only [go_sem,seval,-List.reduceReplicate]
     exact h
   · intro i env H' _ hi ⟨e3,e4,e5,eH⟩ ih
     subst eH
     have ht:(56 - 8*(i:Int)).toNat=56 - 8*i:=by omega
     refine .q ?_;refine .text ?_;simp (disch:=first|exact za|fail) only [go_sem,seval,-List.reduceReplicate,e5]
     refine .q ?_;refine .ifT (by simp (disch:=first|exact za|fail) only [go_sem,seval,-List.reduceReplicate]) ?_
     refine .q ?_;refine .text ?_;simp (disch:=first|exact za|fail) only [go_sem,seval,-List.reduceReplicate,e3,e4,e5,ht]
     refine .q ?_;refine .text ?_;simp (disch:=first|exact za|fail) only [go_sem,seval,-List.reduceReplicate,e5]
     refine ih _ _ ?_
     simp (disch:=first|exact za|fail) only [go_sem,seval,-List.reduceReplicate,e3,e4,e5]
     simp only [zfx,List.append_assoc,Nat.add_assoc,and_self]
 · intro j env H' _ hj ⟨e0,e3,eH⟩ ih
   subst eH
   have hm:=zpn b.length j hj
   refine .q ?_;refine .text ?_;simp (disch:=first|exact za|fail) only [go_sem,seval,-List.reduceReplicate,e0,e3]
   refine .q ?_;refine .ifT (by simp (disch:=first|exact za|fail) only [go_sem,seval,-List.reduceReplicate]) ?_
   refine .q ?_;refine .text ?_;simp (disch:=first|exact za|fail) only [go_sem,seval,-List.reduceReplicate,e3]
   refine .q ?_
   refine ih _ _ ?_
   simp (disch:=first|exact za|fail) only [go_sem,seval,-List.reduceReplicate,e0,e3]
   simp only [List.replicate_succ',List.append_assoc,Nat.add_assoc,and_self]

set_option maxHeartbeats 8000000 in
theorem zcy {G:Globs} (d:List (BitVec 8)) (hd:d.length=32) (H:Hp) (R:AV → Hp → Prop) (h:R (.p (.sl false 1 (pl b8 d))) H) :
 ACall Tryz.prog G 59 [.p (.agg (pl b8 d))] H R:=by
 refine ACall.of_run (raw:=[]) Tryz.func59 rfl Tryz.ntmps59 (by simp) fun hbel => ?_
 refine .q ?_;refine .text ?_;simp (disch:=first|exact za|fail) only [go_sem,seval,-List.reduceReplicate]
 refine .q ?_;refine .text ?_;simp (disch:=first|exact za|fail) only [go_sem,seval,-List.reduceReplicate]
 refine .q ?_;refine .text ?_;simp (disch:=first|exact za|fail) only [go_sem,seval,-List.reduceReplicate]
 refine .q ?_
 refine .q ?_;refine .own 3 (by simp (disch:=first|exact za|fail) only [go_sem,seval,-List.reduceReplicate];rfl) ?_
 refine .count (fun i env H'=>env 1 = .ptr H.n 0∧env 4 = .p (i64 i)∧env 3 = .sl (H.n+1) i 1 (pl b8 (d.take i))∧H'=(H.new (.cells (cl b8 d))).new (.tail i)) 0 32 (by omega) ?_ ?_ ?_
 · simp (disch:=first|exact za|fail) only [go_sem,seval,-List.reduceReplicate]
   rfl
 · intro env H' ⟨e1,e4,e3,eH⟩
   subst eH
   refine .q ?_;refine .text ?_;simp (disch:=first|exact za|fail) only [go_sem,seval,-List.reduceReplicate,e4]
   refine .q ?_;refine .ifF (by simp (disch:=first|exact za|fail) only [go_sem,seval,-List.reduceReplicate]) ?_
   refine .q ?_;refine .text ?_;simp (disch:=first|exact za|fail) only [go_sem,seval,-List.reduceReplicate,e3]
   refine .q ?_;refine .rt Tryz.func59 (by rw [Tryz.results59]) (hR := ?_);simp (disch:=first|exact za|fail) only [go_sem,seval,-List.reduceReplicate]
   exact h
 · intro i env H' _ hi ⟨e1,e4,e3,eH⟩ ih
   subst eH
   refine .q ?_;refine .text ?_;simp (disch:=first|exact za|fail) only [go_sem,seval,-List.reduceReplicate,e4]
   refine .q ?_;refine .ifT (by simp (disch:=first|exact za|fail) only [go_sem,seval,-List.reduceReplicate]) ?_
   refine .q ?_;refine .text ?_;simp (disch:=first|exact za|fail) only [go_sem,seval,-List.reduceReplicate,e1,e3,e4]
   refine .q ?_;refine .text ?_;simp (disch:=first|exact za|fail) only [go_sem,seval,-List.reduceReplicate,e4]
   refine ih _ _ ?_
   simp (disch:=first|exact za|fail) only [go_sem,seval,-List.reduceReplicate,e1,e3,e4]

set_option maxHeartbeats 8000000 in
theorem zlj {G:Globs} (s:List (BitVec 32)) (hs:s.length=8) (H:Hp) (R:AV → Hp → Prop) (h:R (.p (.agg (pl b8 (dg s 32)))) H) :
 ACall Tryz.prog G 82 [.p (.agg (pl zN s))] H R:=by
 refine ACall.of_run (raw:=[]) Tryz.func82 rfl Tryz.ntmps82 (by simp) fun hbel => ?_
 refine .q ?_;refine .text ?_;simp (disch:=first|exact za|fail) only [go_sem,seval,-List.reduceReplicate]
 refine .q ?_;refine .text ?_;simp (disch:=first|exact za|fail) only [go_sem,seval,-List.reduceReplicate]
 refine .q ?_;refine .text ?_;simp (disch:=first|exact za|fail) only [go_sem,seval,-List.reduceReplicate]
 refine .q ?_
 refine .count (fun i env H'=>env 1 = .ptr H.n 0∧env 2 = .ptr (H.n+1) 0∧env 3 = .ptr (H.n+2) 0∧env 4 = .p (i64 i)∧H'=((H.new (.cells (cl zN s))).new (.cells (cl b8 (List.replicate 32 0#8)))).new (.cells (cl b8 (dg s i)))) 0 32 (by omega) ?_ ?_ ?_
 · simp (disch:=first|exact za|fail) only [go_sem,seval,-List.reduceReplicate]
   rw [dg]
 · intro env H' ⟨e1,e2,e3,e4,eH⟩
   subst eH
   refine .q ?_;refine .text ?_;simp (disch:=first|exact za|fail) only [go_sem,seval,-List.reduceReplicate,e4]
   refine .q ?_;refine .ifF (by simp (disch:=first|exact za|fail) only [go_sem,seval,-List.reduceReplicate]) ?_
   refine .q ?_;refine .text ?_;simp (disch:=first|exact za|fail) only [go_sem,seval,-List.reduceReplicate,e2,e3]
   refine .q ?_;refine .rt Tryz.func82 (by rw [Tryz.results82]) (hx:=by simp (disch:=first|exact za|fail) only [go_sem,seval,-List.reduceReplicate,e2];rfl) (hR := ?_);simp (disch:=first|exact za|fail) only [go_sem,seval,-List.reduceReplicate,e2]
   exact h
 · intro i env H' _ hi ⟨e1,e2,e3,e4,eH⟩ ih
   subst eH
   have ht:(24 - 8*((i:Int) % 4)).toNat=24 - 8*(i % 4):=by omega
   refine .q ?_;refine .text ?_;simp (disch:=first|exact za|fail) only [go_sem,seval,-List.reduceReplicate,e4]
   refine .q ?_;refine .ifT (by simp (disch:=first|exact za|fail) only [go_sem,seval,-List.reduceReplicate]) ?_
   refine .q ?_;refine .text ?_;simp (disch:=first|exact za|fail) only [go_sem,seval,-List.reduceReplicate,e1,e3,e4,ht]
   refine .q ?_;refine .text ?_;simp (disch:=first|exact za|fail) only [go_sem,seval,-List.reduceReplicate,e4]
   refine ih _ _ ?_
   simp (disch:=first|exact za|fail) only [go_sem,seval,-List.reduceReplicate,e1,e2,e3,e4]
   rw [dg]

end Go.Proofs.YtgflpgcogkdpgaaGreatDoor

/-
  The walks of the reference's hash,leaf,pair and keyed hash.
-/
namespace Go.Proofs.YtgflpgcogkdpgaaGreatDoor
open Go Go.AL

theorem zxR (b:List (BitVec 8)):(pad b).length % 64=0:=by
 rw [zi8]
 have:=zgE b.length
 omega

set_option maxHeartbeats 8000000 in
theorem zeN {G:Globs} (b:List (BitVec 8)) (hb:b.length≤140737488355000) (H:Hp) (R:AV → Hp → Prop) (h:R (.p (.agg (pl b8 (sha b)))) H) :
 ACall Tryz.prog G 60 [.p (.sl false 1 (pl b8 b))] H R:=by
 refine ACall.of_run (raw:=[]) Tryz.func60 rfl Tryz.ntmps60 (by simp) fun hbel => ?_
 have hm:=zxR b
 have hl:(pad b).length≤140737488355100:=by rw [zi8];have:=zi7 b.length;omega
 have hi0:inits.length=8:=rfl
 unfold sha at h
 generalize hp:pad b=p at hm hl h
 refine .q ?_;refine .text ?_;simp (disch:=first|exact za|fail) only [go_sem,seval,-List.reduceReplicate]
 refine .q ?_;refine .text ?_;simp (disch:=first|exact za|fail) only [go_sem,seval,-List.reduceReplicate]
 refine CallK.of (fun R h=>zi6 _ R h) ?_;simp (disch:=first|exact za|fail) only [go_sem,seval,-List.reduceReplicate]
 refine CallK.of (fun R h=>zvo b hb _ R h) ?_;simp (disch:=first|exact za|fail) only [go_sem,seval,-List.reduceReplicate,hp]
 refine .q ?_;refine .text ?_;simp (disch:=first|exact za|fail) only [go_sem,seval,-List.reduceReplicate]
 refine .q ?_
 refine .count (fun i env H'=>env 2 = .ptr H.n 0∧env 3 = .ptr (H.n+1) 0∧env 4 = .p (.sl false 1 (pl b8 p))∧env 5 = .p (i64 (64*i:Nat)) ∧
  H'=(H.new (.cells (cl b8 (List.replicate 32 0#8)))).new (.cells (cl zN (yk p inits i)))) 0 (p.length / 64) (by omega) ?_ ?_ ?_
 · simp (disch:=first|exact za|fail) only [go_sem,seval,-List.reduceReplicate]
   rw [yk]
 · intro env H' ⟨e2,e3,e4,e5,eH⟩
   subst eH
   have hr:(yk p inits (p.length / 64)).length=8:=zaT _ _ hi0 _
   generalize yk p inits (p.length / 64)=s at hr h
   have h64:64*(p.length / 64)=p.length:=by omega
   rw [h64] at e5
   refine .q ?_;refine .text ?_;simp (disch:=first|exact za|fail) only [go_sem,seval,-List.reduceReplicate,e4,e5]
   refine .q ?_;refine .ifF (by simp (disch:=first|exact za|fail) only [go_sem,seval,-List.reduceReplicate]) ?_
   refine .q ?_;refine .text ?_;simp (disch:=first|exact za|fail) only [go_sem,seval,-List.reduceReplicate,e3]
   refine CallK.of (fun R h=>zlj s hr _ R h) ?_;simp (disch:=first|exact za|fail) only [go_sem,seval,-List.reduceReplicate,e2]
   refine .q ?_;refine .rt Tryz.func60 (by rw [Tryz.results60]) (hx:=by simp (disch:=first|exact za|fail) only [go_sem,seval,-List.reduceReplicate,e2];rfl) (hR := ?_);simp (disch:=first|exact za|fail) only [go_sem,seval,-List.reduceReplicate,e2]
   exact h
 · intro i env H' _ hi ⟨e2,e3,e4,e5,eH⟩ ih
   subst eH
   have hr:(yk p inits i).length=8:=zaT _ _ hi0 _
   have hlen:(List.drop (64*i) (List.take (64*i+64) p)).length=64:=by simp;omega
   refine .q ?_;refine .text ?_;simp (disch:=first|exact za|fail) only [go_sem,seval,-List.reduceReplicate,e4,e5]
   refine .q ?_;refine .ifT (by simp (disch:=first|exact za|fail) only [go_sem,seval,-List.reduceReplicate]) ?_
   refine .q ?_;refine .open [7] follows (by kernel_rfl) ?_;simp (disch:=first|exact za|fail) only [go_sem,seval,-List.reduceReplicate,e3,e4,e5]
   refine CallD.still (fun R h=>zhu _ _ hr hlen _ R h) ?_;simp (disch:=first|exact za|fail) only [go_sem,seval,-List.reduceReplicate,e3]
   refine .q ?_;refine .text ?_;simp (disch:=first|exact za|fail) only [go_sem,seval,-List.reduceReplicate,e5]
   refine ih _ _ ?_
   simp (disch:=first|exact za|fail) only [go_sem,seval,-List.reduceReplicate,e2,e3,e4,e5]
   rw [yk]
   exact⟨congrArg (fun z=>AV.p (i64 z)) (by omega),rfl⟩

set_option maxHeartbeats 8000000 in
theorem znP {G:Globs} (a b:List (BitVec 8)) (ha:a.length=32) (hb:b.length=32) (H:Hp) (R:AV → Hp → Prop) (h:R (.p (.agg (pl b8 (pair a b)))) H) :
 ACall Tryz.prog G 73 [.p (.agg (pl b8 a)),.p (.agg (pl b8 b))] H R:=by
 refine ACall.of_run (raw:=[]) Tryz.func73 rfl Tryz.ntmps73 (by simp) fun hbel => ?_
 refine .q ?_;refine .text ?_;simp (disch:=first|exact za|fail) only [go_sem,seval,-List.reduceReplicate]
 refine .q ?_;refine .open [8] follows (by kernel_rfl) ?_;simp (disch:=first|exact za|fail) only [go_sem,seval,-List.reduceReplicate]
 refine CallD.still (fun R h=>zcy a ha _ R h) ?_;simp (disch:=first|exact za|fail) only [go_sem,seval,-List.reduceReplicate]
 refine CallD.still (fun R h=>zia [1#8] a (by simp) (by simp;omega) _ R h) ?_;simp (disch:=first|exact za|fail) only [go_sem,seval,-List.reduceReplicate]
 refine CallD.still (fun R h=>zcy b hb _ R h) ?_;simp (disch:=first|exact za|fail) only [go_sem,seval,-List.reduceReplicate]
 refine CallD.still (fun R h=>zia ([1#8]++a) b (by simp;omega) (by simp;omega) _ R h) ?_;simp (disch:=first|exact za|fail) only [go_sem,seval,-List.reduceReplicate]
 refine CallD.still (fun R h=>zeN ([1#8]++a++b) (by simp;omega) _ R h) ?_;simp (disch:=first|exact za|fail) only [go_sem,seval,-List.reduceReplicate]
 refine .q ?_;refine .rt Tryz.func73 (by rw [Tryz.results73]) (hR := ?_);simp (disch:=first|exact za|fail) only [go_sem,seval,-List.reduceReplicate]
 exact h

end Go.Proofs.YtgflpgcogkdpgaaGreatDoor

/-
  The walks of the comparison of bytes and of the row of equal bytes.
-/
namespace Go.Proofs.YtgflpgcogkdpgaaGreatDoor
open Go Go.AL

set_option maxHeartbeats 8000000 in
theorem zgG {G:Globs} (a b:List (BitVec 8)) (ha:a.length≤140737488355000) (hb:b.length≤140737488355000) (H:Hp) (R:AV → Hp → Prop) (h:R (.p (bo (decide (a=b)))) H) :
 ACall Tryz.prog G 76 [.p (.sl false 1 (pl b8 a)),.p (.sl false 1 (pl b8 b))] H R:=by
 refine ACall.of_run (raw:=[]) Tryz.func76 rfl Tryz.ntmps76 (by simp) fun hbel => ?_
 refine .q ?_;refine .text ?_;simp (disch:=first|exact za|fail) only [go_sem,seval]
 by_cases hl:a.length=b.length
 case neg =>
  have hne:a≠b:=fun e=>hl (by rw [e])
  refine .q ?_;refine .text ?_;simp (disch:=first|exact za|fail) only [go_sem,seval]
  refine .q ?_;refine .ifT (by simp (disch:=first|exact za|fail) only [go_sem,seval]) ?_
  refine .q ?_;refine .text ?_;simp (disch:=first|exact za|fail) only [go_sem,seval]
  refine .q ?_;refine .rt Tryz.func76 (by rw [Tryz.results76]) (hR := ?_);simp (disch:=first|exact za|fail) only [go_sem,seval]
  rw [decide_eq_false hne] at h
  exact h
 refine .q ?_;refine .text ?_;simp (disch:=first|exact za|fail) only [go_sem,seval]
 refine .q ?_;refine .ifF (by simp (disch:=first|exact za|fail) only [go_sem,seval]) ?_
 refine .q ?_;refine .text ?_;simp (disch:=first|exact za|fail) only [go_sem,seval]
 refine .q ?_
 refine .count (fun i env H'=>env 0 = .p (.sl false 1 (pl b8 a))∧env 1 = .p (.sl false 1 (pl b8 b))∧env 5 = .p (i64 i)∧(∀ j,j < i → nth a j=nth b j)∧H'=H) 0 a.length (by omega) ?_ ?_ ?_
 · simp (disch:=first|exact za|fail) only [go_sem,seval]
   omega
 · intro env H' ⟨e0,e1,e5,hj,eH⟩
   subst eH
   have he:a=b:=zfB hl hj
   refine .q ?_;refine .text ?_;simp (disch:=first|exact za|fail) only [go_sem,seval,e0,e5]
   refine .q ?_;refine .ifF (by simp (disch:=first|exact za|fail) only [go_sem,seval]) ?_
   refine .q ?_;refine .text ?_;simp (disch:=first|exact za|fail) only [go_sem,seval]
   refine .q ?_;refine .rt Tryz.func76 (by rw [Tryz.results76]) (hR := ?_);simp (disch:=first|exact za|fail) only [go_sem,seval]
   rw [decide_eq_true he] at h
   exact h
 · intro i env H' _ hi ⟨e0,e1,e5,hj,eH⟩ ih
   subst eH
   have hi2:i < b.length:=by omega
   refine .q ?_;refine .text ?_;simp (disch:=first|exact za|fail) only [go_sem,seval,e0,e5]
   refine .q ?_;refine .ifT (by simp (disch:=first|exact za|fail) only [go_sem,seval]) ?_
   refine .q ?_;refine .open [] follows (by kernel_rfl) ?_;simp (disch:=first|exact za|fail) only [go_sem,seval,e0,e1,e5]
   by_cases hx:nth a i=nth b i
   · have hbn:(nth a i != nth b i)=false:=by simp [hx]
     refine .q ?_;refine .ifF (by simp (disch:=first|exact za|fail) only [go_sem,seval,hbn]) ?_
     refine .q ?_;refine .text ?_;simp (disch:=first|exact za|fail) only [go_sem,seval,e5]
     refine ih _ _ ?_
     simp (disch:=first|exact za|fail) only [go_sem,seval,e0,e1,e5]
     intro j hj'
     by_cases hji:j=i
     · subst hji;exact hx
     · exact hj j (by omega)
   · have hbn:(nth a i != nth b i)=true:=by simp [hx]
     have hne:a≠b:=fun e=>hx (by rw [e])
     refine .q ?_;refine .ifT (by simp (disch:=first|exact za|fail) only [go_sem,seval,hbn]) ?_
     refine .q ?_;refine .text ?_;simp (disch:=first|exact za|fail) only [go_sem,seval]
     refine .q ?_;refine .rt Tryz.func76 (by rw [Tryz.results76]) (hR := ?_);simp (disch:=first|exact za|fail) only [go_sem,seval]
     rw [decide_eq_false hne] at h
     exact h

end Go.Proofs.YtgflpgcogkdpgaaGreatDoor

/-
  Sessions: numbers as bytes;the program's write and read.
-/
namespace Go.Proofs.YtgflpgcogkdpgaaGreatDoor
open Go Go.AL

abbrev By:=List (BitVec 8)
abbrev U:=BitVec 64
theorem CallD.of {C:Cx} {ops:Array Oper} {q:Nat → Bool} {f:FuncId} {args':List AV} {dst:Option Nat} {n:Nat} {rest:List Oper} {k:List Item} {env:Env} {H H':Hp} {R:AV → Hp → Prop} {r:AV}
 (h : ∀ R:AV → Hp → Prop,R r H' → ACall C.P C.G f args' H R) (hk:yQ C ops q n rest k (env.put dst r) H' R):CallD C ops q false f args' dst n rest k env H R :=
 .moves (h (fun r' H2=>r'=r∧H2=H') ⟨rfl,rfl⟩) (by rintro _ _ ⟨rfl,rfl⟩;exact hk)

theorem ACall.wk {P:Program} {f:FuncId} {args:List AV} {G:Globs} {H:Hp} {R R':AV → Hp → Prop} (h:ACall P G f args H R') (hw : ∀ r H',R' r H' → ∃ r',R r' H' ∧ ∀ σ w v,RelV σ H' w r v → RelV σ H' w r' v):ACall P G f args H R:=by
 intro σ w vs h1 h2
 refine (h σ w vs h1 h2).mono ?_
 rintro e W' ⟨r,H',σ',v,q1,q2,q3,q4,q5⟩
 obtain⟨r',p1,p2⟩:=hw r H' q1
 exact⟨r',H',σ',v,p1,q2,q3,p2 _ _ _ q4,q5⟩
theorem zg {C:Cx} {ops:Array Oper} {i:Nat} {o:Oper} {K:Env → Hp → Prop} {env:Env} {H:Hp} (x:AV) (ho:ops[i]? = some o) (hg:o.guard=none) (hs:zj C.P C.G o.op o.type env H = .val x H) (hd:zy C.nt o.dst=true)
 (hK:K (env.put o.dst x) H):opA C ops false i K env H:=by
 unfold opA
 rw [ho]
 simp only [hg,zx,aOp1,hs,sOp]
 exact⟨hd,hK⟩
theorem za8 {C:Cx} {ops:Array Oper} {i:Nat} {o:Oper} {K:Env → Hp → Prop} {env:Env} {H H':Hp} (x:AV) (ho:ops[i]? = some o) (hg:o.guard=none) (hs:zj C.P C.G o.op o.type env H = .val x H') (hd:zy C.nt o.dst=true)
 (hK:K (env.put o.dst x) H'):opA C ops false i K env H:=by
 unfold opA
 rw [ho]
 simp only [hg,zx,aOp1,hs,sOp]
 exact⟨hd,hK⟩
theorem yz {C:Cx} {ops:Array Oper} {i:Nat} {o:Oper} {K:Env → Hp → Prop} {env:Env} {H H':Hp} (ho:ops[i]? = some o) (hg:o.guard=none) (hs:zj C.P C.G o.op o.type env H = .unit H') (hd:o.dst=none)
 (hK:K env H'):opA C ops false i K env H:=by
 unfold opA
 rw [ho]
 simp only [hg,zx,aOp1,hs,sOp]
 exact⟨hd,by rw [hd];exact hK⟩
theorem yT {C:Cx} {ops:Array Oper} {i:Nat} {o:Oper} {K:Env → Hp → Prop} {env:Env} {H:Hp} {f:FuncId} {xs xs':List AV} {r:AV} {H':Hp} (ho:ops[i]? = some o) (hg:o.guard=none) (hs:zj C.P C.G o.op o.type env H = .call f xs) (hd:zy C.nt o.dst=true)
 (hargs:zR C.raw f xs=xs') (hc : ∀ R:AV → Hp → Prop,R r H' → ACall C.P C.G f xs' H R) (hK:K (env.put o.dst r) H'):opA C ops false i K env H:=by
 unfold opA
 rw [ho]
 simp only [hg,zx,aOp1,hs,sOp,hargs]
 exact⟨hd,hc _ hK⟩
theorem zb {L:Nat → Bool} {i k:Nat} (h:k≠i):more L i k=L k:=by simp [more,h]
theorem zF {L:Nat → Bool} {i:Nat}:more L i i=true:=by simp [more]
theorem zAt {L:Nat → Bool} {i k:Nat} (h:L k=true):more L i k=true:=by simp [more,h]
def allT (L:Nat → Bool) (l:List Nat):Prop := ∀ d∈l,L d=true
theorem zz {L:Nat → Bool}:allT L []:=fun d h=>by cases h
theorem ze {L:Nat → Bool} {d:Nat} {l:List Nat} (h:L d=true) (t:allT L l):allT L (d :: l):=fun x hx=>by
 rcases List.mem_cons.1 hx with rfl | hx
 · exact h
 · exact t x hx
section inv
variable {L:Nat → Bool} {i j s:Nat} {env:Env} {d:Option Nat} {x v:AV} {l:List Nat}
theorem y8 (m:L j=true → allT L l) (hL:L i=false) (h:i∈l:=by decide):L j=false:=Bool.eq_false_iff.2 fun e=>by
 have:=m e i h
 rw [hL] at this;cases this
theorem kf (e:env s=v) (h:d≠some s:=by decide):env.put d x s=v:=(zeJ fun i hi q=>h (hi.trans (congrArg some q))).trans e
theorem kn {p:Prop}:p → env.put (some s) x s=x:=fun _=>put_some.trans (if_pos rfl)
theorem kt (t:allT L l):allT (more L i) l:=fun d h=>zAt (t d h)
theorem ka (m:L j=true → allT L l) (h:j≠i:=by decide):more L i j=true → allT (more L i) l:=fun q=>kt (m (by rwa [zb h] at q))
theorem kL {A:Array Edge} {L:Nat → Bool} (hall : ∀ e∈A,Region.binds .any e=true → L e.on=true) (k:Nat) {j:Nat} {g:Ground} (h1:A[k]? = some ⟨j,g⟩) (h2:Region.binds .any ⟨j,g⟩=true):L j=true:=hall _ (Array.mem_of_getElem? h1) h2
def kF (env:Env) (l:List (Nat × AV)):Prop := ∀ p∈l,env p.1=p.2
def kI (L:Nat → Bool) (env:Env) (l:List (Nat × Nat × AV)):Prop := ∀ p∈l,L p.1=true → env p.2.1=p.2.2
theorem kF0:kF env []:=fun p h=>by cases h
theorem kFc {t:List (Nat × AV)} (h:env s=v) (r:kF env t):kF env ((s,v) :: t):=fun p hp=>by
 rcases List.mem_cons.1 hp with rfl | hp
 · exact h
 · exact r p hp
theorem kFi {t:List (Nat × AV)}:kF env ((s,v) :: t)=(env s=v∧kF env t):=propext ⟨fun F=>⟨F _ List.mem_cons_self,fun p hp=>F p (List.mem_cons_of_mem _ hp)⟩,fun h=>kFc h.1 h.2⟩
theorem kFn:kF env []=True:=propext ⟨fun _=>trivial,fun _=>kF0⟩
theorem yl {t:List (Nat × AV)} (F:kF env t) (k:Nat) (e:t[k]? = some (s,v)):env s=v:=F _ (List.mem_of_getElem? e)
theorem zG {t:List (Nat × Nat × AV)} (G:kI L env t) (k:Nat) (e:t[k]? = some (i,s,v)) (h:L i=true):env s=v:=G _ (List.mem_of_getElem? e) h
theorem zT {t:List (Nat × AV)} (F:kF env t) (h:t.all (fun p=>p.1 != s)=true:=by rfl):kF (env.put (some s) x) t:=fun p hp =>
 kf (F p hp) fun q=>by
  have h1:=List.all_eq_true.1 h p hp
  simp only [Option.some.injEq] at q
  simp [q] at h1
theorem zU {t:List (Nat × Nat × AV)} (G:kI L env t) (h1:t.all (fun p=>p.1 == i || p.2.1 != s)=true:=by rfl) (h2:t.filter (fun p=>p.1 == i)=[(i,s,x)]:=by rfl):kI (more L i) (env.put (some s) x) t:=fun p hp hL=>by
 by_cases e:p.1=i
 · have h3:p∈t.filter (fun p=>p.1 == i):=List.mem_filter.2 ⟨hp,by simp [e]⟩
   rw [h2] at h3
   obtain rfl:=List.mem_singleton.1 h3
   exact kn (p:=True) trivial
 · refine kf (G p hp (by rwa [zb e] at hL)) fun q => ?_
   have h3:=List.all_eq_true.1 h1 p hp
   simp only [Option.some.injEq] at q
   simp [q,e] at h3
theorem kIs {t:List (Nat × Nat × AV)} (G:kI L env t) (h1:t.all (fun p=>p.1 != i)=true:=by rfl):kI (more L i) env t:=fun p hp hL=>by
 have h3:=List.all_eq_true.1 h1 p hp
 exact G p hp (by rwa [zb (by simpa using h3)] at hL)
theorem kx {p:Prop}:more L i i=false → p:=fun q=>by rw [zF] at q;cases q
theorem kq (f:L j=false → env s=v) (h:j≠i:=by decide) (hd:d≠some s:=by decide):more L i j=false → env.put d x s=v:=fun q=>kf (f (by rwa [zb h] at q)) hd
end inv

theorem zja {f:FuncId} {args:List AV}:zR [f] f args=args:=by simp [zR]
theorem zlk {f g:Nat} {args:List AV} (h:f≠g):zR [g] f args=args.map AV.weak:=by simp [zR,h]
attribute [go_sem] zja zlk
def le (x:U):Nat → By
 | 0=>[]
 | n+1=>le x n++[(x >>> (8*n)).setWidth 8]
theorem ya {x:U} : ∀ {n},(le x n).length=n
 | 0=>rfl
 | n+1=>by simp [le,ya]
theorem zbr {x:U} {n:Nat}:le x (n+1)=le x n++[(x >>> (8*n)).setWidth 8]:=rfl

def rd:By → U
 | []=>0
 | c :: b=>rd b <<< 8 ||| c.setWidth 64
theorem zxS {b:By} {i:Nat} (h:i < b.length):rd (b.drop i)=rd (b.drop (i+1)) <<< 8 ||| (nth b i).setWidth 64:=by
 rw [List.drop_eq_getElem_cons h,show nth b i=b[i] by simp [nth,h]]
 rfl

section walks
variable {G:Globs}
set_option maxHeartbeats 4000000 in
theorem zbI (b:By) (x:U) (n:Nat) (hb:b.length+n≤140737488355000) (α v:Nat) (H:Hp) (hα:H.f α=some (.tail v)) (R:AV → Hp → Prop) (h:R (.sl α (v+n) 1 (pl b8 (b++le x n))) (H.set α (.tail (v+n)))) :
 ACall Tryz.prog G 62 [.sl α v 1 (pl b8 b),.p (zw x),.p (i64 n)] H R:=by
 refine ACall.of_run (raw:=[]) Tryz.func62 rfl Tryz.ntmps62 (by simp) fun hbel => ?_
 have hαn:=Hp.lt hα
 have hs0:H.set α (.tail v)=H:=Hp.set_same H _ α hα
 refine .q ?_;refine .text ?_;simp (disch:=first|exact za|fail) only [go_sem,seval]
 refine .q ?_;refine .text ?_;simp (disch:=first|exact za|fail) only [go_sem,seval]
 refine .q ?_;refine .loopH [7] (fun i=>[(0,.sl α (v+i) 1 (pl b8 (b++le x i))),(1,.p (zw (x >>> (8*i)))),(8,.p (i64 i))]) (fun i=>H.set α (.tail (v+i))) (fun i=>True) (0) (n) (by omega) ?_ (by first | rfl | (simp (disch:=first|exact za|fail) only [go_sem,seval,le,hs0,List.append_nil,Nat.mul_zero,BitVec.ushiftRight_zero]<;>rfl)) ?_ ?_ ?_
 · simp (disch:=first|exact za|fail) only [go_sem,seval,le,hs0,List.append_nil,Nat.mul_zero,BitVec.ushiftRight_zero]<;>(repeat' (first | rfl | refine And.intro ?_ ?_))
 · exact trivial
 intro env E hQ;simp (disch:=first|exact za|fail) only [go_sem,seval,le,hs0,List.append_nil,Nat.mul_zero,BitVec.ushiftRight_zero] at E
 rotate_left 1
 intro i env hi0 hi E hQ ihE;simp (disch:=first|exact za|fail) only [go_sem,seval,le,hs0,List.append_nil,Nat.mul_zero,BitVec.ushiftRight_zero] at E
 rotate_left 1
 · refine .q ?_;refine .text ?_;simp (disch:=first|exact za|fail) only [go_sem,seval,E]
   refine .q ?_;refine .ifF (by simp (disch:=first|exact za|fail) only [go_sem,seval]) ?_
   refine .q ?_;refine .text ?_;simp (disch:=first|exact za|fail) only [go_sem,seval,E]
   refine .q ?_;refine .retKeep Tryz.func62 (by rw [Tryz.results62]) (by simp (disch:=first|exact za|fail) only [go_sem,seval,E];rfl) ?_;(try simp (disch:=first|exact za|fail) only [go_sem,seval,E])
   exact h
 · have h8:x >>> (8*i) >>> 8=x >>> (8*(i+1)):=by rw [←BitVec.shiftRight_add];rfl
   have hl:=ya (x:=x) (n:=i)
   refine .q ?_;refine .text ?_;simp (disch:=first|exact za|fail) only [go_sem,seval,E]
   refine .q ?_;refine .ifT (by simp (disch:=first|exact za|fail) only [go_sem,seval]) ?_
   refine .q ?_;refine .text ?_;simp (disch:=first|exact za|fail) only [go_sem,seval,E,hl]
   refine .q ?_;refine .text ?_;simp (disch:=first|exact za|fail) only [go_sem,seval,E]
   refine .q ?_;refine .text ?_;simp (disch:=first|exact za|fail) only [go_sem,seval,E]
   first | (refine ihE _ _ ?_ trivial ?_) | (refine .z rfl ?_;refine ihE _ _ ?_ trivial ?_) | (refine .z rfl ?_;refine .z rfl ?_;refine ihE _ _ ?_ trivial ?_) | (refine .z rfl ?_;refine .z rfl ?_;refine .z rfl ?_;refine ihE _ _ ?_ trivial ?_)
   · simp (disch:=first|exact za|fail) only [go_sem,seval,E,h8,zbr,List.append_assoc,Nat.add_assoc]<;>(repeat' (first | rfl | refine And.intro ?_ ?_))
   · first | rfl | (simp (disch:=first|exact za|fail) only [go_sem,seval,E,h8,zbr,List.append_assoc,Nat.add_assoc]<;>(try rfl))

set_option maxHeartbeats 4000000 in
theorem zll (b:By) (x:U) (n:Nat) (hb:b.length+n≤140737488355000) (H:Hp) (R:AV → Hp → Prop) (h:R (.sl H.n n 1 (pl b8 (b++le x n))) (H.new (.tail n))) :
 ACall Tryz.prog G 62 [.p (.sl true 1 (pl b8 b)),.p (zw x),.p (i64 n)] H R:=by
 refine ACall.of_run (raw:=[]) Tryz.func62 rfl Tryz.ntmps62 (by simp) fun hbel => ?_
 refine .q ?_;refine .text ?_;simp (disch:=first|exact za|fail) only [go_sem,seval]
 refine .q ?_;refine .own 0 (by simp (disch:=first|exact za|fail) only [go_sem,seval];rfl) ?_
 refine .q ?_;refine .text ?_;simp (disch:=first|exact za|fail) only [go_sem,seval]
 refine .q ?_;refine .loopH [7] (fun i=>[(0,.sl H.n i 1 (pl b8 (b++le x i))),(1,.p (zw (x >>> (8*i)))),(8,.p (i64 i))]) (fun i=>H.new (.tail i)) (fun i=>True) (0) (n) (by omega) ?_ (by first | rfl | (simp (disch:=first|exact za|fail) only [go_sem,seval,le,List.append_nil,Nat.mul_zero,BitVec.ushiftRight_zero]<;>rfl)) ?_ ?_ ?_
 · simp (disch:=first|exact za|fail) only [go_sem,seval,le,List.append_nil,Nat.mul_zero,BitVec.ushiftRight_zero]<;>(repeat' (first | rfl | refine And.intro ?_ ?_))
 · exact trivial
 intro env E hQ;simp (disch:=first|exact za|fail) only [go_sem,seval,le,List.append_nil,Nat.mul_zero,BitVec.ushiftRight_zero] at E
 rotate_left 1
 intro i env hi0 hi E hQ ihE;simp (disch:=first|exact za|fail) only [go_sem,seval,le,List.append_nil,Nat.mul_zero,BitVec.ushiftRight_zero] at E
 rotate_left 1
 · refine .q ?_;refine .text ?_;simp (disch:=first|exact za|fail) only [go_sem,seval,E]
   refine .q ?_;refine .ifF (by simp (disch:=first|exact za|fail) only [go_sem,seval]) ?_
   refine .q ?_;refine .text ?_;simp (disch:=first|exact za|fail) only [go_sem,seval,E]
   refine .q ?_;refine .retKeep Tryz.func62 (by rw [Tryz.results62]) (by simp (disch:=first|exact za|fail) only [go_sem,seval,E];rfl) ?_;(try simp (disch:=first|exact za|fail) only [go_sem,seval,E])
   exact h
 · have h8:x >>> (8*i) >>> 8=x >>> (8*(i+1)):=by rw [←BitVec.shiftRight_add];rfl
   have hl:=ya (x:=x) (n:=i)
   refine .q ?_;refine .text ?_;simp (disch:=first|exact za|fail) only [go_sem,seval,E]
   refine .q ?_;refine .ifT (by simp (disch:=first|exact za|fail) only [go_sem,seval]) ?_
   refine .q ?_;refine .text ?_;simp (disch:=first|exact za|fail) only [go_sem,seval,E,hl]
   refine .q ?_;refine .text ?_;simp (disch:=first|exact za|fail) only [go_sem,seval,E]
   refine .q ?_;refine .text ?_;simp (disch:=first|exact za|fail) only [go_sem,seval,E]
   first | (refine ihE _ _ ?_ trivial ?_) | (refine .z rfl ?_;refine ihE _ _ ?_ trivial ?_) | (refine .z rfl ?_;refine .z rfl ?_;refine ihE _ _ ?_ trivial ?_) | (refine .z rfl ?_;refine .z rfl ?_;refine .z rfl ?_;refine ihE _ _ ?_ trivial ?_)
   · simp (disch:=first|exact za|fail) only [go_sem,seval,E,h8,zbr,List.append_assoc]<;>(repeat' (first | rfl | refine And.intro ?_ ?_))
   · first | rfl | (simp (disch:=first|exact za|fail) only [go_sem,seval,E,h8,zbr,List.append_assoc]<;>(try rfl))

theorem zhx (L:By) (H:Hp) (R:AV → Hp → Prop) (h:R (.clo 108 [] [.ptr H.n 0]) (H.new (.cells [.p (.sl false 1 (pl b8 L))]))):ACall Tryz.prog G 92 [.p (.sl false 1 (pl b8 L))] H R:=by
 refine ACall.of_run (raw:=[]) Tryz.func92 rfl Tryz.ntmps92 (by simp) fun hbel => ?_
 refine .q ?_;refine .text ?_;simp (disch:=first|exact za|fail) only [go_sem,seval]
 refine .q ?_;refine .text ?_;simp (disch:=first|exact za|fail) only [go_sem,seval]
 refine .q ?_;refine .retKeep Tryz.func92 (by rw [Tryz.results92]) (by simp (disch:=first|exact za|fail) only [go_sem,seval];rfl) ?_;(try simp (disch:=first|exact za|fail) only [go_sem,seval])
 exact h

set_option maxHeartbeats 8000000 in
theorem zgH (L:By) (hl:L.length≤140737488355000) (y p m:Nat) (X:Nat → Hp) (hX : ∀ i,(X i).n=m) (hB : ∀ i,Bel m (X i)) (hy0:y < m) (hp : ∀ i,(X i).f p=some (.cells [.p (.sl false 1 (pl b8 L))]))
 (hy : ∀ j,j < L.length → ∀ (S:List AB) (K:AV → Hp → Prop),K (.p (bo true)) (app (X (j+1)) S) → AYield Tryz.prog G y [.p (i64 ((L.length:Int) - 1 - j)),.p (b8 (nth L (L.length - 1 - j)))] (app (X j) S) K)
 (R:AV → Hp → Prop) (h:R (.tup []) (X L.length)):ACall Tryz.prog G 108 [.yld y,.ptr p 0] (X 0) R:=by
 have hX0:=hX 0
 have hp0:=hp 0
 refine ACall.of_run (raw:=[]) Tryz.func108 rfl Tryz.ntmps108 (by simp) fun hbel => ?_
 rw [hX0]
 have hbel : ∀ i,Bel m (X i):=hB
 refine .q ?_;refine .text ?_;simp (disch:=first|exact za|fail) only [go_sem,seval,hp0]
 refine .q ?_;refine .loopH [0,1] (fun j=>[(3,.p (i64 ((L.length:Int) - 1 - j)))]) (fun j=>X j) (fun j=>True) (0) (L.length) (by omega) ?_ (by first | rfl | (simp (disch:=first|exact za|fail) only [go_sem,seval,Int.sub_zero]<;>rfl)) ?_ ?_ ?_
 · simp (disch:=first|exact za|fail) only [go_sem,seval,Int.sub_zero]<;>(repeat' (first | rfl | refine And.intro ?_ ?_))
 · exact trivial
 intro env E hQ;simp (disch:=first|exact za|fail) only [go_sem,seval,Int.sub_zero] at E
 rotate_left 1
 intro j env hj0 hj E hQ ihE;simp (disch:=first|exact za|fail) only [go_sem,seval,Int.sub_zero] at E
 rotate_left 1
 · have d:decide ((0:Int)≤(L.length:Int) - 1 - (L.length:Int))=false:=by simp only [decide_eq_false_iff_not];omega
   have hXe:=hX L.length
   refine .q ?_;refine .text ?_;simp (disch:=first|exact za|fail) only [go_sem,seval,E,d]
   refine .q ?_;refine .ifF (by simp (disch:=first|exact za|fail) only [go_sem,seval,d]) ?_
   refine .q ?_;refine .fin Tryz.func108 (by rw [Tryz.results108]) (by simp (disch:=first|exact za|fail) only [go_sem,seval];rfl) (by simp (disch:=first|exact za|fail) only [go_sem,seval];rfl) (by (try dsimp only);repeat (first | with_reducible refine zv ?_ za | with_reducible refine zad ?_ za | with_reducible refine zaR ?_ za | with_reducible refine yY ?_ | with_reducible exact hbel | with_reducible exact hbel _)) ?_;simp (disch:=first|exact za|fail) only [go_sem,seval]
   (try rw [zeb hXe.symm])
   exact h
 · have d:decide ((0:Int)≤(L.length:Int) - 1 - (j:Int))=true:=by simp only [decide_eq_true_eq];omega
   have ht:((L.length:Int) - 1 - (j:Int)).toNat=L.length - 1 - j:=by omega
   have hyj:=hy j hj []
   simp only [zaS] at hyj
   have hpj:=hp j
   have hq:(L.length:Int) - 1 - ((j:Int)+1)=(L.length:Int) - 1 - (j:Int) - 1:=by omega
   refine .q ?_;refine .text ?_;simp (disch:=first|exact za|fail) only [go_sem,seval,E,d]
   refine .q ?_;refine .ifT (by simp (disch:=first|exact za|fail) only [go_sem,seval,d]) ?_
   refine .q ?_;refine .text ?_;simp (disch:=first|exact za|fail) only [go_sem,seval,E,hpj,ht]
   refine YieldK.of (fun K hK=>hyj K hK) ?_;simp (disch:=first|exact za|fail) only [go_sem,seval]
   refine .q ?_;refine .ifF (by simp (disch:=first|exact za|fail) only [go_sem,seval]) ?_
   refine .q ?_;refine .text ?_;simp (disch:=first|exact za|fail) only [go_sem,seval,E]
   first | (refine ihE _ _ ?_ trivial ?_) | (refine .z rfl ?_;refine ihE _ _ ?_ trivial ?_) | (refine .z rfl ?_;refine .z rfl ?_;refine ihE _ _ ?_ trivial ?_) | (refine .z rfl ?_;refine .z rfl ?_;refine .z rfl ?_;refine ihE _ _ ?_ trivial ?_)
   · simp (disch:=first|exact za|fail) only [go_sem,seval,E,hq]<;>(repeat' (first | rfl | refine And.intro ?_ ?_))
   · first | rfl | (simp (disch:=first|exact za|fail) only [go_sem,seval,E,hq]<;>(try rfl))

set_option maxHeartbeats 8000000 in
theorem zdt (b:By) (hb:b.length≤140737488355000) (H:Hp) (R:AV → Hp → Prop) (h:R (.p (zw (rd b))) H):ACall Tryz.prog G 70 [.p (.sl false 1 (pl b8 b))] H R:=by
 refine ACall.of_run (raw:=[]) Tryz.func70 rfl Tryz.ntmps70 (by simp) fun hbel => ?_
 refine .q ?_;refine .text ?_;simp (disch:=first|exact za|fail) only [go_sem,seval]
 refine .q ?_;refine .text ?_;simp (disch:=first|exact za|fail) only [go_sem,seval]
 refine CallK.of (fun R h=>zhx b _ R h) ?_;simp (disch:=first|exact za|fail) only [go_sem,seval]
 refine .q ?_;refine .rangeFunc (ps:=[7,8]) rfl (by simp (disch:=first|exact za|fail) only [go_sem,seval];rfl) (by simp (disch:=first|exact za|fail) only [go_sem,seval]) (by simp) fun L vs hL hvs hround => ?_;simp (disch:=first|exact za|fail) only [go_sem,seval]
 have h0:0#64=rd (b.drop (b.length - 0)):=by rw [Nat.sub_zero,List.drop_length];rfl
 rw [h0]
 refine zgH b hb (H.n+2) (H.n+1) (H.n+3) (fun j=>(((H.new (.cells [.p (zw (rd (b.drop (b.length - j))))])).new (.cells [.p (.sl false 1 (pl b8 b))])).new (.obj vs (L .ready none)))) (fun j=>by simp (disch:=first|exact za|fail) only [go_sem,seval]) (fun j => ?_) (by omega) (fun j=>by simp (disch:=first|exact za|fail) only [go_sem,seval]) (fun j hj S K hK => ?_) _ ?_
 · (try dsimp only);(repeat (first | with_reducible exact hbel | with_reducible exact yI hbel za | with_reducible refine zaY ?_ | with_reducible refine zaZ ?_ | with_reducible refine za0 ?_ | with_reducible refine za1 hvs ?_ za | with_reducible refine yY ?_ | with_reducible refine za2 ?_ | with_reducible refine za3 ?_ | with_reducible refine za4 ?_ | with_reducible refine za5 ?_))
 · have hst:rd (b.drop (b.length - (j+1)))=rd (b.drop (b.length - j)) <<< 8 ||| (nth b (b.length - 1 - j)).setWidth 64:=by
    rw [zxS (b:=b) (i:=b.length - (j+1)) (by omega),show b.length - (j+1)+1=b.length - j by omega,show b.length - (j+1)=b.length - 1 - j by omega]
   rw [hst] at hK
   refine hround _ _ _ rfl (by simp (disch:=first|exact za|fail) only [go_sem,seval]) fun hbel2 => ?_
   dsimp only
   simp (disch:=first|exact za|fail) only [go_sem,seval]
   refine .q ?_;refine .text ?_;simp (disch:=first|exact za|fail) only [go_sem,seval]
   refine .q ?_;refine .beginRound rfl hL (by simp (disch:=first|exact za|fail) only [go_sem,seval];rfl) ?_;simp (disch:=first|exact za|fail) only [go_sem,seval]
   refine .q ?_;refine .text ?_;simp (disch:=first|exact za|fail) only [go_sem,seval]
   refine .q ?_;refine .roundEndK rfl hL (by simp (disch:=first|exact za|fail) only [go_sem,seval];rfl) ?_;simp (disch:=first|exact za|fail) only [go_sem,seval]
   exact hK
 · unfold zeg;refine⟨?_,.inl ⟨(by simp (disch:=first|exact za|fail) only [go_sem,seval]<;>rfl),?_⟩⟩;(try dsimp only);(repeat (first | with_reducible exact hbel | with_reducible exact yI hbel za | with_reducible refine zaY ?_ | with_reducible refine zaZ ?_ | with_reducible refine za0 ?_ | with_reducible refine za1 hvs ?_ za | with_reducible refine yY ?_ | with_reducible refine za2 ?_ | with_reducible refine za3 ?_ | with_reducible refine za4 ?_ | with_reducible refine za5 ?_));simp (disch:=first|exact za|fail) only [go_sem,seval]
   rw [Nat.sub_self,List.drop_zero]
   refine .q ?_;refine .text ?_;simp (disch:=first|exact za|fail) only [go_sem,seval]
   refine .q ?_;refine .rt Tryz.func70 (by rw [Tryz.results70]) (hR := ?_);simp (disch:=first|exact za|fail) only [go_sem,seval]
   exact h

theorem znQ (n:Int) (H:Hp) (R:AV → Hp → Prop) (h:R (.p (bo (decide (0≤n) && decide (n≤2147483647)))) H):ACall Tryz.prog G 83 [.p (i64 n)] H R:=by
 refine ACall.of_run (raw:=[]) Tryz.func83 rfl Tryz.ntmps83 (by simp) fun hbel => ?_
 refine .q ?_;refine .text ?_;simp (disch:=first|exact za|fail) only [go_sem,seval]
 refine .q ?_;refine .text ?_;simp (disch:=first|exact za|fail) only [go_sem,seval]
 (first | refine yC (fun h1 => ?_) (fun h1 => ?_) | refine yv (fun h1 => ?_) (fun h1 => ?_))<;>(try simp only [Bool.not_eq_true',Bool.not_eq_false'] at h1)<;>simp (disch:=first|exact za|fail) only [go_sem,seval,h1]
 · refine .q ?_;refine .rt Tryz.func83 (by rw [Tryz.results83]) (hR := ?_);simp (disch:=first|exact za|fail) only [go_sem,seval]
   simpa [h1] using h
 · refine .q ?_;refine .rt Tryz.func83 (by rw [Tryz.results83]) (hR := ?_);simp (disch:=first|exact za|fail) only [go_sem,seval]
   simpa [h1] using h

theorem zdU (a b c:Int) (ha:0≤a∧a≤1000000000000000) (hb:0≤b∧b≤1000000000000000) (hc:0≤c∧c≤1000000000000000) (H:Hp) (R:AV → Hp → Prop) (h:R (.p (bo (a+b+c == 0))) H):ACall Tryz.prog G 144 [.p (i64 a),.p (i64 b),.p (i64 c)] H R:=by
 refine ACall.of_run (raw:=[]) Tryz.func144 rfl Tryz.ntmps144 (by simp) fun hbel => ?_
 refine .q ?_;refine .text ?_;simp (disch:=first|exact za|fail) only [go_sem,seval]
 refine .q ?_;refine .text ?_;simp (disch:=first|exact za|fail) only [go_sem,seval]
 refine .q ?_;refine .rt Tryz.func144 (by rw [Tryz.results144]) (hR := ?_);simp (disch:=first|exact za|fail) only [go_sem,seval]
 exact h
theorem znR (a b c:Int) (ha:0≤a∧a≤1000000000000000) (hb:0≤b∧b≤1000000000000000) (hc:0≤c∧c≤1000000000000000) (H:Hp) (R:AV → Hp → Prop) (h:R (.p (bo (decide (1≤a) && decide (a≤400) && (b+c == 0)))) H):ACall Tryz.prog G 143 [.p (i64 a),.p (i64 b),.p (i64 c)] H R:=by
 refine ACall.of_run (raw:=[]) Tryz.func143 rfl Tryz.ntmps143 (by simp) fun hbel => ?_
 refine .q ?_;refine .text ?_;simp (disch:=first|exact za|fail) only [go_sem,seval]
 refine .q ?_;refine .text ?_;simp (disch:=first|exact za|fail) only [go_sem,seval]
 (first | refine yC (fun h1 => ?_) (fun h1 => ?_) | refine yv (fun h1 => ?_) (fun h1 => ?_))<;>(try simp only [Bool.not_eq_true',Bool.not_eq_false'] at h1)<;>simp (disch:=first|exact za|fail) only [go_sem,seval,h1]
 · (first | refine yC (fun h2 => ?_) (fun h2 => ?_) | refine yv (fun h2 => ?_) (fun h2 => ?_))<;>(try simp only [Bool.not_eq_true',Bool.not_eq_false'] at h2)<;>simp (disch:=first|exact za|fail) only [go_sem,seval,h2]
   · refine .q ?_;refine .rt Tryz.func143 (by rw [Tryz.results143]) (hR := ?_);simp (disch:=first|exact za|fail) only [go_sem,seval]
     simpa [h1,h2] using h
   · refine .q ?_;refine .rt Tryz.func143 (by rw [Tryz.results143]) (hR := ?_);simp (disch:=first|exact za|fail) only [go_sem,seval]
     simpa [h1,h2] using h
 · refine .q ?_;refine .rt Tryz.func143 (by rw [Tryz.results143]) (hR := ?_);simp (disch:=first|exact za|fail) only [go_sem,seval]
   simpa [h1] using h
theorem znS (a b c:Int) (ha:0≤a∧a≤1000000000000000) (hb:0≤b∧b≤1000000000000000) (hc:0≤c∧c≤1000000000000000) (H:Hp) (R:AV → Hp → Prop) (h:R (.p (bo (decide (b≤64) && (a+c == 0)))) H):ACall Tryz.prog G 145 [.p (i64 a),.p (i64 b),.p (i64 c)] H R:=by
 refine ACall.of_run (raw:=[]) Tryz.func145 rfl Tryz.ntmps145 (by simp) fun hbel => ?_
 refine .q ?_;refine .text ?_;simp (disch:=first|exact za|fail) only [go_sem,seval]
 refine .q ?_;refine .text ?_;simp (disch:=first|exact za|fail) only [go_sem,seval]
 (first | refine yC (fun h1 => ?_) (fun h1 => ?_) | refine yv (fun h1 => ?_) (fun h1 => ?_))<;>(try simp only [Bool.not_eq_true',Bool.not_eq_false'] at h1)<;>simp (disch:=first|exact za|fail) only [go_sem,seval,h1]
 · refine .q ?_;refine .rt Tryz.func145 (by rw [Tryz.results145]) (hR := ?_);simp (disch:=first|exact za|fail) only [go_sem,seval]
   simpa [h1] using h
 · refine .q ?_;refine .rt Tryz.func145 (by rw [Tryz.results145]) (hR := ?_);simp (disch:=first|exact za|fail) only [go_sem,seval]
   simpa [h1] using h
theorem znT (a b c:Int) (ha:0≤a∧a≤1000000000000000) (hb:0≤b∧b≤1000000000000000) (hc:0≤c∧c≤1000000000000000) (H:Hp) (R:AV → Hp → Prop) (h:R (.p (bo ((c == 1) && (a+b == 0)))) H):ACall Tryz.prog G 146 [.p (i64 a),.p (i64 b),.p (i64 c)] H R:=by
 refine ACall.of_run (raw:=[]) Tryz.func146 rfl Tryz.ntmps146 (by simp) fun hbel => ?_
 refine .q ?_;refine .text ?_;simp (disch:=first|exact za|fail) only [go_sem,seval]
 refine .q ?_;refine .text ?_;simp (disch:=first|exact za|fail) only [go_sem,seval]
 (first | refine yC (fun h1 => ?_) (fun h1 => ?_) | refine yv (fun h1 => ?_) (fun h1 => ?_))<;>(try simp only [Bool.not_eq_true',Bool.not_eq_false'] at h1)<;>simp (disch:=first|exact za|fail) only [go_sem,seval,h1]
 · refine .q ?_;refine .rt Tryz.func146 (by rw [Tryz.results146]) (hR := ?_);simp (disch:=first|exact za|fail) only [go_sem,seval]
   simpa [h1] using h
 · refine .q ?_;refine .rt Tryz.func146 (by rw [Tryz.results146]) (hR := ?_);simp (disch:=first|exact za|fail) only [go_sem,seval]
   simpa [h1] using h
theorem znU (a b c:Int) (ha:0≤a∧a≤1000000000000000) (hb:0≤b∧b≤1000000000000000) (hc:0≤c∧c≤1000000000000000) (H:Hp) (R:AV → Hp → Prop) (h:R (.p (bo (decide (c≤64) && (a+b == 0)))) H):ACall Tryz.prog G 147 [.p (i64 a),.p (i64 b),.p (i64 c)] H R:=by
 refine ACall.of_run (raw:=[]) Tryz.func147 rfl Tryz.ntmps147 (by simp) fun hbel => ?_
 refine .q ?_;refine .text ?_;simp (disch:=first|exact za|fail) only [go_sem,seval]
 refine .q ?_;refine .text ?_;simp (disch:=first|exact za|fail) only [go_sem,seval]
 (first | refine yC (fun h1 => ?_) (fun h1 => ?_) | refine yv (fun h1 => ?_) (fun h1 => ?_))<;>(try simp only [Bool.not_eq_true',Bool.not_eq_false'] at h1)<;>simp (disch:=first|exact za|fail) only [go_sem,seval,h1]
 · refine .q ?_;refine .rt Tryz.func147 (by rw [Tryz.results147]) (hR := ?_);simp (disch:=first|exact za|fail) only [go_sem,seval]
   simpa [h1] using h
 · refine .q ?_;refine .rt Tryz.func147 (by rw [Tryz.results147]) (hR := ?_);simp (disch:=first|exact za|fail) only [go_sem,seval]
   simpa [h1] using h
end walks
end Go.Proofs.YtgflpgcogkdpgaaGreatDoor

/-
  Sessions: messages and sessions as data;the rules;which messages are valid.
-/
namespace Go.Proofs.YtgflpgcogkdpgaaGreatDoor
open Go Go.AL

def Dg := {l:By // l.length=32}
instance:Inhabited Dg:=⟨⟨List.replicate 32 0#8,rfl⟩⟩
instance:DecidableEq Dg:=inferInstanceAs (DecidableEq {l:By // l.length=32})
theorem Dg.len (d:Dg):d.val.length=32:=d.2
def zD:Dg:=⟨List.replicate 32 0#8,rfl⟩
structure Ext where
 a:U
 b:U
 deriving DecidableEq,Inhabited
def ext (x:Ext):PV := .agg [zw x.a,zw x.b]
structure Msg where
 kind:Int
 session:Int
 step:Int
 text:By
 root:Dg
 sums:List Int
 values:List Ext
 deriving DecidableEq
structure Ses where
 id:Int
 step:Int
 state:Int
 text:By
 seen:Dg
 last:Msg
 due:Int
 bytes:Int
 rounds:Int
 words:Int
 deriving DecidableEq
def zdA (m:Msg):List PV:=[i64 m.kind,i64 m.session,i64 m.step,str (bytesOf m.text)]++(pl b8 m.root.val++[.sl false 1 (pl i64 m.sums),.sl false 2 (pl ext m.values)])
def zen (s:Ses):List PV:=[i64 s.id,i64 s.step,i64 s.state,str (bytesOf s.text)]++(pl b8 s.seen.val++(zdA s.last++[i64 s.due,i64 s.bytes,i64 s.rounds,i64 s.words]))
def ym (m:Msg):PV := .agg (zdA m)
def y9 (s:Ses):PV := .agg (zen s)
def yR (m:Msg):List AV:=(zdA m).map .p
def zJ (s:Ses):List AV:=(zen s).map .p

theorem zeo {l:By}:(bytesOf l).size=l.length:=by simp [bytesOf,ByteArray.size]

section cells
variable {m:Msg} {s:Ses}
theorem zep:(zdA m).length=38:=by simp [zdA,zb2,m.root.len]
theorem zvp:(zen s).length=78:=by simp [zen,zb2,zep,s.seen.len]
theorem zE:(yR m).length=38:=by rw [yR,List.length_map,zep]
theorem zV:(zJ s).length=78:=by rw [zJ,List.length_map,zvp]
theorem znV:zi (.p (ym m))=some (yR m):=rfl
theorem znW:zi (.p (y9 s))=some (zJ s):=rfl
theorem zdF (l:List PV):pvs? (l.map .p)=some l:=by
 induction l with
 | nil=>rfl
 | cons a l ih=>simp [pvs?,ih,AV.pv?]
theorem zrH:zq (yR m) = .p (ym m):=by unfold zq yR;rw [zdF];rfl
theorem zrI:zq (zJ s) = .p (y9 s):=by unfold zq zJ;rw [zdF];rfl
theorem zlm:(zJ s).take 78=zJ s:=List.take_of_length_le (by rw [zV];exact Nat.le_refl _)
theorem zal:yR m = .p (i64 m.kind) :: .p (i64 m.session) :: .p (i64 m.step) :: .p (str (bytesOf m.text)) :: (cl b8 m.root.val++[.p (.sl false 1 (pl i64 m.sums)),.p (.sl false 2 (pl ext m.values))]):=by simp [yR,zdA,cl,pl]
theorem yJ:zJ s = .p (i64 s.id) :: .p (i64 s.step) :: .p (i64 s.state) :: .p (str (bytesOf s.text)) :: (cl b8 s.seen.val++(yR s.last++[.p (i64 s.due),.p (i64 s.bytes),.p (i64 s.rounds),.p (i64 s.words)])):=by simp [zJ,zen,yR,cl,pl]
theorem yc (d:Dg):(cl b8 d.val).length=32:=by rw [zak,d.len]
theorem zcz {a b:List AV} {i n:Nat} (h:a.length=n) (hi:n≤i):(a++b)[i]? = b[i - n]? := by rw [List.getElem?_append_right (by omega),h]
theorem zCd:(yR m)[0]? = some (.p (i64 m.kind)):=by rw [zal];rfl
theorem zD8:(yR m)[1]? = some (.p (i64 m.session)):=by rw [zal];rfl
theorem zCe:(yR m)[2]? = some (.p (i64 m.step)):=by rw [zal];rfl
theorem zCf:(yR m)[3]? = some (.p (str (bytesOf m.text))):=by rw [zal];rfl
theorem zzu:(yR m)[36]? = some (.p (.sl false 1 (pl i64 m.sums))):=by rw [zal];simp only [List.getElem?_cons_succ];rw [zcz (yc _) (by omega)];rfl
theorem zzv:(yR m)[37]? = some (.p (.sl false 2 (pl ext m.values))):=by rw [zal];simp only [List.getElem?_cons_succ];rw [zcz (yc _) (by omega)];rfl
theorem zD9:((yR m).drop 4).take 32=cl b8 m.root.val:=by
 rw [zal];simp only [List.drop_succ_cons,List.drop_zero]
 rw [List.take_append_of_le_length (by rw [yc];omega),List.take_of_length_le (by rw [yc];omega)]
theorem zCg:(yR m).drop 4=cl b8 m.root.val++[.p (.sl false 1 (pl i64 m.sums)),.p (.sl false 2 (pl ext m.values))]:=by rw [zal];rfl
theorem zjb {l:By} {r:List AV} : ∀ {n:Nat},n≤l.length → yt false 1 n (cl b8 l++r)=some (pl b8 (l.take n)):=by
 induction l with
 | nil=>intro n h;simp at h;subst h;rfl
 | cons a l ih =>
  intro n h
  cases n with
  | zero=>rfl
  | succ n =>
   have:=ih (n:=n) (by simpa using h)
   simp only [cl,List.map_cons,List.cons_append] at this ⊢
   simp only [yt]
   rw [if_pos (by simp)]
   simp only [List.take_succ_cons,List.take_zero,List.drop_succ_cons,List.drop_zero,this]
   rfl
theorem zhy:yt false 1 32 ((yR m).drop 4)=some (pl b8 m.root.val):=by
 rw [zCg,zjb (by rw [m.root.len];exact Nat.le_refl _),List.take_of_length_le (by rw [m.root.len];exact Nat.le_refl _)]
theorem zEa:(zJ s)[0]? = some (.p (i64 s.id)):=by rw [yJ];rfl
theorem zEb:(zJ s)[1]? = some (.p (i64 s.step)):=by rw [yJ];rfl
theorem zEc:(zJ s)[2]? = some (.p (i64 s.state)):=by rw [yJ];rfl
theorem zEd:((zJ s).drop 4).take 32=cl b8 s.seen.val:=by
 rw [yJ];simp only [List.drop_succ_cons,List.drop_zero]
 rw [List.take_append_of_le_length (by rw [yc];omega),List.take_of_length_le (by rw [yc];omega)]
theorem zln {i:Nat} (h:i < 38):(zJ s)[36+i]? = (yR s.last)[i]? := by
 rw [yJ,show 36+i=32+i+1+1+1+1 by omega]
 simp only [List.getElem?_cons_succ]
 rw [zcz (yc _) (by omega),Nat.add_sub_cancel_left,List.getElem?_append_left (by rw [zE];exact h)]
theorem zCh:(zJ s)[36]? = some (.p (i64 s.last.kind)):=(zln (i:=0) (by omega)).trans zCd
theorem zCi:(zJ s)[38]? = some (.p (i64 s.last.step)):=(zln (i:=2) (by omega)).trans zCe
theorem zeq {i:Nat}:(zJ s)[74+i]? = [AV.p (i64 s.due),.p (i64 s.bytes),.p (i64 s.rounds),.p (i64 s.words)][i]? := by
 rw [yJ,show 74+i=32+(38+i)+1+1+1+1 by omega]
 simp only [List.getElem?_cons_succ]
 rw [zcz (yc _) (by omega),Nat.add_sub_cancel_left,zcz zE (by omega),Nat.add_sub_cancel_left]
theorem zCj:(zJ s)[74]? = some (.p (i64 s.due)):=zeq (i:=0)
theorem zCk:(zJ s)[75]? = some (.p (i64 s.bytes)):=zeq (i:=1)
theorem zCl:(zJ s)[76]? = some (.p (i64 s.rounds)):=zeq (i:=2)
theorem zCm:(zJ s)[77]? = some (.p (i64 s.words)):=zeq (i:=3)
theorem zCn:(zJ s).drop 4=cl b8 s.seen.val++(yR s.last++[.p (i64 s.due),.p (i64 s.bytes),.p (i64 s.rounds),.p (i64 s.words)]):=by rw [yJ];rfl
theorem zvq:(zJ s).drop 36=yR s.last++[.p (i64 s.due),.p (i64 s.bytes),.p (i64 s.rounds),.p (i64 s.words)]:=by
 rw [show (36:Nat)=4+32 by rfl,←List.drop_drop,zCn,List.drop_append_of_le_length (by rw [yc];omega),List.drop_of_length_le (by rw [yc];omega)];rfl
theorem zCo:((zJ s).drop 75).take 3=[.p (i64 s.bytes),.p (i64 s.rounds),.p (i64 s.words)]:=by
 rw [show (75:Nat)=36+(38+1) by rfl,←List.drop_drop,zvq,←List.drop_drop,List.drop_append_of_le_length (by rw [zE];omega),show (yR s.last).drop 38=[] from List.drop_of_length_le (by rw [zE];omega)]
 rfl
end cells

section stores
variable {m:Msg} {s:Ses}
theorem zCp {x:Int}:(yR m).set 1 (.p (i64 x))=yR { m with session:=x }:=by rw [zal,zal];rfl
theorem zCq {x:Int}:(yR m).set 2 (.p (i64 x))=yR { m with step:=x }:=by rw [zal,zal];rfl
theorem zCr {d:Dg}:setAt (yR m) 4 (cl b8 d.val)=yR { m with root:=d }:=by
 rw [yd _ _ _ (by rw [zE,yc];omega),yc,zal,zal]
 simp only [List.take_succ_cons,List.take_zero,List.drop_succ_cons,List.cons_append,List.nil_append]
 rw [List.drop_append_of_le_length (by rw [yc];omega),List.drop_of_length_le (by rw [yc];omega)];rfl
theorem zCs {x:Int}:(zJ s).set 1 (.p (i64 x))=zJ { s with step:=x }:=by rw [yJ,yJ];rfl
theorem zCt {x:Int}:(zJ s).set 2 (.p (i64 x))=zJ { s with state:=x }:=by rw [yJ,yJ];rfl
theorem zCu {x:By}:(zJ s).set 3 (.p (str (bytesOf x)))=zJ { s with text:=x }:=by rw [yJ,yJ];rfl
theorem zzw {d:Dg}:setAt (zJ s) 4 (cl b8 d.val)=zJ { s with seen:=d }:=by
 rw [yd _ _ _ (by rw [zV,yc];omega),yc,yJ,yJ]
 simp only [List.take_succ_cons,List.take_zero,List.drop_succ_cons,List.cons_append,List.nil_append]
 rw [List.drop_append_of_le_length (by rw [yc];omega),List.drop_of_length_le (by rw [yc];omega)];rfl
theorem zCv {l:Msg}:setAt (zJ s) 36 (yR l)=zJ { s with last:=l }:=by
 rw [yd _ _ _ (by rw [zV,zE];omega),zE]
 have h1:(zJ s).take 36 = .p (i64 s.id) :: .p (i64 s.step) :: .p (i64 s.state) :: .p (str (bytesOf s.text)) :: cl b8 s.seen.val:=by
  rw [yJ];simp only [List.take_succ_cons]
  rw [List.take_append_of_le_length (by rw [yc];omega),List.take_of_length_le (by rw [yc];omega)]
 have h2:(zJ s).drop (36+38)=[.p (i64 s.due),.p (i64 s.bytes),.p (i64 s.rounds),.p (i64 s.words)]:=by
  rw [←List.drop_drop,zvq,List.drop_append_of_le_length (by rw [zE];omega),List.drop_of_length_le (by rw [zE];omega)];rfl
 rw [h1,h2,yJ]
 simp
theorem zCw {a b c:Int}:setAt (zJ s) 75 [.p (i64 a),.p (i64 b),.p (i64 c)]=zJ { s with bytes:=a,rounds:=b,words:=c }:=by
 rw [yd _ _ _ (by rw [zV];simp)]
 have h1:(zJ s).take 75 = .p (i64 s.id) :: .p (i64 s.step) :: .p (i64 s.state) :: .p (str (bytesOf s.text)) :: (cl b8 s.seen.val++(yR s.last++[.p (i64 s.due)])):=by
  rw [yJ];simp only [List.take_succ_cons]
  rw [show (71:Nat)=(cl b8 s.seen.val).length+39 by rw [yc],List.take_length_add_append,show (39:Nat)=(yR s.last).length+1 by rw [zE],List.take_length_add_append];rfl
 have h2:(zJ s).drop (75+3)=[]:=List.drop_of_length_le (by rw [zV];omega)
 simp only [List.length_cons,List.length_nil]
 rw [h1,h2,yJ]
 simp
end stores
attribute [go_sem] zhy zE zV znV znW zrH zrI zlm zCd zD8 zCe zCf zzu zzv zD9 zEa zEb zEc zEd zCh zCi zCj zCk zCl zCm zCo zCp zCq zCr zCs zCt zCu zzw zCv zCw zeo Dg.len
/-! ### The rules -/
structure Rule where
 first:Int
 every:Int
 fn:FuncId
def iev (n:Int):Value := .int .i64 n
def okI (n:Int):Prop := -9223372036854775808≤n∧n≤9223372036854775807
def rlv (r:Rule):AV := .agg [.p (i64 r.first),.p (i64 r.every),.clo r.fn [] []]
def ivv (n:Int):AV := .p (i64 n)
def zao (k:Int):Option Rule :=
 if k=1 then some ⟨0,0,143⟩ else if k=2 then some ⟨1,0,144⟩ else if k=3 then some ⟨3,0,145⟩ else if k=4 then some ⟨2,2,146⟩
 else if k=5 then some ⟨5,2,147⟩ else if k=6 then some ⟨4,2,144⟩ else if k=7 then some ⟨2,2,144⟩ else none
def zbk (k:Int):Option Int:=if k=1 then some 1 else if k=2 ∨ k=3 ∨ k=4 ∨ k=5 then some 2 else if k=6 then some 3 else if k=7 then some 4 else none
theorem wf_i64 {n:Int} (h1 : -9223372036854775808≤n) (h2:n≤9223372036854775807):(Lit.int .i64 n).wf=true:=by
 simp only [Lit.wf,Bool.and_eq_true,decide_eq_true_eq]
 exact⟨h1,h2⟩
theorem zpq (n:Int) (h:okI n):(keyOf Tryz.prog 3 (iev n)).isSome=true:=by
 unfold keyOf
 simp only [Tryz.underlying3,mapKey,iev]
 rw [if_pos ⟨trivial,wf_i64 h.1 h.2⟩]
 rfl
theorem ruleMap:MapT Tryz.prog 142 i64 iev okI rlv (.p (.agg [i64 0,i64 0,.s .nilFunc])) where
 ty:=⟨_,_,Tryz.underlying142,zvh,zpq,zh9⟩
 val k:=rfl
 inj a b _ _ h:=by simpa [iev] using h
theorem stateMap:MapT Tryz.prog 144 i64 iev okI ivv (.p (i64 0)) where
 ty:=⟨_,_,Tryz.underlying144,zvh,zpq,zpl⟩
 val k:=rfl
 inj a b _ _ h:=by simpa [iev] using h
structure GR (G:Globs) (r1 r2:Nat) (m1:List (Int × Rule)) (m2:List (Int × Int)):Prop where
 s0:G 2=some (8,[.agg (pl zN inits)])
 s1:G 3=some (64,[.agg (pl zN ks)])
 g1:G 0=some (1,[.s (.map (some r1))])
 g2:G 1=some (1,[.s (.map (some r2))])
 h1:G.map r1=some (tm iev rlv m1)
 h2:G.map r2=some (tm iev ivv m2)
 k1 : ∀ p∈m1,okI p.1
 k2 : ∀ p∈m2,okI p.1
 t1 : ∀ k,yw k m1=zao k
 t2 : ∀ k,yw k m2=zbk k
theorem GR.rule {G:Globs} {r1 r2:Nat} {m1:List (Int × Rule)} {m2:List (Int × Int)} (g:GR G r1 r2 m1 m2) {k:Int} (h:okI k):zdE Tryz.prog 142 (some (tm iev rlv m1)) (.p (i64 k)) true=some (zo5 rlv (.p (.agg [i64 0,i64 0,.s .nilFunc])) (zao k)):=by rw [←g.t1,ruleMap.look g.k1 h]
theorem GR.rule2 {G:Globs} {r1 r2:Nat} {m1:List (Int × Rule)} {m2:List (Int × Int)} (g:GR G r1 r2 m1 m2) {k:Int} (h:okI k):zdE Tryz.prog 142 (some (tm iev rlv m1)) (.p (i64 k)) false=some (match zao k with | some v=>rlv v | none => .p (.agg [i64 0,i64 0,.s .nilFunc])):=by rw [←g.t1,ruleMap.at g.k1 h];cases yw k m1<;>rfl
theorem GR.state {G:Globs} {r1 r2:Nat} {m1:List (Int × Rule)} {m2:List (Int × Int)} (g:GR G r1 r2 m1 m2) {k:Int} (h:okI k):zdE Tryz.prog 144 (some (tm iev ivv m2)) (.p (i64 k)) false=some (.p (i64 ((zbk k).getD 0))):=by
 rw [←g.t2,stateMap.at g.k2 h];cases yw k m2<;>rfl

def fits (k step:Int):Bool:=match zao k with | none=>false | some r => !decide (step < r.first) && (step == r.first || (decide (0 < r.every) && ((step - r.first) % r.every == 0)))
section walks
variable {G:Globs} {r1 r2:Nat} {m1:List (Int × Rule)} {m2:List (Int × Int)}
theorem zvr {k:Int} {r:Rule} (h:zao k=some r):0≤r.first∧r.first≤5∧(r.every=0 ∨ r.every=2):=by
 unfold zao at h
 (repeat' split at h)<;>cases h<;>simp
theorem znX {x:Option Nat}:(PV.s (.map x)).cells=[.s (.map x)]:=rfl
attribute [go_sem] znX
theorem ze5 {r:Rule}:zi (rlv r)=some [.p (i64 r.first),.p (i64 r.every),.clo r.fn [] []]:=rfl
theorem zjc:zi (.p (.agg [i64 0,i64 0,.s .nilFunc]))=some [.p (i64 0),.p (i64 0),.p (.s .nilFunc)]:=rfl
attribute [go_sem] ze5 zjc
theorem zeO (g:GR G r1 r2 m1 m2) (k step:Int) (hk:okI k) (hs:okI step) (H:Hp) (R:AV → Hp → Prop) (h:R (.p (bo (fits k step))) H):ACall Tryz.prog G 45 [.p (i64 k),.p (i64 step)] H R:=by
 have e1:=g.g1
 have e2:=g.h1
 have e3:=g.rule hk
 obtain⟨hs1,hs2⟩:=hs
 unfold fits at h
 refine ACall.of_run (raw:=[]) Tryz.func45 rfl Tryz.ntmps45 (by simp) fun hbel => ?_
 refine .q ?_;refine .text ?_;simp (disch:=first|exact za|fail) only [go_sem,seval]
 cases hr:zao k with
 | none =>
  rw [hr] at h e3
  refine .q ?_;refine .text ?_;simp (disch:=first|exact za|fail) only [go_sem,seval,e1,e2,e3]
  refine .q ?_;refine .text ?_;simp (disch:=first|exact za|fail) only [go_sem,seval]
  refine .q ?_;refine .ifT (by simp (disch:=first|exact za|fail) only [go_sem,seval]) ?_
  refine .q ?_;refine .text ?_;simp (disch:=first|exact za|fail) only [go_sem,seval]
  refine .q ?_;refine .rt Tryz.func45 (by rw [Tryz.results45]) (hR := ?_);simp (disch:=first|exact za|fail) only [go_sem,seval]
  exact h
 | some r =>
  rw [hr] at h e3
  obtain⟨q1,q2,q3⟩:=zvr hr
  simp only at h
  refine .q ?_;refine .text ?_;simp (disch:=first|exact za|fail) only [go_sem,seval,e1,e2,e3,ze5]
  refine .q ?_;refine .text ?_;simp (disch:=first|exact za|fail) only [go_sem,seval]
  by_cases c1:step < r.first
  · have d1:decide (step < r.first)=true:=decide_eq_true c1
    rw [d1] at h
    refine .q ?_;refine .ifT (by simp (disch:=first|exact za|fail) only [go_sem,seval,d1]) ?_
    refine .q ?_;refine .text ?_;simp (disch:=first|exact za|fail) only [go_sem,seval]
    refine .q ?_;refine .rt Tryz.func45 (by rw [Tryz.results45]) (hR := ?_);simp (disch:=first|exact za|fail) only [go_sem,seval]
    exact h
  · have d1:decide (step < r.first)=false:=decide_eq_false c1
    rw [d1] at h
    refine .q ?_;refine .ifF (by simp (disch:=first|exact za|fail) only [go_sem,seval,d1]) ?_
    refine .q ?_;refine .text ?_;simp (disch:=first|exact za|fail) only [go_sem,seval]
    by_cases c2:step=r.first
    · have d2:(step == r.first)=true:=by simp [c2]
      rw [d2] at h
      simp (disch:=first|exact za|fail) only [go_sem,seval,d2]
      refine .q ?_;refine .rt Tryz.func45 (by rw [Tryz.results45]) (hR := ?_);simp (disch:=first|exact za|fail) only [go_sem,seval]
      exact h
    · have d2:(step == r.first)=false:=by simp [c2]
      rw [d2] at h
      simp (disch:=first|exact za|fail) only [go_sem,seval,d2]
      rcases q3 with q3 | q3
      · have d3:decide (0 < r.every)=false:=by rw [q3];rfl
        rw [d3] at h
        simp (disch:=first|exact za|fail) only [go_sem,seval,d3]
        refine .q ?_;refine .rt Tryz.func45 (by rw [Tryz.results45]) (hR := ?_);simp (disch:=first|exact za|fail) only [go_sem,seval]
        exact h
      · have d3:decide (0 < r.every)=true:=by rw [q3];rfl
        rw [d3] at h
        simp (disch:=first|exact za|fail) only [go_sem,seval,d3]
        refine .q ?_;refine .rt Tryz.func45 (by rw [Tryz.results45]) (hR := ?_);simp (disch:=first|exact za|fail) only [go_sem,seval]
        exact h
end walks
end Go.Proofs.YtgflpgcogkdpgaaGreatDoor

/-
  Sessions: which messages are valid.
-/
namespace Go.Proofs.YtgflpgcogkdpgaaGreatDoor
open Go Go.AL

section enc
variable {x:Ext} {l:List Ext} {a b:U}
def ecl (x:Ext):List AV:=[.p (zw x.a),.p (zw x.b)]
theorem zxT:ecl x=[.p (zw x.a),.p (zw x.b)]:=rfl
theorem zrJ:(ext x).cells=[zw x.a,zw x.b]:=rfl
theorem zrK:(ext x).isAgg=true:=rfl
theorem zrL:(ext x).aggOf 0 2=ext x:=rfl
theorem znY:(AV.p (ext x)).isAggV=true:=rfl
theorem zvs:(ext x).weak=ext x:=rfl
theorem zrM:(ext x).weak1=ext x:=rfl
theorem znZ:zi (.p (ext x))=some (ecl x):=rfl
theorem zvt:PV.agg [zw a,zw b]=ext ⟨a,b⟩:=rfl
theorem zrN:zq [.p (zw a),.p (zw b)] = .p (ext ⟨a,b⟩):=rfl
theorem zxU:(⟨x.a,x.b⟩:Ext)=x:=rfl
end enc
attribute [go_sem] zrL zxT zrJ zrK znY zvs zrM znZ zvt zrN zxU
theorem za9 {l:List PV} (h : ∀ x∈l,x.weak1=x):l.map PV.weak1=l:=by
 induction l with
 | nil=>rfl
 | cons a l ih=>rw [List.map_cons,h a (by simp),ih fun x hx=>h x (by simp [hx])]
theorem zgI {m:Msg} : ∀ x∈zdA m,x.weak1=x:=fun x hx=>by
 simp only [zdA,List.mem_append,List.mem_cons,List.not_mem_nil,or_false,pl,List.mem_map] at hx
 rcases hx with (rfl | rfl | rfl | rfl) | ⟨y,_,rfl⟩ | rfl | rfl<;>rfl
theorem zn0 {s:Ses} : ∀ x∈zen s,x.weak1=x:=fun x hx=>by
 simp only [zen,List.mem_append,List.mem_cons,List.not_mem_nil,or_false,pl,List.mem_map] at hx
 rcases hx with (rfl | rfl | rfl | rfl) | ⟨y,_,rfl⟩ | hx | rfl | rfl | rfl | rfl
 all_goals first | rfl | exact zgI _ hx
theorem zvu {m:Msg}:(ym m).weak=ym m:=by show PV.agg ((zdA m).map PV.weak1)=_;rw [za9 zgI];rfl
theorem zvv {s:Ses}:(y9 s).weak=y9 s:=by show PV.agg ((zen s).map PV.weak1)=_;rw [za9 zn0];rfl
attribute [go_sem] zvu zvv
def fOK (x:U):Bool:=decide (x < 18446744069414584321#64)
def zaB (x:Ext):Bool:=fOK x.a && fOK x.b
def small (n:Int):Bool:=decide (0≤n) && decide (n≤2147483647)
def holds (k t s v:Int):Bool :=
 if k=1 then decide (1≤t) && decide (t≤400) && (s+v == 0) else if k=3 then decide (s≤64) && (t+v == 0) else if k=4 then (v == 1) && (t+s == 0) else if k=5 then decide (v≤64) && (t+s == 0) else t+s+v == 0
def valid (m:Msg):Bool:=small m.session && small m.step && fits m.kind m.step && holds m.kind m.text.length m.sums.length m.values.length && !m.values.any fun x => !zaB x
structure Msg.Ok (m:Msg):Prop where
 kind:okI m.kind
 session:okI m.session
 step:okI m.step
 text:m.text.length≤140737488355000
 sums:m.sums.length≤140737488355000
 values:m.values.length≤140737488355000

section walks
variable {G:Globs} {r1 r2:Nat} {m1:List (Int × Rule)} {m2:List (Int × Int)}
theorem zcI (x:U) (H:Hp) (R:AV → Hp → Prop) (h:R (.p (bo (fOK x))) H):ACall Tryz.prog G 101 [.p (zw x)] H R:=by
 refine ACall.of_run (raw:=[]) Tryz.func101 rfl Tryz.ntmps101 (by simp) fun hbel => ?_
 refine .q ?_;refine .text ?_;simp (disch:=first|exact za|fail) only [go_sem,seval]
 refine .q ?_;refine .text ?_;simp (disch:=first|exact za|fail) only [go_sem,seval]
 refine .q ?_;refine .rt Tryz.func101 (by rw [Tryz.results101]) (hR := ?_);simp (disch:=first|exact za|fail) only [go_sem,seval]
 exact h
theorem zhz (x:Ext) (H:Hp) (R:AV → Hp → Prop) (h:R (.p (bo (zaB x))) H):ACall Tryz.prog G 86 [.p (ext x)] H R:=by
 unfold zaB at h
 refine ACall.of_run (raw:=[]) Tryz.func86 rfl Tryz.ntmps86 (by simp) fun hbel => ?_
 refine .q ?_;refine .text ?_;simp (disch:=first|exact za|fail) only [go_sem,seval]
 refine .q ?_;refine .text ?_;simp (disch:=first|exact za|fail) only [go_sem,seval]
 refine CallK.of (fun R h=>zcI _ _ R h) ?_;simp (disch:=first|exact za|fail) only [go_sem,seval]
 cases h1:fOK x.a with
 | true =>
  simp (disch:=first|exact za|fail) only [go_sem,seval]
  refine CallK.of (fun R h=>zcI _ _ R h) ?_;simp (disch:=first|exact za|fail) only [go_sem,seval]
  refine .q ?_;refine .rt Tryz.func86 (by rw [Tryz.results86]) (hR := ?_);simp (disch:=first|exact za|fail) only [go_sem,seval]
  simpa [h1] using h
 | false =>
  simp (disch:=first|exact za|fail) only [go_sem,seval]
  refine .q ?_;refine .rt Tryz.func86 (by rw [Tryz.results86]) (hR := ?_);simp (disch:=first|exact za|fail) only [go_sem,seval]
  simpa [h1] using h
theorem zlo (x:Ext) (H:Hp) (R:AV → Hp → Prop) (h:R (.p (bo (!zaB x))) H):ACall Tryz.prog G 85 [.p (ext x)] H R:=by
 refine ACall.of_run (raw:=[]) Tryz.func85 rfl Tryz.ntmps85 (by simp) fun hbel => ?_
 refine .q ?_;refine .text ?_;simp (disch:=first|exact za|fail) only [go_sem,seval]
 refine .q ?_;refine .text ?_;simp (disch:=first|exact za|fail) only [go_sem,seval]
 refine CallK.of (fun R h=>zhz _ _ R h) ?_;simp (disch:=first|exact za|fail) only [go_sem,seval]
 refine .q ?_;refine .rt Tryz.func85 (by rw [Tryz.results85]) (hR := ?_);simp (disch:=first|exact za|fail) only [go_sem,seval]
 exact h
theorem zvw {xs:List Ext} {p:Ext → Bool} {i:Nat} (hi:i < xs.length) (h:p (nth xs i)=true):xs.any p=true:=by
 rw [List.any_eq_true]
 exact⟨nth xs i,by rw [show nth xs i=xs[i] by simp [nth,hi]];exact List.getElem_mem hi,h⟩
theorem zpr {xs:List Ext} {p:Ext → Bool} (h : ∀ i,i < xs.length → p (nth xs i)=false):xs.any p=false:=by
 rw [List.any_eq_false]
 intro x hx
 obtain⟨i,hi,rfl⟩:=List.getElem_of_mem hx
 have:=h i hi
 rw [show nth xs i=xs[i] by simp [nth,hi]] at this
 simp [this]
set_option maxHeartbeats 4000000 in
theorem zlp (xs:List Ext) (hl:xs.length≤140737488355000) (H:Hp) (R:AV → Hp → Prop) (h : ∀ n:Int,decide (0≤n)=(xs.any fun x => !zaB x) → R (.p (i64 n)) H) :
 ACall Tryz.prog G 100 [.p (.sl false 2 (pl ext xs)),.clo 85 [] []] H R:=by
 refine ACall.of_run (raw:=[]) Tryz.func100 rfl Tryz.ntmps100 (by simp) fun hbel => ?_
 refine .q ?_;refine .text ?_;simp (disch:=first|exact za|fail) only [go_sem,seval]
 refine .q ?_;refine .text ?_;simp (disch:=first|exact za|fail) only [go_sem,seval]
 refine .q ?_;refine .loopE [0,1,7] (fun i=>[(8,.p (i64 i))]) (fun i=>[]) (fun i => ∀ j,j < i → (!zaB (nth xs j))=false) (0) (xs.length) (by omega) ?_ (by first | rfl | (simp (disch:=first|exact za|fail) only [go_sem,seval]<;>rfl)) ?_ ?_ ?_
 · simp (disch:=first|exact za|fail) only [go_sem,seval]<;>(repeat' (first | rfl | refine And.intro ?_ ?_))
 rotate_left 1
 intro env E hQ;simp (disch:=first|exact za|fail) only [go_sem,seval] at E
 rotate_left 1
 intro i env hi0 hi E hQ ihE;simp (disch:=first|exact za|fail) only [go_sem,seval] at E
 rotate_left 1
 · exact fun j hj=>absurd hj (by omega)
 · have hn:=zpr (p:=fun x => !zaB x) hQ
   refine .q ?_;refine .text ?_;simp (disch:=first|exact za|fail) only [go_sem,seval,E]
   refine .q ?_;refine .ifF (by simp (disch:=first|exact za|fail) only [go_sem,seval]) ?_
   refine .q ?_;refine .text ?_;simp (disch:=first|exact za|fail) only [go_sem,seval]
   refine .q ?_;refine .rt Tryz.func100 (by rw [Tryz.results100]) (hR := ?_);simp (disch:=first|exact za|fail) only [go_sem,seval]
   exact h _ (by rw [hn];rfl)
 · refine .q ?_;refine .text ?_;simp (disch:=first|exact za|fail) only [go_sem,seval,E]
   refine .q ?_;refine .ifT (by simp (disch:=first|exact za|fail) only [go_sem,seval]) ?_
   refine .q ?_;refine .text ?_;simp (disch:=first|exact za|fail) only [go_sem,seval,E]
   refine .q ?_;refine .text ?_;simp (disch:=first|exact za|fail) only [go_sem,seval,E]
   refine CallK.of (fun R h=>zlo _ _ R h) ?_;simp (disch:=first|exact za|fail) only [go_sem,seval]
   refine .q ?_;refine .ifB (by simp (disch:=first|exact za|fail) only [go_sem,seval];rfl) (fun hc => ?_) (fun hc => ?_)
   · have hn:=zvw (p:=fun x => !zaB x) hi (by simpa using hc)
     refine .q ?_;refine .text ?_;simp (disch:=first|exact za|fail) only [go_sem,seval,E]
     refine .q ?_;refine .rt Tryz.func100 (by rw [Tryz.results100]) (hR := ?_);simp (disch:=first|exact za|fail) only [go_sem,seval]
     exact h _ (by rw [hn];simp)
   · have hn : ∀ j,j < i+1 → (!zaB (nth xs j))=false:=fun j hj=>by
      rcases Nat.lt_or_ge j i with q | q
      · exact hQ j q
      · rw [show j=i by omega];simpa using hc
     refine .skip ?_
     refine .q ?_;refine .text ?_;simp (disch:=first|exact za|fail) only [go_sem,seval,E]
     first | (refine ihE _ _ ?_ hn ?_) | (refine .z rfl ?_;refine ihE _ _ ?_ hn ?_) | (refine .z rfl ?_;refine .z rfl ?_;refine ihE _ _ ?_ hn ?_) | (refine .z rfl ?_;refine .z rfl ?_;refine .z rfl ?_;refine ihE _ _ ?_ hn ?_)
     · simp (disch:=first|exact za|fail) only [go_sem,seval,E]<;>(repeat' (first | rfl | refine And.intro ?_ ?_))
     · first | rfl | (simp (disch:=first|exact za|fail) only [go_sem,seval,E]<;>(try rfl))
theorem zgJ (xs:List Ext) (hl:xs.length≤140737488355000) (H:Hp) (R:AV → Hp → Prop) (h:R (.p (bo (xs.any fun x => !zaB x))) H) :
 ACall Tryz.prog G 84 [.p (.sl false 2 (pl ext xs)),.clo 85 [] []] H R:=by
 refine ACall.of_run (raw:=[]) Tryz.func84 rfl Tryz.ntmps84 (by simp) fun hbel => ?_
 refine .q ?_;refine .text ?_;simp (disch:=first|exact za|fail) only [go_sem,seval]
 refine .q ?_;refine .text ?_;simp (disch:=first|exact za|fail) only [go_sem,seval]
 refine CallK.ex (S:=fun r H' => ∃ n:Int,r = .p (i64 n)∧H'=H∧decide (0≤n)=(xs.any fun x => !zaB x)) (zlp xs hl _ _ fun n hn=>⟨n,rfl,rfl,hn⟩) ?_
 rintro _ _ ⟨n,rfl,rfl,hn⟩
 simp (disch:=first|exact za|fail) only [go_sem,seval,hn]
 refine .q ?_;refine .rt Tryz.func84 (by rw [Tryz.results84]) (hR := ?_);simp (disch:=first|exact za|fail) only [go_sem,seval]
 exact h
theorem zlq {k:Int} {r:Rule} (h:zao k=some r):enters Tryz.prog r.fn=true:=by
 unfold zao at h
 (repeat' split at h)<;>cases h<;>simp only [zh4,zh5,zh6,zh7,zh8]
theorem zrO {k:Int} {r:Rule} (hr:zao k=some r) (a b c:Int) (ha:0≤a∧a≤1000000000000000) (hb:0≤b∧b≤1000000000000000) (hc:0≤c∧c≤1000000000000000) (H:Hp) (R:AV → Hp → Prop) (h:R (.p (bo (holds k a b c))) H):ACall Tryz.prog G r.fn [.p (i64 a),.p (i64 b),.p (i64 c)] H R:=by
 unfold zao at hr
 unfold holds at h
 by_cases k1:k=1
 · subst k1;cases hr;exact znR a b c ha hb hc H R h
 by_cases k2:k=2
 · subst k2;cases hr;exact zdU a b c ha hb hc H R h
 by_cases k3:k=3
 · subst k3;cases hr;exact znS a b c ha hb hc H R h
 by_cases k4:k=4
 · subst k4;cases hr;exact znT a b c ha hb hc H R h
 by_cases k5:k=5
 · subst k5;cases hr;exact znU a b c ha hb hc H R h
 by_cases k6:k=6
 · subst k6;cases hr;exact zdU a b c ha hb hc H R h
 by_cases k7:k=7
 · subst k7;cases hr;exact zdU a b c ha hb hc H R h
 · simp [k1,k2,k3,k4,k5,k6,k7] at hr
theorem zib {k s:Int} (h:fits k s=true) : ∃ r,zao k=some r:=by
 unfold fits at h
 cases hr:zao k with
 | none=>rw [hr] at h;cases h
 | some r=>exact⟨r,rfl⟩
theorem isAggV_agg {l:List AV}:(AV.agg l).isAggV=true:=rfl
attribute [go_sem] isAggV_agg
theorem zxV {r:Rule}:rlv r = .agg [.p (i64 r.first),.p (i64 r.every),.clo r.fn [] []]:=rfl
theorem small_spec' (n:Int) (H:Hp) (R:AV → Hp → Prop) (h:R (.p (bo (small n))) H):ACall Tryz.prog G 83 [.p (i64 n)] H R:=znQ n H R h
set_option maxHeartbeats 4000000 in
set_option maxRecDepth 20000 in
theorem zgK (g:GR G r1 r2 m1 m2) (m:Msg) (hm:m.Ok) (H:Hp) (R:AV → Hp → Prop) (h:R (.p (bo (valid m))) H):ACall Tryz.prog G 61 [.p (ym m)] H R:=by
 have e1:=g.g1
 have e2:=g.h1
 have e3:=g.rule2 hm.kind
 have hk:=hm.kind
 have hs:=hm.step
 have ht:=hm.text
 have hsu:=hm.sums
 have hva:=hm.values
 unfold valid at h
 refine ACall.of_run (raw:=[]) Tryz.func61 rfl Tryz.ntmps61 (by simp) fun hbel => ?_
 refine .q ?_;refine .text ?_;simp (disch:=first|exact za|fail) only [go_sem,seval]
 refine .q ?_;refine .text ?_;simp (disch:=first|exact za|fail) only [go_sem,seval]
 refine CallK.of (fun R h=>small_spec' _ _ R h) ?_;simp (disch:=first|exact za|fail) only [go_sem,seval]
 cases v1:small m.session with
 | false =>
  rw [v1] at h
  simp (disch:=first|exact za|fail) only [go_sem,seval]
  refine .q ?_;refine .rt Tryz.func61 (by rw [Tryz.results61]) (hR := ?_);simp (disch:=first|exact za|fail) only [go_sem,seval]
  exact h
 | true =>
  rw [v1] at h
  simp (disch:=first|exact za|fail) only [go_sem,seval]
  refine CallK.of (fun R h=>small_spec' _ _ R h) ?_;simp (disch:=first|exact za|fail) only [go_sem,seval]
  cases v2:small m.step with
  | false =>
   rw [v2] at h
   simp (disch:=first|exact za|fail) only [go_sem,seval]
   refine .q ?_;refine .rt Tryz.func61 (by rw [Tryz.results61]) (hR := ?_);simp (disch:=first|exact za|fail) only [go_sem,seval]
   exact h
  | true =>
   rw [v2] at h
   simp (disch:=first|exact za|fail) only [go_sem,seval]
   refine CallK.of (fun R h=>zeO g _ _ hk hs _ R h) ?_;simp (disch:=first|exact za|fail) only [go_sem,seval]
   cases v3:fits m.kind m.step with
   | false =>
    rw [v3] at h
    simp (disch:=first|exact za|fail) only [go_sem,seval]
    refine .q ?_;refine .rt Tryz.func61 (by rw [Tryz.results61]) (hR := ?_);simp (disch:=first|exact za|fail) only [go_sem,seval]
    exact h
   | true =>
    rw [v3] at h
    obtain⟨r,hr⟩:=zib v3
    have hen:=zlq hr
    rw [hr] at e3
    simp only at e3
    simp (disch:=first|exact za|fail) only [go_sem,seval,e1,e2,e3,zxV,hen]
    refine CallK.of (fun R h=>zrO hr m.text.length m.sums.length m.values.length (by omega) (by omega) (by omega) _ R h) ?_
    simp (disch:=first|exact za|fail) only [go_sem,seval]
    cases v4:holds m.kind m.text.length m.sums.length m.values.length with
    | false =>
     rw [v4] at h
     simp (disch:=first|exact za|fail) only [go_sem,seval]
     refine .q ?_;refine .rt Tryz.func61 (by rw [Tryz.results61]) (hR := ?_);simp (disch:=first|exact za|fail) only [go_sem,seval]
     exact h
    | true =>
     rw [v4] at h
     have hen2:enters Tryz.prog 85=true:=zla
     simp (disch:=first|exact za|fail) only [go_sem,seval,hen2]
     refine CallK.of (fun R h=>zgJ _ hva _ R h) ?_;simp (disch:=first|exact za|fail) only [go_sem,seval]
     refine .q ?_;refine .rt Tryz.func61 (by rw [Tryz.results61]) (hR := ?_);simp (disch:=first|exact za|fail) only [go_sem,seval]
     simpa using h
end walks
end Go.Proofs.YtgflpgcogkdpgaaGreatDoor

/-
  Sessions: the encoding of a message.
-/
namespace Go.Proofs.YtgflpgcogkdpgaaGreatDoor
open Go Go.AL

def encS (l:List Int):By:=l.flatMap fun n=>le (BitVec.ofInt 64 n) 8
def yx (l:List Ext):By:=l.flatMap fun x=>le x.a 8++le x.b 8
def zcg (m:Msg):By :=
 [BitVec.ofInt 8 m.kind]++le (BitVec.ofInt 64 m.session) 4++le (BitVec.ofInt 64 m.step) 4++m.root.val++le (BitVec.ofInt 64 m.text.length) 2++m.text++[BitVec.ofInt 8 m.sums.length]++encS m.sums++[BitVec.ofInt 8 m.values.length]++yx m.values
def enc (m:Msg):By:=if valid m then zcg m++(sha (zcg m)).take 8 else []

theorem zdu {m:Msg} (h:valid m=true):m.text.length≤400∧m.sums.length≤64∧m.values.length≤64:=by
 have h2:holds m.kind m.text.length m.sums.length m.values.length=true:=by
  unfold valid at h
  simp only [Bool.and_eq_true] at h
  exact h.1.2
 unfold holds at h2
 (repeat' split at h2)<;>simp only [Bool.and_eq_true,decide_eq_true_eq,beq_iff_eq] at h2<;>omega
theorem zch {l:List Int}:(encS l).length=8*l.length:=by
 induction l with
 | nil=>rfl
 | cons a l ih=>simp only [encS,List.flatMap_cons,List.length_append,ya,List.length_cons] at ih ⊢;omega
theorem zci {l:List Ext}:(yx l).length=16*l.length:=by
 induction l with
 | nil=>rfl
 | cons a l ih=>simp only [yx,List.flatMap_cons,List.length_append,ya,List.length_cons] at ih ⊢;omega
theorem zS {l:By}:((bytesOf l).data.toList.map fun b=>PV.s (.int .u8 b.toNat))=pl b8 l:=by
 simp [bytesOf,pl,b8]
theorem zX {α:Type} [Inhabited α] {l:List α} {i:Nat} (h:i < l.length):l.take (i+1)=l.take i++[nth l i]:=by
 rw [List.take_add_one,List.getElem?_eq_getElem h,show nth l i=l[i] by simp [nth,h]];rfl
theorem zba:encS []=[]:=rfl
theorem zbb:yx []=[]:=rfl
theorem zic {l:List Int} {i:Nat} (h:i < l.length):encS (l.take (i+1))=encS (l.take i)++le (BitVec.ofInt 64 (nth l i)) 8:=by
 rw [zX h];simp [encS]
theorem zid {l:List Ext} {i:Nat} (h:i < l.length):yx (l.take (i+1))=yx (l.take i)++le (nth l i).a 8++le (nth l i).b 8:=by
 rw [zX h];simp [yx]

def eH (H:Hp) (m:Msg) (n:Nat):Hp:=(H.new (.cells (yR m))).new (.tail n)
section eh
variable {H:Hp} {m:Msg} {n k:Nat}
theorem zCx:(eH H m n).n=H.n+2:=by simp [eH,Hp.n_new]
theorem zzy:(eH H m n).f H.n=some (.cells (yR m)):=by simp (disch:=first|exact za|fail) only [eH,go_sem,seval]
theorem zlr:(eH H m n).f (H.n+1)=some (.tail n):=by simp (disch:=first|exact za|fail) only [eH,go_sem,seval]
theorem zc8:(eH H m n).set (H.n+1) (.tail k)=eH H m k:=by simp (disch:=first|exact za|fail) only [eH,go_sem,seval]
theorem zvx:(H.new (.cells (yR m))).new (.tail n)=eH H m n:=rfl
theorem zvy:(eH H m n).trunc H.n=H:=by simp (disch:=first|exact za|fail) only [eH,go_sem,seval]
theorem zvz (h:Bel H.n H):Bel H.n (eH H m n):=by
 unfold eH
 refine yu (yu h fun y hy => ?_) fun y hy=>by simp [AB.vals] at hy
 simp only [AB.vals,yR,List.mem_map] at hy
 obtain⟨x,_,rfl⟩:=hy
 exact .p _
end eh
attribute [go_sem] zCx zzy zlr zc8 zvy
section walks
variable {G:Globs} {r1 r2:Nat} {m1:List (Int × Rule)} {m2:List (Int × Int)}
theorem zgL (g:GR G r1 r2 m1 m2) (m:Msg) (hm:m.Ok) (hv:valid m=false) (H:Hp) (R:AV → Hp → Prop) (h:R (.p (.s (.slice none 0 0))) H):ACall Tryz.prog G 36 [.p (ym m)] H R:=by
 refine ACall.of_run (raw:=[62]) Tryz.func36 rfl Tryz.ntmps36 (by simp) fun hbel => ?_
 refine .q ?_;refine .text ?_;simp (disch:=first|exact za|fail) only [go_sem,seval]
 refine .q ?_;refine .text ?_;simp (disch:=first|exact za|fail) only [go_sem,seval]
 refine CallK.of (fun R h=>zgK g m hm _ R h) ?_;simp (disch:=first|exact za|fail) only [go_sem,seval,hv]
 refine .q ?_;refine .ifT (by simp (disch:=first|exact za|fail) only [go_sem,seval]) ?_
 refine .q ?_;refine .region ?_
 refine .nilA (by simp (disch:=first|exact za|fail) only [go_sem,seval]<;>rfl) ?_
 refine .run ?_
 simp (disch:=first|exact za|fail) only [go_sem,seval]
 refine .rt Tryz.func36 (by rw [Tryz.results36]) (hR := ?_);simp (disch:=first|exact za|fail) only [go_sem,seval]
 exact h
set_option maxHeartbeats 8000000 in
set_option maxRecDepth 20000 in
theorem zer (g:GR G r1 r2 m1 m2) (m:Msg) (hm:m.Ok) (hv:valid m=true) (H:Hp) (R:AV → Hp → Prop) (h:R (.p (.sl false 1 (pl b8 (zcg m++(sha (zcg m)).take 8)))) H):ACall Tryz.prog G 36 [.p (ym m)] H R:=by
 obtain⟨b1,b2,b3⟩:=zdu hv
 have hrl:=m.root.len
 refine ACall.of_run (raw:=[62]) Tryz.func36 rfl Tryz.ntmps36 (by simp) fun hbel => ?_
 refine .q ?_;refine .text ?_;simp (disch:=first|exact za|fail) only [go_sem,seval]
 refine .q ?_;refine .text ?_;simp (disch:=first|exact za|fail) only [go_sem,seval]
 refine CallK.of (fun R h=>zgK g m hm _ R h) ?_;simp (disch:=first|exact za|fail) only [go_sem,seval,hv]
 refine .q ?_;refine .ifF (by simp (disch:=first|exact za|fail) only [go_sem,seval]) ?_
 refine .q ?_;refine .text ?_;simp (disch:=first|exact za|fail) only [go_sem,seval]
 refine CallK.of (fun R h=>zll [BitVec.ofInt 8 m.kind] (BitVec.ofInt 64 m.session) 4 (by simp) _ R h) ?_;simp (disch:=first|exact za|fail) only [go_sem,seval]
 generalize hx1:BitVec.ofInt 8 m.kind :: le (BitVec.ofInt 64 m.session) 4=x1
 have l1:x1.length=5:=by rw [←hx1];simp [ya]
 have l2:(le (BitVec.ofInt 64 m.step) 4).length=4:=ya
 rw [zvx]
 have hw1 : ∀ R:AV → Hp → Prop,R (.sl (H.n+1) 8 1 (pl b8 (x1++le (BitVec.ofInt 64 m.step) 4))) (eH H m 8) → ACall Tryz.prog G 62 [.sl (H.n+1) 4 1 (pl b8 x1),.p (zw (BitVec.ofInt 64 m.step)),.p (i64 4)] (eH H m 4) R:=fun R h=>zbI x1 (BitVec.ofInt 64 m.step) 4 (by omega) (H.n+1) 4 _ zlr R (by rw [zc8];exact h)
 (refine .q ?_)
 refine .openInv (fun L env' H'=>kF env' [(1,.ptr H.n 0)]∧kI L env' [(0,20,.sl (H.n+1) 4 1 (pl b8 x1)),(1,21,.ptr H.n 2),(2,22,.p (i64 m.step)),(3,23,.p (zw (BitVec.ofInt 64 m.step))),(4,24,.sl (H.n+1) 8 1 (pl b8 (x1++le (BitVec.ofInt 64 m.step) 4))),(5,25,.ptr H.n 4),(6,26,.ref H.n 4 32 1),(7,27,.sl (H.n+1) 9 1 (pl b8 (x1++le (BitVec.ofInt 64 m.step) 4++m.root.val))),(8,3,.sl (H.n+1) 9 1 (pl b8 (x1++le (BitVec.ofInt 64 m.step) 4++m.root.val)))]∧(L 8=false → env' 3 = .sl (H.n+1) 4 1 (pl b8 x1))∧(L 4=true → allT L [0,3])∧(L 7=true → allT L [4,6])∧(L 8=true → allT L [0,1,2,3,4,5,6,7])∧H'=(eH H m (if L 7 then 9 else if L 4 then 8 else 4))) follows (by kernel_rfl) ?_ ?_ ?_
 · exact⟨(by simp (disch:=first|exact za|fail) only [go_sem,seval,kFi,kFn,and_self,l1,l2,hrl]),(fun _ _ h=>by cases h),(fun _=>by simp (disch:=first|exact za|fail) only [go_sem,seval,l1,l2,hrl]),(fun h=>by cases h),(fun h=>by cases h),(fun h=>by cases h),(by first | rfl | (simp only [Bool.false_eq_true,if_false];first | rfl | (simp (disch:=first|exact za|fail) only [go_sem,seval,l1,l2,hrl]<;>rfl)))⟩
 · intro i o L env' H' ho hL hall hI
   obtain⟨KF,KG,f1,m4,m7,m8,rfl⟩:=hI
   rcases i with _ | _ | _ | _ | _ | _ | _ | _ | _ | i
   · cases ho;have n8:=y8 m8 hL;refine zg (.sl (H.n+1) 4 1 (pl b8 x1)) rfl rfl (by simp (disch:=first|exact za|fail) only [go_sem,seval,f1 n8,l1,l2,hrl]<;>rfl) rfl ?_;exact⟨zT KF,zU KG,(kq f1),ka m4,ka m7,ka m8,(by rw [zb (by decide),zb (by decide)])⟩
   · cases ho;have f0:=yl KF 0 rfl;refine zg (.ptr H.n 2) rfl rfl (by simp (disch:=first|exact za|fail) only [go_sem,seval,f0,l1,l2,hrl]<;>rfl) rfl ?_;exact⟨zT KF,zU KG,(kq f1),ka m4,ka m7,ka m8,(by rw [zb (by decide),zb (by decide)])⟩
   · cases ho;have d1:=zG KG 1 rfl (kL hall 0 rfl rfl);refine zg (.p (i64 m.step)) rfl rfl (by simp (disch:=first|exact za|fail) only [go_sem,seval,d1,l1,l2,hrl]<;>rfl) rfl ?_;exact⟨zT KF,zU KG,(kq f1),ka m4,ka m7,ka m8,(by rw [zb (by decide),zb (by decide)])⟩
   · cases ho;have d2:=zG KG 2 rfl (kL hall 0 rfl rfl);refine zg (.p (zw (BitVec.ofInt 64 m.step))) rfl rfl (by simp (disch:=first|exact za|fail) only [go_sem,seval,d2,l1,l2,hrl]<;>rfl) rfl ?_;exact⟨zT KF,zU KG,(kq f1),ka m4,ka m7,ka m8,(by rw [zb (by decide),zb (by decide)])⟩
   · cases ho;have h0:=kL hall 0 rfl rfl;have d0:=zG KG 0 rfl h0;have h3:=kL hall 1 rfl rfl;have d3:=zG KG 3 rfl h3;have n7:=y8 m7 hL;have n8:=y8 m8 hL;(try simp only [n7,hL,if_true,if_false,Bool.false_eq_true]);refine yT rfl rfl (by simp (disch:=first|exact za|fail) only [go_sem,seval,reduceIte,Bool.false_eq_true,if_false,if_true,d0,d3,n7,n8,hL,l1,l2,hrl]<;>rfl) rfl (by simp (disch:=first|exact za|fail) only [go_sem,seval,reduceIte,Bool.false_eq_true,if_false,if_true,d0,d3,n7,n8,hL,l1,l2,hrl]<;>rfl) (fun R h=>hw1 R h) ?_;exact⟨zT KF,zU KG,(kq f1),(fun _=>kt (ze h0 (ze h3 zz))),ka m7,ka m8,(by (have e4:more L 4 4=true:=zF);(have e7:more L 4 7=L 7:=zb (by decide));(try simp only [e4,e7,n7,hL]);first | done | rfl | (simp only [e4,e7,n7,hL,if_true,if_false,Bool.false_eq_true];first | done | rfl | (simp (disch:=first|exact za|fail) only [go_sem,seval,e4,e7,n7,hL,l1,l2,hrl]<;>rfl)))⟩
   · cases ho;have f0:=yl KF 0 rfl;refine zg (.ptr H.n 4) rfl rfl (by simp (disch:=first|exact za|fail) only [go_sem,seval,f0,l1,l2,hrl]<;>rfl) rfl ?_;exact⟨zT KF,zU KG,(kq f1),ka m4,ka m7,ka m8,(by rw [zb (by decide),zb (by decide)])⟩
   · cases ho;have d5:=zG KG 5 rfl (kL hall 0 rfl rfl);have n7:=y8 m7 hL;have n8:=y8 m8 hL;refine zg (.ref H.n 4 32 1) rfl rfl (by simp (disch:=first|exact za|fail) only [go_sem,seval,reduceIte,Bool.false_eq_true,if_false,if_true,d5,n7,n8,hL,l1,l2,hrl]<;>rfl) rfl ?_;exact⟨zT KF,zU KG,(kq f1),ka m4,ka m7,ka m8,(by rw [zb (by decide),zb (by decide)])⟩
   · cases ho;have h4:=kL hall 0 rfl rfl;have d4:=zG KG 4 rfl h4;have h6:=kL hall 1 rfl rfl;have d6:=zG KG 6 rfl h6;have n8:=y8 m8 hL;(try simp only [h4,hL,if_true,if_false,Bool.false_eq_true]);refine za8 (.sl (H.n+1) 9 1 (pl b8 (x1++le (BitVec.ofInt 64 m.step) 4++m.root.val))) rfl rfl (by simp (disch:=first|exact za|fail) only [go_sem,seval,reduceIte,Bool.false_eq_true,if_false,if_true,d4,d6,h4,n8,hL,l1,l2,hrl]<;>rfl) rfl ?_;exact⟨zT KF,zU KG,(kq f1),ka m4,(fun _=>kt (ze h4 (ze h6 zz))),ka m8,(by (have e4:more L 7 4=L 4:=zb (by decide));(have e7:more L 7 7=true:=zF);(try simp only [e4,e7,h4,hL]);first | done | rfl | (simp only [e4,e7,h4,hL,if_true,if_false,Bool.false_eq_true];first | done | rfl | (simp (disch:=first|exact za|fail) only [go_sem,seval,e4,e7,h4,hL,l1,l2,hrl]<;>rfl)))⟩
   · cases ho;have h7:=kL hall 0 rfl rfl;have d7:=zG KG 7 rfl h7;have h0:=kL hall 2 rfl rfl;have h1:=kL hall 3 rfl rfl;have h2:=kL hall 4 rfl rfl;have h3:=kL hall 5 rfl rfl;have h4:=kL hall 6 rfl rfl;have h5:=kL hall 7 rfl rfl;have h6:=kL hall 8 rfl rfl;refine zg (.sl (H.n+1) 9 1 (pl b8 (x1++le (BitVec.ofInt 64 m.step) 4++m.root.val))) rfl rfl (by simp (disch:=first|exact za|fail) only [go_sem,seval,d7,l1,l2,hrl]<;>rfl) rfl ?_;exact⟨zT KF,zU KG,kx,ka m4,ka m7,(fun _=>kt (ze h0 (ze h1 (ze h2 (ze h3 (ze h4 (ze h5 (ze h6 (ze h7 zz))))))))),(by rw [zb (by decide),zb (by decide)])⟩
   · simp at ho
 · intro L env' H' hall hI
   obtain⟨KF,KG,f1,_,_,_,rfl⟩:=hI
   have l4:=hall 4 (by decide)
   have l7:=hall 7 (by decide)
   have f0:=yl KF 0 rfl
   have g0:=zG KG 0 rfl (hall 0 (by decide))
   have g1:=zG KG 1 rfl (hall 1 (by decide))
   have g2:=zG KG 2 rfl (hall 2 (by decide))
   have g3:=zG KG 3 rfl (hall 3 (by decide))
   have g4:=zG KG 4 rfl (hall 4 (by decide))
   have g5:=zG KG 5 rfl (hall 5 (by decide))
   have g6:=zG KG 6 rfl (hall 6 (by decide))
   have g7:=zG KG 7 rfl (hall 7 (by decide))
   have g8:=zG KG 8 rfl (hall 8 (by decide))
   simp only [l4,l7,if_true]
   clear hall
   generalize hx2:x1++le (BitVec.ofInt 64 m.step) 4++m.root.val=x2 at *
   have l3:x2.length=41:=by rw [←hx2];simp [l1,l2,hrl]
   clear hw1 g0 g1 g2 g3 g4 g5 g6 g7 f1
   have hw2 : ∀ R:AV → Hp → Prop,R (.sl (H.n+1) 11 1 (pl b8 (x2++le (BitVec.ofInt 64 m.text.length) 2))) (eH H m 11) → ACall Tryz.prog G 62 [.sl (H.n+1) 9 1 (pl b8 x2),.p (zw (BitVec.ofInt 64 m.text.length)),.p (i64 2)] (eH H m 9) R:=fun R h=>zbI x2 (BitVec.ofInt 64 m.text.length) 2 (by omega) (H.n+1) 9 _ zlr R (by rw [zc8];exact h)
   have l4:(le (BitVec.ofInt 64 m.text.length) 2).length=2:=ya
   (refine .q ?_)
   refine .openInv (fun L env' H'=>kF env' [(1,.ptr H.n 0)]∧kI L env' [(0,28,.sl (H.n+1) 9 1 (pl b8 x2)),(1,29,.ptr H.n 3),(2,30,.p (str (bytesOf m.text))),(3,31,.p (i64 m.text.length)),(4,32,.p (zw (BitVec.ofInt 64 m.text.length))),(5,33,.sl (H.n+1) 11 1 (pl b8 (x2++le (BitVec.ofInt 64 m.text.length) 2))),(6,34,.ptr H.n 3),(7,35,.p (str (bytesOf m.text))),(8,36,.sl (H.n+1) 12 1 (pl b8 (x2++le (BitVec.ofInt 64 m.text.length) 2++m.text))),(9,3,.sl (H.n+1) 12 1 (pl b8 (x2++le (BitVec.ofInt 64 m.text.length) 2++m.text)))]∧(L 9=false → env' 3 = .sl (H.n+1) 9 1 (pl b8 x2))∧(L 5=true → allT L [0,4])∧(L 8=true → allT L [5,7])∧(L 9=true → allT L [0,1,2,3,4,5,6,7,8])∧H'=(eH H m (if L 8 then 12 else if L 5 then 11 else 9))) follows (by kernel_rfl) ?_ ?_ ?_
   · exact⟨(by simp (disch:=first|exact za|fail) only [go_sem,seval,kFi,kFn,and_self,l3,l4,zS,f0,g8]),(fun _ _ h=>by cases h),(fun _=>by simp (disch:=first|exact za|fail) only [go_sem,seval,l3,l4,zS,f0,g8]),(fun h=>by cases h),(fun h=>by cases h),(fun h=>by cases h),(by first | rfl | (simp only [Bool.false_eq_true,if_false];first | rfl | (simp (disch:=first|exact za|fail) only [go_sem,seval,l3,l4,zS,f0,g8]<;>rfl)))⟩
   · intro i o L env' H' ho hL hall hI
     obtain⟨KF,KG,f1,m5,m8,m9,rfl⟩:=hI
     rcases i with _ | _ | _ | _ | _ | _ | _ | _ | _ | _ | i
     · cases ho;have n9:=y8 m9 hL;refine zg (.sl (H.n+1) 9 1 (pl b8 x2)) rfl rfl (by simp (disch:=first|exact za|fail) only [go_sem,seval,f1 n9,l3,l4,zS,f0,g8]<;>rfl) rfl ?_;exact⟨zT KF,zU KG,(kq f1),ka m5,ka m8,ka m9,(by rw [zb (by decide),zb (by decide)])⟩
     · cases ho;have f0:=yl KF 0 rfl;refine zg (.ptr H.n 3) rfl rfl (by simp (disch:=first|exact za|fail) only [go_sem,seval,f0,l3,l4,zS,f0,g8]<;>rfl) rfl ?_;exact⟨zT KF,zU KG,(kq f1),ka m5,ka m8,ka m9,(by rw [zb (by decide),zb (by decide)])⟩
     · cases ho;have d1:=zG KG 1 rfl (kL hall 0 rfl rfl);refine zg (.p (str (bytesOf m.text))) rfl rfl (by simp (disch:=first|exact za|fail) only [go_sem,seval,d1,l3,l4,zS,f0,g8]<;>rfl) rfl ?_;exact⟨zT KF,zU KG,(kq f1),ka m5,ka m8,ka m9,(by rw [zb (by decide),zb (by decide)])⟩
     · cases ho;have d2:=zG KG 2 rfl (kL hall 0 rfl rfl);refine zg (.p (i64 m.text.length)) rfl rfl (by simp (disch:=first|exact za|fail) only [go_sem,seval,d2,l3,l4,zS,f0,g8]<;>rfl) rfl ?_;exact⟨zT KF,zU KG,(kq f1),ka m5,ka m8,ka m9,(by rw [zb (by decide),zb (by decide)])⟩
     · cases ho;have d3:=zG KG 3 rfl (kL hall 0 rfl rfl);refine zg (.p (zw (BitVec.ofInt 64 m.text.length))) rfl rfl (by simp (disch:=first|exact za|fail) only [go_sem,seval,d3,l3,l4,zS,f0,g8]<;>rfl) rfl ?_;exact⟨zT KF,zU KG,(kq f1),ka m5,ka m8,ka m9,(by rw [zb (by decide),zb (by decide)])⟩
     · cases ho;have h0:=kL hall 0 rfl rfl;have d0:=zG KG 0 rfl h0;have h4:=kL hall 1 rfl rfl;have d4:=zG KG 4 rfl h4;have n8:=y8 m8 hL;have n9:=y8 m9 hL;(try simp only [n8,hL,if_true,if_false,Bool.false_eq_true]);refine yT rfl rfl (by simp (disch:=first|exact za|fail) only [go_sem,seval,reduceIte,Bool.false_eq_true,if_false,if_true,d0,d4,n8,n9,hL,l3,l4,zS,f0,g8]<;>rfl) rfl (by simp (disch:=first|exact za|fail) only [go_sem,seval,reduceIte,Bool.false_eq_true,if_false,if_true,d0,d4,n8,n9,hL,l3,l4,zS,f0,g8]<;>rfl) (fun R h=>hw2 R h) ?_;exact⟨zT KF,zU KG,(kq f1),(fun _=>kt (ze h0 (ze h4 zz))),ka m8,ka m9,(by (have e5:more L 5 5=true:=zF);(have e8:more L 5 8=L 8:=zb (by decide));(try simp only [e5,e8,n8,hL]);first | done | rfl | (simp only [e5,e8,n8,hL,if_true,if_false,Bool.false_eq_true];first | done | rfl | (simp (disch:=first|exact za|fail) only [go_sem,seval,e5,e8,n8,hL,l3,l4,zS,f0,g8]<;>rfl)))⟩
     · cases ho;have f0:=yl KF 0 rfl;refine zg (.ptr H.n 3) rfl rfl (by simp (disch:=first|exact za|fail) only [go_sem,seval,f0,l3,l4,zS,f0,g8]<;>rfl) rfl ?_;exact⟨zT KF,zU KG,(kq f1),ka m5,ka m8,ka m9,(by rw [zb (by decide),zb (by decide)])⟩
     · cases ho;have d6:=zG KG 6 rfl (kL hall 0 rfl rfl);have n8:=y8 m8 hL;have n9:=y8 m9 hL;refine zg (.p (str (bytesOf m.text))) rfl rfl (by simp (disch:=first|exact za|fail) only [go_sem,seval,reduceIte,Bool.false_eq_true,if_false,if_true,d6,n8,n9,hL,l3,l4,zS,f0,g8]<;>rfl) rfl ?_;exact⟨zT KF,zU KG,(kq f1),ka m5,ka m8,ka m9,(by rw [zb (by decide),zb (by decide)])⟩
     · cases ho;have h5:=kL hall 0 rfl rfl;have d5:=zG KG 5 rfl h5;have h7:=kL hall 1 rfl rfl;have d7:=zG KG 7 rfl h7;have n9:=y8 m9 hL;(try simp only [h5,hL,if_true,if_false,Bool.false_eq_true]);refine za8 (.sl (H.n+1) 12 1 (pl b8 (x2++le (BitVec.ofInt 64 m.text.length) 2++m.text))) rfl rfl (by simp (disch:=first|exact za|fail) only [go_sem,seval,reduceIte,Bool.false_eq_true,if_false,if_true,d5,d7,h5,n9,hL,l3,l4,zS,f0,g8]<;>rfl) rfl ?_;exact⟨zT KF,zU KG,(kq f1),ka m5,(fun _=>kt (ze h5 (ze h7 zz))),ka m9,(by (have e5:more L 8 5=L 5:=zb (by decide));(have e8:more L 8 8=true:=zF);(try simp only [e5,e8,h5,hL]);first | done | rfl | (simp only [e5,e8,h5,hL,if_true,if_false,Bool.false_eq_true];first | done | rfl | (simp (disch:=first|exact za|fail) only [go_sem,seval,e5,e8,h5,hL,l3,l4,zS,f0,g8]<;>rfl)))⟩
     · cases ho;have h8:=kL hall 0 rfl rfl;have d8:=zG KG 8 rfl h8;have h0:=kL hall 2 rfl rfl;have h1:=kL hall 3 rfl rfl;have h2:=kL hall 4 rfl rfl;have h3:=kL hall 5 rfl rfl;have h4:=kL hall 6 rfl rfl;have h5:=kL hall 7 rfl rfl;have h6:=kL hall 8 rfl rfl;have h7:=kL hall 9 rfl rfl;refine zg (.sl (H.n+1) 12 1 (pl b8 (x2++le (BitVec.ofInt 64 m.text.length) 2++m.text))) rfl rfl (by simp (disch:=first|exact za|fail) only [go_sem,seval,d8,l3,l4,zS,f0,g8]<;>rfl) rfl ?_;exact⟨zT KF,zU KG,kx,ka m5,ka m8,(fun _=>kt (ze h0 (ze h1 (ze h2 (ze h3 (ze h4 (ze h5 (ze h6 (ze h7 (ze h8 zz)))))))))),(by rw [zb (by decide),zb (by decide)])⟩
     · simp at ho
   · intro L env' H' hall hI
     obtain⟨KF,KG,f1,_,_,_,rfl⟩:=hI
     have l5:=hall 5 (by decide)
     have l8:=hall 8 (by decide)
     have f0:=yl KF 0 rfl
     have g0:=zG KG 0 rfl (hall 0 (by decide))
     have g1:=zG KG 1 rfl (hall 1 (by decide))
     have g2:=zG KG 2 rfl (hall 2 (by decide))
     have g3:=zG KG 3 rfl (hall 3 (by decide))
     have g4:=zG KG 4 rfl (hall 4 (by decide))
     have g5:=zG KG 5 rfl (hall 5 (by decide))
     have g6:=zG KG 6 rfl (hall 6 (by decide))
     have g7:=zG KG 7 rfl (hall 7 (by decide))
     have g8:=zG KG 8 rfl (hall 8 (by decide))
     have g9:=zG KG 9 rfl (hall 9 (by decide))
     simp only [l5,l8,if_true]
     clear hall
     generalize hx3:x2++le (BitVec.ofInt 64 m.text.length) 2++m.text=x3 at *
     have l5:x3.length≤443:=by rw [←hx3];simp only [List.length_append,l3,l4];omega
     clear hw2 g0 g1 g2 g3 g4 g5 g6 g7 g8
     have e1:=f0
     refine .q ?_;refine .text ?_;simp (disch:=first|exact za|fail) only [go_sem,seval,e1,g9]
     refine .q ?_;refine .text ?_;simp (disch:=first|exact za|fail) only [go_sem,seval,e1]
     have l6 : ∀ i,i≤m.sums.length → (x3++[BitVec.ofInt 8 m.sums.length]++encS (m.sums.take i)).length=x3.length+1+8*i:=fun i hi=>by
      simp only [List.length_append,zch,List.length_take,List.length_cons,List.length_nil];omega
     have hw3 : ∀ i,i < m.sums.length → ∀ R:AV → Hp → Prop,R (.sl (H.n+1) (13+8*(i+1)) 1 (pl b8 (x3++[BitVec.ofInt 8 m.sums.length]++encS (m.sums.take (i+1))))) (eH H m (13+8*(i+1))) → ACall Tryz.prog G 62 [.sl (H.n+1) (13+8*i) 1 (pl b8 (x3++[BitVec.ofInt 8 m.sums.length]++encS (m.sums.take i))),.p (zw (BitVec.ofInt 64 (nth m.sums i))),.p (i64 8)] (eH H m (13+8*i)) R:=fun i hi R h=>zbI _ (BitVec.ofInt 64 (nth m.sums i)) 8 (by rw [l6 i (by omega)];omega) (H.n+1) (13+8*i) _ zlr R (by rw [zc8,List.append_assoc (x3++_),←zic hi];exact h)
     refine .q ?_;refine .loopH [1,45,46] (fun i=>[(3,.sl (H.n+1) (13+8*i) 1 (pl b8 (x3++[BitVec.ofInt 8 m.sums.length]++encS (m.sums.take i)))),(47,.p (i64 i))]) (fun i=>eH H m (13+8*i)) (fun i=>True) (0) (m.sums.length) (by omega) ?_ (by first | rfl | (simp (disch:=first|exact za|fail) only [go_sem,seval,e1,g9,List.take_zero,Nat.mul_zero,Nat.add_zero,zba,List.append_nil]<;>rfl)) ?_ ?_ ?_
     · simp (disch:=first|exact za|fail) only [go_sem,seval,e1,g9,List.take_zero,Nat.mul_zero,Nat.add_zero,zba,List.append_nil]<;>(repeat' (first | rfl | refine And.intro ?_ ?_))
     · exact trivial
     intro env E hQ;simp (disch:=first|exact za|fail) only [go_sem,seval,e1,g9,List.take_zero,Nat.mul_zero,Nat.add_zero,zba,List.append_nil] at E
     rotate_left 1
     intro i env hi0 hi E hQ ihE;simp (disch:=first|exact za|fail) only [go_sem,seval,e1,g9,List.take_zero,Nat.mul_zero,Nat.add_zero,zba,List.append_nil] at E
     rotate_left 1
     · have l60:=l6 _ (Nat.le_refl _)
       rw [List.take_length] at l60
       generalize hx4:x3++[BitVec.ofInt 8 m.sums.length]++encS m.sums=x4 at *
       have l7:x4.length≤1000:=by omega
       clear hw3
       generalize hv1:13+8*m.sums.length=v1 at *
       refine .q ?_;refine .text ?_;simp (disch:=first|exact za|fail) only [go_sem,seval,E]
       refine .q ?_;refine .ifF (by simp (disch:=first|exact za|fail) only [go_sem,seval]) ?_
       refine .q ?_;refine .text ?_;simp (disch:=first|exact za|fail) only [go_sem,seval,E]
       refine .q ?_;refine .text ?_;simp (disch:=first|exact za|fail) only [go_sem,seval,E]
       have l8 : ∀ i,i≤m.values.length → (x4++[BitVec.ofInt 8 m.values.length]++yx (m.values.take i)).length=x4.length+1+16*i:=fun i hi=>by
        simp only [List.length_append,zci,List.length_take,List.length_cons,List.length_nil];omega
       have hw4 : ∀ i T,i < m.values.length → ∀ R:AV → Hp → Prop,R (.sl (H.n+1) (v1+1+16*i+8) 1 (pl b8 (x4++[BitVec.ofInt 8 m.values.length]++yx (m.values.take i)++le (nth m.values i).a 8))) (app (eH H m (v1+1+16*i+8)) T) → ACall Tryz.prog G 62 [.sl (H.n+1) (v1+1+16*i) 1 (pl b8 (x4++[BitVec.ofInt 8 m.values.length]++yx (m.values.take i))),.p (zw (nth m.values i).a),.p (i64 8)] (app (eH H m (v1+1+16*i)) T) R:=fun i T hi R h=>zbI _ (nth m.values i).a 8 (by rw [l8 i (by omega)];omega) (H.n+1) (v1+1+16*i) _ (by simp (disch:=first|exact za|fail) only [go_sem,seval]) R (by simp (disch:=first|exact za|fail) only [go_sem,seval];exact h)
       have hw5 : ∀ i T,i < m.values.length → ∀ R:AV → Hp → Prop,R (.sl (H.n+1) (v1+1+16*(i+1)) 1 (pl b8 (x4++[BitVec.ofInt 8 m.values.length]++yx (m.values.take (i+1))))) (app (eH H m (v1+1+16*(i+1))) T) → ACall Tryz.prog G 62 [.sl (H.n+1) (v1+1+16*i+8) 1 (pl b8 (x4++[BitVec.ofInt 8 m.values.length]++yx (m.values.take i)++le (nth m.values i).a 8)),.p (zw (nth m.values i).b),.p (i64 8)] (app (eH H m (v1+1+16*i+8)) T) R:=fun i T hi R h=>zbI _ (nth m.values i).b 8 (by rw [List.length_append,l8 i (by omega),ya];omega) (H.n+1) (v1+1+16*i+8) _ (by simp (disch:=first|exact za|fail) only [go_sem,seval]) R (by
        have:x4++[BitVec.ofInt 8 m.values.length]++yx (m.values.take i)++le (nth m.values i).a 8++le (nth m.values i).b 8=x4++[BitVec.ofInt 8 m.values.length]++yx (m.values.take (i+1)):=by rw [zid hi];simp
        rw [this]
        simp (disch:=first|exact za|fail) only [go_sem,seval]
        exact h)
       refine .q ?_;refine .loopF [64,65] (fun i=>[(3,.sl (H.n+1) (v1+1+16*i) 1 (pl b8 (x4++[BitVec.ofInt 8 m.values.length]++yx (m.values.take i)))),(66,.p (i64 i))]) (fun i=>[(H.n+1,.tail (v1+1+16*i))]) (fun i=>True) (0) (m.values.length) (by omega) ?_ (by first | rfl | (simp (disch:=first|exact za|fail) only [go_sem,seval,E,List.take_zero,Nat.mul_zero,Nat.add_zero,zbb,List.append_nil]<;>rfl)) ?_ ?_ ?_
       · simp (disch:=first|exact za|fail) only [go_sem,seval,E,List.take_zero,Nat.mul_zero,Nat.add_zero,zbb,List.append_nil]<;>(repeat' (first | rfl | refine And.intro ?_ ?_))
       · exact trivial
       intro env T F hQ;simp (disch:=first|exact za|fail) only [go_sem,seval,E,List.take_zero,Nat.mul_zero,Nat.add_zero,zbb,List.append_nil] at F
       rotate_left 1
       intro i env T hi0 hi F hQ ihF;simp (disch:=first|exact za|fail) only [go_sem,seval,E,List.take_zero,Nat.mul_zero,Nat.add_zero,zbb,List.append_nil] at F
       rotate_left 1
       · have l80:=l8 _ (Nat.le_refl _)
         rw [List.take_length] at l80
         have he:zcg m=x4++[BitVec.ofInt 8 m.values.length]++yx m.values:=by
          rw [zcg,←hx4,←hx3,←hx2,←hx1];simp [BitVec.ofInt_natCast]
         rw [he] at h
         clear hw4 hw5
         generalize x4++[BitVec.ofInt 8 m.values.length]++yx m.values=x5 at *
         generalize v1+1+16*m.values.length=v2 at *
         have hsh:(sha x5).length=32:=zbq x5
         refine .q ?_;refine .text ?_;simp (disch:=first|exact za|fail) only [go_sem,seval,F,zc,zf]
         refine .q ?_;refine .ifF (by simp (disch:=first|exact za|fail) only [go_sem,seval]) ?_
         refine .q ?_;refine .text ?_;simp (disch:=first|exact za|fail) only [go_sem,seval,F,zc,zf]
         refine CallK.of (fun R h=>zgF g.s0 g.s1 x5 (by omega) _ R h) ?_;simp (disch:=first|exact za|fail) only [go_sem,seval,hsh]
         refine .q ?_;refine .text ?_;simp (disch:=first|exact za|fail) only [go_sem,seval,F,zc,zf,hsh]
         have hbel:=zvz (m:=m) (n:=v2+1) hbel
         refine .q ?_;refine .rt Tryz.func36 (by rw [Tryz.results36]) (hR := ?_);simp (disch:=first|exact za|fail) only [go_sem,seval]
         exact h
       · have ha:=fun T=>hw4 i T hi
         have hb:=fun T=>hw5 i T hi
         have hE1 : ∀ k x,(app (eH H m k) (T++[x])).f (H.n+2+T.length)=some x:=fun k x=>by
          rw [←zCx (H:=H) (m:=m) (n:=k),zb3];simp
         clear hw4 hw5
         generalize x4++[BitVec.ofInt 8 m.values.length]++yx (m.values.take i)=y0 at *
         generalize x4++[BitVec.ofInt 8 m.values.length]++yx (m.values.take (i+1))=y2 at *
         generalize hk0:v1+1+16*i=k0 at *
         have hk2:v1+1+16*(i+1)=k0+16:=by omega
         simp only [hk2] at hb ihF
         refine .q ?_;refine .text ?_;simp (disch:=first|exact za|fail) only [go_sem,seval,F,zc,zf]
         refine .q ?_;refine .ifT (by simp (disch:=first|exact za|fail) only [go_sem,seval]) ?_
         refine .q ?_;refine .text ?_;simp (disch:=first|exact za|fail) only [go_sem,seval,F,zc,zf,e1]
         generalize nth m.values i=x at *
         rw [zm]
         generalize hT:T++[AB.cells [AV.p (zw x.a),AV.p (zw x.b)]]=T2
         have hE2 : ∀ k,(app (eH H m k) T2).f (H.n+2+T.length)=some (.cells [.p (zw x.a),.p (zw x.b)]):=fun k=>by rw [←hT];exact hE1 k _
         have ha:=ha T2
         have hb:=hb T2
         (refine .q ?_)
         refine .openInv (fun L env' H'=>kF env' [(7,.ptr (H.n+2+T.length) 0),(64,.p (.sl false 2 (pl ext m.values))),(65,.p (i64 m.values.length)),(66,.p (i64 i))]∧kI L env' [(0,70,.sl (H.n+1) k0 1 (pl b8 y0)),(1,71,.ptr (H.n+2+T.length) 0),(2,72,.p (zw x.a)),(3,73,.sl (H.n+1) (k0+8) 1 (pl b8 (y0++le x.a 8))),(4,74,.ptr (H.n+2+T.length) 1),(5,75,.p (zw x.b)),(6,76,.sl (H.n+1) (k0+16) 1 (pl b8 y2)),(7,3,.sl (H.n+1) (k0+16) 1 (pl b8 y2))]∧(L 7=false → env' 3 = .sl (H.n+1) k0 1 (pl b8 y0))∧(L 3=true → allT L [0,2])∧(L 6=true → allT L [3,5])∧(L 7=true → allT L [0,1,2,3,4,5,6])∧H'=(app (eH H m (if L 6 then k0+16 else if L 3 then k0+8 else k0)) T2)) follows (by kernel_rfl) ?_ ?_ ?_
         · exact⟨(by simp (disch:=first|exact za|fail) only [go_sem,seval,kFi,kFn,and_self,F,E,e1,hE2]),(fun _ _ h=>by cases h),(fun _=>by simp (disch:=first|exact za|fail) only [go_sem,seval,F,E,e1,hE2]),(fun h=>by cases h),(fun h=>by cases h),(fun h=>by cases h),(by first | rfl | (simp only [Bool.false_eq_true,if_false];first | rfl | (simp (disch:=first|exact za|fail) only [go_sem,seval,F,E,e1,hE2]<;>rfl)))⟩
         · intro i o L env' H' ho hL hall hI
           obtain⟨KF,KG,f0,m3,m6,m7,rfl⟩:=hI
           rcases i with _ | _ | _ | _ | _ | _ | _ | _ | i
           · cases ho;have n7:=y8 m7 hL;refine zg (.sl (H.n+1) k0 1 (pl b8 y0)) rfl rfl (by simp (disch:=first|exact za|fail) only [go_sem,seval,f0 n7,e1,hE2]<;>rfl) rfl ?_;exact⟨zT KF,zU KG,(kq f0),ka m3,ka m6,ka m7,(by rw [zb (by decide),zb (by decide)])⟩
           · cases ho;have f1:=yl KF 0 rfl;refine zg (.ptr (H.n+2+T.length) 0) rfl rfl (by simp (disch:=first|exact za|fail) only [go_sem,seval,f1,e1,hE2]<;>rfl) rfl ?_;exact⟨zT KF,zU KG,(kq f0),ka m3,ka m6,ka m7,(by rw [zb (by decide),zb (by decide)])⟩
           · cases ho;have d1:=zG KG 1 rfl (kL hall 0 rfl rfl);have n3:=y8 m3 hL;have n7:=y8 m7 hL;refine zg (.p (zw x.a)) rfl rfl (by simp (disch:=first|exact za|fail) only [go_sem,seval,reduceIte,Bool.false_eq_true,if_false,if_true,d1,n3,n7,hL,e1,hE2]<;>rfl) rfl ?_;exact⟨zT KF,zU KG,(kq f0),ka m3,ka m6,ka m7,(by rw [zb (by decide),zb (by decide)])⟩
           · cases ho;have h0:=kL hall 0 rfl rfl;have d0:=zG KG 0 rfl h0;have h2:=kL hall 1 rfl rfl;have d2:=zG KG 2 rfl h2;have n6:=y8 m6 hL;have n7:=y8 m7 hL;(try simp only [n6,hL,if_true,if_false,Bool.false_eq_true]);refine yT rfl rfl (by simp (disch:=first|exact za|fail) only [go_sem,seval,reduceIte,Bool.false_eq_true,if_false,if_true,d0,d2,n6,n7,hL,e1,hE2]<;>rfl) rfl (by simp (disch:=first|exact za|fail) only [go_sem,seval,reduceIte,Bool.false_eq_true,if_false,if_true,d0,d2,n6,n7,hL,e1,hE2]<;>rfl) (fun R h=>ha R h) ?_;exact⟨zT KF,zU KG,(kq f0),(fun _=>kt (ze h0 (ze h2 zz))),ka m6,ka m7,(by (have e3:more L 3 3=true:=zF);(have e6:more L 3 6=L 6:=zb (by decide));(try simp only [e3,e6,n6,hL]);first | done | rfl | (simp only [e3,e6,n6,hL,if_true,if_false,Bool.false_eq_true];first | done | rfl | (simp (disch:=first|exact za|fail) only [go_sem,seval,e3,e6,n6,hL,e1,hE2]<;>rfl)))⟩
           · cases ho;have f1:=yl KF 0 rfl;refine zg (.ptr (H.n+2+T.length) 1) rfl rfl (by simp (disch:=first|exact za|fail) only [go_sem,seval,f1,e1,hE2]<;>rfl) rfl ?_;exact⟨zT KF,zU KG,(kq f0),ka m3,ka m6,ka m7,(by rw [zb (by decide),zb (by decide)])⟩
           · cases ho;have d4:=zG KG 4 rfl (kL hall 0 rfl rfl);have n6:=y8 m6 hL;have n7:=y8 m7 hL;refine zg (.p (zw x.b)) rfl rfl (by simp (disch:=first|exact za|fail) only [go_sem,seval,reduceIte,Bool.false_eq_true,if_false,if_true,d4,n6,n7,hL,e1,hE2]<;>rfl) rfl ?_;exact⟨zT KF,zU KG,(kq f0),ka m3,ka m6,ka m7,(by rw [zb (by decide),zb (by decide)])⟩
           · cases ho;have h3:=kL hall 0 rfl rfl;have d3:=zG KG 3 rfl h3;have h5:=kL hall 1 rfl rfl;have d5:=zG KG 5 rfl h5;have n7:=y8 m7 hL;(try simp only [h3,hL,if_true,if_false,Bool.false_eq_true]);refine yT rfl rfl (by simp (disch:=first|exact za|fail) only [go_sem,seval,reduceIte,Bool.false_eq_true,if_false,if_true,d3,d5,h3,n7,hL,e1,hE2]<;>rfl) rfl (by simp (disch:=first|exact za|fail) only [go_sem,seval,reduceIte,Bool.false_eq_true,if_false,if_true,d3,d5,h3,n7,hL,e1,hE2]<;>rfl) (fun R h=>hb R h) ?_;exact⟨zT KF,zU KG,(kq f0),ka m3,(fun _=>kt (ze h3 (ze h5 zz))),ka m7,(by (have e3:more L 6 3=L 3:=zb (by decide));(have e6:more L 6 6=true:=zF);(try simp only [e3,e6,h3,hL]);first | done | rfl | (simp only [e3,e6,h3,hL,if_true,if_false,Bool.false_eq_true];first | done | rfl | (simp (disch:=first|exact za|fail) only [go_sem,seval,e3,e6,h3,hL,e1,hE2]<;>rfl)))⟩
           · cases ho;have h6:=kL hall 0 rfl rfl;have d6:=zG KG 6 rfl h6;have h0:=kL hall 2 rfl rfl;have h1:=kL hall 3 rfl rfl;have h2:=kL hall 4 rfl rfl;have h3:=kL hall 5 rfl rfl;have h4:=kL hall 6 rfl rfl;have h5:=kL hall 7 rfl rfl;refine zg (.sl (H.n+1) (k0+16) 1 (pl b8 y2)) rfl rfl (by simp (disch:=first|exact za|fail) only [go_sem,seval,d6,e1,hE2]<;>rfl) rfl ?_;exact⟨zT KF,zU KG,kx,ka m3,ka m6,(fun _=>kt (ze h0 (ze h1 (ze h2 (ze h3 (ze h4 (ze h5 (ze h6 zz)))))))),(by rw [zb (by decide),zb (by decide)])⟩
           · simp at ho
         · intro L env' H' hall hI
           obtain⟨KF,KG,f0,_,_,_,rfl⟩:=hI
           have l3:=hall 3 (by decide)
           have l6:=hall 6 (by decide)
           have f1:=yl KF 0 rfl
           have f2:=yl KF 1 rfl
           have f3:=yl KF 2 rfl
           have f4:=yl KF 3 rfl
           have g7:=zG KG 7 rfl (hall 7 (by decide))
           simp only [l3,l6,if_true]
           clear hall
           refine .q ?_;refine .text ?_;simp (disch:=first|exact za|fail) only [go_sem,seval,f4]
           first | (refine ihF _ _ ?_ trivial ?_) | (refine .z rfl ?_;refine ihF _ _ ?_ trivial ?_) | (refine .z rfl ?_;refine .z rfl ?_;refine ihF _ _ ?_ trivial ?_) | (refine .z rfl ?_;refine .z rfl ?_;refine .z rfl ?_;refine ihF _ _ ?_ trivial ?_)
           · simp (disch:=first|exact za|fail) only [go_sem,seval,F,E,e1,f2,f3,g7,hk2,←hT,zc8]<;>(repeat' (first | rfl | refine And.intro ?_ ?_))
           · first | exact .mk _ rfl | exact .mk [] rfl | (apply Later.mk;simp (disch:=first|exact za|fail) only [go_sem,seval,zm,F,E,e1,f2,f3,g7,hk2,←hT,zc8];exact rfl) | (apply Later.mk;simp (disch:=first|exact za|fail) only [go_sem,seval,zm,zO,List.append_assoc,F,E,e1,f2,f3,g7,hk2,←hT,zc8]<;>(try rfl))
     · have hh:=hw3 i hi
       refine .q ?_;refine .text ?_;simp (disch:=first|exact za|fail) only [go_sem,seval,E]
       refine .q ?_;refine .ifT (by simp (disch:=first|exact za|fail) only [go_sem,seval]) ?_
       refine .q ?_;refine .text ?_;simp (disch:=first|exact za|fail) only [go_sem,seval,E]
       refine .q ?_;refine .text ?_;simp (disch:=first|exact za|fail) only [go_sem,seval,E]
       refine CallK.of (fun R h=>hh R h) ?_;simp (disch:=first|exact za|fail) only [go_sem,seval]
       refine .q ?_;refine .text ?_;simp (disch:=first|exact za|fail) only [go_sem,seval,E]
       first | (refine ihE _ _ ?_ trivial ?_) | (refine .z rfl ?_;refine ihE _ _ ?_ trivial ?_) | (refine .z rfl ?_;refine .z rfl ?_;refine ihE _ _ ?_ trivial ?_) | (refine .z rfl ?_;refine .z rfl ?_;refine .z rfl ?_;refine ihE _ _ ?_ trivial ?_)
       · simp (disch:=first|exact za|fail) only [go_sem,seval,E,e1]<;>(repeat' (first | rfl | refine And.intro ?_ ?_))
       · first | rfl | (simp (disch:=first|exact za|fail) only [go_sem,seval,E,e1]<;>(try rfl))
end walks
end Go.Proofs.YtgflpgcogkdpgaaGreatDoor

/-
  Sessions: taking bytes one portion after the other.
-/
namespace Go.Proofs.YtgflpgcogkdpgaaGreatDoor
open Go Go.AL

theorem zls {a b:By}:bytesOf a=bytesOf b ↔ a=b:=by
 constructor
 · intro h
   have h1:(bytesOf a).data.toList=(bytesOf b).data.toList:=by rw [h]
   simp only [bytesOf] at h1
   have h2 : ∀ l m:By,(l.map fun x=>UInt8.ofBitVec x)=(m.map fun x=>UInt8.ofBitVec x) → l=m:=by
    intro l
    induction l with
    | nil=>intro m h;cases m<;>simp at h ⊢
    | cons x l ih =>
     intro m h
     cases m with
     | nil=>simp at h
     | cons y m =>
      simp only [List.map_cons,List.cons.injEq] at h
      rw [ih m h.2]
      have:=congrArg UInt8.toBitVec h.1
      simp at this
      rw [this]
   exact h2 _ _ h1
 · rintro rfl;rfl
theorem zfD {a b:By}:((bytesOf a).toList == (bytesOf b).toList)=decide (a=b):=by
 rw [ByteArray.toList_eq,ByteArray.toList_eq]
 by_cases e:a=b
 · subst e;simp
 · rw [decide_eq_false e,beq_eq_false_iff_ne]
   intro h
   refine e (zls.1 ?_)
   have:(bytesOf a).data=(bytesOf b).data:=Array.toList_inj.1 h
   cases hx:bytesOf a;cases hy:bytesOf b
   rw [hx,hy] at this
   simp only at this
   rw [this]
theorem zgM {n b:Nat} {H:Hp} {x:PV} (h:Bel n H):Bel n (H.set b (.cells [.p x])):=zbD h fun y hy=>by
 simp only [AB.vals,List.mem_singleton] at hy;subst hy;exact .p _
def tk (st:By × Bool) (n:Nat):By × (By × Bool) :=
 if st.1.length < n then (List.replicate n 0#8,(st.1,false)) else if st.2 then (st.1.take n,(st.1.drop n,true)) else (List.replicate n 0#8,(st.1.drop n,false))
theorem zbJ {st:By × Bool} {n:Nat}:(tk st n).1.length=n:=by
 unfold tk
 split
 · simp
 · split
   · simp only [List.length_take];omega
   · simp
theorem zgN {st:By × Bool} {n:Nat}:(tk st n).2.1.length≤st.1.length:=by
 unfold tk
 split
 · exact Nat.le_refl _
 · split<;>simp

section walks
variable {G:Globs} {r1 r2:Nat} {m1:List (Int × Rule)} {m2:List (Int × Int)}
theorem zc9 (g:GR G r1 r2 m1 m2) (m:Msg) (hm:m.Ok) (H:Hp) (R:AV → Hp → Prop) (h:R (.p (.sl false 1 (pl b8 (enc m)))) H):ACall Tryz.prog G 36 [.p (ym m)] H R:=by
 cases hv:valid m with
 | true =>
  rw [enc,hv] at h
  exact zer g m hm hv H R h
 | false =>
  rw [enc,hv] at h
  refine ACall.wk (zgL g m hm hv H (fun r H'=>r = .p (.s (.slice none 0 0))∧H'=H) ⟨rfl,rfl⟩) ?_
  rintro _ _ ⟨rfl,rfl⟩
  refine⟨_,h,fun σ w v hv => ?_⟩
  cases hv with | p hp=>cases hp;exact .p (.nil _ _)
theorem zgO (a b:By) (H:Hp) (R:AV → Hp → Prop) (h:R (.p (bo (decide (a=b)))) H):ACall Tryz.prog G 54 [.p (.sl false 1 (pl b8 a)),.p (.sl false 1 (pl b8 b))] H R:=by
 refine ACall.of_run (raw:=[]) Tryz.func54 rfl Tryz.ntmps54 (by simp) fun hbel => ?_
 refine .q ?_;refine .text ?_;simp (disch:=first|exact za|fail) only [go_sem,seval]
 refine .q ?_;refine .text ?_;simp (disch:=first|exact za|fail) only [go_sem,seval,zaI,zfD]
 refine .q ?_;refine .rt Tryz.func54 (by rw [Tryz.results54]) (hR := ?_);simp (disch:=first|exact za|fail) only [go_sem,seval]
 exact h
theorem zda (rest:By) (hr:rest.length≤140737488355000) (n:Nat) (hn:n≤140737488355000) (cb:Nat) (H:Hp) (hc:H.f cb=some (.cells [.p (.sl false 1 (pl b8 rest))])) (R:AV → Hp → Prop)
 (h:R (if rest.length < n then .tup [.p (.sl false 1 []),.p (bo false)] else .tup [.p (.sl false 1 (pl b8 (rest.take n))),.p (bo true)]) (H.set cb (.cells [.p (.sl false 1 (pl b8 (if rest.length < n then rest else rest.drop n)))]))) :
 ACall Tryz.prog G 91 [.p (i64 n),.ptr cb 0] H R:=by
 have hcn:=Hp.lt hc
 refine ACall.of_run (raw:=[]) Tryz.func91 rfl Tryz.ntmps91 (by simp) fun hbel => ?_
 refine .q ?_;refine .text ?_;simp (disch:=first|exact za|fail) only [go_sem,seval]
 refine .q ?_;refine .text ?_;simp (disch:=first|exact za|fail) only [go_sem,seval,hc]
 by_cases c:rest.length < n
 · have d:decide ((rest.length:Int) < (n:Int))=true:=decide_eq_true (by omega)
   rw [if_pos c,if_pos c,Hp.set_same H _ cb hc] at h
   refine .q ?_;refine .ifT (by simp (disch:=first|exact za|fail) only [go_sem,seval,d]) ?_
   refine .q ?_;refine .text ?_;simp (disch:=first|exact za|fail) only [go_sem,seval]
   refine .q ?_;refine .rt Tryz.func91 (by rw [Tryz.results91]) (hR := ?_);simp (disch:=first|exact za|fail) only [go_sem,seval]
   exact h
 · have d:decide ((rest.length:Int) < (n:Int))=false:=decide_eq_false (by omega)
   rw [if_neg c,if_neg c] at h
   refine .q ?_;refine .ifF (by simp (disch:=first|exact za|fail) only [go_sem,seval,d]) ?_
   refine .q ?_;refine .text ?_;simp (disch:=first|exact za|fail) only [go_sem,seval,hc]
   refine .q ?_;refine .text ?_;simp (disch:=first|exact za|fail) only [go_sem,seval,hc]
   refine .q ?_;refine .text ?_;simp (disch:=first|exact za|fail) only [go_sem,seval]
   refine .q ?_;refine .retKeep Tryz.func91 (by rw [Tryz.results91]) (by simp (disch:=first|exact za|fail) only [go_sem,seval];rfl) ?_;(try simp (disch:=first|exact za|fail) only [go_sem,seval])
   exact h
theorem zhA (b:By) (H:Hp) (R:AV → Hp → Prop) (h:R (.clo 91 [] [.ptr H.n 0]) (H.new (.cells [.p (.sl false 1 (pl b8 b))]))):ACall Tryz.prog G 68 [.p (.sl false 1 (pl b8 b))] H R:=by
 refine ACall.of_run (raw:=[]) Tryz.func68 rfl Tryz.ntmps68 (by simp) fun hbel => ?_
 refine .q ?_;refine .text ?_;simp (disch:=first|exact za|fail) only [go_sem,seval]
 refine .q ?_;refine .text ?_;simp (disch:=first|exact za|fail) only [go_sem,seval]
 refine .q ?_;refine .retKeep Tryz.func68 (by rw [Tryz.results68]) (by simp (disch:=first|exact za|fail) only [go_sem,seval];rfl) ?_;(try simp (disch:=first|exact za|fail) only [go_sem,seval])
 exact h
set_option maxHeartbeats 4000000 in
theorem zie (st:By × Bool) (hr:st.1.length≤140737488355000) (n:Nat) (hn:n≤100000) (cb c1 c2:Nat) (H:Hp) (hc:H.f cb=some (.cells [.p (.sl false 1 (pl b8 st.1))])) (h1:H.f c1=some (.cells [.clo 91 [] [.ptr cb 0]])) (h2:H.f c2=some (.cells [.p (bo st.2)]))
 (ne:cb≠c2) (ne1:cb≠c1) (R:AV → Hp → Prop) (h:R (.p (.sl false 1 (pl b8 (tk st n).1))) ((H.set cb (.cells [.p (.sl false 1 (pl b8 (tk st n).2.1))])).set c2 (.cells [.p (bo (tk st n).2.2)]))) :
 ACall Tryz.prog G 69 [.p (i64 n),.ptr c1 0,.ptr c2 0] H R:=by
 obtain⟨rest,ok⟩:=st
 simp only at hr hc h2
 have hcn:=Hp.lt hc
 have hcn1:=Hp.lt h1
 have hcn2:=Hp.lt h2
 have hen:enters Tryz.prog 91=true:=zlb
 refine ACall.of_run (raw:=[]) Tryz.func69 rfl Tryz.ntmps69 (by simp) fun hbel => ?_
 refine .q ?_;refine .text ?_;simp (disch:=first|exact za|fail) only [go_sem,seval]
 refine .q ?_;refine .text ?_;simp (disch:=first|exact za|fail) only [go_sem,seval,h1,hen]
 unfold tk at h
 simp only at h
 by_cases c:rest.length < n
 · rw [if_pos c] at h
   simp only at h
   refine CallK.of (fun R h=>zda rest (by omega) n (by omega) cb _ hc R h) ?_
   rw [if_pos c,if_pos c]
   simp (disch:=first|exact za|fail) only [go_sem,seval,h2]
   have hs:H.set cb (.cells [.p (.sl false 1 (pl b8 rest))])=H:=Hp.set_same H _ cb hc
   rw [hs] at h ⊢
   have hbel:=zgM (b:=c2) (x:=bo false) hbel
   cases ok
   · refine .q ?_;refine .text ?_;simp (disch:=first|exact za|fail) only [go_sem,seval,h2]
     refine .q ?_;refine .text ?_;simp (disch:=first|exact za|fail) only [go_sem,seval]
     refine .q ?_;refine .ifT (by simp (disch:=first|exact za|fail) only [go_sem,seval]) ?_
     refine .q ?_;refine .text ?_;simp (disch:=first|exact za|fail) only [go_sem,seval]
     refine .q ?_;refine .frzS 4 (by simp (disch:=first|exact za|fail) only [go_sem,seval];rfl) (by simp (disch:=first|exact za|fail) only [go_sem,seval]<;>rfl) (fun _=>rfl) (by first | exact za | fail) ?_;(try simp (disch:=first|exact za|fail) only [go_sem,seval])
     refine .q ?_;refine .rt Tryz.func69 (by rw [Tryz.results69]) (hR := ?_);simp (disch:=first|exact za|fail) only [go_sem,seval]
     exact h
   · refine .q ?_;refine .text ?_;simp (disch:=first|exact za|fail) only [go_sem,seval,h2]
     refine .q ?_;refine .text ?_;simp (disch:=first|exact za|fail) only [go_sem,seval]
     refine .q ?_;refine .ifT (by simp (disch:=first|exact za|fail) only [go_sem,seval]) ?_
     refine .q ?_;refine .text ?_;simp (disch:=first|exact za|fail) only [go_sem,seval]
     refine .q ?_;refine .frzS 4 (by simp (disch:=first|exact za|fail) only [go_sem,seval];rfl) (by simp (disch:=first|exact za|fail) only [go_sem,seval]<;>rfl) (fun _=>rfl) (by first | exact za | fail) ?_;(try simp (disch:=first|exact za|fail) only [go_sem,seval])
     refine .q ?_;refine .rt Tryz.func69 (by rw [Tryz.results69]) (hR := ?_);simp (disch:=first|exact za|fail) only [go_sem,seval]
     exact h
 · rw [if_neg c] at h
   refine CallK.of (fun R h=>zda rest (by omega) n (by omega) cb _ hc R h) ?_
   rw [if_neg c,if_neg c]
   simp (disch:=first|exact za|fail) only [go_sem,seval,h2]
   have hbel:=fun y=>zgM (b:=c2) (x:=y) (zgM (b:=cb) (x := .sl false 1 (pl b8 (rest.drop n))) hbel)
   cases ok
   · refine .q ?_;refine .text ?_;simp (disch:=first|exact za|fail) only [go_sem,seval,h2]
     refine .q ?_;refine .text ?_;simp (disch:=first|exact za|fail) only [go_sem,seval]
     refine .q ?_;refine .ifT (by simp (disch:=first|exact za|fail) only [go_sem,seval]) ?_
     refine .q ?_;refine .text ?_;simp (disch:=first|exact za|fail) only [go_sem,seval]
     refine .q ?_;refine .frzS 4 (by simp (disch:=first|exact za|fail) only [go_sem,seval];rfl) (by simp (disch:=first|exact za|fail) only [go_sem,seval]<;>rfl) (fun _=>rfl) (by first | exact za | fail) ?_;(try simp (disch:=first|exact za|fail) only [go_sem,seval])
     refine .q ?_;refine .rt Tryz.func69 (by rw [Tryz.results69]) (hR := ?_);simp (disch:=first|exact za|fail) only [go_sem,seval]
     exact h
   · refine .q ?_;refine .text ?_;simp (disch:=first|exact za|fail) only [go_sem,seval,h2]
     refine .q ?_;refine .text ?_;simp (disch:=first|exact za|fail) only [go_sem,seval]
     refine .q ?_;refine .ifF (by simp (disch:=first|exact za|fail) only [go_sem,seval]) ?_
     refine .q ?_;refine .text ?_;simp (disch:=first|exact za|fail) only [go_sem,seval]
     refine .q ?_;refine .rt Tryz.func69 (by rw [Tryz.results69]) (hR := ?_);simp (disch:=first|exact za|fail) only [go_sem,seval]
     exact h
end walks
end Go.Proofs.YtgflpgcogkdpgaaGreatDoor

/-
  Sessions: chunks of bytes and of words.
-/
namespace Go.Proofs.YtgflpgcogkdpgaaGreatDoor
open Go Go.AL

section walks
variable {G:Globs}

theorem zlt (L:List (BitVec 8)) (n:Nat) (hn:1≤n∧n≤1000) (H:Hp) (R:AV → Hp → Prop) (h:R (.clo 109 [] [.ptr H.n 0,.ptr (H.n+1) 0]) ((H.new (.cells [.p (.sl false 1 (pl b8 L))])).new (.cells [.p (i64 n)]))):ACall Tryz.prog G 93 [.p (.sl false 1 (pl b8 L)),.p (i64 n)] H R:=by
 have d:decide ((n:Int) < 1)=false:=decide_eq_false (by omega)
 refine ACall.of_run (raw:=[]) Tryz.func93 rfl Tryz.ntmps93 (by simp) fun hbel => ?_
 refine .q ?_;refine .text ?_;simp (disch:=first|exact za|fail) only [go_sem,seval,-List.reduceReplicate]
 refine .q ?_;refine .text ?_;simp (disch:=first|exact za|fail) only [go_sem,seval,-List.reduceReplicate,d]
 refine .q ?_;refine .ifF (by simp (disch:=first|exact za|fail) only [go_sem,seval,-List.reduceReplicate,d]) ?_
 refine .q ?_;refine .text ?_;simp (disch:=first|exact za|fail) only [go_sem,seval,-List.reduceReplicate]
 refine .q ?_;refine .retKeep Tryz.func93 (by rw [Tryz.results93]) (by simp (disch:=first|exact za|fail) only [go_sem,seval,-List.reduceReplicate];rfl) ?_;(try simp (disch:=first|exact za|fail) only [go_sem,seval,-List.reduceReplicate])
 exact h
set_option maxHeartbeats 8000000 in
theorem zjd (L:List (BitVec 8)) (n c:Nat) (hn:1≤n∧n≤1000) (hl:L.length=n*c) (hl2:L.length≤1000000) (y p q m:Nat) (X:Nat → Hp) (hX : ∀ i,(X i).n=m) (hB : ∀ i,Bel m (X i)) (hy0:y < m) (hp : ∀ i,(X i).f p=some (.cells [.p (.sl false 1 (pl b8 L))])) (hq : ∀ i,(X i).f q=some (.cells [.p (i64 n)]))
 (hy : ∀ i,i < c → ∀ (S:List AB) (K:AV → Hp → Prop),K (.p (bo true)) (app (X (i+1)) S) → AYield Tryz.prog G y [.p (.sl false 1 (pl b8 ((L.take (n*i+n)).drop (n*i))))] (app (X i) S) K)
 (R:AV → Hp → Prop) (h:R (.tup []) (X c)):ACall Tryz.prog G 109 [.yld y,.ptr p 0,.ptr q 0] (X 0) R:=by
 have hX0:=hX 0
 have hp0:=hp 0
 have hmul : ∀ i,i < c → n*i+n≤n*c:=fun i hi=>by
  have:=Nat.mul_le_mul_left n (show i+1≤c by omega)
  rw [Nat.mul_succ] at this;exact this
 obtain⟨P,hP⟩ : ∃ P:Nat → Nat,∀ i,n*i=P i:=⟨fun i=>n*i,fun _=>rfl⟩
 have hPs : ∀ i,P (i+1)=P i+n:=fun i=>by rw [←hP,←hP,Nat.mul_succ]
 have hP0:P 0=0:=by rw [←hP];rfl
 simp only [hP] at hl hy hmul
 clear hP
 refine ACall.of_run (raw:=[]) Tryz.func109 rfl Tryz.ntmps109 (by simp) fun hbel => ?_
 rw [hX0]
 have hbel : ∀ i,Bel m (X i):=hB
 refine .q ?_;refine .text ?_;simp (disch:=first|exact za|fail) only [go_sem,seval,-List.reduceReplicate,hp0]
 refine .q ?_;refine .loopH [0,1,2] (fun i=>[(4,.p (i64 (P i)))]) (fun i=>X i) (fun i=>True) (0) (c) (by omega) ?_ (by first | rfl | (simp (disch:=first|exact za|fail) only [go_sem,seval,-List.reduceReplicate,hP0]<;>rfl)) ?_ ?_ ?_
 · simp (disch:=first|exact za|fail) only [go_sem,seval,-List.reduceReplicate,hP0]<;>(repeat' (first | rfl | refine And.intro ?_ ?_))
 · exact trivial
 intro env E hQ;simp (disch:=first|exact za|fail) only [go_sem,seval,-List.reduceReplicate,hP0] at E
 rotate_left 1
 intro i env hi0 hi E hQ ihE;simp (disch:=first|exact za|fail) only [go_sem,seval,-List.reduceReplicate,hP0] at E
 rotate_left 1
 · have d:decide ((P c:Int) < (L.length:Int))=false:=decide_eq_false (by omega)
   have hXe:=hX c
   have hpc:=hp c
   refine .q ?_;refine .text ?_;simp (disch:=first|exact za|fail) only [go_sem,seval,-List.reduceReplicate,E,hpc,d]
   refine .q ?_;refine .ifF (by simp (disch:=first|exact za|fail) only [go_sem,seval,-List.reduceReplicate,d]) ?_
   refine .q ?_;refine .fin Tryz.func109 (by rw [Tryz.results109]) (by simp (disch:=first|exact za|fail) only [go_sem,seval,-List.reduceReplicate];rfl) (by simp (disch:=first|exact za|fail) only [go_sem,seval,-List.reduceReplicate];rfl) (by (try dsimp only);repeat (first | with_reducible refine zv ?_ za | with_reducible refine zad ?_ za | with_reducible refine zaR ?_ za | with_reducible refine yY ?_ | with_reducible exact hbel | with_reducible exact hbel _)) ?_;simp (disch:=first|exact za|fail) only [go_sem,seval,-List.reduceReplicate]
   (try rw [zeb hXe.symm])
   exact h
 · have hm:=hmul i hi
   have hyi:=hy i hi []
   simp only [zaS] at hyi
   have hpi:=hp i
   have hqi:=hq i
   have hst:=hPs i
   rw [hst] at ihE
   generalize P i=N at *
   have d:decide ((N:Int) < (L.length:Int))=true:=decide_eq_true (by omega)
   have d2:min (n:Int) ((L.length - N:Nat):Int)=(n:Int):=by omega
   refine .q ?_;refine .text ?_;simp (disch:=first|exact za|fail) only [go_sem,seval,-List.reduceReplicate,E,hpi,d]
   refine .q ?_;refine .ifT (by simp (disch:=first|exact za|fail) only [go_sem,seval,-List.reduceReplicate,d]) ?_
   refine .q ?_;refine .open [] follows (by kernel_rfl) ?_;simp (disch:=first|exact za|fail) only [go_sem,seval,-List.reduceReplicate,E,hpi,hqi,d2]
   refine .q ?_;refine .text ?_;simp (disch:=first|exact za|fail) only [go_sem,seval,-List.reduceReplicate,E,hpi]
   refine YieldK.of (fun K hK=>hyi K hK) ?_;simp (disch:=first|exact za|fail) only [go_sem,seval,-List.reduceReplicate]
   refine .q ?_;refine .ifF (by simp (disch:=first|exact za|fail) only [go_sem,seval,-List.reduceReplicate]) ?_
   refine .q ?_;refine .text ?_;simp (disch:=first|exact za|fail) only [go_sem,seval,-List.reduceReplicate,E,hq (i+1)]
   first | (refine ihE _ _ ?_ trivial ?_) | (refine .z rfl ?_;refine ihE _ _ ?_ trivial ?_) | (refine .z rfl ?_;refine .z rfl ?_;refine ihE _ _ ?_ trivial ?_) | (refine .z rfl ?_;refine .z rfl ?_;refine .z rfl ?_;refine ihE _ _ ?_ trivial ?_)
   · simp (disch:=first|exact za|fail) only [go_sem,seval,-List.reduceReplicate,E]<;>(repeat' (first | rfl | refine And.intro ?_ ?_))
   · first | rfl | (simp (disch:=first|exact za|fail) only [go_sem,seval,-List.reduceReplicate,E]<;>(try rfl))

theorem zlu (L:List (BitVec 64)) (n:Nat) (hn:1≤n∧n≤1000) (H:Hp) (R:AV → Hp → Prop) (h:R (.clo 94 [] [.ptr H.n 0,.ptr (H.n+1) 0]) ((H.new (.cells [.p (.sl false 1 (pl zw L))])).new (.cells [.p (i64 n)]))):ACall Tryz.prog G 72 [.p (.sl false 1 (pl zw L)),.p (i64 n)] H R:=by
 have d:decide ((n:Int) < 1)=false:=decide_eq_false (by omega)
 refine ACall.of_run (raw:=[]) Tryz.func72 rfl Tryz.ntmps72 (by simp) fun hbel => ?_
 refine .q ?_;refine .text ?_;simp (disch:=first|exact za|fail) only [go_sem,seval,-List.reduceReplicate]
 refine .q ?_;refine .text ?_;simp (disch:=first|exact za|fail) only [go_sem,seval,-List.reduceReplicate,d]
 refine .q ?_;refine .ifF (by simp (disch:=first|exact za|fail) only [go_sem,seval,-List.reduceReplicate,d]) ?_
 refine .q ?_;refine .text ?_;simp (disch:=first|exact za|fail) only [go_sem,seval,-List.reduceReplicate]
 refine .q ?_;refine .retKeep Tryz.func72 (by rw [Tryz.results72]) (by simp (disch:=first|exact za|fail) only [go_sem,seval,-List.reduceReplicate];rfl) ?_;(try simp (disch:=first|exact za|fail) only [go_sem,seval,-List.reduceReplicate])
 exact h
set_option maxHeartbeats 8000000 in
theorem zje (L:List (BitVec 64)) (n c:Nat) (hn:1≤n∧n≤1000) (hl:L.length=n*c) (hl2:L.length≤1000000) (y p q m:Nat) (X:Nat → Hp) (hX : ∀ i,(X i).n=m) (hB : ∀ i,Bel m (X i)) (hy0:y < m) (hp : ∀ i,(X i).f p=some (.cells [.p (.sl false 1 (pl zw L))])) (hq : ∀ i,(X i).f q=some (.cells [.p (i64 n)]))
 (hy : ∀ i,i < c → ∀ (S:List AB) (K:AV → Hp → Prop),K (.p (bo true)) (app (X (i+1)) S) → AYield Tryz.prog G y [.p (.sl false 1 (pl zw ((L.take (n*i+n)).drop (n*i))))] (app (X i) S) K)
 (R:AV → Hp → Prop) (h:R (.tup []) (X c)):ACall Tryz.prog G 94 [.yld y,.ptr p 0,.ptr q 0] (X 0) R:=by
 have hX0:=hX 0
 have hp0:=hp 0
 have hmul : ∀ i,i < c → n*i+n≤n*c:=fun i hi=>by
  have:=Nat.mul_le_mul_left n (show i+1≤c by omega)
  rw [Nat.mul_succ] at this;exact this
 obtain⟨P,hP⟩ : ∃ P:Nat → Nat,∀ i,n*i=P i:=⟨fun i=>n*i,fun _=>rfl⟩
 have hPs : ∀ i,P (i+1)=P i+n:=fun i=>by rw [←hP,←hP,Nat.mul_succ]
 have hP0:P 0=0:=by rw [←hP];rfl
 simp only [hP] at hl hy hmul
 clear hP
 refine ACall.of_run (raw:=[]) Tryz.func94 rfl Tryz.ntmps94 (by simp) fun hbel => ?_
 rw [hX0]
 have hbel : ∀ i,Bel m (X i):=hB
 refine .q ?_;refine .text ?_;simp (disch:=first|exact za|fail) only [go_sem,seval,-List.reduceReplicate,hp0]
 refine .q ?_;refine .loopH [0,1,2] (fun i=>[(4,.p (i64 (P i)))]) (fun i=>X i) (fun i=>True) (0) (c) (by omega) ?_ (by first | rfl | (simp (disch:=first|exact za|fail) only [go_sem,seval,-List.reduceReplicate,hP0]<;>rfl)) ?_ ?_ ?_
 · simp (disch:=first|exact za|fail) only [go_sem,seval,-List.reduceReplicate,hP0]<;>(repeat' (first | rfl | refine And.intro ?_ ?_))
 · exact trivial
 intro env E hQ;simp (disch:=first|exact za|fail) only [go_sem,seval,-List.reduceReplicate,hP0] at E
 rotate_left 1
 intro i env hi0 hi E hQ ihE;simp (disch:=first|exact za|fail) only [go_sem,seval,-List.reduceReplicate,hP0] at E
 rotate_left 1
 · have d:decide ((P c:Int) < (L.length:Int))=false:=decide_eq_false (by omega)
   have hXe:=hX c
   have hpc:=hp c
   refine .q ?_;refine .text ?_;simp (disch:=first|exact za|fail) only [go_sem,seval,-List.reduceReplicate,E,hpc,d]
   refine .q ?_;refine .ifF (by simp (disch:=first|exact za|fail) only [go_sem,seval,-List.reduceReplicate,d]) ?_
   refine .q ?_;refine .fin Tryz.func94 (by rw [Tryz.results94]) (by simp (disch:=first|exact za|fail) only [go_sem,seval,-List.reduceReplicate];rfl) (by simp (disch:=first|exact za|fail) only [go_sem,seval,-List.reduceReplicate];rfl) (by (try dsimp only);repeat (first | with_reducible refine zv ?_ za | with_reducible refine zad ?_ za | with_reducible refine zaR ?_ za | with_reducible refine yY ?_ | with_reducible exact hbel | with_reducible exact hbel _)) ?_;simp (disch:=first|exact za|fail) only [go_sem,seval,-List.reduceReplicate]
   (try rw [zeb hXe.symm])
   exact h
 · have hm:=hmul i hi
   have hyi:=hy i hi []
   simp only [zaS] at hyi
   have hpi:=hp i
   have hqi:=hq i
   have hst:=hPs i
   rw [hst] at ihE
   generalize P i=N at *
   have d:decide ((N:Int) < (L.length:Int))=true:=decide_eq_true (by omega)
   have d2:min (n:Int) ((L.length - N:Nat):Int)=(n:Int):=by omega
   refine .q ?_;refine .text ?_;simp (disch:=first|exact za|fail) only [go_sem,seval,-List.reduceReplicate,E,hpi,d]
   refine .q ?_;refine .ifT (by simp (disch:=first|exact za|fail) only [go_sem,seval,-List.reduceReplicate,d]) ?_
   refine .q ?_;refine .open [] follows (by kernel_rfl) ?_;simp (disch:=first|exact za|fail) only [go_sem,seval,-List.reduceReplicate,E,hpi,hqi,d2]
   refine .q ?_;refine .text ?_;simp (disch:=first|exact za|fail) only [go_sem,seval,-List.reduceReplicate,E,hpi]
   refine YieldK.of (fun K hK=>hyi K hK) ?_;simp (disch:=first|exact za|fail) only [go_sem,seval,-List.reduceReplicate]
   refine .q ?_;refine .ifF (by simp (disch:=first|exact za|fail) only [go_sem,seval,-List.reduceReplicate]) ?_
   refine .q ?_;refine .text ?_;simp (disch:=first|exact za|fail) only [go_sem,seval,-List.reduceReplicate,E,hq (i+1)]
   first | (refine ihE _ _ ?_ trivial ?_) | (refine .z rfl ?_;refine ihE _ _ ?_ trivial ?_) | (refine .z rfl ?_;refine .z rfl ?_;refine ihE _ _ ?_ trivial ?_) | (refine .z rfl ?_;refine .z rfl ?_;refine .z rfl ?_;refine ihE _ _ ?_ trivial ?_)
   · simp (disch:=first|exact za|fail) only [go_sem,seval,-List.reduceReplicate,E]<;>(repeat' (first | rfl | refine And.intro ?_ ?_))
   · first | rfl | (simp (disch:=first|exact za|fail) only [go_sem,seval,-List.reduceReplicate,E]<;>(try rfl))
end walks

def wds (b:By):Nat → List U
 | 0=>[]
 | c+1=>wds b c++[rd ((b.take (8*c+8)).drop (8*c))]
theorem zbK {b:By} {c:Nat}:wds b (c+1)=wds b c++[rd ((b.take (8*c+8)).drop (8*c))]:=rfl
theorem zas {b:By} : ∀ {c},(wds b c).length=c
 | 0=>rfl
 | c+1=>by simp [wds,zas]
theorem zps {H:Hp} {n a v sz:Nat} {xs:List PV} (h:Bel n H) (ha:a < n):Bel n (H.new (.cells [.sl a v sz xs])):=yu h fun z hz=>by
 simp only [AB.vals,List.mem_singleton] at hz;subst hz;exact .sl _ _ _ _ ha
section walks
variable {G:Globs}
set_option maxHeartbeats 8000000 in
theorem zgP (b:By) (c:Nat) (hc:b.length=8*c) (hb:c≤10000) (H:Hp) (R:AV → Hp → Prop) (h:R (.p (.sl false 1 (pl zw (wds b c)))) H):ACall Tryz.prog G 71 [.p (.sl false 1 (pl b8 b))] H R:=by
 refine ACall.of_run (raw:=[]) Tryz.func71 rfl Tryz.ntmps71 (by simp) fun hbel => ?_
 refine .q ?_;refine .text ?_;simp (disch:=first|exact za|fail) only [go_sem,seval,-List.reduceReplicate]
 refine .q ?_;refine .text ?_;simp (disch:=first|exact za|fail) only [go_sem,seval,-List.reduceReplicate]
 refine .q ?_;refine .ownC H.n 0 (by simp (disch:=first|exact za|fail) only [go_sem,seval,-List.reduceReplicate];rfl) (by rfl) ?_;simp (disch:=first|exact za|fail) only [go_sem,seval,-List.reduceReplicate,List.set_cons_zero,List.set_cons_succ]
 refine .q ?_;refine .text ?_;simp (disch:=first|exact za|fail) only [go_sem,seval,-List.reduceReplicate]
 refine CallK.of (fun R h=>zlt b 8 (by omega) _ R h) ?_;simp (disch:=first|exact za|fail) only [go_sem,seval,-List.reduceReplicate]
 refine .q ?_;refine .rangeFunc (ps:=[7]) rfl (by simp (disch:=first|exact za|fail) only [go_sem,seval,-List.reduceReplicate];rfl) (by simp (disch:=first|exact za|fail) only [go_sem,seval,-List.reduceReplicate]) (by simp) fun L vs hL hvs hround => ?_;simp (disch:=first|exact za|fail) only [go_sem,seval,-List.reduceReplicate]
 refine zjd b 8 c (by omega) hc (by omega) (H.n+4) (H.n+2) (H.n+3) (H.n+5) (fun j=>(((((H.new (.cells [.sl (H.n+1) j 1 (pl zw (wds b j))])).new (.tail j)).new (.cells [.p (.sl false 1 (pl b8 b))])).new (.cells [.p (i64 (8:Nat))])).new (.obj vs (L .ready none)))) (fun j=>by simp (disch:=first|exact za|fail) only [go_sem,seval,-List.reduceReplicate]) (fun j => ?_) (by omega) (fun j=>by simp (disch:=first|exact za|fail) only [go_sem,seval,-List.reduceReplicate]) (fun j=>by simp (disch:=first|exact za|fail) only [go_sem,seval,-List.reduceReplicate]) (fun j hj S K hK => ?_) _ ?_
 · (try dsimp only);(repeat (first | with_reducible exact hbel | with_reducible exact yI hbel za | with_reducible refine zaY ?_ | with_reducible refine zaZ ?_ | with_reducible refine za0 ?_ | with_reducible refine za1 hvs ?_ za | with_reducible refine yY ?_ | with_reducible refine za2 ?_ | with_reducible refine za3 ?_ | with_reducible refine za4 ?_ | with_reducible refine za5 ?_))
   exact zps (yI hbel (by omega)) (by omega)
 · rw [zbK] at hK
   have hl:((b.take (8*j+8)).drop (8*j)).length=8:=by rw [List.length_drop,List.length_take];omega
   have hwl:=zas (b:=b) (c:=j)
   generalize (b.take (8*j+8)).drop (8*j)=x at *
   refine hround _ _ _ rfl (by simp (disch:=first|exact za|fail) only [go_sem,seval,-List.reduceReplicate]) fun hbel2 => ?_
   dsimp only
   simp (disch:=first|exact za|fail) only [go_sem,seval,-List.reduceReplicate]
   refine .q ?_;refine .text ?_;simp (disch:=first|exact za|fail) only [go_sem,seval,-List.reduceReplicate]
   refine .q ?_;refine .beginRound rfl hL (by simp (disch:=first|exact za|fail) only [go_sem,seval,-List.reduceReplicate];rfl) ?_;simp (disch:=first|exact za|fail) only [go_sem,seval,-List.reduceReplicate]
   refine .q ?_;refine .open [4,5] follows (by kernel_rfl) ?_;simp (disch:=first|exact za|fail) only [go_sem,seval,-List.reduceReplicate]
   refine CallD.still (fun R h=>zdt x (by omega) _ R h) ?_;simp (disch:=first|exact za|fail) only [go_sem,seval,-List.reduceReplicate,hwl]
   refine .q ?_;refine .roundEndK rfl hL (by simp (disch:=first|exact za|fail) only [go_sem,seval,-List.reduceReplicate];rfl) ?_;simp (disch:=first|exact za|fail) only [go_sem,seval,-List.reduceReplicate]
   exact hK
 · unfold zeg;refine⟨?_,.inl ⟨(by simp (disch:=first|exact za|fail) only [go_sem,seval,-List.reduceReplicate]<;>rfl),?_⟩⟩;(try dsimp only);(repeat (first | with_reducible exact hbel | with_reducible exact yI hbel za | with_reducible refine zaY ?_ | with_reducible refine zaZ ?_ | with_reducible refine za0 ?_ | with_reducible refine za1 hvs ?_ za | with_reducible refine yY ?_ | with_reducible refine za2 ?_ | with_reducible refine za3 ?_ | with_reducible refine za4 ?_ | with_reducible refine za5 ?_));simp (disch:=first|exact za|fail) only [go_sem,seval,-List.reduceReplicate]
   · exact zps (yI hbel (by omega)) (by omega)
   refine .q ?_;refine .text ?_;simp (disch:=first|exact za|fail) only [go_sem,seval,-List.reduceReplicate]
   refine .q ?_;refine .rt Tryz.func71 (by rw [Tryz.results71]) (hR := ?_);simp (disch:=first|exact za|fail) only [go_sem,seval,-List.reduceReplicate]
   exact h
end walks
end Go.Proofs.YtgflpgcogkdpgaaGreatDoor
