/-
  What the rules ask of the types and functions of this program: closed facts,by the kernel.
  Conditions: none. Written by gen_tab.py.
-/
import Derived.Test.YtmoecjgehdkhkaaDoorPkE3
import Derived.Test.YtmoecjgehdkhkaaDoorChecked
import Derived.Shelf.Spec.SlicesGrow
set_option linter.unusedSimpArgs false
set_option linter.unusedVariables false
namespace Go.Proofs.YtmoecjgehdkhkaaDoor
open Go Go.AL

theorem zKY:Tryd.prog.cellsOf 1=1:=by kernel_rfl
theorem zPd:(Tryd.prog.info? 1).isSome=true:=by kernel_rfl
theorem zKZ:Tryd.prog.bytesOf 1=8:=by kernel_rfl
theorem zPe:zg Tryd.prog 1=false:=by kernel_rfl
theorem zvj:isIface Tryd.prog 1=false:=by kernel_rfl
theorem zK0:zj Tryd.prog 1=some ([.s .nilFunc]):=by kernel_rfl
theorem zK1:zk Tryd.prog 1=true:=by kernel_rfl
theorem cells2:Tryd.prog.cellsOf 2=1:=by kernel_rfl
theorem zPf:(Tryd.prog.info? 2).isSome=true:=by kernel_rfl
theorem zK2:Tryd.prog.bytesOf 2=8:=by kernel_rfl
theorem zJO:zg Tryd.prog 2=false:=by kernel_rfl
theorem zK3:zX Tryd.prog 2=true:=by kernel_rfl
theorem zvk:isIface Tryd.prog 2=false:=by kernel_rfl
theorem zK4:zj Tryd.prog 2=some ([i64 0]):=by kernel_rfl
theorem zK5:zk Tryd.prog 2=true:=by kernel_rfl
theorem cells3:Tryd.prog.cellsOf 3=1:=by kernel_rfl
theorem info3:(Tryd.prog.info? 3).isSome=true:=by kernel_rfl
theorem bytes3:Tryd.prog.bytesOf 3=8:=by kernel_rfl
theorem zPg:zg Tryd.prog 3=false:=by kernel_rfl
theorem zK6:zX Tryd.prog 3=true:=by kernel_rfl
theorem zvl:isIface Tryd.prog 3=false:=by kernel_rfl
theorem zK7:zj Tryd.prog 3=some ([i64 0]):=by kernel_rfl
theorem zK8:zk Tryd.prog 3=true:=by kernel_rfl
theorem cells4:Tryd.prog.cellsOf 4=1:=by kernel_rfl
theorem info4:(Tryd.prog.info? 4).isSome=true:=by kernel_rfl
theorem bytes4:Tryd.prog.bytesOf 4=1:=by kernel_rfl
theorem zPh:zg Tryd.prog 4=false:=by kernel_rfl
theorem zBP:isBool Tryd.prog 4=true:=by kernel_rfl
theorem zvm:isIface Tryd.prog 4=false:=by kernel_rfl
theorem zK9:zj Tryd.prog 4=some ([bo false]):=by kernel_rfl
theorem zLa:zk Tryd.prog 4=true:=by kernel_rfl
theorem cells5:Tryd.prog.cellsOf 5=1:=by kernel_rfl
theorem info5:(Tryd.prog.info? 5).isSome=true:=by kernel_rfl
theorem bytes5:Tryd.prog.bytesOf 5=1:=by kernel_rfl
theorem zJP:zg Tryd.prog 5=false:=by kernel_rfl
theorem zLb:zX Tryd.prog 5=true:=by kernel_rfl
theorem zvn:isIface Tryd.prog 5=false:=by kernel_rfl
theorem zLc:zj Tryd.prog 5=some ([b8 0#8]):=by kernel_rfl
theorem zLd:zk Tryd.prog 5=true:=by kernel_rfl
theorem zLe:Tryd.prog.cellsOf 6=1:=by kernel_rfl
theorem zPi:(Tryd.prog.info? 6).isSome=true:=by kernel_rfl
theorem zLf:Tryd.prog.bytesOf 6=1:=by kernel_rfl
theorem zPj:zg Tryd.prog 6=false:=by kernel_rfl
theorem zLg:zX Tryd.prog 6=true:=by kernel_rfl
theorem zvo:isIface Tryd.prog 6=false:=by kernel_rfl
theorem zLh:zj Tryd.prog 6=some ([b8 0#8]):=by kernel_rfl
theorem zLi:zk Tryd.prog 6=true:=by kernel_rfl
theorem zLj:Tryd.prog.cellsOf 7=4:=by kernel_rfl
theorem zPk:(Tryd.prog.info? 7).isSome=true:=by kernel_rfl
theorem zLk:Tryd.prog.bytesOf 7=24:=by kernel_rfl
theorem zPl:zg Tryd.prog 7=true:=by kernel_rfl
theorem zvp:isIface Tryd.prog 7=false:=by kernel_rfl
theorem zvq:zj Tryd.prog 7=some ([i64 0,i64 0,bo false,b8 0#8]):=by kernel_rfl
theorem zLl:zk Tryd.prog 7=true:=by kernel_rfl
theorem zLm : ∀ parts,zW Tryd.prog 7 parts=(yc (fun i=>[some (0,1),some (1,1),some (2,1),some (3,1)][i]?.join) ([.p (i64 0),.p (i64 0),.p (bo false),.p (b8 0#8)]) parts).map zI:=fun _=>zq (by kernel_rfl) zvq
theorem zLn:Tryd.prog.cellsOf 8=4:=by kernel_rfl
theorem zPm:(Tryd.prog.info? 8).isSome=true:=by kernel_rfl
theorem zLo:Tryd.prog.bytesOf 8=24:=by kernel_rfl
theorem zPn:zg Tryd.prog 8=true:=by kernel_rfl
theorem isIface8:isIface Tryd.prog 8=false:=by kernel_rfl
theorem zvr:zj Tryd.prog 8=some ([i64 0,i64 0,bo false,b8 0#8]):=by kernel_rfl
theorem zLp:zk Tryd.prog 8=true:=by kernel_rfl
theorem zLq : ∀ parts,zW Tryd.prog 8 parts=(yc (fun i=>[some (0,1),some (1,1),some (2,1),some (3,1)][i]?.join) ([.p (i64 0),.p (i64 0),.p (bo false),.p (b8 0#8)]) parts).map zI:=fun _=>zq (by kernel_rfl) zvr
theorem cells9:Tryd.prog.cellsOf 9=1:=by kernel_rfl
theorem info9:(Tryd.prog.info? 9).isSome=true:=by kernel_rfl
theorem bytes9:Tryd.prog.bytesOf 9=16:=by kernel_rfl
theorem zPo:zg Tryd.prog 9=false:=by kernel_rfl
theorem zvs:isIface Tryd.prog 9=false:=by kernel_rfl
theorem zLr:zj Tryd.prog 9=some ([str ByteArray.empty]):=by kernel_rfl
theorem zLs:zk Tryd.prog 9=true:=by kernel_rfl
theorem zBQ:Tryd.prog.cellsOf 10=1:=by kernel_rfl
theorem zLt:(Tryd.prog.info? 10).isSome=true:=by kernel_rfl
theorem zBR:Tryd.prog.bytesOf 10=16:=by kernel_rfl
theorem zLu:zg Tryd.prog 10=false:=by kernel_rfl
theorem zr9:isIface Tryd.prog 10=false:=by kernel_rfl
theorem zBS:zj Tryd.prog 10=some ([str ByteArray.empty]):=by kernel_rfl
theorem zBT:zk Tryd.prog 10=true:=by kernel_rfl
theorem zBU:Tryd.prog.cellsOf 11=1:=by kernel_rfl
theorem zLv:(Tryd.prog.info? 11).isSome=true:=by kernel_rfl
theorem zBV:Tryd.prog.bytesOf 11=16:=by kernel_rfl
theorem zLw:zg Tryd.prog 11=false:=by kernel_rfl
theorem zsa:isIface Tryd.prog 11=false:=by kernel_rfl
theorem zBW:zj Tryd.prog 11=some ([str ByteArray.empty]):=by kernel_rfl
theorem zBX:zk Tryd.prog 11=true:=by kernel_rfl
theorem zBY:Tryd.prog.cellsOf 12=1:=by kernel_rfl
theorem zLx:(Tryd.prog.info? 12).isSome=true:=by kernel_rfl
theorem zBZ:Tryd.prog.bytesOf 12=8:=by kernel_rfl
theorem zLy:zg Tryd.prog 12=false:=by kernel_rfl
theorem zB0:zX Tryd.prog 12=true:=by kernel_rfl
theorem zsb:isIface Tryd.prog 12=false:=by kernel_rfl
theorem zB1:zj Tryd.prog 12=some ([zx 0#64]):=by kernel_rfl
theorem zB2:zk Tryd.prog 12=true:=by kernel_rfl
theorem zB3:Tryd.prog.cellsOf 13=2:=by kernel_rfl
theorem zLz:(Tryd.prog.info? 13).isSome=true:=by kernel_rfl
theorem zB4:Tryd.prog.bytesOf 13=24:=by kernel_rfl
theorem zLA:zg Tryd.prog 13=true:=by kernel_rfl
theorem zsc:isIface Tryd.prog 13=false:=by kernel_rfl
theorem zpS:zj Tryd.prog 13=some ([str ByteArray.empty,zx 0#64]):=by kernel_rfl
theorem zB5:zk Tryd.prog 13=true:=by kernel_rfl
theorem zB6 : ∀ parts,zW Tryd.prog 13 parts=(yc (fun i=>[some (0,1),some (1,1)][i]?.join) ([.p (str ByteArray.empty),.p (zx 0#64)]) parts).map zI:=fun _=>zq (by kernel_rfl) zpS
theorem zB7:Tryd.prog.cellsOf 14=2:=by kernel_rfl
theorem zLB:(Tryd.prog.info? 14).isSome=true:=by kernel_rfl
theorem zB8:Tryd.prog.bytesOf 14=24:=by kernel_rfl
theorem zLC:zg Tryd.prog 14=true:=by kernel_rfl
theorem zsd:isIface Tryd.prog 14=false:=by kernel_rfl
theorem zpT:zj Tryd.prog 14=some ([str ByteArray.empty,zx 0#64]):=by kernel_rfl
theorem zB9:zk Tryd.prog 14=true:=by kernel_rfl
theorem zCa : ∀ parts,zW Tryd.prog 14 parts=(yc (fun i=>[some (0,1),some (1,1)][i]?.join) ([.p (str ByteArray.empty),.p (zx 0#64)]) parts).map zI:=fun _=>zq (by kernel_rfl) zpT
theorem zCb:Tryd.prog.cellsOf 15=1:=by kernel_rfl
theorem zLD:(Tryd.prog.info? 15).isSome=true:=by kernel_rfl
theorem zCc:Tryd.prog.bytesOf 15=8:=by kernel_rfl
theorem zLE:zg Tryd.prog 15=false:=by kernel_rfl
theorem zse:isIface Tryd.prog 15=false:=by kernel_rfl
theorem zCd:zj Tryd.prog 15=some ([.s (.pointer none)]):=by kernel_rfl
theorem zCe:zk Tryd.prog 15=true:=by kernel_rfl
theorem zCf:Tryd.prog.cellsOf 16=1:=by kernel_rfl
theorem zLF:(Tryd.prog.info? 16).isSome=true:=by kernel_rfl
theorem zCg:Tryd.prog.bytesOf 16=8:=by kernel_rfl
theorem zLG:zg Tryd.prog 16=false:=by kernel_rfl
theorem zsf:isIface Tryd.prog 16=false:=by kernel_rfl
theorem zCh:zj Tryd.prog 16=some ([.s (.pointer none)]):=by kernel_rfl
theorem zCi:zk Tryd.prog 16=true:=by kernel_rfl
theorem zCj:Tryd.prog.cellsOf 17=1:=by kernel_rfl
theorem zLH:(Tryd.prog.info? 17).isSome=true:=by kernel_rfl
theorem zCk:Tryd.prog.bytesOf 17=8:=by kernel_rfl
theorem zLI:zg Tryd.prog 17=false:=by kernel_rfl
theorem zsg:isIface Tryd.prog 17=false:=by kernel_rfl
theorem zCl:zj Tryd.prog 17=some ([.s (.pointer none)]):=by kernel_rfl
theorem zCm:zk Tryd.prog 17=true:=by kernel_rfl
theorem zCn:Tryd.prog.cellsOf 18=1:=by kernel_rfl
theorem zLJ:(Tryd.prog.info? 18).isSome=true:=by kernel_rfl
theorem zCo:Tryd.prog.bytesOf 18=8:=by kernel_rfl
theorem zLK:zg Tryd.prog 18=true:=by kernel_rfl
theorem zsh:isIface Tryd.prog 18=false:=by kernel_rfl
theorem zpU:zj Tryd.prog 18=some ([.s (.pointer none)]):=by kernel_rfl
theorem zCp:zk Tryd.prog 18=true:=by kernel_rfl
theorem zCq : ∀ parts,zW Tryd.prog 18 parts=(yc (fun i=>[some (0,1)][i]?.join) ([.p (.s (.pointer none))]) parts).map zI:=fun _=>zq (by kernel_rfl) zpU
theorem zCr:Tryd.prog.cellsOf 19=1:=by kernel_rfl
theorem zLL:(Tryd.prog.info? 19).isSome=true:=by kernel_rfl
theorem zCs:Tryd.prog.bytesOf 19=8:=by kernel_rfl
theorem zLM:zg Tryd.prog 19=true:=by kernel_rfl
theorem zsi:isIface Tryd.prog 19=false:=by kernel_rfl
theorem zpV:zj Tryd.prog 19=some ([.s (.pointer none)]):=by kernel_rfl
theorem zCt:zk Tryd.prog 19=true:=by kernel_rfl
theorem zCu : ∀ parts,zW Tryd.prog 19 parts=(yc (fun i=>[some (0,1)][i]?.join) ([.p (.s (.pointer none))]) parts).map zI:=fun _=>zq (by kernel_rfl) zpV
theorem cells20:Tryd.prog.cellsOf 20=1:=by kernel_rfl
theorem zLN:(Tryd.prog.info? 20).isSome=true:=by kernel_rfl
theorem zCv:Tryd.prog.bytesOf 20=16:=by kernel_rfl
theorem zLO:zg Tryd.prog 20=false:=by kernel_rfl
theorem zsj:isIface Tryd.prog 20=true:=by kernel_rfl
theorem zCw:zj Tryd.prog 20=some ([.s .nilIface]):=by kernel_rfl
theorem zCx:zk Tryd.prog 20=true:=by kernel_rfl
theorem cells21:Tryd.prog.cellsOf 21=1:=by kernel_rfl
theorem info21:(Tryd.prog.info? 21).isSome=true:=by kernel_rfl
theorem bytes21:Tryd.prog.bytesOf 21=4:=by kernel_rfl
theorem zLP:zg Tryd.prog 21=false:=by kernel_rfl
theorem zCy:zX Tryd.prog 21=true:=by kernel_rfl
theorem zsk:isIface Tryd.prog 21=false:=by kernel_rfl
theorem zCz:zj Tryd.prog 21=some ([.s (.int .i32 0)]):=by kernel_rfl
theorem zCA:zk Tryd.prog 21=true:=by kernel_rfl
theorem cells22:Tryd.prog.cellsOf 22=32:=by kernel_rfl
theorem info22:(Tryd.prog.info? 22).isSome=true:=by kernel_rfl
theorem zCB:Tryd.prog.bytesOf 22=32:=by kernel_rfl
theorem zLQ:zg Tryd.prog 22=true:=by kernel_rfl
theorem zCC:zcv Tryd.prog 22 .u8 32=true:=by kernel_rfl
theorem zsl:isIface Tryd.prog 22=false:=by kernel_rfl
theorem zpW:zj Tryd.prog 22=some (List.replicate 32 (b8 0#8)):=by kernel_rfl
theorem zCD:zk Tryd.prog 22=true:=by kernel_rfl
theorem zCE : ∀ parts,zW Tryd.prog 22 parts=(yc (fun i=>some (i*1,1)) ((List.replicate 32 (b8 0#8)).map .p) parts).map zI:=fun _=>zaX (by kernel_rfl) zpW
theorem cells23:Tryd.prog.cellsOf 23=32:=by kernel_rfl
theorem info23:(Tryd.prog.info? 23).isSome=true:=by kernel_rfl
theorem bytes23:Tryd.prog.bytesOf 23=32:=by kernel_rfl
theorem zLR:zg Tryd.prog 23=true:=by kernel_rfl
theorem zCF:zcv Tryd.prog 23 .u8 32=true:=by kernel_rfl
theorem zsm:isIface Tryd.prog 23=false:=by kernel_rfl
theorem zpX:zj Tryd.prog 23=some (List.replicate 32 (b8 0#8)):=by kernel_rfl
theorem zCG:zk Tryd.prog 23=true:=by kernel_rfl
theorem zCH : ∀ parts,zW Tryd.prog 23 parts=(yc (fun i=>some (i*1,1)) ((List.replicate 32 (b8 0#8)).map .p) parts).map zI:=fun _=>zaX (by kernel_rfl) zpX
theorem cells24:Tryd.prog.cellsOf 24=1:=by kernel_rfl
theorem info24:(Tryd.prog.info? 24).isSome=true:=by kernel_rfl
theorem zCI:Tryd.prog.bytesOf 24=24:=by kernel_rfl
theorem zLS:zg Tryd.prog 24=false:=by kernel_rfl
theorem zsn:isIface Tryd.prog 24=false:=by kernel_rfl
theorem zCJ:zj Tryd.prog 24=some ([.sl true 1 []]):=by kernel_rfl
theorem zCK:zk Tryd.prog 24=true:=by kernel_rfl
theorem cells25:Tryd.prog.cellsOf 25=1:=by kernel_rfl
theorem info25:(Tryd.prog.info? 25).isSome=true:=by kernel_rfl
theorem bytes25:Tryd.prog.bytesOf 25=24:=by kernel_rfl
theorem zLT:zg Tryd.prog 25=false:=by kernel_rfl
theorem zso:isIface Tryd.prog 25=false:=by kernel_rfl
theorem zCL:zj Tryd.prog 25=some ([.sl true 2 []]):=by kernel_rfl
theorem zCM:zk Tryd.prog 25=true:=by kernel_rfl
theorem cells26:Tryd.prog.cellsOf 26=38:=by kernel_rfl
theorem info26:(Tryd.prog.info? 26).isSome=true:=by kernel_rfl
theorem bytes26:Tryd.prog.bytesOf 26=120:=by kernel_rfl
theorem zLU:zg Tryd.prog 26=true:=by kernel_rfl
theorem zsp:isIface Tryd.prog 26=false:=by kernel_rfl
theorem zpY:zj Tryd.prog 26=some (([i64 0,i64 0,i64 0,str ByteArray.empty]:List PV)++List.replicate 32 (b8 0#8)++([.sl true 1 [],.sl true 2 []]:List PV)):=by kernel_rfl
theorem zCN:zk Tryd.prog 26=true:=by kernel_rfl
theorem zCO : ∀ parts,zW Tryd.prog 26 parts=(yc (fun i=>[some (0,1),some (1,1),some (2,1),some (3,1),some (4,32),some (36,1),some (37,1)][i]?.join) ((([i64 0,i64 0,i64 0,str ByteArray.empty]:List PV)++List.replicate 32 (b8 0#8)++([.sl true 1 [],.sl true 2 []]:List PV)).map .p) parts).map zI:=fun _=>zq (by kernel_rfl) zpY
theorem cells27:Tryd.prog.cellsOf 27=38:=by kernel_rfl
theorem zLV:(Tryd.prog.info? 27).isSome=true:=by kernel_rfl
theorem bytes27:Tryd.prog.bytesOf 27=120:=by kernel_rfl
theorem zvt:zg Tryd.prog 27=true:=by kernel_rfl
theorem zsq:isIface Tryd.prog 27=false:=by kernel_rfl
theorem zpZ:zj Tryd.prog 27=some (([i64 0,i64 0,i64 0,str ByteArray.empty]:List PV)++List.replicate 32 (b8 0#8)++([.sl true 1 [],.sl true 2 []]:List PV)):=by kernel_rfl
theorem zCP:zk Tryd.prog 27=true:=by kernel_rfl
theorem zCQ : ∀ parts,zW Tryd.prog 27 parts=(yc (fun i=>[some (0,1),some (1,1),some (2,1),some (3,1),some (4,32),some (36,1),some (37,1)][i]?.join) ((([i64 0,i64 0,i64 0,str ByteArray.empty]:List PV)++List.replicate 32 (b8 0#8)++([.sl true 1 [],.sl true 2 []]:List PV)).map .p) parts).map zI:=fun _=>zq (by kernel_rfl) zpZ
theorem cells28:Tryd.prog.cellsOf 28=1:=by kernel_rfl
theorem zLW:(Tryd.prog.info? 28).isSome=true:=by kernel_rfl
theorem bytes28:Tryd.prog.bytesOf 28=24:=by kernel_rfl
theorem zvu:zg Tryd.prog 28=false:=by kernel_rfl
theorem zsr:zb9 Tryd.prog 28=true:=by kernel_rfl
theorem zss:isIface Tryd.prog 28=false:=by kernel_rfl
theorem zCR:zj Tryd.prog 28=some ([.sl true 1 []]):=by kernel_rfl
theorem zCS:zk Tryd.prog 28=true:=by kernel_rfl
theorem cells29:Tryd.prog.cellsOf 29=1:=by kernel_rfl
theorem zLX:(Tryd.prog.info? 29).isSome=true:=by kernel_rfl
theorem zCT:Tryd.prog.bytesOf 29=8:=by kernel_rfl
theorem zLY:zg Tryd.prog 29=false:=by kernel_rfl
theorem zst:isIface Tryd.prog 29=false:=by kernel_rfl
theorem zCU:zj Tryd.prog 29=some ([.s .nilFunc]):=by kernel_rfl
theorem zCV:zk Tryd.prog 29=true:=by kernel_rfl
theorem cells30:Tryd.prog.cellsOf 30=1:=by kernel_rfl
theorem info30:(Tryd.prog.info? 30).isSome=true:=by kernel_rfl
theorem bytes30:Tryd.prog.bytesOf 30=8:=by kernel_rfl
theorem zLZ:zg Tryd.prog 30=false:=by kernel_rfl
theorem zsu:isIface Tryd.prog 30=false:=by kernel_rfl
theorem zCW:zj Tryd.prog 30=some ([.s .nilFunc]):=by kernel_rfl
theorem zCX:zk Tryd.prog 30=true:=by kernel_rfl
theorem cells31:Tryd.prog.cellsOf 31=1:=by kernel_rfl
theorem info31:(Tryd.prog.info? 31).isSome=true:=by kernel_rfl
theorem zCY:Tryd.prog.bytesOf 31=8:=by kernel_rfl
theorem zL0:zg Tryd.prog 31=false:=by kernel_rfl
theorem zCZ:zX Tryd.prog 31=true:=by kernel_rfl
theorem zsv:isIface Tryd.prog 31=false:=by kernel_rfl
theorem zC0:zj Tryd.prog 31=some ([i64 0]):=by kernel_rfl
theorem zC1:zk Tryd.prog 31=true:=by kernel_rfl
theorem cells33:Tryd.prog.cellsOf 33=1:=by kernel_rfl
theorem info33:(Tryd.prog.info? 33).isSome=true:=by kernel_rfl
theorem zC2:Tryd.prog.bytesOf 33=8:=by kernel_rfl
theorem zL1:zg Tryd.prog 33=false:=by kernel_rfl
theorem zsw:isIface Tryd.prog 33=false:=by kernel_rfl
theorem zC3:zj Tryd.prog 33=some ([.s .nilFunc]):=by kernel_rfl
theorem zC4:zk Tryd.prog 33=true:=by kernel_rfl
theorem cells34:Tryd.prog.cellsOf 34=1:=by kernel_rfl
theorem zL2:(Tryd.prog.info? 34).isSome=true:=by kernel_rfl
theorem zC5:Tryd.prog.bytesOf 34=8:=by kernel_rfl
theorem zL3:zg Tryd.prog 34=false:=by kernel_rfl
theorem zsx:isIface Tryd.prog 34=false:=by kernel_rfl
theorem zC6:zj Tryd.prog 34=some ([.s .nilFunc]):=by kernel_rfl
theorem zC7:zk Tryd.prog 34=true:=by kernel_rfl
theorem cells35:Tryd.prog.cellsOf 35=1:=by kernel_rfl
theorem zL4:(Tryd.prog.info? 35).isSome=true:=by kernel_rfl
theorem zC8:Tryd.prog.bytesOf 35=8:=by kernel_rfl
theorem zL5:zg Tryd.prog 35=false:=by kernel_rfl
theorem zsy:isIface Tryd.prog 35=false:=by kernel_rfl
theorem zC9:zj Tryd.prog 35=some ([.s .nilFunc]):=by kernel_rfl
theorem zDa:zk Tryd.prog 35=true:=by kernel_rfl
theorem cells36:Tryd.prog.cellsOf 36=1:=by kernel_rfl
theorem zL6:(Tryd.prog.info? 36).isSome=true:=by kernel_rfl
theorem zDb:Tryd.prog.bytesOf 36=8:=by kernel_rfl
theorem zL7:zg Tryd.prog 36=false:=by kernel_rfl
theorem zsz:isIface Tryd.prog 36=false:=by kernel_rfl
theorem zDc:zj Tryd.prog 36=some ([.s .nilFunc]):=by kernel_rfl
theorem zDd:zk Tryd.prog 36=true:=by kernel_rfl
theorem cells37:Tryd.prog.cellsOf 37=1:=by kernel_rfl
theorem zL8:(Tryd.prog.info? 37).isSome=true:=by kernel_rfl
theorem zDe:Tryd.prog.bytesOf 37=8:=by kernel_rfl
theorem zL9:zg Tryd.prog 37=false:=by kernel_rfl
theorem zsA:isIface Tryd.prog 37=false:=by kernel_rfl
theorem zDf:zj Tryd.prog 37=some ([.s .nilFunc]):=by kernel_rfl
theorem zDg:zk Tryd.prog 37=true:=by kernel_rfl
theorem cells38:Tryd.prog.cellsOf 38=1:=by kernel_rfl
theorem zMa:(Tryd.prog.info? 38).isSome=true:=by kernel_rfl
theorem zDh:Tryd.prog.bytesOf 38=24:=by kernel_rfl
theorem zvv:zg Tryd.prog 38=false:=by kernel_rfl
theorem zsB:isIface Tryd.prog 38=false:=by kernel_rfl
theorem zDi:zj Tryd.prog 38=some ([.sl true 42 []]):=by kernel_rfl
theorem zDj:zk Tryd.prog 38=true:=by kernel_rfl
theorem cells39:Tryd.prog.cellsOf 39=3:=by kernel_rfl
theorem zMb:(Tryd.prog.info? 39).isSome=true:=by kernel_rfl
theorem zDk:Tryd.prog.bytesOf 39=24:=by kernel_rfl
theorem zMc:zg Tryd.prog 39=true:=by kernel_rfl
theorem zsC:isIface Tryd.prog 39=false:=by kernel_rfl
theorem zp0:zj Tryd.prog 39=some ([i64 0,i64 0,i64 0]):=by kernel_rfl
theorem zDl:zk Tryd.prog 39=true:=by kernel_rfl
theorem zDm : ∀ parts,zW Tryd.prog 39 parts=(yc (fun i=>[some (0,1),some (1,1),some (2,1)][i]?.join) ([.p (i64 0),.p (i64 0),.p (i64 0)]) parts).map zI:=fun _=>zq (by kernel_rfl) zp0
theorem cells40:Tryd.prog.cellsOf 40=3:=by kernel_rfl
theorem zMd:(Tryd.prog.info? 40).isSome=true:=by kernel_rfl
theorem zDn:Tryd.prog.bytesOf 40=24:=by kernel_rfl
theorem zMe:zg Tryd.prog 40=true:=by kernel_rfl
theorem zsD:isIface Tryd.prog 40=false:=by kernel_rfl
theorem zp1:zj Tryd.prog 40=some ([i64 0,i64 0,i64 0]):=by kernel_rfl
theorem zDo:zk Tryd.prog 40=true:=by kernel_rfl
theorem zDp : ∀ parts,zW Tryd.prog 40 parts=(yc (fun i=>[some (0,1),some (1,1),some (2,1)][i]?.join) ([.p (i64 0),.p (i64 0),.p (i64 0)]) parts).map zI:=fun _=>zq (by kernel_rfl) zp1
theorem cells41:Tryd.prog.cellsOf 41=78:=by kernel_rfl
theorem zMf:(Tryd.prog.info? 41).isSome=true:=by kernel_rfl
theorem zDq:Tryd.prog.bytesOf 41=224:=by kernel_rfl
theorem zMg:zg Tryd.prog 41=true:=by kernel_rfl
theorem zsE:isIface Tryd.prog 41=false:=by kernel_rfl
theorem zp2:zj Tryd.prog 41=some (([i64 0,i64 0,i64 0,str ByteArray.empty]:List PV)++List.replicate 32 (b8 0#8)++([i64 0,i64 0,i64 0,str ByteArray.empty]:List PV)++List.replicate 32 (b8 0#8)++([.sl true 1 [],.sl true 2 [],i64 0,i64 0,i64 0,i64 0]:List PV)):=by kernel_rfl
theorem zDr:zk Tryd.prog 41=true:=by kernel_rfl
theorem zDs : ∀ parts,zW Tryd.prog 41 parts=(yc (fun i=>[some (0,1),some (1,1),some (2,1),some (3,1),some (4,32),some (36,38),some (74,1),some (75,3)][i]?.join) ((([i64 0,i64 0,i64 0,str ByteArray.empty]:List PV)++List.replicate 32 (b8 0#8)++([i64 0,i64 0,i64 0,str ByteArray.empty]:List PV)++List.replicate 32 (b8 0#8)++([.sl true 1 [],.sl true 2 [],i64 0,i64 0,i64 0,i64 0]:List PV)).map .p) parts).map zI:=fun _=>zq (by kernel_rfl) zp2
theorem cells42:Tryd.prog.cellsOf 42=78:=by kernel_rfl
theorem zMh:(Tryd.prog.info? 42).isSome=true:=by kernel_rfl
theorem zDt:Tryd.prog.bytesOf 42=224:=by kernel_rfl
theorem zMi:zg Tryd.prog 42=true:=by kernel_rfl
theorem zsF:isIface Tryd.prog 42=false:=by kernel_rfl
theorem zp3:zj Tryd.prog 42=some (([i64 0,i64 0,i64 0,str ByteArray.empty]:List PV)++List.replicate 32 (b8 0#8)++([i64 0,i64 0,i64 0,str ByteArray.empty]:List PV)++List.replicate 32 (b8 0#8)++([.sl true 1 [],.sl true 2 [],i64 0,i64 0,i64 0,i64 0]:List PV)):=by kernel_rfl
theorem zDu:zk Tryd.prog 42=true:=by kernel_rfl
theorem zDv : ∀ parts,zW Tryd.prog 42 parts=(yc (fun i=>[some (0,1),some (1,1),some (2,1),some (3,1),some (4,32),some (36,38),some (74,1),some (75,3)][i]?.join) ((([i64 0,i64 0,i64 0,str ByteArray.empty]:List PV)++List.replicate 32 (b8 0#8)++([i64 0,i64 0,i64 0,str ByteArray.empty]:List PV)++List.replicate 32 (b8 0#8)++([.sl true 1 [],.sl true 2 [],i64 0,i64 0,i64 0,i64 0]:List PV)).map .p) parts).map zI:=fun _=>zq (by kernel_rfl) zp3
theorem cells43:Tryd.prog.cellsOf 43=1:=by kernel_rfl
theorem zMj:(Tryd.prog.info? 43).isSome=true:=by kernel_rfl
theorem zDw:Tryd.prog.bytesOf 43=8:=by kernel_rfl
theorem zMk:zg Tryd.prog 43=false:=by kernel_rfl
theorem zsG:isIface Tryd.prog 43=false:=by kernel_rfl
theorem zDx:zj Tryd.prog 43=some ([.s .nilFunc]):=by kernel_rfl
theorem zDy:zk Tryd.prog 43=true:=by kernel_rfl
theorem cells44:Tryd.prog.cellsOf 44=1:=by kernel_rfl
theorem zMl:(Tryd.prog.info? 44).isSome=true:=by kernel_rfl
theorem zDz:Tryd.prog.bytesOf 44=24:=by kernel_rfl
theorem zMm:zg Tryd.prog 44=false:=by kernel_rfl
theorem zsH:isIface Tryd.prog 44=false:=by kernel_rfl
theorem zDA:zj Tryd.prog 44=some ([.sl true 78 []]):=by kernel_rfl
theorem zDB:zk Tryd.prog 44=true:=by kernel_rfl
theorem zDC:Tryd.prog.cellsOf 45=1:=by kernel_rfl
theorem zMn:(Tryd.prog.info? 45).isSome=true:=by kernel_rfl
theorem zDD:Tryd.prog.bytesOf 45=24:=by kernel_rfl
theorem zMo:zg Tryd.prog 45=false:=by kernel_rfl
theorem zsI:isIface Tryd.prog 45=false:=by kernel_rfl
theorem zDE:zj Tryd.prog 45=some ([.sl true 1 []]):=by kernel_rfl
theorem zDF:zk Tryd.prog 45=true:=by kernel_rfl
theorem cells46:Tryd.prog.cellsOf 46=42:=by kernel_rfl
theorem zMp:(Tryd.prog.info? 46).isSome=true:=by kernel_rfl
theorem zDG:Tryd.prog.bytesOf 46=136:=by kernel_rfl
theorem zMq:zg Tryd.prog 46=true:=by kernel_rfl
theorem zsJ:isIface Tryd.prog 46=false:=by kernel_rfl
theorem zp4:zj Tryd.prog 46=some (([b8 0#8,b8 0#8,i64 0,i64 0,i64 0,str ByteArray.empty]:List PV)++List.replicate 32 (b8 0#8)++([.sl true 1 [],.sl true 2 [],b8 0#8,b8 0#8]:List PV)):=by kernel_rfl
theorem zDH:zk Tryd.prog 46=true:=by kernel_rfl
theorem zDI : ∀ parts,zW Tryd.prog 46 parts=(yc (fun i=>[some (0,1),some (1,1),some (2,38),some (40,1),some (41,1)][i]?.join) ((([b8 0#8,b8 0#8,i64 0,i64 0,i64 0,str ByteArray.empty]:List PV)++List.replicate 32 (b8 0#8)++([.sl true 1 [],.sl true 2 [],b8 0#8,b8 0#8]:List PV)).map .p) parts).map zI:=fun _=>zq (by kernel_rfl) zp4
theorem cells47:Tryd.prog.cellsOf 47=42:=by kernel_rfl
theorem zMr:(Tryd.prog.info? 47).isSome=true:=by kernel_rfl
theorem zDJ:Tryd.prog.bytesOf 47=136:=by kernel_rfl
theorem zvw:zg Tryd.prog 47=true:=by kernel_rfl
theorem zsK:isIface Tryd.prog 47=false:=by kernel_rfl
theorem zp5:zj Tryd.prog 47=some (([b8 0#8,b8 0#8,i64 0,i64 0,i64 0,str ByteArray.empty]:List PV)++List.replicate 32 (b8 0#8)++([.sl true 1 [],.sl true 2 [],b8 0#8,b8 0#8]:List PV)):=by kernel_rfl
theorem zDK:zk Tryd.prog 47=true:=by kernel_rfl
theorem zDL : ∀ parts,zW Tryd.prog 47 parts=(yc (fun i=>[some (0,1),some (1,1),some (2,38),some (40,1),some (41,1)][i]?.join) ((([b8 0#8,b8 0#8,i64 0,i64 0,i64 0,str ByteArray.empty]:List PV)++List.replicate 32 (b8 0#8)++([.sl true 1 [],.sl true 2 [],b8 0#8,b8 0#8]:List PV)).map .p) parts).map zI:=fun _=>zq (by kernel_rfl) zp5
theorem cells48:Tryd.prog.cellsOf 48=1:=by kernel_rfl
theorem zMs:(Tryd.prog.info? 48).isSome=true:=by kernel_rfl
theorem zDM:Tryd.prog.bytesOf 48=8:=by kernel_rfl
theorem zMt:zg Tryd.prog 48=false:=by kernel_rfl
theorem zsL:isIface Tryd.prog 48=false:=by kernel_rfl
theorem zDN:zj Tryd.prog 48=some ([.s .nilFunc]):=by kernel_rfl
theorem zDO:zk Tryd.prog 48=true:=by kernel_rfl
theorem cells50:Tryd.prog.cellsOf 50=1:=by kernel_rfl
theorem zMu:(Tryd.prog.info? 50).isSome=true:=by kernel_rfl
theorem zDP:Tryd.prog.bytesOf 50=8:=by kernel_rfl
theorem zMv:zg Tryd.prog 50=false:=by kernel_rfl
theorem zsM:isIface Tryd.prog 50=false:=by kernel_rfl
theorem zDQ:zj Tryd.prog 50=some ([.s .nilFunc]):=by kernel_rfl
theorem zDR:zk Tryd.prog 50=true:=by kernel_rfl
theorem cells51:Tryd.prog.cellsOf 51=1:=by kernel_rfl
theorem zMw:(Tryd.prog.info? 51).isSome=true:=by kernel_rfl
theorem zDS:Tryd.prog.bytesOf 51=8:=by kernel_rfl
theorem zMx:zg Tryd.prog 51=false:=by kernel_rfl
theorem zsN:isIface Tryd.prog 51=false:=by kernel_rfl
theorem zDT:zj Tryd.prog 51=some ([.s .nilFunc]):=by kernel_rfl
theorem zDU:zk Tryd.prog 51=true:=by kernel_rfl
theorem zDV:Tryd.prog.cellsOf 52=1:=by kernel_rfl
theorem zMy:(Tryd.prog.info? 52).isSome=true:=by kernel_rfl
theorem zDW:Tryd.prog.bytesOf 52=8:=by kernel_rfl
theorem zMz:zg Tryd.prog 52=false:=by kernel_rfl
theorem zsO:isIface Tryd.prog 52=false:=by kernel_rfl
theorem zDX:zj Tryd.prog 52=some ([.s .nilFunc]):=by kernel_rfl
theorem zDY:zk Tryd.prog 52=true:=by kernel_rfl
theorem zDZ:Tryd.prog.cellsOf 54=1:=by kernel_rfl
theorem zMA:(Tryd.prog.info? 54).isSome=true:=by kernel_rfl
theorem zD0:Tryd.prog.bytesOf 54=8:=by kernel_rfl
theorem zMB:zg Tryd.prog 54=false:=by kernel_rfl
theorem zsP:isIface Tryd.prog 54=false:=by kernel_rfl
theorem zD1:zj Tryd.prog 54=some ([.s .nilFunc]):=by kernel_rfl
theorem zD2:zk Tryd.prog 54=true:=by kernel_rfl
theorem cells55:Tryd.prog.cellsOf 55=1:=by kernel_rfl
theorem zMC:(Tryd.prog.info? 55).isSome=true:=by kernel_rfl
theorem zD3:Tryd.prog.bytesOf 55=8:=by kernel_rfl
theorem zMD:zg Tryd.prog 55=false:=by kernel_rfl
theorem zsQ:isIface Tryd.prog 55=false:=by kernel_rfl
theorem zD4:zj Tryd.prog 55=some ([.s .nilFunc]):=by kernel_rfl
theorem zD5:zk Tryd.prog 55=true:=by kernel_rfl
theorem zD6:Tryd.prog.cellsOf 56=1:=by kernel_rfl
theorem zME:(Tryd.prog.info? 56).isSome=true:=by kernel_rfl
theorem zD7:Tryd.prog.bytesOf 56=8:=by kernel_rfl
theorem zMF:zg Tryd.prog 56=false:=by kernel_rfl
theorem zsR:isIface Tryd.prog 56=false:=by kernel_rfl
theorem zD8:zj Tryd.prog 56=some ([.s .nilFunc]):=by kernel_rfl
theorem zD9:zk Tryd.prog 56=true:=by kernel_rfl
theorem zEa:Tryd.prog.cellsOf 57=1:=by kernel_rfl
theorem zMG:(Tryd.prog.info? 57).isSome=true:=by kernel_rfl
theorem zEb:Tryd.prog.bytesOf 57=8:=by kernel_rfl
theorem zMH:zg Tryd.prog 57=false:=by kernel_rfl
theorem zsS:isIface Tryd.prog 57=false:=by kernel_rfl
theorem zEc:zj Tryd.prog 57=some ([.s .nilFunc]):=by kernel_rfl
theorem zEd:zk Tryd.prog 57=true:=by kernel_rfl
theorem cells59:Tryd.prog.cellsOf 59=1:=by kernel_rfl
theorem zMI:(Tryd.prog.info? 59).isSome=true:=by kernel_rfl
theorem zEe:Tryd.prog.bytesOf 59=8:=by kernel_rfl
theorem zMJ:zg Tryd.prog 59=false:=by kernel_rfl
theorem zsT:isIface Tryd.prog 59=false:=by kernel_rfl
theorem zEf:zj Tryd.prog 59=some ([.s .nilFunc]):=by kernel_rfl
theorem zEg:zk Tryd.prog 59=true:=by kernel_rfl
theorem cells60:Tryd.prog.cellsOf 60=1:=by kernel_rfl
theorem zMK:(Tryd.prog.info? 60).isSome=true:=by kernel_rfl
theorem zEh:Tryd.prog.bytesOf 60=8:=by kernel_rfl
theorem zML:zg Tryd.prog 60=false:=by kernel_rfl
theorem zsU:isIface Tryd.prog 60=false:=by kernel_rfl
theorem zEi:zj Tryd.prog 60=some ([.s .nilFunc]):=by kernel_rfl
theorem zEj:zk Tryd.prog 60=true:=by kernel_rfl
theorem zp6:Tryd.prog.cellsOf 61=1:=by kernel_rfl
theorem zMM:(Tryd.prog.info? 61).isSome=true:=by kernel_rfl
theorem zEk:Tryd.prog.bytesOf 61=8:=by kernel_rfl
theorem zMN:zg Tryd.prog 61=false:=by kernel_rfl
theorem zEl:zX Tryd.prog 61=true:=by kernel_rfl
theorem zsV:isIface Tryd.prog 61=false:=by kernel_rfl
theorem zEm:zj Tryd.prog 61=some ([zx 0#64]):=by kernel_rfl
theorem zEn:zk Tryd.prog 61=true:=by kernel_rfl
theorem cells62:Tryd.prog.cellsOf 62=2:=by kernel_rfl
theorem zMO:(Tryd.prog.info? 62).isSome=true:=by kernel_rfl
theorem zEo:Tryd.prog.bytesOf 62=16:=by kernel_rfl
theorem zMP:zg Tryd.prog 62=true:=by kernel_rfl
theorem zsW:isIface Tryd.prog 62=false:=by kernel_rfl
theorem zp7:zj Tryd.prog 62=some ([zx 0#64,zx 0#64]):=by kernel_rfl
theorem zEp:zk Tryd.prog 62=true:=by kernel_rfl
theorem zEq : ∀ parts,zW Tryd.prog 62 parts=(yc (fun i=>[some (0,1),some (1,1)][i]?.join) ([.p (zx 0#64),.p (zx 0#64)]) parts).map zI:=fun _=>zq (by kernel_rfl) zp7
theorem ziT:Tryd.prog.cellsOf 63=2:=by kernel_rfl
theorem zMQ:(Tryd.prog.info? 63).isSome=true:=by kernel_rfl
theorem zEr:Tryd.prog.bytesOf 63=16:=by kernel_rfl
theorem zvx:zg Tryd.prog 63=true:=by kernel_rfl
theorem zsX:isIface Tryd.prog 63=false:=by kernel_rfl
theorem zp8:zj Tryd.prog 63=some ([zx 0#64,zx 0#64]):=by kernel_rfl
theorem zEs:zk Tryd.prog 63=true:=by kernel_rfl
theorem zEt : ∀ parts,zW Tryd.prog 63 parts=(yc (fun i=>[some (0,1),some (1,1)][i]?.join) ([.p (zx 0#64),.p (zx 0#64)]) parts).map zI:=fun _=>zq (by kernel_rfl) zp8
theorem zEu:Tryd.prog.cellsOf 64=1:=by kernel_rfl
theorem zMR:(Tryd.prog.info? 64).isSome=true:=by kernel_rfl
theorem zEv:Tryd.prog.bytesOf 64=8:=by kernel_rfl
theorem zMS:zg Tryd.prog 64=false:=by kernel_rfl
theorem zsY:isIface Tryd.prog 64=false:=by kernel_rfl
theorem zEw:zj Tryd.prog 64=some ([.s .nilFunc]):=by kernel_rfl
theorem zEx:zk Tryd.prog 64=true:=by kernel_rfl
theorem zEy:Tryd.prog.cellsOf 65=1:=by kernel_rfl
theorem zMT:(Tryd.prog.info? 65).isSome=true:=by kernel_rfl
theorem zEz:Tryd.prog.bytesOf 65=8:=by kernel_rfl
theorem zMU:zg Tryd.prog 65=false:=by kernel_rfl
theorem zsZ:isIface Tryd.prog 65=false:=by kernel_rfl
theorem zEA:zj Tryd.prog 65=some ([.s .nilFunc]):=by kernel_rfl
theorem zEB:zk Tryd.prog 65=true:=by kernel_rfl
theorem zEC:Tryd.prog.cellsOf 66=1:=by kernel_rfl
theorem zMV:(Tryd.prog.info? 66).isSome=true:=by kernel_rfl
theorem zED:Tryd.prog.bytesOf 66=8:=by kernel_rfl
theorem zMW:zg Tryd.prog 66=false:=by kernel_rfl
theorem zs0:isIface Tryd.prog 66=false:=by kernel_rfl
theorem zEE:zj Tryd.prog 66=some ([.s .nilFunc]):=by kernel_rfl
theorem zEF:zk Tryd.prog 66=true:=by kernel_rfl
theorem zEG:Tryd.prog.cellsOf 67=1:=by kernel_rfl
theorem zMX:(Tryd.prog.info? 67).isSome=true:=by kernel_rfl
theorem zEH:Tryd.prog.bytesOf 67=24:=by kernel_rfl
theorem zMY:zg Tryd.prog 67=false:=by kernel_rfl
theorem zs1:isIface Tryd.prog 67=false:=by kernel_rfl
theorem zEI:zj Tryd.prog 67=some ([.sl true 1 []]):=by kernel_rfl
theorem zEJ:zk Tryd.prog 67=true:=by kernel_rfl
theorem cells68:Tryd.prog.cellsOf 68=1:=by kernel_rfl
theorem zMZ:(Tryd.prog.info? 68).isSome=true:=by kernel_rfl
theorem zEK:Tryd.prog.bytesOf 68=8:=by kernel_rfl
theorem zM0:zg Tryd.prog 68=false:=by kernel_rfl
theorem zs2:isIface Tryd.prog 68=false:=by kernel_rfl
theorem zEL:zj Tryd.prog 68=some ([.s .nilFunc]):=by kernel_rfl
theorem zEM:zk Tryd.prog 68=true:=by kernel_rfl
theorem cells69:Tryd.prog.cellsOf 69=1:=by kernel_rfl
theorem zM1:(Tryd.prog.info? 69).isSome=true:=by kernel_rfl
theorem zEN:Tryd.prog.bytesOf 69=8:=by kernel_rfl
theorem zM2:zg Tryd.prog 69=false:=by kernel_rfl
theorem zs3:isIface Tryd.prog 69=false:=by kernel_rfl
theorem zEO:zj Tryd.prog 69=some ([.s .nilFunc]):=by kernel_rfl
theorem zEP:zk Tryd.prog 69=true:=by kernel_rfl
theorem zEQ:Tryd.prog.cellsOf 70=1:=by kernel_rfl
theorem zM3:(Tryd.prog.info? 70).isSome=true:=by kernel_rfl
theorem zER:Tryd.prog.bytesOf 70=8:=by kernel_rfl
theorem zM4:zg Tryd.prog 70=false:=by kernel_rfl
theorem zs4:isIface Tryd.prog 70=false:=by kernel_rfl
theorem zES:zj Tryd.prog 70=some ([.s .nilFunc]):=by kernel_rfl
theorem zET:zk Tryd.prog 70=true:=by kernel_rfl
theorem zEU:Tryd.prog.cellsOf 72=1:=by kernel_rfl
theorem zM5:(Tryd.prog.info? 72).isSome=true:=by kernel_rfl
theorem zEV:Tryd.prog.bytesOf 72=8:=by kernel_rfl
theorem zM6:zg Tryd.prog 72=false:=by kernel_rfl
theorem zs5:isIface Tryd.prog 72=false:=by kernel_rfl
theorem zEW:zj Tryd.prog 72=some ([.s .nilFunc]):=by kernel_rfl
theorem zEX:zk Tryd.prog 72=true:=by kernel_rfl
theorem zEY:Tryd.prog.cellsOf 73=1:=by kernel_rfl
theorem zM7:(Tryd.prog.info? 73).isSome=true:=by kernel_rfl
theorem zEZ:Tryd.prog.bytesOf 73=8:=by kernel_rfl
theorem zM8:zg Tryd.prog 73=false:=by kernel_rfl
theorem zs6:isIface Tryd.prog 73=false:=by kernel_rfl
theorem zE0:zj Tryd.prog 73=some ([.s .nilFunc]):=by kernel_rfl
theorem zE1:zk Tryd.prog 73=true:=by kernel_rfl
theorem zE2:Tryd.prog.cellsOf 74=1:=by kernel_rfl
theorem zM9:(Tryd.prog.info? 74).isSome=true:=by kernel_rfl
theorem zE3:Tryd.prog.bytesOf 74=24:=by kernel_rfl
theorem zNa:zg Tryd.prog 74=false:=by kernel_rfl
theorem zs7:isIface Tryd.prog 74=false:=by kernel_rfl
theorem zE4:zj Tryd.prog 74=some ([.sl true 1 []]):=by kernel_rfl
theorem zE5:zk Tryd.prog 74=true:=by kernel_rfl
theorem zE6:Tryd.prog.cellsOf 75=1:=by kernel_rfl
theorem zNb:(Tryd.prog.info? 75).isSome=true:=by kernel_rfl
theorem zE7:Tryd.prog.bytesOf 75=8:=by kernel_rfl
theorem zNc:zg Tryd.prog 75=false:=by kernel_rfl
theorem zs8:isIface Tryd.prog 75=false:=by kernel_rfl
theorem zE8:zj Tryd.prog 75=some ([.s .nilFunc]):=by kernel_rfl
theorem zE9:zk Tryd.prog 75=true:=by kernel_rfl
theorem zFa:Tryd.prog.cellsOf 76=1:=by kernel_rfl
theorem zNd:(Tryd.prog.info? 76).isSome=true:=by kernel_rfl
theorem zFb:Tryd.prog.bytesOf 76=8:=by kernel_rfl
theorem zNe:zg Tryd.prog 76=false:=by kernel_rfl
theorem zs9:isIface Tryd.prog 76=false:=by kernel_rfl
theorem zFc:zj Tryd.prog 76=some ([.s .nilFunc]):=by kernel_rfl
theorem zFd:zk Tryd.prog 76=true:=by kernel_rfl
theorem zFe:Tryd.prog.cellsOf 77=1:=by kernel_rfl
theorem zNf:(Tryd.prog.info? 77).isSome=true:=by kernel_rfl
theorem zFf:Tryd.prog.bytesOf 77=8:=by kernel_rfl
theorem zNg:zg Tryd.prog 77=false:=by kernel_rfl
theorem zta:isIface Tryd.prog 77=false:=by kernel_rfl
theorem zFg:zj Tryd.prog 77=some ([.s .nilFunc]):=by kernel_rfl
theorem zFh:zk Tryd.prog 77=true:=by kernel_rfl
theorem zFi:Tryd.prog.cellsOf 78=1:=by kernel_rfl
theorem zNh:(Tryd.prog.info? 78).isSome=true:=by kernel_rfl
theorem zFj:Tryd.prog.bytesOf 78=8:=by kernel_rfl
theorem zNi:zg Tryd.prog 78=false:=by kernel_rfl
theorem ztb:isIface Tryd.prog 78=false:=by kernel_rfl
theorem zFk:zj Tryd.prog 78=some ([.s .nilFunc]):=by kernel_rfl
theorem zFl:zk Tryd.prog 78=true:=by kernel_rfl
theorem zFm:Tryd.prog.cellsOf 79=1:=by kernel_rfl
theorem zNj:(Tryd.prog.info? 79).isSome=true:=by kernel_rfl
theorem zFn:Tryd.prog.bytesOf 79=8:=by kernel_rfl
theorem zNk:zg Tryd.prog 79=false:=by kernel_rfl
theorem ztc:isIface Tryd.prog 79=false:=by kernel_rfl
theorem zFo:zj Tryd.prog 79=some ([.s (.pointer none)]):=by kernel_rfl
theorem zFp:zk Tryd.prog 79=true:=by kernel_rfl
theorem zFq:Tryd.prog.cellsOf 80=2:=by kernel_rfl
theorem zNl:(Tryd.prog.info? 80).isSome=true:=by kernel_rfl
theorem zFr:Tryd.prog.bytesOf 80=32:=by kernel_rfl
theorem zNm:zg Tryd.prog 80=true:=by kernel_rfl
theorem ztd:isIface Tryd.prog 80=false:=by kernel_rfl
theorem zp9:zj Tryd.prog 80=some ([.sl true 1 [],bo false]):=by kernel_rfl
theorem zFs:zk Tryd.prog 80=true:=by kernel_rfl
theorem zFt : ∀ parts,zW Tryd.prog 80 parts=(yc (fun i=>[some (0,1),some (1,1)][i]?.join) ([.p (.sl true 1 []),.p (bo false)]) parts).map zI:=fun _=>zq (by kernel_rfl) zp9
theorem zFu:Tryd.prog.cellsOf 81=2:=by kernel_rfl
theorem zNn:(Tryd.prog.info? 81).isSome=true:=by kernel_rfl
theorem zFv:Tryd.prog.bytesOf 81=32:=by kernel_rfl
theorem zNo:zg Tryd.prog 81=true:=by kernel_rfl
theorem zte:isIface Tryd.prog 81=false:=by kernel_rfl
theorem zqa:zj Tryd.prog 81=some ([.sl true 1 [],bo false]):=by kernel_rfl
theorem zFw:zk Tryd.prog 81=true:=by kernel_rfl
theorem zFx : ∀ parts,zW Tryd.prog 81 parts=(yc (fun i=>[some (0,1),some (1,1)][i]?.join) ([.p (.sl true 1 []),.p (bo false)]) parts).map zI:=fun _=>zq (by kernel_rfl) zqa
theorem zFy:Tryd.prog.cellsOf 82=1:=by kernel_rfl
theorem zNp:(Tryd.prog.info? 82).isSome=true:=by kernel_rfl
theorem zFz:Tryd.prog.bytesOf 82=8:=by kernel_rfl
theorem zNq:zg Tryd.prog 82=false:=by kernel_rfl
theorem ztf:isIface Tryd.prog 82=false:=by kernel_rfl
theorem zFA:zj Tryd.prog 82=some ([.s .nilFunc]):=by kernel_rfl
theorem zFB:zk Tryd.prog 82=true:=by kernel_rfl
theorem zFC:Tryd.prog.cellsOf 83=1:=by kernel_rfl
theorem zNr:(Tryd.prog.info? 83).isSome=true:=by kernel_rfl
theorem zFD:Tryd.prog.bytesOf 83=8:=by kernel_rfl
theorem zNs:zg Tryd.prog 83=false:=by kernel_rfl
theorem ztg:isIface Tryd.prog 83=false:=by kernel_rfl
theorem zFE:zj Tryd.prog 83=some ([.s .nilFunc]):=by kernel_rfl
theorem zFF:zk Tryd.prog 83=true:=by kernel_rfl
theorem zFG:Tryd.prog.cellsOf 84=1:=by kernel_rfl
theorem zNt:(Tryd.prog.info? 84).isSome=true:=by kernel_rfl
theorem zFH:Tryd.prog.bytesOf 84=8:=by kernel_rfl
theorem zNu:zg Tryd.prog 84=false:=by kernel_rfl
theorem zth:isIface Tryd.prog 84=false:=by kernel_rfl
theorem zFI:zj Tryd.prog 84=some ([.s .nilFunc]):=by kernel_rfl
theorem zFJ:zk Tryd.prog 84=true:=by kernel_rfl
theorem cells85:Tryd.prog.cellsOf 85=1:=by kernel_rfl
theorem zNv:(Tryd.prog.info? 85).isSome=true:=by kernel_rfl
theorem zFK:Tryd.prog.bytesOf 85=8:=by kernel_rfl
theorem zNw:zg Tryd.prog 85=false:=by kernel_rfl
theorem zti:isIface Tryd.prog 85=false:=by kernel_rfl
theorem zFL:zj Tryd.prog 85=some ([.s .nilFunc]):=by kernel_rfl
theorem zFM:zk Tryd.prog 85=true:=by kernel_rfl
theorem cells86:Tryd.prog.cellsOf 86=1:=by kernel_rfl
theorem zNx:(Tryd.prog.info? 86).isSome=true:=by kernel_rfl
theorem zFN:Tryd.prog.bytesOf 86=8:=by kernel_rfl
theorem zNy:zg Tryd.prog 86=false:=by kernel_rfl
theorem ztj:isIface Tryd.prog 86=false:=by kernel_rfl
theorem zFO:zj Tryd.prog 86=some ([.s .nilFunc]):=by kernel_rfl
theorem zFP:zk Tryd.prog 86=true:=by kernel_rfl
theorem zFQ:Tryd.prog.cellsOf 87=78:=by kernel_rfl
theorem zNz:(Tryd.prog.info? 87).isSome=true:=by kernel_rfl
theorem zFR:Tryd.prog.bytesOf 87=224:=by kernel_rfl
theorem zNA:zg Tryd.prog 87=true:=by kernel_rfl
theorem ztk:isIface Tryd.prog 87=false:=by kernel_rfl
theorem zqb:zj Tryd.prog 87=some (([i64 0,i64 0,i64 0,str ByteArray.empty]:List PV)++List.replicate 32 (b8 0#8)++([i64 0,i64 0,i64 0,str ByteArray.empty]:List PV)++List.replicate 32 (b8 0#8)++([.sl true 1 [],.sl true 2 [],i64 0,i64 0,i64 0,i64 0]:List PV)):=by kernel_rfl
theorem zFS:zk Tryd.prog 87=true:=by kernel_rfl
theorem zFT : ∀ parts,zW Tryd.prog 87 parts=(yc (fun i=>[some (0,1),some (1,1),some (2,1),some (3,1),some (4,32),some (36,38),some (74,1),some (75,3)][i]?.join) ((([i64 0,i64 0,i64 0,str ByteArray.empty]:List PV)++List.replicate 32 (b8 0#8)++([i64 0,i64 0,i64 0,str ByteArray.empty]:List PV)++List.replicate 32 (b8 0#8)++([.sl true 1 [],.sl true 2 [],i64 0,i64 0,i64 0,i64 0]:List PV)).map .p) parts).map zI:=fun _=>zq (by kernel_rfl) zqb
theorem zFU:Tryd.prog.cellsOf 88=1:=by kernel_rfl
theorem zNB:(Tryd.prog.info? 88).isSome=true:=by kernel_rfl
theorem zFV:Tryd.prog.bytesOf 88=8:=by kernel_rfl
theorem zNC:zg Tryd.prog 88=false:=by kernel_rfl
theorem ztl:isIface Tryd.prog 88=false:=by kernel_rfl
theorem zFW:zj Tryd.prog 88=some ([.s .nilFunc]):=by kernel_rfl
theorem zFX:zk Tryd.prog 88=true:=by kernel_rfl
theorem zFY:Tryd.prog.cellsOf 89=1:=by kernel_rfl
theorem zND:(Tryd.prog.info? 89).isSome=true:=by kernel_rfl
theorem zFZ:Tryd.prog.bytesOf 89=8:=by kernel_rfl
theorem zNE:zg Tryd.prog 89=false:=by kernel_rfl
theorem ztm:isIface Tryd.prog 89=false:=by kernel_rfl
theorem zF0:zj Tryd.prog 89=some ([.s .nilFunc]):=by kernel_rfl
theorem zF1:zk Tryd.prog 89=true:=by kernel_rfl
theorem zF2:Tryd.prog.cellsOf 90=1:=by kernel_rfl
theorem zNF:(Tryd.prog.info? 90).isSome=true:=by kernel_rfl
theorem zF3:Tryd.prog.bytesOf 90=8:=by kernel_rfl
theorem zNG:zg Tryd.prog 90=false:=by kernel_rfl
theorem ztn:isIface Tryd.prog 90=false:=by kernel_rfl
theorem zF4:zj Tryd.prog 90=some ([.s .nilFunc]):=by kernel_rfl
theorem zF5:zk Tryd.prog 90=true:=by kernel_rfl
theorem zF6:Tryd.prog.cellsOf 91=1:=by kernel_rfl
theorem zNH:(Tryd.prog.info? 91).isSome=true:=by kernel_rfl
theorem zF7:Tryd.prog.bytesOf 91=8:=by kernel_rfl
theorem zNI:zg Tryd.prog 91=false:=by kernel_rfl
theorem zto:isIface Tryd.prog 91=false:=by kernel_rfl
theorem zF8:zj Tryd.prog 91=some ([.s .nilFunc]):=by kernel_rfl
theorem zF9:zk Tryd.prog 91=true:=by kernel_rfl
theorem zGa:Tryd.prog.cellsOf 92=1:=by kernel_rfl
theorem zNJ:(Tryd.prog.info? 92).isSome=true:=by kernel_rfl
theorem zGb:Tryd.prog.bytesOf 92=8:=by kernel_rfl
theorem zNK:zg Tryd.prog 92=false:=by kernel_rfl
theorem ztp:isIface Tryd.prog 92=false:=by kernel_rfl
theorem zGc:zj Tryd.prog 92=some ([.s .nilFunc]):=by kernel_rfl
theorem zGd:zk Tryd.prog 92=true:=by kernel_rfl
theorem ziU:Tryd.prog.cellsOf 93=1:=by kernel_rfl
theorem zNL:(Tryd.prog.info? 93).isSome=true:=by kernel_rfl
theorem zGe:Tryd.prog.bytesOf 93=4:=by kernel_rfl
theorem zNM:zg Tryd.prog 93=false:=by kernel_rfl
theorem zGf:zX Tryd.prog 93=true:=by kernel_rfl
theorem ztq:isIface Tryd.prog 93=false:=by kernel_rfl
theorem zGg:zj Tryd.prog 93=some ([zF 0#32]):=by kernel_rfl
theorem zGh:zk Tryd.prog 93=true:=by kernel_rfl
theorem zqc:Tryd.prog.cellsOf 94=8:=by kernel_rfl
theorem zNN:(Tryd.prog.info? 94).isSome=true:=by kernel_rfl
theorem zGi:Tryd.prog.bytesOf 94=32:=by kernel_rfl
theorem zNO:zg Tryd.prog 94=true:=by kernel_rfl
theorem zGj:zcv Tryd.prog 94 .u32 8=true:=by kernel_rfl
theorem ztr:isIface Tryd.prog 94=false:=by kernel_rfl
theorem zqd:zj Tryd.prog 94=some (List.replicate 8 (zF 0#32)):=by kernel_rfl
theorem zGk:zk Tryd.prog 94=true:=by kernel_rfl
theorem zGl : ∀ parts,zW Tryd.prog 94 parts=(yc (fun i=>some (i*1,1)) ((List.replicate 8 (zF 0#32)).map .p) parts).map zI:=fun _=>zaX (by kernel_rfl) zqd
theorem zGm:Tryd.prog.cellsOf 95=1:=by kernel_rfl
theorem zNP:(Tryd.prog.info? 95).isSome=true:=by kernel_rfl
theorem zGn:Tryd.prog.bytesOf 95=8:=by kernel_rfl
theorem zNQ:zg Tryd.prog 95=false:=by kernel_rfl
theorem zts:isIface Tryd.prog 95=false:=by kernel_rfl
theorem zGo:zj Tryd.prog 95=some ([.s .nilFunc]):=by kernel_rfl
theorem zGp:zk Tryd.prog 95=true:=by kernel_rfl
theorem zGq:Tryd.prog.cellsOf 96=1:=by kernel_rfl
theorem zNR:(Tryd.prog.info? 96).isSome=true:=by kernel_rfl
theorem zGr:Tryd.prog.bytesOf 96=8:=by kernel_rfl
theorem zNS:zg Tryd.prog 96=false:=by kernel_rfl
theorem ztt:isIface Tryd.prog 96=false:=by kernel_rfl
theorem zGs:zj Tryd.prog 96=some ([.s .nilFunc]):=by kernel_rfl
theorem zGt:zk Tryd.prog 96=true:=by kernel_rfl
theorem zGu:Tryd.prog.cellsOf 97=1:=by kernel_rfl
theorem zNT:(Tryd.prog.info? 97).isSome=true:=by kernel_rfl
theorem zGv:Tryd.prog.bytesOf 97=8:=by kernel_rfl
theorem zNU:zg Tryd.prog 97=false:=by kernel_rfl
theorem ztu:isIface Tryd.prog 97=false:=by kernel_rfl
theorem zGw:zj Tryd.prog 97=some ([.s .nilFunc]):=by kernel_rfl
theorem zGx:zk Tryd.prog 97=true:=by kernel_rfl
theorem zGy:Tryd.prog.cellsOf 98=1:=by kernel_rfl
theorem zNV:(Tryd.prog.info? 98).isSome=true:=by kernel_rfl
theorem zGz:Tryd.prog.bytesOf 98=8:=by kernel_rfl
theorem zNW:zg Tryd.prog 98=false:=by kernel_rfl
theorem ztv:isIface Tryd.prog 98=false:=by kernel_rfl
theorem zGA:zj Tryd.prog 98=some ([.s .nilFunc]):=by kernel_rfl
theorem zGB:zk Tryd.prog 98=true:=by kernel_rfl
theorem zGC:Tryd.prog.cellsOf 99=1:=by kernel_rfl
theorem zNX:(Tryd.prog.info? 99).isSome=true:=by kernel_rfl
theorem zGD:Tryd.prog.bytesOf 99=8:=by kernel_rfl
theorem zNY:zg Tryd.prog 99=false:=by kernel_rfl
theorem ztw:isIface Tryd.prog 99=false:=by kernel_rfl
theorem zGE:zj Tryd.prog 99=some ([.s .nilFunc]):=by kernel_rfl
theorem zGF:zk Tryd.prog 99=true:=by kernel_rfl
theorem zvy:Tryd.prog.cellsOf 100=1:=by kernel_rfl
theorem zGG:(Tryd.prog.info? 100).isSome=true:=by kernel_rfl
theorem zvz:Tryd.prog.bytesOf 100=8:=by kernel_rfl
theorem zGH:zg Tryd.prog 100=false:=by kernel_rfl
theorem zob:isIface Tryd.prog 100=false:=by kernel_rfl
theorem zvA:zj Tryd.prog 100=some ([.s .nilFunc]):=by kernel_rfl
theorem zvB:zk Tryd.prog 100=true:=by kernel_rfl
theorem zvC:Tryd.prog.cellsOf 101=1:=by kernel_rfl
theorem zGI:(Tryd.prog.info? 101).isSome=true:=by kernel_rfl
theorem zvD:Tryd.prog.bytesOf 101=8:=by kernel_rfl
theorem zGJ:zg Tryd.prog 101=false:=by kernel_rfl
theorem zoc:isIface Tryd.prog 101=false:=by kernel_rfl
theorem zvE:zj Tryd.prog 101=some ([.s .nilFunc]):=by kernel_rfl
theorem zvF:zk Tryd.prog 101=true:=by kernel_rfl
theorem zvG:Tryd.prog.cellsOf 102=1:=by kernel_rfl
theorem zGK:(Tryd.prog.info? 102).isSome=true:=by kernel_rfl
theorem zvH:Tryd.prog.bytesOf 102=8:=by kernel_rfl
theorem zGL:zg Tryd.prog 102=false:=by kernel_rfl
theorem zod:isIface Tryd.prog 102=false:=by kernel_rfl
theorem zvI:zj Tryd.prog 102=some ([.s .nilFunc]):=by kernel_rfl
theorem zvJ:zk Tryd.prog 102=true:=by kernel_rfl
theorem zvK:Tryd.prog.cellsOf 103=1:=by kernel_rfl
theorem zGM:(Tryd.prog.info? 103).isSome=true:=by kernel_rfl
theorem zvL:Tryd.prog.bytesOf 103=8:=by kernel_rfl
theorem zGN:zg Tryd.prog 103=false:=by kernel_rfl
theorem zvM:zX Tryd.prog 103=true:=by kernel_rfl
theorem zoe:isIface Tryd.prog 103=false:=by kernel_rfl
theorem zvN:zj Tryd.prog 103=some ([zx 0#64]):=by kernel_rfl
theorem zvO:zk Tryd.prog 103=true:=by kernel_rfl
theorem zvP:Tryd.prog.cellsOf 104=1:=by kernel_rfl
theorem zGO:(Tryd.prog.info? 104).isSome=true:=by kernel_rfl
theorem zvQ:Tryd.prog.bytesOf 104=8:=by kernel_rfl
theorem zGP:zg Tryd.prog 104=false:=by kernel_rfl
theorem zof:isIface Tryd.prog 104=false:=by kernel_rfl
theorem zvR:zj Tryd.prog 104=some ([.s .nilFunc]):=by kernel_rfl
theorem zvS:zk Tryd.prog 104=true:=by kernel_rfl
theorem zvT:Tryd.prog.cellsOf 105=1:=by kernel_rfl
theorem zGQ:(Tryd.prog.info? 105).isSome=true:=by kernel_rfl
theorem zvU:Tryd.prog.bytesOf 105=8:=by kernel_rfl
theorem zGR:zg Tryd.prog 105=false:=by kernel_rfl
theorem zog:isIface Tryd.prog 105=false:=by kernel_rfl
theorem zvV:zj Tryd.prog 105=some ([.s .nilFunc]):=by kernel_rfl
theorem zvW:zk Tryd.prog 105=true:=by kernel_rfl
theorem zvX:Tryd.prog.cellsOf 106=1:=by kernel_rfl
theorem zGS:(Tryd.prog.info? 106).isSome=true:=by kernel_rfl
theorem zvY:Tryd.prog.bytesOf 106=8:=by kernel_rfl
theorem zGT:zg Tryd.prog 106=false:=by kernel_rfl
theorem zoh:isIface Tryd.prog 106=false:=by kernel_rfl
theorem zvZ:zj Tryd.prog 106=some ([.s .nilFunc]):=by kernel_rfl
theorem zv0:zk Tryd.prog 106=true:=by kernel_rfl
theorem zv1:Tryd.prog.cellsOf 107=1:=by kernel_rfl
theorem zGU:(Tryd.prog.info? 107).isSome=true:=by kernel_rfl
theorem zv2:Tryd.prog.bytesOf 107=8:=by kernel_rfl
theorem zGV:zg Tryd.prog 107=false:=by kernel_rfl
theorem zoi:isIface Tryd.prog 107=false:=by kernel_rfl
theorem zv3:zj Tryd.prog 107=some ([.s .nilFunc]):=by kernel_rfl
theorem zv4:zk Tryd.prog 107=true:=by kernel_rfl
theorem zv5:Tryd.prog.cellsOf 108=1:=by kernel_rfl
theorem zGW:(Tryd.prog.info? 108).isSome=true:=by kernel_rfl
theorem zv6:Tryd.prog.bytesOf 108=8:=by kernel_rfl
theorem zGX:zg Tryd.prog 108=false:=by kernel_rfl
theorem zoj:isIface Tryd.prog 108=false:=by kernel_rfl
theorem zv7:zj Tryd.prog 108=some ([.s .nilFunc]):=by kernel_rfl
theorem zv8:zk Tryd.prog 108=true:=by kernel_rfl
theorem zlk:Tryd.prog.cellsOf 109=1:=by kernel_rfl
theorem zGY:(Tryd.prog.info? 109).isSome=true:=by kernel_rfl
theorem zv9:Tryd.prog.bytesOf 109=8:=by kernel_rfl
theorem zGZ:zg Tryd.prog 109=false:=by kernel_rfl
theorem zok:isIface Tryd.prog 109=false:=by kernel_rfl
theorem zwa:zj Tryd.prog 109=some ([.s .nilFunc]):=by kernel_rfl
theorem zwb:zk Tryd.prog 109=true:=by kernel_rfl
theorem zwc:Tryd.prog.cellsOf 110=3:=by kernel_rfl
theorem zG0:(Tryd.prog.info? 110).isSome=true:=by kernel_rfl
theorem zwd:Tryd.prog.bytesOf 110=24:=by kernel_rfl
theorem zG1:zg Tryd.prog 110=true:=by kernel_rfl
theorem zol:isIface Tryd.prog 110=false:=by kernel_rfl
theorem zll:zj Tryd.prog 110=some ([i64 0,i64 0,.s .nilFunc]):=by kernel_rfl
theorem zwe:zk Tryd.prog 110=true:=by kernel_rfl
theorem zwf : ∀ parts,zW Tryd.prog 110 parts=(yc (fun i=>[some (0,1),some (1,1),some (2,1)][i]?.join) ([.p (i64 0),.p (i64 0),.p (.s .nilFunc)]) parts).map zI:=fun _=>zq (by kernel_rfl) zll
theorem zga:Tryd.prog.cellsOf 111=3:=by kernel_rfl
theorem zG2:(Tryd.prog.info? 111).isSome=true:=by kernel_rfl
theorem zwg:Tryd.prog.bytesOf 111=24:=by kernel_rfl
theorem zG3:zg Tryd.prog 111=true:=by kernel_rfl
theorem zom:isIface Tryd.prog 111=false:=by kernel_rfl
theorem zlm:zj Tryd.prog 111=some ([i64 0,i64 0,.s .nilFunc]):=by kernel_rfl
theorem zwh:zk Tryd.prog 111=true:=by kernel_rfl
theorem zwi : ∀ parts,zW Tryd.prog 111 parts=(yc (fun i=>[some (0,1),some (1,1),some (2,1)][i]?.join) ([.p (i64 0),.p (i64 0),.p (.s .nilFunc)]) parts).map zI:=fun _=>zq (by kernel_rfl) zlm
theorem zwj:Tryd.prog.cellsOf 112=1:=by kernel_rfl
theorem zG4:(Tryd.prog.info? 112).isSome=true:=by kernel_rfl
theorem zwk:Tryd.prog.bytesOf 112=8:=by kernel_rfl
theorem zG5:zg Tryd.prog 112=false:=by kernel_rfl
theorem zon:isIface Tryd.prog 112=false:=by kernel_rfl
theorem zwl:zj Tryd.prog 112=some ([.s (.map none)]):=by kernel_rfl
theorem zwm:zk Tryd.prog 112=true:=by kernel_rfl
theorem zwn:Tryd.prog.cellsOf 113=1:=by kernel_rfl
theorem zG6:(Tryd.prog.info? 113).isSome=true:=by kernel_rfl
theorem zwo:Tryd.prog.bytesOf 113=8:=by kernel_rfl
theorem zG7:zg Tryd.prog 113=false:=by kernel_rfl
theorem zoo:isIface Tryd.prog 113=false:=by kernel_rfl
theorem zwp:zj Tryd.prog 113=some ([.s .nilFunc]):=by kernel_rfl
theorem zwq:zk Tryd.prog 113=true:=by kernel_rfl
theorem zwr:Tryd.prog.cellsOf 114=1:=by kernel_rfl
theorem zG8:(Tryd.prog.info? 114).isSome=true:=by kernel_rfl
theorem zws:Tryd.prog.bytesOf 114=8:=by kernel_rfl
theorem zG9:zg Tryd.prog 114=false:=by kernel_rfl
theorem zop:isIface Tryd.prog 114=false:=by kernel_rfl
theorem zwt:zj Tryd.prog 114=some ([.s .nilFunc]):=by kernel_rfl
theorem zwu:zk Tryd.prog 114=true:=by kernel_rfl
theorem zwv:Tryd.prog.cellsOf 115=8:=by kernel_rfl
theorem zHa:(Tryd.prog.info? 115).isSome=true:=by kernel_rfl
theorem zww:Tryd.prog.bytesOf 115=32:=by kernel_rfl
theorem zHb:zg Tryd.prog 115=true:=by kernel_rfl
theorem zwx:zcv Tryd.prog 115 .u32 8=true:=by kernel_rfl
theorem zoq:isIface Tryd.prog 115=false:=by kernel_rfl
theorem zln:zj Tryd.prog 115=some (List.replicate 8 (zF 0#32)):=by kernel_rfl
theorem zwy:zk Tryd.prog 115=true:=by kernel_rfl
theorem zwz : ∀ parts,zW Tryd.prog 115 parts=(yc (fun i=>some (i*1,1)) ((List.replicate 8 (zF 0#32)).map .p) parts).map zI:=fun _=>zaX (by kernel_rfl) zln
theorem zwA:Tryd.prog.cellsOf 116=1:=by kernel_rfl
theorem zHc:(Tryd.prog.info? 116).isSome=true:=by kernel_rfl
theorem zwB:Tryd.prog.bytesOf 116=8:=by kernel_rfl
theorem zHd:zg Tryd.prog 116=false:=by kernel_rfl
theorem zor:isIface Tryd.prog 116=false:=by kernel_rfl
theorem zwC:zj Tryd.prog 116=some ([.s .nilFunc]):=by kernel_rfl
theorem zwD:zk Tryd.prog 116=true:=by kernel_rfl
theorem zwE:Tryd.prog.cellsOf 117=1:=by kernel_rfl
theorem zHe:(Tryd.prog.info? 117).isSome=true:=by kernel_rfl
theorem zwF:Tryd.prog.bytesOf 117=8:=by kernel_rfl
theorem zHf:zg Tryd.prog 117=false:=by kernel_rfl
theorem zos:isIface Tryd.prog 117=false:=by kernel_rfl
theorem zwG:zj Tryd.prog 117=some ([.s .nilFunc]):=by kernel_rfl
theorem zwH:zk Tryd.prog 117=true:=by kernel_rfl
theorem zwI:Tryd.prog.cellsOf 118=1:=by kernel_rfl
theorem zHg:(Tryd.prog.info? 118).isSome=true:=by kernel_rfl
theorem zwJ:Tryd.prog.bytesOf 118=8:=by kernel_rfl
theorem zHh:zg Tryd.prog 118=false:=by kernel_rfl
theorem zot:isIface Tryd.prog 118=false:=by kernel_rfl
theorem zwK:zj Tryd.prog 118=some ([.s (.pointer none)]):=by kernel_rfl
theorem zwL:zk Tryd.prog 118=true:=by kernel_rfl
theorem zwM:Tryd.prog.cellsOf 120=1:=by kernel_rfl
theorem zHi:(Tryd.prog.info? 120).isSome=true:=by kernel_rfl
theorem zwN:Tryd.prog.bytesOf 120=8:=by kernel_rfl
theorem zHj:zg Tryd.prog 120=false:=by kernel_rfl
theorem zou:isIface Tryd.prog 120=false:=by kernel_rfl
theorem zwO:zj Tryd.prog 120=some ([.s (.map none)]):=by kernel_rfl
theorem zwP:zk Tryd.prog 120=true:=by kernel_rfl
theorem zlo:Tryd.prog.cellsOf 121=64:=by kernel_rfl
theorem zHk:(Tryd.prog.info? 121).isSome=true:=by kernel_rfl
theorem zwQ:Tryd.prog.bytesOf 121=256:=by kernel_rfl
theorem zHl:zg Tryd.prog 121=true:=by kernel_rfl
theorem zwR:zcv Tryd.prog 121 .u32 64=true:=by kernel_rfl
theorem zov:isIface Tryd.prog 121=false:=by kernel_rfl
theorem zlp:zj Tryd.prog 121=some (List.replicate 64 (zF 0#32)):=by kernel_rfl
theorem zwS:zk Tryd.prog 121=true:=by kernel_rfl
theorem zwT : ∀ parts,zW Tryd.prog 121 parts=(yc (fun i=>some (i*1,1)) ((List.replicate 64 (zF 0#32)).map .p) parts).map zI:=fun _=>zaX (by kernel_rfl) zlp
theorem zwU:Tryd.prog.cellsOf 122=1:=by kernel_rfl
theorem zHm:(Tryd.prog.info? 122).isSome=true:=by kernel_rfl
theorem zwV:Tryd.prog.bytesOf 122=8:=by kernel_rfl
theorem zHn:zg Tryd.prog 122=false:=by kernel_rfl
theorem zow:isIface Tryd.prog 122=false:=by kernel_rfl
theorem zwW:zj Tryd.prog 122=some ([.s .nilFunc]):=by kernel_rfl
theorem zwX:zk Tryd.prog 122=true:=by kernel_rfl
theorem zwY:Tryd.prog.cellsOf 123=1:=by kernel_rfl
theorem zHo:(Tryd.prog.info? 123).isSome=true:=by kernel_rfl
theorem zwZ:Tryd.prog.bytesOf 123=8:=by kernel_rfl
theorem zHp:zg Tryd.prog 123=false:=by kernel_rfl
theorem zox:isIface Tryd.prog 123=false:=by kernel_rfl
theorem zw0:zj Tryd.prog 123=some ([.s .nilFunc]):=by kernel_rfl
theorem zw1:zk Tryd.prog 123=true:=by kernel_rfl
theorem zw2:Tryd.prog.cellsOf 124=1:=by kernel_rfl
theorem zHq:(Tryd.prog.info? 124).isSome=true:=by kernel_rfl
theorem zw3:Tryd.prog.bytesOf 124=8:=by kernel_rfl
theorem zHr:zg Tryd.prog 124=false:=by kernel_rfl
theorem zoy:isIface Tryd.prog 124=false:=by kernel_rfl
theorem zw4:zj Tryd.prog 124=some ([.s .nilFunc]):=by kernel_rfl
theorem zw5:zk Tryd.prog 124=true:=by kernel_rfl
theorem zw6:Tryd.prog.cellsOf 125=1:=by kernel_rfl
theorem zHs:(Tryd.prog.info? 125).isSome=true:=by kernel_rfl
theorem zw7:Tryd.prog.bytesOf 125=8:=by kernel_rfl
theorem zHt:zg Tryd.prog 125=false:=by kernel_rfl
theorem zoz:isIface Tryd.prog 125=false:=by kernel_rfl
theorem zw8:zj Tryd.prog 125=some ([.s .nilFunc]):=by kernel_rfl
theorem zw9:zk Tryd.prog 125=true:=by kernel_rfl
theorem zxa:Tryd.prog.cellsOf 126=1:=by kernel_rfl
theorem zHu:(Tryd.prog.info? 126).isSome=true:=by kernel_rfl
theorem zxb:Tryd.prog.bytesOf 126=8:=by kernel_rfl
theorem zHv:zg Tryd.prog 126=false:=by kernel_rfl
theorem zoA:isIface Tryd.prog 126=false:=by kernel_rfl
theorem zxc:zj Tryd.prog 126=some ([.s .nilFunc]):=by kernel_rfl
theorem zxd:zk Tryd.prog 126=true:=by kernel_rfl
theorem zxe:Tryd.prog.cellsOf 127=1:=by kernel_rfl
theorem zHw:(Tryd.prog.info? 127).isSome=true:=by kernel_rfl
theorem zxf:Tryd.prog.bytesOf 127=8:=by kernel_rfl
theorem zHx:zg Tryd.prog 127=false:=by kernel_rfl
theorem zoB:isIface Tryd.prog 127=false:=by kernel_rfl
theorem zxg:zj Tryd.prog 127=some ([.s .nilFunc]):=by kernel_rfl
theorem zxh:zk Tryd.prog 127=true:=by kernel_rfl
theorem zxi:Tryd.prog.cellsOf 128=1:=by kernel_rfl
theorem zHy:(Tryd.prog.info? 128).isSome=true:=by kernel_rfl
theorem zxj:Tryd.prog.bytesOf 128=8:=by kernel_rfl
theorem zHz:zg Tryd.prog 128=false:=by kernel_rfl
theorem zoC:isIface Tryd.prog 128=false:=by kernel_rfl
theorem zxk:zj Tryd.prog 128=some ([.s .nilFunc]):=by kernel_rfl
theorem zxl:zk Tryd.prog 128=true:=by kernel_rfl
theorem zxm:Tryd.prog.cellsOf 129=1:=by kernel_rfl
theorem zHA:(Tryd.prog.info? 129).isSome=true:=by kernel_rfl
theorem zxn:Tryd.prog.bytesOf 129=8:=by kernel_rfl
theorem zHB:zg Tryd.prog 129=false:=by kernel_rfl
theorem zoD:isIface Tryd.prog 129=false:=by kernel_rfl
theorem zxo:zj Tryd.prog 129=some ([.s (.pointer none)]):=by kernel_rfl
theorem zxp:zk Tryd.prog 129=true:=by kernel_rfl
theorem zxq:Tryd.prog.cellsOf 130=1:=by kernel_rfl
theorem zHC:(Tryd.prog.info? 130).isSome=true:=by kernel_rfl
theorem zxr:Tryd.prog.bytesOf 130=24:=by kernel_rfl
theorem zHD:zg Tryd.prog 130=false:=by kernel_rfl
theorem zoE:isIface Tryd.prog 130=false:=by kernel_rfl
theorem zxs:zj Tryd.prog 130=some ([.sl true 1 []]):=by kernel_rfl
theorem zxt:zk Tryd.prog 130=true:=by kernel_rfl
theorem zxu:Tryd.prog.cellsOf 131=1:=by kernel_rfl
theorem zHE:(Tryd.prog.info? 131).isSome=true:=by kernel_rfl
theorem zxv:Tryd.prog.bytesOf 131=8:=by kernel_rfl
theorem zHF:zg Tryd.prog 131=false:=by kernel_rfl
theorem zoF:isIface Tryd.prog 131=false:=by kernel_rfl
theorem zxw:zj Tryd.prog 131=some ([.s .nilFunc]):=by kernel_rfl
theorem zxx:zk Tryd.prog 131=true:=by kernel_rfl
theorem zxy:Tryd.prog.cellsOf 132=1:=by kernel_rfl
theorem zHG:(Tryd.prog.info? 132).isSome=true:=by kernel_rfl
theorem zxz:Tryd.prog.bytesOf 132=8:=by kernel_rfl
theorem zHH:zg Tryd.prog 132=false:=by kernel_rfl
theorem zoG:isIface Tryd.prog 132=false:=by kernel_rfl
theorem zxA:zj Tryd.prog 132=some ([.s .nilFunc]):=by kernel_rfl
theorem zxB:zk Tryd.prog 132=true:=by kernel_rfl
theorem zxC:Tryd.prog.cellsOf 133=1:=by kernel_rfl
theorem zHI:(Tryd.prog.info? 133).isSome=true:=by kernel_rfl
theorem zxD:Tryd.prog.bytesOf 133=8:=by kernel_rfl
theorem zHJ:zg Tryd.prog 133=false:=by kernel_rfl
theorem zoH:isIface Tryd.prog 133=false:=by kernel_rfl
theorem zxE:zj Tryd.prog 133=some ([.s .nilFunc]):=by kernel_rfl
theorem zxF:zk Tryd.prog 133=true:=by kernel_rfl
theorem zxG:Tryd.prog.cellsOf 134=4:=by kernel_rfl
theorem zHK:(Tryd.prog.info? 134).isSome=true:=by kernel_rfl
theorem zxH:Tryd.prog.bytesOf 134=40:=by kernel_rfl
theorem zHL:zg Tryd.prog 134=true:=by kernel_rfl
theorem zoI:isIface Tryd.prog 134=false:=by kernel_rfl
theorem zlq:zj Tryd.prog 134=some ([.s (.pointer none),.s (.pointer none),.s (.pointer none),str ByteArray.empty]):=by kernel_rfl
theorem zxI:zk Tryd.prog 134=true:=by kernel_rfl
theorem zxJ : ∀ parts,zW Tryd.prog 134 parts=(yc (fun i=>[some (0,1),some (1,1),some (2,1),some (3,1)][i]?.join) ([.p (.s (.pointer none)),.p (.s (.pointer none)),.p (.s (.pointer none)),.p (str ByteArray.empty)]) parts).map zI:=fun _=>zq (by kernel_rfl) zlq
theorem zxK:Tryd.prog.cellsOf 135=4:=by kernel_rfl
theorem zHM:(Tryd.prog.info? 135).isSome=true:=by kernel_rfl
theorem zxL:Tryd.prog.bytesOf 135=40:=by kernel_rfl
theorem zHN:zg Tryd.prog 135=true:=by kernel_rfl
theorem zoJ:isIface Tryd.prog 135=false:=by kernel_rfl
theorem zlr:zj Tryd.prog 135=some ([.s (.pointer none),.s (.pointer none),.s (.pointer none),str ByteArray.empty]):=by kernel_rfl
theorem zxM:zk Tryd.prog 135=true:=by kernel_rfl
theorem zxN : ∀ parts,zW Tryd.prog 135 parts=(yc (fun i=>[some (0,1),some (1,1),some (2,1),some (3,1)][i]?.join) ([.p (.s (.pointer none)),.p (.s (.pointer none)),.p (.s (.pointer none)),.p (str ByteArray.empty)]) parts).map zI:=fun _=>zq (by kernel_rfl) zlr
theorem zxO:Tryd.prog.cellsOf 136=0:=by kernel_rfl
theorem zHO:(Tryd.prog.info? 136).isSome=true:=by kernel_rfl
theorem zxP:Tryd.prog.bytesOf 136=0:=by kernel_rfl
theorem zHP:zg Tryd.prog 136=true:=by kernel_rfl
theorem zoK:isIface Tryd.prog 136=false:=by kernel_rfl
theorem zls:zj Tryd.prog 136=some ([]):=by kernel_rfl
theorem zxQ:zk Tryd.prog 136=true:=by kernel_rfl
theorem zxR : ∀ parts,zW Tryd.prog 136 parts=(yc (fun i=>some (i*1,1)) ([]) parts).map zI:=fun _=>zaX (by kernel_rfl) zls
theorem zxS:Tryd.prog.cellsOf 137=0:=by kernel_rfl
theorem zHQ:(Tryd.prog.info? 137).isSome=true:=by kernel_rfl
theorem zxT:Tryd.prog.bytesOf 137=0:=by kernel_rfl
theorem zHR:zg Tryd.prog 137=true:=by kernel_rfl
theorem zoL:isIface Tryd.prog 137=false:=by kernel_rfl
theorem zlt:zj Tryd.prog 137=some ([]):=by kernel_rfl
theorem zxU:zk Tryd.prog 137=true:=by kernel_rfl
theorem zxV : ∀ parts,zW Tryd.prog 137 parts=(yc (fun i=>[some (0,0)][i]?.join) ([]) parts).map zI:=fun _=>zq (by kernel_rfl) zlt
theorem zxW:Tryd.prog.cellsOf 138=0:=by kernel_rfl
theorem zHS:(Tryd.prog.info? 138).isSome=true:=by kernel_rfl
theorem zxX:Tryd.prog.bytesOf 138=0:=by kernel_rfl
theorem zHT:zg Tryd.prog 138=true:=by kernel_rfl
theorem zoM:isIface Tryd.prog 138=false:=by kernel_rfl
theorem zlu:zj Tryd.prog 138=some ([]):=by kernel_rfl
theorem zxY:zk Tryd.prog 138=true:=by kernel_rfl
theorem zxZ : ∀ parts,zW Tryd.prog 138 parts=(yc (fun i=>[some (0,0)][i]?.join) ([]) parts).map zI:=fun _=>zq (by kernel_rfl) zlu
theorem zx0:Tryd.prog.cellsOf 139=1:=by kernel_rfl
theorem zHU:(Tryd.prog.info? 139).isSome=true:=by kernel_rfl
theorem zx1:Tryd.prog.bytesOf 139=8:=by kernel_rfl
theorem zHV:zg Tryd.prog 139=false:=by kernel_rfl
theorem zoN:isIface Tryd.prog 139=false:=by kernel_rfl
theorem zx2:zj Tryd.prog 139=some ([.s .nilFunc]):=by kernel_rfl
theorem zx3:zk Tryd.prog 139=true:=by kernel_rfl
theorem zx4:Tryd.prog.cellsOf 140=1:=by kernel_rfl
theorem zHW:(Tryd.prog.info? 140).isSome=true:=by kernel_rfl
theorem zx5:Tryd.prog.bytesOf 140=1:=by kernel_rfl
theorem zHX:zg Tryd.prog 140=false:=by kernel_rfl
theorem zx6:zX Tryd.prog 140=true:=by kernel_rfl
theorem zoO:isIface Tryd.prog 140=false:=by kernel_rfl
theorem zx7:zj Tryd.prog 140=some ([b8 0#8]):=by kernel_rfl
theorem zx8:zk Tryd.prog 140=true:=by kernel_rfl
theorem zx9:Tryd.prog.cellsOf 141=1:=by kernel_rfl
theorem zHY:(Tryd.prog.info? 141).isSome=true:=by kernel_rfl
theorem zya:Tryd.prog.bytesOf 141=1:=by kernel_rfl
theorem zHZ:zg Tryd.prog 141=false:=by kernel_rfl
theorem zyb:zX Tryd.prog 141=true:=by kernel_rfl
theorem zoP:isIface Tryd.prog 141=false:=by kernel_rfl
theorem zyc:zj Tryd.prog 141=some ([b8 0#8]):=by kernel_rfl
theorem zyd:zk Tryd.prog 141=true:=by kernel_rfl
theorem zye:Tryd.prog.cellsOf 142=1:=by kernel_rfl
theorem zH0:(Tryd.prog.info? 142).isSome=true:=by kernel_rfl
theorem zyf:Tryd.prog.bytesOf 142=8:=by kernel_rfl
theorem zH1:zg Tryd.prog 142=false:=by kernel_rfl
theorem zoQ:isIface Tryd.prog 142=false:=by kernel_rfl
theorem zyg:zj Tryd.prog 142=some ([.s .nilFunc]):=by kernel_rfl
theorem zyh:zk Tryd.prog 142=true:=by kernel_rfl
theorem zyi:Tryd.prog.cellsOf 143=1:=by kernel_rfl
theorem zH2:(Tryd.prog.info? 143).isSome=true:=by kernel_rfl
theorem zyj:Tryd.prog.bytesOf 143=8:=by kernel_rfl
theorem zH3:zg Tryd.prog 143=false:=by kernel_rfl
theorem zoR:isIface Tryd.prog 143=false:=by kernel_rfl
theorem zyk:zj Tryd.prog 143=some ([.s (.pointer none)]):=by kernel_rfl
theorem zyl:zk Tryd.prog 143=true:=by kernel_rfl
theorem zym:Tryd.prog.cellsOf 144=1:=by kernel_rfl
theorem zH4:(Tryd.prog.info? 144).isSome=true:=by kernel_rfl
theorem zyn:Tryd.prog.bytesOf 144=4:=by kernel_rfl
theorem zH5:zg Tryd.prog 144=false:=by kernel_rfl
theorem zyo:zX Tryd.prog 144=true:=by kernel_rfl
theorem zoS:isIface Tryd.prog 144=false:=by kernel_rfl
theorem zyp:zj Tryd.prog 144=some ([.s (.int .i32 0)]):=by kernel_rfl
theorem zyq:zk Tryd.prog 144=true:=by kernel_rfl
theorem zyr:Tryd.prog.cellsOf 145=1:=by kernel_rfl
theorem zH6:(Tryd.prog.info? 145).isSome=true:=by kernel_rfl
theorem zys:Tryd.prog.bytesOf 145=4:=by kernel_rfl
theorem zH7:zg Tryd.prog 145=false:=by kernel_rfl
theorem zyt:zX Tryd.prog 145=true:=by kernel_rfl
theorem zoT:isIface Tryd.prog 145=false:=by kernel_rfl
theorem zyu:zj Tryd.prog 145=some ([.s (.int .i32 0)]):=by kernel_rfl
theorem zyv:zk Tryd.prog 145=true:=by kernel_rfl
theorem zyw:Tryd.prog.cellsOf 146=11:=by kernel_rfl
theorem zH8:(Tryd.prog.info? 146).isSome=true:=by kernel_rfl
theorem zyx:Tryd.prog.bytesOf 146=48:=by kernel_rfl
theorem zH9:zg Tryd.prog 146=true:=by kernel_rfl
theorem zoU:isIface Tryd.prog 146=false:=by kernel_rfl
theorem zlv:zj Tryd.prog 146=some ([zx 0#64,zx 0#64,zF 0#32,b8 0#8,b8 0#8,b8 0#8,b8 0#8,.s .nilFunc,.s (.pointer none),.s (.int .i32 0),.s (.int .i32 0)]):=by kernel_rfl
theorem zyy:zk Tryd.prog 146=true:=by kernel_rfl
theorem zyz : ∀ parts,zW Tryd.prog 146 parts=(yc (fun i=>[some (0,1),some (1,1),some (2,1),some (3,1),some (4,1),some (5,1),some (6,1),some (7,1),some (8,1),some (9,1),some (10,1)][i]?.join) ([.p (zx 0#64),.p (zx 0#64),.p (zF 0#32),.p (b8 0#8),.p (b8 0#8),.p (b8 0#8),.p (b8 0#8),.p (.s .nilFunc),.p (.s (.pointer none)),.p (.s (.int .i32 0)),.p (.s (.int .i32 0))]) parts).map zI:=fun _=>zq (by kernel_rfl) zlv
theorem zyA:Tryd.prog.cellsOf 147=11:=by kernel_rfl
theorem zIa:(Tryd.prog.info? 147).isSome=true:=by kernel_rfl
theorem zyB:Tryd.prog.bytesOf 147=48:=by kernel_rfl
theorem zIb:zg Tryd.prog 147=true:=by kernel_rfl
theorem zoV:isIface Tryd.prog 147=false:=by kernel_rfl
theorem zlw:zj Tryd.prog 147=some ([zx 0#64,zx 0#64,zF 0#32,b8 0#8,b8 0#8,b8 0#8,b8 0#8,.s .nilFunc,.s (.pointer none),.s (.int .i32 0),.s (.int .i32 0)]):=by kernel_rfl
theorem zyC:zk Tryd.prog 147=true:=by kernel_rfl
theorem zyD : ∀ parts,zW Tryd.prog 147 parts=(yc (fun i=>[some (0,1),some (1,1),some (2,1),some (3,1),some (4,1),some (5,1),some (6,1),some (7,1),some (8,1),some (9,1),some (10,1)][i]?.join) ([.p (zx 0#64),.p (zx 0#64),.p (zF 0#32),.p (b8 0#8),.p (b8 0#8),.p (b8 0#8),.p (b8 0#8),.p (.s .nilFunc),.p (.s (.pointer none)),.p (.s (.int .i32 0)),.p (.s (.int .i32 0))]) parts).map zI:=fun _=>zq (by kernel_rfl) zlw
theorem zyE:Tryd.prog.cellsOf 148=1:=by kernel_rfl
theorem zIc:(Tryd.prog.info? 148).isSome=true:=by kernel_rfl
theorem zyF:Tryd.prog.bytesOf 148=8:=by kernel_rfl
theorem zId:zg Tryd.prog 148=false:=by kernel_rfl
theorem zoW:isIface Tryd.prog 148=false:=by kernel_rfl
theorem zyG:zj Tryd.prog 148=some ([.s (.pointer none)]):=by kernel_rfl
theorem zyH:zk Tryd.prog 148=true:=by kernel_rfl
theorem zIe:enters Tryd.prog 0=false:=by kernel_rfl
theorem zPp : ∀ args H, yn Tryd.prog 0 args H = vH (zaH "main.main" args) H := fun _ _ => zT (by kernel_rfl)
theorem enters1:enters Tryd.prog 1=false:=by kernel_rfl
theorem zPq : ∀ args H, yn Tryd.prog 1 args H = vH (zaH "gosem.cut" args) H := fun _ _ => zT (by kernel_rfl)
theorem enters2:enters Tryd.prog 2=true:=by kernel_rfl
theorem enters3:enters Tryd.prog 3=true:=by kernel_rfl
theorem zIf:enters Tryd.prog 4=true:=by kernel_rfl
theorem zIg:enters Tryd.prog 5=true:=by kernel_rfl
theorem zIh:enters Tryd.prog 6=true:=by kernel_rfl
theorem zIi:enters Tryd.prog 7=true:=by kernel_rfl
theorem zIj:enters Tryd.prog 8=true:=by kernel_rfl
theorem zIk:enters Tryd.prog 9=true:=by kernel_rfl
theorem zyI:enters Tryd.prog 10=true:=by kernel_rfl
theorem zyJ:enters Tryd.prog 11=true:=by kernel_rfl
theorem zyK:enters Tryd.prog 12=true:=by kernel_rfl
theorem zyL:enters Tryd.prog 13=true:=by kernel_rfl
theorem zyM:enters Tryd.prog 14=true:=by kernel_rfl
theorem zyN:enters Tryd.prog 15=true:=by kernel_rfl
theorem zyO:enters Tryd.prog 16=true:=by kernel_rfl
theorem zyP:enters Tryd.prog 17=true:=by kernel_rfl
theorem zyQ:enters Tryd.prog 18=true:=by kernel_rfl
theorem zyR:enters Tryd.prog 19=true:=by kernel_rfl
theorem zyS:enters Tryd.prog 20=true:=by kernel_rfl
theorem zyT:enters Tryd.prog 21=true:=by kernel_rfl
theorem zyU:enters Tryd.prog 22=true:=by kernel_rfl
theorem zyV:enters Tryd.prog 23=true:=by kernel_rfl
theorem zyW:enters Tryd.prog 24=true:=by kernel_rfl
theorem zyX:enters Tryd.prog 25=true:=by kernel_rfl
theorem zyY:enters Tryd.prog 26=true:=by kernel_rfl
theorem zyZ:enters Tryd.prog 27=true:=by kernel_rfl
theorem zy0:enters Tryd.prog 28=true:=by kernel_rfl
theorem zy1:enters Tryd.prog 29=true:=by kernel_rfl
theorem zy2:enters Tryd.prog 30=true:=by kernel_rfl
theorem zy3:enters Tryd.prog 31=true:=by kernel_rfl
theorem zlx:enters Tryd.prog 32=true:=by kernel_rfl
theorem zy4:enters Tryd.prog 33=true:=by kernel_rfl
theorem zy5:enters Tryd.prog 34=true:=by kernel_rfl
theorem zy6:enters Tryd.prog 35=true:=by kernel_rfl
theorem zy7:enters Tryd.prog 36=true:=by kernel_rfl
theorem zy8:enters Tryd.prog 37=true:=by kernel_rfl
theorem zy9:enters Tryd.prog 38=true:=by kernel_rfl
theorem zza:enters Tryd.prog 39=true:=by kernel_rfl
theorem zzb:enters Tryd.prog 40=true:=by kernel_rfl
theorem zzc:enters Tryd.prog 41=true:=by kernel_rfl
theorem zzd:enters Tryd.prog 42=true:=by kernel_rfl
theorem zze:enters Tryd.prog 43=true:=by kernel_rfl
theorem zzf:enters Tryd.prog 44=true:=by kernel_rfl
theorem zzg:enters Tryd.prog 45=true:=by kernel_rfl
theorem zzh:enters Tryd.prog 46=true:=by kernel_rfl
theorem zzi:enters Tryd.prog 47=true:=by kernel_rfl
theorem zzj:enters Tryd.prog 48=true:=by kernel_rfl
theorem zgb:enters Tryd.prog 49=true:=by kernel_rfl
theorem zzk:enters Tryd.prog 50=true:=by kernel_rfl
theorem zzl:enters Tryd.prog 51=true:=by kernel_rfl
theorem zzm:enters Tryd.prog 52=true:=by kernel_rfl
theorem zzn:enters Tryd.prog 53=true:=by kernel_rfl
theorem zzo:enters Tryd.prog 54=true:=by kernel_rfl
theorem zzp:enters Tryd.prog 55=true:=by kernel_rfl
theorem zzq:enters Tryd.prog 56=true:=by kernel_rfl
theorem zzr:enters Tryd.prog 57=true:=by kernel_rfl
theorem zzs:enters Tryd.prog 58=true:=by kernel_rfl
theorem zzt:enters Tryd.prog 59=true:=by kernel_rfl
theorem zly:enters Tryd.prog 60=true:=by kernel_rfl
theorem zzu:enters Tryd.prog 61=true:=by kernel_rfl
theorem zzv:enters Tryd.prog 62=true:=by kernel_rfl
theorem zzw:enters Tryd.prog 63=true:=by kernel_rfl
theorem zzx:enters Tryd.prog 64=true:=by kernel_rfl
theorem zzy:enters Tryd.prog 65=true:=by kernel_rfl
theorem zlz:enters Tryd.prog 66=true:=by kernel_rfl
theorem zzz:enters Tryd.prog 67=true:=by kernel_rfl
theorem zzA:enters Tryd.prog 68=true:=by kernel_rfl
theorem zzB:enters Tryd.prog 69=true:=by kernel_rfl
theorem zzC:enters Tryd.prog 70=true:=by kernel_rfl
theorem zzD:enters Tryd.prog 71=true:=by kernel_rfl
theorem zzE:enters Tryd.prog 72=true:=by kernel_rfl
theorem zzF:enters Tryd.prog 73=true:=by kernel_rfl
theorem zzG:enters Tryd.prog 74=true:=by kernel_rfl
theorem zzH:enters Tryd.prog 75=true:=by kernel_rfl
theorem zzI:enters Tryd.prog 76=true:=by kernel_rfl
theorem zzJ:enters Tryd.prog 77=true:=by kernel_rfl
theorem zzK:enters Tryd.prog 78=true:=by kernel_rfl
theorem zzL:enters Tryd.prog 79=true:=by kernel_rfl
theorem zzM:enters Tryd.prog 80=true:=by kernel_rfl
theorem zzN:enters Tryd.prog 81=true:=by kernel_rfl
theorem zzO:enters Tryd.prog 82=true:=by kernel_rfl
theorem zzP:enters Tryd.prog 83=true:=by kernel_rfl
theorem zzQ:enters Tryd.prog 84=true:=by kernel_rfl
theorem zzR:enters Tryd.prog 85=true:=by kernel_rfl
theorem zzS:enters Tryd.prog 86=true:=by kernel_rfl
theorem zzT:enters Tryd.prog 87=true:=by kernel_rfl
theorem zzU:enters Tryd.prog 88=true:=by kernel_rfl
theorem zzV:enters Tryd.prog 89=false:=by kernel_rfl
theorem zNZ : ∀ args H, yn Tryd.prog 89 args H = vH (zaH "(runtime.boundsError).Error" args) H := fun _ _ => zT (by kernel_rfl)
theorem zzW:enters Tryd.prog 90=false:=by kernel_rfl
theorem zN0 : ∀ args H, yn Tryd.prog 90 args H = vH (zaH "(runtime.boundsError).RuntimeError" args) H := fun _ _ => zT (by kernel_rfl)
theorem zzX:enters Tryd.prog 91=false:=by kernel_rfl
theorem zN1 : ∀ args H, yn Tryd.prog 91 args H = vH (zaH "(runtime.errorString).Error" args) H := fun _ _ => zT (by kernel_rfl)
theorem zzY:enters Tryd.prog 92=false:=by kernel_rfl
theorem zN2 : ∀ args H, yn Tryd.prog 92 args H = vH (zaH "(runtime.errorString).RuntimeError" args) H := fun _ _ => zT (by kernel_rfl)
theorem zzZ:enters Tryd.prog 93=false:=by kernel_rfl
theorem zN3 : ∀ args H, yn Tryd.prog 93 args H = vH (zaH "(runtime.plainError).Error" args) H := fun _ _ => zT (by kernel_rfl)
theorem zz0:enters Tryd.prog 94=false:=by kernel_rfl
theorem zN4 : ∀ args H, yn Tryd.prog 94 args H = vH (zaH "(runtime.plainError).RuntimeError" args) H := fun _ _ => zT (by kernel_rfl)
theorem zz1:enters Tryd.prog 95=false:=by kernel_rfl
theorem zN5 : ∀ args H, yn Tryd.prog 95 args H = vH (zaH "(runtime.errorAddressString).Error" args) H := fun _ _ => zT (by kernel_rfl)
theorem zz2:enters Tryd.prog 96=false:=by kernel_rfl
theorem zN6 : ∀ args H, yn Tryd.prog 96 args H = vH (zaH "(runtime.errorAddressString).RuntimeError" args) H := fun _ _ => zT (by kernel_rfl)
theorem zz3:enters Tryd.prog 97=false:=by kernel_rfl
theorem zN7 : ∀ args H, yn Tryd.prog 97 args H = vH (zaH "(*runtime.TypeAssertionError).Error" args) H := fun _ _ => zT (by kernel_rfl)
theorem zz4:enters Tryd.prog 98=false:=by kernel_rfl
theorem zN8 : ∀ args H, yn Tryd.prog 98 args H = vH (zaH "(*runtime.TypeAssertionError).RuntimeError" args) H := fun _ _ => zT (by kernel_rfl)
theorem zz5:enters Tryd.prog 99=false:=by kernel_rfl
theorem zN9 : ∀ args H, yn Tryd.prog 99 args H = vH (zaH "(*runtime.PanicNilError).Error" args) H := fun _ _ => zT (by kernel_rfl)
theorem ztx:enters Tryd.prog 100=false:=by kernel_rfl
theorem zIl : ∀ args H, yn Tryd.prog 100 args H = vH (zaH "(*runtime.PanicNilError).RuntimeError" args) H := fun _ _ => zT (by kernel_rfl)
theorem zty:enters Tryd.prog 101=false:=by kernel_rfl
theorem zIm : ∀ args H, yn Tryd.prog 101 args H = vH (zaH "(*internal/abi.Type).Align" args) H := fun _ _ => zT (by kernel_rfl)
theorem ztz:enters Tryd.prog 102=false:=by kernel_rfl
theorem zIn : ∀ args H, yn Tryd.prog 102 args H = vH (zaH "(internal/runtime/maps.unhashableTypeError).Error" args) H := fun _ _ => zT (by kernel_rfl)
theorem ztA:enters Tryd.prog 103=false:=by kernel_rfl
theorem zIo : ∀ args H, yn Tryd.prog 103 args H = vH (zaH "(internal/runtime/maps.unhashableTypeError).RuntimeError" args) H := fun _ _ => zT (by kernel_rfl)
theorem ztB:enters Tryd.prog 104=false:=by kernel_rfl
theorem zIp : ∀ args H, yn Tryd.prog 104 args H = vH (zaH "(attestor/api.Errno).Error" args) H := fun _ _ => zT (by kernel_rfl)
theorem ztC:enters Tryd.prog 105=false:=by kernel_rfl
theorem zIq : ∀ args H, yn Tryd.prog 105 args H = vH (zaH "(internal/abi.Kind).String" args) H := fun _ _ => zT (by kernel_rfl)
theorem zhF:enters Tryd.prog 106=true:=by kernel_rfl
theorem zhG:enters Tryd.prog 107=true:=by kernel_rfl
theorem zhH:enters Tryd.prog 108=true:=by kernel_rfl
theorem zhI:enters Tryd.prog 109=true:=by kernel_rfl
theorem zhJ:enters Tryd.prog 110=true:=by kernel_rfl
theorem ztD:enters Tryd.prog 117=true:=by kernel_rfl
theorem zz6:zfg Tryd.prog 3=true:=by kernel_rfl
theorem zhK:zdf Tryd.prog 111=some (.p (.agg [i64 0,i64 0,.s .nilFunc])):=by kernel_rfl
theorem zqe:zdf Tryd.prog 3=some (.p (i64 0)):=by kernel_rfl
theorem follows:Tryd.prog.follows .mixedOrders=true:=by kernel_rfl
attribute [go_sem] zKY zPd zKZ zPe zvj zK0 zK1 cells2 zPf zK2 zJO zK3 zvk zK4 zK5 cells3 info3 bytes3 zPg zK6 zvl zK7 zK8 cells4 info4 bytes4 zPh zBP zvm zK9 zLa cells5 info5 bytes5 zJP zLb zvn zLc zLd zLe zPi zLf zPj zLg zvo zLh zLi zLj zPk zLk zPl zvp zvq zLl zLm zLn zPm zLo zPn isIface8 zvr zLp zLq cells9 info9 bytes9 zPo zvs zLr zLs zBQ zLt zBR zLu zr9 zBS zBT zBU zLv zBV zLw zsa zBW zBX zBY zLx zBZ zLy zB0 zsb zB1 zB2 zB3 zLz zB4 zLA zsc zpS zB5 zB6 zB7 zLB zB8 zLC zsd zpT zB9 zCa zCb zLD zCc zLE zse zCd zCe zCf zLF zCg zLG zsf zCh zCi zCj zLH zCk zLI zsg zCl zCm zCn zLJ zCo zLK zsh zpU zCp zCq zCr zLL zCs zLM zsi zpV zCt zCu cells20 zLN zCv zLO zsj zCw zCx cells21 info21 bytes21 zLP zCy zsk zCz zCA cells22 info22 zCB zLQ zCC zsl zpW zCD zCE cells23 info23 bytes23 zLR zCF zsm zpX zCG zCH cells24 info24 zCI zLS zsn zCJ zCK cells25 info25 bytes25 zLT zso zCL zCM cells26 info26 bytes26 zLU zsp zpY zCN zCO cells27 zLV bytes27 zvt zsq zpZ zCP zCQ cells28 zLW bytes28 zvu zsr zss zCR zCS cells29 zLX zCT zLY zst zCU zCV cells30 info30 bytes30 zLZ zsu zCW zCX cells31 info31 zCY zL0 zCZ zsv zC0 zC1 cells33 info33 zC2 zL1 zsw zC3 zC4 cells34 zL2 zC5 zL3 zsx zC6 zC7 cells35 zL4 zC8 zL5 zsy zC9 zDa cells36 zL6 zDb zL7 zsz zDc zDd cells37 zL8 zDe zL9 zsA zDf zDg cells38 zMa zDh zvv zsB zDi zDj cells39 zMb zDk zMc zsC zp0 zDl zDm cells40 zMd zDn zMe zsD zp1 zDo zDp cells41 zMf zDq zMg zsE zp2 zDr zDs cells42 zMh zDt zMi zsF zp3 zDu zDv cells43 zMj zDw zMk zsG zDx zDy cells44 zMl zDz zMm zsH zDA zDB zDC zMn zDD zMo zsI zDE zDF cells46 zMp zDG zMq zsJ zp4 zDH zDI cells47 zMr zDJ zvw zsK zp5 zDK zDL cells48 zMs zDM zMt zsL zDN zDO cells50 zMu zDP zMv zsM zDQ zDR cells51 zMw zDS zMx zsN zDT zDU zDV zMy zDW zMz zsO zDX zDY zDZ zMA zD0 zMB zsP zD1 zD2 cells55 zMC zD3 zMD zsQ zD4 zD5 zD6 zME zD7 zMF zsR zD8 zD9 zEa zMG zEb zMH zsS zEc zEd cells59 zMI zEe zMJ zsT zEf zEg cells60 zMK zEh zML zsU zEi zEj zp6 zMM zEk zMN zEl zsV zEm zEn cells62 zMO zEo zMP zsW zp7 zEp zEq ziT zMQ zEr zvx zsX zp8 zEs zEt zEu zMR zEv zMS zsY zEw zEx zEy zMT zEz zMU zsZ zEA zEB zEC zMV zED zMW zs0 zEE zEF zEG zMX zEH zMY zs1 zEI zEJ cells68 zMZ zEK zM0 zs2 zEL zEM cells69 zM1 zEN zM2 zs3 zEO zEP zEQ zM3 zER zM4 zs4 zES zET zEU zM5 zEV zM6 zs5 zEW zEX zEY zM7 zEZ zM8 zs6 zE0 zE1 zE2 zM9 zE3 zNa zs7 zE4 zE5 zE6 zNb zE7 zNc zs8 zE8 zE9 zFa zNd zFb zNe zs9 zFc zFd zFe zNf zFf zNg zta zFg zFh zFi zNh zFj zNi ztb zFk zFl zFm zNj zFn zNk ztc zFo zFp zFq zNl zFr zNm ztd zp9 zFs zFt zFu zNn zFv zNo zte zqa zFw zFx zFy zNp zFz zNq ztf zFA zFB zFC zNr zFD zNs ztg zFE zFF zFG zNt zFH zNu zth zFI zFJ cells85 zNv zFK zNw zti zFL zFM cells86 zNx zFN zNy ztj zFO zFP zFQ zNz zFR zNA ztk zqb zFS zFT zFU zNB zFV zNC ztl zFW zFX zFY zND zFZ zNE ztm zF0 zF1 zF2 zNF zF3 zNG ztn zF4 zF5 zF6 zNH zF7 zNI zto zF8 zF9 zGa zNJ zGb zNK ztp zGc zGd ziU zNL zGe zNM zGf ztq zGg zGh zqc zNN zGi zNO zGj ztr zqd zGk zGl zGm zNP zGn zNQ zts zGo zGp zGq zNR zGr zNS ztt zGs zGt zGu zNT zGv zNU ztu zGw zGx zGy zNV zGz zNW ztv zGA zGB zGC zNX zGD zNY ztw zGE zGF zvy zGG zvz zGH zob zvA zvB zvC zGI zvD zGJ zoc zvE zvF zvG zGK zvH zGL zod zvI zvJ zvK zGM zvL zGN zvM zoe zvN zvO zvP zGO zvQ zGP zof zvR zvS zvT zGQ zvU zGR zog zvV zvW zvX zGS zvY zGT zoh zvZ zv0 zv1 zGU zv2 zGV zoi zv3 zv4 zv5 zGW zv6 zGX zoj zv7 zv8 zlk zGY zv9 zGZ zok zwa zwb zwc zG0 zwd zG1 zol zll zwe zwf zga zG2 zwg zG3 zom zlm zwh zwi zwj zG4 zwk zG5 zon zwl zwm zwn zG6 zwo zG7 zoo zwp zwq zwr zG8 zws zG9 zop zwt zwu zwv zHa zww zHb zwx zoq zln zwy zwz zwA zHc zwB zHd zor zwC zwD zwE zHe zwF zHf zos zwG zwH zwI zHg zwJ zHh zot zwK zwL zwM zHi zwN zHj zou zwO zwP zlo zHk zwQ zHl zwR zov zlp zwS zwT zwU zHm zwV zHn zow zwW zwX zwY zHo zwZ zHp zox zw0 zw1 zw2 zHq zw3 zHr zoy zw4 zw5 zw6 zHs zw7 zHt zoz zw8 zw9 zxa zHu zxb zHv zoA zxc zxd zxe zHw zxf zHx zoB zxg zxh zxi zHy zxj zHz zoC zxk zxl zxm zHA zxn zHB zoD zxo zxp zxq zHC zxr zHD zoE zxs zxt zxu zHE zxv zHF zoF zxw zxx zxy zHG zxz zHH zoG zxA zxB zxC zHI zxD zHJ zoH zxE zxF zxG zHK zxH zHL zoI zlq zxI zxJ zxK zHM zxL zHN zoJ zlr zxM zxN zxO zHO zxP zHP zoK zls zxQ zxR zxS zHQ zxT zHR zoL zlt zxU zxV zxW zHS zxX zHT zoM zlu zxY zxZ zx0 zHU zx1 zHV zoN zx2 zx3 zx4 zHW zx5 zHX zx6 zoO zx7 zx8 zx9 zHY zya zHZ zyb zoP zyc zyd zye zH0 zyf zH1 zoQ zyg zyh zyi zH2 zyj zH3 zoR zyk zyl zym zH4 zyn zH5 zyo zoS zyp zyq zyr zH6 zys zH7 zyt zoT zyu zyv zyw zH8 zyx zH9 zoU zlv zyy zyz zyA zIa zyB zIb zoV zlw zyC zyD zyE zIc zyF zId zoW zyG zyH zIe zPp enters1 zPq enters2 enters3 zIf zIg zIh zIi zIj zIk zyI zyJ zyK zyL zyM zyN zyO zyP zyQ zyR zyS zyT zyU zyV zyW zyX zyY zyZ zy0 zy1 zy2 zy3 zlx zy4 zy5 zy6 zy7 zy8 zy9 zza zzb zzc zzd zze zzf zzg zzh zzi zzj zgb zzk zzl zzm zzn zzo zzp zzq zzr zzs zzt zly zzu zzv zzw zzx zzy zlz zzz zzA zzB zzC zzD zzE zzF zzG zzH zzI zzJ zzK zzL zzM zzN zzO zzP zzQ zzR zzS zzT zzU zzV zNZ zzW zN0 zzX zN1 zzY zN2 zzZ zN3 zz0 zN4 zz1 zN5 zz2 zN6 zz3 zN7 zz4 zN8 zz5 zN9 ztx zIl zty zIm ztz zIn ztA zIo ztB zIp ztC zIq zhF zhG zhH zhI zhJ ztD zz6 zhK zqe
attribute [go_sem] Tryd.underlying1 Tryd.underlying2 Tryd.underlying3 Tryd.underlying4 Tryd.underlying5 Tryd.underlying6 Tryd.underlying7 Tryd.underlying8 Tryd.underlying9 Tryd.underlying10 Tryd.underlying11 Tryd.underlying12 Tryd.underlying13 Tryd.underlying14 Tryd.underlying15 Tryd.underlying16 Tryd.underlying17 Tryd.underlying18 Tryd.underlying19 Tryd.underlying20 Tryd.underlying21 Tryd.underlying22 Tryd.underlying23 Tryd.underlying24 Tryd.underlying25 Tryd.underlying26 Tryd.underlying27 Tryd.underlying28 Tryd.underlying29 Tryd.underlying30 Tryd.underlying31 Tryd.underlying33 Tryd.underlying34 Tryd.underlying35 Tryd.underlying36 Tryd.underlying37 Tryd.underlying38 Tryd.underlying39 Tryd.underlying40 Tryd.underlying41 Tryd.underlying42 Tryd.underlying43 Tryd.underlying44 Tryd.underlying45 Tryd.underlying46 Tryd.underlying47 Tryd.underlying48 Tryd.underlying50 Tryd.underlying51 Tryd.underlying52 Tryd.underlying54 Tryd.underlying55 Tryd.underlying56 Tryd.underlying57 Tryd.underlying59 Tryd.underlying60 Tryd.underlying61 Tryd.underlying62 Tryd.underlying63 Tryd.underlying64 Tryd.underlying65 Tryd.underlying66 Tryd.underlying67 Tryd.underlying68 Tryd.underlying69 Tryd.underlying70 Tryd.underlying72 Tryd.underlying73 Tryd.underlying74 Tryd.underlying75 Tryd.underlying76 Tryd.underlying77 Tryd.underlying78 Tryd.underlying79 Tryd.underlying80 Tryd.underlying81 Tryd.underlying82 Tryd.underlying83 Tryd.underlying84 Tryd.underlying85 Tryd.underlying86 Tryd.underlying87 Tryd.underlying88 Tryd.underlying89 Tryd.underlying90 Tryd.underlying91 Tryd.underlying92 Tryd.underlying93 Tryd.underlying94 Tryd.underlying95 Tryd.underlying96 Tryd.underlying97 Tryd.underlying98 Tryd.underlying99 Tryd.underlying100 Tryd.underlying101 Tryd.underlying102 Tryd.underlying103 Tryd.underlying104 Tryd.underlying105 Tryd.underlying106 Tryd.underlying107 Tryd.underlying108 Tryd.underlying109 Tryd.underlying110 Tryd.underlying111 Tryd.underlying112 Tryd.underlying113 Tryd.underlying114 Tryd.underlying115 Tryd.underlying116 Tryd.underlying117 Tryd.underlying118 Tryd.underlying120 Tryd.underlying121 Tryd.underlying122 Tryd.underlying123 Tryd.underlying124 Tryd.underlying125 Tryd.underlying126 Tryd.underlying127 Tryd.underlying128 Tryd.underlying129 Tryd.underlying130 Tryd.underlying131 Tryd.underlying132 Tryd.underlying133 Tryd.underlying134 Tryd.underlying135 Tryd.underlying136 Tryd.underlying137 Tryd.underlying138 Tryd.underlying139 Tryd.underlying140 Tryd.underlying141 Tryd.underlying142 Tryd.underlying143 Tryd.underlying144 Tryd.underlying145 Tryd.underlying146 Tryd.underlying147 Tryd.underlying148

end Go.Proofs.YtmoecjgehdkhkaaDoor

/-
  The walk of slices.Clone.
-/
namespace Go.Proofs.YtmoecjgehdkhkaaDoor
open Go Go.AL

set_option maxHeartbeats 4000000 in
theorem zoX {G:Globs} (a:List (BitVec 8)) (ha:a.length≤140737488355000) (H:Hp) (R:AV → Hp → Prop) (h:R (.sl H.n 0 1 (pl b8 a)) (H.new (.tail 0))) :
 ACall Tryd.prog G 82 [.p (.sl false 1 (pl b8 a))] H R:=by
 refine ACall.of_run (raw:=[]) Tryd.func82 rfl Tryd.ntmps82 (by simp) fun hbel => ?_
 (refine .q ?_);refine .text ?_;simp (disch:=first|exact zb|fail) only [go_sem,seval]
 refine .q ?_
 refine .region (.one rfl (by simp (disch:=first|exact zb|fail) only [go_sem,seval];rfl) rfl ?_)
 refine .isNil (e:=5) Tryd.underlying28 (xs:=pl b8 a) (fl:=false) (sz:=1) (by simp (disch:=first|exact zb|fail) only [go_sem,seval]) rfl fun b hb => .nil ?_
 cases b with
 | true =>
  have ha0:a=[]:=by have:=hb rfl;cases a with | nil=>rfl | cons x l=>cases this
  subst ha0
  (refine .q ?_);refine .ifT (by simp (disch:=first|exact zb|fail) only [go_sem,seval]) ?_
  (refine .q ?_);refine .text ?_;simp (disch:=first|exact zb|fail) only [go_sem,seval]
  (refine .q ?_);refine .own 2 (by simp (disch:=first|exact zb|fail) only [go_sem,seval];rfl) ?_
  (refine .q ?_);refine .retOwn Tryd.func82 (by rw [Tryd.results82]) (by simp (disch:=first|exact zb|fail) only [go_sem,seval];rfl) (by simp (disch:=first|exact zb|fail) only [go_sem,seval]) (by first | exact Nat.le_refl _ | (dsimp only;omega)) (by (try dsimp only);repeat (first | with_reducible refine zy ?_ zb | with_reducible refine zan ?_ zb | with_reducible refine za1 ?_ zb | with_reducible refine zaf ?_ | with_reducible exact hbel | with_reducible exact hbel _)) ?_;simp (disch:=first|exact zb|fail) only [go_sem,seval]
  exact h
 | false =>
  (refine .q ?_);refine .ifF (by simp (disch:=first|exact zb|fail) only [go_sem,seval]) ?_
  (refine .q ?_);refine .text ?_;simp (disch:=first|exact zb|fail) only [go_sem,seval]
  (refine .q ?_);refine .retOwn Tryd.func82 (by rw [Tryd.results82]) (by simp (disch:=first|exact zb|fail) only [go_sem,seval];rfl) (by simp (disch:=first|exact zb|fail) only [go_sem,seval]) (by first | exact Nat.le_refl _ | (dsimp only;omega)) (by (try dsimp only);repeat (first | with_reducible refine zy ?_ zb | with_reducible refine zan ?_ zb | with_reducible refine za1 ?_ zb | with_reducible refine zaf ?_ | with_reducible exact hbel | with_reducible exact hbel _)) ?_;simp (disch:=first|exact zb|fail) only [go_sem,seval]
  exact h

end Go.Proofs.YtmoecjgehdkhkaaDoor

/-
  SHA-256's round and schedule as plain functions on words.
-/
namespace Go.Proofs.YtmoecjgehdkhkaaDoor
open Go Go.AL

def zdH (x:BitVec 32) (n:Nat):BitVec 32:=x >>> n ||| x <<< (32 - n)
def sg0 (x:BitVec 32):BitVec 32:=zdH x 7 ^^^ zdH x 18 ^^^ x >>> 3
def sg1 (x:BitVec 32):BitVec 32:=zdH x 17 ^^^ zdH x 19 ^^^ x >>> 10
def bg0 (x:BitVec 32):BitVec 32:=zdH x 2 ^^^ zdH x 13 ^^^ zdH x 22
def bg1 (x:BitVec 32):BitVec 32:=zdH x 6 ^^^ zdH x 11 ^^^ zdH x 25

def word (b:List (BitVec 8)) (i:Nat):BitVec 32:=(nth b (4*i)).setWidth 32*16777216#32+(nth b (4*i+1)).setWidth 32*65536#32+(nth b (4*i+2)).setWidth 32*256#32+(nth b (4*i+3)).setWidth 32

def zlA (b:List (BitVec 8)) (w:List (BitVec 32)) (i:Nat):BitVec 32:=if i < 16 then word b i else nth w (i - 16)+sg0 (nth w (i - 15))+nth w (i - 7)+sg1 (nth w (i - 2))

def sW (b:List (BitVec 8)):Nat → List (BitVec 32)
 | 0=>List.replicate 64 0#32
 | i+1=>(sW b i).set i (zlA b (sW b i) i)

theorem zgc (b:List (BitVec 8)) (i:Nat):(sW b i).length=64:=by
 induction i with
 | zero=>simp [sW]
 | succ i ih=>simp [sW,ih]

attribute [go_sem] zgc

def ks:List (BitVec 32):=[
 0x428a2f98#32,0x71374491#32,0xb5c0fbcf#32,0xe9b5dba5#32,0x3956c25b#32,0x59f111f1#32,0x923f82a4#32,0xab1c5ed5#32,
 0xd807aa98#32,0x12835b01#32,0x243185be#32,0x550c7dc3#32,0x72be5d74#32,0x80deb1fe#32,0x9bdc06a7#32,0xc19bf174#32,
 0xe49b69c1#32,0xefbe4786#32,0x0fc19dc6#32,0x240ca1cc#32,0x2de92c6f#32,0x4a7484aa#32,0x5cb0a9dc#32,0x76f988da#32,
 0x983e5152#32,0xa831c66d#32,0xb00327c8#32,0xbf597fc7#32,0xc6e00bf3#32,0xd5a79147#32,0x06ca6351#32,0x14292967#32,
 0x27b70a85#32,0x2e1b2138#32,0x4d2c6dfc#32,0x53380d13#32,0x650a7354#32,0x766a0abb#32,0x81c2c92e#32,0x92722c85#32,
 0xa2bfe8a1#32,0xa81a664b#32,0xc24b8b70#32,0xc76c51a3#32,0xd192e819#32,0xd6990624#32,0xf40e3585#32,0x106aa070#32,
 0x19a4c116#32,0x1e376c08#32,0x2748774c#32,0x34b0bcb5#32,0x391c0cb3#32,0x4ed8aa4a#32,0x5b9cca4f#32,0x682e6ff3#32,
 0x748f82ee#32,0x78a5636f#32,0x84c87814#32,0x8cc70208#32,0x90befffa#32,0xa4506ceb#32,0xbef9a3f7#32,0xc67178f2#32]
def inits:List (BitVec 32):=[0x6a09e667#32,0xbb67ae85#32,0x3c6ef372#32,0xa54ff53a#32,0x510e527f#32,0x9b05688c#32,0x1f83d9ab#32,0x5be0cd19#32]

structure St where
 (a b c d e f g h:BitVec 32)

def rnd (s:St) (k w:BitVec 32):St :=
 let t:=s.h+bg1 s.e+(s.e &&& s.f ^^^ (4294967295#32 - s.e) &&& s.g)+k+w
 let u:=bg0 s.a+(s.a &&& s.b ||| s.a &&& s.c ||| s.b &&& s.c)
 ⟨t+u,s.a,s.b,s.c,s.d+t,s.e,s.f,s.g⟩
def zcO (w:List (BitVec 32)) (s:St):Nat → St
 | 0=>s
 | i+1=>rnd (zcO w s i) (nth ks i) (nth w i)
def st (s:List (BitVec 32)):St:=⟨nth s 0,nth s 1,nth s 2,nth s 3,nth s 4,nth s 5,nth s 6,nth s 7⟩
def fin (s:List (BitVec 32)) (z:St):List (BitVec 32):=[nth s 0+z.a,nth s 1+z.b,nth s 2+z.c,nth s 3+z.d,nth s 4+z.e,nth s 5+z.f,nth s 6+z.g,nth s 7+z.h]
def comp (s:List (BitVec 32)) (b:List (BitVec 8)):List (BitVec 32):=fin s (zcO (sW b 64) (st s) 64)
end Go.Proofs.YtmoecjgehdkhkaaDoor

/-
  The walks of the functions that compute one round: rotations,the tables.
-/
namespace Go.Proofs.YtmoecjgehdkhkaaDoor
open Go Go.AL

theorem yF {G:Globs} (x:BitVec 32) (n:Nat) (hn:n≤32) (H:Hp) (R:AV → Hp → Prop) (h:R (.p (zF (zdH x n))) H):ACall Tryd.prog G 75 [.p (zF x),.p (i64 n)] H R:=by
 refine ACall.of_run (raw:=[]) Tryd.func75 rfl Tryd.ntmps75 (by simp) fun hbel => ?_
 have e:(32 - (n:Int)).toNat=32 - n:=by omega
 (refine .q ?_);refine .text ?_;simp (disch:=first|exact zb|fail) only [go_sem,seval]
 (refine .q ?_);refine .open [] follows (by kernel_rfl) ?_;simp (disch:=first|exact zb|fail) only [go_sem,seval,e]
 (refine .q ?_);refine .rt Tryd.func75 (by rw [Tryd.results75]) (hR := ?_);simp (disch:=first|exact zb|fail) only [go_sem,seval]
 exact h

theorem zZ {G:Globs} (x:BitVec 32) (n:Int) (m:Nat) (hm:BitVec.ofInt 64 n &&& 31#64=BitVec.ofNat 64 m) (h1:m≤32) (H:Hp) (R:AV → Hp → Prop) (h:R (.p (zF (zdH x (32 - m)))) H):ACall Tryd.prog G 84 [.p (zF x),.p (i64 n)] H R:=by
 have e1:(BitVec.ofNat 64 m).toNat=m:=by simp;omega
 have e2:(32#64 - BitVec.ofNat 64 m).toNat=32 - m:=by simp;omega
 refine ACall.of_run (raw:=[]) Tryd.func84 rfl Tryd.ntmps84 (by simp) fun hbel => ?_
 (refine .q ?_);refine .text ?_;simp (disch:=first|exact zb|fail) only [go_sem,seval]
 (refine .q ?_);refine .text ?_;simp (disch:=first|exact zb|fail) only [go_sem,seval]
 (refine .q ?_);refine .text ?_;simp (disch:=first|exact zb|fail) only [go_sem,seval,hm,e1,e2]
 (refine .q ?_);refine .rt Tryd.func84 (by rw [Tryd.results84]) (hR := ?_);simp (disch:=first|exact zb|fail) only [go_sem,seval]
 have e:x <<< m ||| x >>> (32 - m)=zdH x (32 - m):=by
  unfold zdH
  rw [show 32 - (32 - m)=m by omega,BitVec.or_comm]
 rw [e]
 exact h

end Go.Proofs.YtmoecjgehdkhkaaDoor

/-
  The walk of the reference's schedule.
-/
namespace Go.Proofs.YtmoecjgehdkhkaaDoor
open Go Go.AL

set_option maxHeartbeats 4000000 in
theorem zlB {G:Globs} (b:List (BitVec 8)) (hb:b.length=64) (H:Hp) (R:AV → Hp → Prop) (h:R (.p (.agg (pl zF (sW b 64)))) H):ACall Tryd.prog G 73 [.p (.sl false 1 (pl b8 b))] H R:=by
 refine ACall.of_run (raw:=[]) Tryd.func73 rfl Tryd.ntmps73 (by simp) fun hbel => ?_
 (refine .q ?_);refine .text ?_;simp (disch:=first|exact zb|fail) only [go_sem,seval,-List.reduceReplicate]
 (refine .q ?_);refine .text ?_;simp (disch:=first|exact zb|fail) only [go_sem,seval,-List.reduceReplicate]
 (refine .q ?_);refine .text ?_;simp (disch:=first|exact zb|fail) only [go_sem,seval,-List.reduceReplicate]
 refine .q ?_
 refine .count (fun i env H'=>env 0 = .p (.sl false 1 (pl b8 b))∧env 2 = .ptr H.n 0∧env 3 = .ptr (H.n+1) 0∧env 4 = .p (i64 i)∧H'=(H.new (.cells (cl zF (List.replicate 64 0#32)))).new (.cells (cl zF (sW b i)))) 0 64 (by omega) ?_ ?_ ?_
 · simp (disch:=first|exact zb|fail) only [go_sem,seval,-List.reduceReplicate]
   rw [sW]
 · intro env H' ⟨e0,e2,e3,e4,eH⟩
   subst eH
   (refine .q ?_);refine .text ?_;simp (disch:=first|exact zb|fail) only [go_sem,seval,-List.reduceReplicate,e0,e2,e3,e4]
   (refine .q ?_);refine .ifF (by simp (disch:=first|exact zb|fail) only [go_sem,seval,-List.reduceReplicate]) ?_
   (refine .q ?_);refine .text ?_;simp (disch:=first|exact zb|fail) only [go_sem,seval,-List.reduceReplicate,e0,e2,e3,e4]
   (refine .q ?_);refine .rt Tryd.func73 (by rw [Tryd.results73]) (hx:=by simp (disch:=first|exact zb|fail) only [go_sem,seval,-List.reduceReplicate,e0,e2,e3,e4];rfl) (hR := ?_);simp (disch:=first|exact zb|fail) only [go_sem,seval,-List.reduceReplicate,e0,e2,e3,e4]
   exact h
 · intro i env H' _ hi ⟨e0,e2,e3,e4,eH⟩ ih
   subst eH
   (refine .q ?_);refine .text ?_;simp (disch:=first|exact zb|fail) only [go_sem,seval,-List.reduceReplicate,e0,e2,e3,e4]
   (refine .q ?_);refine .ifT (by simp (disch:=first|exact zb|fail) only [go_sem,seval,-List.reduceReplicate]) ?_
   (refine .q ?_);refine .text ?_;simp (disch:=first|exact zb|fail) only [go_sem,seval,-List.reduceReplicate,e0,e2,e3,e4]
   by_cases hi16:i < 16
   · (refine .q ?_);refine .ifT (by simp (disch:=first|exact zb|fail) only [go_sem,seval,-List.reduceReplicate]) ?_
     (refine .q ?_);refine .open [35] follows (by kernel_rfl) ?_;simp (disch:=first|exact zb|fail) only [go_sem,seval,-List.reduceReplicate,e0,e2,e3,e4]
     (refine .q ?_);refine .text ?_;simp (disch:=first|exact zb|fail) only [go_sem,seval,-List.reduceReplicate,e0,e2,e3,e4]
     refine ih _ _ ?_
     simp (disch:=first|exact zb|fail) only [go_sem,seval,-List.reduceReplicate,e0,e2,e3,e4]
     simp only [sW,zlA,if_pos hi16,word]
   · (refine .q ?_);refine .ifF (by simp (disch:=first|exact zb|fail) only [go_sem,seval,-List.reduceReplicate]) ?_
     (refine .q ?_);refine .open [] follows (by kernel_rfl) ?_;simp (disch:=first|exact zb|fail) only [go_sem,seval,-List.reduceReplicate,e0,e2,e3,e4]
     (refine .q ?_);refine .open [29] follows (by kernel_rfl) ?_;simp (disch:=first|exact zb|fail) only [go_sem,seval,-List.reduceReplicate,e0,e2,e3,e4]
     refine CallD.still (fun R h=>yF _ 7 (by omega) _ R h) ?_;simp (disch:=first|exact zb|fail) only [go_sem,seval,-List.reduceReplicate,e0,e2,e3,e4]
     refine CallD.still (fun R h=>yF _ 18 (by omega) _ R h) ?_;simp (disch:=first|exact zb|fail) only [go_sem,seval,-List.reduceReplicate,e0,e2,e3,e4]
     refine CallD.still (fun R h=>yF _ 17 (by omega) _ R h) ?_;simp (disch:=first|exact zb|fail) only [go_sem,seval,-List.reduceReplicate,e0,e2,e3,e4]
     refine CallD.still (fun R h=>yF _ 19 (by omega) _ R h) ?_;simp (disch:=first|exact zb|fail) only [go_sem,seval,-List.reduceReplicate,e0,e2,e3,e4]
     (refine .q ?_);refine .text ?_;simp (disch:=first|exact zb|fail) only [go_sem,seval,-List.reduceReplicate,e0,e2,e3,e4]
     refine ih _ _ ?_
     simp (disch:=first|exact zb|fail) only [go_sem,seval,-List.reduceReplicate,e0,e2,e3,e4]
     simp only [sW,zlA,if_neg hi16,sg0,sg1]

end Go.Proofs.YtmoecjgehdkhkaaDoor

/-
  The walks of the reference's tables and of its compression of one block.
-/
namespace Go.Proofs.YtmoecjgehdkhkaaDoor
open Go Go.AL

set_option maxHeartbeats 4000000 in
theorem zgd {G:Globs} (H:Hp) (R:AV → Hp → Prop) (h:R (.p (.agg (pl zF ks))) H):ACall Tryd.prog G 74 [] H R:=by
 refine ACall.of_run (raw:=[]) Tryd.func74 rfl Tryd.ntmps74 (by simp) fun hbel => ?_
 (refine .q ?_);refine .text ?_;simp (disch:=first|exact zb|fail) only [go_sem,seval,-List.reduceReplicate]
 (refine .q ?_);refine .text ?_;simp (disch:=first|exact zb|fail) only [go_sem,seval,-List.reduceReplicate,yc]
 (refine .q ?_);refine .rt Tryd.func74 (by rw [Tryd.results74]) (hR := ?_);simp (disch:=first|exact zb|fail) only [go_sem,seval,-List.reduceReplicate]
 exact h

set_option maxHeartbeats 4000000 in
theorem ziV {G:Globs} (H:Hp) (R:AV → Hp → Prop) (h:R (.p (.agg (pl zF inits))) H):ACall Tryd.prog G 55 [] H R:=by
 refine ACall.of_run (raw:=[]) Tryd.func55 rfl Tryd.ntmps55 (by simp) fun hbel => ?_
 (refine .q ?_);refine .text ?_;simp (disch:=first|exact zb|fail) only [go_sem,seval,-List.reduceReplicate]
 (refine .q ?_);refine .text ?_;simp (disch:=first|exact zb|fail) only [go_sem,seval,-List.reduceReplicate,yc]
 (refine .q ?_);refine .rt Tryd.func55 (by rw [Tryd.results55]) (hR := ?_);simp (disch:=first|exact zb|fail) only [go_sem,seval,-List.reduceReplicate]
 exact h

set_option maxHeartbeats 8000000 in
theorem zg6 {G:Globs} (s:List (BitVec 32)) (b:List (BitVec 8)) (hs:s.length=8) (hb:b.length=64) (H:Hp) (R:AV → Hp → Prop) (h:R (.p (.agg (pl zF (comp s b)))) H) :
 ACall Tryd.prog G 57 [.p (.agg (pl zF s)),.p (.sl false 1 (pl b8 b))] H R:=by
 refine ACall.of_run (raw:=[]) Tryd.func57 rfl Tryd.ntmps57 (by simp) fun hbel => ?_
 have hk:ks.length=64:=rfl
 have hw:(sW b 64).length=64:=zgc _ _
 generalize hW:sW b 64=W at hw
 (refine .q ?_);refine .text ?_;simp (disch:=first|exact zb|fail) only [go_sem,seval,-List.reduceReplicate]
 (refine .q ?_);refine .text ?_;simp (disch:=first|exact zb|fail) only [go_sem,seval,-List.reduceReplicate]
 refine CallK.of (fun R h=>zlB b hb _ R h) ?_;simp (disch:=first|exact zb|fail) only [go_sem,seval,-List.reduceReplicate]
 refine CallK.of (fun R h=>zgd _ R h) ?_;simp (disch:=first|exact zb|fail) only [go_sem,seval,-List.reduceReplicate,hW]
 (refine .q ?_);refine .open [] follows (by kernel_rfl) ?_;simp (disch:=first|exact zb|fail) only [go_sem,seval,-List.reduceReplicate]
 (refine .q ?_);refine .open [] follows (by kernel_rfl) ?_;simp (disch:=first|exact zb|fail) only [go_sem,seval,-List.reduceReplicate]
 (refine .q ?_);refine .text ?_;simp (disch:=first|exact zb|fail) only [go_sem,seval,-List.reduceReplicate]
 refine .q ?_
 refine .count (fun i env H'=>env 4 = .ptr (H.n+1) 0∧env 2 = .ptr H.n 0∧env 5 = .ptr (H.n+2) 0∧env 6 = .ptr (H.n+3) 0∧env 15 = .p (i64 i) ∧
  env 7 = .p (zF (zcO W (st s) i).a)∧env 8 = .p (zF (zcO W (st s) i).b)∧env 9 = .p (zF (zcO W (st s) i).c)∧env 10 = .p (zF (zcO W (st s) i).d) ∧
  env 11 = .p (zF (zcO W (st s) i).e)∧env 12 = .p (zF (zcO W (st s) i).f)∧env 13 = .p (zF (zcO W (st s) i).g)∧env 14 = .p (zF (zcO W (st s) i).h) ∧
  H'=(((H.new (.cells (cl zF s))).new (.cells (cl zF (List.replicate 8 0#32)))).new (.cells (cl zF W))).new (.cells (cl zF ks))) 0 64 (by omega) ?_ ?_ ?_
 · simp (disch:=first|exact zb|fail) only [go_sem,seval,-List.reduceReplicate]
   simp only [zcO,st,and_self]
 · intro env H' ⟨e4,e2,e5,e6,e15,e7,e8,e9,e10,e11,e12,e13,e14,eH⟩
   subst eH
   (refine .q ?_);refine .text ?_;simp (disch:=first|exact zb|fail) only [go_sem,seval,-List.reduceReplicate,e15]
   (refine .q ?_);refine .ifF (by simp (disch:=first|exact zb|fail) only [go_sem,seval,-List.reduceReplicate]) ?_
   (refine .q ?_);refine .text ?_;simp (disch:=first|exact zb|fail) only [go_sem,seval,-List.reduceReplicate,e2,e4,e7,e8,e9,e10,e11,e12,e13,e14,yc]
   (refine .q ?_);refine .rt Tryd.func57 (by rw [Tryd.results57]) (hx:=by simp (disch:=first|exact zb|fail) only [go_sem,seval,-List.reduceReplicate,e4];rfl) (hR := ?_);simp (disch:=first|exact zb|fail) only [go_sem,seval,-List.reduceReplicate,e4]
   unfold comp fin at h
   rw [hW] at h
   exact h
 · intro i env H' _ hi ⟨e4,e2,e5,e6,e15,e7,e8,e9,e10,e11,e12,e13,e14,eH⟩ ih
   subst eH
   (refine .q ?_);refine .text ?_;simp (disch:=first|exact zb|fail) only [go_sem,seval,-List.reduceReplicate,e15]
   (refine .q ?_);refine .ifT (by simp (disch:=first|exact zb|fail) only [go_sem,seval,-List.reduceReplicate]) ?_
   (refine .q ?_);refine .open [] follows (by kernel_rfl) ?_;simp (disch:=first|exact zb|fail) only [go_sem,seval,-List.reduceReplicate,e2,e4,e5,e6,e7,e8,e9,e10,e11,e12,e13,e14,e15]
   refine CallD.still (fun R h=>yF _ 6 (by omega) _ R h) ?_;simp (disch:=first|exact zb|fail) only [go_sem,seval,-List.reduceReplicate,e2,e4,e5,e6,e7,e8,e9,e10,e11,e12,e13,e14,e15]
   refine CallD.still (fun R h=>yF _ 11 (by omega) _ R h) ?_;simp (disch:=first|exact zb|fail) only [go_sem,seval,-List.reduceReplicate,e2,e4,e5,e6,e7,e8,e9,e10,e11,e12,e13,e14,e15]
   refine CallD.still (fun R h=>yF _ 25 (by omega) _ R h) ?_;simp (disch:=first|exact zb|fail) only [go_sem,seval,-List.reduceReplicate,e2,e4,e5,e6,e7,e8,e9,e10,e11,e12,e13,e14,e15]
   (refine .q ?_);refine .text ?_;simp (disch:=first|exact zb|fail) only [go_sem,seval,-List.reduceReplicate,e2,e4,e5,e6,e7,e8,e9,e10,e11,e12,e13,e14,e15]
   refine CallK.of (fun R h=>yF _ 2 (by omega) _ R h) ?_;simp (disch:=first|exact zb|fail) only [go_sem,seval,-List.reduceReplicate,e2,e4,e5,e6,e7,e8,e9,e10,e11,e12,e13,e14,e15]
   refine CallK.of (fun R h=>yF _ 13 (by omega) _ R h) ?_;simp (disch:=first|exact zb|fail) only [go_sem,seval,-List.reduceReplicate,e2,e4,e5,e6,e7,e8,e9,e10,e11,e12,e13,e14,e15]
   refine CallK.of (fun R h=>yF _ 22 (by omega) _ R h) ?_;simp (disch:=first|exact zb|fail) only [go_sem,seval,-List.reduceReplicate,e2,e4,e5,e6,e7,e8,e9,e10,e11,e12,e13,e14,e15]
   (refine .q ?_);refine .text ?_;simp (disch:=first|exact zb|fail) only [go_sem,seval,-List.reduceReplicate,e13]
   (refine .q ?_);refine .text ?_;simp (disch:=first|exact zb|fail) only [go_sem,seval,-List.reduceReplicate,e12]
   (refine .q ?_);refine .text ?_;simp (disch:=first|exact zb|fail) only [go_sem,seval,-List.reduceReplicate,e11]
   (refine .q ?_);refine .text ?_;simp (disch:=first|exact zb|fail) only [go_sem,seval,-List.reduceReplicate,e10]
   (refine .q ?_);refine .text ?_;simp (disch:=first|exact zb|fail) only [go_sem,seval,-List.reduceReplicate,e9]
   (refine .q ?_);refine .text ?_;simp (disch:=first|exact zb|fail) only [go_sem,seval,-List.reduceReplicate,e8]
   (refine .q ?_);refine .text ?_;simp (disch:=first|exact zb|fail) only [go_sem,seval,-List.reduceReplicate,e7]
   (refine .q ?_);refine .text ?_;simp (disch:=first|exact zb|fail) only [go_sem,seval,-List.reduceReplicate,e7]
   (refine .q ?_);refine .text ?_;simp (disch:=first|exact zb|fail) only [go_sem,seval,-List.reduceReplicate,e15]
   refine ih _ _ ?_
   simp (disch:=first|exact zb|fail) only [go_sem,seval,-List.reduceReplicate,e2,e4,e5,e6,e7,e8,e9,e10,e11,e12,e13,e14,e15]
   simp only [zcO,rnd,bg0,bg1,and_self]

end Go.Proofs.YtmoecjgehdkhkaaDoor

/-
  The plain laws of the words: how a word is put together of four bytes;choice and majority.
-/
namespace Go.Proofs.YtmoecjgehdkhkaaDoor
open Go Go.AL

theorem zIr (x:BitVec 32) (y:BitVec 8):x <<< 8 ||| y.setWidth 32=x*256#32+y.setWidth 32:=by
 have e:x*256#32=x <<< 8:=by
  rw [BitVec.shiftLeft_eq_mul_twoPow];rfl
 rw [e]
 symm
 apply BitVec.add_eq_or_of_and_eq_zero
 ext i hi
 simp only [BitVec.getElem_and,BitVec.getElem_shiftLeft,BitVec.getElem_setWidth,BitVec.getElem_zero]
 by_cases h:i < 8
 · simp [h]
 · simp [h,BitVec.getLsbD_of_ge y i (by omega)]

def part (b:List (BitVec 8)) (i:Nat):Nat → BitVec 32
 | 0=>0#32
 | j+1=>part b i j <<< 8 ||| (nth b (4*i+j)).setWidth 32

theorem ztE (b:List (BitVec 8)) (i:Nat):part b i 4=word b i:=by
 simp only [part,zIr,word,BitVec.add_mul,BitVec.mul_assoc,Nat.add_zero,BitVec.zero_mul,BitVec.zero_add]
 rfl

theorem zqf (b:List (BitVec 8)) : ∀ (i j:Nat),i≤j → j < 64 → nth (sW b i) j=0#32
 | 0,j,_,hj=>zgZ hj
 | i+1,j,h,hj=>by rw [sW,zfX (by omega)];exact zqf b i j (by omega) hj

theorem zIs {α:Type} [Inhabited α] {l:List α} {i:Nat} (h:i < l.length):l.set i (nth l i)=l:=by
 refine ziA (by simp) fun j hj => ?_
 by_cases e:i=j
 · subst e;rw [zfW rfl h]
 · rw [zfX e]

theorem zz7 (b:List (BitVec 8)) (i:Nat) (h:i < 64):(sW b i).set i (part b i 0)=sW b i:=by
 have:=zIs (l:=sW b i) (i:=i) (by rw [zgc];exact h)
 rwa [zqf b i i (Nat.le_refl _) h] at this

theorem zz8 (b:List (BitVec 8)) (i:Nat) (h:i < 16):(sW b i).set i (part b i 4)=sW b (i+1):=by
 rw [ztE,sW,zlA,if_pos h]

theorem zIt (e:BitVec 32) : ~~~e=4294967295#32 - e:=by
 rw [show (4294967295#32:BitVec 32)=BitVec.allOnes 32 from rfl,BitVec.allOnes_sub_eq_not]
theorem zOa (a b c:BitVec 32):a &&& b ^^^ a &&& c ^^^ b &&& c=a &&& b ||| a &&& c ||| b &&& c:=by
 ext i hi
 simp only [BitVec.getElem_and,BitVec.getElem_xor,BitVec.getElem_or]
 cases a[i]<;>cases b[i]<;>cases c[i]<;>rfl
end Go.Proofs.YtmoecjgehdkhkaaDoor

/-
  The walks of the package's schedule and of its compression of one block.
-/
namespace Go.Proofs.YtmoecjgehdkhkaaDoor
open Go Go.AL

set_option maxHeartbeats 8000000 in
theorem zg7 {G:Globs} (b:List (BitVec 8)) (hb:b.length=64) (H:Hp) (R:AV → Hp → Prop) (h:R (.p (.agg (pl zF (sW b 64)))) H):ACall Tryd.prog G 83 [.p (.sl false 1 (pl b8 b))] H R:=by
 refine ACall.of_run (raw:=[]) Tryd.func83 rfl Tryd.ntmps83 (by simp) fun hbel => ?_
 (refine .q ?_);refine .text ?_;simp (disch:=first|exact zb|fail) only [go_sem,seval,-List.reduceReplicate]
 (refine .q ?_);refine .text ?_;simp (disch:=first|exact zb|fail) only [go_sem,seval,-List.reduceReplicate]
 (refine .q ?_);refine .text ?_;simp (disch:=first|exact zb|fail) only [go_sem,seval,-List.reduceReplicate]
 refine .q ?_
 refine .count (fun i env H'=>env 0 = .p (.sl false 1 (pl b8 b))∧env 2 = .ptr H.n 0∧env 3 = .ptr (H.n+1) 0∧env 12 = .p (i64 i)∧H'=(H.new (.cells (cl zF (List.replicate 64 0#32)))).new (.cells (cl zF (sW b i)))) 0 16 (by omega) ?_ ?_ ?_
 · simp (disch:=first|exact zb|fail) only [go_sem,seval,-List.reduceReplicate]
   rw [sW]
 · intro env H' ⟨e0,e2,e3,e12,eH⟩
   subst eH
   (refine .q ?_);refine .text ?_;simp (disch:=first|exact zb|fail) only [go_sem,seval,-List.reduceReplicate,e12]
   (refine .q ?_);refine .ifF (by simp (disch:=first|exact zb|fail) only [go_sem,seval,-List.reduceReplicate]) ?_
   (refine .q ?_);refine .text ?_;simp (disch:=first|exact zb|fail) only [go_sem,seval,-List.reduceReplicate,e12]
   refine .q ?_
   refine .count (fun i env H'=>env 2 = .ptr H.n 0∧env 3 = .ptr (H.n+1) 0∧env 7 = .p (i64 i)∧H'=(H.new (.cells (cl zF (List.replicate 64 0#32)))).new (.cells (cl zF (sW b i)))) 16 64 (by omega) ?_ ?_ ?_
   · simp (disch:=first|exact zb|fail) only [go_sem,seval,-List.reduceReplicate,e2,e3]
   · intro env H' ⟨e2,e3,e7,eH⟩
     subst eH
     (refine .q ?_);refine .text ?_;simp (disch:=first|exact zb|fail) only [go_sem,seval,-List.reduceReplicate,e7]
     (refine .q ?_);refine .ifF (by simp (disch:=first|exact zb|fail) only [go_sem,seval,-List.reduceReplicate]) ?_
     (refine .q ?_);refine .text ?_;simp (disch:=first|exact zb|fail) only [go_sem,seval,-List.reduceReplicate,e3,e2]
     (refine .q ?_);refine .rt Tryd.func83 (by rw [Tryd.results83]) (hx:=by simp (disch:=first|exact zb|fail) only [go_sem,seval,-List.reduceReplicate,e2];rfl) (hR := ?_);simp (disch:=first|exact zb|fail) only [go_sem,seval,-List.reduceReplicate,e2]
     exact h
   · intro i env H' hi0 hi ⟨e2,e3,e7,eH⟩ ih
     subst eH
     (refine .q ?_);refine .text ?_;simp (disch:=first|exact zb|fail) only [go_sem,seval,-List.reduceReplicate,e7]
     (refine .q ?_);refine .ifT (by simp (disch:=first|exact zb|fail) only [go_sem,seval,-List.reduceReplicate]) ?_
     (refine .q ?_);refine .open [] follows (by kernel_rfl) ?_;simp (disch:=first|exact zb|fail) only [go_sem,seval,-List.reduceReplicate,e7,e3,e2]
     (refine .q ?_);refine .text ?_;simp (disch:=first|exact zb|fail) only [go_sem,seval,-List.reduceReplicate,e7,e3,e2]
     refine CallK.of (fun R h=>zZ _ (-7) 25 (by decide) (by omega) _ R h) ?_;simp (disch:=first|exact zb|fail) only [go_sem,seval,-List.reduceReplicate,e7,e3,e2]
     refine CallK.of (fun R h=>zZ _ (-18) 14 (by decide) (by omega) _ R h) ?_;simp (disch:=first|exact zb|fail) only [go_sem,seval,-List.reduceReplicate,e7,e3,e2]
     (refine .q ?_);refine .text ?_;simp (disch:=first|exact zb|fail) only [go_sem,seval,-List.reduceReplicate,e7,e3,e2]
     refine CallK.of (fun R h=>zZ _ (-17) 15 (by decide) (by omega) _ R h) ?_;simp (disch:=first|exact zb|fail) only [go_sem,seval,-List.reduceReplicate,e7,e3,e2]
     refine CallK.of (fun R h=>zZ _ (-19) 13 (by decide) (by omega) _ R h) ?_;simp (disch:=first|exact zb|fail) only [go_sem,seval,-List.reduceReplicate,e7,e3,e2]
     (refine .q ?_);refine .open [15] follows (by kernel_rfl) ?_;simp (disch:=first|exact zb|fail) only [go_sem,seval,-List.reduceReplicate,e7,e3,e2]
     (refine .q ?_);refine .text ?_;simp (disch:=first|exact zb|fail) only [go_sem,seval,-List.reduceReplicate,e7,e3,e2]
     refine ih _ _ ?_
     simp (disch:=first|exact zb|fail) only [go_sem,seval,-List.reduceReplicate,e2,e3,e7]
     have hi16 : ¬i < 16:=by omega
     simp only [sW,zlA,if_neg hi16,sg0,sg1]
 · intro i env H' _ hi ⟨e0,e2,e3,e12,eH⟩ ih
   subst eH
   (refine .q ?_);refine .text ?_;simp (disch:=first|exact zb|fail) only [go_sem,seval,-List.reduceReplicate,e12]
   (refine .q ?_);refine .ifT (by simp (disch:=first|exact zb|fail) only [go_sem,seval,-List.reduceReplicate]) ?_
   (refine .q ?_);refine .text ?_;simp (disch:=first|exact zb|fail) only [go_sem,seval,-List.reduceReplicate,e12]
   (refine .q ?_);refine .text ?_;simp (disch:=first|exact zb|fail) only [go_sem,seval,-List.reduceReplicate,e0,e12]
   refine .q ?_
   refine .count (fun j env H'=>env 0 = .p (.sl false 1 (pl b8 b))∧env 2 = .ptr H.n 0∧env 3 = .ptr (H.n+1) 0∧env 4 = .p (i64 i)∧env 12 = .p (i64 i)∧env 21 = .p (.sl false 1 (pl b8 ((b.take (4*i+4)).drop (4*i))))∧env 22 = .p (i64 4)∧env 23 = .p (i64 j) ∧
    H'=(H.new (.cells (cl zF (List.replicate 64 0#32)))).new (.cells (cl zF ((sW b i).set i (part b i j))))) 0 4 (by omega) ?_ ?_ ?_
   · simp (disch:=first|exact zb|fail) only [go_sem,seval,-List.reduceReplicate,e0,e2,e3,e12]
     rw [zz7 b i (by omega)]
   · intro env H' ⟨e0,e2,e3,e4,e12,e21,e22,e23,eH⟩
     subst eH
     (refine .q ?_);refine .text ?_;simp (disch:=first|exact zb|fail) only [go_sem,seval,-List.reduceReplicate,e22,e23]
     (refine .q ?_);refine .ifF (by simp (disch:=first|exact zb|fail) only [go_sem,seval,-List.reduceReplicate]) ?_
     (refine .q ?_);refine .text ?_;simp (disch:=first|exact zb|fail) only [go_sem,seval,-List.reduceReplicate,e12]
     refine ih _ _ ?_
     simp (disch:=first|exact zb|fail) only [go_sem,seval,-List.reduceReplicate,e0,e2,e3,e12]
     rw [zz8 b i hi]
   · intro j env H' _ hj ⟨e0,e2,e3,e4,e12,e21,e22,e23,eH⟩ ih2
     subst eH
     (refine .q ?_);refine .text ?_;simp (disch:=first|exact zb|fail) only [go_sem,seval,-List.reduceReplicate,e22,e23]
     (refine .q ?_);refine .ifT (by simp (disch:=first|exact zb|fail) only [go_sem,seval,-List.reduceReplicate]) ?_
     (refine .q ?_);refine .text ?_;simp (disch:=first|exact zb|fail) only [go_sem,seval,-List.reduceReplicate,e21,e23]
     (refine .q ?_);refine .text ?_;simp (disch:=first|exact zb|fail) only [go_sem,seval,-List.reduceReplicate,e3,e4]
     (refine .q ?_);refine .text ?_;simp (disch:=first|exact zb|fail) only [go_sem,seval,-List.reduceReplicate,e23]
     refine ih2 _ _ ?_
     simp (disch:=first|exact zb|fail) only [go_sem,seval,-List.reduceReplicate,e0,e2,e3,e4,e12,e21,e22,e23]
     rw [List.set_set,zfW rfl (by rw [zgc];omega),zfY,zfZ (by omega),part]

def row (z:St):List (BitVec 32):=[z.a,z.b,z.c,z.d,z.e,z.f,z.g,z.h]
theorem zIu (z:St):(row z).length=8:=rfl
def zPr (s:St) (k w:BitVec 32):St :=
 let t:=s.h+bg1 s.e+(s.e &&& s.f ^^^ (4294967295#32 - s.e) &&& s.g)+k+w
 ⟨t+bg0 s.a+(s.a &&& s.b ||| s.a &&& s.c ||| s.b &&& s.c),s.a,s.b,s.c,s.d+t,s.e,s.f,s.g⟩
theorem ztF (s:St) (k w:BitVec 32):rnd s k w=zPr s k w:=by
 unfold rnd zPr
 simp only [BitVec.add_assoc]
def addRow (r s:List (BitVec 32)):Nat → List (BitVec 32)
 | 0=>s
 | i+1=>(addRow r s i).set i (nth (addRow r s i) i+nth r i)
theorem zoY (r s:List (BitVec 32)) (i:Nat):(addRow r s i).length=s.length:=by
 induction i with
 | zero=>rfl
 | succ i ih=>simp [addRow,ih]
attribute [go_sem] zIu zoY
theorem zPs (s:List (BitVec 32)) (h:s.length=8):s=[nth s 0,nth s 1,nth s 2,nth s 3,nth s 4,nth s 5,nth s 6,nth s 7]:=by
 rcases s with _ | ⟨a0,_ | ⟨a1,_ | ⟨a2,_ | ⟨a3,_ | ⟨a4,_ | ⟨a5,_ | ⟨a6,_ | ⟨a7,_ | ⟨a8,l⟩⟩⟩⟩⟩⟩⟩⟩⟩<;>simp at h
 rfl
theorem zIv (z:St) (s:List (BitVec 32)) (h:s.length=8):addRow (row z) s 8=fin s z:=by
 rw [zPs s h]
 rfl

set_option maxHeartbeats 16000000 in
theorem zg8 {G:Globs} (hG:G 3=some (64,[.agg (pl zF ks)])) (s:List (BitVec 32)) (b:List (BitVec 8)) (hs:s.length=8) (hb:b.length=64) (H:Hp) (p:Nat) (hp:H.f p=some (.cells (cl zF s))) (hpn:p < H.n) (R:AV → Hp → Prop)
 (h:R (.tup []) (H.set p (.cells (cl zF (comp s b))))) :
 ACall Tryd.prog G 69 [.ptr p 0,.p (.sl false 1 (pl b8 b))] H R:=by
 refine ACall.of_run (raw:=[]) Tryd.func69 rfl Tryd.ntmps69 (by simp) fun hbel => ?_
 have hk:ks.length=64:=rfl
 have hw:(sW b 64).length=64:=zgc _ _
 generalize hW:sW b 64=W at hw
 (refine .q ?_);refine .text ?_;simp (disch:=first|exact zb|fail) only [go_sem,seval,-List.reduceReplicate]
 refine CallK.of (fun R h=>zg7 b hb _ R h) ?_;simp (disch:=first|exact zb|fail) only [go_sem,seval,-List.reduceReplicate,hW]
 (refine .q ?_);refine .text ?_;simp (disch:=first|exact zb|fail) only [go_sem,seval,-List.reduceReplicate,hp]
 (refine .q ?_);refine .text ?_;simp (disch:=first|exact zb|fail) only [go_sem,seval,-List.reduceReplicate]
 refine .q ?_
 refine .count (fun i env H'=>env 0 = .ptr p 0∧env 4 = .ptr H.n 0∧env 5 = .ptr (H.n+1) 0∧env 21 = .p (i64 i)∧H'=(H.new (.cells (cl zF W))).new (.cells (cl zF (row (zcO W (st s) i))))) 0 64 (by omega) ?_ ?_ ?_
 · simp (disch:=first|exact zb|fail) only [go_sem,seval,-List.reduceReplicate]
   simp only [row,zcO,st]
   rw [←zPs s hs]
 · intro env H' ⟨e0,e4,e5,e21,eH⟩
   subst eH
   (refine .q ?_);refine .text ?_;simp (disch:=first|exact zb|fail) only [go_sem,seval,-List.reduceReplicate,e21]
   (refine .q ?_);refine .ifF (by simp (disch:=first|exact zb|fail) only [go_sem,seval,-List.reduceReplicate]) ?_
   (refine .q ?_);refine .text ?_;simp (disch:=first|exact zb|fail) only [go_sem,seval,-List.reduceReplicate,e5,e0]
   generalize hz:zcO W (st s) 64=z
   refine .q ?_
   refine .count (fun i env H'=>env 0 = .ptr p 0∧env 98 = .p (.agg (pl zF (row z)))∧env 99 = .p (i64 i)∧H'=((H.set p (.cells (cl zF (addRow (row z) s i)))).new (.cells (cl zF W))).new (.cells (cl zF (row z)))) 0 8 (by omega) ?_ ?_ ?_
   · simp (disch:=first|exact zb|fail) only [go_sem,seval,-List.reduceReplicate,e0]
     rw [addRow,set_same hp]
   · intro env H' ⟨e0,e98,e99,eH⟩
     subst eH
     (refine .q ?_);refine .text ?_;simp (disch:=first|exact zb|fail) only [go_sem,seval,-List.reduceReplicate,e99]
     (refine .q ?_);refine .ifF (by simp (disch:=first|exact zb|fail) only [go_sem,seval,-List.reduceReplicate]) ?_
     (refine .q ?_);refine .fin Tryd.func69 (by rw [Tryd.results69]) (by simp (disch:=first|exact zb|fail) only [go_sem,seval,-List.reduceReplicate];rfl) (by simp (disch:=first|exact zb|fail) only [go_sem,seval,-List.reduceReplicate];rfl) (by (try dsimp only);repeat (first | with_reducible refine zy ?_ zb | with_reducible refine zan ?_ zb | with_reducible refine za1 ?_ zb | with_reducible refine zaf ?_ | with_reducible exact hbel | with_reducible exact hbel _)) ?_;simp (disch:=first|exact zb|fail) only [go_sem,seval,-List.reduceReplicate]
     rw [zIv z s hs,←hz,←hW] at *
     exact h
   · intro i env H' _ hi ⟨e0,e98,e99,eH⟩ ih
     subst eH
     (refine .q ?_);refine .text ?_;simp (disch:=first|exact zb|fail) only [go_sem,seval,-List.reduceReplicate,e99]
     (refine .q ?_);refine .ifT (by simp (disch:=first|exact zb|fail) only [go_sem,seval,-List.reduceReplicate]) ?_
     (refine .q ?_);refine .text ?_;simp (disch:=first|exact zb|fail) only [go_sem,seval,-List.reduceReplicate,e98,e99]
     (refine .q ?_);refine .open [9] follows (by kernel_rfl) ?_;simp (disch:=first|exact zb|fail) only [go_sem,seval,-List.reduceReplicate,e0,hp]
     (refine .q ?_);refine .text ?_;simp (disch:=first|exact zb|fail) only [go_sem,seval,-List.reduceReplicate,e99]
     refine ih _ _ ?_
     simp (disch:=first|exact zb|fail) only [go_sem,seval,-List.reduceReplicate,e0,e98,e99]
     rw [addRow]
 · intro i env H' _ hi ⟨e0,e4,e5,e21,eH⟩ ih
   subst eH
   (refine .q ?_);refine .text ?_;simp (disch:=first|exact zb|fail) only [go_sem,seval,-List.reduceReplicate,e21]
   (refine .q ?_);refine .ifT (by simp (disch:=first|exact zb|fail) only [go_sem,seval,-List.reduceReplicate]) ?_
   (refine .q ?_);refine .text ?_;simp (disch:=first|exact zb|fail) only [go_sem,seval,-List.reduceReplicate,e21]
   (refine .q ?_);refine .open [] follows (by kernel_rfl) ?_;simp (disch:=first|exact zb|fail) only [go_sem,seval,-List.reduceReplicate,e0,e4,e5,e21]
   (refine .q ?_);refine .text ?_;simp (disch:=first|exact zb|fail) only [go_sem,seval,-List.reduceReplicate,e0,e4,e5,e21]
   refine CallK.of (fun R h=>zZ _ (-6) 26 (by decide) (by omega) _ R h) ?_;simp (disch:=first|exact zb|fail) only [go_sem,seval,-List.reduceReplicate,e0,e4,e5,e21]
   refine CallK.of (fun R h=>zZ _ (-11) 21 (by decide) (by omega) _ R h) ?_;simp (disch:=first|exact zb|fail) only [go_sem,seval,-List.reduceReplicate,e0,e4,e5,e21]
   refine CallK.of (fun R h=>zZ _ (-25) 7 (by decide) (by omega) _ R h) ?_;simp (disch:=first|exact zb|fail) only [go_sem,seval,-List.reduceReplicate,e0,e4,e5,e21]
   (refine .q ?_);refine .text ?_;simp (disch:=first|exact zb|fail) only [go_sem,seval,-List.reduceReplicate,e0,e4,e5,e21]
   (refine .q ?_);refine .open [] follows (by kernel_rfl) ?_;simp (disch:=first|exact zb|fail) only [go_sem,seval,-List.reduceReplicate,e0,e4,e5,e21,hG]
   (refine .q ?_);refine .text ?_;simp (disch:=first|exact zb|fail) only [go_sem,seval,-List.reduceReplicate,e0,e4,e5,e21]
   refine CallK.of (fun R h=>zZ _ (-2) 30 (by decide) (by omega) _ R h) ?_;simp (disch:=first|exact zb|fail) only [go_sem,seval,-List.reduceReplicate,e0,e4,e5,e21]
   refine CallK.of (fun R h=>zZ _ (-13) 19 (by decide) (by omega) _ R h) ?_;simp (disch:=first|exact zb|fail) only [go_sem,seval,-List.reduceReplicate,e0,e4,e5,e21]
   refine CallK.of (fun R h=>zZ _ (-22) 10 (by decide) (by omega) _ R h) ?_;simp (disch:=first|exact zb|fail) only [go_sem,seval,-List.reduceReplicate,e0,e4,e5,e21]
   (refine .q ?_);refine .text ?_;simp (disch:=first|exact zb|fail) only [go_sem,seval,-List.reduceReplicate,e0,e4,e5,e21]
   (refine .q ?_);refine .open [2] follows (by kernel_rfl) ?_;simp (disch:=first|exact zb|fail) only [go_sem,seval,-List.reduceReplicate,e0,e4,e5,e21]
   (refine .q ?_);refine .text ?_;simp (disch:=first|exact zb|fail) only [go_sem,seval,-List.reduceReplicate,e5]
   (refine .q ?_);refine .text ?_;simp (disch:=first|exact zb|fail) only [go_sem,seval,-List.reduceReplicate,e5]
   (refine .q ?_);refine .text ?_;simp (disch:=first|exact zb|fail) only [go_sem,seval,-List.reduceReplicate,e21]
   refine ih _ _ ?_
   simp (disch:=first|exact zb|fail) only [go_sem,seval,-List.reduceReplicate,e0,e4,e5,e21]
   simp only [zcO,zIt,zOa,ztF]
   generalize zcO W (st s) i=z
   rfl

end Go.Proofs.YtmoecjgehdkhkaaDoor

/-
  Padding,the digest's bytes and the whole hash as plain functions.
-/
namespace Go.Proofs.YtmoecjgehdkhkaaDoor
open Go Go.AL

def zbQ (n:Nat):Nat:=(119 - n % 64) % 64
theorem zge (n:Nat):(n+1+zbQ n) % 64=56:=by unfold zbQ;omega
theorem zqg (n j:Nat) (h:j < zbQ n):(n+1+j) % 64≠56:=by unfold zbQ at h;omega
theorem ziW (n:Nat):zbQ n≤63:=by unfold zbQ;omega
def zeU (v:BitVec 64):Nat → List (BitVec 8)
 | 0=>[]
 | i+1=>zeU v i++[(v >>> (56 - 8*i)).setWidth 8]
theorem zlC (v:BitVec 64) (i:Nat):(zeU v i).length=i:=by
 induction i with
 | zero=>rfl
 | succ i ih=>simp [zeU,ih]
def pad (b:List (BitVec 8)):List (BitVec 8):=b++[128#8]++List.replicate (zbQ b.length) 0#8++zeU (BitVec.ofInt 64 b.length*8#64) 8
theorem ziX (b:List (BitVec 8)):(pad b).length=b.length+1+zbQ b.length+8:=by simp [pad,zlC];omega

def dg (s:List (BitVec 32)):Nat → List (BitVec 8)
 | 0=>List.replicate 32 0#8
 | i+1=>(dg s i).set i ((nth s (i / 4) >>> (24 - 8*(i % 4))).setWidth 8)
theorem zz9 (s:List (BitVec 32)) (i:Nat):(dg s i).length=32:=by
 induction i with
 | zero=>simp [dg]
 | succ i ih=>simp [dg,ih]
attribute [go_sem] zlC zz9

def yB (p:List (BitVec 8)) (s:List (BitVec 32)):Nat → List (BitVec 32)
 | 0=>s
 | i+1=>comp (yB p s i) ((p.take (64*i+64)).drop (64*i))
theorem zAa (s:List (BitVec 32)) (b:List (BitVec 8)):(comp s b).length=8:=rfl
theorem za2 (p:List (BitVec 8)) (s:List (BitVec 32)) (hs:s.length=8) (i:Nat):(yB p s i).length=8:=by
 cases i with
 | zero=>exact hs
 | succ i=>rfl
def sha (b:List (BitVec 8)):List (BitVec 8):=dg (yB (pad b) inits ((pad b).length / 64)) 32
theorem zas (b:List (BitVec 8)):(sha b).length=32:=zz9 _ _
attribute [go_sem] zAa zas

def made (b:List (BitVec 8)):Nat → List (BitVec 8)
 | 0=>List.replicate 32 0#8
 | i+1=>(made b i).set i (nth b i)
theorem zlD (b:List (BitVec 8)) (i:Nat):(made b i).length=32:=by
 induction i with
 | zero=>simp [made]
 | succ i ih=>simp [made,ih]
def mk (b:List (BitVec 8)):List (BitVec 8):=made b (min 32 b.length)
theorem zOb (b:List (BitVec 8)):(mk b).length=32:=zlD _ _
def masked (k:List (BitVec 8)) (m:BitVec 8):Nat → List (BitVec 8)
 | 0=>[]
 | i+1=>masked k m i++[if i < 32 then nth k i ^^^ m else m]
theorem zoZ (k:List (BitVec 8)) (m:BitVec 8) (i:Nat):(masked k m i).length=i:=by
 induction i with
 | zero=>rfl
 | succ i ih=>simp [masked,ih]
attribute [go_sem] zlD zOb zoZ
def leaf (b:List (BitVec 8)):List (BitVec 8):=sha ([0#8]++b)
def pair (a b:List (BitVec 8)):List (BitVec 8):=sha ([1#8]++a++b)
def keyed (k b:List (BitVec 8)):List (BitVec 8):=sha (masked k 92#8 64++sha (masked k 54#8 64++b))
end Go.Proofs.YtmoecjgehdkhkaaDoor

/-
  The walk of the iterator over the blocks of the padded message,and of the hash.
-/
namespace Go.Proofs.YtmoecjgehdkhkaaDoor
open Go Go.AL

theorem zo0 (b:List (BitVec 8)) (i:Nat) (h:i < b.length / 64):((pad b).take (64*i+64)).drop (64*i)=(b.take (64*i+64)).drop (64*i):=by
 rw [pad,List.append_assoc,List.append_assoc,List.take_append_of_le_length (by omega)]

def zeg (b:List (BitVec 8)):List (BitVec 8):=(pad b).drop (64*(b.length / 64))
theorem ztG (b:List (BitVec 8)):(zeg b).length=(pad b).length - 64*(b.length / 64):=by simp [zeg]
theorem zAb (b:List (BitVec 8)):zeg b=b.drop (64*(b.length / 64))++[128#8]++List.replicate (zbQ b.length) 0#8++zeU (BitVec.ofInt 64 b.length*8#64) 8:=by
 unfold zeg pad
 rw [List.append_assoc,List.append_assoc,List.drop_append_of_le_length (by omega)]
 simp only [List.append_assoc]
theorem zo1 (b:List (BitVec 8)) (i:Nat):((zeg b).take (64*i+64)).drop (64*i)=((pad b).take (64*(b.length / 64+i)+64)).drop (64*(b.length / 64+i)):=by
 unfold zeg
 rw [List.take_drop,List.drop_drop]
 congr 2<;>omega

set_option maxHeartbeats 8000000 in
theorem ziY {G:Globs} (b:List (BitVec 8)) (hb:b.length≤140737488353000) (y p n0:Nat) (Ls:Nat → Hp) (hL : ∀ i,(Ls i).n=n0) (hB : ∀ i,Bel n0 (Ls i)) (hy0:y < n0) (hp:p < n0) (hbox : ∀ i,(Ls i).f p=some (.cells [.p (.sl false 1 (pl b8 b))]))
 (hy : ∀ i,i < (pad b).length / 64 → ∀ (T:List AB) (K:AV → Hp → Prop),K (.p (bo true)) (app (Ls (i+1)) T) → AYield Tryd.prog G y [.p (.sl false 1 (pl b8 (((pad b).take (64*i+64)).drop (64*i))))] (app (Ls i) T) K)
 (R:AV → Hp → Prop) (h:R (.tup []) (Ls ((pad b).length / 64))):ACall Tryd.prog G 81 [.yld y,.ptr p 0] (Ls 0) R:=by
 refine ACall.of_run (raw:=[]) Tryd.func81 rfl Tryd.ntmps81 (by simp) fun hbel => ?_
 have hpl:=ziX b
 have hm:=zge b.length
 have hpn:=ziW b.length
 have hlen:=ztG b
 generalize hN:(pad b).length=N at hpl hy h hlen
 (refine .q ?_);refine .text ?_;simp (disch:=first|exact zb|fail) only [go_sem,seval,-List.reduceReplicate,hbox,hL]
 (refine .q ?_);refine .text ?_;simp (disch:=first|exact zb|fail) only [go_sem,seval,-List.reduceReplicate]
 refine .q ?_
 refine .count (fun i env H'=>env 0 = .yld y∧env 1 = .ptr p 0∧env 3 = .p (i64 (64*(b.length / 64):Nat))∧env 4 = .p (i64 (64*i:Nat))∧H'=Ls i) 0 (b.length / 64) (by omega) ?_ ?_ ?_
 · simp (disch:=first|exact zb|fail) only [go_sem,seval,-List.reduceReplicate]
   exact zBI (by omega)
 · intro env H' ⟨e0,e1,e3,e4,eH⟩
   subst eH
   (refine .q ?_);refine .text ?_;simp (disch:=first|exact zb|fail) only [go_sem,seval,-List.reduceReplicate,e3,e4]
   (refine .q ?_);refine .ifF (by simp (disch:=first|exact zb|fail) only [go_sem,seval,-List.reduceReplicate]) ?_
   (refine .q ?_);refine .text ?_;simp (disch:=first|exact zb|fail) only [go_sem,seval,-List.reduceReplicate,e1,e3,hbox,hL]
   have hd:(b.drop (64*(b.length / 64))).length=b.length - 64*(b.length / 64):=List.length_drop
   have hdm:(b.drop (64*(b.length / 64))).length % 64=b.length % 64:=by omega
   have hLk:=hL (b.length / 64)
   generalize hdd:b.drop (64*(b.length / 64))=dd at hd hdm
   refine CallK.of (fun R h=>zoX dd (by omega) _ R h) ?_;simp (disch:=first|exact zb|fail) only [go_sem,seval,-List.reduceReplicate,hL]
   refine .q ?_
   refine .count (fun j env H'=>env 0 = .yld y∧env 1 = .ptr p 0∧env 5 = .sl n0 (1+j) 1 (pl b8 (dd++[128#8]++List.replicate j 0#8))∧H'=(Ls (b.length / 64)).new (.tail (1+j))) 0 (zbQ b.length) (by omega) ?_ ?_ ?_
   · simp (disch:=first|exact zb|fail) only [go_sem,seval,-List.reduceReplicate,e0,e1,hL]
     simp only [List.replicate_zero,List.append_nil]
   · intro env H' ⟨e0,e1,e5,eH⟩
     subst eH
     have hm2:(dd.length+1+zbQ b.length) % 64=56:=by omega
     (refine .q ?_);refine .text ?_;simp (disch:=first|exact zb|fail) only [go_sem,seval,-List.reduceReplicate,e5]
     (refine .q ?_);refine .ifF (by simp (disch:=first|exact zb|fail) only [go_sem,seval,-List.reduceReplicate]) ?_
     (refine .q ?_);refine .text ?_;simp (disch:=first|exact zb|fail) only [go_sem,seval,-List.reduceReplicate,e1,hbox,hL]
     (refine .q ?_);refine .text ?_;simp (disch:=first|exact zb|fail) only [go_sem,seval,-List.reduceReplicate]
     refine .q ?_
     generalize hw:dd++[128#8]++List.replicate (zbQ b.length) 0#8=ww at e5
     have hwl:ww.length=dd.length+1+zbQ b.length:=by rw [←hw];simp;omega
     refine .count (fun j env H'=>env 0 = .yld y∧env 1 = .ptr p 0∧env 5 = .sl n0 (1+zbQ b.length+j) 1 (pl b8 (ww++zeU (BitVec.ofInt 64 b.length*8#64) j))∧env 6 = .p (zx (BitVec.ofInt 64 b.length*8#64))∧env 7 = .p (i64 (56 - 8*(j:Int)))∧H'=(Ls (b.length / 64)).new (.tail (1+zbQ b.length+j))) 0 8 (by omega) ?_ ?_ ?_
     · simp (disch:=first|exact zb|fail) only [go_sem,seval,-List.reduceReplicate,e0,e1,e5]
       simp only [zeU,List.append_nil]
     · intro env H' ⟨e0,e1,e5,e6,e7,eH⟩
       subst eH
       (refine .q ?_);refine .text ?_;simp (disch:=first|exact zb|fail) only [go_sem,seval,-List.reduceReplicate,e7]
       (refine .q ?_);refine .ifF (by simp (disch:=first|exact zb|fail) only [go_sem,seval,-List.reduceReplicate]) ?_
       (refine .q ?_);refine .text ?_;simp (disch:=first|exact zb|fail) only [go_sem,seval,-List.reduceReplicate]
       refine .q ?_
       have hlb:zeg b=ww++zeU (BitVec.ofInt 64 b.length*8#64) 8:=by rw [zAb,hdd,hw]
       have hll:=hlen
       rw [←hlb] at e5
       generalize hx:zeg b=lb at e5 hll
       refine .count (fun j env H'=>env 0 = .yld y∧env 5 = .sl n0 (1+zbQ b.length+8) 1 (pl b8 lb)∧env 8 = .p (i64 (64*j:Nat))∧H'=(Ls (b.length / 64+j)).new (.tail (1+zbQ b.length+8))) 0 (N / 64 - b.length / 64) (by omega) ?_ ?_ ?_
       · simp (disch:=first|exact zb|fail) only [go_sem,seval,-List.reduceReplicate,e0,e1,e5]
       · intro env H' ⟨e0,e5,e8,eH⟩
         subst eH
         have hLe:=hL (N / 64)
         have hbel:=hB (N / 64)
         have hj:b.length / 64+(N / 64 - b.length / 64)=N / 64:=by omega
         rw [hj]
         (refine .q ?_);refine .text ?_;simp (disch:=first|exact zb|fail) only [go_sem,seval,-List.reduceReplicate,e5,e8]
         (refine .q ?_);refine .ifF (by simp (disch:=first|exact zb|fail) only [go_sem,seval,-List.reduceReplicate]) ?_
         (refine .q ?_);refine .fin Tryd.func81 (by rw [Tryd.results81]) (by simp (disch:=first|exact zb|fail) only [go_sem,seval,-List.reduceReplicate];rfl) (by simp (disch:=first|exact zb|fail) only [go_sem,seval,-List.reduceReplicate];rfl) (by (try dsimp only);repeat (first | with_reducible refine zy ?_ zb | with_reducible refine zan ?_ zb | with_reducible refine za1 ?_ zb | with_reducible refine zaf ?_ | with_reducible exact hbel | with_reducible exact hbel _)) ?_;simp (disch:=first|exact zb|fail) only [go_sem,seval,-List.reduceReplicate]
         exact h
       · intro j env H' _ hj ⟨e0,e5,e8,eH⟩ ih
         subst eH
         have hLj:=hL (b.length / 64+j)
         have hLj1:=hL (b.length / 64+j+1)
         have hyi:=hy (b.length / 64+j) (by omega) [.tail (1+zbQ b.length+8)]
         rw [←zo1 b j,hx] at hyi
         simp only [zcl,yN] at hyi
         (refine .q ?_);refine .text ?_;simp (disch:=first|exact zb|fail) only [go_sem,seval,-List.reduceReplicate,e5,e8]
         (refine .q ?_);refine .ifT (by simp (disch:=first|exact zb|fail) only [go_sem,seval,-List.reduceReplicate]) ?_
         (refine .q ?_);refine .text ?_;simp (disch:=first|exact zb|fail) only [go_sem,seval,-List.reduceReplicate,e0,e5,e8]
         refine YieldK.of (fun K hK=>hyi K hK) ?_;simp (disch:=first|exact zb|fail) only [go_sem,seval,-List.reduceReplicate]
         (refine .q ?_);refine .ifF (by simp (disch:=first|exact zb|fail) only [go_sem,seval,-List.reduceReplicate]) ?_
         (refine .q ?_);refine .text ?_;simp (disch:=first|exact zb|fail) only [go_sem,seval,-List.reduceReplicate,e8]
         refine ih _ _ ?_
         simp (disch:=first|exact zb|fail) only [go_sem,seval,-List.reduceReplicate,e0,e5,e8]
         exact ⟨zBI (by omega),rfl⟩
     · intro j env H' _ hj ⟨e0,e1,e5,e6,e7,eH⟩ ih
       subst eH
       have ht:(56 - 8*(j:Int)).toNat=56 - 8*j:=by omega
       (refine .q ?_);refine .text ?_;simp (disch:=first|exact zb|fail) only [go_sem,seval,-List.reduceReplicate,e7]
       (refine .q ?_);refine .ifT (by simp (disch:=first|exact zb|fail) only [go_sem,seval,-List.reduceReplicate]) ?_
       (refine .q ?_);refine .text ?_;simp (disch:=first|exact zb|fail) only [go_sem,seval,-List.reduceReplicate,e5,e6,e7,ht]
       (refine .q ?_);refine .text ?_;simp (disch:=first|exact zb|fail) only [go_sem,seval,-List.reduceReplicate,e7]
       refine ih _ _ ?_
       simp (disch:=first|exact zb|fail) only [go_sem,seval,-List.reduceReplicate,e0,e1,e5,e6,e7]
       simp only [zeU,List.append_assoc,Nat.add_assoc,true_and,and_true]
       exact zBI (by omega)
   · intro j env H' _ hj ⟨e0,e1,e5,eH⟩ ih
     subst eH
     have hmj:=zqg b.length j hj
     have hmj2:(dd.length+1+j) % 64≠56:=by omega
     (refine .q ?_);refine .text ?_;simp (disch:=first|exact zb|fail) only [go_sem,seval,-List.reduceReplicate,e5]
     (refine .q ?_);refine .ifT (by simp (disch:=first|exact zb|fail) only [go_sem,seval,-List.reduceReplicate]) ?_
     (refine .q ?_);refine .text ?_;simp (disch:=first|exact zb|fail) only [go_sem,seval,-List.reduceReplicate,e5]
     refine .q ?_
     refine ih _ _ ?_
     simp (disch:=first|exact zb|fail) only [go_sem,seval,-List.reduceReplicate,e0,e1,e5]
     simp only [List.replicate_succ',List.append_assoc,Nat.add_assoc,and_self]
 · intro i env H' _ hi ⟨e0,e1,e3,e4,eH⟩ ih
   subst eH
   have hyi:=hy i (by omega) []
   rw [zo0 b i hi] at hyi
   simp only [zcl] at hyi
   (refine .q ?_);refine .text ?_;simp (disch:=first|exact zb|fail) only [go_sem,seval,-List.reduceReplicate,e3,e4]
   (refine .q ?_);refine .ifT (by simp (disch:=first|exact zb|fail) only [go_sem,seval,-List.reduceReplicate]) ?_
   (refine .q ?_);refine .text ?_;simp (disch:=first|exact zb|fail) only [go_sem,seval,-List.reduceReplicate,e0,e1,e4,hbox,hL]
   refine YieldK.of (fun K hK=>hyi K hK) ?_;simp (disch:=first|exact zb|fail) only [go_sem,seval,-List.reduceReplicate]
   (refine .q ?_);refine .ifF (by simp (disch:=first|exact zb|fail) only [go_sem,seval,-List.reduceReplicate]) ?_
   (refine .q ?_);refine .text ?_;simp (disch:=first|exact zb|fail) only [go_sem,seval,-List.reduceReplicate,e4]
   refine ih _ _ ?_
   simp (disch:=first|exact zb|fail) only [go_sem,seval,-List.reduceReplicate,e0,e1,e3,e4]
   exact zBI (by omega)

end Go.Proofs.YtmoecjgehdkhkaaDoor

/-
  The walk of the hash.
-/
namespace Go.Proofs.YtmoecjgehdkhkaaDoor
open Go Go.AL

theorem zlE {G:Globs} (b:List (BitVec 8)) (H:Hp) (R:AV → Hp → Prop) (h:R (.clo 81 [] [.ptr H.n 0]) (H.new (.cells [.p (.sl false 1 (pl b8 b))]))):ACall Tryd.prog G 68 [.p (.sl false 1 (pl b8 b))] H R:=by
 refine ACall.of_run (raw:=[]) Tryd.func68 rfl Tryd.ntmps68 (by simp) fun hbel => ?_
 (refine .q ?_);refine .text ?_;simp (disch:=first|exact zb|fail) only [go_sem,seval,-List.reduceReplicate]
 (refine .q ?_);refine .text ?_;simp (disch:=first|exact zb|fail) only [go_sem,seval,-List.reduceReplicate]
 (refine .q ?_);refine .retKeep Tryd.func68 (by rw [Tryd.results68]) (by simp (disch:=first|exact zb|fail) only [go_sem,seval,-List.reduceReplicate];rfl) ?_;(try simp (disch:=first|exact zb|fail) only [go_sem,seval,-List.reduceReplicate])
 exact h

set_option maxHeartbeats 8000000 in
theorem zgf {G:Globs} (hG0:G 1=some (8,[.agg (pl zF inits)])) (hG1:G 3=some (64,[.agg (pl zF ks)])) (b:List (BitVec 8)) (hb:b.length≤140737488353000) (H:Hp) (R:AV → Hp → Prop) (h:R (.p (.agg (pl b8 (sha b)))) H) :
 ACall Tryd.prog G 41 [.p (.sl false 1 (pl b8 b))] H R:=by
 refine ACall.of_run (raw:=[]) Tryd.func41 rfl Tryd.ntmps41 (by simp) fun hbel => ?_
 have hi0:inits.length=8:=rfl
 have hi1:(yB (pad b) inits 0)=inits:=rfl
 (refine .q ?_);refine .text ?_;simp (disch:=first|exact zb|fail) only [go_sem,seval,-List.reduceReplicate]
 (refine .q ?_);refine .text ?_;simp (disch:=first|exact zb|fail) only [go_sem,seval,-List.reduceReplicate,hG0]
 (refine .q ?_);refine .text ?_;simp (disch:=first|exact zb|fail) only [go_sem,seval,-List.reduceReplicate]
 refine CallK.of (fun R h=>zlE b _ R h) ?_;simp (disch:=first|exact zb|fail) only [go_sem,seval,-List.reduceReplicate]
 (refine .q ?_);refine .rangeFunc (ps:=[12]) rfl (by simp (disch:=first|exact zb|fail) only [go_sem,seval,-List.reduceReplicate];rfl) (by simp (disch:=first|exact zb|fail) only [go_sem,seval,-List.reduceReplicate]) (by simp) fun L vs hL hvs hround => ?_;simp (disch:=first|exact zb|fail) only [go_sem,seval,-List.reduceReplicate]
 refine ziY b hb (H.n+3) (H.n+2) (H.n+4) (fun i=>(((H.new (.cells (cl b8 (List.replicate 32 0#8)))).new (.cells (cl zF (yB (pad b) inits i)))).new (.cells [.p (.sl false 1 (pl b8 b))])).new (.obj vs (L .ready none))) (fun i=>by simp (disch:=first|exact zb|fail) only [go_sem,seval,-List.reduceReplicate]) (fun i => ?_) (by omega) (by omega) (fun i=>by simp (disch:=first|exact zb|fail) only [go_sem,seval,-List.reduceReplicate]) (fun i hi T K hK => ?_) _ ?_
 · (try dsimp only);(repeat (first | with_reducible exact hbel | with_reducible exact yU hbel zb | with_reducible refine za6 ?_ | with_reducible refine za7 ?_ | with_reducible refine za8 ?_ | with_reducible refine za9 hvs ?_ zb | with_reducible refine zaf ?_ | with_reducible refine zba ?_ | with_reducible refine zbb ?_ | with_reducible refine zbc ?_ | with_reducible refine zbd ?_))
 · refine hround _ _ _ rfl (by simp (disch:=first|exact zb|fail) only [go_sem,seval,-List.reduceReplicate]) fun hbel2 => ?_
   dsimp only
   simp (disch:=first|exact zb|fail) only [go_sem,seval,-List.reduceReplicate]
   (refine .q ?_);refine .text ?_;simp (disch:=first|exact zb|fail) only [go_sem,seval,-List.reduceReplicate]
   (refine .q ?_);refine .beginRound rfl hL (by simp (disch:=first|exact zb|fail) only [go_sem,seval,-List.reduceReplicate];rfl) ?_;simp (disch:=first|exact zb|fail) only [go_sem,seval,-List.reduceReplicate]
   have hrl:(yB (pad b) inits i).length=8:=za2 _ _ hi0 i
   have hbl:(((pad b).take (64*i+64)).drop (64*i)).length=64:=by simp only [List.length_drop,List.length_take];omega
   generalize hbk:((pad b).take (64*i+64)).drop (64*i)=blk at hbl
   (refine .q ?_);refine .text ?_;simp (disch:=first|exact zb|fail) only [go_sem,seval,-List.reduceReplicate]
   refine CallK.of (fun R h=>zg8 hG1 _ blk hrl hbl _ (H.n+1) (by simp (disch:=first|exact zb|fail) only [go_sem,seval,-List.reduceReplicate]) (by simp (disch:=first|exact zb|fail) only [go_sem,seval,-List.reduceReplicate];omega) R h) ?_;simp (disch:=first|exact zb|fail) only [go_sem,seval,-List.reduceReplicate]
   (refine .q ?_);refine .roundEndK rfl hL (by simp (disch:=first|exact zb|fail) only [go_sem,seval,-List.reduceReplicate];rfl) ?_;simp (disch:=first|exact zb|fail) only [go_sem,seval,-List.reduceReplicate]
   rw [yB,hbk] at hK
   exact hK
 · unfold zdB;refine ⟨?_,.inl ⟨(by simp (disch:=first|exact zb|fail) only [go_sem,seval,-List.reduceReplicate]<;>rfl),?_⟩⟩;(try dsimp only);(repeat (first | with_reducible exact hbel | with_reducible exact yU hbel zb | with_reducible refine za6 ?_ | with_reducible refine za7 ?_ | with_reducible refine za8 ?_ | with_reducible refine za9 hvs ?_ zb | with_reducible refine zaf ?_ | with_reducible refine zba ?_ | with_reducible refine zbb ?_ | with_reducible refine zbc ?_ | with_reducible refine zbd ?_));simp (disch:=first|exact zb|fail) only [go_sem,seval,-List.reduceReplicate]
   have hrl:=za2 (pad b) inits hi0 ((pad b).length / 64)
   unfold sha at h
   generalize yB (pad b) inits ((pad b).length / 64)=s at hrl h
   (refine .q ?_);refine .text ?_;simp (disch:=first|exact zb|fail) only [go_sem,seval,-List.reduceReplicate]
   (refine .q ?_);refine .text ?_;simp (disch:=first|exact zb|fail) only [go_sem,seval,-List.reduceReplicate]
   refine .q ?_
   refine .count (fun i env H'=>env 2 = .ptr H.n 0∧env 15 = .p (.agg (pl zF s))∧env 5 = .ptr (H.n+3) 0∧env 16 = .p (i64 i)∧H'=(((H.new (.cells (cl b8 (List.replicate 32 0#8)))).new (.cells (cl zF s))).new (.cells [.p (.sl false 1 (pl b8 b))])).new (.cells (cl b8 (dg s (4*i))))) 0 8 (by omega) ?_ ?_ ?_
   · simp (disch:=first|exact zb|fail) only [go_sem,seval,-List.reduceReplicate]
     rfl
   · intro env H' ⟨e2,e15,e5,e16,eH⟩
     subst eH
     (refine .q ?_);refine .text ?_;simp (disch:=first|exact zb|fail) only [go_sem,seval,-List.reduceReplicate,e16]
     (refine .q ?_);refine .ifF (by simp (disch:=first|exact zb|fail) only [go_sem,seval,-List.reduceReplicate]) ?_
     (refine .q ?_);refine .text ?_;simp (disch:=first|exact zb|fail) only [go_sem,seval,-List.reduceReplicate,e2,e5]
     (refine .q ?_);refine .rt Tryd.func41 (by rw [Tryd.results41]) (hx:=by simp (disch:=first|exact zb|fail) only [go_sem,seval,-List.reduceReplicate,e2];rfl) (hR := ?_);simp (disch:=first|exact zb|fail) only [go_sem,seval,-List.reduceReplicate,e2]
     exact h
   · intro i env H' _ hi ⟨e2,e15,e5,e16,eH⟩ ih
     subst eH
     (refine .q ?_);refine .text ?_;simp (disch:=first|exact zb|fail) only [go_sem,seval,-List.reduceReplicate,e16]
     (refine .q ?_);refine .ifT (by simp (disch:=first|exact zb|fail) only [go_sem,seval,-List.reduceReplicate]) ?_
     (refine .q ?_);refine .text ?_;simp (disch:=first|exact zb|fail) only [go_sem,seval,-List.reduceReplicate,e15,e16]
     (refine .q ?_);refine .text ?_;simp (disch:=first|exact zb|fail) only [go_sem,seval,-List.reduceReplicate]
     refine .q ?_
     refine .count (fun k env H'=>env 2 = .ptr H.n 0∧env 15 = .p (.agg (pl zF s))∧env 5 = .ptr (H.n+3) 0∧env 16 = .p (i64 i)∧env 6 = .p (i64 i)∧env 7 = .p (zF (nth s i))∧env 20 = .p (i64 k)∧H'=(((H.new (.cells (cl b8 (List.replicate 32 0#8)))).new (.cells (cl zF s))).new (.cells [.p (.sl false 1 (pl b8 b))])).new (.cells (cl b8 (dg s (4*i+k))))) 0 4 (by omega) ?_ ?_ ?_
     · simp (disch:=first|exact zb|fail) only [go_sem,seval,-List.reduceReplicate,e2,e15,e5,e16]
     · intro env H' ⟨e2,e15,e5,e16,e6,e7,e20,eH⟩
       subst eH
       (refine .q ?_);refine .text ?_;simp (disch:=first|exact zb|fail) only [go_sem,seval,-List.reduceReplicate,e20]
       (refine .q ?_);refine .ifF (by simp (disch:=first|exact zb|fail) only [go_sem,seval,-List.reduceReplicate]) ?_
       (refine .q ?_);refine .text ?_;simp (disch:=first|exact zb|fail) only [go_sem,seval,-List.reduceReplicate,e16]
       refine ih _ _ ?_
       simp (disch:=first|exact zb|fail) only [go_sem,seval,-List.reduceReplicate,e2,e15,e5,e16]
       rw [Nat.mul_add]
     · intro k env H' _ hk ⟨e2,e15,e5,e16,e6,e7,e20,eH⟩ ih2
       subst eH
       have ht:(24 - 8*(k:Int)).toNat=24 - 8*k:=by omega
       (refine .q ?_);refine .text ?_;simp (disch:=first|exact zb|fail) only [go_sem,seval,-List.reduceReplicate,e20]
       (refine .q ?_);refine .ifT (by simp (disch:=first|exact zb|fail) only [go_sem,seval,-List.reduceReplicate]) ?_
       (refine .q ?_);refine .text ?_;simp (disch:=first|exact zb|fail) only [go_sem,seval,-List.reduceReplicate,e20]
       (refine .q ?_);refine .text ?_;simp (disch:=first|exact zb|fail) only [go_sem,seval,-List.reduceReplicate,e5,e6,e7,ht]
       (refine .q ?_);refine .text ?_;simp (disch:=first|exact zb|fail) only [go_sem,seval,-List.reduceReplicate,e20]
       refine ih2 _ _ ?_
       simp (disch:=first|exact zb|fail) only [go_sem,seval,-List.reduceReplicate,e2,e15,e5,e16,e6,e7,e20]
       have h1:(4*i+k) / 4=i:=by omega
       have h2:(4*i+k) % 4=k:=by omega
       rw [←Nat.add_assoc,dg,h1,h2]

end Go.Proofs.YtmoecjgehdkhkaaDoor

/-
  slices.Grow at nil,by the library's contract.
-/
namespace Go.Proofs.YtmoecjgehdkhkaaDoor
open Go Go.AL Go.Proofs Go.Shelf

def ren41:Ren:=⟨fun n=>if n=4 then 88 else n,fun n=>if n=25 then 5 else if n=22 then 28 else if n=20 then 20 else if n=9 then 9 else if n=4 then 4 else if n=3 then 3 else if n=0 then 0 else n,fun n=>n⟩

theorem ztH:Lays8.n4 Tryd.prog ren41 where
  mixed:=follows
  f4 := ⟨"slices.Grow[[]byte,byte]", by decide, by kernel_rfl⟩
  t0:=Tryd.underlying0
  a0:=fun w=>by kernel_rfl
  z0:=fun w=>by kernel_rfl
  v0:=fun w=>by kernel_rfl
  t3:=Tryd.underlying3
  a3:=fun w=>by kernel_rfl
  z3:=fun w=>by kernel_rfl
  v3:=fun w=>by kernel_rfl
  t4:=Tryd.underlying4
  a4:=fun w=>by kernel_rfl
  z4:=fun w=>by kernel_rfl
  v4:=fun w=>by kernel_rfl
  t9:=Tryd.underlying9
  a9:=fun w=>by kernel_rfl
  z9:=fun w=>by kernel_rfl
  v9:=fun w=>by kernel_rfl
  t20:=Tryd.underlying20
  a20:=fun w=>by kernel_rfl
  z20:=fun w=>by kernel_rfl
  v20:=fun w=>by kernel_rfl
  t22:=Tryd.underlying28
  a22:=fun w=>by kernel_rfl
  z22:=fun w=>by kernel_rfl
  v22:=fun w=>by kernel_rfl

theorem zOc:Tryd.prog.info? 5=some Tryd.t5:=by kernel_rfl

theorem ztI {G:Globs} (n:Nat) (hn0:0 < n) (hn:n≤140737488355300) (H:Hp) (R:AV → Hp → Prop) (h:R (.sl H.n 0 1 []) (H.new (.tail 0))) :
 ACall Tryd.prog G 88 [.p (.s (.slice none 0 0)),.p (i64 n)] H R:=by
 intro σ w vs hr hvs
 have hs:vs.size=2:=hvs.1
 have r0:=hvs.2 0 _ vs[0] rfl (by simp)
 have r1:=hvs.2 1 _ vs[1] rfl (by simp)
 have e1:vs[1] = .int .i64 n:=by
  generalize vs[1]=v at r1
  cases r1 with | p r=>cases r;rfl
 obtain ⟨base,e0⟩ : ∃ base,vs[0] = .slice base 0 0:=by
  generalize vs[0]=v at r0
  cases r0 with | p r =>
  cases r;exact ⟨none,rfl⟩
 have hv:vs = #[.slice base 0 0,.int .i64 n]:=by
  apply Array.ext
  · simp [hs]
  · intro i h1 h2
    have:i=0 ∨ i=1:=by simp at h2;omega
    rcases this with rfl | rfl
    · simpa using e0
    · simpa using e1
 have hc:=Any8.slices_Grow_grow ztH Tryd.t5 (.int .u8 0) zOc rfl (by decide) base 0 0 n [] w (Nat.le_refl _) (by omega) (by show (0+n)*1≤_;omega) (by omega) rfl (fun _=>rfl) (by simp)
 rw [hv]
 refine Calls.mono hc ?_
 rintro e w' ⟨rfl,rfl⟩
 generalize hC:(([]:List Value).toArray++Builtin.zeroCells (Value.int .u8 0).cells (0+n - 0)++Builtin.zeroCells (Value.int .u8 0).cells (grownCap w (0+n) 0 (ren41.t 25) - (0+n)))=C
 have hCs:grownCap w (0+n) 0 (ren41.t 25)≤C.size:=by
  rw [←hC]
  simp [Builtin.zeroCells,Value.cells]
  omega
 have hmax:grownCap w (0+n) 0 (ren41.t 25)≤maxLen:=grownCap_le_maxLen w _ _ _ (by unfold maxLen;omega)
 generalize grownCap w (0+n) 0 (ren41.t 25)=cap at hCs hmax
 obtain ⟨h1,h2⟩:=zaC hr (w':=w.drew.alloc (.cells C (ren41.t 25))) (by show w.drew.heap.size≤_;simp) (fun g hg=>heap_alloc_old w.drew _ hg) rfl rfl
  (some (w.heap.size,0,C.size)) (fun g o s hh=>by cases hh;exact ⟨Nat.le_refl _,_,_,heap_alloc_new w.drew _,rfl⟩)
 refine ⟨_,_,_,_,h,rfl,h1,.sl ?_ ⟨by simp [Hp.n_new],fun k0 d hk0 => ?_⟩,h2⟩
 · exact .sl false _ [] _ 0 _ (fun _=>undef) (by simp) ⟨by simp,hmax⟩ (by simp) (by simp) (by simp [flat])
 · simp [Hp.f_new] at hk0
   exact ⟨by omega,fun _ => .inr ⟨w.heap.size,0,0,cap,C.size,by simp,by simp [Gh.withT],by omega⟩⟩

end Go.Proofs.YtmoecjgehdkhkaaDoor

/-
  The walk of slices.Concat.
-/
namespace Go.Proofs.YtmoecjgehdkhkaaDoor
open Go Go.AL

def bs (l:List (BitVec 8)):PV := .sl false 1 (pl b8 l)
theorem zlF (l:List (BitVec 8)):(bs l).cells=[bs l]:=rfl
theorem zAc (l:List (BitVec 8)):AV.p (bs l) = .p (.sl false 1 (pl b8 l)):=rfl
def tot (ps:List (List (BitVec 8))):Nat → Nat
 | 0=>0
 | i+1=>tot ps i+(nth ps i).length
def cat (ps:List (List (BitVec 8))):Nat → List (BitVec 8)
 | 0=>[]
 | i+1=>cat ps i++nth ps i
theorem zIw (ps:List (List (BitVec 8))) (i:Nat):(cat ps i).length=tot ps i:=by
 induction i with
 | zero=>rfl
 | succ i ih=>simp [cat,tot,ih]
theorem zlG (ps:List (List (BitVec 8))) {i j:Nat} (h:i≤j):tot ps i≤tot ps j:=by
  induction j with
  | zero => have : i = 0 := by omega
            subst this;exact Nat.le_refl _
  | succ j ih =>
    by_cases e:i=j+1
    · rw [e];exact Nat.le_refl _
    · have:=ih (by omega);simp only [tot];omega

set_option maxHeartbeats 8000000 in
theorem zlH {G:Globs} (ps:List (List (BitVec 8))) (hn:ps.length≤1000) (h0:0 < tot ps ps.length) (h1:tot ps ps.length≤140737488355000) (H:Hp) (R:AV → Hp → Prop) (h:R (.p (.sl false 1 (pl b8 (cat ps ps.length)))) H) :
 ACall Tryd.prog G 86 [.p (.sl false 1 (pl bs ps))] H R:=by
 refine ACall.of_run (raw:=[88]) Tryd.func86 rfl Tryd.ntmps86 (by simp) fun hbel => ?_
 (refine .q ?_);refine .text ?_;simp (disch:=first|exact zb|fail) only [go_sem,seval]
 (refine .q ?_);refine .text ?_;simp (disch:=first|exact zb|fail) only [go_sem,seval]
 (refine .q ?_);refine .text ?_;simp (disch:=first|exact zb|fail) only [go_sem,seval]
 refine .q ?_
 refine .count (fun i env H'=>env 0 = .p (.sl false 1 (pl bs ps))∧env 3 = .p (i64 (tot ps i))∧env 9 = .p (.sl false 1 (pl bs ps))∧env 10 = .p (i64 ps.length)∧env 11 = .p (i64 i)∧H'=H) 0 ps.length (by omega) ?_ ?_ ?_
 · simp (disch:=first|exact zb|fail) only [go_sem,seval]
   rfl
 · intro env H' ⟨e0,e3,e9,e10,e11,eH⟩
   subst eH
   (refine .q ?_);refine .text ?_;simp (disch:=first|exact zb|fail) only [go_sem,seval,e10,e11]
   (refine .q ?_);refine .ifF (by simp (disch:=first|exact zb|fail) only [go_sem,seval]) ?_
   (refine .q ?_);refine .text ?_;simp (disch:=first|exact zb|fail) only [go_sem,seval,e3]
   refine CallK.of (fun R h=>ztI _ h0 (by omega) _ R h) ?_;simp (disch:=first|exact zb|fail) only [go_sem,seval]
   (refine .q ?_);refine .text ?_;simp (disch:=first|exact zb|fail) only [go_sem,seval,e0]
   refine .q ?_
   refine .count (fun i env H2=>env 6 = .sl H'.n i 1 (pl b8 (cat ps i))∧env 25 = .p (.sl false 1 (pl bs ps))∧env 26 = .p (i64 ps.length)∧env 27 = .p (i64 i)∧H2=H'.new (.tail i)) 0 ps.length (by omega) ?_ ?_ ?_
   · simp (disch:=first|exact zb|fail) only [go_sem,seval]
     rfl
   · intro env H2 ⟨e6,e25,e26,e27,eH⟩
     subst eH
     (refine .q ?_);refine .text ?_;simp (disch:=first|exact zb|fail) only [go_sem,seval,e26,e27]
     (refine .q ?_);refine .ifF (by simp (disch:=first|exact zb|fail) only [go_sem,seval]) ?_
     (refine .q ?_);refine .text ?_;simp (disch:=first|exact zb|fail) only [go_sem,seval,e6]
     (refine .q ?_);refine .rt Tryd.func86 (by rw [Tryd.results86]) (hR := ?_);simp (disch:=first|exact zb|fail) only [go_sem,seval]
     exact h
   · intro i env H2 _ hi ⟨e6,e25,e26,e27,eH⟩ ih
     subst eH
     have hm:=zlG ps (show i+1≤ps.length by omega)
     have hs:tot ps (i+1)=tot ps i+(nth ps i).length:=rfl
     have hcl:(cat ps i).length=tot ps i:=zIw ps i
     (refine .q ?_);refine .text ?_;simp (disch:=first|exact zb|fail) only [go_sem,seval,e26,e27]
     (refine .q ?_);refine .ifT (by simp (disch:=first|exact zb|fail) only [go_sem,seval]) ?_
     (refine .q ?_);refine .text ?_;simp (disch:=first|exact zb|fail) only [go_sem,seval,e25,e27,zlF,zAc]
     (refine .q ?_);refine .text ?_;simp (disch:=first|exact zb|fail) only [go_sem,seval,e6]
     (refine .q ?_);refine .text ?_;simp (disch:=first|exact zb|fail) only [go_sem,seval,e27]
     refine ih _ _ ?_
     simp (disch:=first|exact zb|fail) only [go_sem,seval,e6,e25,e26,e27]
     rfl
 · intro i env H' _ hi ⟨e0,e3,e9,e10,e11,eH⟩ ih
   subst eH
   have hm:=zlG ps (show i+1≤ps.length by omega)
   have hs:tot ps (i+1)=tot ps i+(nth ps i).length:=rfl
   (refine .q ?_);refine .text ?_;simp (disch:=first|exact zb|fail) only [go_sem,seval,e10,e11]
   (refine .q ?_);refine .ifT (by simp (disch:=first|exact zb|fail) only [go_sem,seval]) ?_
   (refine .q ?_);refine .text ?_;simp (disch:=first|exact zb|fail) only [go_sem,seval,e9,e11,zlF,zAc]
   (refine .q ?_);refine .text ?_;simp (disch:=first|exact zb|fail) only [go_sem,seval,e3]
   (refine .q ?_);refine .text ?_;simp (disch:=first|exact zb|fail) only [go_sem,seval]
   (refine .q ?_);refine .ifF (by simp (disch:=first|exact zb|fail) only [go_sem,seval]) ?_
   (refine .q ?_);refine .text ?_;simp (disch:=first|exact zb|fail) only [go_sem,seval,e11]
   refine ih _ _ ?_
   simp (disch:=first|exact zb|fail) only [go_sem,seval,e0,e3,e9,e10,e11]
   rw [hs]
   rfl

end Go.Proofs.YtmoecjgehdkhkaaDoor

/-
  The walks of the leaf's,the pair's and the keyed hash.
-/
namespace Go.Proofs.YtmoecjgehdkhkaaDoor
open Go Go.AL

theorem zOd (a b c:List (BitVec 8)):[PV.sl false 1 (pl b8 a),PV.sl false 1 (pl b8 b),PV.sl false 1 (pl b8 c)]=pl bs [a,b,c]:=rfl
theorem zQ0 (a b c:List (BitVec 8)):cat [a,b,c] 3=a++b++c:=by simp [cat,nth]
theorem zPt (a b c:List (BitVec 8)):tot [a,b,c] 3=a.length+b.length+c.length:=by simp [tot,nth]

set_option maxHeartbeats 8000000 in
theorem ztJ {G:Globs} (hG0:G 1=some (8,[.agg (pl zF inits)])) (hG1:G 3=some (64,[.agg (pl zF ks)])) (a b:List (BitVec 8)) (ha:a.length=32) (hb:b.length=32) (H:Hp) (R:AV → Hp → Prop) (h:R (.p (.agg (pl b8 (pair a b)))) H) :
 ACall Tryd.prog G 72 [.p (.agg (pl b8 a)),.p (.agg (pl b8 b))] H R:=by
 refine ACall.of_run (raw:=[]) Tryd.func72 rfl Tryd.ntmps72 (by simp) fun hbel => ?_
 (refine .q ?_);refine .text ?_;simp (disch:=first|exact zb|fail) only [go_sem,seval,-List.reduceReplicate]
 (refine .q ?_);refine .frzP 2 (by simp (disch:=first|exact zb|fail) only [go_sem,seval,-List.reduceReplicate];rfl) (by simp (disch:=first|exact zb|fail) only [go_sem,seval,-List.reduceReplicate]<;>rfl) (fun _=>rfl) (by first | exact zb | fail) ?_;(try simp (disch:=first|exact zb|fail) only [go_sem,seval,-List.reduceReplicate])
 (refine .q ?_);refine .frzP 3 (by simp (disch:=first|exact zb|fail) only [go_sem,seval,-List.reduceReplicate];rfl) (by simp (disch:=first|exact zb|fail) only [go_sem,seval,-List.reduceReplicate]<;>rfl) (fun _=>rfl) (by first | exact zb | fail) ?_;(try simp (disch:=first|exact zb|fail) only [go_sem,seval,-List.reduceReplicate])
 (refine .q ?_);refine .open [6] follows (by kernel_rfl) ?_;simp (disch:=first|exact zb|fail) only [go_sem,seval,-List.reduceReplicate,zOd]
 refine CallD.still (fun R h=>zlH [[1#8],a,b] (by simp) (by simp [zPt];omega) (by simp [zPt];omega) _ R h) ?_;simp (disch:=first|exact zb|fail) only [go_sem,seval,-List.reduceReplicate,zQ0]
 refine CallD.still (fun R h=>zgf hG0 hG1 ([1#8]++a++b) (by simp;omega) _ R h) ?_;simp (disch:=first|exact zb|fail) only [go_sem,seval,-List.reduceReplicate]
 (refine .q ?_);refine .rt Tryd.func72 (by rw [Tryd.results72]) (hR := ?_);simp (disch:=first|exact zb|fail) only [go_sem,seval,-List.reduceReplicate]
 exact h

def fl (m:BitVec 8):Nat → List (BitVec 8)
 | 0=>List.replicate 64 0#8
 | i+1=>(fl m i).set i m
theorem zOe (m:BitVec 8) (i:Nat):(fl m i).length=64:=by
 induction i with
 | zero=>simp [fl]
 | succ i ih=>simp [fl,ih]
def xk (k:List (BitVec 8)) (m:BitVec 8):Nat → List (BitVec 8)
 | 0=>List.replicate 64 m
 | i+1=>(xk k m i).set i (nth (xk k m i) i ^^^ nth k i)
theorem zOf (k:List (BitVec 8)) (m:BitVec 8) (i:Nat):(xk k m i).length=64:=by
 induction i with
 | zero=>simp [xk]
 | succ i ih=>simp [xk,ih]
attribute [go_sem] zOe zOf

end Go.Proofs.YtmoecjgehdkhkaaDoor

/-
  The walks of the reference's padding,digest and joins.
-/
namespace Go.Proofs.YtmoecjgehdkhkaaDoor
open Go Go.AL

set_option maxHeartbeats 8000000 in
theorem zhL {G:Globs} (a b:List (BitVec 8)) (ha:a.length≤140737488355000) (hb:a.length+b.length≤140737488355300) (H:Hp) (R:AV → Hp → Prop) (h:R (.p (.sl false 1 (pl b8 (a++b)))) H) :
 ACall Tryd.prog G 54 [.p (.sl false 1 (pl b8 a)),.p (.sl false 1 (pl b8 b))] H R:=by
 refine ACall.of_run (raw:=[]) Tryd.func54 rfl Tryd.ntmps54 (by simp) fun hbel => ?_
 (refine .q ?_);refine .text ?_;simp (disch:=first|exact zb|fail) only [go_sem,seval,-List.reduceReplicate]
 (refine .q ?_);refine .text ?_;simp (disch:=first|exact zb|fail) only [go_sem,seval,-List.reduceReplicate]
 (refine .q ?_);refine .text ?_;simp (disch:=first|exact zb|fail) only [go_sem,seval,-List.reduceReplicate]
 (refine .q ?_);refine .text ?_;simp (disch:=first|exact zb|fail) only [go_sem,seval,-List.reduceReplicate]
 (refine .q ?_);refine .rt Tryd.func54 (by rw [Tryd.results54]) (hR := ?_);simp (disch:=first|exact zb|fail) only [go_sem,seval,-List.reduceReplicate]
 exact h

set_option maxHeartbeats 8000000 in
theorem zAd {G:Globs} (b:List (BitVec 8)) (hb:b.length≤140737488355000) (H:Hp) (R:AV → Hp → Prop) (h:R (.p (.sl false 1 (pl b8 (pad b)))) H) :
 ACall Tryd.prog G 56 [.p (.sl false 1 (pl b8 b))] H R:=by
 refine ACall.of_run (raw:=[]) Tryd.func56 rfl Tryd.ntmps56 (by simp) fun hbel => ?_
 have hpn:=ziW b.length
 (refine .q ?_);refine .text ?_;simp (disch:=first|exact zb|fail) only [go_sem,seval,-List.reduceReplicate]
 (refine .q ?_);refine .text ?_;simp (disch:=first|exact zb|fail) only [go_sem,seval,-List.reduceReplicate]
 (refine .q ?_);refine .text ?_;simp (disch:=first|exact zb|fail) only [go_sem,seval,-List.reduceReplicate]
 refine .q ?_
 refine .count (fun j env H'=>env 0 = .p (.sl false 1 (pl b8 b))∧env 3 = .sl H.n (1+j) 1 (pl b8 (b++[128#8]++List.replicate j 0#8))∧H'=H.new (.tail (1+j))) 0 (zbQ b.length) (by omega) ?_ ?_ ?_
 · simp (disch:=first|exact zb|fail) only [go_sem,seval,-List.reduceReplicate]
   simp only [List.replicate_zero,List.append_nil]
 · intro env H' ⟨e0,e3,eH⟩
   subst eH
   have hm:=zge b.length
   (refine .q ?_);refine .text ?_;simp (disch:=first|exact zb|fail) only [go_sem,seval,-List.reduceReplicate,e0,e3]
   (refine .q ?_);refine .ifF (by simp (disch:=first|exact zb|fail) only [go_sem,seval,-List.reduceReplicate]) ?_
   (refine .q ?_);refine .text ?_;simp (disch:=first|exact zb|fail) only [go_sem,seval,-List.reduceReplicate,e0]
   (refine .q ?_);refine .text ?_;simp (disch:=first|exact zb|fail) only [go_sem,seval,-List.reduceReplicate,e3]
   refine .q ?_
   refine .count (fun i env H'=>env 3 = .sl H.n (1+zbQ b.length+i) 1 (pl b8 (b++[128#8]++List.replicate (zbQ b.length) 0#8++zeU (BitVec.ofInt 64 b.length*8#64) i))∧env 4 = .p (zx (BitVec.ofInt 64 b.length*8#64))∧env 5 = .p (i64 i)∧H'=H.new (.tail (1+zbQ b.length+i))) 0 8 (by omega) ?_ ?_ ?_
   · simp (disch:=first|exact zb|fail) only [go_sem,seval,-List.reduceReplicate,e3]
     simp only [zeU,List.append_nil]
   · intro env H' ⟨e3,e4,e5,eH⟩
     subst eH
     (refine .q ?_);refine .text ?_;simp (disch:=first|exact zb|fail) only [go_sem,seval,-List.reduceReplicate,e5]
     (refine .q ?_);refine .ifF (by simp (disch:=first|exact zb|fail) only [go_sem,seval,-List.reduceReplicate]) ?_
     (refine .q ?_);refine .text ?_;simp (disch:=first|exact zb|fail) only [go_sem,seval,-List.reduceReplicate,e3]
     (refine .q ?_);refine .rt Tryd.func56 (by rw [Tryd.results56]) (hR := ?_);simp (disch:=first|exact zb|fail) only [go_sem,seval,-List.reduceReplicate]
     exact h
   · intro i env H' _ hi ⟨e3,e4,e5,eH⟩ ih
     subst eH
     have ht:(56 - 8*(i:Int)).toNat=56 - 8*i:=by omega
     (refine .q ?_);refine .text ?_;simp (disch:=first|exact zb|fail) only [go_sem,seval,-List.reduceReplicate,e5]
     (refine .q ?_);refine .ifT (by simp (disch:=first|exact zb|fail) only [go_sem,seval,-List.reduceReplicate]) ?_
     (refine .q ?_);refine .text ?_;simp (disch:=first|exact zb|fail) only [go_sem,seval,-List.reduceReplicate,e3,e4,e5,ht]
     (refine .q ?_);refine .text ?_;simp (disch:=first|exact zb|fail) only [go_sem,seval,-List.reduceReplicate,e5]
     refine ih _ _ ?_
     simp (disch:=first|exact zb|fail) only [go_sem,seval,-List.reduceReplicate,e3,e4,e5]
     simp only [zeU,List.append_assoc,Nat.add_assoc,and_self]
 · intro j env H' _ hj ⟨e0,e3,eH⟩ ih
   subst eH
   have hm:=zqg b.length j hj
   (refine .q ?_);refine .text ?_;simp (disch:=first|exact zb|fail) only [go_sem,seval,-List.reduceReplicate,e0,e3]
   (refine .q ?_);refine .ifT (by simp (disch:=first|exact zb|fail) only [go_sem,seval,-List.reduceReplicate]) ?_
   (refine .q ?_);refine .text ?_;simp (disch:=first|exact zb|fail) only [go_sem,seval,-List.reduceReplicate,e3]
   refine .q ?_
   refine ih _ _ ?_
   simp (disch:=first|exact zb|fail) only [go_sem,seval,-List.reduceReplicate,e0,e3]
   simp only [List.replicate_succ',List.append_assoc,Nat.add_assoc,and_self]

set_option maxHeartbeats 8000000 in
theorem zcq {G:Globs} (d:List (BitVec 8)) (hd:d.length=32) (H:Hp) (R:AV → Hp → Prop) (h:R (.p (.sl false 1 (pl b8 d))) H) :
 ACall Tryd.prog G 44 [.p (.agg (pl b8 d))] H R:=by
 refine ACall.of_run (raw:=[]) Tryd.func44 rfl Tryd.ntmps44 (by simp) fun hbel => ?_
 (refine .q ?_);refine .text ?_;simp (disch:=first|exact zb|fail) only [go_sem,seval,-List.reduceReplicate]
 (refine .q ?_);refine .text ?_;simp (disch:=first|exact zb|fail) only [go_sem,seval,-List.reduceReplicate]
 (refine .q ?_);refine .text ?_;simp (disch:=first|exact zb|fail) only [go_sem,seval,-List.reduceReplicate]
 refine .q ?_
 (refine .q ?_);refine .own 3 (by simp (disch:=first|exact zb|fail) only [go_sem,seval,-List.reduceReplicate];rfl) ?_
 refine .count (fun i env H'=>env 1 = .ptr H.n 0∧env 4 = .p (i64 i)∧env 3 = .sl (H.n+1) i 1 (pl b8 (d.take i))∧H'=(H.new (.cells (cl b8 d))).new (.tail i)) 0 32 (by omega) ?_ ?_ ?_
 · simp (disch:=first|exact zb|fail) only [go_sem,seval,-List.reduceReplicate]
   rfl
 · intro env H' ⟨e1,e4,e3,eH⟩
   subst eH
   (refine .q ?_);refine .text ?_;simp (disch:=first|exact zb|fail) only [go_sem,seval,-List.reduceReplicate,e4]
   (refine .q ?_);refine .ifF (by simp (disch:=first|exact zb|fail) only [go_sem,seval,-List.reduceReplicate]) ?_
   (refine .q ?_);refine .text ?_;simp (disch:=first|exact zb|fail) only [go_sem,seval,-List.reduceReplicate,e3]
   (refine .q ?_);refine .rt Tryd.func44 (by rw [Tryd.results44]) (hR := ?_);simp (disch:=first|exact zb|fail) only [go_sem,seval,-List.reduceReplicate]
   exact h
 · intro i env H' _ hi ⟨e1,e4,e3,eH⟩ ih
   subst eH
   (refine .q ?_);refine .text ?_;simp (disch:=first|exact zb|fail) only [go_sem,seval,-List.reduceReplicate,e4]
   (refine .q ?_);refine .ifT (by simp (disch:=first|exact zb|fail) only [go_sem,seval,-List.reduceReplicate]) ?_
   (refine .q ?_);refine .text ?_;simp (disch:=first|exact zb|fail) only [go_sem,seval,-List.reduceReplicate,e1,e3,e4]
   (refine .q ?_);refine .text ?_;simp (disch:=first|exact zb|fail) only [go_sem,seval,-List.reduceReplicate,e4]
   refine ih _ _ ?_
   simp (disch:=first|exact zb|fail) only [go_sem,seval,-List.reduceReplicate,e1,e3,e4]

set_option maxHeartbeats 8000000 in
theorem zlI {G:Globs} (s:List (BitVec 32)) (hs:s.length=8) (H:Hp) (R:AV → Hp → Prop) (h:R (.p (.agg (pl b8 (dg s 32)))) H) :
 ACall Tryd.prog G 58 [.p (.agg (pl zF s))] H R:=by
 refine ACall.of_run (raw:=[]) Tryd.func58 rfl Tryd.ntmps58 (by simp) fun hbel => ?_
 (refine .q ?_);refine .text ?_;simp (disch:=first|exact zb|fail) only [go_sem,seval,-List.reduceReplicate]
 (refine .q ?_);refine .text ?_;simp (disch:=first|exact zb|fail) only [go_sem,seval,-List.reduceReplicate]
 (refine .q ?_);refine .text ?_;simp (disch:=first|exact zb|fail) only [go_sem,seval,-List.reduceReplicate]
 refine .q ?_
 refine .count (fun i env H'=>env 1 = .ptr H.n 0∧env 2 = .ptr (H.n+1) 0∧env 3 = .ptr (H.n+2) 0∧env 4 = .p (i64 i)∧H'=((H.new (.cells (cl zF s))).new (.cells (cl b8 (List.replicate 32 0#8)))).new (.cells (cl b8 (dg s i)))) 0 32 (by omega) ?_ ?_ ?_
 · simp (disch:=first|exact zb|fail) only [go_sem,seval,-List.reduceReplicate]
   rw [dg]
 · intro env H' ⟨e1,e2,e3,e4,eH⟩
   subst eH
   (refine .q ?_);refine .text ?_;simp (disch:=first|exact zb|fail) only [go_sem,seval,-List.reduceReplicate,e4]
   (refine .q ?_);refine .ifF (by simp (disch:=first|exact zb|fail) only [go_sem,seval,-List.reduceReplicate]) ?_
   (refine .q ?_);refine .text ?_;simp (disch:=first|exact zb|fail) only [go_sem,seval,-List.reduceReplicate,e2,e3]
   (refine .q ?_);refine .rt Tryd.func58 (by rw [Tryd.results58]) (hx:=by simp (disch:=first|exact zb|fail) only [go_sem,seval,-List.reduceReplicate,e2];rfl) (hR := ?_);simp (disch:=first|exact zb|fail) only [go_sem,seval,-List.reduceReplicate,e2]
   exact h
 · intro i env H' _ hi ⟨e1,e2,e3,e4,eH⟩ ih
   subst eH
   have ht:(24 - 8*((i:Int) % 4)).toNat=24 - 8*(i % 4):=by omega
   (refine .q ?_);refine .text ?_;simp (disch:=first|exact zb|fail) only [go_sem,seval,-List.reduceReplicate,e4]
   (refine .q ?_);refine .ifT (by simp (disch:=first|exact zb|fail) only [go_sem,seval,-List.reduceReplicate]) ?_
   (refine .q ?_);refine .text ?_;simp (disch:=first|exact zb|fail) only [go_sem,seval,-List.reduceReplicate,e1,e3,e4,ht]
   (refine .q ?_);refine .text ?_;simp (disch:=first|exact zb|fail) only [go_sem,seval,-List.reduceReplicate,e4]
   refine ih _ _ ?_
   simp (disch:=first|exact zb|fail) only [go_sem,seval,-List.reduceReplicate,e1,e2,e3,e4]
   rw [dg]

end Go.Proofs.YtmoecjgehdkhkaaDoor

/-
  The walks of the reference's hash,leaf,pair and keyed hash.
-/
namespace Go.Proofs.YtmoecjgehdkhkaaDoor
open Go Go.AL

theorem zIx (b:List (BitVec 8)):(pad b).length % 64=0:=by
 rw [ziX]
 have:=zge b.length
 omega

set_option maxHeartbeats 8000000 in
theorem zcb {G:Globs} (b:List (BitVec 8)) (hb:b.length≤140737488355000) (H:Hp) (R:AV → Hp → Prop) (h:R (.p (.agg (pl b8 (sha b)))) H) :
 ACall Tryd.prog G 29 [.p (.sl false 1 (pl b8 b))] H R:=by
 refine ACall.of_run (raw:=[]) Tryd.func29 rfl Tryd.ntmps29 (by simp) fun hbel => ?_
 have hm:=zIx b
 have hl:(pad b).length≤140737488355100:=by rw [ziX];have:=ziW b.length;omega
 have hi0:inits.length=8:=rfl
 unfold sha at h
 generalize hp:pad b=p at hm hl h
 (refine .q ?_);refine .text ?_;simp (disch:=first|exact zb|fail) only [go_sem,seval,-List.reduceReplicate]
 (refine .q ?_);refine .text ?_;simp (disch:=first|exact zb|fail) only [go_sem,seval,-List.reduceReplicate]
 refine CallK.of (fun R h=>ziV _ R h) ?_;simp (disch:=first|exact zb|fail) only [go_sem,seval,-List.reduceReplicate]
 refine CallK.of (fun R h=>zAd b hb _ R h) ?_;simp (disch:=first|exact zb|fail) only [go_sem,seval,-List.reduceReplicate,hp]
 (refine .q ?_);refine .text ?_;simp (disch:=first|exact zb|fail) only [go_sem,seval,-List.reduceReplicate]
 refine .q ?_
 refine .count (fun i env H'=>env 2 = .ptr H.n 0∧env 3 = .ptr (H.n+1) 0∧env 4 = .p (.sl false 1 (pl b8 p))∧env 5 = .p (i64 (64*i:Nat)) ∧
  H'=(H.new (.cells (cl b8 (List.replicate 32 0#8)))).new (.cells (cl zF (yB p inits i)))) 0 (p.length / 64) (by omega) ?_ ?_ ?_
 · simp (disch:=first|exact zb|fail) only [go_sem,seval,-List.reduceReplicate]
   rw [yB]
 · intro env H' ⟨e2,e3,e4,e5,eH⟩
   subst eH
   have hr:(yB p inits (p.length / 64)).length=8:=za2 _ _ hi0 _
   generalize yB p inits (p.length / 64)=s at hr h
   have h64:64*(p.length / 64)=p.length:=by omega
   rw [h64] at e5
   (refine .q ?_);refine .text ?_;simp (disch:=first|exact zb|fail) only [go_sem,seval,-List.reduceReplicate,e4,e5]
   (refine .q ?_);refine .ifF (by simp (disch:=first|exact zb|fail) only [go_sem,seval,-List.reduceReplicate]) ?_
   (refine .q ?_);refine .text ?_;simp (disch:=first|exact zb|fail) only [go_sem,seval,-List.reduceReplicate,e3]
   refine CallK.of (fun R h=>zlI s hr _ R h) ?_;simp (disch:=first|exact zb|fail) only [go_sem,seval,-List.reduceReplicate,e2]
   (refine .q ?_);refine .rt Tryd.func29 (by rw [Tryd.results29]) (hx:=by simp (disch:=first|exact zb|fail) only [go_sem,seval,-List.reduceReplicate,e2];rfl) (hR := ?_);simp (disch:=first|exact zb|fail) only [go_sem,seval,-List.reduceReplicate,e2]
   exact h
 · intro i env H' _ hi ⟨e2,e3,e4,e5,eH⟩ ih
   subst eH
   have hr:(yB p inits i).length=8:=za2 _ _ hi0 _
   have hlen:(List.drop (64*i) (List.take (64*i+64) p)).length=64:=by simp;omega
   (refine .q ?_);refine .text ?_;simp (disch:=first|exact zb|fail) only [go_sem,seval,-List.reduceReplicate,e4,e5]
   (refine .q ?_);refine .ifT (by simp (disch:=first|exact zb|fail) only [go_sem,seval,-List.reduceReplicate]) ?_
   (refine .q ?_);refine .open [7] follows (by kernel_rfl) ?_;simp (disch:=first|exact zb|fail) only [go_sem,seval,-List.reduceReplicate,e3,e4,e5]
   refine CallD.still (fun R h=>zg6 _ _ hr hlen _ R h) ?_;simp (disch:=first|exact zb|fail) only [go_sem,seval,-List.reduceReplicate,e3]
   (refine .q ?_);refine .text ?_;simp (disch:=first|exact zb|fail) only [go_sem,seval,-List.reduceReplicate,e5]
   refine ih _ _ ?_
   simp (disch:=first|exact zb|fail) only [go_sem,seval,-List.reduceReplicate,e2,e3,e4,e5]
   rw [yB]
   exact ⟨congrArg (fun z=>AV.p (i64 z)) (by omega),rfl⟩

set_option maxHeartbeats 8000000 in
theorem zdl {G:Globs} (a b:List (BitVec 8)) (ha:a.length=32) (hb:b.length=32) (H:Hp) (R:AV → Hp → Prop) (h:R (.p (.agg (pl b8 (pair a b)))) H) :
 ACall Tryd.prog G 28 [.p (.agg (pl b8 a)),.p (.agg (pl b8 b))] H R:=by
 refine ACall.of_run (raw:=[]) Tryd.func28 rfl Tryd.ntmps28 (by simp) fun hbel => ?_
 (refine .q ?_);refine .text ?_;simp (disch:=first|exact zb|fail) only [go_sem,seval,-List.reduceReplicate]
 (refine .q ?_);refine .open [8] follows (by kernel_rfl) ?_;simp (disch:=first|exact zb|fail) only [go_sem,seval,-List.reduceReplicate]
 refine CallD.still (fun R h=>zcq a ha _ R h) ?_;simp (disch:=first|exact zb|fail) only [go_sem,seval,-List.reduceReplicate]
 refine CallD.still (fun R h=>zhL [1#8] a (by simp) (by simp;omega) _ R h) ?_;simp (disch:=first|exact zb|fail) only [go_sem,seval,-List.reduceReplicate]
 refine CallD.still (fun R h=>zcq b hb _ R h) ?_;simp (disch:=first|exact zb|fail) only [go_sem,seval,-List.reduceReplicate]
 refine CallD.still (fun R h=>zhL ([1#8]++a) b (by simp;omega) (by simp;omega) _ R h) ?_;simp (disch:=first|exact zb|fail) only [go_sem,seval,-List.reduceReplicate]
 refine CallD.still (fun R h=>zcb ([1#8]++a++b) (by simp;omega) _ R h) ?_;simp (disch:=first|exact zb|fail) only [go_sem,seval,-List.reduceReplicate]
 (refine .q ?_);refine .rt Tryd.func28 (by rw [Tryd.results28]) (hR := ?_);simp (disch:=first|exact zb|fail) only [go_sem,seval,-List.reduceReplicate]
 exact h

end Go.Proofs.YtmoecjgehdkhkaaDoor

/-
  The walks of the comparison of bytes and of the row of equal bytes.
-/
namespace Go.Proofs.YtmoecjgehdkhkaaDoor
open Go Go.AL

set_option maxHeartbeats 8000000 in
theorem zcP {G:Globs} (a b:List (BitVec 8)) (ha:a.length≤140737488355000) (hb:b.length≤140737488355000) (H:Hp) (R:AV → Hp → Prop) (h:R (.p (bo (decide (a=b)))) H) :
 ACall Tryd.prog G 11 [.p (.sl false 1 (pl b8 a)),.p (.sl false 1 (pl b8 b))] H R:=by
 refine ACall.of_run (raw:=[]) Tryd.func11 rfl Tryd.ntmps11 (by simp) fun hbel => ?_
 (refine .q ?_);refine .text ?_;simp (disch:=first|exact zb|fail) only [go_sem,seval]
 by_cases hl:a.length=b.length
 case neg =>
  have hne:a≠b:=fun e=>hl (by rw [e])
  (refine .q ?_);refine .text ?_;simp (disch:=first|exact zb|fail) only [go_sem,seval]
  (refine .q ?_);refine .ifT (by simp (disch:=first|exact zb|fail) only [go_sem,seval]) ?_
  (refine .q ?_);refine .text ?_;simp (disch:=first|exact zb|fail) only [go_sem,seval]
  (refine .q ?_);refine .rt Tryd.func11 (by rw [Tryd.results11]) (hR := ?_);simp (disch:=first|exact zb|fail) only [go_sem,seval]
  rw [decide_eq_false hne] at h
  exact h
 (refine .q ?_);refine .text ?_;simp (disch:=first|exact zb|fail) only [go_sem,seval]
 (refine .q ?_);refine .ifF (by simp (disch:=first|exact zb|fail) only [go_sem,seval]) ?_
 (refine .q ?_);refine .text ?_;simp (disch:=first|exact zb|fail) only [go_sem,seval]
 refine .q ?_
 refine .count (fun i env H'=>env 0 = .p (.sl false 1 (pl b8 a))∧env 1 = .p (.sl false 1 (pl b8 b))∧env 5 = .p (i64 i)∧(∀ j,j < i → nth a j=nth b j)∧H'=H) 0 a.length (by omega) ?_ ?_ ?_
 · simp (disch:=first|exact zb|fail) only [go_sem,seval]
   omega
 · intro env H' ⟨e0,e1,e5,hj,eH⟩
   subst eH
   have he:a=b:=ziA hl hj
   (refine .q ?_);refine .text ?_;simp (disch:=first|exact zb|fail) only [go_sem,seval,e0,e5]
   (refine .q ?_);refine .ifF (by simp (disch:=first|exact zb|fail) only [go_sem,seval]) ?_
   (refine .q ?_);refine .text ?_;simp (disch:=first|exact zb|fail) only [go_sem,seval]
   (refine .q ?_);refine .rt Tryd.func11 (by rw [Tryd.results11]) (hR := ?_);simp (disch:=first|exact zb|fail) only [go_sem,seval]
   rw [decide_eq_true he] at h
   exact h
 · intro i env H' _ hi ⟨e0,e1,e5,hj,eH⟩ ih
   subst eH
   have hi2:i < b.length:=by omega
   (refine .q ?_);refine .text ?_;simp (disch:=first|exact zb|fail) only [go_sem,seval,e0,e5]
   (refine .q ?_);refine .ifT (by simp (disch:=first|exact zb|fail) only [go_sem,seval]) ?_
   (refine .q ?_);refine .open [] follows (by kernel_rfl) ?_;simp (disch:=first|exact zb|fail) only [go_sem,seval,e0,e1,e5]
   by_cases hx:nth a i=nth b i
   · have hbn:(nth a i != nth b i)=false:=by simp [hx]
     (refine .q ?_);refine .ifF (by simp (disch:=first|exact zb|fail) only [go_sem,seval,hbn]) ?_
     (refine .q ?_);refine .text ?_;simp (disch:=first|exact zb|fail) only [go_sem,seval,e5]
     refine ih _ _ ?_
     simp (disch:=first|exact zb|fail) only [go_sem,seval,e0,e1,e5]
     intro j hj'
     by_cases hji:j=i
     · subst hji;exact hx
     · exact hj j (by omega)
   · have hbn:(nth a i != nth b i)=true:=by simp [hx]
     have hne:a≠b:=fun e=>hx (by rw [e])
     (refine .q ?_);refine .ifT (by simp (disch:=first|exact zb|fail) only [go_sem,seval,hbn]) ?_
     (refine .q ?_);refine .text ?_;simp (disch:=first|exact zb|fail) only [go_sem,seval]
     (refine .q ?_);refine .rt Tryd.func11 (by rw [Tryd.results11]) (hR := ?_);simp (disch:=first|exact zb|fail) only [go_sem,seval]
     rw [decide_eq_false hne] at h
     exact h

end Go.Proofs.YtmoecjgehdkhkaaDoor

/-
  Sessions: numbers as bytes;the program's write and read.
-/
namespace Go.Proofs.YtmoecjgehdkhkaaDoor
open Go Go.AL

abbrev By:=List (BitVec 8)
abbrev U:=BitVec 64
theorem CallD.of {C:Cx} {ops:Array Oper} {q:Nat → Bool} {f:FuncId} {args':List AV} {dst:Option Nat} {n:Nat} {rest:List Oper} {k:List Item} {env:Env} {H H':Hp} {R:AV → Hp → Prop} {r:AV}
 (h : ∀ R:AV → Hp → Prop,R r H' → ACall C.P C.G f args' H R) (hk:yW C ops q n rest k (env.put dst r) H' R):CallD C ops q false f args' dst n rest k env H R :=
 .moves (h (fun r' H2=>r'=r∧H2=H') ⟨rfl,rfl⟩) (by rintro _ _ ⟨rfl,rfl⟩;exact hk)

theorem ACall.wk {P:Program} {f:FuncId} {args:List AV} {G:Globs} {H:Hp} {R R':AV → Hp → Prop} (h:ACall P G f args H R') (hw : ∀ r H',R' r H' → ∃ r',R r' H' ∧ ∀ σ w v,RelV σ H' w r v → RelV σ H' w r' v):ACall P G f args H R:=by
 intro σ w vs h1 h2
 refine (h σ w vs h1 h2).mono ?_
 rintro e W' ⟨r,H',σ',v,q1,q2,q3,q4,q5⟩
 obtain ⟨r',p1,p2⟩:=hw r H' q1
 exact ⟨r',H',σ',v,p1,q2,q3,p2 _ _ _ q4,q5⟩
theorem zf {C:Cx} {ops:Array Oper} {i:Nat} {o:Oper} {K:Env → Hp → Prop} {env:Env} {H:Hp} (x:AV) (ho:ops[i]? = some o) (hg:o.guard=none) (hs:zo C.P C.G o.op o.type env H = .val x H) (hd:zQ C.nt o.dst=true)
 (hK:K (env.put o.dst x) H):opA C ops false i K env H:=by
 unfold opA
 rw [ho]
 simp only [hg,zR,aOp1,hs,sOp]
 exact ⟨hd,hK⟩
theorem yh {C:Cx} {ops:Array Oper} {i:Nat} {o:Oper} {K:Env → Hp → Prop} {env:Env} {H H':Hp} (x:AV) (ho:ops[i]? = some o) (hg:o.guard=none) (hs:zo C.P C.G o.op o.type env H = .val x H') (hd:zQ C.nt o.dst=true)
 (hK:K (env.put o.dst x) H'):opA C ops false i K env H:=by
 unfold opA
 rw [ho]
 simp only [hg,zR,aOp1,hs,sOp]
 exact ⟨hd,hK⟩
theorem yd {C:Cx} {ops:Array Oper} {i:Nat} {o:Oper} {K:Env → Hp → Prop} {env:Env} {H H':Hp} (ho:ops[i]? = some o) (hg:o.guard=none) (hs:zo C.P C.G o.op o.type env H = .unit H') (hd:o.dst=none)
 (hK:K env H'):opA C ops false i K env H:=by
 unfold opA
 rw [ho]
 simp only [hg,zR,aOp1,hs,sOp]
 exact ⟨hd,by rw [hd];exact hK⟩
theorem yi {C:Cx} {ops:Array Oper} {i:Nat} {o:Oper} {K:Env → Hp → Prop} {env:Env} {H:Hp} {f:FuncId} {xs xs':List AV} {r:AV} {H':Hp} (ho:ops[i]? = some o) (hg:o.guard=none) (hs:zo C.P C.G o.op o.type env H = .call f xs) (hd:zQ C.nt o.dst=true)
 (hargs:yg C.raw f xs=xs') (hc : ∀ R:AV → Hp → Prop,R r H' → ACall C.P C.G f xs' H R) (hK:K (env.put o.dst r) H'):opA C ops false i K env H:=by
 unfold opA
 rw [ho]
 simp only [hg,zR,aOp1,hs,sOp,hargs]
 exact ⟨hd,hc _ hK⟩
theorem za {L:Nat → Bool} {i k:Nat} (h:k≠i):more L i k=L k:=by simp [more,h]
theorem zv {L:Nat → Bool} {i:Nat}:more L i i=true:=by simp [more]
theorem zOg {L:Nat → Bool} {i k:Nat} (h:L k=true):more L i k=true:=by simp [more,h]
def allT (L:Nat → Bool) (l:List Nat):Prop := ∀ d∈l,L d=true
theorem zB {L:Nat → Bool}:allT L []:=fun d h=>by cases h
theorem zc {L:Nat → Bool} {d:Nat} {l:List Nat} (h:L d=true) (t:allT L l):allT L (d :: l):=fun x hx=>by
 rcases List.mem_cons.1 hx with rfl | hx
 · exact h
 · exact t x hx
section inv
variable {L:Nat → Bool} {i j s:Nat} {env:Env} {d:Option Nat} {x v:AV} {l:List Nat}
theorem zu (m:L j=true → allT L l) (hL:L i=false) (h:i∈l:=by decide):L j=false:=Bool.eq_false_iff.2 fun e=>by
 have:=m e i h
 rw [hL] at this;cases this
theorem kf (e:env s=v) (h:d≠some s:=by decide):env.put d x s=v:=(zdX fun i hi q=>h (hi.trans (congrArg some q))).trans e
theorem kn {p:Prop}:p → env.put (some s) x s=x:=fun _=>put_some.trans (if_pos rfl)
theorem kt (t:allT L l):allT (more L i) l:=fun d h=>zOg (t d h)
theorem kt1:allT (more L i) [i]:=fun d h=>by
 rcases List.mem_cons.1 h with rfl | h
 · exact zv
 · cases h
theorem ka (m:L j=true → allT L l) (h:j≠i:=by decide):more L i j=true → allT (more L i) l:=fun q=>kt (m (by rwa [za h] at q))
theorem kL {A:Array Edge} {L:Nat → Bool} (hall : ∀ e∈A,Region.binds .any e=true → L e.on=true) (k:Nat) {j:Nat} {g:Ground} (h1:A[k]? = some ⟨j,g⟩) (h2:Region.binds .any ⟨j,g⟩=true):L j=true:=hall _ (Array.mem_of_getElem? h1) h2
def kF (env:Env) (l:List (Nat × AV)):Prop := ∀ p∈l,env p.1=p.2
def kI (L:Nat → Bool) (env:Env) (l:List (Nat × Nat × AV)):Prop := ∀ p∈l,L p.1=true → env p.2.1=p.2.2
theorem kF0:kF env []:=fun p h=>by cases h
theorem yQ {t:List (Nat × AV)} (h:env s=v) (r:kF env t):kF env ((s,v) :: t):=fun p hp=>by
 rcases List.mem_cons.1 hp with rfl | hp
 · exact h
 · exact r p hp
theorem zU {t:List (Nat × AV)} (F:kF env t) (k:Nat) (e:t[k]? = some (s,v)):env s=v:=F _ (List.mem_of_getElem? e)
theorem zw {t:List (Nat × Nat × AV)} (G:kI L env t) (k:Nat) (e:t[k]? = some (i,s,v)) (h:L i=true):env s=v:=G _ (List.mem_of_getElem? e) h
theorem zH {t:List (Nat × AV)} (F:kF env t) (h:t.all (fun p=>p.1 != s)=true:=by rfl):kF (env.put (some s) x) t:=fun p hp =>
 kf (F p hp) fun q=>by
  have h1:=List.all_eq_true.1 h p hp
  simp only [Option.some.injEq] at q
  simp [q] at h1
theorem zK {t:List (Nat × Nat × AV)} (G:kI L env t) (h1:t.all (fun p=>p.1 == i || p.2.1 != s)=true:=by rfl) (h2:t.filter (fun p=>p.1 == i)=[(i,s,x)]:=by rfl):kI (more L i) (env.put (some s) x) t:=fun p hp hL=>by
 by_cases e:p.1=i
 · have h3:p∈t.filter (fun p=>p.1 == i):=List.mem_filter.2 ⟨hp,by simp [e]⟩
   rw [h2] at h3
   obtain rfl:=List.mem_singleton.1 h3
   exact kn (p:=True) trivial
 · refine kf (G p hp (by rwa [za e] at hL)) fun q => ?_
   have h3:=List.all_eq_true.1 h1 p hp
   simp only [Option.some.injEq] at q
   simp [q,e] at h3
theorem kIs {t:List (Nat × Nat × AV)} (G:kI L env t) (h1:t.all (fun p=>p.1 != i)=true:=by rfl):kI (more L i) env t:=fun p hp hL=>by
 have h3:=List.all_eq_true.1 h1 p hp
 exact G p hp (by rwa [za (by simpa using h3)] at hL)
theorem kIj {j:Nat} {t u:List (Nat × Nat × AV)} (G:kI L env t) (e0:L j=false) (h1:u.all (fun p=>p.1 == i || p.2.1 != s)=true:=by rfl) (h2:u.filter (fun p=>p.1 == i)=[(i,s,x)]:=by rfl)
 (h3:u.filter (fun p => !(p.1 == i || p.1 == j))=t.filter (fun p => !(p.1 == i || p.1 == j)):=by rfl) (h4:(i == j)=false:=by rfl):kI (more L i) (env.put (some s) x) u:=fun p hp hL=>by
 by_cases e:p.1=i
 · have h5:p∈u.filter (fun p=>p.1 == i):=List.mem_filter.2 ⟨hp,by simp [e]⟩
   rw [h2] at h5
   obtain rfl:=List.mem_singleton.1 h5
   exact kn (p:=True) trivial
 · by_cases e2:p.1=j
   · rw [za e,e2,e0] at hL;cases hL
   · have h5:p∈u.filter (fun p => !(p.1 == i || p.1 == j)):=List.mem_filter.2 ⟨hp,by simp [e,e2]⟩
     rw [h3] at h5
     refine kf (G p (List.mem_filter.1 h5).1 (by rwa [za e] at hL)) fun q => ?_
     have h6:=List.all_eq_true.1 h1 p hp
     simp only [Option.some.injEq] at q
     simp [q,e] at h6
theorem kx {p:Prop}:more L i i=false → p:=fun q=>by rw [zv] at q;cases q
theorem kq (f:L j=false → env s=v) (h:j≠i:=by decide) (hd:d≠some s:=by decide):more L i j=false → env.put d x s=v:=fun q=>kf (f (by rwa [za h] at q)) hd
end inv

theorem ziZ {f:FuncId} {args:List AV}:yg [f] f args=args:=by simp [yg]
theorem zlJ {f g:Nat} {args:List AV} (h:f≠g):yg [g] f args=args.map AV.weak:=by simp [yg,h]
attribute [go_sem] ziZ zlJ
def le (x:U):Nat → By
 | 0=>[]
 | n+1=>le x n++[(x >>> (8*n)).setWidth 8]
theorem yr {x:U} : ∀ {n},(le x n).length=n
 | 0=>rfl
 | n+1=>by simp [le,yr]
theorem zbv {x:U} {n:Nat}:le x (n+1)=le x n++[(x >>> (8*n)).setWidth 8]:=rfl

def rd:By → U
 | []=>0
 | c :: b=>rd b <<< 8 ||| c.setWidth 64
theorem zIy {b:By} {i:Nat} (h:i < b.length):rd (b.drop i)=rd (b.drop (i+1)) <<< 8 ||| (nth b i).setWidth 64:=by
 rw [List.drop_eq_getElem_cons h,show nth b i=b[i] by simp [nth,h]]
 rfl

section walks
variable {G:Globs}
set_option maxHeartbeats 4000000 in
theorem zbM (b:By) (x:U) (n:Nat) (hb:b.length+n≤140737488355000) (α v:Nat) (H:Hp) (hα:H.f α=some (.tail v)) (R:AV → Hp → Prop) (h:R (.sl α (v+n) 1 (pl b8 (b++le x n))) (H.set α (.tail (v+n)))) :
 ACall Tryd.prog G 40 [.sl α v 1 (pl b8 b),.p (zx x),.p (i64 n)] H R:=by
 refine ACall.of_run (raw:=[]) Tryd.func40 rfl Tryd.ntmps40 (by simp) fun hbel => ?_
 have hαn:=Hp.lt hα
 have hs0:H.set α (.tail v)=H:=Hp.set_same H _ α hα
 (refine .q ?_);refine .text ?_;simp (disch:=first|exact zb|fail) only [go_sem,seval]
 (refine .q ?_);refine .text ?_;simp (disch:=first|exact zb|fail) only [go_sem,seval]
 (refine .q ?_);refine .loopH [7] (fun i=>[(0,.sl α (v+i) 1 (pl b8 (b++le x i))),(1,.p (zx (x >>> (8*i)))),(8,.p (i64 i))]) (fun i=>H.set α (.tail (v+i))) (fun i=>True) (0) (n) (by omega) ?_ (by first | rfl | (simp (disch:=first|exact zb|fail) only [go_sem,seval,le,hs0,List.append_nil,Nat.mul_zero,BitVec.ushiftRight_zero]<;>rfl)) ?_ ?_ ?_
 · simp (disch:=first|exact zb|fail) only [go_sem,seval,le,hs0,List.append_nil,Nat.mul_zero,BitVec.ushiftRight_zero]<;>(repeat' (first | rfl | refine And.intro ?_ ?_))
 · exact trivial
 intro env E hQ;simp (disch:=first|exact zb|fail) only [go_sem,seval,le,hs0,List.append_nil,Nat.mul_zero,BitVec.ushiftRight_zero] at E
 rotate_left 1
 intro i env hi0 hi E hQ ihE;simp (disch:=first|exact zb|fail) only [go_sem,seval,le,hs0,List.append_nil,Nat.mul_zero,BitVec.ushiftRight_zero] at E
 rotate_left 1
 · (refine .q ?_);refine .text ?_;simp (disch:=first|exact zb|fail) only [go_sem,seval,E]
   (refine .q ?_);refine .ifF (by simp (disch:=first|exact zb|fail) only [go_sem,seval]) ?_
   (refine .q ?_);refine .text ?_;simp (disch:=first|exact zb|fail) only [go_sem,seval,E]
   (refine .q ?_);refine .retKeep Tryd.func40 (by rw [Tryd.results40]) (by simp (disch:=first|exact zb|fail) only [go_sem,seval,E];rfl) ?_;(try simp (disch:=first|exact zb|fail) only [go_sem,seval,E])
   exact h
 · have h8:x >>> (8*i) >>> 8=x >>> (8*(i+1)):=by rw [←BitVec.shiftRight_add];rfl
   have hl:=yr (x:=x) (n:=i)
   (refine .q ?_);refine .text ?_;simp (disch:=first|exact zb|fail) only [go_sem,seval,E]
   (refine .q ?_);refine .ifT (by simp (disch:=first|exact zb|fail) only [go_sem,seval]) ?_
   (refine .q ?_);refine .text ?_;simp (disch:=first|exact zb|fail) only [go_sem,seval,E,hl]
   (refine .q ?_);refine .text ?_;simp (disch:=first|exact zb|fail) only [go_sem,seval,E]
   (refine .q ?_);refine .text ?_;simp (disch:=first|exact zb|fail) only [go_sem,seval,E]
   first | (refine ihE _ _ ?_ trivial ?_) | (refine .z rfl ?_;refine ihE _ _ ?_ trivial ?_) | (refine .z rfl ?_;refine .z rfl ?_;refine ihE _ _ ?_ trivial ?_) | (refine .z rfl ?_;refine .z rfl ?_;refine .z rfl ?_;refine ihE _ _ ?_ trivial ?_)
   · simp (disch:=first|exact zb|fail) only [go_sem,seval,E,h8,zbv,List.append_assoc,Nat.add_assoc]<;>(repeat' (first | rfl | refine And.intro ?_ ?_))
   · first | rfl | (simp (disch:=first|exact zb|fail) only [go_sem,seval,E,h8,zbv,List.append_assoc,Nat.add_assoc]<;>(try rfl))

set_option maxHeartbeats 4000000 in
theorem zlK (b:By) (x:U) (n:Nat) (hb:b.length+n≤140737488355000) (H:Hp) (R:AV → Hp → Prop) (h:R (.sl H.n n 1 (pl b8 (b++le x n))) (H.new (.tail n))) :
 ACall Tryd.prog G 40 [.p (.sl true 1 (pl b8 b)),.p (zx x),.p (i64 n)] H R:=by
 refine ACall.of_run (raw:=[]) Tryd.func40 rfl Tryd.ntmps40 (by simp) fun hbel => ?_
 (refine .q ?_);refine .text ?_;simp (disch:=first|exact zb|fail) only [go_sem,seval]
 (refine .q ?_);refine .own 0 (by simp (disch:=first|exact zb|fail) only [go_sem,seval];rfl) ?_
 (refine .q ?_);refine .text ?_;simp (disch:=first|exact zb|fail) only [go_sem,seval]
 (refine .q ?_);refine .loopH [7] (fun i=>[(0,.sl H.n i 1 (pl b8 (b++le x i))),(1,.p (zx (x >>> (8*i)))),(8,.p (i64 i))]) (fun i=>H.new (.tail i)) (fun i=>True) (0) (n) (by omega) ?_ (by first | rfl | (simp (disch:=first|exact zb|fail) only [go_sem,seval,le,List.append_nil,Nat.mul_zero,BitVec.ushiftRight_zero]<;>rfl)) ?_ ?_ ?_
 · simp (disch:=first|exact zb|fail) only [go_sem,seval,le,List.append_nil,Nat.mul_zero,BitVec.ushiftRight_zero]<;>(repeat' (first | rfl | refine And.intro ?_ ?_))
 · exact trivial
 intro env E hQ;simp (disch:=first|exact zb|fail) only [go_sem,seval,le,List.append_nil,Nat.mul_zero,BitVec.ushiftRight_zero] at E
 rotate_left 1
 intro i env hi0 hi E hQ ihE;simp (disch:=first|exact zb|fail) only [go_sem,seval,le,List.append_nil,Nat.mul_zero,BitVec.ushiftRight_zero] at E
 rotate_left 1
 · (refine .q ?_);refine .text ?_;simp (disch:=first|exact zb|fail) only [go_sem,seval,E]
   (refine .q ?_);refine .ifF (by simp (disch:=first|exact zb|fail) only [go_sem,seval]) ?_
   (refine .q ?_);refine .text ?_;simp (disch:=first|exact zb|fail) only [go_sem,seval,E]
   (refine .q ?_);refine .retKeep Tryd.func40 (by rw [Tryd.results40]) (by simp (disch:=first|exact zb|fail) only [go_sem,seval,E];rfl) ?_;(try simp (disch:=first|exact zb|fail) only [go_sem,seval,E])
   exact h
 · have h8:x >>> (8*i) >>> 8=x >>> (8*(i+1)):=by rw [←BitVec.shiftRight_add];rfl
   have hl:=yr (x:=x) (n:=i)
   (refine .q ?_);refine .text ?_;simp (disch:=first|exact zb|fail) only [go_sem,seval,E]
   (refine .q ?_);refine .ifT (by simp (disch:=first|exact zb|fail) only [go_sem,seval]) ?_
   (refine .q ?_);refine .text ?_;simp (disch:=first|exact zb|fail) only [go_sem,seval,E,hl]
   (refine .q ?_);refine .text ?_;simp (disch:=first|exact zb|fail) only [go_sem,seval,E]
   (refine .q ?_);refine .text ?_;simp (disch:=first|exact zb|fail) only [go_sem,seval,E]
   first | (refine ihE _ _ ?_ trivial ?_) | (refine .z rfl ?_;refine ihE _ _ ?_ trivial ?_) | (refine .z rfl ?_;refine .z rfl ?_;refine ihE _ _ ?_ trivial ?_) | (refine .z rfl ?_;refine .z rfl ?_;refine .z rfl ?_;refine ihE _ _ ?_ trivial ?_)
   · simp (disch:=first|exact zb|fail) only [go_sem,seval,E,h8,zbv,List.append_assoc]<;>(repeat' (first | rfl | refine And.intro ?_ ?_))
   · first | rfl | (simp (disch:=first|exact zb|fail) only [go_sem,seval,E,h8,zbv,List.append_assoc]<;>(try rfl))

theorem zg9 (L:By) (H:Hp) (R:AV → Hp → Prop) (h:R (.clo 77 [] [.ptr H.n 0]) (H.new (.cells [.p (.sl false 1 (pl b8 L))]))):ACall Tryd.prog G 61 [.p (.sl false 1 (pl b8 L))] H R:=by
 refine ACall.of_run (raw:=[]) Tryd.func61 rfl Tryd.ntmps61 (by simp) fun hbel => ?_
 (refine .q ?_);refine .text ?_;simp (disch:=first|exact zb|fail) only [go_sem,seval]
 (refine .q ?_);refine .text ?_;simp (disch:=first|exact zb|fail) only [go_sem,seval]
 (refine .q ?_);refine .retKeep Tryd.func61 (by rw [Tryd.results61]) (by simp (disch:=first|exact zb|fail) only [go_sem,seval];rfl) ?_;(try simp (disch:=first|exact zb|fail) only [go_sem,seval])
 exact h

set_option maxHeartbeats 8000000 in
theorem zgh (L:By) (hl:L.length≤140737488355000) (y p m:Nat) (X:Nat → Hp) (hX : ∀ i,(X i).n=m) (hB : ∀ i,Bel m (X i)) (hy0:y < m) (hp : ∀ i,(X i).f p=some (.cells [.p (.sl false 1 (pl b8 L))]))
 (hy : ∀ j,j < L.length → ∀ (S:List AB) (K:AV → Hp → Prop),K (.p (bo true)) (app (X (j+1)) S) → AYield Tryd.prog G y [.p (i64 ((L.length:Int) - 1 - j)),.p (b8 (nth L (L.length - 1 - j)))] (app (X j) S) K)
 (R:AV → Hp → Prop) (h:R (.tup []) (X L.length)):ACall Tryd.prog G 77 [.yld y,.ptr p 0] (X 0) R:=by
 have hX0:=hX 0
 have hp0:=hp 0
 refine ACall.of_run (raw:=[]) Tryd.func77 rfl Tryd.ntmps77 (by simp) fun hbel => ?_
 rw [hX0]
 have hbel : ∀ i,Bel m (X i):=hB
 (refine .q ?_);refine .text ?_;simp (disch:=first|exact zb|fail) only [go_sem,seval,hp0]
 (refine .q ?_);refine .loopH [0,1] (fun j=>[(3,.p (i64 ((L.length:Int) - 1 - j)))]) (fun j=>X j) (fun j=>True) (0) (L.length) (by omega) ?_ (by first | rfl | (simp (disch:=first|exact zb|fail) only [go_sem,seval,Int.sub_zero]<;>rfl)) ?_ ?_ ?_
 · simp (disch:=first|exact zb|fail) only [go_sem,seval,Int.sub_zero]<;>(repeat' (first | rfl | refine And.intro ?_ ?_))
 · exact trivial
 intro env E hQ;simp (disch:=first|exact zb|fail) only [go_sem,seval,Int.sub_zero] at E
 rotate_left 1
 intro j env hj0 hj E hQ ihE;simp (disch:=first|exact zb|fail) only [go_sem,seval,Int.sub_zero] at E
 rotate_left 1
 · have d:decide ((0:Int)≤(L.length:Int) - 1 - (L.length:Int))=false:=by simp only [decide_eq_false_iff_not];omega
   have hXe:=hX L.length
   (refine .q ?_);refine .text ?_;simp (disch:=first|exact zb|fail) only [go_sem,seval,E,d]
   (refine .q ?_);refine .ifF (by simp (disch:=first|exact zb|fail) only [go_sem,seval,d]) ?_
   (refine .q ?_);refine .fin Tryd.func77 (by rw [Tryd.results77]) (by simp (disch:=first|exact zb|fail) only [go_sem,seval];rfl) (by simp (disch:=first|exact zb|fail) only [go_sem,seval];rfl) (by (try dsimp only);repeat (first | with_reducible refine zy ?_ zb | with_reducible refine zan ?_ zb | with_reducible refine za1 ?_ zb | with_reducible refine zaf ?_ | with_reducible exact hbel | with_reducible exact hbel _)) ?_;simp (disch:=first|exact zb|fail) only [go_sem,seval]
   (try rw [zdz hXe.symm])
   exact h
 · have d:decide ((0:Int)≤(L.length:Int) - 1 - (j:Int))=true:=by simp only [decide_eq_true_eq];omega
   have ht:((L.length:Int) - 1 - (j:Int)).toNat=L.length - 1 - j:=by omega
   have hyj:=hy j hj []
   simp only [zcl] at hyj
   have hpj:=hp j
   have hq:(L.length:Int) - 1 - ((j:Int)+1)=(L.length:Int) - 1 - (j:Int) - 1:=by omega
   (refine .q ?_);refine .text ?_;simp (disch:=first|exact zb|fail) only [go_sem,seval,E,d]
   (refine .q ?_);refine .ifT (by simp (disch:=first|exact zb|fail) only [go_sem,seval,d]) ?_
   (refine .q ?_);refine .text ?_;simp (disch:=first|exact zb|fail) only [go_sem,seval,E,hpj,ht]
   refine YieldK.of (fun K hK=>hyj K hK) ?_;simp (disch:=first|exact zb|fail) only [go_sem,seval]
   (refine .q ?_);refine .ifF (by simp (disch:=first|exact zb|fail) only [go_sem,seval]) ?_
   (refine .q ?_);refine .text ?_;simp (disch:=first|exact zb|fail) only [go_sem,seval,E]
   first | (refine ihE _ _ ?_ trivial ?_) | (refine .z rfl ?_;refine ihE _ _ ?_ trivial ?_) | (refine .z rfl ?_;refine .z rfl ?_;refine ihE _ _ ?_ trivial ?_) | (refine .z rfl ?_;refine .z rfl ?_;refine .z rfl ?_;refine ihE _ _ ?_ trivial ?_)
   · simp (disch:=first|exact zb|fail) only [go_sem,seval,E,hq]<;>(repeat' (first | rfl | refine And.intro ?_ ?_))
   · first | rfl | (simp (disch:=first|exact zb|fail) only [go_sem,seval,E,hq]<;>(try rfl))

set_option maxHeartbeats 8000000 in
theorem zc1 (b:By) (hb:b.length≤140737488355000) (H:Hp) (R:AV → Hp → Prop) (h:R (.p (zx (rd b))) H):ACall Tryd.prog G 33 [.p (.sl false 1 (pl b8 b))] H R:=by
 refine ACall.of_run (raw:=[]) Tryd.func33 rfl Tryd.ntmps33 (by simp) fun hbel => ?_
 (refine .q ?_);refine .text ?_;simp (disch:=first|exact zb|fail) only [go_sem,seval]
 (refine .q ?_);refine .text ?_;simp (disch:=first|exact zb|fail) only [go_sem,seval]
 refine CallK.of (fun R h=>zg9 b _ R h) ?_;simp (disch:=first|exact zb|fail) only [go_sem,seval]
 (refine .q ?_);refine .rangeFunc (ps:=[7,8]) rfl (by simp (disch:=first|exact zb|fail) only [go_sem,seval];rfl) (by simp (disch:=first|exact zb|fail) only [go_sem,seval]) (by simp) fun L vs hL hvs hround => ?_;simp (disch:=first|exact zb|fail) only [go_sem,seval]
 have h0:0#64=rd (b.drop (b.length - 0)):=by rw [Nat.sub_zero,List.drop_length];rfl
 rw [h0]
 refine zgh b hb (H.n+2) (H.n+1) (H.n+3) (fun j=>(((H.new (.cells [.p (zx (rd (b.drop (b.length - j))))])).new (.cells [.p (.sl false 1 (pl b8 b))])).new (.obj vs (L .ready none)))) (fun j=>by simp (disch:=first|exact zb|fail) only [go_sem,seval]) (fun j => ?_) (by omega) (fun j=>by simp (disch:=first|exact zb|fail) only [go_sem,seval]) (fun j hj S K hK => ?_) _ ?_
 · (try dsimp only);(repeat (first | with_reducible exact hbel | with_reducible exact yU hbel zb | with_reducible refine za6 ?_ | with_reducible refine za7 ?_ | with_reducible refine za8 ?_ | with_reducible refine za9 hvs ?_ zb | with_reducible refine zaf ?_ | with_reducible refine zba ?_ | with_reducible refine zbb ?_ | with_reducible refine zbc ?_ | with_reducible refine zbd ?_))
 · have hst:rd (b.drop (b.length - (j+1)))=rd (b.drop (b.length - j)) <<< 8 ||| (nth b (b.length - 1 - j)).setWidth 64:=by
    rw [zIy (b:=b) (i:=b.length - (j+1)) (by omega),show b.length - (j+1)+1=b.length - j by omega,show b.length - (j+1)=b.length - 1 - j by omega]
   rw [hst] at hK
   refine hround _ _ _ rfl (by simp (disch:=first|exact zb|fail) only [go_sem,seval]) fun hbel2 => ?_
   dsimp only
   simp (disch:=first|exact zb|fail) only [go_sem,seval]
   (refine .q ?_);refine .text ?_;simp (disch:=first|exact zb|fail) only [go_sem,seval]
   (refine .q ?_);refine .beginRound rfl hL (by simp (disch:=first|exact zb|fail) only [go_sem,seval];rfl) ?_;simp (disch:=first|exact zb|fail) only [go_sem,seval]
   (refine .q ?_);refine .text ?_;simp (disch:=first|exact zb|fail) only [go_sem,seval]
   (refine .q ?_);refine .roundEndK rfl hL (by simp (disch:=first|exact zb|fail) only [go_sem,seval];rfl) ?_;simp (disch:=first|exact zb|fail) only [go_sem,seval]
   exact hK
 · unfold zdB;refine ⟨?_,.inl ⟨(by simp (disch:=first|exact zb|fail) only [go_sem,seval]<;>rfl),?_⟩⟩;(try dsimp only);(repeat (first | with_reducible exact hbel | with_reducible exact yU hbel zb | with_reducible refine za6 ?_ | with_reducible refine za7 ?_ | with_reducible refine za8 ?_ | with_reducible refine za9 hvs ?_ zb | with_reducible refine zaf ?_ | with_reducible refine zba ?_ | with_reducible refine zbb ?_ | with_reducible refine zbc ?_ | with_reducible refine zbd ?_));simp (disch:=first|exact zb|fail) only [go_sem,seval]
   rw [Nat.sub_self,List.drop_zero]
   (refine .q ?_);refine .text ?_;simp (disch:=first|exact zb|fail) only [go_sem,seval]
   (refine .q ?_);refine .rt Tryd.func33 (by rw [Tryd.results33]) (hR := ?_);simp (disch:=first|exact zb|fail) only [go_sem,seval]
   exact h

theorem zo2 (n:Int) (H:Hp) (R:AV → Hp → Prop) (h:R (.p (bo (decide (0≤n) && decide (n≤2147483647)))) H):ACall Tryd.prog G 64 [.p (i64 n)] H R:=by
 refine ACall.of_run (raw:=[]) Tryd.func64 rfl Tryd.ntmps64 (by simp) fun hbel => ?_
 (refine .q ?_);refine .text ?_;simp (disch:=first|exact zb|fail) only [go_sem,seval]
 (refine .q ?_);refine .text ?_;simp (disch:=first|exact zb|fail) only [go_sem,seval]
 (first | refine yP (fun h1 => ?_) (fun h1 => ?_) | refine yH (fun h1 => ?_) (fun h1 => ?_))<;>(try simp only [Bool.not_eq_true',Bool.not_eq_false'] at h1)<;>simp (disch:=first|exact zb|fail) only [go_sem,seval,h1]
 · (refine .q ?_);refine .rt Tryd.func64 (by rw [Tryd.results64]) (hR := ?_);simp (disch:=first|exact zb|fail) only [go_sem,seval]
   simpa [h1] using h
 · (refine .q ?_);refine .rt Tryd.func64 (by rw [Tryd.results64]) (hR := ?_);simp (disch:=first|exact zb|fail) only [go_sem,seval]
   simpa [h1] using h

theorem zdm (a b c:Int) (ha:0≤a∧a≤1000000000000000) (hb:0≤b∧b≤1000000000000000) (hc:0≤c∧c≤1000000000000000) (H:Hp) (R:AV → Hp → Prop) (h:R (.p (bo (a+b+c == 0))) H):ACall Tryd.prog G 107 [.p (i64 a),.p (i64 b),.p (i64 c)] H R:=by
 refine ACall.of_run (raw:=[]) Tryd.func107 rfl Tryd.ntmps107 (by simp) fun hbel => ?_
 (refine .q ?_);refine .text ?_;simp (disch:=first|exact zb|fail) only [go_sem,seval]
 (refine .q ?_);refine .text ?_;simp (disch:=first|exact zb|fail) only [go_sem,seval]
 (refine .q ?_);refine .rt Tryd.func107 (by rw [Tryd.results107]) (hR := ?_);simp (disch:=first|exact zb|fail) only [go_sem,seval]
 exact h
theorem zo3 (a b c:Int) (ha:0≤a∧a≤1000000000000000) (hb:0≤b∧b≤1000000000000000) (hc:0≤c∧c≤1000000000000000) (H:Hp) (R:AV → Hp → Prop) (h:R (.p (bo (decide (1≤a) && decide (a≤400) && (b+c == 0)))) H):ACall Tryd.prog G 106 [.p (i64 a),.p (i64 b),.p (i64 c)] H R:=by
 refine ACall.of_run (raw:=[]) Tryd.func106 rfl Tryd.ntmps106 (by simp) fun hbel => ?_
 (refine .q ?_);refine .text ?_;simp (disch:=first|exact zb|fail) only [go_sem,seval]
 (refine .q ?_);refine .text ?_;simp (disch:=first|exact zb|fail) only [go_sem,seval]
 (first | refine yP (fun h1 => ?_) (fun h1 => ?_) | refine yH (fun h1 => ?_) (fun h1 => ?_))<;>(try simp only [Bool.not_eq_true',Bool.not_eq_false'] at h1)<;>simp (disch:=first|exact zb|fail) only [go_sem,seval,h1]
 · (first | refine yP (fun h2 => ?_) (fun h2 => ?_) | refine yH (fun h2 => ?_) (fun h2 => ?_))<;>(try simp only [Bool.not_eq_true',Bool.not_eq_false'] at h2)<;>simp (disch:=first|exact zb|fail) only [go_sem,seval,h2]
   · (refine .q ?_);refine .rt Tryd.func106 (by rw [Tryd.results106]) (hR := ?_);simp (disch:=first|exact zb|fail) only [go_sem,seval]
     simpa [h1,h2] using h
   · (refine .q ?_);refine .rt Tryd.func106 (by rw [Tryd.results106]) (hR := ?_);simp (disch:=first|exact zb|fail) only [go_sem,seval]
     simpa [h1,h2] using h
 · (refine .q ?_);refine .rt Tryd.func106 (by rw [Tryd.results106]) (hR := ?_);simp (disch:=first|exact zb|fail) only [go_sem,seval]
   simpa [h1] using h
theorem zo4 (a b c:Int) (ha:0≤a∧a≤1000000000000000) (hb:0≤b∧b≤1000000000000000) (hc:0≤c∧c≤1000000000000000) (H:Hp) (R:AV → Hp → Prop) (h:R (.p (bo (decide (b≤64) && (a+c == 0)))) H):ACall Tryd.prog G 108 [.p (i64 a),.p (i64 b),.p (i64 c)] H R:=by
 refine ACall.of_run (raw:=[]) Tryd.func108 rfl Tryd.ntmps108 (by simp) fun hbel => ?_
 (refine .q ?_);refine .text ?_;simp (disch:=first|exact zb|fail) only [go_sem,seval]
 (refine .q ?_);refine .text ?_;simp (disch:=first|exact zb|fail) only [go_sem,seval]
 (first | refine yP (fun h1 => ?_) (fun h1 => ?_) | refine yH (fun h1 => ?_) (fun h1 => ?_))<;>(try simp only [Bool.not_eq_true',Bool.not_eq_false'] at h1)<;>simp (disch:=first|exact zb|fail) only [go_sem,seval,h1]
 · (refine .q ?_);refine .rt Tryd.func108 (by rw [Tryd.results108]) (hR := ?_);simp (disch:=first|exact zb|fail) only [go_sem,seval]
   simpa [h1] using h
 · (refine .q ?_);refine .rt Tryd.func108 (by rw [Tryd.results108]) (hR := ?_);simp (disch:=first|exact zb|fail) only [go_sem,seval]
   simpa [h1] using h
theorem zo5 (a b c:Int) (ha:0≤a∧a≤1000000000000000) (hb:0≤b∧b≤1000000000000000) (hc:0≤c∧c≤1000000000000000) (H:Hp) (R:AV → Hp → Prop) (h:R (.p (bo ((c == 1) && (a+b == 0)))) H):ACall Tryd.prog G 109 [.p (i64 a),.p (i64 b),.p (i64 c)] H R:=by
 refine ACall.of_run (raw:=[]) Tryd.func109 rfl Tryd.ntmps109 (by simp) fun hbel => ?_
 (refine .q ?_);refine .text ?_;simp (disch:=first|exact zb|fail) only [go_sem,seval]
 (refine .q ?_);refine .text ?_;simp (disch:=first|exact zb|fail) only [go_sem,seval]
 (first | refine yP (fun h1 => ?_) (fun h1 => ?_) | refine yH (fun h1 => ?_) (fun h1 => ?_))<;>(try simp only [Bool.not_eq_true',Bool.not_eq_false'] at h1)<;>simp (disch:=first|exact zb|fail) only [go_sem,seval,h1]
 · (refine .q ?_);refine .rt Tryd.func109 (by rw [Tryd.results109]) (hR := ?_);simp (disch:=first|exact zb|fail) only [go_sem,seval]
   simpa [h1] using h
 · (refine .q ?_);refine .rt Tryd.func109 (by rw [Tryd.results109]) (hR := ?_);simp (disch:=first|exact zb|fail) only [go_sem,seval]
   simpa [h1] using h
theorem zo6 (a b c:Int) (ha:0≤a∧a≤1000000000000000) (hb:0≤b∧b≤1000000000000000) (hc:0≤c∧c≤1000000000000000) (H:Hp) (R:AV → Hp → Prop) (h:R (.p (bo (decide (c≤64) && (a+b == 0)))) H):ACall Tryd.prog G 110 [.p (i64 a),.p (i64 b),.p (i64 c)] H R:=by
 refine ACall.of_run (raw:=[]) Tryd.func110 rfl Tryd.ntmps110 (by simp) fun hbel => ?_
 (refine .q ?_);refine .text ?_;simp (disch:=first|exact zb|fail) only [go_sem,seval]
 (refine .q ?_);refine .text ?_;simp (disch:=first|exact zb|fail) only [go_sem,seval]
 (first | refine yP (fun h1 => ?_) (fun h1 => ?_) | refine yH (fun h1 => ?_) (fun h1 => ?_))<;>(try simp only [Bool.not_eq_true',Bool.not_eq_false'] at h1)<;>simp (disch:=first|exact zb|fail) only [go_sem,seval,h1]
 · (refine .q ?_);refine .rt Tryd.func110 (by rw [Tryd.results110]) (hR := ?_);simp (disch:=first|exact zb|fail) only [go_sem,seval]
   simpa [h1] using h
 · (refine .q ?_);refine .rt Tryd.func110 (by rw [Tryd.results110]) (hR := ?_);simp (disch:=first|exact zb|fail) only [go_sem,seval]
   simpa [h1] using h
end walks
end Go.Proofs.YtmoecjgehdkhkaaDoor

/-
  Sessions: messages and sessions as data;the rules;which messages are valid.
-/
namespace Go.Proofs.YtmoecjgehdkhkaaDoor
open Go Go.AL

def Dg := {l:By // l.length=32}
instance:Inhabited Dg:=⟨⟨List.replicate 32 0#8,rfl⟩⟩
instance:DecidableEq Dg:=inferInstanceAs (DecidableEq {l:By // l.length=32})
theorem Dg.len (d:Dg):d.val.length=32:=d.2
def zD:Dg:=⟨List.replicate 32 0#8,rfl⟩
structure Ext where
 a:U
 b:U
 deriving DecidableEq,Inhabited
def ext (x:Ext):PV := .agg [zx x.a,zx x.b]
structure Msg where
 kind:Int
 session:Int
 step:Int
 text:By
 root:Dg
 sums:List Int
 values:List Ext
 deriving DecidableEq
structure Ses where
 id:Int
 step:Int
 state:Int
 text:By
 seen:Dg
 last:Msg
 due:Int
 bytes:Int
 rounds:Int
 words:Int
 deriving DecidableEq
def zd1 (m:Msg):List PV:=[i64 m.kind,i64 m.session,i64 m.step,str (bytesOf m.text)]++(pl b8 m.root.val++[.sl false 1 (pl i64 m.sums),.sl false 2 (pl ext m.values)])
def zlL (s:Ses):List PV:=[i64 s.id,i64 s.step,i64 s.state,str (bytesOf s.text)]++(pl b8 s.seen.val++(zd1 s.last++[i64 s.due,i64 s.bytes,i64 s.rounds,i64 s.words]))
def msg (m:Msg):PV := .agg (zd1 m)
def yG (s:Ses):PV := .agg (zlL s)
def mcl (m:Msg):List AV:=(zd1 m).map .p
def yC (s:Ses):List AV:=(zlL s).map .p
def dgv (d:Dg):PV := .agg (pl b8 d.val)

theorem zaR {l:By}:(bytesOf l).size=l.length:=by simp [bytesOf,ByteArray.size]

section cells
variable {m:Msg} {s:Ses}
theorem zgi:(zd1 m).length=38:=by simp [zd1,zbY,m.root.len]
theorem zAe:(zlL s).length=78:=by simp [zlL,zbY,zgi,s.seen.len]
theorem yI:(mcl m).length=38:=by rw [mcl,List.length_map,zgi]
theorem yJ:(yC s).length=78:=by rw [yC,List.length_map,zAe]
theorem zo7:zn (.p (msg m))=some (mcl m):=rfl
theorem zo8:zn (.p (yG s))=some (yC s):=rfl
theorem zY (d:Dg):zn (.p (dgv d))=some (cl b8 d.val):=zhv
theorem zdI (l:List PV):pvs? (l.map .p)=some l:=by
 induction l with
 | nil=>rfl
 | cons a l ih=>simp [pvs?,ih,AV.pv?]
theorem ztK:zI (mcl m) = .p (msg m):=by unfold zI mcl;rw [zdI];rfl
theorem ztL:zI (yC s) = .p (yG s):=by unfold zI yC;rw [zdI];rfl
theorem zAf (d:Dg):zI (cl b8 d.val) = .p (dgv d):=zk1
theorem zgj:(mcl m).take 38=mcl m:=List.take_of_length_le (by rw [yI];exact Nat.le_refl _)
theorem zgk:(yC s).take 78=yC s:=List.take_of_length_le (by rw [yJ];exact Nat.le_refl _)
theorem zah:mcl m = .p (i64 m.kind) :: .p (i64 m.session) :: .p (i64 m.step) :: .p (str (bytesOf m.text)) :: (cl b8 m.root.val++[.p (.sl false 1 (pl i64 m.sums)),.p (.sl false 2 (pl ext m.values))]):=by simp [mcl,zd1,cl,pl]
theorem yV:yC s = .p (i64 s.id) :: .p (i64 s.step) :: .p (i64 s.state) :: .p (str (bytesOf s.text)) :: (cl b8 s.seen.val++(mcl s.last++[.p (i64 s.due),.p (i64 s.bytes),.p (i64 s.rounds),.p (i64 s.words)])):=by simp [yC,zlL,mcl,cl,pl]
theorem yy (d:Dg):(cl b8 d.val).length=32:=by rw [zau,d.len]
theorem zbw {a b:List AV} {i n:Nat} (h:a.length=n) (hi:n≤i):(a++b)[i]? = b[i - n]? := by rw [List.getElem?_append_right (by omega),h]
theorem zPu:(mcl m)[0]? = some (.p (i64 m.kind)):=by rw [zah];rfl
theorem zQ1:(mcl m)[1]? = some (.p (i64 m.session)):=by rw [zah];rfl
theorem zOh:(mcl m)[2]? = some (.p (i64 m.step)):=by rw [zah];rfl
theorem zQ2:(mcl m)[3]? = some (.p (str (bytesOf m.text))):=by rw [zah];rfl
theorem zPv:(mcl m)[36]? = some (.p (.sl false 1 (pl i64 m.sums))):=by rw [zah];simp only [List.getElem?_cons_succ];rw [zbw (yy _) (by omega)];rfl
theorem zPw:(mcl m)[37]? = some (.p (.sl false 2 (pl ext m.values))):=by rw [zah];simp only [List.getElem?_cons_succ];rw [zbw (yy _) (by omega)];rfl
theorem zQ3:((mcl m).drop 4).take 32=cl b8 m.root.val:=by
 rw [zah];simp only [List.drop_succ_cons,List.drop_zero]
 rw [List.take_append_of_le_length (by rw [yy];omega),List.take_of_length_le (by rw [yy];omega)]
theorem zPx:(mcl m).drop 4=cl b8 m.root.val++[.p (.sl false 1 (pl i64 m.sums)),.p (.sl false 2 (pl ext m.values))]:=by rw [zah];rfl
theorem zi0 {l:By} {r:List AV} : ∀ {n:Nat},n≤l.length → ym false 1 n (cl b8 l++r)=some (pl b8 (l.take n)):=by
 induction l with
 | nil=>intro n h;simp at h;subst h;rfl
 | cons a l ih =>
  intro n h
  cases n with
  | zero=>rfl
  | succ n =>
   have:=ih (n:=n) (by simpa using h)
   simp only [cl,List.map_cons,List.cons_append] at this ⊢
   simp only [ym]
   rw [if_pos (by simp)]
   simp only [List.take_succ_cons,List.take_zero,List.drop_succ_cons,List.drop_zero,this]
   rfl
theorem zha:ym false 1 32 ((mcl m).drop 4)=some (pl b8 m.root.val):=by
 rw [zPx,zi0 (by rw [m.root.len];exact Nat.le_refl _),List.take_of_length_le (by rw [m.root.len];exact Nat.le_refl _)]
theorem zQ4:(yC s)[0]? = some (.p (i64 s.id)):=by rw [yV];rfl
theorem zPy:(yC s)[1]? = some (.p (i64 s.step)):=by rw [yV];rfl
theorem zPz:(yC s)[2]? = some (.p (i64 s.state)):=by rw [yV];rfl
theorem zQ5:(yC s)[3]? = some (.p (str (bytesOf s.text))):=by rw [yV];rfl
theorem zQ6:((yC s).drop 4).take 32=cl b8 s.seen.val:=by
 rw [yV];simp only [List.drop_succ_cons,List.drop_zero]
 rw [List.take_append_of_le_length (by rw [yy];omega),List.take_of_length_le (by rw [yy];omega)]
theorem zlM {i:Nat} (h:i < 38):(yC s)[36+i]? = (mcl s.last)[i]? := by
 rw [yV,show 36+i=32+i+1+1+1+1 by omega]
 simp only [List.getElem?_cons_succ]
 rw [zbw (yy _) (by omega),Nat.add_sub_cancel_left,List.getElem?_append_left (by rw [yI];exact h)]
theorem zPA:(yC s)[36]? = some (.p (i64 s.last.kind)):=(zlM (i:=0) (by omega)).trans zPu
theorem zPB:(yC s)[38]? = some (.p (i64 s.last.step)):=(zlM (i:=2) (by omega)).trans zOh
theorem zdJ {i:Nat}:(yC s)[74+i]? = [AV.p (i64 s.due),.p (i64 s.bytes),.p (i64 s.rounds),.p (i64 s.words)][i]? := by
 rw [yV,show 74+i=32+(38+i)+1+1+1+1 by omega]
 simp only [List.getElem?_cons_succ]
 rw [zbw (yy _) (by omega),Nat.add_sub_cancel_left,zbw yI (by omega),Nat.add_sub_cancel_left]
theorem zPC:(yC s)[74]? = some (.p (i64 s.due)):=zdJ (i:=0)
theorem zPD:(yC s)[75]? = some (.p (i64 s.bytes)):=zdJ (i:=1)
theorem zPE:(yC s)[76]? = some (.p (i64 s.rounds)):=zdJ (i:=2)
theorem zPF:(yC s)[77]? = some (.p (i64 s.words)):=zdJ (i:=3)
theorem zPG:(yC s).drop 4=cl b8 s.seen.val++(mcl s.last++[.p (i64 s.due),.p (i64 s.bytes),.p (i64 s.rounds),.p (i64 s.words)]):=by rw [yV];rfl
theorem zo9:(yC s).drop 36=mcl s.last++[.p (i64 s.due),.p (i64 s.bytes),.p (i64 s.rounds),.p (i64 s.words)]:=by
 rw [show (36:Nat)=4+32 by rfl,←List.drop_drop,zPG,List.drop_append_of_le_length (by rw [yy];omega),List.drop_of_length_le (by rw [yy];omega)];rfl
theorem zQ7:((yC s).drop 36).take 38=mcl s.last:=by
 rw [zo9,List.take_append_of_le_length (by rw [yI];omega),zgj]
theorem zPH:((yC s).drop 75).take 3=[.p (i64 s.bytes),.p (i64 s.rounds),.p (i64 s.words)]:=by
 rw [show (75:Nat)=36+(38+1) by rfl,←List.drop_drop,zo9,←List.drop_drop,List.drop_append_of_le_length (by rw [yI];omega),show (mcl s.last).drop 38=[] from List.drop_of_length_le (by rw [yI];omega)]
 rfl
end cells

section stores
variable {m:Msg} {s:Ses}
theorem zPI {x:Int}:(mcl m).set 0 (.p (i64 x))=mcl { m with kind:=x }:=by rw [zah,zah];rfl
theorem zPJ {x:Int}:(mcl m).set 1 (.p (i64 x))=mcl { m with session:=x }:=by rw [zah,zah];rfl
theorem zPK {x:Int}:(mcl m).set 2 (.p (i64 x))=mcl { m with step:=x }:=by rw [zah,zah];rfl
theorem zPL {x:By}:(mcl m).set 3 (.p (str (bytesOf x)))=mcl { m with text:=x }:=by rw [zah,zah];rfl
theorem zPM {d:Dg}:setAt (mcl m) 4 (cl b8 d.val)=mcl { m with root:=d }:=by
 rw [yR _ _ _ (by rw [yI,yy];omega),yy,zah,zah]
 simp only [List.take_succ_cons,List.take_zero,List.drop_succ_cons,List.cons_append,List.nil_append]
 rw [List.drop_append_of_le_length (by rw [yy];omega),List.drop_of_length_le (by rw [yy];omega)];rfl
theorem zPN {x:Int}:(yC s).set 1 (.p (i64 x))=yC { s with step:=x }:=by rw [yV,yV];rfl
theorem zPO {x:Int}:(yC s).set 2 (.p (i64 x))=yC { s with state:=x }:=by rw [yV,yV];rfl
theorem zPP {x:By}:(yC s).set 3 (.p (str (bytesOf x)))=yC { s with text:=x }:=by rw [yV,yV];rfl
theorem zJR {d:Dg}:setAt (yC s) 4 (cl b8 d.val)=yC { s with seen:=d }:=by
 rw [yR _ _ _ (by rw [yJ,yy];omega),yy,yV,yV]
 simp only [List.take_succ_cons,List.take_zero,List.drop_succ_cons,List.cons_append,List.nil_append]
 rw [List.drop_append_of_le_length (by rw [yy];omega),List.drop_of_length_le (by rw [yy];omega)];rfl
theorem zPQ {l:Msg}:setAt (yC s) 36 (mcl l)=yC { s with last:=l }:=by
 rw [yR _ _ _ (by rw [yJ,yI];omega),yI]
 have h1:(yC s).take 36 = .p (i64 s.id) :: .p (i64 s.step) :: .p (i64 s.state) :: .p (str (bytesOf s.text)) :: cl b8 s.seen.val:=by
  rw [yV];simp only [List.take_succ_cons]
  rw [List.take_append_of_le_length (by rw [yy];omega),List.take_of_length_le (by rw [yy];omega)]
 have h2:(yC s).drop (36+38)=[.p (i64 s.due),.p (i64 s.bytes),.p (i64 s.rounds),.p (i64 s.words)]:=by
  rw [←List.drop_drop,zo9,List.drop_append_of_le_length (by rw [yI];omega),List.drop_of_length_le (by rw [yI];omega)];rfl
 rw [h1,h2,yV]
 simp
theorem zPR {a b c:Int}:setAt (yC s) 75 [.p (i64 a),.p (i64 b),.p (i64 c)]=yC { s with bytes:=a,rounds:=b,words:=c }:=by
 rw [yR _ _ _ (by rw [yJ];simp)]
 have h1:(yC s).take 75 = .p (i64 s.id) :: .p (i64 s.step) :: .p (i64 s.state) :: .p (str (bytesOf s.text)) :: (cl b8 s.seen.val++(mcl s.last++[.p (i64 s.due)])):=by
  rw [yV];simp only [List.take_succ_cons]
  rw [show (71:Nat)=(cl b8 s.seen.val).length+39 by rw [yy],List.take_length_add_append,show (39:Nat)=(mcl s.last).length+1 by rw [yI],List.take_length_add_append];rfl
 have h2:(yC s).drop (75+3)=[]:=List.drop_of_length_le (by rw [yJ];omega)
 simp only [List.length_cons,List.length_nil]
 rw [h1,h2,yV]
 simp
end stores
attribute [go_sem] zha yI yJ zo7 zo8 zY ztK ztL zAf zgj zgk zPu zQ1 zOh zQ2 zPv zPw zQ3 zQ4 zPy zPz zQ5 zQ6 zPA zPB zPC zPD zPE zPF zQ7 zPH zPI zPJ zPK zPL zPM zPN zPO zPP zJR zPQ zPR zaR Dg.len

/-! ### The rules -/
structure Rule where
 first:Int
 every:Int
 fn:FuncId
def iev (n:Int):Value := .int .i64 n
def okI (n:Int):Prop := -9223372036854775808≤n∧n≤9223372036854775807
def rlv (r:Rule):AV := .agg [.p (i64 r.first),.p (i64 r.every),.clo r.fn [] []]
def ivv (n:Int):AV := .p (i64 n)
def zax (k:Int):Option Rule :=
 if k=1 then some ⟨0,0,106⟩ else if k=2 then some ⟨1,0,107⟩ else if k=3 then some ⟨3,0,108⟩ else if k=4 then some ⟨2,2,109⟩
 else if k=5 then some ⟨5,2,110⟩ else if k=6 then some ⟨4,2,107⟩ else if k=7 then some ⟨2,2,107⟩ else none
def zd2 (k:Int):Option Int:=if k=1 then some 1 else if k=2 ∨ k=3 ∨ k=4 ∨ k=5 then some 2 else if k=6 then some 3 else if k=7 then some 4 else none
theorem wf_i64 {n:Int} (h1 : -9223372036854775808≤n) (h2:n≤9223372036854775807):(Lit.int .i64 n).wf=true:=by
 simp only [Lit.wf,Bool.and_eq_true,decide_eq_true_eq]
 exact ⟨h1,h2⟩
theorem zqi (n:Int) (h:okI n):(keyOf Tryd.prog 3 (iev n)).isSome=true:=by
 unfold keyOf
 simp only [Tryd.underlying3,mapKey,iev]
 rw [if_pos ⟨trivial,wf_i64 h.1 h.2⟩]
 rfl
theorem ruleMap:MapT Tryd.prog 112 i64 iev okI rlv (.p (.agg [i64 0,i64 0,.s .nilFunc])) where
 ty:=⟨_,_,Tryd.underlying112,zz6,zqi,zhK⟩
 val k:=rfl
 inj a b _ _ h:=by simpa [iev] using h
theorem stateMap:MapT Tryd.prog 120 i64 iev okI ivv (.p (i64 0)) where
 ty:=⟨_,_,Tryd.underlying120,zz6,zqi,zqe⟩
 val k:=rfl
 inj a b _ _ h:=by simpa [iev] using h
structure GR (G:Globs) (r1 r2:Nat) (m1:List (Int × Rule)) (m2:List (Int × Int)):Prop where
 s0:G 1=some (8,[.agg (pl zF inits)])
 s1:G 3=some (64,[.agg (pl zF ks)])
 g1:G 0=some (1,[.s (.map (some r1))])
 g2:G 2=some (1,[.s (.map (some r2))])
 h1:G.map r1=some (tm iev rlv m1)
 h2:G.map r2=some (tm iev ivv m2)
 k1 : ∀ p∈m1,okI p.1
 k2 : ∀ p∈m2,okI p.1
 t1 : ∀ k,zaQ k m1=zax k
 t2 : ∀ k,zaQ k m2=zd2 k
theorem GR.rule {G:Globs} {r1 r2:Nat} {m1:List (Int × Rule)} {m2:List (Int × Int)} (g:GR G r1 r2 m1 m2) {k:Int} (h:okI k):zdG Tryd.prog 112 (some (tm iev rlv m1)) (.p (i64 k)) true=some (zpP rlv (.p (.agg [i64 0,i64 0,.s .nilFunc])) (zax k)):=by rw [←g.t1,ruleMap.look g.k1 h]
theorem GR.rule2 {G:Globs} {r1 r2:Nat} {m1:List (Int × Rule)} {m2:List (Int × Int)} (g:GR G r1 r2 m1 m2) {k:Int} (h:okI k):zdG Tryd.prog 112 (some (tm iev rlv m1)) (.p (i64 k)) false=some (match zax k with | some v=>rlv v | none => .p (.agg [i64 0,i64 0,.s .nilFunc])):=by rw [←g.t1,ruleMap.at g.k1 h];cases zaQ k m1<;>rfl
theorem GR.state {G:Globs} {r1 r2:Nat} {m1:List (Int × Rule)} {m2:List (Int × Int)} (g:GR G r1 r2 m1 m2) {k:Int} (h:okI k):zdG Tryd.prog 120 (some (tm iev ivv m2)) (.p (i64 k)) false=some (.p (i64 ((zd2 k).getD 0))):=by
 rw [←g.t2,stateMap.at g.k2 h];cases zaQ k m2<;>rfl

def fits (k step:Int):Bool:=match zax k with | none=>false | some r => !decide (step < r.first) && (step == r.first || (decide (0 < r.every) && ((step - r.first) % r.every == 0)))
section walks
variable {G:Globs} {r1 r2:Nat} {m1:List (Int × Rule)} {m2:List (Int × Int)}
theorem zAg {k:Int} {r:Rule} (h:zax k=some r):0≤r.first∧r.first≤5∧(r.every=0 ∨ r.every=2):=by
 unfold zax at h
 (repeat' split at h)<;>cases h<;>simp
theorem zpa {x:Option Nat}:(PV.s (.map x)).cells=[.s (.map x)]:=rfl
attribute [go_sem] zpa
theorem zeh {r:Rule}:zn (rlv r)=some [.p (i64 r.first),.p (i64 r.every),.clo r.fn [] []]:=rfl
theorem zi1:zn (.p (.agg [i64 0,i64 0,.s .nilFunc]))=some [.p (i64 0),.p (i64 0),.p (.s .nilFunc)]:=rfl
attribute [go_sem] zeh zi1
theorem zd3 (g:GR G r1 r2 m1 m2) (k step:Int) (hk:okI k) (hs:okI step) (H:Hp) (R:AV → Hp → Prop) (h:R (.p (bo (fits k step))) H):ACall Tryd.prog G 48 [.p (i64 k),.p (i64 step)] H R:=by
 have e1:=g.g1
 have e2:=g.h1
 have e3:=g.rule hk
 obtain ⟨hs1,hs2⟩:=hs
 unfold fits at h
 refine ACall.of_run (raw:=[]) Tryd.func48 rfl Tryd.ntmps48 (by simp) fun hbel => ?_
 (refine .q ?_);refine .text ?_;simp (disch:=first|exact zb|fail) only [go_sem,seval]
 cases hr:zax k with
 | none =>
  rw [hr] at h e3
  (refine .q ?_);refine .text ?_;simp (disch:=first|exact zb|fail) only [go_sem,seval,e1,e2,e3]
  (refine .q ?_);refine .text ?_;simp (disch:=first|exact zb|fail) only [go_sem,seval]
  (refine .q ?_);refine .ifT (by simp (disch:=first|exact zb|fail) only [go_sem,seval]) ?_
  (refine .q ?_);refine .text ?_;simp (disch:=first|exact zb|fail) only [go_sem,seval]
  (refine .q ?_);refine .rt Tryd.func48 (by rw [Tryd.results48]) (hR := ?_);simp (disch:=first|exact zb|fail) only [go_sem,seval]
  exact h
 | some r =>
  rw [hr] at h e3
  obtain ⟨q1,q2,q3⟩:=zAg hr
  simp only at h
  (refine .q ?_);refine .text ?_;simp (disch:=first|exact zb|fail) only [go_sem,seval,e1,e2,e3,zeh]
  (refine .q ?_);refine .text ?_;simp (disch:=first|exact zb|fail) only [go_sem,seval]
  by_cases c1:step < r.first
  · have d1:decide (step < r.first)=true:=decide_eq_true c1
    rw [d1] at h
    (refine .q ?_);refine .ifT (by simp (disch:=first|exact zb|fail) only [go_sem,seval,d1]) ?_
    (refine .q ?_);refine .text ?_;simp (disch:=first|exact zb|fail) only [go_sem,seval]
    (refine .q ?_);refine .rt Tryd.func48 (by rw [Tryd.results48]) (hR := ?_);simp (disch:=first|exact zb|fail) only [go_sem,seval]
    exact h
  · have d1:decide (step < r.first)=false:=decide_eq_false c1
    rw [d1] at h
    (refine .q ?_);refine .ifF (by simp (disch:=first|exact zb|fail) only [go_sem,seval,d1]) ?_
    (refine .q ?_);refine .text ?_;simp (disch:=first|exact zb|fail) only [go_sem,seval]
    by_cases c2:step=r.first
    · have d2:(step == r.first)=true:=by simp [c2]
      rw [d2] at h
      simp (disch:=first|exact zb|fail) only [go_sem,seval,d2]
      (refine .q ?_);refine .rt Tryd.func48 (by rw [Tryd.results48]) (hR := ?_);simp (disch:=first|exact zb|fail) only [go_sem,seval]
      exact h
    · have d2:(step == r.first)=false:=by simp [c2]
      rw [d2] at h
      simp (disch:=first|exact zb|fail) only [go_sem,seval,d2]
      rcases q3 with q3 | q3
      · have d3:decide (0 < r.every)=false:=by rw [q3];rfl
        rw [d3] at h
        simp (disch:=first|exact zb|fail) only [go_sem,seval,d3]
        (refine .q ?_);refine .rt Tryd.func48 (by rw [Tryd.results48]) (hR := ?_);simp (disch:=first|exact zb|fail) only [go_sem,seval]
        exact h
      · have d3:decide (0 < r.every)=true:=by rw [q3];rfl
        rw [d3] at h
        simp (disch:=first|exact zb|fail) only [go_sem,seval,d3]
        (refine .q ?_);refine .rt Tryd.func48 (by rw [Tryd.results48]) (hR := ?_);simp (disch:=first|exact zb|fail) only [go_sem,seval]
        exact h
end walks
end Go.Proofs.YtmoecjgehdkhkaaDoor

/-
  Sessions: which messages are valid.
-/
namespace Go.Proofs.YtmoecjgehdkhkaaDoor
open Go Go.AL

section enc
variable {x:Ext} {l:List Ext} {a b:U}
def ecl (x:Ext):List AV:=[.p (zx x.a),.p (zx x.b)]
theorem zIz:ecl x=[.p (zx x.a),.p (zx x.b)]:=rfl
theorem ztM:(ext x).cells=[zx x.a,zx x.b]:=rfl
theorem ztN:(ext x).isAgg=true:=rfl
theorem ztO:(ext x).aggOf 0 2=ext x:=rfl
theorem zpb:(AV.p (ext x)).isAggV=true:=rfl
theorem zAh:(ext x).weak=ext x:=rfl
theorem ztP:(ext x).weak1=ext x:=rfl
theorem zpc:zn (.p (ext x))=some (ecl x):=rfl
theorem zAi:PV.agg [zx a,zx b]=ext ⟨a,b⟩:=rfl
theorem ztQ:zI [.p (zx a),.p (zx b)] = .p (ext ⟨a,b⟩):=rfl
theorem zIA:(⟨x.a,x.b⟩:Ext)=x:=rfl
theorem zi2:(pl ext l).map PV.weak1=pl ext l:=zaw fun _=>rfl
theorem zlN:(pl ext l).map PV.weak=pl ext l:=zbT fun _=>rfl
theorem zQL : ∀ y∈pl ext l,y.cells.length=2:=fun y hy=>by
 simp only [pl,List.mem_map] at hy
 obtain ⟨x,_,rfl⟩:=hy
 rfl
end enc
attribute [go_sem] ztO zIz ztM ztN zpb zAh ztP zpc zAi ztQ zIA zi2 zlN

theorem zbh {l:List PV} (h : ∀ x∈l,x.weak1=x):l.map PV.weak1=l:=by
 induction l with
 | nil=>rfl
 | cons a l ih=>rw [List.map_cons,h a (by simp),ih fun x hx=>h x (by simp [hx])]
theorem zdn {m:Msg} : ∀ x∈zd1 m,x.weak1=x:=fun x hx=>by
 simp only [zd1,List.mem_append,List.mem_cons,List.not_mem_nil,or_false,pl,List.mem_map] at hx
 rcases hx with (rfl | rfl | rfl | rfl) | ⟨y,_,rfl⟩ | rfl | rfl<;>rfl
theorem zpd {s:Ses} : ∀ x∈zlL s,x.weak1=x:=fun x hx=>by
 simp only [zlL,List.mem_append,List.mem_cons,List.not_mem_nil,or_false,pl,List.mem_map] at hx
 rcases hx with (rfl | rfl | rfl | rfl) | ⟨y,_,rfl⟩ | hx | rfl | rfl | rfl | rfl
 all_goals first | rfl | exact zdn _ hx
theorem zAj {m:Msg}:(msg m).weak=msg m:=by show PV.agg ((zd1 m).map PV.weak1)=_;rw [zbh zdn];rfl
theorem zAk {s:Ses}:(yG s).weak=yG s:=by show PV.agg ((zlL s).map PV.weak1)=_;rw [zbh zpd];rfl
theorem zAl {d:Dg}:(dgv d).weak=dgv d:=by show PV.agg ((pl b8 d.val).map PV.weak1)=_;rw [zaw fun _=>rfl];rfl
attribute [go_sem] zAj zAk zAl

def fOK (x:U):Bool:=decide (x < 18446744069414584321#64)
def zaS (x:Ext):Bool:=fOK x.a && fOK x.b
def small (n:Int):Bool:=decide (0≤n) && decide (n≤2147483647)
def holds (k t s v:Int):Bool :=
 if k=1 then decide (1≤t) && decide (t≤400) && (s+v == 0) else if k=3 then decide (s≤64) && (t+v == 0) else if k=4 then (v == 1) && (t+s == 0) else if k=5 then decide (v≤64) && (t+s == 0) else t+s+v == 0
def valid (m:Msg):Bool:=small m.session && small m.step && fits m.kind m.step && holds m.kind m.text.length m.sums.length m.values.length && !m.values.any fun x => !zaS x
structure Msg.Ok (m:Msg):Prop where
 kind:okI m.kind
 session:okI m.session
 step:okI m.step
 text:m.text.length≤140737488355000
 sums:m.sums.length≤140737488355000
 values:m.values.length≤140737488355000

section walks
variable {G:Globs} {r1 r2:Nat} {m1:List (Int × Rule)} {m2:List (Int × Int)}
theorem zcw (x:U) (H:Hp) (R:AV → Hp → Prop) (h:R (.p (bo (fOK x))) H):ACall Tryd.prog G 80 [.p (zx x)] H R:=by
 refine ACall.of_run (raw:=[]) Tryd.func80 rfl Tryd.ntmps80 (by simp) fun hbel => ?_
 (refine .q ?_);refine .text ?_;simp (disch:=first|exact zb|fail) only [go_sem,seval]
 (refine .q ?_);refine .text ?_;simp (disch:=first|exact zb|fail) only [go_sem,seval]
 (refine .q ?_);refine .rt Tryd.func80 (by rw [Tryd.results80]) (hR := ?_);simp (disch:=first|exact zb|fail) only [go_sem,seval]
 exact h
theorem zhb (x:Ext) (H:Hp) (R:AV → Hp → Prop) (h:R (.p (bo (zaS x))) H):ACall Tryd.prog G 67 [.p (ext x)] H R:=by
 unfold zaS at h
 refine ACall.of_run (raw:=[]) Tryd.func67 rfl Tryd.ntmps67 (by simp) fun hbel => ?_
 (refine .q ?_);refine .text ?_;simp (disch:=first|exact zb|fail) only [go_sem,seval]
 (refine .q ?_);refine .text ?_;simp (disch:=first|exact zb|fail) only [go_sem,seval]
 refine CallK.of (fun R h=>zcw _ _ R h) ?_;simp (disch:=first|exact zb|fail) only [go_sem,seval]
 cases h1:fOK x.a with
 | true =>
  simp (disch:=first|exact zb|fail) only [go_sem,seval]
  refine CallK.of (fun R h=>zcw _ _ R h) ?_;simp (disch:=first|exact zb|fail) only [go_sem,seval]
  (refine .q ?_);refine .rt Tryd.func67 (by rw [Tryd.results67]) (hR := ?_);simp (disch:=first|exact zb|fail) only [go_sem,seval]
  simpa [h1] using h
 | false =>
  simp (disch:=first|exact zb|fail) only [go_sem,seval]
  (refine .q ?_);refine .rt Tryd.func67 (by rw [Tryd.results67]) (hR := ?_);simp (disch:=first|exact zb|fail) only [go_sem,seval]
  simpa [h1] using h
theorem zlO (x:Ext) (H:Hp) (R:AV → Hp → Prop) (h:R (.p (bo (!zaS x))) H):ACall Tryd.prog G 66 [.p (ext x)] H R:=by
 refine ACall.of_run (raw:=[]) Tryd.func66 rfl Tryd.ntmps66 (by simp) fun hbel => ?_
 (refine .q ?_);refine .text ?_;simp (disch:=first|exact zb|fail) only [go_sem,seval]
 (refine .q ?_);refine .text ?_;simp (disch:=first|exact zb|fail) only [go_sem,seval]
 refine CallK.of (fun R h=>zhb _ _ R h) ?_;simp (disch:=first|exact zb|fail) only [go_sem,seval]
 (refine .q ?_);refine .rt Tryd.func66 (by rw [Tryd.results66]) (hR := ?_);simp (disch:=first|exact zb|fail) only [go_sem,seval]
 exact h
theorem zAm {xs:List Ext} {p:Ext → Bool} {i:Nat} (hi:i < xs.length) (h:p (nth xs i)=true):xs.any p=true:=by
 rw [List.any_eq_true]
 exact ⟨nth xs i,by rw [show nth xs i=xs[i] by simp [nth,hi]];exact List.getElem_mem hi,h⟩
theorem zqj {xs:List Ext} {p:Ext → Bool} (h : ∀ i,i < xs.length → p (nth xs i)=false):xs.any p=false:=by
 rw [List.any_eq_false]
 intro x hx
 obtain ⟨i,hi,rfl⟩:=List.getElem_of_mem hx
 have:=h i hi
 rw [show nth xs i=xs[i] by simp [nth,hi]] at this
 simp [this]
set_option maxHeartbeats 4000000 in
theorem zlP (xs:List Ext) (hl:xs.length≤140737488355000) (H:Hp) (R:AV → Hp → Prop) (h : ∀ n:Int,decide (0≤n)=(xs.any fun x => !zaS x) → R (.p (i64 n)) H) :
 ACall Tryd.prog G 79 [.p (.sl false 2 (pl ext xs)),.clo 66 [] []] H R:=by
 refine ACall.of_run (raw:=[]) Tryd.func79 rfl Tryd.ntmps79 (by simp) fun hbel => ?_
 (refine .q ?_);refine .text ?_;simp (disch:=first|exact zb|fail) only [go_sem,seval]
 (refine .q ?_);refine .text ?_;simp (disch:=first|exact zb|fail) only [go_sem,seval]
 (refine .q ?_);refine .loopE [0,1,7] (fun i=>[(8,.p (i64 i))]) (fun i=>[]) (fun i => ∀ j,j < i → (!zaS (nth xs j))=false) (0) (xs.length) (by omega) ?_ (by first | rfl | (simp (disch:=first|exact zb|fail) only [go_sem,seval]<;>rfl)) ?_ ?_ ?_
 · simp (disch:=first|exact zb|fail) only [go_sem,seval]<;>(repeat' (first | rfl | refine And.intro ?_ ?_))
 rotate_left 1
 intro env E hQ;simp (disch:=first|exact zb|fail) only [go_sem,seval] at E
 rotate_left 1
 intro i env hi0 hi E hQ ihE;simp (disch:=first|exact zb|fail) only [go_sem,seval] at E
 rotate_left 1
 · exact fun j hj=>absurd hj (by omega)
 · have hn:=zqj (p:=fun x => !zaS x) hQ
   (refine .q ?_);refine .text ?_;simp (disch:=first|exact zb|fail) only [go_sem,seval,E]
   (refine .q ?_);refine .ifF (by simp (disch:=first|exact zb|fail) only [go_sem,seval]) ?_
   (refine .q ?_);refine .text ?_;simp (disch:=first|exact zb|fail) only [go_sem,seval]
   (refine .q ?_);refine .rt Tryd.func79 (by rw [Tryd.results79]) (hR := ?_);simp (disch:=first|exact zb|fail) only [go_sem,seval]
   exact h _ (by rw [hn];rfl)
 · (refine .q ?_);refine .text ?_;simp (disch:=first|exact zb|fail) only [go_sem,seval,E]
   (refine .q ?_);refine .ifT (by simp (disch:=first|exact zb|fail) only [go_sem,seval]) ?_
   (refine .q ?_);refine .text ?_;simp (disch:=first|exact zb|fail) only [go_sem,seval,E]
   (refine .q ?_);refine .text ?_;simp (disch:=first|exact zb|fail) only [go_sem,seval,E]
   refine CallK.of (fun R h=>zlO _ _ R h) ?_;simp (disch:=first|exact zb|fail) only [go_sem,seval]
   (refine .q ?_);refine .ifB (by simp (disch:=first|exact zb|fail) only [go_sem,seval];rfl) (fun hc => ?_) (fun hc => ?_)
   · have hn:=zAm (p:=fun x => !zaS x) hi (by simpa using hc)
     (refine .q ?_);refine .text ?_;simp (disch:=first|exact zb|fail) only [go_sem,seval,E]
     (refine .q ?_);refine .rt Tryd.func79 (by rw [Tryd.results79]) (hR := ?_);simp (disch:=first|exact zb|fail) only [go_sem,seval]
     exact h _ (by rw [hn];simp)
   · have hn : ∀ j,j < i+1 → (!zaS (nth xs j))=false:=fun j hj=>by
      rcases Nat.lt_or_ge j i with q | q
      · exact hQ j q
      · rw [show j=i by omega];simpa using hc
     refine .skip ?_
     (refine .q ?_);refine .text ?_;simp (disch:=first|exact zb|fail) only [go_sem,seval,E]
     first | (refine ihE _ _ ?_ hn ?_) | (refine .z rfl ?_;refine ihE _ _ ?_ hn ?_) | (refine .z rfl ?_;refine .z rfl ?_;refine ihE _ _ ?_ hn ?_) | (refine .z rfl ?_;refine .z rfl ?_;refine .z rfl ?_;refine ihE _ _ ?_ hn ?_)
     · simp (disch:=first|exact zb|fail) only [go_sem,seval,E]<;>(repeat' (first | rfl | refine And.intro ?_ ?_))
     · first | rfl | (simp (disch:=first|exact zb|fail) only [go_sem,seval,E]<;>(try rfl))
theorem zgl (xs:List Ext) (hl:xs.length≤140737488355000) (H:Hp) (R:AV → Hp → Prop) (h:R (.p (bo (xs.any fun x => !zaS x))) H) :
 ACall Tryd.prog G 65 [.p (.sl false 2 (pl ext xs)),.clo 66 [] []] H R:=by
 refine ACall.of_run (raw:=[]) Tryd.func65 rfl Tryd.ntmps65 (by simp) fun hbel => ?_
 (refine .q ?_);refine .text ?_;simp (disch:=first|exact zb|fail) only [go_sem,seval]
 (refine .q ?_);refine .text ?_;simp (disch:=first|exact zb|fail) only [go_sem,seval]
 refine CallK.ex (S:=fun r H' => ∃ n:Int,r = .p (i64 n)∧H'=H∧decide (0≤n)=(xs.any fun x => !zaS x)) (zlP xs hl _ _ fun n hn=>⟨n,rfl,rfl,hn⟩) ?_
 rintro _ _ ⟨n,rfl,rfl,hn⟩
 simp (disch:=first|exact zb|fail) only [go_sem,seval,hn]
 (refine .q ?_);refine .rt Tryd.func65 (by rw [Tryd.results65]) (hR := ?_);simp (disch:=first|exact zb|fail) only [go_sem,seval]
 exact h
theorem zlQ {k:Int} {r:Rule} (h:zax k=some r):enters Tryd.prog r.fn=true:=by
 unfold zax at h
 (repeat' split at h)<;>cases h<;>first | exact zhF | exact zhG | exact zhH | exact zhI | exact zhJ
theorem ztR {k:Int} {r:Rule} (hr:zax k=some r) (a b c:Int) (ha:0≤a∧a≤1000000000000000) (hb:0≤b∧b≤1000000000000000) (hc:0≤c∧c≤1000000000000000) (H:Hp) (R:AV → Hp → Prop) (h:R (.p (bo (holds k a b c))) H):ACall Tryd.prog G r.fn [.p (i64 a),.p (i64 b),.p (i64 c)] H R:=by
 unfold zax at hr
 unfold holds at h
 by_cases k1:k=1
 · subst k1;cases hr;exact zo3 a b c ha hb hc H R h
 by_cases k2:k=2
 · subst k2;cases hr;exact zdm a b c ha hb hc H R h
 by_cases k3:k=3
 · subst k3;cases hr;exact zo4 a b c ha hb hc H R h
 by_cases k4:k=4
 · subst k4;cases hr;exact zo5 a b c ha hb hc H R h
 by_cases k5:k=5
 · subst k5;cases hr;exact zo6 a b c ha hb hc H R h
 by_cases k6:k=6
 · subst k6;cases hr;exact zdm a b c ha hb hc H R h
 by_cases k7:k=7
 · subst k7;cases hr;exact zdm a b c ha hb hc H R h
 · simp [k1,k2,k3,k4,k5,k6,k7] at hr
theorem zhM {k s:Int} (h:fits k s=true) : ∃ r,zax k=some r:=by
 unfold fits at h
 cases hr:zax k with
 | none=>rw [hr] at h;cases h
 | some r=>exact ⟨r,rfl⟩
theorem isAggV_agg {l:List AV}:(AV.agg l).isAggV=true:=rfl
attribute [go_sem] isAggV_agg
theorem zIB {r:Rule}:rlv r = .agg [.p (i64 r.first),.p (i64 r.every),.clo r.fn [] []]:=rfl
theorem small_spec' (n:Int) (H:Hp) (R:AV → Hp → Prop) (h:R (.p (bo (small n))) H):ACall Tryd.prog G 64 [.p (i64 n)] H R:=zo2 n H R h
set_option maxHeartbeats 4000000 in
set_option maxRecDepth 20000 in
theorem zgm (g:GR G r1 r2 m1 m2) (m:Msg) (hm:m.Ok) (H:Hp) (R:AV → Hp → Prop) (h:R (.p (bo (valid m))) H):ACall Tryd.prog G 39 [.p (msg m)] H R:=by
 have e1:=g.g1
 have e2:=g.h1
 have e3:=g.rule2 hm.kind
 have hk:=hm.kind
 have hs:=hm.step
 have ht:=hm.text
 have hsu:=hm.sums
 have hva:=hm.values
 unfold valid at h
 refine ACall.of_run (raw:=[]) Tryd.func39 rfl Tryd.ntmps39 (by simp) fun hbel => ?_
 (refine .q ?_);refine .text ?_;simp (disch:=first|exact zb|fail) only [go_sem,seval]
 (refine .q ?_);refine .text ?_;simp (disch:=first|exact zb|fail) only [go_sem,seval]
 refine CallK.of (fun R h=>small_spec' _ _ R h) ?_;simp (disch:=first|exact zb|fail) only [go_sem,seval]
 cases v1:small m.session with
 | false =>
  rw [v1] at h
  simp (disch:=first|exact zb|fail) only [go_sem,seval]
  (refine .q ?_);refine .rt Tryd.func39 (by rw [Tryd.results39]) (hR := ?_);simp (disch:=first|exact zb|fail) only [go_sem,seval]
  exact h
 | true =>
  rw [v1] at h
  simp (disch:=first|exact zb|fail) only [go_sem,seval]
  refine CallK.of (fun R h=>small_spec' _ _ R h) ?_;simp (disch:=first|exact zb|fail) only [go_sem,seval]
  cases v2:small m.step with
  | false =>
   rw [v2] at h
   simp (disch:=first|exact zb|fail) only [go_sem,seval]
   (refine .q ?_);refine .rt Tryd.func39 (by rw [Tryd.results39]) (hR := ?_);simp (disch:=first|exact zb|fail) only [go_sem,seval]
   exact h
  | true =>
   rw [v2] at h
   simp (disch:=first|exact zb|fail) only [go_sem,seval]
   refine CallK.of (fun R h=>zd3 g _ _ hk hs _ R h) ?_;simp (disch:=first|exact zb|fail) only [go_sem,seval]
   cases v3:fits m.kind m.step with
   | false =>
    rw [v3] at h
    simp (disch:=first|exact zb|fail) only [go_sem,seval]
    (refine .q ?_);refine .rt Tryd.func39 (by rw [Tryd.results39]) (hR := ?_);simp (disch:=first|exact zb|fail) only [go_sem,seval]
    exact h
   | true =>
    rw [v3] at h
    obtain ⟨r,hr⟩:=zhM v3
    have hen:=zlQ hr
    rw [hr] at e3
    simp only at e3
    simp (disch:=first|exact zb|fail) only [go_sem,seval,e1,e2,e3,zIB,hen]
    refine CallK.of (fun R h=>ztR hr m.text.length m.sums.length m.values.length (by omega) (by omega) (by omega) _ R h) ?_
    simp (disch:=first|exact zb|fail) only [go_sem,seval]
    cases v4:holds m.kind m.text.length m.sums.length m.values.length with
    | false =>
     rw [v4] at h
     simp (disch:=first|exact zb|fail) only [go_sem,seval]
     (refine .q ?_);refine .rt Tryd.func39 (by rw [Tryd.results39]) (hR := ?_);simp (disch:=first|exact zb|fail) only [go_sem,seval]
     exact h
    | true =>
     rw [v4] at h
     have hen2:enters Tryd.prog 66=true:=zlz
     simp (disch:=first|exact zb|fail) only [go_sem,seval,hen2]
     refine CallK.of (fun R h=>zgl _ hva _ R h) ?_;simp (disch:=first|exact zb|fail) only [go_sem,seval]
     (refine .q ?_);refine .rt Tryd.func39 (by rw [Tryd.results39]) (hR := ?_);simp (disch:=first|exact zb|fail) only [go_sem,seval]
     simpa using h
end walks
end Go.Proofs.YtmoecjgehdkhkaaDoor
