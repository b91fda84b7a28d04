/-
  What the rules ask of the types and functions of this program: closed facts,by the kernel.
  Conditions: none. Written by gen_tab.py.
-/
import Derived.Test.YtmoecjgehdkhkaaDoorPkE3
import Derived.Test.YtmoecjgehdkhkaaDoorChecked
import Derived.Shelf.Spec.SlicesGrow
set_option linter.unusedSimpArgs false
set_option linter.unusedVariables false
namespace Go.Proofs.YtmoecjgehdkhkaaDoor
open Go Go.AL

theorem zLd:Tryd.prog.cellsOf 1=1:=by kernel_rfl
theorem zPy:(Tryd.prog.info? 1).isSome=true:=by kernel_rfl
theorem zLe:Tryd.prog.bytesOf 1=8:=by kernel_rfl
theorem zPz:zg Tryd.prog 1=false:=by kernel_rfl
theorem zvq:isIface Tryd.prog 1=false:=by kernel_rfl
theorem zLf:zj Tryd.prog 1=some ([.s .nilFunc]):=by kernel_rfl
theorem zLg:zk Tryd.prog 1=true:=by kernel_rfl
theorem cells2:Tryd.prog.cellsOf 2=1:=by kernel_rfl
theorem zPA:(Tryd.prog.info? 2).isSome=true:=by kernel_rfl
theorem zLh:Tryd.prog.bytesOf 2=8:=by kernel_rfl
theorem zJ0:zg Tryd.prog 2=false:=by kernel_rfl
theorem zLi:zY Tryd.prog 2=true:=by kernel_rfl
theorem zvr:isIface Tryd.prog 2=false:=by kernel_rfl
theorem zLj:zj Tryd.prog 2=some ([i64 0]):=by kernel_rfl
theorem zLk:zk Tryd.prog 2=true:=by kernel_rfl
theorem cells3:Tryd.prog.cellsOf 3=1:=by kernel_rfl
theorem info3:(Tryd.prog.info? 3).isSome=true:=by kernel_rfl
theorem bytes3:Tryd.prog.bytesOf 3=8:=by kernel_rfl
theorem zPB:zg Tryd.prog 3=false:=by kernel_rfl
theorem zLl:zY Tryd.prog 3=true:=by kernel_rfl
theorem zvs:isIface Tryd.prog 3=false:=by kernel_rfl
theorem zLm:zj Tryd.prog 3=some ([i64 0]):=by kernel_rfl
theorem zLn:zk Tryd.prog 3=true:=by kernel_rfl
theorem cells4:Tryd.prog.cellsOf 4=1:=by kernel_rfl
theorem info4:(Tryd.prog.info? 4).isSome=true:=by kernel_rfl
theorem bytes4:Tryd.prog.bytesOf 4=1:=by kernel_rfl
theorem zPC:zg Tryd.prog 4=false:=by kernel_rfl
theorem zBV:isBool Tryd.prog 4=true:=by kernel_rfl
theorem zvt:isIface Tryd.prog 4=false:=by kernel_rfl
theorem zLo:zj Tryd.prog 4=some ([bo false]):=by kernel_rfl
theorem zLp:zk Tryd.prog 4=true:=by kernel_rfl
theorem cells5:Tryd.prog.cellsOf 5=1:=by kernel_rfl
theorem info5:(Tryd.prog.info? 5).isSome=true:=by kernel_rfl
theorem bytes5:Tryd.prog.bytesOf 5=1:=by kernel_rfl
theorem zJ1:zg Tryd.prog 5=false:=by kernel_rfl
theorem zLq:zY Tryd.prog 5=true:=by kernel_rfl
theorem zvu:isIface Tryd.prog 5=false:=by kernel_rfl
theorem zLr:zj Tryd.prog 5=some ([b8 0#8]):=by kernel_rfl
theorem zLs:zk Tryd.prog 5=true:=by kernel_rfl
theorem zLt:Tryd.prog.cellsOf 6=1:=by kernel_rfl
theorem zPD:(Tryd.prog.info? 6).isSome=true:=by kernel_rfl
theorem zLu:Tryd.prog.bytesOf 6=1:=by kernel_rfl
theorem zPE:zg Tryd.prog 6=false:=by kernel_rfl
theorem zLv:zY Tryd.prog 6=true:=by kernel_rfl
theorem zvv:isIface Tryd.prog 6=false:=by kernel_rfl
theorem zLw:zj Tryd.prog 6=some ([b8 0#8]):=by kernel_rfl
theorem zLx:zk Tryd.prog 6=true:=by kernel_rfl
theorem zLy:Tryd.prog.cellsOf 7=4:=by kernel_rfl
theorem zPF:(Tryd.prog.info? 7).isSome=true:=by kernel_rfl
theorem zLz:Tryd.prog.bytesOf 7=24:=by kernel_rfl
theorem zPG:zg Tryd.prog 7=true:=by kernel_rfl
theorem zvw:isIface Tryd.prog 7=false:=by kernel_rfl
theorem zvx:zj Tryd.prog 7=some ([i64 0,i64 0,bo false,b8 0#8]):=by kernel_rfl
theorem zLA:zk Tryd.prog 7=true:=by kernel_rfl
theorem zLB : ∀ parts,zX Tryd.prog 7 parts=(ye (fun i=>[some (0,1),some (1,1),some (2,1),some (3,1)][i]?.join) ([.p (i64 0),.p (i64 0),.p (bo false),.p (b8 0#8)]) parts).map zG:=fun _=>zt (by kernel_rfl) zvx
theorem zLC:Tryd.prog.cellsOf 8=4:=by kernel_rfl
theorem zPH:(Tryd.prog.info? 8).isSome=true:=by kernel_rfl
theorem zLD:Tryd.prog.bytesOf 8=24:=by kernel_rfl
theorem zPI:zg Tryd.prog 8=true:=by kernel_rfl
theorem isIface8:isIface Tryd.prog 8=false:=by kernel_rfl
theorem zvy:zj Tryd.prog 8=some ([i64 0,i64 0,bo false,b8 0#8]):=by kernel_rfl
theorem zLE:zk Tryd.prog 8=true:=by kernel_rfl
theorem zLF : ∀ parts,zX Tryd.prog 8 parts=(ye (fun i=>[some (0,1),some (1,1),some (2,1),some (3,1)][i]?.join) ([.p (i64 0),.p (i64 0),.p (bo false),.p (b8 0#8)]) parts).map zG:=fun _=>zt (by kernel_rfl) zvy
theorem cells9:Tryd.prog.cellsOf 9=1:=by kernel_rfl
theorem info9:(Tryd.prog.info? 9).isSome=true:=by kernel_rfl
theorem bytes9:Tryd.prog.bytesOf 9=16:=by kernel_rfl
theorem zPJ:zg Tryd.prog 9=false:=by kernel_rfl
theorem zvz:isIface Tryd.prog 9=false:=by kernel_rfl
theorem zLG:zj Tryd.prog 9=some ([str ByteArray.empty]):=by kernel_rfl
theorem zLH:zk Tryd.prog 9=true:=by kernel_rfl
theorem zBW:Tryd.prog.cellsOf 10=1:=by kernel_rfl
theorem zLI:(Tryd.prog.info? 10).isSome=true:=by kernel_rfl
theorem zBX:Tryd.prog.bytesOf 10=16:=by kernel_rfl
theorem zLJ:zg Tryd.prog 10=false:=by kernel_rfl
theorem zsl:isIface Tryd.prog 10=false:=by kernel_rfl
theorem zBY:zj Tryd.prog 10=some ([str ByteArray.empty]):=by kernel_rfl
theorem zBZ:zk Tryd.prog 10=true:=by kernel_rfl
theorem zB0:Tryd.prog.cellsOf 11=1:=by kernel_rfl
theorem zLK:(Tryd.prog.info? 11).isSome=true:=by kernel_rfl
theorem zB1:Tryd.prog.bytesOf 11=16:=by kernel_rfl
theorem zLL:zg Tryd.prog 11=false:=by kernel_rfl
theorem zsm:isIface Tryd.prog 11=false:=by kernel_rfl
theorem zB2:zj Tryd.prog 11=some ([str ByteArray.empty]):=by kernel_rfl
theorem zB3:zk Tryd.prog 11=true:=by kernel_rfl
theorem zB4:Tryd.prog.cellsOf 12=1:=by kernel_rfl
theorem zLM:(Tryd.prog.info? 12).isSome=true:=by kernel_rfl
theorem zB5:Tryd.prog.bytesOf 12=8:=by kernel_rfl
theorem zLN:zg Tryd.prog 12=false:=by kernel_rfl
theorem zB6:zY Tryd.prog 12=true:=by kernel_rfl
theorem zsn:isIface Tryd.prog 12=false:=by kernel_rfl
theorem zB7:zj Tryd.prog 12=some ([zw 0#64]):=by kernel_rfl
theorem zB8:zk Tryd.prog 12=true:=by kernel_rfl
theorem zB9:Tryd.prog.cellsOf 13=2:=by kernel_rfl
theorem zLO:(Tryd.prog.info? 13).isSome=true:=by kernel_rfl
theorem zCa:Tryd.prog.bytesOf 13=24:=by kernel_rfl
theorem zLP:zg Tryd.prog 13=true:=by kernel_rfl
theorem zso:isIface Tryd.prog 13=false:=by kernel_rfl
theorem zp1:zj Tryd.prog 13=some ([str ByteArray.empty,zw 0#64]):=by kernel_rfl
theorem zCb:zk Tryd.prog 13=true:=by kernel_rfl
theorem zCc : ∀ parts,zX Tryd.prog 13 parts=(ye (fun i=>[some (0,1),some (1,1)][i]?.join) ([.p (str ByteArray.empty),.p (zw 0#64)]) parts).map zG:=fun _=>zt (by kernel_rfl) zp1
theorem zCd:Tryd.prog.cellsOf 14=2:=by kernel_rfl
theorem zLQ:(Tryd.prog.info? 14).isSome=true:=by kernel_rfl
theorem zCe:Tryd.prog.bytesOf 14=24:=by kernel_rfl
theorem zLR:zg Tryd.prog 14=true:=by kernel_rfl
theorem zsp:isIface Tryd.prog 14=false:=by kernel_rfl
theorem zp2:zj Tryd.prog 14=some ([str ByteArray.empty,zw 0#64]):=by kernel_rfl
theorem zCf:zk Tryd.prog 14=true:=by kernel_rfl
theorem zCg : ∀ parts,zX Tryd.prog 14 parts=(ye (fun i=>[some (0,1),some (1,1)][i]?.join) ([.p (str ByteArray.empty),.p (zw 0#64)]) parts).map zG:=fun _=>zt (by kernel_rfl) zp2
theorem zCh:Tryd.prog.cellsOf 15=1:=by kernel_rfl
theorem zLS:(Tryd.prog.info? 15).isSome=true:=by kernel_rfl
theorem zCi:Tryd.prog.bytesOf 15=8:=by kernel_rfl
theorem zLT:zg Tryd.prog 15=false:=by kernel_rfl
theorem zsq:isIface Tryd.prog 15=false:=by kernel_rfl
theorem zCj:zj Tryd.prog 15=some ([.s (.pointer none)]):=by kernel_rfl
theorem zCk:zk Tryd.prog 15=true:=by kernel_rfl
theorem zCl:Tryd.prog.cellsOf 16=1:=by kernel_rfl
theorem zLU:(Tryd.prog.info? 16).isSome=true:=by kernel_rfl
theorem zCm:Tryd.prog.bytesOf 16=8:=by kernel_rfl
theorem zLV:zg Tryd.prog 16=false:=by kernel_rfl
theorem zsr:isIface Tryd.prog 16=false:=by kernel_rfl
theorem zCn:zj Tryd.prog 16=some ([.s (.pointer none)]):=by kernel_rfl
theorem zCo:zk Tryd.prog 16=true:=by kernel_rfl
theorem zCp:Tryd.prog.cellsOf 17=1:=by kernel_rfl
theorem zLW:(Tryd.prog.info? 17).isSome=true:=by kernel_rfl
theorem zCq:Tryd.prog.bytesOf 17=8:=by kernel_rfl
theorem zLX:zg Tryd.prog 17=false:=by kernel_rfl
theorem zss:isIface Tryd.prog 17=false:=by kernel_rfl
theorem zCr:zj Tryd.prog 17=some ([.s (.pointer none)]):=by kernel_rfl
theorem zCs:zk Tryd.prog 17=true:=by kernel_rfl
theorem zCt:Tryd.prog.cellsOf 18=1:=by kernel_rfl
theorem zLY:(Tryd.prog.info? 18).isSome=true:=by kernel_rfl
theorem zCu:Tryd.prog.bytesOf 18=8:=by kernel_rfl
theorem zLZ:zg Tryd.prog 18=true:=by kernel_rfl
theorem zst:isIface Tryd.prog 18=false:=by kernel_rfl
theorem zp3:zj Tryd.prog 18=some ([.s (.pointer none)]):=by kernel_rfl
theorem zCv:zk Tryd.prog 18=true:=by kernel_rfl
theorem zCw : ∀ parts,zX Tryd.prog 18 parts=(ye (fun i=>[some (0,1)][i]?.join) ([.p (.s (.pointer none))]) parts).map zG:=fun _=>zt (by kernel_rfl) zp3
theorem zCx:Tryd.prog.cellsOf 19=1:=by kernel_rfl
theorem zL0:(Tryd.prog.info? 19).isSome=true:=by kernel_rfl
theorem zCy:Tryd.prog.bytesOf 19=8:=by kernel_rfl
theorem zL1:zg Tryd.prog 19=true:=by kernel_rfl
theorem zsu:isIface Tryd.prog 19=false:=by kernel_rfl
theorem zp4:zj Tryd.prog 19=some ([.s (.pointer none)]):=by kernel_rfl
theorem zCz:zk Tryd.prog 19=true:=by kernel_rfl
theorem zCA : ∀ parts,zX Tryd.prog 19 parts=(ye (fun i=>[some (0,1)][i]?.join) ([.p (.s (.pointer none))]) parts).map zG:=fun _=>zt (by kernel_rfl) zp4
theorem cells20:Tryd.prog.cellsOf 20=1:=by kernel_rfl
theorem zL2:(Tryd.prog.info? 20).isSome=true:=by kernel_rfl
theorem zCB:Tryd.prog.bytesOf 20=16:=by kernel_rfl
theorem zL3:zg Tryd.prog 20=false:=by kernel_rfl
theorem zsv:isIface Tryd.prog 20=true:=by kernel_rfl
theorem zCC:zj Tryd.prog 20=some ([.s .nilIface]):=by kernel_rfl
theorem zCD:zk Tryd.prog 20=true:=by kernel_rfl
theorem cells21:Tryd.prog.cellsOf 21=1:=by kernel_rfl
theorem info21:(Tryd.prog.info? 21).isSome=true:=by kernel_rfl
theorem bytes21:Tryd.prog.bytesOf 21=4:=by kernel_rfl
theorem zL4:zg Tryd.prog 21=false:=by kernel_rfl
theorem zCE:zY Tryd.prog 21=true:=by kernel_rfl
theorem zsw:isIface Tryd.prog 21=false:=by kernel_rfl
theorem zCF:zj Tryd.prog 21=some ([.s (.int .i32 0)]):=by kernel_rfl
theorem zCG:zk Tryd.prog 21=true:=by kernel_rfl
theorem cells22:Tryd.prog.cellsOf 22=32:=by kernel_rfl
theorem info22:(Tryd.prog.info? 22).isSome=true:=by kernel_rfl
theorem zCH:Tryd.prog.bytesOf 22=32:=by kernel_rfl
theorem zL5:zg Tryd.prog 22=true:=by kernel_rfl
theorem zCI:zcz Tryd.prog 22 .u8 32=true:=by kernel_rfl
theorem zsx:isIface Tryd.prog 22=false:=by kernel_rfl
theorem zp5:zj Tryd.prog 22=some (List.replicate 32 (b8 0#8)):=by kernel_rfl
theorem zCJ:zk Tryd.prog 22=true:=by kernel_rfl
theorem zCK : ∀ parts,zX Tryd.prog 22 parts=(ye (fun i=>some (i*1,1)) ((List.replicate 32 (b8 0#8)).map .p) parts).map zG:=fun _=>zaW (by kernel_rfl) zp5
theorem cells23:Tryd.prog.cellsOf 23=32:=by kernel_rfl
theorem info23:(Tryd.prog.info? 23).isSome=true:=by kernel_rfl
theorem bytes23:Tryd.prog.bytesOf 23=32:=by kernel_rfl
theorem zL6:zg Tryd.prog 23=true:=by kernel_rfl
theorem zCL:zcz Tryd.prog 23 .u8 32=true:=by kernel_rfl
theorem zsy:isIface Tryd.prog 23=false:=by kernel_rfl
theorem zp6:zj Tryd.prog 23=some (List.replicate 32 (b8 0#8)):=by kernel_rfl
theorem zCM:zk Tryd.prog 23=true:=by kernel_rfl
theorem zCN : ∀ parts,zX Tryd.prog 23 parts=(ye (fun i=>some (i*1,1)) ((List.replicate 32 (b8 0#8)).map .p) parts).map zG:=fun _=>zaW (by kernel_rfl) zp6
theorem cells24:Tryd.prog.cellsOf 24=1:=by kernel_rfl
theorem info24:(Tryd.prog.info? 24).isSome=true:=by kernel_rfl
theorem zCO:Tryd.prog.bytesOf 24=24:=by kernel_rfl
theorem zL7:zg Tryd.prog 24=false:=by kernel_rfl
theorem zsz:isIface Tryd.prog 24=false:=by kernel_rfl
theorem zCP:zj Tryd.prog 24=some ([.sl true 1 []]):=by kernel_rfl
theorem zCQ:zk Tryd.prog 24=true:=by kernel_rfl
theorem cells25:Tryd.prog.cellsOf 25=1:=by kernel_rfl
theorem info25:(Tryd.prog.info? 25).isSome=true:=by kernel_rfl
theorem bytes25:Tryd.prog.bytesOf 25=24:=by kernel_rfl
theorem zL8:zg Tryd.prog 25=false:=by kernel_rfl
theorem zsA:isIface Tryd.prog 25=false:=by kernel_rfl
theorem zCR:zj Tryd.prog 25=some ([.sl true 2 []]):=by kernel_rfl
theorem zCS:zk Tryd.prog 25=true:=by kernel_rfl
theorem cells26:Tryd.prog.cellsOf 26=38:=by kernel_rfl
theorem info26:(Tryd.prog.info? 26).isSome=true:=by kernel_rfl
theorem bytes26:Tryd.prog.bytesOf 26=120:=by kernel_rfl
theorem zL9:zg Tryd.prog 26=true:=by kernel_rfl
theorem zsB:isIface Tryd.prog 26=false:=by kernel_rfl
theorem zp7:zj Tryd.prog 26=some (([i64 0,i64 0,i64 0,str ByteArray.empty]:List PV)++List.replicate 32 (b8 0#8)++([.sl true 1 [],.sl true 2 []]:List PV)):=by kernel_rfl
theorem zCT:zk Tryd.prog 26=true:=by kernel_rfl
theorem zCU : ∀ parts,zX Tryd.prog 26 parts=(ye (fun i=>[some (0,1),some (1,1),some (2,1),some (3,1),some (4,32),some (36,1),some (37,1)][i]?.join) ((([i64 0,i64 0,i64 0,str ByteArray.empty]:List PV)++List.replicate 32 (b8 0#8)++([.sl true 1 [],.sl true 2 []]:List PV)).map .p) parts).map zG:=fun _=>zt (by kernel_rfl) zp7
theorem cells27:Tryd.prog.cellsOf 27=38:=by kernel_rfl
theorem zMa:(Tryd.prog.info? 27).isSome=true:=by kernel_rfl
theorem bytes27:Tryd.prog.bytesOf 27=120:=by kernel_rfl
theorem zMb:zg Tryd.prog 27=true:=by kernel_rfl
theorem zsC:isIface Tryd.prog 27=false:=by kernel_rfl
theorem zp8:zj Tryd.prog 27=some (([i64 0,i64 0,i64 0,str ByteArray.empty]:List PV)++List.replicate 32 (b8 0#8)++([.sl true 1 [],.sl true 2 []]:List PV)):=by kernel_rfl
theorem zCV:zk Tryd.prog 27=true:=by kernel_rfl
theorem zCW : ∀ parts,zX Tryd.prog 27 parts=(ye (fun i=>[some (0,1),some (1,1),some (2,1),some (3,1),some (4,32),some (36,1),some (37,1)][i]?.join) ((([i64 0,i64 0,i64 0,str ByteArray.empty]:List PV)++List.replicate 32 (b8 0#8)++([.sl true 1 [],.sl true 2 []]:List PV)).map .p) parts).map zG:=fun _=>zt (by kernel_rfl) zp8
theorem cells28:Tryd.prog.cellsOf 28=1:=by kernel_rfl
theorem zMc:(Tryd.prog.info? 28).isSome=true:=by kernel_rfl
theorem bytes28:Tryd.prog.bytesOf 28=24:=by kernel_rfl
theorem zMd:zg Tryd.prog 28=false:=by kernel_rfl
theorem zsD:zcb Tryd.prog 28=true:=by kernel_rfl
theorem zsE:isIface Tryd.prog 28=false:=by kernel_rfl
theorem zCX:zj Tryd.prog 28=some ([.sl true 1 []]):=by kernel_rfl
theorem zCY:zk Tryd.prog 28=true:=by kernel_rfl
theorem cells29:Tryd.prog.cellsOf 29=1:=by kernel_rfl
theorem zMe:(Tryd.prog.info? 29).isSome=true:=by kernel_rfl
theorem zCZ:Tryd.prog.bytesOf 29=8:=by kernel_rfl
theorem zMf:zg Tryd.prog 29=false:=by kernel_rfl
theorem zsF:isIface Tryd.prog 29=false:=by kernel_rfl
theorem zC0:zj Tryd.prog 29=some ([.s .nilFunc]):=by kernel_rfl
theorem zC1:zk Tryd.prog 29=true:=by kernel_rfl
theorem cells30:Tryd.prog.cellsOf 30=1:=by kernel_rfl
theorem info30:(Tryd.prog.info? 30).isSome=true:=by kernel_rfl
theorem bytes30:Tryd.prog.bytesOf 30=8:=by kernel_rfl
theorem zMg:zg Tryd.prog 30=false:=by kernel_rfl
theorem zsG:isIface Tryd.prog 30=false:=by kernel_rfl
theorem zC2:zj Tryd.prog 30=some ([.s .nilFunc]):=by kernel_rfl
theorem zC3:zk Tryd.prog 30=true:=by kernel_rfl
theorem cells31:Tryd.prog.cellsOf 31=1:=by kernel_rfl
theorem info31:(Tryd.prog.info? 31).isSome=true:=by kernel_rfl
theorem zC4:Tryd.prog.bytesOf 31=8:=by kernel_rfl
theorem zMh:zg Tryd.prog 31=false:=by kernel_rfl
theorem zC5:zY Tryd.prog 31=true:=by kernel_rfl
theorem zsH:isIface Tryd.prog 31=false:=by kernel_rfl
theorem zC6:zj Tryd.prog 31=some ([i64 0]):=by kernel_rfl
theorem zC7:zk Tryd.prog 31=true:=by kernel_rfl
theorem cells33:Tryd.prog.cellsOf 33=1:=by kernel_rfl
theorem info33:(Tryd.prog.info? 33).isSome=true:=by kernel_rfl
theorem zC8:Tryd.prog.bytesOf 33=8:=by kernel_rfl
theorem zMi:zg Tryd.prog 33=false:=by kernel_rfl
theorem zsI:isIface Tryd.prog 33=false:=by kernel_rfl
theorem zC9:zj Tryd.prog 33=some ([.s .nilFunc]):=by kernel_rfl
theorem zDa:zk Tryd.prog 33=true:=by kernel_rfl
theorem cells34:Tryd.prog.cellsOf 34=1:=by kernel_rfl
theorem zMj:(Tryd.prog.info? 34).isSome=true:=by kernel_rfl
theorem zDb:Tryd.prog.bytesOf 34=8:=by kernel_rfl
theorem zMk:zg Tryd.prog 34=false:=by kernel_rfl
theorem zsJ:isIface Tryd.prog 34=false:=by kernel_rfl
theorem zDc:zj Tryd.prog 34=some ([.s .nilFunc]):=by kernel_rfl
theorem zDd:zk Tryd.prog 34=true:=by kernel_rfl
theorem cells35:Tryd.prog.cellsOf 35=1:=by kernel_rfl
theorem zMl:(Tryd.prog.info? 35).isSome=true:=by kernel_rfl
theorem zDe:Tryd.prog.bytesOf 35=8:=by kernel_rfl
theorem zMm:zg Tryd.prog 35=false:=by kernel_rfl
theorem zsK:isIface Tryd.prog 35=false:=by kernel_rfl
theorem zDf:zj Tryd.prog 35=some ([.s .nilFunc]):=by kernel_rfl
theorem zDg:zk Tryd.prog 35=true:=by kernel_rfl
theorem cells36:Tryd.prog.cellsOf 36=1:=by kernel_rfl
theorem zMn:(Tryd.prog.info? 36).isSome=true:=by kernel_rfl
theorem zDh:Tryd.prog.bytesOf 36=8:=by kernel_rfl
theorem zMo:zg Tryd.prog 36=false:=by kernel_rfl
theorem zsL:isIface Tryd.prog 36=false:=by kernel_rfl
theorem zDi:zj Tryd.prog 36=some ([.s .nilFunc]):=by kernel_rfl
theorem zDj:zk Tryd.prog 36=true:=by kernel_rfl
theorem cells37:Tryd.prog.cellsOf 37=1:=by kernel_rfl
theorem zMp:(Tryd.prog.info? 37).isSome=true:=by kernel_rfl
theorem zDk:Tryd.prog.bytesOf 37=8:=by kernel_rfl
theorem zMq:zg Tryd.prog 37=false:=by kernel_rfl
theorem zsM:isIface Tryd.prog 37=false:=by kernel_rfl
theorem zDl:zj Tryd.prog 37=some ([.s .nilFunc]):=by kernel_rfl
theorem zDm:zk Tryd.prog 37=true:=by kernel_rfl
theorem cells38:Tryd.prog.cellsOf 38=1:=by kernel_rfl
theorem zMr:(Tryd.prog.info? 38).isSome=true:=by kernel_rfl
theorem zDn:Tryd.prog.bytesOf 38=24:=by kernel_rfl
theorem zvA:zg Tryd.prog 38=false:=by kernel_rfl
theorem zsN:isIface Tryd.prog 38=false:=by kernel_rfl
theorem zDo:zj Tryd.prog 38=some ([.sl true 42 []]):=by kernel_rfl
theorem zDp:zk Tryd.prog 38=true:=by kernel_rfl
theorem cells39:Tryd.prog.cellsOf 39=3:=by kernel_rfl
theorem zMs:(Tryd.prog.info? 39).isSome=true:=by kernel_rfl
theorem zDq:Tryd.prog.bytesOf 39=24:=by kernel_rfl
theorem zMt:zg Tryd.prog 39=true:=by kernel_rfl
theorem zsO:isIface Tryd.prog 39=false:=by kernel_rfl
theorem zp9:zj Tryd.prog 39=some ([i64 0,i64 0,i64 0]):=by kernel_rfl
theorem zDr:zk Tryd.prog 39=true:=by kernel_rfl
theorem zDs : ∀ parts,zX Tryd.prog 39 parts=(ye (fun i=>[some (0,1),some (1,1),some (2,1)][i]?.join) ([.p (i64 0),.p (i64 0),.p (i64 0)]) parts).map zG:=fun _=>zt (by kernel_rfl) zp9
theorem cells40:Tryd.prog.cellsOf 40=3:=by kernel_rfl
theorem zMu:(Tryd.prog.info? 40).isSome=true:=by kernel_rfl
theorem zDt:Tryd.prog.bytesOf 40=24:=by kernel_rfl
theorem zMv:zg Tryd.prog 40=true:=by kernel_rfl
theorem zsP:isIface Tryd.prog 40=false:=by kernel_rfl
theorem zqa:zj Tryd.prog 40=some ([i64 0,i64 0,i64 0]):=by kernel_rfl
theorem zDu:zk Tryd.prog 40=true:=by kernel_rfl
theorem zDv : ∀ parts,zX Tryd.prog 40 parts=(ye (fun i=>[some (0,1),some (1,1),some (2,1)][i]?.join) ([.p (i64 0),.p (i64 0),.p (i64 0)]) parts).map zG:=fun _=>zt (by kernel_rfl) zqa
theorem cells41:Tryd.prog.cellsOf 41=78:=by kernel_rfl
theorem zMw:(Tryd.prog.info? 41).isSome=true:=by kernel_rfl
theorem zDw:Tryd.prog.bytesOf 41=224:=by kernel_rfl
theorem zMx:zg Tryd.prog 41=true:=by kernel_rfl
theorem zsQ:isIface Tryd.prog 41=false:=by kernel_rfl
theorem zqb:zj Tryd.prog 41=some (([i64 0,i64 0,i64 0,str ByteArray.empty]:List PV)++List.replicate 32 (b8 0#8)++([i64 0,i64 0,i64 0,str ByteArray.empty]:List PV)++List.replicate 32 (b8 0#8)++([.sl true 1 [],.sl true 2 [],i64 0,i64 0,i64 0,i64 0]:List PV)):=by kernel_rfl
theorem zDx:zk Tryd.prog 41=true:=by kernel_rfl
theorem zDy : ∀ parts,zX Tryd.prog 41 parts=(ye (fun i=>[some (0,1),some (1,1),some (2,1),some (3,1),some (4,32),some (36,38),some (74,1),some (75,3)][i]?.join) ((([i64 0,i64 0,i64 0,str ByteArray.empty]:List PV)++List.replicate 32 (b8 0#8)++([i64 0,i64 0,i64 0,str ByteArray.empty]:List PV)++List.replicate 32 (b8 0#8)++([.sl true 1 [],.sl true 2 [],i64 0,i64 0,i64 0,i64 0]:List PV)).map .p) parts).map zG:=fun _=>zt (by kernel_rfl) zqb
theorem cells42:Tryd.prog.cellsOf 42=78:=by kernel_rfl
theorem zMy:(Tryd.prog.info? 42).isSome=true:=by kernel_rfl
theorem zDz:Tryd.prog.bytesOf 42=224:=by kernel_rfl
theorem zMz:zg Tryd.prog 42=true:=by kernel_rfl
theorem zsR:isIface Tryd.prog 42=false:=by kernel_rfl
theorem zqc:zj Tryd.prog 42=some (([i64 0,i64 0,i64 0,str ByteArray.empty]:List PV)++List.replicate 32 (b8 0#8)++([i64 0,i64 0,i64 0,str ByteArray.empty]:List PV)++List.replicate 32 (b8 0#8)++([.sl true 1 [],.sl true 2 [],i64 0,i64 0,i64 0,i64 0]:List PV)):=by kernel_rfl
theorem zDA:zk Tryd.prog 42=true:=by kernel_rfl
theorem zDB : ∀ parts,zX Tryd.prog 42 parts=(ye (fun i=>[some (0,1),some (1,1),some (2,1),some (3,1),some (4,32),some (36,38),some (74,1),some (75,3)][i]?.join) ((([i64 0,i64 0,i64 0,str ByteArray.empty]:List PV)++List.replicate 32 (b8 0#8)++([i64 0,i64 0,i64 0,str ByteArray.empty]:List PV)++List.replicate 32 (b8 0#8)++([.sl true 1 [],.sl true 2 [],i64 0,i64 0,i64 0,i64 0]:List PV)).map .p) parts).map zG:=fun _=>zt (by kernel_rfl) zqc
theorem cells43:Tryd.prog.cellsOf 43=1:=by kernel_rfl
theorem zMA:(Tryd.prog.info? 43).isSome=true:=by kernel_rfl
theorem zDC:Tryd.prog.bytesOf 43=8:=by kernel_rfl
theorem zMB:zg Tryd.prog 43=false:=by kernel_rfl
theorem zsS:isIface Tryd.prog 43=false:=by kernel_rfl
theorem zDD:zj Tryd.prog 43=some ([.s .nilFunc]):=by kernel_rfl
theorem zDE:zk Tryd.prog 43=true:=by kernel_rfl
theorem cells44:Tryd.prog.cellsOf 44=1:=by kernel_rfl
theorem zMC:(Tryd.prog.info? 44).isSome=true:=by kernel_rfl
theorem zDF:Tryd.prog.bytesOf 44=24:=by kernel_rfl
theorem zMD:zg Tryd.prog 44=false:=by kernel_rfl
theorem zsT:isIface Tryd.prog 44=false:=by kernel_rfl
theorem zDG:zj Tryd.prog 44=some ([.sl true 78 []]):=by kernel_rfl
theorem zDH:zk Tryd.prog 44=true:=by kernel_rfl
theorem zDI:Tryd.prog.cellsOf 45=1:=by kernel_rfl
theorem zME:(Tryd.prog.info? 45).isSome=true:=by kernel_rfl
theorem zDJ:Tryd.prog.bytesOf 45=24:=by kernel_rfl
theorem zMF:zg Tryd.prog 45=false:=by kernel_rfl
theorem zsU:isIface Tryd.prog 45=false:=by kernel_rfl
theorem zDK:zj Tryd.prog 45=some ([.sl true 1 []]):=by kernel_rfl
theorem zDL:zk Tryd.prog 45=true:=by kernel_rfl
theorem cells46:Tryd.prog.cellsOf 46=42:=by kernel_rfl
theorem zMG:(Tryd.prog.info? 46).isSome=true:=by kernel_rfl
theorem zDM:Tryd.prog.bytesOf 46=136:=by kernel_rfl
theorem zMH:zg Tryd.prog 46=true:=by kernel_rfl
theorem zsV:isIface Tryd.prog 46=false:=by kernel_rfl
theorem zqd:zj Tryd.prog 46=some (([b8 0#8,b8 0#8,i64 0,i64 0,i64 0,str ByteArray.empty]:List PV)++List.replicate 32 (b8 0#8)++([.sl true 1 [],.sl true 2 [],b8 0#8,b8 0#8]:List PV)):=by kernel_rfl
theorem zDN:zk Tryd.prog 46=true:=by kernel_rfl
theorem zDO : ∀ parts,zX Tryd.prog 46 parts=(ye (fun i=>[some (0,1),some (1,1),some (2,38),some (40,1),some (41,1)][i]?.join) ((([b8 0#8,b8 0#8,i64 0,i64 0,i64 0,str ByteArray.empty]:List PV)++List.replicate 32 (b8 0#8)++([.sl true 1 [],.sl true 2 [],b8 0#8,b8 0#8]:List PV)).map .p) parts).map zG:=fun _=>zt (by kernel_rfl) zqd
theorem cells47:Tryd.prog.cellsOf 47=42:=by kernel_rfl
theorem zMI:(Tryd.prog.info? 47).isSome=true:=by kernel_rfl
theorem zDP:Tryd.prog.bytesOf 47=136:=by kernel_rfl
theorem zvB:zg Tryd.prog 47=true:=by kernel_rfl
theorem zsW:isIface Tryd.prog 47=false:=by kernel_rfl
theorem zqe:zj Tryd.prog 47=some (([b8 0#8,b8 0#8,i64 0,i64 0,i64 0,str ByteArray.empty]:List PV)++List.replicate 32 (b8 0#8)++([.sl true 1 [],.sl true 2 [],b8 0#8,b8 0#8]:List PV)):=by kernel_rfl
theorem zDQ:zk Tryd.prog 47=true:=by kernel_rfl
theorem zDR : ∀ parts,zX Tryd.prog 47 parts=(ye (fun i=>[some (0,1),some (1,1),some (2,38),some (40,1),some (41,1)][i]?.join) ((([b8 0#8,b8 0#8,i64 0,i64 0,i64 0,str ByteArray.empty]:List PV)++List.replicate 32 (b8 0#8)++([.sl true 1 [],.sl true 2 [],b8 0#8,b8 0#8]:List PV)).map .p) parts).map zG:=fun _=>zt (by kernel_rfl) zqe
theorem cells48:Tryd.prog.cellsOf 48=1:=by kernel_rfl
theorem zMJ:(Tryd.prog.info? 48).isSome=true:=by kernel_rfl
theorem zDS:Tryd.prog.bytesOf 48=8:=by kernel_rfl
theorem zMK:zg Tryd.prog 48=false:=by kernel_rfl
theorem zsX:isIface Tryd.prog 48=false:=by kernel_rfl
theorem zDT:zj Tryd.prog 48=some ([.s .nilFunc]):=by kernel_rfl
theorem zDU:zk Tryd.prog 48=true:=by kernel_rfl
theorem cells50:Tryd.prog.cellsOf 50=1:=by kernel_rfl
theorem zML:(Tryd.prog.info? 50).isSome=true:=by kernel_rfl
theorem zDV:Tryd.prog.bytesOf 50=8:=by kernel_rfl
theorem zMM:zg Tryd.prog 50=false:=by kernel_rfl
theorem zsY:isIface Tryd.prog 50=false:=by kernel_rfl
theorem zDW:zj Tryd.prog 50=some ([.s .nilFunc]):=by kernel_rfl
theorem zDX:zk Tryd.prog 50=true:=by kernel_rfl
theorem cells51:Tryd.prog.cellsOf 51=1:=by kernel_rfl
theorem zMN:(Tryd.prog.info? 51).isSome=true:=by kernel_rfl
theorem zDY:Tryd.prog.bytesOf 51=8:=by kernel_rfl
theorem zMO:zg Tryd.prog 51=false:=by kernel_rfl
theorem zsZ:isIface Tryd.prog 51=false:=by kernel_rfl
theorem zDZ:zj Tryd.prog 51=some ([.s .nilFunc]):=by kernel_rfl
theorem zD0:zk Tryd.prog 51=true:=by kernel_rfl
theorem zD1:Tryd.prog.cellsOf 52=1:=by kernel_rfl
theorem zMP:(Tryd.prog.info? 52).isSome=true:=by kernel_rfl
theorem zD2:Tryd.prog.bytesOf 52=8:=by kernel_rfl
theorem zMQ:zg Tryd.prog 52=false:=by kernel_rfl
theorem zs0:isIface Tryd.prog 52=false:=by kernel_rfl
theorem zD3:zj Tryd.prog 52=some ([.s .nilFunc]):=by kernel_rfl
theorem zD4:zk Tryd.prog 52=true:=by kernel_rfl
theorem zD5:Tryd.prog.cellsOf 54=1:=by kernel_rfl
theorem zMR:(Tryd.prog.info? 54).isSome=true:=by kernel_rfl
theorem zD6:Tryd.prog.bytesOf 54=8:=by kernel_rfl
theorem zMS:zg Tryd.prog 54=false:=by kernel_rfl
theorem zs1:isIface Tryd.prog 54=false:=by kernel_rfl
theorem zD7:zj Tryd.prog 54=some ([.s .nilFunc]):=by kernel_rfl
theorem zD8:zk Tryd.prog 54=true:=by kernel_rfl
theorem cells55:Tryd.prog.cellsOf 55=1:=by kernel_rfl
theorem zMT:(Tryd.prog.info? 55).isSome=true:=by kernel_rfl
theorem zD9:Tryd.prog.bytesOf 55=8:=by kernel_rfl
theorem zMU:zg Tryd.prog 55=false:=by kernel_rfl
theorem zs2:isIface Tryd.prog 55=false:=by kernel_rfl
theorem zEa:zj Tryd.prog 55=some ([.s .nilFunc]):=by kernel_rfl
theorem zEb:zk Tryd.prog 55=true:=by kernel_rfl
theorem zEc:Tryd.prog.cellsOf 56=1:=by kernel_rfl
theorem zMV:(Tryd.prog.info? 56).isSome=true:=by kernel_rfl
theorem zEd:Tryd.prog.bytesOf 56=8:=by kernel_rfl
theorem zMW:zg Tryd.prog 56=false:=by kernel_rfl
theorem zs3:isIface Tryd.prog 56=false:=by kernel_rfl
theorem zEe:zj Tryd.prog 56=some ([.s .nilFunc]):=by kernel_rfl
theorem zEf:zk Tryd.prog 56=true:=by kernel_rfl
theorem zEg:Tryd.prog.cellsOf 57=1:=by kernel_rfl
theorem zMX:(Tryd.prog.info? 57).isSome=true:=by kernel_rfl
theorem zEh:Tryd.prog.bytesOf 57=8:=by kernel_rfl
theorem zMY:zg Tryd.prog 57=false:=by kernel_rfl
theorem zs4:isIface Tryd.prog 57=false:=by kernel_rfl
theorem zEi:zj Tryd.prog 57=some ([.s .nilFunc]):=by kernel_rfl
theorem zEj:zk Tryd.prog 57=true:=by kernel_rfl
theorem cells59:Tryd.prog.cellsOf 59=1:=by kernel_rfl
theorem zMZ:(Tryd.prog.info? 59).isSome=true:=by kernel_rfl
theorem zEk:Tryd.prog.bytesOf 59=8:=by kernel_rfl
theorem zM0:zg Tryd.prog 59=false:=by kernel_rfl
theorem zs5:isIface Tryd.prog 59=false:=by kernel_rfl
theorem zEl:zj Tryd.prog 59=some ([.s .nilFunc]):=by kernel_rfl
theorem zEm:zk Tryd.prog 59=true:=by kernel_rfl
theorem cells60:Tryd.prog.cellsOf 60=1:=by kernel_rfl
theorem zM1:(Tryd.prog.info? 60).isSome=true:=by kernel_rfl
theorem zEn:Tryd.prog.bytesOf 60=8:=by kernel_rfl
theorem zM2:zg Tryd.prog 60=false:=by kernel_rfl
theorem zs6:isIface Tryd.prog 60=false:=by kernel_rfl
theorem zEo:zj Tryd.prog 60=some ([.s .nilFunc]):=by kernel_rfl
theorem zEp:zk Tryd.prog 60=true:=by kernel_rfl
theorem zqf:Tryd.prog.cellsOf 61=1:=by kernel_rfl
theorem zM3:(Tryd.prog.info? 61).isSome=true:=by kernel_rfl
theorem zEq:Tryd.prog.bytesOf 61=8:=by kernel_rfl
theorem zM4:zg Tryd.prog 61=false:=by kernel_rfl
theorem zEr:zY Tryd.prog 61=true:=by kernel_rfl
theorem zs7:isIface Tryd.prog 61=false:=by kernel_rfl
theorem zEs:zj Tryd.prog 61=some ([zw 0#64]):=by kernel_rfl
theorem zEt:zk Tryd.prog 61=true:=by kernel_rfl
theorem cells62:Tryd.prog.cellsOf 62=2:=by kernel_rfl
theorem zM5:(Tryd.prog.info? 62).isSome=true:=by kernel_rfl
theorem zEu:Tryd.prog.bytesOf 62=16:=by kernel_rfl
theorem zM6:zg Tryd.prog 62=true:=by kernel_rfl
theorem zs8:isIface Tryd.prog 62=false:=by kernel_rfl
theorem zqg:zj Tryd.prog 62=some ([zw 0#64,zw 0#64]):=by kernel_rfl
theorem zEv:zk Tryd.prog 62=true:=by kernel_rfl
theorem zEw : ∀ parts,zX Tryd.prog 62 parts=(ye (fun i=>[some (0,1),some (1,1)][i]?.join) ([.p (zw 0#64),.p (zw 0#64)]) parts).map zG:=fun _=>zt (by kernel_rfl) zqg
theorem ziU:Tryd.prog.cellsOf 63=2:=by kernel_rfl
theorem zM7:(Tryd.prog.info? 63).isSome=true:=by kernel_rfl
theorem zEx:Tryd.prog.bytesOf 63=16:=by kernel_rfl
theorem zvC:zg Tryd.prog 63=true:=by kernel_rfl
theorem zs9:isIface Tryd.prog 63=false:=by kernel_rfl
theorem zqh:zj Tryd.prog 63=some ([zw 0#64,zw 0#64]):=by kernel_rfl
theorem zEy:zk Tryd.prog 63=true:=by kernel_rfl
theorem zEz : ∀ parts,zX Tryd.prog 63 parts=(ye (fun i=>[some (0,1),some (1,1)][i]?.join) ([.p (zw 0#64),.p (zw 0#64)]) parts).map zG:=fun _=>zt (by kernel_rfl) zqh
theorem zEA:Tryd.prog.cellsOf 64=1:=by kernel_rfl
theorem zM8:(Tryd.prog.info? 64).isSome=true:=by kernel_rfl
theorem zEB:Tryd.prog.bytesOf 64=8:=by kernel_rfl
theorem zM9:zg Tryd.prog 64=false:=by kernel_rfl
theorem zta:isIface Tryd.prog 64=false:=by kernel_rfl
theorem zEC:zj Tryd.prog 64=some ([.s .nilFunc]):=by kernel_rfl
theorem zED:zk Tryd.prog 64=true:=by kernel_rfl
theorem zEE:Tryd.prog.cellsOf 65=1:=by kernel_rfl
theorem zNa:(Tryd.prog.info? 65).isSome=true:=by kernel_rfl
theorem zEF:Tryd.prog.bytesOf 65=8:=by kernel_rfl
theorem zNb:zg Tryd.prog 65=false:=by kernel_rfl
theorem ztb:isIface Tryd.prog 65=false:=by kernel_rfl
theorem zEG:zj Tryd.prog 65=some ([.s .nilFunc]):=by kernel_rfl
theorem zEH:zk Tryd.prog 65=true:=by kernel_rfl
theorem zEI:Tryd.prog.cellsOf 66=1:=by kernel_rfl
theorem zNc:(Tryd.prog.info? 66).isSome=true:=by kernel_rfl
theorem zEJ:Tryd.prog.bytesOf 66=8:=by kernel_rfl
theorem zNd:zg Tryd.prog 66=false:=by kernel_rfl
theorem ztc:isIface Tryd.prog 66=false:=by kernel_rfl
theorem zEK:zj Tryd.prog 66=some ([.s .nilFunc]):=by kernel_rfl
theorem zEL:zk Tryd.prog 66=true:=by kernel_rfl
theorem zEM:Tryd.prog.cellsOf 67=1:=by kernel_rfl
theorem zNe:(Tryd.prog.info? 67).isSome=true:=by kernel_rfl
theorem zEN:Tryd.prog.bytesOf 67=24:=by kernel_rfl
theorem zNf:zg Tryd.prog 67=false:=by kernel_rfl
theorem ztd:isIface Tryd.prog 67=false:=by kernel_rfl
theorem zEO:zj Tryd.prog 67=some ([.sl true 1 []]):=by kernel_rfl
theorem zEP:zk Tryd.prog 67=true:=by kernel_rfl
theorem cells68:Tryd.prog.cellsOf 68=1:=by kernel_rfl
theorem zNg:(Tryd.prog.info? 68).isSome=true:=by kernel_rfl
theorem zEQ:Tryd.prog.bytesOf 68=8:=by kernel_rfl
theorem zNh:zg Tryd.prog 68=false:=by kernel_rfl
theorem zte:isIface Tryd.prog 68=false:=by kernel_rfl
theorem zER:zj Tryd.prog 68=some ([.s .nilFunc]):=by kernel_rfl
theorem zES:zk Tryd.prog 68=true:=by kernel_rfl
theorem cells69:Tryd.prog.cellsOf 69=1:=by kernel_rfl
theorem zNi:(Tryd.prog.info? 69).isSome=true:=by kernel_rfl
theorem zET:Tryd.prog.bytesOf 69=8:=by kernel_rfl
theorem zNj:zg Tryd.prog 69=false:=by kernel_rfl
theorem ztf:isIface Tryd.prog 69=false:=by kernel_rfl
theorem zEU:zj Tryd.prog 69=some ([.s .nilFunc]):=by kernel_rfl
theorem zEV:zk Tryd.prog 69=true:=by kernel_rfl
theorem zEW:Tryd.prog.cellsOf 70=1:=by kernel_rfl
theorem zNk:(Tryd.prog.info? 70).isSome=true:=by kernel_rfl
theorem zEX:Tryd.prog.bytesOf 70=8:=by kernel_rfl
theorem zNl:zg Tryd.prog 70=false:=by kernel_rfl
theorem ztg:isIface Tryd.prog 70=false:=by kernel_rfl
theorem zEY:zj Tryd.prog 70=some ([.s .nilFunc]):=by kernel_rfl
theorem zEZ:zk Tryd.prog 70=true:=by kernel_rfl
theorem zE0:Tryd.prog.cellsOf 72=1:=by kernel_rfl
theorem zNm:(Tryd.prog.info? 72).isSome=true:=by kernel_rfl
theorem zE1:Tryd.prog.bytesOf 72=8:=by kernel_rfl
theorem zNn:zg Tryd.prog 72=false:=by kernel_rfl
theorem zth:isIface Tryd.prog 72=false:=by kernel_rfl
theorem zE2:zj Tryd.prog 72=some ([.s .nilFunc]):=by kernel_rfl
theorem zE3:zk Tryd.prog 72=true:=by kernel_rfl
theorem zE4:Tryd.prog.cellsOf 73=1:=by kernel_rfl
theorem zNo:(Tryd.prog.info? 73).isSome=true:=by kernel_rfl
theorem zE5:Tryd.prog.bytesOf 73=8:=by kernel_rfl
theorem zNp:zg Tryd.prog 73=false:=by kernel_rfl
theorem zti:isIface Tryd.prog 73=false:=by kernel_rfl
theorem zE6:zj Tryd.prog 73=some ([.s .nilFunc]):=by kernel_rfl
theorem zE7:zk Tryd.prog 73=true:=by kernel_rfl
theorem zE8:Tryd.prog.cellsOf 74=1:=by kernel_rfl
theorem zNq:(Tryd.prog.info? 74).isSome=true:=by kernel_rfl
theorem zE9:Tryd.prog.bytesOf 74=24:=by kernel_rfl
theorem zNr:zg Tryd.prog 74=false:=by kernel_rfl
theorem ztj:isIface Tryd.prog 74=false:=by kernel_rfl
theorem zFa:zj Tryd.prog 74=some ([.sl true 1 []]):=by kernel_rfl
theorem zFb:zk Tryd.prog 74=true:=by kernel_rfl
theorem zFc:Tryd.prog.cellsOf 75=1:=by kernel_rfl
theorem zNs:(Tryd.prog.info? 75).isSome=true:=by kernel_rfl
theorem zFd:Tryd.prog.bytesOf 75=8:=by kernel_rfl
theorem zNt:zg Tryd.prog 75=false:=by kernel_rfl
theorem ztk:isIface Tryd.prog 75=false:=by kernel_rfl
theorem zFe:zj Tryd.prog 75=some ([.s .nilFunc]):=by kernel_rfl
theorem zFf:zk Tryd.prog 75=true:=by kernel_rfl
theorem zFg:Tryd.prog.cellsOf 76=1:=by kernel_rfl
theorem zNu:(Tryd.prog.info? 76).isSome=true:=by kernel_rfl
theorem zFh:Tryd.prog.bytesOf 76=8:=by kernel_rfl
theorem zNv:zg Tryd.prog 76=false:=by kernel_rfl
theorem ztl:isIface Tryd.prog 76=false:=by kernel_rfl
theorem zFi:zj Tryd.prog 76=some ([.s .nilFunc]):=by kernel_rfl
theorem zFj:zk Tryd.prog 76=true:=by kernel_rfl
theorem zFk:Tryd.prog.cellsOf 77=1:=by kernel_rfl
theorem zNw:(Tryd.prog.info? 77).isSome=true:=by kernel_rfl
theorem zFl:Tryd.prog.bytesOf 77=8:=by kernel_rfl
theorem zNx:zg Tryd.prog 77=false:=by kernel_rfl
theorem ztm:isIface Tryd.prog 77=false:=by kernel_rfl
theorem zFm:zj Tryd.prog 77=some ([.s .nilFunc]):=by kernel_rfl
theorem zFn:zk Tryd.prog 77=true:=by kernel_rfl
theorem zFo:Tryd.prog.cellsOf 78=1:=by kernel_rfl
theorem zNy:(Tryd.prog.info? 78).isSome=true:=by kernel_rfl
theorem zFp:Tryd.prog.bytesOf 78=8:=by kernel_rfl
theorem zNz:zg Tryd.prog 78=false:=by kernel_rfl
theorem ztn:isIface Tryd.prog 78=false:=by kernel_rfl
theorem zFq:zj Tryd.prog 78=some ([.s .nilFunc]):=by kernel_rfl
theorem zFr:zk Tryd.prog 78=true:=by kernel_rfl
theorem zFs:Tryd.prog.cellsOf 79=1:=by kernel_rfl
theorem zNA:(Tryd.prog.info? 79).isSome=true:=by kernel_rfl
theorem zFt:Tryd.prog.bytesOf 79=8:=by kernel_rfl
theorem zNB:zg Tryd.prog 79=false:=by kernel_rfl
theorem zto:isIface Tryd.prog 79=false:=by kernel_rfl
theorem zFu:zj Tryd.prog 79=some ([.s (.pointer none)]):=by kernel_rfl
theorem zFv:zk Tryd.prog 79=true:=by kernel_rfl
theorem zFw:Tryd.prog.cellsOf 80=2:=by kernel_rfl
theorem zNC:(Tryd.prog.info? 80).isSome=true:=by kernel_rfl
theorem zFx:Tryd.prog.bytesOf 80=32:=by kernel_rfl
theorem zND:zg Tryd.prog 80=true:=by kernel_rfl
theorem ztp:isIface Tryd.prog 80=false:=by kernel_rfl
theorem zqi:zj Tryd.prog 80=some ([.sl true 1 [],bo false]):=by kernel_rfl
theorem zFy:zk Tryd.prog 80=true:=by kernel_rfl
theorem zFz : ∀ parts,zX Tryd.prog 80 parts=(ye (fun i=>[some (0,1),some (1,1)][i]?.join) ([.p (.sl true 1 []),.p (bo false)]) parts).map zG:=fun _=>zt (by kernel_rfl) zqi
theorem zFA:Tryd.prog.cellsOf 81=2:=by kernel_rfl
theorem zNE:(Tryd.prog.info? 81).isSome=true:=by kernel_rfl
theorem zFB:Tryd.prog.bytesOf 81=32:=by kernel_rfl
theorem zNF:zg Tryd.prog 81=true:=by kernel_rfl
theorem ztq:isIface Tryd.prog 81=false:=by kernel_rfl
theorem zqj:zj Tryd.prog 81=some ([.sl true 1 [],bo false]):=by kernel_rfl
theorem zFC:zk Tryd.prog 81=true:=by kernel_rfl
theorem zFD : ∀ parts,zX Tryd.prog 81 parts=(ye (fun i=>[some (0,1),some (1,1)][i]?.join) ([.p (.sl true 1 []),.p (bo false)]) parts).map zG:=fun _=>zt (by kernel_rfl) zqj
theorem zFE:Tryd.prog.cellsOf 82=1:=by kernel_rfl
theorem zNG:(Tryd.prog.info? 82).isSome=true:=by kernel_rfl
theorem zFF:Tryd.prog.bytesOf 82=8:=by kernel_rfl
theorem zNH:zg Tryd.prog 82=false:=by kernel_rfl
theorem ztr:isIface Tryd.prog 82=false:=by kernel_rfl
theorem zFG:zj Tryd.prog 82=some ([.s .nilFunc]):=by kernel_rfl
theorem zFH:zk Tryd.prog 82=true:=by kernel_rfl
theorem zFI:Tryd.prog.cellsOf 83=1:=by kernel_rfl
theorem zNI:(Tryd.prog.info? 83).isSome=true:=by kernel_rfl
theorem zFJ:Tryd.prog.bytesOf 83=8:=by kernel_rfl
theorem zNJ:zg Tryd.prog 83=false:=by kernel_rfl
theorem zts:isIface Tryd.prog 83=false:=by kernel_rfl
theorem zFK:zj Tryd.prog 83=some ([.s .nilFunc]):=by kernel_rfl
theorem zFL:zk Tryd.prog 83=true:=by kernel_rfl
theorem zFM:Tryd.prog.cellsOf 84=1:=by kernel_rfl
theorem zNK:(Tryd.prog.info? 84).isSome=true:=by kernel_rfl
theorem zFN:Tryd.prog.bytesOf 84=8:=by kernel_rfl
theorem zNL:zg Tryd.prog 84=false:=by kernel_rfl
theorem ztt:isIface Tryd.prog 84=false:=by kernel_rfl
theorem zFO:zj Tryd.prog 84=some ([.s .nilFunc]):=by kernel_rfl
theorem zFP:zk Tryd.prog 84=true:=by kernel_rfl
theorem cells85:Tryd.prog.cellsOf 85=1:=by kernel_rfl
theorem zNM:(Tryd.prog.info? 85).isSome=true:=by kernel_rfl
theorem zFQ:Tryd.prog.bytesOf 85=8:=by kernel_rfl
theorem zNN:zg Tryd.prog 85=false:=by kernel_rfl
theorem ztu:isIface Tryd.prog 85=false:=by kernel_rfl
theorem zFR:zj Tryd.prog 85=some ([.s .nilFunc]):=by kernel_rfl
theorem zFS:zk Tryd.prog 85=true:=by kernel_rfl
theorem cells86:Tryd.prog.cellsOf 86=1:=by kernel_rfl
theorem zNO:(Tryd.prog.info? 86).isSome=true:=by kernel_rfl
theorem zFT:Tryd.prog.bytesOf 86=8:=by kernel_rfl
theorem zNP:zg Tryd.prog 86=false:=by kernel_rfl
theorem ztv:isIface Tryd.prog 86=false:=by kernel_rfl
theorem zFU:zj Tryd.prog 86=some ([.s .nilFunc]):=by kernel_rfl
theorem zFV:zk Tryd.prog 86=true:=by kernel_rfl
theorem zFW:Tryd.prog.cellsOf 87=78:=by kernel_rfl
theorem zNQ:(Tryd.prog.info? 87).isSome=true:=by kernel_rfl
theorem zFX:Tryd.prog.bytesOf 87=224:=by kernel_rfl
theorem zNR:zg Tryd.prog 87=true:=by kernel_rfl
theorem ztw:isIface Tryd.prog 87=false:=by kernel_rfl
theorem zqk:zj Tryd.prog 87=some (([i64 0,i64 0,i64 0,str ByteArray.empty]:List PV)++List.replicate 32 (b8 0#8)++([i64 0,i64 0,i64 0,str ByteArray.empty]:List PV)++List.replicate 32 (b8 0#8)++([.sl true 1 [],.sl true 2 [],i64 0,i64 0,i64 0,i64 0]:List PV)):=by kernel_rfl
theorem zFY:zk Tryd.prog 87=true:=by kernel_rfl
theorem zFZ : ∀ parts,zX Tryd.prog 87 parts=(ye (fun i=>[some (0,1),some (1,1),some (2,1),some (3,1),some (4,32),some (36,38),some (74,1),some (75,3)][i]?.join) ((([i64 0,i64 0,i64 0,str ByteArray.empty]:List PV)++List.replicate 32 (b8 0#8)++([i64 0,i64 0,i64 0,str ByteArray.empty]:List PV)++List.replicate 32 (b8 0#8)++([.sl true 1 [],.sl true 2 [],i64 0,i64 0,i64 0,i64 0]:List PV)).map .p) parts).map zG:=fun _=>zt (by kernel_rfl) zqk
theorem zF0:Tryd.prog.cellsOf 88=1:=by kernel_rfl
theorem zNS:(Tryd.prog.info? 88).isSome=true:=by kernel_rfl
theorem zF1:Tryd.prog.bytesOf 88=8:=by kernel_rfl
theorem zNT:zg Tryd.prog 88=false:=by kernel_rfl
theorem ztx:isIface Tryd.prog 88=false:=by kernel_rfl
theorem zF2:zj Tryd.prog 88=some ([.s .nilFunc]):=by kernel_rfl
theorem zF3:zk Tryd.prog 88=true:=by kernel_rfl
theorem zF4:Tryd.prog.cellsOf 89=1:=by kernel_rfl
theorem zNU:(Tryd.prog.info? 89).isSome=true:=by kernel_rfl
theorem zF5:Tryd.prog.bytesOf 89=8:=by kernel_rfl
theorem zNV:zg Tryd.prog 89=false:=by kernel_rfl
theorem zty:isIface Tryd.prog 89=false:=by kernel_rfl
theorem zF6:zj Tryd.prog 89=some ([.s .nilFunc]):=by kernel_rfl
theorem zF7:zk Tryd.prog 89=true:=by kernel_rfl
theorem zF8:Tryd.prog.cellsOf 90=1:=by kernel_rfl
theorem zNW:(Tryd.prog.info? 90).isSome=true:=by kernel_rfl
theorem zF9:Tryd.prog.bytesOf 90=8:=by kernel_rfl
theorem zNX:zg Tryd.prog 90=false:=by kernel_rfl
theorem ztz:isIface Tryd.prog 90=false:=by kernel_rfl
theorem zGa:zj Tryd.prog 90=some ([.s .nilFunc]):=by kernel_rfl
theorem zGb:zk Tryd.prog 90=true:=by kernel_rfl
theorem zGc:Tryd.prog.cellsOf 91=1:=by kernel_rfl
theorem zNY:(Tryd.prog.info? 91).isSome=true:=by kernel_rfl
theorem zGd:Tryd.prog.bytesOf 91=8:=by kernel_rfl
theorem zNZ:zg Tryd.prog 91=false:=by kernel_rfl
theorem ztA:isIface Tryd.prog 91=false:=by kernel_rfl
theorem zGe:zj Tryd.prog 91=some ([.s .nilFunc]):=by kernel_rfl
theorem zGf:zk Tryd.prog 91=true:=by kernel_rfl
theorem zGg:Tryd.prog.cellsOf 92=1:=by kernel_rfl
theorem zN0:(Tryd.prog.info? 92).isSome=true:=by kernel_rfl
theorem zGh:Tryd.prog.bytesOf 92=8:=by kernel_rfl
theorem zN1:zg Tryd.prog 92=false:=by kernel_rfl
theorem ztB:isIface Tryd.prog 92=false:=by kernel_rfl
theorem zGi:zj Tryd.prog 92=some ([.s .nilFunc]):=by kernel_rfl
theorem zGj:zk Tryd.prog 92=true:=by kernel_rfl
theorem ziV:Tryd.prog.cellsOf 93=1:=by kernel_rfl
theorem zN2:(Tryd.prog.info? 93).isSome=true:=by kernel_rfl
theorem zGk:Tryd.prog.bytesOf 93=4:=by kernel_rfl
theorem zN3:zg Tryd.prog 93=false:=by kernel_rfl
theorem zGl:zY Tryd.prog 93=true:=by kernel_rfl
theorem ztC:isIface Tryd.prog 93=false:=by kernel_rfl
theorem zGm:zj Tryd.prog 93=some ([zC 0#32]):=by kernel_rfl
theorem zGn:zk Tryd.prog 93=true:=by kernel_rfl
theorem zql:Tryd.prog.cellsOf 94=8:=by kernel_rfl
theorem zN4:(Tryd.prog.info? 94).isSome=true:=by kernel_rfl
theorem zGo:Tryd.prog.bytesOf 94=32:=by kernel_rfl
theorem zN5:zg Tryd.prog 94=true:=by kernel_rfl
theorem zGp:zcz Tryd.prog 94 .u32 8=true:=by kernel_rfl
theorem ztD:isIface Tryd.prog 94=false:=by kernel_rfl
theorem zqm:zj Tryd.prog 94=some (List.replicate 8 (zC 0#32)):=by kernel_rfl
theorem zGq:zk Tryd.prog 94=true:=by kernel_rfl
theorem zGr : ∀ parts,zX Tryd.prog 94 parts=(ye (fun i=>some (i*1,1)) ((List.replicate 8 (zC 0#32)).map .p) parts).map zG:=fun _=>zaW (by kernel_rfl) zqm
theorem zGs:Tryd.prog.cellsOf 95=1:=by kernel_rfl
theorem zN6:(Tryd.prog.info? 95).isSome=true:=by kernel_rfl
theorem zGt:Tryd.prog.bytesOf 95=8:=by kernel_rfl
theorem zN7:zg Tryd.prog 95=false:=by kernel_rfl
theorem ztE:isIface Tryd.prog 95=false:=by kernel_rfl
theorem zGu:zj Tryd.prog 95=some ([.s .nilFunc]):=by kernel_rfl
theorem zGv:zk Tryd.prog 95=true:=by kernel_rfl
theorem zGw:Tryd.prog.cellsOf 96=1:=by kernel_rfl
theorem zN8:(Tryd.prog.info? 96).isSome=true:=by kernel_rfl
theorem zGx:Tryd.prog.bytesOf 96=8:=by kernel_rfl
theorem zN9:zg Tryd.prog 96=false:=by kernel_rfl
theorem ztF:isIface Tryd.prog 96=false:=by kernel_rfl
theorem zGy:zj Tryd.prog 96=some ([.s .nilFunc]):=by kernel_rfl
theorem zGz:zk Tryd.prog 96=true:=by kernel_rfl
theorem zGA:Tryd.prog.cellsOf 97=1:=by kernel_rfl
theorem zOa:(Tryd.prog.info? 97).isSome=true:=by kernel_rfl
theorem zGB:Tryd.prog.bytesOf 97=8:=by kernel_rfl
theorem zOb:zg Tryd.prog 97=false:=by kernel_rfl
theorem ztG:isIface Tryd.prog 97=false:=by kernel_rfl
theorem zGC:zj Tryd.prog 97=some ([.s .nilFunc]):=by kernel_rfl
theorem zGD:zk Tryd.prog 97=true:=by kernel_rfl
theorem zGE:Tryd.prog.cellsOf 98=1:=by kernel_rfl
theorem zOc:(Tryd.prog.info? 98).isSome=true:=by kernel_rfl
theorem zGF:Tryd.prog.bytesOf 98=8:=by kernel_rfl
theorem zOd:zg Tryd.prog 98=false:=by kernel_rfl
theorem ztH:isIface Tryd.prog 98=false:=by kernel_rfl
theorem zGG:zj Tryd.prog 98=some ([.s .nilFunc]):=by kernel_rfl
theorem zGH:zk Tryd.prog 98=true:=by kernel_rfl
theorem zGI:Tryd.prog.cellsOf 99=1:=by kernel_rfl
theorem zOe:(Tryd.prog.info? 99).isSome=true:=by kernel_rfl
theorem zGJ:Tryd.prog.bytesOf 99=8:=by kernel_rfl
theorem zOf:zg Tryd.prog 99=false:=by kernel_rfl
theorem ztI:isIface Tryd.prog 99=false:=by kernel_rfl
theorem zGK:zj Tryd.prog 99=some ([.s .nilFunc]):=by kernel_rfl
theorem zGL:zk Tryd.prog 99=true:=by kernel_rfl
theorem zvD:Tryd.prog.cellsOf 100=1:=by kernel_rfl
theorem zGM:(Tryd.prog.info? 100).isSome=true:=by kernel_rfl
theorem zvE:Tryd.prog.bytesOf 100=8:=by kernel_rfl
theorem zGN:zg Tryd.prog 100=false:=by kernel_rfl
theorem zog:isIface Tryd.prog 100=false:=by kernel_rfl
theorem zvF:zj Tryd.prog 100=some ([.s .nilFunc]):=by kernel_rfl
theorem zvG:zk Tryd.prog 100=true:=by kernel_rfl
theorem zvH:Tryd.prog.cellsOf 101=1:=by kernel_rfl
theorem zGO:(Tryd.prog.info? 101).isSome=true:=by kernel_rfl
theorem zvI:Tryd.prog.bytesOf 101=8:=by kernel_rfl
theorem zGP:zg Tryd.prog 101=false:=by kernel_rfl
theorem zoh:isIface Tryd.prog 101=false:=by kernel_rfl
theorem zvJ:zj Tryd.prog 101=some ([.s .nilFunc]):=by kernel_rfl
theorem zvK:zk Tryd.prog 101=true:=by kernel_rfl
theorem zvL:Tryd.prog.cellsOf 102=1:=by kernel_rfl
theorem zGQ:(Tryd.prog.info? 102).isSome=true:=by kernel_rfl
theorem zvM:Tryd.prog.bytesOf 102=8:=by kernel_rfl
theorem zGR:zg Tryd.prog 102=false:=by kernel_rfl
theorem zoi:isIface Tryd.prog 102=false:=by kernel_rfl
theorem zvN:zj Tryd.prog 102=some ([.s .nilFunc]):=by kernel_rfl
theorem zvO:zk Tryd.prog 102=true:=by kernel_rfl
theorem zvP:Tryd.prog.cellsOf 103=1:=by kernel_rfl
theorem zGS:(Tryd.prog.info? 103).isSome=true:=by kernel_rfl
theorem zvQ:Tryd.prog.bytesOf 103=8:=by kernel_rfl
theorem zGT:zg Tryd.prog 103=false:=by kernel_rfl
theorem zvR:zY Tryd.prog 103=true:=by kernel_rfl
theorem zoj:isIface Tryd.prog 103=false:=by kernel_rfl
theorem zvS:zj Tryd.prog 103=some ([zw 0#64]):=by kernel_rfl
theorem zvT:zk Tryd.prog 103=true:=by kernel_rfl
theorem zvU:Tryd.prog.cellsOf 104=1:=by kernel_rfl
theorem zGU:(Tryd.prog.info? 104).isSome=true:=by kernel_rfl
theorem zvV:Tryd.prog.bytesOf 104=8:=by kernel_rfl
theorem zGV:zg Tryd.prog 104=false:=by kernel_rfl
theorem zok:isIface Tryd.prog 104=false:=by kernel_rfl
theorem zvW:zj Tryd.prog 104=some ([.s .nilFunc]):=by kernel_rfl
theorem zvX:zk Tryd.prog 104=true:=by kernel_rfl
theorem zvY:Tryd.prog.cellsOf 105=1:=by kernel_rfl
theorem zGW:(Tryd.prog.info? 105).isSome=true:=by kernel_rfl
theorem zvZ:Tryd.prog.bytesOf 105=8:=by kernel_rfl
theorem zGX:zg Tryd.prog 105=false:=by kernel_rfl
theorem zol:isIface Tryd.prog 105=false:=by kernel_rfl
theorem zv0:zj Tryd.prog 105=some ([.s .nilFunc]):=by kernel_rfl
theorem zv1:zk Tryd.prog 105=true:=by kernel_rfl
theorem zv2:Tryd.prog.cellsOf 106=1:=by kernel_rfl
theorem zGY:(Tryd.prog.info? 106).isSome=true:=by kernel_rfl
theorem zv3:Tryd.prog.bytesOf 106=8:=by kernel_rfl
theorem zGZ:zg Tryd.prog 106=false:=by kernel_rfl
theorem zom:isIface Tryd.prog 106=false:=by kernel_rfl
theorem zv4:zj Tryd.prog 106=some ([.s .nilFunc]):=by kernel_rfl
theorem zv5:zk Tryd.prog 106=true:=by kernel_rfl
theorem zv6:Tryd.prog.cellsOf 107=1:=by kernel_rfl
theorem zG0:(Tryd.prog.info? 107).isSome=true:=by kernel_rfl
theorem zv7:Tryd.prog.bytesOf 107=8:=by kernel_rfl
theorem zG1:zg Tryd.prog 107=false:=by kernel_rfl
theorem zon:isIface Tryd.prog 107=false:=by kernel_rfl
theorem zv8:zj Tryd.prog 107=some ([.s .nilFunc]):=by kernel_rfl
theorem zv9:zk Tryd.prog 107=true:=by kernel_rfl
theorem zwa:Tryd.prog.cellsOf 108=1:=by kernel_rfl
theorem zG2:(Tryd.prog.info? 108).isSome=true:=by kernel_rfl
theorem zwb:Tryd.prog.bytesOf 108=8:=by kernel_rfl
theorem zG3:zg Tryd.prog 108=false:=by kernel_rfl
theorem zoo:isIface Tryd.prog 108=false:=by kernel_rfl
theorem zwc:zj Tryd.prog 108=some ([.s .nilFunc]):=by kernel_rfl
theorem zwd:zk Tryd.prog 108=true:=by kernel_rfl
theorem zlm:Tryd.prog.cellsOf 109=1:=by kernel_rfl
theorem zG4:(Tryd.prog.info? 109).isSome=true:=by kernel_rfl
theorem zwe:Tryd.prog.bytesOf 109=8:=by kernel_rfl
theorem zG5:zg Tryd.prog 109=false:=by kernel_rfl
theorem zop:isIface Tryd.prog 109=false:=by kernel_rfl
theorem zwf:zj Tryd.prog 109=some ([.s .nilFunc]):=by kernel_rfl
theorem zwg:zk Tryd.prog 109=true:=by kernel_rfl
theorem zwh:Tryd.prog.cellsOf 110=3:=by kernel_rfl
theorem zG6:(Tryd.prog.info? 110).isSome=true:=by kernel_rfl
theorem zwi:Tryd.prog.bytesOf 110=24:=by kernel_rfl
theorem zG7:zg Tryd.prog 110=true:=by kernel_rfl
theorem zoq:isIface Tryd.prog 110=false:=by kernel_rfl
theorem zln:zj Tryd.prog 110=some ([i64 0,i64 0,.s .nilFunc]):=by kernel_rfl
theorem zwj:zk Tryd.prog 110=true:=by kernel_rfl
theorem zwk : ∀ parts,zX Tryd.prog 110 parts=(ye (fun i=>[some (0,1),some (1,1),some (2,1)][i]?.join) ([.p (i64 0),.p (i64 0),.p (.s .nilFunc)]) parts).map zG:=fun _=>zt (by kernel_rfl) zln
theorem zgk:Tryd.prog.cellsOf 111=3:=by kernel_rfl
theorem zG8:(Tryd.prog.info? 111).isSome=true:=by kernel_rfl
theorem zwl:Tryd.prog.bytesOf 111=24:=by kernel_rfl
theorem zG9:zg Tryd.prog 111=true:=by kernel_rfl
theorem zor:isIface Tryd.prog 111=false:=by kernel_rfl
theorem zlo:zj Tryd.prog 111=some ([i64 0,i64 0,.s .nilFunc]):=by kernel_rfl
theorem zwm:zk Tryd.prog 111=true:=by kernel_rfl
theorem zwn : ∀ parts,zX Tryd.prog 111 parts=(ye (fun i=>[some (0,1),some (1,1),some (2,1)][i]?.join) ([.p (i64 0),.p (i64 0),.p (.s .nilFunc)]) parts).map zG:=fun _=>zt (by kernel_rfl) zlo
theorem zwo:Tryd.prog.cellsOf 112=1:=by kernel_rfl
theorem zHa:(Tryd.prog.info? 112).isSome=true:=by kernel_rfl
theorem zwp:Tryd.prog.bytesOf 112=8:=by kernel_rfl
theorem zHb:zg Tryd.prog 112=false:=by kernel_rfl
theorem zos:isIface Tryd.prog 112=false:=by kernel_rfl
theorem zwq:zj Tryd.prog 112=some ([.s (.map none)]):=by kernel_rfl
theorem zwr:zk Tryd.prog 112=true:=by kernel_rfl
theorem zws:Tryd.prog.cellsOf 113=1:=by kernel_rfl
theorem zHc:(Tryd.prog.info? 113).isSome=true:=by kernel_rfl
theorem zwt:Tryd.prog.bytesOf 113=8:=by kernel_rfl
theorem zHd:zg Tryd.prog 113=false:=by kernel_rfl
theorem zot:isIface Tryd.prog 113=false:=by kernel_rfl
theorem zwu:zj Tryd.prog 113=some ([.s .nilFunc]):=by kernel_rfl
theorem zwv:zk Tryd.prog 113=true:=by kernel_rfl
theorem zww:Tryd.prog.cellsOf 114=1:=by kernel_rfl
theorem zHe:(Tryd.prog.info? 114).isSome=true:=by kernel_rfl
theorem zwx:Tryd.prog.bytesOf 114=8:=by kernel_rfl
theorem zHf:zg Tryd.prog 114=false:=by kernel_rfl
theorem zou:isIface Tryd.prog 114=false:=by kernel_rfl
theorem zwy:zj Tryd.prog 114=some ([.s .nilFunc]):=by kernel_rfl
theorem zwz:zk Tryd.prog 114=true:=by kernel_rfl
theorem zwA:Tryd.prog.cellsOf 115=8:=by kernel_rfl
theorem zHg:(Tryd.prog.info? 115).isSome=true:=by kernel_rfl
theorem zwB:Tryd.prog.bytesOf 115=32:=by kernel_rfl
theorem zHh:zg Tryd.prog 115=true:=by kernel_rfl
theorem zwC:zcz Tryd.prog 115 .u32 8=true:=by kernel_rfl
theorem zov:isIface Tryd.prog 115=false:=by kernel_rfl
theorem zlp:zj Tryd.prog 115=some (List.replicate 8 (zC 0#32)):=by kernel_rfl
theorem zwD:zk Tryd.prog 115=true:=by kernel_rfl
theorem zwE : ∀ parts,zX Tryd.prog 115 parts=(ye (fun i=>some (i*1,1)) ((List.replicate 8 (zC 0#32)).map .p) parts).map zG:=fun _=>zaW (by kernel_rfl) zlp
theorem zwF:Tryd.prog.cellsOf 116=1:=by kernel_rfl
theorem zHi:(Tryd.prog.info? 116).isSome=true:=by kernel_rfl
theorem zwG:Tryd.prog.bytesOf 116=8:=by kernel_rfl
theorem zHj:zg Tryd.prog 116=false:=by kernel_rfl
theorem zow:isIface Tryd.prog 116=false:=by kernel_rfl
theorem zwH:zj Tryd.prog 116=some ([.s .nilFunc]):=by kernel_rfl
theorem zwI:zk Tryd.prog 116=true:=by kernel_rfl
theorem zwJ:Tryd.prog.cellsOf 117=1:=by kernel_rfl
theorem zHk:(Tryd.prog.info? 117).isSome=true:=by kernel_rfl
theorem zwK:Tryd.prog.bytesOf 117=8:=by kernel_rfl
theorem zHl:zg Tryd.prog 117=false:=by kernel_rfl
theorem zox:isIface Tryd.prog 117=false:=by kernel_rfl
theorem zwL:zj Tryd.prog 117=some ([.s .nilFunc]):=by kernel_rfl
theorem zwM:zk Tryd.prog 117=true:=by kernel_rfl
theorem zwN:Tryd.prog.cellsOf 118=1:=by kernel_rfl
theorem zHm:(Tryd.prog.info? 118).isSome=true:=by kernel_rfl
theorem zwO:Tryd.prog.bytesOf 118=8:=by kernel_rfl
theorem zHn:zg Tryd.prog 118=false:=by kernel_rfl
theorem zoy:isIface Tryd.prog 118=false:=by kernel_rfl
theorem zwP:zj Tryd.prog 118=some ([.s (.pointer none)]):=by kernel_rfl
theorem zwQ:zk Tryd.prog 118=true:=by kernel_rfl
theorem zwR:Tryd.prog.cellsOf 120=1:=by kernel_rfl
theorem zHo:(Tryd.prog.info? 120).isSome=true:=by kernel_rfl
theorem zwS:Tryd.prog.bytesOf 120=8:=by kernel_rfl
theorem zHp:zg Tryd.prog 120=false:=by kernel_rfl
theorem zoz:isIface Tryd.prog 120=false:=by kernel_rfl
theorem zwT:zj Tryd.prog 120=some ([.s (.map none)]):=by kernel_rfl
theorem zwU:zk Tryd.prog 120=true:=by kernel_rfl
theorem zlq:Tryd.prog.cellsOf 121=64:=by kernel_rfl
theorem zHq:(Tryd.prog.info? 121).isSome=true:=by kernel_rfl
theorem zwV:Tryd.prog.bytesOf 121=256:=by kernel_rfl
theorem zHr:zg Tryd.prog 121=true:=by kernel_rfl
theorem zwW:zcz Tryd.prog 121 .u32 64=true:=by kernel_rfl
theorem zoA:isIface Tryd.prog 121=false:=by kernel_rfl
theorem zlr:zj Tryd.prog 121=some (List.replicate 64 (zC 0#32)):=by kernel_rfl
theorem zwX:zk Tryd.prog 121=true:=by kernel_rfl
theorem zwY : ∀ parts,zX Tryd.prog 121 parts=(ye (fun i=>some (i*1,1)) ((List.replicate 64 (zC 0#32)).map .p) parts).map zG:=fun _=>zaW (by kernel_rfl) zlr
theorem zwZ:Tryd.prog.cellsOf 122=1:=by kernel_rfl
theorem zHs:(Tryd.prog.info? 122).isSome=true:=by kernel_rfl
theorem zw0:Tryd.prog.bytesOf 122=8:=by kernel_rfl
theorem zHt:zg Tryd.prog 122=false:=by kernel_rfl
theorem zoB:isIface Tryd.prog 122=false:=by kernel_rfl
theorem zw1:zj Tryd.prog 122=some ([.s .nilFunc]):=by kernel_rfl
theorem zw2:zk Tryd.prog 122=true:=by kernel_rfl
theorem zw3:Tryd.prog.cellsOf 123=1:=by kernel_rfl
theorem zHu:(Tryd.prog.info? 123).isSome=true:=by kernel_rfl
theorem zw4:Tryd.prog.bytesOf 123=8:=by kernel_rfl
theorem zHv:zg Tryd.prog 123=false:=by kernel_rfl
theorem zoC:isIface Tryd.prog 123=false:=by kernel_rfl
theorem zw5:zj Tryd.prog 123=some ([.s .nilFunc]):=by kernel_rfl
theorem zw6:zk Tryd.prog 123=true:=by kernel_rfl
theorem zw7:Tryd.prog.cellsOf 124=1:=by kernel_rfl
theorem zHw:(Tryd.prog.info? 124).isSome=true:=by kernel_rfl
theorem zw8:Tryd.prog.bytesOf 124=8:=by kernel_rfl
theorem zHx:zg Tryd.prog 124=false:=by kernel_rfl
theorem zoD:isIface Tryd.prog 124=false:=by kernel_rfl
theorem zw9:zj Tryd.prog 124=some ([.s .nilFunc]):=by kernel_rfl
theorem zxa:zk Tryd.prog 124=true:=by kernel_rfl
theorem zxb:Tryd.prog.cellsOf 125=1:=by kernel_rfl
theorem zHy:(Tryd.prog.info? 125).isSome=true:=by kernel_rfl
theorem zxc:Tryd.prog.bytesOf 125=8:=by kernel_rfl
theorem zHz:zg Tryd.prog 125=false:=by kernel_rfl
theorem zoE:isIface Tryd.prog 125=false:=by kernel_rfl
theorem zxd:zj Tryd.prog 125=some ([.s .nilFunc]):=by kernel_rfl
theorem zxe:zk Tryd.prog 125=true:=by kernel_rfl
theorem zxf:Tryd.prog.cellsOf 126=1:=by kernel_rfl
theorem zHA:(Tryd.prog.info? 126).isSome=true:=by kernel_rfl
theorem zxg:Tryd.prog.bytesOf 126=8:=by kernel_rfl
theorem zHB:zg Tryd.prog 126=false:=by kernel_rfl
theorem zoF:isIface Tryd.prog 126=false:=by kernel_rfl
theorem zxh:zj Tryd.prog 126=some ([.s .nilFunc]):=by kernel_rfl
theorem zxi:zk Tryd.prog 126=true:=by kernel_rfl
theorem zxj:Tryd.prog.cellsOf 127=1:=by kernel_rfl
theorem zHC:(Tryd.prog.info? 127).isSome=true:=by kernel_rfl
theorem zxk:Tryd.prog.bytesOf 127=8:=by kernel_rfl
theorem zHD:zg Tryd.prog 127=false:=by kernel_rfl
theorem zoG:isIface Tryd.prog 127=false:=by kernel_rfl
theorem zxl:zj Tryd.prog 127=some ([.s .nilFunc]):=by kernel_rfl
theorem zxm:zk Tryd.prog 127=true:=by kernel_rfl
theorem zxn:Tryd.prog.cellsOf 128=1:=by kernel_rfl
theorem zHE:(Tryd.prog.info? 128).isSome=true:=by kernel_rfl
theorem zxo:Tryd.prog.bytesOf 128=8:=by kernel_rfl
theorem zHF:zg Tryd.prog 128=false:=by kernel_rfl
theorem zoH:isIface Tryd.prog 128=false:=by kernel_rfl
theorem zxp:zj Tryd.prog 128=some ([.s .nilFunc]):=by kernel_rfl
theorem zxq:zk Tryd.prog 128=true:=by kernel_rfl
theorem zxr:Tryd.prog.cellsOf 129=1:=by kernel_rfl
theorem zHG:(Tryd.prog.info? 129).isSome=true:=by kernel_rfl
theorem zxs:Tryd.prog.bytesOf 129=8:=by kernel_rfl
theorem zHH:zg Tryd.prog 129=false:=by kernel_rfl
theorem zoI:isIface Tryd.prog 129=false:=by kernel_rfl
theorem zxt:zj Tryd.prog 129=some ([.s (.pointer none)]):=by kernel_rfl
theorem zxu:zk Tryd.prog 129=true:=by kernel_rfl
theorem zxv:Tryd.prog.cellsOf 130=1:=by kernel_rfl
theorem zHI:(Tryd.prog.info? 130).isSome=true:=by kernel_rfl
theorem zxw:Tryd.prog.bytesOf 130=24:=by kernel_rfl
theorem zHJ:zg Tryd.prog 130=false:=by kernel_rfl
theorem zoJ:isIface Tryd.prog 130=false:=by kernel_rfl
theorem zxx:zj Tryd.prog 130=some ([.sl true 1 []]):=by kernel_rfl
theorem zxy:zk Tryd.prog 130=true:=by kernel_rfl
theorem zxz:Tryd.prog.cellsOf 131=1:=by kernel_rfl
theorem zHK:(Tryd.prog.info? 131).isSome=true:=by kernel_rfl
theorem zxA:Tryd.prog.bytesOf 131=8:=by kernel_rfl
theorem zHL:zg Tryd.prog 131=false:=by kernel_rfl
theorem zoK:isIface Tryd.prog 131=false:=by kernel_rfl
theorem zxB:zj Tryd.prog 131=some ([.s .nilFunc]):=by kernel_rfl
theorem zxC:zk Tryd.prog 131=true:=by kernel_rfl
theorem zxD:Tryd.prog.cellsOf 132=1:=by kernel_rfl
theorem zHM:(Tryd.prog.info? 132).isSome=true:=by kernel_rfl
theorem zxE:Tryd.prog.bytesOf 132=8:=by kernel_rfl
theorem zHN:zg Tryd.prog 132=false:=by kernel_rfl
theorem zoL:isIface Tryd.prog 132=false:=by kernel_rfl
theorem zxF:zj Tryd.prog 132=some ([.s .nilFunc]):=by kernel_rfl
theorem zxG:zk Tryd.prog 132=true:=by kernel_rfl
theorem zxH:Tryd.prog.cellsOf 133=1:=by kernel_rfl
theorem zHO:(Tryd.prog.info? 133).isSome=true:=by kernel_rfl
theorem zxI:Tryd.prog.bytesOf 133=8:=by kernel_rfl
theorem zHP:zg Tryd.prog 133=false:=by kernel_rfl
theorem zoM:isIface Tryd.prog 133=false:=by kernel_rfl
theorem zxJ:zj Tryd.prog 133=some ([.s .nilFunc]):=by kernel_rfl
theorem zxK:zk Tryd.prog 133=true:=by kernel_rfl
theorem zxL:Tryd.prog.cellsOf 134=4:=by kernel_rfl
theorem zHQ:(Tryd.prog.info? 134).isSome=true:=by kernel_rfl
theorem zxM:Tryd.prog.bytesOf 134=40:=by kernel_rfl
theorem zHR:zg Tryd.prog 134=true:=by kernel_rfl
theorem zoN:isIface Tryd.prog 134=false:=by kernel_rfl
theorem zls:zj Tryd.prog 134=some ([.s (.pointer none),.s (.pointer none),.s (.pointer none),str ByteArray.empty]):=by kernel_rfl
theorem zxN:zk Tryd.prog 134=true:=by kernel_rfl
theorem zxO : ∀ parts,zX Tryd.prog 134 parts=(ye (fun i=>[some (0,1),some (1,1),some (2,1),some (3,1)][i]?.join) ([.p (.s (.pointer none)),.p (.s (.pointer none)),.p (.s (.pointer none)),.p (str ByteArray.empty)]) parts).map zG:=fun _=>zt (by kernel_rfl) zls
theorem zxP:Tryd.prog.cellsOf 135=4:=by kernel_rfl
theorem zHS:(Tryd.prog.info? 135).isSome=true:=by kernel_rfl
theorem zxQ:Tryd.prog.bytesOf 135=40:=by kernel_rfl
theorem zHT:zg Tryd.prog 135=true:=by kernel_rfl
theorem zoO:isIface Tryd.prog 135=false:=by kernel_rfl
theorem zlt:zj Tryd.prog 135=some ([.s (.pointer none),.s (.pointer none),.s (.pointer none),str ByteArray.empty]):=by kernel_rfl
theorem zxR:zk Tryd.prog 135=true:=by kernel_rfl
theorem zxS : ∀ parts,zX Tryd.prog 135 parts=(ye (fun i=>[some (0,1),some (1,1),some (2,1),some (3,1)][i]?.join) ([.p (.s (.pointer none)),.p (.s (.pointer none)),.p (.s (.pointer none)),.p (str ByteArray.empty)]) parts).map zG:=fun _=>zt (by kernel_rfl) zlt
theorem zxT:Tryd.prog.cellsOf 136=0:=by kernel_rfl
theorem zHU:(Tryd.prog.info? 136).isSome=true:=by kernel_rfl
theorem zxU:Tryd.prog.bytesOf 136=0:=by kernel_rfl
theorem zHV:zg Tryd.prog 136=true:=by kernel_rfl
theorem zoP:isIface Tryd.prog 136=false:=by kernel_rfl
theorem zlu:zj Tryd.prog 136=some ([]):=by kernel_rfl
theorem zxV:zk Tryd.prog 136=true:=by kernel_rfl
theorem zxW : ∀ parts,zX Tryd.prog 136 parts=(ye (fun i=>some (i*1,1)) ([]) parts).map zG:=fun _=>zaW (by kernel_rfl) zlu
theorem zxX:Tryd.prog.cellsOf 137=0:=by kernel_rfl
theorem zHW:(Tryd.prog.info? 137).isSome=true:=by kernel_rfl
theorem zxY:Tryd.prog.bytesOf 137=0:=by kernel_rfl
theorem zHX:zg Tryd.prog 137=true:=by kernel_rfl
theorem zoQ:isIface Tryd.prog 137=false:=by kernel_rfl
theorem zlv:zj Tryd.prog 137=some ([]):=by kernel_rfl
theorem zxZ:zk Tryd.prog 137=true:=by kernel_rfl
theorem zx0 : ∀ parts,zX Tryd.prog 137 parts=(ye (fun i=>[some (0,0)][i]?.join) ([]) parts).map zG:=fun _=>zt (by kernel_rfl) zlv
theorem zx1:Tryd.prog.cellsOf 138=0:=by kernel_rfl
theorem zHY:(Tryd.prog.info? 138).isSome=true:=by kernel_rfl
theorem zx2:Tryd.prog.bytesOf 138=0:=by kernel_rfl
theorem zHZ:zg Tryd.prog 138=true:=by kernel_rfl
theorem zoR:isIface Tryd.prog 138=false:=by kernel_rfl
theorem zlw:zj Tryd.prog 138=some ([]):=by kernel_rfl
theorem zx3:zk Tryd.prog 138=true:=by kernel_rfl
theorem zx4 : ∀ parts,zX Tryd.prog 138 parts=(ye (fun i=>[some (0,0)][i]?.join) ([]) parts).map zG:=fun _=>zt (by kernel_rfl) zlw
theorem zx5:Tryd.prog.cellsOf 139=1:=by kernel_rfl
theorem zH0:(Tryd.prog.info? 139).isSome=true:=by kernel_rfl
theorem zx6:Tryd.prog.bytesOf 139=8:=by kernel_rfl
theorem zH1:zg Tryd.prog 139=false:=by kernel_rfl
theorem zoS:isIface Tryd.prog 139=false:=by kernel_rfl
theorem zx7:zj Tryd.prog 139=some ([.s .nilFunc]):=by kernel_rfl
theorem zx8:zk Tryd.prog 139=true:=by kernel_rfl
theorem zx9:Tryd.prog.cellsOf 140=1:=by kernel_rfl
theorem zH2:(Tryd.prog.info? 140).isSome=true:=by kernel_rfl
theorem zya:Tryd.prog.bytesOf 140=1:=by kernel_rfl
theorem zH3:zg Tryd.prog 140=false:=by kernel_rfl
theorem zyb:zY Tryd.prog 140=true:=by kernel_rfl
theorem zoT:isIface Tryd.prog 140=false:=by kernel_rfl
theorem zyc:zj Tryd.prog 140=some ([b8 0#8]):=by kernel_rfl
theorem zyd:zk Tryd.prog 140=true:=by kernel_rfl
theorem zye:Tryd.prog.cellsOf 141=1:=by kernel_rfl
theorem zH4:(Tryd.prog.info? 141).isSome=true:=by kernel_rfl
theorem zyf:Tryd.prog.bytesOf 141=1:=by kernel_rfl
theorem zH5:zg Tryd.prog 141=false:=by kernel_rfl
theorem zyg:zY Tryd.prog 141=true:=by kernel_rfl
theorem zoU:isIface Tryd.prog 141=false:=by kernel_rfl
theorem zyh:zj Tryd.prog 141=some ([b8 0#8]):=by kernel_rfl
theorem zyi:zk Tryd.prog 141=true:=by kernel_rfl
theorem zyj:Tryd.prog.cellsOf 142=1:=by kernel_rfl
theorem zH6:(Tryd.prog.info? 142).isSome=true:=by kernel_rfl
theorem zyk:Tryd.prog.bytesOf 142=8:=by kernel_rfl
theorem zH7:zg Tryd.prog 142=false:=by kernel_rfl
theorem zoV:isIface Tryd.prog 142=false:=by kernel_rfl
theorem zyl:zj Tryd.prog 142=some ([.s .nilFunc]):=by kernel_rfl
theorem zym:zk Tryd.prog 142=true:=by kernel_rfl
theorem zyn:Tryd.prog.cellsOf 143=1:=by kernel_rfl
theorem zH8:(Tryd.prog.info? 143).isSome=true:=by kernel_rfl
theorem zyo:Tryd.prog.bytesOf 143=8:=by kernel_rfl
theorem zH9:zg Tryd.prog 143=false:=by kernel_rfl
theorem zoW:isIface Tryd.prog 143=false:=by kernel_rfl
theorem zyp:zj Tryd.prog 143=some ([.s (.pointer none)]):=by kernel_rfl
theorem zyq:zk Tryd.prog 143=true:=by kernel_rfl
theorem zyr:Tryd.prog.cellsOf 144=1:=by kernel_rfl
theorem zIa:(Tryd.prog.info? 144).isSome=true:=by kernel_rfl
theorem zys:Tryd.prog.bytesOf 144=4:=by kernel_rfl
theorem zIb:zg Tryd.prog 144=false:=by kernel_rfl
theorem zyt:zY Tryd.prog 144=true:=by kernel_rfl
theorem zoX:isIface Tryd.prog 144=false:=by kernel_rfl
theorem zyu:zj Tryd.prog 144=some ([.s (.int .i32 0)]):=by kernel_rfl
theorem zyv:zk Tryd.prog 144=true:=by kernel_rfl
theorem zyw:Tryd.prog.cellsOf 145=1:=by kernel_rfl
theorem zIc:(Tryd.prog.info? 145).isSome=true:=by kernel_rfl
theorem zyx:Tryd.prog.bytesOf 145=4:=by kernel_rfl
theorem zId:zg Tryd.prog 145=false:=by kernel_rfl
theorem zyy:zY Tryd.prog 145=true:=by kernel_rfl
theorem zoY:isIface Tryd.prog 145=false:=by kernel_rfl
theorem zyz:zj Tryd.prog 145=some ([.s (.int .i32 0)]):=by kernel_rfl
theorem zyA:zk Tryd.prog 145=true:=by kernel_rfl
theorem zyB:Tryd.prog.cellsOf 146=11:=by kernel_rfl
theorem zIe:(Tryd.prog.info? 146).isSome=true:=by kernel_rfl
theorem zyC:Tryd.prog.bytesOf 146=48:=by kernel_rfl
theorem zIf:zg Tryd.prog 146=true:=by kernel_rfl
theorem zoZ:isIface Tryd.prog 146=false:=by kernel_rfl
theorem zlx:zj Tryd.prog 146=some ([zw 0#64,zw 0#64,zC 0#32,b8 0#8,b8 0#8,b8 0#8,b8 0#8,.s .nilFunc,.s (.pointer none),.s (.int .i32 0),.s (.int .i32 0)]):=by kernel_rfl
theorem zyD:zk Tryd.prog 146=true:=by kernel_rfl
theorem zyE : ∀ parts,zX Tryd.prog 146 parts=(ye (fun i=>[some (0,1),some (1,1),some (2,1),some (3,1),some (4,1),some (5,1),some (6,1),some (7,1),some (8,1),some (9,1),some (10,1)][i]?.join) ([.p (zw 0#64),.p (zw 0#64),.p (zC 0#32),.p (b8 0#8),.p (b8 0#8),.p (b8 0#8),.p (b8 0#8),.p (.s .nilFunc),.p (.s (.pointer none)),.p (.s (.int .i32 0)),.p (.s (.int .i32 0))]) parts).map zG:=fun _=>zt (by kernel_rfl) zlx
theorem zyF:Tryd.prog.cellsOf 147=11:=by kernel_rfl
theorem zIg:(Tryd.prog.info? 147).isSome=true:=by kernel_rfl
theorem zyG:Tryd.prog.bytesOf 147=48:=by kernel_rfl
theorem zIh:zg Tryd.prog 147=true:=by kernel_rfl
theorem zo0:isIface Tryd.prog 147=false:=by kernel_rfl
theorem zly:zj Tryd.prog 147=some ([zw 0#64,zw 0#64,zC 0#32,b8 0#8,b8 0#8,b8 0#8,b8 0#8,.s .nilFunc,.s (.pointer none),.s (.int .i32 0),.s (.int .i32 0)]):=by kernel_rfl
theorem zyH:zk Tryd.prog 147=true:=by kernel_rfl
theorem zyI : ∀ parts,zX Tryd.prog 147 parts=(ye (fun i=>[some (0,1),some (1,1),some (2,1),some (3,1),some (4,1),some (5,1),some (6,1),some (7,1),some (8,1),some (9,1),some (10,1)][i]?.join) ([.p (zw 0#64),.p (zw 0#64),.p (zC 0#32),.p (b8 0#8),.p (b8 0#8),.p (b8 0#8),.p (b8 0#8),.p (.s .nilFunc),.p (.s (.pointer none)),.p (.s (.int .i32 0)),.p (.s (.int .i32 0))]) parts).map zG:=fun _=>zt (by kernel_rfl) zly
theorem zyJ:Tryd.prog.cellsOf 148=1:=by kernel_rfl
theorem zIi:(Tryd.prog.info? 148).isSome=true:=by kernel_rfl
theorem zyK:Tryd.prog.bytesOf 148=8:=by kernel_rfl
theorem zIj:zg Tryd.prog 148=false:=by kernel_rfl
theorem zo1:isIface Tryd.prog 148=false:=by kernel_rfl
theorem zyL:zj Tryd.prog 148=some ([.s (.pointer none)]):=by kernel_rfl
theorem zyM:zk Tryd.prog 148=true:=by kernel_rfl
theorem zIk:enters Tryd.prog 0=false:=by kernel_rfl
theorem zPK : ∀ args H, yr Tryd.prog 0 args H = vH (zaG "main.main" args) H := fun _ _ => zT (by kernel_rfl)
theorem enters1:enters Tryd.prog 1=false:=by kernel_rfl
theorem zPL : ∀ args H, yr Tryd.prog 1 args H = vH (zaG "gosem.cut" args) H := fun _ _ => zT (by kernel_rfl)
theorem enters2:enters Tryd.prog 2=true:=by kernel_rfl
theorem enters3:enters Tryd.prog 3=true:=by kernel_rfl
theorem zIl:enters Tryd.prog 4=true:=by kernel_rfl
theorem zIm:enters Tryd.prog 5=true:=by kernel_rfl
theorem zIn:enters Tryd.prog 6=true:=by kernel_rfl
theorem zIo:enters Tryd.prog 7=true:=by kernel_rfl
theorem zIp:enters Tryd.prog 8=true:=by kernel_rfl
theorem zIq:enters Tryd.prog 9=true:=by kernel_rfl
theorem zyN:enters Tryd.prog 10=true:=by kernel_rfl
theorem zyO:enters Tryd.prog 11=true:=by kernel_rfl
theorem zyP:enters Tryd.prog 12=true:=by kernel_rfl
theorem zyQ:enters Tryd.prog 13=true:=by kernel_rfl
theorem zyR:enters Tryd.prog 14=true:=by kernel_rfl
theorem zyS:enters Tryd.prog 15=true:=by kernel_rfl
theorem zyT:enters Tryd.prog 16=true:=by kernel_rfl
theorem zyU:enters Tryd.prog 17=true:=by kernel_rfl
theorem zyV:enters Tryd.prog 18=true:=by kernel_rfl
theorem zyW:enters Tryd.prog 19=true:=by kernel_rfl
theorem zyX:enters Tryd.prog 20=true:=by kernel_rfl
theorem zyY:enters Tryd.prog 21=true:=by kernel_rfl
theorem zyZ:enters Tryd.prog 22=true:=by kernel_rfl
theorem zy0:enters Tryd.prog 23=true:=by kernel_rfl
theorem zy1:enters Tryd.prog 24=true:=by kernel_rfl
theorem zy2:enters Tryd.prog 25=true:=by kernel_rfl
theorem zy3:enters Tryd.prog 26=true:=by kernel_rfl
theorem zy4:enters Tryd.prog 27=true:=by kernel_rfl
theorem zy5:enters Tryd.prog 28=true:=by kernel_rfl
theorem zy6:enters Tryd.prog 29=true:=by kernel_rfl
theorem zy7:enters Tryd.prog 30=true:=by kernel_rfl
theorem zy8:enters Tryd.prog 31=true:=by kernel_rfl
theorem zlz:enters Tryd.prog 32=true:=by kernel_rfl
theorem zy9:enters Tryd.prog 33=true:=by kernel_rfl
theorem zza:enters Tryd.prog 34=true:=by kernel_rfl
theorem zzb:enters Tryd.prog 35=true:=by kernel_rfl
theorem zzc:enters Tryd.prog 36=true:=by kernel_rfl
theorem zzd:enters Tryd.prog 37=true:=by kernel_rfl
theorem zze:enters Tryd.prog 38=true:=by kernel_rfl
theorem zzf:enters Tryd.prog 39=true:=by kernel_rfl
theorem zzg:enters Tryd.prog 40=true:=by kernel_rfl
theorem zzh:enters Tryd.prog 41=true:=by kernel_rfl
theorem zzi:enters Tryd.prog 42=true:=by kernel_rfl
theorem zzj:enters Tryd.prog 43=true:=by kernel_rfl
theorem zzk:enters Tryd.prog 44=true:=by kernel_rfl
theorem zzl:enters Tryd.prog 45=true:=by kernel_rfl
theorem zzm:enters Tryd.prog 46=true:=by kernel_rfl
theorem zzn:enters Tryd.prog 47=true:=by kernel_rfl
theorem zzo:enters Tryd.prog 48=true:=by kernel_rfl
theorem zgl:enters Tryd.prog 49=true:=by kernel_rfl
theorem zzp:enters Tryd.prog 50=true:=by kernel_rfl
theorem zzq:enters Tryd.prog 51=true:=by kernel_rfl
theorem zzr:enters Tryd.prog 52=true:=by kernel_rfl
theorem zzs:enters Tryd.prog 53=true:=by kernel_rfl
theorem zzt:enters Tryd.prog 54=true:=by kernel_rfl
theorem zzu:enters Tryd.prog 55=true:=by kernel_rfl
theorem zzv:enters Tryd.prog 56=true:=by kernel_rfl
theorem zzw:enters Tryd.prog 57=true:=by kernel_rfl
theorem zzx:enters Tryd.prog 58=true:=by kernel_rfl
theorem zzy:enters Tryd.prog 59=true:=by kernel_rfl
theorem zlA:enters Tryd.prog 60=true:=by kernel_rfl
theorem zzz:enters Tryd.prog 61=true:=by kernel_rfl
theorem zzA:enters Tryd.prog 62=true:=by kernel_rfl
theorem zzB:enters Tryd.prog 63=true:=by kernel_rfl
theorem zzC:enters Tryd.prog 64=true:=by kernel_rfl
theorem zzD:enters Tryd.prog 65=true:=by kernel_rfl
theorem zlB:enters Tryd.prog 66=true:=by kernel_rfl
theorem zzE:enters Tryd.prog 67=true:=by kernel_rfl
theorem zzF:enters Tryd.prog 68=true:=by kernel_rfl
theorem zzG:enters Tryd.prog 69=true:=by kernel_rfl
theorem zzH:enters Tryd.prog 70=true:=by kernel_rfl
theorem zzI:enters Tryd.prog 71=true:=by kernel_rfl
theorem zzJ:enters Tryd.prog 72=true:=by kernel_rfl
theorem zzK:enters Tryd.prog 73=true:=by kernel_rfl
theorem zzL:enters Tryd.prog 74=true:=by kernel_rfl
theorem zzM:enters Tryd.prog 75=true:=by kernel_rfl
theorem zzN:enters Tryd.prog 76=true:=by kernel_rfl
theorem zzO:enters Tryd.prog 77=true:=by kernel_rfl
theorem zzP:enters Tryd.prog 78=true:=by kernel_rfl
theorem zzQ:enters Tryd.prog 79=true:=by kernel_rfl
theorem zzR:enters Tryd.prog 80=true:=by kernel_rfl
theorem zzS:enters Tryd.prog 81=true:=by kernel_rfl
theorem zzT:enters Tryd.prog 82=true:=by kernel_rfl
theorem zzU:enters Tryd.prog 83=true:=by kernel_rfl
theorem zzV:enters Tryd.prog 84=true:=by kernel_rfl
theorem zzW:enters Tryd.prog 85=true:=by kernel_rfl
theorem zzX:enters Tryd.prog 86=true:=by kernel_rfl
theorem zzY:enters Tryd.prog 87=true:=by kernel_rfl
theorem zzZ:enters Tryd.prog 88=true:=by kernel_rfl
theorem zz0:enters Tryd.prog 89=false:=by kernel_rfl
theorem zOg : ∀ args H, yr Tryd.prog 89 args H = vH (zaG "(runtime.boundsError).Error" args) H := fun _ _ => zT (by kernel_rfl)
theorem zz1:enters Tryd.prog 90=false:=by kernel_rfl
theorem zOh : ∀ args H, yr Tryd.prog 90 args H = vH (zaG "(runtime.boundsError).RuntimeError" args) H := fun _ _ => zT (by kernel_rfl)
theorem zz2:enters Tryd.prog 91=false:=by kernel_rfl
theorem zOi : ∀ args H, yr Tryd.prog 91 args H = vH (zaG "(runtime.errorString).Error" args) H := fun _ _ => zT (by kernel_rfl)
theorem zz3:enters Tryd.prog 92=false:=by kernel_rfl
theorem zOj : ∀ args H, yr Tryd.prog 92 args H = vH (zaG "(runtime.errorString).RuntimeError" args) H := fun _ _ => zT (by kernel_rfl)
theorem zz4:enters Tryd.prog 93=false:=by kernel_rfl
theorem zOk : ∀ args H, yr Tryd.prog 93 args H = vH (zaG "(runtime.plainError).Error" args) H := fun _ _ => zT (by kernel_rfl)
theorem zz5:enters Tryd.prog 94=false:=by kernel_rfl
theorem zOl : ∀ args H, yr Tryd.prog 94 args H = vH (zaG "(runtime.plainError).RuntimeError" args) H := fun _ _ => zT (by kernel_rfl)
theorem zz6:enters Tryd.prog 95=false:=by kernel_rfl
theorem zOm : ∀ args H, yr Tryd.prog 95 args H = vH (zaG "(runtime.errorAddressString).Error" args) H := fun _ _ => zT (by kernel_rfl)
theorem zz7:enters Tryd.prog 96=false:=by kernel_rfl
theorem zOn : ∀ args H, yr Tryd.prog 96 args H = vH (zaG "(runtime.errorAddressString).RuntimeError" args) H := fun _ _ => zT (by kernel_rfl)
theorem zz8:enters Tryd.prog 97=false:=by kernel_rfl
theorem zOo : ∀ args H, yr Tryd.prog 97 args H = vH (zaG "(*runtime.TypeAssertionError).Error" args) H := fun _ _ => zT (by kernel_rfl)
theorem zz9:enters Tryd.prog 98=false:=by kernel_rfl
theorem zOp : ∀ args H, yr Tryd.prog 98 args H = vH (zaG "(*runtime.TypeAssertionError).RuntimeError" args) H := fun _ _ => zT (by kernel_rfl)
theorem zAa:enters Tryd.prog 99=false:=by kernel_rfl
theorem zOq : ∀ args H, yr Tryd.prog 99 args H = vH (zaG "(*runtime.PanicNilError).Error" args) H := fun _ _ => zT (by kernel_rfl)
theorem ztJ:enters Tryd.prog 100=false:=by kernel_rfl
theorem zIr : ∀ args H, yr Tryd.prog 100 args H = vH (zaG "(*runtime.PanicNilError).RuntimeError" args) H := fun _ _ => zT (by kernel_rfl)
theorem ztK:enters Tryd.prog 101=false:=by kernel_rfl
theorem zIs : ∀ args H, yr Tryd.prog 101 args H = vH (zaG "(*internal/abi.Type).Align" args) H := fun _ _ => zT (by kernel_rfl)
theorem ztL:enters Tryd.prog 102=false:=by kernel_rfl
theorem zIt : ∀ args H, yr Tryd.prog 102 args H = vH (zaG "(internal/runtime/maps.unhashableTypeError).Error" args) H := fun _ _ => zT (by kernel_rfl)
theorem ztM:enters Tryd.prog 103=false:=by kernel_rfl
theorem zIu : ∀ args H, yr Tryd.prog 103 args H = vH (zaG "(internal/runtime/maps.unhashableTypeError).RuntimeError" args) H := fun _ _ => zT (by kernel_rfl)
theorem ztN:enters Tryd.prog 104=false:=by kernel_rfl
theorem zIv : ∀ args H, yr Tryd.prog 104 args H = vH (zaG "(attestor/api.Errno).Error" args) H := fun _ _ => zT (by kernel_rfl)
theorem ztO:enters Tryd.prog 105=false:=by kernel_rfl
theorem zIw : ∀ args H, yr Tryd.prog 105 args H = vH (zaG "(internal/abi.Kind).String" args) H := fun _ _ => zT (by kernel_rfl)
theorem zhG:enters Tryd.prog 106=true:=by kernel_rfl
theorem zhH:enters Tryd.prog 107=true:=by kernel_rfl
theorem zhI:enters Tryd.prog 108=true:=by kernel_rfl
theorem zhJ:enters Tryd.prog 109=true:=by kernel_rfl
theorem zhK:enters Tryd.prog 110=true:=by kernel_rfl
theorem ztP:enters Tryd.prog 117=true:=by kernel_rfl
theorem zAb:zfr Tryd.prog 3=true:=by kernel_rfl
theorem zhL:zdn Tryd.prog 111=some (.p (.agg [i64 0,i64 0,.s .nilFunc])):=by kernel_rfl
theorem zqn:zdn Tryd.prog 3=some (.p (i64 0)):=by kernel_rfl
theorem follows:Tryd.prog.follows .mixedOrders=true:=by kernel_rfl
attribute [go_sem] zLd zPy zLe zPz zvq zLf zLg cells2 zPA zLh zJ0 zLi zvr zLj zLk cells3 info3 bytes3 zPB zLl zvs zLm zLn cells4 info4 bytes4 zPC zBV zvt zLo zLp cells5 info5 bytes5 zJ1 zLq zvu zLr zLs zLt zPD zLu zPE zLv zvv zLw zLx zLy zPF zLz zPG zvw zvx zLA zLB zLC zPH zLD zPI isIface8 zvy zLE zLF cells9 info9 bytes9 zPJ zvz zLG zLH zBW zLI zBX zLJ zsl zBY zBZ zB0 zLK zB1 zLL zsm zB2 zB3 zB4 zLM zB5 zLN zB6 zsn zB7 zB8 zB9 zLO zCa zLP zso zp1 zCb zCc zCd zLQ zCe zLR zsp zp2 zCf zCg zCh zLS zCi zLT zsq zCj zCk zCl zLU zCm zLV zsr zCn zCo zCp zLW zCq zLX zss zCr zCs zCt zLY zCu zLZ zst zp3 zCv zCw zCx zL0 zCy zL1 zsu zp4 zCz zCA cells20 zL2 zCB zL3 zsv zCC zCD cells21 info21 bytes21 zL4 zCE zsw zCF zCG cells22 info22 zCH zL5 zCI zsx zp5 zCJ zCK cells23 info23 bytes23 zL6 zCL zsy zp6 zCM zCN cells24 info24 zCO zL7 zsz zCP zCQ cells25 info25 bytes25 zL8 zsA zCR zCS cells26 info26 bytes26 zL9 zsB zp7 zCT zCU cells27 zMa bytes27 zMb zsC zp8 zCV zCW cells28 zMc bytes28 zMd zsD zsE zCX zCY cells29 zMe zCZ zMf zsF zC0 zC1 cells30 info30 bytes30 zMg zsG zC2 zC3 cells31 info31 zC4 zMh zC5 zsH zC6 zC7 cells33 info33 zC8 zMi zsI zC9 zDa cells34 zMj zDb zMk zsJ zDc zDd cells35 zMl zDe zMm zsK zDf zDg cells36 zMn zDh zMo zsL zDi zDj cells37 zMp zDk zMq zsM zDl zDm cells38 zMr zDn zvA zsN zDo zDp cells39 zMs zDq zMt zsO zp9 zDr zDs cells40 zMu zDt zMv zsP zqa zDu zDv cells41 zMw zDw zMx zsQ zqb zDx zDy cells42 zMy zDz zMz zsR zqc zDA zDB cells43 zMA zDC zMB zsS zDD zDE cells44 zMC zDF zMD zsT zDG zDH zDI zME zDJ zMF zsU zDK zDL cells46 zMG zDM zMH zsV zqd zDN zDO cells47 zMI zDP zvB zsW zqe zDQ zDR cells48 zMJ zDS zMK zsX zDT zDU cells50 zML zDV zMM zsY zDW zDX cells51 zMN zDY zMO zsZ zDZ zD0 zD1 zMP zD2 zMQ zs0 zD3 zD4 zD5 zMR zD6 zMS zs1 zD7 zD8 cells55 zMT zD9 zMU zs2 zEa zEb zEc zMV zEd zMW zs3 zEe zEf zEg zMX zEh zMY zs4 zEi zEj cells59 zMZ zEk zM0 zs5 zEl zEm cells60 zM1 zEn zM2 zs6 zEo zEp zqf zM3 zEq zM4 zEr zs7 zEs zEt cells62 zM5 zEu zM6 zs8 zqg zEv zEw ziU zM7 zEx zvC zs9 zqh zEy zEz zEA zM8 zEB zM9 zta zEC zED zEE zNa zEF zNb ztb zEG zEH zEI zNc zEJ zNd ztc zEK zEL zEM zNe zEN zNf ztd zEO zEP cells68 zNg zEQ zNh zte zER zES cells69 zNi zET zNj ztf zEU zEV zEW zNk zEX zNl ztg zEY zEZ zE0 zNm zE1 zNn zth zE2 zE3 zE4 zNo zE5 zNp zti zE6 zE7 zE8 zNq zE9 zNr ztj zFa zFb zFc zNs zFd zNt ztk zFe zFf zFg zNu zFh zNv ztl zFi zFj zFk zNw zFl zNx ztm zFm zFn zFo zNy zFp zNz ztn zFq zFr zFs zNA zFt zNB zto zFu zFv zFw zNC zFx zND ztp zqi zFy zFz zFA zNE zFB zNF ztq zqj zFC zFD zFE zNG zFF zNH ztr zFG zFH zFI zNI zFJ zNJ zts zFK zFL zFM zNK zFN zNL ztt zFO zFP cells85 zNM zFQ zNN ztu zFR zFS cells86 zNO zFT zNP ztv zFU zFV zFW zNQ zFX zNR ztw zqk zFY zFZ zF0 zNS zF1 zNT ztx zF2 zF3 zF4 zNU zF5 zNV zty zF6 zF7 zF8 zNW zF9 zNX ztz zGa zGb zGc zNY zGd zNZ ztA zGe zGf zGg zN0 zGh zN1 ztB zGi zGj ziV zN2 zGk zN3 zGl ztC zGm zGn zql zN4 zGo zN5 zGp ztD zqm zGq zGr zGs zN6 zGt zN7 ztE zGu zGv zGw zN8 zGx zN9 ztF zGy zGz zGA zOa zGB zOb ztG zGC zGD zGE zOc zGF zOd ztH zGG zGH zGI zOe zGJ zOf ztI zGK zGL zvD zGM zvE zGN zog zvF zvG zvH zGO zvI zGP zoh zvJ zvK zvL zGQ zvM zGR zoi zvN zvO zvP zGS zvQ zGT zvR zoj zvS zvT zvU zGU zvV zGV zok zvW zvX zvY zGW zvZ zGX zol zv0 zv1 zv2 zGY zv3 zGZ zom zv4 zv5 zv6 zG0 zv7 zG1 zon zv8 zv9 zwa zG2 zwb zG3 zoo zwc zwd zlm zG4 zwe zG5 zop zwf zwg zwh zG6 zwi zG7 zoq zln zwj zwk zgk zG8 zwl zG9 zor zlo zwm zwn zwo zHa zwp zHb zos zwq zwr zws zHc zwt zHd zot zwu zwv zww zHe zwx zHf zou zwy zwz zwA zHg zwB zHh zwC zov zlp zwD zwE zwF zHi zwG zHj zow zwH zwI zwJ zHk zwK zHl zox zwL zwM zwN zHm zwO zHn zoy zwP zwQ zwR zHo zwS zHp zoz zwT zwU zlq zHq zwV zHr zwW zoA zlr zwX zwY zwZ zHs zw0 zHt zoB zw1 zw2 zw3 zHu zw4 zHv zoC zw5 zw6 zw7 zHw zw8 zHx zoD zw9 zxa zxb zHy zxc zHz zoE zxd zxe zxf zHA zxg zHB zoF zxh zxi zxj zHC zxk zHD zoG zxl zxm zxn zHE zxo zHF zoH zxp zxq zxr zHG zxs zHH zoI zxt zxu zxv zHI zxw zHJ zoJ zxx zxy zxz zHK zxA zHL zoK zxB zxC zxD zHM zxE zHN zoL zxF zxG zxH zHO zxI zHP zoM zxJ zxK zxL zHQ zxM zHR zoN zls zxN zxO zxP zHS zxQ zHT zoO zlt zxR zxS zxT zHU zxU zHV zoP zlu zxV zxW zxX zHW zxY zHX zoQ zlv zxZ zx0 zx1 zHY zx2 zHZ zoR zlw zx3 zx4 zx5 zH0 zx6 zH1 zoS zx7 zx8 zx9 zH2 zya zH3 zyb zoT zyc zyd zye zH4 zyf zH5 zyg zoU zyh zyi zyj zH6 zyk zH7 zoV zyl zym zyn zH8 zyo zH9 zoW zyp zyq zyr zIa zys zIb zyt zoX zyu zyv zyw zIc zyx zId zyy zoY zyz zyA zyB zIe zyC zIf zoZ zlx zyD zyE zyF zIg zyG zIh zo0 zly zyH zyI zyJ zIi zyK zIj zo1 zyL zyM zIk zPK enters1 zPL enters2 enters3 zIl zIm zIn zIo zIp zIq zyN zyO zyP zyQ zyR zyS zyT zyU zyV zyW zyX zyY zyZ zy0 zy1 zy2 zy3 zy4 zy5 zy6 zy7 zy8 zlz zy9 zza zzb zzc zzd zze zzf zzg zzh zzi zzj zzk zzl zzm zzn zzo zgl zzp zzq zzr zzs zzt zzu zzv zzw zzx zzy zlA zzz zzA zzB zzC zzD zlB zzE zzF zzG zzH zzI zzJ zzK zzL zzM zzN zzO zzP zzQ zzR zzS zzT zzU zzV zzW zzX zzY zzZ zz0 zOg zz1 zOh zz2 zOi zz3 zOj zz4 zOk zz5 zOl zz6 zOm zz7 zOn zz8 zOo zz9 zOp zAa zOq ztJ zIr ztK zIs ztL zIt ztM zIu ztN zIv ztO zIw zhG zhH zhI zhJ zhK ztP zAb zhL zqn
attribute [go_sem] Tryd.underlying1 Tryd.underlying2 Tryd.underlying3 Tryd.underlying4 Tryd.underlying5 Tryd.underlying6 Tryd.underlying7 Tryd.underlying8 Tryd.underlying9 Tryd.underlying10 Tryd.underlying11 Tryd.underlying12 Tryd.underlying13 Tryd.underlying14 Tryd.underlying15 Tryd.underlying16 Tryd.underlying17 Tryd.underlying18 Tryd.underlying19 Tryd.underlying20 Tryd.underlying21 Tryd.underlying22 Tryd.underlying23 Tryd.underlying24 Tryd.underlying25 Tryd.underlying26 Tryd.underlying27 Tryd.underlying28 Tryd.underlying29 Tryd.underlying30 Tryd.underlying31 Tryd.underlying33 Tryd.underlying34 Tryd.underlying35 Tryd.underlying36 Tryd.underlying37 Tryd.underlying38 Tryd.underlying39 Tryd.underlying40 Tryd.underlying41 Tryd.underlying42 Tryd.underlying43 Tryd.underlying44 Tryd.underlying45 Tryd.underlying46 Tryd.underlying47 Tryd.underlying48 Tryd.underlying50 Tryd.underlying51 Tryd.underlying52 Tryd.underlying54 Tryd.underlying55 Tryd.underlying56 Tryd.underlying57 Tryd.underlying59 Tryd.underlying60 Tryd.underlying61 Tryd.underlying62 Tryd.underlying63 Tryd.underlying64 Tryd.underlying65 Tryd.underlying66 Tryd.underlying67 Tryd.underlying68 Tryd.underlying69 Tryd.underlying70 Tryd.underlying72 Tryd.underlying73 Tryd.underlying74 Tryd.underlying75 Tryd.underlying76 Tryd.underlying77 Tryd.underlying78 Tryd.underlying79 Tryd.underlying80 Tryd.underlying81 Tryd.underlying82 Tryd.underlying83 Tryd.underlying84 Tryd.underlying85 Tryd.underlying86 Tryd.underlying87 Tryd.underlying88 Tryd.underlying89 Tryd.underlying90 Tryd.underlying91 Tryd.underlying92 Tryd.underlying93 Tryd.underlying94 Tryd.underlying95 Tryd.underlying96 Tryd.underlying97 Tryd.underlying98 Tryd.underlying99 Tryd.underlying100 Tryd.underlying101 Tryd.underlying102 Tryd.underlying103 Tryd.underlying104 Tryd.underlying105 Tryd.underlying106 Tryd.underlying107 Tryd.underlying108 Tryd.underlying109 Tryd.underlying110 Tryd.underlying111 Tryd.underlying112 Tryd.underlying113 Tryd.underlying114 Tryd.underlying115 Tryd.underlying116 Tryd.underlying117 Tryd.underlying118 Tryd.underlying120 Tryd.underlying121 Tryd.underlying122 Tryd.underlying123 Tryd.underlying124 Tryd.underlying125 Tryd.underlying126 Tryd.underlying127 Tryd.underlying128 Tryd.underlying129 Tryd.underlying130 Tryd.underlying131 Tryd.underlying132 Tryd.underlying133 Tryd.underlying134 Tryd.underlying135 Tryd.underlying136 Tryd.underlying137 Tryd.underlying138 Tryd.underlying139 Tryd.underlying140 Tryd.underlying141 Tryd.underlying142 Tryd.underlying143 Tryd.underlying144 Tryd.underlying145 Tryd.underlying146 Tryd.underlying147 Tryd.underlying148

end Go.Proofs.YtmoecjgehdkhkaaDoor

/-
  The walk of slices.Clone.
-/
namespace Go.Proofs.YtmoecjgehdkhkaaDoor
open Go Go.AL

set_option maxHeartbeats 4000000 in
theorem zo2 {G:Globs} (a:List (BitVec 8)) (ha:a.length≤140737488355000) (H:Hp) (R:AV → Hp → Prop) (h:R (.sl H.n 0 1 (pl b8 a)) (H.new (.tail 0))) :
 ACall Tryd.prog G 82 [.p (.sl false 1 (pl b8 a))] H R:=by
 refine ACall.of_run (raw:=[]) Tryd.func82 rfl Tryd.ntmps82 (by simp) fun hbel => ?_
 refine .q ?_;refine .text ?_;simp (disch:=first|exact zb|fail) only [go_sem,seval]
 refine .q ?_
 refine .region (.one rfl (by simp (disch:=first|exact zb|fail) only [go_sem,seval];rfl) rfl ?_)
 refine .isNil (e:=5) Tryd.underlying28 (xs:=pl b8 a) (fl:=false) (sz:=1) (by simp (disch:=first|exact zb|fail) only [go_sem,seval]) rfl fun b hb => .nil ?_
 cases b with
 | true =>
  have ha0:a=[]:=by have:=hb rfl;cases a with | nil=>rfl | cons x l=>cases this
  subst ha0
  refine .q ?_;refine .ifT (by simp (disch:=first|exact zb|fail) only [go_sem,seval]) ?_
  refine .q ?_;refine .text ?_;simp (disch:=first|exact zb|fail) only [go_sem,seval]
  refine .q ?_;refine .own 2 (by simp (disch:=first|exact zb|fail) only [go_sem,seval];rfl) ?_
  refine .q ?_;refine .retOwn Tryd.func82 (by rw [Tryd.results82]) (by simp (disch:=first|exact zb|fail) only [go_sem,seval];rfl) (by simp (disch:=first|exact zb|fail) only [go_sem,seval]) (by first | exact Nat.le_refl _ | (dsimp only;omega)) (by (try dsimp only);repeat (first | with_reducible refine zK ?_ zb | with_reducible refine zam ?_ zb | with_reducible refine za0 ?_ zb | with_reducible refine zae ?_ | with_reducible exact hbel | with_reducible exact hbel _)) ?_;simp (disch:=first|exact zb|fail) only [go_sem,seval]
  exact h
 | false =>
  refine .q ?_;refine .ifF (by simp (disch:=first|exact zb|fail) only [go_sem,seval]) ?_
  refine .q ?_;refine .text ?_;simp (disch:=first|exact zb|fail) only [go_sem,seval]
  refine .q ?_;refine .retOwn Tryd.func82 (by rw [Tryd.results82]) (by simp (disch:=first|exact zb|fail) only [go_sem,seval];rfl) (by simp (disch:=first|exact zb|fail) only [go_sem,seval]) (by first | exact Nat.le_refl _ | (dsimp only;omega)) (by (try dsimp only);repeat (first | with_reducible refine zK ?_ zb | with_reducible refine zam ?_ zb | with_reducible refine za0 ?_ zb | with_reducible refine zae ?_ | with_reducible exact hbel | with_reducible exact hbel _)) ?_;simp (disch:=first|exact zb|fail) only [go_sem,seval]
  exact h

end Go.Proofs.YtmoecjgehdkhkaaDoor

/-
  SHA-256's round and schedule as plain functions on words.
-/
namespace Go.Proofs.YtmoecjgehdkhkaaDoor
open Go Go.AL

def zdO (x:BitVec 32) (n:Nat):BitVec 32:=x >>> n ||| x <<< (32 - n)
def sg0 (x:BitVec 32):BitVec 32:=zdO x 7 ^^^ zdO x 18 ^^^ x >>> 3
def sg1 (x:BitVec 32):BitVec 32:=zdO x 17 ^^^ zdO x 19 ^^^ x >>> 10
def bg0 (x:BitVec 32):BitVec 32:=zdO x 2 ^^^ zdO x 13 ^^^ zdO x 22
def bg1 (x:BitVec 32):BitVec 32:=zdO x 6 ^^^ zdO x 11 ^^^ zdO x 25

def word (b:List (BitVec 8)) (i:Nat):BitVec 32:=(nth b (4*i)).setWidth 32*16777216#32+(nth b (4*i+1)).setWidth 32*65536#32+(nth b (4*i+2)).setWidth 32*256#32+(nth b (4*i+3)).setWidth 32

def zlC (b:List (BitVec 8)) (w:List (BitVec 32)) (i:Nat):BitVec 32:=if i < 16 then word b i else nth w (i - 16)+sg0 (nth w (i - 15))+nth w (i - 7)+sg1 (nth w (i - 2))

def sW (b:List (BitVec 8)):Nat → List (BitVec 32)
 | 0=>List.replicate 64 0#32
 | i+1=>(sW b i).set i (zlC b (sW b i) i)

theorem zgm (b:List (BitVec 8)) (i:Nat):(sW b i).length=64:=by
 induction i with
 | zero=>simp [sW]
 | succ i ih=>simp [sW,ih]

attribute [go_sem] zgm

def ks:List (BitVec 32):=[
 0x428a2f98#32,0x71374491#32,0xb5c0fbcf#32,0xe9b5dba5#32,0x3956c25b#32,0x59f111f1#32,0x923f82a4#32,0xab1c5ed5#32,
 0xd807aa98#32,0x12835b01#32,0x243185be#32,0x550c7dc3#32,0x72be5d74#32,0x80deb1fe#32,0x9bdc06a7#32,0xc19bf174#32,
 0xe49b69c1#32,0xefbe4786#32,0x0fc19dc6#32,0x240ca1cc#32,0x2de92c6f#32,0x4a7484aa#32,0x5cb0a9dc#32,0x76f988da#32,
 0x983e5152#32,0xa831c66d#32,0xb00327c8#32,0xbf597fc7#32,0xc6e00bf3#32,0xd5a79147#32,0x06ca6351#32,0x14292967#32,
 0x27b70a85#32,0x2e1b2138#32,0x4d2c6dfc#32,0x53380d13#32,0x650a7354#32,0x766a0abb#32,0x81c2c92e#32,0x92722c85#32,
 0xa2bfe8a1#32,0xa81a664b#32,0xc24b8b70#32,0xc76c51a3#32,0xd192e819#32,0xd6990624#32,0xf40e3585#32,0x106aa070#32,
 0x19a4c116#32,0x1e376c08#32,0x2748774c#32,0x34b0bcb5#32,0x391c0cb3#32,0x4ed8aa4a#32,0x5b9cca4f#32,0x682e6ff3#32,
 0x748f82ee#32,0x78a5636f#32,0x84c87814#32,0x8cc70208#32,0x90befffa#32,0xa4506ceb#32,0xbef9a3f7#32,0xc67178f2#32]
def inits:List (BitVec 32):=[0x6a09e667#32,0xbb67ae85#32,0x3c6ef372#32,0xa54ff53a#32,0x510e527f#32,0x9b05688c#32,0x1f83d9ab#32,0x5be0cd19#32]

structure St where
 (a b c d e f g h:BitVec 32)

def rnd (s:St) (k w:BitVec 32):St :=
 let t:=s.h+bg1 s.e+(s.e &&& s.f ^^^ (4294967295#32 - s.e) &&& s.g)+k+w
 let u:=bg0 s.a+(s.a &&& s.b ||| s.a &&& s.c ||| s.b &&& s.c)
 ⟨t+u,s.a,s.b,s.c,s.d+t,s.e,s.f,s.g⟩
def zcV (w:List (BitVec 32)) (s:St):Nat → St
 | 0=>s
 | i+1=>rnd (zcV w s i) (nth ks i) (nth w i)
def st (s:List (BitVec 32)):St:=⟨nth s 0,nth s 1,nth s 2,nth s 3,nth s 4,nth s 5,nth s 6,nth s 7⟩
def fin (s:List (BitVec 32)) (z:St):List (BitVec 32):=[nth s 0+z.a,nth s 1+z.b,nth s 2+z.c,nth s 3+z.d,nth s 4+z.e,nth s 5+z.f,nth s 6+z.g,nth s 7+z.h]
def comp (s:List (BitVec 32)) (b:List (BitVec 8)):List (BitVec 32):=fin s (zcV (sW b 64) (st s) 64)
end Go.Proofs.YtmoecjgehdkhkaaDoor

/-
  The walks of the functions that compute one round: rotations,the tables.
-/
namespace Go.Proofs.YtmoecjgehdkhkaaDoor
open Go Go.AL

theorem yF {G:Globs} (x:BitVec 32) (n:Nat) (hn:n≤32) (H:Hp) (R:AV → Hp → Prop) (h:R (.p (zC (zdO x n))) H):ACall Tryd.prog G 75 [.p (zC x),.p (i64 n)] H R:=by
 refine ACall.of_run (raw:=[]) Tryd.func75 rfl Tryd.ntmps75 (by simp) fun hbel => ?_
 have e:(32 - (n:Int)).toNat=32 - n:=by omega
 refine .q ?_;refine .text ?_;simp (disch:=first|exact zb|fail) only [go_sem,seval]
 refine .q ?_;refine .open [] follows (by kernel_rfl) ?_;simp (disch:=first|exact zb|fail) only [go_sem,seval,e]
 refine .q ?_;refine .rt Tryd.func75 (by rw [Tryd.results75]) (hR := ?_);simp (disch:=first|exact zb|fail) only [go_sem,seval]
 exact h

theorem z8 {G:Globs} (x:BitVec 32) (n:Int) (m:Nat) (hm:BitVec.ofInt 64 n &&& 31#64=BitVec.ofNat 64 m) (h1:m≤32) (H:Hp) (R:AV → Hp → Prop) (h:R (.p (zC (zdO x (32 - m)))) H):ACall Tryd.prog G 84 [.p (zC x),.p (i64 n)] H R:=by
 have e1:(BitVec.ofNat 64 m).toNat=m:=by simp;omega
 have e2:(32#64 - BitVec.ofNat 64 m).toNat=32 - m:=by simp;omega
 refine ACall.of_run (raw:=[]) Tryd.func84 rfl Tryd.ntmps84 (by simp) fun hbel => ?_
 refine .q ?_;refine .text ?_;simp (disch:=first|exact zb|fail) only [go_sem,seval]
 refine .q ?_;refine .text ?_;simp (disch:=first|exact zb|fail) only [go_sem,seval]
 refine .q ?_;refine .text ?_;simp (disch:=first|exact zb|fail) only [go_sem,seval,hm,e1,e2]
 refine .q ?_;refine .rt Tryd.func84 (by rw [Tryd.results84]) (hR := ?_);simp (disch:=first|exact zb|fail) only [go_sem,seval]
 have e:x <<< m ||| x >>> (32 - m)=zdO x (32 - m):=by
  unfold zdO
  rw [show 32 - (32 - m)=m by omega,BitVec.or_comm]
 rw [e]
 exact h

end Go.Proofs.YtmoecjgehdkhkaaDoor

/-
  The walk of the reference's schedule.
-/
namespace Go.Proofs.YtmoecjgehdkhkaaDoor
open Go Go.AL

set_option maxHeartbeats 4000000 in
theorem zlD {G:Globs} (b:List (BitVec 8)) (hb:b.length=64) (H:Hp) (R:AV → Hp → Prop) (h:R (.p (.agg (pl zC (sW b 64)))) H):ACall Tryd.prog G 73 [.p (.sl false 1 (pl b8 b))] H R:=by
 refine ACall.of_run (raw:=[]) Tryd.func73 rfl Tryd.ntmps73 (by simp) fun hbel => ?_
 refine .q ?_;refine .text ?_;simp (disch:=first|exact zb|fail) only [go_sem,seval,-List.reduceReplicate]
 refine .q ?_;refine .text ?_;simp (disch:=first|exact zb|fail) only [go_sem,seval,-List.reduceReplicate]
 refine .q ?_;refine .text ?_;simp (disch:=first|exact zb|fail) only [go_sem,seval,-List.reduceReplicate]
 refine .q ?_
 refine .count (fun i env H'=>env 0 = .p (.sl false 1 (pl b8 b))∧env 2 = .ptr H.n 0∧env 3 = .ptr (H.n+1) 0∧env 4 = .p (i64 i)∧H'=(H.new (.cells (cl zC (List.replicate 64 0#32)))).new (.cells (cl zC (sW b i)))) 0 64 (by omega) ?_ ?_ ?_
 · simp (disch:=first|exact zb|fail) only [go_sem,seval,-List.reduceReplicate]
   rw [sW]
 · intro env H' ⟨e0,e2,e3,e4,eH⟩
   subst eH
   refine .q ?_;refine .text ?_;simp (disch:=first|exact zb|fail) only [go_sem,seval,-List.reduceReplicate,e0,e2,e3,e4]
   refine .q ?_;refine .ifF (by simp (disch:=first|exact zb|fail) only [go_sem,seval,-List.reduceReplicate]) ?_
   refine .q ?_;refine .text ?_;simp (disch:=first|exact zb|fail) only [go_sem,seval,-List.reduceReplicate,e0,e2,e3,e4]
   refine .q ?_;refine .rt Tryd.func73 (by rw [Tryd.results73]) (hx:=by simp (disch:=first|exact zb|fail) only [go_sem,seval,-List.reduceReplicate,e0,e2,e3,e4];rfl) (hR := ?_);simp (disch:=first|exact zb|fail) only [go_sem,seval,-List.reduceReplicate,e0,e2,e3,e4]
   exact h
 · intro i env H' _ hi ⟨e0,e2,e3,e4,eH⟩ ih
   subst eH
   refine .q ?_;refine .text ?_;simp (disch:=first|exact zb|fail) only [go_sem,seval,-List.reduceReplicate,e0,e2,e3,e4]
   refine .q ?_;refine .ifT (by simp (disch:=first|exact zb|fail) only [go_sem,seval,-List.reduceReplicate]) ?_
   refine .q ?_;refine .text ?_;simp (disch:=first|exact zb|fail) only [go_sem,seval,-List.reduceReplicate,e0,e2,e3,e4]
   by_cases hi16:i < 16
   · refine .q ?_;refine .ifT (by simp (disch:=first|exact zb|fail) only [go_sem,seval,-List.reduceReplicate]) ?_
     refine .q ?_;refine .open [35] follows (by kernel_rfl) ?_;simp (disch:=first|exact zb|fail) only [go_sem,seval,-List.reduceReplicate,e0,e2,e3,e4]
     refine .q ?_;refine .text ?_;simp (disch:=first|exact zb|fail) only [go_sem,seval,-List.reduceReplicate,e0,e2,e3,e4]
     refine ih _ _ ?_
     simp (disch:=first|exact zb|fail) only [go_sem,seval,-List.reduceReplicate,e0,e2,e3,e4]
     simp only [sW,zlC,if_pos hi16,word]
   · refine .q ?_;refine .ifF (by simp (disch:=first|exact zb|fail) only [go_sem,seval,-List.reduceReplicate]) ?_
     refine .q ?_;refine .open [] follows (by kernel_rfl) ?_;simp (disch:=first|exact zb|fail) only [go_sem,seval,-List.reduceReplicate,e0,e2,e3,e4]
     refine .q ?_;refine .open [29] follows (by kernel_rfl) ?_;simp (disch:=first|exact zb|fail) only [go_sem,seval,-List.reduceReplicate,e0,e2,e3,e4]
     refine CallD.still (fun R h=>yF _ 7 (by omega) _ R h) ?_;simp (disch:=first|exact zb|fail) only [go_sem,seval,-List.reduceReplicate,e0,e2,e3,e4]
     refine CallD.still (fun R h=>yF _ 18 (by omega) _ R h) ?_;simp (disch:=first|exact zb|fail) only [go_sem,seval,-List.reduceReplicate,e0,e2,e3,e4]
     refine CallD.still (fun R h=>yF _ 17 (by omega) _ R h) ?_;simp (disch:=first|exact zb|fail) only [go_sem,seval,-List.reduceReplicate,e0,e2,e3,e4]
     refine CallD.still (fun R h=>yF _ 19 (by omega) _ R h) ?_;simp (disch:=first|exact zb|fail) only [go_sem,seval,-List.reduceReplicate,e0,e2,e3,e4]
     refine .q ?_;refine .text ?_;simp (disch:=first|exact zb|fail) only [go_sem,seval,-List.reduceReplicate,e0,e2,e3,e4]
     refine ih _ _ ?_
     simp (disch:=first|exact zb|fail) only [go_sem,seval,-List.reduceReplicate,e0,e2,e3,e4]
     simp only [sW,zlC,if_neg hi16,sg0,sg1]

end Go.Proofs.YtmoecjgehdkhkaaDoor

/-
  The walks of the reference's tables and of its compression of one block.
-/
namespace Go.Proofs.YtmoecjgehdkhkaaDoor
open Go Go.AL

set_option maxHeartbeats 4000000 in
theorem zgn {G:Globs} (H:Hp) (R:AV → Hp → Prop) (h:R (.p (.agg (pl zC ks))) H):ACall Tryd.prog G 74 [] H R:=by
 refine ACall.of_run (raw:=[]) Tryd.func74 rfl Tryd.ntmps74 (by simp) fun hbel => ?_
 refine .q ?_;refine .text ?_;simp (disch:=first|exact zb|fail) only [go_sem,seval,-List.reduceReplicate]
 refine .q ?_;refine .text ?_;simp (disch:=first|exact zb|fail) only [go_sem,seval,-List.reduceReplicate,ye]
 refine .q ?_;refine .rt Tryd.func74 (by rw [Tryd.results74]) (hR := ?_);simp (disch:=first|exact zb|fail) only [go_sem,seval,-List.reduceReplicate]
 exact h

set_option maxHeartbeats 4000000 in
theorem ziW {G:Globs} (H:Hp) (R:AV → Hp → Prop) (h:R (.p (.agg (pl zC inits))) H):ACall Tryd.prog G 55 [] H R:=by
 refine ACall.of_run (raw:=[]) Tryd.func55 rfl Tryd.ntmps55 (by simp) fun hbel => ?_
 refine .q ?_;refine .text ?_;simp (disch:=first|exact zb|fail) only [go_sem,seval,-List.reduceReplicate]
 refine .q ?_;refine .text ?_;simp (disch:=first|exact zb|fail) only [go_sem,seval,-List.reduceReplicate,ye]
 refine .q ?_;refine .rt Tryd.func55 (by rw [Tryd.results55]) (hR := ?_);simp (disch:=first|exact zb|fail) only [go_sem,seval,-List.reduceReplicate]
 exact h

set_option maxHeartbeats 8000000 in
theorem zha {G:Globs} (s:List (BitVec 32)) (b:List (BitVec 8)) (hs:s.length=8) (hb:b.length=64) (H:Hp) (R:AV → Hp → Prop) (h:R (.p (.agg (pl zC (comp s b)))) H) :
 ACall Tryd.prog G 57 [.p (.agg (pl zC s)),.p (.sl false 1 (pl b8 b))] H R:=by
 refine ACall.of_run (raw:=[]) Tryd.func57 rfl Tryd.ntmps57 (by simp) fun hbel => ?_
 have hk:ks.length=64:=rfl
 have hw:(sW b 64).length=64:=zgm _ _
 generalize hW:sW b 64=W at hw
 refine .q ?_;refine .text ?_;simp (disch:=first|exact zb|fail) only [go_sem,seval,-List.reduceReplicate]
 refine .q ?_;refine .text ?_;simp (disch:=first|exact zb|fail) only [go_sem,seval,-List.reduceReplicate]
 refine CallK.of (fun R h=>zlD b hb _ R h) ?_;simp (disch:=first|exact zb|fail) only [go_sem,seval,-List.reduceReplicate]
 refine CallK.of (fun R h=>zgn _ R h) ?_;simp (disch:=first|exact zb|fail) only [go_sem,seval,-List.reduceReplicate,hW]
 refine .q ?_;refine .open [] follows (by kernel_rfl) ?_;simp (disch:=first|exact zb|fail) only [go_sem,seval,-List.reduceReplicate]
 refine .q ?_;refine .open [] follows (by kernel_rfl) ?_;simp (disch:=first|exact zb|fail) only [go_sem,seval,-List.reduceReplicate]
 refine .q ?_;refine .text ?_;simp (disch:=first|exact zb|fail) only [go_sem,seval,-List.reduceReplicate]
 refine .q ?_
 refine .count (fun i env H'=>env 4 = .ptr (H.n+1) 0∧env 2 = .ptr H.n 0∧env 5 = .ptr (H.n+2) 0∧env 6 = .ptr (H.n+3) 0∧env 15 = .p (i64 i) ∧
  env 7 = .p (zC (zcV W (st s) i).a)∧env 8 = .p (zC (zcV W (st s) i).b)∧env 9 = .p (zC (zcV W (st s) i).c)∧env 10 = .p (zC (zcV W (st s) i).d) ∧
  env 11 = .p (zC (zcV W (st s) i).e)∧env 12 = .p (zC (zcV W (st s) i).f)∧env 13 = .p (zC (zcV W (st s) i).g)∧env 14 = .p (zC (zcV W (st s) i).h) ∧
  H'=(((H.new (.cells (cl zC s))).new (.cells (cl zC (List.replicate 8 0#32)))).new (.cells (cl zC W))).new (.cells (cl zC ks))) 0 64 (by omega) ?_ ?_ ?_
 · simp (disch:=first|exact zb|fail) only [go_sem,seval,-List.reduceReplicate]
   simp only [zcV,st,and_self]
 · intro env H' ⟨e4,e2,e5,e6,e15,e7,e8,e9,e10,e11,e12,e13,e14,eH⟩
   subst eH
   refine .q ?_;refine .text ?_;simp (disch:=first|exact zb|fail) only [go_sem,seval,-List.reduceReplicate,e15]
   refine .q ?_;refine .ifF (by simp (disch:=first|exact zb|fail) only [go_sem,seval,-List.reduceReplicate]) ?_
   refine .q ?_;refine .text ?_;simp (disch:=first|exact zb|fail) only [go_sem,seval,-List.reduceReplicate,e2,e4,e7,e8,e9,e10,e11,e12,e13,e14,ye]
   refine .q ?_;refine .rt Tryd.func57 (by rw [Tryd.results57]) (hx:=by simp (disch:=first|exact zb|fail) only [go_sem,seval,-List.reduceReplicate,e4];rfl) (hR := ?_);simp (disch:=first|exact zb|fail) only [go_sem,seval,-List.reduceReplicate,e4]
   unfold comp fin at h
   rw [hW] at h
   exact h
 · intro i env H' _ hi ⟨e4,e2,e5,e6,e15,e7,e8,e9,e10,e11,e12,e13,e14,eH⟩ ih
   subst eH
   refine .q ?_;refine .text ?_;simp (disch:=first|exact zb|fail) only [go_sem,seval,-List.reduceReplicate,e15]
   refine .q ?_;refine .ifT (by simp (disch:=first|exact zb|fail) only [go_sem,seval,-List.reduceReplicate]) ?_
   refine .q ?_;refine .open [] follows (by kernel_rfl) ?_;simp (disch:=first|exact zb|fail) only [go_sem,seval,-List.reduceReplicate,e2,e4,e5,e6,e7,e8,e9,e10,e11,e12,e13,e14,e15]
   refine CallD.still (fun R h=>yF _ 6 (by omega) _ R h) ?_;simp (disch:=first|exact zb|fail) only [go_sem,seval,-List.reduceReplicate,e2,e4,e5,e6,e7,e8,e9,e10,e11,e12,e13,e14,e15]
   refine CallD.still (fun R h=>yF _ 11 (by omega) _ R h) ?_;simp (disch:=first|exact zb|fail) only [go_sem,seval,-List.reduceReplicate,e2,e4,e5,e6,e7,e8,e9,e10,e11,e12,e13,e14,e15]
   refine CallD.still (fun R h=>yF _ 25 (by omega) _ R h) ?_;simp (disch:=first|exact zb|fail) only [go_sem,seval,-List.reduceReplicate,e2,e4,e5,e6,e7,e8,e9,e10,e11,e12,e13,e14,e15]
   refine .q ?_;refine .text ?_;simp (disch:=first|exact zb|fail) only [go_sem,seval,-List.reduceReplicate,e2,e4,e5,e6,e7,e8,e9,e10,e11,e12,e13,e14,e15]
   refine CallK.of (fun R h=>yF _ 2 (by omega) _ R h) ?_;simp (disch:=first|exact zb|fail) only [go_sem,seval,-List.reduceReplicate,e2,e4,e5,e6,e7,e8,e9,e10,e11,e12,e13,e14,e15]
   refine CallK.of (fun R h=>yF _ 13 (by omega) _ R h) ?_;simp (disch:=first|exact zb|fail) only [go_sem,seval,-List.reduceReplicate,e2,e4,e5,e6,e7,e8,e9,e10,e11,e12,e13,e14,e15]
   refine CallK.of (fun R h=>yF _ 22 (by omega) _ R h) ?_;simp (disch:=first|exact zb|fail) only [go_sem,seval,-List.reduceReplicate,e2,e4,e5,e6,e7,e8,e9,e10,e11,e12,e13,e14,e15]
   refine .q ?_;refine .text ?_;simp (disch:=first|exact zb|fail) only [go_sem,seval,-List.reduceReplicate,e13]
   refine .q ?_;refine .text ?_;simp (disch:=first|exact zb|fail) only [go_sem,seval,-List.reduceReplicate,e12]
   refine .q ?_;refine .text ?_;simp (disch:=first|exact zb|fail) only [go_sem,seval,-List.reduceReplicate,e11]
   refine .q ?_;refine .text ?_;simp (disch:=first|exact zb|fail) only [go_sem,seval,-List.reduceReplicate,e10]
   refine .q ?_;refine .text ?_;simp (disch:=first|exact zb|fail) only [go_sem,seval,-List.reduceReplicate,e9]
   refine .q ?_;refine .text ?_;simp (disch:=first|exact zb|fail) only [go_sem,seval,-List.reduceReplicate,e8]
   refine .q ?_;refine .text ?_;simp (disch:=first|exact zb|fail) only [go_sem,seval,-List.reduceReplicate,e7]
   refine .q ?_;refine .text ?_;simp (disch:=first|exact zb|fail) only [go_sem,seval,-List.reduceReplicate,e7]
   refine .q ?_;refine .text ?_;simp (disch:=first|exact zb|fail) only [go_sem,seval,-List.reduceReplicate,e15]
   refine ih _ _ ?_
   simp (disch:=first|exact zb|fail) only [go_sem,seval,-List.reduceReplicate,e2,e4,e5,e6,e7,e8,e9,e10,e11,e12,e13,e14,e15]
   simp only [zcV,rnd,bg0,bg1,and_self]

end Go.Proofs.YtmoecjgehdkhkaaDoor

/-
  The plain laws of the words: how a word is put together of four bytes;choice and majority.
-/
namespace Go.Proofs.YtmoecjgehdkhkaaDoor
open Go Go.AL

theorem zIx (x:BitVec 32) (y:BitVec 8):x <<< 8 ||| y.setWidth 32=x*256#32+y.setWidth 32:=by
 have e:x*256#32=x <<< 8:=by
  rw [BitVec.shiftLeft_eq_mul_twoPow];rfl
 rw [e]
 symm
 apply BitVec.add_eq_or_of_and_eq_zero
 ext i hi
 simp only [BitVec.getElem_and,BitVec.getElem_shiftLeft,BitVec.getElem_setWidth,BitVec.getElem_zero]
 by_cases h:i < 8
 · simp [h]
 · simp [h,BitVec.getLsbD_of_ge y i (by omega)]

def part (b:List (BitVec 8)) (i:Nat):Nat → BitVec 32
 | 0=>0#32
 | j+1=>part b i j <<< 8 ||| (nth b (4*i+j)).setWidth 32

theorem ztQ (b:List (BitVec 8)) (i:Nat):part b i 4=word b i:=by
 simp only [part,zIx,word,BitVec.add_mul,BitVec.mul_assoc,Nat.add_zero,BitVec.zero_mul,BitVec.zero_add]
 rfl

theorem zqo (b:List (BitVec 8)) : ∀ (i j:Nat),i≤j → j < 64 → nth (sW b i) j=0#32
 | 0,j,_,hj=>zg3 hj
 | i+1,j,h,hj=>by rw [sW,zf8 (by omega)];exact zqo b i j (by omega) hj

theorem zIy {α:Type} [Inhabited α] {l:List α} {i:Nat} (h:i < l.length):l.set i (nth l i)=l:=by
 refine ziB (by simp) fun j hj => ?_
 by_cases e:i=j
 · subst e;rw [zf7 rfl h]
 · rw [zf8 e]

theorem zAc (b:List (BitVec 8)) (i:Nat) (h:i < 64):(sW b i).set i (part b i 0)=sW b i:=by
 have:=zIy (l:=sW b i) (i:=i) (by rw [zgm];exact h)
 rwa [zqo b i i (Nat.le_refl _) h] at this

theorem zAd (b:List (BitVec 8)) (i:Nat) (h:i < 16):(sW b i).set i (part b i 4)=sW b (i+1):=by
 rw [ztQ,sW,zlC,if_pos h]

theorem zIz (e:BitVec 32) : ~~~e=4294967295#32 - e:=by
 rw [show (4294967295#32:BitVec 32)=BitVec.allOnes 32 from rfl,BitVec.allOnes_sub_eq_not]
theorem zOr (a b c:BitVec 32):a &&& b ^^^ a &&& c ^^^ b &&& c=a &&& b ||| a &&& c ||| b &&& c:=by
 ext i hi
 simp only [BitVec.getElem_and,BitVec.getElem_xor,BitVec.getElem_or]
 cases a[i]<;>cases b[i]<;>cases c[i]<;>rfl
end Go.Proofs.YtmoecjgehdkhkaaDoor

/-
  The walks of the package's schedule and of its compression of one block.
-/
namespace Go.Proofs.YtmoecjgehdkhkaaDoor
open Go Go.AL

set_option maxHeartbeats 8000000 in
theorem zhb {G:Globs} (b:List (BitVec 8)) (hb:b.length=64) (H:Hp) (R:AV → Hp → Prop) (h:R (.p (.agg (pl zC (sW b 64)))) H):ACall Tryd.prog G 83 [.p (.sl false 1 (pl b8 b))] H R:=by
 refine ACall.of_run (raw:=[]) Tryd.func83 rfl Tryd.ntmps83 (by simp) fun hbel => ?_
 refine .q ?_;refine .text ?_;simp (disch:=first|exact zb|fail) only [go_sem,seval,-List.reduceReplicate]
 refine .q ?_;refine .text ?_;simp (disch:=first|exact zb|fail) only [go_sem,seval,-List.reduceReplicate]
 refine .q ?_;refine .text ?_;simp (disch:=first|exact zb|fail) only [go_sem,seval,-List.reduceReplicate]
 refine .q ?_
 refine .count (fun i env H'=>env 0 = .p (.sl false 1 (pl b8 b))∧env 2 = .ptr H.n 0∧env 3 = .ptr (H.n+1) 0∧env 12 = .p (i64 i)∧H'=(H.new (.cells (cl zC (List.replicate 64 0#32)))).new (.cells (cl zC (sW b i)))) 0 16 (by omega) ?_ ?_ ?_
 · simp (disch:=first|exact zb|fail) only [go_sem,seval,-List.reduceReplicate]
   rw [sW]
 · intro env H' ⟨e0,e2,e3,e12,eH⟩
   subst eH
   refine .q ?_;refine .text ?_;simp (disch:=first|exact zb|fail) only [go_sem,seval,-List.reduceReplicate,e12]
   refine .q ?_;refine .ifF (by simp (disch:=first|exact zb|fail) only [go_sem,seval,-List.reduceReplicate]) ?_
   refine .q ?_;refine .text ?_;simp (disch:=first|exact zb|fail) only [go_sem,seval,-List.reduceReplicate,e12]
   refine .q ?_
   refine .count (fun i env H'=>env 2 = .ptr H.n 0∧env 3 = .ptr (H.n+1) 0∧env 7 = .p (i64 i)∧H'=(H.new (.cells (cl zC (List.replicate 64 0#32)))).new (.cells (cl zC (sW b i)))) 16 64 (by omega) ?_ ?_ ?_
   · simp (disch:=first|exact zb|fail) only [go_sem,seval,-List.reduceReplicate,e2,e3]
   · intro env H' ⟨e2,e3,e7,eH⟩
     subst eH
     refine .q ?_;refine .text ?_;simp (disch:=first|exact zb|fail) only [go_sem,seval,-List.reduceReplicate,e7]
     refine .q ?_;refine .ifF (by simp (disch:=first|exact zb|fail) only [go_sem,seval,-List.reduceReplicate]) ?_
     refine .q ?_;refine .text ?_;simp (disch:=first|exact zb|fail) only [go_sem,seval,-List.reduceReplicate,e3,e2]
     refine .q ?_;refine .rt Tryd.func83 (by rw [Tryd.results83]) (hx:=by simp (disch:=first|exact zb|fail) only [go_sem,seval,-List.reduceReplicate,e2];rfl) (hR := ?_);simp (disch:=first|exact zb|fail) only [go_sem,seval,-List.reduceReplicate,e2]
     exact h
   · intro i env H' hi0 hi ⟨e2,e3,e7,eH⟩ ih
     subst eH
     refine .q ?_;refine .text ?_;simp (disch:=first|exact zb|fail) only [go_sem,seval,-List.reduceReplicate,e7]
     refine .q ?_;refine .ifT (by simp (disch:=first|exact zb|fail) only [go_sem,seval,-List.reduceReplicate]) ?_
     refine .q ?_;refine .open [] follows (by kernel_rfl) ?_;simp (disch:=first|exact zb|fail) only [go_sem,seval,-List.reduceReplicate,e7,e3,e2]
     refine .q ?_;refine .text ?_;simp (disch:=first|exact zb|fail) only [go_sem,seval,-List.reduceReplicate,e7,e3,e2]
     refine CallK.of (fun R h=>z8 _ (-7) 25 (by decide) (by omega) _ R h) ?_;simp (disch:=first|exact zb|fail) only [go_sem,seval,-List.reduceReplicate,e7,e3,e2]
     refine CallK.of (fun R h=>z8 _ (-18) 14 (by decide) (by omega) _ R h) ?_;simp (disch:=first|exact zb|fail) only [go_sem,seval,-List.reduceReplicate,e7,e3,e2]
     refine .q ?_;refine .text ?_;simp (disch:=first|exact zb|fail) only [go_sem,seval,-List.reduceReplicate,e7,e3,e2]
     refine CallK.of (fun R h=>z8 _ (-17) 15 (by decide) (by omega) _ R h) ?_;simp (disch:=first|exact zb|fail) only [go_sem,seval,-List.reduceReplicate,e7,e3,e2]
     refine CallK.of (fun R h=>z8 _ (-19) 13 (by decide) (by omega) _ R h) ?_;simp (disch:=first|exact zb|fail) only [go_sem,seval,-List.reduceReplicate,e7,e3,e2]
     refine .q ?_;refine .open [15] follows (by kernel_rfl) ?_;simp (disch:=first|exact zb|fail) only [go_sem,seval,-List.reduceReplicate,e7,e3,e2]
     refine .q ?_;refine .text ?_;simp (disch:=first|exact zb|fail) only [go_sem,seval,-List.reduceReplicate,e7,e3,e2]
     refine ih _ _ ?_
     simp (disch:=first|exact zb|fail) only [go_sem,seval,-List.reduceReplicate,e2,e3,e7]
     have hi16 : ¬i < 16:=by omega
     simp only [sW,zlC,if_neg hi16,sg0,sg1]
 · intro i env H' _ hi ⟨e0,e2,e3,e12,eH⟩ ih
   subst eH
   refine .q ?_;refine .text ?_;simp (disch:=first|exact zb|fail) only [go_sem,seval,-List.reduceReplicate,e12]
   refine .q ?_;refine .ifT (by simp (disch:=first|exact zb|fail) only [go_sem,seval,-List.reduceReplicate]) ?_
   refine .q ?_;refine .text ?_;simp (disch:=first|exact zb|fail) only [go_sem,seval,-List.reduceReplicate,e12]
   refine .q ?_;refine .text ?_;simp (disch:=first|exact zb|fail) only [go_sem,seval,-List.reduceReplicate,e0,e12]
   refine .q ?_
   refine .count (fun j env H'=>env 0 = .p (.sl false 1 (pl b8 b))∧env 2 = .ptr H.n 0∧env 3 = .ptr (H.n+1) 0∧env 4 = .p (i64 i)∧env 12 = .p (i64 i)∧env 21 = .p (.sl false 1 (pl b8 ((b.take (4*i+4)).drop (4*i))))∧env 22 = .p (i64 4)∧env 23 = .p (i64 j) ∧
    H'=(H.new (.cells (cl zC (List.replicate 64 0#32)))).new (.cells (cl zC ((sW b i).set i (part b i j))))) 0 4 (by omega) ?_ ?_ ?_
   · simp (disch:=first|exact zb|fail) only [go_sem,seval,-List.reduceReplicate,e0,e2,e3,e12]
     rw [zAc b i (by omega)]
   · intro env H' ⟨e0,e2,e3,e4,e12,e21,e22,e23,eH⟩
     subst eH
     refine .q ?_;refine .text ?_;simp (disch:=first|exact zb|fail) only [go_sem,seval,-List.reduceReplicate,e22,e23]
     refine .q ?_;refine .ifF (by simp (disch:=first|exact zb|fail) only [go_sem,seval,-List.reduceReplicate]) ?_
     refine .q ?_;refine .text ?_;simp (disch:=first|exact zb|fail) only [go_sem,seval,-List.reduceReplicate,e12]
     refine ih _ _ ?_
     simp (disch:=first|exact zb|fail) only [go_sem,seval,-List.reduceReplicate,e0,e2,e3,e12]
     rw [zAd b i hi]
   · intro j env H' _ hj ⟨e0,e2,e3,e4,e12,e21,e22,e23,eH⟩ ih2
     subst eH
     refine .q ?_;refine .text ?_;simp (disch:=first|exact zb|fail) only [go_sem,seval,-List.reduceReplicate,e22,e23]
     refine .q ?_;refine .ifT (by simp (disch:=first|exact zb|fail) only [go_sem,seval,-List.reduceReplicate]) ?_
     refine .q ?_;refine .text ?_;simp (disch:=first|exact zb|fail) only [go_sem,seval,-List.reduceReplicate,e21,e23]
     refine .q ?_;refine .text ?_;simp (disch:=first|exact zb|fail) only [go_sem,seval,-List.reduceReplicate,e3,e4]
     refine .q ?_;refine .text ?_;simp (disch:=first|exact zb|fail) only [go_sem,seval,-List.reduceReplicate,e23]
     refine ih2 _ _ ?_
     simp (disch:=first|exact zb|fail) only [go_sem,seval,-List.reduceReplicate,e0,e2,e3,e4,e12,e21,e22,e23]
     rw [List.set_set,zf7 rfl (by rw [zgm];omega),zf9,zga (by omega),part]

def row (z:St):List (BitVec 32):=[z.a,z.b,z.c,z.d,z.e,z.f,z.g,z.h]
theorem zIA (z:St):(row z).length=8:=rfl
def zPM (s:St) (k w:BitVec 32):St :=
 let t:=s.h+bg1 s.e+(s.e &&& s.f ^^^ (4294967295#32 - s.e) &&& s.g)+k+w
 ⟨t+bg0 s.a+(s.a &&& s.b ||| s.a &&& s.c ||| s.b &&& s.c),s.a,s.b,s.c,s.d+t,s.e,s.f,s.g⟩
theorem ztR (s:St) (k w:BitVec 32):rnd s k w=zPM s k w:=by
 unfold rnd zPM
 simp only [BitVec.add_assoc]
def addRow (r s:List (BitVec 32)):Nat → List (BitVec 32)
 | 0=>s
 | i+1=>(addRow r s i).set i (nth (addRow r s i) i+nth r i)
theorem zo3 (r s:List (BitVec 32)) (i:Nat):(addRow r s i).length=s.length:=by
 induction i with
 | zero=>rfl
 | succ i ih=>simp [addRow,ih]
attribute [go_sem] zIA zo3
theorem zPN (s:List (BitVec 32)) (h:s.length=8):s=[nth s 0,nth s 1,nth s 2,nth s 3,nth s 4,nth s 5,nth s 6,nth s 7]:=by
 rcases s with _ | ⟨a0,_ | ⟨a1,_ | ⟨a2,_ | ⟨a3,_ | ⟨a4,_ | ⟨a5,_ | ⟨a6,_ | ⟨a7,_ | ⟨a8,l⟩⟩⟩⟩⟩⟩⟩⟩⟩<;>simp at h
 rfl
theorem zIB (z:St) (s:List (BitVec 32)) (h:s.length=8):addRow (row z) s 8=fin s z:=by
 rw [zPN s h]
 rfl

set_option maxHeartbeats 16000000 in
theorem zhc {G:Globs} (hG:G 3=some (64,[.agg (pl zC ks)])) (s:List (BitVec 32)) (b:List (BitVec 8)) (hs:s.length=8) (hb:b.length=64) (H:Hp) (p:Nat) (hp:H.f p=some (.cells (cl zC s))) (hpn:p < H.n) (R:AV → Hp → Prop)
 (h:R (.tup []) (H.set p (.cells (cl zC (comp s b))))) :
 ACall Tryd.prog G 69 [.ptr p 0,.p (.sl false 1 (pl b8 b))] H R:=by
 refine ACall.of_run (raw:=[]) Tryd.func69 rfl Tryd.ntmps69 (by simp) fun hbel => ?_
 have hk:ks.length=64:=rfl
 have hw:(sW b 64).length=64:=zgm _ _
 generalize hW:sW b 64=W at hw
 refine .q ?_;refine .text ?_;simp (disch:=first|exact zb|fail) only [go_sem,seval,-List.reduceReplicate]
 refine CallK.of (fun R h=>zhb b hb _ R h) ?_;simp (disch:=first|exact zb|fail) only [go_sem,seval,-List.reduceReplicate,hW]
 refine .q ?_;refine .text ?_;simp (disch:=first|exact zb|fail) only [go_sem,seval,-List.reduceReplicate,hp]
 refine .q ?_;refine .text ?_;simp (disch:=first|exact zb|fail) only [go_sem,seval,-List.reduceReplicate]
 refine .q ?_
 refine .count (fun i env H'=>env 0 = .ptr p 0∧env 4 = .ptr H.n 0∧env 5 = .ptr (H.n+1) 0∧env 21 = .p (i64 i)∧H'=(H.new (.cells (cl zC W))).new (.cells (cl zC (row (zcV W (st s) i))))) 0 64 (by omega) ?_ ?_ ?_
 · simp (disch:=first|exact zb|fail) only [go_sem,seval,-List.reduceReplicate]
   simp only [row,zcV,st]
   rw [←zPN s hs]
 · intro env H' ⟨e0,e4,e5,e21,eH⟩
   subst eH
   refine .q ?_;refine .text ?_;simp (disch:=first|exact zb|fail) only [go_sem,seval,-List.reduceReplicate,e21]
   refine .q ?_;refine .ifF (by simp (disch:=first|exact zb|fail) only [go_sem,seval,-List.reduceReplicate]) ?_
   refine .q ?_;refine .text ?_;simp (disch:=first|exact zb|fail) only [go_sem,seval,-List.reduceReplicate,e5,e0]
   generalize hz:zcV W (st s) 64=z
   refine .q ?_
   refine .count (fun i env H'=>env 0 = .ptr p 0∧env 98 = .p (.agg (pl zC (row z)))∧env 99 = .p (i64 i)∧H'=((H.set p (.cells (cl zC (addRow (row z) s i)))).new (.cells (cl zC W))).new (.cells (cl zC (row z)))) 0 8 (by omega) ?_ ?_ ?_
   · simp (disch:=first|exact zb|fail) only [go_sem,seval,-List.reduceReplicate,e0]
     rw [addRow,set_same hp]
   · intro env H' ⟨e0,e98,e99,eH⟩
     subst eH
     refine .q ?_;refine .text ?_;simp (disch:=first|exact zb|fail) only [go_sem,seval,-List.reduceReplicate,e99]
     refine .q ?_;refine .ifF (by simp (disch:=first|exact zb|fail) only [go_sem,seval,-List.reduceReplicate]) ?_
     refine .q ?_;refine .fin Tryd.func69 (by rw [Tryd.results69]) (by simp (disch:=first|exact zb|fail) only [go_sem,seval,-List.reduceReplicate];rfl) (by simp (disch:=first|exact zb|fail) only [go_sem,seval,-List.reduceReplicate];rfl) (by (try dsimp only);repeat (first | with_reducible refine zK ?_ zb | with_reducible refine zam ?_ zb | with_reducible refine za0 ?_ zb | with_reducible refine zae ?_ | with_reducible exact hbel | with_reducible exact hbel _)) ?_;simp (disch:=first|exact zb|fail) only [go_sem,seval,-List.reduceReplicate]
     rw [zIB z s hs,←hz,←hW] at *
     exact h
   · intro i env H' _ hi ⟨e0,e98,e99,eH⟩ ih
     subst eH
     refine .q ?_;refine .text ?_;simp (disch:=first|exact zb|fail) only [go_sem,seval,-List.reduceReplicate,e99]
     refine .q ?_;refine .ifT (by simp (disch:=first|exact zb|fail) only [go_sem,seval,-List.reduceReplicate]) ?_
     refine .q ?_;refine .text ?_;simp (disch:=first|exact zb|fail) only [go_sem,seval,-List.reduceReplicate,e98,e99]
     refine .q ?_;refine .open [9] follows (by kernel_rfl) ?_;simp (disch:=first|exact zb|fail) only [go_sem,seval,-List.reduceReplicate,e0,hp]
     refine .q ?_;refine .text ?_;simp (disch:=first|exact zb|fail) only [go_sem,seval,-List.reduceReplicate,e99]
     refine ih _ _ ?_
     simp (disch:=first|exact zb|fail) only [go_sem,seval,-List.reduceReplicate,e0,e98,e99]
     rw [addRow]
 · intro i env H' _ hi ⟨e0,e4,e5,e21,eH⟩ ih
   subst eH
   refine .q ?_;refine .text ?_;simp (disch:=first|exact zb|fail) only [go_sem,seval,-List.reduceReplicate,e21]
   refine .q ?_;refine .ifT (by simp (disch:=first|exact zb|fail) only [go_sem,seval,-List.reduceReplicate]) ?_
   refine .q ?_;refine .text ?_;simp (disch:=first|exact zb|fail) only [go_sem,seval,-List.reduceReplicate,e21]
   refine .q ?_;refine .open [] follows (by kernel_rfl) ?_;simp (disch:=first|exact zb|fail) only [go_sem,seval,-List.reduceReplicate,e0,e4,e5,e21]
   refine .q ?_;refine .text ?_;simp (disch:=first|exact zb|fail) only [go_sem,seval,-List.reduceReplicate,e0,e4,e5,e21]
   refine CallK.of (fun R h=>z8 _ (-6) 26 (by decide) (by omega) _ R h) ?_;simp (disch:=first|exact zb|fail) only [go_sem,seval,-List.reduceReplicate,e0,e4,e5,e21]
   refine CallK.of (fun R h=>z8 _ (-11) 21 (by decide) (by omega) _ R h) ?_;simp (disch:=first|exact zb|fail) only [go_sem,seval,-List.reduceReplicate,e0,e4,e5,e21]
   refine CallK.of (fun R h=>z8 _ (-25) 7 (by decide) (by omega) _ R h) ?_;simp (disch:=first|exact zb|fail) only [go_sem,seval,-List.reduceReplicate,e0,e4,e5,e21]
   refine .q ?_;refine .text ?_;simp (disch:=first|exact zb|fail) only [go_sem,seval,-List.reduceReplicate,e0,e4,e5,e21]
   refine .q ?_;refine .open [] follows (by kernel_rfl) ?_;simp (disch:=first|exact zb|fail) only [go_sem,seval,-List.reduceReplicate,e0,e4,e5,e21,hG]
   refine .q ?_;refine .text ?_;simp (disch:=first|exact zb|fail) only [go_sem,seval,-List.reduceReplicate,e0,e4,e5,e21]
   refine CallK.of (fun R h=>z8 _ (-2) 30 (by decide) (by omega) _ R h) ?_;simp (disch:=first|exact zb|fail) only [go_sem,seval,-List.reduceReplicate,e0,e4,e5,e21]
   refine CallK.of (fun R h=>z8 _ (-13) 19 (by decide) (by omega) _ R h) ?_;simp (disch:=first|exact zb|fail) only [go_sem,seval,-List.reduceReplicate,e0,e4,e5,e21]
   refine CallK.of (fun R h=>z8 _ (-22) 10 (by decide) (by omega) _ R h) ?_;simp (disch:=first|exact zb|fail) only [go_sem,seval,-List.reduceReplicate,e0,e4,e5,e21]
   refine .q ?_;refine .text ?_;simp (disch:=first|exact zb|fail) only [go_sem,seval,-List.reduceReplicate,e0,e4,e5,e21]
   refine .q ?_;refine .open [2] follows (by kernel_rfl) ?_;simp (disch:=first|exact zb|fail) only [go_sem,seval,-List.reduceReplicate,e0,e4,e5,e21]
   refine .q ?_;refine .text ?_;simp (disch:=first|exact zb|fail) only [go_sem,seval,-List.reduceReplicate,e5]
   refine .q ?_;refine .text ?_;simp (disch:=first|exact zb|fail) only [go_sem,seval,-List.reduceReplicate,e5]
   refine .q ?_;refine .text ?_;simp (disch:=first|exact zb|fail) only [go_sem,seval,-List.reduceReplicate,e21]
   refine ih _ _ ?_
   simp (disch:=first|exact zb|fail) only [go_sem,seval,-List.reduceReplicate,e0,e4,e5,e21]
   simp only [zcV,zIz,zOr,ztR]
   generalize zcV W (st s) i=z
   rfl

end Go.Proofs.YtmoecjgehdkhkaaDoor

/-
  Padding,the digest's bytes and the whole hash as plain functions.
-/
namespace Go.Proofs.YtmoecjgehdkhkaaDoor
open Go Go.AL

def zbT (n:Nat):Nat:=(119 - n % 64) % 64
theorem zgo (n:Nat):(n+1+zbT n) % 64=56:=by unfold zbT;omega
theorem zqp (n j:Nat) (h:j < zbT n):(n+1+j) % 64≠56:=by unfold zbT at h;omega
theorem ziX (n:Nat):zbT n≤63:=by unfold zbT;omega
def ze5 (v:BitVec 64):Nat → List (BitVec 8)
 | 0=>[]
 | i+1=>ze5 v i++[(v >>> (56 - 8*i)).setWidth 8]
theorem zlE (v:BitVec 64) (i:Nat):(ze5 v i).length=i:=by
 induction i with
 | zero=>rfl
 | succ i ih=>simp [ze5,ih]
def pad (b:List (BitVec 8)):List (BitVec 8):=b++[128#8]++List.replicate (zbT b.length) 0#8++ze5 (BitVec.ofInt 64 b.length*8#64) 8
theorem ziY (b:List (BitVec 8)):(pad b).length=b.length+1+zbT b.length+8:=by simp [pad,zlE];omega

def dg (s:List (BitVec 32)):Nat → List (BitVec 8)
 | 0=>List.replicate 32 0#8
 | i+1=>(dg s i).set i ((nth s (i / 4) >>> (24 - 8*(i % 4))).setWidth 8)
theorem zAe (s:List (BitVec 32)) (i:Nat):(dg s i).length=32:=by
 induction i with
 | zero=>simp [dg]
 | succ i ih=>simp [dg,ih]
attribute [go_sem] zlE zAe

def yC (p:List (BitVec 8)) (s:List (BitVec 32)):Nat → List (BitVec 32)
 | 0=>s
 | i+1=>comp (yC p s i) ((p.take (64*i+64)).drop (64*i))
theorem zAf (s:List (BitVec 32)) (b:List (BitVec 8)):(comp s b).length=8:=rfl
theorem za1 (p:List (BitVec 8)) (s:List (BitVec 32)) (hs:s.length=8) (i:Nat):(yC p s i).length=8:=by
 cases i with
 | zero=>exact hs
 | succ i=>rfl
def sha (b:List (BitVec 8)):List (BitVec 8):=dg (yC (pad b) inits ((pad b).length / 64)) 32
theorem zah (b:List (BitVec 8)):(sha b).length=32:=zAe _ _
attribute [go_sem] zAf zah

def made (b:List (BitVec 8)):Nat → List (BitVec 8)
 | 0=>List.replicate 32 0#8
 | i+1=>(made b i).set i (nth b i)
theorem zlF (b:List (BitVec 8)) (i:Nat):(made b i).length=32:=by
 induction i with
 | zero=>simp [made]
 | succ i ih=>simp [made,ih]
def mk (b:List (BitVec 8)):List (BitVec 8):=made b (min 32 b.length)
theorem zOs (b:List (BitVec 8)):(mk b).length=32:=zlF _ _
def masked (k:List (BitVec 8)) (m:BitVec 8):Nat → List (BitVec 8)
 | 0=>[]
 | i+1=>masked k m i++[if i < 32 then nth k i ^^^ m else m]
theorem zo4 (k:List (BitVec 8)) (m:BitVec 8) (i:Nat):(masked k m i).length=i:=by
 induction i with
 | zero=>rfl
 | succ i ih=>simp [masked,ih]
attribute [go_sem] zlF zOs zo4
def leaf (b:List (BitVec 8)):List (BitVec 8):=sha ([0#8]++b)
def pair (a b:List (BitVec 8)):List (BitVec 8):=sha ([1#8]++a++b)
def keyed (k b:List (BitVec 8)):List (BitVec 8):=sha (masked k 92#8 64++sha (masked k 54#8 64++b))
end Go.Proofs.YtmoecjgehdkhkaaDoor

/-
  The walk of the iterator over the blocks of the padded message,and of the hash.
-/
namespace Go.Proofs.YtmoecjgehdkhkaaDoor
open Go Go.AL

theorem zo5 (b:List (BitVec 8)) (i:Nat) (h:i < b.length / 64):((pad b).take (64*i+64)).drop (64*i)=(b.take (64*i+64)).drop (64*i):=by
 rw [pad,List.append_assoc,List.append_assoc,List.take_append_of_le_length (by omega)]

def zen (b:List (BitVec 8)):List (BitVec 8):=(pad b).drop (64*(b.length / 64))
theorem ztS (b:List (BitVec 8)):(zen b).length=(pad b).length - 64*(b.length / 64):=by simp [zen]
theorem zAg (b:List (BitVec 8)):zen b=b.drop (64*(b.length / 64))++[128#8]++List.replicate (zbT b.length) 0#8++ze5 (BitVec.ofInt 64 b.length*8#64) 8:=by
 unfold zen pad
 rw [List.append_assoc,List.append_assoc,List.drop_append_of_le_length (by omega)]
 simp only [List.append_assoc]
theorem zo6 (b:List (BitVec 8)) (i:Nat):((zen b).take (64*i+64)).drop (64*i)=((pad b).take (64*(b.length / 64+i)+64)).drop (64*(b.length / 64+i)):=by
 unfold zen
 rw [List.take_drop,List.drop_drop]
 congr 2<;>omega

set_option maxHeartbeats 8000000 in
theorem ziZ {G:Globs} (b:List (BitVec 8)) (hb:b.length≤140737488353000) (y p n0:Nat) (Ls:Nat → Hp) (hL : ∀ i,(Ls i).n=n0) (hB : ∀ i,Bel n0 (Ls i)) (hy0:y < n0) (hp:p < n0) (hbox : ∀ i,(Ls i).f p=some (.cells [.p (.sl false 1 (pl b8 b))]))
 (hy : ∀ i,i < (pad b).length / 64 → ∀ (T:List AB) (K:AV → Hp → Prop),K (.p (bo true)) (app (Ls (i+1)) T) → AYield Tryd.prog G y [.p (.sl false 1 (pl b8 (((pad b).take (64*i+64)).drop (64*i))))] (app (Ls i) T) K)
 (R:AV → Hp → Prop) (h:R (.tup []) (Ls ((pad b).length / 64))):ACall Tryd.prog G 81 [.yld y,.ptr p 0] (Ls 0) R:=by
 refine ACall.of_run (raw:=[]) Tryd.func81 rfl Tryd.ntmps81 (by simp) fun hbel => ?_
 have hpl:=ziY b
 have hm:=zgo b.length
 have hpn:=ziX b.length
 have hlen:=ztS b
 generalize hN:(pad b).length=N at hpl hy h hlen
 refine .q ?_;refine .text ?_;simp (disch:=first|exact zb|fail) only [go_sem,seval,-List.reduceReplicate,hbox,hL]
 refine .q ?_;refine .text ?_;simp (disch:=first|exact zb|fail) only [go_sem,seval,-List.reduceReplicate]
 refine .q ?_
 refine .count (fun i env H'=>env 0 = .yld y∧env 1 = .ptr p 0∧env 3 = .p (i64 (64*(b.length / 64):Nat))∧env 4 = .p (i64 (64*i:Nat))∧H'=Ls i) 0 (b.length / 64) (by omega) ?_ ?_ ?_
 · simp (disch:=first|exact zb|fail) only [go_sem,seval,-List.reduceReplicate]
   exact zBO (by omega)
 · intro env H' ⟨e0,e1,e3,e4,eH⟩
   subst eH
   refine .q ?_;refine .text ?_;simp (disch:=first|exact zb|fail) only [go_sem,seval,-List.reduceReplicate,e3,e4]
   refine .q ?_;refine .ifF (by simp (disch:=first|exact zb|fail) only [go_sem,seval,-List.reduceReplicate]) ?_
   refine .q ?_;refine .text ?_;simp (disch:=first|exact zb|fail) only [go_sem,seval,-List.reduceReplicate,e1,e3,hbox,hL]
   have hd:(b.drop (64*(b.length / 64))).length=b.length - 64*(b.length / 64):=List.length_drop
   have hdm:(b.drop (64*(b.length / 64))).length % 64=b.length % 64:=by omega
   have hLk:=hL (b.length / 64)
   generalize hdd:b.drop (64*(b.length / 64))=dd at hd hdm
   refine CallK.of (fun R h=>zo2 dd (by omega) _ R h) ?_;simp (disch:=first|exact zb|fail) only [go_sem,seval,-List.reduceReplicate,hL]
   refine .q ?_
   refine .count (fun j env H'=>env 0 = .yld y∧env 1 = .ptr p 0∧env 5 = .sl n0 (1+j) 1 (pl b8 (dd++[128#8]++List.replicate j 0#8))∧H'=(Ls (b.length / 64)).new (.tail (1+j))) 0 (zbT b.length) (by omega) ?_ ?_ ?_
   · simp (disch:=first|exact zb|fail) only [go_sem,seval,-List.reduceReplicate,e0,e1,hL]
     simp only [List.replicate_zero,List.append_nil]
   · intro env H' ⟨e0,e1,e5,eH⟩
     subst eH
     have hm2:(dd.length+1+zbT b.length) % 64=56:=by omega
     refine .q ?_;refine .text ?_;simp (disch:=first|exact zb|fail) only [go_sem,seval,-List.reduceReplicate,e5]
     refine .q ?_;refine .ifF (by simp (disch:=first|exact zb|fail) only [go_sem,seval,-List.reduceReplicate]) ?_
     refine .q ?_;refine .text ?_;simp (disch:=first|exact zb|fail) only [go_sem,seval,-List.reduceReplicate,e1,hbox,hL]
     refine .q ?_;refine .text ?_;simp (disch:=first|exact zb|fail) only [go_sem,seval,-List.reduceReplicate]
     refine .q ?_
     generalize hw:dd++[128#8]++List.replicate (zbT b.length) 0#8=ww at e5
     have hwl:ww.length=dd.length+1+zbT b.length:=by rw [←hw];simp;omega
     refine .count (fun j env H'=>env 0 = .yld y∧env 1 = .ptr p 0∧env 5 = .sl n0 (1+zbT b.length+j) 1 (pl b8 (ww++ze5 (BitVec.ofInt 64 b.length*8#64) j))∧env 6 = .p (zw (BitVec.ofInt 64 b.length*8#64))∧env 7 = .p (i64 (56 - 8*(j:Int)))∧H'=(Ls (b.length / 64)).new (.tail (1+zbT b.length+j))) 0 8 (by omega) ?_ ?_ ?_
     · simp (disch:=first|exact zb|fail) only [go_sem,seval,-List.reduceReplicate,e0,e1,e5]
       simp only [ze5,List.append_nil]
     · intro env H' ⟨e0,e1,e5,e6,e7,eH⟩
       subst eH
       refine .q ?_;refine .text ?_;simp (disch:=first|exact zb|fail) only [go_sem,seval,-List.reduceReplicate,e7]
       refine .q ?_;refine .ifF (by simp (disch:=first|exact zb|fail) only [go_sem,seval,-List.reduceReplicate]) ?_
       refine .q ?_;refine .text ?_;simp (disch:=first|exact zb|fail) only [go_sem,seval,-List.reduceReplicate]
       refine .q ?_
       have hlb:zen b=ww++ze5 (BitVec.ofInt 64 b.length*8#64) 8:=by rw [zAg,hdd,hw]
       have hll:=hlen
       rw [←hlb] at e5
       generalize hx:zen b=lb at e5 hll
       refine .count (fun j env H'=>env 0 = .yld y∧env 5 = .sl n0 (1+zbT b.length+8) 1 (pl b8 lb)∧env 8 = .p (i64 (64*j:Nat))∧H'=(Ls (b.length / 64+j)).new (.tail (1+zbT b.length+8))) 0 (N / 64 - b.length / 64) (by omega) ?_ ?_ ?_
       · simp (disch:=first|exact zb|fail) only [go_sem,seval,-List.reduceReplicate,e0,e1,e5]
       · intro env H' ⟨e0,e5,e8,eH⟩
         subst eH
         have hLe:=hL (N / 64)
         have hbel:=hB (N / 64)
         have hj:b.length / 64+(N / 64 - b.length / 64)=N / 64:=by omega
         rw [hj]
         refine .q ?_;refine .text ?_;simp (disch:=first|exact zb|fail) only [go_sem,seval,-List.reduceReplicate,e5,e8]
         refine .q ?_;refine .ifF (by simp (disch:=first|exact zb|fail) only [go_sem,seval,-List.reduceReplicate]) ?_
         refine .q ?_;refine .fin Tryd.func81 (by rw [Tryd.results81]) (by simp (disch:=first|exact zb|fail) only [go_sem,seval,-List.reduceReplicate];rfl) (by simp (disch:=first|exact zb|fail) only [go_sem,seval,-List.reduceReplicate];rfl) (by (try dsimp only);repeat (first | with_reducible refine zK ?_ zb | with_reducible refine zam ?_ zb | with_reducible refine za0 ?_ zb | with_reducible refine zae ?_ | with_reducible exact hbel | with_reducible exact hbel _)) ?_;simp (disch:=first|exact zb|fail) only [go_sem,seval,-List.reduceReplicate]
         exact h
       · intro j env H' _ hj ⟨e0,e5,e8,eH⟩ ih
         subst eH
         have hLj:=hL (b.length / 64+j)
         have hLj1:=hL (b.length / 64+j+1)
         have hyi:=hy (b.length / 64+j) (by omega) [.tail (1+zbT b.length+8)]
         rw [←zo6 b j,hx] at hyi
         simp only [zcn,yJ] at hyi
         refine .q ?_;refine .text ?_;simp (disch:=first|exact zb|fail) only [go_sem,seval,-List.reduceReplicate,e5,e8]
         refine .q ?_;refine .ifT (by simp (disch:=first|exact zb|fail) only [go_sem,seval,-List.reduceReplicate]) ?_
         refine .q ?_;refine .text ?_;simp (disch:=first|exact zb|fail) only [go_sem,seval,-List.reduceReplicate,e0,e5,e8]
         refine YieldK.of (fun K hK=>hyi K hK) ?_;simp (disch:=first|exact zb|fail) only [go_sem,seval,-List.reduceReplicate]
         refine .q ?_;refine .ifF (by simp (disch:=first|exact zb|fail) only [go_sem,seval,-List.reduceReplicate]) ?_
         refine .q ?_;refine .text ?_;simp (disch:=first|exact zb|fail) only [go_sem,seval,-List.reduceReplicate,e8]
         refine ih _ _ ?_
         simp (disch:=first|exact zb|fail) only [go_sem,seval,-List.reduceReplicate,e0,e5,e8]
         exact⟨zBO (by omega),rfl⟩
     · intro j env H' _ hj ⟨e0,e1,e5,e6,e7,eH⟩ ih
       subst eH
       have ht:(56 - 8*(j:Int)).toNat=56 - 8*j:=by omega
       refine .q ?_;refine .text ?_;simp (disch:=first|exact zb|fail) only [go_sem,seval,-List.reduceReplicate,e7]
       refine .q ?_;refine .ifT (by simp (disch:=first|exact zb|fail) only [go_sem,seval,-List.reduceReplicate]) ?_
       refine .q ?_;refine .text ?_;simp (disch:=first|exact zb|fail) only [go_sem,seval,-List.reduceReplicate,e5,e6,e7,ht]
       refine .q ?_;refine .text ?_;simp (disch:=first|exact zb|fail) only [go_sem,seval,-List.reduceReplicate,e7]
       refine ih _ _ ?_
       simp (disch:=first|exact zb|fail) only [go_sem,seval,-List.reduceReplicate,e0,e1,e5,e6,e7]
       simp only [ze5,List.append_assoc,Nat.add_assoc,true_and,and_true]
       exact zBO (by omega)
   · intro j env H' _ hj ⟨e0,e1,e5,eH⟩ ih
     subst eH
     have hmj:=zqp b.length j hj
     have hmj2:(dd.length+1+j) % 64≠56:=by omega
     refine .q ?_;refine .text ?_;simp (disch:=first|exact zb|fail) only [go_sem,seval,-List.reduceReplicate,e5]
     refine .q ?_;refine .ifT (by simp (disch:=first|exact zb|fail) only [go_sem,seval,-List.reduceReplicate]) ?_
     refine .q ?_;refine .text ?_;simp (disch:=first|exact zb|fail) only [go_sem,seval,-List.reduceReplicate,e5]
     refine .q ?_
     refine ih _ _ ?_
     simp (disch:=first|exact zb|fail) only [go_sem,seval,-List.reduceReplicate,e0,e1,e5]
     simp only [List.replicate_succ',List.append_assoc,Nat.add_assoc,and_self]
 · intro i env H' _ hi ⟨e0,e1,e3,e4,eH⟩ ih
   subst eH
   have hyi:=hy i (by omega) []
   rw [zo5 b i hi] at hyi
   simp only [zcn] at hyi
   refine .q ?_;refine .text ?_;simp (disch:=first|exact zb|fail) only [go_sem,seval,-List.reduceReplicate,e3,e4]
   refine .q ?_;refine .ifT (by simp (disch:=first|exact zb|fail) only [go_sem,seval,-List.reduceReplicate]) ?_
   refine .q ?_;refine .text ?_;simp (disch:=first|exact zb|fail) only [go_sem,seval,-List.reduceReplicate,e0,e1,e4,hbox,hL]
   refine YieldK.of (fun K hK=>hyi K hK) ?_;simp (disch:=first|exact zb|fail) only [go_sem,seval,-List.reduceReplicate]
   refine .q ?_;refine .ifF (by simp (disch:=first|exact zb|fail) only [go_sem,seval,-List.reduceReplicate]) ?_
   refine .q ?_;refine .text ?_;simp (disch:=first|exact zb|fail) only [go_sem,seval,-List.reduceReplicate,e4]
   refine ih _ _ ?_
   simp (disch:=first|exact zb|fail) only [go_sem,seval,-List.reduceReplicate,e0,e1,e3,e4]
   exact zBO (by omega)

end Go.Proofs.YtmoecjgehdkhkaaDoor

/-
  The walk of the hash.
-/
namespace Go.Proofs.YtmoecjgehdkhkaaDoor
open Go Go.AL

theorem zlG {G:Globs} (b:List (BitVec 8)) (H:Hp) (R:AV → Hp → Prop) (h:R (.clo 81 [] [.ptr H.n 0]) (H.new (.cells [.p (.sl false 1 (pl b8 b))]))):ACall Tryd.prog G 68 [.p (.sl false 1 (pl b8 b))] H R:=by
 refine ACall.of_run (raw:=[]) Tryd.func68 rfl Tryd.ntmps68 (by simp) fun hbel => ?_
 refine .q ?_;refine .text ?_;simp (disch:=first|exact zb|fail) only [go_sem,seval,-List.reduceReplicate]
 refine .q ?_;refine .text ?_;simp (disch:=first|exact zb|fail) only [go_sem,seval,-List.reduceReplicate]
 refine .q ?_;refine .retKeep Tryd.func68 (by rw [Tryd.results68]) (by simp (disch:=first|exact zb|fail) only [go_sem,seval,-List.reduceReplicate];rfl) ?_;(try simp (disch:=first|exact zb|fail) only [go_sem,seval,-List.reduceReplicate])
 exact h

set_option maxHeartbeats 8000000 in
theorem zgp {G:Globs} (hG0:G 1=some (8,[.agg (pl zC inits)])) (hG1:G 3=some (64,[.agg (pl zC ks)])) (b:List (BitVec 8)) (hb:b.length≤140737488353000) (H:Hp) (R:AV → Hp → Prop) (h:R (.p (.agg (pl b8 (sha b)))) H) :
 ACall Tryd.prog G 41 [.p (.sl false 1 (pl b8 b))] H R:=by
 refine ACall.of_run (raw:=[]) Tryd.func41 rfl Tryd.ntmps41 (by simp) fun hbel => ?_
 have hi0:inits.length=8:=rfl
 have hi1:(yC (pad b) inits 0)=inits:=rfl
 refine .q ?_;refine .text ?_;simp (disch:=first|exact zb|fail) only [go_sem,seval,-List.reduceReplicate]
 refine .q ?_;refine .text ?_;simp (disch:=first|exact zb|fail) only [go_sem,seval,-List.reduceReplicate,hG0]
 refine .q ?_;refine .text ?_;simp (disch:=first|exact zb|fail) only [go_sem,seval,-List.reduceReplicate]
 refine CallK.of (fun R h=>zlG b _ R h) ?_;simp (disch:=first|exact zb|fail) only [go_sem,seval,-List.reduceReplicate]
 refine .q ?_;refine .rangeFunc (ps:=[12]) rfl (by simp (disch:=first|exact zb|fail) only [go_sem,seval,-List.reduceReplicate];rfl) (by simp (disch:=first|exact zb|fail) only [go_sem,seval,-List.reduceReplicate]) (by simp) fun L vs hL hvs hround => ?_;simp (disch:=first|exact zb|fail) only [go_sem,seval,-List.reduceReplicate]
 refine ziZ b hb (H.n+3) (H.n+2) (H.n+4) (fun i=>(((H.new (.cells (cl b8 (List.replicate 32 0#8)))).new (.cells (cl zC (yC (pad b) inits i)))).new (.cells [.p (.sl false 1 (pl b8 b))])).new (.obj vs (L .ready none))) (fun i=>by simp (disch:=first|exact zb|fail) only [go_sem,seval,-List.reduceReplicate]) (fun i => ?_) (by omega) (by omega) (fun i=>by simp (disch:=first|exact zb|fail) only [go_sem,seval,-List.reduceReplicate]) (fun i hi T K hK => ?_) _ ?_
 · (try dsimp only);(repeat (first | with_reducible exact hbel | with_reducible exact yT hbel zb | with_reducible refine za5 ?_ | with_reducible refine za6 ?_ | with_reducible refine za7 ?_ | with_reducible refine za8 hvs ?_ zb | with_reducible refine zae ?_ | with_reducible refine za9 ?_ | with_reducible refine zba ?_ | with_reducible refine zbb ?_ | with_reducible refine zbc ?_))
 · refine hround _ _ _ rfl (by simp (disch:=first|exact zb|fail) only [go_sem,seval,-List.reduceReplicate]) fun hbel2 => ?_
   dsimp only
   simp (disch:=first|exact zb|fail) only [go_sem,seval,-List.reduceReplicate]
   refine .q ?_;refine .text ?_;simp (disch:=first|exact zb|fail) only [go_sem,seval,-List.reduceReplicate]
   refine .q ?_;refine .beginRound rfl hL (by simp (disch:=first|exact zb|fail) only [go_sem,seval,-List.reduceReplicate];rfl) ?_;simp (disch:=first|exact zb|fail) only [go_sem,seval,-List.reduceReplicate]
   have hrl:(yC (pad b) inits i).length=8:=za1 _ _ hi0 i
   have hbl:(((pad b).take (64*i+64)).drop (64*i)).length=64:=by simp only [List.length_drop,List.length_take];omega
   generalize hbk:((pad b).take (64*i+64)).drop (64*i)=blk at hbl
   refine .q ?_;refine .text ?_;simp (disch:=first|exact zb|fail) only [go_sem,seval,-List.reduceReplicate]
   refine CallK.of (fun R h=>zhc hG1 _ blk hrl hbl _ (H.n+1) (by simp (disch:=first|exact zb|fail) only [go_sem,seval,-List.reduceReplicate]) (by simp (disch:=first|exact zb|fail) only [go_sem,seval,-List.reduceReplicate];omega) R h) ?_;simp (disch:=first|exact zb|fail) only [go_sem,seval,-List.reduceReplicate]
   refine .q ?_;refine .roundEndK rfl hL (by simp (disch:=first|exact zb|fail) only [go_sem,seval,-List.reduceReplicate];rfl) ?_;simp (disch:=first|exact zb|fail) only [go_sem,seval,-List.reduceReplicate]
   rw [yC,hbk] at hK
   exact hK
 · unfold zdI;refine⟨?_,.inl ⟨(by simp (disch:=first|exact zb|fail) only [go_sem,seval,-List.reduceReplicate]<;>rfl),?_⟩⟩;(try dsimp only);(repeat (first | with_reducible exact hbel | with_reducible exact yT hbel zb | with_reducible refine za5 ?_ | with_reducible refine za6 ?_ | with_reducible refine za7 ?_ | with_reducible refine za8 hvs ?_ zb | with_reducible refine zae ?_ | with_reducible refine za9 ?_ | with_reducible refine zba ?_ | with_reducible refine zbb ?_ | with_reducible refine zbc ?_));simp (disch:=first|exact zb|fail) only [go_sem,seval,-List.reduceReplicate]
   have hrl:=za1 (pad b) inits hi0 ((pad b).length / 64)
   unfold sha at h
   generalize yC (pad b) inits ((pad b).length / 64)=s at hrl h
   refine .q ?_;refine .text ?_;simp (disch:=first|exact zb|fail) only [go_sem,seval,-List.reduceReplicate]
   refine .q ?_;refine .text ?_;simp (disch:=first|exact zb|fail) only [go_sem,seval,-List.reduceReplicate]
   refine .q ?_
   refine .count (fun i env H'=>env 2 = .ptr H.n 0∧env 15 = .p (.agg (pl zC s))∧env 5 = .ptr (H.n+3) 0∧env 16 = .p (i64 i)∧H'=(((H.new (.cells (cl b8 (List.replicate 32 0#8)))).new (.cells (cl zC s))).new (.cells [.p (.sl false 1 (pl b8 b))])).new (.cells (cl b8 (dg s (4*i))))) 0 8 (by omega) ?_ ?_ ?_
   · simp (disch:=first|exact zb|fail) only [go_sem,seval,-List.reduceReplicate]
     rfl
   · intro env H' ⟨e2,e15,e5,e16,eH⟩
     subst eH
     refine .q ?_;refine .text ?_;simp (disch:=first|exact zb|fail) only [go_sem,seval,-List.reduceReplicate,e16]
     refine .q ?_;refine .ifF (by simp (disch:=first|exact zb|fail) only [go_sem,seval,-List.reduceReplicate]) ?_
     refine .q ?_;refine .text ?_;simp (disch:=first|exact zb|fail) only [go_sem,seval,-List.reduceReplicate,e2,e5]
     refine .q ?_;refine .rt Tryd.func41 (by rw [Tryd.results41]) (hx:=by simp (disch:=first|exact zb|fail) only [go_sem,seval,-List.reduceReplicate,e2];rfl) (hR := ?_);simp (disch:=first|exact zb|fail) only [go_sem,seval,-List.reduceReplicate,e2]
     exact h
   · intro i env H' _ hi ⟨e2,e15,e5,e16,eH⟩ ih
     subst eH
     refine .q ?_;refine .text ?_;simp (disch:=first|exact zb|fail) only [go_sem,seval,-List.reduceReplicate,e16]
     refine .q ?_;refine .ifT (by simp (disch:=first|exact zb|fail) only [go_sem,seval,-List.reduceReplicate]) ?_
     refine .q ?_;refine .text ?_;simp (disch:=first|exact zb|fail) only [go_sem,seval,-List.reduceReplicate,e15,e16]
     refine .q ?_;refine .text ?_;simp (disch:=first|exact zb|fail) only [go_sem,seval,-List.reduceReplicate]
     refine .q ?_
     refine .count (fun k env H'=>env 2 = .ptr H.n 0∧env 15 = .p (.agg (pl zC s))∧env 5 = .ptr (H.n+3) 0∧env 16 = .p (i64 i)∧env 6 = .p (i64 i)∧env 7 = .p (zC (nth s i))∧env 20 = .p (i64 k)∧H'=(((H.new (.cells (cl b8 (List.replicate 32 0#8)))).new (.cells (cl zC s))).new (.cells [.p (.sl false 1 (pl b8 b))])).new (.cells (cl b8 (dg s (4*i+k))))) 0 4 (by omega) ?_ ?_ ?_
     · simp (disch:=first|exact zb|fail) only [go_sem,seval,-List.reduceReplicate,e2,e15,e5,e16]
     · intro env H' ⟨e2,e15,e5,e16,e6,e7,e20,eH⟩
       subst eH
       refine .q ?_;refine .text ?_;simp (disch:=first|exact zb|fail) only [go_sem,seval,-List.reduceReplicate,e20]
       refine .q ?_;refine .ifF (by simp (disch:=first|exact zb|fail) only [go_sem,seval,-List.reduceReplicate]) ?_
       refine .q ?_;refine .text ?_;simp (disch:=first|exact zb|fail) only [go_sem,seval,-List.reduceReplicate,e16]
       refine ih _ _ ?_
       simp (disch:=first|exact zb|fail) only [go_sem,seval,-List.reduceReplicate,e2,e15,e5,e16]
       rw [Nat.mul_add]
     · intro k env H' _ hk ⟨e2,e15,e5,e16,e6,e7,e20,eH⟩ ih2
       subst eH
       have ht:(24 - 8*(k:Int)).toNat=24 - 8*k:=by omega
       refine .q ?_;refine .text ?_;simp (disch:=first|exact zb|fail) only [go_sem,seval,-List.reduceReplicate,e20]
       refine .q ?_;refine .ifT (by simp (disch:=first|exact zb|fail) only [go_sem,seval,-List.reduceReplicate]) ?_
       refine .q ?_;refine .text ?_;simp (disch:=first|exact zb|fail) only [go_sem,seval,-List.reduceReplicate,e20]
       refine .q ?_;refine .text ?_;simp (disch:=first|exact zb|fail) only [go_sem,seval,-List.reduceReplicate,e5,e6,e7,ht]
       refine .q ?_;refine .text ?_;simp (disch:=first|exact zb|fail) only [go_sem,seval,-List.reduceReplicate,e20]
       refine ih2 _ _ ?_
       simp (disch:=first|exact zb|fail) only [go_sem,seval,-List.reduceReplicate,e2,e15,e5,e16,e6,e7,e20]
       have h1:(4*i+k) / 4=i:=by omega
       have h2:(4*i+k) % 4=k:=by omega
       rw [←Nat.add_assoc,dg,h1,h2]

end Go.Proofs.YtmoecjgehdkhkaaDoor

/-
  slices.Grow at nil,by the library's contract.
-/
namespace Go.Proofs.YtmoecjgehdkhkaaDoor
open Go Go.AL Go.Proofs Go.Shelf

def ren41:Ren:=⟨fun n=>if n=4 then 88 else n,fun n=>if n=25 then 5 else if n=22 then 28 else if n=20 then 20 else if n=9 then 9 else if n=4 then 4 else if n=3 then 3 else if n=0 then 0 else n,fun n=>n⟩

theorem ztT:Lays8.n4 Tryd.prog ren41 where
  mixed:=follows
  f4 := ⟨"slices.Grow[[]byte,byte]", by decide, by kernel_rfl⟩
  t0:=Tryd.underlying0
  a0:=fun w=>by kernel_rfl
  z0:=fun w=>by kernel_rfl
  v0:=fun w=>by kernel_rfl
  t3:=Tryd.underlying3
  a3:=fun w=>by kernel_rfl
  z3:=fun w=>by kernel_rfl
  v3:=fun w=>by kernel_rfl
  t4:=Tryd.underlying4
  a4:=fun w=>by kernel_rfl
  z4:=fun w=>by kernel_rfl
  v4:=fun w=>by kernel_rfl
  t9:=Tryd.underlying9
  a9:=fun w=>by kernel_rfl
  z9:=fun w=>by kernel_rfl
  v9:=fun w=>by kernel_rfl
  t20:=Tryd.underlying20
  a20:=fun w=>by kernel_rfl
  z20:=fun w=>by kernel_rfl
  v20:=fun w=>by kernel_rfl
  t22:=Tryd.underlying28
  a22:=fun w=>by kernel_rfl
  z22:=fun w=>by kernel_rfl
  v22:=fun w=>by kernel_rfl

theorem zOt:Tryd.prog.info? 5=some Tryd.t5:=by kernel_rfl

theorem ztU {G:Globs} (n:Nat) (hn0:0 < n) (hn:n≤140737488355300) (H:Hp) (R:AV → Hp → Prop) (h:R (.sl H.n 0 1 []) (H.new (.tail 0))) :
 ACall Tryd.prog G 88 [.p (.s (.slice none 0 0)),.p (i64 n)] H R:=by
 intro σ w vs hr hvs
 have hs:vs.size=2:=hvs.1
 have r0:=hvs.2 0 _ vs[0] rfl (by simp)
 have r1:=hvs.2 1 _ vs[1] rfl (by simp)
 have e1:vs[1] = .int .i64 n:=by
  generalize vs[1]=v at r1
  cases r1 with | p r=>cases r;rfl
 obtain⟨base,e0⟩ : ∃ base,vs[0] = .slice base 0 0:=by
  generalize vs[0]=v at r0
  cases r0 with | p r =>
  cases r;exact⟨none,rfl⟩
 have hv:vs = #[.slice base 0 0,.int .i64 n]:=by
  apply Array.ext
  · simp [hs]
  · intro i h1 h2
    have:i=0 ∨ i=1:=by simp at h2;omega
    rcases this with rfl | rfl
    · simpa using e0
    · simpa using e1
 have hc:=Any8.slices_Grow_grow ztT Tryd.t5 (.int .u8 0) zOt rfl (by decide) base 0 0 n [] w (Nat.le_refl _) (by omega) (by show (0+n)*1≤_;omega) (by omega) rfl (fun _=>rfl) (by simp)
 rw [hv]
 refine Calls.mono hc ?_
 rintro e w' ⟨rfl,rfl⟩
 generalize hC:(([]:List Value).toArray++Builtin.zeroCells (Value.int .u8 0).cells (0+n - 0)++Builtin.zeroCells (Value.int .u8 0).cells (grownCap w (0+n) 0 (ren41.t 25) - (0+n)))=C
 have hCs:grownCap w (0+n) 0 (ren41.t 25)≤C.size:=by
  rw [←hC]
  simp [Builtin.zeroCells,Value.cells]
  omega
 have hmax:grownCap w (0+n) 0 (ren41.t 25)≤maxLen:=grownCap_le_maxLen w _ _ _ (by unfold maxLen;omega)
 generalize grownCap w (0+n) 0 (ren41.t 25)=cap at hCs hmax
 obtain⟨h1,h2⟩:=zaz hr (w':=w.drew.alloc (.cells C (ren41.t 25))) (by show w.drew.heap.size≤_;simp) (fun g hg=>heap_alloc_old w.drew _ hg) rfl rfl
  (some (w.heap.size,0,C.size)) (fun g o s hh=>by cases hh;exact⟨Nat.le_refl _,_,_,heap_alloc_new w.drew _,rfl⟩)
 refine⟨_,_,_,_,h,rfl,h1,.sl ?_ ⟨by simp [Hp.n_new],fun k0 d hk0 => ?_⟩,h2⟩
 · exact .sl false _ [] _ 0 _ (fun _=>undef) (by simp) ⟨by simp,hmax⟩ (by simp) (by simp) (by simp [flat])
 · simp [Hp.f_new] at hk0
   exact⟨by omega,fun _ => .inr ⟨w.heap.size,0,0,cap,C.size,by simp,by simp [Gh.withT],by omega⟩⟩

end Go.Proofs.YtmoecjgehdkhkaaDoor

/-
  The walk of slices.Concat.
-/
namespace Go.Proofs.YtmoecjgehdkhkaaDoor
open Go Go.AL

def bs (l:List (BitVec 8)):PV := .sl false 1 (pl b8 l)
theorem zlH (l:List (BitVec 8)):(bs l).cells=[bs l]:=rfl
theorem zAh (l:List (BitVec 8)):AV.p (bs l) = .p (.sl false 1 (pl b8 l)):=rfl
def tot (ps:List (List (BitVec 8))):Nat → Nat
 | 0=>0
 | i+1=>tot ps i+(nth ps i).length
def cat (ps:List (List (BitVec 8))):Nat → List (BitVec 8)
 | 0=>[]
 | i+1=>cat ps i++nth ps i
theorem zIC (ps:List (List (BitVec 8))) (i:Nat):(cat ps i).length=tot ps i:=by
 induction i with
 | zero=>rfl
 | succ i ih=>simp [cat,tot,ih]
theorem zlI (ps:List (List (BitVec 8))) {i j:Nat} (h:i≤j):tot ps i≤tot ps j:=by
  induction j with
  | zero => have : i = 0 := by omega
            subst this;exact Nat.le_refl _
  | succ j ih =>
    by_cases e:i=j+1
    · rw [e];exact Nat.le_refl _
    · have:=ih (by omega);simp only [tot];omega

set_option maxHeartbeats 8000000 in
theorem zlJ {G:Globs} (ps:List (List (BitVec 8))) (hn:ps.length≤1000) (h0:0 < tot ps ps.length) (h1:tot ps ps.length≤140737488355000) (H:Hp) (R:AV → Hp → Prop) (h:R (.p (.sl false 1 (pl b8 (cat ps ps.length)))) H) :
 ACall Tryd.prog G 86 [.p (.sl false 1 (pl bs ps))] H R:=by
 refine ACall.of_run (raw:=[88]) Tryd.func86 rfl Tryd.ntmps86 (by simp) fun hbel => ?_
 refine .q ?_;refine .text ?_;simp (disch:=first|exact zb|fail) only [go_sem,seval]
 refine .q ?_;refine .text ?_;simp (disch:=first|exact zb|fail) only [go_sem,seval]
 refine .q ?_;refine .text ?_;simp (disch:=first|exact zb|fail) only [go_sem,seval]
 refine .q ?_
 refine .count (fun i env H'=>env 0 = .p (.sl false 1 (pl bs ps))∧env 3 = .p (i64 (tot ps i))∧env 9 = .p (.sl false 1 (pl bs ps))∧env 10 = .p (i64 ps.length)∧env 11 = .p (i64 i)∧H'=H) 0 ps.length (by omega) ?_ ?_ ?_
 · simp (disch:=first|exact zb|fail) only [go_sem,seval]
   rfl
 · intro env H' ⟨e0,e3,e9,e10,e11,eH⟩
   subst eH
   refine .q ?_;refine .text ?_;simp (disch:=first|exact zb|fail) only [go_sem,seval,e10,e11]
   refine .q ?_;refine .ifF (by simp (disch:=first|exact zb|fail) only [go_sem,seval]) ?_
   refine .q ?_;refine .text ?_;simp (disch:=first|exact zb|fail) only [go_sem,seval,e3]
   refine CallK.of (fun R h=>ztU _ h0 (by omega) _ R h) ?_;simp (disch:=first|exact zb|fail) only [go_sem,seval]
   refine .q ?_;refine .text ?_;simp (disch:=first|exact zb|fail) only [go_sem,seval,e0]
   refine .q ?_
   refine .count (fun i env H2=>env 6 = .sl H'.n i 1 (pl b8 (cat ps i))∧env 25 = .p (.sl false 1 (pl bs ps))∧env 26 = .p (i64 ps.length)∧env 27 = .p (i64 i)∧H2=H'.new (.tail i)) 0 ps.length (by omega) ?_ ?_ ?_
   · simp (disch:=first|exact zb|fail) only [go_sem,seval]
     rfl
   · intro env H2 ⟨e6,e25,e26,e27,eH⟩
     subst eH
     refine .q ?_;refine .text ?_;simp (disch:=first|exact zb|fail) only [go_sem,seval,e26,e27]
     refine .q ?_;refine .ifF (by simp (disch:=first|exact zb|fail) only [go_sem,seval]) ?_
     refine .q ?_;refine .text ?_;simp (disch:=first|exact zb|fail) only [go_sem,seval,e6]
     refine .q ?_;refine .rt Tryd.func86 (by rw [Tryd.results86]) (hR := ?_);simp (disch:=first|exact zb|fail) only [go_sem,seval]
     exact h
   · intro i env H2 _ hi ⟨e6,e25,e26,e27,eH⟩ ih
     subst eH
     have hm:=zlI ps (show i+1≤ps.length by omega)
     have hs:tot ps (i+1)=tot ps i+(nth ps i).length:=rfl
     have hcl:(cat ps i).length=tot ps i:=zIC ps i
     refine .q ?_;refine .text ?_;simp (disch:=first|exact zb|fail) only [go_sem,seval,e26,e27]
     refine .q ?_;refine .ifT (by simp (disch:=first|exact zb|fail) only [go_sem,seval]) ?_
     refine .q ?_;refine .text ?_;simp (disch:=first|exact zb|fail) only [go_sem,seval,e25,e27,zlH,zAh]
     refine .q ?_;refine .text ?_;simp (disch:=first|exact zb|fail) only [go_sem,seval,e6]
     refine .q ?_;refine .text ?_;simp (disch:=first|exact zb|fail) only [go_sem,seval,e27]
     refine ih _ _ ?_
     simp (disch:=first|exact zb|fail) only [go_sem,seval,e6,e25,e26,e27]
     rfl
 · intro i env H' _ hi ⟨e0,e3,e9,e10,e11,eH⟩ ih
   subst eH
   have hm:=zlI ps (show i+1≤ps.length by omega)
   have hs:tot ps (i+1)=tot ps i+(nth ps i).length:=rfl
   refine .q ?_;refine .text ?_;simp (disch:=first|exact zb|fail) only [go_sem,seval,e10,e11]
   refine .q ?_;refine .ifT (by simp (disch:=first|exact zb|fail) only [go_sem,seval]) ?_
   refine .q ?_;refine .text ?_;simp (disch:=first|exact zb|fail) only [go_sem,seval,e9,e11,zlH,zAh]
   refine .q ?_;refine .text ?_;simp (disch:=first|exact zb|fail) only [go_sem,seval,e3]
   refine .q ?_;refine .text ?_;simp (disch:=first|exact zb|fail) only [go_sem,seval]
   refine .q ?_;refine .ifF (by simp (disch:=first|exact zb|fail) only [go_sem,seval]) ?_
   refine .q ?_;refine .text ?_;simp (disch:=first|exact zb|fail) only [go_sem,seval,e11]
   refine ih _ _ ?_
   simp (disch:=first|exact zb|fail) only [go_sem,seval,e0,e3,e9,e10,e11]
   rw [hs]
   rfl

end Go.Proofs.YtmoecjgehdkhkaaDoor

/-
  The walks of the leaf's,the pair's and the keyed hash.
-/
namespace Go.Proofs.YtmoecjgehdkhkaaDoor
open Go Go.AL

theorem zOu (a b c:List (BitVec 8)):[PV.sl false 1 (pl b8 a),PV.sl false 1 (pl b8 b),PV.sl false 1 (pl b8 c)]=pl bs [a,b,c]:=rfl
theorem zRs (a b c:List (BitVec 8)):cat [a,b,c] 3=a++b++c:=by simp [cat,nth]
theorem zPO (a b c:List (BitVec 8)):tot [a,b,c] 3=a.length+b.length+c.length:=by simp [tot,nth]

set_option maxHeartbeats 8000000 in
theorem ztV {G:Globs} (hG0:G 1=some (8,[.agg (pl zC inits)])) (hG1:G 3=some (64,[.agg (pl zC ks)])) (a b:List (BitVec 8)) (ha:a.length=32) (hb:b.length=32) (H:Hp) (R:AV → Hp → Prop) (h:R (.p (.agg (pl b8 (pair a b)))) H) :
 ACall Tryd.prog G 72 [.p (.agg (pl b8 a)),.p (.agg (pl b8 b))] H R:=by
 refine ACall.of_run (raw:=[]) Tryd.func72 rfl Tryd.ntmps72 (by simp) fun hbel => ?_
 refine .q ?_;refine .text ?_;simp (disch:=first|exact zb|fail) only [go_sem,seval,-List.reduceReplicate]
 refine .q ?_;refine .frzP 2 (by simp (disch:=first|exact zb|fail) only [go_sem,seval,-List.reduceReplicate];rfl) (by simp (disch:=first|exact zb|fail) only [go_sem,seval,-List.reduceReplicate]<;>rfl) (fun _=>rfl) (by first | exact zb | fail) ?_;(try simp (disch:=first|exact zb|fail) only [go_sem,seval,-List.reduceReplicate])
 refine .q ?_;refine .frzP 3 (by simp (disch:=first|exact zb|fail) only [go_sem,seval,-List.reduceReplicate];rfl) (by simp (disch:=first|exact zb|fail) only [go_sem,seval,-List.reduceReplicate]<;>rfl) (fun _=>rfl) (by first | exact zb | fail) ?_;(try simp (disch:=first|exact zb|fail) only [go_sem,seval,-List.reduceReplicate])
 refine .q ?_;refine .open [6] follows (by kernel_rfl) ?_;simp (disch:=first|exact zb|fail) only [go_sem,seval,-List.reduceReplicate,zOu]
 refine CallD.still (fun R h=>zlJ [[1#8],a,b] (by simp) (by simp [zPO];omega) (by simp [zPO];omega) _ R h) ?_;simp (disch:=first|exact zb|fail) only [go_sem,seval,-List.reduceReplicate,zRs]
 refine CallD.still (fun R h=>zgp hG0 hG1 ([1#8]++a++b) (by simp;omega) _ R h) ?_;simp (disch:=first|exact zb|fail) only [go_sem,seval,-List.reduceReplicate]
 refine .q ?_;refine .rt Tryd.func72 (by rw [Tryd.results72]) (hR := ?_);simp (disch:=first|exact zb|fail) only [go_sem,seval,-List.reduceReplicate]
 exact h

def fl (m:BitVec 8):Nat → List (BitVec 8)
 | 0=>List.replicate 64 0#8
 | i+1=>(fl m i).set i m
theorem zOv (m:BitVec 8) (i:Nat):(fl m i).length=64:=by
 induction i with
 | zero=>simp [fl]
 | succ i ih=>simp [fl,ih]
def xk (k:List (BitVec 8)) (m:BitVec 8):Nat → List (BitVec 8)
 | 0=>List.replicate 64 m
 | i+1=>(xk k m i).set i (nth (xk k m i) i ^^^ nth k i)
theorem zOw (k:List (BitVec 8)) (m:BitVec 8) (i:Nat):(xk k m i).length=64:=by
 induction i with
 | zero=>simp [xk]
 | succ i ih=>simp [xk,ih]
attribute [go_sem] zOv zOw

end Go.Proofs.YtmoecjgehdkhkaaDoor

/-
  The walks of the reference's padding,digest and joins.
-/
namespace Go.Proofs.YtmoecjgehdkhkaaDoor
open Go Go.AL

set_option maxHeartbeats 8000000 in
theorem zhM {G:Globs} (a b:List (BitVec 8)) (ha:a.length≤140737488355000) (hb:a.length+b.length≤140737488355300) (H:Hp) (R:AV → Hp → Prop) (h:R (.p (.sl false 1 (pl b8 (a++b)))) H) :
 ACall Tryd.prog G 54 [.p (.sl false 1 (pl b8 a)),.p (.sl false 1 (pl b8 b))] H R:=by
 refine ACall.of_run (raw:=[]) Tryd.func54 rfl Tryd.ntmps54 (by simp) fun hbel => ?_
 refine .q ?_;refine .text ?_;simp (disch:=first|exact zb|fail) only [go_sem,seval,-List.reduceReplicate]
 refine .q ?_;refine .text ?_;simp (disch:=first|exact zb|fail) only [go_sem,seval,-List.reduceReplicate]
 refine .q ?_;refine .text ?_;simp (disch:=first|exact zb|fail) only [go_sem,seval,-List.reduceReplicate]
 refine .q ?_;refine .text ?_;simp (disch:=first|exact zb|fail) only [go_sem,seval,-List.reduceReplicate]
 refine .q ?_;refine .rt Tryd.func54 (by rw [Tryd.results54]) (hR := ?_);simp (disch:=first|exact zb|fail) only [go_sem,seval,-List.reduceReplicate]
 exact h

set_option maxHeartbeats 8000000 in
theorem zAi {G:Globs} (b:List (BitVec 8)) (hb:b.length≤140737488355000) (H:Hp) (R:AV → Hp → Prop) (h:R (.p (.sl false 1 (pl b8 (pad b)))) H) :
 ACall Tryd.prog G 56 [.p (.sl false 1 (pl b8 b))] H R:=by
 refine ACall.of_run (raw:=[]) Tryd.func56 rfl Tryd.ntmps56 (by simp) fun hbel => ?_
 have hpn:=ziX b.length
 refine .q ?_;refine .text ?_;simp (disch:=first|exact zb|fail) only [go_sem,seval,-List.reduceReplicate]
 refine .q ?_;refine .text ?_;simp (disch:=first|exact zb|fail) only [go_sem,seval,-List.reduceReplicate]
 refine .q ?_;refine .text ?_;simp (disch:=first|exact zb|fail) only [go_sem,seval,-List.reduceReplicate]
 refine .q ?_
 refine .count (fun j env H'=>env 0 = .p (.sl false 1 (pl b8 b))∧env 3 = .sl H.n (1+j) 1 (pl b8 (b++[128#8]++List.replicate j 0#8))∧H'=H.new (.tail (1+j))) 0 (zbT b.length) (by omega) ?_ ?_ ?_
 · simp (disch:=first|exact zb|fail) only [go_sem,seval,-List.reduceReplicate]
   simp only [List.replicate_zero,List.append_nil]
 · intro env H' ⟨e0,e3,eH⟩
   subst eH
   have hm:=zgo b.length
   refine .q ?_;refine .text ?_;simp (disch:=first|exact zb|fail) only [go_sem,seval,-List.reduceReplicate,e0,e3]
   refine .q ?_;refine .ifF (by simp (disch:=first|exact zb|fail) only [go_sem,seval,-List.reduceReplicate]) ?_
   refine .q ?_;refine .text ?_;simp (disch:=first|exact zb|fail) only [go_sem,seval,-List.reduceReplicate,e0]
   refine .q ?_;refine .text ?_;simp (disch:=first|exact zb|fail) only [go_sem,seval,-List.reduceReplicate,e3]
   refine .q ?_
   refine .count (fun i env H'=>env 3 = .sl H.n (1+zbT b.length+i) 1 (pl b8 (b++[128#8]++List.replicate (zbT b.length) 0#8++ze5 (BitVec.ofInt 64 b.length*8#64) i))∧env 4 = .p (zw (BitVec.ofInt 64 b.length*8#64))∧env 5 = .p (i64 i)∧H'=H.new (.tail (1+zbT b.length+i))) 0 8 (by omega) ?_ ?_ ?_
   · simp (disch:=first|exact zb|fail) only [go_sem,seval,-List.reduceReplicate,e3]
     simp only [ze5,List.append_nil]
   · intro env H' ⟨e3,e4,e5,eH⟩
     subst eH
     refine .q ?_;refine .text ?_;simp (disch:=first|exact zb|fail) only [go_sem,seval,-List.reduceReplicate,e5]
     refine .q ?_;refine .ifF (by simp (disch:=first|exact zb|fail) only [go_sem,seval,-List.reduceReplicate]) ?_
     refine .q ?_;refine .text ?_;simp (disch:=first|exact zb|fail) only [go_sem,seval,-List.reduceReplicate,e3]
     refine .q ?_;refine .rt Tryd.func56 (by rw [Tryd.results56]) (hR := ?_);simp (disch:=first|exact zb|fail) only [go_sem,seval,-List.reduceReplicate]
     exact h
   · intro i env H' _ hi ⟨e3,e4,e5,eH⟩ ih
     subst eH
     have ht:(56 - 8*(i:Int)).toNat=56 - 8*i:=by omega
     refine .q ?_;refine .text ?_;simp (disch:=first|exact zb|fail) only [go_sem,seval,-List.reduceReplicate,e5]
     refine .q ?_;refine .ifT (by simp (disch:=first|exact zb|fail) only [go_sem,seval,-List.reduceReplicate]) ?_
     refine .q ?_;refine .text ?_;simp (disch:=first|exact zb|fail) only [go_sem,seval,-List.reduceReplicate,e3,e4,e5,ht]
     refine .q ?_;refine .text ?_;simp (disch:=first|exact zb|fail) only [go_sem,seval,-List.reduceReplicate,e5]
     refine ih _ _ ?_
     simp (disch:=first|exact zb|fail) only [go_sem,seval,-List.reduceReplicate,e3,e4,e5]
     simp only [ze5,List.append_assoc,Nat.add_assoc,and_self]
 · intro j env H' _ hj ⟨e0,e3,eH⟩ ih
   subst eH
   have hm:=zqp b.length j hj
   refine .q ?_;refine .text ?_;simp (disch:=first|exact zb|fail) only [go_sem,seval,-List.reduceReplicate,e0,e3]
   refine .q ?_;refine .ifT (by simp (disch:=first|exact zb|fail) only [go_sem,seval,-List.reduceReplicate]) ?_
   refine .q ?_;refine .text ?_;simp (disch:=first|exact zb|fail) only [go_sem,seval,-List.reduceReplicate,e3]
   refine .q ?_
   refine ih _ _ ?_
   simp (disch:=first|exact zb|fail) only [go_sem,seval,-List.reduceReplicate,e0,e3]
   simp only [List.replicate_succ',List.append_assoc,Nat.add_assoc,and_self]

set_option maxHeartbeats 8000000 in
theorem zcq {G:Globs} (d:List (BitVec 8)) (hd:d.length=32) (H:Hp) (R:AV → Hp → Prop) (h:R (.p (.sl false 1 (pl b8 d))) H) :
 ACall Tryd.prog G 44 [.p (.agg (pl b8 d))] H R:=by
 refine ACall.of_run (raw:=[]) Tryd.func44 rfl Tryd.ntmps44 (by simp) fun hbel => ?_
 refine .q ?_;refine .text ?_;simp (disch:=first|exact zb|fail) only [go_sem,seval,-List.reduceReplicate]
 refine .q ?_;refine .text ?_;simp (disch:=first|exact zb|fail) only [go_sem,seval,-List.reduceReplicate]
 refine .q ?_;refine .text ?_;simp (disch:=first|exact zb|fail) only [go_sem,seval,-List.reduceReplicate]
 refine .q ?_
 refine .q ?_;refine .own 3 (by simp (disch:=first|exact zb|fail) only [go_sem,seval,-List.reduceReplicate];rfl) ?_
 refine .count (fun i env H'=>env 1 = .ptr H.n 0∧env 4 = .p (i64 i)∧env 3 = .sl (H.n+1) i 1 (pl b8 (d.take i))∧H'=(H.new (.cells (cl b8 d))).new (.tail i)) 0 32 (by omega) ?_ ?_ ?_
 · simp (disch:=first|exact zb|fail) only [go_sem,seval,-List.reduceReplicate]
   rfl
 · intro env H' ⟨e1,e4,e3,eH⟩
   subst eH
   refine .q ?_;refine .text ?_;simp (disch:=first|exact zb|fail) only [go_sem,seval,-List.reduceReplicate,e4]
   refine .q ?_;refine .ifF (by simp (disch:=first|exact zb|fail) only [go_sem,seval,-List.reduceReplicate]) ?_
   refine .q ?_;refine .text ?_;simp (disch:=first|exact zb|fail) only [go_sem,seval,-List.reduceReplicate,e3]
   refine .q ?_;refine .rt Tryd.func44 (by rw [Tryd.results44]) (hR := ?_);simp (disch:=first|exact zb|fail) only [go_sem,seval,-List.reduceReplicate]
   exact h
 · intro i env H' _ hi ⟨e1,e4,e3,eH⟩ ih
   subst eH
   refine .q ?_;refine .text ?_;simp (disch:=first|exact zb|fail) only [go_sem,seval,-List.reduceReplicate,e4]
   refine .q ?_;refine .ifT (by simp (disch:=first|exact zb|fail) only [go_sem,seval,-List.reduceReplicate]) ?_
   refine .q ?_;refine .text ?_;simp (disch:=first|exact zb|fail) only [go_sem,seval,-List.reduceReplicate,e1,e3,e4]
   refine .q ?_;refine .text ?_;simp (disch:=first|exact zb|fail) only [go_sem,seval,-List.reduceReplicate,e4]
   refine ih _ _ ?_
   simp (disch:=first|exact zb|fail) only [go_sem,seval,-List.reduceReplicate,e1,e3,e4]

set_option maxHeartbeats 8000000 in
theorem zlK {G:Globs} (s:List (BitVec 32)) (hs:s.length=8) (H:Hp) (R:AV → Hp → Prop) (h:R (.p (.agg (pl b8 (dg s 32)))) H) :
 ACall Tryd.prog G 58 [.p (.agg (pl zC s))] H R:=by
 refine ACall.of_run (raw:=[]) Tryd.func58 rfl Tryd.ntmps58 (by simp) fun hbel => ?_
 refine .q ?_;refine .text ?_;simp (disch:=first|exact zb|fail) only [go_sem,seval,-List.reduceReplicate]
 refine .q ?_;refine .text ?_;simp (disch:=first|exact zb|fail) only [go_sem,seval,-List.reduceReplicate]
 refine .q ?_;refine .text ?_;simp (disch:=first|exact zb|fail) only [go_sem,seval,-List.reduceReplicate]
 refine .q ?_
 refine .count (fun i env H'=>env 1 = .ptr H.n 0∧env 2 = .ptr (H.n+1) 0∧env 3 = .ptr (H.n+2) 0∧env 4 = .p (i64 i)∧H'=((H.new (.cells (cl zC s))).new (.cells (cl b8 (List.replicate 32 0#8)))).new (.cells (cl b8 (dg s i)))) 0 32 (by omega) ?_ ?_ ?_
 · simp (disch:=first|exact zb|fail) only [go_sem,seval,-List.reduceReplicate]
   rw [dg]
 · intro env H' ⟨e1,e2,e3,e4,eH⟩
   subst eH
   refine .q ?_;refine .text ?_;simp (disch:=first|exact zb|fail) only [go_sem,seval,-List.reduceReplicate,e4]
   refine .q ?_;refine .ifF (by simp (disch:=first|exact zb|fail) only [go_sem,seval,-List.reduceReplicate]) ?_
   refine .q ?_;refine .text ?_;simp (disch:=first|exact zb|fail) only [go_sem,seval,-List.reduceReplicate,e2,e3]
   refine .q ?_;refine .rt Tryd.func58 (by rw [Tryd.results58]) (hx:=by simp (disch:=first|exact zb|fail) only [go_sem,seval,-List.reduceReplicate,e2];rfl) (hR := ?_);simp (disch:=first|exact zb|fail) only [go_sem,seval,-List.reduceReplicate,e2]
   exact h
 · intro i env H' _ hi ⟨e1,e2,e3,e4,eH⟩ ih
   subst eH
   have ht:(24 - 8*((i:Int) % 4)).toNat=24 - 8*(i % 4):=by omega
   refine .q ?_;refine .text ?_;simp (disch:=first|exact zb|fail) only [go_sem,seval,-List.reduceReplicate,e4]
   refine .q ?_;refine .ifT (by simp (disch:=first|exact zb|fail) only [go_sem,seval,-List.reduceReplicate]) ?_
   refine .q ?_;refine .text ?_;simp (disch:=first|exact zb|fail) only [go_sem,seval,-List.reduceReplicate,e1,e3,e4,ht]
   refine .q ?_;refine .text ?_;simp (disch:=first|exact zb|fail) only [go_sem,seval,-List.reduceReplicate,e4]
   refine ih _ _ ?_
   simp (disch:=first|exact zb|fail) only [go_sem,seval,-List.reduceReplicate,e1,e2,e3,e4]
   rw [dg]

end Go.Proofs.YtmoecjgehdkhkaaDoor

/-
  The walks of the reference's hash,leaf,pair and keyed hash.
-/
namespace Go.Proofs.YtmoecjgehdkhkaaDoor
open Go Go.AL

theorem zID (b:List (BitVec 8)):(pad b).length % 64=0:=by
 rw [ziY]
 have:=zgo b.length
 omega

set_option maxHeartbeats 8000000 in
theorem zbA {G:Globs} (b:List (BitVec 8)) (hb:b.length≤140737488355000) (H:Hp) (R:AV → Hp → Prop) (h:R (.p (.agg (pl b8 (sha b)))) H) :
 ACall Tryd.prog G 29 [.p (.sl false 1 (pl b8 b))] H R:=by
 refine ACall.of_run (raw:=[]) Tryd.func29 rfl Tryd.ntmps29 (by simp) fun hbel => ?_
 have hm:=zID b
 have hl:(pad b).length≤140737488355100:=by rw [ziY];have:=ziX b.length;omega
 have hi0:inits.length=8:=rfl
 unfold sha at h
 generalize hp:pad b=p at hm hl h
 refine .q ?_;refine .text ?_;simp (disch:=first|exact zb|fail) only [go_sem,seval,-List.reduceReplicate]
 refine .q ?_;refine .text ?_;simp (disch:=first|exact zb|fail) only [go_sem,seval,-List.reduceReplicate]
 refine CallK.of (fun R h=>ziW _ R h) ?_;simp (disch:=first|exact zb|fail) only [go_sem,seval,-List.reduceReplicate]
 refine CallK.of (fun R h=>zAi b hb _ R h) ?_;simp (disch:=first|exact zb|fail) only [go_sem,seval,-List.reduceReplicate,hp]
 refine .q ?_;refine .text ?_;simp (disch:=first|exact zb|fail) only [go_sem,seval,-List.reduceReplicate]
 refine .q ?_
 refine .count (fun i env H'=>env 2 = .ptr H.n 0∧env 3 = .ptr (H.n+1) 0∧env 4 = .p (.sl false 1 (pl b8 p))∧env 5 = .p (i64 (64*i:Nat)) ∧
  H'=(H.new (.cells (cl b8 (List.replicate 32 0#8)))).new (.cells (cl zC (yC p inits i)))) 0 (p.length / 64) (by omega) ?_ ?_ ?_
 · simp (disch:=first|exact zb|fail) only [go_sem,seval,-List.reduceReplicate]
   rw [yC]
 · intro env H' ⟨e2,e3,e4,e5,eH⟩
   subst eH
   have hr:(yC p inits (p.length / 64)).length=8:=za1 _ _ hi0 _
   generalize yC p inits (p.length / 64)=s at hr h
   have h64:64*(p.length / 64)=p.length:=by omega
   rw [h64] at e5
   refine .q ?_;refine .text ?_;simp (disch:=first|exact zb|fail) only [go_sem,seval,-List.reduceReplicate,e4,e5]
   refine .q ?_;refine .ifF (by simp (disch:=first|exact zb|fail) only [go_sem,seval,-List.reduceReplicate]) ?_
   refine .q ?_;refine .text ?_;simp (disch:=first|exact zb|fail) only [go_sem,seval,-List.reduceReplicate,e3]
   refine CallK.of (fun R h=>zlK s hr _ R h) ?_;simp (disch:=first|exact zb|fail) only [go_sem,seval,-List.reduceReplicate,e2]
   refine .q ?_;refine .rt Tryd.func29 (by rw [Tryd.results29]) (hx:=by simp (disch:=first|exact zb|fail) only [go_sem,seval,-List.reduceReplicate,e2];rfl) (hR := ?_);simp (disch:=first|exact zb|fail) only [go_sem,seval,-List.reduceReplicate,e2]
   exact h
 · intro i env H' _ hi ⟨e2,e3,e4,e5,eH⟩ ih
   subst eH
   have hr:(yC p inits i).length=8:=za1 _ _ hi0 _
   have hlen:(List.drop (64*i) (List.take (64*i+64) p)).length=64:=by simp;omega
   refine .q ?_;refine .text ?_;simp (disch:=first|exact zb|fail) only [go_sem,seval,-List.reduceReplicate,e4,e5]
   refine .q ?_;refine .ifT (by simp (disch:=first|exact zb|fail) only [go_sem,seval,-List.reduceReplicate]) ?_
   refine .q ?_;refine .open [7] follows (by kernel_rfl) ?_;simp (disch:=first|exact zb|fail) only [go_sem,seval,-List.reduceReplicate,e3,e4,e5]
   refine CallD.still (fun R h=>zha _ _ hr hlen _ R h) ?_;simp (disch:=first|exact zb|fail) only [go_sem,seval,-List.reduceReplicate,e3]
   refine .q ?_;refine .text ?_;simp (disch:=first|exact zb|fail) only [go_sem,seval,-List.reduceReplicate,e5]
   refine ih _ _ ?_
   simp (disch:=first|exact zb|fail) only [go_sem,seval,-List.reduceReplicate,e2,e3,e4,e5]
   rw [yC]
   exact⟨congrArg (fun z=>AV.p (i64 z)) (by omega),rfl⟩

set_option maxHeartbeats 8000000 in
theorem zcr {G:Globs} (a b:List (BitVec 8)) (ha:a.length=32) (hb:b.length=32) (H:Hp) (R:AV → Hp → Prop) (h:R (.p (.agg (pl b8 (pair a b)))) H) :
 ACall Tryd.prog G 28 [.p (.agg (pl b8 a)),.p (.agg (pl b8 b))] H R:=by
 refine ACall.of_run (raw:=[]) Tryd.func28 rfl Tryd.ntmps28 (by simp) fun hbel => ?_
 refine .q ?_;refine .text ?_;simp (disch:=first|exact zb|fail) only [go_sem,seval,-List.reduceReplicate]
 refine .q ?_;refine .open [8] follows (by kernel_rfl) ?_;simp (disch:=first|exact zb|fail) only [go_sem,seval,-List.reduceReplicate]
 refine CallD.still (fun R h=>zcq a ha _ R h) ?_;simp (disch:=first|exact zb|fail) only [go_sem,seval,-List.reduceReplicate]
 refine CallD.still (fun R h=>zhM [1#8] a (by simp) (by simp;omega) _ R h) ?_;simp (disch:=first|exact zb|fail) only [go_sem,seval,-List.reduceReplicate]
 refine CallD.still (fun R h=>zcq b hb _ R h) ?_;simp (disch:=first|exact zb|fail) only [go_sem,seval,-List.reduceReplicate]
 refine CallD.still (fun R h=>zhM ([1#8]++a) b (by simp;omega) (by simp;omega) _ R h) ?_;simp (disch:=first|exact zb|fail) only [go_sem,seval,-List.reduceReplicate]
 refine CallD.still (fun R h=>zbA ([1#8]++a++b) (by simp;omega) _ R h) ?_;simp (disch:=first|exact zb|fail) only [go_sem,seval,-List.reduceReplicate]
 refine .q ?_;refine .rt Tryd.func28 (by rw [Tryd.results28]) (hR := ?_);simp (disch:=first|exact zb|fail) only [go_sem,seval,-List.reduceReplicate]
 exact h

end Go.Proofs.YtmoecjgehdkhkaaDoor

/-
  The walks of the comparison of bytes and of the row of equal bytes.
-/
namespace Go.Proofs.YtmoecjgehdkhkaaDoor
open Go Go.AL

set_option maxHeartbeats 8000000 in
theorem zan {G:Globs} (a b:List (BitVec 8)) (ha:a.length≤140737488355000) (hb:b.length≤140737488355000) (H:Hp) (R:AV → Hp → Prop) (h:R (.p (bo (decide (a=b)))) H) :
 ACall Tryd.prog G 11 [.p (.sl false 1 (pl b8 a)),.p (.sl false 1 (pl b8 b))] H R:=by
 refine ACall.of_run (raw:=[]) Tryd.func11 rfl Tryd.ntmps11 (by simp) fun hbel => ?_
 refine .q ?_;refine .text ?_;simp (disch:=first|exact zb|fail) only [go_sem,seval]
 by_cases hl:a.length=b.length
 case neg =>
  have hne:a≠b:=fun e=>hl (by rw [e])
  refine .q ?_;refine .text ?_;simp (disch:=first|exact zb|fail) only [go_sem,seval]
  refine .q ?_;refine .ifT (by simp (disch:=first|exact zb|fail) only [go_sem,seval]) ?_
  refine .q ?_;refine .text ?_;simp (disch:=first|exact zb|fail) only [go_sem,seval]
  refine .q ?_;refine .rt Tryd.func11 (by rw [Tryd.results11]) (hR := ?_);simp (disch:=first|exact zb|fail) only [go_sem,seval]
  rw [decide_eq_false hne] at h
  exact h
 refine .q ?_;refine .text ?_;simp (disch:=first|exact zb|fail) only [go_sem,seval]
 refine .q ?_;refine .ifF (by simp (disch:=first|exact zb|fail) only [go_sem,seval]) ?_
 refine .q ?_;refine .text ?_;simp (disch:=first|exact zb|fail) only [go_sem,seval]
 refine .q ?_
 refine .count (fun i env H'=>env 0 = .p (.sl false 1 (pl b8 a))∧env 1 = .p (.sl false 1 (pl b8 b))∧env 5 = .p (i64 i)∧(∀ j,j < i → nth a j=nth b j)∧H'=H) 0 a.length (by omega) ?_ ?_ ?_
 · simp (disch:=first|exact zb|fail) only [go_sem,seval]
   omega
 · intro env H' ⟨e0,e1,e5,hj,eH⟩
   subst eH
   have he:a=b:=ziB hl hj
   refine .q ?_;refine .text ?_;simp (disch:=first|exact zb|fail) only [go_sem,seval,e0,e5]
   refine .q ?_;refine .ifF (by simp (disch:=first|exact zb|fail) only [go_sem,seval]) ?_
   refine .q ?_;refine .text ?_;simp (disch:=first|exact zb|fail) only [go_sem,seval]
   refine .q ?_;refine .rt Tryd.func11 (by rw [Tryd.results11]) (hR := ?_);simp (disch:=first|exact zb|fail) only [go_sem,seval]
   rw [decide_eq_true he] at h
   exact h
 · intro i env H' _ hi ⟨e0,e1,e5,hj,eH⟩ ih
   subst eH
   have hi2:i < b.length:=by omega
   refine .q ?_;refine .text ?_;simp (disch:=first|exact zb|fail) only [go_sem,seval,e0,e5]
   refine .q ?_;refine .ifT (by simp (disch:=first|exact zb|fail) only [go_sem,seval]) ?_
   refine .q ?_;refine .open [] follows (by kernel_rfl) ?_;simp (disch:=first|exact zb|fail) only [go_sem,seval,e0,e1,e5]
   by_cases hx:nth a i=nth b i
   · have hbn:(nth a i != nth b i)=false:=by simp [hx]
     refine .q ?_;refine .ifF (by simp (disch:=first|exact zb|fail) only [go_sem,seval,hbn]) ?_
     refine .q ?_;refine .text ?_;simp (disch:=first|exact zb|fail) only [go_sem,seval,e5]
     refine ih _ _ ?_
     simp (disch:=first|exact zb|fail) only [go_sem,seval,e0,e1,e5]
     intro j hj'
     by_cases hji:j=i
     · subst hji;exact hx
     · exact hj j (by omega)
   · have hbn:(nth a i != nth b i)=true:=by simp [hx]
     have hne:a≠b:=fun e=>hx (by rw [e])
     refine .q ?_;refine .ifT (by simp (disch:=first|exact zb|fail) only [go_sem,seval,hbn]) ?_
     refine .q ?_;refine .text ?_;simp (disch:=first|exact zb|fail) only [go_sem,seval]
     refine .q ?_;refine .rt Tryd.func11 (by rw [Tryd.results11]) (hR := ?_);simp (disch:=first|exact zb|fail) only [go_sem,seval]
     rw [decide_eq_false hne] at h
     exact h

end Go.Proofs.YtmoecjgehdkhkaaDoor

/-
  Sessions: numbers as bytes;the program's write and read.
-/
namespace Go.Proofs.YtmoecjgehdkhkaaDoor
open Go Go.AL

abbrev By:=List (BitVec 8)
abbrev U:=BitVec 64
theorem CallD.of {C:Cx} {ops:Array Oper} {q:Nat → Bool} {f:FuncId} {args':List AV} {dst:Option Nat} {n:Nat} {rest:List Oper} {k:List Item} {env:Env} {H H':Hp} {R:AV → Hp → Prop} {r:AV}
 (h : ∀ R:AV → Hp → Prop,R r H' → ACall C.P C.G f args' H R) (hk:yU C ops q n rest k (env.put dst r) H' R):CallD C ops q false f args' dst n rest k env H R :=
 .moves (h (fun r' H2=>r'=r∧H2=H') ⟨rfl,rfl⟩) (by rintro _ _ ⟨rfl,rfl⟩;exact hk)

theorem ACall.wk {P:Program} {f:FuncId} {args:List AV} {G:Globs} {H:Hp} {R R':AV → Hp → Prop} (h:ACall P G f args H R') (hw : ∀ r H',R' r H' → ∃ r',R r' H' ∧ ∀ σ w v,RelV σ H' w r v → RelV σ H' w r' v):ACall P G f args H R:=by
 intro σ w vs h1 h2
 refine (h σ w vs h1 h2).mono ?_
 rintro e W' ⟨r,H',σ',v,q1,q2,q3,q4,q5⟩
 obtain⟨r',p1,p2⟩:=hw r H' q1
 exact⟨r',H',σ',v,p1,q2,q3,p2 _ _ _ q4,q5⟩
theorem zf {C:Cx} {ops:Array Oper} {i:Nat} {o:Oper} {K:Env → Hp → Prop} {env:Env} {H:Hp} (x:AV) (ho:ops[i]? = some o) (hg:o.guard=none) (hs:zq C.P C.G o.op o.type env H = .val x H) (hd:zQ C.nt o.dst=true)
 (hK:K (env.put o.dst x) H):opA C ops false i K env H:=by
 unfold opA
 rw [ho]
 simp only [hg,zR,aOp1,hs,sOp]
 exact⟨hd,hK⟩
theorem zZ {C:Cx} {ops:Array Oper} {i:Nat} {o:Oper} {K:Env → Hp → Prop} {env:Env} {H H':Hp} (x:AV) (ho:ops[i]? = some o) (hg:o.guard=none) (hs:zq C.P C.G o.op o.type env H = .val x H') (hd:zQ C.nt o.dst=true)
 (hK:K (env.put o.dst x) H'):opA C ops false i K env H:=by
 unfold opA
 rw [ho]
 simp only [hg,zR,aOp1,hs,sOp]
 exact⟨hd,hK⟩
theorem yb {C:Cx} {ops:Array Oper} {i:Nat} {o:Oper} {K:Env → Hp → Prop} {env:Env} {H H':Hp} (ho:ops[i]? = some o) (hg:o.guard=none) (hs:zq C.P C.G o.op o.type env H = .unit H') (hd:o.dst=none)
 (hK:K env H'):opA C ops false i K env H:=by
 unfold opA
 rw [ho]
 simp only [hg,zR,aOp1,hs,sOp]
 exact⟨hd,by rw [hd];exact hK⟩
theorem ym {C:Cx} {ops:Array Oper} {i:Nat} {o:Oper} {K:Env → Hp → Prop} {env:Env} {H:Hp} {f:FuncId} {xs xs':List AV} {r:AV} {H':Hp} (ho:ops[i]? = some o) (hg:o.guard=none) (hs:zq C.P C.G o.op o.type env H = .call f xs) (hd:zQ C.nt o.dst=true)
 (hargs:yk C.raw f xs=xs') (hc : ∀ R:AV → Hp → Prop,R r H' → ACall C.P C.G f xs' H R) (hK:K (env.put o.dst r) H'):opA C ops false i K env H:=by
 unfold opA
 rw [ho]
 simp only [hg,zR,aOp1,hs,sOp,hargs]
 exact⟨hd,hc _ hK⟩
theorem za {L:Nat → Bool} {i k:Nat} (h:k≠i):more L i k=L k:=by simp [more,h]
theorem zr {L:Nat → Bool} {i:Nat}:more L i i=true:=by simp [more]
theorem zOx {L:Nat → Bool} {i k:Nat} (h:L k=true):more L i k=true:=by simp [more,h]
def allT (L:Nat → Bool) (l:List Nat):Prop := ∀ d∈l,L d=true
theorem zv {L:Nat → Bool}:allT L []:=fun d h=>by cases h
theorem zc {L:Nat → Bool} {d:Nat} {l:List Nat} (h:L d=true) (t:allT L l):allT L (d :: l):=fun x hx=>by
 rcases List.mem_cons.1 hx with rfl | hx
 · exact h
 · exact t x hx
section inv
variable {L:Nat → Bool} {i j s:Nat} {env:Env} {d:Option Nat} {x v:AV} {l:List Nat}
theorem ya (m:L j=true → allT L l) (hL:L i=false) (h:i∈l:=by decide):L j=false:=Bool.eq_false_iff.2 fun e=>by
 have:=m e i h
 rw [hL] at this;cases this
theorem kf (e:env s=v) (h:d≠some s:=by decide):env.put d x s=v:=(zd5 fun i hi q=>h (hi.trans (congrArg some q))).trans e
theorem kn {p:Prop}:p → env.put (some s) x s=x:=fun _=>put_some.trans (if_pos rfl)
theorem kt (t:allT L l):allT (more L i) l:=fun d h=>zOx (t d h)
theorem kt1:allT (more L i) [i]:=fun d h=>by
 rcases List.mem_cons.1 h with rfl | h
 · exact zr
 · cases h
theorem ka (m:L j=true → allT L l) (h:j≠i:=by decide):more L i j=true → allT (more L i) l:=fun q=>kt (m (by rwa [za h] at q))
theorem kL {A:Array Edge} {L:Nat → Bool} (hall : ∀ e∈A,Region.binds .any e=true → L e.on=true) (k:Nat) {j:Nat} {g:Ground} (h1:A[k]? = some ⟨j,g⟩) (h2:Region.binds .any ⟨j,g⟩=true):L j=true:=hall _ (Array.mem_of_getElem? h1) h2
def kF (env:Env) (l:List (Nat × AV)):Prop := ∀ p∈l,env p.1=p.2
def kI (L:Nat → Bool) (env:Env) (l:List (Nat × Nat × AV)):Prop := ∀ p∈l,L p.1=true → env p.2.1=p.2.2
theorem kF0:kF env []:=fun p h=>by cases h
theorem kFc {t:List (Nat × AV)} (h:env s=v) (r:kF env t):kF env ((s,v) :: t):=fun p hp=>by
 rcases List.mem_cons.1 hp with rfl | hp
 · exact h
 · exact r p hp
theorem kFi {t:List (Nat × AV)}:kF env ((s,v) :: t)=(env s=v∧kF env t):=propext ⟨fun F=>⟨F _ List.mem_cons_self,fun p hp=>F p (List.mem_cons_of_mem _ hp)⟩,fun h=>kFc h.1 h.2⟩
theorem kFn:kF env []=True:=propext ⟨fun _=>trivial,fun _=>kF0⟩
theorem zJ {t:List (Nat × AV)} (F:kF env t) (k:Nat) (e:t[k]? = some (s,v)):env s=v:=F _ (List.mem_of_getElem? e)
theorem zn {t:List (Nat × Nat × AV)} (G:kI L env t) (k:Nat) (e:t[k]? = some (i,s,v)) (h:L i=true):env s=v:=G _ (List.mem_of_getElem? e) h
theorem zx {t:List (Nat × AV)} (F:kF env t) (h:t.all (fun p=>p.1 != s)=true:=by rfl):kF (env.put (some s) x) t:=fun p hp =>
 kf (F p hp) fun q=>by
  have h1:=List.all_eq_true.1 h p hp
  simp only [Option.some.injEq] at q
  simp [q] at h1
theorem zA {t:List (Nat × Nat × AV)} (G:kI L env t) (h1:t.all (fun p=>p.1 == i || p.2.1 != s)=true:=by rfl) (h2:t.filter (fun p=>p.1 == i)=[(i,s,x)]:=by rfl):kI (more L i) (env.put (some s) x) t:=fun p hp hL=>by
 by_cases e:p.1=i
 · have h3:p∈t.filter (fun p=>p.1 == i):=List.mem_filter.2 ⟨hp,by simp [e]⟩
   rw [h2] at h3
   obtain rfl:=List.mem_singleton.1 h3
   exact kn (p:=True) trivial
 · refine kf (G p hp (by rwa [za e] at hL)) fun q => ?_
   have h3:=List.all_eq_true.1 h1 p hp
   simp only [Option.some.injEq] at q
   simp [q,e] at h3
theorem kIs {t:List (Nat × Nat × AV)} (G:kI L env t) (h1:t.all (fun p=>p.1 != i)=true:=by rfl):kI (more L i) env t:=fun p hp hL=>by
 have h3:=List.all_eq_true.1 h1 p hp
 exact G p hp (by rwa [za (by simpa using h3)] at hL)
theorem kIj {j:Nat} {t u:List (Nat × Nat × AV)} (G:kI L env t) (e0:L j=false) (h1:u.all (fun p=>p.1 == i || p.2.1 != s)=true:=by rfl) (h2:u.filter (fun p=>p.1 == i)=[(i,s,x)]:=by rfl)
 (h3:u.filter (fun p => !(p.1 == i || p.1 == j))=t.filter (fun p => !(p.1 == i || p.1 == j)):=by rfl) (h4:(i == j)=false:=by rfl):kI (more L i) (env.put (some s) x) u:=fun p hp hL=>by
 by_cases e:p.1=i
 · have h5:p∈u.filter (fun p=>p.1 == i):=List.mem_filter.2 ⟨hp,by simp [e]⟩
   rw [h2] at h5
   obtain rfl:=List.mem_singleton.1 h5
   exact kn (p:=True) trivial
 · by_cases e2:p.1=j
   · rw [za e,e2,e0] at hL;cases hL
   · have h5:p∈u.filter (fun p => !(p.1 == i || p.1 == j)):=List.mem_filter.2 ⟨hp,by simp [e,e2]⟩
     rw [h3] at h5
     refine kf (G p (List.mem_filter.1 h5).1 (by rwa [za e] at hL)) fun q => ?_
     have h6:=List.all_eq_true.1 h1 p hp
     simp only [Option.some.injEq] at q
     simp [q,e] at h6
theorem kx {p:Prop}:more L i i=false → p:=fun q=>by rw [zr] at q;cases q
theorem kq (f:L j=false → env s=v) (h:j≠i:=by decide) (hd:d≠some s:=by decide):more L i j=false → env.put d x s=v:=fun q=>kf (f (by rwa [za h] at q)) hd
end inv

theorem zi0 {f:FuncId} {args:List AV}:yk [f] f args=args:=by simp [yk]
theorem zlL {f g:Nat} {args:List AV} (h:f≠g):yk [g] f args=args.map AV.weak:=by simp [yk,h]
attribute [go_sem] zi0 zlL
def le (x:U):Nat → By
 | 0=>[]
 | n+1=>le x n++[(x >>> (8*n)).setWidth 8]
theorem yv {x:U} : ∀ {n},(le x n).length=n
 | 0=>rfl
 | n+1=>by simp [le,yv]
theorem zbt {x:U} {n:Nat}:le x (n+1)=le x n++[(x >>> (8*n)).setWidth 8]:=rfl

def rd:By → U
 | []=>0
 | c :: b=>rd b <<< 8 ||| c.setWidth 64
theorem zIE {b:By} {i:Nat} (h:i < b.length):rd (b.drop i)=rd (b.drop (i+1)) <<< 8 ||| (nth b i).setWidth 64:=by
 rw [List.drop_eq_getElem_cons h,show nth b i=b[i] by simp [nth,h]]
 rfl

section walks
variable {G:Globs}
set_option maxHeartbeats 4000000 in
theorem zbO (b:By) (x:U) (n:Nat) (hb:b.length+n≤140737488355000) (α v:Nat) (H:Hp) (hα:H.f α=some (.tail v)) (R:AV → Hp → Prop) (h:R (.sl α (v+n) 1 (pl b8 (b++le x n))) (H.set α (.tail (v+n)))) :
 ACall Tryd.prog G 40 [.sl α v 1 (pl b8 b),.p (zw x),.p (i64 n)] H R:=by
 refine ACall.of_run (raw:=[]) Tryd.func40 rfl Tryd.ntmps40 (by simp) fun hbel => ?_
 have hαn:=Hp.lt hα
 have hs0:H.set α (.tail v)=H:=Hp.set_same H _ α hα
 refine .q ?_;refine .text ?_;simp (disch:=first|exact zb|fail) only [go_sem,seval]
 refine .q ?_;refine .text ?_;simp (disch:=first|exact zb|fail) only [go_sem,seval]
 refine .q ?_;refine .loopH [7] (fun i=>[(0,.sl α (v+i) 1 (pl b8 (b++le x i))),(1,.p (zw (x >>> (8*i)))),(8,.p (i64 i))]) (fun i=>H.set α (.tail (v+i))) (fun i=>True) (0) (n) (by omega) ?_ (by first | rfl | (simp (disch:=first|exact zb|fail) only [go_sem,seval,le,hs0,List.append_nil,Nat.mul_zero,BitVec.ushiftRight_zero]<;>rfl)) ?_ ?_ ?_
 · simp (disch:=first|exact zb|fail) only [go_sem,seval,le,hs0,List.append_nil,Nat.mul_zero,BitVec.ushiftRight_zero]<;>(repeat' (first | rfl | refine And.intro ?_ ?_))
 · exact trivial
 intro env E hQ;simp (disch:=first|exact zb|fail) only [go_sem,seval,le,hs0,List.append_nil,Nat.mul_zero,BitVec.ushiftRight_zero] at E
 rotate_left 1
 intro i env hi0 hi E hQ ihE;simp (disch:=first|exact zb|fail) only [go_sem,seval,le,hs0,List.append_nil,Nat.mul_zero,BitVec.ushiftRight_zero] at E
 rotate_left 1
 · refine .q ?_;refine .text ?_;simp (disch:=first|exact zb|fail) only [go_sem,seval,E]
   refine .q ?_;refine .ifF (by simp (disch:=first|exact zb|fail) only [go_sem,seval]) ?_
   refine .q ?_;refine .text ?_;simp (disch:=first|exact zb|fail) only [go_sem,seval,E]
   refine .q ?_;refine .retKeep Tryd.func40 (by rw [Tryd.results40]) (by simp (disch:=first|exact zb|fail) only [go_sem,seval,E];rfl) ?_;(try simp (disch:=first|exact zb|fail) only [go_sem,seval,E])
   exact h
 · have h8:x >>> (8*i) >>> 8=x >>> (8*(i+1)):=by rw [←BitVec.shiftRight_add];rfl
   have hl:=yv (x:=x) (n:=i)
   refine .q ?_;refine .text ?_;simp (disch:=first|exact zb|fail) only [go_sem,seval,E]
   refine .q ?_;refine .ifT (by simp (disch:=first|exact zb|fail) only [go_sem,seval]) ?_
   refine .q ?_;refine .text ?_;simp (disch:=first|exact zb|fail) only [go_sem,seval,E,hl]
   refine .q ?_;refine .text ?_;simp (disch:=first|exact zb|fail) only [go_sem,seval,E]
   refine .q ?_;refine .text ?_;simp (disch:=first|exact zb|fail) only [go_sem,seval,E]
   first | (refine ihE _ _ ?_ trivial ?_) | (refine .z rfl ?_;refine ihE _ _ ?_ trivial ?_) | (refine .z rfl ?_;refine .z rfl ?_;refine ihE _ _ ?_ trivial ?_) | (refine .z rfl ?_;refine .z rfl ?_;refine .z rfl ?_;refine ihE _ _ ?_ trivial ?_)
   · simp (disch:=first|exact zb|fail) only [go_sem,seval,E,h8,zbt,List.append_assoc,Nat.add_assoc]<;>(repeat' (first | rfl | refine And.intro ?_ ?_))
   · first | rfl | (simp (disch:=first|exact zb|fail) only [go_sem,seval,E,h8,zbt,List.append_assoc,Nat.add_assoc]<;>(try rfl))

set_option maxHeartbeats 4000000 in
theorem zlM (b:By) (x:U) (n:Nat) (hb:b.length+n≤140737488355000) (H:Hp) (R:AV → Hp → Prop) (h:R (.sl H.n n 1 (pl b8 (b++le x n))) (H.new (.tail n))) :
 ACall Tryd.prog G 40 [.p (.sl true 1 (pl b8 b)),.p (zw x),.p (i64 n)] H R:=by
 refine ACall.of_run (raw:=[]) Tryd.func40 rfl Tryd.ntmps40 (by simp) fun hbel => ?_
 refine .q ?_;refine .text ?_;simp (disch:=first|exact zb|fail) only [go_sem,seval]
 refine .q ?_;refine .own 0 (by simp (disch:=first|exact zb|fail) only [go_sem,seval];rfl) ?_
 refine .q ?_;refine .text ?_;simp (disch:=first|exact zb|fail) only [go_sem,seval]
 refine .q ?_;refine .loopH [7] (fun i=>[(0,.sl H.n i 1 (pl b8 (b++le x i))),(1,.p (zw (x >>> (8*i)))),(8,.p (i64 i))]) (fun i=>H.new (.tail i)) (fun i=>True) (0) (n) (by omega) ?_ (by first | rfl | (simp (disch:=first|exact zb|fail) only [go_sem,seval,le,List.append_nil,Nat.mul_zero,BitVec.ushiftRight_zero]<;>rfl)) ?_ ?_ ?_
 · simp (disch:=first|exact zb|fail) only [go_sem,seval,le,List.append_nil,Nat.mul_zero,BitVec.ushiftRight_zero]<;>(repeat' (first | rfl | refine And.intro ?_ ?_))
 · exact trivial
 intro env E hQ;simp (disch:=first|exact zb|fail) only [go_sem,seval,le,List.append_nil,Nat.mul_zero,BitVec.ushiftRight_zero] at E
 rotate_left 1
 intro i env hi0 hi E hQ ihE;simp (disch:=first|exact zb|fail) only [go_sem,seval,le,List.append_nil,Nat.mul_zero,BitVec.ushiftRight_zero] at E
 rotate_left 1
 · refine .q ?_;refine .text ?_;simp (disch:=first|exact zb|fail) only [go_sem,seval,E]
   refine .q ?_;refine .ifF (by simp (disch:=first|exact zb|fail) only [go_sem,seval]) ?_
   refine .q ?_;refine .text ?_;simp (disch:=first|exact zb|fail) only [go_sem,seval,E]
   refine .q ?_;refine .retKeep Tryd.func40 (by rw [Tryd.results40]) (by simp (disch:=first|exact zb|fail) only [go_sem,seval,E];rfl) ?_;(try simp (disch:=first|exact zb|fail) only [go_sem,seval,E])
   exact h
 · have h8:x >>> (8*i) >>> 8=x >>> (8*(i+1)):=by rw [←BitVec.shiftRight_add];rfl
   have hl:=yv (x:=x) (n:=i)
   refine .q ?_;refine .text ?_;simp (disch:=first|exact zb|fail) only [go_sem,seval,E]
   refine .q ?_;refine .ifT (by simp (disch:=first|exact zb|fail) only [go_sem,seval]) ?_
   refine .q ?_;refine .text ?_;simp (disch:=first|exact zb|fail) only [go_sem,seval,E,hl]
   refine .q ?_;refine .text ?_;simp (disch:=first|exact zb|fail) only [go_sem,seval,E]
   refine .q ?_;refine .text ?_;simp (disch:=first|exact zb|fail) only [go_sem,seval,E]
   first | (refine ihE _ _ ?_ trivial ?_) | (refine .z rfl ?_;refine ihE _ _ ?_ trivial ?_) | (refine .z rfl ?_;refine .z rfl ?_;refine ihE _ _ ?_ trivial ?_) | (refine .z rfl ?_;refine .z rfl ?_;refine .z rfl ?_;refine ihE _ _ ?_ trivial ?_)
   · simp (disch:=first|exact zb|fail) only [go_sem,seval,E,h8,zbt,List.append_assoc]<;>(repeat' (first | rfl | refine And.intro ?_ ?_))
   · first | rfl | (simp (disch:=first|exact zb|fail) only [go_sem,seval,E,h8,zbt,List.append_assoc]<;>(try rfl))

theorem zhd (L:By) (H:Hp) (R:AV → Hp → Prop) (h:R (.clo 77 [] [.ptr H.n 0]) (H.new (.cells [.p (.sl false 1 (pl b8 L))]))):ACall Tryd.prog G 61 [.p (.sl false 1 (pl b8 L))] H R:=by
 refine ACall.of_run (raw:=[]) Tryd.func61 rfl Tryd.ntmps61 (by simp) fun hbel => ?_
 refine .q ?_;refine .text ?_;simp (disch:=first|exact zb|fail) only [go_sem,seval]
 refine .q ?_;refine .text ?_;simp (disch:=first|exact zb|fail) only [go_sem,seval]
 refine .q ?_;refine .retKeep Tryd.func61 (by rw [Tryd.results61]) (by simp (disch:=first|exact zb|fail) only [go_sem,seval];rfl) ?_;(try simp (disch:=first|exact zb|fail) only [go_sem,seval])
 exact h

set_option maxHeartbeats 8000000 in
theorem zgq (L:By) (hl:L.length≤140737488355000) (y p m:Nat) (X:Nat → Hp) (hX : ∀ i,(X i).n=m) (hB : ∀ i,Bel m (X i)) (hy0:y < m) (hp : ∀ i,(X i).f p=some (.cells [.p (.sl false 1 (pl b8 L))]))
 (hy : ∀ j,j < L.length → ∀ (S:List AB) (K:AV → Hp → Prop),K (.p (bo true)) (app (X (j+1)) S) → AYield Tryd.prog G y [.p (i64 ((L.length:Int) - 1 - j)),.p (b8 (nth L (L.length - 1 - j)))] (app (X j) S) K)
 (R:AV → Hp → Prop) (h:R (.tup []) (X L.length)):ACall Tryd.prog G 77 [.yld y,.ptr p 0] (X 0) R:=by
 have hX0:=hX 0
 have hp0:=hp 0
 refine ACall.of_run (raw:=[]) Tryd.func77 rfl Tryd.ntmps77 (by simp) fun hbel => ?_
 rw [hX0]
 have hbel : ∀ i,Bel m (X i):=hB
 refine .q ?_;refine .text ?_;simp (disch:=first|exact zb|fail) only [go_sem,seval,hp0]
 refine .q ?_;refine .loopH [0,1] (fun j=>[(3,.p (i64 ((L.length:Int) - 1 - j)))]) (fun j=>X j) (fun j=>True) (0) (L.length) (by omega) ?_ (by first | rfl | (simp (disch:=first|exact zb|fail) only [go_sem,seval,Int.sub_zero]<;>rfl)) ?_ ?_ ?_
 · simp (disch:=first|exact zb|fail) only [go_sem,seval,Int.sub_zero]<;>(repeat' (first | rfl | refine And.intro ?_ ?_))
 · exact trivial
 intro env E hQ;simp (disch:=first|exact zb|fail) only [go_sem,seval,Int.sub_zero] at E
 rotate_left 1
 intro j env hj0 hj E hQ ihE;simp (disch:=first|exact zb|fail) only [go_sem,seval,Int.sub_zero] at E
 rotate_left 1
 · have d:decide ((0:Int)≤(L.length:Int) - 1 - (L.length:Int))=false:=by simp only [decide_eq_false_iff_not];omega
   have hXe:=hX L.length
   refine .q ?_;refine .text ?_;simp (disch:=first|exact zb|fail) only [go_sem,seval,E,d]
   refine .q ?_;refine .ifF (by simp (disch:=first|exact zb|fail) only [go_sem,seval,d]) ?_
   refine .q ?_;refine .fin Tryd.func77 (by rw [Tryd.results77]) (by simp (disch:=first|exact zb|fail) only [go_sem,seval];rfl) (by simp (disch:=first|exact zb|fail) only [go_sem,seval];rfl) (by (try dsimp only);repeat (first | with_reducible refine zK ?_ zb | with_reducible refine zam ?_ zb | with_reducible refine za0 ?_ zb | with_reducible refine zae ?_ | with_reducible exact hbel | with_reducible exact hbel _)) ?_;simp (disch:=first|exact zb|fail) only [go_sem,seval]
   (try rw [zdG hXe.symm])
   exact h
 · have d:decide ((0:Int)≤(L.length:Int) - 1 - (j:Int))=true:=by simp only [decide_eq_true_eq];omega
   have ht:((L.length:Int) - 1 - (j:Int)).toNat=L.length - 1 - j:=by omega
   have hyj:=hy j hj []
   simp only [zcn] at hyj
   have hpj:=hp j
   have hq:(L.length:Int) - 1 - ((j:Int)+1)=(L.length:Int) - 1 - (j:Int) - 1:=by omega
   refine .q ?_;refine .text ?_;simp (disch:=first|exact zb|fail) only [go_sem,seval,E,d]
   refine .q ?_;refine .ifT (by simp (disch:=first|exact zb|fail) only [go_sem,seval,d]) ?_
   refine .q ?_;refine .text ?_;simp (disch:=first|exact zb|fail) only [go_sem,seval,E,hpj,ht]
   refine YieldK.of (fun K hK=>hyj K hK) ?_;simp (disch:=first|exact zb|fail) only [go_sem,seval]
   refine .q ?_;refine .ifF (by simp (disch:=first|exact zb|fail) only [go_sem,seval]) ?_
   refine .q ?_;refine .text ?_;simp (disch:=first|exact zb|fail) only [go_sem,seval,E]
   first | (refine ihE _ _ ?_ trivial ?_) | (refine .z rfl ?_;refine ihE _ _ ?_ trivial ?_) | (refine .z rfl ?_;refine .z rfl ?_;refine ihE _ _ ?_ trivial ?_) | (refine .z rfl ?_;refine .z rfl ?_;refine .z rfl ?_;refine ihE _ _ ?_ trivial ?_)
   · simp (disch:=first|exact zb|fail) only [go_sem,seval,E,hq]<;>(repeat' (first | rfl | refine And.intro ?_ ?_))
   · first | rfl | (simp (disch:=first|exact zb|fail) only [go_sem,seval,E,hq]<;>(try rfl))

set_option maxHeartbeats 8000000 in
theorem zc8 (b:By) (hb:b.length≤140737488355000) (H:Hp) (R:AV → Hp → Prop) (h:R (.p (zw (rd b))) H):ACall Tryd.prog G 33 [.p (.sl false 1 (pl b8 b))] H R:=by
 refine ACall.of_run (raw:=[]) Tryd.func33 rfl Tryd.ntmps33 (by simp) fun hbel => ?_
 refine .q ?_;refine .text ?_;simp (disch:=first|exact zb|fail) only [go_sem,seval]
 refine .q ?_;refine .text ?_;simp (disch:=first|exact zb|fail) only [go_sem,seval]
 refine CallK.of (fun R h=>zhd b _ R h) ?_;simp (disch:=first|exact zb|fail) only [go_sem,seval]
 refine .q ?_;refine .rangeFunc (ps:=[7,8]) rfl (by simp (disch:=first|exact zb|fail) only [go_sem,seval];rfl) (by simp (disch:=first|exact zb|fail) only [go_sem,seval]) (by simp) fun L vs hL hvs hround => ?_;simp (disch:=first|exact zb|fail) only [go_sem,seval]
 have h0:0#64=rd (b.drop (b.length - 0)):=by rw [Nat.sub_zero,List.drop_length];rfl
 rw [h0]
 refine zgq b hb (H.n+2) (H.n+1) (H.n+3) (fun j=>(((H.new (.cells [.p (zw (rd (b.drop (b.length - j))))])).new (.cells [.p (.sl false 1 (pl b8 b))])).new (.obj vs (L .ready none)))) (fun j=>by simp (disch:=first|exact zb|fail) only [go_sem,seval]) (fun j => ?_) (by omega) (fun j=>by simp (disch:=first|exact zb|fail) only [go_sem,seval]) (fun j hj S K hK => ?_) _ ?_
 · (try dsimp only);(repeat (first | with_reducible exact hbel | with_reducible exact yT hbel zb | with_reducible refine za5 ?_ | with_reducible refine za6 ?_ | with_reducible refine za7 ?_ | with_reducible refine za8 hvs ?_ zb | with_reducible refine zae ?_ | with_reducible refine za9 ?_ | with_reducible refine zba ?_ | with_reducible refine zbb ?_ | with_reducible refine zbc ?_))
 · have hst:rd (b.drop (b.length - (j+1)))=rd (b.drop (b.length - j)) <<< 8 ||| (nth b (b.length - 1 - j)).setWidth 64:=by
    rw [zIE (b:=b) (i:=b.length - (j+1)) (by omega),show b.length - (j+1)+1=b.length - j by omega,show b.length - (j+1)=b.length - 1 - j by omega]
   rw [hst] at hK
   refine hround _ _ _ rfl (by simp (disch:=first|exact zb|fail) only [go_sem,seval]) fun hbel2 => ?_
   dsimp only
   simp (disch:=first|exact zb|fail) only [go_sem,seval]
   refine .q ?_;refine .text ?_;simp (disch:=first|exact zb|fail) only [go_sem,seval]
   refine .q ?_;refine .beginRound rfl hL (by simp (disch:=first|exact zb|fail) only [go_sem,seval];rfl) ?_;simp (disch:=first|exact zb|fail) only [go_sem,seval]
   refine .q ?_;refine .text ?_;simp (disch:=first|exact zb|fail) only [go_sem,seval]
   refine .q ?_;refine .roundEndK rfl hL (by simp (disch:=first|exact zb|fail) only [go_sem,seval];rfl) ?_;simp (disch:=first|exact zb|fail) only [go_sem,seval]
   exact hK
 · unfold zdI;refine⟨?_,.inl ⟨(by simp (disch:=first|exact zb|fail) only [go_sem,seval]<;>rfl),?_⟩⟩;(try dsimp only);(repeat (first | with_reducible exact hbel | with_reducible exact yT hbel zb | with_reducible refine za5 ?_ | with_reducible refine za6 ?_ | with_reducible refine za7 ?_ | with_reducible refine za8 hvs ?_ zb | with_reducible refine zae ?_ | with_reducible refine za9 ?_ | with_reducible refine zba ?_ | with_reducible refine zbb ?_ | with_reducible refine zbc ?_));simp (disch:=first|exact zb|fail) only [go_sem,seval]
   rw [Nat.sub_self,List.drop_zero]
   refine .q ?_;refine .text ?_;simp (disch:=first|exact zb|fail) only [go_sem,seval]
   refine .q ?_;refine .rt Tryd.func33 (by rw [Tryd.results33]) (hR := ?_);simp (disch:=first|exact zb|fail) only [go_sem,seval]
   exact h

theorem zo7 (n:Int) (H:Hp) (R:AV → Hp → Prop) (h:R (.p (bo (decide (0≤n) && decide (n≤2147483647)))) H):ACall Tryd.prog G 64 [.p (i64 n)] H R:=by
 refine ACall.of_run (raw:=[]) Tryd.func64 rfl Tryd.ntmps64 (by simp) fun hbel => ?_
 refine .q ?_;refine .text ?_;simp (disch:=first|exact zb|fail) only [go_sem,seval]
 refine .q ?_;refine .text ?_;simp (disch:=first|exact zb|fail) only [go_sem,seval]
 (first | refine yN (fun h1 => ?_) (fun h1 => ?_) | refine yG (fun h1 => ?_) (fun h1 => ?_))<;>(try simp only [Bool.not_eq_true',Bool.not_eq_false'] at h1)<;>simp (disch:=first|exact zb|fail) only [go_sem,seval,h1]
 · refine .q ?_;refine .rt Tryd.func64 (by rw [Tryd.results64]) (hR := ?_);simp (disch:=first|exact zb|fail) only [go_sem,seval]
   simpa [h1] using h
 · refine .q ?_;refine .rt Tryd.func64 (by rw [Tryd.results64]) (hR := ?_);simp (disch:=first|exact zb|fail) only [go_sem,seval]
   simpa [h1] using h

theorem zdt (a b c:Int) (ha:0≤a∧a≤1000000000000000) (hb:0≤b∧b≤1000000000000000) (hc:0≤c∧c≤1000000000000000) (H:Hp) (R:AV → Hp → Prop) (h:R (.p (bo (a+b+c == 0))) H):ACall Tryd.prog G 107 [.p (i64 a),.p (i64 b),.p (i64 c)] H R:=by
 refine ACall.of_run (raw:=[]) Tryd.func107 rfl Tryd.ntmps107 (by simp) fun hbel => ?_
 refine .q ?_;refine .text ?_;simp (disch:=first|exact zb|fail) only [go_sem,seval]
 refine .q ?_;refine .text ?_;simp (disch:=first|exact zb|fail) only [go_sem,seval]
 refine .q ?_;refine .rt Tryd.func107 (by rw [Tryd.results107]) (hR := ?_);simp (disch:=first|exact zb|fail) only [go_sem,seval]
 exact h
theorem zo8 (a b c:Int) (ha:0≤a∧a≤1000000000000000) (hb:0≤b∧b≤1000000000000000) (hc:0≤c∧c≤1000000000000000) (H:Hp) (R:AV → Hp → Prop) (h:R (.p (bo (decide (1≤a) && decide (a≤400) && (b+c == 0)))) H):ACall Tryd.prog G 106 [.p (i64 a),.p (i64 b),.p (i64 c)] H R:=by
 refine ACall.of_run (raw:=[]) Tryd.func106 rfl Tryd.ntmps106 (by simp) fun hbel => ?_
 refine .q ?_;refine .text ?_;simp (disch:=first|exact zb|fail) only [go_sem,seval]
 refine .q ?_;refine .text ?_;simp (disch:=first|exact zb|fail) only [go_sem,seval]
 (first | refine yN (fun h1 => ?_) (fun h1 => ?_) | refine yG (fun h1 => ?_) (fun h1 => ?_))<;>(try simp only [Bool.not_eq_true',Bool.not_eq_false'] at h1)<;>simp (disch:=first|exact zb|fail) only [go_sem,seval,h1]
 · (first | refine yN (fun h2 => ?_) (fun h2 => ?_) | refine yG (fun h2 => ?_) (fun h2 => ?_))<;>(try simp only [Bool.not_eq_true',Bool.not_eq_false'] at h2)<;>simp (disch:=first|exact zb|fail) only [go_sem,seval,h2]
   · refine .q ?_;refine .rt Tryd.func106 (by rw [Tryd.results106]) (hR := ?_);simp (disch:=first|exact zb|fail) only [go_sem,seval]
     simpa [h1,h2] using h
   · refine .q ?_;refine .rt Tryd.func106 (by rw [Tryd.results106]) (hR := ?_);simp (disch:=first|exact zb|fail) only [go_sem,seval]
     simpa [h1,h2] using h
 · refine .q ?_;refine .rt Tryd.func106 (by rw [Tryd.results106]) (hR := ?_);simp (disch:=first|exact zb|fail) only [go_sem,seval]
   simpa [h1] using h
theorem zo9 (a b c:Int) (ha:0≤a∧a≤1000000000000000) (hb:0≤b∧b≤1000000000000000) (hc:0≤c∧c≤1000000000000000) (H:Hp) (R:AV → Hp → Prop) (h:R (.p (bo (decide (b≤64) && (a+c == 0)))) H):ACall Tryd.prog G 108 [.p (i64 a),.p (i64 b),.p (i64 c)] H R:=by
 refine ACall.of_run (raw:=[]) Tryd.func108 rfl Tryd.ntmps108 (by simp) fun hbel => ?_
 refine .q ?_;refine .text ?_;simp (disch:=first|exact zb|fail) only [go_sem,seval]
 refine .q ?_;refine .text ?_;simp (disch:=first|exact zb|fail) only [go_sem,seval]
 (first | refine yN (fun h1 => ?_) (fun h1 => ?_) | refine yG (fun h1 => ?_) (fun h1 => ?_))<;>(try simp only [Bool.not_eq_true',Bool.not_eq_false'] at h1)<;>simp (disch:=first|exact zb|fail) only [go_sem,seval,h1]
 · refine .q ?_;refine .rt Tryd.func108 (by rw [Tryd.results108]) (hR := ?_);simp (disch:=first|exact zb|fail) only [go_sem,seval]
   simpa [h1] using h
 · refine .q ?_;refine .rt Tryd.func108 (by rw [Tryd.results108]) (hR := ?_);simp (disch:=first|exact zb|fail) only [go_sem,seval]
   simpa [h1] using h
theorem zpa (a b c:Int) (ha:0≤a∧a≤1000000000000000) (hb:0≤b∧b≤1000000000000000) (hc:0≤c∧c≤1000000000000000) (H:Hp) (R:AV → Hp → Prop) (h:R (.p (bo ((c == 1) && (a+b == 0)))) H):ACall Tryd.prog G 109 [.p (i64 a),.p (i64 b),.p (i64 c)] H R:=by
 refine ACall.of_run (raw:=[]) Tryd.func109 rfl Tryd.ntmps109 (by simp) fun hbel => ?_
 refine .q ?_;refine .text ?_;simp (disch:=first|exact zb|fail) only [go_sem,seval]
 refine .q ?_;refine .text ?_;simp (disch:=first|exact zb|fail) only [go_sem,seval]
 (first | refine yN (fun h1 => ?_) (fun h1 => ?_) | refine yG (fun h1 => ?_) (fun h1 => ?_))<;>(try simp only [Bool.not_eq_true',Bool.not_eq_false'] at h1)<;>simp (disch:=first|exact zb|fail) only [go_sem,seval,h1]
 · refine .q ?_;refine .rt Tryd.func109 (by rw [Tryd.results109]) (hR := ?_);simp (disch:=first|exact zb|fail) only [go_sem,seval]
   simpa [h1] using h
 · refine .q ?_;refine .rt Tryd.func109 (by rw [Tryd.results109]) (hR := ?_);simp (disch:=first|exact zb|fail) only [go_sem,seval]
   simpa [h1] using h
theorem zpb (a b c:Int) (ha:0≤a∧a≤1000000000000000) (hb:0≤b∧b≤1000000000000000) (hc:0≤c∧c≤1000000000000000) (H:Hp) (R:AV → Hp → Prop) (h:R (.p (bo (decide (c≤64) && (a+b == 0)))) H):ACall Tryd.prog G 110 [.p (i64 a),.p (i64 b),.p (i64 c)] H R:=by
 refine ACall.of_run (raw:=[]) Tryd.func110 rfl Tryd.ntmps110 (by simp) fun hbel => ?_
 refine .q ?_;refine .text ?_;simp (disch:=first|exact zb|fail) only [go_sem,seval]
 refine .q ?_;refine .text ?_;simp (disch:=first|exact zb|fail) only [go_sem,seval]
 (first | refine yN (fun h1 => ?_) (fun h1 => ?_) | refine yG (fun h1 => ?_) (fun h1 => ?_))<;>(try simp only [Bool.not_eq_true',Bool.not_eq_false'] at h1)<;>simp (disch:=first|exact zb|fail) only [go_sem,seval,h1]
 · refine .q ?_;refine .rt Tryd.func110 (by rw [Tryd.results110]) (hR := ?_);simp (disch:=first|exact zb|fail) only [go_sem,seval]
   simpa [h1] using h
 · refine .q ?_;refine .rt Tryd.func110 (by rw [Tryd.results110]) (hR := ?_);simp (disch:=first|exact zb|fail) only [go_sem,seval]
   simpa [h1] using h
end walks
end Go.Proofs.YtmoecjgehdkhkaaDoor

/-
  Sessions: messages and sessions as data;the rules;which messages are valid.
-/
namespace Go.Proofs.YtmoecjgehdkhkaaDoor
open Go Go.AL

def Dg := {l:By // l.length=32}
instance:Inhabited Dg:=⟨⟨List.replicate 32 0#8,rfl⟩⟩
instance:DecidableEq Dg:=inferInstanceAs (DecidableEq {l:By // l.length=32})
theorem Dg.len (d:Dg):d.val.length=32:=d.2
def zD:Dg:=⟨List.replicate 32 0#8,rfl⟩
structure Ext where
 a:U
 b:U
 deriving DecidableEq,Inhabited
def ext (x:Ext):PV := .agg [zw x.a,zw x.b]
structure Msg where
 kind:Int
 session:Int
 step:Int
 text:By
 root:Dg
 sums:List Int
 values:List Ext
 deriving DecidableEq
structure Ses where
 id:Int
 step:Int
 state:Int
 text:By
 seen:Dg
 last:Msg
 due:Int
 bytes:Int
 rounds:Int
 words:Int
 deriving DecidableEq
def zea (m:Msg):List PV:=[i64 m.kind,i64 m.session,i64 m.step,str (bytesOf m.text)]++(pl b8 m.root.val++[.sl false 1 (pl i64 m.sums),.sl false 2 (pl ext m.values)])
def zlN (s:Ses):List PV:=[i64 s.id,i64 s.step,i64 s.state,str (bytesOf s.text)]++(pl b8 s.seen.val++(zea s.last++[i64 s.due,i64 s.bytes,i64 s.rounds,i64 s.words]))
def yK (m:Msg):PV := .agg (zea m)
def yt (s:Ses):PV := .agg (zlN s)
def mcl (m:Msg):List AV:=(zea m).map .p
def yy (s:Ses):List AV:=(zlN s).map .p
def dgv (d:Dg):PV := .agg (pl b8 d.val)

theorem zaR {l:By}:(bytesOf l).size=l.length:=by simp [bytesOf,ByteArray.size]

section cells
variable {m:Msg} {s:Ses}
theorem zgr:(zea m).length=38:=by simp [zea,zbZ,m.root.len]
theorem zAj:(zlN s).length=78:=by simp [zlN,zbZ,zgr,s.seen.len]
theorem zV:(mcl m).length=38:=by rw [mcl,List.length_map,zgr]
theorem yP:(yy s).length=78:=by rw [yy,List.length_map,zAj]
theorem zpc:zo (.p (yK m))=some (mcl m):=rfl
theorem zpd:zo (.p (yt s))=some (yy s):=rfl
theorem yf (d:Dg):zo (.p (dgv d))=some (cl b8 d.val):=zhx
theorem zdP (l:List PV):pvs? (l.map .p)=some l:=by
 induction l with
 | nil=>rfl
 | cons a l ih=>simp [pvs?,ih,AV.pv?]
theorem ztW:zG (mcl m) = .p (yK m):=by unfold zG mcl;rw [zdP];rfl
theorem ztX:zG (yy s) = .p (yt s):=by unfold zG yy;rw [zdP];rfl
theorem zAk (d:Dg):zG (cl b8 d.val) = .p (dgv d):=zk2
theorem zgs:(mcl m).take 38=mcl m:=List.take_of_length_le (by rw [zV];exact Nat.le_refl _)
theorem zlO:(yy s).take 78=yy s:=List.take_of_length_le (by rw [yP];exact Nat.le_refl _)
theorem zag:mcl m = .p (i64 m.kind) :: .p (i64 m.session) :: .p (i64 m.step) :: .p (str (bytesOf m.text)) :: (cl b8 m.root.val++[.p (.sl false 1 (pl i64 m.sums)),.p (.sl false 2 (pl ext m.values))]):=by simp [mcl,zea,cl,pl]
theorem yO:yy s = .p (i64 s.id) :: .p (i64 s.step) :: .p (i64 s.state) :: .p (str (bytesOf s.text)) :: (cl b8 s.seen.val++(mcl s.last++[.p (i64 s.due),.p (i64 s.bytes),.p (i64 s.rounds),.p (i64 s.words)])):=by simp [yy,zlN,mcl,cl,pl]
theorem yw (d:Dg):(cl b8 d.val).length=32:=by rw [zar,d.len]
theorem zbu {a b:List AV} {i n:Nat} (h:a.length=n) (hi:n≤i):(a++b)[i]? = b[i - n]? := by rw [List.getElem?_append_right (by omega),h]
theorem zPP:(mcl m)[0]? = some (.p (i64 m.kind)):=by rw [zag];rfl
theorem zRt:(mcl m)[1]? = some (.p (i64 m.session)):=by rw [zag];rfl
theorem zOy:(mcl m)[2]? = some (.p (i64 m.step)):=by rw [zag];rfl
theorem zPQ:(mcl m)[3]? = some (.p (str (bytesOf m.text))):=by rw [zag];rfl
theorem zJ3:(mcl m)[36]? = some (.p (.sl false 1 (pl i64 m.sums))):=by rw [zag];simp only [List.getElem?_cons_succ];rw [zbu (yw _) (by omega)];rfl
theorem zJ4:(mcl m)[37]? = some (.p (.sl false 2 (pl ext m.values))):=by rw [zag];simp only [List.getElem?_cons_succ];rw [zbu (yw _) (by omega)];rfl
theorem zRu:((mcl m).drop 4).take 32=cl b8 m.root.val:=by
 rw [zag];simp only [List.drop_succ_cons,List.drop_zero]
 rw [List.take_append_of_le_length (by rw [yw];omega),List.take_of_length_le (by rw [yw];omega)]
theorem zPR:(mcl m).drop 4=cl b8 m.root.val++[.p (.sl false 1 (pl i64 m.sums)),.p (.sl false 2 (pl ext m.values))]:=by rw [zag];rfl
theorem zi1 {l:By} {r:List AV} : ∀ {n:Nat},n≤l.length → yq false 1 n (cl b8 l++r)=some (pl b8 (l.take n)):=by
 induction l with
 | nil=>intro n h;simp at h;subst h;rfl
 | cons a l ih =>
  intro n h
  cases n with
  | zero=>rfl
  | succ n =>
   have:=ih (n:=n) (by simpa using h)
   simp only [cl,List.map_cons,List.cons_append] at this ⊢
   simp only [yq]
   rw [if_pos (by simp)]
   simp only [List.take_succ_cons,List.take_zero,List.drop_succ_cons,List.drop_zero,this]
   rfl
theorem zhe:yq false 1 32 ((mcl m).drop 4)=some (pl b8 m.root.val):=by
 rw [zPR,zi1 (by rw [m.root.len];exact Nat.le_refl _),List.take_of_length_le (by rw [m.root.len];exact Nat.le_refl _)]
theorem zRv:(yy s)[0]? = some (.p (i64 s.id)):=by rw [yO];rfl
theorem zPS:(yy s)[1]? = some (.p (i64 s.step)):=by rw [yO];rfl
theorem zPT:(yy s)[2]? = some (.p (i64 s.state)):=by rw [yO];rfl
theorem zRw:(yy s)[3]? = some (.p (str (bytesOf s.text))):=by rw [yO];rfl
theorem zRx:((yy s).drop 4).take 32=cl b8 s.seen.val:=by
 rw [yO];simp only [List.drop_succ_cons,List.drop_zero]
 rw [List.take_append_of_le_length (by rw [yw];omega),List.take_of_length_le (by rw [yw];omega)]
theorem zlP {i:Nat} (h:i < 38):(yy s)[36+i]? = (mcl s.last)[i]? := by
 rw [yO,show 36+i=32+i+1+1+1+1 by omega]
 simp only [List.getElem?_cons_succ]
 rw [zbu (yw _) (by omega),Nat.add_sub_cancel_left,List.getElem?_append_left (by rw [zV];exact h)]
theorem zPU:(yy s)[36]? = some (.p (i64 s.last.kind)):=(zlP (i:=0) (by omega)).trans zPP
theorem zPV:(yy s)[38]? = some (.p (i64 s.last.step)):=(zlP (i:=2) (by omega)).trans zOy
theorem zdQ {i:Nat}:(yy s)[74+i]? = [AV.p (i64 s.due),.p (i64 s.bytes),.p (i64 s.rounds),.p (i64 s.words)][i]? := by
 rw [yO,show 74+i=32+(38+i)+1+1+1+1 by omega]
 simp only [List.getElem?_cons_succ]
 rw [zbu (yw _) (by omega),Nat.add_sub_cancel_left,zbu zV (by omega),Nat.add_sub_cancel_left]
theorem zPW:(yy s)[74]? = some (.p (i64 s.due)):=zdQ (i:=0)
theorem zPX:(yy s)[75]? = some (.p (i64 s.bytes)):=zdQ (i:=1)
theorem zPY:(yy s)[76]? = some (.p (i64 s.rounds)):=zdQ (i:=2)
theorem zPZ:(yy s)[77]? = some (.p (i64 s.words)):=zdQ (i:=3)
theorem zP0:(yy s).drop 4=cl b8 s.seen.val++(mcl s.last++[.p (i64 s.due),.p (i64 s.bytes),.p (i64 s.rounds),.p (i64 s.words)]):=by rw [yO];rfl
theorem zpe:(yy s).drop 36=mcl s.last++[.p (i64 s.due),.p (i64 s.bytes),.p (i64 s.rounds),.p (i64 s.words)]:=by
 rw [show (36:Nat)=4+32 by rfl,←List.drop_drop,zP0,List.drop_append_of_le_length (by rw [yw];omega),List.drop_of_length_le (by rw [yw];omega)];rfl
theorem zRy:((yy s).drop 36).take 38=mcl s.last:=by
 rw [zpe,List.take_append_of_le_length (by rw [zV];omega),zgs]
theorem zP1:((yy s).drop 75).take 3=[.p (i64 s.bytes),.p (i64 s.rounds),.p (i64 s.words)]:=by
 rw [show (75:Nat)=36+(38+1) by rfl,←List.drop_drop,zpe,←List.drop_drop,List.drop_append_of_le_length (by rw [zV];omega),show (mcl s.last).drop 38=[] from List.drop_of_length_le (by rw [zV];omega)]
 rfl
end cells

section stores
variable {m:Msg} {s:Ses}
theorem zP2 {x:Int}:(mcl m).set 0 (.p (i64 x))=mcl { m with kind:=x }:=by rw [zag,zag];rfl
theorem zP3 {x:Int}:(mcl m).set 1 (.p (i64 x))=mcl { m with session:=x }:=by rw [zag,zag];rfl
theorem zP4 {x:Int}:(mcl m).set 2 (.p (i64 x))=mcl { m with step:=x }:=by rw [zag,zag];rfl
theorem zP5 {x:By}:(mcl m).set 3 (.p (str (bytesOf x)))=mcl { m with text:=x }:=by rw [zag,zag];rfl
theorem zP6 {d:Dg}:setAt (mcl m) 4 (cl b8 d.val)=mcl { m with root:=d }:=by
 rw [yQ _ _ _ (by rw [zV,yw];omega),yw,zag,zag]
 simp only [List.take_succ_cons,List.take_zero,List.drop_succ_cons,List.cons_append,List.nil_append]
 rw [List.drop_append_of_le_length (by rw [yw];omega),List.drop_of_length_le (by rw [yw];omega)];rfl
theorem zP7 {x:Int}:(yy s).set 1 (.p (i64 x))=yy { s with step:=x }:=by rw [yO,yO];rfl
theorem zP8 {x:Int}:(yy s).set 2 (.p (i64 x))=yy { s with state:=x }:=by rw [yO,yO];rfl
theorem zP9 {x:By}:(yy s).set 3 (.p (str (bytesOf x)))=yy { s with text:=x }:=by rw [yO,yO];rfl
theorem zJ5 {d:Dg}:setAt (yy s) 4 (cl b8 d.val)=yy { s with seen:=d }:=by
 rw [yQ _ _ _ (by rw [yP,yw];omega),yw,yO,yO]
 simp only [List.take_succ_cons,List.take_zero,List.drop_succ_cons,List.cons_append,List.nil_append]
 rw [List.drop_append_of_le_length (by rw [yw];omega),List.drop_of_length_le (by rw [yw];omega)];rfl
theorem zQa {l:Msg}:setAt (yy s) 36 (mcl l)=yy { s with last:=l }:=by
 rw [yQ _ _ _ (by rw [yP,zV];omega),zV]
 have h1:(yy s).take 36 = .p (i64 s.id) :: .p (i64 s.step) :: .p (i64 s.state) :: .p (str (bytesOf s.text)) :: cl b8 s.seen.val:=by
  rw [yO];simp only [List.take_succ_cons]
  rw [List.take_append_of_le_length (by rw [yw];omega),List.take_of_length_le (by rw [yw];omega)]
 have h2:(yy s).drop (36+38)=[.p (i64 s.due),.p (i64 s.bytes),.p (i64 s.rounds),.p (i64 s.words)]:=by
  rw [←List.drop_drop,zpe,List.drop_append_of_le_length (by rw [zV];omega),List.drop_of_length_le (by rw [zV];omega)];rfl
 rw [h1,h2,yO]
 simp
theorem zQb {a b c:Int}:setAt (yy s) 75 [.p (i64 a),.p (i64 b),.p (i64 c)]=yy { s with bytes:=a,rounds:=b,words:=c }:=by
 rw [yQ _ _ _ (by rw [yP];simp)]
 have h1:(yy s).take 75 = .p (i64 s.id) :: .p (i64 s.step) :: .p (i64 s.state) :: .p (str (bytesOf s.text)) :: (cl b8 s.seen.val++(mcl s.last++[.p (i64 s.due)])):=by
  rw [yO];simp only [List.take_succ_cons]
  rw [show (71:Nat)=(cl b8 s.seen.val).length+39 by rw [yw],List.take_length_add_append,show (39:Nat)=(mcl s.last).length+1 by rw [zV],List.take_length_add_append];rfl
 have h2:(yy s).drop (75+3)=[]:=List.drop_of_length_le (by rw [yP];omega)
 simp only [List.length_cons,List.length_nil]
 rw [h1,h2,yO]
 simp
end stores
attribute [go_sem] zhe zV yP zpc zpd yf ztW ztX zAk zgs zlO zPP zRt zOy zPQ zJ3 zJ4 zRu zRv zPS zPT zRw zRx zPU zPV zPW zPX zPY zPZ zRy zP1 zP2 zP3 zP4 zP5 zP6 zP7 zP8 zP9 zJ5 zQa zQb zaR Dg.len

/-! ### The rules -/
structure Rule where
 first:Int
 every:Int
 fn:FuncId
def iev (n:Int):Value := .int .i64 n
def okI (n:Int):Prop := -9223372036854775808≤n∧n≤9223372036854775807
def rlv (r:Rule):AV := .agg [.p (i64 r.first),.p (i64 r.every),.clo r.fn [] []]
def ivv (n:Int):AV := .p (i64 n)
def zau (k:Int):Option Rule :=
 if k=1 then some ⟨0,0,106⟩ else if k=2 then some ⟨1,0,107⟩ else if k=3 then some ⟨3,0,108⟩ else if k=4 then some ⟨2,2,109⟩
 else if k=5 then some ⟨5,2,110⟩ else if k=6 then some ⟨4,2,107⟩ else if k=7 then some ⟨2,2,107⟩ else none
def zb2 (k:Int):Option Int:=if k=1 then some 1 else if k=2 ∨ k=3 ∨ k=4 ∨ k=5 then some 2 else if k=6 then some 3 else if k=7 then some 4 else none
theorem wf_i64 {n:Int} (h1 : -9223372036854775808≤n) (h2:n≤9223372036854775807):(Lit.int .i64 n).wf=true:=by
 simp only [Lit.wf,Bool.and_eq_true,decide_eq_true_eq]
 exact⟨h1,h2⟩
theorem zqr (n:Int) (h:okI n):(keyOf Tryd.prog 3 (iev n)).isSome=true:=by
 unfold keyOf
 simp only [Tryd.underlying3,mapKey,iev]
 rw [if_pos ⟨trivial,wf_i64 h.1 h.2⟩]
 rfl
theorem ruleMap:MapT Tryd.prog 112 i64 iev okI rlv (.p (.agg [i64 0,i64 0,.s .nilFunc])) where
 ty:=⟨_,_,Tryd.underlying112,zAb,zqr,zhL⟩
 val k:=rfl
 inj a b _ _ h:=by simpa [iev] using h
theorem stateMap:MapT Tryd.prog 120 i64 iev okI ivv (.p (i64 0)) where
 ty:=⟨_,_,Tryd.underlying120,zAb,zqr,zqn⟩
 val k:=rfl
 inj a b _ _ h:=by simpa [iev] using h
structure GR (G:Globs) (r1 r2:Nat) (m1:List (Int × Rule)) (m2:List (Int × Int)):Prop where
 s0:G 1=some (8,[.agg (pl zC inits)])
 s1:G 3=some (64,[.agg (pl zC ks)])
 g1:G 0=some (1,[.s (.map (some r1))])
 g2:G 2=some (1,[.s (.map (some r2))])
 h1:G.map r1=some (tm iev rlv m1)
 h2:G.map r2=some (tm iev ivv m2)
 k1 : ∀ p∈m1,okI p.1
 k2 : ∀ p∈m2,okI p.1
 t1 : ∀ k,zaQ k m1=zau k
 t2 : ∀ k,zaQ k m2=zb2 k
theorem GR.rule {G:Globs} {r1 r2:Nat} {m1:List (Int × Rule)} {m2:List (Int × Int)} (g:GR G r1 r2 m1 m2) {k:Int} (h:okI k):zdN Tryd.prog 112 (some (tm iev rlv m1)) (.p (i64 k)) true=some (zpY rlv (.p (.agg [i64 0,i64 0,.s .nilFunc])) (zau k)):=by rw [←g.t1,ruleMap.look g.k1 h]
theorem GR.rule2 {G:Globs} {r1 r2:Nat} {m1:List (Int × Rule)} {m2:List (Int × Int)} (g:GR G r1 r2 m1 m2) {k:Int} (h:okI k):zdN Tryd.prog 112 (some (tm iev rlv m1)) (.p (i64 k)) false=some (match zau k with | some v=>rlv v | none => .p (.agg [i64 0,i64 0,.s .nilFunc])):=by rw [←g.t1,ruleMap.at g.k1 h];cases zaQ k m1<;>rfl
theorem GR.state {G:Globs} {r1 r2:Nat} {m1:List (Int × Rule)} {m2:List (Int × Int)} (g:GR G r1 r2 m1 m2) {k:Int} (h:okI k):zdN Tryd.prog 120 (some (tm iev ivv m2)) (.p (i64 k)) false=some (.p (i64 ((zb2 k).getD 0))):=by
 rw [←g.t2,stateMap.at g.k2 h];cases zaQ k m2<;>rfl

def fits (k step:Int):Bool:=match zau k with | none=>false | some r => !decide (step < r.first) && (step == r.first || (decide (0 < r.every) && ((step - r.first) % r.every == 0)))
section walks
variable {G:Globs} {r1 r2:Nat} {m1:List (Int × Rule)} {m2:List (Int × Int)}
theorem zAl {k:Int} {r:Rule} (h:zau k=some r):0≤r.first∧r.first≤5∧(r.every=0 ∨ r.every=2):=by
 unfold zau at h
 (repeat' split at h)<;>cases h<;>simp
theorem zpf {x:Option Nat}:(PV.s (.map x)).cells=[.s (.map x)]:=rfl
attribute [go_sem] zpf
theorem zeo {r:Rule}:zo (rlv r)=some [.p (i64 r.first),.p (i64 r.every),.clo r.fn [] []]:=rfl
theorem zi2:zo (.p (.agg [i64 0,i64 0,.s .nilFunc]))=some [.p (i64 0),.p (i64 0),.p (.s .nilFunc)]:=rfl
attribute [go_sem] zeo zi2
theorem zeb (g:GR G r1 r2 m1 m2) (k step:Int) (hk:okI k) (hs:okI step) (H:Hp) (R:AV → Hp → Prop) (h:R (.p (bo (fits k step))) H):ACall Tryd.prog G 48 [.p (i64 k),.p (i64 step)] H R:=by
 have e1:=g.g1
 have e2:=g.h1
 have e3:=g.rule hk
 obtain⟨hs1,hs2⟩:=hs
 unfold fits at h
 refine ACall.of_run (raw:=[]) Tryd.func48 rfl Tryd.ntmps48 (by simp) fun hbel => ?_
 refine .q ?_;refine .text ?_;simp (disch:=first|exact zb|fail) only [go_sem,seval]
 cases hr:zau k with
 | none =>
  rw [hr] at h e3
  refine .q ?_;refine .text ?_;simp (disch:=first|exact zb|fail) only [go_sem,seval,e1,e2,e3]
  refine .q ?_;refine .text ?_;simp (disch:=first|exact zb|fail) only [go_sem,seval]
  refine .q ?_;refine .ifT (by simp (disch:=first|exact zb|fail) only [go_sem,seval]) ?_
  refine .q ?_;refine .text ?_;simp (disch:=first|exact zb|fail) only [go_sem,seval]
  refine .q ?_;refine .rt Tryd.func48 (by rw [Tryd.results48]) (hR := ?_);simp (disch:=first|exact zb|fail) only [go_sem,seval]
  exact h
 | some r =>
  rw [hr] at h e3
  obtain⟨q1,q2,q3⟩:=zAl hr
  simp only at h
  refine .q ?_;refine .text ?_;simp (disch:=first|exact zb|fail) only [go_sem,seval,e1,e2,e3,zeo]
  refine .q ?_;refine .text ?_;simp (disch:=first|exact zb|fail) only [go_sem,seval]
  by_cases c1:step < r.first
  · have d1:decide (step < r.first)=true:=decide_eq_true c1
    rw [d1] at h
    refine .q ?_;refine .ifT (by simp (disch:=first|exact zb|fail) only [go_sem,seval,d1]) ?_
    refine .q ?_;refine .text ?_;simp (disch:=first|exact zb|fail) only [go_sem,seval]
    refine .q ?_;refine .rt Tryd.func48 (by rw [Tryd.results48]) (hR := ?_);simp (disch:=first|exact zb|fail) only [go_sem,seval]
    exact h
  · have d1:decide (step < r.first)=false:=decide_eq_false c1
    rw [d1] at h
    refine .q ?_;refine .ifF (by simp (disch:=first|exact zb|fail) only [go_sem,seval,d1]) ?_
    refine .q ?_;refine .text ?_;simp (disch:=first|exact zb|fail) only [go_sem,seval]
    by_cases c2:step=r.first
    · have d2:(step == r.first)=true:=by simp [c2]
      rw [d2] at h
      simp (disch:=first|exact zb|fail) only [go_sem,seval,d2]
      refine .q ?_;refine .rt Tryd.func48 (by rw [Tryd.results48]) (hR := ?_);simp (disch:=first|exact zb|fail) only [go_sem,seval]
      exact h
    · have d2:(step == r.first)=false:=by simp [c2]
      rw [d2] at h
      simp (disch:=first|exact zb|fail) only [go_sem,seval,d2]
      rcases q3 with q3 | q3
      · have d3:decide (0 < r.every)=false:=by rw [q3];rfl
        rw [d3] at h
        simp (disch:=first|exact zb|fail) only [go_sem,seval,d3]
        refine .q ?_;refine .rt Tryd.func48 (by rw [Tryd.results48]) (hR := ?_);simp (disch:=first|exact zb|fail) only [go_sem,seval]
        exact h
      · have d3:decide (0 < r.every)=true:=by rw [q3];rfl
        rw [d3] at h
        simp (disch:=first|exact zb|fail) only [go_sem,seval,d3]
        refine .q ?_;refine .rt Tryd.func48 (by rw [Tryd.results48]) (hR := ?_);simp (disch:=first|exact zb|fail) only [go_sem,seval]
        exact h
end walks
end Go.Proofs.YtmoecjgehdkhkaaDoor

/-
  Sessions: which messages are valid.
-/
namespace Go.Proofs.YtmoecjgehdkhkaaDoor
open Go Go.AL

section enc
variable {x:Ext} {l:List Ext} {a b:U}
def ecl (x:Ext):List AV:=[.p (zw x.a),.p (zw x.b)]
theorem zIF:ecl x=[.p (zw x.a),.p (zw x.b)]:=rfl
theorem ztY:(ext x).cells=[zw x.a,zw x.b]:=rfl
theorem ztZ:(ext x).isAgg=true:=rfl
theorem zt0:(ext x).aggOf 0 2=ext x:=rfl
theorem zpg:(AV.p (ext x)).isAggV=true:=rfl
theorem zAm:(ext x).weak=ext x:=rfl
theorem zt1:(ext x).weak1=ext x:=rfl
theorem zph:zo (.p (ext x))=some (ecl x):=rfl
theorem zAn:PV.agg [zw a,zw b]=ext ⟨a,b⟩:=rfl
theorem zt2:zG [.p (zw a),.p (zw b)] = .p (ext ⟨a,b⟩):=rfl
theorem zIG:(⟨x.a,x.b⟩:Ext)=x:=rfl
theorem zi3:(pl ext l).map PV.weak1=pl ext l:=zat fun _=>rfl
theorem zlQ:(pl ext l).map PV.weak=pl ext l:=zbX fun _=>rfl
theorem zRd : ∀ y∈pl ext l,y.cells.length=2:=fun y hy=>by
 simp only [pl,List.mem_map] at hy
 obtain⟨x,_,rfl⟩:=hy
 rfl
end enc
attribute [go_sem] zt0 zIF ztY ztZ zpg zAm zt1 zph zAn zt2 zIG zi3 zlQ

theorem zbf {l:List PV} (h : ∀ x∈l,x.weak1=x):l.map PV.weak1=l:=by
 induction l with
 | nil=>rfl
 | cons a l ih=>rw [List.map_cons,h a (by simp),ih fun x hx=>h x (by simp [hx])]
theorem zdu {m:Msg} : ∀ x∈zea m,x.weak1=x:=fun x hx=>by
 simp only [zea,List.mem_append,List.mem_cons,List.not_mem_nil,or_false,pl,List.mem_map] at hx
 rcases hx with (rfl | rfl | rfl | rfl) | ⟨y,_,rfl⟩ | rfl | rfl<;>rfl
theorem zpi {s:Ses} : ∀ x∈zlN s,x.weak1=x:=fun x hx=>by
 simp only [zlN,List.mem_append,List.mem_cons,List.not_mem_nil,or_false,pl,List.mem_map] at hx
 rcases hx with (rfl | rfl | rfl | rfl) | ⟨y,_,rfl⟩ | hx | rfl | rfl | rfl | rfl
 all_goals first | rfl | exact zdu _ hx
theorem zAo {m:Msg}:(yK m).weak=yK m:=by show PV.agg ((zea m).map PV.weak1)=_;rw [zbf zdu];rfl
theorem zAp {s:Ses}:(yt s).weak=yt s:=by show PV.agg ((zlN s).map PV.weak1)=_;rw [zbf zpi];rfl
theorem zAq {d:Dg}:(dgv d).weak=dgv d:=by show PV.agg ((pl b8 d.val).map PV.weak1)=_;rw [zat fun _=>rfl];rfl
attribute [go_sem] zAo zAp zAq

def fOK (x:U):Bool:=decide (x < 18446744069414584321#64)
def zaS (x:Ext):Bool:=fOK x.a && fOK x.b
def small (n:Int):Bool:=decide (0≤n) && decide (n≤2147483647)
def holds (k t s v:Int):Bool :=
 if k=1 then decide (1≤t) && decide (t≤400) && (s+v == 0) else if k=3 then decide (s≤64) && (t+v == 0) else if k=4 then (v == 1) && (t+s == 0) else if k=5 then decide (v≤64) && (t+s == 0) else t+s+v == 0
def valid (m:Msg):Bool:=small m.session && small m.step && fits m.kind m.step && holds m.kind m.text.length m.sums.length m.values.length && !m.values.any fun x => !zaS x
structure Msg.Ok (m:Msg):Prop where
 kind:okI m.kind
 session:okI m.session
 step:okI m.step
 text:m.text.length≤140737488355000
 sums:m.sums.length≤140737488355000
 values:m.values.length≤140737488355000

section walks
variable {G:Globs} {r1 r2:Nat} {m1:List (Int × Rule)} {m2:List (Int × Int)}
theorem zcA (x:U) (H:Hp) (R:AV → Hp → Prop) (h:R (.p (bo (fOK x))) H):ACall Tryd.prog G 80 [.p (zw x)] H R:=by
 refine ACall.of_run (raw:=[]) Tryd.func80 rfl Tryd.ntmps80 (by simp) fun hbel => ?_
 refine .q ?_;refine .text ?_;simp (disch:=first|exact zb|fail) only [go_sem,seval]
 refine .q ?_;refine .text ?_;simp (disch:=first|exact zb|fail) only [go_sem,seval]
 refine .q ?_;refine .rt Tryd.func80 (by rw [Tryd.results80]) (hR := ?_);simp (disch:=first|exact zb|fail) only [go_sem,seval]
 exact h
theorem zhf (x:Ext) (H:Hp) (R:AV → Hp → Prop) (h:R (.p (bo (zaS x))) H):ACall Tryd.prog G 67 [.p (ext x)] H R:=by
 unfold zaS at h
 refine ACall.of_run (raw:=[]) Tryd.func67 rfl Tryd.ntmps67 (by simp) fun hbel => ?_
 refine .q ?_;refine .text ?_;simp (disch:=first|exact zb|fail) only [go_sem,seval]
 refine .q ?_;refine .text ?_;simp (disch:=first|exact zb|fail) only [go_sem,seval]
 refine CallK.of (fun R h=>zcA _ _ R h) ?_;simp (disch:=first|exact zb|fail) only [go_sem,seval]
 cases h1:fOK x.a with
 | true =>
  simp (disch:=first|exact zb|fail) only [go_sem,seval]
  refine CallK.of (fun R h=>zcA _ _ R h) ?_;simp (disch:=first|exact zb|fail) only [go_sem,seval]
  refine .q ?_;refine .rt Tryd.func67 (by rw [Tryd.results67]) (hR := ?_);simp (disch:=first|exact zb|fail) only [go_sem,seval]
  simpa [h1] using h
 | false =>
  simp (disch:=first|exact zb|fail) only [go_sem,seval]
  refine .q ?_;refine .rt Tryd.func67 (by rw [Tryd.results67]) (hR := ?_);simp (disch:=first|exact zb|fail) only [go_sem,seval]
  simpa [h1] using h
theorem zlR (x:Ext) (H:Hp) (R:AV → Hp → Prop) (h:R (.p (bo (!zaS x))) H):ACall Tryd.prog G 66 [.p (ext x)] H R:=by
 refine ACall.of_run (raw:=[]) Tryd.func66 rfl Tryd.ntmps66 (by simp) fun hbel => ?_
 refine .q ?_;refine .text ?_;simp (disch:=first|exact zb|fail) only [go_sem,seval]
 refine .q ?_;refine .text ?_;simp (disch:=first|exact zb|fail) only [go_sem,seval]
 refine CallK.of (fun R h=>zhf _ _ R h) ?_;simp (disch:=first|exact zb|fail) only [go_sem,seval]
 refine .q ?_;refine .rt Tryd.func66 (by rw [Tryd.results66]) (hR := ?_);simp (disch:=first|exact zb|fail) only [go_sem,seval]
 exact h
theorem zAr {xs:List Ext} {p:Ext → Bool} {i:Nat} (hi:i < xs.length) (h:p (nth xs i)=true):xs.any p=true:=by
 rw [List.any_eq_true]
 exact⟨nth xs i,by rw [show nth xs i=xs[i] by simp [nth,hi]];exact List.getElem_mem hi,h⟩
theorem zqs {xs:List Ext} {p:Ext → Bool} (h : ∀ i,i < xs.length → p (nth xs i)=false):xs.any p=false:=by
 rw [List.any_eq_false]
 intro x hx
 obtain⟨i,hi,rfl⟩:=List.getElem_of_mem hx
 have:=h i hi
 rw [show nth xs i=xs[i] by simp [nth,hi]] at this
 simp [this]
set_option maxHeartbeats 4000000 in
theorem zlS (xs:List Ext) (hl:xs.length≤140737488355000) (H:Hp) (R:AV → Hp → Prop) (h : ∀ n:Int,decide (0≤n)=(xs.any fun x => !zaS x) → R (.p (i64 n)) H) :
 ACall Tryd.prog G 79 [.p (.sl false 2 (pl ext xs)),.clo 66 [] []] H R:=by
 refine ACall.of_run (raw:=[]) Tryd.func79 rfl Tryd.ntmps79 (by simp) fun hbel => ?_
 refine .q ?_;refine .text ?_;simp (disch:=first|exact zb|fail) only [go_sem,seval]
 refine .q ?_;refine .text ?_;simp (disch:=first|exact zb|fail) only [go_sem,seval]
 refine .q ?_;refine .loopE [0,1,7] (fun i=>[(8,.p (i64 i))]) (fun i=>[]) (fun i => ∀ j,j < i → (!zaS (nth xs j))=false) (0) (xs.length) (by omega) ?_ (by first | rfl | (simp (disch:=first|exact zb|fail) only [go_sem,seval]<;>rfl)) ?_ ?_ ?_
 · simp (disch:=first|exact zb|fail) only [go_sem,seval]<;>(repeat' (first | rfl | refine And.intro ?_ ?_))
 rotate_left 1
 intro env E hQ;simp (disch:=first|exact zb|fail) only [go_sem,seval] at E
 rotate_left 1
 intro i env hi0 hi E hQ ihE;simp (disch:=first|exact zb|fail) only [go_sem,seval] at E
 rotate_left 1
 · exact fun j hj=>absurd hj (by omega)
 · have hn:=zqs (p:=fun x => !zaS x) hQ
   refine .q ?_;refine .text ?_;simp (disch:=first|exact zb|fail) only [go_sem,seval,E]
   refine .q ?_;refine .ifF (by simp (disch:=first|exact zb|fail) only [go_sem,seval]) ?_
   refine .q ?_;refine .text ?_;simp (disch:=first|exact zb|fail) only [go_sem,seval]
   refine .q ?_;refine .rt Tryd.func79 (by rw [Tryd.results79]) (hR := ?_);simp (disch:=first|exact zb|fail) only [go_sem,seval]
   exact h _ (by rw [hn];rfl)
 · refine .q ?_;refine .text ?_;simp (disch:=first|exact zb|fail) only [go_sem,seval,E]
   refine .q ?_;refine .ifT (by simp (disch:=first|exact zb|fail) only [go_sem,seval]) ?_
   refine .q ?_;refine .text ?_;simp (disch:=first|exact zb|fail) only [go_sem,seval,E]
   refine .q ?_;refine .text ?_;simp (disch:=first|exact zb|fail) only [go_sem,seval,E]
   refine CallK.of (fun R h=>zlR _ _ R h) ?_;simp (disch:=first|exact zb|fail) only [go_sem,seval]
   refine .q ?_;refine .ifB (by simp (disch:=first|exact zb|fail) only [go_sem,seval];rfl) (fun hc => ?_) (fun hc => ?_)
   · have hn:=zAr (p:=fun x => !zaS x) hi (by simpa using hc)
     refine .q ?_;refine .text ?_;simp (disch:=first|exact zb|fail) only [go_sem,seval,E]
     refine .q ?_;refine .rt Tryd.func79 (by rw [Tryd.results79]) (hR := ?_);simp (disch:=first|exact zb|fail) only [go_sem,seval]
     exact h _ (by rw [hn];simp)
   · have hn : ∀ j,j < i+1 → (!zaS (nth xs j))=false:=fun j hj=>by
      rcases Nat.lt_or_ge j i with q | q
      · exact hQ j q
      · rw [show j=i by omega];simpa using hc
     refine .skip ?_
     refine .q ?_;refine .text ?_;simp (disch:=first|exact zb|fail) only [go_sem,seval,E]
     first | (refine ihE _ _ ?_ hn ?_) | (refine .z rfl ?_;refine ihE _ _ ?_ hn ?_) | (refine .z rfl ?_;refine .z rfl ?_;refine ihE _ _ ?_ hn ?_) | (refine .z rfl ?_;refine .z rfl ?_;refine .z rfl ?_;refine ihE _ _ ?_ hn ?_)
     · simp (disch:=first|exact zb|fail) only [go_sem,seval,E]<;>(repeat' (first | rfl | refine And.intro ?_ ?_))
     · first | rfl | (simp (disch:=first|exact zb|fail) only [go_sem,seval,E]<;>(try rfl))
theorem zgt (xs:List Ext) (hl:xs.length≤140737488355000) (H:Hp) (R:AV → Hp → Prop) (h:R (.p (bo (xs.any fun x => !zaS x))) H) :
 ACall Tryd.prog G 65 [.p (.sl false 2 (pl ext xs)),.clo 66 [] []] H R:=by
 refine ACall.of_run (raw:=[]) Tryd.func65 rfl Tryd.ntmps65 (by simp) fun hbel => ?_
 refine .q ?_;refine .text ?_;simp (disch:=first|exact zb|fail) only [go_sem,seval]
 refine .q ?_;refine .text ?_;simp (disch:=first|exact zb|fail) only [go_sem,seval]
 refine CallK.ex (S:=fun r H' => ∃ n:Int,r = .p (i64 n)∧H'=H∧decide (0≤n)=(xs.any fun x => !zaS x)) (zlS xs hl _ _ fun n hn=>⟨n,rfl,rfl,hn⟩) ?_
 rintro _ _ ⟨n,rfl,rfl,hn⟩
 simp (disch:=first|exact zb|fail) only [go_sem,seval,hn]
 refine .q ?_;refine .rt Tryd.func65 (by rw [Tryd.results65]) (hR := ?_);simp (disch:=first|exact zb|fail) only [go_sem,seval]
 exact h
theorem zlT {k:Int} {r:Rule} (h:zau k=some r):enters Tryd.prog r.fn=true:=by
 unfold zau at h
 (repeat' split at h)<;>cases h<;>first | exact zhG | exact zhH | exact zhI | exact zhJ | exact zhK
theorem zt3 {k:Int} {r:Rule} (hr:zau k=some r) (a b c:Int) (ha:0≤a∧a≤1000000000000000) (hb:0≤b∧b≤1000000000000000) (hc:0≤c∧c≤1000000000000000) (H:Hp) (R:AV → Hp → Prop) (h:R (.p (bo (holds k a b c))) H):ACall Tryd.prog G r.fn [.p (i64 a),.p (i64 b),.p (i64 c)] H R:=by
 unfold zau at hr
 unfold holds at h
 by_cases k1:k=1
 · subst k1;cases hr;exact zo8 a b c ha hb hc H R h
 by_cases k2:k=2
 · subst k2;cases hr;exact zdt a b c ha hb hc H R h
 by_cases k3:k=3
 · subst k3;cases hr;exact zo9 a b c ha hb hc H R h
 by_cases k4:k=4
 · subst k4;cases hr;exact zpa a b c ha hb hc H R h
 by_cases k5:k=5
 · subst k5;cases hr;exact zpb a b c ha hb hc H R h
 by_cases k6:k=6
 · subst k6;cases hr;exact zdt a b c ha hb hc H R h
 by_cases k7:k=7
 · subst k7;cases hr;exact zdt a b c ha hb hc H R h
 · simp [k1,k2,k3,k4,k5,k6,k7] at hr
theorem zhN {k s:Int} (h:fits k s=true) : ∃ r,zau k=some r:=by
 unfold fits at h
 cases hr:zau k with
 | none=>rw [hr] at h;cases h
 | some r=>exact⟨r,rfl⟩
theorem isAggV_agg {l:List AV}:(AV.agg l).isAggV=true:=rfl
attribute [go_sem] isAggV_agg
theorem zIH {r:Rule}:rlv r = .agg [.p (i64 r.first),.p (i64 r.every),.clo r.fn [] []]:=rfl
theorem small_spec' (n:Int) (H:Hp) (R:AV → Hp → Prop) (h:R (.p (bo (small n))) H):ACall Tryd.prog G 64 [.p (i64 n)] H R:=zo7 n H R h
set_option maxHeartbeats 4000000 in
set_option maxRecDepth 20000 in
theorem zgu (g:GR G r1 r2 m1 m2) (m:Msg) (hm:m.Ok) (H:Hp) (R:AV → Hp → Prop) (h:R (.p (bo (valid m))) H):ACall Tryd.prog G 39 [.p (yK m)] H R:=by
 have e1:=g.g1
 have e2:=g.h1
 have e3:=g.rule2 hm.kind
 have hk:=hm.kind
 have hs:=hm.step
 have ht:=hm.text
 have hsu:=hm.sums
 have hva:=hm.values
 unfold valid at h
 refine ACall.of_run (raw:=[]) Tryd.func39 rfl Tryd.ntmps39 (by simp) fun hbel => ?_
 refine .q ?_;refine .text ?_;simp (disch:=first|exact zb|fail) only [go_sem,seval]
 refine .q ?_;refine .text ?_;simp (disch:=first|exact zb|fail) only [go_sem,seval]
 refine CallK.of (fun R h=>small_spec' _ _ R h) ?_;simp (disch:=first|exact zb|fail) only [go_sem,seval]
 cases v1:small m.session with
 | false =>
  rw [v1] at h
  simp (disch:=first|exact zb|fail) only [go_sem,seval]
  refine .q ?_;refine .rt Tryd.func39 (by rw [Tryd.results39]) (hR := ?_);simp (disch:=first|exact zb|fail) only [go_sem,seval]
  exact h
 | true =>
  rw [v1] at h
  simp (disch:=first|exact zb|fail) only [go_sem,seval]
  refine CallK.of (fun R h=>small_spec' _ _ R h) ?_;simp (disch:=first|exact zb|fail) only [go_sem,seval]
  cases v2:small m.step with
  | false =>
   rw [v2] at h
   simp (disch:=first|exact zb|fail) only [go_sem,seval]
   refine .q ?_;refine .rt Tryd.func39 (by rw [Tryd.results39]) (hR := ?_);simp (disch:=first|exact zb|fail) only [go_sem,seval]
   exact h
  | true =>
   rw [v2] at h
   simp (disch:=first|exact zb|fail) only [go_sem,seval]
   refine CallK.of (fun R h=>zeb g _ _ hk hs _ R h) ?_;simp (disch:=first|exact zb|fail) only [go_sem,seval]
   cases v3:fits m.kind m.step with
   | false =>
    rw [v3] at h
    simp (disch:=first|exact zb|fail) only [go_sem,seval]
    refine .q ?_;refine .rt Tryd.func39 (by rw [Tryd.results39]) (hR := ?_);simp (disch:=first|exact zb|fail) only [go_sem,seval]
    exact h
   | true =>
    rw [v3] at h
    obtain⟨r,hr⟩:=zhN v3
    have hen:=zlT hr
    rw [hr] at e3
    simp only at e3
    simp (disch:=first|exact zb|fail) only [go_sem,seval,e1,e2,e3,zIH,hen]
    refine CallK.of (fun R h=>zt3 hr m.text.length m.sums.length m.values.length (by omega) (by omega) (by omega) _ R h) ?_
    simp (disch:=first|exact zb|fail) only [go_sem,seval]
    cases v4:holds m.kind m.text.length m.sums.length m.values.length with
    | false =>
     rw [v4] at h
     simp (disch:=first|exact zb|fail) only [go_sem,seval]
     refine .q ?_;refine .rt Tryd.func39 (by rw [Tryd.results39]) (hR := ?_);simp (disch:=first|exact zb|fail) only [go_sem,seval]
     exact h
    | true =>
     rw [v4] at h
     have hen2:enters Tryd.prog 66=true:=zlB
     simp (disch:=first|exact zb|fail) only [go_sem,seval,hen2]
     refine CallK.of (fun R h=>zgt _ hva _ R h) ?_;simp (disch:=first|exact zb|fail) only [go_sem,seval]
     refine .q ?_;refine .rt Tryd.func39 (by rw [Tryd.results39]) (hR := ?_);simp (disch:=first|exact zb|fail) only [go_sem,seval]
     simpa using h
end walks
end Go.Proofs.YtmoecjgehdkhkaaDoor
