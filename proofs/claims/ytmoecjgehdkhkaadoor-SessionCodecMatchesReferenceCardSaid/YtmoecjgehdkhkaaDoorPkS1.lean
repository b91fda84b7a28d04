/-
  What the rules ask of the types and functions of this program: closed facts,by the kernel.
  Conditions: none. Written by gen_tab.py.
-/
import Derived.Test.YtmoecjgehdkhkaaDoorPkE3
import Derived.Test.YtmoecjgehdkhkaaDoorChecked
import Derived.Shelf.Spec.SlicesGrow
set_option linter.unusedSimpArgs false
set_option linter.unusedVariables false
namespace Go.Proofs.YtmoecjgehdkhkaaDoor
open Go Go.AL

theorem cells1:Tryd.prog.cellsOf 1=1:=by kernel_rfl
theorem info1:(Tryd.prog.info? 1).isSome=true:=by kernel_rfl
theorem bytes1:Tryd.prog.bytesOf 1=8:=by kernel_rfl
theorem aggT1:isAggT Tryd.prog 1=false:=by kernel_rfl
theorem isIface1:isIface Tryd.prog 1=false:=by kernel_rfl
theorem azero1:azero Tryd.prog 1=some ([.s .nilFunc]):=by kernel_rfl
theorem zfits1:zfits Tryd.prog 1=true:=by kernel_rfl
theorem cells2:Tryd.prog.cellsOf 2=1:=by kernel_rfl
theorem info2:(Tryd.prog.info? 2).isSome=true:=by kernel_rfl
theorem bytes2:Tryd.prog.bytesOf 2=8:=by kernel_rfl
theorem aggT2:isAggT Tryd.prog 2=false:=by kernel_rfl
theorem isInt2:isIntT Tryd.prog 2=true:=by kernel_rfl
theorem isIface2:isIface Tryd.prog 2=false:=by kernel_rfl
theorem azero2:azero Tryd.prog 2=some ([i64 0]):=by kernel_rfl
theorem zfits2:zfits Tryd.prog 2=true:=by kernel_rfl
theorem cells3:Tryd.prog.cellsOf 3=1:=by kernel_rfl
theorem info3:(Tryd.prog.info? 3).isSome=true:=by kernel_rfl
theorem bytes3:Tryd.prog.bytesOf 3=8:=by kernel_rfl
theorem aggT3:isAggT Tryd.prog 3=false:=by kernel_rfl
theorem isInt3:isIntT Tryd.prog 3=true:=by kernel_rfl
theorem isIface3:isIface Tryd.prog 3=false:=by kernel_rfl
theorem azero3:azero Tryd.prog 3=some ([i64 0]):=by kernel_rfl
theorem zfits3:zfits Tryd.prog 3=true:=by kernel_rfl
theorem cells4:Tryd.prog.cellsOf 4=1:=by kernel_rfl
theorem info4:(Tryd.prog.info? 4).isSome=true:=by kernel_rfl
theorem bytes4:Tryd.prog.bytesOf 4=1:=by kernel_rfl
theorem aggT4:isAggT Tryd.prog 4=false:=by kernel_rfl
theorem isBool4:isBool Tryd.prog 4=true:=by kernel_rfl
theorem isIface4:isIface Tryd.prog 4=false:=by kernel_rfl
theorem azero4:azero Tryd.prog 4=some ([bo false]):=by kernel_rfl
theorem zfits4:zfits Tryd.prog 4=true:=by kernel_rfl
theorem cells5:Tryd.prog.cellsOf 5=1:=by kernel_rfl
theorem info5:(Tryd.prog.info? 5).isSome=true:=by kernel_rfl
theorem bytes5:Tryd.prog.bytesOf 5=1:=by kernel_rfl
theorem aggT5:isAggT Tryd.prog 5=false:=by kernel_rfl
theorem isInt5:isIntT Tryd.prog 5=true:=by kernel_rfl
theorem isIface5:isIface Tryd.prog 5=false:=by kernel_rfl
theorem azero5:azero Tryd.prog 5=some ([b8 0#8]):=by kernel_rfl
theorem zfits5:zfits Tryd.prog 5=true:=by kernel_rfl
theorem cells6:Tryd.prog.cellsOf 6=1:=by kernel_rfl
theorem info6:(Tryd.prog.info? 6).isSome=true:=by kernel_rfl
theorem bytes6:Tryd.prog.bytesOf 6=1:=by kernel_rfl
theorem aggT6:isAggT Tryd.prog 6=false:=by kernel_rfl
theorem isInt6:isIntT Tryd.prog 6=true:=by kernel_rfl
theorem isIface6:isIface Tryd.prog 6=false:=by kernel_rfl
theorem azero6:azero Tryd.prog 6=some ([b8 0#8]):=by kernel_rfl
theorem zfits6:zfits Tryd.prog 6=true:=by kernel_rfl
theorem cells7:Tryd.prog.cellsOf 7=4:=by kernel_rfl
theorem info7:(Tryd.prog.info? 7).isSome=true:=by kernel_rfl
theorem bytes7:Tryd.prog.bytesOf 7=24:=by kernel_rfl
theorem aggT7:isAggT Tryd.prog 7=true:=by kernel_rfl
theorem isIface7:isIface Tryd.prog 7=false:=by kernel_rfl
theorem azero7:azero Tryd.prog 7=some ([i64 0,i64 0,bo false,b8 0#8]):=by kernel_rfl
theorem zfits7:zfits Tryd.prog 7=true:=by kernel_rfl
theorem build7 : ∀ parts,aBuild Tryd.prog 7 parts=(fillA (fun i=>[some (0,1),some (1,1),some (2,1),some (3,1)][i]?.join) ([.p (i64 0),.p (i64 0),.p (bo false),.p (b8 0#8)]) parts).map mkAgg:=fun _=>aBuild_struct (by kernel_rfl) azero7
theorem cells8:Tryd.prog.cellsOf 8=4:=by kernel_rfl
theorem info8:(Tryd.prog.info? 8).isSome=true:=by kernel_rfl
theorem bytes8:Tryd.prog.bytesOf 8=24:=by kernel_rfl
theorem aggT8:isAggT Tryd.prog 8=true:=by kernel_rfl
theorem isIface8:isIface Tryd.prog 8=false:=by kernel_rfl
theorem azero8:azero Tryd.prog 8=some ([i64 0,i64 0,bo false,b8 0#8]):=by kernel_rfl
theorem zfits8:zfits Tryd.prog 8=true:=by kernel_rfl
theorem build8 : ∀ parts,aBuild Tryd.prog 8 parts=(fillA (fun i=>[some (0,1),some (1,1),some (2,1),some (3,1)][i]?.join) ([.p (i64 0),.p (i64 0),.p (bo false),.p (b8 0#8)]) parts).map mkAgg:=fun _=>aBuild_struct (by kernel_rfl) azero8
theorem cells9:Tryd.prog.cellsOf 9=1:=by kernel_rfl
theorem info9:(Tryd.prog.info? 9).isSome=true:=by kernel_rfl
theorem bytes9:Tryd.prog.bytesOf 9=16:=by kernel_rfl
theorem aggT9:isAggT Tryd.prog 9=false:=by kernel_rfl
theorem isIface9:isIface Tryd.prog 9=false:=by kernel_rfl
theorem azero9:azero Tryd.prog 9=some ([str ByteArray.empty]):=by kernel_rfl
theorem zfits9:zfits Tryd.prog 9=true:=by kernel_rfl
theorem cells10:Tryd.prog.cellsOf 10=1:=by kernel_rfl
theorem info10:(Tryd.prog.info? 10).isSome=true:=by kernel_rfl
theorem bytes10:Tryd.prog.bytesOf 10=16:=by kernel_rfl
theorem aggT10:isAggT Tryd.prog 10=false:=by kernel_rfl
theorem isIface10:isIface Tryd.prog 10=false:=by kernel_rfl
theorem azero10:azero Tryd.prog 10=some ([str ByteArray.empty]):=by kernel_rfl
theorem zfits10:zfits Tryd.prog 10=true:=by kernel_rfl
theorem cells11:Tryd.prog.cellsOf 11=1:=by kernel_rfl
theorem info11:(Tryd.prog.info? 11).isSome=true:=by kernel_rfl
theorem bytes11:Tryd.prog.bytesOf 11=16:=by kernel_rfl
theorem aggT11:isAggT Tryd.prog 11=false:=by kernel_rfl
theorem isIface11:isIface Tryd.prog 11=false:=by kernel_rfl
theorem azero11:azero Tryd.prog 11=some ([str ByteArray.empty]):=by kernel_rfl
theorem zfits11:zfits Tryd.prog 11=true:=by kernel_rfl
theorem cells12:Tryd.prog.cellsOf 12=1:=by kernel_rfl
theorem info12:(Tryd.prog.info? 12).isSome=true:=by kernel_rfl
theorem bytes12:Tryd.prog.bytesOf 12=8:=by kernel_rfl
theorem aggT12:isAggT Tryd.prog 12=false:=by kernel_rfl
theorem isInt12:isIntT Tryd.prog 12=true:=by kernel_rfl
theorem isIface12:isIface Tryd.prog 12=false:=by kernel_rfl
theorem azero12:azero Tryd.prog 12=some ([w64 0#64]):=by kernel_rfl
theorem zfits12:zfits Tryd.prog 12=true:=by kernel_rfl
theorem cells13:Tryd.prog.cellsOf 13=2:=by kernel_rfl
theorem info13:(Tryd.prog.info? 13).isSome=true:=by kernel_rfl
theorem bytes13:Tryd.prog.bytesOf 13=24:=by kernel_rfl
theorem aggT13:isAggT Tryd.prog 13=true:=by kernel_rfl
theorem isIface13:isIface Tryd.prog 13=false:=by kernel_rfl
theorem azero13:azero Tryd.prog 13=some ([str ByteArray.empty,w64 0#64]):=by kernel_rfl
theorem zfits13:zfits Tryd.prog 13=true:=by kernel_rfl
theorem build13 : ∀ parts,aBuild Tryd.prog 13 parts=(fillA (fun i=>[some (0,1),some (1,1)][i]?.join) ([.p (str ByteArray.empty),.p (w64 0#64)]) parts).map mkAgg:=fun _=>aBuild_struct (by kernel_rfl) azero13
theorem cells14:Tryd.prog.cellsOf 14=2:=by kernel_rfl
theorem info14:(Tryd.prog.info? 14).isSome=true:=by kernel_rfl
theorem bytes14:Tryd.prog.bytesOf 14=24:=by kernel_rfl
theorem aggT14:isAggT Tryd.prog 14=true:=by kernel_rfl
theorem isIface14:isIface Tryd.prog 14=false:=by kernel_rfl
theorem azero14:azero Tryd.prog 14=some ([str ByteArray.empty,w64 0#64]):=by kernel_rfl
theorem zfits14:zfits Tryd.prog 14=true:=by kernel_rfl
theorem build14 : ∀ parts,aBuild Tryd.prog 14 parts=(fillA (fun i=>[some (0,1),some (1,1)][i]?.join) ([.p (str ByteArray.empty),.p (w64 0#64)]) parts).map mkAgg:=fun _=>aBuild_struct (by kernel_rfl) azero14
theorem cells15:Tryd.prog.cellsOf 15=1:=by kernel_rfl
theorem info15:(Tryd.prog.info? 15).isSome=true:=by kernel_rfl
theorem bytes15:Tryd.prog.bytesOf 15=8:=by kernel_rfl
theorem aggT15:isAggT Tryd.prog 15=false:=by kernel_rfl
theorem isIface15:isIface Tryd.prog 15=false:=by kernel_rfl
theorem azero15:azero Tryd.prog 15=some ([.s (.pointer none)]):=by kernel_rfl
theorem zfits15:zfits Tryd.prog 15=true:=by kernel_rfl
theorem cells16:Tryd.prog.cellsOf 16=1:=by kernel_rfl
theorem info16:(Tryd.prog.info? 16).isSome=true:=by kernel_rfl
theorem bytes16:Tryd.prog.bytesOf 16=8:=by kernel_rfl
theorem aggT16:isAggT Tryd.prog 16=false:=by kernel_rfl
theorem isIface16:isIface Tryd.prog 16=false:=by kernel_rfl
theorem azero16:azero Tryd.prog 16=some ([.s (.pointer none)]):=by kernel_rfl
theorem zfits16:zfits Tryd.prog 16=true:=by kernel_rfl
theorem cells17:Tryd.prog.cellsOf 17=1:=by kernel_rfl
theorem info17:(Tryd.prog.info? 17).isSome=true:=by kernel_rfl
theorem bytes17:Tryd.prog.bytesOf 17=8:=by kernel_rfl
theorem aggT17:isAggT Tryd.prog 17=false:=by kernel_rfl
theorem isIface17:isIface Tryd.prog 17=false:=by kernel_rfl
theorem azero17:azero Tryd.prog 17=some ([.s (.pointer none)]):=by kernel_rfl
theorem zfits17:zfits Tryd.prog 17=true:=by kernel_rfl
theorem cells18:Tryd.prog.cellsOf 18=1:=by kernel_rfl
theorem info18:(Tryd.prog.info? 18).isSome=true:=by kernel_rfl
theorem bytes18:Tryd.prog.bytesOf 18=8:=by kernel_rfl
theorem aggT18:isAggT Tryd.prog 18=true:=by kernel_rfl
theorem isIface18:isIface Tryd.prog 18=false:=by kernel_rfl
theorem azero18:azero Tryd.prog 18=some ([.s (.pointer none)]):=by kernel_rfl
theorem zfits18:zfits Tryd.prog 18=true:=by kernel_rfl
theorem build18 : ∀ parts,aBuild Tryd.prog 18 parts=(fillA (fun i=>[some (0,1)][i]?.join) ([.p (.s (.pointer none))]) parts).map mkAgg:=fun _=>aBuild_struct (by kernel_rfl) azero18
theorem cells19:Tryd.prog.cellsOf 19=1:=by kernel_rfl
theorem info19:(Tryd.prog.info? 19).isSome=true:=by kernel_rfl
theorem bytes19:Tryd.prog.bytesOf 19=8:=by kernel_rfl
theorem aggT19:isAggT Tryd.prog 19=true:=by kernel_rfl
theorem isIface19:isIface Tryd.prog 19=false:=by kernel_rfl
theorem azero19:azero Tryd.prog 19=some ([.s (.pointer none)]):=by kernel_rfl
theorem zfits19:zfits Tryd.prog 19=true:=by kernel_rfl
theorem build19 : ∀ parts,aBuild Tryd.prog 19 parts=(fillA (fun i=>[some (0,1)][i]?.join) ([.p (.s (.pointer none))]) parts).map mkAgg:=fun _=>aBuild_struct (by kernel_rfl) azero19
theorem cells20:Tryd.prog.cellsOf 20=1:=by kernel_rfl
theorem info20:(Tryd.prog.info? 20).isSome=true:=by kernel_rfl
theorem bytes20:Tryd.prog.bytesOf 20=16:=by kernel_rfl
theorem aggT20:isAggT Tryd.prog 20=false:=by kernel_rfl
theorem isIface20:isIface Tryd.prog 20=true:=by kernel_rfl
theorem azero20:azero Tryd.prog 20=some ([.s .nilIface]):=by kernel_rfl
theorem zfits20:zfits Tryd.prog 20=true:=by kernel_rfl
theorem cells21:Tryd.prog.cellsOf 21=1:=by kernel_rfl
theorem info21:(Tryd.prog.info? 21).isSome=true:=by kernel_rfl
theorem bytes21:Tryd.prog.bytesOf 21=4:=by kernel_rfl
theorem aggT21:isAggT Tryd.prog 21=false:=by kernel_rfl
theorem isInt21:isIntT Tryd.prog 21=true:=by kernel_rfl
theorem isIface21:isIface Tryd.prog 21=false:=by kernel_rfl
theorem azero21:azero Tryd.prog 21=some ([.s (.int .i32 0)]):=by kernel_rfl
theorem zfits21:zfits Tryd.prog 21=true:=by kernel_rfl
theorem cells22:Tryd.prog.cellsOf 22=32:=by kernel_rfl
theorem info22:(Tryd.prog.info? 22).isSome=true:=by kernel_rfl
theorem bytes22:Tryd.prog.bytesOf 22=32:=by kernel_rfl
theorem aggT22:isAggT Tryd.prog 22=true:=by kernel_rfl
theorem arrOK22:arrOK Tryd.prog 22 .u8 32=true:=by kernel_rfl
theorem isIface22:isIface Tryd.prog 22=false:=by kernel_rfl
theorem azero22:azero Tryd.prog 22=some (List.replicate 32 (b8 0#8)):=by kernel_rfl
theorem zfits22:zfits Tryd.prog 22=true:=by kernel_rfl
theorem build22 : ∀ parts,aBuild Tryd.prog 22 parts=(fillA (fun i=>some (i*1,1)) ((List.replicate 32 (b8 0#8)).map .p) parts).map mkAgg:=fun _=>aBuild_arr (by kernel_rfl) azero22
theorem cells23:Tryd.prog.cellsOf 23=32:=by kernel_rfl
theorem info23:(Tryd.prog.info? 23).isSome=true:=by kernel_rfl
theorem bytes23:Tryd.prog.bytesOf 23=32:=by kernel_rfl
theorem aggT23:isAggT Tryd.prog 23=true:=by kernel_rfl
theorem arrOK23:arrOK Tryd.prog 23 .u8 32=true:=by kernel_rfl
theorem isIface23:isIface Tryd.prog 23=false:=by kernel_rfl
theorem azero23:azero Tryd.prog 23=some (List.replicate 32 (b8 0#8)):=by kernel_rfl
theorem zfits23:zfits Tryd.prog 23=true:=by kernel_rfl
theorem build23 : ∀ parts,aBuild Tryd.prog 23 parts=(fillA (fun i=>some (i*1,1)) ((List.replicate 32 (b8 0#8)).map .p) parts).map mkAgg:=fun _=>aBuild_arr (by kernel_rfl) azero23
theorem cells24:Tryd.prog.cellsOf 24=1:=by kernel_rfl
theorem info24:(Tryd.prog.info? 24).isSome=true:=by kernel_rfl
theorem bytes24:Tryd.prog.bytesOf 24=24:=by kernel_rfl
theorem aggT24:isAggT Tryd.prog 24=false:=by kernel_rfl
theorem isIface24:isIface Tryd.prog 24=false:=by kernel_rfl
theorem azero24:azero Tryd.prog 24=some ([.sl true 1 []]):=by kernel_rfl
theorem zfits24:zfits Tryd.prog 24=true:=by kernel_rfl
theorem cells25:Tryd.prog.cellsOf 25=1:=by kernel_rfl
theorem info25:(Tryd.prog.info? 25).isSome=true:=by kernel_rfl
theorem bytes25:Tryd.prog.bytesOf 25=24:=by kernel_rfl
theorem aggT25:isAggT Tryd.prog 25=false:=by kernel_rfl
theorem isIface25:isIface Tryd.prog 25=false:=by kernel_rfl
theorem azero25:azero Tryd.prog 25=some ([.sl true 2 []]):=by kernel_rfl
theorem zfits25:zfits Tryd.prog 25=true:=by kernel_rfl
theorem cells26:Tryd.prog.cellsOf 26=38:=by kernel_rfl
theorem info26:(Tryd.prog.info? 26).isSome=true:=by kernel_rfl
theorem bytes26:Tryd.prog.bytesOf 26=120:=by kernel_rfl
theorem aggT26:isAggT Tryd.prog 26=true:=by kernel_rfl
theorem isIface26:isIface Tryd.prog 26=false:=by kernel_rfl
theorem azero26:azero Tryd.prog 26=some (([i64 0,i64 0,i64 0,str ByteArray.empty]:List PV)++List.replicate 32 (b8 0#8)++([.sl true 1 [],.sl true 2 []]:List PV)):=by kernel_rfl
theorem zfits26:zfits Tryd.prog 26=true:=by kernel_rfl
theorem build26 : ∀ parts,aBuild Tryd.prog 26 parts=(fillA (fun i=>[some (0,1),some (1,1),some (2,1),some (3,1),some (4,32),some (36,1),some (37,1)][i]?.join) ((([i64 0,i64 0,i64 0,str ByteArray.empty]:List PV)++List.replicate 32 (b8 0#8)++([.sl true 1 [],.sl true 2 []]:List PV)).map .p) parts).map mkAgg:=fun _=>aBuild_struct (by kernel_rfl) azero26
theorem cells27:Tryd.prog.cellsOf 27=38:=by kernel_rfl
theorem info27:(Tryd.prog.info? 27).isSome=true:=by kernel_rfl
theorem bytes27:Tryd.prog.bytesOf 27=120:=by kernel_rfl
theorem aggT27:isAggT Tryd.prog 27=true:=by kernel_rfl
theorem isIface27:isIface Tryd.prog 27=false:=by kernel_rfl
theorem azero27:azero Tryd.prog 27=some (([i64 0,i64 0,i64 0,str ByteArray.empty]:List PV)++List.replicate 32 (b8 0#8)++([.sl true 1 [],.sl true 2 []]:List PV)):=by kernel_rfl
theorem zfits27:zfits Tryd.prog 27=true:=by kernel_rfl
theorem build27 : ∀ parts,aBuild Tryd.prog 27 parts=(fillA (fun i=>[some (0,1),some (1,1),some (2,1),some (3,1),some (4,32),some (36,1),some (37,1)][i]?.join) ((([i64 0,i64 0,i64 0,str ByteArray.empty]:List PV)++List.replicate 32 (b8 0#8)++([.sl true 1 [],.sl true 2 []]:List PV)).map .p) parts).map mkAgg:=fun _=>aBuild_struct (by kernel_rfl) azero27
theorem cells28:Tryd.prog.cellsOf 28=1:=by kernel_rfl
theorem info28:(Tryd.prog.info? 28).isSome=true:=by kernel_rfl
theorem bytes28:Tryd.prog.bytesOf 28=24:=by kernel_rfl
theorem aggT28:isAggT Tryd.prog 28=false:=by kernel_rfl
theorem isBytes28:isBytesT Tryd.prog 28=true:=by kernel_rfl
theorem isIface28:isIface Tryd.prog 28=false:=by kernel_rfl
theorem azero28:azero Tryd.prog 28=some ([.sl true 1 []]):=by kernel_rfl
theorem zfits28:zfits Tryd.prog 28=true:=by kernel_rfl
theorem cells29:Tryd.prog.cellsOf 29=1:=by kernel_rfl
theorem info29:(Tryd.prog.info? 29).isSome=true:=by kernel_rfl
theorem bytes29:Tryd.prog.bytesOf 29=8:=by kernel_rfl
theorem aggT29:isAggT Tryd.prog 29=false:=by kernel_rfl
theorem isIface29:isIface Tryd.prog 29=false:=by kernel_rfl
theorem azero29:azero Tryd.prog 29=some ([.s .nilFunc]):=by kernel_rfl
theorem zfits29:zfits Tryd.prog 29=true:=by kernel_rfl
theorem cells30:Tryd.prog.cellsOf 30=1:=by kernel_rfl
theorem info30:(Tryd.prog.info? 30).isSome=true:=by kernel_rfl
theorem bytes30:Tryd.prog.bytesOf 30=8:=by kernel_rfl
theorem aggT30:isAggT Tryd.prog 30=false:=by kernel_rfl
theorem isIface30:isIface Tryd.prog 30=false:=by kernel_rfl
theorem azero30:azero Tryd.prog 30=some ([.s .nilFunc]):=by kernel_rfl
theorem zfits30:zfits Tryd.prog 30=true:=by kernel_rfl
theorem cells31:Tryd.prog.cellsOf 31=1:=by kernel_rfl
theorem info31:(Tryd.prog.info? 31).isSome=true:=by kernel_rfl
theorem bytes31:Tryd.prog.bytesOf 31=8:=by kernel_rfl
theorem aggT31:isAggT Tryd.prog 31=false:=by kernel_rfl
theorem isInt31:isIntT Tryd.prog 31=true:=by kernel_rfl
theorem isIface31:isIface Tryd.prog 31=false:=by kernel_rfl
theorem azero31:azero Tryd.prog 31=some ([i64 0]):=by kernel_rfl
theorem zfits31:zfits Tryd.prog 31=true:=by kernel_rfl
theorem cells33:Tryd.prog.cellsOf 33=1:=by kernel_rfl
theorem info33:(Tryd.prog.info? 33).isSome=true:=by kernel_rfl
theorem bytes33:Tryd.prog.bytesOf 33=8:=by kernel_rfl
theorem aggT33:isAggT Tryd.prog 33=false:=by kernel_rfl
theorem isIface33:isIface Tryd.prog 33=false:=by kernel_rfl
theorem azero33:azero Tryd.prog 33=some ([.s .nilFunc]):=by kernel_rfl
theorem zfits33:zfits Tryd.prog 33=true:=by kernel_rfl
theorem cells34:Tryd.prog.cellsOf 34=1:=by kernel_rfl
theorem info34:(Tryd.prog.info? 34).isSome=true:=by kernel_rfl
theorem bytes34:Tryd.prog.bytesOf 34=8:=by kernel_rfl
theorem aggT34:isAggT Tryd.prog 34=false:=by kernel_rfl
theorem isIface34:isIface Tryd.prog 34=false:=by kernel_rfl
theorem azero34:azero Tryd.prog 34=some ([.s .nilFunc]):=by kernel_rfl
theorem zfits34:zfits Tryd.prog 34=true:=by kernel_rfl
theorem cells35:Tryd.prog.cellsOf 35=1:=by kernel_rfl
theorem info35:(Tryd.prog.info? 35).isSome=true:=by kernel_rfl
theorem bytes35:Tryd.prog.bytesOf 35=8:=by kernel_rfl
theorem aggT35:isAggT Tryd.prog 35=false:=by kernel_rfl
theorem isIface35:isIface Tryd.prog 35=false:=by kernel_rfl
theorem azero35:azero Tryd.prog 35=some ([.s .nilFunc]):=by kernel_rfl
theorem zfits35:zfits Tryd.prog 35=true:=by kernel_rfl
theorem cells36:Tryd.prog.cellsOf 36=1:=by kernel_rfl
theorem info36:(Tryd.prog.info? 36).isSome=true:=by kernel_rfl
theorem bytes36:Tryd.prog.bytesOf 36=8:=by kernel_rfl
theorem aggT36:isAggT Tryd.prog 36=false:=by kernel_rfl
theorem isIface36:isIface Tryd.prog 36=false:=by kernel_rfl
theorem azero36:azero Tryd.prog 36=some ([.s .nilFunc]):=by kernel_rfl
theorem zfits36:zfits Tryd.prog 36=true:=by kernel_rfl
theorem cells37:Tryd.prog.cellsOf 37=1:=by kernel_rfl
theorem info37:(Tryd.prog.info? 37).isSome=true:=by kernel_rfl
theorem bytes37:Tryd.prog.bytesOf 37=8:=by kernel_rfl
theorem aggT37:isAggT Tryd.prog 37=false:=by kernel_rfl
theorem isIface37:isIface Tryd.prog 37=false:=by kernel_rfl
theorem azero37:azero Tryd.prog 37=some ([.s .nilFunc]):=by kernel_rfl
theorem zfits37:zfits Tryd.prog 37=true:=by kernel_rfl
theorem cells38:Tryd.prog.cellsOf 38=1:=by kernel_rfl
theorem info38:(Tryd.prog.info? 38).isSome=true:=by kernel_rfl
theorem bytes38:Tryd.prog.bytesOf 38=24:=by kernel_rfl
theorem aggT38:isAggT Tryd.prog 38=false:=by kernel_rfl
theorem isIface38:isIface Tryd.prog 38=false:=by kernel_rfl
theorem azero38:azero Tryd.prog 38=some ([.sl true 42 []]):=by kernel_rfl
theorem zfits38:zfits Tryd.prog 38=true:=by kernel_rfl
theorem cells39:Tryd.prog.cellsOf 39=3:=by kernel_rfl
theorem info39:(Tryd.prog.info? 39).isSome=true:=by kernel_rfl
theorem bytes39:Tryd.prog.bytesOf 39=24:=by kernel_rfl
theorem aggT39:isAggT Tryd.prog 39=true:=by kernel_rfl
theorem isIface39:isIface Tryd.prog 39=false:=by kernel_rfl
theorem azero39:azero Tryd.prog 39=some ([i64 0,i64 0,i64 0]):=by kernel_rfl
theorem zfits39:zfits Tryd.prog 39=true:=by kernel_rfl
theorem build39 : ∀ parts,aBuild Tryd.prog 39 parts=(fillA (fun i=>[some (0,1),some (1,1),some (2,1)][i]?.join) ([.p (i64 0),.p (i64 0),.p (i64 0)]) parts).map mkAgg:=fun _=>aBuild_struct (by kernel_rfl) azero39
theorem cells40:Tryd.prog.cellsOf 40=3:=by kernel_rfl
theorem info40:(Tryd.prog.info? 40).isSome=true:=by kernel_rfl
theorem bytes40:Tryd.prog.bytesOf 40=24:=by kernel_rfl
theorem aggT40:isAggT Tryd.prog 40=true:=by kernel_rfl
theorem isIface40:isIface Tryd.prog 40=false:=by kernel_rfl
theorem azero40:azero Tryd.prog 40=some ([i64 0,i64 0,i64 0]):=by kernel_rfl
theorem zfits40:zfits Tryd.prog 40=true:=by kernel_rfl
theorem build40 : ∀ parts,aBuild Tryd.prog 40 parts=(fillA (fun i=>[some (0,1),some (1,1),some (2,1)][i]?.join) ([.p (i64 0),.p (i64 0),.p (i64 0)]) parts).map mkAgg:=fun _=>aBuild_struct (by kernel_rfl) azero40
theorem cells41:Tryd.prog.cellsOf 41=78:=by kernel_rfl
theorem info41:(Tryd.prog.info? 41).isSome=true:=by kernel_rfl
theorem bytes41:Tryd.prog.bytesOf 41=224:=by kernel_rfl
theorem aggT41:isAggT Tryd.prog 41=true:=by kernel_rfl
theorem isIface41:isIface Tryd.prog 41=false:=by kernel_rfl
theorem azero41:azero Tryd.prog 41=some (([i64 0,i64 0,i64 0,str ByteArray.empty]:List PV)++List.replicate 32 (b8 0#8)++([i64 0,i64 0,i64 0,str ByteArray.empty]:List PV)++List.replicate 32 (b8 0#8)++([.sl true 1 [],.sl true 2 [],i64 0,i64 0,i64 0,i64 0]:List PV)):=by kernel_rfl
theorem zfits41:zfits Tryd.prog 41=true:=by kernel_rfl
theorem build41 : ∀ parts,aBuild Tryd.prog 41 parts=(fillA (fun i=>[some (0,1),some (1,1),some (2,1),some (3,1),some (4,32),some (36,38),some (74,1),some (75,3)][i]?.join) ((([i64 0,i64 0,i64 0,str ByteArray.empty]:List PV)++List.replicate 32 (b8 0#8)++([i64 0,i64 0,i64 0,str ByteArray.empty]:List PV)++List.replicate 32 (b8 0#8)++([.sl true 1 [],.sl true 2 [],i64 0,i64 0,i64 0,i64 0]:List PV)).map .p) parts).map mkAgg:=fun _=>aBuild_struct (by kernel_rfl) azero41
theorem cells42:Tryd.prog.cellsOf 42=78:=by kernel_rfl
theorem info42:(Tryd.prog.info? 42).isSome=true:=by kernel_rfl
theorem bytes42:Tryd.prog.bytesOf 42=224:=by kernel_rfl
theorem aggT42:isAggT Tryd.prog 42=true:=by kernel_rfl
theorem isIface42:isIface Tryd.prog 42=false:=by kernel_rfl
theorem azero42:azero Tryd.prog 42=some (([i64 0,i64 0,i64 0,str ByteArray.empty]:List PV)++List.replicate 32 (b8 0#8)++([i64 0,i64 0,i64 0,str ByteArray.empty]:List PV)++List.replicate 32 (b8 0#8)++([.sl true 1 [],.sl true 2 [],i64 0,i64 0,i64 0,i64 0]:List PV)):=by kernel_rfl
theorem zfits42:zfits Tryd.prog 42=true:=by kernel_rfl
theorem build42 : ∀ parts,aBuild Tryd.prog 42 parts=(fillA (fun i=>[some (0,1),some (1,1),some (2,1),some (3,1),some (4,32),some (36,38),some (74,1),some (75,3)][i]?.join) ((([i64 0,i64 0,i64 0,str ByteArray.empty]:List PV)++List.replicate 32 (b8 0#8)++([i64 0,i64 0,i64 0,str ByteArray.empty]:List PV)++List.replicate 32 (b8 0#8)++([.sl true 1 [],.sl true 2 [],i64 0,i64 0,i64 0,i64 0]:List PV)).map .p) parts).map mkAgg:=fun _=>aBuild_struct (by kernel_rfl) azero42
theorem cells43:Tryd.prog.cellsOf 43=1:=by kernel_rfl
theorem info43:(Tryd.prog.info? 43).isSome=true:=by kernel_rfl
theorem bytes43:Tryd.prog.bytesOf 43=8:=by kernel_rfl
theorem aggT43:isAggT Tryd.prog 43=false:=by kernel_rfl
theorem isIface43:isIface Tryd.prog 43=false:=by kernel_rfl
theorem azero43:azero Tryd.prog 43=some ([.s .nilFunc]):=by kernel_rfl
theorem zfits43:zfits Tryd.prog 43=true:=by kernel_rfl
theorem cells44:Tryd.prog.cellsOf 44=1:=by kernel_rfl
theorem info44:(Tryd.prog.info? 44).isSome=true:=by kernel_rfl
theorem bytes44:Tryd.prog.bytesOf 44=24:=by kernel_rfl
theorem aggT44:isAggT Tryd.prog 44=false:=by kernel_rfl
theorem isIface44:isIface Tryd.prog 44=false:=by kernel_rfl
theorem azero44:azero Tryd.prog 44=some ([.sl true 78 []]):=by kernel_rfl
theorem zfits44:zfits Tryd.prog 44=true:=by kernel_rfl
theorem cells45:Tryd.prog.cellsOf 45=1:=by kernel_rfl
theorem info45:(Tryd.prog.info? 45).isSome=true:=by kernel_rfl
theorem bytes45:Tryd.prog.bytesOf 45=24:=by kernel_rfl
theorem aggT45:isAggT Tryd.prog 45=false:=by kernel_rfl
theorem isIface45:isIface Tryd.prog 45=false:=by kernel_rfl
theorem azero45:azero Tryd.prog 45=some ([.sl true 1 []]):=by kernel_rfl
theorem zfits45:zfits Tryd.prog 45=true:=by kernel_rfl
theorem cells46:Tryd.prog.cellsOf 46=42:=by kernel_rfl
theorem info46:(Tryd.prog.info? 46).isSome=true:=by kernel_rfl
theorem bytes46:Tryd.prog.bytesOf 46=136:=by kernel_rfl
theorem aggT46:isAggT Tryd.prog 46=true:=by kernel_rfl
theorem isIface46:isIface Tryd.prog 46=false:=by kernel_rfl
theorem azero46:azero Tryd.prog 46=some (([b8 0#8,b8 0#8,i64 0,i64 0,i64 0,str ByteArray.empty]:List PV)++List.replicate 32 (b8 0#8)++([.sl true 1 [],.sl true 2 [],b8 0#8,b8 0#8]:List PV)):=by kernel_rfl
theorem zfits46:zfits Tryd.prog 46=true:=by kernel_rfl
theorem build46 : ∀ parts,aBuild Tryd.prog 46 parts=(fillA (fun i=>[some (0,1),some (1,1),some (2,38),some (40,1),some (41,1)][i]?.join) ((([b8 0#8,b8 0#8,i64 0,i64 0,i64 0,str ByteArray.empty]:List PV)++List.replicate 32 (b8 0#8)++([.sl true 1 [],.sl true 2 [],b8 0#8,b8 0#8]:List PV)).map .p) parts).map mkAgg:=fun _=>aBuild_struct (by kernel_rfl) azero46
theorem cells47:Tryd.prog.cellsOf 47=42:=by kernel_rfl
theorem info47:(Tryd.prog.info? 47).isSome=true:=by kernel_rfl
theorem bytes47:Tryd.prog.bytesOf 47=136:=by kernel_rfl
theorem aggT47:isAggT Tryd.prog 47=true:=by kernel_rfl
theorem isIface47:isIface Tryd.prog 47=false:=by kernel_rfl
theorem azero47:azero Tryd.prog 47=some (([b8 0#8,b8 0#8,i64 0,i64 0,i64 0,str ByteArray.empty]:List PV)++List.replicate 32 (b8 0#8)++([.sl true 1 [],.sl true 2 [],b8 0#8,b8 0#8]:List PV)):=by kernel_rfl
theorem zfits47:zfits Tryd.prog 47=true:=by kernel_rfl
theorem build47 : ∀ parts,aBuild Tryd.prog 47 parts=(fillA (fun i=>[some (0,1),some (1,1),some (2,38),some (40,1),some (41,1)][i]?.join) ((([b8 0#8,b8 0#8,i64 0,i64 0,i64 0,str ByteArray.empty]:List PV)++List.replicate 32 (b8 0#8)++([.sl true 1 [],.sl true 2 [],b8 0#8,b8 0#8]:List PV)).map .p) parts).map mkAgg:=fun _=>aBuild_struct (by kernel_rfl) azero47
theorem cells48:Tryd.prog.cellsOf 48=1:=by kernel_rfl
theorem info48:(Tryd.prog.info? 48).isSome=true:=by kernel_rfl
theorem bytes48:Tryd.prog.bytesOf 48=8:=by kernel_rfl
theorem aggT48:isAggT Tryd.prog 48=false:=by kernel_rfl
theorem isIface48:isIface Tryd.prog 48=false:=by kernel_rfl
theorem azero48:azero Tryd.prog 48=some ([.s .nilFunc]):=by kernel_rfl
theorem zfits48:zfits Tryd.prog 48=true:=by kernel_rfl
theorem cells50:Tryd.prog.cellsOf 50=1:=by kernel_rfl
theorem info50:(Tryd.prog.info? 50).isSome=true:=by kernel_rfl
theorem bytes50:Tryd.prog.bytesOf 50=8:=by kernel_rfl
theorem aggT50:isAggT Tryd.prog 50=false:=by kernel_rfl
theorem isIface50:isIface Tryd.prog 50=false:=by kernel_rfl
theorem azero50:azero Tryd.prog 50=some ([.s .nilFunc]):=by kernel_rfl
theorem zfits50:zfits Tryd.prog 50=true:=by kernel_rfl
theorem cells51:Tryd.prog.cellsOf 51=1:=by kernel_rfl
theorem info51:(Tryd.prog.info? 51).isSome=true:=by kernel_rfl
theorem bytes51:Tryd.prog.bytesOf 51=8:=by kernel_rfl
theorem aggT51:isAggT Tryd.prog 51=false:=by kernel_rfl
theorem isIface51:isIface Tryd.prog 51=false:=by kernel_rfl
theorem azero51:azero Tryd.prog 51=some ([.s .nilFunc]):=by kernel_rfl
theorem zfits51:zfits Tryd.prog 51=true:=by kernel_rfl
theorem cells52:Tryd.prog.cellsOf 52=1:=by kernel_rfl
theorem info52:(Tryd.prog.info? 52).isSome=true:=by kernel_rfl
theorem bytes52:Tryd.prog.bytesOf 52=8:=by kernel_rfl
theorem aggT52:isAggT Tryd.prog 52=false:=by kernel_rfl
theorem isIface52:isIface Tryd.prog 52=false:=by kernel_rfl
theorem azero52:azero Tryd.prog 52=some ([.s .nilFunc]):=by kernel_rfl
theorem zfits52:zfits Tryd.prog 52=true:=by kernel_rfl
theorem cells54:Tryd.prog.cellsOf 54=1:=by kernel_rfl
theorem info54:(Tryd.prog.info? 54).isSome=true:=by kernel_rfl
theorem bytes54:Tryd.prog.bytesOf 54=8:=by kernel_rfl
theorem aggT54:isAggT Tryd.prog 54=false:=by kernel_rfl
theorem isIface54:isIface Tryd.prog 54=false:=by kernel_rfl
theorem azero54:azero Tryd.prog 54=some ([.s .nilFunc]):=by kernel_rfl
theorem zfits54:zfits Tryd.prog 54=true:=by kernel_rfl
theorem cells55:Tryd.prog.cellsOf 55=1:=by kernel_rfl
theorem info55:(Tryd.prog.info? 55).isSome=true:=by kernel_rfl
theorem bytes55:Tryd.prog.bytesOf 55=8:=by kernel_rfl
theorem aggT55:isAggT Tryd.prog 55=false:=by kernel_rfl
theorem isIface55:isIface Tryd.prog 55=false:=by kernel_rfl
theorem azero55:azero Tryd.prog 55=some ([.s .nilFunc]):=by kernel_rfl
theorem zfits55:zfits Tryd.prog 55=true:=by kernel_rfl
theorem cells56:Tryd.prog.cellsOf 56=1:=by kernel_rfl
theorem info56:(Tryd.prog.info? 56).isSome=true:=by kernel_rfl
theorem bytes56:Tryd.prog.bytesOf 56=8:=by kernel_rfl
theorem aggT56:isAggT Tryd.prog 56=false:=by kernel_rfl
theorem isIface56:isIface Tryd.prog 56=false:=by kernel_rfl
theorem azero56:azero Tryd.prog 56=some ([.s .nilFunc]):=by kernel_rfl
theorem zfits56:zfits Tryd.prog 56=true:=by kernel_rfl
theorem cells57:Tryd.prog.cellsOf 57=1:=by kernel_rfl
theorem info57:(Tryd.prog.info? 57).isSome=true:=by kernel_rfl
theorem bytes57:Tryd.prog.bytesOf 57=8:=by kernel_rfl
theorem aggT57:isAggT Tryd.prog 57=false:=by kernel_rfl
theorem isIface57:isIface Tryd.prog 57=false:=by kernel_rfl
theorem azero57:azero Tryd.prog 57=some ([.s .nilFunc]):=by kernel_rfl
theorem zfits57:zfits Tryd.prog 57=true:=by kernel_rfl
theorem cells59:Tryd.prog.cellsOf 59=1:=by kernel_rfl
theorem info59:(Tryd.prog.info? 59).isSome=true:=by kernel_rfl
theorem bytes59:Tryd.prog.bytesOf 59=8:=by kernel_rfl
theorem aggT59:isAggT Tryd.prog 59=false:=by kernel_rfl
theorem isIface59:isIface Tryd.prog 59=false:=by kernel_rfl
theorem azero59:azero Tryd.prog 59=some ([.s .nilFunc]):=by kernel_rfl
theorem zfits59:zfits Tryd.prog 59=true:=by kernel_rfl
theorem cells60:Tryd.prog.cellsOf 60=1:=by kernel_rfl
theorem info60:(Tryd.prog.info? 60).isSome=true:=by kernel_rfl
theorem bytes60:Tryd.prog.bytesOf 60=8:=by kernel_rfl
theorem aggT60:isAggT Tryd.prog 60=false:=by kernel_rfl
theorem isIface60:isIface Tryd.prog 60=false:=by kernel_rfl
theorem azero60:azero Tryd.prog 60=some ([.s .nilFunc]):=by kernel_rfl
theorem zfits60:zfits Tryd.prog 60=true:=by kernel_rfl
theorem cells61:Tryd.prog.cellsOf 61=1:=by kernel_rfl
theorem info61:(Tryd.prog.info? 61).isSome=true:=by kernel_rfl
theorem bytes61:Tryd.prog.bytesOf 61=8:=by kernel_rfl
theorem aggT61:isAggT Tryd.prog 61=false:=by kernel_rfl
theorem isInt61:isIntT Tryd.prog 61=true:=by kernel_rfl
theorem isIface61:isIface Tryd.prog 61=false:=by kernel_rfl
theorem azero61:azero Tryd.prog 61=some ([w64 0#64]):=by kernel_rfl
theorem zfits61:zfits Tryd.prog 61=true:=by kernel_rfl
theorem cells62:Tryd.prog.cellsOf 62=2:=by kernel_rfl
theorem info62:(Tryd.prog.info? 62).isSome=true:=by kernel_rfl
theorem bytes62:Tryd.prog.bytesOf 62=16:=by kernel_rfl
theorem aggT62:isAggT Tryd.prog 62=true:=by kernel_rfl
theorem isIface62:isIface Tryd.prog 62=false:=by kernel_rfl
theorem azero62:azero Tryd.prog 62=some ([w64 0#64,w64 0#64]):=by kernel_rfl
theorem zfits62:zfits Tryd.prog 62=true:=by kernel_rfl
theorem build62 : ∀ parts,aBuild Tryd.prog 62 parts=(fillA (fun i=>[some (0,1),some (1,1)][i]?.join) ([.p (w64 0#64),.p (w64 0#64)]) parts).map mkAgg:=fun _=>aBuild_struct (by kernel_rfl) azero62
theorem cells63:Tryd.prog.cellsOf 63=2:=by kernel_rfl
theorem info63:(Tryd.prog.info? 63).isSome=true:=by kernel_rfl
theorem bytes63:Tryd.prog.bytesOf 63=16:=by kernel_rfl
theorem aggT63:isAggT Tryd.prog 63=true:=by kernel_rfl
theorem isIface63:isIface Tryd.prog 63=false:=by kernel_rfl
theorem azero63:azero Tryd.prog 63=some ([w64 0#64,w64 0#64]):=by kernel_rfl
theorem zfits63:zfits Tryd.prog 63=true:=by kernel_rfl
theorem build63 : ∀ parts,aBuild Tryd.prog 63 parts=(fillA (fun i=>[some (0,1),some (1,1)][i]?.join) ([.p (w64 0#64),.p (w64 0#64)]) parts).map mkAgg:=fun _=>aBuild_struct (by kernel_rfl) azero63
theorem cells64:Tryd.prog.cellsOf 64=1:=by kernel_rfl
theorem info64:(Tryd.prog.info? 64).isSome=true:=by kernel_rfl
theorem bytes64:Tryd.prog.bytesOf 64=8:=by kernel_rfl
theorem aggT64:isAggT Tryd.prog 64=false:=by kernel_rfl
theorem isIface64:isIface Tryd.prog 64=false:=by kernel_rfl
theorem azero64:azero Tryd.prog 64=some ([.s .nilFunc]):=by kernel_rfl
theorem zfits64:zfits Tryd.prog 64=true:=by kernel_rfl
theorem cells65:Tryd.prog.cellsOf 65=1:=by kernel_rfl
theorem info65:(Tryd.prog.info? 65).isSome=true:=by kernel_rfl
theorem bytes65:Tryd.prog.bytesOf 65=8:=by kernel_rfl
theorem aggT65:isAggT Tryd.prog 65=false:=by kernel_rfl
theorem isIface65:isIface Tryd.prog 65=false:=by kernel_rfl
theorem azero65:azero Tryd.prog 65=some ([.s .nilFunc]):=by kernel_rfl
theorem zfits65:zfits Tryd.prog 65=true:=by kernel_rfl
theorem cells66:Tryd.prog.cellsOf 66=1:=by kernel_rfl
theorem info66:(Tryd.prog.info? 66).isSome=true:=by kernel_rfl
theorem bytes66:Tryd.prog.bytesOf 66=8:=by kernel_rfl
theorem aggT66:isAggT Tryd.prog 66=false:=by kernel_rfl
theorem isIface66:isIface Tryd.prog 66=false:=by kernel_rfl
theorem azero66:azero Tryd.prog 66=some ([.s .nilFunc]):=by kernel_rfl
theorem zfits66:zfits Tryd.prog 66=true:=by kernel_rfl
theorem cells67:Tryd.prog.cellsOf 67=1:=by kernel_rfl
theorem info67:(Tryd.prog.info? 67).isSome=true:=by kernel_rfl
theorem bytes67:Tryd.prog.bytesOf 67=24:=by kernel_rfl
theorem aggT67:isAggT Tryd.prog 67=false:=by kernel_rfl
theorem isIface67:isIface Tryd.prog 67=false:=by kernel_rfl
theorem azero67:azero Tryd.prog 67=some ([.sl true 1 []]):=by kernel_rfl
theorem zfits67:zfits Tryd.prog 67=true:=by kernel_rfl
theorem cells68:Tryd.prog.cellsOf 68=1:=by kernel_rfl
theorem info68:(Tryd.prog.info? 68).isSome=true:=by kernel_rfl
theorem bytes68:Tryd.prog.bytesOf 68=8:=by kernel_rfl
theorem aggT68:isAggT Tryd.prog 68=false:=by kernel_rfl
theorem isIface68:isIface Tryd.prog 68=false:=by kernel_rfl
theorem azero68:azero Tryd.prog 68=some ([.s .nilFunc]):=by kernel_rfl
theorem zfits68:zfits Tryd.prog 68=true:=by kernel_rfl
theorem cells69:Tryd.prog.cellsOf 69=1:=by kernel_rfl
theorem info69:(Tryd.prog.info? 69).isSome=true:=by kernel_rfl
theorem bytes69:Tryd.prog.bytesOf 69=8:=by kernel_rfl
theorem aggT69:isAggT Tryd.prog 69=false:=by kernel_rfl
theorem isIface69:isIface Tryd.prog 69=false:=by kernel_rfl
theorem azero69:azero Tryd.prog 69=some ([.s .nilFunc]):=by kernel_rfl
theorem zfits69:zfits Tryd.prog 69=true:=by kernel_rfl
theorem cells70:Tryd.prog.cellsOf 70=1:=by kernel_rfl
theorem info70:(Tryd.prog.info? 70).isSome=true:=by kernel_rfl
theorem bytes70:Tryd.prog.bytesOf 70=8:=by kernel_rfl
theorem aggT70:isAggT Tryd.prog 70=false:=by kernel_rfl
theorem isIface70:isIface Tryd.prog 70=false:=by kernel_rfl
theorem azero70:azero Tryd.prog 70=some ([.s .nilFunc]):=by kernel_rfl
theorem zfits70:zfits Tryd.prog 70=true:=by kernel_rfl
theorem cells72:Tryd.prog.cellsOf 72=1:=by kernel_rfl
theorem info72:(Tryd.prog.info? 72).isSome=true:=by kernel_rfl
theorem bytes72:Tryd.prog.bytesOf 72=8:=by kernel_rfl
theorem aggT72:isAggT Tryd.prog 72=false:=by kernel_rfl
theorem isIface72:isIface Tryd.prog 72=false:=by kernel_rfl
theorem azero72:azero Tryd.prog 72=some ([.s .nilFunc]):=by kernel_rfl
theorem zfits72:zfits Tryd.prog 72=true:=by kernel_rfl
theorem cells73:Tryd.prog.cellsOf 73=1:=by kernel_rfl
theorem info73:(Tryd.prog.info? 73).isSome=true:=by kernel_rfl
theorem bytes73:Tryd.prog.bytesOf 73=8:=by kernel_rfl
theorem aggT73:isAggT Tryd.prog 73=false:=by kernel_rfl
theorem isIface73:isIface Tryd.prog 73=false:=by kernel_rfl
theorem azero73:azero Tryd.prog 73=some ([.s .nilFunc]):=by kernel_rfl
theorem zfits73:zfits Tryd.prog 73=true:=by kernel_rfl
theorem cells74:Tryd.prog.cellsOf 74=1:=by kernel_rfl
theorem info74:(Tryd.prog.info? 74).isSome=true:=by kernel_rfl
theorem bytes74:Tryd.prog.bytesOf 74=24:=by kernel_rfl
theorem aggT74:isAggT Tryd.prog 74=false:=by kernel_rfl
theorem isIface74:isIface Tryd.prog 74=false:=by kernel_rfl
theorem azero74:azero Tryd.prog 74=some ([.sl true 1 []]):=by kernel_rfl
theorem zfits74:zfits Tryd.prog 74=true:=by kernel_rfl
theorem cells75:Tryd.prog.cellsOf 75=1:=by kernel_rfl
theorem info75:(Tryd.prog.info? 75).isSome=true:=by kernel_rfl
theorem bytes75:Tryd.prog.bytesOf 75=8:=by kernel_rfl
theorem aggT75:isAggT Tryd.prog 75=false:=by kernel_rfl
theorem isIface75:isIface Tryd.prog 75=false:=by kernel_rfl
theorem azero75:azero Tryd.prog 75=some ([.s .nilFunc]):=by kernel_rfl
theorem zfits75:zfits Tryd.prog 75=true:=by kernel_rfl
theorem cells76:Tryd.prog.cellsOf 76=1:=by kernel_rfl
theorem info76:(Tryd.prog.info? 76).isSome=true:=by kernel_rfl
theorem bytes76:Tryd.prog.bytesOf 76=8:=by kernel_rfl
theorem aggT76:isAggT Tryd.prog 76=false:=by kernel_rfl
theorem isIface76:isIface Tryd.prog 76=false:=by kernel_rfl
theorem azero76:azero Tryd.prog 76=some ([.s .nilFunc]):=by kernel_rfl
theorem zfits76:zfits Tryd.prog 76=true:=by kernel_rfl
theorem cells77:Tryd.prog.cellsOf 77=1:=by kernel_rfl
theorem info77:(Tryd.prog.info? 77).isSome=true:=by kernel_rfl
theorem bytes77:Tryd.prog.bytesOf 77=8:=by kernel_rfl
theorem aggT77:isAggT Tryd.prog 77=false:=by kernel_rfl
theorem isIface77:isIface Tryd.prog 77=false:=by kernel_rfl
theorem azero77:azero Tryd.prog 77=some ([.s .nilFunc]):=by kernel_rfl
theorem zfits77:zfits Tryd.prog 77=true:=by kernel_rfl
theorem cells78:Tryd.prog.cellsOf 78=1:=by kernel_rfl
theorem info78:(Tryd.prog.info? 78).isSome=true:=by kernel_rfl
theorem bytes78:Tryd.prog.bytesOf 78=8:=by kernel_rfl
theorem aggT78:isAggT Tryd.prog 78=false:=by kernel_rfl
theorem isIface78:isIface Tryd.prog 78=false:=by kernel_rfl
theorem azero78:azero Tryd.prog 78=some ([.s .nilFunc]):=by kernel_rfl
theorem zfits78:zfits Tryd.prog 78=true:=by kernel_rfl
theorem cells79:Tryd.prog.cellsOf 79=1:=by kernel_rfl
theorem info79:(Tryd.prog.info? 79).isSome=true:=by kernel_rfl
theorem bytes79:Tryd.prog.bytesOf 79=8:=by kernel_rfl
theorem aggT79:isAggT Tryd.prog 79=false:=by kernel_rfl
theorem isIface79:isIface Tryd.prog 79=false:=by kernel_rfl
theorem azero79:azero Tryd.prog 79=some ([.s (.pointer none)]):=by kernel_rfl
theorem zfits79:zfits Tryd.prog 79=true:=by kernel_rfl
theorem cells80:Tryd.prog.cellsOf 80=2:=by kernel_rfl
theorem info80:(Tryd.prog.info? 80).isSome=true:=by kernel_rfl
theorem bytes80:Tryd.prog.bytesOf 80=32:=by kernel_rfl
theorem aggT80:isAggT Tryd.prog 80=true:=by kernel_rfl
theorem isIface80:isIface Tryd.prog 80=false:=by kernel_rfl
theorem azero80:azero Tryd.prog 80=some ([.sl true 1 [],bo false]):=by kernel_rfl
theorem zfits80:zfits Tryd.prog 80=true:=by kernel_rfl
theorem build80 : ∀ parts,aBuild Tryd.prog 80 parts=(fillA (fun i=>[some (0,1),some (1,1)][i]?.join) ([.p (.sl true 1 []),.p (bo false)]) parts).map mkAgg:=fun _=>aBuild_struct (by kernel_rfl) azero80
theorem cells81:Tryd.prog.cellsOf 81=2:=by kernel_rfl
theorem info81:(Tryd.prog.info? 81).isSome=true:=by kernel_rfl
theorem bytes81:Tryd.prog.bytesOf 81=32:=by kernel_rfl
theorem aggT81:isAggT Tryd.prog 81=true:=by kernel_rfl
theorem isIface81:isIface Tryd.prog 81=false:=by kernel_rfl
theorem azero81:azero Tryd.prog 81=some ([.sl true 1 [],bo false]):=by kernel_rfl
theorem zfits81:zfits Tryd.prog 81=true:=by kernel_rfl
theorem build81 : ∀ parts,aBuild Tryd.prog 81 parts=(fillA (fun i=>[some (0,1),some (1,1)][i]?.join) ([.p (.sl true 1 []),.p (bo false)]) parts).map mkAgg:=fun _=>aBuild_struct (by kernel_rfl) azero81
theorem cells82:Tryd.prog.cellsOf 82=1:=by kernel_rfl
theorem info82:(Tryd.prog.info? 82).isSome=true:=by kernel_rfl
theorem bytes82:Tryd.prog.bytesOf 82=8:=by kernel_rfl
theorem aggT82:isAggT Tryd.prog 82=false:=by kernel_rfl
theorem isIface82:isIface Tryd.prog 82=false:=by kernel_rfl
theorem azero82:azero Tryd.prog 82=some ([.s .nilFunc]):=by kernel_rfl
theorem zfits82:zfits Tryd.prog 82=true:=by kernel_rfl
theorem cells83:Tryd.prog.cellsOf 83=1:=by kernel_rfl
theorem info83:(Tryd.prog.info? 83).isSome=true:=by kernel_rfl
theorem bytes83:Tryd.prog.bytesOf 83=8:=by kernel_rfl
theorem aggT83:isAggT Tryd.prog 83=false:=by kernel_rfl
theorem isIface83:isIface Tryd.prog 83=false:=by kernel_rfl
theorem azero83:azero Tryd.prog 83=some ([.s .nilFunc]):=by kernel_rfl
theorem zfits83:zfits Tryd.prog 83=true:=by kernel_rfl
theorem cells84:Tryd.prog.cellsOf 84=1:=by kernel_rfl
theorem info84:(Tryd.prog.info? 84).isSome=true:=by kernel_rfl
theorem bytes84:Tryd.prog.bytesOf 84=8:=by kernel_rfl
theorem aggT84:isAggT Tryd.prog 84=false:=by kernel_rfl
theorem isIface84:isIface Tryd.prog 84=false:=by kernel_rfl
theorem azero84:azero Tryd.prog 84=some ([.s .nilFunc]):=by kernel_rfl
theorem zfits84:zfits Tryd.prog 84=true:=by kernel_rfl
theorem cells85:Tryd.prog.cellsOf 85=1:=by kernel_rfl
theorem info85:(Tryd.prog.info? 85).isSome=true:=by kernel_rfl
theorem bytes85:Tryd.prog.bytesOf 85=8:=by kernel_rfl
theorem aggT85:isAggT Tryd.prog 85=false:=by kernel_rfl
theorem isIface85:isIface Tryd.prog 85=false:=by kernel_rfl
theorem azero85:azero Tryd.prog 85=some ([.s .nilFunc]):=by kernel_rfl
theorem zfits85:zfits Tryd.prog 85=true:=by kernel_rfl
theorem cells86:Tryd.prog.cellsOf 86=1:=by kernel_rfl
theorem info86:(Tryd.prog.info? 86).isSome=true:=by kernel_rfl
theorem bytes86:Tryd.prog.bytesOf 86=8:=by kernel_rfl
theorem aggT86:isAggT Tryd.prog 86=false:=by kernel_rfl
theorem isIface86:isIface Tryd.prog 86=false:=by kernel_rfl
theorem azero86:azero Tryd.prog 86=some ([.s .nilFunc]):=by kernel_rfl
theorem zfits86:zfits Tryd.prog 86=true:=by kernel_rfl
theorem cells87:Tryd.prog.cellsOf 87=78:=by kernel_rfl
theorem info87:(Tryd.prog.info? 87).isSome=true:=by kernel_rfl
theorem bytes87:Tryd.prog.bytesOf 87=224:=by kernel_rfl
theorem aggT87:isAggT Tryd.prog 87=true:=by kernel_rfl
theorem isIface87:isIface Tryd.prog 87=false:=by kernel_rfl
theorem azero87:azero Tryd.prog 87=some (([i64 0,i64 0,i64 0,str ByteArray.empty]:List PV)++List.replicate 32 (b8 0#8)++([i64 0,i64 0,i64 0,str ByteArray.empty]:List PV)++List.replicate 32 (b8 0#8)++([.sl true 1 [],.sl true 2 [],i64 0,i64 0,i64 0,i64 0]:List PV)):=by kernel_rfl
theorem zfits87:zfits Tryd.prog 87=true:=by kernel_rfl
theorem build87 : ∀ parts,aBuild Tryd.prog 87 parts=(fillA (fun i=>[some (0,1),some (1,1),some (2,1),some (3,1),some (4,32),some (36,38),some (74,1),some (75,3)][i]?.join) ((([i64 0,i64 0,i64 0,str ByteArray.empty]:List PV)++List.replicate 32 (b8 0#8)++([i64 0,i64 0,i64 0,str ByteArray.empty]:List PV)++List.replicate 32 (b8 0#8)++([.sl true 1 [],.sl true 2 [],i64 0,i64 0,i64 0,i64 0]:List PV)).map .p) parts).map mkAgg:=fun _=>aBuild_struct (by kernel_rfl) azero87
theorem cells88:Tryd.prog.cellsOf 88=1:=by kernel_rfl
theorem info88:(Tryd.prog.info? 88).isSome=true:=by kernel_rfl
theorem bytes88:Tryd.prog.bytesOf 88=8:=by kernel_rfl
theorem aggT88:isAggT Tryd.prog 88=false:=by kernel_rfl
theorem isIface88:isIface Tryd.prog 88=false:=by kernel_rfl
theorem azero88:azero Tryd.prog 88=some ([.s .nilFunc]):=by kernel_rfl
theorem zfits88:zfits Tryd.prog 88=true:=by kernel_rfl
theorem cells89:Tryd.prog.cellsOf 89=1:=by kernel_rfl
theorem info89:(Tryd.prog.info? 89).isSome=true:=by kernel_rfl
theorem bytes89:Tryd.prog.bytesOf 89=8:=by kernel_rfl
theorem aggT89:isAggT Tryd.prog 89=false:=by kernel_rfl
theorem isIface89:isIface Tryd.prog 89=false:=by kernel_rfl
theorem azero89:azero Tryd.prog 89=some ([.s .nilFunc]):=by kernel_rfl
theorem zfits89:zfits Tryd.prog 89=true:=by kernel_rfl
theorem cells90:Tryd.prog.cellsOf 90=1:=by kernel_rfl
theorem info90:(Tryd.prog.info? 90).isSome=true:=by kernel_rfl
theorem bytes90:Tryd.prog.bytesOf 90=8:=by kernel_rfl
theorem aggT90:isAggT Tryd.prog 90=false:=by kernel_rfl
theorem isIface90:isIface Tryd.prog 90=false:=by kernel_rfl
theorem azero90:azero Tryd.prog 90=some ([.s .nilFunc]):=by kernel_rfl
theorem zfits90:zfits Tryd.prog 90=true:=by kernel_rfl
theorem cells91:Tryd.prog.cellsOf 91=1:=by kernel_rfl
theorem info91:(Tryd.prog.info? 91).isSome=true:=by kernel_rfl
theorem bytes91:Tryd.prog.bytesOf 91=8:=by kernel_rfl
theorem aggT91:isAggT Tryd.prog 91=false:=by kernel_rfl
theorem isIface91:isIface Tryd.prog 91=false:=by kernel_rfl
theorem azero91:azero Tryd.prog 91=some ([.s .nilFunc]):=by kernel_rfl
theorem zfits91:zfits Tryd.prog 91=true:=by kernel_rfl
theorem cells92:Tryd.prog.cellsOf 92=1:=by kernel_rfl
theorem info92:(Tryd.prog.info? 92).isSome=true:=by kernel_rfl
theorem bytes92:Tryd.prog.bytesOf 92=8:=by kernel_rfl
theorem aggT92:isAggT Tryd.prog 92=false:=by kernel_rfl
theorem isIface92:isIface Tryd.prog 92=false:=by kernel_rfl
theorem azero92:azero Tryd.prog 92=some ([.s .nilFunc]):=by kernel_rfl
theorem zfits92:zfits Tryd.prog 92=true:=by kernel_rfl
theorem cells93:Tryd.prog.cellsOf 93=1:=by kernel_rfl
theorem info93:(Tryd.prog.info? 93).isSome=true:=by kernel_rfl
theorem bytes93:Tryd.prog.bytesOf 93=4:=by kernel_rfl
theorem aggT93:isAggT Tryd.prog 93=false:=by kernel_rfl
theorem isInt93:isIntT Tryd.prog 93=true:=by kernel_rfl
theorem isIface93:isIface Tryd.prog 93=false:=by kernel_rfl
theorem azero93:azero Tryd.prog 93=some ([w32 0#32]):=by kernel_rfl
theorem zfits93:zfits Tryd.prog 93=true:=by kernel_rfl
theorem cells94:Tryd.prog.cellsOf 94=8:=by kernel_rfl
theorem info94:(Tryd.prog.info? 94).isSome=true:=by kernel_rfl
theorem bytes94:Tryd.prog.bytesOf 94=32:=by kernel_rfl
theorem aggT94:isAggT Tryd.prog 94=true:=by kernel_rfl
theorem arrOK94:arrOK Tryd.prog 94 .u32 8=true:=by kernel_rfl
theorem isIface94:isIface Tryd.prog 94=false:=by kernel_rfl
theorem azero94:azero Tryd.prog 94=some (List.replicate 8 (w32 0#32)):=by kernel_rfl
theorem zfits94:zfits Tryd.prog 94=true:=by kernel_rfl
theorem build94 : ∀ parts,aBuild Tryd.prog 94 parts=(fillA (fun i=>some (i*1,1)) ((List.replicate 8 (w32 0#32)).map .p) parts).map mkAgg:=fun _=>aBuild_arr (by kernel_rfl) azero94
theorem cells95:Tryd.prog.cellsOf 95=1:=by kernel_rfl
theorem info95:(Tryd.prog.info? 95).isSome=true:=by kernel_rfl
theorem bytes95:Tryd.prog.bytesOf 95=8:=by kernel_rfl
theorem aggT95:isAggT Tryd.prog 95=false:=by kernel_rfl
theorem isIface95:isIface Tryd.prog 95=false:=by kernel_rfl
theorem azero95:azero Tryd.prog 95=some ([.s .nilFunc]):=by kernel_rfl
theorem zfits95:zfits Tryd.prog 95=true:=by kernel_rfl
theorem cells96:Tryd.prog.cellsOf 96=1:=by kernel_rfl
theorem info96:(Tryd.prog.info? 96).isSome=true:=by kernel_rfl
theorem bytes96:Tryd.prog.bytesOf 96=8:=by kernel_rfl
theorem aggT96:isAggT Tryd.prog 96=false:=by kernel_rfl
theorem isIface96:isIface Tryd.prog 96=false:=by kernel_rfl
theorem azero96:azero Tryd.prog 96=some ([.s .nilFunc]):=by kernel_rfl
theorem zfits96:zfits Tryd.prog 96=true:=by kernel_rfl
theorem cells97:Tryd.prog.cellsOf 97=1:=by kernel_rfl
theorem info97:(Tryd.prog.info? 97).isSome=true:=by kernel_rfl
theorem bytes97:Tryd.prog.bytesOf 97=8:=by kernel_rfl
theorem aggT97:isAggT Tryd.prog 97=false:=by kernel_rfl
theorem isIface97:isIface Tryd.prog 97=false:=by kernel_rfl
theorem azero97:azero Tryd.prog 97=some ([.s .nilFunc]):=by kernel_rfl
theorem zfits97:zfits Tryd.prog 97=true:=by kernel_rfl
theorem cells98:Tryd.prog.cellsOf 98=1:=by kernel_rfl
theorem info98:(Tryd.prog.info? 98).isSome=true:=by kernel_rfl
theorem bytes98:Tryd.prog.bytesOf 98=8:=by kernel_rfl
theorem aggT98:isAggT Tryd.prog 98=false:=by kernel_rfl
theorem isIface98:isIface Tryd.prog 98=false:=by kernel_rfl
theorem azero98:azero Tryd.prog 98=some ([.s .nilFunc]):=by kernel_rfl
theorem zfits98:zfits Tryd.prog 98=true:=by kernel_rfl
theorem cells99:Tryd.prog.cellsOf 99=1:=by kernel_rfl
theorem info99:(Tryd.prog.info? 99).isSome=true:=by kernel_rfl
theorem bytes99:Tryd.prog.bytesOf 99=8:=by kernel_rfl
theorem aggT99:isAggT Tryd.prog 99=false:=by kernel_rfl
theorem isIface99:isIface Tryd.prog 99=false:=by kernel_rfl
theorem azero99:azero Tryd.prog 99=some ([.s .nilFunc]):=by kernel_rfl
theorem zfits99:zfits Tryd.prog 99=true:=by kernel_rfl
theorem cells100:Tryd.prog.cellsOf 100=1:=by kernel_rfl
theorem info100:(Tryd.prog.info? 100).isSome=true:=by kernel_rfl
theorem bytes100:Tryd.prog.bytesOf 100=8:=by kernel_rfl
theorem aggT100:isAggT Tryd.prog 100=false:=by kernel_rfl
theorem isIface100:isIface Tryd.prog 100=false:=by kernel_rfl
theorem azero100:azero Tryd.prog 100=some ([.s .nilFunc]):=by kernel_rfl
theorem zfits100:zfits Tryd.prog 100=true:=by kernel_rfl
theorem cells101:Tryd.prog.cellsOf 101=1:=by kernel_rfl
theorem info101:(Tryd.prog.info? 101).isSome=true:=by kernel_rfl
theorem bytes101:Tryd.prog.bytesOf 101=8:=by kernel_rfl
theorem aggT101:isAggT Tryd.prog 101=false:=by kernel_rfl
theorem isIface101:isIface Tryd.prog 101=false:=by kernel_rfl
theorem azero101:azero Tryd.prog 101=some ([.s .nilFunc]):=by kernel_rfl
theorem zfits101:zfits Tryd.prog 101=true:=by kernel_rfl
theorem cells102:Tryd.prog.cellsOf 102=1:=by kernel_rfl
theorem info102:(Tryd.prog.info? 102).isSome=true:=by kernel_rfl
theorem bytes102:Tryd.prog.bytesOf 102=8:=by kernel_rfl
theorem aggT102:isAggT Tryd.prog 102=false:=by kernel_rfl
theorem isIface102:isIface Tryd.prog 102=false:=by kernel_rfl
theorem azero102:azero Tryd.prog 102=some ([.s .nilFunc]):=by kernel_rfl
theorem zfits102:zfits Tryd.prog 102=true:=by kernel_rfl
theorem cells103:Tryd.prog.cellsOf 103=1:=by kernel_rfl
theorem info103:(Tryd.prog.info? 103).isSome=true:=by kernel_rfl
theorem bytes103:Tryd.prog.bytesOf 103=8:=by kernel_rfl
theorem aggT103:isAggT Tryd.prog 103=false:=by kernel_rfl
theorem isInt103:isIntT Tryd.prog 103=true:=by kernel_rfl
theorem isIface103:isIface Tryd.prog 103=false:=by kernel_rfl
theorem azero103:azero Tryd.prog 103=some ([w64 0#64]):=by kernel_rfl
theorem zfits103:zfits Tryd.prog 103=true:=by kernel_rfl
theorem cells104:Tryd.prog.cellsOf 104=1:=by kernel_rfl
theorem info104:(Tryd.prog.info? 104).isSome=true:=by kernel_rfl
theorem bytes104:Tryd.prog.bytesOf 104=8:=by kernel_rfl
theorem aggT104:isAggT Tryd.prog 104=false:=by kernel_rfl
theorem isIface104:isIface Tryd.prog 104=false:=by kernel_rfl
theorem azero104:azero Tryd.prog 104=some ([.s .nilFunc]):=by kernel_rfl
theorem zfits104:zfits Tryd.prog 104=true:=by kernel_rfl
theorem cells105:Tryd.prog.cellsOf 105=1:=by kernel_rfl
theorem info105:(Tryd.prog.info? 105).isSome=true:=by kernel_rfl
theorem bytes105:Tryd.prog.bytesOf 105=8:=by kernel_rfl
theorem aggT105:isAggT Tryd.prog 105=false:=by kernel_rfl
theorem isIface105:isIface Tryd.prog 105=false:=by kernel_rfl
theorem azero105:azero Tryd.prog 105=some ([.s .nilFunc]):=by kernel_rfl
theorem zfits105:zfits Tryd.prog 105=true:=by kernel_rfl
theorem cells106:Tryd.prog.cellsOf 106=1:=by kernel_rfl
theorem info106:(Tryd.prog.info? 106).isSome=true:=by kernel_rfl
theorem bytes106:Tryd.prog.bytesOf 106=8:=by kernel_rfl
theorem aggT106:isAggT Tryd.prog 106=false:=by kernel_rfl
theorem isIface106:isIface Tryd.prog 106=false:=by kernel_rfl
theorem azero106:azero Tryd.prog 106=some ([.s .nilFunc]):=by kernel_rfl
theorem zfits106:zfits Tryd.prog 106=true:=by kernel_rfl
theorem cells107:Tryd.prog.cellsOf 107=1:=by kernel_rfl
theorem info107:(Tryd.prog.info? 107).isSome=true:=by kernel_rfl
theorem bytes107:Tryd.prog.bytesOf 107=8:=by kernel_rfl
theorem aggT107:isAggT Tryd.prog 107=false:=by kernel_rfl
theorem isIface107:isIface Tryd.prog 107=false:=by kernel_rfl
theorem azero107:azero Tryd.prog 107=some ([.s .nilFunc]):=by kernel_rfl
theorem zfits107:zfits Tryd.prog 107=true:=by kernel_rfl
theorem cells108:Tryd.prog.cellsOf 108=1:=by kernel_rfl
theorem info108:(Tryd.prog.info? 108).isSome=true:=by kernel_rfl
theorem bytes108:Tryd.prog.bytesOf 108=8:=by kernel_rfl
theorem aggT108:isAggT Tryd.prog 108=false:=by kernel_rfl
theorem isIface108:isIface Tryd.prog 108=false:=by kernel_rfl
theorem azero108:azero Tryd.prog 108=some ([.s .nilFunc]):=by kernel_rfl
theorem zfits108:zfits Tryd.prog 108=true:=by kernel_rfl
theorem cells109:Tryd.prog.cellsOf 109=1:=by kernel_rfl
theorem info109:(Tryd.prog.info? 109).isSome=true:=by kernel_rfl
theorem bytes109:Tryd.prog.bytesOf 109=8:=by kernel_rfl
theorem aggT109:isAggT Tryd.prog 109=false:=by kernel_rfl
theorem isIface109:isIface Tryd.prog 109=false:=by kernel_rfl
theorem azero109:azero Tryd.prog 109=some ([.s .nilFunc]):=by kernel_rfl
theorem zfits109:zfits Tryd.prog 109=true:=by kernel_rfl
theorem cells110:Tryd.prog.cellsOf 110=3:=by kernel_rfl
theorem info110:(Tryd.prog.info? 110).isSome=true:=by kernel_rfl
theorem bytes110:Tryd.prog.bytesOf 110=24:=by kernel_rfl
theorem aggT110:isAggT Tryd.prog 110=true:=by kernel_rfl
theorem isIface110:isIface Tryd.prog 110=false:=by kernel_rfl
theorem azero110:azero Tryd.prog 110=some ([i64 0,i64 0,.s .nilFunc]):=by kernel_rfl
theorem zfits110:zfits Tryd.prog 110=true:=by kernel_rfl
theorem build110 : ∀ parts,aBuild Tryd.prog 110 parts=(fillA (fun i=>[some (0,1),some (1,1),some (2,1)][i]?.join) ([.p (i64 0),.p (i64 0),.p (.s .nilFunc)]) parts).map mkAgg:=fun _=>aBuild_struct (by kernel_rfl) azero110
theorem cells111:Tryd.prog.cellsOf 111=3:=by kernel_rfl
theorem info111:(Tryd.prog.info? 111).isSome=true:=by kernel_rfl
theorem bytes111:Tryd.prog.bytesOf 111=24:=by kernel_rfl
theorem aggT111:isAggT Tryd.prog 111=true:=by kernel_rfl
theorem isIface111:isIface Tryd.prog 111=false:=by kernel_rfl
theorem azero111:azero Tryd.prog 111=some ([i64 0,i64 0,.s .nilFunc]):=by kernel_rfl
theorem zfits111:zfits Tryd.prog 111=true:=by kernel_rfl
theorem build111 : ∀ parts,aBuild Tryd.prog 111 parts=(fillA (fun i=>[some (0,1),some (1,1),some (2,1)][i]?.join) ([.p (i64 0),.p (i64 0),.p (.s .nilFunc)]) parts).map mkAgg:=fun _=>aBuild_struct (by kernel_rfl) azero111
theorem cells112:Tryd.prog.cellsOf 112=1:=by kernel_rfl
theorem info112:(Tryd.prog.info? 112).isSome=true:=by kernel_rfl
theorem bytes112:Tryd.prog.bytesOf 112=8:=by kernel_rfl
theorem aggT112:isAggT Tryd.prog 112=false:=by kernel_rfl
theorem isIface112:isIface Tryd.prog 112=false:=by kernel_rfl
theorem azero112:azero Tryd.prog 112=some ([.s (.map none)]):=by kernel_rfl
theorem zfits112:zfits Tryd.prog 112=true:=by kernel_rfl
theorem cells113:Tryd.prog.cellsOf 113=1:=by kernel_rfl
theorem info113:(Tryd.prog.info? 113).isSome=true:=by kernel_rfl
theorem bytes113:Tryd.prog.bytesOf 113=8:=by kernel_rfl
theorem aggT113:isAggT Tryd.prog 113=false:=by kernel_rfl
theorem isIface113:isIface Tryd.prog 113=false:=by kernel_rfl
theorem azero113:azero Tryd.prog 113=some ([.s .nilFunc]):=by kernel_rfl
theorem zfits113:zfits Tryd.prog 113=true:=by kernel_rfl
theorem cells114:Tryd.prog.cellsOf 114=1:=by kernel_rfl
theorem info114:(Tryd.prog.info? 114).isSome=true:=by kernel_rfl
theorem bytes114:Tryd.prog.bytesOf 114=8:=by kernel_rfl
theorem aggT114:isAggT Tryd.prog 114=false:=by kernel_rfl
theorem isIface114:isIface Tryd.prog 114=false:=by kernel_rfl
theorem azero114:azero Tryd.prog 114=some ([.s .nilFunc]):=by kernel_rfl
theorem zfits114:zfits Tryd.prog 114=true:=by kernel_rfl
theorem cells115:Tryd.prog.cellsOf 115=8:=by kernel_rfl
theorem info115:(Tryd.prog.info? 115).isSome=true:=by kernel_rfl
theorem bytes115:Tryd.prog.bytesOf 115=32:=by kernel_rfl
theorem aggT115:isAggT Tryd.prog 115=true:=by kernel_rfl
theorem arrOK115:arrOK Tryd.prog 115 .u32 8=true:=by kernel_rfl
theorem isIface115:isIface Tryd.prog 115=false:=by kernel_rfl
theorem azero115:azero Tryd.prog 115=some (List.replicate 8 (w32 0#32)):=by kernel_rfl
theorem zfits115:zfits Tryd.prog 115=true:=by kernel_rfl
theorem build115 : ∀ parts,aBuild Tryd.prog 115 parts=(fillA (fun i=>some (i*1,1)) ((List.replicate 8 (w32 0#32)).map .p) parts).map mkAgg:=fun _=>aBuild_arr (by kernel_rfl) azero115
theorem cells116:Tryd.prog.cellsOf 116=1:=by kernel_rfl
theorem info116:(Tryd.prog.info? 116).isSome=true:=by kernel_rfl
theorem bytes116:Tryd.prog.bytesOf 116=8:=by kernel_rfl
theorem aggT116:isAggT Tryd.prog 116=false:=by kernel_rfl
theorem isIface116:isIface Tryd.prog 116=false:=by kernel_rfl
theorem azero116:azero Tryd.prog 116=some ([.s .nilFunc]):=by kernel_rfl
theorem zfits116:zfits Tryd.prog 116=true:=by kernel_rfl
theorem cells117:Tryd.prog.cellsOf 117=1:=by kernel_rfl
theorem info117:(Tryd.prog.info? 117).isSome=true:=by kernel_rfl
theorem bytes117:Tryd.prog.bytesOf 117=8:=by kernel_rfl
theorem aggT117:isAggT Tryd.prog 117=false:=by kernel_rfl
theorem isIface117:isIface Tryd.prog 117=false:=by kernel_rfl
theorem azero117:azero Tryd.prog 117=some ([.s .nilFunc]):=by kernel_rfl
theorem zfits117:zfits Tryd.prog 117=true:=by kernel_rfl
theorem cells118:Tryd.prog.cellsOf 118=1:=by kernel_rfl
theorem info118:(Tryd.prog.info? 118).isSome=true:=by kernel_rfl
theorem bytes118:Tryd.prog.bytesOf 118=8:=by kernel_rfl
theorem aggT118:isAggT Tryd.prog 118=false:=by kernel_rfl
theorem isIface118:isIface Tryd.prog 118=false:=by kernel_rfl
theorem azero118:azero Tryd.prog 118=some ([.s (.pointer none)]):=by kernel_rfl
theorem zfits118:zfits Tryd.prog 118=true:=by kernel_rfl
theorem cells120:Tryd.prog.cellsOf 120=1:=by kernel_rfl
theorem info120:(Tryd.prog.info? 120).isSome=true:=by kernel_rfl
theorem bytes120:Tryd.prog.bytesOf 120=8:=by kernel_rfl
theorem aggT120:isAggT Tryd.prog 120=false:=by kernel_rfl
theorem isIface120:isIface Tryd.prog 120=false:=by kernel_rfl
theorem azero120:azero Tryd.prog 120=some ([.s (.map none)]):=by kernel_rfl
theorem zfits120:zfits Tryd.prog 120=true:=by kernel_rfl
theorem cells121:Tryd.prog.cellsOf 121=64:=by kernel_rfl
theorem info121:(Tryd.prog.info? 121).isSome=true:=by kernel_rfl
theorem bytes121:Tryd.prog.bytesOf 121=256:=by kernel_rfl
theorem aggT121:isAggT Tryd.prog 121=true:=by kernel_rfl
theorem arrOK121:arrOK Tryd.prog 121 .u32 64=true:=by kernel_rfl
theorem isIface121:isIface Tryd.prog 121=false:=by kernel_rfl
theorem azero121:azero Tryd.prog 121=some (List.replicate 64 (w32 0#32)):=by kernel_rfl
theorem zfits121:zfits Tryd.prog 121=true:=by kernel_rfl
theorem build121 : ∀ parts,aBuild Tryd.prog 121 parts=(fillA (fun i=>some (i*1,1)) ((List.replicate 64 (w32 0#32)).map .p) parts).map mkAgg:=fun _=>aBuild_arr (by kernel_rfl) azero121
theorem cells122:Tryd.prog.cellsOf 122=1:=by kernel_rfl
theorem info122:(Tryd.prog.info? 122).isSome=true:=by kernel_rfl
theorem bytes122:Tryd.prog.bytesOf 122=8:=by kernel_rfl
theorem aggT122:isAggT Tryd.prog 122=false:=by kernel_rfl
theorem isIface122:isIface Tryd.prog 122=false:=by kernel_rfl
theorem azero122:azero Tryd.prog 122=some ([.s .nilFunc]):=by kernel_rfl
theorem zfits122:zfits Tryd.prog 122=true:=by kernel_rfl
theorem cells123:Tryd.prog.cellsOf 123=1:=by kernel_rfl
theorem info123:(Tryd.prog.info? 123).isSome=true:=by kernel_rfl
theorem bytes123:Tryd.prog.bytesOf 123=8:=by kernel_rfl
theorem aggT123:isAggT Tryd.prog 123=false:=by kernel_rfl
theorem isIface123:isIface Tryd.prog 123=false:=by kernel_rfl
theorem azero123:azero Tryd.prog 123=some ([.s .nilFunc]):=by kernel_rfl
theorem zfits123:zfits Tryd.prog 123=true:=by kernel_rfl
theorem cells124:Tryd.prog.cellsOf 124=1:=by kernel_rfl
theorem info124:(Tryd.prog.info? 124).isSome=true:=by kernel_rfl
theorem bytes124:Tryd.prog.bytesOf 124=8:=by kernel_rfl
theorem aggT124:isAggT Tryd.prog 124=false:=by kernel_rfl
theorem isIface124:isIface Tryd.prog 124=false:=by kernel_rfl
theorem azero124:azero Tryd.prog 124=some ([.s .nilFunc]):=by kernel_rfl
theorem zfits124:zfits Tryd.prog 124=true:=by kernel_rfl
theorem cells125:Tryd.prog.cellsOf 125=1:=by kernel_rfl
theorem info125:(Tryd.prog.info? 125).isSome=true:=by kernel_rfl
theorem bytes125:Tryd.prog.bytesOf 125=8:=by kernel_rfl
theorem aggT125:isAggT Tryd.prog 125=false:=by kernel_rfl
theorem isIface125:isIface Tryd.prog 125=false:=by kernel_rfl
theorem azero125:azero Tryd.prog 125=some ([.s .nilFunc]):=by kernel_rfl
theorem zfits125:zfits Tryd.prog 125=true:=by kernel_rfl
theorem cells126:Tryd.prog.cellsOf 126=1:=by kernel_rfl
theorem info126:(Tryd.prog.info? 126).isSome=true:=by kernel_rfl
theorem bytes126:Tryd.prog.bytesOf 126=8:=by kernel_rfl
theorem aggT126:isAggT Tryd.prog 126=false:=by kernel_rfl
theorem isIface126:isIface Tryd.prog 126=false:=by kernel_rfl
theorem azero126:azero Tryd.prog 126=some ([.s .nilFunc]):=by kernel_rfl
theorem zfits126:zfits Tryd.prog 126=true:=by kernel_rfl
theorem cells127:Tryd.prog.cellsOf 127=1:=by kernel_rfl
theorem info127:(Tryd.prog.info? 127).isSome=true:=by kernel_rfl
theorem bytes127:Tryd.prog.bytesOf 127=8:=by kernel_rfl
theorem aggT127:isAggT Tryd.prog 127=false:=by kernel_rfl
theorem isIface127:isIface Tryd.prog 127=false:=by kernel_rfl
theorem azero127:azero Tryd.prog 127=some ([.s .nilFunc]):=by kernel_rfl
theorem zfits127:zfits Tryd.prog 127=true:=by kernel_rfl
theorem cells128:Tryd.prog.cellsOf 128=1:=by kernel_rfl
theorem info128:(Tryd.prog.info? 128).isSome=true:=by kernel_rfl
theorem bytes128:Tryd.prog.bytesOf 128=8:=by kernel_rfl
theorem aggT128:isAggT Tryd.prog 128=false:=by kernel_rfl
theorem isIface128:isIface Tryd.prog 128=false:=by kernel_rfl
theorem azero128:azero Tryd.prog 128=some ([.s .nilFunc]):=by kernel_rfl
theorem zfits128:zfits Tryd.prog 128=true:=by kernel_rfl
theorem cells129:Tryd.prog.cellsOf 129=1:=by kernel_rfl
theorem info129:(Tryd.prog.info? 129).isSome=true:=by kernel_rfl
theorem bytes129:Tryd.prog.bytesOf 129=8:=by kernel_rfl
theorem aggT129:isAggT Tryd.prog 129=false:=by kernel_rfl
theorem isIface129:isIface Tryd.prog 129=false:=by kernel_rfl
theorem azero129:azero Tryd.prog 129=some ([.s (.pointer none)]):=by kernel_rfl
theorem zfits129:zfits Tryd.prog 129=true:=by kernel_rfl
theorem cells130:Tryd.prog.cellsOf 130=1:=by kernel_rfl
theorem info130:(Tryd.prog.info? 130).isSome=true:=by kernel_rfl
theorem bytes130:Tryd.prog.bytesOf 130=24:=by kernel_rfl
theorem aggT130:isAggT Tryd.prog 130=false:=by kernel_rfl
theorem isIface130:isIface Tryd.prog 130=false:=by kernel_rfl
theorem azero130:azero Tryd.prog 130=some ([.sl true 1 []]):=by kernel_rfl
theorem zfits130:zfits Tryd.prog 130=true:=by kernel_rfl
theorem cells131:Tryd.prog.cellsOf 131=1:=by kernel_rfl
theorem info131:(Tryd.prog.info? 131).isSome=true:=by kernel_rfl
theorem bytes131:Tryd.prog.bytesOf 131=8:=by kernel_rfl
theorem aggT131:isAggT Tryd.prog 131=false:=by kernel_rfl
theorem isIface131:isIface Tryd.prog 131=false:=by kernel_rfl
theorem azero131:azero Tryd.prog 131=some ([.s .nilFunc]):=by kernel_rfl
theorem zfits131:zfits Tryd.prog 131=true:=by kernel_rfl
theorem cells132:Tryd.prog.cellsOf 132=1:=by kernel_rfl
theorem info132:(Tryd.prog.info? 132).isSome=true:=by kernel_rfl
theorem bytes132:Tryd.prog.bytesOf 132=8:=by kernel_rfl
theorem aggT132:isAggT Tryd.prog 132=false:=by kernel_rfl
theorem isIface132:isIface Tryd.prog 132=false:=by kernel_rfl
theorem azero132:azero Tryd.prog 132=some ([.s .nilFunc]):=by kernel_rfl
theorem zfits132:zfits Tryd.prog 132=true:=by kernel_rfl
theorem cells133:Tryd.prog.cellsOf 133=1:=by kernel_rfl
theorem info133:(Tryd.prog.info? 133).isSome=true:=by kernel_rfl
theorem bytes133:Tryd.prog.bytesOf 133=8:=by kernel_rfl
theorem aggT133:isAggT Tryd.prog 133=false:=by kernel_rfl
theorem isIface133:isIface Tryd.prog 133=false:=by kernel_rfl
theorem azero133:azero Tryd.prog 133=some ([.s .nilFunc]):=by kernel_rfl
theorem zfits133:zfits Tryd.prog 133=true:=by kernel_rfl
theorem cells134:Tryd.prog.cellsOf 134=4:=by kernel_rfl
theorem info134:(Tryd.prog.info? 134).isSome=true:=by kernel_rfl
theorem bytes134:Tryd.prog.bytesOf 134=40:=by kernel_rfl
theorem aggT134:isAggT Tryd.prog 134=true:=by kernel_rfl
theorem isIface134:isIface Tryd.prog 134=false:=by kernel_rfl
theorem azero134:azero Tryd.prog 134=some ([.s (.pointer none),.s (.pointer none),.s (.pointer none),str ByteArray.empty]):=by kernel_rfl
theorem zfits134:zfits Tryd.prog 134=true:=by kernel_rfl
theorem build134 : ∀ parts,aBuild Tryd.prog 134 parts=(fillA (fun i=>[some (0,1),some (1,1),some (2,1),some (3,1)][i]?.join) ([.p (.s (.pointer none)),.p (.s (.pointer none)),.p (.s (.pointer none)),.p (str ByteArray.empty)]) parts).map mkAgg:=fun _=>aBuild_struct (by kernel_rfl) azero134
theorem cells135:Tryd.prog.cellsOf 135=4:=by kernel_rfl
theorem info135:(Tryd.prog.info? 135).isSome=true:=by kernel_rfl
theorem bytes135:Tryd.prog.bytesOf 135=40:=by kernel_rfl
theorem aggT135:isAggT Tryd.prog 135=true:=by kernel_rfl
theorem isIface135:isIface Tryd.prog 135=false:=by kernel_rfl
theorem azero135:azero Tryd.prog 135=some ([.s (.pointer none),.s (.pointer none),.s (.pointer none),str ByteArray.empty]):=by kernel_rfl
theorem zfits135:zfits Tryd.prog 135=true:=by kernel_rfl
theorem build135 : ∀ parts,aBuild Tryd.prog 135 parts=(fillA (fun i=>[some (0,1),some (1,1),some (2,1),some (3,1)][i]?.join) ([.p (.s (.pointer none)),.p (.s (.pointer none)),.p (.s (.pointer none)),.p (str ByteArray.empty)]) parts).map mkAgg:=fun _=>aBuild_struct (by kernel_rfl) azero135
theorem cells136:Tryd.prog.cellsOf 136=0:=by kernel_rfl
theorem info136:(Tryd.prog.info? 136).isSome=true:=by kernel_rfl
theorem bytes136:Tryd.prog.bytesOf 136=0:=by kernel_rfl
theorem aggT136:isAggT Tryd.prog 136=true:=by kernel_rfl
theorem isIface136:isIface Tryd.prog 136=false:=by kernel_rfl
theorem azero136:azero Tryd.prog 136=some ([]):=by kernel_rfl
theorem zfits136:zfits Tryd.prog 136=true:=by kernel_rfl
theorem build136 : ∀ parts,aBuild Tryd.prog 136 parts=(fillA (fun i=>some (i*1,1)) ([]) parts).map mkAgg:=fun _=>aBuild_arr (by kernel_rfl) azero136
theorem cells137:Tryd.prog.cellsOf 137=0:=by kernel_rfl
theorem info137:(Tryd.prog.info? 137).isSome=true:=by kernel_rfl
theorem bytes137:Tryd.prog.bytesOf 137=0:=by kernel_rfl
theorem aggT137:isAggT Tryd.prog 137=true:=by kernel_rfl
theorem isIface137:isIface Tryd.prog 137=false:=by kernel_rfl
theorem azero137:azero Tryd.prog 137=some ([]):=by kernel_rfl
theorem zfits137:zfits Tryd.prog 137=true:=by kernel_rfl
theorem build137 : ∀ parts,aBuild Tryd.prog 137 parts=(fillA (fun i=>[some (0,0)][i]?.join) ([]) parts).map mkAgg:=fun _=>aBuild_struct (by kernel_rfl) azero137
theorem cells138:Tryd.prog.cellsOf 138=0:=by kernel_rfl
theorem info138:(Tryd.prog.info? 138).isSome=true:=by kernel_rfl
theorem bytes138:Tryd.prog.bytesOf 138=0:=by kernel_rfl
theorem aggT138:isAggT Tryd.prog 138=true:=by kernel_rfl
theorem isIface138:isIface Tryd.prog 138=false:=by kernel_rfl
theorem azero138:azero Tryd.prog 138=some ([]):=by kernel_rfl
theorem zfits138:zfits Tryd.prog 138=true:=by kernel_rfl
theorem build138 : ∀ parts,aBuild Tryd.prog 138 parts=(fillA (fun i=>[some (0,0)][i]?.join) ([]) parts).map mkAgg:=fun _=>aBuild_struct (by kernel_rfl) azero138
theorem cells139:Tryd.prog.cellsOf 139=1:=by kernel_rfl
theorem info139:(Tryd.prog.info? 139).isSome=true:=by kernel_rfl
theorem bytes139:Tryd.prog.bytesOf 139=8:=by kernel_rfl
theorem aggT139:isAggT Tryd.prog 139=false:=by kernel_rfl
theorem isIface139:isIface Tryd.prog 139=false:=by kernel_rfl
theorem azero139:azero Tryd.prog 139=some ([.s .nilFunc]):=by kernel_rfl
theorem zfits139:zfits Tryd.prog 139=true:=by kernel_rfl
theorem cells140:Tryd.prog.cellsOf 140=1:=by kernel_rfl
theorem info140:(Tryd.prog.info? 140).isSome=true:=by kernel_rfl
theorem bytes140:Tryd.prog.bytesOf 140=1:=by kernel_rfl
theorem aggT140:isAggT Tryd.prog 140=false:=by kernel_rfl
theorem isInt140:isIntT Tryd.prog 140=true:=by kernel_rfl
theorem isIface140:isIface Tryd.prog 140=false:=by kernel_rfl
theorem azero140:azero Tryd.prog 140=some ([b8 0#8]):=by kernel_rfl
theorem zfits140:zfits Tryd.prog 140=true:=by kernel_rfl
theorem cells141:Tryd.prog.cellsOf 141=1:=by kernel_rfl
theorem info141:(Tryd.prog.info? 141).isSome=true:=by kernel_rfl
theorem bytes141:Tryd.prog.bytesOf 141=1:=by kernel_rfl
theorem aggT141:isAggT Tryd.prog 141=false:=by kernel_rfl
theorem isInt141:isIntT Tryd.prog 141=true:=by kernel_rfl
theorem isIface141:isIface Tryd.prog 141=false:=by kernel_rfl
theorem azero141:azero Tryd.prog 141=some ([b8 0#8]):=by kernel_rfl
theorem zfits141:zfits Tryd.prog 141=true:=by kernel_rfl
theorem cells142:Tryd.prog.cellsOf 142=1:=by kernel_rfl
theorem info142:(Tryd.prog.info? 142).isSome=true:=by kernel_rfl
theorem bytes142:Tryd.prog.bytesOf 142=8:=by kernel_rfl
theorem aggT142:isAggT Tryd.prog 142=false:=by kernel_rfl
theorem isIface142:isIface Tryd.prog 142=false:=by kernel_rfl
theorem azero142:azero Tryd.prog 142=some ([.s .nilFunc]):=by kernel_rfl
theorem zfits142:zfits Tryd.prog 142=true:=by kernel_rfl
theorem cells143:Tryd.prog.cellsOf 143=1:=by kernel_rfl
theorem info143:(Tryd.prog.info? 143).isSome=true:=by kernel_rfl
theorem bytes143:Tryd.prog.bytesOf 143=8:=by kernel_rfl
theorem aggT143:isAggT Tryd.prog 143=false:=by kernel_rfl
theorem isIface143:isIface Tryd.prog 143=false:=by kernel_rfl
theorem azero143:azero Tryd.prog 143=some ([.s (.pointer none)]):=by kernel_rfl
theorem zfits143:zfits Tryd.prog 143=true:=by kernel_rfl
theorem cells144:Tryd.prog.cellsOf 144=1:=by kernel_rfl
theorem info144:(Tryd.prog.info? 144).isSome=true:=by kernel_rfl
theorem bytes144:Tryd.prog.bytesOf 144=4:=by kernel_rfl
theorem aggT144:isAggT Tryd.prog 144=false:=by kernel_rfl
theorem isInt144:isIntT Tryd.prog 144=true:=by kernel_rfl
theorem isIface144:isIface Tryd.prog 144=false:=by kernel_rfl
theorem azero144:azero Tryd.prog 144=some ([.s (.int .i32 0)]):=by kernel_rfl
theorem zfits144:zfits Tryd.prog 144=true:=by kernel_rfl
theorem cells145:Tryd.prog.cellsOf 145=1:=by kernel_rfl
theorem info145:(Tryd.prog.info? 145).isSome=true:=by kernel_rfl
theorem bytes145:Tryd.prog.bytesOf 145=4:=by kernel_rfl
theorem aggT145:isAggT Tryd.prog 145=false:=by kernel_rfl
theorem isInt145:isIntT Tryd.prog 145=true:=by kernel_rfl
theorem isIface145:isIface Tryd.prog 145=false:=by kernel_rfl
theorem azero145:azero Tryd.prog 145=some ([.s (.int .i32 0)]):=by kernel_rfl
theorem zfits145:zfits Tryd.prog 145=true:=by kernel_rfl
theorem cells146:Tryd.prog.cellsOf 146=11:=by kernel_rfl
theorem info146:(Tryd.prog.info? 146).isSome=true:=by kernel_rfl
theorem bytes146:Tryd.prog.bytesOf 146=48:=by kernel_rfl
theorem aggT146:isAggT Tryd.prog 146=true:=by kernel_rfl
theorem isIface146:isIface Tryd.prog 146=false:=by kernel_rfl
theorem azero146:azero Tryd.prog 146=some ([w64 0#64,w64 0#64,w32 0#32,b8 0#8,b8 0#8,b8 0#8,b8 0#8,.s .nilFunc,.s (.pointer none),.s (.int .i32 0),.s (.int .i32 0)]):=by kernel_rfl
theorem zfits146:zfits Tryd.prog 146=true:=by kernel_rfl
theorem build146 : ∀ parts,aBuild Tryd.prog 146 parts=(fillA (fun i=>[some (0,1),some (1,1),some (2,1),some (3,1),some (4,1),some (5,1),some (6,1),some (7,1),some (8,1),some (9,1),some (10,1)][i]?.join) ([.p (w64 0#64),.p (w64 0#64),.p (w32 0#32),.p (b8 0#8),.p (b8 0#8),.p (b8 0#8),.p (b8 0#8),.p (.s .nilFunc),.p (.s (.pointer none)),.p (.s (.int .i32 0)),.p (.s (.int .i32 0))]) parts).map mkAgg:=fun _=>aBuild_struct (by kernel_rfl) azero146
theorem cells147:Tryd.prog.cellsOf 147=11:=by kernel_rfl
theorem info147:(Tryd.prog.info? 147).isSome=true:=by kernel_rfl
theorem bytes147:Tryd.prog.bytesOf 147=48:=by kernel_rfl
theorem aggT147:isAggT Tryd.prog 147=true:=by kernel_rfl
theorem isIface147:isIface Tryd.prog 147=false:=by kernel_rfl
theorem azero147:azero Tryd.prog 147=some ([w64 0#64,w64 0#64,w32 0#32,b8 0#8,b8 0#8,b8 0#8,b8 0#8,.s .nilFunc,.s (.pointer none),.s (.int .i32 0),.s (.int .i32 0)]):=by kernel_rfl
theorem zfits147:zfits Tryd.prog 147=true:=by kernel_rfl
theorem build147 : ∀ parts,aBuild Tryd.prog 147 parts=(fillA (fun i=>[some (0,1),some (1,1),some (2,1),some (3,1),some (4,1),some (5,1),some (6,1),some (7,1),some (8,1),some (9,1),some (10,1)][i]?.join) ([.p (w64 0#64),.p (w64 0#64),.p (w32 0#32),.p (b8 0#8),.p (b8 0#8),.p (b8 0#8),.p (b8 0#8),.p (.s .nilFunc),.p (.s (.pointer none)),.p (.s (.int .i32 0)),.p (.s (.int .i32 0))]) parts).map mkAgg:=fun _=>aBuild_struct (by kernel_rfl) azero147
theorem cells148:Tryd.prog.cellsOf 148=1:=by kernel_rfl
theorem info148:(Tryd.prog.info? 148).isSome=true:=by kernel_rfl
theorem bytes148:Tryd.prog.bytesOf 148=8:=by kernel_rfl
theorem aggT148:isAggT Tryd.prog 148=false:=by kernel_rfl
theorem isIface148:isIface Tryd.prog 148=false:=by kernel_rfl
theorem azero148:azero Tryd.prog 148=some ([.s (.pointer none)]):=by kernel_rfl
theorem zfits148:zfits Tryd.prog 148=true:=by kernel_rfl
theorem enters0:enters Tryd.prog 0=false:=by kernel_rfl
theorem extR0 : ∀ args H, extRes Tryd.prog 0 args H = vH (aExt "main.main" args) H := fun _ _ => extRes_some (by kernel_rfl)
theorem enters1:enters Tryd.prog 1=false:=by kernel_rfl
theorem extR1 : ∀ args H, extRes Tryd.prog 1 args H = vH (aExt "gosem.cut" args) H := fun _ _ => extRes_some (by kernel_rfl)
theorem enters2:enters Tryd.prog 2=true:=by kernel_rfl
theorem enters3:enters Tryd.prog 3=true:=by kernel_rfl
theorem enters4:enters Tryd.prog 4=true:=by kernel_rfl
theorem enters5:enters Tryd.prog 5=true:=by kernel_rfl
theorem enters6:enters Tryd.prog 6=true:=by kernel_rfl
theorem enters7:enters Tryd.prog 7=true:=by kernel_rfl
theorem enters8:enters Tryd.prog 8=true:=by kernel_rfl
theorem enters9:enters Tryd.prog 9=true:=by kernel_rfl
theorem enters10:enters Tryd.prog 10=true:=by kernel_rfl
theorem enters11:enters Tryd.prog 11=true:=by kernel_rfl
theorem enters12:enters Tryd.prog 12=true:=by kernel_rfl
theorem enters13:enters Tryd.prog 13=true:=by kernel_rfl
theorem enters14:enters Tryd.prog 14=true:=by kernel_rfl
theorem enters15:enters Tryd.prog 15=true:=by kernel_rfl
theorem enters16:enters Tryd.prog 16=true:=by kernel_rfl
theorem enters17:enters Tryd.prog 17=true:=by kernel_rfl
theorem enters18:enters Tryd.prog 18=true:=by kernel_rfl
theorem enters19:enters Tryd.prog 19=true:=by kernel_rfl
theorem enters20:enters Tryd.prog 20=true:=by kernel_rfl
theorem enters21:enters Tryd.prog 21=true:=by kernel_rfl
theorem enters22:enters Tryd.prog 22=true:=by kernel_rfl
theorem enters23:enters Tryd.prog 23=true:=by kernel_rfl
theorem enters24:enters Tryd.prog 24=true:=by kernel_rfl
theorem enters25:enters Tryd.prog 25=true:=by kernel_rfl
theorem enters26:enters Tryd.prog 26=true:=by kernel_rfl
theorem enters27:enters Tryd.prog 27=true:=by kernel_rfl
theorem enters28:enters Tryd.prog 28=true:=by kernel_rfl
theorem enters29:enters Tryd.prog 29=true:=by kernel_rfl
theorem enters30:enters Tryd.prog 30=true:=by kernel_rfl
theorem enters31:enters Tryd.prog 31=true:=by kernel_rfl
theorem enters32:enters Tryd.prog 32=true:=by kernel_rfl
theorem enters33:enters Tryd.prog 33=true:=by kernel_rfl
theorem enters34:enters Tryd.prog 34=true:=by kernel_rfl
theorem enters35:enters Tryd.prog 35=true:=by kernel_rfl
theorem enters36:enters Tryd.prog 36=true:=by kernel_rfl
theorem enters37:enters Tryd.prog 37=true:=by kernel_rfl
theorem enters38:enters Tryd.prog 38=true:=by kernel_rfl
theorem enters39:enters Tryd.prog 39=true:=by kernel_rfl
theorem enters40:enters Tryd.prog 40=true:=by kernel_rfl
theorem enters41:enters Tryd.prog 41=true:=by kernel_rfl
theorem enters42:enters Tryd.prog 42=true:=by kernel_rfl
theorem enters43:enters Tryd.prog 43=true:=by kernel_rfl
theorem enters44:enters Tryd.prog 44=true:=by kernel_rfl
theorem enters45:enters Tryd.prog 45=true:=by kernel_rfl
theorem enters46:enters Tryd.prog 46=true:=by kernel_rfl
theorem enters47:enters Tryd.prog 47=true:=by kernel_rfl
theorem enters48:enters Tryd.prog 48=true:=by kernel_rfl
theorem enters49:enters Tryd.prog 49=true:=by kernel_rfl
theorem enters50:enters Tryd.prog 50=true:=by kernel_rfl
theorem enters51:enters Tryd.prog 51=true:=by kernel_rfl
theorem enters52:enters Tryd.prog 52=true:=by kernel_rfl
theorem enters53:enters Tryd.prog 53=true:=by kernel_rfl
theorem enters54:enters Tryd.prog 54=true:=by kernel_rfl
theorem enters55:enters Tryd.prog 55=true:=by kernel_rfl
theorem enters56:enters Tryd.prog 56=true:=by kernel_rfl
theorem enters57:enters Tryd.prog 57=true:=by kernel_rfl
theorem enters58:enters Tryd.prog 58=true:=by kernel_rfl
theorem enters59:enters Tryd.prog 59=true:=by kernel_rfl
theorem enters60:enters Tryd.prog 60=true:=by kernel_rfl
theorem enters61:enters Tryd.prog 61=true:=by kernel_rfl
theorem enters62:enters Tryd.prog 62=true:=by kernel_rfl
theorem enters63:enters Tryd.prog 63=true:=by kernel_rfl
theorem enters64:enters Tryd.prog 64=true:=by kernel_rfl
theorem enters65:enters Tryd.prog 65=true:=by kernel_rfl
theorem enters66:enters Tryd.prog 66=true:=by kernel_rfl
theorem enters67:enters Tryd.prog 67=true:=by kernel_rfl
theorem enters68:enters Tryd.prog 68=true:=by kernel_rfl
theorem enters69:enters Tryd.prog 69=true:=by kernel_rfl
theorem enters70:enters Tryd.prog 70=true:=by kernel_rfl
theorem enters71:enters Tryd.prog 71=true:=by kernel_rfl
theorem enters72:enters Tryd.prog 72=true:=by kernel_rfl
theorem enters73:enters Tryd.prog 73=true:=by kernel_rfl
theorem enters74:enters Tryd.prog 74=true:=by kernel_rfl
theorem enters75:enters Tryd.prog 75=true:=by kernel_rfl
theorem enters76:enters Tryd.prog 76=true:=by kernel_rfl
theorem enters77:enters Tryd.prog 77=true:=by kernel_rfl
theorem enters78:enters Tryd.prog 78=true:=by kernel_rfl
theorem enters79:enters Tryd.prog 79=true:=by kernel_rfl
theorem enters80:enters Tryd.prog 80=true:=by kernel_rfl
theorem enters81:enters Tryd.prog 81=true:=by kernel_rfl
theorem enters82:enters Tryd.prog 82=true:=by kernel_rfl
theorem enters83:enters Tryd.prog 83=true:=by kernel_rfl
theorem enters84:enters Tryd.prog 84=true:=by kernel_rfl
theorem enters85:enters Tryd.prog 85=true:=by kernel_rfl
theorem enters86:enters Tryd.prog 86=true:=by kernel_rfl
theorem enters87:enters Tryd.prog 87=true:=by kernel_rfl
theorem enters88:enters Tryd.prog 88=true:=by kernel_rfl
theorem enters89:enters Tryd.prog 89=false:=by kernel_rfl
theorem extR89 : ∀ args H, extRes Tryd.prog 89 args H = vH (aExt "(runtime.boundsError).Error" args) H := fun _ _ => extRes_some (by kernel_rfl)
theorem enters90:enters Tryd.prog 90=false:=by kernel_rfl
theorem extR90 : ∀ args H, extRes Tryd.prog 90 args H = vH (aExt "(runtime.boundsError).RuntimeError" args) H := fun _ _ => extRes_some (by kernel_rfl)
theorem enters91:enters Tryd.prog 91=false:=by kernel_rfl
theorem extR91 : ∀ args H, extRes Tryd.prog 91 args H = vH (aExt "(runtime.errorString).Error" args) H := fun _ _ => extRes_some (by kernel_rfl)
theorem enters92:enters Tryd.prog 92=false:=by kernel_rfl
theorem extR92 : ∀ args H, extRes Tryd.prog 92 args H = vH (aExt "(runtime.errorString).RuntimeError" args) H := fun _ _ => extRes_some (by kernel_rfl)
theorem enters93:enters Tryd.prog 93=false:=by kernel_rfl
theorem extR93 : ∀ args H, extRes Tryd.prog 93 args H = vH (aExt "(runtime.plainError).Error" args) H := fun _ _ => extRes_some (by kernel_rfl)
theorem enters94:enters Tryd.prog 94=false:=by kernel_rfl
theorem extR94 : ∀ args H, extRes Tryd.prog 94 args H = vH (aExt "(runtime.plainError).RuntimeError" args) H := fun _ _ => extRes_some (by kernel_rfl)
theorem enters95:enters Tryd.prog 95=false:=by kernel_rfl
theorem extR95 : ∀ args H, extRes Tryd.prog 95 args H = vH (aExt "(runtime.errorAddressString).Error" args) H := fun _ _ => extRes_some (by kernel_rfl)
theorem enters96:enters Tryd.prog 96=false:=by kernel_rfl
theorem extR96 : ∀ args H, extRes Tryd.prog 96 args H = vH (aExt "(runtime.errorAddressString).RuntimeError" args) H := fun _ _ => extRes_some (by kernel_rfl)
theorem enters97:enters Tryd.prog 97=false:=by kernel_rfl
theorem extR97 : ∀ args H, extRes Tryd.prog 97 args H = vH (aExt "(*runtime.TypeAssertionError).Error" args) H := fun _ _ => extRes_some (by kernel_rfl)
theorem enters98:enters Tryd.prog 98=false:=by kernel_rfl
theorem extR98 : ∀ args H, extRes Tryd.prog 98 args H = vH (aExt "(*runtime.TypeAssertionError).RuntimeError" args) H := fun _ _ => extRes_some (by kernel_rfl)
theorem enters99:enters Tryd.prog 99=false:=by kernel_rfl
theorem extR99 : ∀ args H, extRes Tryd.prog 99 args H = vH (aExt "(*runtime.PanicNilError).Error" args) H := fun _ _ => extRes_some (by kernel_rfl)
theorem enters100:enters Tryd.prog 100=false:=by kernel_rfl
theorem extR100 : ∀ args H, extRes Tryd.prog 100 args H = vH (aExt "(*runtime.PanicNilError).RuntimeError" args) H := fun _ _ => extRes_some (by kernel_rfl)
theorem enters101:enters Tryd.prog 101=false:=by kernel_rfl
theorem extR101 : ∀ args H, extRes Tryd.prog 101 args H = vH (aExt "(*internal/abi.Type).Align" args) H := fun _ _ => extRes_some (by kernel_rfl)
theorem enters102:enters Tryd.prog 102=false:=by kernel_rfl
theorem extR102 : ∀ args H, extRes Tryd.prog 102 args H = vH (aExt "(internal/runtime/maps.unhashableTypeError).Error" args) H := fun _ _ => extRes_some (by kernel_rfl)
theorem enters103:enters Tryd.prog 103=false:=by kernel_rfl
theorem extR103 : ∀ args H, extRes Tryd.prog 103 args H = vH (aExt "(internal/runtime/maps.unhashableTypeError).RuntimeError" args) H := fun _ _ => extRes_some (by kernel_rfl)
theorem enters104:enters Tryd.prog 104=false:=by kernel_rfl
theorem extR104 : ∀ args H, extRes Tryd.prog 104 args H = vH (aExt "(attestor/api.Errno).Error" args) H := fun _ _ => extRes_some (by kernel_rfl)
theorem enters105:enters Tryd.prog 105=false:=by kernel_rfl
theorem extR105 : ∀ args H, extRes Tryd.prog 105 args H = vH (aExt "(internal/abi.Kind).String" args) H := fun _ _ => extRes_some (by kernel_rfl)
theorem enters106:enters Tryd.prog 106=true:=by kernel_rfl
theorem enters107:enters Tryd.prog 107=true:=by kernel_rfl
theorem enters108:enters Tryd.prog 108=true:=by kernel_rfl
theorem enters109:enters Tryd.prog 109=true:=by kernel_rfl
theorem enters110:enters Tryd.prog 110=true:=by kernel_rfl
theorem enters117:enters Tryd.prog 117=true:=by kernel_rfl
theorem keyT3:keyT Tryd.prog 3=true:=by kernel_rfl
theorem zeroAV111:zeroAV Tryd.prog 111=some (.p (.agg [i64 0,i64 0,.s .nilFunc])):=by kernel_rfl
theorem zeroAV3:zeroAV Tryd.prog 3=some (.p (i64 0)):=by kernel_rfl
theorem follows:Tryd.prog.follows .mixedOrders=true:=by kernel_rfl
attribute [go_sem] cells1 info1 bytes1 aggT1 isIface1 azero1 zfits1 cells2 info2 bytes2 aggT2 isInt2 isIface2 azero2 zfits2 cells3 info3 bytes3 aggT3 isInt3 isIface3 azero3 zfits3 cells4 info4 bytes4 aggT4 isBool4 isIface4 azero4 zfits4 cells5 info5 bytes5 aggT5 isInt5 isIface5 azero5 zfits5 cells6 info6 bytes6 aggT6 isInt6 isIface6 azero6 zfits6 cells7 info7 bytes7 aggT7 isIface7 azero7 zfits7 build7 cells8 info8 bytes8 aggT8 isIface8 azero8 zfits8 build8 cells9 info9 bytes9 aggT9 isIface9 azero9 zfits9 cells10 info10 bytes10 aggT10 isIface10 azero10 zfits10 cells11 info11 bytes11 aggT11 isIface11 azero11 zfits11 cells12 info12 bytes12 aggT12 isInt12 isIface12 azero12 zfits12 cells13 info13 bytes13 aggT13 isIface13 azero13 zfits13 build13 cells14 info14 bytes14 aggT14 isIface14 azero14 zfits14 build14 cells15 info15 bytes15 aggT15 isIface15 azero15 zfits15 cells16 info16 bytes16 aggT16 isIface16 azero16 zfits16 cells17 info17 bytes17 aggT17 isIface17 azero17 zfits17 cells18 info18 bytes18 aggT18 isIface18 azero18 zfits18 build18 cells19 info19 bytes19 aggT19 isIface19 azero19 zfits19 build19 cells20 info20 bytes20 aggT20 isIface20 azero20 zfits20 cells21 info21 bytes21 aggT21 isInt21 isIface21 azero21 zfits21 cells22 info22 bytes22 aggT22 arrOK22 isIface22 azero22 zfits22 build22 cells23 info23 bytes23 aggT23 arrOK23 isIface23 azero23 zfits23 build23 cells24 info24 bytes24 aggT24 isIface24 azero24 zfits24 cells25 info25 bytes25 aggT25 isIface25 azero25 zfits25 cells26 info26 bytes26 aggT26 isIface26 azero26 zfits26 build26 cells27 info27 bytes27 aggT27 isIface27 azero27 zfits27 build27 cells28 info28 bytes28 aggT28 isBytes28 isIface28 azero28 zfits28 cells29 info29 bytes29 aggT29 isIface29 azero29 zfits29 cells30 info30 bytes30 aggT30 isIface30 azero30 zfits30 cells31 info31 bytes31 aggT31 isInt31 isIface31 azero31 zfits31 cells33 info33 bytes33 aggT33 isIface33 azero33 zfits33 cells34 info34 bytes34 aggT34 isIface34 azero34 zfits34 cells35 info35 bytes35 aggT35 isIface35 azero35 zfits35 cells36 info36 bytes36 aggT36 isIface36 azero36 zfits36 cells37 info37 bytes37 aggT37 isIface37 azero37 zfits37 cells38 info38 bytes38 aggT38 isIface38 azero38 zfits38 cells39 info39 bytes39 aggT39 isIface39 azero39 zfits39 build39 cells40 info40 bytes40 aggT40 isIface40 azero40 zfits40 build40 cells41 info41 bytes41 aggT41 isIface41 azero41 zfits41 build41 cells42 info42 bytes42 aggT42 isIface42 azero42 zfits42 build42 cells43 info43 bytes43 aggT43 isIface43 azero43 zfits43 cells44 info44 bytes44 aggT44 isIface44 azero44 zfits44 cells45 info45 bytes45 aggT45 isIface45 azero45 zfits45 cells46 info46 bytes46 aggT46 isIface46 azero46 zfits46 build46 cells47 info47 bytes47 aggT47 isIface47 azero47 zfits47 build47 cells48 info48 bytes48 aggT48 isIface48 azero48 zfits48 cells50 info50 bytes50 aggT50 isIface50 azero50 zfits50 cells51 info51 bytes51 aggT51 isIface51 azero51 zfits51 cells52 info52 bytes52 aggT52 isIface52 azero52 zfits52 cells54 info54 bytes54 aggT54 isIface54 azero54 zfits54 cells55 info55 bytes55 aggT55 isIface55 azero55 zfits55 cells56 info56 bytes56 aggT56 isIface56 azero56 zfits56 cells57 info57 bytes57 aggT57 isIface57 azero57 zfits57 cells59 info59 bytes59 aggT59 isIface59 azero59 zfits59 cells60 info60 bytes60 aggT60 isIface60 azero60 zfits60 cells61 info61 bytes61 aggT61 isInt61 isIface61 azero61 zfits61 cells62 info62 bytes62 aggT62 isIface62 azero62 zfits62 build62 cells63 info63 bytes63 aggT63 isIface63 azero63 zfits63 build63 cells64 info64 bytes64 aggT64 isIface64 azero64 zfits64 cells65 info65 bytes65 aggT65 isIface65 azero65 zfits65 cells66 info66 bytes66 aggT66 isIface66 azero66 zfits66 cells67 info67 bytes67 aggT67 isIface67 azero67 zfits67 cells68 info68 bytes68 aggT68 isIface68 azero68 zfits68 cells69 info69 bytes69 aggT69 isIface69 azero69 zfits69 cells70 info70 bytes70 aggT70 isIface70 azero70 zfits70 cells72 info72 bytes72 aggT72 isIface72 azero72 zfits72 cells73 info73 bytes73 aggT73 isIface73 azero73 zfits73 cells74 info74 bytes74 aggT74 isIface74 azero74 zfits74 cells75 info75 bytes75 aggT75 isIface75 azero75 zfits75 cells76 info76 bytes76 aggT76 isIface76 azero76 zfits76 cells77 info77 bytes77 aggT77 isIface77 azero77 zfits77 cells78 info78 bytes78 aggT78 isIface78 azero78 zfits78 cells79 info79 bytes79 aggT79 isIface79 azero79 zfits79 cells80 info80 bytes80 aggT80 isIface80 azero80 zfits80 build80 cells81 info81 bytes81 aggT81 isIface81 azero81 zfits81 build81 cells82 info82 bytes82 aggT82 isIface82 azero82 zfits82 cells83 info83 bytes83 aggT83 isIface83 azero83 zfits83 cells84 info84 bytes84 aggT84 isIface84 azero84 zfits84 cells85 info85 bytes85 aggT85 isIface85 azero85 zfits85 cells86 info86 bytes86 aggT86 isIface86 azero86 zfits86 cells87 info87 bytes87 aggT87 isIface87 azero87 zfits87 build87 cells88 info88 bytes88 aggT88 isIface88 azero88 zfits88 cells89 info89 bytes89 aggT89 isIface89 azero89 zfits89 cells90 info90 bytes90 aggT90 isIface90 azero90 zfits90 cells91 info91 bytes91 aggT91 isIface91 azero91 zfits91 cells92 info92 bytes92 aggT92 isIface92 azero92 zfits92 cells93 info93 bytes93 aggT93 isInt93 isIface93 azero93 zfits93 cells94 info94 bytes94 aggT94 arrOK94 isIface94 azero94 zfits94 build94 cells95 info95 bytes95 aggT95 isIface95 azero95 zfits95 cells96 info96 bytes96 aggT96 isIface96 azero96 zfits96 cells97 info97 bytes97 aggT97 isIface97 azero97 zfits97 cells98 info98 bytes98 aggT98 isIface98 azero98 zfits98 cells99 info99 bytes99 aggT99 isIface99 azero99 zfits99 cells100 info100 bytes100 aggT100 isIface100 azero100 zfits100 cells101 info101 bytes101 aggT101 isIface101 azero101 zfits101 cells102 info102 bytes102 aggT102 isIface102 azero102 zfits102 cells103 info103 bytes103 aggT103 isInt103 isIface103 azero103 zfits103 cells104 info104 bytes104 aggT104 isIface104 azero104 zfits104 cells105 info105 bytes105 aggT105 isIface105 azero105 zfits105 cells106 info106 bytes106 aggT106 isIface106 azero106 zfits106 cells107 info107 bytes107 aggT107 isIface107 azero107 zfits107 cells108 info108 bytes108 aggT108 isIface108 azero108 zfits108 cells109 info109 bytes109 aggT109 isIface109 azero109 zfits109 cells110 info110 bytes110 aggT110 isIface110 azero110 zfits110 build110 cells111 info111 bytes111 aggT111 isIface111 azero111 zfits111 build111 cells112 info112 bytes112 aggT112 isIface112 azero112 zfits112 cells113 info113 bytes113 aggT113 isIface113 azero113 zfits113 cells114 info114 bytes114 aggT114 isIface114 azero114 zfits114 cells115 info115 bytes115 aggT115 arrOK115 isIface115 azero115 zfits115 build115 cells116 info116 bytes116 aggT116 isIface116 azero116 zfits116 cells117 info117 bytes117 aggT117 isIface117 azero117 zfits117 cells118 info118 bytes118 aggT118 isIface118 azero118 zfits118 cells120 info120 bytes120 aggT120 isIface120 azero120 zfits120 cells121 info121 bytes121 aggT121 arrOK121 isIface121 azero121 zfits121 build121 cells122 info122 bytes122 aggT122 isIface122 azero122 zfits122 cells123 info123 bytes123 aggT123 isIface123 azero123 zfits123 cells124 info124 bytes124 aggT124 isIface124 azero124 zfits124 cells125 info125 bytes125 aggT125 isIface125 azero125 zfits125 cells126 info126 bytes126 aggT126 isIface126 azero126 zfits126 cells127 info127 bytes127 aggT127 isIface127 azero127 zfits127 cells128 info128 bytes128 aggT128 isIface128 azero128 zfits128 cells129 info129 bytes129 aggT129 isIface129 azero129 zfits129 cells130 info130 bytes130 aggT130 isIface130 azero130 zfits130 cells131 info131 bytes131 aggT131 isIface131 azero131 zfits131 cells132 info132 bytes132 aggT132 isIface132 azero132 zfits132 cells133 info133 bytes133 aggT133 isIface133 azero133 zfits133 cells134 info134 bytes134 aggT134 isIface134 azero134 zfits134 build134 cells135 info135 bytes135 aggT135 isIface135 azero135 zfits135 build135 cells136 info136 bytes136 aggT136 isIface136 azero136 zfits136 build136 cells137 info137 bytes137 aggT137 isIface137 azero137 zfits137 build137 cells138 info138 bytes138 aggT138 isIface138 azero138 zfits138 build138 cells139 info139 bytes139 aggT139 isIface139 azero139 zfits139 cells140 info140 bytes140 aggT140 isInt140 isIface140 azero140 zfits140 cells141 info141 bytes141 aggT141 isInt141 isIface141 azero141 zfits141 cells142 info142 bytes142 aggT142 isIface142 azero142 zfits142 cells143 info143 bytes143 aggT143 isIface143 azero143 zfits143 cells144 info144 bytes144 aggT144 isInt144 isIface144 azero144 zfits144 cells145 info145 bytes145 aggT145 isInt145 isIface145 azero145 zfits145 cells146 info146 bytes146 aggT146 isIface146 azero146 zfits146 build146 cells147 info147 bytes147 aggT147 isIface147 azero147 zfits147 build147 cells148 info148 bytes148 aggT148 isIface148 azero148 zfits148 enters0 extR0 enters1 extR1 enters2 enters3 enters4 enters5 enters6 enters7 enters8 enters9 enters10 enters11 enters12 enters13 enters14 enters15 enters16 enters17 enters18 enters19 enters20 enters21 enters22 enters23 enters24 enters25 enters26 enters27 enters28 enters29 enters30 enters31 enters32 enters33 enters34 enters35 enters36 enters37 enters38 enters39 enters40 enters41 enters42 enters43 enters44 enters45 enters46 enters47 enters48 enters49 enters50 enters51 enters52 enters53 enters54 enters55 enters56 enters57 enters58 enters59 enters60 enters61 enters62 enters63 enters64 enters65 enters66 enters67 enters68 enters69 enters70 enters71 enters72 enters73 enters74 enters75 enters76 enters77 enters78 enters79 enters80 enters81 enters82 enters83 enters84 enters85 enters86 enters87 enters88 enters89 extR89 enters90 extR90 enters91 extR91 enters92 extR92 enters93 extR93 enters94 extR94 enters95 extR95 enters96 extR96 enters97 extR97 enters98 extR98 enters99 extR99 enters100 extR100 enters101 extR101 enters102 extR102 enters103 extR103 enters104 extR104 enters105 extR105 enters106 enters107 enters108 enters109 enters110 enters117 keyT3 zeroAV111 zeroAV3
attribute [go_sem] Tryd.underlying1 Tryd.underlying2 Tryd.underlying3 Tryd.underlying4 Tryd.underlying5 Tryd.underlying6 Tryd.underlying7 Tryd.underlying8 Tryd.underlying9 Tryd.underlying10 Tryd.underlying11 Tryd.underlying12 Tryd.underlying13 Tryd.underlying14 Tryd.underlying15 Tryd.underlying16 Tryd.underlying17 Tryd.underlying18 Tryd.underlying19 Tryd.underlying20 Tryd.underlying21 Tryd.underlying22 Tryd.underlying23 Tryd.underlying24 Tryd.underlying25 Tryd.underlying26 Tryd.underlying27 Tryd.underlying28 Tryd.underlying29 Tryd.underlying30 Tryd.underlying31 Tryd.underlying33 Tryd.underlying34 Tryd.underlying35 Tryd.underlying36 Tryd.underlying37 Tryd.underlying38 Tryd.underlying39 Tryd.underlying40 Tryd.underlying41 Tryd.underlying42 Tryd.underlying43 Tryd.underlying44 Tryd.underlying45 Tryd.underlying46 Tryd.underlying47 Tryd.underlying48 Tryd.underlying50 Tryd.underlying51 Tryd.underlying52 Tryd.underlying54 Tryd.underlying55 Tryd.underlying56 Tryd.underlying57 Tryd.underlying59 Tryd.underlying60 Tryd.underlying61 Tryd.underlying62 Tryd.underlying63 Tryd.underlying64 Tryd.underlying65 Tryd.underlying66 Tryd.underlying67 Tryd.underlying68 Tryd.underlying69 Tryd.underlying70 Tryd.underlying72 Tryd.underlying73 Tryd.underlying74 Tryd.underlying75 Tryd.underlying76 Tryd.underlying77 Tryd.underlying78 Tryd.underlying79 Tryd.underlying80 Tryd.underlying81 Tryd.underlying82 Tryd.underlying83 Tryd.underlying84 Tryd.underlying85 Tryd.underlying86 Tryd.underlying87 Tryd.underlying88 Tryd.underlying89 Tryd.underlying90 Tryd.underlying91 Tryd.underlying92 Tryd.underlying93 Tryd.underlying94 Tryd.underlying95 Tryd.underlying96 Tryd.underlying97 Tryd.underlying98 Tryd.underlying99 Tryd.underlying100 Tryd.underlying101 Tryd.underlying102 Tryd.underlying103 Tryd.underlying104 Tryd.underlying105 Tryd.underlying106 Tryd.underlying107 Tryd.underlying108 Tryd.underlying109 Tryd.underlying110 Tryd.underlying111 Tryd.underlying112 Tryd.underlying113 Tryd.underlying114 Tryd.underlying115 Tryd.underlying116 Tryd.underlying117 Tryd.underlying118 Tryd.underlying120 Tryd.underlying121 Tryd.underlying122 Tryd.underlying123 Tryd.underlying124 Tryd.underlying125 Tryd.underlying126 Tryd.underlying127 Tryd.underlying128 Tryd.underlying129 Tryd.underlying130 Tryd.underlying131 Tryd.underlying132 Tryd.underlying133 Tryd.underlying134 Tryd.underlying135 Tryd.underlying136 Tryd.underlying137 Tryd.underlying138 Tryd.underlying139 Tryd.underlying140 Tryd.underlying141 Tryd.underlying142 Tryd.underlying143 Tryd.underlying144 Tryd.underlying145 Tryd.underlying146 Tryd.underlying147 Tryd.underlying148

end Go.Proofs.YtmoecjgehdkhkaaDoor

/-
  The walk of slices.Clone.
-/
namespace Go.Proofs.YtmoecjgehdkhkaaDoor
open Go Go.AL

set_option maxHeartbeats 4000000 in
theorem Clone_spec {G:Globs} (a:List (BitVec 8)) (ha:a.length≤140737488355000) (H:Hp) (R:AV → Hp → Prop) (h:R (.sl H.n 0 1 (pl b8 a)) (H.new (.tail 0))) :
 ACall Tryd.prog G 82 [.p (.sl false 1 (pl b8 a))] H R:=by
 refine ACall.of_run (raw:=[]) Tryd.func82 rfl Tryd.ntmps82 (by simp) fun hbel => ?_
 (repeat refine .z rfl ?_);refine .text ?_;simp (disch:=first|exact dsc|fail) only [go_sem,seval,-List.reduceReplicate]
 repeat refine .z rfl ?_
 refine .region (.one rfl (by simp (disch:=first|exact dsc|fail) only [go_sem,seval,-List.reduceReplicate];rfl) rfl ?_)
 refine .isNil (e:=5) Tryd.underlying28 (xs:=pl b8 a) (fl:=false) (sz:=1) (by simp (disch:=first|exact dsc|fail) only [go_sem,seval,-List.reduceReplicate]) rfl fun b hb => .nil ?_
 cases b with
 | true =>
  have ha0:a=[]:=by have:=hb rfl;cases a with | nil=>rfl | cons x l=>cases this
  subst ha0
  (repeat refine .z rfl ?_);refine .ifT (by simp (disch:=first|exact dsc|fail) only [go_sem,seval,-List.reduceReplicate]) ?_
  (repeat refine .z rfl ?_);refine .text ?_;simp (disch:=first|exact dsc|fail) only [go_sem,seval,-List.reduceReplicate]
  (repeat refine .z rfl ?_);refine .own 2 (by simp (disch:=first|exact dsc|fail) only [go_sem,seval,-List.reduceReplicate];rfl) ?_
  (repeat refine .z rfl ?_);refine .retOwn Tryd.func82 (by rw [Tryd.results82]) (by simp (disch:=first|exact dsc|fail) only [go_sem,seval,-List.reduceReplicate];rfl) (by simp (disch:=first|exact dsc|fail) only [go_sem,seval,-List.reduceReplicate]) (by first | exact Nat.le_refl _ | (dsimp only;omega)) (by (try dsimp only);repeat (first | with_reducible refine bel_new ?_ dsc | with_reducible refine bel_appl ?_ dsc | with_reducible refine bel_set ?_ dsc | with_reducible refine bel_cl ?_ | with_reducible exact hbel | with_reducible exact hbel _)) ?_;simp (disch:=first|exact dsc|fail) only [go_sem,seval,-List.reduceReplicate]
  exact h
 | false =>
  (repeat refine .z rfl ?_);refine .ifF (by simp (disch:=first|exact dsc|fail) only [go_sem,seval,-List.reduceReplicate]) ?_
  (repeat refine .z rfl ?_);refine .text ?_;simp (disch:=first|exact dsc|fail) only [go_sem,seval,-List.reduceReplicate]
  (repeat refine .z rfl ?_);refine .retOwn Tryd.func82 (by rw [Tryd.results82]) (by simp (disch:=first|exact dsc|fail) only [go_sem,seval,-List.reduceReplicate];rfl) (by simp (disch:=first|exact dsc|fail) only [go_sem,seval,-List.reduceReplicate]) (by first | exact Nat.le_refl _ | (dsimp only;omega)) (by (try dsimp only);repeat (first | with_reducible refine bel_new ?_ dsc | with_reducible refine bel_appl ?_ dsc | with_reducible refine bel_set ?_ dsc | with_reducible refine bel_cl ?_ | with_reducible exact hbel | with_reducible exact hbel _)) ?_;simp (disch:=first|exact dsc|fail) only [go_sem,seval,-List.reduceReplicate]
  exact h

end Go.Proofs.YtmoecjgehdkhkaaDoor

/-
  SHA-256's round and schedule as plain functions on words.
-/
namespace Go.Proofs.YtmoecjgehdkhkaaDoor
open Go Go.AL

def rotr (x:BitVec 32) (n:Nat):BitVec 32:=x >>> n ||| x <<< (32 - n)
def sg0 (x:BitVec 32):BitVec 32:=rotr x 7 ^^^ rotr x 18 ^^^ x >>> 3
def sg1 (x:BitVec 32):BitVec 32:=rotr x 17 ^^^ rotr x 19 ^^^ x >>> 10
def bg0 (x:BitVec 32):BitVec 32:=rotr x 2 ^^^ rotr x 13 ^^^ rotr x 22
def bg1 (x:BitVec 32):BitVec 32:=rotr x 6 ^^^ rotr x 11 ^^^ rotr x 25

def word (b:List (BitVec 8)) (i:Nat):BitVec 32:=(nth b (4*i)).setWidth 32*16777216#32+(nth b (4*i+1)).setWidth 32*65536#32+(nth b (4*i+2)).setWidth 32*256#32+(nth b (4*i+3)).setWidth 32

def nextW (b:List (BitVec 8)) (w:List (BitVec 32)) (i:Nat):BitVec 32:=if i < 16 then word b i else nth w (i - 16)+sg0 (nth w (i - 15))+nth w (i - 7)+sg1 (nth w (i - 2))

def sW (b:List (BitVec 8)):Nat → List (BitVec 32)
 | 0=>List.replicate 64 0#32
 | i+1=>(sW b i).set i (nextW b (sW b i) i)

theorem sW_len (b:List (BitVec 8)) (i:Nat):(sW b i).length=64:=by
 induction i with
 | zero=>simp [sW]
 | succ i ih=>simp [sW,ih]

attribute [go_sem] sW_len

def ks:List (BitVec 32):=[
 0x428a2f98#32,0x71374491#32,0xb5c0fbcf#32,0xe9b5dba5#32,0x3956c25b#32,0x59f111f1#32,0x923f82a4#32,0xab1c5ed5#32,
 0xd807aa98#32,0x12835b01#32,0x243185be#32,0x550c7dc3#32,0x72be5d74#32,0x80deb1fe#32,0x9bdc06a7#32,0xc19bf174#32,
 0xe49b69c1#32,0xefbe4786#32,0x0fc19dc6#32,0x240ca1cc#32,0x2de92c6f#32,0x4a7484aa#32,0x5cb0a9dc#32,0x76f988da#32,
 0x983e5152#32,0xa831c66d#32,0xb00327c8#32,0xbf597fc7#32,0xc6e00bf3#32,0xd5a79147#32,0x06ca6351#32,0x14292967#32,
 0x27b70a85#32,0x2e1b2138#32,0x4d2c6dfc#32,0x53380d13#32,0x650a7354#32,0x766a0abb#32,0x81c2c92e#32,0x92722c85#32,
 0xa2bfe8a1#32,0xa81a664b#32,0xc24b8b70#32,0xc76c51a3#32,0xd192e819#32,0xd6990624#32,0xf40e3585#32,0x106aa070#32,
 0x19a4c116#32,0x1e376c08#32,0x2748774c#32,0x34b0bcb5#32,0x391c0cb3#32,0x4ed8aa4a#32,0x5b9cca4f#32,0x682e6ff3#32,
 0x748f82ee#32,0x78a5636f#32,0x84c87814#32,0x8cc70208#32,0x90befffa#32,0xa4506ceb#32,0xbef9a3f7#32,0xc67178f2#32]
def inits:List (BitVec 32):=[0x6a09e667#32,0xbb67ae85#32,0x3c6ef372#32,0xa54ff53a#32,0x510e527f#32,0x9b05688c#32,0x1f83d9ab#32,0x5be0cd19#32]

structure St where
 (a b c d e f g h:BitVec 32)

def rnd (s:St) (k w:BitVec 32):St :=
 let t:=s.h+bg1 s.e+(s.e &&& s.f ^^^ (4294967295#32 - s.e) &&& s.g)+k+w
 let u:=bg0 s.a+(s.a &&& s.b ||| s.a &&& s.c ||| s.b &&& s.c)
 ⟨t+u,s.a,s.b,s.c,s.d+t,s.e,s.f,s.g⟩
def rnds (w:List (BitVec 32)) (s:St):Nat → St
 | 0=>s
 | i+1=>rnd (rnds w s i) (nth ks i) (nth w i)
def st (s:List (BitVec 32)):St:=⟨nth s 0,nth s 1,nth s 2,nth s 3,nth s 4,nth s 5,nth s 6,nth s 7⟩
def fin (s:List (BitVec 32)) (z:St):List (BitVec 32):=[nth s 0+z.a,nth s 1+z.b,nth s 2+z.c,nth s 3+z.d,nth s 4+z.e,nth s 5+z.f,nth s 6+z.g,nth s 7+z.h]
def comp (s:List (BitVec 32)) (b:List (BitVec 8)):List (BitVec 32):=fin s (rnds (sW b 64) (st s) 64)
end Go.Proofs.YtmoecjgehdkhkaaDoor

/-
  The walks of the functions that compute one round: rotations,the tables.
-/
namespace Go.Proofs.YtmoecjgehdkhkaaDoor
open Go Go.AL

theorem rotate_spec {G:Globs} (x:BitVec 32) (n:Nat) (hn:n≤32) (H:Hp) (R:AV → Hp → Prop) (h:R (.p (w32 (rotr x n))) H):ACall Tryd.prog G 75 [.p (w32 x),.p (i64 n)] H R:=by
 refine ACall.of_run (raw:=[]) Tryd.func75 rfl Tryd.ntmps75 (by simp) fun hbel => ?_
 have e:(32 - (n:Int)).toNat=32 - n:=by omega
 (repeat refine .z rfl ?_);refine .text ?_;simp (disch:=first|exact dsc|fail) only [go_sem,seval,-List.reduceReplicate]
 (repeat refine .z rfl ?_);refine .open [] follows (by kernel_rfl) ?_;simp (disch:=first|exact dsc|fail) only [go_sem,seval,-List.reduceReplicate,e]
 (repeat refine .z rfl ?_);refine .rt Tryd.func75 (by rw [Tryd.results75]) (hR := ?_);simp (disch:=first|exact dsc|fail) only [go_sem,seval,-List.reduceReplicate]
 exact h

theorem RotateLeft32_spec {G:Globs} (x:BitVec 32) (n:Int) (m:Nat) (hm:BitVec.ofInt 64 n &&& 31#64=BitVec.ofNat 64 m) (h1:m≤32) (H:Hp) (R:AV → Hp → Prop) (h:R (.p (w32 (rotr x (32 - m)))) H):ACall Tryd.prog G 84 [.p (w32 x),.p (i64 n)] H R:=by
 have e1:(BitVec.ofNat 64 m).toNat=m:=by simp;omega
 have e2:(32#64 - BitVec.ofNat 64 m).toNat=32 - m:=by simp;omega
 refine ACall.of_run (raw:=[]) Tryd.func84 rfl Tryd.ntmps84 (by simp) fun hbel => ?_
 (repeat refine .z rfl ?_);refine .text ?_;simp (disch:=first|exact dsc|fail) only [go_sem,seval,-List.reduceReplicate]
 (repeat refine .z rfl ?_);refine .text ?_;simp (disch:=first|exact dsc|fail) only [go_sem,seval,-List.reduceReplicate]
 (repeat refine .z rfl ?_);refine .text ?_;simp (disch:=first|exact dsc|fail) only [go_sem,seval,-List.reduceReplicate,hm,e1,e2]
 (repeat refine .z rfl ?_);refine .rt Tryd.func84 (by rw [Tryd.results84]) (hR := ?_);simp (disch:=first|exact dsc|fail) only [go_sem,seval,-List.reduceReplicate]
 have e:x <<< m ||| x >>> (32 - m)=rotr x (32 - m):=by
  unfold rotr
  rw [show 32 - (32 - m)=m by omega,BitVec.or_comm]
 rw [e]
 exact h

end Go.Proofs.YtmoecjgehdkhkaaDoor

/-
  The walk of the reference's schedule.
-/
namespace Go.Proofs.YtmoecjgehdkhkaaDoor
open Go Go.AL

set_option maxHeartbeats 4000000 in
theorem schedR_spec {G:Globs} (b:List (BitVec 8)) (hb:b.length=64) (H:Hp) (R:AV → Hp → Prop) (h:R (.p (.agg (pl w32 (sW b 64)))) H):ACall Tryd.prog G 73 [.p (.sl false 1 (pl b8 b))] H R:=by
 refine ACall.of_run (raw:=[]) Tryd.func73 rfl Tryd.ntmps73 (by simp) fun hbel => ?_
 (repeat refine .z rfl ?_);refine .text ?_;simp (disch:=first|exact dsc|fail) only [go_sem,seval,-List.reduceReplicate]
 (repeat refine .z rfl ?_);refine .text ?_;simp (disch:=first|exact dsc|fail) only [go_sem,seval,-List.reduceReplicate]
 (repeat refine .z rfl ?_);refine .text ?_;simp (disch:=first|exact dsc|fail) only [go_sem,seval,-List.reduceReplicate]
 repeat refine .z rfl ?_
 refine .count (fun i env H'=>env 0 = .p (.sl false 1 (pl b8 b))∧env 2 = .ptr H.n 0∧env 3 = .ptr (H.n+1) 0∧env 4 = .p (i64 i)∧H'=(H.new (.cells (cl w32 (List.replicate 64 0#32)))).new (.cells (cl w32 (sW b i)))) 0 64 (by omega) ?_ ?_ ?_
 · simp (disch:=first|exact dsc|fail) only [go_sem,seval,-List.reduceReplicate]
   rw [sW]
 · intro env H' ⟨e0,e2,e3,e4,eH⟩
   subst eH
   (repeat refine .z rfl ?_);refine .text ?_;simp (disch:=first|exact dsc|fail) only [go_sem,seval,-List.reduceReplicate,e0,e2,e3,e4]
   (repeat refine .z rfl ?_);refine .ifF (by simp (disch:=first|exact dsc|fail) only [go_sem,seval,-List.reduceReplicate]) ?_
   (repeat refine .z rfl ?_);refine .text ?_;simp (disch:=first|exact dsc|fail) only [go_sem,seval,-List.reduceReplicate,e0,e2,e3,e4]
   (repeat refine .z rfl ?_);refine .rt Tryd.func73 (by rw [Tryd.results73]) (hx:=by simp (disch:=first|exact dsc|fail) only [go_sem,seval,-List.reduceReplicate,e0,e2,e3,e4];rfl) (hR := ?_);simp (disch:=first|exact dsc|fail) only [go_sem,seval,-List.reduceReplicate,e0,e2,e3,e4]
   exact h
 · intro i env H' _ hi ⟨e0,e2,e3,e4,eH⟩ ih
   subst eH
   (repeat refine .z rfl ?_);refine .text ?_;simp (disch:=first|exact dsc|fail) only [go_sem,seval,-List.reduceReplicate,e0,e2,e3,e4]
   (repeat refine .z rfl ?_);refine .ifT (by simp (disch:=first|exact dsc|fail) only [go_sem,seval,-List.reduceReplicate]) ?_
   (repeat refine .z rfl ?_);refine .text ?_;simp (disch:=first|exact dsc|fail) only [go_sem,seval,-List.reduceReplicate,e0,e2,e3,e4]
   by_cases hi16:i < 16
   · (repeat refine .z rfl ?_);refine .ifT (by simp (disch:=first|exact dsc|fail) only [go_sem,seval,-List.reduceReplicate]) ?_
     (repeat refine .z rfl ?_);refine .open [35] follows (by kernel_rfl) ?_;simp (disch:=first|exact dsc|fail) only [go_sem,seval,-List.reduceReplicate,e0,e2,e3,e4]
     (repeat refine .z rfl ?_);refine .text ?_;simp (disch:=first|exact dsc|fail) only [go_sem,seval,-List.reduceReplicate,e0,e2,e3,e4]
     refine ih _ _ ?_
     simp (disch:=first|exact dsc|fail) only [go_sem,seval,-List.reduceReplicate,e0,e2,e3,e4]
     simp only [sW,nextW,if_pos hi16,word]
   · (repeat refine .z rfl ?_);refine .ifF (by simp (disch:=first|exact dsc|fail) only [go_sem,seval,-List.reduceReplicate]) ?_
     (repeat refine .z rfl ?_);refine .open [] follows (by kernel_rfl) ?_;simp (disch:=first|exact dsc|fail) only [go_sem,seval,-List.reduceReplicate,e0,e2,e3,e4]
     (repeat refine .z rfl ?_);refine .open [29] follows (by kernel_rfl) ?_;simp (disch:=first|exact dsc|fail) only [go_sem,seval,-List.reduceReplicate,e0,e2,e3,e4]
     refine CallD.still (fun R h=>rotate_spec _ 7 (by omega) _ R h) ?_;simp (disch:=first|exact dsc|fail) only [go_sem,seval,-List.reduceReplicate,e0,e2,e3,e4]
     refine CallD.still (fun R h=>rotate_spec _ 18 (by omega) _ R h) ?_;simp (disch:=first|exact dsc|fail) only [go_sem,seval,-List.reduceReplicate,e0,e2,e3,e4]
     refine CallD.still (fun R h=>rotate_spec _ 17 (by omega) _ R h) ?_;simp (disch:=first|exact dsc|fail) only [go_sem,seval,-List.reduceReplicate,e0,e2,e3,e4]
     refine CallD.still (fun R h=>rotate_spec _ 19 (by omega) _ R h) ?_;simp (disch:=first|exact dsc|fail) only [go_sem,seval,-List.reduceReplicate,e0,e2,e3,e4]
     (repeat refine .z rfl ?_);refine .text ?_;simp (disch:=first|exact dsc|fail) only [go_sem,seval,-List.reduceReplicate,e0,e2,e3,e4]
     refine ih _ _ ?_
     simp (disch:=first|exact dsc|fail) only [go_sem,seval,-List.reduceReplicate,e0,e2,e3,e4]
     simp only [sW,nextW,if_neg hi16,sg0,sg1]

end Go.Proofs.YtmoecjgehdkhkaaDoor

/-
  The walks of the reference's tables and of its compression of one block.
-/
namespace Go.Proofs.YtmoecjgehdkhkaaDoor
open Go Go.AL

set_option maxHeartbeats 4000000 in
theorem constants_spec {G:Globs} (H:Hp) (R:AV → Hp → Prop) (h:R (.p (.agg (pl w32 ks))) H):ACall Tryd.prog G 74 [] H R:=by
 refine ACall.of_run (raw:=[]) Tryd.func74 rfl Tryd.ntmps74 (by simp) fun hbel => ?_
 (repeat refine .z rfl ?_);refine .text ?_;simp (disch:=first|exact dsc|fail) only [go_sem,seval,-List.reduceReplicate]
 (repeat refine .z rfl ?_);refine .text ?_;simp (disch:=first|exact dsc|fail) only [go_sem,seval,-List.reduceReplicate,fillA]
 (repeat refine .z rfl ?_);refine .rt Tryd.func74 (by rw [Tryd.results74]) (hR := ?_);simp (disch:=first|exact dsc|fail) only [go_sem,seval,-List.reduceReplicate]
 exact h

set_option maxHeartbeats 4000000 in
theorem Initial_spec {G:Globs} (H:Hp) (R:AV → Hp → Prop) (h:R (.p (.agg (pl w32 inits))) H):ACall Tryd.prog G 55 [] H R:=by
 refine ACall.of_run (raw:=[]) Tryd.func55 rfl Tryd.ntmps55 (by simp) fun hbel => ?_
 (repeat refine .z rfl ?_);refine .text ?_;simp (disch:=first|exact dsc|fail) only [go_sem,seval,-List.reduceReplicate]
 (repeat refine .z rfl ?_);refine .text ?_;simp (disch:=first|exact dsc|fail) only [go_sem,seval,-List.reduceReplicate,fillA]
 (repeat refine .z rfl ?_);refine .rt Tryd.func55 (by rw [Tryd.results55]) (hR := ?_);simp (disch:=first|exact dsc|fail) only [go_sem,seval,-List.reduceReplicate]
 exact h

set_option maxHeartbeats 8000000 in
theorem Compress_spec {G:Globs} (s:List (BitVec 32)) (b:List (BitVec 8)) (hs:s.length=8) (hb:b.length=64) (H:Hp) (R:AV → Hp → Prop) (h:R (.p (.agg (pl w32 (comp s b)))) H) :
 ACall Tryd.prog G 57 [.p (.agg (pl w32 s)),.p (.sl false 1 (pl b8 b))] H R:=by
 refine ACall.of_run (raw:=[]) Tryd.func57 rfl Tryd.ntmps57 (by simp) fun hbel => ?_
 have hk:ks.length=64:=rfl
 have hw:(sW b 64).length=64:=sW_len _ _
 generalize hW:sW b 64=W at hw
 (repeat refine .z rfl ?_);refine .text ?_;simp (disch:=first|exact dsc|fail) only [go_sem,seval,-List.reduceReplicate]
 (repeat refine .z rfl ?_);refine .text ?_;simp (disch:=first|exact dsc|fail) only [go_sem,seval,-List.reduceReplicate]
 refine CallK.of (fun R h=>schedR_spec b hb _ R h) ?_;simp (disch:=first|exact dsc|fail) only [go_sem,seval,-List.reduceReplicate]
 refine CallK.of (fun R h=>constants_spec _ R h) ?_;simp (disch:=first|exact dsc|fail) only [go_sem,seval,-List.reduceReplicate,hW]
 (repeat refine .z rfl ?_);refine .open [] follows (by kernel_rfl) ?_;simp (disch:=first|exact dsc|fail) only [go_sem,seval,-List.reduceReplicate]
 (repeat refine .z rfl ?_);refine .open [] follows (by kernel_rfl) ?_;simp (disch:=first|exact dsc|fail) only [go_sem,seval,-List.reduceReplicate]
 (repeat refine .z rfl ?_);refine .text ?_;simp (disch:=first|exact dsc|fail) only [go_sem,seval,-List.reduceReplicate]
 repeat refine .z rfl ?_
 refine .count (fun i env H'=>env 4 = .ptr (H.n+1) 0∧env 2 = .ptr H.n 0∧env 5 = .ptr (H.n+2) 0∧env 6 = .ptr (H.n+3) 0∧env 15 = .p (i64 i) ∧
  env 7 = .p (w32 (rnds W (st s) i).a)∧env 8 = .p (w32 (rnds W (st s) i).b)∧env 9 = .p (w32 (rnds W (st s) i).c)∧env 10 = .p (w32 (rnds W (st s) i).d) ∧
  env 11 = .p (w32 (rnds W (st s) i).e)∧env 12 = .p (w32 (rnds W (st s) i).f)∧env 13 = .p (w32 (rnds W (st s) i).g)∧env 14 = .p (w32 (rnds W (st s) i).h) ∧
  H'=(((H.new (.cells (cl w32 s))).new (.cells (cl w32 (List.replicate 8 0#32)))).new (.cells (cl w32 W))).new (.cells (cl w32 ks))) 0 64 (by omega) ?_ ?_ ?_
 · simp (disch:=first|exact dsc|fail) only [go_sem,seval,-List.reduceReplicate]
   simp only [rnds,st,and_self]
 · intro env H' ⟨e4,e2,e5,e6,e15,e7,e8,e9,e10,e11,e12,e13,e14,eH⟩
   subst eH
   (repeat refine .z rfl ?_);refine .text ?_;simp (disch:=first|exact dsc|fail) only [go_sem,seval,-List.reduceReplicate,e15]
   (repeat refine .z rfl ?_);refine .ifF (by simp (disch:=first|exact dsc|fail) only [go_sem,seval,-List.reduceReplicate]) ?_
   (repeat refine .z rfl ?_);refine .text ?_;simp (disch:=first|exact dsc|fail) only [go_sem,seval,-List.reduceReplicate,e2,e4,e7,e8,e9,e10,e11,e12,e13,e14,fillA]
   (repeat refine .z rfl ?_);refine .rt Tryd.func57 (by rw [Tryd.results57]) (hx:=by simp (disch:=first|exact dsc|fail) only [go_sem,seval,-List.reduceReplicate,e4];rfl) (hR := ?_);simp (disch:=first|exact dsc|fail) only [go_sem,seval,-List.reduceReplicate,e4]
   unfold comp fin at h
   rw [hW] at h
   exact h
 · intro i env H' _ hi ⟨e4,e2,e5,e6,e15,e7,e8,e9,e10,e11,e12,e13,e14,eH⟩ ih
   subst eH
   (repeat refine .z rfl ?_);refine .text ?_;simp (disch:=first|exact dsc|fail) only [go_sem,seval,-List.reduceReplicate,e15]
   (repeat refine .z rfl ?_);refine .ifT (by simp (disch:=first|exact dsc|fail) only [go_sem,seval,-List.reduceReplicate]) ?_
   (repeat refine .z rfl ?_);refine .open [] follows (by kernel_rfl) ?_;simp (disch:=first|exact dsc|fail) only [go_sem,seval,-List.reduceReplicate,e2,e4,e5,e6,e7,e8,e9,e10,e11,e12,e13,e14,e15]
   refine CallD.still (fun R h=>rotate_spec _ 6 (by omega) _ R h) ?_;simp (disch:=first|exact dsc|fail) only [go_sem,seval,-List.reduceReplicate,e2,e4,e5,e6,e7,e8,e9,e10,e11,e12,e13,e14,e15]
   refine CallD.still (fun R h=>rotate_spec _ 11 (by omega) _ R h) ?_;simp (disch:=first|exact dsc|fail) only [go_sem,seval,-List.reduceReplicate,e2,e4,e5,e6,e7,e8,e9,e10,e11,e12,e13,e14,e15]
   refine CallD.still (fun R h=>rotate_spec _ 25 (by omega) _ R h) ?_;simp (disch:=first|exact dsc|fail) only [go_sem,seval,-List.reduceReplicate,e2,e4,e5,e6,e7,e8,e9,e10,e11,e12,e13,e14,e15]
   (repeat refine .z rfl ?_);refine .text ?_;simp (disch:=first|exact dsc|fail) only [go_sem,seval,-List.reduceReplicate,e2,e4,e5,e6,e7,e8,e9,e10,e11,e12,e13,e14,e15]
   refine CallK.of (fun R h=>rotate_spec _ 2 (by omega) _ R h) ?_;simp (disch:=first|exact dsc|fail) only [go_sem,seval,-List.reduceReplicate,e2,e4,e5,e6,e7,e8,e9,e10,e11,e12,e13,e14,e15]
   refine CallK.of (fun R h=>rotate_spec _ 13 (by omega) _ R h) ?_;simp (disch:=first|exact dsc|fail) only [go_sem,seval,-List.reduceReplicate,e2,e4,e5,e6,e7,e8,e9,e10,e11,e12,e13,e14,e15]
   refine CallK.of (fun R h=>rotate_spec _ 22 (by omega) _ R h) ?_;simp (disch:=first|exact dsc|fail) only [go_sem,seval,-List.reduceReplicate,e2,e4,e5,e6,e7,e8,e9,e10,e11,e12,e13,e14,e15]
   (repeat refine .z rfl ?_);refine .text ?_;simp (disch:=first|exact dsc|fail) only [go_sem,seval,-List.reduceReplicate,e13]
   (repeat refine .z rfl ?_);refine .text ?_;simp (disch:=first|exact dsc|fail) only [go_sem,seval,-List.reduceReplicate,e12]
   (repeat refine .z rfl ?_);refine .text ?_;simp (disch:=first|exact dsc|fail) only [go_sem,seval,-List.reduceReplicate,e11]
   (repeat refine .z rfl ?_);refine .text ?_;simp (disch:=first|exact dsc|fail) only [go_sem,seval,-List.reduceReplicate,e10]
   (repeat refine .z rfl ?_);refine .text ?_;simp (disch:=first|exact dsc|fail) only [go_sem,seval,-List.reduceReplicate,e9]
   (repeat refine .z rfl ?_);refine .text ?_;simp (disch:=first|exact dsc|fail) only [go_sem,seval,-List.reduceReplicate,e8]
   (repeat refine .z rfl ?_);refine .text ?_;simp (disch:=first|exact dsc|fail) only [go_sem,seval,-List.reduceReplicate,e7]
   (repeat refine .z rfl ?_);refine .text ?_;simp (disch:=first|exact dsc|fail) only [go_sem,seval,-List.reduceReplicate,e7]
   (repeat refine .z rfl ?_);refine .text ?_;simp (disch:=first|exact dsc|fail) only [go_sem,seval,-List.reduceReplicate,e15]
   refine ih _ _ ?_
   simp (disch:=first|exact dsc|fail) only [go_sem,seval,-List.reduceReplicate,e2,e4,e5,e6,e7,e8,e9,e10,e11,e12,e13,e14,e15]
   simp only [rnds,rnd,bg0,bg1,and_self]

end Go.Proofs.YtmoecjgehdkhkaaDoor

/-
  The plain laws of the words: how a word is put together of four bytes;choice and majority.
-/
namespace Go.Proofs.YtmoecjgehdkhkaaDoor
open Go Go.AL

theorem shl8_or (x:BitVec 32) (y:BitVec 8):x <<< 8 ||| y.setWidth 32=x*256#32+y.setWidth 32:=by
 have e:x*256#32=x <<< 8:=by
  rw [BitVec.shiftLeft_eq_mul_twoPow];rfl
 rw [e]
 symm
 apply BitVec.add_eq_or_of_and_eq_zero
 ext i hi
 simp only [BitVec.getElem_and,BitVec.getElem_shiftLeft,BitVec.getElem_setWidth,BitVec.getElem_zero]
 by_cases h:i < 8
 · simp [h]
 · simp [h,BitVec.getLsbD_of_ge y i (by omega)]

def part (b:List (BitVec 8)) (i:Nat):Nat → BitVec 32
 | 0=>0#32
 | j+1=>part b i j <<< 8 ||| (nth b (4*i+j)).setWidth 32

theorem part_word (b:List (BitVec 8)) (i:Nat):part b i 4=word b i:=by
 simp only [part,shl8_or,word,BitVec.add_mul,BitVec.mul_assoc,Nat.add_zero,BitVec.zero_mul,BitVec.zero_add]
 rfl

theorem sW_zero (b:List (BitVec 8)) : ∀ (i j:Nat),i≤j → j < 64 → nth (sW b i) j=0#32
 | 0,j,_,hj=>nth_replicate hj
 | i+1,j,h,hj=>by rw [sW,nth_set_ne (by omega)];exact sW_zero b i j (by omega) hj

theorem set_nth {α:Type} [Inhabited α] {l:List α} {i:Nat} (h:i < l.length):l.set i (nth l i)=l:=by
 refine nth_ext (by simp) fun j hj => ?_
 by_cases e:i=j
 · subst e;rw [nth_set_eq rfl h]
 · rw [nth_set_ne e]

theorem sW_part0 (b:List (BitVec 8)) (i:Nat) (h:i < 64):(sW b i).set i (part b i 0)=sW b i:=by
 have:=set_nth (l:=sW b i) (i:=i) (by rw [sW_len];exact h)
 rwa [sW_zero b i i (Nat.le_refl _) h] at this

theorem sW_part4 (b:List (BitVec 8)) (i:Nat) (h:i < 16):(sW b i).set i (part b i 4)=sW b (i+1):=by
 rw [part_word,sW,nextW,if_pos h]

theorem not_sub (e:BitVec 32) : ~~~e=4294967295#32 - e:=by
 rw [show (4294967295#32:BitVec 32)=BitVec.allOnes 32 from rfl,BitVec.allOnes_sub_eq_not]
theorem maj_or (a b c:BitVec 32):a &&& b ^^^ a &&& c ^^^ b &&& c=a &&& b ||| a &&& c ||| b &&& c:=by
 ext i hi
 simp only [BitVec.getElem_and,BitVec.getElem_xor,BitVec.getElem_or]
 cases a[i]<;>cases b[i]<;>cases c[i]<;>rfl
end Go.Proofs.YtmoecjgehdkhkaaDoor

/-
  The walks of the package's schedule and of its compression of one block.
-/
namespace Go.Proofs.YtmoecjgehdkhkaaDoor
open Go Go.AL

set_option maxHeartbeats 8000000 in
theorem schedule_spec {G:Globs} (b:List (BitVec 8)) (hb:b.length=64) (H:Hp) (R:AV → Hp → Prop) (h:R (.p (.agg (pl w32 (sW b 64)))) H):ACall Tryd.prog G 83 [.p (.sl false 1 (pl b8 b))] H R:=by
 refine ACall.of_run (raw:=[]) Tryd.func83 rfl Tryd.ntmps83 (by simp) fun hbel => ?_
 (repeat refine .z rfl ?_);refine .text ?_;simp (disch:=first|exact dsc|fail) only [go_sem,seval,-List.reduceReplicate]
 (repeat refine .z rfl ?_);refine .text ?_;simp (disch:=first|exact dsc|fail) only [go_sem,seval,-List.reduceReplicate]
 (repeat refine .z rfl ?_);refine .text ?_;simp (disch:=first|exact dsc|fail) only [go_sem,seval,-List.reduceReplicate]
 repeat refine .z rfl ?_
 refine .count (fun i env H'=>env 0 = .p (.sl false 1 (pl b8 b))∧env 2 = .ptr H.n 0∧env 3 = .ptr (H.n+1) 0∧env 12 = .p (i64 i)∧H'=(H.new (.cells (cl w32 (List.replicate 64 0#32)))).new (.cells (cl w32 (sW b i)))) 0 16 (by omega) ?_ ?_ ?_
 · simp (disch:=first|exact dsc|fail) only [go_sem,seval,-List.reduceReplicate]
   rw [sW]
 · intro env H' ⟨e0,e2,e3,e12,eH⟩
   subst eH
   (repeat refine .z rfl ?_);refine .text ?_;simp (disch:=first|exact dsc|fail) only [go_sem,seval,-List.reduceReplicate,e12]
   (repeat refine .z rfl ?_);refine .ifF (by simp (disch:=first|exact dsc|fail) only [go_sem,seval,-List.reduceReplicate]) ?_
   (repeat refine .z rfl ?_);refine .text ?_;simp (disch:=first|exact dsc|fail) only [go_sem,seval,-List.reduceReplicate,e12]
   repeat refine .z rfl ?_
   refine .count (fun i env H'=>env 2 = .ptr H.n 0∧env 3 = .ptr (H.n+1) 0∧env 7 = .p (i64 i)∧H'=(H.new (.cells (cl w32 (List.replicate 64 0#32)))).new (.cells (cl w32 (sW b i)))) 16 64 (by omega) ?_ ?_ ?_
   · simp (disch:=first|exact dsc|fail) only [go_sem,seval,-List.reduceReplicate,e2,e3]
   · intro env H' ⟨e2,e3,e7,eH⟩
     subst eH
     (repeat refine .z rfl ?_);refine .text ?_;simp (disch:=first|exact dsc|fail) only [go_sem,seval,-List.reduceReplicate,e7]
     (repeat refine .z rfl ?_);refine .ifF (by simp (disch:=first|exact dsc|fail) only [go_sem,seval,-List.reduceReplicate]) ?_
     (repeat refine .z rfl ?_);refine .text ?_;simp (disch:=first|exact dsc|fail) only [go_sem,seval,-List.reduceReplicate,e3,e2]
     (repeat refine .z rfl ?_);refine .rt Tryd.func83 (by rw [Tryd.results83]) (hx:=by simp (disch:=first|exact dsc|fail) only [go_sem,seval,-List.reduceReplicate,e2];rfl) (hR := ?_);simp (disch:=first|exact dsc|fail) only [go_sem,seval,-List.reduceReplicate,e2]
     exact h
   · intro i env H' hi0 hi ⟨e2,e3,e7,eH⟩ ih
     subst eH
     (repeat refine .z rfl ?_);refine .text ?_;simp (disch:=first|exact dsc|fail) only [go_sem,seval,-List.reduceReplicate,e7]
     (repeat refine .z rfl ?_);refine .ifT (by simp (disch:=first|exact dsc|fail) only [go_sem,seval,-List.reduceReplicate]) ?_
     (repeat refine .z rfl ?_);refine .open [] follows (by kernel_rfl) ?_;simp (disch:=first|exact dsc|fail) only [go_sem,seval,-List.reduceReplicate,e7,e3,e2]
     (repeat refine .z rfl ?_);refine .text ?_;simp (disch:=first|exact dsc|fail) only [go_sem,seval,-List.reduceReplicate,e7,e3,e2]
     refine CallK.of (fun R h=>RotateLeft32_spec _ (-7) 25 (by decide) (by omega) _ R h) ?_;simp (disch:=first|exact dsc|fail) only [go_sem,seval,-List.reduceReplicate,e7,e3,e2]
     refine CallK.of (fun R h=>RotateLeft32_spec _ (-18) 14 (by decide) (by omega) _ R h) ?_;simp (disch:=first|exact dsc|fail) only [go_sem,seval,-List.reduceReplicate,e7,e3,e2]
     (repeat refine .z rfl ?_);refine .text ?_;simp (disch:=first|exact dsc|fail) only [go_sem,seval,-List.reduceReplicate,e7,e3,e2]
     refine CallK.of (fun R h=>RotateLeft32_spec _ (-17) 15 (by decide) (by omega) _ R h) ?_;simp (disch:=first|exact dsc|fail) only [go_sem,seval,-List.reduceReplicate,e7,e3,e2]
     refine CallK.of (fun R h=>RotateLeft32_spec _ (-19) 13 (by decide) (by omega) _ R h) ?_;simp (disch:=first|exact dsc|fail) only [go_sem,seval,-List.reduceReplicate,e7,e3,e2]
     (repeat refine .z rfl ?_);refine .open [15] follows (by kernel_rfl) ?_;simp (disch:=first|exact dsc|fail) only [go_sem,seval,-List.reduceReplicate,e7,e3,e2]
     (repeat refine .z rfl ?_);refine .text ?_;simp (disch:=first|exact dsc|fail) only [go_sem,seval,-List.reduceReplicate,e7,e3,e2]
     refine ih _ _ ?_
     simp (disch:=first|exact dsc|fail) only [go_sem,seval,-List.reduceReplicate,e2,e3,e7]
     have hi16 : ¬i < 16:=by omega
     simp only [sW,nextW,if_neg hi16,sg0,sg1]
 · intro i env H' _ hi ⟨e0,e2,e3,e12,eH⟩ ih
   subst eH
   (repeat refine .z rfl ?_);refine .text ?_;simp (disch:=first|exact dsc|fail) only [go_sem,seval,-List.reduceReplicate,e12]
   (repeat refine .z rfl ?_);refine .ifT (by simp (disch:=first|exact dsc|fail) only [go_sem,seval,-List.reduceReplicate]) ?_
   (repeat refine .z rfl ?_);refine .text ?_;simp (disch:=first|exact dsc|fail) only [go_sem,seval,-List.reduceReplicate,e12]
   (repeat refine .z rfl ?_);refine .text ?_;simp (disch:=first|exact dsc|fail) only [go_sem,seval,-List.reduceReplicate,e0,e12]
   repeat refine .z rfl ?_
   refine .count (fun j env H'=>env 0 = .p (.sl false 1 (pl b8 b))∧env 2 = .ptr H.n 0∧env 3 = .ptr (H.n+1) 0∧env 4 = .p (i64 i)∧env 12 = .p (i64 i)∧env 21 = .p (.sl false 1 (pl b8 ((b.take (4*i+4)).drop (4*i))))∧env 22 = .p (i64 4)∧env 23 = .p (i64 j) ∧
    H'=(H.new (.cells (cl w32 (List.replicate 64 0#32)))).new (.cells (cl w32 ((sW b i).set i (part b i j))))) 0 4 (by omega) ?_ ?_ ?_
   · simp (disch:=first|exact dsc|fail) only [go_sem,seval,-List.reduceReplicate,e0,e2,e3,e12]
     rw [sW_part0 b i (by omega)]
   · intro env H' ⟨e0,e2,e3,e4,e12,e21,e22,e23,eH⟩
     subst eH
     (repeat refine .z rfl ?_);refine .text ?_;simp (disch:=first|exact dsc|fail) only [go_sem,seval,-List.reduceReplicate,e22,e23]
     (repeat refine .z rfl ?_);refine .ifF (by simp (disch:=first|exact dsc|fail) only [go_sem,seval,-List.reduceReplicate]) ?_
     (repeat refine .z rfl ?_);refine .text ?_;simp (disch:=first|exact dsc|fail) only [go_sem,seval,-List.reduceReplicate,e12]
     refine ih _ _ ?_
     simp (disch:=first|exact dsc|fail) only [go_sem,seval,-List.reduceReplicate,e0,e2,e3,e12]
     rw [sW_part4 b i hi]
   · intro j env H' _ hj ⟨e0,e2,e3,e4,e12,e21,e22,e23,eH⟩ ih2
     subst eH
     (repeat refine .z rfl ?_);refine .text ?_;simp (disch:=first|exact dsc|fail) only [go_sem,seval,-List.reduceReplicate,e22,e23]
     (repeat refine .z rfl ?_);refine .ifT (by simp (disch:=first|exact dsc|fail) only [go_sem,seval,-List.reduceReplicate]) ?_
     (repeat refine .z rfl ?_);refine .text ?_;simp (disch:=first|exact dsc|fail) only [go_sem,seval,-List.reduceReplicate,e21,e23]
     (repeat refine .z rfl ?_);refine .text ?_;simp (disch:=first|exact dsc|fail) only [go_sem,seval,-List.reduceReplicate,e3,e4]
     (repeat refine .z rfl ?_);refine .text ?_;simp (disch:=first|exact dsc|fail) only [go_sem,seval,-List.reduceReplicate,e23]
     refine ih2 _ _ ?_
     simp (disch:=first|exact dsc|fail) only [go_sem,seval,-List.reduceReplicate,e0,e2,e3,e4,e12,e21,e22,e23]
     rw [List.set_set,nth_set_eq rfl (by rw [sW_len];omega),nth_drop,nth_take (by omega),part]

def row (z:St):List (BitVec 32):=[z.a,z.b,z.c,z.d,z.e,z.f,z.g,z.h]
theorem row_len (z:St):(row z).length=8:=rfl
def rndA (s:St) (k w:BitVec 32):St :=
 let t:=s.h+bg1 s.e+(s.e &&& s.f ^^^ (4294967295#32 - s.e) &&& s.g)+k+w
 ⟨t+bg0 s.a+(s.a &&& s.b ||| s.a &&& s.c ||| s.b &&& s.c),s.a,s.b,s.c,s.d+t,s.e,s.f,s.g⟩
theorem rnd_assoc (s:St) (k w:BitVec 32):rnd s k w=rndA s k w:=by
 unfold rnd rndA
 simp only [BitVec.add_assoc]
def addRow (r s:List (BitVec 32)):Nat → List (BitVec 32)
 | 0=>s
 | i+1=>(addRow r s i).set i (nth (addRow r s i) i+nth r i)
theorem addRow_len (r s:List (BitVec 32)) (i:Nat):(addRow r s i).length=s.length:=by
 induction i with
 | zero=>rfl
 | succ i ih=>simp [addRow,ih]
attribute [go_sem] row_len addRow_len
theorem row8 (s:List (BitVec 32)) (h:s.length=8):s=[nth s 0,nth s 1,nth s 2,nth s 3,nth s 4,nth s 5,nth s 6,nth s 7]:=by
 rcases s with _ | ⟨a0,_ | ⟨a1,_ | ⟨a2,_ | ⟨a3,_ | ⟨a4,_ | ⟨a5,_ | ⟨a6,_ | ⟨a7,_ | ⟨a8,l⟩⟩⟩⟩⟩⟩⟩⟩⟩<;>simp at h
 rfl
theorem addRow8 (z:St) (s:List (BitVec 32)) (h:s.length=8):addRow (row z) s 8=fin s z:=by
 rw [row8 s h]
 rfl

set_option maxHeartbeats 16000000 in
theorem compress_spec {G:Globs} (hG:G 3=some (64,[.agg (pl w32 ks)])) (s:List (BitVec 32)) (b:List (BitVec 8)) (hs:s.length=8) (hb:b.length=64) (H:Hp) (p:Nat) (hp:H.f p=some (.cells (cl w32 s))) (hpn:p < H.n) (R:AV → Hp → Prop)
 (h:R (.tup []) (H.set p (.cells (cl w32 (comp s b))))) :
 ACall Tryd.prog G 69 [.ptr p 0,.p (.sl false 1 (pl b8 b))] H R:=by
 refine ACall.of_run (raw:=[]) Tryd.func69 rfl Tryd.ntmps69 (by simp) fun hbel => ?_
 have hk:ks.length=64:=rfl
 have hw:(sW b 64).length=64:=sW_len _ _
 generalize hW:sW b 64=W at hw
 (repeat refine .z rfl ?_);refine .text ?_;simp (disch:=first|exact dsc|fail) only [go_sem,seval,-List.reduceReplicate]
 refine CallK.of (fun R h=>schedule_spec b hb _ R h) ?_;simp (disch:=first|exact dsc|fail) only [go_sem,seval,-List.reduceReplicate,hW]
 (repeat refine .z rfl ?_);refine .text ?_;simp (disch:=first|exact dsc|fail) only [go_sem,seval,-List.reduceReplicate,hp]
 (repeat refine .z rfl ?_);refine .text ?_;simp (disch:=first|exact dsc|fail) only [go_sem,seval,-List.reduceReplicate]
 repeat refine .z rfl ?_
 refine .count (fun i env H'=>env 0 = .ptr p 0∧env 4 = .ptr H.n 0∧env 5 = .ptr (H.n+1) 0∧env 21 = .p (i64 i)∧H'=(H.new (.cells (cl w32 W))).new (.cells (cl w32 (row (rnds W (st s) i))))) 0 64 (by omega) ?_ ?_ ?_
 · simp (disch:=first|exact dsc|fail) only [go_sem,seval,-List.reduceReplicate]
   simp only [row,rnds,st]
   rw [←row8 s hs]
 · intro env H' ⟨e0,e4,e5,e21,eH⟩
   subst eH
   (repeat refine .z rfl ?_);refine .text ?_;simp (disch:=first|exact dsc|fail) only [go_sem,seval,-List.reduceReplicate,e21]
   (repeat refine .z rfl ?_);refine .ifF (by simp (disch:=first|exact dsc|fail) only [go_sem,seval,-List.reduceReplicate]) ?_
   (repeat refine .z rfl ?_);refine .text ?_;simp (disch:=first|exact dsc|fail) only [go_sem,seval,-List.reduceReplicate,e5,e0]
   generalize hz:rnds W (st s) 64=z
   repeat refine .z rfl ?_
   refine .count (fun i env H'=>env 0 = .ptr p 0∧env 98 = .p (.agg (pl w32 (row z)))∧env 99 = .p (i64 i)∧H'=((H.set p (.cells (cl w32 (addRow (row z) s i)))).new (.cells (cl w32 W))).new (.cells (cl w32 (row z)))) 0 8 (by omega) ?_ ?_ ?_
   · simp (disch:=first|exact dsc|fail) only [go_sem,seval,-List.reduceReplicate,e0]
     rw [addRow,set_same hp]
   · intro env H' ⟨e0,e98,e99,eH⟩
     subst eH
     (repeat refine .z rfl ?_);refine .text ?_;simp (disch:=first|exact dsc|fail) only [go_sem,seval,-List.reduceReplicate,e99]
     (repeat refine .z rfl ?_);refine .ifF (by simp (disch:=first|exact dsc|fail) only [go_sem,seval,-List.reduceReplicate]) ?_
     (repeat refine .z rfl ?_);refine .fin Tryd.func69 (by rw [Tryd.results69]) (by simp (disch:=first|exact dsc|fail) only [go_sem,seval,-List.reduceReplicate];rfl) (by simp (disch:=first|exact dsc|fail) only [go_sem,seval,-List.reduceReplicate];rfl) (by (try dsimp only);repeat (first | with_reducible refine bel_new ?_ dsc | with_reducible refine bel_appl ?_ dsc | with_reducible refine bel_set ?_ dsc | with_reducible refine bel_cl ?_ | with_reducible exact hbel | with_reducible exact hbel _)) ?_;simp (disch:=first|exact dsc|fail) only [go_sem,seval,-List.reduceReplicate]
     rw [addRow8 z s hs,←hz,←hW] at *
     exact h
   · intro i env H' _ hi ⟨e0,e98,e99,eH⟩ ih
     subst eH
     (repeat refine .z rfl ?_);refine .text ?_;simp (disch:=first|exact dsc|fail) only [go_sem,seval,-List.reduceReplicate,e99]
     (repeat refine .z rfl ?_);refine .ifT (by simp (disch:=first|exact dsc|fail) only [go_sem,seval,-List.reduceReplicate]) ?_
     (repeat refine .z rfl ?_);refine .text ?_;simp (disch:=first|exact dsc|fail) only [go_sem,seval,-List.reduceReplicate,e98,e99]
     (repeat refine .z rfl ?_);refine .open [9] follows (by kernel_rfl) ?_;simp (disch:=first|exact dsc|fail) only [go_sem,seval,-List.reduceReplicate,e0,hp]
     (repeat refine .z rfl ?_);refine .text ?_;simp (disch:=first|exact dsc|fail) only [go_sem,seval,-List.reduceReplicate,e99]
     refine ih _ _ ?_
     simp (disch:=first|exact dsc|fail) only [go_sem,seval,-List.reduceReplicate,e0,e98,e99]
     rw [addRow]
 · intro i env H' _ hi ⟨e0,e4,e5,e21,eH⟩ ih
   subst eH
   (repeat refine .z rfl ?_);refine .text ?_;simp (disch:=first|exact dsc|fail) only [go_sem,seval,-List.reduceReplicate,e21]
   (repeat refine .z rfl ?_);refine .ifT (by simp (disch:=first|exact dsc|fail) only [go_sem,seval,-List.reduceReplicate]) ?_
   (repeat refine .z rfl ?_);refine .text ?_;simp (disch:=first|exact dsc|fail) only [go_sem,seval,-List.reduceReplicate,e21]
   (repeat refine .z rfl ?_);refine .open [] follows (by kernel_rfl) ?_;simp (disch:=first|exact dsc|fail) only [go_sem,seval,-List.reduceReplicate,e0,e4,e5,e21]
   (repeat refine .z rfl ?_);refine .text ?_;simp (disch:=first|exact dsc|fail) only [go_sem,seval,-List.reduceReplicate,e0,e4,e5,e21]
   refine CallK.of (fun R h=>RotateLeft32_spec _ (-6) 26 (by decide) (by omega) _ R h) ?_;simp (disch:=first|exact dsc|fail) only [go_sem,seval,-List.reduceReplicate,e0,e4,e5,e21]
   refine CallK.of (fun R h=>RotateLeft32_spec _ (-11) 21 (by decide) (by omega) _ R h) ?_;simp (disch:=first|exact dsc|fail) only [go_sem,seval,-List.reduceReplicate,e0,e4,e5,e21]
   refine CallK.of (fun R h=>RotateLeft32_spec _ (-25) 7 (by decide) (by omega) _ R h) ?_;simp (disch:=first|exact dsc|fail) only [go_sem,seval,-List.reduceReplicate,e0,e4,e5,e21]
   (repeat refine .z rfl ?_);refine .text ?_;simp (disch:=first|exact dsc|fail) only [go_sem,seval,-List.reduceReplicate,e0,e4,e5,e21]
   (repeat refine .z rfl ?_);refine .open [] follows (by kernel_rfl) ?_;simp (disch:=first|exact dsc|fail) only [go_sem,seval,-List.reduceReplicate,e0,e4,e5,e21,hG]
   (repeat refine .z rfl ?_);refine .text ?_;simp (disch:=first|exact dsc|fail) only [go_sem,seval,-List.reduceReplicate,e0,e4,e5,e21]
   refine CallK.of (fun R h=>RotateLeft32_spec _ (-2) 30 (by decide) (by omega) _ R h) ?_;simp (disch:=first|exact dsc|fail) only [go_sem,seval,-List.reduceReplicate,e0,e4,e5,e21]
   refine CallK.of (fun R h=>RotateLeft32_spec _ (-13) 19 (by decide) (by omega) _ R h) ?_;simp (disch:=first|exact dsc|fail) only [go_sem,seval,-List.reduceReplicate,e0,e4,e5,e21]
   refine CallK.of (fun R h=>RotateLeft32_spec _ (-22) 10 (by decide) (by omega) _ R h) ?_;simp (disch:=first|exact dsc|fail) only [go_sem,seval,-List.reduceReplicate,e0,e4,e5,e21]
   (repeat refine .z rfl ?_);refine .text ?_;simp (disch:=first|exact dsc|fail) only [go_sem,seval,-List.reduceReplicate,e0,e4,e5,e21]
   (repeat refine .z rfl ?_);refine .open [2] follows (by kernel_rfl) ?_;simp (disch:=first|exact dsc|fail) only [go_sem,seval,-List.reduceReplicate,e0,e4,e5,e21]
   (repeat refine .z rfl ?_);refine .text ?_;simp (disch:=first|exact dsc|fail) only [go_sem,seval,-List.reduceReplicate,e5]
   (repeat refine .z rfl ?_);refine .text ?_;simp (disch:=first|exact dsc|fail) only [go_sem,seval,-List.reduceReplicate,e5]
   (repeat refine .z rfl ?_);refine .text ?_;simp (disch:=first|exact dsc|fail) only [go_sem,seval,-List.reduceReplicate,e21]
   refine ih _ _ ?_
   simp (disch:=first|exact dsc|fail) only [go_sem,seval,-List.reduceReplicate,e0,e4,e5,e21]
   simp only [rnds,not_sub,maj_or,rnd_assoc]
   generalize rnds W (st s) i=z
   rfl

end Go.Proofs.YtmoecjgehdkhkaaDoor

/-
  Padding,the digest's bytes and the whole hash as plain functions.
-/
namespace Go.Proofs.YtmoecjgehdkhkaaDoor
open Go Go.AL

def padn (n:Nat):Nat:=(119 - n % 64) % 64
theorem padn_mod (n:Nat):(n+1+padn n) % 64=56:=by unfold padn;omega
theorem padn_lt (n j:Nat) (h:j < padn n):(n+1+j) % 64≠56:=by unfold padn at h;omega
theorem padn_le (n:Nat):padn n≤63:=by unfold padn;omega
def be64 (v:BitVec 64):Nat → List (BitVec 8)
 | 0=>[]
 | i+1=>be64 v i++[(v >>> (56 - 8*i)).setWidth 8]
theorem be64_len (v:BitVec 64) (i:Nat):(be64 v i).length=i:=by
 induction i with
 | zero=>rfl
 | succ i ih=>simp [be64,ih]
def pad (b:List (BitVec 8)):List (BitVec 8):=b++[128#8]++List.replicate (padn b.length) 0#8++be64 (BitVec.ofInt 64 b.length*8#64) 8
theorem pad_len (b:List (BitVec 8)):(pad b).length=b.length+1+padn b.length+8:=by simp [pad,be64_len];omega

def dg (s:List (BitVec 32)):Nat → List (BitVec 8)
 | 0=>List.replicate 32 0#8
 | i+1=>(dg s i).set i ((nth s (i / 4) >>> (24 - 8*(i % 4))).setWidth 8)
theorem dg_len (s:List (BitVec 32)) (i:Nat):(dg s i).length=32:=by
 induction i with
 | zero=>simp [dg]
 | succ i ih=>simp [dg,ih]
attribute [go_sem] be64_len dg_len

def runBlocks (p:List (BitVec 8)) (s:List (BitVec 32)):Nat → List (BitVec 32)
 | 0=>s
 | i+1=>comp (runBlocks p s i) ((p.take (64*i+64)).drop (64*i))
theorem comp_len (s:List (BitVec 32)) (b:List (BitVec 8)):(comp s b).length=8:=rfl
theorem runBlocks_len (p:List (BitVec 8)) (s:List (BitVec 32)) (hs:s.length=8) (i:Nat):(runBlocks p s i).length=8:=by
 cases i with
 | zero=>exact hs
 | succ i=>rfl
def sha (b:List (BitVec 8)):List (BitVec 8):=dg (runBlocks (pad b) inits ((pad b).length / 64)) 32
theorem sha_len (b:List (BitVec 8)):(sha b).length=32:=dg_len _ _
attribute [go_sem] comp_len sha_len

def made (b:List (BitVec 8)):Nat → List (BitVec 8)
 | 0=>List.replicate 32 0#8
 | i+1=>(made b i).set i (nth b i)
theorem made_len (b:List (BitVec 8)) (i:Nat):(made b i).length=32:=by
 induction i with
 | zero=>simp [made]
 | succ i ih=>simp [made,ih]
def mk (b:List (BitVec 8)):List (BitVec 8):=made b (min 32 b.length)
theorem mk_len (b:List (BitVec 8)):(mk b).length=32:=made_len _ _
def masked (k:List (BitVec 8)) (m:BitVec 8):Nat → List (BitVec 8)
 | 0=>[]
 | i+1=>masked k m i++[if i < 32 then nth k i ^^^ m else m]
theorem masked_len (k:List (BitVec 8)) (m:BitVec 8) (i:Nat):(masked k m i).length=i:=by
 induction i with
 | zero=>rfl
 | succ i ih=>simp [masked,ih]
attribute [go_sem] made_len mk_len masked_len
def leaf (b:List (BitVec 8)):List (BitVec 8):=sha ([0#8]++b)
def pair (a b:List (BitVec 8)):List (BitVec 8):=sha ([1#8]++a++b)
def keyed (k b:List (BitVec 8)):List (BitVec 8):=sha (masked k 92#8 64++sha (masked k 54#8 64++b))
end Go.Proofs.YtmoecjgehdkhkaaDoor

/-
  The walk of the iterator over the blocks of the padded message,and of the hash.
-/
namespace Go.Proofs.YtmoecjgehdkhkaaDoor
open Go Go.AL

theorem pad_block1 (b:List (BitVec 8)) (i:Nat) (h:i < b.length / 64):((pad b).take (64*i+64)).drop (64*i)=(b.take (64*i+64)).drop (64*i):=by
 rw [pad,List.append_assoc,List.append_assoc,List.take_append_of_le_length (by omega)]

def lastB (b:List (BitVec 8)):List (BitVec 8):=(pad b).drop (64*(b.length / 64))
theorem lastB_len (b:List (BitVec 8)):(lastB b).length=(pad b).length - 64*(b.length / 64):=by simp [lastB]
theorem lastB_eq (b:List (BitVec 8)):lastB b=b.drop (64*(b.length / 64))++[128#8]++List.replicate (padn b.length) 0#8++be64 (BitVec.ofInt 64 b.length*8#64) 8:=by
 unfold lastB pad
 rw [List.append_assoc,List.append_assoc,List.drop_append_of_le_length (by omega)]
 simp only [List.append_assoc]
theorem pad_block2 (b:List (BitVec 8)) (i:Nat):((lastB b).take (64*i+64)).drop (64*i)=((pad b).take (64*(b.length / 64+i)+64)).drop (64*(b.length / 64+i)):=by
 unfold lastB
 rw [List.take_drop,List.drop_drop]
 congr 2<;>omega

set_option maxHeartbeats 8000000 in
theorem blocks1_spec {G:Globs} (b:List (BitVec 8)) (hb:b.length≤140737488353000) (y p n0:Nat) (Ls:Nat → Hp) (hL : ∀ i,(Ls i).n=n0) (hB : ∀ i,Bel n0 (Ls i)) (hy0:y < n0) (hp:p < n0) (hbox : ∀ i,(Ls i).f p=some (.cells [.p (.sl false 1 (pl b8 b))]))
 (hy : ∀ i,i < (pad b).length / 64 → ∀ (T:List AB) (K:AV → Hp → Prop),K (.p (bo true)) (app (Ls (i+1)) T) → AYield Tryd.prog G y [.p (.sl false 1 (pl b8 (((pad b).take (64*i+64)).drop (64*i))))] (app (Ls i) T) K)
 (R:AV → Hp → Prop) (h:R (.tup []) (Ls ((pad b).length / 64))):ACall Tryd.prog G 81 [.yld y,.ptr p 0] (Ls 0) R:=by
 refine ACall.of_run (raw:=[]) Tryd.func81 rfl Tryd.ntmps81 (by simp) fun hbel => ?_
 have hpl:=pad_len b
 have hm:=padn_mod b.length
 have hpn:=padn_le b.length
 have hlen:=lastB_len b
 generalize hN:(pad b).length=N at hpl hy h hlen
 (repeat refine .z rfl ?_);refine .text ?_;simp (disch:=first|exact dsc|fail) only [go_sem,seval,-List.reduceReplicate,hbox,hL]
 (repeat refine .z rfl ?_);refine .text ?_;simp (disch:=first|exact dsc|fail) only [go_sem,seval,-List.reduceReplicate]
 repeat refine .z rfl ?_
 refine .count (fun i env H'=>env 0 = .yld y∧env 1 = .ptr p 0∧env 3 = .p (i64 (64*(b.length / 64):Nat))∧env 4 = .p (i64 (64*i:Nat))∧H'=Ls i) 0 (b.length / 64) (by omega) ?_ ?_ ?_
 · simp (disch:=first|exact dsc|fail) only [go_sem,seval,-List.reduceReplicate]
   exact pi64 (by omega)
 · intro env H' ⟨e0,e1,e3,e4,eH⟩
   subst eH
   (repeat refine .z rfl ?_);refine .text ?_;simp (disch:=first|exact dsc|fail) only [go_sem,seval,-List.reduceReplicate,e3,e4]
   (repeat refine .z rfl ?_);refine .ifF (by simp (disch:=first|exact dsc|fail) only [go_sem,seval,-List.reduceReplicate]) ?_
   (repeat refine .z rfl ?_);refine .text ?_;simp (disch:=first|exact dsc|fail) only [go_sem,seval,-List.reduceReplicate,e1,e3,hbox,hL]
   have hd:(b.drop (64*(b.length / 64))).length=b.length - 64*(b.length / 64):=List.length_drop
   have hdm:(b.drop (64*(b.length / 64))).length % 64=b.length % 64:=by omega
   have hLk:=hL (b.length / 64)
   generalize hdd:b.drop (64*(b.length / 64))=dd at hd hdm
   refine CallK.of (fun R h=>Clone_spec dd (by omega) _ R h) ?_;simp (disch:=first|exact dsc|fail) only [go_sem,seval,-List.reduceReplicate,hL]
   repeat refine .z rfl ?_
   refine .count (fun j env H'=>env 0 = .yld y∧env 1 = .ptr p 0∧env 5 = .sl n0 (1+j) 1 (pl b8 (dd++[128#8]++List.replicate j 0#8))∧H'=(Ls (b.length / 64)).new (.tail (1+j))) 0 (padn b.length) (by omega) ?_ ?_ ?_
   · simp (disch:=first|exact dsc|fail) only [go_sem,seval,-List.reduceReplicate,e0,e1,hL]
     simp only [List.replicate_zero,List.append_nil]
   · intro env H' ⟨e0,e1,e5,eH⟩
     subst eH
     have hm2:(dd.length+1+padn b.length) % 64=56:=by omega
     (repeat refine .z rfl ?_);refine .text ?_;simp (disch:=first|exact dsc|fail) only [go_sem,seval,-List.reduceReplicate,e5]
     (repeat refine .z rfl ?_);refine .ifF (by simp (disch:=first|exact dsc|fail) only [go_sem,seval,-List.reduceReplicate]) ?_
     (repeat refine .z rfl ?_);refine .text ?_;simp (disch:=first|exact dsc|fail) only [go_sem,seval,-List.reduceReplicate,e1,hbox,hL]
     (repeat refine .z rfl ?_);refine .text ?_;simp (disch:=first|exact dsc|fail) only [go_sem,seval,-List.reduceReplicate]
     repeat refine .z rfl ?_
     generalize hw:dd++[128#8]++List.replicate (padn b.length) 0#8=ww at e5
     have hwl:ww.length=dd.length+1+padn b.length:=by rw [←hw];simp;omega
     refine .count (fun j env H'=>env 0 = .yld y∧env 1 = .ptr p 0∧env 5 = .sl n0 (1+padn b.length+j) 1 (pl b8 (ww++be64 (BitVec.ofInt 64 b.length*8#64) j))∧env 6 = .p (w64 (BitVec.ofInt 64 b.length*8#64))∧env 7 = .p (i64 (56 - 8*(j:Int)))∧H'=(Ls (b.length / 64)).new (.tail (1+padn b.length+j))) 0 8 (by omega) ?_ ?_ ?_
     · simp (disch:=first|exact dsc|fail) only [go_sem,seval,-List.reduceReplicate,e0,e1,e5]
       simp only [be64,List.append_nil]
     · intro env H' ⟨e0,e1,e5,e6,e7,eH⟩
       subst eH
       (repeat refine .z rfl ?_);refine .text ?_;simp (disch:=first|exact dsc|fail) only [go_sem,seval,-List.reduceReplicate,e7]
       (repeat refine .z rfl ?_);refine .ifF (by simp (disch:=first|exact dsc|fail) only [go_sem,seval,-List.reduceReplicate]) ?_
       (repeat refine .z rfl ?_);refine .text ?_;simp (disch:=first|exact dsc|fail) only [go_sem,seval,-List.reduceReplicate]
       repeat refine .z rfl ?_
       have hlb:lastB b=ww++be64 (BitVec.ofInt 64 b.length*8#64) 8:=by rw [lastB_eq,hdd,hw]
       have hll:=hlen
       rw [←hlb] at e5
       generalize hx:lastB b=lb at e5 hll
       refine .count (fun j env H'=>env 0 = .yld y∧env 5 = .sl n0 (1+padn b.length+8) 1 (pl b8 lb)∧env 8 = .p (i64 (64*j:Nat))∧H'=(Ls (b.length / 64+j)).new (.tail (1+padn b.length+8))) 0 (N / 64 - b.length / 64) (by omega) ?_ ?_ ?_
       · simp (disch:=first|exact dsc|fail) only [go_sem,seval,-List.reduceReplicate,e0,e1,e5]
       · intro env H' ⟨e0,e5,e8,eH⟩
         subst eH
         have hLe:=hL (N / 64)
         have hbel:=hB (N / 64)
         have hj:b.length / 64+(N / 64 - b.length / 64)=N / 64:=by omega
         rw [hj]
         (repeat refine .z rfl ?_);refine .text ?_;simp (disch:=first|exact dsc|fail) only [go_sem,seval,-List.reduceReplicate,e5,e8]
         (repeat refine .z rfl ?_);refine .ifF (by simp (disch:=first|exact dsc|fail) only [go_sem,seval,-List.reduceReplicate]) ?_
         (repeat refine .z rfl ?_);refine .fin Tryd.func81 (by rw [Tryd.results81]) (by simp (disch:=first|exact dsc|fail) only [go_sem,seval,-List.reduceReplicate];rfl) (by simp (disch:=first|exact dsc|fail) only [go_sem,seval,-List.reduceReplicate];rfl) (by (try dsimp only);repeat (first | with_reducible refine bel_new ?_ dsc | with_reducible refine bel_appl ?_ dsc | with_reducible refine bel_set ?_ dsc | with_reducible refine bel_cl ?_ | with_reducible exact hbel | with_reducible exact hbel _)) ?_;simp (disch:=first|exact dsc|fail) only [go_sem,seval,-List.reduceReplicate]
         exact h
       · intro j env H' _ hj ⟨e0,e5,e8,eH⟩ ih
         subst eH
         have hLj:=hL (b.length / 64+j)
         have hLj1:=hL (b.length / 64+j+1)
         have hyi:=hy (b.length / 64+j) (by omega) [.tail (1+padn b.length+8)]
         rw [←pad_block2 b j,hx] at hyi
         simp only [app_nil,app_cons] at hyi
         (repeat refine .z rfl ?_);refine .text ?_;simp (disch:=first|exact dsc|fail) only [go_sem,seval,-List.reduceReplicate,e5,e8]
         (repeat refine .z rfl ?_);refine .ifT (by simp (disch:=first|exact dsc|fail) only [go_sem,seval,-List.reduceReplicate]) ?_
         (repeat refine .z rfl ?_);refine .text ?_;simp (disch:=first|exact dsc|fail) only [go_sem,seval,-List.reduceReplicate,e0,e5,e8]
         refine YieldK.of (fun K hK=>hyi K hK) ?_;simp (disch:=first|exact dsc|fail) only [go_sem,seval,-List.reduceReplicate]
         (repeat refine .z rfl ?_);refine .ifF (by simp (disch:=first|exact dsc|fail) only [go_sem,seval,-List.reduceReplicate]) ?_
         (repeat refine .z rfl ?_);refine .text ?_;simp (disch:=first|exact dsc|fail) only [go_sem,seval,-List.reduceReplicate,e8]
         refine ih _ _ ?_
         simp (disch:=first|exact dsc|fail) only [go_sem,seval,-List.reduceReplicate,e0,e5,e8]
         exact ⟨pi64 (by omega),rfl⟩
     · intro j env H' _ hj ⟨e0,e1,e5,e6,e7,eH⟩ ih
       subst eH
       have ht:(56 - 8*(j:Int)).toNat=56 - 8*j:=by omega
       (repeat refine .z rfl ?_);refine .text ?_;simp (disch:=first|exact dsc|fail) only [go_sem,seval,-List.reduceReplicate,e7]
       (repeat refine .z rfl ?_);refine .ifT (by simp (disch:=first|exact dsc|fail) only [go_sem,seval,-List.reduceReplicate]) ?_
       (repeat refine .z rfl ?_);refine .text ?_;simp (disch:=first|exact dsc|fail) only [go_sem,seval,-List.reduceReplicate,e5,e6,e7,ht]
       (repeat refine .z rfl ?_);refine .text ?_;simp (disch:=first|exact dsc|fail) only [go_sem,seval,-List.reduceReplicate,e7]
       refine ih _ _ ?_
       simp (disch:=first|exact dsc|fail) only [go_sem,seval,-List.reduceReplicate,e0,e1,e5,e6,e7]
       simp only [be64,List.append_assoc,Nat.add_assoc,true_and,and_true]
       exact pi64 (by omega)
   · intro j env H' _ hj ⟨e0,e1,e5,eH⟩ ih
     subst eH
     have hmj:=padn_lt b.length j hj
     have hmj2:(dd.length+1+j) % 64≠56:=by omega
     (repeat refine .z rfl ?_);refine .text ?_;simp (disch:=first|exact dsc|fail) only [go_sem,seval,-List.reduceReplicate,e5]
     (repeat refine .z rfl ?_);refine .ifT (by simp (disch:=first|exact dsc|fail) only [go_sem,seval,-List.reduceReplicate]) ?_
     (repeat refine .z rfl ?_);refine .text ?_;simp (disch:=first|exact dsc|fail) only [go_sem,seval,-List.reduceReplicate,e5]
     repeat refine .z rfl ?_
     refine ih _ _ ?_
     simp (disch:=first|exact dsc|fail) only [go_sem,seval,-List.reduceReplicate,e0,e1,e5]
     simp only [List.replicate_succ',List.append_assoc,Nat.add_assoc,and_self]
 · intro i env H' _ hi ⟨e0,e1,e3,e4,eH⟩ ih
   subst eH
   have hyi:=hy i (by omega) []
   rw [pad_block1 b i hi] at hyi
   simp only [app_nil] at hyi
   (repeat refine .z rfl ?_);refine .text ?_;simp (disch:=first|exact dsc|fail) only [go_sem,seval,-List.reduceReplicate,e3,e4]
   (repeat refine .z rfl ?_);refine .ifT (by simp (disch:=first|exact dsc|fail) only [go_sem,seval,-List.reduceReplicate]) ?_
   (repeat refine .z rfl ?_);refine .text ?_;simp (disch:=first|exact dsc|fail) only [go_sem,seval,-List.reduceReplicate,e0,e1,e4,hbox,hL]
   refine YieldK.of (fun K hK=>hyi K hK) ?_;simp (disch:=first|exact dsc|fail) only [go_sem,seval,-List.reduceReplicate]
   (repeat refine .z rfl ?_);refine .ifF (by simp (disch:=first|exact dsc|fail) only [go_sem,seval,-List.reduceReplicate]) ?_
   (repeat refine .z rfl ?_);refine .text ?_;simp (disch:=first|exact dsc|fail) only [go_sem,seval,-List.reduceReplicate,e4]
   refine ih _ _ ?_
   simp (disch:=first|exact dsc|fail) only [go_sem,seval,-List.reduceReplicate,e0,e1,e3,e4]
   exact pi64 (by omega)

end Go.Proofs.YtmoecjgehdkhkaaDoor

/-
  The walk of the hash.
-/
namespace Go.Proofs.YtmoecjgehdkhkaaDoor
open Go Go.AL

theorem blocks_spec {G:Globs} (b:List (BitVec 8)) (H:Hp) (R:AV → Hp → Prop) (h:R (.clo 81 [] [.ptr H.n 0]) (H.new (.cells [.p (.sl false 1 (pl b8 b))]))):ACall Tryd.prog G 68 [.p (.sl false 1 (pl b8 b))] H R:=by
 refine ACall.of_run (raw:=[]) Tryd.func68 rfl Tryd.ntmps68 (by simp) fun hbel => ?_
 (repeat refine .z rfl ?_);refine .text ?_;simp (disch:=first|exact dsc|fail) only [go_sem,seval,-List.reduceReplicate]
 (repeat refine .z rfl ?_);refine .text ?_;simp (disch:=first|exact dsc|fail) only [go_sem,seval,-List.reduceReplicate]
 (repeat refine .z rfl ?_);refine .retKeep Tryd.func68 (by rw [Tryd.results68]) (by simp (disch:=first|exact dsc|fail) only [go_sem,seval,-List.reduceReplicate];rfl) ?_;(try simp (disch:=first|exact dsc|fail) only [go_sem,seval,-List.reduceReplicate])
 exact h

set_option maxHeartbeats 8000000 in
theorem Sum_spec {G:Globs} (hG0:G 1=some (8,[.agg (pl w32 inits)])) (hG1:G 3=some (64,[.agg (pl w32 ks)])) (b:List (BitVec 8)) (hb:b.length≤140737488353000) (H:Hp) (R:AV → Hp → Prop) (h:R (.p (.agg (pl b8 (sha b)))) H) :
 ACall Tryd.prog G 41 [.p (.sl false 1 (pl b8 b))] H R:=by
 refine ACall.of_run (raw:=[]) Tryd.func41 rfl Tryd.ntmps41 (by simp) fun hbel => ?_
 have hi0:inits.length=8:=rfl
 have hi1:(runBlocks (pad b) inits 0)=inits:=rfl
 (repeat refine .z rfl ?_);refine .text ?_;simp (disch:=first|exact dsc|fail) only [go_sem,seval,-List.reduceReplicate]
 (repeat refine .z rfl ?_);refine .text ?_;simp (disch:=first|exact dsc|fail) only [go_sem,seval,-List.reduceReplicate,hG0]
 (repeat refine .z rfl ?_);refine .text ?_;simp (disch:=first|exact dsc|fail) only [go_sem,seval,-List.reduceReplicate]
 refine CallK.of (fun R h=>blocks_spec b _ R h) ?_;simp (disch:=first|exact dsc|fail) only [go_sem,seval,-List.reduceReplicate]
 (repeat refine .z rfl ?_);refine .rangeFunc (ps:=[12]) rfl (by simp (disch:=first|exact dsc|fail) only [go_sem,seval,-List.reduceReplicate];rfl) (by simp (disch:=first|exact dsc|fail) only [go_sem,seval,-List.reduceReplicate]) (by simp) fun L vs hL hvs hround => ?_;simp (disch:=first|exact dsc|fail) only [go_sem,seval,-List.reduceReplicate]
 refine blocks1_spec b hb (H.n+3) (H.n+2) (H.n+4) (fun i=>(((H.new (.cells (cl b8 (List.replicate 32 0#8)))).new (.cells (cl w32 (runBlocks (pad b) inits i)))).new (.cells [.p (.sl false 1 (pl b8 b))])).new (.obj vs (L .ready none))) (fun i=>by simp (disch:=first|exact dsc|fail) only [go_sem,seval,-List.reduceReplicate]) (fun i => ?_) (by omega) (by omega) (fun i=>by simp (disch:=first|exact dsc|fail) only [go_sem,seval,-List.reduceReplicate]) (fun i hi T K hK => ?_) _ ?_
 · (try dsimp only);(repeat (first | with_reducible exact hbel | with_reducible exact bel_start hbel dsc | with_reducible refine bel_newc ?_ | with_reducible refine bel_newp ?_ | with_reducible refine bel_newt ?_ | with_reducible refine bel_newo hvs ?_ dsc | with_reducible refine bel_cl ?_ | with_reducible refine bel_setp ?_ | with_reducible refine bel_sett ?_ | with_reducible refine bel_setd ?_ | with_reducible refine bel_newd ?_))
 · refine hround _ _ _ rfl (by simp (disch:=first|exact dsc|fail) only [go_sem,seval,-List.reduceReplicate]) fun hbel2 => ?_
   dsimp only
   simp (disch:=first|exact dsc|fail) only [go_sem,seval,-List.reduceReplicate]
   (repeat refine .z rfl ?_);refine .text ?_;simp (disch:=first|exact dsc|fail) only [go_sem,seval,-List.reduceReplicate]
   (repeat refine .z rfl ?_);refine .beginRound rfl hL (by simp (disch:=first|exact dsc|fail) only [go_sem,seval,-List.reduceReplicate];rfl) ?_;simp (disch:=first|exact dsc|fail) only [go_sem,seval,-List.reduceReplicate]
   have hrl:(runBlocks (pad b) inits i).length=8:=runBlocks_len _ _ hi0 i
   have hbl:(((pad b).take (64*i+64)).drop (64*i)).length=64:=by simp only [List.length_drop,List.length_take];omega
   generalize hbk:((pad b).take (64*i+64)).drop (64*i)=blk at hbl
   (repeat refine .z rfl ?_);refine .text ?_;simp (disch:=first|exact dsc|fail) only [go_sem,seval,-List.reduceReplicate]
   refine CallK.of (fun R h=>compress_spec hG1 _ blk hrl hbl _ (H.n+1) (by simp (disch:=first|exact dsc|fail) only [go_sem,seval,-List.reduceReplicate]) (by simp (disch:=first|exact dsc|fail) only [go_sem,seval,-List.reduceReplicate];omega) R h) ?_;simp (disch:=first|exact dsc|fail) only [go_sem,seval,-List.reduceReplicate]
   (repeat refine .z rfl ?_);refine .roundEndK rfl hL (by simp (disch:=first|exact dsc|fail) only [go_sem,seval,-List.reduceReplicate];rfl) ?_;simp (disch:=first|exact dsc|fail) only [go_sem,seval,-List.reduceReplicate]
   rw [runBlocks,hbk] at hK
   exact hK
 · unfold LoopEnd;refine ⟨?_,.inl ⟨(by simp (disch:=first|exact dsc|fail) only [go_sem,seval,-List.reduceReplicate]<;>rfl),?_⟩⟩;(try dsimp only);(repeat (first | with_reducible exact hbel | with_reducible exact bel_start hbel dsc | with_reducible refine bel_newc ?_ | with_reducible refine bel_newp ?_ | with_reducible refine bel_newt ?_ | with_reducible refine bel_newo hvs ?_ dsc | with_reducible refine bel_cl ?_ | with_reducible refine bel_setp ?_ | with_reducible refine bel_sett ?_ | with_reducible refine bel_setd ?_ | with_reducible refine bel_newd ?_));simp (disch:=first|exact dsc|fail) only [go_sem,seval,-List.reduceReplicate]
   have hrl:=runBlocks_len (pad b) inits hi0 ((pad b).length / 64)
   unfold sha at h
   generalize runBlocks (pad b) inits ((pad b).length / 64)=s at hrl h
   (repeat refine .z rfl ?_);refine .text ?_;simp (disch:=first|exact dsc|fail) only [go_sem,seval,-List.reduceReplicate]
   (repeat refine .z rfl ?_);refine .text ?_;simp (disch:=first|exact dsc|fail) only [go_sem,seval,-List.reduceReplicate]
   repeat refine .z rfl ?_
   refine .count (fun i env H'=>env 2 = .ptr H.n 0∧env 15 = .p (.agg (pl w32 s))∧env 5 = .ptr (H.n+3) 0∧env 16 = .p (i64 i)∧H'=(((H.new (.cells (cl b8 (List.replicate 32 0#8)))).new (.cells (cl w32 s))).new (.cells [.p (.sl false 1 (pl b8 b))])).new (.cells (cl b8 (dg s (4*i))))) 0 8 (by omega) ?_ ?_ ?_
   · simp (disch:=first|exact dsc|fail) only [go_sem,seval,-List.reduceReplicate]
     rfl
   · intro env H' ⟨e2,e15,e5,e16,eH⟩
     subst eH
     (repeat refine .z rfl ?_);refine .text ?_;simp (disch:=first|exact dsc|fail) only [go_sem,seval,-List.reduceReplicate,e16]
     (repeat refine .z rfl ?_);refine .ifF (by simp (disch:=first|exact dsc|fail) only [go_sem,seval,-List.reduceReplicate]) ?_
     (repeat refine .z rfl ?_);refine .text ?_;simp (disch:=first|exact dsc|fail) only [go_sem,seval,-List.reduceReplicate,e2,e5]
     (repeat refine .z rfl ?_);refine .rt Tryd.func41 (by rw [Tryd.results41]) (hx:=by simp (disch:=first|exact dsc|fail) only [go_sem,seval,-List.reduceReplicate,e2];rfl) (hR := ?_);simp (disch:=first|exact dsc|fail) only [go_sem,seval,-List.reduceReplicate,e2]
     exact h
   · intro i env H' _ hi ⟨e2,e15,e5,e16,eH⟩ ih
     subst eH
     (repeat refine .z rfl ?_);refine .text ?_;simp (disch:=first|exact dsc|fail) only [go_sem,seval,-List.reduceReplicate,e16]
     (repeat refine .z rfl ?_);refine .ifT (by simp (disch:=first|exact dsc|fail) only [go_sem,seval,-List.reduceReplicate]) ?_
     (repeat refine .z rfl ?_);refine .text ?_;simp (disch:=first|exact dsc|fail) only [go_sem,seval,-List.reduceReplicate,e15,e16]
     (repeat refine .z rfl ?_);refine .text ?_;simp (disch:=first|exact dsc|fail) only [go_sem,seval,-List.reduceReplicate]
     repeat refine .z rfl ?_
     refine .count (fun k env H'=>env 2 = .ptr H.n 0∧env 15 = .p (.agg (pl w32 s))∧env 5 = .ptr (H.n+3) 0∧env 16 = .p (i64 i)∧env 6 = .p (i64 i)∧env 7 = .p (w32 (nth s i))∧env 20 = .p (i64 k)∧H'=(((H.new (.cells (cl b8 (List.replicate 32 0#8)))).new (.cells (cl w32 s))).new (.cells [.p (.sl false 1 (pl b8 b))])).new (.cells (cl b8 (dg s (4*i+k))))) 0 4 (by omega) ?_ ?_ ?_
     · simp (disch:=first|exact dsc|fail) only [go_sem,seval,-List.reduceReplicate,e2,e15,e5,e16]
     · intro env H' ⟨e2,e15,e5,e16,e6,e7,e20,eH⟩
       subst eH
       (repeat refine .z rfl ?_);refine .text ?_;simp (disch:=first|exact dsc|fail) only [go_sem,seval,-List.reduceReplicate,e20]
       (repeat refine .z rfl ?_);refine .ifF (by simp (disch:=first|exact dsc|fail) only [go_sem,seval,-List.reduceReplicate]) ?_
       (repeat refine .z rfl ?_);refine .text ?_;simp (disch:=first|exact dsc|fail) only [go_sem,seval,-List.reduceReplicate,e16]
       refine ih _ _ ?_
       simp (disch:=first|exact dsc|fail) only [go_sem,seval,-List.reduceReplicate,e2,e15,e5,e16]
       rw [Nat.mul_add]
     · intro k env H' _ hk ⟨e2,e15,e5,e16,e6,e7,e20,eH⟩ ih2
       subst eH
       have ht:(24 - 8*(k:Int)).toNat=24 - 8*k:=by omega
       (repeat refine .z rfl ?_);refine .text ?_;simp (disch:=first|exact dsc|fail) only [go_sem,seval,-List.reduceReplicate,e20]
       (repeat refine .z rfl ?_);refine .ifT (by simp (disch:=first|exact dsc|fail) only [go_sem,seval,-List.reduceReplicate]) ?_
       (repeat refine .z rfl ?_);refine .text ?_;simp (disch:=first|exact dsc|fail) only [go_sem,seval,-List.reduceReplicate,e20]
       (repeat refine .z rfl ?_);refine .text ?_;simp (disch:=first|exact dsc|fail) only [go_sem,seval,-List.reduceReplicate,e5,e6,e7,ht]
       (repeat refine .z rfl ?_);refine .text ?_;simp (disch:=first|exact dsc|fail) only [go_sem,seval,-List.reduceReplicate,e20]
       refine ih2 _ _ ?_
       simp (disch:=first|exact dsc|fail) only [go_sem,seval,-List.reduceReplicate,e2,e15,e5,e16,e6,e7,e20]
       have h1:(4*i+k) / 4=i:=by omega
       have h2:(4*i+k) % 4=k:=by omega
       rw [←Nat.add_assoc,dg,h1,h2]

end Go.Proofs.YtmoecjgehdkhkaaDoor

/-
  slices.Grow at nil,by the library's contract.
-/
namespace Go.Proofs.YtmoecjgehdkhkaaDoor
open Go Go.AL Go.Proofs Go.Shelf

def ren41:Ren:=⟨fun n=>if n=4 then 88 else n,fun n=>if n=25 then 5 else if n=22 then 28 else if n=20 then 20 else if n=9 then 9 else if n=4 then 4 else if n=3 then 3 else if n=0 then 0 else n,fun n=>n⟩

theorem grow_laid:Lays8.n4 Tryd.prog ren41 where
  mixed:=follows
  f4 := ⟨"slices.Grow[[]byte,byte]", by decide, by kernel_rfl⟩
  t0:=Tryd.underlying0
  a0:=fun w=>by kernel_rfl
  z0:=fun w=>by kernel_rfl
  v0:=fun w=>by kernel_rfl
  t3:=Tryd.underlying3
  a3:=fun w=>by kernel_rfl
  z3:=fun w=>by kernel_rfl
  v3:=fun w=>by kernel_rfl
  t4:=Tryd.underlying4
  a4:=fun w=>by kernel_rfl
  z4:=fun w=>by kernel_rfl
  v4:=fun w=>by kernel_rfl
  t9:=Tryd.underlying9
  a9:=fun w=>by kernel_rfl
  z9:=fun w=>by kernel_rfl
  v9:=fun w=>by kernel_rfl
  t20:=Tryd.underlying20
  a20:=fun w=>by kernel_rfl
  z20:=fun w=>by kernel_rfl
  v20:=fun w=>by kernel_rfl
  t22:=Tryd.underlying28
  a22:=fun w=>by kernel_rfl
  z22:=fun w=>by kernel_rfl
  v22:=fun w=>by kernel_rfl

theorem info5e:Tryd.prog.info? 5=some Tryd.t5:=by kernel_rfl

theorem Grow_spec {G:Globs} (n:Nat) (hn0:0 < n) (hn:n≤140737488355300) (H:Hp) (R:AV → Hp → Prop) (h:R (.sl H.n 0 1 []) (H.new (.tail 0))) :
 ACall Tryd.prog G 88 [.p (.s (.slice none 0 0)),.p (i64 n)] H R:=by
 intro σ w vs hr hvs
 have hs:vs.size=2:=hvs.1
 have r0:=hvs.2 0 _ vs[0] rfl (by simp)
 have r1:=hvs.2 1 _ vs[1] rfl (by simp)
 have e1:vs[1] = .int .i64 n:=by
  generalize vs[1]=v at r1
  cases r1 with | p r=>cases r;rfl
 obtain ⟨base,e0⟩ : ∃ base,vs[0] = .slice base 0 0:=by
  generalize vs[0]=v at r0
  cases r0 with | p r =>
  cases r;exact ⟨none,rfl⟩
 have hv:vs = #[.slice base 0 0,.int .i64 n]:=by
  apply Array.ext
  · simp [hs]
  · intro i h1 h2
    have:i=0 ∨ i=1:=by simp at h2;omega
    rcases this with rfl | rfl
    · simpa using e0
    · simpa using e1
 have hc:=Any8.slices_Grow_grow grow_laid Tryd.t5 (.int .u8 0) info5e rfl (by decide) base 0 0 n [] w (Nat.le_refl _) (by omega) (by show (0+n)*1≤_;omega) (by omega) rfl (fun _=>rfl) (by simp)
 rw [hv]
 refine Calls.mono hc ?_
 rintro e w' ⟨rfl,rfl⟩
 generalize hC:(([]:List Value).toArray++Builtin.zeroCells (Value.int .u8 0).cells (0+n - 0)++Builtin.zeroCells (Value.int .u8 0).cells (grownCap w (0+n) 0 (ren41.t 25) - (0+n)))=C
 have hCs:grownCap w (0+n) 0 (ren41.t 25)≤C.size:=by
  rw [←hC]
  simp [Builtin.zeroCells,Value.cells]
  omega
 have hmax:grownCap w (0+n) 0 (ren41.t 25)≤maxLen:=grownCap_le_maxLen w _ _ _ (by unfold maxLen;omega)
 generalize grownCap w (0+n) 0 (ren41.t 25)=cap at hCs hmax
 obtain ⟨h1,h2⟩:=rel_newTail hr (w':=w.drew.alloc (.cells C (ren41.t 25))) (by show w.drew.heap.size≤_;simp) (fun g hg=>heap_alloc_old w.drew _ hg) rfl rfl
  (some (w.heap.size,0,C.size)) (fun g o s hh=>by cases hh;exact ⟨Nat.le_refl _,_,_,heap_alloc_new w.drew _,rfl⟩)
 refine ⟨_,_,_,_,h,rfl,h1,.sl ?_ ⟨by simp [Hp.n_new],fun k0 d hk0 => ?_⟩,h2⟩
 · exact .sl false _ [] _ 0 _ (fun _=>undef) (by simp) ⟨by simp,hmax⟩ (by simp) (by simp) (by simp [flat])
 · simp [Hp.f_new] at hk0
   exact ⟨by omega,fun _ => .inr ⟨w.heap.size,0,0,cap,C.size,by simp,by simp [Gh.withT],by omega⟩⟩

end Go.Proofs.YtmoecjgehdkhkaaDoor

/-
  The walk of slices.Concat.
-/
namespace Go.Proofs.YtmoecjgehdkhkaaDoor
open Go Go.AL

def bs (l:List (BitVec 8)):PV := .sl false 1 (pl b8 l)
theorem cells_bs (l:List (BitVec 8)):(bs l).cells=[bs l]:=rfl
theorem bs_def (l:List (BitVec 8)):AV.p (bs l) = .p (.sl false 1 (pl b8 l)):=rfl
def tot (ps:List (List (BitVec 8))):Nat → Nat
 | 0=>0
 | i+1=>tot ps i+(nth ps i).length
def cat (ps:List (List (BitVec 8))):Nat → List (BitVec 8)
 | 0=>[]
 | i+1=>cat ps i++nth ps i
theorem cat_len (ps:List (List (BitVec 8))) (i:Nat):(cat ps i).length=tot ps i:=by
 induction i with
 | zero=>rfl
 | succ i ih=>simp [cat,tot,ih]
theorem tot_mono (ps:List (List (BitVec 8))) {i j:Nat} (h:i≤j):tot ps i≤tot ps j:=by
  induction j with
  | zero => have : i = 0 := by omega
            subst this;exact Nat.le_refl _
  | succ j ih =>
    by_cases e:i=j+1
    · rw [e];exact Nat.le_refl _
    · have:=ih (by omega);simp only [tot];omega

set_option maxHeartbeats 8000000 in
theorem Concat_spec {G:Globs} (ps:List (List (BitVec 8))) (hn:ps.length≤1000) (h0:0 < tot ps ps.length) (h1:tot ps ps.length≤140737488355000) (H:Hp) (R:AV → Hp → Prop) (h:R (.p (.sl false 1 (pl b8 (cat ps ps.length)))) H) :
 ACall Tryd.prog G 86 [.p (.sl false 1 (pl bs ps))] H R:=by
 refine ACall.of_run (raw:=[88]) Tryd.func86 rfl Tryd.ntmps86 (by simp) fun hbel => ?_
 (repeat refine .z rfl ?_);refine .text ?_;simp (disch:=first|exact dsc|fail) only [go_sem,seval,-List.reduceReplicate]
 (repeat refine .z rfl ?_);refine .text ?_;simp (disch:=first|exact dsc|fail) only [go_sem,seval,-List.reduceReplicate]
 (repeat refine .z rfl ?_);refine .text ?_;simp (disch:=first|exact dsc|fail) only [go_sem,seval,-List.reduceReplicate]
 repeat refine .z rfl ?_
 refine .count (fun i env H'=>env 0 = .p (.sl false 1 (pl bs ps))∧env 3 = .p (i64 (tot ps i))∧env 9 = .p (.sl false 1 (pl bs ps))∧env 10 = .p (i64 ps.length)∧env 11 = .p (i64 i)∧H'=H) 0 ps.length (by omega) ?_ ?_ ?_
 · simp (disch:=first|exact dsc|fail) only [go_sem,seval,-List.reduceReplicate]
   rfl
 · intro env H' ⟨e0,e3,e9,e10,e11,eH⟩
   subst eH
   (repeat refine .z rfl ?_);refine .text ?_;simp (disch:=first|exact dsc|fail) only [go_sem,seval,-List.reduceReplicate,e10,e11]
   (repeat refine .z rfl ?_);refine .ifF (by simp (disch:=first|exact dsc|fail) only [go_sem,seval,-List.reduceReplicate]) ?_
   (repeat refine .z rfl ?_);refine .text ?_;simp (disch:=first|exact dsc|fail) only [go_sem,seval,-List.reduceReplicate,e3]
   refine CallK.of (fun R h=>Grow_spec _ h0 (by omega) _ R h) ?_;simp (disch:=first|exact dsc|fail) only [go_sem,seval,-List.reduceReplicate]
   (repeat refine .z rfl ?_);refine .text ?_;simp (disch:=first|exact dsc|fail) only [go_sem,seval,-List.reduceReplicate,e0]
   repeat refine .z rfl ?_
   refine .count (fun i env H2=>env 6 = .sl H'.n i 1 (pl b8 (cat ps i))∧env 25 = .p (.sl false 1 (pl bs ps))∧env 26 = .p (i64 ps.length)∧env 27 = .p (i64 i)∧H2=H'.new (.tail i)) 0 ps.length (by omega) ?_ ?_ ?_
   · simp (disch:=first|exact dsc|fail) only [go_sem,seval,-List.reduceReplicate]
     rfl
   · intro env H2 ⟨e6,e25,e26,e27,eH⟩
     subst eH
     (repeat refine .z rfl ?_);refine .text ?_;simp (disch:=first|exact dsc|fail) only [go_sem,seval,-List.reduceReplicate,e26,e27]
     (repeat refine .z rfl ?_);refine .ifF (by simp (disch:=first|exact dsc|fail) only [go_sem,seval,-List.reduceReplicate]) ?_
     (repeat refine .z rfl ?_);refine .text ?_;simp (disch:=first|exact dsc|fail) only [go_sem,seval,-List.reduceReplicate,e6]
     (repeat refine .z rfl ?_);refine .rt Tryd.func86 (by rw [Tryd.results86]) (hR := ?_);simp (disch:=first|exact dsc|fail) only [go_sem,seval,-List.reduceReplicate]
     exact h
   · intro i env H2 _ hi ⟨e6,e25,e26,e27,eH⟩ ih
     subst eH
     have hm:=tot_mono ps (show i+1≤ps.length by omega)
     have hs:tot ps (i+1)=tot ps i+(nth ps i).length:=rfl
     have hcl:(cat ps i).length=tot ps i:=cat_len ps i
     (repeat refine .z rfl ?_);refine .text ?_;simp (disch:=first|exact dsc|fail) only [go_sem,seval,-List.reduceReplicate,e26,e27]
     (repeat refine .z rfl ?_);refine .ifT (by simp (disch:=first|exact dsc|fail) only [go_sem,seval,-List.reduceReplicate]) ?_
     (repeat refine .z rfl ?_);refine .text ?_;simp (disch:=first|exact dsc|fail) only [go_sem,seval,-List.reduceReplicate,e25,e27,cells_bs,bs_def]
     (repeat refine .z rfl ?_);refine .text ?_;simp (disch:=first|exact dsc|fail) only [go_sem,seval,-List.reduceReplicate,e6]
     (repeat refine .z rfl ?_);refine .text ?_;simp (disch:=first|exact dsc|fail) only [go_sem,seval,-List.reduceReplicate,e27]
     refine ih _ _ ?_
     simp (disch:=first|exact dsc|fail) only [go_sem,seval,-List.reduceReplicate,e6,e25,e26,e27]
     rfl
 · intro i env H' _ hi ⟨e0,e3,e9,e10,e11,eH⟩ ih
   subst eH
   have hm:=tot_mono ps (show i+1≤ps.length by omega)
   have hs:tot ps (i+1)=tot ps i+(nth ps i).length:=rfl
   (repeat refine .z rfl ?_);refine .text ?_;simp (disch:=first|exact dsc|fail) only [go_sem,seval,-List.reduceReplicate,e10,e11]
   (repeat refine .z rfl ?_);refine .ifT (by simp (disch:=first|exact dsc|fail) only [go_sem,seval,-List.reduceReplicate]) ?_
   (repeat refine .z rfl ?_);refine .text ?_;simp (disch:=first|exact dsc|fail) only [go_sem,seval,-List.reduceReplicate,e9,e11,cells_bs,bs_def]
   (repeat refine .z rfl ?_);refine .text ?_;simp (disch:=first|exact dsc|fail) only [go_sem,seval,-List.reduceReplicate,e3]
   (repeat refine .z rfl ?_);refine .text ?_;simp (disch:=first|exact dsc|fail) only [go_sem,seval,-List.reduceReplicate]
   (repeat refine .z rfl ?_);refine .ifF (by simp (disch:=first|exact dsc|fail) only [go_sem,seval,-List.reduceReplicate]) ?_
   (repeat refine .z rfl ?_);refine .text ?_;simp (disch:=first|exact dsc|fail) only [go_sem,seval,-List.reduceReplicate,e11]
   refine ih _ _ ?_
   simp (disch:=first|exact dsc|fail) only [go_sem,seval,-List.reduceReplicate,e0,e3,e9,e10,e11]
   rw [hs]
   rfl

end Go.Proofs.YtmoecjgehdkhkaaDoor

/-
  The walks of the leaf's,the pair's and the keyed hash.
-/
namespace Go.Proofs.YtmoecjgehdkhkaaDoor
open Go Go.AL

theorem pl_bs3 (a b c:List (BitVec 8)):[PV.sl false 1 (pl b8 a),PV.sl false 1 (pl b8 b),PV.sl false 1 (pl b8 c)]=pl bs [a,b,c]:=rfl
theorem cat3 (a b c:List (BitVec 8)):cat [a,b,c] 3=a++b++c:=by simp [cat,nth]
theorem tot3 (a b c:List (BitVec 8)):tot [a,b,c] 3=a.length+b.length+c.length:=by simp [tot,nth]

set_option maxHeartbeats 8000000 in
theorem Pair_spec {G:Globs} (hG0:G 1=some (8,[.agg (pl w32 inits)])) (hG1:G 3=some (64,[.agg (pl w32 ks)])) (a b:List (BitVec 8)) (ha:a.length=32) (hb:b.length=32) (H:Hp) (R:AV → Hp → Prop) (h:R (.p (.agg (pl b8 (pair a b)))) H) :
 ACall Tryd.prog G 72 [.p (.agg (pl b8 a)),.p (.agg (pl b8 b))] H R:=by
 refine ACall.of_run (raw:=[]) Tryd.func72 rfl Tryd.ntmps72 (by simp) fun hbel => ?_
 (repeat refine .z rfl ?_);refine .text ?_;simp (disch:=first|exact dsc|fail) only [go_sem,seval,-List.reduceReplicate]
 (repeat refine .z rfl ?_);refine .frzP 2 (by simp (disch:=first|exact dsc|fail) only [go_sem,seval,-List.reduceReplicate];rfl) (by simp (disch:=first|exact dsc|fail) only [go_sem,seval,-List.reduceReplicate]<;>rfl) (fun _=>rfl) (by first | exact dsc | fail) ?_;(try simp (disch:=first|exact dsc|fail) only [go_sem,seval,-List.reduceReplicate])
 (repeat refine .z rfl ?_);refine .frzP 3 (by simp (disch:=first|exact dsc|fail) only [go_sem,seval,-List.reduceReplicate];rfl) (by simp (disch:=first|exact dsc|fail) only [go_sem,seval,-List.reduceReplicate]<;>rfl) (fun _=>rfl) (by first | exact dsc | fail) ?_;(try simp (disch:=first|exact dsc|fail) only [go_sem,seval,-List.reduceReplicate])
 (repeat refine .z rfl ?_);refine .open [6] follows (by kernel_rfl) ?_;simp (disch:=first|exact dsc|fail) only [go_sem,seval,-List.reduceReplicate,pl_bs3]
 refine CallD.still (fun R h=>Concat_spec [[1#8],a,b] (by simp) (by simp [tot3];omega) (by simp [tot3];omega) _ R h) ?_;simp (disch:=first|exact dsc|fail) only [go_sem,seval,-List.reduceReplicate,cat3]
 refine CallD.still (fun R h=>Sum_spec hG0 hG1 ([1#8]++a++b) (by simp;omega) _ R h) ?_;simp (disch:=first|exact dsc|fail) only [go_sem,seval,-List.reduceReplicate]
 (repeat refine .z rfl ?_);refine .rt Tryd.func72 (by rw [Tryd.results72]) (hR := ?_);simp (disch:=first|exact dsc|fail) only [go_sem,seval,-List.reduceReplicate]
 exact h

def fl (m:BitVec 8):Nat → List (BitVec 8)
 | 0=>List.replicate 64 0#8
 | i+1=>(fl m i).set i m
theorem fl_len (m:BitVec 8) (i:Nat):(fl m i).length=64:=by
 induction i with
 | zero=>simp [fl]
 | succ i ih=>simp [fl,ih]
def xk (k:List (BitVec 8)) (m:BitVec 8):Nat → List (BitVec 8)
 | 0=>List.replicate 64 m
 | i+1=>(xk k m i).set i (nth (xk k m i) i ^^^ nth k i)
theorem xk_len (k:List (BitVec 8)) (m:BitVec 8) (i:Nat):(xk k m i).length=64:=by
 induction i with
 | zero=>simp [xk]
 | succ i ih=>simp [xk,ih]
attribute [go_sem] fl_len xk_len

end Go.Proofs.YtmoecjgehdkhkaaDoor

/-
  The walks of the reference's padding,digest and joins.
-/
namespace Go.Proofs.YtmoecjgehdkhkaaDoor
open Go Go.AL

set_option maxHeartbeats 8000000 in
theorem Join_spec {G:Globs} (a b:List (BitVec 8)) (ha:a.length≤140737488355000) (hb:a.length+b.length≤140737488355300) (H:Hp) (R:AV → Hp → Prop) (h:R (.p (.sl false 1 (pl b8 (a++b)))) H) :
 ACall Tryd.prog G 54 [.p (.sl false 1 (pl b8 a)),.p (.sl false 1 (pl b8 b))] H R:=by
 refine ACall.of_run (raw:=[]) Tryd.func54 rfl Tryd.ntmps54 (by simp) fun hbel => ?_
 (repeat refine .z rfl ?_);refine .text ?_;simp (disch:=first|exact dsc|fail) only [go_sem,seval,-List.reduceReplicate]
 (repeat refine .z rfl ?_);refine .text ?_;simp (disch:=first|exact dsc|fail) only [go_sem,seval,-List.reduceReplicate]
 (repeat refine .z rfl ?_);refine .text ?_;simp (disch:=first|exact dsc|fail) only [go_sem,seval,-List.reduceReplicate]
 (repeat refine .z rfl ?_);refine .text ?_;simp (disch:=first|exact dsc|fail) only [go_sem,seval,-List.reduceReplicate]
 (repeat refine .z rfl ?_);refine .rt Tryd.func54 (by rw [Tryd.results54]) (hR := ?_);simp (disch:=first|exact dsc|fail) only [go_sem,seval,-List.reduceReplicate]
 exact h

set_option maxHeartbeats 8000000 in
theorem Pad_spec {G:Globs} (b:List (BitVec 8)) (hb:b.length≤140737488355000) (H:Hp) (R:AV → Hp → Prop) (h:R (.p (.sl false 1 (pl b8 (pad b)))) H) :
 ACall Tryd.prog G 56 [.p (.sl false 1 (pl b8 b))] H R:=by
 refine ACall.of_run (raw:=[]) Tryd.func56 rfl Tryd.ntmps56 (by simp) fun hbel => ?_
 have hpn:=padn_le b.length
 (repeat refine .z rfl ?_);refine .text ?_;simp (disch:=first|exact dsc|fail) only [go_sem,seval,-List.reduceReplicate]
 (repeat refine .z rfl ?_);refine .text ?_;simp (disch:=first|exact dsc|fail) only [go_sem,seval,-List.reduceReplicate]
 (repeat refine .z rfl ?_);refine .text ?_;simp (disch:=first|exact dsc|fail) only [go_sem,seval,-List.reduceReplicate]
 repeat refine .z rfl ?_
 refine .count (fun j env H'=>env 0 = .p (.sl false 1 (pl b8 b))∧env 3 = .sl H.n (1+j) 1 (pl b8 (b++[128#8]++List.replicate j 0#8))∧H'=H.new (.tail (1+j))) 0 (padn b.length) (by omega) ?_ ?_ ?_
 · simp (disch:=first|exact dsc|fail) only [go_sem,seval,-List.reduceReplicate]
   simp only [List.replicate_zero,List.append_nil]
 · intro env H' ⟨e0,e3,eH⟩
   subst eH
   have hm:=padn_mod b.length
   (repeat refine .z rfl ?_);refine .text ?_;simp (disch:=first|exact dsc|fail) only [go_sem,seval,-List.reduceReplicate,e0,e3]
   (repeat refine .z rfl ?_);refine .ifF (by simp (disch:=first|exact dsc|fail) only [go_sem,seval,-List.reduceReplicate]) ?_
   (repeat refine .z rfl ?_);refine .text ?_;simp (disch:=first|exact dsc|fail) only [go_sem,seval,-List.reduceReplicate,e0]
   (repeat refine .z rfl ?_);refine .text ?_;simp (disch:=first|exact dsc|fail) only [go_sem,seval,-List.reduceReplicate,e3]
   repeat refine .z rfl ?_
   refine .count (fun i env H'=>env 3 = .sl H.n (1+padn b.length+i) 1 (pl b8 (b++[128#8]++List.replicate (padn b.length) 0#8++be64 (BitVec.ofInt 64 b.length*8#64) i))∧env 4 = .p (w64 (BitVec.ofInt 64 b.length*8#64))∧env 5 = .p (i64 i)∧H'=H.new (.tail (1+padn b.length+i))) 0 8 (by omega) ?_ ?_ ?_
   · simp (disch:=first|exact dsc|fail) only [go_sem,seval,-List.reduceReplicate,e3]
     simp only [be64,List.append_nil]
   · intro env H' ⟨e3,e4,e5,eH⟩
     subst eH
     (repeat refine .z rfl ?_);refine .text ?_;simp (disch:=first|exact dsc|fail) only [go_sem,seval,-List.reduceReplicate,e5]
     (repeat refine .z rfl ?_);refine .ifF (by simp (disch:=first|exact dsc|fail) only [go_sem,seval,-List.reduceReplicate]) ?_
     (repeat refine .z rfl ?_);refine .text ?_;simp (disch:=first|exact dsc|fail) only [go_sem,seval,-List.reduceReplicate,e3]
     (repeat refine .z rfl ?_);refine .rt Tryd.func56 (by rw [Tryd.results56]) (hR := ?_);simp (disch:=first|exact dsc|fail) only [go_sem,seval,-List.reduceReplicate]
     exact h
   · intro i env H' _ hi ⟨e3,e4,e5,eH⟩ ih
     subst eH
     have ht:(56 - 8*(i:Int)).toNat=56 - 8*i:=by omega
     (repeat refine .z rfl ?_);refine .text ?_;simp (disch:=first|exact dsc|fail) only [go_sem,seval,-List.reduceReplicate,e5]
     (repeat refine .z rfl ?_);refine .ifT (by simp (disch:=first|exact dsc|fail) only [go_sem,seval,-List.reduceReplicate]) ?_
     (repeat refine .z rfl ?_);refine .text ?_;simp (disch:=first|exact dsc|fail) only [go_sem,seval,-List.reduceReplicate,e3,e4,e5,ht]
     (repeat refine .z rfl ?_);refine .text ?_;simp (disch:=first|exact dsc|fail) only [go_sem,seval,-List.reduceReplicate,e5]
     refine ih _ _ ?_
     simp (disch:=first|exact dsc|fail) only [go_sem,seval,-List.reduceReplicate,e3,e4,e5]
     simp only [be64,List.append_assoc,Nat.add_assoc,and_self]
 · intro j env H' _ hj ⟨e0,e3,eH⟩ ih
   subst eH
   have hm:=padn_lt b.length j hj
   (repeat refine .z rfl ?_);refine .text ?_;simp (disch:=first|exact dsc|fail) only [go_sem,seval,-List.reduceReplicate,e0,e3]
   (repeat refine .z rfl ?_);refine .ifT (by simp (disch:=first|exact dsc|fail) only [go_sem,seval,-List.reduceReplicate]) ?_
   (repeat refine .z rfl ?_);refine .text ?_;simp (disch:=first|exact dsc|fail) only [go_sem,seval,-List.reduceReplicate,e3]
   repeat refine .z rfl ?_
   refine ih _ _ ?_
   simp (disch:=first|exact dsc|fail) only [go_sem,seval,-List.reduceReplicate,e0,e3]
   simp only [List.replicate_succ',List.append_assoc,Nat.add_assoc,and_self]

set_option maxHeartbeats 8000000 in
theorem Bytes_spec {G:Globs} (d:List (BitVec 8)) (hd:d.length=32) (H:Hp) (R:AV → Hp → Prop) (h:R (.p (.sl false 1 (pl b8 d))) H) :
 ACall Tryd.prog G 44 [.p (.agg (pl b8 d))] H R:=by
 refine ACall.of_run (raw:=[]) Tryd.func44 rfl Tryd.ntmps44 (by simp) fun hbel => ?_
 (repeat refine .z rfl ?_);refine .text ?_;simp (disch:=first|exact dsc|fail) only [go_sem,seval,-List.reduceReplicate]
 (repeat refine .z rfl ?_);refine .text ?_;simp (disch:=first|exact dsc|fail) only [go_sem,seval,-List.reduceReplicate]
 (repeat refine .z rfl ?_);refine .text ?_;simp (disch:=first|exact dsc|fail) only [go_sem,seval,-List.reduceReplicate]
 repeat refine .z rfl ?_
 (repeat refine .z rfl ?_);refine .own 3 (by simp (disch:=first|exact dsc|fail) only [go_sem,seval,-List.reduceReplicate];rfl) ?_
 refine .count (fun i env H'=>env 1 = .ptr H.n 0∧env 4 = .p (i64 i)∧env 3 = .sl (H.n+1) i 1 (pl b8 (d.take i))∧H'=(H.new (.cells (cl b8 d))).new (.tail i)) 0 32 (by omega) ?_ ?_ ?_
 · simp (disch:=first|exact dsc|fail) only [go_sem,seval,-List.reduceReplicate]
   rfl
 · intro env H' ⟨e1,e4,e3,eH⟩
   subst eH
   (repeat refine .z rfl ?_);refine .text ?_;simp (disch:=first|exact dsc|fail) only [go_sem,seval,-List.reduceReplicate,e4]
   (repeat refine .z rfl ?_);refine .ifF (by simp (disch:=first|exact dsc|fail) only [go_sem,seval,-List.reduceReplicate]) ?_
   (repeat refine .z rfl ?_);refine .text ?_;simp (disch:=first|exact dsc|fail) only [go_sem,seval,-List.reduceReplicate,e3]
   (repeat refine .z rfl ?_);refine .rt Tryd.func44 (by rw [Tryd.results44]) (hR := ?_);simp (disch:=first|exact dsc|fail) only [go_sem,seval,-List.reduceReplicate]
   exact h
 · intro i env H' _ hi ⟨e1,e4,e3,eH⟩ ih
   subst eH
   (repeat refine .z rfl ?_);refine .text ?_;simp (disch:=first|exact dsc|fail) only [go_sem,seval,-List.reduceReplicate,e4]
   (repeat refine .z rfl ?_);refine .ifT (by simp (disch:=first|exact dsc|fail) only [go_sem,seval,-List.reduceReplicate]) ?_
   (repeat refine .z rfl ?_);refine .text ?_;simp (disch:=first|exact dsc|fail) only [go_sem,seval,-List.reduceReplicate,e1,e3,e4]
   (repeat refine .z rfl ?_);refine .text ?_;simp (disch:=first|exact dsc|fail) only [go_sem,seval,-List.reduceReplicate,e4]
   refine ih _ _ ?_
   simp (disch:=first|exact dsc|fail) only [go_sem,seval,-List.reduceReplicate,e1,e3,e4]

set_option maxHeartbeats 8000000 in
theorem Digest_spec {G:Globs} (s:List (BitVec 32)) (hs:s.length=8) (H:Hp) (R:AV → Hp → Prop) (h:R (.p (.agg (pl b8 (dg s 32)))) H) :
 ACall Tryd.prog G 58 [.p (.agg (pl w32 s))] H R:=by
 refine ACall.of_run (raw:=[]) Tryd.func58 rfl Tryd.ntmps58 (by simp) fun hbel => ?_
 (repeat refine .z rfl ?_);refine .text ?_;simp (disch:=first|exact dsc|fail) only [go_sem,seval,-List.reduceReplicate]
 (repeat refine .z rfl ?_);refine .text ?_;simp (disch:=first|exact dsc|fail) only [go_sem,seval,-List.reduceReplicate]
 (repeat refine .z rfl ?_);refine .text ?_;simp (disch:=first|exact dsc|fail) only [go_sem,seval,-List.reduceReplicate]
 repeat refine .z rfl ?_
 refine .count (fun i env H'=>env 1 = .ptr H.n 0∧env 2 = .ptr (H.n+1) 0∧env 3 = .ptr (H.n+2) 0∧env 4 = .p (i64 i)∧H'=((H.new (.cells (cl w32 s))).new (.cells (cl b8 (List.replicate 32 0#8)))).new (.cells (cl b8 (dg s i)))) 0 32 (by omega) ?_ ?_ ?_
 · simp (disch:=first|exact dsc|fail) only [go_sem,seval,-List.reduceReplicate]
   rw [dg]
 · intro env H' ⟨e1,e2,e3,e4,eH⟩
   subst eH
   (repeat refine .z rfl ?_);refine .text ?_;simp (disch:=first|exact dsc|fail) only [go_sem,seval,-List.reduceReplicate,e4]
   (repeat refine .z rfl ?_);refine .ifF (by simp (disch:=first|exact dsc|fail) only [go_sem,seval,-List.reduceReplicate]) ?_
   (repeat refine .z rfl ?_);refine .text ?_;simp (disch:=first|exact dsc|fail) only [go_sem,seval,-List.reduceReplicate,e2,e3]
   (repeat refine .z rfl ?_);refine .rt Tryd.func58 (by rw [Tryd.results58]) (hx:=by simp (disch:=first|exact dsc|fail) only [go_sem,seval,-List.reduceReplicate,e2];rfl) (hR := ?_);simp (disch:=first|exact dsc|fail) only [go_sem,seval,-List.reduceReplicate,e2]
   exact h
 · intro i env H' _ hi ⟨e1,e2,e3,e4,eH⟩ ih
   subst eH
   have ht:(24 - 8*((i:Int) % 4)).toNat=24 - 8*(i % 4):=by omega
   (repeat refine .z rfl ?_);refine .text ?_;simp (disch:=first|exact dsc|fail) only [go_sem,seval,-List.reduceReplicate,e4]
   (repeat refine .z rfl ?_);refine .ifT (by simp (disch:=first|exact dsc|fail) only [go_sem,seval,-List.reduceReplicate]) ?_
   (repeat refine .z rfl ?_);refine .text ?_;simp (disch:=first|exact dsc|fail) only [go_sem,seval,-List.reduceReplicate,e1,e3,e4,ht]
   (repeat refine .z rfl ?_);refine .text ?_;simp (disch:=first|exact dsc|fail) only [go_sem,seval,-List.reduceReplicate,e4]
   refine ih _ _ ?_
   simp (disch:=first|exact dsc|fail) only [go_sem,seval,-List.reduceReplicate,e1,e2,e3,e4]
   rw [dg]

end Go.Proofs.YtmoecjgehdkhkaaDoor

/-
  The walks of the reference's hash,leaf,pair and keyed hash.
-/
namespace Go.Proofs.YtmoecjgehdkhkaaDoor
open Go Go.AL

theorem pad_mod (b:List (BitVec 8)):(pad b).length % 64=0:=by
 rw [pad_len]
 have:=padn_mod b.length
 omega

set_option maxHeartbeats 8000000 in
theorem SumR_spec {G:Globs} (b:List (BitVec 8)) (hb:b.length≤140737488355000) (H:Hp) (R:AV → Hp → Prop) (h:R (.p (.agg (pl b8 (sha b)))) H) :
 ACall Tryd.prog G 29 [.p (.sl false 1 (pl b8 b))] H R:=by
 refine ACall.of_run (raw:=[]) Tryd.func29 rfl Tryd.ntmps29 (by simp) fun hbel => ?_
 have hm:=pad_mod b
 have hl:(pad b).length≤140737488355100:=by rw [pad_len];have:=padn_le b.length;omega
 have hi0:inits.length=8:=rfl
 unfold sha at h
 generalize hp:pad b=p at hm hl h
 (repeat refine .z rfl ?_);refine .text ?_;simp (disch:=first|exact dsc|fail) only [go_sem,seval,-List.reduceReplicate]
 (repeat refine .z rfl ?_);refine .text ?_;simp (disch:=first|exact dsc|fail) only [go_sem,seval,-List.reduceReplicate]
 refine CallK.of (fun R h=>Initial_spec _ R h) ?_;simp (disch:=first|exact dsc|fail) only [go_sem,seval,-List.reduceReplicate]
 refine CallK.of (fun R h=>Pad_spec b hb _ R h) ?_;simp (disch:=first|exact dsc|fail) only [go_sem,seval,-List.reduceReplicate,hp]
 (repeat refine .z rfl ?_);refine .text ?_;simp (disch:=first|exact dsc|fail) only [go_sem,seval,-List.reduceReplicate]
 repeat refine .z rfl ?_
 refine .count (fun i env H'=>env 2 = .ptr H.n 0∧env 3 = .ptr (H.n+1) 0∧env 4 = .p (.sl false 1 (pl b8 p))∧env 5 = .p (i64 (64*i:Nat)) ∧
  H'=(H.new (.cells (cl b8 (List.replicate 32 0#8)))).new (.cells (cl w32 (runBlocks p inits i)))) 0 (p.length / 64) (by omega) ?_ ?_ ?_
 · simp (disch:=first|exact dsc|fail) only [go_sem,seval,-List.reduceReplicate]
   rw [runBlocks]
 · intro env H' ⟨e2,e3,e4,e5,eH⟩
   subst eH
   have hr:(runBlocks p inits (p.length / 64)).length=8:=runBlocks_len _ _ hi0 _
   generalize runBlocks p inits (p.length / 64)=s at hr h
   have h64:64*(p.length / 64)=p.length:=by omega
   rw [h64] at e5
   (repeat refine .z rfl ?_);refine .text ?_;simp (disch:=first|exact dsc|fail) only [go_sem,seval,-List.reduceReplicate,e4,e5]
   (repeat refine .z rfl ?_);refine .ifF (by simp (disch:=first|exact dsc|fail) only [go_sem,seval,-List.reduceReplicate]) ?_
   (repeat refine .z rfl ?_);refine .text ?_;simp (disch:=first|exact dsc|fail) only [go_sem,seval,-List.reduceReplicate,e3]
   refine CallK.of (fun R h=>Digest_spec s hr _ R h) ?_;simp (disch:=first|exact dsc|fail) only [go_sem,seval,-List.reduceReplicate,e2]
   (repeat refine .z rfl ?_);refine .rt Tryd.func29 (by rw [Tryd.results29]) (hx:=by simp (disch:=first|exact dsc|fail) only [go_sem,seval,-List.reduceReplicate,e2];rfl) (hR := ?_);simp (disch:=first|exact dsc|fail) only [go_sem,seval,-List.reduceReplicate,e2]
   exact h
 · intro i env H' _ hi ⟨e2,e3,e4,e5,eH⟩ ih
   subst eH
   have hr:(runBlocks p inits i).length=8:=runBlocks_len _ _ hi0 _
   have hlen:(List.drop (64*i) (List.take (64*i+64) p)).length=64:=by simp;omega
   (repeat refine .z rfl ?_);refine .text ?_;simp (disch:=first|exact dsc|fail) only [go_sem,seval,-List.reduceReplicate,e4,e5]
   (repeat refine .z rfl ?_);refine .ifT (by simp (disch:=first|exact dsc|fail) only [go_sem,seval,-List.reduceReplicate]) ?_
   (repeat refine .z rfl ?_);refine .open [7] follows (by kernel_rfl) ?_;simp (disch:=first|exact dsc|fail) only [go_sem,seval,-List.reduceReplicate,e3,e4,e5]
   refine CallD.still (fun R h=>Compress_spec _ _ hr hlen _ R h) ?_;simp (disch:=first|exact dsc|fail) only [go_sem,seval,-List.reduceReplicate,e3]
   (repeat refine .z rfl ?_);refine .text ?_;simp (disch:=first|exact dsc|fail) only [go_sem,seval,-List.reduceReplicate,e5]
   refine ih _ _ ?_
   simp (disch:=first|exact dsc|fail) only [go_sem,seval,-List.reduceReplicate,e2,e3,e4,e5]
   rw [runBlocks]
   exact ⟨congrArg (fun z=>AV.p (i64 z)) (by omega),rfl⟩

set_option maxHeartbeats 8000000 in
theorem PairR_spec {G:Globs} (a b:List (BitVec 8)) (ha:a.length=32) (hb:b.length=32) (H:Hp) (R:AV → Hp → Prop) (h:R (.p (.agg (pl b8 (pair a b)))) H) :
 ACall Tryd.prog G 28 [.p (.agg (pl b8 a)),.p (.agg (pl b8 b))] H R:=by
 refine ACall.of_run (raw:=[]) Tryd.func28 rfl Tryd.ntmps28 (by simp) fun hbel => ?_
 (repeat refine .z rfl ?_);refine .text ?_;simp (disch:=first|exact dsc|fail) only [go_sem,seval,-List.reduceReplicate]
 (repeat refine .z rfl ?_);refine .open [8] follows (by kernel_rfl) ?_;simp (disch:=first|exact dsc|fail) only [go_sem,seval,-List.reduceReplicate]
 refine CallD.still (fun R h=>Bytes_spec a ha _ R h) ?_;simp (disch:=first|exact dsc|fail) only [go_sem,seval,-List.reduceReplicate]
 refine CallD.still (fun R h=>Join_spec [1#8] a (by simp) (by simp;omega) _ R h) ?_;simp (disch:=first|exact dsc|fail) only [go_sem,seval,-List.reduceReplicate]
 refine CallD.still (fun R h=>Bytes_spec b hb _ R h) ?_;simp (disch:=first|exact dsc|fail) only [go_sem,seval,-List.reduceReplicate]
 refine CallD.still (fun R h=>Join_spec ([1#8]++a) b (by simp;omega) (by simp;omega) _ R h) ?_;simp (disch:=first|exact dsc|fail) only [go_sem,seval,-List.reduceReplicate]
 refine CallD.still (fun R h=>SumR_spec ([1#8]++a++b) (by simp;omega) _ R h) ?_;simp (disch:=first|exact dsc|fail) only [go_sem,seval,-List.reduceReplicate]
 (repeat refine .z rfl ?_);refine .rt Tryd.func28 (by rw [Tryd.results28]) (hR := ?_);simp (disch:=first|exact dsc|fail) only [go_sem,seval,-List.reduceReplicate]
 exact h

end Go.Proofs.YtmoecjgehdkhkaaDoor

/-
  The walks of the comparison of bytes and of the row of equal bytes.
-/
namespace Go.Proofs.YtmoecjgehdkhkaaDoor
open Go Go.AL

set_option maxHeartbeats 8000000 in
theorem SameBytes_spec {G:Globs} (a b:List (BitVec 8)) (ha:a.length≤140737488355000) (hb:b.length≤140737488355000) (H:Hp) (R:AV → Hp → Prop) (h:R (.p (bo (decide (a=b)))) H) :
 ACall Tryd.prog G 11 [.p (.sl false 1 (pl b8 a)),.p (.sl false 1 (pl b8 b))] H R:=by
 refine ACall.of_run (raw:=[]) Tryd.func11 rfl Tryd.ntmps11 (by simp) fun hbel => ?_
 (repeat refine .z rfl ?_);refine .text ?_;simp (disch:=first|exact dsc|fail) only [go_sem,seval,-List.reduceReplicate]
 by_cases hl:a.length=b.length
 case neg =>
  have hne:a≠b:=fun e=>hl (by rw [e])
  (repeat refine .z rfl ?_);refine .text ?_;simp (disch:=first|exact dsc|fail) only [go_sem,seval,-List.reduceReplicate]
  (repeat refine .z rfl ?_);refine .ifT (by simp (disch:=first|exact dsc|fail) only [go_sem,seval,-List.reduceReplicate]) ?_
  (repeat refine .z rfl ?_);refine .text ?_;simp (disch:=first|exact dsc|fail) only [go_sem,seval,-List.reduceReplicate]
  (repeat refine .z rfl ?_);refine .rt Tryd.func11 (by rw [Tryd.results11]) (hR := ?_);simp (disch:=first|exact dsc|fail) only [go_sem,seval,-List.reduceReplicate]
  rw [decide_eq_false hne] at h
  exact h
 (repeat refine .z rfl ?_);refine .text ?_;simp (disch:=first|exact dsc|fail) only [go_sem,seval,-List.reduceReplicate]
 (repeat refine .z rfl ?_);refine .ifF (by simp (disch:=first|exact dsc|fail) only [go_sem,seval,-List.reduceReplicate]) ?_
 (repeat refine .z rfl ?_);refine .text ?_;simp (disch:=first|exact dsc|fail) only [go_sem,seval,-List.reduceReplicate]
 repeat refine .z rfl ?_
 refine .count (fun i env H'=>env 0 = .p (.sl false 1 (pl b8 a))∧env 1 = .p (.sl false 1 (pl b8 b))∧env 5 = .p (i64 i)∧(∀ j,j < i → nth a j=nth b j)∧H'=H) 0 a.length (by omega) ?_ ?_ ?_
 · simp (disch:=first|exact dsc|fail) only [go_sem,seval,-List.reduceReplicate]
   omega
 · intro env H' ⟨e0,e1,e5,hj,eH⟩
   subst eH
   have he:a=b:=nth_ext hl hj
   (repeat refine .z rfl ?_);refine .text ?_;simp (disch:=first|exact dsc|fail) only [go_sem,seval,-List.reduceReplicate,e0,e5]
   (repeat refine .z rfl ?_);refine .ifF (by simp (disch:=first|exact dsc|fail) only [go_sem,seval,-List.reduceReplicate]) ?_
   (repeat refine .z rfl ?_);refine .text ?_;simp (disch:=first|exact dsc|fail) only [go_sem,seval,-List.reduceReplicate]
   (repeat refine .z rfl ?_);refine .rt Tryd.func11 (by rw [Tryd.results11]) (hR := ?_);simp (disch:=first|exact dsc|fail) only [go_sem,seval,-List.reduceReplicate]
   rw [decide_eq_true he] at h
   exact h
 · intro i env H' _ hi ⟨e0,e1,e5,hj,eH⟩ ih
   subst eH
   have hi2:i < b.length:=by omega
   (repeat refine .z rfl ?_);refine .text ?_;simp (disch:=first|exact dsc|fail) only [go_sem,seval,-List.reduceReplicate,e0,e5]
   (repeat refine .z rfl ?_);refine .ifT (by simp (disch:=first|exact dsc|fail) only [go_sem,seval,-List.reduceReplicate]) ?_
   (repeat refine .z rfl ?_);refine .open [] follows (by kernel_rfl) ?_;simp (disch:=first|exact dsc|fail) only [go_sem,seval,-List.reduceReplicate,e0,e1,e5]
   by_cases hx:nth a i=nth b i
   · have hbn:(nth a i != nth b i)=false:=by simp [hx]
     (repeat refine .z rfl ?_);refine .ifF (by simp (disch:=first|exact dsc|fail) only [go_sem,seval,-List.reduceReplicate,hbn]) ?_
     (repeat refine .z rfl ?_);refine .text ?_;simp (disch:=first|exact dsc|fail) only [go_sem,seval,-List.reduceReplicate,e5]
     refine ih _ _ ?_
     simp (disch:=first|exact dsc|fail) only [go_sem,seval,-List.reduceReplicate,e0,e1,e5]
     intro j hj'
     by_cases hji:j=i
     · subst hji;exact hx
     · exact hj j (by omega)
   · have hbn:(nth a i != nth b i)=true:=by simp [hx]
     have hne:a≠b:=fun e=>hx (by rw [e])
     (repeat refine .z rfl ?_);refine .ifT (by simp (disch:=first|exact dsc|fail) only [go_sem,seval,-List.reduceReplicate,hbn]) ?_
     (repeat refine .z rfl ?_);refine .text ?_;simp (disch:=first|exact dsc|fail) only [go_sem,seval,-List.reduceReplicate]
     (repeat refine .z rfl ?_);refine .rt Tryd.func11 (by rw [Tryd.results11]) (hR := ?_);simp (disch:=first|exact dsc|fail) only [go_sem,seval,-List.reduceReplicate]
     rw [decide_eq_false hne] at h
     exact h

end Go.Proofs.YtmoecjgehdkhkaaDoor

/-
  Sessions: numbers as bytes;the program's write and read.
-/
namespace Go.Proofs.YtmoecjgehdkhkaaDoor
open Go Go.AL

abbrev By:=List (BitVec 8)
abbrev U:=BitVec 64
theorem CallD.of {C:Cx} {ops:Array Oper} {q:Nat → Bool} {f:FuncId} {args':List AV} {dst:Option Nat} {n:Nat} {rest:List Oper} {k:List Item} {env:Env} {H H':Hp} {R:AV → Hp → Prop} {r:AV}
 (h : ∀ R:AV → Hp → Prop,R r H' → ACall C.P C.G f args' H R) (hk:runD C ops q n rest k (env.put dst r) H' R):CallD C ops q false f args' dst n rest k env H R :=
 .moves (h (fun r' H2=>r'=r∧H2=H') ⟨rfl,rfl⟩) (by rintro _ _ ⟨rfl,rfl⟩;exact hk)

theorem ACall.wk {P:Program} {f:FuncId} {args:List AV} {G:Globs} {H:Hp} {R R':AV → Hp → Prop} (h:ACall P G f args H R') (hw : ∀ r H',R' r H' → ∃ r',R r' H' ∧ ∀ σ w v,RelV σ H' w r v → RelV σ H' w r' v):ACall P G f args H R:=by
 intro σ w vs h1 h2
 refine (h σ w vs h1 h2).mono ?_
 rintro e W' ⟨r,H',σ',v,q1,q2,q3,q4,q5⟩
 obtain ⟨r',p1,p2⟩:=hw r H' q1
 exact ⟨r',H',σ',v,p1,q2,q3,p2 _ _ _ q4,q5⟩
theorem opA_val {C:Cx} {ops:Array Oper} {i:Nat} {o:Oper} {K:Env → Hp → Prop} {env:Env} {H:Hp} (x:AV) (ho:ops[i]? = some o) (hg:o.guard=none) (hs:stepOp C.P C.G o.op o.type env H = .val x H) (hd:dstOK C.nt o.dst=true)
 (hK:K (env.put o.dst x) H):opA C ops false i K env H:=by
 unfold opA
 rw [ho]
 simp only [hg,wantedA,aOp1,hs,sOp]
 exact ⟨hd,hK⟩
theorem opA_valH {C:Cx} {ops:Array Oper} {i:Nat} {o:Oper} {K:Env → Hp → Prop} {env:Env} {H H':Hp} (x:AV) (ho:ops[i]? = some o) (hg:o.guard=none) (hs:stepOp C.P C.G o.op o.type env H = .val x H') (hd:dstOK C.nt o.dst=true)
 (hK:K (env.put o.dst x) H'):opA C ops false i K env H:=by
 unfold opA
 rw [ho]
 simp only [hg,wantedA,aOp1,hs,sOp]
 exact ⟨hd,hK⟩
theorem opA_unit {C:Cx} {ops:Array Oper} {i:Nat} {o:Oper} {K:Env → Hp → Prop} {env:Env} {H H':Hp} (ho:ops[i]? = some o) (hg:o.guard=none) (hs:stepOp C.P C.G o.op o.type env H = .unit H') (hd:o.dst=none)
 (hK:K env H'):opA C ops false i K env H:=by
 unfold opA
 rw [ho]
 simp only [hg,wantedA,aOp1,hs,sOp]
 exact ⟨hd,by rw [hd];exact hK⟩
theorem opA_call {C:Cx} {ops:Array Oper} {i:Nat} {o:Oper} {K:Env → Hp → Prop} {env:Env} {H:Hp} {f:FuncId} {xs xs':List AV} {r:AV} {H':Hp} (ho:ops[i]? = some o) (hg:o.guard=none) (hs:stepOp C.P C.G o.op o.type env H = .call f xs) (hd:dstOK C.nt o.dst=true)
 (hargs:callArgs C.raw f xs=xs') (hc : ∀ R:AV → Hp → Prop,R r H' → ACall C.P C.G f xs' H R) (hK:K (env.put o.dst r) H'):opA C ops false i K env H:=by
 unfold opA
 rw [ho]
 simp only [hg,wantedA,aOp1,hs,sOp,hargs]
 exact ⟨hd,hc _ hK⟩
theorem more_ne {L:Nat → Bool} {i k:Nat} (h:k≠i):more L i k=L k:=by simp [more,h]
theorem more_eq {L:Nat → Bool} {i:Nat}:more L i i=true:=by simp [more]
theorem more_t {L:Nat → Bool} {i k:Nat} (h:L k=true):more L i k=true:=by simp [more,h]
def allT (L:Nat → Bool) (l:List Nat):Prop := ∀ d∈l,L d=true
theorem allT_nil {L:Nat → Bool}:allT L []:=fun d h=>by cases h
theorem allT_cons {L:Nat → Bool} {d:Nat} {l:List Nat} (h:L d=true) (t:allT L l):allT L (d :: l):=fun x hx=>by
 rcases List.mem_cons.1 hx with rfl | hx
 · exact h
 · exact t x hx
section inv
variable {L:Nat → Bool} {i j s:Nat} {env:Env} {d:Option Nat} {x v:AV} {l:List Nat}
theorem nfT (m:L j=true → allT L l) (hL:L i=false) (h:i∈l:=by decide):L j=false:=Bool.eq_false_iff.2 fun e=>by
 have:=m e i h
 rw [hL] at this;cases this
theorem kf (e:env s=v) (h:d≠some s:=by decide):env.put d x s=v:=(put_ne fun i hi q=>h (hi.trans (congrArg some q))).trans e
theorem kp (g:L j=true → env s=v) (h:j≠i:=by decide) (hd:d≠some s:=by decide):more L i j=true → env.put d x s=v:=fun q=>kf (g (by rwa [more_ne h] at q)) hd
theorem kp0 (g:L j=true → env s=v) (h:j≠i:=by decide):more L i j=true → env s=v:=fun q=>g (by rwa [more_ne h] at q)
theorem kn {p:Prop}:p → env.put (some s) x s=x:=fun _=>put_some.trans (if_pos rfl)
theorem kj {p:Prop} (e:L j=false) (h:j≠i:=by decide):more L i j=true → p:=fun q=>by rw [more_ne h,e] at q;cases q
theorem kt (t:allT L l):allT (more L i) l:=fun d h=>more_t (t d h)
theorem kt1:allT (more L i) [i]:=fun d h=>by
 rcases List.mem_cons.1 h with rfl | h
 · exact more_eq
 · cases h
theorem ka (m:L j=true → allT L l) (h:j≠i:=by decide):more L i j=true → allT (more L i) l:=fun q=>kt (m (by rwa [more_ne h] at q))
theorem kx {p:Prop}:more L i i=false → p:=fun q=>by rw [more_eq] at q;cases q
theorem kq (f:L j=false → env s=v) (h:j≠i:=by decide) (hd:d≠some s:=by decide):more L i j=false → env.put d x s=v:=fun q=>kf (f (by rwa [more_ne h] at q)) hd
end inv

theorem callArgs_one {f:FuncId} {args:List AV}:callArgs [f] f args=args:=by simp [callArgs]
theorem callArgs_ne {f g:Nat} {args:List AV} (h:f≠g):callArgs [g] f args=args.map AV.weak:=by simp [callArgs,h]
attribute [go_sem] callArgs_one callArgs_ne
def le (x:U):Nat → By
 | 0=>[]
 | n+1=>le x n++[(x >>> (8*n)).setWidth 8]
theorem le_len {x:U} : ∀ {n},(le x n).length=n
 | 0=>rfl
 | n+1=>by simp [le,le_len]
theorem le_succ {x:U} {n:Nat}:le x (n+1)=le x n++[(x >>> (8*n)).setWidth 8]:=rfl

def rd:By → U
 | []=>0
 | c :: b=>rd b <<< 8 ||| c.setWidth 64
theorem rd_drop {b:By} {i:Nat} (h:i < b.length):rd (b.drop i)=rd (b.drop (i+1)) <<< 8 ||| (nth b i).setWidth 64:=by
 rw [List.drop_eq_getElem_cons h,show nth b i=b[i] by simp [nth,h]]
 rfl

section walks
variable {G:Globs}
set_option maxHeartbeats 4000000 in
theorem write_spec (b:By) (x:U) (n:Nat) (hb:b.length+n≤140737488355000) (α v:Nat) (H:Hp) (hα:H.f α=some (.tail v)) (R:AV → Hp → Prop) (h:R (.sl α (v+n) 1 (pl b8 (b++le x n))) (H.set α (.tail (v+n)))) :
 ACall Tryd.prog G 40 [.sl α v 1 (pl b8 b),.p (w64 x),.p (i64 n)] H R:=by
 refine ACall.of_run (raw:=[]) Tryd.func40 rfl Tryd.ntmps40 (by simp) fun hbel => ?_
 have hαn:=Hp.lt hα
 have hs0:H.set α (.tail v)=H:=Hp.set_same H _ α hα
 (repeat refine .z rfl ?_);refine .text ?_;simp (disch:=first|exact dsc|fail) only [go_sem,seval]
 (repeat refine .z rfl ?_);refine .text ?_;simp (disch:=first|exact dsc|fail) only [go_sem,seval]
 (repeat refine .z rfl ?_);refine .loopH [7] (fun i=>[(0,.sl α (v+i) 1 (pl b8 (b++le x i))),(1,.p (w64 (x >>> (8*i)))),(8,.p (i64 i))]) (fun i=>H.set α (.tail (v+i))) (fun i=>True) (0) (n) (by omega) ?_ (by first | rfl | (simp (disch:=first|exact dsc|fail) only [go_sem,seval,le,hs0,List.append_nil,Nat.mul_zero,BitVec.ushiftRight_zero]<;>rfl)) ?_ ?_ ?_
 · simp (disch:=first|exact dsc|fail) only [go_sem,seval,le,hs0,List.append_nil,Nat.mul_zero,BitVec.ushiftRight_zero]<;>(repeat' (first | rfl | refine And.intro ?_ ?_))
 · exact trivial
 intro env E hQ;simp (disch:=first|exact dsc|fail) only [go_sem,seval,le,hs0,List.append_nil,Nat.mul_zero,BitVec.ushiftRight_zero] at E
 rotate_left 1
 intro i env hi0 hi E hQ ihE;simp (disch:=first|exact dsc|fail) only [go_sem,seval,le,hs0,List.append_nil,Nat.mul_zero,BitVec.ushiftRight_zero] at E
 rotate_left 1
 · (repeat refine .z rfl ?_);refine .text ?_;simp (disch:=first|exact dsc|fail) only [go_sem,seval,E]
   (repeat refine .z rfl ?_);refine .ifF (by simp (disch:=first|exact dsc|fail) only [go_sem,seval]) ?_
   (repeat refine .z rfl ?_);refine .text ?_;simp (disch:=first|exact dsc|fail) only [go_sem,seval,E]
   (repeat refine .z rfl ?_);refine .retKeep Tryd.func40 (by rw [Tryd.results40]) (by simp (disch:=first|exact dsc|fail) only [go_sem,seval,E];rfl) ?_;(try simp (disch:=first|exact dsc|fail) only [go_sem,seval,E])
   exact h
 · have h8:x >>> (8*i) >>> 8=x >>> (8*(i+1)):=by rw [←BitVec.shiftRight_add];rfl
   have hl:=le_len (x:=x) (n:=i)
   (repeat refine .z rfl ?_);refine .text ?_;simp (disch:=first|exact dsc|fail) only [go_sem,seval,E]
   (repeat refine .z rfl ?_);refine .ifT (by simp (disch:=first|exact dsc|fail) only [go_sem,seval]) ?_
   (repeat refine .z rfl ?_);refine .text ?_;simp (disch:=first|exact dsc|fail) only [go_sem,seval,E,hl]
   (repeat refine .z rfl ?_);refine .text ?_;simp (disch:=first|exact dsc|fail) only [go_sem,seval,E]
   (repeat refine .z rfl ?_);refine .text ?_;simp (disch:=first|exact dsc|fail) only [go_sem,seval,E]
   first | (refine ihE _ _ ?_ trivial ?_) | (refine .z rfl ?_;refine ihE _ _ ?_ trivial ?_) | (refine .z rfl ?_;refine .z rfl ?_;refine ihE _ _ ?_ trivial ?_) | (refine .z rfl ?_;refine .z rfl ?_;refine .z rfl ?_;refine ihE _ _ ?_ trivial ?_)
   · simp (disch:=first|exact dsc|fail) only [go_sem,seval,E,h8,le_succ,List.append_assoc,Nat.add_assoc]<;>(repeat' (first | rfl | refine And.intro ?_ ?_))
   · first | rfl | (simp (disch:=first|exact dsc|fail) only [go_sem,seval,E,h8,le_succ,List.append_assoc,Nat.add_assoc]<;>(try rfl))

set_option maxHeartbeats 4000000 in
theorem write_spec0 (b:By) (x:U) (n:Nat) (hb:b.length+n≤140737488355000) (H:Hp) (R:AV → Hp → Prop) (h:R (.sl H.n n 1 (pl b8 (b++le x n))) (H.new (.tail n))) :
 ACall Tryd.prog G 40 [.p (.sl true 1 (pl b8 b)),.p (w64 x),.p (i64 n)] H R:=by
 refine ACall.of_run (raw:=[]) Tryd.func40 rfl Tryd.ntmps40 (by simp) fun hbel => ?_
 (repeat refine .z rfl ?_);refine .text ?_;simp (disch:=first|exact dsc|fail) only [go_sem,seval]
 (repeat refine .z rfl ?_);refine .own 0 (by simp (disch:=first|exact dsc|fail) only [go_sem,seval];rfl) ?_
 (repeat refine .z rfl ?_);refine .text ?_;simp (disch:=first|exact dsc|fail) only [go_sem,seval]
 (repeat refine .z rfl ?_);refine .loopH [7] (fun i=>[(0,.sl H.n i 1 (pl b8 (b++le x i))),(1,.p (w64 (x >>> (8*i)))),(8,.p (i64 i))]) (fun i=>H.new (.tail i)) (fun i=>True) (0) (n) (by omega) ?_ (by first | rfl | (simp (disch:=first|exact dsc|fail) only [go_sem,seval,le,List.append_nil,Nat.mul_zero,BitVec.ushiftRight_zero]<;>rfl)) ?_ ?_ ?_
 · simp (disch:=first|exact dsc|fail) only [go_sem,seval,le,List.append_nil,Nat.mul_zero,BitVec.ushiftRight_zero]<;>(repeat' (first | rfl | refine And.intro ?_ ?_))
 · exact trivial
 intro env E hQ;simp (disch:=first|exact dsc|fail) only [go_sem,seval,le,List.append_nil,Nat.mul_zero,BitVec.ushiftRight_zero] at E
 rotate_left 1
 intro i env hi0 hi E hQ ihE;simp (disch:=first|exact dsc|fail) only [go_sem,seval,le,List.append_nil,Nat.mul_zero,BitVec.ushiftRight_zero] at E
 rotate_left 1
 · (repeat refine .z rfl ?_);refine .text ?_;simp (disch:=first|exact dsc|fail) only [go_sem,seval,E]
   (repeat refine .z rfl ?_);refine .ifF (by simp (disch:=first|exact dsc|fail) only [go_sem,seval]) ?_
   (repeat refine .z rfl ?_);refine .text ?_;simp (disch:=first|exact dsc|fail) only [go_sem,seval,E]
   (repeat refine .z rfl ?_);refine .retKeep Tryd.func40 (by rw [Tryd.results40]) (by simp (disch:=first|exact dsc|fail) only [go_sem,seval,E];rfl) ?_;(try simp (disch:=first|exact dsc|fail) only [go_sem,seval,E])
   exact h
 · have h8:x >>> (8*i) >>> 8=x >>> (8*(i+1)):=by rw [←BitVec.shiftRight_add];rfl
   have hl:=le_len (x:=x) (n:=i)
   (repeat refine .z rfl ?_);refine .text ?_;simp (disch:=first|exact dsc|fail) only [go_sem,seval,E]
   (repeat refine .z rfl ?_);refine .ifT (by simp (disch:=first|exact dsc|fail) only [go_sem,seval]) ?_
   (repeat refine .z rfl ?_);refine .text ?_;simp (disch:=first|exact dsc|fail) only [go_sem,seval,E,hl]
   (repeat refine .z rfl ?_);refine .text ?_;simp (disch:=first|exact dsc|fail) only [go_sem,seval,E]
   (repeat refine .z rfl ?_);refine .text ?_;simp (disch:=first|exact dsc|fail) only [go_sem,seval,E]
   first | (refine ihE _ _ ?_ trivial ?_) | (refine .z rfl ?_;refine ihE _ _ ?_ trivial ?_) | (refine .z rfl ?_;refine .z rfl ?_;refine ihE _ _ ?_ trivial ?_) | (refine .z rfl ?_;refine .z rfl ?_;refine .z rfl ?_;refine ihE _ _ ?_ trivial ?_)
   · simp (disch:=first|exact dsc|fail) only [go_sem,seval,E,h8,le_succ,List.append_assoc]<;>(repeat' (first | rfl | refine And.intro ?_ ?_))
   · first | rfl | (simp (disch:=first|exact dsc|fail) only [go_sem,seval,E,h8,le_succ,List.append_assoc]<;>(try rfl))

theorem Backward_spec (L:By) (H:Hp) (R:AV → Hp → Prop) (h:R (.clo 77 [] [.ptr H.n 0]) (H.new (.cells [.p (.sl false 1 (pl b8 L))]))):ACall Tryd.prog G 61 [.p (.sl false 1 (pl b8 L))] H R:=by
 refine ACall.of_run (raw:=[]) Tryd.func61 rfl Tryd.ntmps61 (by simp) fun hbel => ?_
 (repeat refine .z rfl ?_);refine .text ?_;simp (disch:=first|exact dsc|fail) only [go_sem,seval]
 (repeat refine .z rfl ?_);refine .text ?_;simp (disch:=first|exact dsc|fail) only [go_sem,seval]
 (repeat refine .z rfl ?_);refine .retKeep Tryd.func61 (by rw [Tryd.results61]) (by simp (disch:=first|exact dsc|fail) only [go_sem,seval];rfl) ?_;(try simp (disch:=first|exact dsc|fail) only [go_sem,seval])
 exact h

set_option maxHeartbeats 8000000 in
theorem Backward1_spec (L:By) (hl:L.length≤140737488355000) (y p m:Nat) (X:Nat → Hp) (hX : ∀ i,(X i).n=m) (hB : ∀ i,Bel m (X i)) (hy0:y < m) (hp : ∀ i,(X i).f p=some (.cells [.p (.sl false 1 (pl b8 L))]))
 (hy : ∀ j,j < L.length → ∀ (S:List AB) (K:AV → Hp → Prop),K (.p (bo true)) (app (X (j+1)) S) → AYield Tryd.prog G y [.p (i64 ((L.length:Int) - 1 - j)),.p (b8 (nth L (L.length - 1 - j)))] (app (X j) S) K)
 (R:AV → Hp → Prop) (h:R (.tup []) (X L.length)):ACall Tryd.prog G 77 [.yld y,.ptr p 0] (X 0) R:=by
 have hX0:=hX 0
 have hp0:=hp 0
 refine ACall.of_run (raw:=[]) Tryd.func77 rfl Tryd.ntmps77 (by simp) fun hbel => ?_
 rw [hX0]
 have hbel : ∀ i,Bel m (X i):=hB
 (repeat refine .z rfl ?_);refine .text ?_;simp (disch:=first|exact dsc|fail) only [go_sem,seval,hp0]
 (repeat refine .z rfl ?_);refine .loopH [0,1] (fun j=>[(3,.p (i64 ((L.length:Int) - 1 - j)))]) (fun j=>X j) (fun j=>True) (0) (L.length) (by omega) ?_ (by first | rfl | (simp (disch:=first|exact dsc|fail) only [go_sem,seval,Int.sub_zero]<;>rfl)) ?_ ?_ ?_
 · simp (disch:=first|exact dsc|fail) only [go_sem,seval,Int.sub_zero]<;>(repeat' (first | rfl | refine And.intro ?_ ?_))
 · exact trivial
 intro env E hQ;simp (disch:=first|exact dsc|fail) only [go_sem,seval,Int.sub_zero] at E
 rotate_left 1
 intro j env hj0 hj E hQ ihE;simp (disch:=first|exact dsc|fail) only [go_sem,seval,Int.sub_zero] at E
 rotate_left 1
 · have d:decide ((0:Int)≤(L.length:Int) - 1 - (L.length:Int))=false:=by simp only [decide_eq_false_iff_not];omega
   have hXe:=hX L.length
   (repeat refine .z rfl ?_);refine .text ?_;simp (disch:=first|exact dsc|fail) only [go_sem,seval,E,d]
   (repeat refine .z rfl ?_);refine .ifF (by simp (disch:=first|exact dsc|fail) only [go_sem,seval,d]) ?_
   (repeat refine .z rfl ?_);refine .fin Tryd.func77 (by rw [Tryd.results77]) (by simp (disch:=first|exact dsc|fail) only [go_sem,seval];rfl) (by simp (disch:=first|exact dsc|fail) only [go_sem,seval];rfl) (by (try dsimp only);repeat (first | with_reducible refine bel_new ?_ dsc | with_reducible refine bel_appl ?_ dsc | with_reducible refine bel_set ?_ dsc | with_reducible refine bel_cl ?_ | with_reducible exact hbel | with_reducible exact hbel _)) ?_;simp (disch:=first|exact dsc|fail) only [go_sem,seval]
   (try rw [trunc_eq hXe.symm])
   exact h
 · have d:decide ((0:Int)≤(L.length:Int) - 1 - (j:Int))=true:=by simp only [decide_eq_true_eq];omega
   have ht:((L.length:Int) - 1 - (j:Int)).toNat=L.length - 1 - j:=by omega
   have hyj:=hy j hj []
   simp only [app_nil] at hyj
   have hpj:=hp j
   have hq:(L.length:Int) - 1 - ((j:Int)+1)=(L.length:Int) - 1 - (j:Int) - 1:=by omega
   (repeat refine .z rfl ?_);refine .text ?_;simp (disch:=first|exact dsc|fail) only [go_sem,seval,E,d]
   (repeat refine .z rfl ?_);refine .ifT (by simp (disch:=first|exact dsc|fail) only [go_sem,seval,d]) ?_
   (repeat refine .z rfl ?_);refine .text ?_;simp (disch:=first|exact dsc|fail) only [go_sem,seval,E,hpj,ht]
   refine YieldK.of (fun K hK=>hyj K hK) ?_;simp (disch:=first|exact dsc|fail) only [go_sem,seval]
   (repeat refine .z rfl ?_);refine .ifF (by simp (disch:=first|exact dsc|fail) only [go_sem,seval]) ?_
   (repeat refine .z rfl ?_);refine .text ?_;simp (disch:=first|exact dsc|fail) only [go_sem,seval,E]
   first | (refine ihE _ _ ?_ trivial ?_) | (refine .z rfl ?_;refine ihE _ _ ?_ trivial ?_) | (refine .z rfl ?_;refine .z rfl ?_;refine ihE _ _ ?_ trivial ?_) | (refine .z rfl ?_;refine .z rfl ?_;refine .z rfl ?_;refine ihE _ _ ?_ trivial ?_)
   · simp (disch:=first|exact dsc|fail) only [go_sem,seval,E,hq]<;>(repeat' (first | rfl | refine And.intro ?_ ?_))
   · first | rfl | (simp (disch:=first|exact dsc|fail) only [go_sem,seval,E,hq]<;>(try rfl))

set_option maxHeartbeats 8000000 in
theorem read_spec (b:By) (hb:b.length≤140737488355000) (H:Hp) (R:AV → Hp → Prop) (h:R (.p (w64 (rd b))) H):ACall Tryd.prog G 33 [.p (.sl false 1 (pl b8 b))] H R:=by
 refine ACall.of_run (raw:=[]) Tryd.func33 rfl Tryd.ntmps33 (by simp) fun hbel => ?_
 (repeat refine .z rfl ?_);refine .text ?_;simp (disch:=first|exact dsc|fail) only [go_sem,seval]
 (repeat refine .z rfl ?_);refine .text ?_;simp (disch:=first|exact dsc|fail) only [go_sem,seval]
 refine CallK.of (fun R h=>Backward_spec b _ R h) ?_;simp (disch:=first|exact dsc|fail) only [go_sem,seval]
 (repeat refine .z rfl ?_);refine .rangeFunc (ps:=[7,8]) rfl (by simp (disch:=first|exact dsc|fail) only [go_sem,seval];rfl) (by simp (disch:=first|exact dsc|fail) only [go_sem,seval]) (by simp) fun L vs hL hvs hround => ?_;simp (disch:=first|exact dsc|fail) only [go_sem,seval]
 have h0:0#64=rd (b.drop (b.length - 0)):=by rw [Nat.sub_zero,List.drop_length];rfl
 rw [h0]
 refine Backward1_spec b hb (H.n+2) (H.n+1) (H.n+3) (fun j=>(((H.new (.cells [.p (w64 (rd (b.drop (b.length - j))))])).new (.cells [.p (.sl false 1 (pl b8 b))])).new (.obj vs (L .ready none)))) (fun j=>by simp (disch:=first|exact dsc|fail) only [go_sem,seval]) (fun j => ?_) (by omega) (fun j=>by simp (disch:=first|exact dsc|fail) only [go_sem,seval]) (fun j hj S K hK => ?_) _ ?_
 · (try dsimp only);(repeat (first | with_reducible exact hbel | with_reducible exact bel_start hbel dsc | with_reducible refine bel_newc ?_ | with_reducible refine bel_newp ?_ | with_reducible refine bel_newt ?_ | with_reducible refine bel_newo hvs ?_ dsc | with_reducible refine bel_cl ?_ | with_reducible refine bel_setp ?_ | with_reducible refine bel_sett ?_ | with_reducible refine bel_setd ?_ | with_reducible refine bel_newd ?_))
 · have hst:rd (b.drop (b.length - (j+1)))=rd (b.drop (b.length - j)) <<< 8 ||| (nth b (b.length - 1 - j)).setWidth 64:=by
    rw [rd_drop (b:=b) (i:=b.length - (j+1)) (by omega),show b.length - (j+1)+1=b.length - j by omega,show b.length - (j+1)=b.length - 1 - j by omega]
   rw [hst] at hK
   refine hround _ _ _ rfl (by simp (disch:=first|exact dsc|fail) only [go_sem,seval]) fun hbel2 => ?_
   dsimp only
   simp (disch:=first|exact dsc|fail) only [go_sem,seval]
   (repeat refine .z rfl ?_);refine .text ?_;simp (disch:=first|exact dsc|fail) only [go_sem,seval]
   (repeat refine .z rfl ?_);refine .beginRound rfl hL (by simp (disch:=first|exact dsc|fail) only [go_sem,seval];rfl) ?_;simp (disch:=first|exact dsc|fail) only [go_sem,seval]
   (repeat refine .z rfl ?_);refine .text ?_;simp (disch:=first|exact dsc|fail) only [go_sem,seval]
   (repeat refine .z rfl ?_);refine .roundEndK rfl hL (by simp (disch:=first|exact dsc|fail) only [go_sem,seval];rfl) ?_;simp (disch:=first|exact dsc|fail) only [go_sem,seval]
   exact hK
 · unfold LoopEnd;refine ⟨?_,.inl ⟨(by simp (disch:=first|exact dsc|fail) only [go_sem,seval]<;>rfl),?_⟩⟩;(try dsimp only);(repeat (first | with_reducible exact hbel | with_reducible exact bel_start hbel dsc | with_reducible refine bel_newc ?_ | with_reducible refine bel_newp ?_ | with_reducible refine bel_newt ?_ | with_reducible refine bel_newo hvs ?_ dsc | with_reducible refine bel_cl ?_ | with_reducible refine bel_setp ?_ | with_reducible refine bel_sett ?_ | with_reducible refine bel_setd ?_ | with_reducible refine bel_newd ?_));simp (disch:=first|exact dsc|fail) only [go_sem,seval]
   rw [Nat.sub_self,List.drop_zero]
   (repeat refine .z rfl ?_);refine .text ?_;simp (disch:=first|exact dsc|fail) only [go_sem,seval]
   (repeat refine .z rfl ?_);refine .rt Tryd.func33 (by rw [Tryd.results33]) (hR := ?_);simp (disch:=first|exact dsc|fail) only [go_sem,seval]
   exact h

theorem small_spec (n:Int) (H:Hp) (R:AV → Hp → Prop) (h:R (.p (bo (decide (0≤n) && decide (n≤2147483647)))) H):ACall Tryd.prog G 64 [.p (i64 n)] H R:=by
 refine ACall.of_run (raw:=[]) Tryd.func64 rfl Tryd.ntmps64 (by simp) fun hbel => ?_
 (repeat refine .z rfl ?_);refine .text ?_;simp (disch:=first|exact dsc|fail) only [go_sem,seval]
 (repeat refine .z rfl ?_);refine .text ?_;simp (disch:=first|exact dsc|fail) only [go_sem,seval]
 (first | refine guarded_split (fun h1 => ?_) (fun h1 => ?_) | refine guardedD_split (fun h1 => ?_) (fun h1 => ?_))<;>(try simp only [Bool.not_eq_true',Bool.not_eq_false'] at h1)<;>simp (disch:=first|exact dsc|fail) only [go_sem,seval,h1]
 · (repeat refine .z rfl ?_);refine .rt Tryd.func64 (by rw [Tryd.results64]) (hR := ?_);simp (disch:=first|exact dsc|fail) only [go_sem,seval]
   simpa [h1] using h
 · (repeat refine .z rfl ?_);refine .rt Tryd.func64 (by rw [Tryd.results64]) (hR := ?_);simp (disch:=first|exact dsc|fail) only [go_sem,seval]
   simpa [h1] using h

theorem empty_spec (a b c:Int) (ha:0≤a∧a≤1000000000000000) (hb:0≤b∧b≤1000000000000000) (hc:0≤c∧c≤1000000000000000) (H:Hp) (R:AV → Hp → Prop) (h:R (.p (bo (a+b+c == 0))) H):ACall Tryd.prog G 107 [.p (i64 a),.p (i64 b),.p (i64 c)] H R:=by
 refine ACall.of_run (raw:=[]) Tryd.func107 rfl Tryd.ntmps107 (by simp) fun hbel => ?_
 (repeat refine .z rfl ?_);refine .text ?_;simp (disch:=first|exact dsc|fail) only [go_sem,seval]
 (repeat refine .z rfl ?_);refine .text ?_;simp (disch:=first|exact dsc|fail) only [go_sem,seval]
 (repeat refine .z rfl ?_);refine .rt Tryd.func107 (by rw [Tryd.results107]) (hR := ?_);simp (disch:=first|exact dsc|fail) only [go_sem,seval]
 exact h
theorem rule1_spec (a b c:Int) (ha:0≤a∧a≤1000000000000000) (hb:0≤b∧b≤1000000000000000) (hc:0≤c∧c≤1000000000000000) (H:Hp) (R:AV → Hp → Prop) (h:R (.p (bo (decide (1≤a) && decide (a≤400) && (b+c == 0)))) H):ACall Tryd.prog G 106 [.p (i64 a),.p (i64 b),.p (i64 c)] H R:=by
 refine ACall.of_run (raw:=[]) Tryd.func106 rfl Tryd.ntmps106 (by simp) fun hbel => ?_
 (repeat refine .z rfl ?_);refine .text ?_;simp (disch:=first|exact dsc|fail) only [go_sem,seval]
 (repeat refine .z rfl ?_);refine .text ?_;simp (disch:=first|exact dsc|fail) only [go_sem,seval]
 (first | refine guarded_split (fun h1 => ?_) (fun h1 => ?_) | refine guardedD_split (fun h1 => ?_) (fun h1 => ?_))<;>(try simp only [Bool.not_eq_true',Bool.not_eq_false'] at h1)<;>simp (disch:=first|exact dsc|fail) only [go_sem,seval,h1]
 · (first | refine guarded_split (fun h2 => ?_) (fun h2 => ?_) | refine guardedD_split (fun h2 => ?_) (fun h2 => ?_))<;>(try simp only [Bool.not_eq_true',Bool.not_eq_false'] at h2)<;>simp (disch:=first|exact dsc|fail) only [go_sem,seval,h2]
   · (repeat refine .z rfl ?_);refine .rt Tryd.func106 (by rw [Tryd.results106]) (hR := ?_);simp (disch:=first|exact dsc|fail) only [go_sem,seval]
     simpa [h1,h2] using h
   · (repeat refine .z rfl ?_);refine .rt Tryd.func106 (by rw [Tryd.results106]) (hR := ?_);simp (disch:=first|exact dsc|fail) only [go_sem,seval]
     simpa [h1,h2] using h
 · (repeat refine .z rfl ?_);refine .rt Tryd.func106 (by rw [Tryd.results106]) (hR := ?_);simp (disch:=first|exact dsc|fail) only [go_sem,seval]
   simpa [h1] using h
theorem rule2_spec (a b c:Int) (ha:0≤a∧a≤1000000000000000) (hb:0≤b∧b≤1000000000000000) (hc:0≤c∧c≤1000000000000000) (H:Hp) (R:AV → Hp → Prop) (h:R (.p (bo (decide (b≤64) && (a+c == 0)))) H):ACall Tryd.prog G 108 [.p (i64 a),.p (i64 b),.p (i64 c)] H R:=by
 refine ACall.of_run (raw:=[]) Tryd.func108 rfl Tryd.ntmps108 (by simp) fun hbel => ?_
 (repeat refine .z rfl ?_);refine .text ?_;simp (disch:=first|exact dsc|fail) only [go_sem,seval]
 (repeat refine .z rfl ?_);refine .text ?_;simp (disch:=first|exact dsc|fail) only [go_sem,seval]
 (first | refine guarded_split (fun h1 => ?_) (fun h1 => ?_) | refine guardedD_split (fun h1 => ?_) (fun h1 => ?_))<;>(try simp only [Bool.not_eq_true',Bool.not_eq_false'] at h1)<;>simp (disch:=first|exact dsc|fail) only [go_sem,seval,h1]
 · (repeat refine .z rfl ?_);refine .rt Tryd.func108 (by rw [Tryd.results108]) (hR := ?_);simp (disch:=first|exact dsc|fail) only [go_sem,seval]
   simpa [h1] using h
 · (repeat refine .z rfl ?_);refine .rt Tryd.func108 (by rw [Tryd.results108]) (hR := ?_);simp (disch:=first|exact dsc|fail) only [go_sem,seval]
   simpa [h1] using h
theorem rule3_spec (a b c:Int) (ha:0≤a∧a≤1000000000000000) (hb:0≤b∧b≤1000000000000000) (hc:0≤c∧c≤1000000000000000) (H:Hp) (R:AV → Hp → Prop) (h:R (.p (bo ((c == 1) && (a+b == 0)))) H):ACall Tryd.prog G 109 [.p (i64 a),.p (i64 b),.p (i64 c)] H R:=by
 refine ACall.of_run (raw:=[]) Tryd.func109 rfl Tryd.ntmps109 (by simp) fun hbel => ?_
 (repeat refine .z rfl ?_);refine .text ?_;simp (disch:=first|exact dsc|fail) only [go_sem,seval]
 (repeat refine .z rfl ?_);refine .text ?_;simp (disch:=first|exact dsc|fail) only [go_sem,seval]
 (first | refine guarded_split (fun h1 => ?_) (fun h1 => ?_) | refine guardedD_split (fun h1 => ?_) (fun h1 => ?_))<;>(try simp only [Bool.not_eq_true',Bool.not_eq_false'] at h1)<;>simp (disch:=first|exact dsc|fail) only [go_sem,seval,h1]
 · (repeat refine .z rfl ?_);refine .rt Tryd.func109 (by rw [Tryd.results109]) (hR := ?_);simp (disch:=first|exact dsc|fail) only [go_sem,seval]
   simpa [h1] using h
 · (repeat refine .z rfl ?_);refine .rt Tryd.func109 (by rw [Tryd.results109]) (hR := ?_);simp (disch:=first|exact dsc|fail) only [go_sem,seval]
   simpa [h1] using h
theorem rule4_spec (a b c:Int) (ha:0≤a∧a≤1000000000000000) (hb:0≤b∧b≤1000000000000000) (hc:0≤c∧c≤1000000000000000) (H:Hp) (R:AV → Hp → Prop) (h:R (.p (bo (decide (c≤64) && (a+b == 0)))) H):ACall Tryd.prog G 110 [.p (i64 a),.p (i64 b),.p (i64 c)] H R:=by
 refine ACall.of_run (raw:=[]) Tryd.func110 rfl Tryd.ntmps110 (by simp) fun hbel => ?_
 (repeat refine .z rfl ?_);refine .text ?_;simp (disch:=first|exact dsc|fail) only [go_sem,seval]
 (repeat refine .z rfl ?_);refine .text ?_;simp (disch:=first|exact dsc|fail) only [go_sem,seval]
 (first | refine guarded_split (fun h1 => ?_) (fun h1 => ?_) | refine guardedD_split (fun h1 => ?_) (fun h1 => ?_))<;>(try simp only [Bool.not_eq_true',Bool.not_eq_false'] at h1)<;>simp (disch:=first|exact dsc|fail) only [go_sem,seval,h1]
 · (repeat refine .z rfl ?_);refine .rt Tryd.func110 (by rw [Tryd.results110]) (hR := ?_);simp (disch:=first|exact dsc|fail) only [go_sem,seval]
   simpa [h1] using h
 · (repeat refine .z rfl ?_);refine .rt Tryd.func110 (by rw [Tryd.results110]) (hR := ?_);simp (disch:=first|exact dsc|fail) only [go_sem,seval]
   simpa [h1] using h
end walks
end Go.Proofs.YtmoecjgehdkhkaaDoor

/-
  Sessions: messages and sessions as data;the rules;which messages are valid.
-/
namespace Go.Proofs.YtmoecjgehdkhkaaDoor
open Go Go.AL

def Dg := {l:By // l.length=32}
instance:Inhabited Dg:=⟨⟨List.replicate 32 0#8,rfl⟩⟩
instance:DecidableEq Dg:=inferInstanceAs (DecidableEq {l:By // l.length=32})
theorem Dg.len (d:Dg):d.val.length=32:=d.2
def zD:Dg:=⟨List.replicate 32 0#8,rfl⟩
structure Ext where
 a:U
 b:U
 deriving DecidableEq,Inhabited
def ext (x:Ext):PV := .agg [w64 x.a,w64 x.b]
structure Msg where
 kind:Int
 session:Int
 step:Int
 text:By
 root:Dg
 sums:List Int
 values:List Ext
 deriving DecidableEq
structure Ses where
 id:Int
 step:Int
 state:Int
 text:By
 seen:Dg
 last:Msg
 due:Int
 bytes:Int
 rounds:Int
 words:Int
 deriving DecidableEq
def msgL (m:Msg):List PV:=[i64 m.kind,i64 m.session,i64 m.step,str (bytesOf m.text)]++(pl b8 m.root.val++[.sl false 1 (pl i64 m.sums),.sl false 2 (pl ext m.values)])
def sesL (s:Ses):List PV:=[i64 s.id,i64 s.step,i64 s.state,str (bytesOf s.text)]++(pl b8 s.seen.val++(msgL s.last++[i64 s.due,i64 s.bytes,i64 s.rounds,i64 s.words]))
def msg (m:Msg):PV := .agg (msgL m)
def ses (s:Ses):PV := .agg (sesL s)
def mcl (m:Msg):List AV:=(msgL m).map .p
def scl (s:Ses):List AV:=(sesL s).map .p
def dgv (d:Dg):PV := .agg (pl b8 d.val)

theorem bytesOf_size {l:By}:(bytesOf l).size=l.length:=by simp [bytesOf,ByteArray.size]

section cells
variable {m:Msg} {s:Ses}
theorem msgL_len:(msgL m).length=38:=by simp [msgL,pl_len,m.root.len]
theorem sesL_len:(sesL s).length=78:=by simp [sesL,pl_len,msgL_len,s.seen.len]
theorem mcl_len:(mcl m).length=38:=by rw [mcl,List.length_map,msgL_len]
theorem scl_len:(scl s).length=78:=by rw [scl,List.length_map,sesL_len]
theorem acells_msg:acells (.p (msg m))=some (mcl m):=rfl
theorem acells_ses:acells (.p (ses s))=some (scl s):=rfl
theorem acells_dg (d:Dg):acells (.p (dgv d))=some (cl b8 d.val):=acells_pl
theorem pvs_p (l:List PV):pvs? (l.map .p)=some l:=by
 induction l with
 | nil=>rfl
 | cons a l ih=>simp [pvs?,ih,AV.pv?]
theorem mkAgg_mcl:mkAgg (mcl m) = .p (msg m):=by unfold mkAgg mcl;rw [pvs_p];rfl
theorem mkAgg_scl:mkAgg (scl s) = .p (ses s):=by unfold mkAgg scl;rw [pvs_p];rfl
theorem mkAgg_dg (d:Dg):mkAgg (cl b8 d.val) = .p (dgv d):=mkAgg_cl
theorem mcl_take:(mcl m).take 38=mcl m:=List.take_of_length_le (by rw [mcl_len];exact Nat.le_refl _)
theorem scl_take:(scl s).take 78=scl s:=List.take_of_length_le (by rw [scl_len];exact Nat.le_refl _)
theorem mcl_eq:mcl m = .p (i64 m.kind) :: .p (i64 m.session) :: .p (i64 m.step) :: .p (str (bytesOf m.text)) :: (cl b8 m.root.val++[.p (.sl false 1 (pl i64 m.sums)),.p (.sl false 2 (pl ext m.values))]):=by simp [mcl,msgL,cl,pl]
theorem scl_eq:scl s = .p (i64 s.id) :: .p (i64 s.step) :: .p (i64 s.state) :: .p (str (bytesOf s.text)) :: (cl b8 s.seen.val++(mcl s.last++[.p (i64 s.due),.p (i64 s.bytes),.p (i64 s.rounds),.p (i64 s.words)])):=by simp [scl,sesL,mcl,cl,pl]
theorem dcl_len (d:Dg):(cl b8 d.val).length=32:=by rw [cl_len,d.len]
theorem get_app {a b:List AV} {i n:Nat} (h:a.length=n) (hi:n≤i):(a++b)[i]? = b[i - n]? := by rw [List.getElem?_append_right (by omega),h]
theorem mcl0:(mcl m)[0]? = some (.p (i64 m.kind)):=by rw [mcl_eq];rfl
theorem mcl1:(mcl m)[1]? = some (.p (i64 m.session)):=by rw [mcl_eq];rfl
theorem mcl2:(mcl m)[2]? = some (.p (i64 m.step)):=by rw [mcl_eq];rfl
theorem mcl3:(mcl m)[3]? = some (.p (str (bytesOf m.text))):=by rw [mcl_eq];rfl
theorem mcl36:(mcl m)[36]? = some (.p (.sl false 1 (pl i64 m.sums))):=by rw [mcl_eq];simp only [List.getElem?_cons_succ];rw [get_app (dcl_len _) (by omega)];rfl
theorem mcl37:(mcl m)[37]? = some (.p (.sl false 2 (pl ext m.values))):=by rw [mcl_eq];simp only [List.getElem?_cons_succ];rw [get_app (dcl_len _) (by omega)];rfl
theorem mclR:((mcl m).drop 4).take 32=cl b8 m.root.val:=by
 rw [mcl_eq];simp only [List.drop_succ_cons,List.drop_zero]
 rw [List.take_append_of_le_length (by rw [dcl_len];omega),List.take_of_length_le (by rw [dcl_len];omega)]
theorem mclD4:(mcl m).drop 4=cl b8 m.root.val++[.p (.sl false 1 (pl i64 m.sums)),.p (.sl false 2 (pl ext m.values))]:=by rw [mcl_eq];rfl
theorem refElems_app {l:By} {r:List AV} : ∀ {n:Nat},n≤l.length → refElems false 1 n (cl b8 l++r)=some (pl b8 (l.take n)):=by
 induction l with
 | nil=>intro n h;simp at h;subst h;rfl
 | cons a l ih =>
  intro n h
  cases n with
  | zero=>rfl
  | succ n =>
   have:=ih (n:=n) (by simpa using h)
   simp only [cl,List.map_cons,List.cons_append] at this ⊢
   simp only [refElems]
   rw [if_pos (by simp)]
   simp only [List.take_succ_cons,List.take_zero,List.drop_succ_cons,List.drop_zero,this]
   rfl
theorem refElems_root:refElems false 1 32 ((mcl m).drop 4)=some (pl b8 m.root.val):=by
 rw [mclD4,refElems_app (by rw [m.root.len];exact Nat.le_refl _),List.take_of_length_le (by rw [m.root.len];exact Nat.le_refl _)]
theorem scl0:(scl s)[0]? = some (.p (i64 s.id)):=by rw [scl_eq];rfl
theorem scl1:(scl s)[1]? = some (.p (i64 s.step)):=by rw [scl_eq];rfl
theorem scl2:(scl s)[2]? = some (.p (i64 s.state)):=by rw [scl_eq];rfl
theorem scl3:(scl s)[3]? = some (.p (str (bytesOf s.text))):=by rw [scl_eq];rfl
theorem sclR:((scl s).drop 4).take 32=cl b8 s.seen.val:=by
 rw [scl_eq];simp only [List.drop_succ_cons,List.drop_zero]
 rw [List.take_append_of_le_length (by rw [dcl_len];omega),List.take_of_length_le (by rw [dcl_len];omega)]
theorem scl_last {i:Nat} (h:i < 38):(scl s)[36+i]? = (mcl s.last)[i]? := by
 rw [scl_eq,show 36+i=32+i+1+1+1+1 by omega]
 simp only [List.getElem?_cons_succ]
 rw [get_app (dcl_len _) (by omega),Nat.add_sub_cancel_left,List.getElem?_append_left (by rw [mcl_len];exact h)]
theorem scl36:(scl s)[36]? = some (.p (i64 s.last.kind)):=(scl_last (i:=0) (by omega)).trans mcl0
theorem scl38:(scl s)[38]? = some (.p (i64 s.last.step)):=(scl_last (i:=2) (by omega)).trans mcl2
theorem scl_tail {i:Nat}:(scl s)[74+i]? = [AV.p (i64 s.due),.p (i64 s.bytes),.p (i64 s.rounds),.p (i64 s.words)][i]? := by
 rw [scl_eq,show 74+i=32+(38+i)+1+1+1+1 by omega]
 simp only [List.getElem?_cons_succ]
 rw [get_app (dcl_len _) (by omega),Nat.add_sub_cancel_left,get_app mcl_len (by omega),Nat.add_sub_cancel_left]
theorem scl74:(scl s)[74]? = some (.p (i64 s.due)):=scl_tail (i:=0)
theorem scl75:(scl s)[75]? = some (.p (i64 s.bytes)):=scl_tail (i:=1)
theorem scl76:(scl s)[76]? = some (.p (i64 s.rounds)):=scl_tail (i:=2)
theorem scl77:(scl s)[77]? = some (.p (i64 s.words)):=scl_tail (i:=3)
theorem sclD4:(scl s).drop 4=cl b8 s.seen.val++(mcl s.last++[.p (i64 s.due),.p (i64 s.bytes),.p (i64 s.rounds),.p (i64 s.words)]):=by rw [scl_eq];rfl
theorem sclD36:(scl s).drop 36=mcl s.last++[.p (i64 s.due),.p (i64 s.bytes),.p (i64 s.rounds),.p (i64 s.words)]:=by
 rw [show (36:Nat)=4+32 by rfl,←List.drop_drop,sclD4,List.drop_append_of_le_length (by rw [dcl_len];omega),List.drop_of_length_le (by rw [dcl_len];omega)];rfl
theorem sclM:((scl s).drop 36).take 38=mcl s.last:=by
 rw [sclD36,List.take_append_of_le_length (by rw [mcl_len];omega),mcl_take]
theorem sclU:((scl s).drop 75).take 3=[.p (i64 s.bytes),.p (i64 s.rounds),.p (i64 s.words)]:=by
 rw [show (75:Nat)=36+(38+1) by rfl,←List.drop_drop,sclD36,←List.drop_drop,List.drop_append_of_le_length (by rw [mcl_len];omega),show (mcl s.last).drop 38=[] from List.drop_of_length_le (by rw [mcl_len];omega)]
 rfl
end cells

section stores
variable {m:Msg} {s:Ses}
theorem mset0 {x:Int}:(mcl m).set 0 (.p (i64 x))=mcl { m with kind:=x }:=by rw [mcl_eq,mcl_eq];rfl
theorem mset1 {x:Int}:(mcl m).set 1 (.p (i64 x))=mcl { m with session:=x }:=by rw [mcl_eq,mcl_eq];rfl
theorem mset2 {x:Int}:(mcl m).set 2 (.p (i64 x))=mcl { m with step:=x }:=by rw [mcl_eq,mcl_eq];rfl
theorem mset3 {x:By}:(mcl m).set 3 (.p (str (bytesOf x)))=mcl { m with text:=x }:=by rw [mcl_eq,mcl_eq];rfl
theorem msetR {d:Dg}:setAt (mcl m) 4 (cl b8 d.val)=mcl { m with root:=d }:=by
 rw [setAt_eq _ _ _ (by rw [mcl_len,dcl_len];omega),dcl_len,mcl_eq,mcl_eq]
 simp only [List.take_succ_cons,List.take_zero,List.drop_succ_cons,List.cons_append,List.nil_append]
 rw [List.drop_append_of_le_length (by rw [dcl_len];omega),List.drop_of_length_le (by rw [dcl_len];omega)];rfl
theorem sset1 {x:Int}:(scl s).set 1 (.p (i64 x))=scl { s with step:=x }:=by rw [scl_eq,scl_eq];rfl
theorem sset2 {x:Int}:(scl s).set 2 (.p (i64 x))=scl { s with state:=x }:=by rw [scl_eq,scl_eq];rfl
theorem sset3 {x:By}:(scl s).set 3 (.p (str (bytesOf x)))=scl { s with text:=x }:=by rw [scl_eq,scl_eq];rfl
theorem ssetR {d:Dg}:setAt (scl s) 4 (cl b8 d.val)=scl { s with seen:=d }:=by
 rw [setAt_eq _ _ _ (by rw [scl_len,dcl_len];omega),dcl_len,scl_eq,scl_eq]
 simp only [List.take_succ_cons,List.take_zero,List.drop_succ_cons,List.cons_append,List.nil_append]
 rw [List.drop_append_of_le_length (by rw [dcl_len];omega),List.drop_of_length_le (by rw [dcl_len];omega)];rfl
theorem ssetM {l:Msg}:setAt (scl s) 36 (mcl l)=scl { s with last:=l }:=by
 rw [setAt_eq _ _ _ (by rw [scl_len,mcl_len];omega),mcl_len]
 have h1:(scl s).take 36 = .p (i64 s.id) :: .p (i64 s.step) :: .p (i64 s.state) :: .p (str (bytesOf s.text)) :: cl b8 s.seen.val:=by
  rw [scl_eq];simp only [List.take_succ_cons]
  rw [List.take_append_of_le_length (by rw [dcl_len];omega),List.take_of_length_le (by rw [dcl_len];omega)]
 have h2:(scl s).drop (36+38)=[.p (i64 s.due),.p (i64 s.bytes),.p (i64 s.rounds),.p (i64 s.words)]:=by
  rw [←List.drop_drop,sclD36,List.drop_append_of_le_length (by rw [mcl_len];omega),List.drop_of_length_le (by rw [mcl_len];omega)];rfl
 rw [h1,h2,scl_eq]
 simp
theorem ssetU {a b c:Int}:setAt (scl s) 75 [.p (i64 a),.p (i64 b),.p (i64 c)]=scl { s with bytes:=a,rounds:=b,words:=c }:=by
 rw [setAt_eq _ _ _ (by rw [scl_len];simp)]
 have h1:(scl s).take 75 = .p (i64 s.id) :: .p (i64 s.step) :: .p (i64 s.state) :: .p (str (bytesOf s.text)) :: (cl b8 s.seen.val++(mcl s.last++[.p (i64 s.due)])):=by
  rw [scl_eq];simp only [List.take_succ_cons]
  rw [show (71:Nat)=(cl b8 s.seen.val).length+39 by rw [dcl_len],List.take_length_add_append,show (39:Nat)=(mcl s.last).length+1 by rw [mcl_len],List.take_length_add_append];rfl
 have h2:(scl s).drop (75+3)=[]:=List.drop_of_length_le (by rw [scl_len];omega)
 simp only [List.length_cons,List.length_nil]
 rw [h1,h2,scl_eq]
 simp
end stores
attribute [go_sem] refElems_root mcl_len scl_len acells_msg acells_ses acells_dg mkAgg_mcl mkAgg_scl mkAgg_dg mcl_take scl_take mcl0 mcl1 mcl2 mcl3 mcl36 mcl37 mclR scl0 scl1 scl2 scl3 sclR scl36 scl38 scl74 scl75 scl76 scl77 sclM sclU mset0 mset1 mset2 mset3 msetR sset1 sset2 sset3 ssetR ssetM ssetU bytesOf_size Dg.len

/-! ### The rules -/
structure Rule where
 first:Int
 every:Int
 fn:FuncId
def iev (n:Int):Value := .int .i64 n
def okI (n:Int):Prop := -9223372036854775808≤n∧n≤9223372036854775807
def rlv (r:Rule):AV := .agg [.p (i64 r.first),.p (i64 r.every),.clo r.fn [] []]
def ivv (n:Int):AV := .p (i64 n)
def ruleT (k:Int):Option Rule :=
 if k=1 then some ⟨0,0,106⟩ else if k=2 then some ⟨1,0,107⟩ else if k=3 then some ⟨3,0,108⟩ else if k=4 then some ⟨2,2,109⟩
 else if k=5 then some ⟨5,2,110⟩ else if k=6 then some ⟨4,2,107⟩ else if k=7 then some ⟨2,2,107⟩ else none
def stateT (k:Int):Option Int:=if k=1 then some 1 else if k=2 ∨ k=3 ∨ k=4 ∨ k=5 then some 2 else if k=6 then some 3 else if k=7 then some 4 else none
theorem wf_i64 {n:Int} (h1 : -9223372036854775808≤n) (h2:n≤9223372036854775807):(Lit.int .i64 n).wf=true:=by
 simp only [Lit.wf,Bool.and_eq_true,decide_eq_true_eq]
 exact ⟨h1,h2⟩
theorem int_key (n:Int) (h:okI n):(keyOf Tryd.prog 3 (iev n)).isSome=true:=by
 unfold keyOf
 simp only [Tryd.underlying3,mapKey,iev]
 rw [if_pos ⟨trivial,wf_i64 h.1 h.2⟩]
 rfl
theorem ruleMap:MapT Tryd.prog 112 i64 iev okI rlv (.p (.agg [i64 0,i64 0,.s .nilFunc])) where
 ty:=⟨_,_,Tryd.underlying112,keyT3,int_key,zeroAV111⟩
 val k:=rfl
 inj a b _ _ h:=by simpa [iev] using h
theorem stateMap:MapT Tryd.prog 120 i64 iev okI ivv (.p (i64 0)) where
 ty:=⟨_,_,Tryd.underlying120,keyT3,int_key,zeroAV3⟩
 val k:=rfl
 inj a b _ _ h:=by simpa [iev] using h
structure GR (G:Globs) (r1 r2:Nat) (m1:List (Int × Rule)) (m2:List (Int × Int)):Prop where
 s0:G 1=some (8,[.agg (pl w32 inits)])
 s1:G 3=some (64,[.agg (pl w32 ks)])
 g1:G 0=some (1,[.s (.map (some r1))])
 g2:G 2=some (1,[.s (.map (some r2))])
 h1:G.map r1=some (tm iev rlv m1)
 h2:G.map r2=some (tm iev ivv m2)
 k1 : ∀ p∈m1,okI p.1
 k2 : ∀ p∈m2,okI p.1
 t1 : ∀ k,assoc k m1=ruleT k
 t2 : ∀ k,assoc k m2=stateT k
theorem GR.rule {G:Globs} {r1 r2:Nat} {m1:List (Int × Rule)} {m2:List (Int × Int)} (g:GR G r1 r2 m1 m2) {k:Int} (h:okI k):aLook Tryd.prog 112 (some (tm iev rlv m1)) (.p (i64 k)) true=some (lookV rlv (.p (.agg [i64 0,i64 0,.s .nilFunc])) (ruleT k)):=by rw [←g.t1,ruleMap.look g.k1 h]
theorem GR.rule2 {G:Globs} {r1 r2:Nat} {m1:List (Int × Rule)} {m2:List (Int × Int)} (g:GR G r1 r2 m1 m2) {k:Int} (h:okI k):aLook Tryd.prog 112 (some (tm iev rlv m1)) (.p (i64 k)) false=some (match ruleT k with | some v=>rlv v | none => .p (.agg [i64 0,i64 0,.s .nilFunc])):=by rw [←g.t1,ruleMap.at g.k1 h];cases assoc k m1<;>rfl
theorem GR.state {G:Globs} {r1 r2:Nat} {m1:List (Int × Rule)} {m2:List (Int × Int)} (g:GR G r1 r2 m1 m2) {k:Int} (h:okI k):aLook Tryd.prog 120 (some (tm iev ivv m2)) (.p (i64 k)) false=some (.p (i64 ((stateT k).getD 0))):=by
 rw [←g.t2,stateMap.at g.k2 h];cases assoc k m2<;>rfl

def fits (k step:Int):Bool:=match ruleT k with | none=>false | some r => !decide (step < r.first) && (step == r.first || (decide (0 < r.every) && ((step - r.first) % r.every == 0)))
section walks
variable {G:Globs} {r1 r2:Nat} {m1:List (Int × Rule)} {m2:List (Int × Int)}
theorem ruleT_ok {k:Int} {r:Rule} (h:ruleT k=some r):0≤r.first∧r.first≤5∧(r.every=0 ∨ r.every=2):=by
 unfold ruleT at h
 (repeat' split at h)<;>cases h<;>simp
theorem cells_mapv {x:Option Nat}:(PV.s (.map x)).cells=[.s (.map x)]:=rfl
attribute [go_sem] cells_mapv
theorem acells_rule {r:Rule}:acells (rlv r)=some [.p (i64 r.first),.p (i64 r.every),.clo r.fn [] []]:=rfl
theorem acells_rule0:acells (.p (.agg [i64 0,i64 0,.s .nilFunc]))=some [.p (i64 0),.p (i64 0),.p (.s .nilFunc)]:=rfl
attribute [go_sem] acells_rule acells_rule0
theorem fits_spec (g:GR G r1 r2 m1 m2) (k step:Int) (hk:okI k) (hs:okI step) (H:Hp) (R:AV → Hp → Prop) (h:R (.p (bo (fits k step))) H):ACall Tryd.prog G 48 [.p (i64 k),.p (i64 step)] H R:=by
 have e1:=g.g1
 have e2:=g.h1
 have e3:=g.rule hk
 obtain ⟨hs1,hs2⟩:=hs
 unfold fits at h
 refine ACall.of_run (raw:=[]) Tryd.func48 rfl Tryd.ntmps48 (by simp) fun hbel => ?_
 (repeat refine .z rfl ?_);refine .text ?_;simp (disch:=first|exact dsc|fail) only [go_sem,seval]
 cases hr:ruleT k with
 | none =>
  rw [hr] at h e3
  (repeat refine .z rfl ?_);refine .text ?_;simp (disch:=first|exact dsc|fail) only [go_sem,seval,e1,e2,e3]
  (repeat refine .z rfl ?_);refine .text ?_;simp (disch:=first|exact dsc|fail) only [go_sem,seval]
  (repeat refine .z rfl ?_);refine .ifT (by simp (disch:=first|exact dsc|fail) only [go_sem,seval]) ?_
  (repeat refine .z rfl ?_);refine .text ?_;simp (disch:=first|exact dsc|fail) only [go_sem,seval]
  (repeat refine .z rfl ?_);refine .rt Tryd.func48 (by rw [Tryd.results48]) (hR := ?_);simp (disch:=first|exact dsc|fail) only [go_sem,seval]
  exact h
 | some r =>
  rw [hr] at h e3
  obtain ⟨q1,q2,q3⟩:=ruleT_ok hr
  simp only at h
  (repeat refine .z rfl ?_);refine .text ?_;simp (disch:=first|exact dsc|fail) only [go_sem,seval,e1,e2,e3,acells_rule]
  (repeat refine .z rfl ?_);refine .text ?_;simp (disch:=first|exact dsc|fail) only [go_sem,seval]
  by_cases c1:step < r.first
  · have d1:decide (step < r.first)=true:=decide_eq_true c1
    rw [d1] at h
    (repeat refine .z rfl ?_);refine .ifT (by simp (disch:=first|exact dsc|fail) only [go_sem,seval,d1]) ?_
    (repeat refine .z rfl ?_);refine .text ?_;simp (disch:=first|exact dsc|fail) only [go_sem,seval]
    (repeat refine .z rfl ?_);refine .rt Tryd.func48 (by rw [Tryd.results48]) (hR := ?_);simp (disch:=first|exact dsc|fail) only [go_sem,seval]
    exact h
  · have d1:decide (step < r.first)=false:=decide_eq_false c1
    rw [d1] at h
    (repeat refine .z rfl ?_);refine .ifF (by simp (disch:=first|exact dsc|fail) only [go_sem,seval,d1]) ?_
    (repeat refine .z rfl ?_);refine .text ?_;simp (disch:=first|exact dsc|fail) only [go_sem,seval]
    by_cases c2:step=r.first
    · have d2:(step == r.first)=true:=by simp [c2]
      rw [d2] at h
      simp (disch:=first|exact dsc|fail) only [go_sem,seval,d2]
      (repeat refine .z rfl ?_);refine .rt Tryd.func48 (by rw [Tryd.results48]) (hR := ?_);simp (disch:=first|exact dsc|fail) only [go_sem,seval]
      exact h
    · have d2:(step == r.first)=false:=by simp [c2]
      rw [d2] at h
      simp (disch:=first|exact dsc|fail) only [go_sem,seval,d2]
      rcases q3 with q3 | q3
      · have d3:decide (0 < r.every)=false:=by rw [q3];rfl
        rw [d3] at h
        simp (disch:=first|exact dsc|fail) only [go_sem,seval,d3]
        (repeat refine .z rfl ?_);refine .rt Tryd.func48 (by rw [Tryd.results48]) (hR := ?_);simp (disch:=first|exact dsc|fail) only [go_sem,seval]
        exact h
      · have d3:decide (0 < r.every)=true:=by rw [q3];rfl
        rw [d3] at h
        simp (disch:=first|exact dsc|fail) only [go_sem,seval,d3]
        (repeat refine .z rfl ?_);refine .rt Tryd.func48 (by rw [Tryd.results48]) (hR := ?_);simp (disch:=first|exact dsc|fail) only [go_sem,seval]
        exact h
end walks
end Go.Proofs.YtmoecjgehdkhkaaDoor
