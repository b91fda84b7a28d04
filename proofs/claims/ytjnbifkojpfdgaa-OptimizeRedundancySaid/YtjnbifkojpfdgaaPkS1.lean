/-
  What the rules ask of the types and functions of this program: closed facts,by the kernel.
  Conditions: none. Written by gen_tab.py.
-/
import Derived.Test.YtjnbifkojpfdgaaPkE3
import Derived.Test.YtjnbifkojpfdgaaChecked
set_option linter.unusedSimpArgs false
set_option linter.unusedVariables false
namespace Go.Proofs.Ytjnbifkojpfdgaa
open Go Go.AL

theorem cells1:Try.prog.cellsOf 1=1:=by kernel_rfl
theorem info1:(Try.prog.info? 1).isSome=true:=by kernel_rfl
theorem bytes1:Try.prog.bytesOf 1=8:=by kernel_rfl
theorem aggT1:isAggT Try.prog 1=false:=by kernel_rfl
theorem isIface1:isIface Try.prog 1=false:=by kernel_rfl
theorem azero1:azero Try.prog 1=some ([.s .nilFunc]):=by kernel_rfl
theorem zfits1:zfits Try.prog 1=true:=by kernel_rfl
theorem cells2:Try.prog.cellsOf 2=1:=by kernel_rfl
theorem info2:(Try.prog.info? 2).isSome=true:=by kernel_rfl
theorem bytes2:Try.prog.bytesOf 2=8:=by kernel_rfl
theorem aggT2:isAggT Try.prog 2=false:=by kernel_rfl
theorem isInt2:isIntT Try.prog 2=true:=by kernel_rfl
theorem isIface2:isIface Try.prog 2=false:=by kernel_rfl
theorem azero2:azero Try.prog 2=some ([i64 0]):=by kernel_rfl
theorem zfits2:zfits Try.prog 2=true:=by kernel_rfl
theorem cells3:Try.prog.cellsOf 3=1:=by kernel_rfl
theorem info3:(Try.prog.info? 3).isSome=true:=by kernel_rfl
theorem bytes3:Try.prog.bytesOf 3=8:=by kernel_rfl
theorem aggT3:isAggT Try.prog 3=false:=by kernel_rfl
theorem isInt3:isIntT Try.prog 3=true:=by kernel_rfl
theorem isIface3:isIface Try.prog 3=false:=by kernel_rfl
theorem azero3:azero Try.prog 3=some ([i64 0]):=by kernel_rfl
theorem zfits3:zfits Try.prog 3=true:=by kernel_rfl
theorem cells4:Try.prog.cellsOf 4=1:=by kernel_rfl
theorem info4:(Try.prog.info? 4).isSome=true:=by kernel_rfl
theorem bytes4:Try.prog.bytesOf 4=1:=by kernel_rfl
theorem aggT4:isAggT Try.prog 4=false:=by kernel_rfl
theorem isBool4:isBool Try.prog 4=true:=by kernel_rfl
theorem isIface4:isIface Try.prog 4=false:=by kernel_rfl
theorem azero4:azero Try.prog 4=some ([bo false]):=by kernel_rfl
theorem zfits4:zfits Try.prog 4=true:=by kernel_rfl
theorem cells5:Try.prog.cellsOf 5=1:=by kernel_rfl
theorem info5:(Try.prog.info? 5).isSome=true:=by kernel_rfl
theorem bytes5:Try.prog.bytesOf 5=1:=by kernel_rfl
theorem aggT5:isAggT Try.prog 5=false:=by kernel_rfl
theorem isInt5:isIntT Try.prog 5=true:=by kernel_rfl
theorem isIface5:isIface Try.prog 5=false:=by kernel_rfl
theorem azero5:azero Try.prog 5=some ([b8 0#8]):=by kernel_rfl
theorem zfits5:zfits Try.prog 5=true:=by kernel_rfl
theorem cells6:Try.prog.cellsOf 6=1:=by kernel_rfl
theorem info6:(Try.prog.info? 6).isSome=true:=by kernel_rfl
theorem bytes6:Try.prog.bytesOf 6=1:=by kernel_rfl
theorem aggT6:isAggT Try.prog 6=false:=by kernel_rfl
theorem isInt6:isIntT Try.prog 6=true:=by kernel_rfl
theorem isIface6:isIface Try.prog 6=false:=by kernel_rfl
theorem azero6:azero Try.prog 6=some ([b8 0#8]):=by kernel_rfl
theorem zfits6:zfits Try.prog 6=true:=by kernel_rfl
theorem cells7:Try.prog.cellsOf 7=4:=by kernel_rfl
theorem info7:(Try.prog.info? 7).isSome=true:=by kernel_rfl
theorem bytes7:Try.prog.bytesOf 7=24:=by kernel_rfl
theorem aggT7:isAggT Try.prog 7=true:=by kernel_rfl
theorem isIface7:isIface Try.prog 7=false:=by kernel_rfl
theorem azero7:azero Try.prog 7=some ([i64 0,i64 0,bo false,b8 0#8]):=by kernel_rfl
theorem zfits7:zfits Try.prog 7=true:=by kernel_rfl
theorem build7 : ∀ parts,aBuild Try.prog 7 parts=(fillA (fun i=>[some (0,1),some (1,1),some (2,1),some (3,1)][i]?.join) ([.p (i64 0),.p (i64 0),.p (bo false),.p (b8 0#8)]) parts).map mkAgg:=fun _=>aBuild_struct (by kernel_rfl) azero7
theorem cells8:Try.prog.cellsOf 8=4:=by kernel_rfl
theorem info8:(Try.prog.info? 8).isSome=true:=by kernel_rfl
theorem bytes8:Try.prog.bytesOf 8=24:=by kernel_rfl
theorem aggT8:isAggT Try.prog 8=true:=by kernel_rfl
theorem isIface8:isIface Try.prog 8=false:=by kernel_rfl
theorem azero8:azero Try.prog 8=some ([i64 0,i64 0,bo false,b8 0#8]):=by kernel_rfl
theorem zfits8:zfits Try.prog 8=true:=by kernel_rfl
theorem build8 : ∀ parts,aBuild Try.prog 8 parts=(fillA (fun i=>[some (0,1),some (1,1),some (2,1),some (3,1)][i]?.join) ([.p (i64 0),.p (i64 0),.p (bo false),.p (b8 0#8)]) parts).map mkAgg:=fun _=>aBuild_struct (by kernel_rfl) azero8
theorem cells9:Try.prog.cellsOf 9=1:=by kernel_rfl
theorem info9:(Try.prog.info? 9).isSome=true:=by kernel_rfl
theorem bytes9:Try.prog.bytesOf 9=16:=by kernel_rfl
theorem aggT9:isAggT Try.prog 9=false:=by kernel_rfl
theorem isIface9:isIface Try.prog 9=false:=by kernel_rfl
theorem azero9:azero Try.prog 9=some ([str ByteArray.empty]):=by kernel_rfl
theorem zfits9:zfits Try.prog 9=true:=by kernel_rfl
theorem cells10:Try.prog.cellsOf 10=1:=by kernel_rfl
theorem info10:(Try.prog.info? 10).isSome=true:=by kernel_rfl
theorem bytes10:Try.prog.bytesOf 10=16:=by kernel_rfl
theorem aggT10:isAggT Try.prog 10=false:=by kernel_rfl
theorem isIface10:isIface Try.prog 10=false:=by kernel_rfl
theorem azero10:azero Try.prog 10=some ([str ByteArray.empty]):=by kernel_rfl
theorem zfits10:zfits Try.prog 10=true:=by kernel_rfl
theorem cells11:Try.prog.cellsOf 11=1:=by kernel_rfl
theorem info11:(Try.prog.info? 11).isSome=true:=by kernel_rfl
theorem bytes11:Try.prog.bytesOf 11=16:=by kernel_rfl
theorem aggT11:isAggT Try.prog 11=false:=by kernel_rfl
theorem isIface11:isIface Try.prog 11=false:=by kernel_rfl
theorem azero11:azero Try.prog 11=some ([str ByteArray.empty]):=by kernel_rfl
theorem zfits11:zfits Try.prog 11=true:=by kernel_rfl
theorem cells12:Try.prog.cellsOf 12=1:=by kernel_rfl
theorem info12:(Try.prog.info? 12).isSome=true:=by kernel_rfl
theorem bytes12:Try.prog.bytesOf 12=8:=by kernel_rfl
theorem aggT12:isAggT Try.prog 12=false:=by kernel_rfl
theorem isInt12:isIntT Try.prog 12=true:=by kernel_rfl
theorem isIface12:isIface Try.prog 12=false:=by kernel_rfl
theorem azero12:azero Try.prog 12=some ([w64 0#64]):=by kernel_rfl
theorem zfits12:zfits Try.prog 12=true:=by kernel_rfl
theorem cells13:Try.prog.cellsOf 13=2:=by kernel_rfl
theorem info13:(Try.prog.info? 13).isSome=true:=by kernel_rfl
theorem bytes13:Try.prog.bytesOf 13=24:=by kernel_rfl
theorem aggT13:isAggT Try.prog 13=true:=by kernel_rfl
theorem isIface13:isIface Try.prog 13=false:=by kernel_rfl
theorem azero13:azero Try.prog 13=some ([str ByteArray.empty,w64 0#64]):=by kernel_rfl
theorem zfits13:zfits Try.prog 13=true:=by kernel_rfl
theorem build13 : ∀ parts,aBuild Try.prog 13 parts=(fillA (fun i=>[some (0,1),some (1,1)][i]?.join) ([.p (str ByteArray.empty),.p (w64 0#64)]) parts).map mkAgg:=fun _=>aBuild_struct (by kernel_rfl) azero13
theorem cells14:Try.prog.cellsOf 14=2:=by kernel_rfl
theorem info14:(Try.prog.info? 14).isSome=true:=by kernel_rfl
theorem bytes14:Try.prog.bytesOf 14=24:=by kernel_rfl
theorem aggT14:isAggT Try.prog 14=true:=by kernel_rfl
theorem isIface14:isIface Try.prog 14=false:=by kernel_rfl
theorem azero14:azero Try.prog 14=some ([str ByteArray.empty,w64 0#64]):=by kernel_rfl
theorem zfits14:zfits Try.prog 14=true:=by kernel_rfl
theorem build14 : ∀ parts,aBuild Try.prog 14 parts=(fillA (fun i=>[some (0,1),some (1,1)][i]?.join) ([.p (str ByteArray.empty),.p (w64 0#64)]) parts).map mkAgg:=fun _=>aBuild_struct (by kernel_rfl) azero14
theorem cells15:Try.prog.cellsOf 15=1:=by kernel_rfl
theorem info15:(Try.prog.info? 15).isSome=true:=by kernel_rfl
theorem bytes15:Try.prog.bytesOf 15=8:=by kernel_rfl
theorem aggT15:isAggT Try.prog 15=false:=by kernel_rfl
theorem isIface15:isIface Try.prog 15=false:=by kernel_rfl
theorem azero15:azero Try.prog 15=some ([.s (.pointer none)]):=by kernel_rfl
theorem zfits15:zfits Try.prog 15=true:=by kernel_rfl
theorem cells16:Try.prog.cellsOf 16=1:=by kernel_rfl
theorem info16:(Try.prog.info? 16).isSome=true:=by kernel_rfl
theorem bytes16:Try.prog.bytesOf 16=8:=by kernel_rfl
theorem aggT16:isAggT Try.prog 16=false:=by kernel_rfl
theorem isIface16:isIface Try.prog 16=false:=by kernel_rfl
theorem azero16:azero Try.prog 16=some ([.s (.pointer none)]):=by kernel_rfl
theorem zfits16:zfits Try.prog 16=true:=by kernel_rfl
theorem cells17:Try.prog.cellsOf 17=1:=by kernel_rfl
theorem info17:(Try.prog.info? 17).isSome=true:=by kernel_rfl
theorem bytes17:Try.prog.bytesOf 17=8:=by kernel_rfl
theorem aggT17:isAggT Try.prog 17=false:=by kernel_rfl
theorem isIface17:isIface Try.prog 17=false:=by kernel_rfl
theorem azero17:azero Try.prog 17=some ([.s (.pointer none)]):=by kernel_rfl
theorem zfits17:zfits Try.prog 17=true:=by kernel_rfl
theorem cells18:Try.prog.cellsOf 18=1:=by kernel_rfl
theorem info18:(Try.prog.info? 18).isSome=true:=by kernel_rfl
theorem bytes18:Try.prog.bytesOf 18=8:=by kernel_rfl
theorem aggT18:isAggT Try.prog 18=true:=by kernel_rfl
theorem isIface18:isIface Try.prog 18=false:=by kernel_rfl
theorem azero18:azero Try.prog 18=some ([.s (.pointer none)]):=by kernel_rfl
theorem zfits18:zfits Try.prog 18=true:=by kernel_rfl
theorem build18 : ∀ parts,aBuild Try.prog 18 parts=(fillA (fun i=>[some (0,1)][i]?.join) ([.p (.s (.pointer none))]) parts).map mkAgg:=fun _=>aBuild_struct (by kernel_rfl) azero18
theorem cells19:Try.prog.cellsOf 19=1:=by kernel_rfl
theorem info19:(Try.prog.info? 19).isSome=true:=by kernel_rfl
theorem bytes19:Try.prog.bytesOf 19=8:=by kernel_rfl
theorem aggT19:isAggT Try.prog 19=true:=by kernel_rfl
theorem isIface19:isIface Try.prog 19=false:=by kernel_rfl
theorem azero19:azero Try.prog 19=some ([.s (.pointer none)]):=by kernel_rfl
theorem zfits19:zfits Try.prog 19=true:=by kernel_rfl
theorem build19 : ∀ parts,aBuild Try.prog 19 parts=(fillA (fun i=>[some (0,1)][i]?.join) ([.p (.s (.pointer none))]) parts).map mkAgg:=fun _=>aBuild_struct (by kernel_rfl) azero19
theorem cells20:Try.prog.cellsOf 20=1:=by kernel_rfl
theorem info20:(Try.prog.info? 20).isSome=true:=by kernel_rfl
theorem bytes20:Try.prog.bytesOf 20=16:=by kernel_rfl
theorem aggT20:isAggT Try.prog 20=false:=by kernel_rfl
theorem isIface20:isIface Try.prog 20=true:=by kernel_rfl
theorem azero20:azero Try.prog 20=some ([.s .nilIface]):=by kernel_rfl
theorem zfits20:zfits Try.prog 20=true:=by kernel_rfl
theorem cells21:Try.prog.cellsOf 21=1:=by kernel_rfl
theorem info21:(Try.prog.info? 21).isSome=true:=by kernel_rfl
theorem bytes21:Try.prog.bytesOf 21=4:=by kernel_rfl
theorem aggT21:isAggT Try.prog 21=false:=by kernel_rfl
theorem isInt21:isIntT Try.prog 21=true:=by kernel_rfl
theorem isIface21:isIface Try.prog 21=false:=by kernel_rfl
theorem azero21:azero Try.prog 21=some ([.s (.int .i32 0)]):=by kernel_rfl
theorem zfits21:zfits Try.prog 21=true:=by kernel_rfl
theorem cells22:Try.prog.cellsOf 22=1:=by kernel_rfl
theorem info22:(Try.prog.info? 22).isSome=true:=by kernel_rfl
theorem bytes22:Try.prog.bytesOf 22=24:=by kernel_rfl
theorem aggT22:isAggT Try.prog 22=false:=by kernel_rfl
theorem isIface22:isIface Try.prog 22=false:=by kernel_rfl
theorem azero22:azero Try.prog 22=some ([.sl true 1 []]):=by kernel_rfl
theorem zfits22:zfits Try.prog 22=true:=by kernel_rfl
theorem cells23:Try.prog.cellsOf 23=3:=by kernel_rfl
theorem info23:(Try.prog.info? 23).isSome=true:=by kernel_rfl
theorem bytes23:Try.prog.bytesOf 23=40:=by kernel_rfl
theorem aggT23:isAggT Try.prog 23=true:=by kernel_rfl
theorem isIface23:isIface Try.prog 23=false:=by kernel_rfl
theorem azero23:azero Try.prog 23=some ([i64 0,.sl true 1 [],i64 0]):=by kernel_rfl
theorem zfits23:zfits Try.prog 23=true:=by kernel_rfl
theorem build23 : ∀ parts,aBuild Try.prog 23 parts=(fillA (fun i=>[some (0,1),some (1,1),some (2,1)][i]?.join) ([.p (i64 0),.p (.sl true 1 []),.p (i64 0)]) parts).map mkAgg:=fun _=>aBuild_struct (by kernel_rfl) azero23
theorem cells24:Try.prog.cellsOf 24=3:=by kernel_rfl
theorem info24:(Try.prog.info? 24).isSome=true:=by kernel_rfl
theorem bytes24:Try.prog.bytesOf 24=40:=by kernel_rfl
theorem aggT24:isAggT Try.prog 24=true:=by kernel_rfl
theorem isIface24:isIface Try.prog 24=false:=by kernel_rfl
theorem azero24:azero Try.prog 24=some ([i64 0,.sl true 1 [],i64 0]):=by kernel_rfl
theorem zfits24:zfits Try.prog 24=true:=by kernel_rfl
theorem build24 : ∀ parts,aBuild Try.prog 24 parts=(fillA (fun i=>[some (0,1),some (1,1),some (2,1)][i]?.join) ([.p (i64 0),.p (.sl true 1 []),.p (i64 0)]) parts).map mkAgg:=fun _=>aBuild_struct (by kernel_rfl) azero24
theorem cells25:Try.prog.cellsOf 25=1:=by kernel_rfl
theorem info25:(Try.prog.info? 25).isSome=true:=by kernel_rfl
theorem bytes25:Try.prog.bytesOf 25=24:=by kernel_rfl
theorem aggT25:isAggT Try.prog 25=false:=by kernel_rfl
theorem isIface25:isIface Try.prog 25=false:=by kernel_rfl
theorem azero25:azero Try.prog 25=some ([.sl true 1 []]):=by kernel_rfl
theorem zfits25:zfits Try.prog 25=true:=by kernel_rfl
theorem cells26:Try.prog.cellsOf 26=5:=by kernel_rfl
theorem info26:(Try.prog.info? 26).isSome=true:=by kernel_rfl
theorem bytes26:Try.prog.bytesOf 26=72:=by kernel_rfl
theorem aggT26:isAggT Try.prog 26=true:=by kernel_rfl
theorem isIface26:isIface Try.prog 26=false:=by kernel_rfl
theorem azero26:azero Try.prog 26=some ([i64 0,.sl true 1 [],i64 0,.sl true 1 [],b8 0#8]):=by kernel_rfl
theorem zfits26:zfits Try.prog 26=true:=by kernel_rfl
theorem build26 : ∀ parts,aBuild Try.prog 26 parts=(fillA (fun i=>[some (0,3),some (3,1),some (4,1)][i]?.join) ([.p (i64 0),.p (.sl true 1 []),.p (i64 0),.p (.sl true 1 []),.p (b8 0#8)]) parts).map mkAgg:=fun _=>aBuild_struct (by kernel_rfl) azero26
theorem cells27:Try.prog.cellsOf 27=5:=by kernel_rfl
theorem info27:(Try.prog.info? 27).isSome=true:=by kernel_rfl
theorem bytes27:Try.prog.bytesOf 27=72:=by kernel_rfl
theorem aggT27:isAggT Try.prog 27=true:=by kernel_rfl
theorem isIface27:isIface Try.prog 27=false:=by kernel_rfl
theorem azero27:azero Try.prog 27=some ([i64 0,.sl true 1 [],i64 0,.sl true 1 [],b8 0#8]):=by kernel_rfl
theorem zfits27:zfits Try.prog 27=true:=by kernel_rfl
theorem build27 : ∀ parts,aBuild Try.prog 27 parts=(fillA (fun i=>[some (0,3),some (3,1),some (4,1)][i]?.join) ([.p (i64 0),.p (.sl true 1 []),.p (i64 0),.p (.sl true 1 []),.p (b8 0#8)]) parts).map mkAgg:=fun _=>aBuild_struct (by kernel_rfl) azero27
theorem cells28:Try.prog.cellsOf 28=1:=by kernel_rfl
theorem info28:(Try.prog.info? 28).isSome=true:=by kernel_rfl
theorem bytes28:Try.prog.bytesOf 28=8:=by kernel_rfl
theorem aggT28:isAggT Try.prog 28=false:=by kernel_rfl
theorem isIface28:isIface Try.prog 28=false:=by kernel_rfl
theorem azero28:azero Try.prog 28=some ([.s .nilFunc]):=by kernel_rfl
theorem zfits28:zfits Try.prog 28=true:=by kernel_rfl
theorem cells30:Try.prog.cellsOf 30=1:=by kernel_rfl
theorem info30:(Try.prog.info? 30).isSome=true:=by kernel_rfl
theorem bytes30:Try.prog.bytesOf 30=8:=by kernel_rfl
theorem aggT30:isAggT Try.prog 30=false:=by kernel_rfl
theorem isIface30:isIface Try.prog 30=false:=by kernel_rfl
theorem azero30:azero Try.prog 30=some ([.s .nilFunc]):=by kernel_rfl
theorem zfits30:zfits Try.prog 30=true:=by kernel_rfl
theorem cells31:Try.prog.cellsOf 31=1:=by kernel_rfl
theorem info31:(Try.prog.info? 31).isSome=true:=by kernel_rfl
theorem bytes31:Try.prog.bytesOf 31=8:=by kernel_rfl
theorem aggT31:isAggT Try.prog 31=false:=by kernel_rfl
theorem isIface31:isIface Try.prog 31=false:=by kernel_rfl
theorem azero31:azero Try.prog 31=some ([.s .nilFunc]):=by kernel_rfl
theorem zfits31:zfits Try.prog 31=true:=by kernel_rfl
theorem cells32:Try.prog.cellsOf 32=1:=by kernel_rfl
theorem info32:(Try.prog.info? 32).isSome=true:=by kernel_rfl
theorem bytes32:Try.prog.bytesOf 32=8:=by kernel_rfl
theorem aggT32:isAggT Try.prog 32=false:=by kernel_rfl
theorem isIface32:isIface Try.prog 32=false:=by kernel_rfl
theorem azero32:azero Try.prog 32=some ([.s .nilFunc]):=by kernel_rfl
theorem zfits32:zfits Try.prog 32=true:=by kernel_rfl
theorem cells33:Try.prog.cellsOf 33=1:=by kernel_rfl
theorem info33:(Try.prog.info? 33).isSome=true:=by kernel_rfl
theorem bytes33:Try.prog.bytesOf 33=8:=by kernel_rfl
theorem aggT33:isAggT Try.prog 33=false:=by kernel_rfl
theorem isIface33:isIface Try.prog 33=false:=by kernel_rfl
theorem azero33:azero Try.prog 33=some ([.s .nilFunc]):=by kernel_rfl
theorem zfits33:zfits Try.prog 33=true:=by kernel_rfl
theorem cells34:Try.prog.cellsOf 34=1:=by kernel_rfl
theorem info34:(Try.prog.info? 34).isSome=true:=by kernel_rfl
theorem bytes34:Try.prog.bytesOf 34=8:=by kernel_rfl
theorem aggT34:isAggT Try.prog 34=false:=by kernel_rfl
theorem isIface34:isIface Try.prog 34=false:=by kernel_rfl
theorem azero34:azero Try.prog 34=some ([.s .nilFunc]):=by kernel_rfl
theorem zfits34:zfits Try.prog 34=true:=by kernel_rfl
theorem cells35:Try.prog.cellsOf 35=1:=by kernel_rfl
theorem info35:(Try.prog.info? 35).isSome=true:=by kernel_rfl
theorem bytes35:Try.prog.bytesOf 35=8:=by kernel_rfl
theorem aggT35:isAggT Try.prog 35=false:=by kernel_rfl
theorem isInt35:isIntT Try.prog 35=true:=by kernel_rfl
theorem isIface35:isIface Try.prog 35=false:=by kernel_rfl
theorem azero35:azero Try.prog 35=some ([i64 0]):=by kernel_rfl
theorem zfits35:zfits Try.prog 35=true:=by kernel_rfl
theorem cells37:Try.prog.cellsOf 37=1:=by kernel_rfl
theorem info37:(Try.prog.info? 37).isSome=true:=by kernel_rfl
theorem bytes37:Try.prog.bytesOf 37=8:=by kernel_rfl
theorem aggT37:isAggT Try.prog 37=false:=by kernel_rfl
theorem isIface37:isIface Try.prog 37=false:=by kernel_rfl
theorem azero37:azero Try.prog 37=some ([.s .nilFunc]):=by kernel_rfl
theorem zfits37:zfits Try.prog 37=true:=by kernel_rfl
theorem cells38:Try.prog.cellsOf 38=1:=by kernel_rfl
theorem info38:(Try.prog.info? 38).isSome=true:=by kernel_rfl
theorem bytes38:Try.prog.bytesOf 38=8:=by kernel_rfl
theorem aggT38:isAggT Try.prog 38=false:=by kernel_rfl
theorem isIface38:isIface Try.prog 38=false:=by kernel_rfl
theorem azero38:azero Try.prog 38=some ([.s .nilFunc]):=by kernel_rfl
theorem zfits38:zfits Try.prog 38=true:=by kernel_rfl
theorem cells39:Try.prog.cellsOf 39=1:=by kernel_rfl
theorem info39:(Try.prog.info? 39).isSome=true:=by kernel_rfl
theorem bytes39:Try.prog.bytesOf 39=8:=by kernel_rfl
theorem aggT39:isAggT Try.prog 39=false:=by kernel_rfl
theorem isIface39:isIface Try.prog 39=false:=by kernel_rfl
theorem azero39:azero Try.prog 39=some ([.s .nilFunc]):=by kernel_rfl
theorem zfits39:zfits Try.prog 39=true:=by kernel_rfl
theorem cells40:Try.prog.cellsOf 40=1:=by kernel_rfl
theorem info40:(Try.prog.info? 40).isSome=true:=by kernel_rfl
theorem bytes40:Try.prog.bytesOf 40=24:=by kernel_rfl
theorem aggT40:isAggT Try.prog 40=false:=by kernel_rfl
theorem isIface40:isIface Try.prog 40=false:=by kernel_rfl
theorem azero40:azero Try.prog 40=some ([.sl true 6 []]):=by kernel_rfl
theorem zfits40:zfits Try.prog 40=true:=by kernel_rfl
theorem cells41:Try.prog.cellsOf 41=1:=by kernel_rfl
theorem info41:(Try.prog.info? 41).isSome=true:=by kernel_rfl
theorem bytes41:Try.prog.bytesOf 41=8:=by kernel_rfl
theorem aggT41:isAggT Try.prog 41=false:=by kernel_rfl
theorem isIface41:isIface Try.prog 41=false:=by kernel_rfl
theorem azero41:azero Try.prog 41=some ([.s .nilFunc]):=by kernel_rfl
theorem zfits41:zfits Try.prog 41=true:=by kernel_rfl
theorem cells42:Try.prog.cellsOf 42=1:=by kernel_rfl
theorem info42:(Try.prog.info? 42).isSome=true:=by kernel_rfl
theorem bytes42:Try.prog.bytesOf 42=24:=by kernel_rfl
theorem aggT42:isAggT Try.prog 42=false:=by kernel_rfl
theorem isIface42:isIface Try.prog 42=false:=by kernel_rfl
theorem azero42:azero Try.prog 42=some ([.sl true 1 []]):=by kernel_rfl
theorem zfits42:zfits Try.prog 42=true:=by kernel_rfl
theorem cells43:Try.prog.cellsOf 43=1:=by kernel_rfl
theorem info43:(Try.prog.info? 43).isSome=true:=by kernel_rfl
theorem bytes43:Try.prog.bytesOf 43=8:=by kernel_rfl
theorem aggT43:isAggT Try.prog 43=false:=by kernel_rfl
theorem isIface43:isIface Try.prog 43=false:=by kernel_rfl
theorem azero43:azero Try.prog 43=some ([.s .nilFunc]):=by kernel_rfl
theorem zfits43:zfits Try.prog 43=true:=by kernel_rfl
theorem cells44:Try.prog.cellsOf 44=1:=by kernel_rfl
theorem info44:(Try.prog.info? 44).isSome=true:=by kernel_rfl
theorem bytes44:Try.prog.bytesOf 44=8:=by kernel_rfl
theorem aggT44:isAggT Try.prog 44=false:=by kernel_rfl
theorem isInt44:isIntT Try.prog 44=true:=by kernel_rfl
theorem isIface44:isIface Try.prog 44=false:=by kernel_rfl
theorem azero44:azero Try.prog 44=some ([w64 0#64]):=by kernel_rfl
theorem zfits44:zfits Try.prog 44=true:=by kernel_rfl
theorem cells45:Try.prog.cellsOf 45=6:=by kernel_rfl
theorem info45:(Try.prog.info? 45).isSome=true:=by kernel_rfl
theorem bytes45:Try.prog.bytesOf 45=48:=by kernel_rfl
theorem aggT45:isAggT Try.prog 45=true:=by kernel_rfl
theorem isIface45:isIface Try.prog 45=false:=by kernel_rfl
theorem azero45:azero Try.prog 45=some ([i64 0,i64 0,w64 0#64,w64 0#64,w64 0#64,w64 0#64]):=by kernel_rfl
theorem zfits45:zfits Try.prog 45=true:=by kernel_rfl
theorem build45 : ∀ parts,aBuild Try.prog 45 parts=(fillA (fun i=>[some (0,1),some (1,1),some (2,1),some (3,1),some (4,1),some (5,1)][i]?.join) ([.p (i64 0),.p (i64 0),.p (w64 0#64),.p (w64 0#64),.p (w64 0#64),.p (w64 0#64)]) parts).map mkAgg:=fun _=>aBuild_struct (by kernel_rfl) azero45
theorem cells46:Try.prog.cellsOf 46=6:=by kernel_rfl
theorem info46:(Try.prog.info? 46).isSome=true:=by kernel_rfl
theorem bytes46:Try.prog.bytesOf 46=48:=by kernel_rfl
theorem aggT46:isAggT Try.prog 46=true:=by kernel_rfl
theorem isIface46:isIface Try.prog 46=false:=by kernel_rfl
theorem azero46:azero Try.prog 46=some ([i64 0,i64 0,w64 0#64,w64 0#64,w64 0#64,w64 0#64]):=by kernel_rfl
theorem zfits46:zfits Try.prog 46=true:=by kernel_rfl
theorem build46 : ∀ parts,aBuild Try.prog 46 parts=(fillA (fun i=>[some (0,1),some (1,1),some (2,1),some (3,1),some (4,1),some (5,1)][i]?.join) ([.p (i64 0),.p (i64 0),.p (w64 0#64),.p (w64 0#64),.p (w64 0#64),.p (w64 0#64)]) parts).map mkAgg:=fun _=>aBuild_struct (by kernel_rfl) azero46
theorem cells47:Try.prog.cellsOf 47=1:=by kernel_rfl
theorem info47:(Try.prog.info? 47).isSome=true:=by kernel_rfl
theorem bytes47:Try.prog.bytesOf 47=8:=by kernel_rfl
theorem aggT47:isAggT Try.prog 47=false:=by kernel_rfl
theorem isIface47:isIface Try.prog 47=false:=by kernel_rfl
theorem azero47:azero Try.prog 47=some ([.s .nilFunc]):=by kernel_rfl
theorem zfits47:zfits Try.prog 47=true:=by kernel_rfl
theorem cells48:Try.prog.cellsOf 48=1:=by kernel_rfl
theorem info48:(Try.prog.info? 48).isSome=true:=by kernel_rfl
theorem bytes48:Try.prog.bytesOf 48=2:=by kernel_rfl
theorem aggT48:isAggT Try.prog 48=false:=by kernel_rfl
theorem isInt48:isIntT Try.prog 48=true:=by kernel_rfl
theorem isIface48:isIface Try.prog 48=false:=by kernel_rfl
theorem azero48:azero Try.prog 48=some ([w16 0#16]):=by kernel_rfl
theorem zfits48:zfits Try.prog 48=true:=by kernel_rfl
theorem cells49:Try.prog.cellsOf 49=1:=by kernel_rfl
theorem info49:(Try.prog.info? 49).isSome=true:=by kernel_rfl
theorem bytes49:Try.prog.bytesOf 49=8:=by kernel_rfl
theorem aggT49:isAggT Try.prog 49=false:=by kernel_rfl
theorem isIface49:isIface Try.prog 49=false:=by kernel_rfl
theorem azero49:azero Try.prog 49=some ([.s .nilFunc]):=by kernel_rfl
theorem zfits49:zfits Try.prog 49=true:=by kernel_rfl
theorem cells50:Try.prog.cellsOf 50=1:=by kernel_rfl
theorem info50:(Try.prog.info? 50).isSome=true:=by kernel_rfl
theorem bytes50:Try.prog.bytesOf 50=8:=by kernel_rfl
theorem aggT50:isAggT Try.prog 50=false:=by kernel_rfl
theorem isIface50:isIface Try.prog 50=false:=by kernel_rfl
theorem azero50:azero Try.prog 50=some ([.s .nilFunc]):=by kernel_rfl
theorem zfits50:zfits Try.prog 50=true:=by kernel_rfl
theorem cells51:Try.prog.cellsOf 51=2:=by kernel_rfl
theorem info51:(Try.prog.info? 51).isSome=true:=by kernel_rfl
theorem bytes51:Try.prog.bytesOf 51=16:=by kernel_rfl
theorem aggT51:isAggT Try.prog 51=true:=by kernel_rfl
theorem isIface51:isIface Try.prog 51=false:=by kernel_rfl
theorem azero51:azero Try.prog 51=some ([i64 0,i64 0]):=by kernel_rfl
theorem zfits51:zfits Try.prog 51=true:=by kernel_rfl
theorem build51 : ∀ parts,aBuild Try.prog 51 parts=(fillA (fun i=>[some (0,1),some (1,1)][i]?.join) ([.p (i64 0),.p (i64 0)]) parts).map mkAgg:=fun _=>aBuild_struct (by kernel_rfl) azero51
theorem cells52:Try.prog.cellsOf 52=2:=by kernel_rfl
theorem info52:(Try.prog.info? 52).isSome=true:=by kernel_rfl
theorem bytes52:Try.prog.bytesOf 52=16:=by kernel_rfl
theorem aggT52:isAggT Try.prog 52=true:=by kernel_rfl
theorem isIface52:isIface Try.prog 52=false:=by kernel_rfl
theorem azero52:azero Try.prog 52=some ([i64 0,i64 0]):=by kernel_rfl
theorem zfits52:zfits Try.prog 52=true:=by kernel_rfl
theorem build52 : ∀ parts,aBuild Try.prog 52 parts=(fillA (fun i=>[some (0,1),some (1,1)][i]?.join) ([.p (i64 0),.p (i64 0)]) parts).map mkAgg:=fun _=>aBuild_struct (by kernel_rfl) azero52
theorem cells53:Try.prog.cellsOf 53=1:=by kernel_rfl
theorem info53:(Try.prog.info? 53).isSome=true:=by kernel_rfl
theorem bytes53:Try.prog.bytesOf 53=8:=by kernel_rfl
theorem aggT53:isAggT Try.prog 53=false:=by kernel_rfl
theorem isIface53:isIface Try.prog 53=false:=by kernel_rfl
theorem azero53:azero Try.prog 53=some ([.s .nilFunc]):=by kernel_rfl
theorem zfits53:zfits Try.prog 53=true:=by kernel_rfl
theorem cells54:Try.prog.cellsOf 54=1:=by kernel_rfl
theorem info54:(Try.prog.info? 54).isSome=true:=by kernel_rfl
theorem bytes54:Try.prog.bytesOf 54=8:=by kernel_rfl
theorem aggT54:isAggT Try.prog 54=false:=by kernel_rfl
theorem isIface54:isIface Try.prog 54=false:=by kernel_rfl
theorem azero54:azero Try.prog 54=some ([.s .nilFunc]):=by kernel_rfl
theorem zfits54:zfits Try.prog 54=true:=by kernel_rfl
theorem cells55:Try.prog.cellsOf 55=1:=by kernel_rfl
theorem info55:(Try.prog.info? 55).isSome=true:=by kernel_rfl
theorem bytes55:Try.prog.bytesOf 55=8:=by kernel_rfl
theorem aggT55:isAggT Try.prog 55=false:=by kernel_rfl
theorem isIface55:isIface Try.prog 55=false:=by kernel_rfl
theorem azero55:azero Try.prog 55=some ([.s .nilFunc]):=by kernel_rfl
theorem zfits55:zfits Try.prog 55=true:=by kernel_rfl
theorem cells56:Try.prog.cellsOf 56=1:=by kernel_rfl
theorem info56:(Try.prog.info? 56).isSome=true:=by kernel_rfl
theorem bytes56:Try.prog.bytesOf 56=8:=by kernel_rfl
theorem aggT56:isAggT Try.prog 56=false:=by kernel_rfl
theorem isIface56:isIface Try.prog 56=false:=by kernel_rfl
theorem azero56:azero Try.prog 56=some ([.s .nilFunc]):=by kernel_rfl
theorem zfits56:zfits Try.prog 56=true:=by kernel_rfl
theorem cells57:Try.prog.cellsOf 57=1:=by kernel_rfl
theorem info57:(Try.prog.info? 57).isSome=true:=by kernel_rfl
theorem bytes57:Try.prog.bytesOf 57=8:=by kernel_rfl
theorem aggT57:isAggT Try.prog 57=false:=by kernel_rfl
theorem isIface57:isIface Try.prog 57=false:=by kernel_rfl
theorem azero57:azero Try.prog 57=some ([.s .nilFunc]):=by kernel_rfl
theorem zfits57:zfits Try.prog 57=true:=by kernel_rfl
theorem cells58:Try.prog.cellsOf 58=1:=by kernel_rfl
theorem info58:(Try.prog.info? 58).isSome=true:=by kernel_rfl
theorem bytes58:Try.prog.bytesOf 58=8:=by kernel_rfl
theorem aggT58:isAggT Try.prog 58=false:=by kernel_rfl
theorem isIface58:isIface Try.prog 58=false:=by kernel_rfl
theorem azero58:azero Try.prog 58=some ([.s (.map none)]):=by kernel_rfl
theorem zfits58:zfits Try.prog 58=true:=by kernel_rfl
theorem cells59:Try.prog.cellsOf 59=1:=by kernel_rfl
theorem info59:(Try.prog.info? 59).isSome=true:=by kernel_rfl
theorem bytes59:Try.prog.bytesOf 59=24:=by kernel_rfl
theorem aggT59:isAggT Try.prog 59=false:=by kernel_rfl
theorem isIface59:isIface Try.prog 59=false:=by kernel_rfl
theorem azero59:azero Try.prog 59=some ([.sl true 1 []]):=by kernel_rfl
theorem zfits59:zfits Try.prog 59=true:=by kernel_rfl
theorem cells61:Try.prog.cellsOf 61=1:=by kernel_rfl
theorem info61:(Try.prog.info? 61).isSome=true:=by kernel_rfl
theorem bytes61:Try.prog.bytesOf 61=8:=by kernel_rfl
theorem aggT61:isAggT Try.prog 61=false:=by kernel_rfl
theorem isIface61:isIface Try.prog 61=false:=by kernel_rfl
theorem azero61:azero Try.prog 61=some ([.s .nilFunc]):=by kernel_rfl
theorem zfits61:zfits Try.prog 61=true:=by kernel_rfl
theorem cells62:Try.prog.cellsOf 62=1:=by kernel_rfl
theorem info62:(Try.prog.info? 62).isSome=true:=by kernel_rfl
theorem bytes62:Try.prog.bytesOf 62=8:=by kernel_rfl
theorem aggT62:isAggT Try.prog 62=false:=by kernel_rfl
theorem isIface62:isIface Try.prog 62=false:=by kernel_rfl
theorem azero62:azero Try.prog 62=some ([.s .nilFunc]):=by kernel_rfl
theorem zfits62:zfits Try.prog 62=true:=by kernel_rfl
theorem cells64:Try.prog.cellsOf 64=1:=by kernel_rfl
theorem info64:(Try.prog.info? 64).isSome=true:=by kernel_rfl
theorem bytes64:Try.prog.bytesOf 64=8:=by kernel_rfl
theorem aggT64:isAggT Try.prog 64=false:=by kernel_rfl
theorem isIface64:isIface Try.prog 64=false:=by kernel_rfl
theorem azero64:azero Try.prog 64=some ([.s .nilFunc]):=by kernel_rfl
theorem zfits64:zfits Try.prog 64=true:=by kernel_rfl
theorem cells65:Try.prog.cellsOf 65=1:=by kernel_rfl
theorem info65:(Try.prog.info? 65).isSome=true:=by kernel_rfl
theorem bytes65:Try.prog.bytesOf 65=8:=by kernel_rfl
theorem aggT65:isAggT Try.prog 65=false:=by kernel_rfl
theorem isIface65:isIface Try.prog 65=false:=by kernel_rfl
theorem azero65:azero Try.prog 65=some ([.s (.map none)]):=by kernel_rfl
theorem zfits65:zfits Try.prog 65=true:=by kernel_rfl
theorem cells66:Try.prog.cellsOf 66=0:=by kernel_rfl
theorem info66:(Try.prog.info? 66).isSome=true:=by kernel_rfl
theorem bytes66:Try.prog.bytesOf 66=0:=by kernel_rfl
theorem aggT66:isAggT Try.prog 66=true:=by kernel_rfl
theorem isIface66:isIface Try.prog 66=false:=by kernel_rfl
theorem azero66:azero Try.prog 66=some ([]):=by kernel_rfl
theorem zfits66:zfits Try.prog 66=true:=by kernel_rfl
theorem build66 : ∀ parts,aBuild Try.prog 66 parts=(fillA (fun i=>[][i]?.join) ([]) parts).map mkAgg:=fun _=>aBuild_struct (by kernel_rfl) azero66
theorem cells68:Try.prog.cellsOf 68=1:=by kernel_rfl
theorem info68:(Try.prog.info? 68).isSome=true:=by kernel_rfl
theorem bytes68:Try.prog.bytesOf 68=8:=by kernel_rfl
theorem aggT68:isAggT Try.prog 68=false:=by kernel_rfl
theorem isIface68:isIface Try.prog 68=false:=by kernel_rfl
theorem azero68:azero Try.prog 68=some ([.s .nilFunc]):=by kernel_rfl
theorem zfits68:zfits Try.prog 68=true:=by kernel_rfl
theorem cells69:Try.prog.cellsOf 69=1:=by kernel_rfl
theorem info69:(Try.prog.info? 69).isSome=true:=by kernel_rfl
theorem bytes69:Try.prog.bytesOf 69=24:=by kernel_rfl
theorem aggT69:isAggT Try.prog 69=false:=by kernel_rfl
theorem isIface69:isIface Try.prog 69=false:=by kernel_rfl
theorem azero69:azero Try.prog 69=some ([.sl true 1 []]):=by kernel_rfl
theorem zfits69:zfits Try.prog 69=true:=by kernel_rfl
theorem cells70:Try.prog.cellsOf 70=1:=by kernel_rfl
theorem info70:(Try.prog.info? 70).isSome=true:=by kernel_rfl
theorem bytes70:Try.prog.bytesOf 70=24:=by kernel_rfl
theorem aggT70:isAggT Try.prog 70=false:=by kernel_rfl
theorem isIface70:isIface Try.prog 70=false:=by kernel_rfl
theorem azero70:azero Try.prog 70=some ([.sl true 1 []]):=by kernel_rfl
theorem zfits70:zfits Try.prog 70=true:=by kernel_rfl
theorem cells71:Try.prog.cellsOf 71=1:=by kernel_rfl
theorem info71:(Try.prog.info? 71).isSome=true:=by kernel_rfl
theorem bytes71:Try.prog.bytesOf 71=8:=by kernel_rfl
theorem aggT71:isAggT Try.prog 71=false:=by kernel_rfl
theorem isIface71:isIface Try.prog 71=false:=by kernel_rfl
theorem azero71:azero Try.prog 71=some ([.s .nilFunc]):=by kernel_rfl
theorem zfits71:zfits Try.prog 71=true:=by kernel_rfl
theorem cells72:Try.prog.cellsOf 72=1:=by kernel_rfl
theorem info72:(Try.prog.info? 72).isSome=true:=by kernel_rfl
theorem bytes72:Try.prog.bytesOf 72=8:=by kernel_rfl
theorem aggT72:isAggT Try.prog 72=false:=by kernel_rfl
theorem isIface72:isIface Try.prog 72=false:=by kernel_rfl
theorem azero72:azero Try.prog 72=some ([.s .nilFunc]):=by kernel_rfl
theorem zfits72:zfits Try.prog 72=true:=by kernel_rfl
theorem cells73:Try.prog.cellsOf 73=1:=by kernel_rfl
theorem info73:(Try.prog.info? 73).isSome=true:=by kernel_rfl
theorem bytes73:Try.prog.bytesOf 73=8:=by kernel_rfl
theorem aggT73:isAggT Try.prog 73=true:=by kernel_rfl
theorem isIface73:isIface Try.prog 73=false:=by kernel_rfl
theorem azero73:azero Try.prog 73=some ([.s .nilFunc]):=by kernel_rfl
theorem zfits73:zfits Try.prog 73=true:=by kernel_rfl
theorem build73 : ∀ parts,aBuild Try.prog 73 parts=(fillA (fun i=>[some (0,1)][i]?.join) ([.p (.s .nilFunc)]) parts).map mkAgg:=fun _=>aBuild_struct (by kernel_rfl) azero73
theorem cells74:Try.prog.cellsOf 74=1:=by kernel_rfl
theorem info74:(Try.prog.info? 74).isSome=true:=by kernel_rfl
theorem bytes74:Try.prog.bytesOf 74=8:=by kernel_rfl
theorem aggT74:isAggT Try.prog 74=true:=by kernel_rfl
theorem isIface74:isIface Try.prog 74=false:=by kernel_rfl
theorem azero74:azero Try.prog 74=some ([.s .nilFunc]):=by kernel_rfl
theorem zfits74:zfits Try.prog 74=true:=by kernel_rfl
theorem build74 : ∀ parts,aBuild Try.prog 74 parts=(fillA (fun i=>[some (0,1)][i]?.join) ([.p (.s .nilFunc)]) parts).map mkAgg:=fun _=>aBuild_struct (by kernel_rfl) azero74
theorem cells75:Try.prog.cellsOf 75=3:=by kernel_rfl
theorem info75:(Try.prog.info? 75).isSome=true:=by kernel_rfl
theorem bytes75:Try.prog.bytesOf 75=24:=by kernel_rfl
theorem aggT75:isAggT Try.prog 75=true:=by kernel_rfl
theorem isIface75:isIface Try.prog 75=false:=by kernel_rfl
theorem azero75:azero Try.prog 75=some ([.s .nilFunc,.s .nilFunc,.s .nilFunc]):=by kernel_rfl
theorem zfits75:zfits Try.prog 75=true:=by kernel_rfl
theorem build75 : ∀ parts,aBuild Try.prog 75 parts=(fillA (fun i=>some (i*1,1)) ([.p (.s .nilFunc),.p (.s .nilFunc),.p (.s .nilFunc)]) parts).map mkAgg:=fun _=>aBuild_arr (by kernel_rfl) azero75
theorem cells76:Try.prog.cellsOf 76=1:=by kernel_rfl
theorem info76:(Try.prog.info? 76).isSome=true:=by kernel_rfl
theorem bytes76:Try.prog.bytesOf 76=8:=by kernel_rfl
theorem aggT76:isAggT Try.prog 76=false:=by kernel_rfl
theorem isIface76:isIface Try.prog 76=false:=by kernel_rfl
theorem azero76:azero Try.prog 76=some ([.s .nilFunc]):=by kernel_rfl
theorem zfits76:zfits Try.prog 76=true:=by kernel_rfl
theorem cells77:Try.prog.cellsOf 77=1:=by kernel_rfl
theorem info77:(Try.prog.info? 77).isSome=true:=by kernel_rfl
theorem bytes77:Try.prog.bytesOf 77=8:=by kernel_rfl
theorem aggT77:isAggT Try.prog 77=false:=by kernel_rfl
theorem isIface77:isIface Try.prog 77=false:=by kernel_rfl
theorem azero77:azero Try.prog 77=some ([.s .nilFunc]):=by kernel_rfl
theorem zfits77:zfits Try.prog 77=true:=by kernel_rfl
theorem cells78:Try.prog.cellsOf 78=1:=by kernel_rfl
theorem info78:(Try.prog.info? 78).isSome=true:=by kernel_rfl
theorem bytes78:Try.prog.bytesOf 78=8:=by kernel_rfl
theorem aggT78:isAggT Try.prog 78=false:=by kernel_rfl
theorem isIface78:isIface Try.prog 78=false:=by kernel_rfl
theorem azero78:azero Try.prog 78=some ([.s .nilFunc]):=by kernel_rfl
theorem zfits78:zfits Try.prog 78=true:=by kernel_rfl
theorem cells80:Try.prog.cellsOf 80=1:=by kernel_rfl
theorem info80:(Try.prog.info? 80).isSome=true:=by kernel_rfl
theorem bytes80:Try.prog.bytesOf 80=8:=by kernel_rfl
theorem aggT80:isAggT Try.prog 80=false:=by kernel_rfl
theorem isIface80:isIface Try.prog 80=false:=by kernel_rfl
theorem azero80:azero Try.prog 80=some ([.s .nilFunc]):=by kernel_rfl
theorem zfits80:zfits Try.prog 80=true:=by kernel_rfl
theorem cells81:Try.prog.cellsOf 81=1:=by kernel_rfl
theorem info81:(Try.prog.info? 81).isSome=true:=by kernel_rfl
theorem bytes81:Try.prog.bytesOf 81=8:=by kernel_rfl
theorem aggT81:isAggT Try.prog 81=false:=by kernel_rfl
theorem isIface81:isIface Try.prog 81=false:=by kernel_rfl
theorem azero81:azero Try.prog 81=some ([.s .nilFunc]):=by kernel_rfl
theorem zfits81:zfits Try.prog 81=true:=by kernel_rfl
theorem cells82:Try.prog.cellsOf 82=1:=by kernel_rfl
theorem info82:(Try.prog.info? 82).isSome=true:=by kernel_rfl
theorem bytes82:Try.prog.bytesOf 82=8:=by kernel_rfl
theorem aggT82:isAggT Try.prog 82=false:=by kernel_rfl
theorem isIface82:isIface Try.prog 82=false:=by kernel_rfl
theorem azero82:azero Try.prog 82=some ([.s .nilFunc]):=by kernel_rfl
theorem zfits82:zfits Try.prog 82=true:=by kernel_rfl
theorem cells83:Try.prog.cellsOf 83=1:=by kernel_rfl
theorem info83:(Try.prog.info? 83).isSome=true:=by kernel_rfl
theorem bytes83:Try.prog.bytesOf 83=8:=by kernel_rfl
theorem aggT83:isAggT Try.prog 83=false:=by kernel_rfl
theorem isIface83:isIface Try.prog 83=false:=by kernel_rfl
theorem azero83:azero Try.prog 83=some ([.s .nilFunc]):=by kernel_rfl
theorem zfits83:zfits Try.prog 83=true:=by kernel_rfl
theorem cells84:Try.prog.cellsOf 84=1:=by kernel_rfl
theorem info84:(Try.prog.info? 84).isSome=true:=by kernel_rfl
theorem bytes84:Try.prog.bytesOf 84=8:=by kernel_rfl
theorem aggT84:isAggT Try.prog 84=false:=by kernel_rfl
theorem isIface84:isIface Try.prog 84=false:=by kernel_rfl
theorem azero84:azero Try.prog 84=some ([.s .nilFunc]):=by kernel_rfl
theorem zfits84:zfits Try.prog 84=true:=by kernel_rfl
theorem cells85:Try.prog.cellsOf 85=1:=by kernel_rfl
theorem info85:(Try.prog.info? 85).isSome=true:=by kernel_rfl
theorem bytes85:Try.prog.bytesOf 85=8:=by kernel_rfl
theorem aggT85:isAggT Try.prog 85=false:=by kernel_rfl
theorem isIface85:isIface Try.prog 85=false:=by kernel_rfl
theorem azero85:azero Try.prog 85=some ([.s .nilFunc]):=by kernel_rfl
theorem zfits85:zfits Try.prog 85=true:=by kernel_rfl
theorem cells86:Try.prog.cellsOf 86=1:=by kernel_rfl
theorem info86:(Try.prog.info? 86).isSome=true:=by kernel_rfl
theorem bytes86:Try.prog.bytesOf 86=8:=by kernel_rfl
theorem aggT86:isAggT Try.prog 86=false:=by kernel_rfl
theorem isIface86:isIface Try.prog 86=false:=by kernel_rfl
theorem azero86:azero Try.prog 86=some ([.s (.pointer none)]):=by kernel_rfl
theorem zfits86:zfits Try.prog 86=true:=by kernel_rfl
theorem cells87:Try.prog.cellsOf 87=1:=by kernel_rfl
theorem info87:(Try.prog.info? 87).isSome=true:=by kernel_rfl
theorem bytes87:Try.prog.bytesOf 87=8:=by kernel_rfl
theorem aggT87:isAggT Try.prog 87=false:=by kernel_rfl
theorem isIface87:isIface Try.prog 87=false:=by kernel_rfl
theorem azero87:azero Try.prog 87=some ([.s .nilFunc]):=by kernel_rfl
theorem zfits87:zfits Try.prog 87=true:=by kernel_rfl
theorem cells88:Try.prog.cellsOf 88=1:=by kernel_rfl
theorem info88:(Try.prog.info? 88).isSome=true:=by kernel_rfl
theorem bytes88:Try.prog.bytesOf 88=8:=by kernel_rfl
theorem aggT88:isAggT Try.prog 88=false:=by kernel_rfl
theorem isIface88:isIface Try.prog 88=false:=by kernel_rfl
theorem azero88:azero Try.prog 88=some ([.s .nilFunc]):=by kernel_rfl
theorem zfits88:zfits Try.prog 88=true:=by kernel_rfl
theorem cells89:Try.prog.cellsOf 89=1:=by kernel_rfl
theorem info89:(Try.prog.info? 89).isSome=true:=by kernel_rfl
theorem bytes89:Try.prog.bytesOf 89=8:=by kernel_rfl
theorem aggT89:isAggT Try.prog 89=false:=by kernel_rfl
theorem isIface89:isIface Try.prog 89=false:=by kernel_rfl
theorem azero89:azero Try.prog 89=some ([.s .nilFunc]):=by kernel_rfl
theorem zfits89:zfits Try.prog 89=true:=by kernel_rfl
theorem cells90:Try.prog.cellsOf 90=1:=by kernel_rfl
theorem info90:(Try.prog.info? 90).isSome=true:=by kernel_rfl
theorem bytes90:Try.prog.bytesOf 90=8:=by kernel_rfl
theorem aggT90:isAggT Try.prog 90=false:=by kernel_rfl
theorem isIface90:isIface Try.prog 90=false:=by kernel_rfl
theorem azero90:azero Try.prog 90=some ([.s .nilFunc]):=by kernel_rfl
theorem zfits90:zfits Try.prog 90=true:=by kernel_rfl
theorem cells91:Try.prog.cellsOf 91=1:=by kernel_rfl
theorem info91:(Try.prog.info? 91).isSome=true:=by kernel_rfl
theorem bytes91:Try.prog.bytesOf 91=8:=by kernel_rfl
theorem aggT91:isAggT Try.prog 91=false:=by kernel_rfl
theorem isIface91:isIface Try.prog 91=false:=by kernel_rfl
theorem azero91:azero Try.prog 91=some ([.s .nilFunc]):=by kernel_rfl
theorem zfits91:zfits Try.prog 91=true:=by kernel_rfl
theorem cells92:Try.prog.cellsOf 92=1:=by kernel_rfl
theorem info92:(Try.prog.info? 92).isSome=true:=by kernel_rfl
theorem bytes92:Try.prog.bytesOf 92=8:=by kernel_rfl
theorem aggT92:isAggT Try.prog 92=false:=by kernel_rfl
theorem isIface92:isIface Try.prog 92=false:=by kernel_rfl
theorem azero92:azero Try.prog 92=some ([.s .nilFunc]):=by kernel_rfl
theorem zfits92:zfits Try.prog 92=true:=by kernel_rfl
theorem cells94:Try.prog.cellsOf 94=1:=by kernel_rfl
theorem info94:(Try.prog.info? 94).isSome=true:=by kernel_rfl
theorem bytes94:Try.prog.bytesOf 94=8:=by kernel_rfl
theorem aggT94:isAggT Try.prog 94=false:=by kernel_rfl
theorem isIface94:isIface Try.prog 94=false:=by kernel_rfl
theorem azero94:azero Try.prog 94=some ([.s .nilFunc]):=by kernel_rfl
theorem zfits94:zfits Try.prog 94=true:=by kernel_rfl
theorem cells95:Try.prog.cellsOf 95=1:=by kernel_rfl
theorem info95:(Try.prog.info? 95).isSome=true:=by kernel_rfl
theorem bytes95:Try.prog.bytesOf 95=8:=by kernel_rfl
theorem aggT95:isAggT Try.prog 95=false:=by kernel_rfl
theorem isIface95:isIface Try.prog 95=false:=by kernel_rfl
theorem azero95:azero Try.prog 95=some ([.s .nilFunc]):=by kernel_rfl
theorem zfits95:zfits Try.prog 95=true:=by kernel_rfl
theorem cells96:Try.prog.cellsOf 96=1:=by kernel_rfl
theorem info96:(Try.prog.info? 96).isSome=true:=by kernel_rfl
theorem bytes96:Try.prog.bytesOf 96=8:=by kernel_rfl
theorem aggT96:isAggT Try.prog 96=false:=by kernel_rfl
theorem isInt96:isIntT Try.prog 96=true:=by kernel_rfl
theorem isIface96:isIface Try.prog 96=false:=by kernel_rfl
theorem azero96:azero Try.prog 96=some ([w64 0#64]):=by kernel_rfl
theorem zfits96:zfits Try.prog 96=true:=by kernel_rfl
theorem cells97:Try.prog.cellsOf 97=1:=by kernel_rfl
theorem info97:(Try.prog.info? 97).isSome=true:=by kernel_rfl
theorem bytes97:Try.prog.bytesOf 97=8:=by kernel_rfl
theorem aggT97:isAggT Try.prog 97=false:=by kernel_rfl
theorem isIface97:isIface Try.prog 97=false:=by kernel_rfl
theorem azero97:azero Try.prog 97=some ([.s .nilFunc]):=by kernel_rfl
theorem zfits97:zfits Try.prog 97=true:=by kernel_rfl
theorem cells98:Try.prog.cellsOf 98=1:=by kernel_rfl
theorem info98:(Try.prog.info? 98).isSome=true:=by kernel_rfl
theorem bytes98:Try.prog.bytesOf 98=8:=by kernel_rfl
theorem aggT98:isAggT Try.prog 98=false:=by kernel_rfl
theorem isIface98:isIface Try.prog 98=false:=by kernel_rfl
theorem azero98:azero Try.prog 98=some ([.s .nilFunc]):=by kernel_rfl
theorem zfits98:zfits Try.prog 98=true:=by kernel_rfl
theorem cells99:Try.prog.cellsOf 99=1:=by kernel_rfl
theorem info99:(Try.prog.info? 99).isSome=true:=by kernel_rfl
theorem bytes99:Try.prog.bytesOf 99=8:=by kernel_rfl
theorem aggT99:isAggT Try.prog 99=false:=by kernel_rfl
theorem isIface99:isIface Try.prog 99=false:=by kernel_rfl
theorem azero99:azero Try.prog 99=some ([.s .nilFunc]):=by kernel_rfl
theorem zfits99:zfits Try.prog 99=true:=by kernel_rfl
theorem cells100:Try.prog.cellsOf 100=1:=by kernel_rfl
theorem info100:(Try.prog.info? 100).isSome=true:=by kernel_rfl
theorem bytes100:Try.prog.bytesOf 100=8:=by kernel_rfl
theorem aggT100:isAggT Try.prog 100=false:=by kernel_rfl
theorem isIface100:isIface Try.prog 100=false:=by kernel_rfl
theorem azero100:azero Try.prog 100=some ([.s .nilFunc]):=by kernel_rfl
theorem zfits100:zfits Try.prog 100=true:=by kernel_rfl
theorem cells101:Try.prog.cellsOf 101=4:=by kernel_rfl
theorem info101:(Try.prog.info? 101).isSome=true:=by kernel_rfl
theorem bytes101:Try.prog.bytesOf 101=40:=by kernel_rfl
theorem aggT101:isAggT Try.prog 101=true:=by kernel_rfl
theorem isIface101:isIface Try.prog 101=false:=by kernel_rfl
theorem azero101:azero Try.prog 101=some ([.s (.pointer none),.s (.pointer none),.s (.pointer none),str ByteArray.empty]):=by kernel_rfl
theorem zfits101:zfits Try.prog 101=true:=by kernel_rfl
theorem build101 : ∀ parts,aBuild Try.prog 101 parts=(fillA (fun i=>[some (0,1),some (1,1),some (2,1),some (3,1)][i]?.join) ([.p (.s (.pointer none)),.p (.s (.pointer none)),.p (.s (.pointer none)),.p (str ByteArray.empty)]) parts).map mkAgg:=fun _=>aBuild_struct (by kernel_rfl) azero101
theorem cells102:Try.prog.cellsOf 102=4:=by kernel_rfl
theorem info102:(Try.prog.info? 102).isSome=true:=by kernel_rfl
theorem bytes102:Try.prog.bytesOf 102=40:=by kernel_rfl
theorem aggT102:isAggT Try.prog 102=true:=by kernel_rfl
theorem isIface102:isIface Try.prog 102=false:=by kernel_rfl
theorem azero102:azero Try.prog 102=some ([.s (.pointer none),.s (.pointer none),.s (.pointer none),str ByteArray.empty]):=by kernel_rfl
theorem zfits102:zfits Try.prog 102=true:=by kernel_rfl
theorem build102 : ∀ parts,aBuild Try.prog 102 parts=(fillA (fun i=>[some (0,1),some (1,1),some (2,1),some (3,1)][i]?.join) ([.p (.s (.pointer none)),.p (.s (.pointer none)),.p (.s (.pointer none)),.p (str ByteArray.empty)]) parts).map mkAgg:=fun _=>aBuild_struct (by kernel_rfl) azero102
theorem cells103:Try.prog.cellsOf 103=0:=by kernel_rfl
theorem info103:(Try.prog.info? 103).isSome=true:=by kernel_rfl
theorem bytes103:Try.prog.bytesOf 103=0:=by kernel_rfl
theorem aggT103:isAggT Try.prog 103=true:=by kernel_rfl
theorem isIface103:isIface Try.prog 103=false:=by kernel_rfl
theorem azero103:azero Try.prog 103=some ([]):=by kernel_rfl
theorem zfits103:zfits Try.prog 103=true:=by kernel_rfl
theorem build103 : ∀ parts,aBuild Try.prog 103 parts=(fillA (fun i=>some (i*1,1)) ([]) parts).map mkAgg:=fun _=>aBuild_arr (by kernel_rfl) azero103
theorem cells104:Try.prog.cellsOf 104=0:=by kernel_rfl
theorem info104:(Try.prog.info? 104).isSome=true:=by kernel_rfl
theorem bytes104:Try.prog.bytesOf 104=0:=by kernel_rfl
theorem aggT104:isAggT Try.prog 104=true:=by kernel_rfl
theorem isIface104:isIface Try.prog 104=false:=by kernel_rfl
theorem azero104:azero Try.prog 104=some ([]):=by kernel_rfl
theorem zfits104:zfits Try.prog 104=true:=by kernel_rfl
theorem build104 : ∀ parts,aBuild Try.prog 104 parts=(fillA (fun i=>[some (0,0)][i]?.join) ([]) parts).map mkAgg:=fun _=>aBuild_struct (by kernel_rfl) azero104
theorem cells105:Try.prog.cellsOf 105=0:=by kernel_rfl
theorem info105:(Try.prog.info? 105).isSome=true:=by kernel_rfl
theorem bytes105:Try.prog.bytesOf 105=0:=by kernel_rfl
theorem aggT105:isAggT Try.prog 105=true:=by kernel_rfl
theorem isIface105:isIface Try.prog 105=false:=by kernel_rfl
theorem azero105:azero Try.prog 105=some ([]):=by kernel_rfl
theorem zfits105:zfits Try.prog 105=true:=by kernel_rfl
theorem build105 : ∀ parts,aBuild Try.prog 105 parts=(fillA (fun i=>[some (0,0)][i]?.join) ([]) parts).map mkAgg:=fun _=>aBuild_struct (by kernel_rfl) azero105
theorem cells106:Try.prog.cellsOf 106=1:=by kernel_rfl
theorem info106:(Try.prog.info? 106).isSome=true:=by kernel_rfl
theorem bytes106:Try.prog.bytesOf 106=8:=by kernel_rfl
theorem aggT106:isAggT Try.prog 106=false:=by kernel_rfl
theorem isIface106:isIface Try.prog 106=false:=by kernel_rfl
theorem azero106:azero Try.prog 106=some ([.s .nilFunc]):=by kernel_rfl
theorem zfits106:zfits Try.prog 106=true:=by kernel_rfl
theorem cells107:Try.prog.cellsOf 107=1:=by kernel_rfl
theorem info107:(Try.prog.info? 107).isSome=true:=by kernel_rfl
theorem bytes107:Try.prog.bytesOf 107=4:=by kernel_rfl
theorem aggT107:isAggT Try.prog 107=false:=by kernel_rfl
theorem isInt107:isIntT Try.prog 107=true:=by kernel_rfl
theorem isIface107:isIface Try.prog 107=false:=by kernel_rfl
theorem azero107:azero Try.prog 107=some ([w32 0#32]):=by kernel_rfl
theorem zfits107:zfits Try.prog 107=true:=by kernel_rfl
theorem cells108:Try.prog.cellsOf 108=1:=by kernel_rfl
theorem info108:(Try.prog.info? 108).isSome=true:=by kernel_rfl
theorem bytes108:Try.prog.bytesOf 108=1:=by kernel_rfl
theorem aggT108:isAggT Try.prog 108=false:=by kernel_rfl
theorem isInt108:isIntT Try.prog 108=true:=by kernel_rfl
theorem isIface108:isIface Try.prog 108=false:=by kernel_rfl
theorem azero108:azero Try.prog 108=some ([b8 0#8]):=by kernel_rfl
theorem zfits108:zfits Try.prog 108=true:=by kernel_rfl
theorem cells109:Try.prog.cellsOf 109=1:=by kernel_rfl
theorem info109:(Try.prog.info? 109).isSome=true:=by kernel_rfl
theorem bytes109:Try.prog.bytesOf 109=1:=by kernel_rfl
theorem aggT109:isAggT Try.prog 109=false:=by kernel_rfl
theorem isInt109:isIntT Try.prog 109=true:=by kernel_rfl
theorem isIface109:isIface Try.prog 109=false:=by kernel_rfl
theorem azero109:azero Try.prog 109=some ([b8 0#8]):=by kernel_rfl
theorem zfits109:zfits Try.prog 109=true:=by kernel_rfl
theorem cells110:Try.prog.cellsOf 110=1:=by kernel_rfl
theorem info110:(Try.prog.info? 110).isSome=true:=by kernel_rfl
theorem bytes110:Try.prog.bytesOf 110=8:=by kernel_rfl
theorem aggT110:isAggT Try.prog 110=false:=by kernel_rfl
theorem isIface110:isIface Try.prog 110=false:=by kernel_rfl
theorem azero110:azero Try.prog 110=some ([.s .nilFunc]):=by kernel_rfl
theorem zfits110:zfits Try.prog 110=true:=by kernel_rfl
theorem cells111:Try.prog.cellsOf 111=1:=by kernel_rfl
theorem info111:(Try.prog.info? 111).isSome=true:=by kernel_rfl
theorem bytes111:Try.prog.bytesOf 111=8:=by kernel_rfl
theorem aggT111:isAggT Try.prog 111=false:=by kernel_rfl
theorem isIface111:isIface Try.prog 111=false:=by kernel_rfl
theorem azero111:azero Try.prog 111=some ([.s (.pointer none)]):=by kernel_rfl
theorem zfits111:zfits Try.prog 111=true:=by kernel_rfl
theorem cells112:Try.prog.cellsOf 112=1:=by kernel_rfl
theorem info112:(Try.prog.info? 112).isSome=true:=by kernel_rfl
theorem bytes112:Try.prog.bytesOf 112=4:=by kernel_rfl
theorem aggT112:isAggT Try.prog 112=false:=by kernel_rfl
theorem isInt112:isIntT Try.prog 112=true:=by kernel_rfl
theorem isIface112:isIface Try.prog 112=false:=by kernel_rfl
theorem azero112:azero Try.prog 112=some ([.s (.int .i32 0)]):=by kernel_rfl
theorem zfits112:zfits Try.prog 112=true:=by kernel_rfl
theorem cells113:Try.prog.cellsOf 113=1:=by kernel_rfl
theorem info113:(Try.prog.info? 113).isSome=true:=by kernel_rfl
theorem bytes113:Try.prog.bytesOf 113=4:=by kernel_rfl
theorem aggT113:isAggT Try.prog 113=false:=by kernel_rfl
theorem isInt113:isIntT Try.prog 113=true:=by kernel_rfl
theorem isIface113:isIface Try.prog 113=false:=by kernel_rfl
theorem azero113:azero Try.prog 113=some ([.s (.int .i32 0)]):=by kernel_rfl
theorem zfits113:zfits Try.prog 113=true:=by kernel_rfl
theorem cells114:Try.prog.cellsOf 114=11:=by kernel_rfl
theorem info114:(Try.prog.info? 114).isSome=true:=by kernel_rfl
theorem bytes114:Try.prog.bytesOf 114=48:=by kernel_rfl
theorem aggT114:isAggT Try.prog 114=true:=by kernel_rfl
theorem isIface114:isIface Try.prog 114=false:=by kernel_rfl
theorem azero114:azero Try.prog 114=some ([w64 0#64,w64 0#64,w32 0#32,b8 0#8,b8 0#8,b8 0#8,b8 0#8,.s .nilFunc,.s (.pointer none),.s (.int .i32 0),.s (.int .i32 0)]):=by kernel_rfl
theorem zfits114:zfits Try.prog 114=true:=by kernel_rfl
theorem build114 : ∀ parts,aBuild Try.prog 114 parts=(fillA (fun i=>[some (0,1),some (1,1),some (2,1),some (3,1),some (4,1),some (5,1),some (6,1),some (7,1),some (8,1),some (9,1),some (10,1)][i]?.join) ([.p (w64 0#64),.p (w64 0#64),.p (w32 0#32),.p (b8 0#8),.p (b8 0#8),.p (b8 0#8),.p (b8 0#8),.p (.s .nilFunc),.p (.s (.pointer none)),.p (.s (.int .i32 0)),.p (.s (.int .i32 0))]) parts).map mkAgg:=fun _=>aBuild_struct (by kernel_rfl) azero114
theorem cells115:Try.prog.cellsOf 115=11:=by kernel_rfl
theorem info115:(Try.prog.info? 115).isSome=true:=by kernel_rfl
theorem bytes115:Try.prog.bytesOf 115=48:=by kernel_rfl
theorem aggT115:isAggT Try.prog 115=true:=by kernel_rfl
theorem isIface115:isIface Try.prog 115=false:=by kernel_rfl
theorem azero115:azero Try.prog 115=some ([w64 0#64,w64 0#64,w32 0#32,b8 0#8,b8 0#8,b8 0#8,b8 0#8,.s .nilFunc,.s (.pointer none),.s (.int .i32 0),.s (.int .i32 0)]):=by kernel_rfl
theorem zfits115:zfits Try.prog 115=true:=by kernel_rfl
theorem build115 : ∀ parts,aBuild Try.prog 115 parts=(fillA (fun i=>[some (0,1),some (1,1),some (2,1),some (3,1),some (4,1),some (5,1),some (6,1),some (7,1),some (8,1),some (9,1),some (10,1)][i]?.join) ([.p (w64 0#64),.p (w64 0#64),.p (w32 0#32),.p (b8 0#8),.p (b8 0#8),.p (b8 0#8),.p (b8 0#8),.p (.s .nilFunc),.p (.s (.pointer none)),.p (.s (.int .i32 0)),.p (.s (.int .i32 0))]) parts).map mkAgg:=fun _=>aBuild_struct (by kernel_rfl) azero115
theorem cells116:Try.prog.cellsOf 116=1:=by kernel_rfl
theorem info116:(Try.prog.info? 116).isSome=true:=by kernel_rfl
theorem bytes116:Try.prog.bytesOf 116=8:=by kernel_rfl
theorem aggT116:isAggT Try.prog 116=false:=by kernel_rfl
theorem isIface116:isIface Try.prog 116=false:=by kernel_rfl
theorem azero116:azero Try.prog 116=some ([.s (.pointer none)]):=by kernel_rfl
theorem zfits116:zfits Try.prog 116=true:=by kernel_rfl
theorem enters0:enters Try.prog 0=false:=by kernel_rfl
theorem extR0 : ∀ args H, extRes Try.prog 0 args H = vH (aExt "main.main" args) H := fun _ _ => extRes_some (by kernel_rfl)
theorem enters1:enters Try.prog 1=false:=by kernel_rfl
theorem extR1 : ∀ args H, extRes Try.prog 1 args H = vH (aExt "gosem.cut" args) H := fun _ _ => extRes_some (by kernel_rfl)
theorem enters2:enters Try.prog 2=true:=by kernel_rfl
theorem enters3:enters Try.prog 3=true:=by kernel_rfl
theorem enters4:enters Try.prog 4=true:=by kernel_rfl
theorem enters5:enters Try.prog 5=true:=by kernel_rfl
theorem enters6:enters Try.prog 6=true:=by kernel_rfl
theorem enters7:enters Try.prog 7=true:=by kernel_rfl
theorem enters8:enters Try.prog 8=true:=by kernel_rfl
theorem enters9:enters Try.prog 9=true:=by kernel_rfl
theorem enters10:enters Try.prog 10=true:=by kernel_rfl
theorem enters11:enters Try.prog 11=true:=by kernel_rfl
theorem enters12:enters Try.prog 12=true:=by kernel_rfl
theorem enters13:enters Try.prog 13=true:=by kernel_rfl
theorem enters14:enters Try.prog 14=true:=by kernel_rfl
theorem enters15:enters Try.prog 15=true:=by kernel_rfl
theorem enters16:enters Try.prog 16=true:=by kernel_rfl
theorem enters17:enters Try.prog 17=true:=by kernel_rfl
theorem enters18:enters Try.prog 18=true:=by kernel_rfl
theorem enters19:enters Try.prog 19=true:=by kernel_rfl
theorem enters20:enters Try.prog 20=true:=by kernel_rfl
theorem enters21:enters Try.prog 21=true:=by kernel_rfl
theorem enters22:enters Try.prog 22=true:=by kernel_rfl
theorem enters23:enters Try.prog 23=true:=by kernel_rfl
theorem enters24:enters Try.prog 24=true:=by kernel_rfl
theorem enters25:enters Try.prog 25=true:=by kernel_rfl
theorem enters26:enters Try.prog 26=true:=by kernel_rfl
theorem enters27:enters Try.prog 27=true:=by kernel_rfl
theorem enters28:enters Try.prog 28=true:=by kernel_rfl
theorem enters29:enters Try.prog 29=true:=by kernel_rfl
theorem enters30:enters Try.prog 30=true:=by kernel_rfl
theorem enters31:enters Try.prog 31=true:=by kernel_rfl
theorem enters32:enters Try.prog 32=true:=by kernel_rfl
theorem enters33:enters Try.prog 33=true:=by kernel_rfl
theorem enters34:enters Try.prog 34=true:=by kernel_rfl
theorem enters35:enters Try.prog 35=true:=by kernel_rfl
theorem enters36:enters Try.prog 36=true:=by kernel_rfl
theorem enters37:enters Try.prog 37=true:=by kernel_rfl
theorem enters38:enters Try.prog 38=true:=by kernel_rfl
theorem enters39:enters Try.prog 39=true:=by kernel_rfl
theorem enters40:enters Try.prog 40=true:=by kernel_rfl
theorem enters41:enters Try.prog 41=true:=by kernel_rfl
theorem enters42:enters Try.prog 42=true:=by kernel_rfl
theorem enters43:enters Try.prog 43=true:=by kernel_rfl
theorem enters44:enters Try.prog 44=true:=by kernel_rfl
theorem enters45:enters Try.prog 45=true:=by kernel_rfl
theorem enters46:enters Try.prog 46=true:=by kernel_rfl
theorem enters47:enters Try.prog 47=true:=by kernel_rfl
theorem enters48:enters Try.prog 48=true:=by kernel_rfl
theorem enters49:enters Try.prog 49=true:=by kernel_rfl
theorem enters50:enters Try.prog 50=true:=by kernel_rfl
theorem enters51:enters Try.prog 51=true:=by kernel_rfl
theorem enters52:enters Try.prog 52=true:=by kernel_rfl
theorem enters53:enters Try.prog 53=true:=by kernel_rfl
theorem enters54:enters Try.prog 54=true:=by kernel_rfl
theorem enters55:enters Try.prog 55=true:=by kernel_rfl
theorem enters56:enters Try.prog 56=true:=by kernel_rfl
theorem enters57:enters Try.prog 57=true:=by kernel_rfl
theorem enters58:enters Try.prog 58=true:=by kernel_rfl
theorem enters59:enters Try.prog 59=true:=by kernel_rfl
theorem enters60:enters Try.prog 60=true:=by kernel_rfl
theorem enters61:enters Try.prog 61=true:=by kernel_rfl
theorem enters62:enters Try.prog 62=true:=by kernel_rfl
theorem enters63:enters Try.prog 63=true:=by kernel_rfl
theorem enters64:enters Try.prog 64=true:=by kernel_rfl
theorem enters65:enters Try.prog 65=true:=by kernel_rfl
theorem enters66:enters Try.prog 66=true:=by kernel_rfl
theorem enters67:enters Try.prog 67=true:=by kernel_rfl
theorem enters68:enters Try.prog 68=true:=by kernel_rfl
theorem enters69:enters Try.prog 69=true:=by kernel_rfl
theorem enters70:enters Try.prog 70=true:=by kernel_rfl
theorem enters71:enters Try.prog 71=true:=by kernel_rfl
theorem enters72:enters Try.prog 72=true:=by kernel_rfl
theorem enters73:enters Try.prog 73=true:=by kernel_rfl
theorem enters74:enters Try.prog 74=true:=by kernel_rfl
theorem enters75:enters Try.prog 75=true:=by kernel_rfl
theorem enters76:enters Try.prog 76=false:=by kernel_rfl
theorem extR76 : ∀ args H, extRes Try.prog 76 args H = vH (aExt "math/bits.Add64" args) H := fun _ _ => extRes_some (by kernel_rfl)
theorem enters77:enters Try.prog 77=true:=by kernel_rfl
theorem enters78:enters Try.prog 78=true:=by kernel_rfl
theorem enters79:enters Try.prog 79=true:=by kernel_rfl
theorem enters80:enters Try.prog 80=true:=by kernel_rfl
theorem enters81:enters Try.prog 81=true:=by kernel_rfl
theorem enters82:enters Try.prog 82=true:=by kernel_rfl
theorem enters83:enters Try.prog 83=false:=by kernel_rfl
theorem extR83 : ∀ args H, extRes Try.prog 83 args H = vH (aExt "math/bits.Sub64" args) H := fun _ _ => extRes_some (by kernel_rfl)
theorem enters84:enters Try.prog 84=false:=by kernel_rfl
theorem extR84 : ∀ args H, extRes Try.prog 84 args H = vH (aExt "(runtime.boundsError).Error" args) H := fun _ _ => extRes_some (by kernel_rfl)
theorem enters85:enters Try.prog 85=false:=by kernel_rfl
theorem extR85 : ∀ args H, extRes Try.prog 85 args H = vH (aExt "(runtime.boundsError).RuntimeError" args) H := fun _ _ => extRes_some (by kernel_rfl)
theorem enters86:enters Try.prog 86=false:=by kernel_rfl
theorem extR86 : ∀ args H, extRes Try.prog 86 args H = vH (aExt "(runtime.errorString).Error" args) H := fun _ _ => extRes_some (by kernel_rfl)
theorem enters87:enters Try.prog 87=false:=by kernel_rfl
theorem extR87 : ∀ args H, extRes Try.prog 87 args H = vH (aExt "(runtime.errorString).RuntimeError" args) H := fun _ _ => extRes_some (by kernel_rfl)
theorem enters88:enters Try.prog 88=false:=by kernel_rfl
theorem extR88 : ∀ args H, extRes Try.prog 88 args H = vH (aExt "(runtime.plainError).Error" args) H := fun _ _ => extRes_some (by kernel_rfl)
theorem enters89:enters Try.prog 89=false:=by kernel_rfl
theorem extR89 : ∀ args H, extRes Try.prog 89 args H = vH (aExt "(runtime.plainError).RuntimeError" args) H := fun _ _ => extRes_some (by kernel_rfl)
theorem enters90:enters Try.prog 90=false:=by kernel_rfl
theorem extR90 : ∀ args H, extRes Try.prog 90 args H = vH (aExt "(runtime.errorAddressString).Error" args) H := fun _ _ => extRes_some (by kernel_rfl)
theorem enters91:enters Try.prog 91=false:=by kernel_rfl
theorem extR91 : ∀ args H, extRes Try.prog 91 args H = vH (aExt "(runtime.errorAddressString).RuntimeError" args) H := fun _ _ => extRes_some (by kernel_rfl)
theorem enters92:enters Try.prog 92=false:=by kernel_rfl
theorem extR92 : ∀ args H, extRes Try.prog 92 args H = vH (aExt "(*runtime.TypeAssertionError).Error" args) H := fun _ _ => extRes_some (by kernel_rfl)
theorem enters93:enters Try.prog 93=false:=by kernel_rfl
theorem extR93 : ∀ args H, extRes Try.prog 93 args H = vH (aExt "(*runtime.TypeAssertionError).RuntimeError" args) H := fun _ _ => extRes_some (by kernel_rfl)
theorem enters94:enters Try.prog 94=false:=by kernel_rfl
theorem extR94 : ∀ args H, extRes Try.prog 94 args H = vH (aExt "(*runtime.PanicNilError).Error" args) H := fun _ _ => extRes_some (by kernel_rfl)
theorem enters95:enters Try.prog 95=false:=by kernel_rfl
theorem extR95 : ∀ args H, extRes Try.prog 95 args H = vH (aExt "(*runtime.PanicNilError).RuntimeError" args) H := fun _ _ => extRes_some (by kernel_rfl)
theorem enters96:enters Try.prog 96=false:=by kernel_rfl
theorem extR96 : ∀ args H, extRes Try.prog 96 args H = vH (aExt "(*internal/abi.Type).Align" args) H := fun _ _ => extRes_some (by kernel_rfl)
theorem enters97:enters Try.prog 97=false:=by kernel_rfl
theorem extR97 : ∀ args H, extRes Try.prog 97 args H = vH (aExt "(internal/runtime/maps.unhashableTypeError).Error" args) H := fun _ _ => extRes_some (by kernel_rfl)
theorem enters98:enters Try.prog 98=false:=by kernel_rfl
theorem extR98 : ∀ args H, extRes Try.prog 98 args H = vH (aExt "(internal/runtime/maps.unhashableTypeError).RuntimeError" args) H := fun _ _ => extRes_some (by kernel_rfl)
theorem enters99:enters Try.prog 99=false:=by kernel_rfl
theorem extR99 : ∀ args H, extRes Try.prog 99 args H = vH (aExt "(attestor/api.Errno).Error" args) H := fun _ _ => extRes_some (by kernel_rfl)
theorem enters100:enters Try.prog 100=false:=by kernel_rfl
theorem extR100 : ∀ args H, extRes Try.prog 100 args H = vH (aExt "(internal/abi.Kind).String" args) H := fun _ _ => extRes_some (by kernel_rfl)
theorem keyT46:keyT Try.prog 46=true:=by kernel_rfl
theorem zeroAV3:zeroAV Try.prog 3=some (.p (i64 0)):=by kernel_rfl
theorem keyT3:keyT Try.prog 3=true:=by kernel_rfl
theorem zeroAV66:zeroAV Try.prog 66=some (.p (.agg [])):=by kernel_rfl
theorem follows:Try.prog.follows .mixedOrders=true:=by kernel_rfl
attribute [go_sem] cells1 info1 bytes1 aggT1 isIface1 azero1 zfits1 cells2 info2 bytes2 aggT2 isInt2 isIface2 azero2 zfits2 cells3 info3 bytes3 aggT3 isInt3 isIface3 azero3 zfits3 cells4 info4 bytes4 aggT4 isBool4 isIface4 azero4 zfits4 cells5 info5 bytes5 aggT5 isInt5 isIface5 azero5 zfits5 cells6 info6 bytes6 aggT6 isInt6 isIface6 azero6 zfits6 cells7 info7 bytes7 aggT7 isIface7 azero7 zfits7 build7 cells8 info8 bytes8 aggT8 isIface8 azero8 zfits8 build8 cells9 info9 bytes9 aggT9 isIface9 azero9 zfits9 cells10 info10 bytes10 aggT10 isIface10 azero10 zfits10 cells11 info11 bytes11 aggT11 isIface11 azero11 zfits11 cells12 info12 bytes12 aggT12 isInt12 isIface12 azero12 zfits12 cells13 info13 bytes13 aggT13 isIface13 azero13 zfits13 build13 cells14 info14 bytes14 aggT14 isIface14 azero14 zfits14 build14 cells15 info15 bytes15 aggT15 isIface15 azero15 zfits15 cells16 info16 bytes16 aggT16 isIface16 azero16 zfits16 cells17 info17 bytes17 aggT17 isIface17 azero17 zfits17 cells18 info18 bytes18 aggT18 isIface18 azero18 zfits18 build18 cells19 info19 bytes19 aggT19 isIface19 azero19 zfits19 build19 cells20 info20 bytes20 aggT20 isIface20 azero20 zfits20 cells21 info21 bytes21 aggT21 isInt21 isIface21 azero21 zfits21 cells22 info22 bytes22 aggT22 isIface22 azero22 zfits22 cells23 info23 bytes23 aggT23 isIface23 azero23 zfits23 build23 cells24 info24 bytes24 aggT24 isIface24 azero24 zfits24 build24 cells25 info25 bytes25 aggT25 isIface25 azero25 zfits25 cells26 info26 bytes26 aggT26 isIface26 azero26 zfits26 build26 cells27 info27 bytes27 aggT27 isIface27 azero27 zfits27 build27 cells28 info28 bytes28 aggT28 isIface28 azero28 zfits28 cells30 info30 bytes30 aggT30 isIface30 azero30 zfits30 cells31 info31 bytes31 aggT31 isIface31 azero31 zfits31 cells32 info32 bytes32 aggT32 isIface32 azero32 zfits32 cells33 info33 bytes33 aggT33 isIface33 azero33 zfits33 cells34 info34 bytes34 aggT34 isIface34 azero34 zfits34 cells35 info35 bytes35 aggT35 isInt35 isIface35 azero35 zfits35 cells37 info37 bytes37 aggT37 isIface37 azero37 zfits37 cells38 info38 bytes38 aggT38 isIface38 azero38 zfits38 cells39 info39 bytes39 aggT39 isIface39 azero39 zfits39 cells40 info40 bytes40 aggT40 isIface40 azero40 zfits40 cells41 info41 bytes41 aggT41 isIface41 azero41 zfits41 cells42 info42 bytes42 aggT42 isIface42 azero42 zfits42 cells43 info43 bytes43 aggT43 isIface43 azero43 zfits43 cells44 info44 bytes44 aggT44 isInt44 isIface44 azero44 zfits44 cells45 info45 bytes45 aggT45 isIface45 azero45 zfits45 build45 cells46 info46 bytes46 aggT46 isIface46 azero46 zfits46 build46 cells47 info47 bytes47 aggT47 isIface47 azero47 zfits47 cells48 info48 bytes48 aggT48 isInt48 isIface48 azero48 zfits48 cells49 info49 bytes49 aggT49 isIface49 azero49 zfits49 cells50 info50 bytes50 aggT50 isIface50 azero50 zfits50 cells51 info51 bytes51 aggT51 isIface51 azero51 zfits51 build51 cells52 info52 bytes52 aggT52 isIface52 azero52 zfits52 build52 cells53 info53 bytes53 aggT53 isIface53 azero53 zfits53 cells54 info54 bytes54 aggT54 isIface54 azero54 zfits54 cells55 info55 bytes55 aggT55 isIface55 azero55 zfits55 cells56 info56 bytes56 aggT56 isIface56 azero56 zfits56 cells57 info57 bytes57 aggT57 isIface57 azero57 zfits57 cells58 info58 bytes58 aggT58 isIface58 azero58 zfits58 cells59 info59 bytes59 aggT59 isIface59 azero59 zfits59 cells61 info61 bytes61 aggT61 isIface61 azero61 zfits61 cells62 info62 bytes62 aggT62 isIface62 azero62 zfits62 cells64 info64 bytes64 aggT64 isIface64 azero64 zfits64 cells65 info65 bytes65 aggT65 isIface65 azero65 zfits65 cells66 info66 bytes66 aggT66 isIface66 azero66 zfits66 build66 cells68 info68 bytes68 aggT68 isIface68 azero68 zfits68 cells69 info69 bytes69 aggT69 isIface69 azero69 zfits69 cells70 info70 bytes70 aggT70 isIface70 azero70 zfits70 cells71 info71 bytes71 aggT71 isIface71 azero71 zfits71 cells72 info72 bytes72 aggT72 isIface72 azero72 zfits72 cells73 info73 bytes73 aggT73 isIface73 azero73 zfits73 build73 cells74 info74 bytes74 aggT74 isIface74 azero74 zfits74 build74 cells75 info75 bytes75 aggT75 isIface75 azero75 zfits75 build75 cells76 info76 bytes76 aggT76 isIface76 azero76 zfits76 cells77 info77 bytes77 aggT77 isIface77 azero77 zfits77 cells78 info78 bytes78 aggT78 isIface78 azero78 zfits78 cells80 info80 bytes80 aggT80 isIface80 azero80 zfits80 cells81 info81 bytes81 aggT81 isIface81 azero81 zfits81 cells82 info82 bytes82 aggT82 isIface82 azero82 zfits82 cells83 info83 bytes83 aggT83 isIface83 azero83 zfits83 cells84 info84 bytes84 aggT84 isIface84 azero84 zfits84 cells85 info85 bytes85 aggT85 isIface85 azero85 zfits85 cells86 info86 bytes86 aggT86 isIface86 azero86 zfits86 cells87 info87 bytes87 aggT87 isIface87 azero87 zfits87 cells88 info88 bytes88 aggT88 isIface88 azero88 zfits88 cells89 info89 bytes89 aggT89 isIface89 azero89 zfits89 cells90 info90 bytes90 aggT90 isIface90 azero90 zfits90 cells91 info91 bytes91 aggT91 isIface91 azero91 zfits91 cells92 info92 bytes92 aggT92 isIface92 azero92 zfits92 cells94 info94 bytes94 aggT94 isIface94 azero94 zfits94 cells95 info95 bytes95 aggT95 isIface95 azero95 zfits95 cells96 info96 bytes96 aggT96 isInt96 isIface96 azero96 zfits96 cells97 info97 bytes97 aggT97 isIface97 azero97 zfits97 cells98 info98 bytes98 aggT98 isIface98 azero98 zfits98 cells99 info99 bytes99 aggT99 isIface99 azero99 zfits99 cells100 info100 bytes100 aggT100 isIface100 azero100 zfits100 cells101 info101 bytes101 aggT101 isIface101 azero101 zfits101 build101 cells102 info102 bytes102 aggT102 isIface102 azero102 zfits102 build102 cells103 info103 bytes103 aggT103 isIface103 azero103 zfits103 build103 cells104 info104 bytes104 aggT104 isIface104 azero104 zfits104 build104 cells105 info105 bytes105 aggT105 isIface105 azero105 zfits105 build105 cells106 info106 bytes106 aggT106 isIface106 azero106 zfits106 cells107 info107 bytes107 aggT107 isInt107 isIface107 azero107 zfits107 cells108 info108 bytes108 aggT108 isInt108 isIface108 azero108 zfits108 cells109 info109 bytes109 aggT109 isInt109 isIface109 azero109 zfits109 cells110 info110 bytes110 aggT110 isIface110 azero110 zfits110 cells111 info111 bytes111 aggT111 isIface111 azero111 zfits111 cells112 info112 bytes112 aggT112 isInt112 isIface112 azero112 zfits112 cells113 info113 bytes113 aggT113 isInt113 isIface113 azero113 zfits113 cells114 info114 bytes114 aggT114 isIface114 azero114 zfits114 build114 cells115 info115 bytes115 aggT115 isIface115 azero115 zfits115 build115 cells116 info116 bytes116 aggT116 isIface116 azero116 zfits116 enters0 extR0 enters1 extR1 enters2 enters3 enters4 enters5 enters6 enters7 enters8 enters9 enters10 enters11 enters12 enters13 enters14 enters15 enters16 enters17 enters18 enters19 enters20 enters21 enters22 enters23 enters24 enters25 enters26 enters27 enters28 enters29 enters30 enters31 enters32 enters33 enters34 enters35 enters36 enters37 enters38 enters39 enters40 enters41 enters42 enters43 enters44 enters45 enters46 enters47 enters48 enters49 enters50 enters51 enters52 enters53 enters54 enters55 enters56 enters57 enters58 enters59 enters60 enters61 enters62 enters63 enters64 enters65 enters66 enters67 enters68 enters69 enters70 enters71 enters72 enters73 enters74 enters75 enters76 extR76 enters77 enters78 enters79 enters80 enters81 enters82 enters83 extR83 enters84 extR84 enters85 extR85 enters86 extR86 enters87 extR87 enters88 extR88 enters89 extR89 enters90 extR90 enters91 extR91 enters92 extR92 enters93 extR93 enters94 extR94 enters95 extR95 enters96 extR96 enters97 extR97 enters98 extR98 enters99 extR99 enters100 extR100 keyT46 zeroAV3 keyT3 zeroAV66
attribute [go_sem] Try.underlying1 Try.underlying2 Try.underlying3 Try.underlying4 Try.underlying5 Try.underlying6 Try.underlying7 Try.underlying8 Try.underlying9 Try.underlying10 Try.underlying11 Try.underlying12 Try.underlying13 Try.underlying14 Try.underlying15 Try.underlying16 Try.underlying17 Try.underlying18 Try.underlying19 Try.underlying20 Try.underlying21 Try.underlying22 Try.underlying23 Try.underlying24 Try.underlying25 Try.underlying26 Try.underlying27 Try.underlying28 Try.underlying30 Try.underlying31 Try.underlying32 Try.underlying33 Try.underlying34 Try.underlying35 Try.underlying37 Try.underlying38 Try.underlying39 Try.underlying40 Try.underlying41 Try.underlying42 Try.underlying43 Try.underlying44 Try.underlying45 Try.underlying46 Try.underlying47 Try.underlying48 Try.underlying49 Try.underlying50 Try.underlying51 Try.underlying52 Try.underlying53 Try.underlying54 Try.underlying55 Try.underlying56 Try.underlying57 Try.underlying58 Try.underlying59 Try.underlying61 Try.underlying62 Try.underlying64 Try.underlying65 Try.underlying66 Try.underlying68 Try.underlying69 Try.underlying70 Try.underlying71 Try.underlying72 Try.underlying73 Try.underlying74 Try.underlying75 Try.underlying76 Try.underlying77 Try.underlying78 Try.underlying80 Try.underlying81 Try.underlying82 Try.underlying83 Try.underlying84 Try.underlying85 Try.underlying86 Try.underlying87 Try.underlying88 Try.underlying89 Try.underlying90 Try.underlying91 Try.underlying92 Try.underlying94 Try.underlying95 Try.underlying96 Try.underlying97 Try.underlying98 Try.underlying99 Try.underlying100 Try.underlying101 Try.underlying102 Try.underlying103 Try.underlying104 Try.underlying105 Try.underlying106 Try.underlying107 Try.underlying108 Try.underlying109 Try.underlying110 Try.underlying111 Try.underlying112 Try.underlying113 Try.underlying114 Try.underlying115 Try.underlying116

end Go.Proofs.Ytjnbifkojpfdgaa

/-
  Arithmetic modulo the prime,as the program and as the reference have it: plain functions and their walks.
-/
namespace Go.Proofs.Ytjnbifkojpfdgaa
open Go Go.AL

abbrev U:=BitVec 64
abbrev pp:U:=18446744069414584321#64
abbrev two32:U:=4294967296#64
abbrev eps:U:=4294967295#64

/-! ### The reference -/
def rRed (x:U):U:=x % 18446744069414584321#64
def rAdd (a b:U):U:=if 18446744069414584321#64 - b≤a then a - (18446744069414584321#64 - b) else a+b
def rShift (a:U):U:=rAdd (rRed (a % 4294967296#64*4294967296#64)) (rRed (a / 4294967296#64*4294967295#64))
def rHalf (a b:U):U:=rAdd (rRed (a % 4294967296#64*b)) (rShift (rRed (a / 4294967296#64*b)))
def rMul (a b:U):U:=rAdd (rHalf a (b % 4294967296#64)) (rShift (rHalf a (b / 4294967296#64)))
def valid (a:U):Bool:=decide (a < 18446744069414584321#64)

/-! ### The program -/
def fRed (x:U):U:=if 18446744069414584321#64≤x then x - 18446744069414584321#64 else x
def fAdd (a b:U):U:=if 2 ^ 64≤a.toNat+b.toNat ∨ 18446744069414584321#64≤a+b then a+b - 18446744069414584321#64 else a+b
def fSub (a b:U):U:=if a.toNat < b.toNat then a - b+18446744069414584321#64 else a - b
def mulHi (x y:U):U :=
  let t:=(x >>> 32)*(y &&& 4294967295#64)+((x &&& 4294967295#64)*(y &&& 4294967295#64)) >>> 32
  (x >>> 32)*(y >>> 32)+t >>> 32+((t &&& 4294967295#64)+(x &&& 4294967295#64)*(y >>> 32)) >>> 32
def fMul (a b:U):U:=fAdd (fSub (fRed (a*b)) (mulHi a b >>> 32)) (fRed ((mulHi a b &&& 4294967295#64)*4294967295#64))

theorem pp_ne:(18446744069414584321#64:U)≠0#64:=by decide
theorem two32_ne:(4294967296#64:U)≠0#64:=by decide

theorem carry_pos {c:Prop} [Decidable c]:decide (0#64 < if c then 1#64 else 0#64)=decide c:=by
  by_cases h:c
  · simp [h]
  · simp [h]

section walks
variable {G:Globs} (a b:U) (H:Hp) (R:AV → Hp → Prop)

theorem rRed_spec (h:R (.p (w64 (rRed a))) H):ACall Try.prog G 58 [.p (w64 a)] H R:=by
  refine ACall.of_run (raw:=[]) Try.func58 rfl Try.ntmps58 (by simp) fun hbel => ?_
  have h1:=pp_ne
  (repeat refine .z rfl ?_);refine .text ?_;simp (disch:=first|exact dsc|fail) only [go_sem,seval]
  (repeat refine .z rfl ?_);refine .text ?_;simp (disch:=first|exact dsc|fail) only [go_sem,seval]
  (repeat refine .z rfl ?_);refine .rt Try.func58 (by rw [Try.results58]) (hR := ?_);simp (disch:=first|exact dsc|fail) only [go_sem,seval]
  exact h

theorem rAdd_spec (h:R (.p (w64 (rAdd a b))) H):ACall Try.prog G 59 [.p (w64 a),.p (w64 b)] H R:=by
  refine ACall.of_run (raw:=[]) Try.func59 rfl Try.ntmps59 (by simp) fun hbel => ?_
  unfold rAdd at h
  (repeat refine .z rfl ?_);refine .text ?_;simp (disch:=first|exact dsc|fail) only [go_sem,seval]
  (repeat refine .z rfl ?_);refine .text ?_;simp (disch:=first|exact dsc|fail) only [go_sem,seval]
  (repeat refine .z rfl ?_);refine .ifB (by simp (disch:=first|exact dsc|fail) only [go_sem,seval];rfl) (fun hc => ?_) (fun hc => ?_)
  · rw [if_pos (of_decide_eq_true hc)] at h
    (repeat refine .z rfl ?_);refine .text ?_;simp (disch:=first|exact dsc|fail) only [go_sem,seval]
    (repeat refine .z rfl ?_);refine .rt Try.func59 (by rw [Try.results59]) (hR := ?_);simp (disch:=first|exact dsc|fail) only [go_sem,seval]
    exact h
  · rw [if_neg (of_decide_eq_false hc)] at h
    (repeat refine .z rfl ?_);refine .text ?_;simp (disch:=first|exact dsc|fail) only [go_sem,seval]
    (repeat refine .z rfl ?_);refine .rt Try.func59 (by rw [Try.results59]) (hR := ?_);simp (disch:=first|exact dsc|fail) only [go_sem,seval]
    exact h

theorem rShift_spec (h:R (.p (w64 (rShift a))) H):ACall Try.prog G 75 [.p (w64 a)] H R:=by
  refine ACall.of_run (raw:=[]) Try.func75 rfl Try.ntmps75 (by simp) fun hbel => ?_
  have h1:=two32_ne
  (repeat refine .z rfl ?_);refine .text ?_;simp (disch:=first|exact dsc|fail) only [go_sem,seval]
  (repeat refine .z rfl ?_);refine .text ?_;simp (disch:=first|exact dsc|fail) only [go_sem,seval]
  (repeat refine .z rfl ?_);refine .text ?_;simp (disch:=first|exact dsc|fail) only [go_sem,seval]
  refine CallK.of (fun R h=>rRed_spec _ _ R h) ?_;simp (disch:=first|exact dsc|fail) only [go_sem,seval]
  refine CallK.of (fun R h=>rRed_spec _ _ R h) ?_;simp (disch:=first|exact dsc|fail) only [go_sem,seval]
  refine CallK.of (fun R h=>rAdd_spec _ _ _ R h) ?_;simp (disch:=first|exact dsc|fail) only [go_sem,seval]
  (repeat refine .z rfl ?_);refine .rt Try.func75 (by rw [Try.results75]) (hR := ?_);simp (disch:=first|exact dsc|fail) only [go_sem,seval]
  exact h




theorem fValid_spec (h:R (.p (bo (valid a))) H):ACall Try.prog G 69 [.p (w64 a)] H R:=by
  refine ACall.of_run (raw:=[]) Try.func69 rfl Try.ntmps69 (by simp) fun hbel => ?_
  (repeat refine .z rfl ?_);refine .text ?_;simp (disch:=first|exact dsc|fail) only [go_sem,seval]
  (repeat refine .z rfl ?_);refine .text ?_;simp (disch:=first|exact dsc|fail) only [go_sem,seval]
  (repeat refine .z rfl ?_);refine .rt Try.func69 (by rw [Try.results69]) (hR := ?_);simp (disch:=first|exact dsc|fail) only [go_sem,seval]
  exact h

theorem fRed_spec (h:R (.p (w64 (fRed a))) H):ACall Try.prog G 79 [.p (w64 a)] H R:=by
  refine ACall.of_run (raw:=[]) Try.func79 rfl Try.ntmps79 (by simp) fun hbel => ?_
  unfold fRed at h
  (repeat refine .z rfl ?_);refine .text ?_;simp (disch:=first|exact dsc|fail) only [go_sem,seval]
  (repeat refine .z rfl ?_);refine .text ?_;simp (disch:=first|exact dsc|fail) only [go_sem,seval]
  (repeat refine .z rfl ?_);refine .ifB (by simp (disch:=first|exact dsc|fail) only [go_sem,seval];rfl) (fun hc => ?_) (fun hc => ?_)
  · rw [if_pos (of_decide_eq_true hc)] at h
    (repeat refine .z rfl ?_);refine .text ?_;simp (disch:=first|exact dsc|fail) only [go_sem,seval]
    (repeat refine .z rfl ?_);refine .text ?_;simp (disch:=first|exact dsc|fail) only [go_sem,seval]
    (repeat refine .z rfl ?_);refine .rt Try.func79 (by rw [Try.results79]) (hR := ?_);simp (disch:=first|exact dsc|fail) only [go_sem,seval]
    exact h
  · rw [if_neg (of_decide_eq_false hc)] at h
    (repeat refine .z rfl ?_);refine .text ?_;simp (disch:=first|exact dsc|fail) only [go_sem,seval]
    (repeat refine .z rfl ?_);refine .rt Try.func79 (by rw [Try.results79]) (hR := ?_);simp (disch:=first|exact dsc|fail) only [go_sem,seval]
    exact h

theorem fAdd_spec (h:R (.p (w64 (fAdd a b))) H):ACall Try.prog G 61 [.p (w64 a),.p (w64 b)] H R:=by
  refine ACall.of_run (raw:=[]) Try.func61 rfl Try.ntmps61 (by simp) fun hbel => ?_
  unfold fAdd at h
  (repeat refine .z rfl ?_);refine .text ?_;simp (disch:=first|exact dsc|fail) only [go_sem,seval]
  (repeat refine .z rfl ?_);refine .text ?_;simp (disch:=first|exact dsc|fail) only [go_sem,seval]
  (repeat refine .z rfl ?_);refine .text ?_;simp (disch:=first|exact dsc|fail) only [go_sem,seval,carry_pos]
  (first | refine guarded_split (fun hg => ?_) (fun hg => ?_) | refine guardedD_split (fun hg => ?_) (fun hg => ?_))<;>(try simp only [Bool.not_eq_true',Bool.not_eq_false'] at hg)<;>simp (disch:=first|exact dsc|fail) only [go_sem,seval,hg]
  · have hc : ¬ 2 ^ 64≤a.toNat+b.toNat:=by simpa using hg
    have hd:decide (2 ^ 64≤a.toNat+b.toNat)=false:=decide_eq_false hc
    (try simp (disch:=first|exact dsc|fail) only [go_sem,seval,hd])
    (repeat refine .z rfl ?_);refine .ifB (by simp (disch:=first|exact dsc|fail) only [go_sem,seval];rfl) (fun hb => ?_) (fun hb => ?_)
    · rw [if_pos (.inr (of_decide_eq_true hb))] at h
      (repeat refine .z rfl ?_);refine .text ?_;simp (disch:=first|exact dsc|fail) only [go_sem,seval]
      (repeat refine .z rfl ?_);refine .text ?_;simp (disch:=first|exact dsc|fail) only [go_sem,seval]
      (repeat refine .z rfl ?_);refine .rt Try.func61 (by rw [Try.results61]) (hR := ?_);simp (disch:=first|exact dsc|fail) only [go_sem,seval]
      exact h
    · rw [if_neg (by rintro (h1 | h1);exact hc h1;exact of_decide_eq_false hb h1)] at h
      (repeat refine .z rfl ?_);refine .text ?_;simp (disch:=first|exact dsc|fail) only [go_sem,seval]
      (repeat refine .z rfl ?_);refine .rt Try.func61 (by rw [Try.results61]) (hR := ?_);simp (disch:=first|exact dsc|fail) only [go_sem,seval]
      exact h
  · have hc:2 ^ 64≤a.toNat+b.toNat:=by simpa using hg
    have hd:decide (2 ^ 64≤a.toNat+b.toNat)=true:=decide_eq_true hc
    rw [if_pos (.inl hc)] at h
    (try simp (disch:=first|exact dsc|fail) only [go_sem,seval,hd])
    (repeat refine .z rfl ?_);refine .ifT (by simp (disch:=first|exact dsc|fail) only [go_sem,seval,hd]) ?_
    (repeat refine .z rfl ?_);refine .text ?_;simp (disch:=first|exact dsc|fail) only [go_sem,seval]
    (repeat refine .z rfl ?_);refine .text ?_;simp (disch:=first|exact dsc|fail) only [go_sem,seval]
    (repeat refine .z rfl ?_);refine .rt Try.func61 (by rw [Try.results61]) (hR := ?_);simp (disch:=first|exact dsc|fail) only [go_sem,seval]
    exact h

theorem fSub_spec (h:R (.p (w64 (fSub a b))) H):ACall Try.prog G 78 [.p (w64 a),.p (w64 b)] H R:=by
  refine ACall.of_run (raw:=[]) Try.func78 rfl Try.ntmps78 (by simp) fun hbel => ?_
  unfold fSub at h
  (repeat refine .z rfl ?_);refine .text ?_;simp (disch:=first|exact dsc|fail) only [go_sem,seval]
  (repeat refine .z rfl ?_);refine .text ?_;simp (disch:=first|exact dsc|fail) only [go_sem,seval]
  (repeat refine .z rfl ?_);refine .text ?_;simp (disch:=first|exact dsc|fail) only [go_sem,seval,carry_pos]
  (repeat refine .z rfl ?_);refine .ifB (by simp (disch:=first|exact dsc|fail) only [go_sem,seval];rfl) (fun hc => ?_) (fun hc => ?_)
  · rw [if_pos (of_decide_eq_true hc)] at h
    (repeat refine .z rfl ?_);refine .text ?_;simp (disch:=first|exact dsc|fail) only [go_sem,seval]
    (repeat refine .z rfl ?_);refine .text ?_;simp (disch:=first|exact dsc|fail) only [go_sem,seval]
    (repeat refine .z rfl ?_);refine .rt Try.func78 (by rw [Try.results78]) (hR := ?_);simp (disch:=first|exact dsc|fail) only [go_sem,seval]
    exact h
  · rw [if_neg (of_decide_eq_false hc)] at h
    (repeat refine .z rfl ?_);refine .text ?_;simp (disch:=first|exact dsc|fail) only [go_sem,seval]
    (repeat refine .z rfl ?_);refine .rt Try.func78 (by rw [Try.results78]) (hR := ?_);simp (disch:=first|exact dsc|fail) only [go_sem,seval]
    exact h

theorem Mul64_spec (h:R (.tup [.p (w64 (mulHi a b)),.p (w64 (a*b))]) H):ACall Try.prog G 77 [.p (w64 a),.p (w64 b)] H R:=by
  refine ACall.of_run (raw:=[]) Try.func77 rfl Try.ntmps77 (by simp) fun hbel => ?_
  (repeat refine .z rfl ?_);refine .text ?_;simp (disch:=first|exact dsc|fail) only [go_sem,seval]
  (repeat refine .z rfl ?_);refine .text ?_;simp (disch:=first|exact dsc|fail) only [go_sem,seval]
  (repeat refine .z rfl ?_);refine .text ?_;simp (disch:=first|exact dsc|fail) only [go_sem,seval]
  (repeat refine .z rfl ?_);refine .text ?_;simp (disch:=first|exact dsc|fail) only [go_sem,seval]
  (repeat refine .z rfl ?_);refine .text ?_;simp (disch:=first|exact dsc|fail) only [go_sem,seval]
  (repeat refine .z rfl ?_);refine .text ?_;simp (disch:=first|exact dsc|fail) only [go_sem,seval]
  (repeat refine .z rfl ?_);refine .text ?_;simp (disch:=first|exact dsc|fail) only [go_sem,seval]
  (repeat refine .z rfl ?_);refine .text ?_;simp (disch:=first|exact dsc|fail) only [go_sem,seval]
  (repeat refine .z rfl ?_);refine .text ?_;simp (disch:=first|exact dsc|fail) only [go_sem,seval]
  (repeat refine .z rfl ?_);refine .text ?_;simp (disch:=first|exact dsc|fail) only [go_sem,seval]
  (repeat refine .z rfl ?_);refine .text ?_;simp (disch:=first|exact dsc|fail) only [go_sem,seval]
  (repeat refine .z rfl ?_);refine .text ?_;simp (disch:=first|exact dsc|fail) only [go_sem,seval]
  (repeat refine .z rfl ?_);refine .rt Try.func77 (by rw [Try.results77]) (hR := ?_);simp (disch:=first|exact dsc|fail) only [go_sem,seval]
  exact h

theorem fMul_spec (h:R (.p (w64 (fMul a b))) H):ACall Try.prog G 62 [.p (w64 a),.p (w64 b)] H R:=by
  refine ACall.of_run (raw:=[]) Try.func62 rfl Try.ntmps62 (by simp) fun hbel => ?_
  (repeat refine .z rfl ?_);refine .text ?_;simp (disch:=first|exact dsc|fail) only [go_sem,seval]
  (repeat refine .z rfl ?_);refine .text ?_;simp (disch:=first|exact dsc|fail) only [go_sem,seval]
  refine CallK.of (fun R h=>Mul64_spec _ _ _ R h) ?_;simp (disch:=first|exact dsc|fail) only [go_sem,seval]
  (repeat refine .z rfl ?_);refine .text ?_;simp (disch:=first|exact dsc|fail) only [go_sem,seval]
  refine CallK.of (fun R h=>fRed_spec _ _ R h) ?_;simp (disch:=first|exact dsc|fail) only [go_sem,seval]
  refine CallK.of (fun R h=>fSub_spec _ _ _ R h) ?_;simp (disch:=first|exact dsc|fail) only [go_sem,seval]
  (repeat refine .z rfl ?_);refine .text ?_;simp (disch:=first|exact dsc|fail) only [go_sem,seval]
  refine CallK.of (fun R h=>fRed_spec _ _ R h) ?_;simp (disch:=first|exact dsc|fail) only [go_sem,seval]
  refine CallK.of (fun R h=>fAdd_spec _ _ _ R h) ?_;simp (disch:=first|exact dsc|fail) only [go_sem,seval]
  (repeat refine .z rfl ?_);refine .rt Try.func62 (by rw [Try.results62]) (hR := ?_);simp (disch:=first|exact dsc|fail) only [go_sem,seval]
  exact h

end walks
end Go.Proofs.Ytjnbifkojpfdgaa

/-
  Gates and circuits as data;the walks of the small functions on gates.
-/
namespace Go.Proofs.Ytjnbifkojpfdgaa
open Go Go.AL

structure Gate where
  l:Int
  r:Int
  c:U
  a:U
  b:U
  d:U
  deriving DecidableEq

instance:Inhabited Gate:=⟨⟨0,0,0,0,0,0⟩⟩

structure Circ where
  inputs:Int
  layers:List (List Gate)
  sums:Int
  deriving DecidableEq

def gate (g:Gate):PV := .agg [i64 g.l,i64 g.r,w64 g.c,w64 g.a,w64 g.b,w64 g.d]
def circ (c:Circ):PV := .agg [i64 c.inputs,.sl false 1 (pl (sle 6 gate) c.layers),i64 c.sums]
def gc (g:Gate):List AV:=[.p (i64 g.l),.p (i64 g.r),.p (w64 g.c),.p (w64 g.a),.p (w64 g.b),.p (w64 g.d)]
def cc (c:Circ):List AV:=[.p (i64 c.inputs),.p (.sl false 1 (pl (sle 6 gate) c.layers)),.p (i64 c.sums)]

section enc
variable {g:Gate} {c:Circ} {l:List Gate} {i s:Int} {x y z u:U}
theorem gc_def:gc g=[.p (i64 g.l),.p (i64 g.r),.p (w64 g.c),.p (w64 g.a),.p (w64 g.b),.p (w64 g.d)]:=rfl
theorem cc_def:cc c=[.p (i64 c.inputs),.p (.sl false 1 (pl (sle 6 gate) c.layers)),.p (i64 c.sums)]:=rfl
theorem cells_gate:(gate g).cells=[i64 g.l,i64 g.r,w64 g.c,w64 g.a,w64 g.b,w64 g.d]:=rfl
theorem isAgg_gate:(gate g).isAgg=true:=rfl
theorem aggOf_gate:(gate g).aggOf 0 6=gate g:=rfl
theorem aggOf_circ:(circ c).aggOf 0 3=circ c:=rfl
theorem isAggV_gate:(AV.p (gate g)).isAggV=true:=rfl
theorem weak_gate:(gate g).weak=gate g:=rfl
theorem weak1_gate:(gate g).weak1=gate g:=rfl
theorem acells_gate:acells (.p (gate g))=some (gc g):=rfl
theorem gate_fold:PV.agg [i64 i,i64 s,w64 x,w64 y,w64 z,w64 u]=gate ⟨i,s,x,y,z,u⟩:=rfl
theorem mkAgg_gate:mkAgg [.p (i64 i),.p (i64 s),.p (w64 x),.p (w64 y),.p (w64 z),.p (w64 u)] = .p (gate ⟨i,s,x,y,z,u⟩):=rfl
theorem mkAgg_circ {ls:List (List Gate)}:mkAgg [.p (i64 i),.p (.sl false 1 (pl (sle 6 gate) ls)),.p (i64 s)] = .p (circ ⟨i,ls,s⟩):=rfl
theorem mkAgg_circ0 {b:Bool}:mkAgg [.p (i64 i),.p (.sl b 1 []),.p (i64 s)] = .p (.agg [i64 i,.sl b 1 [],i64 s]):=rfl
theorem mkAgg_circo {α v:Nat} {ls:List (List Gate)}:mkAgg [.p (i64 i),.sl α v 1 (pl (sle 6 gate) ls),.p (i64 s)] = .p (circ ⟨i,ls,s⟩):=rfl
theorem gate_eta:(⟨g.l,g.r,g.c,g.a,g.b,g.d⟩:Gate)=g:=rfl
theorem cells_circ:(circ c).cells=[i64 c.inputs,.sl false 1 (pl (sle 6 gate) c.layers),i64 c.sums]:=rfl
theorem isAgg_circ:(circ c).isAgg=true:=rfl
theorem isAggV_circ:(AV.p (circ c)).isAggV=true:=rfl
theorem weak_circ:(circ c).weak=circ c:=rfl
theorem weak1_circ:(circ c).weak1=circ c:=rfl
theorem acells_circ:acells (.p (circ c))=some (cc c):=rfl
theorem circ_fold {ls:List (List Gate)}:PV.agg [i64 i,.sl false 1 (pl (sle 6 gate) ls),i64 s]=circ ⟨i,ls,s⟩:=rfl
theorem circ_fold0:PV.agg [i64 i,.sl false 1 [],i64 s]=circ ⟨i,[],s⟩:=rfl
theorem circ_eta:(⟨c.inputs,c.layers,c.sums⟩:Circ)=c:=rfl
theorem pl_weak1_gate:(pl gate l).map PV.weak1=pl gate l:=pl_weak1 fun _=>rfl
theorem pl_weak_gate:(pl gate l).map PV.weak=pl gate l:=pl_weak fun _=>rfl
theorem gate_len : ∀ y∈pl gate l,y.cells.length=6:=fun y hy=>by
  simp only [pl,List.mem_map] at hy
  obtain ⟨x,_,rfl⟩:=hy
  rfl
end enc
attribute [go_sem] aggOf_gate aggOf_circ gc_def cc_def cells_gate isAgg_gate isAggV_gate weak_gate weak1_gate acells_gate gate_fold gate_eta mkAgg_gate mkAgg_circ mkAgg_circ0 mkAgg_circo cells_circ isAgg_circ isAggV_circ weak_circ weak1_circ acells_circ circ_fold circ_fold0 circ_eta pl_weak1_gate pl_weak_gate

def okG (g:Gate):Prop := -9223372036854775808≤g.l∧g.l≤9223372036854775807 ∧ -9223372036854775808≤g.r∧g.r≤9223372036854775807

theorem wf_i64 {n:Int} (h1 : -9223372036854775808≤n) (h2:n≤9223372036854775807):(Lit.int .i64 n).wf=true:=by
  simp only [Lit.wf,Bool.and_eq_true,decide_eq_true_eq]
  exact ⟨h1,h2⟩
theorem wf_u64 (x:U):(Lit.int .u64 (x.toNat:Int)).wf=true:=by
  have:=x.isLt
  simp only [Lit.wf,Bool.and_eq_true,decide_eq_true_eq]
  exact ⟨by show (0:Int)≤_;omega,by show _≤(18446744073709551615:Int);omega⟩

theorem keyLits_one {P:Program} {t:TypeId} {k:IntKind} {n:Int} {d:Nat} (hu:P.underlying t=some (.int k)) (h:(Lit.int k n).wf=true):P.keyLits (d+1) t [.int k n]=some [.int k n]:=by
  unfold Program.keyLits
  simp [hu,h]

theorem gate_lits (g:Gate) (h:okG g):Try.prog.keyLits 64 46 [.int .i64 g.l,.int .i64 g.r,.int .u64 g.c.toNat,.int .u64 g.a.toNat,.int .u64 g.b.toNat,.int .u64 g.d.toNat] =
    some [.int .i64 g.l,.int .i64 g.r,.int .u64 g.c.toNat,.int .u64 g.a.toNat,.int .u64 g.b.toNat,.int .u64 g.d.toNat]:=by
  obtain ⟨h1,h2,h3,h4⟩:=h
  have i1 : ∀ n,(Lit.int .i64 n).wf=true → Try.prog.keyLits 63 3 [.int .i64 n]=some [.int .i64 n]:=fun n h=>keyLits_one Try.underlying3 h
  have i2 : ∀ x:U,Try.prog.keyLits 63 44 [.int .u64 x.toNat]=some [.int .u64 x.toNat]:=fun x=>keyLits_one Try.underlying44 (wf_u64 x)
  have h5:=i1 _ (wf_i64 h1 h2)
  have h6:=i1 _ (wf_i64 h3 h4)
  unfold Program.keyLits
  simp only [Try.underlying46,cells46]
  rw [if_pos ⟨rfl,by kernel_rfl⟩]
  simp only [List.mapM_cons,List.mapM_nil,cells3,cells44,List.drop_zero,List.drop_succ_cons,List.take_succ_cons,List.take_zero,h5,h6,i2,Option.pure_def,Option.bind_eq_bind,Option.bind_some,Option.map_some]
  rfl

theorem gate_eq {a b:Gate} (ha:okG a) (hb:okG b):aBin Try.prog .eql 46 (.p (gate a)) (.p (gate b))=some (.p (bo (decide (a=b))))∧aBin Try.prog .neq 46 (.p (gate a)) (.p (gate b))=some (.p (bo !decide (a=b))) :=
  eq_lits (by kernel_rfl) rfl rfl (gate_lits a ha) (gate_lits b hb) (by
    constructor
    · intro h
      obtain ⟨a1,a2,a3,a4,a5,a6⟩:=a
      obtain ⟨b1,b2,b3,b4,b5,b6⟩:=b
      simp only [List.cons.injEq,Lit.int.injEq,true_and,and_true] at h
      obtain ⟨h1,h2,h3,h4,h5,h6⟩:=h
      have e : ∀ x y:U,(x.toNat:Int)=y.toNat → x=y:=fun x y h=>BitVec.eq_of_toNat_eq (by omega)
      rw [h1,h2,e _ _ h3,e _ _ h4,e _ _ h5,e _ _ h6]
    · intro h;rw [h])

/-! ### Plain functions on gates -/
def usesL (g:Gate):Bool:=g.c != 0#64 || g.a != 0#64
def usesR (g:Gate):Bool:=g.c != 0#64 || g.b != 0#64
def konst (g:Gate):Bool:=g.c == 0#64 && g.a == 0#64 && g.b == 0#64
def swp (g:Gate):Gate:=⟨g.r,g.l,g.c,g.b,g.a,g.d⟩

section walks
variable {G:Globs} (g:Gate) (H:Hp) (R:AV → Hp → Prop)

theorem R19_UsesRight_spec (h:R (.p (bo (usesR g))) H):ACall Try.prog G 28 [.p (gate g)] H R:=by
  refine ACall.of_run (raw:=[]) Try.func28 rfl Try.ntmps28 (by simp) fun hbel => ?_
  unfold usesR at h
  (repeat refine .z rfl ?_);refine .text ?_;simp (disch:=first|exact dsc|fail) only [go_sem,seval]
  (repeat refine .z rfl ?_);refine .text ?_;simp (disch:=first|exact dsc|fail) only [go_sem,seval]
  (first | refine guarded_split (fun hg => ?_) (fun hg => ?_) | refine guardedD_split (fun hg => ?_) (fun hg => ?_))<;>(try simp only [Bool.not_eq_true',Bool.not_eq_false'] at hg)<;>simp (disch:=first|exact dsc|fail) only [go_sem,seval,hg]
  · rw [hg] at h
    (repeat refine .z rfl ?_);refine .rt Try.func28 (by rw [Try.results28]) (hR := ?_);simp (disch:=first|exact dsc|fail) only [go_sem,seval]
    exact h
  · rw [hg] at h
    (repeat refine .z rfl ?_);refine .rt Try.func28 (by rw [Try.results28]) (hR := ?_);simp (disch:=first|exact dsc|fail) only [go_sem,seval]
    exact h

theorem optimize_swap_spec (h:R (.p (gate (swp g))) H):ACall Try.prog G 35 [.p (gate g)] H R:=by
  refine ACall.of_run (raw:=[]) Try.func35 rfl Try.ntmps35 (by simp) fun hbel => ?_
  (repeat refine .z rfl ?_);refine .text ?_;simp (disch:=first|exact dsc|fail) only [go_sem,seval]
  (repeat refine .z rfl ?_);refine .text ?_;simp (disch:=first|exact dsc|fail) only [go_sem,seval]
  (repeat refine .z rfl ?_);refine .text ?_;simp (disch:=first|exact dsc|fail) only [go_sem,seval]
  (repeat refine .z rfl ?_);refine .text ?_;simp (disch:=first|exact dsc|fail) only [go_sem,seval]
  (repeat refine .z rfl ?_);refine .rt Try.func35 (by rw [Try.results35]) (hR := ?_);simp (disch:=first|exact dsc|fail) only [go_sem,seval]
  exact h


theorem optimize_usesLeft_spec (h:R (.p (bo (usesL g))) H):ACall Try.prog G 43 [.p (gate g)] H R:=by
  refine ACall.of_run (raw:=[]) Try.func43 rfl Try.ntmps43 (by simp) fun hbel => ?_
  unfold usesL at h
  (repeat refine .z rfl ?_);refine .text ?_;simp (disch:=first|exact dsc|fail) only [go_sem,seval]
  (repeat refine .z rfl ?_);refine .text ?_;simp (disch:=first|exact dsc|fail) only [go_sem,seval]
  (first | refine guarded_split (fun hg => ?_) (fun hg => ?_) | refine guardedD_split (fun hg => ?_) (fun hg => ?_))<;>(try simp only [Bool.not_eq_true',Bool.not_eq_false'] at hg)<;>simp (disch:=first|exact dsc|fail) only [go_sem,seval,hg]
  · rw [hg] at h
    (repeat refine .z rfl ?_);refine .rt Try.func43 (by rw [Try.results43]) (hR := ?_);simp (disch:=first|exact dsc|fail) only [go_sem,seval]
    exact h
  · rw [hg] at h
    (repeat refine .z rfl ?_);refine .rt Try.func43 (by rw [Try.results43]) (hR := ?_);simp (disch:=first|exact dsc|fail) only [go_sem,seval]
    exact h

theorem optimize_usesRight_spec (h:R (.p (bo (usesR g))) H):ACall Try.prog G 44 [.p (gate g)] H R:=by
  refine ACall.of_run (raw:=[]) Try.func44 rfl Try.ntmps44 (by simp) fun hbel => ?_
  unfold usesR at h
  (repeat refine .z rfl ?_);refine .text ?_;simp (disch:=first|exact dsc|fail) only [go_sem,seval]
  (repeat refine .z rfl ?_);refine .text ?_;simp (disch:=first|exact dsc|fail) only [go_sem,seval]
  (first | refine guarded_split (fun hg => ?_) (fun hg => ?_) | refine guardedD_split (fun hg => ?_) (fun hg => ?_))<;>(try simp only [Bool.not_eq_true',Bool.not_eq_false'] at hg)<;>simp (disch:=first|exact dsc|fail) only [go_sem,seval,hg]
  · rw [hg] at h
    (repeat refine .z rfl ?_);refine .rt Try.func44 (by rw [Try.results44]) (hR := ?_);simp (disch:=first|exact dsc|fail) only [go_sem,seval]
    exact h
  · rw [hg] at h
    (repeat refine .z rfl ?_);refine .rt Try.func44 (by rw [Try.results44]) (hR := ?_);simp (disch:=first|exact dsc|fail) only [go_sem,seval]
    exact h


theorem konst_eq (g:Gate):decide (g=(⟨g.l,g.r,0#64,0#64,0#64,g.d⟩:Gate))=konst g:=by
  obtain ⟨l,r,c,a,b,d⟩:=g
  simp only [konst,Gate.mk.injEq,true_and,and_true,Bool.decide_and,Bool.and_assoc]
  rfl

theorem optimize_constant_spec (g:Gate) (hg:okG g) (H:Hp) (R:AV → Hp → Prop) (h:R (.p (bo (konst g))) H):ACall Try.prog G 41 [.p (gate g)] H R:=by
  refine ACall.of_run (raw:=[]) Try.func41 rfl Try.ntmps41 (by simp) fun hbel => ?_
  (repeat refine .z rfl ?_);refine .text ?_;simp (disch:=first|exact dsc|fail) only [go_sem,seval]
  have he:=(gate_eq hg (b:=⟨g.l,g.r,0#64,0#64,0#64,g.d⟩) hg).1
  (repeat refine .z rfl ?_);refine .text ?_;simp (disch:=first|exact dsc|fail) only [go_sem,seval,he,konst_eq]
  (repeat refine .z rfl ?_);refine .rt Try.func41 (by rw [Try.results41]) (hR := ?_);simp (disch:=first|exact dsc|fail) only [go_sem,seval]
  exact h
end walks
end Go.Proofs.Ytjnbifkojpfdgaa

/-
  The walks of the folding of a gate,in the program and in the reference,and of the reference's gates.
-/
namespace Go.Proofs.Ytjnbifkojpfdgaa
open Go Go.AL

def foldL (g:Gate) (prev:List Gate):Gate :=
  if konst (nth prev g.l.toNat) then ⟨g.l,g.r,0#64,0#64,fAdd g.b (fMul g.c (nth prev g.l.toNat).d),fAdd g.d (fMul g.a (nth prev g.l.toNat).d)⟩ else g
def n1 (g:Gate):Gate:=if g.l == g.r then ⟨g.l,g.r,g.c,fAdd g.a g.b,0#64,g.d⟩ else g
def n2 (g:Gate):Gate:=if !usesL g && usesR g then swp g else g
def n3 (g:Gate):Gate:=if !usesL g then ⟨0,g.r,g.c,g.a,g.b,g.d⟩ else g
def n4 (g:Gate):Gate:=if !usesR g then ⟨g.l,0,g.c,g.a,g.b,g.d⟩ else if decide (g.r < g.l) then swp g else g
def norm (g:Gate):Gate:=n4 (n3 (n2 (n1 g)))

section walks
variable {G:Globs}

theorem optimize_foldLeft_spec (g:Gate) (prev:List Gate) (h0:0≤g.l) (h1:g.l.toNat < prev.length) (hok:okG (nth prev g.l.toNat)) (H:Hp) (R:AV → Hp → Prop) (h:R (.p (gate (foldL g prev))) H) :
    ACall Try.prog G 34 [.p (gate g),.p (.sl false 6 (pl gate prev))] H R:=by
  refine ACall.of_run (raw:=[]) Try.func34 rfl Try.ntmps34 (by simp) fun hbel => ?_
  unfold foldL at h
  (repeat refine .z rfl ?_);refine .text ?_;simp (disch:=first|exact dsc|fail) only [go_sem,seval]
  (repeat refine .z rfl ?_);refine .text ?_;simp (disch:=first|exact dsc|fail) only [go_sem,seval]
  generalize nth prev g.l.toNat=p at *
  (repeat refine .z rfl ?_);refine .text ?_;simp (disch:=first|exact dsc|fail) only [go_sem,seval]
  refine CallK.of (fun R h=>optimize_constant_spec _ hok _ R h) ?_;simp (disch:=first|exact dsc|fail) only [go_sem,seval]
  (repeat refine .z rfl ?_);refine .ifB (by simp (disch:=first|exact dsc|fail) only [go_sem,seval];rfl) (fun hc => ?_) (fun hc => ?_)
  · rw [if_pos hc] at h
    (repeat refine .z rfl ?_);refine .open [9] follows (by kernel_rfl) ?_;simp (disch:=first|exact dsc|fail) only [go_sem,seval]
    refine CallD.still (fun R h=>fMul_spec _ _ _ R h) ?_;simp (disch:=first|exact dsc|fail) only [go_sem,seval]
    refine CallD.still (fun R h=>fAdd_spec _ _ _ R h) ?_;simp (disch:=first|exact dsc|fail) only [go_sem,seval]
    (repeat refine .z rfl ?_);refine .open [9] follows (by kernel_rfl) ?_;simp (disch:=first|exact dsc|fail) only [go_sem,seval]
    refine CallD.still (fun R h=>fMul_spec _ _ _ R h) ?_;simp (disch:=first|exact dsc|fail) only [go_sem,seval]
    refine CallD.still (fun R h=>fAdd_spec _ _ _ R h) ?_;simp (disch:=first|exact dsc|fail) only [go_sem,seval]
    (repeat refine .z rfl ?_);refine .text ?_;simp (disch:=first|exact dsc|fail) only [go_sem,seval]
    (repeat refine .z rfl ?_);refine .text ?_;simp (disch:=first|exact dsc|fail) only [go_sem,seval]
    (repeat refine .z rfl ?_);refine .rt Try.func34 (by rw [Try.results34]) (hR := ?_);simp (disch:=first|exact dsc|fail) only [go_sem,seval]
    exact h
  · rw [if_neg (by simp [hc])] at h
    (repeat refine .z rfl ?_);refine .text ?_;simp (disch:=first|exact dsc|fail) only [go_sem,seval]
    (repeat refine .z rfl ?_);refine .rt Try.func34 (by rw [Try.results34]) (hR := ?_);simp (disch:=first|exact dsc|fail) only [go_sem,seval]
    exact h

theorem optimize_normalize_spec (g:Gate) (H:Hp) (R:AV → Hp → Prop) (h:R (.p (gate (norm g))) H):ACall Try.prog G 36 [.p (gate g)] H R:=by
  refine ACall.of_run (raw:=[]) Try.func36 rfl Try.ntmps36 (by simp) fun hbel => ?_
  (repeat refine .z rfl ?_);refine .text ?_;simp (disch:=first|exact dsc|fail) only [go_sem,seval]
  (repeat refine .z rfl ?_);refine .cut2 (fun env H'=>env 1 = .ptr H.n 0∧env 2 = .ptr (H.n+1) 0∧H'=(H.new (.cells (gc (n1 g)))).new (.cells (gc ⟨0,0,0#64,0#64,0#64,0#64⟩))) (fun ih => ?_) ?_
  · (repeat refine .z rfl ?_);refine .text ?_;simp (disch:=first|exact dsc|fail) only [go_sem,seval]
    (repeat refine .z rfl ?_);refine .ifB (by simp (disch:=first|exact dsc|fail) only [go_sem,seval];rfl) (fun hc => ?_) (fun hc => ?_)
    · have e1:n1 g=⟨g.l,g.r,g.c,fAdd g.a g.b,0#64,g.d⟩:=by rw [n1,if_pos hc]
      (repeat refine .z rfl ?_);refine .text ?_;simp (disch:=first|exact dsc|fail) only [go_sem,seval]
      refine CallK.of (fun R h=>fAdd_spec _ _ _ R h) ?_;simp (disch:=first|exact dsc|fail) only [go_sem,seval]
      refine ih _ _ ?_
      simp (disch:=first|exact dsc|fail) only [go_sem,seval,e1]
    · have e1:n1 g=g:=by rw [n1,if_neg (by simp [hc])]
      refine .skip ?_
      refine ih _ _ ?_
      simp (disch:=first|exact dsc|fail) only [go_sem,seval,e1]
  intro env H' ⟨e1,e2,eH⟩
  subst eH
  unfold norm at h
  generalize n1 g=x at *
  (repeat refine .z rfl ?_);refine .cut2 (fun env H'=>env 1 = .ptr H.n 0∧env 2 = .ptr (H.n+1) 0∧H'=(H.new (.cells (gc (n2 x)))).new (.cells (gc ⟨0,0,0#64,0#64,0#64,0#64⟩))) (fun ih => ?_) ?_
  · (repeat refine .z rfl ?_);refine .text ?_;simp (disch:=first|exact dsc|fail) only [go_sem,seval,e1]
    refine CallK.of (fun R h=>optimize_usesLeft_spec _ _ R h) ?_;simp (disch:=first|exact dsc|fail) only [go_sem,seval,e1]
    (first | refine guarded_split (fun hL => ?_) (fun hL => ?_) | refine guardedD_split (fun hL => ?_) (fun hL => ?_))<;>(try simp only [Bool.not_eq_true',Bool.not_eq_false'] at hL)<;>simp (disch:=first|exact dsc|fail) only [go_sem,seval,hL,e1]
    · refine CallK.of (fun R h=>optimize_usesRight_spec _ _ R h) ?_;simp (disch:=first|exact dsc|fail) only [go_sem,seval,e1]
      (repeat refine .z rfl ?_);refine .ifB (by simp (disch:=first|exact dsc|fail) only [go_sem,seval];rfl) (fun hc => ?_) (fun hc => ?_)
      · have e3:n2 x=swp x:=by rw [n2,hL,hc];rfl
        (repeat refine .z rfl ?_);refine .text ?_;simp (disch:=first|exact dsc|fail) only [go_sem,seval,e1]
        refine CallK.of (fun R h=>optimize_swap_spec _ _ R h) ?_;simp (disch:=first|exact dsc|fail) only [go_sem,seval,e1]
        refine ih _ _ ?_
        simp (disch:=first|exact dsc|fail) only [go_sem,seval,e1,e2,e3,swp]
      · have e3:n2 x=x:=by rw [n2,hL,hc];rfl
        refine .skip ?_
        refine ih _ _ ?_
        simp (disch:=first|exact dsc|fail) only [go_sem,seval,e1,e2,e3]
    · have e3:n2 x=x:=by rw [n2,hL];rfl
      (repeat refine .z rfl ?_);refine .ifF (by simp (disch:=first|exact dsc|fail) only [go_sem,seval]) ?_
      refine .skip ?_
      refine ih _ _ ?_
      simp (disch:=first|exact dsc|fail) only [go_sem,seval,e1,e2,e3]
  clear e1 e2
  intro env H' ⟨e1,e2,eH⟩
  subst eH
  generalize n2 x=y at *
  (repeat refine .z rfl ?_);refine .cut2 (fun env H'=>env 1 = .ptr H.n 0∧env 2 = .ptr (H.n+1) 0∧H'=(H.new (.cells (gc (n3 y)))).new (.cells (gc ⟨0,0,0#64,0#64,0#64,0#64⟩))) (fun ih => ?_) ?_
  · (repeat refine .z rfl ?_);refine .text ?_;simp (disch:=first|exact dsc|fail) only [go_sem,seval,e1]
    refine CallK.of (fun R h=>optimize_usesLeft_spec _ _ R h) ?_;simp (disch:=first|exact dsc|fail) only [go_sem,seval,e1]
    (repeat refine .z rfl ?_);refine .ifB (by simp (disch:=first|exact dsc|fail) only [go_sem,seval];rfl) (fun hc => ?_) (fun hc => ?_)
    · have e3:n3 y=⟨0,y.r,y.c,y.a,y.b,y.d⟩:=by rw [n3,hc];rfl
      (repeat refine .z rfl ?_);refine .text ?_;simp (disch:=first|exact dsc|fail) only [go_sem,seval,e1]
      refine ih _ _ ?_
      simp (disch:=first|exact dsc|fail) only [go_sem,seval,e1,e2,e3]
    · have e3:n3 y=y:=by rw [n3,hc];rfl
      refine .skip ?_
      refine ih _ _ ?_
      simp (disch:=first|exact dsc|fail) only [go_sem,seval,e1,e2,e3]
  clear e1 e2
  intro env H' ⟨e1,e2,eH⟩
  subst eH
  generalize n3 y=z at *
  (repeat refine .z rfl ?_);refine .cut2 (fun env H'=>env 1 = .ptr H.n 0∧env 2 = .ptr (H.n+1) 0∧H'=(H.new (.cells (gc (n4 z)))).new (.cells (gc ⟨0,0,0#64,0#64,0#64,0#64⟩))) (fun ih => ?_) ?_
  · (repeat refine .z rfl ?_);refine .text ?_;simp (disch:=first|exact dsc|fail) only [go_sem,seval,e1]
    refine CallK.of (fun R h=>optimize_usesRight_spec _ _ R h) ?_;simp (disch:=first|exact dsc|fail) only [go_sem,seval,e1]
    (repeat refine .z rfl ?_);refine .ifB (by simp (disch:=first|exact dsc|fail) only [go_sem,seval];rfl) (fun hc => ?_) (fun hc => ?_)
    · have e3:n4 z=⟨z.l,0,z.c,z.a,z.b,z.d⟩:=by rw [n4,hc];rfl
      (repeat refine .z rfl ?_);refine .text ?_;simp (disch:=first|exact dsc|fail) only [go_sem,seval,e1]
      refine ih _ _ ?_
      simp (disch:=first|exact dsc|fail) only [go_sem,seval,e1,e2,e3]
    · (repeat refine .z rfl ?_);refine .text ?_;simp (disch:=first|exact dsc|fail) only [go_sem,seval,e1]
      (repeat refine .z rfl ?_);refine .ifB (by simp (disch:=first|exact dsc|fail) only [go_sem,seval];rfl) (fun hd => ?_) (fun hd => ?_)
      · have e3:n4 z=swp z:=by rw [n4,hc,hd];rfl
        (repeat refine .z rfl ?_);refine .text ?_;simp (disch:=first|exact dsc|fail) only [go_sem,seval,e1]
        refine CallK.of (fun R h=>optimize_swap_spec _ _ R h) ?_;simp (disch:=first|exact dsc|fail) only [go_sem,seval,e1]
        refine ih _ _ ?_
        simp (disch:=first|exact dsc|fail) only [go_sem,seval,e1,e2,e3,swp]
      · have e3:n4 z=z:=by rw [n4,hc,hd];rfl
        refine .skip ?_
        refine ih _ _ ?_
        simp (disch:=first|exact dsc|fail) only [go_sem,seval,e1,e2,e3]
  clear e1 e2
  intro env H' ⟨e1,e2,eH⟩
  subst eH
  generalize n4 z=u at *
  (repeat refine .z rfl ?_);refine .text ?_;simp (disch:=first|exact dsc|fail) only [go_sem,seval,e1,e2]
  (repeat refine .z rfl ?_);refine .rt Try.func36 (by rw [Try.results36]) (hx:=by simp (disch:=first|exact dsc|fail) only [go_sem,seval,e1,e2];rfl) (hR := ?_);simp (disch:=first|exact dsc|fail) only [go_sem,seval,e1,e2]
  exact h

end walks
end Go.Proofs.Ytjnbifkojpfdgaa

/-
  The walk of the reference's folding of a gate,and of the reference's gates.
-/
namespace Go.Proofs.Ytjnbifkojpfdgaa
open Go Go.AL

def fg1 (first:Bool) (prev:List Gate) (g:Gate):Gate :=
  if !first && konst (nth prev g.l.toNat) then ⟨g.l,g.r,0#64,0#64,rAdd g.b (rMul g.c (nth prev g.l.toNat).d),rAdd g.d (rMul g.a (nth prev g.l.toNat).d)⟩ else g
def fg2 (first:Bool) (prev:List Gate) (g:Gate):Gate :=
  if !first && konst (nth prev g.r.toNat) then ⟨g.l,g.r,0#64,rAdd g.a (rMul g.c (nth prev g.r.toNat).d),0#64,rAdd g.d (rMul g.b (nth prev g.r.toNat).d)⟩ else g
def m1 (g:Gate):Gate:=if g.l == g.r then ⟨g.l,g.r,g.c,rAdd g.a g.b,0#64,g.d⟩ else g
def m2 (g:Gate):Gate:=if !usesL g && usesR g then ⟨g.r,g.r,g.c,g.b,0#64,g.d⟩ else g
def m4 (g:Gate):Gate:=if !usesR g then ⟨g.l,0,g.c,g.a,g.b,g.d⟩ else g
def m5 (g:Gate):Gate:=if usesR g && decide (g.r < g.l) then swp g else g
def foldG (first:Bool) (prev:List Gate) (g:Gate):Gate:=m5 (m4 (n3 (m2 (m1 (fg2 first prev (fg1 first prev g))))))


section walks
variable {G:Globs}



def mkG (g:Gate) (n:Int):Gate :=
  ⟨g.l % 256 % n,g.r % 256 % n,rRed g.c,rRed g.a,rRed g.b,rRed g.d⟩
def vG (g:Gate) (n:Int):Bool:=decide (0≤g.l) && decide (g.l < n) && decide (0≤g.r) && decide (g.r < n) && valid g.c && valid g.a && valid g.b && valid g.d



theorem R16_MadeGate_spec (g:Gate) (n:Int) (hn:0 < n) (H:Hp) (R:AV → Hp → Prop) (h:R (.p (gate (mkG g n))) H):ACall Try.prog G 57 [.p (gate g),.p (i64 n)] H R:=by
  refine ACall.of_run (raw:=[]) Try.func57 rfl Try.ntmps57 (by simp) fun hbel => ?_
  (repeat refine .z rfl ?_);refine .text ?_;simp (disch:=first|exact dsc|fail) only [go_sem,seval]
  (repeat refine .z rfl ?_);refine .open [23] follows (by kernel_rfl) ?_;simp (disch:=first|exact dsc|fail) only [go_sem,seval]
  refine CallD.still (fun R h=>rRed_spec _ _ R h) ?_;simp (disch:=first|exact dsc|fail) only [go_sem,seval]
  refine CallD.still (fun R h=>rRed_spec _ _ R h) ?_;simp (disch:=first|exact dsc|fail) only [go_sem,seval]
  refine CallD.still (fun R h=>rRed_spec _ _ R h) ?_;simp (disch:=first|exact dsc|fail) only [go_sem,seval]
  refine CallD.still (fun R h=>rRed_spec _ _ R h) ?_;simp (disch:=first|exact dsc|fail) only [go_sem,seval]
  (repeat refine .z rfl ?_);refine .rt Try.func57 (by rw [Try.results57]) (hR := ?_);simp (disch:=first|exact dsc|fail) only [go_sem,seval]
  exact h
end walks
end Go.Proofs.Ytjnbifkojpfdgaa

/-
  The shape of circuits;the walks of Size and Fold.
-/
namespace Go.Proofs.Ytjnbifkojpfdgaa
open Go Go.AL

def wid (c:Circ) (k:Nat):Int:=if k=0 then c.inputs else ((nth c.layers (k - 1)).length:Int)
def opG (n:Int) (g:Gate):Prop:=0≤g.l∧g.l < n∧0≤g.r∧g.r < n
structure Ok (c:Circ):Prop where
  inp:1≤c.inputs∧c.inputs≤1000
  sums:0≤c.sums∧c.sums≤1000
  len:1≤c.layers.length∧c.layers.length≤1000
  row : ∀ k,k < c.layers.length → 1≤(nth c.layers k).length∧(nth c.layers k).length≤1000
  op : ∀ k,k < c.layers.length → ∀ i,i < (nth c.layers k).length → opG (wid c k) (nth (nth c.layers k) i)

theorem Ok.wid_le {c:Circ} (h:Ok c) {k:Nat} (hk:k < c.layers.length):wid c k≤1000:=by
  unfold wid
  split
  · exact h.inp.2
  · have:=(h.row (k - 1) (by omega)).2;omega
theorem Ok.gt {c:Circ} (h:Ok c) {k i:Nat} (hk:k < c.layers.length) (hi:i < (nth c.layers k).length) :
    0≤(nth (nth c.layers k) i).l∧(nth (nth c.layers k) i).l < 1000∧0≤(nth (nth c.layers k) i).r∧(nth (nth c.layers k) i).r < 1000:=by
  have h1:=h.wid_le hk
  obtain ⟨h2,h3,h4,h5⟩:=h.op k hk i hi
  exact ⟨h2,by omega,h4,by omega⟩
theorem Ok.okG {c:Circ} (h:Ok c) {k i:Nat} (hk:k < c.layers.length) (hi:i < (nth c.layers k).length):okG (nth (nth c.layers k) i):=by
  obtain ⟨h1,h2,h3,h4⟩:=h.gt hk hi
  exact ⟨by omega,by omega,by omega,by omega⟩

def cnt (ls:List (List Gate)):Nat → Nat
  | 0=>0
  | i+1=>cnt ls i+(nth ls i).length
theorem cnt_le {c:Circ} (h:Ok c) : ∀ i,i≤c.layers.length → cnt c.layers i≤1000*i
  | 0,_=>by simp [cnt]
  | i+1,hi=>by
    have h1:=cnt_le h i (by omega)
    have h2:=(h.row i (by omega)).2
    simp only [cnt];omega
def size (c:Circ):Nat:=cnt c.layers c.layers.length

section walks
variable {G:Globs}

set_option maxHeartbeats 4000000 in
theorem optimize_Size_spec (c:Circ) (hc:Ok c) (H:Hp) (R:AV → Hp → Prop) (h:R (.p (i64 (size c:Nat))) H):ACall Try.prog G 21 [.p (circ c)] H R:=by
  refine ACall.of_run (raw:=[]) Try.func21 rfl Try.ntmps21 (by simp) fun hbel => ?_
  have hl:=hc.len.2
  (repeat refine .z rfl ?_);refine .text ?_;simp (disch:=first|exact dsc|fail) only [go_sem,seval]
  (repeat refine .z rfl ?_);refine .text ?_;simp (disch:=first|exact dsc|fail) only [go_sem,seval]
  (repeat refine .z rfl ?_);refine .text ?_;simp (disch:=first|exact dsc|fail) only [go_sem,seval]
  repeat refine .z rfl ?_
  refine .count (fun i env H'=>env 3 = .p (i64 (cnt c.layers i:Nat))∧env 7 = .p (.sl false 1 (pl (sle 6 gate) c.layers))∧env 8 = .p (i64 c.layers.length)∧env 9 = .p (i64 i)∧H'=H.new (.cells (cc c))) 0 c.layers.length (by omega) ?_ ?_ ?_
  · simp (disch:=first|exact dsc|fail) only [go_sem,seval]
    rfl
  · intro env H' ⟨e3,e7,e8,e9,eH⟩
    subst eH
    (repeat refine .z rfl ?_);refine .text ?_;simp (disch:=first|exact dsc|fail) only [go_sem,seval,e8,e9]
    (repeat refine .z rfl ?_);refine .ifF (by simp (disch:=first|exact dsc|fail) only [go_sem,seval]) ?_
    (repeat refine .z rfl ?_);refine .text ?_;simp (disch:=first|exact dsc|fail) only [go_sem,seval,e3]
    (repeat refine .z rfl ?_);refine .rt Try.func21 (by rw [Try.results21]) (hx:=by simp (disch:=first|exact dsc|fail) only [go_sem,seval,e3];rfl) (hR := ?_);simp (disch:=first|exact dsc|fail) only [go_sem,seval,e3]
    exact h
  · intro i env H' hi0 hi ⟨e3,e7,e8,e9,eH⟩ ih
    subst eH
    have h1:=cnt_le hc i (by omega)
    have h2:=(hc.row i hi).2
    (repeat refine .z rfl ?_);refine .text ?_;simp (disch:=first|exact dsc|fail) only [go_sem,seval,e8,e9]
    (repeat refine .z rfl ?_);refine .ifT (by simp (disch:=first|exact dsc|fail) only [go_sem,seval]) ?_
    (repeat refine .z rfl ?_);refine .text ?_;simp (disch:=first|exact dsc|fail) only [go_sem,seval,e7,e9]
    (repeat refine .z rfl ?_);refine .text ?_;simp (disch:=first|exact dsc|fail) only [go_sem,seval,e3]
    (repeat refine .z rfl ?_);refine .text ?_;simp (disch:=first|exact dsc|fail) only [go_sem,seval,e9]
    refine ih _ _ ?_
    simp (disch:=first|exact dsc|fail) only [go_sem,seval,e3,e7,e8,e9]
    rfl

end walks
end Go.Proofs.Ytjnbifkojpfdgaa

/-
  Folding a circuit: the plain functions and the walks.
-/
namespace Go.Proofs.Ytjnbifkojpfdgaa
open Go Go.AL

/-! ### Rows by a function of the number -/
def tab {α:Type} (f:Nat → α) (n:Nat):List α:=(List.range n).map f
section tab
variable {α:Type} {f g:Nat → α} {n i:Nat}
theorem tab_zero:tab f 0=[]:=rfl
theorem tab_succ:tab f (n+1)=tab f n++[f n]:=by simp [tab,List.range_succ]
theorem tab_len:(tab f n).length=n:=by simp [tab]
theorem nth_tab [Inhabited α] (h:i < n):nth (tab f n) i=f i:=by simp [tab,nth,h]
theorem tab_congr (h : ∀ i,i < n → f i=g i):tab f n=tab g n:=by
  unfold tab
  exact List.map_congr_left fun i hi=>h i (List.mem_range.1 hi)
theorem tab_nth [Inhabited α] (l:List α):tab (nth l) l.length=l:=nth_ext tab_len fun i hi=>nth_tab (by rwa [tab_len] at hi)
end tab
attribute [go_sem] tab_len
theorem acells_circ0 {i s:Int} {b:Bool}:acells (.p (.agg [i64 i,.sl b 1 [],i64 s]))=some [.p (i64 i),.p (.sl b 1 []),.p (i64 s)]:=rfl
attribute [go_sem] acells_circ0

/-! ### Folding -/
def goG (first:Bool) (prev:List Gate) (g:Gate):Gate:=norm (if first then g else swp (foldL (swp (foldL g prev)) prev))
def fl (f:Bool → List Gate → Gate → Gate) (ls:List (List Gate)):Nat → List Gate
  | 0=>tab (fun j=>f true [] (nth (nth ls 0) j)) (nth ls 0).length
  | k+1=>tab (fun j=>f false (fl f ls k) (nth (nth ls (k+1)) j)) (nth ls (k+1)).length
def fold (f:Bool → List Gate → Gate → Gate) (c:Circ):Circ:=⟨c.inputs,tab (fl f c.layers) c.layers.length,c.sums⟩
def pv (f:Bool → List Gate → Gate → Gate) (ls:List (List Gate)) (k:Nat):List Gate:=if k=0 then [] else fl f ls (k - 1)
theorem fl_eq (f:Bool → List Gate → Gate → Gate) (ls:List (List Gate)) (k:Nat):fl f ls k=tab (fun j=>f (k == 0) (pv f ls k) (nth (nth ls k) j)) (nth ls k).length:=by
  cases k with
  | zero=>rfl
  | succ k=>rfl
theorem fl_len {f:Bool → List Gate → Gate → Gate} {ls:List (List Gate)} {k:Nat}:(fl f ls k).length=(nth ls k).length:=by rw [fl_eq,tab_len]
theorem fl_nth {f:Bool → List Gate → Gate → Gate} {ls:List (List Gate)} {k i:Nat} (h:i < (nth ls k).length):nth (fl f ls k) i=f (k == 0) (pv f ls k) (nth (nth ls k) i):=by
  rw [fl_eq,nth_tab h]

section op
variable {n:Int} {g:Gate} {p:List Gate}
theorem opG.swp (h:opG n g):opG n (swp g):=⟨h.2.2.1,h.2.2.2,h.1,h.2.1⟩
theorem opG.foldL (h:opG n g):opG n (foldL g p):=by unfold Proofs.Ytjnbifkojpfdgaa.foldL;split<;>exact h
theorem opG.norm (h:opG n g):opG n (norm g):=by
  have h1:opG n (n1 g):=by unfold n1;split<;>exact h
  have h2:opG n (n2 (n1 g)):=by unfold n2;split;exact h1.swp;exact h1
  have h3:opG n (n3 (n2 (n1 g))):=by
    unfold n3;split
    · exact ⟨Int.le_refl _,by have:=h.1;have:=h.2.1;show (0:Int) < n;omega,h2.2.2⟩
    · exact h2
  unfold Proofs.Ytjnbifkojpfdgaa.norm n4
  split
  · exact ⟨h3.1,h3.2.1,Int.le_refl _,by have:=h.1;have:=h.2.1;show (0:Int) < n;omega⟩
  · split
    · exact h3.swp
    · exact h3
theorem opG.goG {b:Bool} (h:opG n g):opG n (goG b p g):=by
  unfold Proofs.Ytjnbifkojpfdgaa.goG
  cases b
  · exact h.foldL.swp.foldL.swp.norm
  · exact h.norm
theorem opG.foldG {b:Bool} (h:opG n g):opG n (foldG b p g):=by
  have h1:opG n (fg1 b p g):=by unfold fg1;split<;>exact h
  have h2:opG n (fg2 b p (fg1 b p g)):=by unfold fg2;split<;>exact h1
  unfold Proofs.Ytjnbifkojpfdgaa.foldG
  generalize fg2 b p (fg1 b p g)=x at h2 ⊢
  have h3:opG n (m1 x):=by
    unfold m1;split
    · exact ⟨h2.1,h2.2.1,h2.2.2⟩
    · exact h2
  have h4:opG n (m2 (m1 x)):=by unfold m2;split;exact ⟨h3.2.2.1,h3.2.2.2,h3.2.2⟩;exact h3
  generalize m2 (m1 x)=y at h4 ⊢
  have h5:opG n (n3 y):=by
    unfold n3;split
    · exact ⟨Int.le_refl _,by have:=h.1;have:=h.2.1;show (0:Int) < n;omega,h4.2.2⟩
    · exact h4
  have h6:opG n (m4 (n3 y)):=by
    unfold m4;split
    · exact ⟨h5.1,h5.2.1,Int.le_refl _,by have:=h.1;have:=h.2.1;show (0:Int) < n;omega⟩
    · exact h5
  unfold m5;split
  · exact h6.swp
  · exact h6
end op

def keeps (f:Bool → List Gate → Gate → Gate):Prop := ∀ n b p g,opG n g → opG n (f b p g)
theorem keeps_goG:keeps goG:=fun _ _ _ _ h=>h.goG
theorem keeps_foldG:keeps foldG:=fun _ _ _ _ h=>h.foldG
theorem Ok.fl {f:Bool → List Gate → Gate → Gate} (hf:keeps f) {c:Circ} (h:Ok c) {k i:Nat} (hk:k < c.layers.length) (hi:i < (nth c.layers k).length):opG (wid c k) (nth (fl f c.layers k) i):=by
  rw [fl_nth hi]
  exact hf _ _ _ _ (h.op k hk i hi)
theorem opG.okG {n:Int} {g:Gate} (h:opG n g) (hn:n≤1000):okG g:=⟨by have:=h.1;omega,by have:=h.2.1;omega,by have:=h.2.2.1;omega,by have:=h.2.2.2;omega⟩
theorem Ok.fold {f:Bool → List Gate → Gate → Gate} (hf:keeps f) {c:Circ} (h:Ok c):Ok (fold f c) where
  inp:=h.inp
  sums:=h.sums
  len:=by show 1≤(tab _ _).length∧(tab _ _).length≤_;rw [tab_len];exact h.len
  row k hk:=by
    simp only [Proofs.Ytjnbifkojpfdgaa.fold,tab_len] at hk ⊢
    rw [nth_tab hk,fl_len];exact h.row k hk
  op k hk i hi:=by
    simp only [Proofs.Ytjnbifkojpfdgaa.fold,tab_len] at hk ⊢
    have hw:wid (Proofs.Ytjnbifkojpfdgaa.fold f c) k=wid c k:=by
      unfold wid
      split
      · rfl
      · rw [show (Proofs.Ytjnbifkojpfdgaa.fold f c).layers=tab (Proofs.Ytjnbifkojpfdgaa.fl f c.layers) c.layers.length from rfl,nth_tab (by omega),fl_len]
    simp only [Proofs.Ytjnbifkojpfdgaa.fold] at hi hw
    rw [nth_tab hk] at hi ⊢
    rw [fl_len] at hi
    rw [hw]
    exact h.fl hf hk hi

theorem app_new {H:Hp} {T:List AB} {x:AB}:(app H T).new x=app H (T++[x]):=by simp [app]

theorem pvs_sl_one {α v sz:Nat} {l:List PV}:pvs? [.sl α v sz l]=some [.sl false sz l]:=rfl
attribute [go_sem] pvs_sl_one
theorem goG_eq {k:Nat} {p:List Gate} {g:Gate}:goG (k == 0) p g=norm (if k=0 then g else swp (foldL (swp (foldL g p)) p)):=by cases k<;>rfl
def bH (H:Hp) (c:Circ) (ls:List (List Gate)) (k:Nat):Hp :=
  (((H.new (.cells (cc c))).new (.cells [.p (i64 0),.p (.sl true 1 []),.p (i64 0)])).new (.cells [.p (i64 c.inputs),.sl (H.n+3) k 1 (pl (sle 6 gate) ls),.p (i64 c.sums)])).new (.tail k)

section walks
variable {G:Globs}

set_option maxHeartbeats 8000000 in
theorem optimize_Fold_spec (c:Circ) (hc:Ok c) (H:Hp) (R:AV → Hp → Prop) (h:R (.p (circ (fold goG c))) H):ACall Try.prog G 14 [.p (circ c)] H R:=by
  refine ACall.of_run (raw:=[]) Try.func14 rfl Try.ntmps14 (by simp) fun hbel => ?_
  have hl:=hc.len.2
  (repeat refine .z rfl ?_);refine .text ?_;simp (disch:=first|exact dsc|fail) only [go_sem,seval]
  (repeat refine .z rfl ?_);refine .text ?_;simp (disch:=first|exact dsc|fail) only [go_sem,seval]
  (repeat refine .z rfl ?_);refine .ownC (H.n+2) 1 (by simp (disch:=first|exact dsc|fail) only [go_sem,seval];rfl) (by rfl) ?_;simp (disch:=first|exact dsc|fail) only [go_sem,seval,List.set_cons_zero,List.set_cons_succ]
  (repeat refine .z rfl ?_);refine .text ?_;simp (disch:=first|exact dsc|fail) only [go_sem,seval]
  repeat refine .z rfl ?_
  refine .count (fun k env H'=>env 2 = .ptr (H.n+1) 0∧env 3 = .ptr (H.n+2) 0∧env 16 = .p (.sl false 1 (pl (sle 6 gate) c.layers))∧env 17 = .p (i64 c.layers.length)∧env 18 = .p (i64 k) ∧ ∃ T,H'=app (bH H c (tab (fl goG c.layers) k) k) T) 0 c.layers.length (by omega) ?_ ?_ ?_
  · simp (disch:=first|exact dsc|fail) only [go_sem,seval]
    exact ⟨[],rfl⟩
  · intro env H' ⟨e2,e3,e16,e17,e18,T,eH⟩
    subst eH
    (repeat refine .z rfl ?_);refine .text ?_;simp (disch:=first|exact dsc|fail) only [go_sem,seval,e17,e18]
    (repeat refine .z rfl ?_);refine .ifF (by simp (disch:=first|exact dsc|fail) only [go_sem,seval]) ?_
    (repeat refine .z rfl ?_);refine .text ?_;simp (disch:=first|exact dsc|fail) only [go_sem,seval,e2,e3,bH]
    (repeat refine .z rfl ?_);refine .rt Try.func14 (by rw [Try.results14]) (hx:=by simp (disch:=first|exact dsc|fail) only [go_sem,seval,e2];rfl) (hR := ?_);simp (disch:=first|exact dsc|fail) only [go_sem,seval,e2]
    exact h
  · intro k env H' _ hk ⟨e2,e3,e16,e17,e18,T,eH⟩ ih
    subst eH
    have hr:=(hc.row k hk).2
    (repeat refine .z rfl ?_);refine .text ?_;simp (disch:=first|exact dsc|fail) only [go_sem,seval,e17,e18]
    (repeat refine .z rfl ?_);refine .ifT (by simp (disch:=first|exact dsc|fail) only [go_sem,seval]) ?_
    (repeat refine .z rfl ?_);refine .text ?_;simp (disch:=first|exact dsc|fail) only [go_sem,seval,e16,e18]
    (repeat refine .z rfl ?_);refine .text ?_;simp (disch:=first|exact dsc|fail) only [go_sem,seval]
    (repeat refine .z rfl ?_);refine .own 6 (by simp (disch:=first|exact dsc|fail) only [go_sem,seval];rfl) ?_
    (repeat refine .z rfl ?_);refine .text ?_;simp (disch:=first|exact dsc|fail) only [go_sem,seval]
    repeat refine .z rfl ?_
    refine .count (fun i env H'=>env 2 = .ptr (H.n+1) 0∧env 3 = .ptr (H.n+2) 0∧env 4 = .p (i64 k)∧env 6 = .sl (H.n+4+T.length) i 6 (pl gate (tab (fun j=>goG (k == 0) (pv goG c.layers k) (nth (nth c.layers k) j)) i))∧env 16 = .p (.sl false 1 (pl (sle 6 gate) c.layers))∧env 17 = .p (i64 c.layers.length)∧env 18 = .p (i64 k)∧env 23 = .p (.sl false 6 (pl gate (nth c.layers k)))∧env 24 = .p (i64 (nth c.layers k).length)∧env 25 = .p (i64 i) ∧
      ∃ S,H'=app ((app (bH H c (tab (fl goG c.layers) k) k) T).new (.tail i)) S) 0 (nth c.layers k).length (by omega) ?_ ?_ ?_
    · simp (disch:=first|exact dsc|fail) only [go_sem,seval,e2,e3,e16,e17,e18,bH]
      exact ⟨rfl,[],rfl⟩
    · intro env H' ⟨e2,e3,e4,e6,e16,e17,e18,e23,e24,e25,S,eH⟩
      subst eH
      (repeat refine .z rfl ?_);refine .text ?_;simp (disch:=first|exact dsc|fail) only [go_sem,seval,e24,e25]
      (repeat refine .z rfl ?_);refine .ifF (by simp (disch:=first|exact dsc|fail) only [go_sem,seval]) ?_
      (repeat refine .z rfl ?_);refine .text ?_;simp (disch:=first|exact dsc|fail) only [go_sem,seval,e3,e6,bH]
      (repeat refine .z rfl ?_);refine .text ?_;simp (disch:=first|exact dsc|fail) only [go_sem,seval,e18]
      refine ih _ _ ?_
      simp (disch:=first|exact dsc|fail) only [go_sem,seval,e2,e3,e16,e17,e18,bH,tab_succ,app_in]
      have he:fl goG c.layers k=tab (fun j=>goG (k == 0) (pv goG c.layers k) (nth (nth c.layers k) j)) (nth c.layers k).length:=fl_eq _ _ _
      rw [←he]
      exact ⟨_,rfl⟩
    · intro i env H' _ hi ⟨e2,e3,e4,e6,e16,e17,e18,e23,e24,e25,S,eH⟩ ih
      subst eH
      have ho:=hc.op k hk i hi
      generalize hg:nth (nth c.layers k) i=g at *
      (repeat refine .z rfl ?_);refine .text ?_;simp (disch:=first|exact dsc|fail) only [go_sem,seval,e24,e25]
      (repeat refine .z rfl ?_);refine .ifT (by simp (disch:=first|exact dsc|fail) only [go_sem,seval]) ?_
      (repeat refine .z rfl ?_);refine .text ?_;simp (disch:=first|exact dsc|fail) only [go_sem,seval,e23,e25,hg]
      (repeat refine .z rfl ?_);refine .text ?_;simp (disch:=first|exact dsc|fail) only [go_sem,seval,e4]
      (repeat refine .z rfl ?_);refine .cut (fun env' H'=>env' 2 = .ptr (H.n+1) 0∧env' 3 = .ptr (H.n+2) 0∧env' 4 = .p (i64 k)∧env' 6=env 6∧env' 8 = .ptr (H.n+4+T.length+1+S.length) 0∧env' 16=env 16∧env' 17=env 17∧env' 18=env 18∧env' 23=env 23∧env' 24=env 24∧env' 25=env 25∧H'=(app ((app (bH H c (tab (fl goG c.layers) k) k) T).new (.tail i)) S).new (.cells (gc (if k=0 then g else swp (foldL (swp (foldL g (pv goG c.layers k))) (pv goG c.layers k)))))) (fun ih => ?_) ?_
      · (repeat refine .z rfl ?_);refine .ifB (by simp (disch:=first|exact dsc|fail) only [go_sem,seval,e4];rfl) (fun hk0 => ?_) (fun hk0 => ?_)
        · simp only [decide_eq_true_eq] at hk0
          have hp:pv goG c.layers k=fl goG c.layers (k - 1):=by rw [pv,if_neg (by omega)]
          have hw:wid c k=((nth c.layers (k - 1)).length:Int):=by rw [wid,if_neg (by omega)]
          have hlp:(pv goG c.layers k).length=(nth c.layers (k - 1)).length:=by rw [hp,fl_len]
          have hop : ∀ j,j < (pv goG c.layers k).length → okG (nth (pv goG c.layers k) j):=fun j hj=>by
            rw [hp];rw [hlp] at hj
            exact (hc.fl keeps_goG (by omega) hj).okG (hc.wid_le (by omega))
          have hrk:nth (tab (fl goG c.layers) k) (k - 1)=pv goG c.layers k:=by rw [hp,nth_tab (by omega)]
          rw [if_neg (by omega)] at ih
          rw [hw,←hlp] at ho
          generalize pv goG c.layers k=p at *
          have ho2:=(ho.foldL (p:=p)).swp
          have hll:(tab (fl goG c.layers) k).length=k:=tab_len
          (repeat refine .z rfl ?_);refine .text ?_;simp (disch:=first|exact dsc|fail) only [go_sem,seval,e3,e4,bH,hrk]
          (repeat refine .z rfl ?_);refine .text ?_;simp (disch:=first|exact dsc|fail) only [go_sem,seval]
          refine CallK.of (fun R h=>optimize_foldLeft_spec _ _ ho.1 (by have:=ho.1;have:=ho.2.1;omega) (hop _ (by have:=ho.1;have:=ho.2.1;omega)) _ R h) ?_;simp (disch:=first|exact dsc|fail) only [go_sem,seval]
          (repeat refine .z rfl ?_);refine .text ?_;simp (disch:=first|exact dsc|fail) only [go_sem,seval]
          refine CallK.of (fun R h=>optimize_swap_spec _ _ R h) ?_;simp (disch:=first|exact dsc|fail) only [go_sem,seval]
          refine CallK.of (fun R h=>optimize_foldLeft_spec _ _ ho2.1 (by have:=ho2.1;have:=ho2.2.1;omega) (hop _ (by have:=ho2.1;have:=ho2.2.1;omega)) _ R h) ?_;simp (disch:=first|exact dsc|fail) only [go_sem,seval]
          refine CallK.of (fun R h=>optimize_swap_spec _ _ R h) ?_;simp (disch:=first|exact dsc|fail) only [go_sem,seval]
          refine ih _ _ ?_
          simp (disch:=first|exact dsc|fail) only [go_sem,seval,e2,e3,e4,e6,e16,e17,e18,e23,e24,e25,bH]
        · simp only [decide_eq_false_iff_not] at hk0
          have hk0:k=0:=by omega
          refine .skip ?_
          refine ih _ _ ?_
          simp (disch:=first|exact dsc|fail) only [go_sem,seval,e2,e3,e4,e6,e16,e17,e18,e23,e24,e25,bH,if_pos hk0]
      · intro env' H' ⟨f2,f3,f4,f6,f8,f16,f17,f18,f23,f24,f25,eH⟩
        subst eH
        rw [e6] at f6;rw [e16] at f16;rw [e17] at f17;rw [e18] at f18;rw [e23] at f23;rw [e24] at f24;rw [e25] at f25
        (repeat refine .z rfl ?_);refine .text ?_;simp (disch:=first|exact dsc|fail) only [go_sem,seval,f6,f8,bH]
        refine CallK.of (fun R h=>optimize_normalize_spec _ _ R h) ?_;simp (disch:=first|exact dsc|fail) only [go_sem,seval]
        (repeat refine .z rfl ?_);refine .text ?_;simp (disch:=first|exact dsc|fail) only [go_sem,seval,f25]
        refine ih _ _ ?_
        simp (disch:=first|exact dsc|fail) only [go_sem,seval,f2,f3,f4,f6,f16,f17,f18,f23,f24,f25,bH,tab_succ,hg,goG_eq]
        exact ⟨_,app_new⟩

end walks
end Go.Proofs.Ytjnbifkojpfdgaa

/-
  The walks of the comparisons.
-/
namespace Go.Proofs.Ytjnbifkojpfdgaa
open Go Go.AL

theorem ne_nth {α:Type} [Inhabited α] {a b:List α} {i:Nat} (h:nth a i≠nth b i):a≠b:=fun e=>h (by rw [e])

section walks
variable {G:Globs}

set_option maxHeartbeats 4000000 in
theorem R16_Same_spec (a b:Circ) (ha:Ok a) (hb:Ok b) (H:Hp) (R:AV → Hp → Prop) (h:R (.p (bo (decide (a=b)))) H):ACall Try.prog G 13 [.p (circ a),.p (circ b)] H R:=by
  refine ACall.of_run (raw:=[]) Try.func13 rfl Try.ntmps13 (by simp) fun hbel => ?_
  have hla:=ha.len.2
  have hlb:=hb.len.2
  have hno : ¬ (a.inputs=b.inputs∧a.sums=b.sums∧a.layers.length=b.layers.length) → decide (a=b)=false:=fun hn=>decide_eq_false fun e=>hn (by rw [e];exact ⟨rfl,rfl,rfl⟩)
  (repeat refine .z rfl ?_);refine .text ?_;simp (disch:=first|exact dsc|fail) only [go_sem,seval]
  (repeat refine .z rfl ?_);refine .text ?_;simp (disch:=first|exact dsc|fail) only [go_sem,seval]
  (first | refine guarded_split (fun h1 => ?_) (fun h1 => ?_) | refine guardedD_split (fun h1 => ?_) (fun h1 => ?_))<;>(try simp only [Bool.not_eq_true',Bool.not_eq_false'] at h1)<;>simp (disch:=first|exact dsc|fail) only [go_sem,seval,h1]
  rotate_left
  · have h1:a.inputs≠b.inputs:=by simpa using h1
    rw [hno (fun h=>h1 h.1)] at h
    (repeat refine .z rfl ?_);refine .ifT (by simp (disch:=first|exact dsc|fail) only [go_sem,seval]) ?_
    (repeat refine .z rfl ?_);refine .text ?_;simp (disch:=first|exact dsc|fail) only [go_sem,seval]
    (repeat refine .z rfl ?_);refine .rt Try.func13 (by rw [Try.results13]) (hR := ?_);simp (disch:=first|exact dsc|fail) only [go_sem,seval]
    exact h
  have h1:a.inputs=b.inputs:=by simpa using h1
  (first | refine guarded_split (fun h2 => ?_) (fun h2 => ?_) | refine guardedD_split (fun h2 => ?_) (fun h2 => ?_))<;>(try simp only [Bool.not_eq_true',Bool.not_eq_false'] at h2)<;>simp (disch:=first|exact dsc|fail) only [go_sem,seval,h2]
  rotate_left
  · have h2:a.sums≠b.sums:=by simpa using h2
    rw [hno (fun h=>h2 h.2.1)] at h
    (repeat refine .z rfl ?_);refine .ifT (by simp (disch:=first|exact dsc|fail) only [go_sem,seval]) ?_
    (repeat refine .z rfl ?_);refine .text ?_;simp (disch:=first|exact dsc|fail) only [go_sem,seval]
    (repeat refine .z rfl ?_);refine .rt Try.func13 (by rw [Try.results13]) (hR := ?_);simp (disch:=first|exact dsc|fail) only [go_sem,seval]
    exact h
  have h2:a.sums=b.sums:=by simpa using h2
  (repeat refine .z rfl ?_);refine .ifB (by simp (disch:=first|exact dsc|fail) only [go_sem,seval];rfl) (fun h3 => ?_) (fun h3 => ?_)
  · have h3:a.layers.length≠b.layers.length:=by simp at h3;omega
    rw [hno (fun h=>h3 h.2.2)] at h
    (repeat refine .z rfl ?_);refine .text ?_;simp (disch:=first|exact dsc|fail) only [go_sem,seval]
    (repeat refine .z rfl ?_);refine .rt Try.func13 (by rw [Try.results13]) (hR := ?_);simp (disch:=first|exact dsc|fail) only [go_sem,seval]
    exact h
  have h3:a.layers.length=b.layers.length:=by simp at h3;omega
  have he:a.layers=b.layers → a=b:=fun h=>by
    obtain ⟨a1,a2,a3⟩:=a
    obtain ⟨b1,b2,b3⟩:=b
    simp only at h h1 h2
    rw [h,h1,h2]
  have hno:a.layers≠b.layers → decide (a=b)=false:=fun hn=>decide_eq_false fun e=>hn (by rw [e])
  refine .skip ?_
  (repeat refine .z rfl ?_);refine .text ?_;simp (disch:=first|exact dsc|fail) only [go_sem,seval]
  repeat refine .z rfl ?_
  refine .count (fun k env H'=>env 2 = .ptr H.n 0∧env 3 = .ptr (H.n+1) 0∧env 5 = .p (i64 k)∧(∀ j,j < k → nth a.layers j=nth b.layers j)∧H'=(H.new (.cells (cc a))).new (.cells (cc b))) 0 a.layers.length (by omega) ?_ ?_ ?_
  · simp (disch:=first|exact dsc|fail) only [go_sem,seval]
    exact fun j hj=>absurd hj (by omega)
  · intro env H' ⟨e2,e3,e5,hall,eH⟩
    subst eH
    rw [decide_eq_true (he (nth_ext h3 hall))] at h
    (repeat refine .z rfl ?_);refine .text ?_;simp (disch:=first|exact dsc|fail) only [go_sem,seval,e2,e5]
    (repeat refine .z rfl ?_);refine .ifF (by simp (disch:=first|exact dsc|fail) only [go_sem,seval]) ?_
    (repeat refine .z rfl ?_);refine .text ?_;simp (disch:=first|exact dsc|fail) only [go_sem,seval]
    (repeat refine .z rfl ?_);refine .rt Try.func13 (by rw [Try.results13]) (hR := ?_);simp (disch:=first|exact dsc|fail) only [go_sem,seval]
    exact h
  · intro k env H' _ hk ⟨e2,e3,e5,hall,eH⟩ ih
    subst eH
    have hra:=(ha.row k hk).2
    have hrb:=(hb.row k (by omega)).2
    (repeat refine .z rfl ?_);refine .text ?_;simp (disch:=first|exact dsc|fail) only [go_sem,seval,e2,e5]
    (repeat refine .z rfl ?_);refine .ifT (by simp (disch:=first|exact dsc|fail) only [go_sem,seval]) ?_
    (repeat refine .z rfl ?_);refine .open [] follows (by kernel_rfl) ?_;simp (disch:=first|exact dsc|fail) only [go_sem,seval,e2,e3,e5]
    (repeat refine .z rfl ?_);refine .ifB (by simp (disch:=first|exact dsc|fail) only [go_sem,seval];rfl) (fun h4 => ?_) (fun h4 => ?_)
    · have h4:(nth a.layers k).length≠(nth b.layers k).length:=by simp at h4;omega
      rw [hno (ne_nth (i:=k) fun e=>h4 (by rw [e]))] at h
      (repeat refine .z rfl ?_);refine .text ?_;simp (disch:=first|exact dsc|fail) only [go_sem,seval]
      (repeat refine .z rfl ?_);refine .rt Try.func13 (by rw [Try.results13]) (hR := ?_);simp (disch:=first|exact dsc|fail) only [go_sem,seval]
      exact h
    have h4:(nth a.layers k).length=(nth b.layers k).length:=by simp at h4;omega
    refine .skip ?_
    (repeat refine .z rfl ?_);refine .text ?_;simp (disch:=first|exact dsc|fail) only [go_sem,seval]
    repeat refine .z rfl ?_
    refine .count (fun i env H'=>env 2 = .ptr H.n 0∧env 3 = .ptr (H.n+1) 0∧env 5 = .p (i64 k)∧env 6 = .p (i64 i)∧(∀ j,j < i → nth (nth a.layers k) j=nth (nth b.layers k) j)∧H'=(H.new (.cells (cc a))).new (.cells (cc b))) 0 (nth a.layers k).length (by omega) ?_ ?_ ?_
    · simp (disch:=first|exact dsc|fail) only [go_sem,seval,e2,e3,e5]
      exact fun j hj=>absurd hj (by omega)
    · intro env H' ⟨e2,e3,e5,e6,hall2,eH⟩
      subst eH
      (repeat refine .z rfl ?_);refine .text ?_;simp (disch:=first|exact dsc|fail) only [go_sem,seval,e2,e5,e6]
      (repeat refine .z rfl ?_);refine .ifF (by simp (disch:=first|exact dsc|fail) only [go_sem,seval]) ?_
      (repeat refine .z rfl ?_);refine .text ?_;simp (disch:=first|exact dsc|fail) only [go_sem,seval,e5]
      refine ih _ _ ?_
      simp (disch:=first|exact dsc|fail) only [go_sem,seval,e2,e3,e5]
      refine fun j hj => ?_
      by_cases hjk:j=k
      · subst hjk;exact nth_ext h4 hall2
      · exact hall j (by omega)
    · intro i env H' _ hi ⟨e2,e3,e5,e6,hall2,eH⟩ ih
      subst eH
      have hq:=(gate_eq (ha.okG hk hi) (hb.okG (show k < b.layers.length by omega) (show i < (nth b.layers k).length by omega))).2
      (repeat refine .z rfl ?_);refine .text ?_;simp (disch:=first|exact dsc|fail) only [go_sem,seval,e2,e5,e6]
      (repeat refine .z rfl ?_);refine .ifT (by simp (disch:=first|exact dsc|fail) only [go_sem,seval]) ?_
      (repeat refine .z rfl ?_);refine .open [] follows (by kernel_rfl) ?_;simp (disch:=first|exact dsc|fail) only [go_sem,seval,e2,e3,e5,e6,hq]
      (repeat refine .z rfl ?_);refine .ifB (by simp (disch:=first|exact dsc|fail) only [go_sem,seval];rfl) (fun h5 => ?_) (fun h5 => ?_)
      · have h5:nth (nth a.layers k) i≠nth (nth b.layers k) i:=by simpa using h5
        rw [hno (ne_nth (i:=k) (ne_nth h5))] at h
        (repeat refine .z rfl ?_);refine .text ?_;simp (disch:=first|exact dsc|fail) only [go_sem,seval]
        (repeat refine .z rfl ?_);refine .rt Try.func13 (by rw [Try.results13]) (hR := ?_);simp (disch:=first|exact dsc|fail) only [go_sem,seval]
        exact h
      have h5:nth (nth a.layers k) i=nth (nth b.layers k) i:=by simpa using h5
      refine .skip ?_
      (repeat refine .z rfl ?_);refine .text ?_;simp (disch:=first|exact dsc|fail) only [go_sem,seval,e6]
      refine ih _ _ ?_
      simp (disch:=first|exact dsc|fail) only [go_sem,seval,e2,e3,e5,e6]
      refine fun j hj => ?_
      by_cases hji:j=i
      · subst hji;exact h5
      · exact hall2 j (by omega)


end walks
end Go.Proofs.Ytjnbifkojpfdgaa

/-
  Searching and counting: the reference's small functions on layers.
-/
namespace Go.Proofs.Ytjnbifkojpfdgaa
open Go Go.AL

def fst? (p:Nat → Bool):Nat → Option Nat
  | 0=>none
  | n+1=>match fst? p n with
    | some i=>some i
    | none=>if p n then some n else none
theorem fst_none {p:Nat → Bool} {n:Nat}:fst? p n=none ↔ ∀ i,i < n → p i=false:=by
  induction n with
  | zero=>exact ⟨fun _ i h=>absurd h (by omega),fun _=>rfl⟩
  | succ n ih =>
    simp only [fst?]
    constructor
    · intro h i hi
      cases hf:fst? p n with
      | some j=>rw [hf] at h;cases h
      | none =>
        rw [hf] at h
        by_cases hp:p n=true
        · simp [hp] at h
        · by_cases e:i=n
          · subst e;simpa using hp
          · exact ih.1 hf i (by omega)
    · intro h
      rw [ih.2 fun i hi=>h i (by omega)]
      simp [h n (by omega)]
theorem fst_some {p:Nat → Bool} {n i:Nat}:fst? p n=some i ↔ i < n∧p i=true ∧ ∀ j,j < i → p j=false:=by
  induction n with
  | zero=>exact ⟨fun h=>(by cases h),fun h=>absurd h.1 (by omega)⟩
  | succ n ih =>
    simp only [fst?]
    cases hf:fst? p n with
    | some j =>
      obtain ⟨h1,h2,h3⟩:j < n∧p j=true ∧ ∀ k,k < j → p k=false:=by
        clear ih
        induction n with
        | zero=>cases hf
        | succ n ih =>
          simp only [fst?] at hf
          cases hg:fst? p n with
          | some k=>rw [hg] at hf;cases hf;obtain ⟨a,b,c⟩:=ih hg;exact ⟨by omega,b,c⟩
          | none =>
            rw [hg] at hf
            by_cases hp:p n=true
            · simp [hp] at hf;subst hf;exact ⟨by omega,hp,fst_none.1 hg⟩
            · simp [hp] at hf
      simp only [Option.some.injEq]
      constructor
      · rintro rfl;exact ⟨by omega,h2,h3⟩
      · intro ⟨a,b,c⟩
        by_cases e:i < j
        · rw [h3 i e] at b;cases b
        · by_cases e2:j < i
          · rw [c j e2] at h2;cases h2
          · omega
    | none =>
      have hn:=fst_none.1 hf
      by_cases hp:p n=true
      · simp only [hp,if_true,Option.some.injEq]
        constructor
        · rintro rfl;exact ⟨by omega,hp,hn⟩
        · intro ⟨a,b,c⟩
          by_cases e:i < n
          · rw [hn i e] at b;cases b
          · omega
      · simp only [hp]
        constructor
        · intro h;cases h
        · intro ⟨a,b,c⟩
          by_cases e:i < n
          · rw [hn i e] at b;cases b
          · have:i=n:=by omega
            subst this;exact absurd b hp

def pos (o:Option Nat):Int:=match o with | some i=>i | none => -1
def findI (l:List Gate) (g:Gate):Option Nat:=fst? (fun i=>decide (nth l i=g)) l.length
def usesAt (g:Gate) (i:Int):Bool:=(usesL g && g.l == i) || (usesR g && g.r == i)
def usedB (l:List Gate) (i:Int):Bool:=(fst? (fun k=>usesAt (nth l k) i) l.length).isSome
def cntB (l:List Bool):Nat → Nat
  | 0=>0
  | i+1=>if nth l i then cntB l i+1 else cntB l i

section walks
variable {G:Globs}



end walks
end Go.Proofs.Ytjnbifkojpfdgaa

/-
  Which gates the reference keeps.
-/
namespace Go.Proofs.Ytjnbifkojpfdgaa
open Go Go.AL

def want (c:Circ) (k:Nat) (next:List Gate) (i:Nat):Bool :=
  if k+1=c.layers.length then decide ((i:Int) < c.sums) || !konst (nth (nth c.layers k) i) || (nth (nth c.layers k) i).d != 0#64 else usedB next i

section walks
variable {G:Globs}

end walks
end Go.Proofs.Ytjnbifkojpfdgaa

/-
  Sharing equal gates: the plain functions and the walk of the reference.
-/
namespace Go.Proofs.Ytjnbifkojpfdgaa
open Go Go.AL

def shG (ns:List Int) (first:Bool) (g:Gate):Gate:=if first then g else ⟨nth ns g.l.toNat,nth ns g.r.toNat,g.c,g.a,g.b,g.d⟩
def shTo (ns:List Int) (first last:Bool) (l:List Gate):Nat → List Gate × List Int
  | 0=>([],[])
  | i+1 =>
    let s:=shTo ns first last l i
    let g:=shG ns first (nth l i)
    match findI s.1 g with
    | some j=>if last then (s.1++[g],s.2++[(s.1.length:Int)]) else (s.1,s.2++[(j:Int)])
    | none=>(s.1++[g],s.2++[(s.1.length:Int)])
def shN (ls:List (List Gate)):Nat → List Gate × List Int
  | 0=>shTo [] true (1 == ls.length) (nth ls 0) (nth ls 0).length
  | k+1=>shTo (shN ls k).2 false (k+2 == ls.length) (nth ls (k+1)) (nth ls (k+1)).length
def shP (ls:List (List Gate)) (k:Nat):List Int:=if k=0 then [] else (shN ls (k - 1)).2
theorem shN_eq (ls:List (List Gate)) (k:Nat):shN ls k=shTo (shP ls k) (k == 0) (k+1 == ls.length) (nth ls k) (nth ls k).length:=by
  cases k<;>rfl
def share (c:Circ):Circ:=⟨c.inputs,tab (fun k=>(shN c.layers k).1) c.layers.length,c.sums⟩


structure ShOK (n:Int) (i:Nat) (s:List Gate × List Int):Prop where
  len:s.1.length≤i
  ne:0 < i → 0 < s.1.length
  num:s.2.length=i
  val : ∀ j,j < i → 0≤nth s.2 j∧nth s.2 j < s.1.length
  op : ∀ j,j < s.1.length → opG n (nth s.1 j)

theorem shTo_ok {n:Int} {ns:List Int} {first last:Bool} {l:List Gate} (hop : ∀ j,j < l.length → opG n (shG ns first (nth l j))) : ∀ i,i≤l.length → ShOK n i (shTo ns first last l i)
  | 0,_=>⟨Nat.le_refl _,fun h=>absurd h (by omega),rfl,fun j h=>absurd h (by omega),fun j h=>absurd h (by simp [shTo])⟩
  | i+1,hi=>by
    have ih:=shTo_ok (n:=n) (ns:=ns) (first:=first) (last:=last) hop i (by omega)
    have hg:=hop i (by omega)
    have hnew:ShOK n (i+1) ((shTo ns first last l i).1++[shG ns first (nth l i)],(shTo ns first last l i).2++[((shTo ns first last l i).1.length:Int)]):=by
      generalize shTo ns first last l i=s at ih
      refine ⟨by simp [ih.len],fun _=>by simp,by simp [ih.num],fun j hj => ?_,fun j hj => ?_⟩
      · simp only
        by_cases e:j=i
        · subst e
          rw [nth_append_r (by rw [ih.num];omega),ih.num,Nat.sub_self,nth_cons_zero]
          simp;omega
        · rw [nth_append_l (by rw [ih.num];omega)]
          have:=ih.val j (by omega)
          simp;omega
      · simp only [List.length_append,List.length_cons,List.length_nil] at hj ⊢
        by_cases e:j < s.1.length
        · rw [nth_append_l e];exact ih.op j e
        · rw [nth_append_r (by omega),show j - s.1.length=0 by omega,nth_cons_zero];exact hg
    simp only [shTo]
    cases hf:findI (shTo ns first last l i).1 (shG ns first (nth l i)) with
    | none=>exact hnew
    | some j =>
      simp only
      split
      · exact hnew
      · have hj:=(fst_some.1 hf).1
        generalize shTo ns first last l i=s at ih hj
        refine ⟨by simp;have:=ih.len;omega,fun _=>by simp;omega,by simp [ih.num],fun j' hj' => ?_,ih.op⟩
        simp only
        by_cases e:j'=i
        · subst e
          rw [nth_append_r (by rw [ih.num];omega),ih.num,Nat.sub_self,nth_cons_zero]
          omega
        · rw [nth_append_l (by rw [ih.num];omega)]
          exact ih.val j' (by omega)

def shW (c:Circ) (k:Nat):Int:=if k=0 then c.inputs else ((shN c.layers (k - 1)).1.length:Int)
theorem shG_op {c:Circ} (hc:Ok c) {k:Nat} (hk:k < c.layers.length) (hp:k≠0 → ∃ n,ShOK n (nth c.layers (k - 1)).length (shN c.layers (k - 1))) :
    ∀ j,j < (nth c.layers k).length → opG (shW c k) (shG (shP c.layers k) (k == 0) (nth (nth c.layers k) j)):=fun j hj=>by
  have ho:=hc.op k hk j hj
  by_cases h0:k=0
  · subst h0;exact ho
  · have hb:(k == 0)=false:=by simpa using h0
    obtain ⟨n,h1⟩:=hp h0
    rw [hb]
    have hP:shP c.layers k=(shN c.layers (k - 1)).2:=by rw [shP,if_neg h0]
    have hW:shW c k=((shN c.layers (k - 1)).1.length:Int):=by rw [shW,if_neg h0]
    have hw:wid c k=((nth c.layers (k - 1)).length:Int):=by rw [wid,if_neg h0]
    rw [hw] at ho
    rw [hP,hW]
    obtain ⟨a,b,d,e⟩:=ho
    have v1:=h1.val (nth (nth c.layers k) j).l.toNat (by omega)
    have v2:=h1.val (nth (nth c.layers k) j).r.toNat (by omega)
    exact ⟨v1.1,v1.2,v2.1,v2.2⟩
theorem shN_ok {c:Circ} (hc:Ok c) : ∀ k,k < c.layers.length → ShOK (shW c k) (nth c.layers k).length (shN c.layers k)
  | 0,hk=>by rw [shN_eq];exact shTo_ok (shG_op hc hk (fun h=>absurd rfl h)) _ (Nat.le_refl _)
  | k+1,hk=>by rw [shN_eq];exact shTo_ok (shG_op hc hk (fun _=>⟨_,shN_ok hc k (by omega)⟩)) _ (Nat.le_refl _)
theorem shW_le {c:Circ} (hc:Ok c) {k:Nat} (hk:k < c.layers.length):shW c k≤1000:=by
  unfold shW
  split
  · exact hc.inp.2
  · have h1:=(shN_ok hc (k - 1) (by omega)).len
    have h2:=(hc.row (k - 1) (by omega)).2
    omega
theorem Ok.share {c:Circ} (hc:Ok c):Ok (share c) where
  inp:=hc.inp
  sums:=hc.sums
  len:=by show 1≤(tab _ _).length∧(tab _ _).length≤_;rw [tab_len];exact hc.len
  row k hk:=by
    simp only [Proofs.Ytjnbifkojpfdgaa.share,tab_len] at hk ⊢
    rw [nth_tab hk]
    have h1:=shN_ok hc k hk
    have h2:=hc.row k hk
    have h3:=h1.ne (by omega)
    have h4:=h1.len
    omega
  op k hk i hi:=by
    simp only [Proofs.Ytjnbifkojpfdgaa.share,tab_len] at hk hi ⊢
    rw [nth_tab hk] at hi ⊢
    have hw:wid (Proofs.Ytjnbifkojpfdgaa.share c) k=shW c k:=by
      unfold wid shW
      split
      · rfl
      · rw [show (Proofs.Ytjnbifkojpfdgaa.share c).layers=tab (fun k=>(shN c.layers k).1) c.layers.length from rfl,nth_tab (by omega)]
    simp only [Proofs.Ytjnbifkojpfdgaa.share] at hw
    rw [hw]
    exact (shN_ok hc k hk).op i hi

section walks
variable {G:Globs}

end walks
end Go.Proofs.Ytjnbifkojpfdgaa

/-
  Removing unused gates: the plain functions and the walk of the reference.
-/
namespace Go.Proofs.Ytjnbifkojpfdgaa
open Go Go.AL

def selTo (b:List Bool) (l:List Gate):Nat → List Gate
  | 0=>[]
  | i+1=>if nth b i then selTo b l i++[nth l i] else selTo b l i
theorem selTo_le (b:List Bool) (l:List Gate) : ∀ i,(selTo b l i).length≤i
  | 0=>Nat.le_refl _
  | i+1=>by have:=selTo_le b l i;simp only [selTo];split<;>simp<;>omega
def zeroU (g:Gate):Gate:=m4 (n3 g)


def eH (H:Hp) (c:Circ) (T:List AB) (ls:List (List Gate)) (k:Nat):Hp :=
  ((app (((H.new (.cells (cc c))).new (.cells [.p (i64 0),.p (.sl true 1 []),.p (i64 0)])).new .dead) T).new (.cells [.p (i64 c.inputs),.sl (H.n+3+T.length+1) k 1 (pl (sle 6 gate) ls),.p (i64 c.sums)])).new (.tail k)
theorem wk_rep {α:Type} {e:α → PV} {n sz:Nat}:(cl (PV.sl true sz) (List.replicate n [])).map AV.weak=cl (sle sz e) (List.replicate n []):=by simp [cl,AV.weak,PV.weak,PV.weak1,sle,pl]

section walks
variable {G:Globs}

end walks
end Go.Proofs.Ytjnbifkojpfdgaa

/-
  Sharing equal gates: the walk of the program.
-/
namespace Go.Proofs.Ytjnbifkojpfdgaa
open Go Go.AL

def gev (g:Gate):Value := .agg #[.int .i64 g.l,.int .i64 g.r,.int .u64 g.c.toNat,.int .u64 g.a.toNat,.int .u64 g.b.toNat,.int .u64 g.d.toNat]

theorem gate_litsD (d:Nat) (g:Gate) (h:okG g):Try.prog.keyLits (d+2) 46 [.int .i64 g.l,.int .i64 g.r,.int .u64 g.c.toNat,.int .u64 g.a.toNat,.int .u64 g.b.toNat,.int .u64 g.d.toNat] =
    some [.int .i64 g.l,.int .i64 g.r,.int .u64 g.c.toNat,.int .u64 g.a.toNat,.int .u64 g.b.toNat,.int .u64 g.d.toNat]:=by
  obtain ⟨h1,h2,h3,h4⟩:=h
  have i1 : ∀ n,(Lit.int .i64 n).wf=true → Try.prog.keyLits (d+1) 3 [.int .i64 n]=some [.int .i64 n]:=fun n h=>keyLits_one Try.underlying3 h
  have i2 : ∀ x:U,Try.prog.keyLits (d+1) 44 [.int .u64 x.toNat]=some [.int .u64 x.toNat]:=fun x=>keyLits_one Try.underlying44 (wf_u64 x)
  have h5:=i1 _ (wf_i64 h1 h2)
  have h6:=i1 _ (wf_i64 h3 h4)
  unfold Program.keyLits
  simp only [Try.underlying46,cells46]
  rw [if_pos ⟨rfl,by kernel_rfl⟩]
  simp only [List.mapM_cons,List.mapM_nil,cells3,cells44,List.drop_zero,List.drop_succ_cons,List.take_succ_cons,List.take_zero,h5,h6,i2,Option.pure_def,Option.bind_eq_bind,Option.bind_some,Option.map_some]
  rfl

theorem gate_key (g:Gate) (h:okG g):(keyOf Try.prog 46 (gev g)).isSome=true:=by
  unfold keyOf
  simp only [Try.underlying46]
  have hf:(gev g).formed Try.prog 46=true:=by
    simp only [gev,Value.formed,Try.underlying46,cells46]
    rfl
  have hk:Try.prog.keyType 46=true:=by kernel_rfl
  obtain ⟨d,hd⟩ : ∃ d,Try.prog.types.size+1=d+2:=⟨Try.prog.types.size - 1,by
    have:0 < Try.prog.types.size:=of_decide_eq_true (by kernel_rfl)
    omega⟩
  have hg:=gate_litsD d g h
  rw [hk,hf,hd]
  simp only [Bool.and_self,if_true,gev,Value.cells,hg]
  rfl

theorem gate_inj (a b:Gate) (_:okG a) (_:okG b) (h:gev a=gev b):a=b:=by
  obtain ⟨a1,a2,a3,a4,a5,a6⟩:=a
  obtain ⟨b1,b2,b3,b4,b5,b6⟩:=b
  simp only [gev,Value.agg.injEq,Array.mk.injEq,List.cons.injEq,Value.int.injEq,true_and,and_true] at h
  obtain ⟨h1,h2,h3,h4,h5,h6⟩:=h
  have e : ∀ x y:U,(x.toNat:Int)=y.toNat → x=y:=fun x y h=>BitVec.eq_of_toNat_eq (by omega)
  rw [h1,h2,e _ _ h3,e _ _ h4,e _ _ h5,e _ _ h6]

def nv (n:Nat):AV := .p (i64 n)
theorem gateMap:MapT Try.prog 58 gate gev okG nv (.p (i64 0)) where
  ty:=⟨46,3,Try.underlying58,keyT46,gate_key,zeroAV3⟩
  val _:=rfl
  inj:=gate_inj

theorem fst_congr {p q:Nat → Bool} {n:Nat} (h : ∀ i,i < n → p i=q i):fst? p n=fst? q n:=by
  induction n with
  | zero=>rfl
  | succ n ih=>simp only [fst?];rw [ih fun i hi=>h i (by omega),h n (by omega)]
theorem findI_snoc {l:List Gate} {g a:Gate}:findI (l++[g]) a=match findI l a with | some j=>some j | none=>if g=a then some l.length else none:=by
  have h1:fst? (fun i=>decide (nth (l++[g]) i=a)) l.length=findI l a:=fst_congr fun i hi=>by rw [nth_append_l hi]
  unfold findI at h1 ⊢
  rw [show (l++[g]).length=l.length+1 by simp]
  simp only [fst?]
  rw [h1]
  cases fst? (fun i=>decide (nth l i=a)) l.length with
  | some j=>rfl
  | none =>
    have h2:nth (l++[g]) l.length=g:=by rw [nth_append_r (Nat.le_refl _),Nat.sub_self,nth_cons_zero]
    simp [h2]
def MapOf (m:List (Gate × Nat)) (l:List Gate):Prop:=(∀ p∈m,okG p.1) ∧ ∀ a,assoc a m=findI l a
theorem MapOf.keep {m:List (Gate × Nat)} {l:List Gate} {g:Gate} {j:Nat} (h:MapOf m l) (hg:findI l g=some j):MapOf m (l++[g]):=⟨h.1,fun a=>by
  rw [findI_snoc,h.2 a]
  cases hf:findI l a with
  | some j=>rfl
  | none =>
    have:g≠a:=fun e=>by rw [e,hf] at hg;cases hg
    simp [this]⟩
theorem MapOf.put {m:List (Gate × Nat)} {l:List Gate} {g:Gate} (h:MapOf m l) (hok:okG g) (hg:findI l g=none):MapOf (putA g l.length m) (l++[g]):=⟨putA_keys m hok h.1,fun a=>by
  rw [findI_snoc,assoc_putA,h.2 a]
  by_cases e:g=a
  · subst e;rw [hg]
  · simp only [if_neg e];cases findI l a<;>rfl⟩

theorem nv_def {n:Nat}:nv n = .p (i64 n):=rfl
attribute [go_sem] nv_def

section walks
variable {G:Globs}

theorem optimize_Share_c1_spec (i:Int) (H:Hp) (R:AV → Hp → Prop) (h:R (.p (i64 i)) H):ACall Try.prog G 37 [.p (i64 i)] H R:=by
  refine ACall.of_run (raw:=[]) Try.func37 rfl Try.ntmps37 (by simp) fun hbel => ?_
  (repeat refine .z rfl ?_);refine .text ?_;simp (disch:=first|exact dsc|fail) only [go_sem,seval]
  (repeat refine .z rfl ?_);refine .text ?_;simp (disch:=first|exact dsc|fail) only [go_sem,seval]
  (repeat refine .z rfl ?_);refine .rt Try.func37 (by rw [Try.results37]) (hR := ?_);simp (disch:=first|exact dsc|fail) only [go_sem,seval]
  exact h

theorem optimize_Share_c2_spec (ns:List Int) (i:Int) (hi:0≤i∧i.toNat < ns.length) (b:Nat) (H:Hp) (hb:H.f b=some (.cells [.p (.sl false 1 (pl i64 ns))])) (R:AV → Hp → Prop) (h:R (.p (i64 (nth ns i.toNat))) H):ACall Try.prog G 38 [.p (i64 i),.ptr b 0] H R:=by
  refine ACall.of_run (raw:=[]) Try.func38 rfl Try.ntmps38 (by simp) fun hbel => ?_
  obtain ⟨i0,i1⟩:=hi
  (repeat refine .z rfl ?_);refine .text ?_;simp (disch:=first|exact dsc|fail) only [go_sem,seval]
  (repeat refine .z rfl ?_);refine .text ?_;simp (disch:=first|exact dsc|fail) only [go_sem,seval,hb]
  (repeat refine .z rfl ?_);refine .rt Try.func38 (by rw [Try.results38]) (hR := ?_);simp (disch:=first|exact dsc|fail) only [go_sem,seval]
  exact h

set_option maxHeartbeats 16000000 in
theorem optimize_Share_spec (c:Circ) (hc:Ok c) (H:Hp) (R:AV → Hp → Prop) (h:R (.p (circ (share c))) H):ACall Try.prog G 15 [.p (circ c)] H R:=by
  refine ACall.of_run (raw:=[]) Try.func15 rfl Try.ntmps15 (by simp) fun hbel => ?_
  have hl:=hc.len.2
  (repeat refine .z rfl ?_);refine .text ?_;simp (disch:=first|exact dsc|fail) only [go_sem,seval]
  (repeat refine .z rfl ?_);refine .text ?_;simp (disch:=first|exact dsc|fail) only [go_sem,seval]
  (repeat refine .z rfl ?_);refine .ownC (H.n+2) 1 (by simp (disch:=first|exact dsc|fail) only [go_sem,seval];rfl) (by rfl) ?_;simp (disch:=first|exact dsc|fail) only [go_sem,seval,List.set_cons_zero,List.set_cons_succ]
  (repeat refine .z rfl ?_);refine .text ?_;simp (disch:=first|exact dsc|fail) only [go_sem,seval]
  (repeat refine .z rfl ?_);refine .text ?_;simp (disch:=first|exact dsc|fail) only [go_sem,seval]
  repeat refine .z rfl ?_
  refine .count (fun k env H'=>env 2 = .ptr (H.n+1) 0∧env 3 = .ptr (H.n+2) 0∧env 20 = .p (.sl false 1 (pl (sle 6 gate) c.layers))∧env 21 = .p (i64 c.layers.length)∧env 22 = .p (i64 k)∧env 1 = .ptr H.n 0∧(∃ T,H'=app (bH H c (tab (fun k=>(shN c.layers k).1) k) k) T) ∧
    ((k=0∧env 4 = .clo 37 [] []) ∨ (0 < k ∧ ∃ b,env 4 = .clo 38 [] [.ptr b 0]∧H'.f b=some (.cells [.p (.sl false 1 (pl i64 (shP c.layers k)))])))) 0 c.layers.length (by omega) ?_ ?_ ?_
  · simp (disch:=first|exact dsc|fail) only [go_sem,seval]
    exact ⟨[],rfl⟩
  · intro env H' ⟨e2,e3,e20,e21,e22,e1,⟨T,eH⟩,hfn⟩
    subst eH
    (repeat refine .z rfl ?_);refine .text ?_;simp (disch:=first|exact dsc|fail) only [go_sem,seval,e21,e22]
    (repeat refine .z rfl ?_);refine .ifF (by simp (disch:=first|exact dsc|fail) only [go_sem,seval]) ?_
    (repeat refine .z rfl ?_);refine .text ?_;simp (disch:=first|exact dsc|fail) only [go_sem,seval,e2,e3,bH]
    (repeat refine .z rfl ?_);refine .rt Try.func15 (by rw [Try.results15]) (hx:=by simp (disch:=first|exact dsc|fail) only [go_sem,seval,e2];rfl) (hR := ?_);simp (disch:=first|exact dsc|fail) only [go_sem,seval,e2]
    exact h
  · intro k env H' _ hk ⟨e2,e3,e20,e21,e22,e1,⟨T,eH⟩,hfn⟩ ih
    have hr:=(hc.row k hk).2
    have hok:=fun i hi=>shTo_ok (last:=k+1 == c.layers.length) (shG_op hc hk (fun h0=>⟨_,shN_ok hc (k - 1) (by omega)⟩)) i hi
    have hwl:=shW_le hc hk
    have hBn:H'.n=H.n+4+T.length:=by subst eH;simp only [go_sem,bH]
    have hB1:H'.f H.n=some (.cells (cc c)):=by subst eH;simp (disch:=first|exact dsc|fail) only [go_sem,seval,bH]
    (repeat refine .z rfl ?_);refine .text ?_;simp (disch:=first|exact dsc|fail) only [go_sem,seval,e21,e22]
    (repeat refine .z rfl ?_);refine .ifT (by simp (disch:=first|exact dsc|fail) only [go_sem,seval]) ?_
    (repeat refine .z rfl ?_);refine .text ?_;simp (disch:=first|exact dsc|fail) only [go_sem,seval,e20,e22]
    (repeat refine .z rfl ?_);refine .text ?_;simp (disch:=first|exact dsc|fail) only [go_sem,seval]
    (repeat refine .z rfl ?_);refine .own 7 (by simp (disch:=first|exact dsc|fail) only [go_sem,seval];rfl) ?_
    (repeat refine .z rfl ?_);refine .text ?_;simp (disch:=first|exact dsc|fail) only [go_sem,seval]
    (repeat refine .z rfl ?_);refine .text ?_;simp (disch:=first|exact dsc|fail) only [go_sem,seval]
    (repeat refine .z rfl ?_);refine .ownC (H'.n+2) 0 (by simp (disch:=first|exact dsc|fail) only [go_sem,seval];rfl) (by rfl) ?_;simp (disch:=first|exact dsc|fail) only [go_sem,seval,List.set_cons_zero,List.set_cons_succ]
    (repeat refine .z rfl ?_);refine .text ?_;simp (disch:=first|exact dsc|fail) only [go_sem,seval]
    repeat refine .z rfl ?_
    obtain ⟨fn,hfe⟩ : ∃ fn,env 4=fn:=⟨_,rfl⟩
    rw [hfe] at hfn
    refine .count (fun i env H2=>env 2 = .ptr (H.n+1) 0∧env 3 = .ptr (H.n+2) 0∧env 20 = .p (.sl false 1 (pl (sle 6 gate) c.layers))∧env 21 = .p (i64 c.layers.length)∧env 22 = .p (i64 k)∧env 1 = .ptr H.n 0∧env 4=fn∧env 5 = .p (i64 k)∧env 7 = .sl H'.n (shTo (shP c.layers k) (k == 0) (k+1 == c.layers.length) (nth c.layers k) i).1.length 6 (pl gate (shTo (shP c.layers k) (k == 0) (k+1 == c.layers.length) (nth c.layers k) i).1)∧env 8 = .mp (H'.n+1)∧env 9 = .ptr (H'.n+2) 0∧env 28 = .p (.sl false 6 (pl gate (nth c.layers k)))∧env 29 = .p (i64 (nth c.layers k).length)∧env 30 = .p (i64 i) ∧ ∃ m S,MapOf m (shTo (shP c.layers k) (k == 0) (k+1 == c.layers.length) (nth c.layers k) i).1∧H2=app ((((H'.new (.tail (shTo (shP c.layers k) (k == 0) (k+1 == c.layers.length) (nth c.layers k) i).1.length)).new (.mapB (tm gev nv m))).new (.cells [.sl (H'.n+3) i 1 (pl i64 (shTo (shP c.layers k) (k == 0) (k+1 == c.layers.length) (nth c.layers k) i).2)])).new (.tail i)) S) 0 (nth c.layers k).length (by omega) ?_ ?_ ?_
    · simp (disch:=first|exact dsc|fail) only [go_sem,seval,e2,e3,e20,e21,e22,e1,hfe]
      exact ⟨rfl,[],[],⟨fun p hp=>(by cases hp),fun a=>rfl⟩,rfl⟩
    · intro env H2 ⟨e2,e3,e20,e21,e22,e1,e4,e5,e7,e8,e9,e28,e29,e30,m,S,hm,eHH⟩
      subst eHH
      have hso:=shN_ok hc k hk
      have hlo:=hso.len
      have hnu:=hso.num
      have he2:shP c.layers (k+1)=(shN c.layers k).2:=rfl
      rw [←shN_eq] at e7
      simp only [←shN_eq]
      generalize hs:shN c.layers k=s at *
      (repeat refine .z rfl ?_);refine .text ?_;simp (disch:=first|exact dsc|fail) only [go_sem,seval,e29,e30]
      (repeat refine .z rfl ?_);refine .ifF (by simp (disch:=first|exact dsc|fail) only [go_sem,seval]) ?_
      subst eH
      (repeat refine .z rfl ?_);refine .text ?_;simp (disch:=first|exact dsc|fail) only [go_sem,seval,e3,e7,bH]
      (repeat refine .z rfl ?_);refine .text ?_;simp (disch:=first|exact dsc|fail) only [go_sem,seval,e9,bH]
      (repeat refine .z rfl ?_);refine .weakC (H.n+4+T.length+2) (by simp (disch:=first|exact dsc|fail) only [go_sem,seval];rfl) ?_;(try simp (disch:=first|exact dsc|fail) only [go_sem,seval,List.map_replicate,List.map_cons,List.map_nil,AV.weak,PV.weak])
      (repeat refine .z rfl ?_);refine .text ?_;simp (disch:=first|exact dsc|fail) only [go_sem,seval,e22]
      refine ih _ _ ?_
      simp (disch:=first|exact dsc|fail) only [go_sem,seval,e2,e3,e20,e21,e22,e1,bH,tab_succ,hs,he2]
      refine ⟨⟨T ++ .tail s.1.length :: .mapB (tm gev nv m) :: .cells [.p (.sl false 1 (pl i64 s.2))] :: .tail (nth c.layers k).length :: S,by simp [app]⟩,Nat.succ_pos _,_,rfl,?_⟩
      simp (disch:=first|exact dsc|fail) only [go_sem,seval]
    · intro i env H2 _ hi ⟨e2,e3,e20,e21,e22,e1,e4,e5,e7,e8,e9,e28,e29,e30,m,S,hm,eHH⟩ ih
      subst eHH
      have hsi:=hok i (by omega)
      have hop:=hc.op k hk i hi
      have hgi:=shG_op hc hk (fun h0=>⟨_,shN_ok hc (k - 1) (by omega)⟩) i hi
      simp only [shTo] at ih
      generalize hs:shTo (shP c.layers k) (k == 0) (k+1 == c.layers.length) (nth c.layers k) i=s at *
      generalize hg:nth (nth c.layers k) i=g at *
      have hls:=hsi.len
      have hln:=hsi.num
      (repeat refine .z rfl ?_);refine .text ?_;simp (disch:=first|exact dsc|fail) only [go_sem,seval,e29,e30]
      (repeat refine .z rfl ?_);refine .ifT (by simp (disch:=first|exact dsc|fail) only [go_sem,seval]) ?_
      (repeat refine .z rfl ?_);refine .text ?_;simp (disch:=first|exact dsc|fail) only [go_sem,seval,e28,e30,hg]
      (repeat refine .z rfl ?_);refine .cut (fun env' H2=>env' 2 = .ptr (H.n+1) 0∧env' 3 = .ptr (H.n+2) 0∧env' 20 = .p (.sl false 1 (pl (sle 6 gate) c.layers))∧env' 21 = .p (i64 c.layers.length)∧env' 22 = .p (i64 k)∧env' 1 = .ptr H.n 0∧env' 4=fn∧env' 5 = .p (i64 k)∧env' 7 = .sl H'.n s.1.length 6 (pl gate s.1)∧env' 8 = .mp (H'.n+1)∧env' 9 = .ptr (H'.n+2) 0∧env' 28 = .p (.sl false 6 (pl gate (nth c.layers k)))∧env' 29 = .p (i64 (nth c.layers k).length)∧env' 30 = .p (i64 i)∧env' 11 = .ptr (H'.n+4+S.length) 0∧H2=(app ((((H'.new (.tail s.1.length)).new (.mapB (tm gev nv m))).new (.cells [.sl (H'.n+3) i 1 (pl i64 s.2)])).new (.tail i)) S).new (.cells (gc (shG (shP c.layers k) (k == 0) g)))) (fun ih => ?_) ?_
      · rcases hfn with ⟨h0,rfl⟩ | ⟨h0,b,rfl,hb⟩
        · have hb:(k == 0)=true:=by simp;omega
          (repeat refine .z rfl ?_);refine .open [9,11] follows (by kernel_rfl) ?_;simp (disch:=first|exact dsc|fail) only [go_sem,seval,e4]
          refine CallD.still (fun R h=>optimize_Share_c1_spec _ _ R h) ?_;simp (disch:=first|exact dsc|fail) only [go_sem,seval,e4]
          refine CallD.still (fun R h=>optimize_Share_c1_spec _ _ R h) ?_;simp (disch:=first|exact dsc|fail) only [go_sem,seval]
          refine ih _ _ ?_
          simp (disch:=first|exact dsc|fail) only [go_sem,seval,e2,e3,e20,e21,e22,e1,e4,e5,e7,e8,e9,e28,e29,e30,hb,shG]
        · have hbk:(k == 0)=false:=by simp;omega
          have hp:(shP c.layers k).length=(nth c.layers (k - 1)).length:=by rw [shP,if_neg (by omega)];exact (shN_ok hc (k - 1) (by omega)).num
          have hw:wid c k=((nth c.layers (k - 1)).length:Int):=by rw [wid,if_neg (by omega)]
          rw [hw] at hop
          obtain ⟨o1,o2,o3,o4⟩:=hop
          have hbl:b < H'.n:=Hp.lt hb
          (repeat refine .z rfl ?_);refine .open [9,11] follows (by kernel_rfl) ?_;simp (disch:=first|exact dsc|fail) only [go_sem,seval,e4]
          refine CallD.still (fun R h=>optimize_Share_c2_spec (shP c.layers k) g.l ⟨o1,by omega⟩ b _ (by simp (disch:=first|exact dsc|fail) only [go_sem,seval];exact hb) R h) ?_;simp (disch:=first|exact dsc|fail) only [go_sem,seval,e4]
          refine CallD.still (fun R h=>optimize_Share_c2_spec (shP c.layers k) g.r ⟨o3,by omega⟩ b _ (by simp (disch:=first|exact dsc|fail) only [go_sem,seval];exact hb) R h) ?_;simp (disch:=first|exact dsc|fail) only [go_sem,seval]
          refine ih _ _ ?_
          simp (disch:=first|exact dsc|fail) only [go_sem,seval,e2,e3,e20,e21,e22,e1,e4,e5,e7,e8,e9,e28,e29,e30,hbk,shG]
      clear e2 e3 e20 e21 e22 e1 e4 e5 e7 e8 e9 e28 e29 e30
      intro env' H2 ⟨e2,e3,e20,e21,e22,e1,e4,e5,e7,e8,e9,e28,e29,e30,e11,eHH⟩
      subst eHH
      generalize shG (shP c.layers k) (k == 0) g=g' at *
      have hok':okG g':=hgi.okG hwl
      have hlk:=gateMap.look hm.1 hok'
      rw [hm.2 g'] at hlk
      have hlast:((k:Int) == (c.layers.length:Int) - 1)=(k+1 == c.layers.length):=by
        by_cases e:k+1=c.layers.length
        · simp only [e,beq_self_eq_true,beq_iff_eq];omega
        · rw [beq_eq_false_iff_ne.2 e,beq_eq_false_iff_ne];omega
      cases hf:findI s.1 g' with
      | none =>
        rw [hf] at hlk
        simp only [hf] at ih
        have hput : ∀ H b,aPutM Try.prog H 58 b (some (tm gev nv m)) (.p (gate g')) (.p (i64 (s.1.length:Nat)))=some (H.set b (.mapB (tm gev nv (putA g' s.1.length m)))):=fun H b=>gateMap.put hm.1 hok'
        (repeat refine .z rfl ?_);refine .text ?_;simp (disch:=first|exact dsc|fail) only [go_sem,seval,e8,e11,hlk]
        (repeat refine .z rfl ?_);refine .text ?_;simp (disch:=first|exact dsc|fail) only [go_sem,seval]
        (repeat refine .z rfl ?_);refine .ifT (by simp (disch:=first|exact dsc|fail) only [go_sem,seval]) ?_
        (repeat refine .z rfl ?_);refine .text ?_;simp (disch:=first|exact dsc|fail) only [go_sem,seval,e7]
        (repeat refine .z rfl ?_);refine .text ?_;simp (disch:=first|exact dsc|fail) only [go_sem,seval,e7,e11]
        (repeat refine .z rfl ?_);refine .text ?_;simp (disch:=first|exact dsc|fail) only [go_sem,seval]
        (repeat refine .z rfl ?_);refine .ifT (by simp (disch:=first|exact dsc|fail) only [go_sem,seval]) ?_
        (repeat refine .z rfl ?_);refine .text ?_;simp (disch:=first|exact dsc|fail) only [go_sem,seval,e8,e11,hput]
        (repeat refine .z rfl ?_);refine .text ?_;simp (disch:=first|exact dsc|fail) only [go_sem,seval,e9]
        (repeat refine .z rfl ?_);refine .text ?_;simp (disch:=first|exact dsc|fail) only [go_sem,seval,e30]
        refine ih _ _ ?_
        simp (disch:=first|exact dsc|fail) only [go_sem,seval,e2,e3,e20,e21,e22,e1,e4,e5,e7,e8,e9,e28,e29,e30]
        exact ⟨_,_,hm.put hok' hf,app_new⟩
      | some j =>
        rw [hf] at hlk
        simp only [hf] at ih
        have hj:=(fst_some.1 hf).1
        (repeat refine .z rfl ?_);refine .text ?_;simp (disch:=first|exact dsc|fail) only [go_sem,seval,e8,e11,hlk]
        (repeat refine .z rfl ?_);refine .text ?_;simp (disch:=first|exact dsc|fail) only [go_sem,seval,e1,e5,hB1,hlast]
        (repeat refine .z rfl ?_);refine .ifB (by simp (disch:=first|exact dsc|fail) only [go_sem,seval];rfl) (fun hz => ?_) (fun hz => ?_)
        · simp only [hz,if_true] at ih
          (repeat refine .z rfl ?_);refine .text ?_;simp (disch:=first|exact dsc|fail) only [go_sem,seval,e7]
          (repeat refine .z rfl ?_);refine .text ?_;simp (disch:=first|exact dsc|fail) only [go_sem,seval,e7,e11]
          (repeat refine .z rfl ?_);refine .text ?_;simp (disch:=first|exact dsc|fail) only [go_sem,seval]
          (repeat refine .z rfl ?_);refine .ifF (by simp (disch:=first|exact dsc|fail) only [go_sem,seval]) ?_
          (repeat refine .z rfl ?_);refine .text ?_;simp (disch:=first|exact dsc|fail) only [go_sem,seval,e9]
          (repeat refine .z rfl ?_);refine .text ?_;simp (disch:=first|exact dsc|fail) only [go_sem,seval,e30]
          refine ih _ _ ?_
          simp (disch:=first|exact dsc|fail) only [go_sem,seval,e2,e3,e20,e21,e22,e1,e4,e5,e7,e8,e9,e28,e29,e30]
          exact ⟨_,_,hm.keep hf,app_new⟩
        · simp only [hz,Bool.false_eq_true,if_false] at ih
          refine .skip ?_
          (repeat refine .z rfl ?_);refine .text ?_;simp (disch:=first|exact dsc|fail) only [go_sem,seval,e9]
          (repeat refine .z rfl ?_);refine .text ?_;simp (disch:=first|exact dsc|fail) only [go_sem,seval,e30]
          refine ih _ _ ?_
          simp (disch:=first|exact dsc|fail) only [go_sem,seval,e2,e3,e20,e21,e22,e1,e4,e5,e7,e8,e9,e28,e29,e30]
          exact ⟨_,_,hm,app_new⟩
end walks
end Go.Proofs.Ytjnbifkojpfdgaa

/-
  Removing unused gates: the closures of the program's Dead and the choice of the gates.
-/
namespace Go.Proofs.Ytjnbifkojpfdgaa
open Go Go.AL

def iev (n:Int):Value := .int .i64 n
def okI (n:Int):Prop := -9223372036854775808≤n∧n≤9223372036854775807
def uv (_:Unit):AV := .p (.agg [])
theorem int_key (n:Int) (h:okI n):(keyOf Try.prog 3 (iev n)).isSome=true:=by
  unfold keyOf
  simp only [Try.underlying3,mapKey,iev]
  rw [if_pos ⟨trivial,wf_i64 h.1 h.2⟩]
  rfl
theorem intMap:MapT Try.prog 65 i64 iev okI uv (.p (.agg [])) where
  ty:=⟨3,66,Try.underlying65,keyT3,int_key,zeroAV66⟩
  val _:=rfl
  inj a b _ _ h:=by simpa [iev] using h
theorem uv_def {u:Unit}:uv u = .p (.agg []):=rfl
theorem acells_unit:acells (.p (.agg []))=some []:=rfl
theorem mkAgg_unit:mkAgg [] = .p (.agg []):=rfl
attribute [go_sem] uv_def acells_unit mkAgg_unit
theorem look_bool {o:Option Unit}:lookV uv (.p (.agg [])) o = .tup [.p (.agg []),.p (bo o.isSome)]:=by cases o<;>rfl

def keepO (b:List Bool) (l:List Gate):List Gate:=if (selTo b l l.length).length=0 then [nth l 0] else selTo b l l.length
def keepN (b:List Bool) (l:List Gate):List Int:=tab (fun j=>((selTo b l j).length:Int)) l.length
def gcs (l:List Gate):List AV:=(flat (pl gate l)).map .p
theorem gcs_nil:gcs []=[]:=rfl
theorem gcs_one {l:List Gate} {g:Gate}:gcs l++[.p (i64 g.l),.p (i64 g.r),.p (w64 g.c),.p (w64 g.a),.p (w64 g.b),.p (w64 g.d)]=gcs (l++[g]):=by simp [gcs,pl,flat,gate,PV.cells]
theorem gcs_len {l:List Gate}:(gcs l).length=l.length*6:=by
  rw [gcs,List.length_map,flat_len (sz:=6) gate_len,pl_len]
theorem app_two {H:Hp} {x y z:AB} {S:List AB}:(app ((H.new x).new y) S).new z=app H (x :: y :: (S++[z])):=by simp [app]
attribute [go_sem] gcs_len gcs_one gcs_nil
def nums (b:List Bool) (l:List Gate) (i:Nat):List Int:=tab (fun j=>if j < i then ((selTo b l j).length:Int) else 0) l.length
theorem nums_zero {b:List Bool} {l:List Gate}:nums b l 0=List.replicate l.length 0:=nth_ext (by simp [nums,tab]) fun i hi=>by
  rw [nums,tab_len] at hi
  rw [nums,nth_tab hi,if_neg (by omega),nth_replicate hi]
theorem nums_len {b:List Bool} {l:List Gate} {i:Nat}:(nums b l i).length=l.length:=tab_len
theorem nums_succ {b:List Bool} {l:List Gate} {i:Nat} (h:i < l.length):(nums b l i).set i ((selTo b l i).length:Int)=nums b l (i+1):=nth_ext (by simp [nums,tab]) fun j hj=>by
  rw [List.length_set,nums_len] at hj
  by_cases e:i=j
  · subst e;rw [nth_set_eq rfl (by rw [nums_len];omega),nums,nth_tab hj,if_pos (by omega)]
  · rw [nth_set_ne e,nums,nums,nth_tab hj,nth_tab hj]
    by_cases e2:j < i
    · rw [if_pos e2,if_pos (by omega)]
    · rw [if_neg e2,if_neg (by omega)]
theorem nums_all {b:List Bool} {l:List Gate}:nums b l l.length=keepN b l:=tab_congr fun j hj=>by rw [if_pos hj]

section walks
variable {G:Globs}

theorem optimize_Dead_c1_spec (c:Circ) (hc:Ok c) (i:Nat) (hi:i < (nth c.layers (c.layers.length - 1)).length) (a b:Nat) (H:Hp) (ha:H.f a=some (.cells (cc c))) (hb:H.f b=some (.cells [.p (i64 ((c.layers.length:Int) - 1))])) (R:AV → Hp → Prop)
    (h:R (.p (bo (want c (c.layers.length - 1) [] i))) H):ACall Try.prog G 40 [.p (i64 i),.ptr a 0,.ptr b 0] H R:=by
  refine ACall.of_run (raw:=[]) Try.func40 rfl Try.ntmps40 (by simp) fun hbel => ?_
  have hl:=hc.len.2
  have hl1:=hc.len.1
  have hok:=hc.okG (show c.layers.length - 1 < c.layers.length by omega) hi
  have hr:=(hc.row (c.layers.length - 1) (by omega)).2
  rw [want,if_pos (by omega)] at h
  have hk:((c.layers.length:Int) - 1)=((c.layers.length - 1:Nat):Int):=by omega
  rw [hk] at hb
  generalize hg:nth (nth c.layers (c.layers.length - 1)) i=g at *
  have hka:c.layers.length - 1 < c.layers.length:=by omega
  generalize c.layers.length - 1=k at *
  have hla':=Hp.lt ha
  have hlb':=Hp.lt hb
  rw [cc_def] at ha
  (repeat refine .z rfl ?_);refine .text ?_;simp (disch:=first|exact dsc|fail) only [go_sem,seval]
  (repeat refine .z rfl ?_);refine .text ?_;simp (disch:=first|exact dsc|fail) only [go_sem,seval,ha,hb,hg]
  (repeat refine .z rfl ?_);refine .text ?_;simp (disch:=first|exact dsc|fail) only [go_sem,seval,ha]
  (first | refine guarded_split (fun h1 => ?_) (fun h1 => ?_) | refine guardedD_split (fun h1 => ?_) (fun h1 => ?_))<;>(try simp only [Bool.not_eq_true',Bool.not_eq_false'] at h1)<;>simp (disch:=first|exact dsc|fail) only [go_sem,seval,h1,ha]
  · refine CallK.of (fun R h=>optimize_constant_spec _ hok _ R h) ?_;simp (disch:=first|exact dsc|fail) only [go_sem,seval]
    (first | refine guarded_split (fun h2 => ?_) (fun h2 => ?_) | refine guardedD_split (fun h2 => ?_) (fun h2 => ?_))<;>(try simp only [Bool.not_eq_true',Bool.not_eq_false'] at h2)<;>simp (disch:=first|exact dsc|fail) only [go_sem,seval,h2,h1]
    · rw [h1,h2] at h
      (repeat refine .z rfl ?_);refine .rt Try.func40 (by rw [Try.results40]) (hx:=by simp (disch:=first|exact dsc|fail) only [go_sem,seval,h1,h2];rfl) (hR := ?_);simp (disch:=first|exact dsc|fail) only [go_sem,seval,h1,h2]
      exact h
    · rw [h1,h2] at h
      (repeat refine .z rfl ?_);refine .rt Try.func40 (by rw [Try.results40]) (hx:=by simp (disch:=first|exact dsc|fail) only [go_sem,seval,h1,h2];rfl) (hR := ?_);simp (disch:=first|exact dsc|fail) only [go_sem,seval,h1,h2]
      exact h
  · rw [h1] at h
    (repeat refine .z rfl ?_);refine .rt Try.func40 (by rw [Try.results40]) (hx:=by simp (disch:=first|exact dsc|fail) only [go_sem,seval,h1];rfl) (hR := ?_);simp (disch:=first|exact dsc|fail) only [go_sem,seval,h1]
    exact h

theorem optimize_Dead_c2_spec (n:Int) (hn:okI n) (m:List (Int × Unit)) (hm : ∀ p∈m,okI p.1) (a b:Nat) (H:Hp) (ha:H.f a=some (.cells [.mp b])) (hb:H.f b=some (.mapB (tm iev uv m))) (R:AV → Hp → Prop)
    (h:R (.p (bo (assoc n m).isSome)) H):ACall Try.prog G 45 [.p (i64 n),.ptr a 0] H R:=by
  refine ACall.of_run (raw:=[]) Try.func45 rfl Try.ntmps45 (by simp) fun hbel => ?_
  have hlk:=intMap.look (k:=n) hm hn
  rw [look_bool] at hlk
  (repeat refine .z rfl ?_);refine .text ?_;simp (disch:=first|exact dsc|fail) only [go_sem,seval]
  (repeat refine .z rfl ?_);refine .text ?_;simp (disch:=first|exact dsc|fail) only [go_sem,seval,ha,hb,hlk]
  (repeat refine .z rfl ?_);refine .text ?_;simp (disch:=first|exact dsc|fail) only [go_sem,seval]
  (repeat refine .z rfl ?_);refine .rt Try.func45 (by rw [Try.results45]) (hR := ?_);simp (disch:=first|exact dsc|fail) only [go_sem,seval]
  exact h

set_option maxHeartbeats 8000000 in
theorem optimize_keep_spec (l:List Gate) (hl:l.length≤1000) (hl1:1≤l.length) (b:List Bool) (hb:b.length=l.length) (f:Nat) (caps:List AV) (hent:enters Try.prog f=true) (hcw:caps.map AV.weak=caps) (H:Hp)
    (hf : ∀ i,i < l.length → ∀ H',(∃ T,H'=app H T) → ∀ R:AV → Hp → Prop,R (.p (bo (nth b i))) H' → ACall Try.prog G f (.p (i64 i) :: caps) H' R) (R:AV → Hp → Prop)
    (h : ∀ T S,R (.tup [.vr (H.n+T.length) (keepO b l).length 6,.p (.sl false 1 (pl i64 (keepN b l)))]) (app ((app H T).new (.vec (gcs (keepO b l)))) S)) :
    ACall Try.prog G 42 [.p (.sl false 6 (pl gate l)),.clo f [] caps] H R:=by
  refine ACall.of_run (raw:=[]) Try.func42 rfl Try.ntmps42 (by simp) fun hbel => ?_
  (repeat refine .z rfl ?_);refine .text ?_;simp (disch:=first|exact dsc|fail) only [go_sem,seval]
  (repeat refine .z rfl ?_);refine .text ?_;simp (disch:=first|exact dsc|fail) only [go_sem,seval]
  (repeat refine .z rfl ?_);refine .vec 6 (by simp (disch:=first|exact dsc|fail) only [go_sem,seval];rfl) ?_;(try simp (disch:=first|exact dsc|fail) only [go_sem,seval])
  (repeat refine .z rfl ?_);refine .text ?_;simp (disch:=first|exact dsc|fail) only [go_sem,seval]
  (repeat refine .z rfl ?_);refine .text ?_;simp (disch:=first|exact dsc|fail) only [go_sem,seval]
  repeat refine .z rfl ?_
  refine .count (fun i env H'=>env 0 = .p (.sl false 6 (pl gate l))∧env 1 = .clo f [] caps∧env 6 = .vr H.n (selTo b l i).length 6∧env 7 = .ref (H.n+1) 0 l.length 1∧env 13 = .p (.sl false 6 (pl gate l))∧env 14 = .p (i64 l.length)∧env 15 = .p (i64 i) ∧
    ∃ S,H'=app ((H.new (.vec (gcs (selTo b l i)))).new (.cells (cl i64 (nums b l i)))) S) 0 l.length (by omega) ?_ ?_ ?_
  · simp (disch:=first|exact dsc|fail) only [go_sem,seval,nums_zero]
    exact ⟨rfl,[],rfl⟩
  · intro env H' ⟨e0,e1,e6,e7,e13,e14,e15,S,eH⟩
    subst eH
    have hs:=selTo_le b l l.length
    rw [nums_all]
    have hkl:(keepN b l).length=l.length:=tab_len
    have htk:(keepN b l).take l.length=keepN b l:=by rw [←hkl,List.take_length]
    (repeat refine .z rfl ?_);refine .text ?_;simp (disch:=first|exact dsc|fail) only [go_sem,seval,e14,e15]
    (repeat refine .z rfl ?_);refine .ifF (by simp (disch:=first|exact dsc|fail) only [go_sem,seval]) ?_
    (repeat refine .z rfl ?_);refine .frzS 7 (by simp (disch:=first|exact dsc|fail) only [go_sem,seval,e7,htk];rfl) (by simp (disch:=first|exact dsc|fail) only [go_sem,seval,e7,htk]<;>rfl) (fun _=>rfl) (by first | exact dsc | fail) ?_;(try simp (disch:=first|exact dsc|fail) only [go_sem,seval,e7,htk])
    (repeat refine .z rfl ?_);refine .text ?_;simp (disch:=first|exact dsc|fail) only [go_sem,seval,e6]
    (repeat refine .z rfl ?_);refine .ifB (by simp (disch:=first|exact dsc|fail) only [go_sem,seval];rfl) (fun hx => ?_) (fun hx => ?_)
    · have hx:(selTo b l l.length).length=0:=by simp at hx;simpa using hx
      have hk:keepO b l=[nth l 0]:=by rw [keepO,if_pos hx]
      rw [hk] at h
      have hz:selTo b l l.length=[]:=List.eq_nil_of_length_eq_zero hx
      rw [hz] at e6 ⊢
      (repeat refine .z rfl ?_);refine .text ?_;simp (disch:=first|exact dsc|fail) only [go_sem,seval,e0,e6]
      (repeat refine .z rfl ?_);refine .text ?_;simp (disch:=first|exact dsc|fail) only [go_sem,seval]
      (repeat refine .z rfl ?_);refine .retKeep Try.func42 (by rw [Try.results42]) (by simp (disch:=first|exact dsc|fail) only [go_sem,seval];rfl) ?_;(try simp (disch:=first|exact dsc|fail) only [go_sem,seval])
      exact h [] (.dead :: S)
    · have hx : ¬ (selTo b l l.length).length=0:=by simp at hx;simpa using hx
      have hk:keepO b l=selTo b l l.length:=by rw [keepO,if_neg hx]
      rw [hk] at h
      refine .skip ?_
      (repeat refine .z rfl ?_);refine .text ?_;simp (disch:=first|exact dsc|fail) only [go_sem,seval,e6]
      (repeat refine .z rfl ?_);refine .retKeep Try.func42 (by rw [Try.results42]) (by simp (disch:=first|exact dsc|fail) only [go_sem,seval];rfl) ?_;(try simp (disch:=first|exact dsc|fail) only [go_sem,seval])
      exact h [] (.dead :: S)
  · intro i env H' _ hi ⟨e0,e1,e6,e7,e13,e14,e15,S,eH⟩ ih
    subst eH
    have hs:=selTo_le b l i
    have hnl:(nums b l i).length=l.length:=nums_len
    have hns:=nums_succ (b:=b) hi
    have hfi:=hf i hi
    simp only [selTo] at ih
    (repeat refine .z rfl ?_);refine .text ?_;simp (disch:=first|exact dsc|fail) only [go_sem,seval,e14,e15]
    (repeat refine .z rfl ?_);refine .ifT (by simp (disch:=first|exact dsc|fail) only [go_sem,seval]) ?_
    (repeat refine .z rfl ?_);refine .text ?_;simp (disch:=first|exact dsc|fail) only [go_sem,seval,e13,e15]
    (repeat refine .z rfl ?_);refine .text ?_;simp (disch:=first|exact dsc|fail) only [go_sem,seval,e6,e7,hns]
    (repeat refine .z rfl ?_);refine .text ?_;simp (disch:=first|exact dsc|fail) only [go_sem,seval,e1,hent,hcw]
    refine CallK.of (fun R h=>hfi _ ⟨_,app_two⟩ R h) ?_;simp (disch:=first|exact dsc|fail) only [go_sem,seval]
    (repeat refine .z rfl ?_);refine .ifB (by simp (disch:=first|exact dsc|fail) only [go_sem,seval];rfl) (fun hx => ?_) (fun hx => ?_)
    · simp only [hx,if_true] at ih
      (repeat refine .z rfl ?_);refine .text ?_;simp (disch:=first|exact dsc|fail) only [go_sem,seval,e6]
      (repeat refine .z rfl ?_);refine .text ?_;simp (disch:=first|exact dsc|fail) only [go_sem,seval,e15]
      refine ih _ _ ?_
      simp (disch:=first|exact dsc|fail) only [go_sem,seval,e0,e1,e6,e7,e13,e14,e15]
      exact ⟨_,app_new⟩
    · simp only [hx,Bool.false_eq_true,if_false] at ih
      refine .skip ?_
      (repeat refine .z rfl ?_);refine .text ?_;simp (disch:=first|exact dsc|fail) only [go_sem,seval,e15]
      refine ih _ _ ?_
      simp (disch:=first|exact dsc|fail) only [go_sem,seval,e0,e1,e6,e7,e13,e14,e15]
      exact ⟨_,app_new⟩
end walks
end Go.Proofs.Ytjnbifkojpfdgaa

/-
  New numbers for the operands of a layer.
-/
namespace Go.Proofs.Ytjnbifkojpfdgaa
open Go Go.AL

theorem gcs_cons {g:Gate} {l:List Gate}:gcs (g :: l)=gc g++gcs l:=by simp [gcs,pl,flat,gate,PV.cells,gc]
theorem gcs_drop {l:List Gate} : ∀ {i:Nat},(gcs l).drop (i*6)=gcs (l.drop i):=by
  induction l with
  | nil=>intro i;simp [gcs_nil]
  | cons g l ih =>
    intro i
    cases i with
    | zero=>rfl
    | succ i =>
      rw [gcs_cons,show (i+1)*6=6+i*6 by omega,←List.drop_drop,List.drop_succ_cons]
      exact ih
theorem gcs_sub {l:List Gate} {i:Nat} (h:i < l.length):((gcs l).drop (i*6)).take 6=gc (nth l i):=by
  rw [gcs_drop,List.drop_eq_getElem_cons h,gcs_cons,show l[i]=nth l i by simp [nth,h]]
  rfl
theorem gcs_get {l:List Gate} {i j:Nat} (h:i < l.length) (hj:j < 6):(gcs l)[i*6+j]? = (gc (nth l i))[j]? := by
  rw [←gcs_sub h,List.getElem?_take_of_lt hj,List.getElem?_drop]
theorem gcs_set {l:List Gate} : ∀ {i j:Nat} {x:AV} {g:Gate},i < l.length → j < 6 → (gc (nth l i)).set j x=gc g → (gcs l).set (i*6+j) x=gcs (l.set i g):=by
  induction l with
  | nil=>intro i j x g h;simp at h
  | cons a l ih =>
    intro i j x g h hj hg
    cases i with
    | zero =>
      rw [Nat.zero_mul,Nat.zero_add,List.set_cons_zero,gcs_cons,gcs_cons,←hg,List.set_append_left _ _ (by simpa [gc] using hj)]
      rfl
    | succ i =>
      rw [List.set_cons_succ,gcs_cons,gcs_cons,show (i+1)*6+j=(gc a).length+(i*6+j) by simp [gc];omega,List.set_append_right _ _ (by omega),Nat.add_sub_cancel_left]
      rw [ih (i:=i) (by simpa using h) hj hg]
theorem gcs_get0 {l:List Gate} {i:Nat} (h:i < l.length):(gcs l)[i*6]? = some (.p (i64 (nth l i).l)):=gcs_get (j:=0) h (by omega)
theorem gcs_get1 {l:List Gate} {i:Nat} (h:i < l.length):(gcs l)[i*6+1]? = some (.p (i64 (nth l i).r)):=gcs_get (j:=1) h (by omega)
def setL (g:Gate) (x:Int):Gate:=⟨x,g.r,g.c,g.a,g.b,g.d⟩
def setR (g:Gate) (x:Int):Gate:=⟨g.l,x,g.c,g.a,g.b,g.d⟩
theorem gcs_set0 {l:List Gate} {i:Nat} {x:Int} (h:i < l.length):(gcs l).set (i*6) (.p (i64 x))=gcs (l.set i (setL (nth l i) x)):=gcs_set (j:=0) h (by omega) rfl
theorem gcs_set1 {l:List Gate} {i:Nat} {x:Int} (h:i < l.length):(gcs l).set (i*6+1) (.p (i64 x))=gcs (l.set i (setR (nth l i) x)):=gcs_set (j:=1) h (by omega) rfl

def chTo (f:Gate → Gate) (l:List Gate) (i:Nat):List Gate:=tab (fun j=>if j < i then f (nth l j) else nth l j) l.length
theorem chTo_zero {f:Gate → Gate} {l:List Gate}:chTo f l 0=l:=by
  refine (tab_congr fun j hj => ?_).trans (tab_nth l)
  rw [if_neg (by omega)]
theorem chTo_all {f:Gate → Gate} {l:List Gate}:chTo f l l.length=l.map f:=nth_ext (by simp [chTo,tab]) fun j hj=>by
  rw [chTo,tab_len] at hj
  rw [chTo,nth_tab hj,if_pos hj,nth_map hj]
theorem chTo_len {f:Gate → Gate} {l:List Gate} {i:Nat}:(chTo f l i).length=l.length:=tab_len
theorem chTo_nth {f:Gate → Gate} {l:List Gate} {i:Nat} (h:i < l.length):nth (chTo f l i) i=nth l i:=by rw [chTo,nth_tab h,if_neg (by omega)]
theorem chTo_succ {f:Gate → Gate} {l:List Gate} {i:Nat} (h:i < l.length):(chTo f l i).set i (f (nth l i))=chTo f l (i+1):=nth_ext (by simp [chTo,tab]) fun j hj=>by
  rw [List.length_set,chTo_len] at hj
  by_cases e:i=j
  · subst e;rw [nth_set_eq rfl (by rw [chTo_len];omega),chTo,nth_tab hj,if_pos (by omega)]
  · rw [nth_set_ne e,chTo,chTo,nth_tab hj,nth_tab hj]
    by_cases e2:j < i
    · rw [if_pos e2,if_pos (by omega)]
    · rw [if_neg e2,if_neg (by omega)]
def reN (ns:List Int) (g:Gate):Gate:=⟨nth ns g.l.toNat,nth ns g.r.toNat,g.c,g.a,g.b,g.d⟩

theorem set_nth_self {l:List Gate} {i:Nat}:l.set i (nth l i)=l:=nth_ext (by simp) fun j hj=>by
  by_cases e:i=j
  · subst e;rw [nth_set_eq rfl (by simpa using hj)]
  · rw [nth_set_ne e]
theorem bel_gcs {n b:Nat} {H:Hp} {l:List Gate} (h:Bel n H):Bel n (H.set b (.vec (gcs l))):=fun c x hc hf y hy=>by
  rw [Hp.f_set] at hf
  split at hf
  · cases hf
    simp only [AB.vals] at hy
    simp only [gcs,List.mem_map,Option.getD_some] at hy
    obtain ⟨z,_,rfl⟩:=hy
    exact .p _
  · exact h c x hc hf y hy

section walks
variable {G:Globs}

set_option maxHeartbeats 8000000 in
theorem optimize_renumber_nil_spec (l:List Gate) (hl:l.length≤1000) (b:Nat) (H:Hp) (hb:H.f b=some (.vec (gcs l))) (R:AV → Hp → Prop) (h:R (.tup []) (H.set b (.vec (gcs (l.map zeroU))))) :
    ACall Try.prog G 46 [.vr b l.length 6,.p (.s (.slice none 0 0))] H R:=by
  refine ACall.of_run (raw:=[]) Try.func46 rfl Try.ntmps46 (by simp) fun hbel => ?_
  have hbl:=Hp.lt hb
  (repeat refine .z rfl ?_);refine .text ?_;simp (disch:=first|exact dsc|fail) only [go_sem,seval]
  repeat refine .z rfl ?_
  refine .count (fun i env H'=>env 0 = .vr b l.length 6∧env 1 = .p (.s (.slice none 0 0))∧env 7 = .p (i64 l.length)∧env 8 = .p (i64 i)∧H'=H.set b (.vec (gcs (chTo zeroU l i)))) 0 l.length (by omega) ?_ ?_ ?_
  · simp (disch:=first|exact dsc|fail) only [go_sem,seval]
    rw [chTo_zero,Hp.set_same H _ b hb]
  · intro env H' ⟨e0,e1,e7,e8,eH⟩
    subst eH
    rw [chTo_all]
    have hbel : ∀ ll:List Gate,Bel H.n (H.set b (.vec (gcs ll))):=fun ll=>bel_gcs hbel
    (repeat refine .z rfl ?_);refine .text ?_;simp (disch:=first|exact dsc|fail) only [go_sem,seval,e7,e8]
    (repeat refine .z rfl ?_);refine .ifF (by simp (disch:=first|exact dsc|fail) only [go_sem,seval]) ?_
    (repeat refine .z rfl ?_);refine .fin Try.func46 (by rw [Try.results46]) (by simp (disch:=first|exact dsc|fail) only [go_sem,seval];rfl) (by simp (disch:=first|exact dsc|fail) only [go_sem,seval];rfl) (by (try dsimp only);repeat (first | with_reducible refine bel_new ?_ dsc | with_reducible refine bel_appl ?_ dsc | with_reducible refine bel_set ?_ dsc | with_reducible refine bel_cl ?_ | with_reducible exact hbel | with_reducible exact hbel _)) ?_;simp (disch:=first|exact dsc|fail) only [go_sem,seval]
    exact h
  · intro i env H' _ hi ⟨e0,e1,e7,e8,eH⟩ ih
    subst eH
    have hsu:=chTo_succ (f:=zeroU) hi
    have hnn:=chTo_nth (f:=zeroU) hi
    have hcl:(chTo zeroU l i).length=l.length:=chTo_len
    rw [←hsu] at ih
    generalize nth l i=g at *
    generalize chTo zeroU l i=ll at *
    (repeat refine .z rfl ?_);refine .text ?_;simp (disch:=first|exact dsc|fail) only [go_sem,seval,e7,e8]
    (repeat refine .z rfl ?_);refine .ifT (by simp (disch:=first|exact dsc|fail) only [go_sem,seval]) ?_
    (repeat refine .z rfl ?_);refine .text ?_;simp (disch:=first|exact dsc|fail) only [go_sem,seval,e8]
    (repeat refine .z rfl ?_);refine .text ?_;simp (disch:=first|exact dsc|fail) only [go_sem,seval,e0]
    (repeat refine .z rfl ?_);refine .text ?_;simp (disch:=first|exact dsc|fail) only [go_sem,seval,e1]
    (repeat refine .z rfl ?_);refine .ifF (by simp (disch:=first|exact dsc|fail) only [go_sem,seval]) ?_
    (repeat refine .z rfl ?_);refine .text ?_;simp (disch:=first|exact dsc|fail) only [go_sem,seval,hnn,gcs_sub]
    refine CallK.of (fun R h=>optimize_usesLeft_spec _ _ R h) ?_;simp (disch:=first|exact dsc|fail) only [go_sem,seval]
    (repeat refine .z rfl ?_);refine .cut (fun env' H'=>env' 0 = .vr b l.length 6∧env' 1 = .p (.s (.slice none 0 0))∧env' 5 = .vp b (l.length*6) (i*6)∧env' 7 = .p (i64 l.length)∧env' 8 = .p (i64 i)∧H'=H.set b (.vec (gcs (ll.set i (n3 g))))) (fun ih => ?_) ?_
    · (repeat refine .z rfl ?_);refine .ifB (by simp (disch:=first|exact dsc|fail) only [go_sem,seval];rfl) (fun hc => ?_) (fun hc => ?_)
      · have e4:n3 g=setL g 0:=by simp only [n3,hc,if_true];rfl
        (repeat refine .z rfl ?_);refine .text ?_;simp (disch:=first|exact dsc|fail) only [go_sem,seval,gcs_set0,hnn]
        refine ih _ _ ?_
        simp (disch:=first|exact dsc|fail) only [go_sem,seval,e0,e1,e7,e8,e4]
      · have e4:n3 g=g:=by simp only [n3,hc,Bool.false_eq_true,if_false]
        have e5:ll.set i g=ll:=by rw [←hnn];exact set_nth_self
        refine .skip ?_
        refine ih _ _ ?_
        simp (disch:=first|exact dsc|fail) only [go_sem,seval,e0,e1,e7,e8,e4,e5]
    intro env' H' ⟨f0,f1,f5,f7,f8,eH⟩
    subst eH
    have hc2:(ll.set i (n3 g)).length=l.length:=by rw [List.length_set];exact hcl
    have hn2:nth (ll.set i (n3 g)) i=n3 g:=nth_set_eq rfl (by omega)
    have hz:(ll.set i (n3 g)).set i (m4 (n3 g))=ll.set i (zeroU g):=by rw [List.set_set];rfl
    rw [←hz] at ih
    generalize ll.set i (n3 g)=ll2 at *
    generalize n3 g=g2 at *
    (repeat refine .z rfl ?_);refine .text ?_;simp (disch:=first|exact dsc|fail) only [go_sem,seval,f5,hn2,gcs_sub]
    refine CallK.of (fun R h=>optimize_usesRight_spec _ _ R h) ?_;simp (disch:=first|exact dsc|fail) only [go_sem,seval]
    (repeat refine .z rfl ?_);refine .ifB (by simp (disch:=first|exact dsc|fail) only [go_sem,seval];rfl) (fun hc => ?_) (fun hc => ?_)
    · have e4:m4 g2=setR g2 0:=by simp only [m4,hc,if_true];rfl
      (repeat refine .z rfl ?_);refine .text ?_;simp (disch:=first|exact dsc|fail) only [go_sem,seval,f5,gcs_set1,hn2]
      (repeat refine .z rfl ?_);refine .text ?_;simp (disch:=first|exact dsc|fail) only [go_sem,seval,f8]
      refine ih _ _ ?_
      simp (disch:=first|exact dsc|fail) only [go_sem,seval,f0,f1,f7,f8,e4]
    · have e4:m4 g2=g2:=by simp only [m4,hc,Bool.false_eq_true,if_false]
      have e5:ll2.set i g2=ll2:=by rw [←hn2];exact set_nth_self
      refine .skip ?_
      (repeat refine .z rfl ?_);refine .text ?_;simp (disch:=first|exact dsc|fail) only [go_sem,seval,f8]
      refine ih _ _ ?_
      simp (disch:=first|exact dsc|fail) only [go_sem,seval,f0,f1,f7,f8,e4,e5]
set_option maxHeartbeats 8000000 in
theorem optimize_renumber_spec (l:List Gate) (hl:l.length≤1000) (ns:List Int) (hns:0 < ns.length) (hin : ∀ i,i < l.length → opG ns.length (nth l i)) (b:Nat) (H:Hp) (hb:H.f b=some (.vec (gcs l))) (R:AV → Hp → Prop) (h:R (.tup []) (H.set b (.vec (gcs (l.map fun g=>zeroU (reN ns g)))))) :
    ACall Try.prog G 46 [.vr b l.length 6,.p (.sl false 1 (pl i64 ns))] H R:=by
  refine ACall.of_run (raw:=[]) Try.func46 rfl Try.ntmps46 (by simp) fun hbel => ?_
  have hbl:=Hp.lt hb
  (repeat refine .z rfl ?_);refine .text ?_;simp (disch:=first|exact dsc|fail) only [go_sem,seval]
  repeat refine .z rfl ?_
  refine .count (fun i env H'=>env 0 = .vr b l.length 6∧env 1 = .p (.sl false 1 (pl i64 ns))∧env 7 = .p (i64 l.length)∧env 8 = .p (i64 i)∧H'=H.set b (.vec (gcs (chTo (fun g=>zeroU (reN ns g)) l i)))) 0 l.length (by omega) ?_ ?_ ?_
  · simp (disch:=first|exact dsc|fail) only [go_sem,seval]
    rw [chTo_zero,Hp.set_same H _ b hb]
  · intro env H' ⟨e0,e1,e7,e8,eH⟩
    subst eH
    rw [chTo_all]
    have hbel : ∀ ll:List Gate,Bel H.n (H.set b (.vec (gcs ll))):=fun ll=>bel_gcs hbel
    (repeat refine .z rfl ?_);refine .text ?_;simp (disch:=first|exact dsc|fail) only [go_sem,seval,e7,e8]
    (repeat refine .z rfl ?_);refine .ifF (by simp (disch:=first|exact dsc|fail) only [go_sem,seval]) ?_
    (repeat refine .z rfl ?_);refine .fin Try.func46 (by rw [Try.results46]) (by simp (disch:=first|exact dsc|fail) only [go_sem,seval];rfl) (by simp (disch:=first|exact dsc|fail) only [go_sem,seval];rfl) (by (try dsimp only);repeat (first | with_reducible refine bel_new ?_ dsc | with_reducible refine bel_appl ?_ dsc | with_reducible refine bel_set ?_ dsc | with_reducible refine bel_cl ?_ | with_reducible exact hbel | with_reducible exact hbel _)) ?_;simp (disch:=first|exact dsc|fail) only [go_sem,seval]
    exact h
  · intro i env H' _ hi ⟨e0,e1,e7,e8,eH⟩ ih
    subst eH
    have hsu:=chTo_succ (f:=fun g=>zeroU (reN ns g)) hi
    have hnn:=chTo_nth (f:=fun g=>zeroU (reN ns g)) hi
    have hcl:(chTo (fun g=>zeroU (reN ns g)) l i).length=l.length:=chTo_len
    rw [←hsu] at ih
    obtain ⟨o1,o2,o3,o4⟩:=hin i hi
    generalize nth l i=g at *
    generalize chTo (fun g=>zeroU (reN ns g)) l i=ll at *
    (repeat refine .z rfl ?_);refine .text ?_;simp (disch:=first|exact dsc|fail) only [go_sem,seval,e7,e8]
    (repeat refine .z rfl ?_);refine .ifT (by simp (disch:=first|exact dsc|fail) only [go_sem,seval]) ?_
    (repeat refine .z rfl ?_);refine .text ?_;simp (disch:=first|exact dsc|fail) only [go_sem,seval,e8]
    (repeat refine .z rfl ?_);refine .text ?_;simp (disch:=first|exact dsc|fail) only [go_sem,seval,e0]
    (repeat refine .z rfl ?_);refine .text ?_;simp (disch:=first|exact dsc|fail) only [go_sem,seval,e1]
    (repeat refine .z rfl ?_);refine .ifT (by simp (disch:=first|exact dsc|fail) only [go_sem,seval]) ?_
    have hrr:setR (setL g (nth ns g.l.toNat)) (nth ns g.r.toNat)=reN ns g:=rfl
    have hn1:nth (ll.set i (setL g (nth ns g.l.toNat))) i=setL g (nth ns g.l.toNat):=nth_set_eq rfl (by omega)
    (repeat refine .z rfl ?_);refine .openT [18,21] follows (by kernel_rfl) ?_;simp (disch:=first|exact dsc|fail) only [go_sem,seval,e1,gcs_get0,gcs_get1,gcs_set0,gcs_set1,hnn,hn1,hrr,List.set_set]
    have hnn2:nth (ll.set i (reN ns g)) i=reN ns g:=nth_set_eq rfl (by omega)
    have hcl2:(ll.set i (reN ns g)).length=l.length:=by rw [List.length_set];exact hcl
    have hss:ll.set i (zeroU (reN ns g))=(ll.set i (reN ns g)).set i (zeroU (reN ns g)):=by rw [List.set_set]
    rw [hss] at ih
    clear hnn hn1 hss hsu hcl hrr
    generalize ll.set i (reN ns g)=l1 at *
    generalize reN ns g=g1 at *

    clear o1 o2 o3 o4
    have hnn:=hnn2
    have hcl:=hcl2
    clear hnn2 hcl2
    (repeat refine .z rfl ?_);refine .text ?_;simp (disch:=first|exact dsc|fail) only [go_sem,seval,hnn,gcs_sub]
    refine CallK.of (fun R h=>optimize_usesLeft_spec _ _ R h) ?_;simp (disch:=first|exact dsc|fail) only [go_sem,seval]
    (repeat refine .z rfl ?_);refine .cut (fun env' H'=>env' 0 = .vr b l.length 6∧env' 1 = .p (.sl false 1 (pl i64 ns))∧env' 5 = .vp b (l.length*6) (i*6)∧env' 7 = .p (i64 l.length)∧env' 8 = .p (i64 i)∧H'=H.set b (.vec (gcs (l1.set i (n3 g1))))) (fun ih => ?_) ?_
    · (repeat refine .z rfl ?_);refine .ifB (by simp (disch:=first|exact dsc|fail) only [go_sem,seval];rfl) (fun hc => ?_) (fun hc => ?_)
      · have e4:n3 g1=setL g1 0:=by simp only [n3,hc,if_true];rfl
        (repeat refine .z rfl ?_);refine .text ?_;simp (disch:=first|exact dsc|fail) only [go_sem,seval,gcs_set0,hnn]
        refine ih _ _ ?_
        simp (disch:=first|exact dsc|fail) only [go_sem,seval,e0,e1,e7,e8,e4]
      · have e4:n3 g1=g1:=by simp only [n3,hc,Bool.false_eq_true,if_false]
        have e5:l1.set i g1=l1:=by rw [←hnn];exact set_nth_self
        refine .skip ?_
        refine ih _ _ ?_
        simp (disch:=first|exact dsc|fail) only [go_sem,seval,e0,e1,e7,e8,e4,e5]
    intro env' H' ⟨f0,f1,f5,f7,f8,eH⟩
    subst eH
    have hc2:(l1.set i (n3 g1)).length=l.length:=by rw [List.length_set];exact hcl
    have hn2:nth (l1.set i (n3 g1)) i=n3 g1:=nth_set_eq rfl (by omega)
    have hz:(l1.set i (n3 g1)).set i (m4 (n3 g1))=l1.set i (zeroU g1):=by rw [List.set_set];rfl
    rw [←hz] at ih
    generalize l1.set i (n3 g1)=ll2 at *
    generalize n3 g1=g2 at *
    (repeat refine .z rfl ?_);refine .text ?_;simp (disch:=first|exact dsc|fail) only [go_sem,seval,f5,hn2,gcs_sub]
    refine CallK.of (fun R h=>optimize_usesRight_spec _ _ R h) ?_;simp (disch:=first|exact dsc|fail) only [go_sem,seval]
    (repeat refine .z rfl ?_);refine .ifB (by simp (disch:=first|exact dsc|fail) only [go_sem,seval];rfl) (fun hc => ?_) (fun hc => ?_)
    · have e4:m4 g2=setR g2 0:=by simp only [m4,hc,if_true];rfl
      (repeat refine .z rfl ?_);refine .text ?_;simp (disch:=first|exact dsc|fail) only [go_sem,seval,f5,gcs_set1,hn2]
      (repeat refine .z rfl ?_);refine .text ?_;simp (disch:=first|exact dsc|fail) only [go_sem,seval,f8]
      refine ih _ _ ?_
      simp (disch:=first|exact dsc|fail) only [go_sem,seval,f0,f1,f7,f8,e4]
    · have e4:m4 g2=g2:=by simp only [m4,hc,Bool.false_eq_true,if_false]
      have e5:ll2.set i g2=ll2:=by rw [←hn2];exact set_nth_self
      refine .skip ?_
      (repeat refine .z rfl ?_);refine .text ?_;simp (disch:=first|exact dsc|fail) only [go_sem,seval,f8]
      refine ih _ _ ?_
      simp (disch:=first|exact dsc|fail) only [go_sem,seval,f0,f1,f7,f8,e4,e5]
end walks
end Go.Proofs.Ytjnbifkojpfdgaa

/-
  Removing unused gates: the walk of the program.
-/
namespace Go.Proofs.Ytjnbifkojpfdgaa
open Go Go.AL

def gw (c:Circ):Nat → List Gate
  | 0=>keepO (tab (want c (c.layers.length - 1) []) (nth c.layers (c.layers.length - 1)).length) (nth c.layers (c.layers.length - 1))
  | d+1=>keepO (tab (want c (c.layers.length - 2 - d) (gw c d)) (nth c.layers (c.layers.length - 2 - d)).length) (nth c.layers (c.layers.length - 2 - d))
def gwN (c:Circ) (d:Nat):List Gate:=if d=0 then [] else gw c (d - 1)
def fw (c:Circ) (d:Nat):List Bool:=tab (want c (c.layers.length - 1 - d) (gwN c d)) (nth c.layers (c.layers.length - 1 - d)).length
theorem gw_eq {c:Circ} (d:Nat):gw c d=keepO (fw c d) (nth c.layers (c.layers.length - 1 - d)):=by
  cases d with
  | zero=>rfl
  | succ d=>simp only [gw,fw,gwN,show c.layers.length - 1 - (d+1)=c.layers.length - 2 - d by omega,Nat.succ_ne_zero,if_false,Nat.add_sub_cancel]
def gnum (c:Circ) (k:Nat):List Int:=keepN (fw c (c.layers.length - 1 - k)) (nth c.layers k)
def gf (c:Circ) (k:Nat):List Gate:=(gw c (c.layers.length - 1 - k)).map (if k=0 then zeroU else fun g=>zeroU (reN (gnum c (k - 1)) g))
def deadG (c:Circ):Circ:=⟨c.inputs,tab (gf c) c.layers.length,c.sums⟩

theorem keepO_le {b:List Bool} {l:List Gate} (h:1≤l.length):1≤(keepO b l).length∧(keepO b l).length≤l.length:=by
  unfold keepO
  have:=selTo_le b l l.length
  split
  · simp;omega
  · omega
theorem selTo_mem {b:List Bool} {l:List Gate} {Pr:Gate → Prop} (h : ∀ i,i < l.length → Pr (nth l i)) : ∀ i,i≤l.length → ∀ j,j < (selTo b l i).length → Pr (nth (selTo b l i) j)
  | 0,_,j,hj=>absurd hj (by simp [selTo])
  | i+1,hi,j,hj=>by
    have ih:=selTo_mem (b:=b) h i (by omega)
    simp only [selTo] at hj ⊢
    split at hj
    · rename_i hb
      rw [if_pos hb]
      by_cases e:j < (selTo b l i).length
      · rw [nth_append_l e];exact ih j e
      · rw [nth_append_r (by omega),show j - (selTo b l i).length=0 by simp at hj;omega,nth_cons_zero]
        exact h i (by omega)
    · rename_i hb
      rw [if_neg hb]
      exact ih j hj
theorem keepO_mem {b:List Bool} {l:List Gate} {Pr:Gate → Prop} (hl:1≤l.length) (h : ∀ i,i < l.length → Pr (nth l i)) : ∀ j,j < (keepO b l).length → Pr (nth (keepO b l) j):=by
  unfold keepO
  split
  · intro j hj
    have:j=0:=by simpa using hj
    subst this
    exact h 0 (by omega)
  · exact selTo_mem h _ (Nat.le_refl _)
theorem gw_len {c:Circ} (hc:Ok c) {d:Nat} (hd:d < c.layers.length):1≤(gw c d).length∧(gw c d).length≤1000:=by
  have h1:=hc.row (c.layers.length - 1 - d) (by omega)
  have h2:=keepO_le (b:=fw c d) h1.1
  rw [gw_eq]
  omega
theorem gw_op {c:Circ} (hc:Ok c) {d:Nat} (hd:d < c.layers.length) : ∀ j,j < (gw c d).length → opG (wid c (c.layers.length - 1 - d)) (nth (gw c d) j):=by
  rw [gw_eq]
  exact keepO_mem (hc.row (c.layers.length - 1 - d) (by omega)).1 (hc.op (c.layers.length - 1 - d) (by omega))

def pd (c:Circ) (d:Nat):List (List Gate):=tab (fun j=>if c.layers.length+1≤j+d then gf c j else []) c.layers.length
theorem pd_len {c:Circ} {d:Nat}:(pd c d).length=c.layers.length:=tab_len
theorem pd_zero {c:Circ}:pd c 0=List.replicate c.layers.length []:=nth_ext (by simp [pd,tab]) fun i hi=>by
  rw [pd_len] at hi
  rw [pd,nth_tab hi,if_neg (by omega),nth_replicate hi]
theorem pd_one {c:Circ}:pd c 1=pd c 0:=tab_congr fun j hj=>by rw [if_neg (by omega),if_neg (by omega)]
theorem pd_succ {c:Circ} {d:Nat} (h0:0 < d) (h:d≤c.layers.length):(pd c d).set (c.layers.length - d) (gf c (c.layers.length - d))=pd c (d+1):=nth_ext (by simp [pd,tab]) fun j hj=>by
  rw [List.length_set,pd_len] at hj
  by_cases e:c.layers.length - d=j
  · rw [nth_set_eq e (by rw [pd_len];omega),e,pd,nth_tab hj,if_pos (by omega)]
  · rw [nth_set_ne e,pd,pd,nth_tab hj,nth_tab hj]
    by_cases e2:c.layers.length+1≤j+d
    · rw [if_pos e2,if_pos (by omega)]
    · rw [if_neg e2,if_neg (by omega)]
theorem pd_all {c:Circ}:pd c (c.layers.length+1)=tab (gf c) c.layers.length:=tab_congr fun j _=>by rw [if_pos (by omega)]

structure DB (H:Hp) (c:Circ) (B:Hp) (a b:Nat):Prop where
  n:B.n=H.n+4
  f0:B.f H.n=some (.cells (cc c))
  f1:B.f (H.n+1)=some (.cells [.p (i64 0),.p (.sl true 1 []),.p (i64 0)])
  fa:B.f a=some (.cells (cl (PV.sl true 6) (List.replicate c.layers.length [])))
  fb:B.f b=some (.cells [.p (i64 c.inputs),.ref a 0 c.layers.length 1,.p (i64 c.sums)])
  la:H.n+2≤a∧a < H.n+4
  lb:H.n+2≤b∧b < H.n+4
  ne:a≠b
  bel:Bel H.n B
  tr:B.trunc H.n=H

structure DX (H:Hp) (c:Circ) (a b:Nat) (rows:List AV) (X:Hp):Prop where
  n:H.n+5≤X.n
  f0:X.f H.n=some (.cells [.p (i64 c.inputs),.p (.sl false 1 (pl (sle 6 gate) c.layers)),.p (i64 c.sums)])
  f1:X.f (H.n+1)=some (.cells [.p (i64 0),.p (.sl true 1 []),.p (i64 0)])
  fa:X.f a=some (.cells rows)
  fb:X.f b=some (.cells [.p (i64 c.inputs),.ref a 0 c.layers.length 1,.p (i64 c.sums)])
  f4:X.f (H.n+4)=some (.cells [.p (i64 ((c.layers.length:Int) - 1))])
  bel:Bel H.n X
  tr:X.trunc H.n=H
structure CP (G:Globs) (c:Circ) (X:Hp) (d f:Nat) (caps:List AV):Prop where
  ent:enters Try.prog f=true
  weak:caps.map AV.weak=caps
  call : ∀ i,i < (nth c.layers (c.layers.length - 1 - d)).length → ∀ H',(∃ T,H'=app X T) → ∀ R:AV → Hp → Prop,R (.p (bo (nth (fw c d) i))) H' → ACall Try.prog G f (.p (i64 i) :: caps) H' R
theorem fw_len {c:Circ} {d:Nat}:(fw c d).length=(nth c.layers (c.layers.length - 1 - d)).length:=tab_len
structure Ext (H X Y:Hp):Prop where
  n:X.n≤Y.n
  f : ∀ z,z < X.n → Y.f z=X.f z
  bel:Bel H.n X → Bel H.n Y
  tr:Y.trunc H.n=X.trunc H.n
theorem Ext.app {H X:Hp} {T:List AB} (h:H.n≤X.n):Ext H X (app X T):=⟨by rw [app_n'];omega,fun z hz=>app_f hz,fun hb=>bel_appl hb h,app_trunc h⟩
theorem Ext.new {H X:Hp} {x:AB} (h:H.n≤X.n):Ext H X (X.new x):=⟨by rw [n_new'];omega,fun z hz=>Hp.f_new_old X x z hz,fun hb=>bel_new hb h,by rw [Hp.trunc_new X x H.n h]⟩
theorem Ext.trans {H X Y Z:Hp} (h1:Ext H X Y) (h2:Ext H Y Z):Ext H X Z:=⟨Nat.le_trans h1.n h2.n,fun z hz=>(h2.f z (Nat.lt_of_lt_of_le hz h1.n)).trans (h1.f z hz),fun h=>h2.bel (h1.bel h),h2.tr.trans h1.tr⟩
section dx
variable {H X Y:Hp} {c:Circ} {a b:Nat} {rows:List AV}
theorem DX.ext (h:DX H c a b rows X) (e:Ext H X Y):DX H c a b rows Y where
  n:=Nat.le_trans h.n e.n
  f0:=(e.f _ (Hp.lt h.f0)).trans h.f0
  f1:=(e.f _ (Hp.lt h.f1)).trans h.f1
  fa:=(e.f _ (Hp.lt h.fa)).trans h.fa
  fb:=(e.f _ (Hp.lt h.fb)).trans h.fb
  f4:=(e.f _ (Hp.lt h.f4)).trans h.f4
  bel:=e.bel h.bel
  tr:=e.tr.trans h.tr
theorem DX.le (h:DX H c a b rows X):H.n≤X.n:=by have:=h.n;omega
theorem DX.new {x:AB} (h:DX H c a b rows X):DX H c a b rows (X.new x):=h.ext (Ext.new h.le)
theorem DX.app {T:List AB} (h:DX H c a b rows X):DX H c a b rows (app X T):=h.ext (Ext.app h.le)
theorem DX.setA {rows':List AV} (h:DX H c a b rows X) (ha:H.n+2≤a∧a < H.n+4) (hab:a≠b):DX H c a b rows' (X.set a (.cells rows')) where
  n:=h.n
  f0:=by rw [Hp.f_set_ne _ _ _ _ (by omega)];exact h.f0
  f1:=by rw [Hp.f_set_ne _ _ _ _ (by omega)];exact h.f1
  fa:=Hp.f_set_self _ _ _ (Hp.lt h.fa)
  fb:=by rw [Hp.f_set_ne _ _ _ _ (Ne.symm hab)];exact h.fb
  f4:=by rw [Hp.f_set_ne _ _ _ _ (by omega)];exact h.f4
  bel:=bel_set h.bel (by omega)
  tr:=by rw [Hp.trunc_set _ _ _ _ (by omega)];exact h.tr
theorem DX.setV {v:Nat} {x:AB} (h:DX H c a b rows X) (hv:H.n+5≤v) (ha:H.n+2≤a∧a < H.n+4) (hb:H.n+2≤b∧b < H.n+4):DX H c a b rows (X.set v x) where
  n:=h.n
  f0:=by rw [Hp.f_set_ne _ _ _ _ (by omega)];exact h.f0
  f1:=by rw [Hp.f_set_ne _ _ _ _ (by omega)];exact h.f1
  fa:=by rw [Hp.f_set_ne _ _ _ _ (by omega)];exact h.fa
  fb:=by rw [Hp.f_set_ne _ _ _ _ (by omega)];exact h.fb
  f4:=by rw [Hp.f_set_ne _ _ _ _ (by omega)];exact h.f4
  bel:=bel_set h.bel (by omega)
  tr:=by rw [Hp.trunc_set _ _ _ _ (by omega)];exact h.tr
theorem CP_next {G:Globs} (hc:Ok c) {d:Nat} (hd:d+1 < c.layers.length) {t9 mb:Nat} {mm:List (Int × Unit)} (h9:X.f t9=some (.cells [.mp mb])) (hm:X.f mb=some (.mapB (tm iev uv mm))) (hmk : ∀ p∈mm,okI p.1)
    (hmm : ∀ x,(assoc x mm).isSome=usedB (gw c d) x):CP G c X (d+1) 45 [.ptr t9 0] where
  ent:=enters45
  weak:=rfl
  call:=by
    rintro i hi H' ⟨T,rfl⟩ R h
    have hr:=(hc.row (c.layers.length - 1 - (d+1)) (by omega)).2
    have hw:nth (fw c (d+1)) i=usedB (gw c d) i:=by
      rw [fw,nth_tab hi,want,if_neg (by omega)];rfl
    rw [hw,←hmm] at h
    exact optimize_Dead_c2_spec i ⟨by omega,by omega⟩ mm hmk t9 mb _ (by rw [app_f (Hp.lt h9)];exact h9) (by rw [app_f (Hp.lt hm)];exact hm) R h
end dx
theorem fst_isSome_succ {p:Nat → Bool} {n:Nat}:(fst? p (n+1)).isSome=((fst? p n).isSome || p n):=by
  simp only [fst?]
  cases fst? p n with
  | some j=>rfl
  | none=>by_cases h:p n=true<;>simp [h]
theorem acells_mp {n:Nat}:acells (.mp n)=some [.mp n]:=rfl
theorem acells_vr {n l s:Nat}:acells (.vr n l s)=some [.vr n l s]:=rfl
attribute [go_sem] acells_mp acells_vr
theorem acells_circR {i s:Int} {a n:Nat}:acells (mkAgg [.p (i64 i),.ref a 0 n 1,.p (i64 s)])=some [.p (i64 i),.ref a 0 n 1,.p (i64 s)]:=rfl
attribute [go_sem] acells_circR

section walks
variable {G:Globs}

set_option maxHeartbeats 16000000 in
theorem optimize_Dead_spec (c:Circ) (hc:Ok c) (H:Hp) (R:AV → Hp → Prop) (h:R (.p (circ (deadG c))) H):ACall Try.prog G 17 [.p (circ c)] H R:=by
  refine ACall.of_run (raw:=[]) Try.func17 rfl Try.ntmps17 (by simp) fun hbel => ?_
  have hl:=hc.len.2
  have hl1:=hc.len.1
  (repeat refine .z rfl ?_);refine .text ?_;simp (disch:=first|exact dsc|fail) only [go_sem,seval]
  (repeat refine .z rfl ?_);refine .cut (fun env' B=>env' 1 = .ptr H.n 0∧env' 2 = .ptr (H.n+1) 0 ∧ ∃ a b,env' 3 = .ptr b 0∧DB H c B a b) (fun ih => ?_) ?_
  · (repeat refine .z rfl ?_);refine .openU [0,1,2,3,4,5,6] 7 9 [8,9,10] [7,8,10] [7,9,10] [7,9,10] [7,8,10] follows (by kernel_rfl) (by kernel_rfl) ?_ ?_<;>simp (disch:=first|exact dsc|fail) only [go_sem,seval]
    · refine ih _ _ ⟨?_,?_,H.n+2,H.n+3,?_,⟨?_,?_,?_,?_,?_,⟨by omega,by omega⟩,⟨by omega,by omega⟩,by omega,?_,?_⟩⟩
      rotate_left 8
      · exact bel_new (bel_new (bel_new (bel_new hbel (Nat.le_refl _)) (by simp only [n_new'];omega)) (by simp only [n_new'];omega)) (by simp only [n_new'];omega)
      all_goals simp (disch:=first|exact dsc|fail) only [go_sem,seval]
    · refine ih _ _ ⟨?_,?_,H.n+3,H.n+2,?_,⟨?_,?_,?_,?_,?_,⟨by omega,by omega⟩,⟨by omega,by omega⟩,by omega,?_,?_⟩⟩
      rotate_left 8
      · exact bel_new (bel_new (bel_new (bel_new hbel (Nat.le_refl _)) (by simp only [n_new'];omega)) (by simp only [n_new'];omega)) (by simp only [n_new'];omega)
      all_goals simp (disch:=first|exact dsc|fail) only [go_sem,seval]
  intro env B ⟨e1,e2,a,b,e3,hB⟩
  obtain ⟨hBn,hB0,hB1,hBa,hBb,⟨ha1,ha2⟩,⟨hb1,hb2⟩,hab,hBbel,hBtr⟩:=hB
  rw [cc_def] at hB0
  (repeat refine .z rfl ?_);refine .text ?_;simp (disch:=first|exact dsc|fail) only [go_sem,seval,e1,hB0]
  (repeat refine .z rfl ?_);refine .text ?_;simp (disch:=first|exact dsc|fail) only [go_sem,seval,e1]
  (repeat refine .z rfl ?_);refine .text ?_;simp (disch:=first|exact dsc|fail) only [go_sem,seval]
  (repeat refine .z rfl ?_);refine .weakC (a) (by simp (disch:=first|exact dsc|fail) only [go_sem,seval,hBa];rfl) ?_;(try simp (disch:=first|exact dsc|fail) only [go_sem,seval,List.map_replicate,List.map_cons,List.map_nil,AV.weak,PV.weak,hBa])
  repeat refine .z rfl ?_
  refine .count (fun d env X=>env 1 = .ptr H.n 0∧env 2 = .ptr (H.n+1) 0∧env 3 = .ptr b 0∧env 4 = .ptr (H.n+4) 0∧env 6 = .p (i64 ((c.layers.length:Int) - 1 - d)) ∧
    ∃ f caps rows,env 5 = .clo f [] caps∧DX H c a b rows X∧(d < c.layers.length → CP G c X d f caps) ∧
      ((d=0∧rows=cl (sle 6 gate) (pd c 0)) ∨ (0 < d ∧ ∃ v,X.f v=some (.vec (gcs (gw c (d - 1))))∧H.n+5≤v∧rows=(cl (sle 6 gate) (pd c d)).set (c.layers.length - d) (.vr v (gw c (d - 1)).length 6)))) 0 c.layers.length (by omega) ?_ ?_ ?_
  · simp (disch:=first|exact dsc|fail) only [go_sem,seval,e1,e2,e3,hBn,wk_rep (e:=gate)]
    refine ⟨by simp,_,_,_,rfl,⟨?_,?_,?_,?_,?_,?_,?_,?_⟩,fun _=>⟨enters40,rfl,?_⟩,by rw [pd_zero]⟩
    rotate_left 6
    · exact bel_new (bel_set hBbel (by omega)) (by simp only [n_set'];omega)
    · simp (disch:=first|exact dsc|fail) only [go_sem,seval,hBtr]
    · rintro i hi H' ⟨T,rfl⟩ R h
      have hi:i < (nth c.layers (c.layers.length - 1)).length:=hi
      have hw:nth (fw c 0) i=want c (c.layers.length - 1) [] i:=by rw [fw,nth_tab (show i < (nth c.layers (c.layers.length - 1 - 0)).length from hi)];rfl
      rw [hw] at h
      exact optimize_Dead_c1_spec c hc i hi H.n (H.n+4) _ (by simp (disch:=first|exact dsc|fail) only [go_sem,seval];exact hB0) (by simp (disch:=first|exact dsc|fail) only [go_sem,seval]) R h
    · simp only [n_new',n_set'];omega
    all_goals simp (disch:=first|exact dsc|fail) only [go_sem,seval,hB0,hB1,hBb]
  · intro env X ⟨e1,e2,e3,e4,e6,f,caps,rows,e5,hX,_,hrows⟩
    rcases hrows with ⟨h0,_⟩ | ⟨h0,v,hXv,hv5,hrows⟩
    · omega
    have hpl:(pd c c.layers.length).length=c.layers.length:=pd_len
    have hvl2:v < X.n:=Hp.lt hXv
    have hXa:=hX.fa
    have hXb:=hX.fb
    have hX1:=hX.f1
    have hXn:=hX.n
    rw [Nat.sub_self] at hrows
    subst hrows
    have hget:((cl (sle 6 gate) (pd c c.layers.length)).set 0 (.vr v (gw c (c.layers.length - 1)).length 6))[0]? = some (.vr v (gw c (c.layers.length - 1)).length 6):=List.getElem?_set_self (by rw [cl_len];omega)
    have hgl1:=gw_len hc (show c.layers.length - 1 < c.layers.length by omega)
    have hgf:(gw c (c.layers.length - 1)).map zeroU=gf c 0:=by rw [gf,if_pos rfl,Nat.sub_zero]
    have hall:(pd c c.layers.length).set 0 (gf c 0)=tab (gf c) c.layers.length:=by
      have:=pd_succ (c:=c) (d:=c.layers.length) (by omega) (by omega)
      rw [Nat.sub_self] at this
      rw [this,pd_all]
    have hal:(tab (gf c) c.layers.length).length=c.layers.length:=tab_len
    have htk:(tab (gf c) c.layers.length).take c.layers.length=tab (gf c) c.layers.length:=List.take_of_length_le (by rw [hal];exact Nat.le_refl _)
    (repeat refine .z rfl ?_);refine .text ?_;simp (disch:=first|exact dsc|fail) only [go_sem,seval,e6]
    (repeat refine .z rfl ?_);refine .ifF (by simp (disch:=first|exact dsc|fail) only [go_sem,seval]) ?_
    (repeat refine .z rfl ?_);refine .text ?_;simp (disch:=first|exact dsc|fail) only [go_sem,seval,e3,hXa,hXb,List.length_set,hget]
    refine CallK.of (fun R h=>optimize_renumber_nil_spec (gw c (c.layers.length - 1)) hgl1.2 v _ hXv R h) ?_;simp (disch:=first|exact dsc|fail) only [go_sem,seval,hgf]
    repeat refine .z rfl ?_
    refine .frzCell a 0 v (y := .p (.sl false 6 (pl gate (gf c 0)))) (by simp (disch:=first|exact dsc|fail) only [go_sem,seval];exact hXa) hget (by omega) (fun σ w val hr hs=>vr_plain hr (xs:=pl gate (gf c 0)) (cs:=gcs (gf c 0)) (by simp (disch:=first|exact dsc|fail) only [go_sem,seval]<;>rfl) rfl (by rw [pl_len,←hgf,List.length_map]) gate_len hs) ?_
    have hset:((cl (sle 6 gate) (pd c c.layers.length)).set 0 (.vr v (gw c (c.layers.length - 1)).length 6)).set 0 (.p (.sl false 6 (pl gate (gf c 0))))=cl (sle 6 gate) (tab (gf c) c.layers.length):=by
      rw [List.set_set,cl_sle_set,hall]
    rw [hset]
    refine .frzCell b 1 a (x := .ref a 0 c.layers.length 1) (y := .p (.sl false 1 (pl (sle 6 gate) (tab (gf c) c.layers.length)))) (by simp (disch:=first|exact dsc|fail) only [go_sem,seval];exact hXb) rfl (Ne.symm hab) (fun σ w val hr hs=>by
      have:=ref_plain hr (f:=sle 6 gate) (l:=tab (gf c) c.layers.length) (by simp (disch:=first|exact dsc|fail) only [go_sem,seval]<;>rfl) (fun _=>rfl) (by rw [hal];omega) hs
      rw [List.drop_zero,htk] at this
      exact this) ?_
    have hbel:=hX.bel
    have hXtr:=hX.tr
    (repeat refine .z rfl ?_);refine .text ?_;simp (disch:=first|exact dsc|fail) only [go_sem,seval,e2,e3,hX1]
    (repeat refine .z rfl ?_);refine .rt Try.func17 (by rw [Try.results17]) (hx:=by simp (disch:=first|exact dsc|fail) only [go_sem,seval,e2,hXtr];rfl) (hR := ?_);simp (disch:=first|exact dsc|fail) only [go_sem,seval,e2,hXtr]
    exact h
  · intro d env X _ hd ⟨e1,e2,e3,e4,e6,f,caps,rows,e5,hX,hcp,hrows⟩ ih
    have hcp:=hcp hd
    obtain ⟨k,hk⟩ : ∃ k:Nat,c.layers.length - 1 - d=k:=⟨_,rfl⟩
    have hk':((c.layers.length:Int) - 1 - d)=(k:Int):=by omega
    have hkl:k < c.layers.length:=by omega
    rw [hk'] at e6
    have hr:=hc.row k hkl
    have hfl:=fw_len (c:=c) (d:=d)
    have hX0:=hX.f0
    rw [hk] at hfl
    (repeat refine .z rfl ?_);refine .text ?_;simp (disch:=first|exact dsc|fail) only [go_sem,seval,e6]
    (repeat refine .z rfl ?_);refine .ifT (by simp (disch:=first|exact dsc|fail) only [go_sem,seval]) ?_
    (repeat refine .z rfl ?_);refine .text ?_;simp (disch:=first|exact dsc|fail) only [go_sem,seval,e1,e5,e6,hX0]
    have hca:=hcp.call
    rw [hk] at hca
    refine CallK.ex (S:=fun r H' => ∃ T S,r = .tup [.vr (X.n+T.length) (keepO (fw c d) (nth c.layers k)).length 6,.p (.sl false 1 (pl i64 (keepN (fw c d) (nth c.layers k))))]∧H'=app ((app X T).new (.vec (gcs (keepO (fw c d) (nth c.layers k))))) S) (optimize_keep_spec (nth c.layers k) hr.2 hr.1 (fw c d) hfl f caps hcp.ent hcp.weak X hca _ fun T S=>⟨T,S,rfl,rfl⟩) ?_
    rintro _ _ ⟨T,S,rfl,rfl⟩
    simp (disch:=first|exact dsc|fail) only [go_sem,seval]
    have hgw:keepO (fw c d) (nth c.layers k)=gw c d:=by rw [gw_eq,hk]
    rw [hgw]
    have hHX:H.n≤X.n:=by have:=hX.n;omega
    have hE:Ext H X (app ((app X T).new (.vec (gcs (gw c d)))) S):=(Ext.app hHX).trans ((Ext.new (by rw [app_n'];omega)).trans (Ext.app (by rw [n_new',app_n'];omega)))
    have hv:(app ((app X T).new (.vec (gcs (gw c d)))) S).f (X.n+T.length)=some (.vec (gcs (gw c d))):=by simp (disch:=first|exact dsc|fail) only [go_sem,seval]
    have hvn:X.n≤X.n+T.length:=by omega
    have hvl:X.n+T.length < (app ((app X T).new (.vec (gcs (gw c d)))) S).n:=Hp.lt hv
    have hgl:=gw_len hc hd
    have hgo:=gw_op hc hd
    rw [hk] at hgo
    have hwl:=hc.wid_le hkl
    generalize hv':X.n+T.length=v' at *
    generalize app ((app X T).new (.vec (gcs (gw c d)))) S=Y at *
    (repeat refine .z rfl ?_);refine .text ?_;simp (disch:=first|exact dsc|fail) only [go_sem,seval]
    (repeat refine .z rfl ?_);refine .text ?_;simp (disch:=first|exact dsc|fail) only [go_sem,seval]
    repeat refine .z rfl ?_
    have hY0:=(hE.f _ (Hp.lt hX.f0)).trans hX.f0
    refine .count (fun i env H2=>env 1 = .ptr H.n 0∧env 2 = .ptr (H.n+1) 0∧env 3 = .ptr b 0∧env 4 = .ptr (H.n+4) 0∧env 6 = .p (i64 k)∧env 7 = .vr v' (gw c d).length 6∧env 8 = .p (.sl false 1 (pl i64 (keepN (fw c d) (nth c.layers k))))∧env 9 = .ptr (Y.n+1) 0∧env 42 = .vr v' (gw c d).length 6∧env 43 = .p (i64 (gw c d).length)∧env 44 = .p (i64 i) ∧ ∃ mm S,(∀ p∈mm,okI p.1)∧(∀ x,(assoc x mm).isSome=(fst? (fun k=>usesAt (nth (gw c d) k) x) i).isSome)∧H2=app ((Y.new (.mapB (tm iev uv mm))).new (.cells [.mp Y.n])) S) 0 (gw c d).length (by omega) ?_ ?_ ?_
    · simp (disch:=first|exact dsc|fail) only [go_sem,seval,e1,e2,e3,e4,e6]
      exact ⟨[],[],fun p hp=>(by cases hp),fun x=>rfl,rfl⟩
    · intro env H2 ⟨e1,e2,e3,e4,e6,e7,e8,e9,e42,e43,e44,mm,S,hmk,hmm,eH⟩
      subst eH
      (repeat refine .z rfl ?_);refine .text ?_;simp (disch:=first|exact dsc|fail) only [go_sem,seval,e43,e44]
      (repeat refine .z rfl ?_);refine .ifF (by simp (disch:=first|exact dsc|fail) only [go_sem,seval]) ?_
      have hYa:=(hE.f _ (Hp.lt hX.fa)).trans hX.fa
      have hYb:=(hE.f _ (Hp.lt hX.fb)).trans hX.fb
      have hY1:=(hE.f _ (Hp.lt hX.f1)).trans hX.f1
      have hY4:=(hE.f _ (Hp.lt hX.f4)).trans hX.f4
      have hYn:X.n≤Y.n:=hE.n
      have hXn:=hX.n
      have hpl:(pd c d).length=c.layers.length:=pd_len
      (repeat refine .z rfl ?_);refine .text ?_;simp (disch:=first|exact dsc|fail) only [go_sem,seval,e9]
      have hXY:=hX.ext hE
      have hus : ∀ x,(assoc x mm).isSome=usedB (gw c d) x:=hmm
      rcases hrows with ⟨h0,hrows⟩ | ⟨h0,v,hXv,hv5,hrows⟩
      · subst hrows
        subst h0
        (repeat refine .z rfl ?_);refine .text ?_;simp (disch:=first|exact dsc|fail) only [go_sem,seval,e3,e6,e7,hYa,hYb]
        (repeat refine .z rfl ?_);refine .text ?_;simp (disch:=first|exact dsc|fail) only [go_sem,seval,e4,e6,hY4]
        (repeat refine .z rfl ?_);refine .ifF (by simp (disch:=first|exact dsc|fail) only [go_sem,seval]) ?_
        (repeat refine .z rfl ?_);refine .text ?_;simp (disch:=first|exact dsc|fail) only [go_sem,seval,e6]
        have hdx:=(((hXY.setA (rows':=(cl (sle 6 gate) (pd c 0)).set k (.vr v' (gw c 0).length 6)) ⟨ha1,ha2⟩ hab).new (x := .mapB (tm iev uv mm))).new (x := .cells [.mp Y.n])).app (T:=S)
        refine ih _ _ ?_
        simp (disch:=first|exact dsc|fail) only [go_sem,seval,e1,e2,e3,e4]
        refine ⟨by congr 2;omega,_,_,_,rfl,hdx,fun h1=>CP_next (t9:=Y.n+1) (mb:=Y.n) hc h1 (by simp (disch:=first|exact dsc|fail) only [go_sem,seval]) (by simp (disch:=first|exact dsc|fail) only [go_sem,seval]) hmk hus,v',?_,by omega,?_⟩
        · simp (disch:=first|exact dsc|fail) only [go_sem,seval,hv]
        · rw [pd_one,show c.layers.length - (0+1)=k by omega]
      · have hYv:=(hE.f _ (Hp.lt hXv)).trans hXv
        have hvl2:v < X.n:=Hp.lt hXv
        have hnd:c.layers.length - d=k+1:=by omega
        rw [hnd] at hrows
        subst hrows
        (repeat refine .z rfl ?_);refine .text ?_;simp (disch:=first|exact dsc|fail) only [go_sem,seval,e3,e6,e7,hYa,hYb,List.length_set]
        (repeat refine .z rfl ?_);refine .text ?_;simp (disch:=first|exact dsc|fail) only [go_sem,seval,e4,e6,hY4]
        (repeat refine .z rfl ?_);refine .ifT (by simp (disch:=first|exact dsc|fail) only [go_sem,seval]) ?_
        have hget:(((cl (sle 6 gate) (pd c d)).set (k+1) (.vr v (gw c (d - 1)).length 6)).set k (.vr v' (gw c d).length 6))[k+1]? = some (.vr v (gw c (d - 1)).length 6):=by
          rw [List.getElem?_set_ne (by omega),List.getElem?_set_self (by rw [cl_len];omega)]
        have hgl1:=gw_len hc (show d - 1 < c.layers.length by omega)
        have hgo1:=gw_op hc (show d - 1 < c.layers.length by omega)
        have hkd:c.layers.length - 1 - (d - 1)=k+1:=by omega
        rw [hkd] at hgo1
        have hkN:(keepN (fw c d) (nth c.layers k)).length=(nth c.layers k).length:=tab_len
        have hwk:wid c (k+1)=((nth c.layers k).length:Int):=rfl
        rw [hwk,←hkN] at hgo1
        have hgf:(gw c (d - 1)).map (fun g=>zeroU (reN (keepN (fw c d) (nth c.layers k)) g))=gf c (k+1):=by
          rw [gf,if_neg (by omega),show c.layers.length - 1 - (k+1)=d - 1 by omega,gnum,Nat.add_sub_cancel,show c.layers.length - 1 - k=d by omega]
        (repeat refine .z rfl ?_);refine .text ?_;simp (disch:=first|exact dsc|fail) only [go_sem,seval,e3,e6,e8,hYa,hYb,List.length_set,hget]
        refine CallK.of (fun R h=>optimize_renumber_spec (gw c (d - 1)) hgl1.2 (keepN (fw c d) (nth c.layers k)) (by omega) hgo1 v _ (by simp (disch:=first|exact dsc|fail) only [go_sem,seval];exact hYv) R h) ?_;simp (disch:=first|exact dsc|fail) only [go_sem,seval,hgf]
        repeat refine .z rfl ?_
        refine .frzCell a (k+1) v (y := .p (.sl false 6 (pl gate (gf c (k+1))))) (by simp (disch:=first|exact dsc|fail) only [go_sem,seval]<;>rfl) hget (by omega) (fun σ w val hr hs=>vr_plain hr (xs:=pl gate (gf c (k+1))) (cs:=gcs (gf c (k+1))) (by simp (disch:=first|exact dsc|fail) only [go_sem,seval]<;>rfl) rfl (by rw [pl_len,←hgf,List.length_map]) gate_len hs) ?_
        (repeat refine .z rfl ?_);refine .text ?_;simp (disch:=first|exact dsc|fail) only [go_sem,seval,e6]
        have hrows2:(((cl (sle 6 gate) (pd c d)).set (k+1) (.vr v (gw c (d - 1)).length 6)).set k (.vr v' (gw c d).length 6)).set (k+1) (.p (.sl false 6 (pl gate (gf c (k+1)))))=(cl (sle 6 gate) (pd c (d+1))).set (c.layers.length - (d+1)) (.vr v' (gw c d).length 6):=by
          rw [List.set_comm _ _ (by omega),List.set_set,cl_sle_set,←pd_succ h0 (by omega),hnd,show c.layers.length - (d+1)=k by omega]
        refine ih _ _ ?_
        simp (disch:=first|exact dsc|fail) only [go_sem,seval,e1,e2,e3,e4]
        refine ⟨by congr 2;omega,_,_,_,rfl,?_,fun h1=>CP_next (t9:=Y.n+1) (mb:=Y.n) hc h1 (by simp (disch:=first|exact dsc|fail) only [go_sem,seval]) (by simp (disch:=first|exact dsc|fail) only [go_sem,seval]) hmk hus,v',?_,by omega,hrows2⟩
        · exact DX.app (DX.new (DX.new (DX.setA (DX.setV (DX.setA hXY ⟨ha1,ha2⟩ hab) hv5 ⟨ha1,ha2⟩ ⟨hb1,hb2⟩) ⟨ha1,ha2⟩ hab)))
        · simp (disch:=first|exact dsc|fail) only [go_sem,seval,hv]
          try rfl
    · intro i env H2 _ hi ⟨e1,e2,e3,e4,e6,e7,e8,e9,e42,e43,e44,mm,S,hmk,hmm,eH⟩ ih
      subst eH
      obtain ⟨o1,o2,o3,o4⟩:=hgo i hi
      have hst : ∀ x,(fst? (fun k=>usesAt (nth (gw c d) k) x) (i+1)).isSome=((fst? (fun k=>usesAt (nth (gw c d) k) x) i).isSome || usesAt (nth (gw c d) i) x):=fun x=>fst_isSome_succ
      have hsub:=gcs_sub hi
      generalize nth (gw c d) i=g at *
      (repeat refine .z rfl ?_);refine .text ?_;simp (disch:=first|exact dsc|fail) only [go_sem,seval,e43,e44]
      (repeat refine .z rfl ?_);refine .ifT (by simp (disch:=first|exact dsc|fail) only [go_sem,seval]) ?_
      (repeat refine .z rfl ?_);refine .text ?_;simp (disch:=first|exact dsc|fail) only [go_sem,seval,e42,e44,hv,hsub]
      (repeat refine .z rfl ?_);refine .text ?_;simp (disch:=first|exact dsc|fail) only [go_sem,seval]
      refine CallK.of (fun R h=>optimize_usesLeft_spec _ _ R h) ?_;simp (disch:=first|exact dsc|fail) only [go_sem,seval]
      have okl:okI g.l:=⟨by omega,by omega⟩
      have okr:okI g.r:=⟨by omega,by omega⟩
      have hputs : ∀ H b (m:List (Int × Unit)) (n:Int),(∀ p∈m,okI p.1) → okI n → aPutM Try.prog H 65 b (some (tm iev uv m)) (.p (i64 n)) (.p (.agg []))=some (H.set b (.mapB (tm iev uv (putA n () m)))):=fun H b m n hm hn=>intMap.put (x:=()) hm hn
      (repeat refine .z rfl ?_);refine .cut (fun env' H2=>env' 1 = .ptr H.n 0∧env' 2 = .ptr (H.n+1) 0∧env' 3 = .ptr b 0∧env' 4 = .ptr (H.n+4) 0∧env' 6 = .p (i64 k)∧env' 7 = .vr v' (gw c d).length 6∧env' 8 = .p (.sl false 1 (pl i64 (keepN (fw c d) (nth c.layers k))))∧env' 9 = .ptr (Y.n+1) 0∧env' 42 = .vr v' (gw c d).length 6∧env' 43 = .p (i64 (gw c d).length)∧env' 44 = .p (i64 i)∧env' 11 = .ptr (Y.n+2+S.length) 0∧H2=(app ((Y.new (.mapB (tm iev uv (if usesL g then putA g.l () mm else mm)))).new (.cells [.mp Y.n])) S).new (.cells (gc g))) (fun ih => ?_) ?_
      · (repeat refine .z rfl ?_);refine .ifB (by simp (disch:=first|exact dsc|fail) only [go_sem,seval,e1,e2,e3,e4,e6,e7,e8,e9,e42,e43,e44];rfl) (fun hc1 => ?_) (fun hc1 => ?_)
        · rw [if_pos hc1] at ih
          have hp:=fun H b=>hputs H b mm g.l hmk okl
          (repeat refine .z rfl ?_);refine .text ?_;simp (disch:=first|exact dsc|fail) only [go_sem,seval,e1,e2,e3,e4,e6,e7,e8,e9,e42,e43,e44,hp]
          refine ih _ _ ?_
          simp (disch:=first|exact dsc|fail) only [go_sem,seval,e1,e2,e3,e4,e6,e7,e8,e9,e42,e43,e44]
        · rw [if_neg (by simp [hc1])] at ih
          refine .skip ?_
          refine ih _ _ ?_
          simp (disch:=first|exact dsc|fail) only [go_sem,seval,e1,e2,e3,e4,e6,e7,e8,e9,e42,e43,e44]
      clear e1 e2 e3 e4 e6 e7 e8 e9 e42 e43 e44
      intro env' H2 ⟨e1,e2,e3,e4,e6,e7,e8,e9,e42,e43,e44,e11,eHH⟩
      subst eHH
      have hmk1 : ∀ p∈(if usesL g then putA g.l () mm else mm),okI p.1:=by
        split
        · exact putA_keys mm okl hmk
        · exact hmk
      have hmm1 : ∀ x,(assoc x (if usesL g then putA g.l () mm else mm)).isSome=((assoc x mm).isSome || (usesL g && g.l == x)):=fun x=>by
        cases usesL g with
        | true =>
          simp only [if_true,assoc_putA,Bool.true_and]
          by_cases e:g.l=x
          · simp [e]
          · simp [e]
        | false=>simp
      generalize (if usesL g then putA g.l () mm else mm)=m1 at *
      (repeat refine .z rfl ?_);refine .text ?_;simp (disch:=first|exact dsc|fail) only [go_sem,seval,e11]
      refine CallK.of (fun R h=>optimize_usesRight_spec _ _ R h) ?_;simp (disch:=first|exact dsc|fail) only [go_sem,seval]
      (repeat refine .z rfl ?_);refine .ifB (by simp (disch:=first|exact dsc|fail) only [go_sem,seval,e1,e2,e3,e4,e6,e7,e8,e9,e42,e43,e44];rfl) (fun hc1 => ?_) (fun hc1 => ?_)
      · have hp:=fun H b=>hputs H b m1 g.r hmk1 okr
        (repeat refine .z rfl ?_);refine .text ?_;simp (disch:=first|exact dsc|fail) only [go_sem,seval,e1,e2,e3,e4,e6,e7,e8,e9,e42,e43,e44,e11,hp]
        (repeat refine .z rfl ?_);refine .text ?_;simp (disch:=first|exact dsc|fail) only [go_sem,seval,e1,e2,e3,e4,e6,e7,e8,e9,e42,e43,e44]
        refine ih _ _ ?_
        simp (disch:=first|exact dsc|fail) only [go_sem,seval,e1,e2,e3,e4,e6,e7,e8,e9,e42,e43,e44]
        refine ⟨putA g.r () m1,S++[.cells (gc g)],putA_keys m1 okr hmk1,fun x => ?_,app_new⟩
        rw [hst,←hmm,assoc_putA,usesAt,←Bool.or_assoc,←hmm1,hc1,Bool.true_and]
        by_cases e:g.r=x
        · simp [e]
        · simp [e]
      · refine .skip ?_
        (repeat refine .z rfl ?_);refine .text ?_;simp (disch:=first|exact dsc|fail) only [go_sem,seval,e1,e2,e3,e4,e6,e7,e8,e9,e42,e43,e44]
        refine ih _ _ ?_
        simp (disch:=first|exact dsc|fail) only [go_sem,seval,e1,e2,e3,e4,e6,e7,e8,e9,e42,e43,e44]
        refine ⟨m1,S++[.cells (gc g)],hmk1,fun x => ?_,app_new⟩
        rw [hst,←hmm,usesAt,←Bool.or_assoc,←hmm1,hc1,Bool.false_and,Bool.or_false]
end walks
end Go.Proofs.Ytjnbifkojpfdgaa

/-
  Removing unused gates: the program and the reference keep the same.
-/
namespace Go.Proofs.Ytjnbifkojpfdgaa
open Go Go.AL

theorem sel_len (b:List Bool) (l:List Gate) : ∀ i,(selTo b l i).length=cntB b i
  | 0=>rfl
  | i+1=>by
    have:=sel_len b l i
    simp only [selTo,cntB]
    split
    · simp [this]
    · exact this





theorem not_used {l:List Gate} {g:Gate} {i:Nat} {x:Int} (hi:i < l.length) (hg:nth l i=g) (h:usedB l x=false):usesAt g x=false:=by
  unfold usedB at h
  have:fst? (fun k=>usesAt (nth l k) x) l.length=none:=by
    cases hf:fst? (fun k=>usesAt (nth l k) x) l.length with
    | none=>rfl
    | some j=>rw [hf] at h;cases h
  have:=fst_none.1 this i hi
  rw [hg] at this
  exact this

end Go.Proofs.Ytjnbifkojpfdgaa

/-
  Removing unused gates keeps the shape;all steps of the reference.
-/
namespace Go.Proofs.Ytjnbifkojpfdgaa
open Go Go.AL

theorem sel_mono {b:List Bool} {l:List Gate} {i:Nat} : ∀ {j:Nat},i≤j → (selTo b l i).length≤(selTo b l j).length
  | 0,h=>by
    have:i=0:=by omega
    subst this;exact Nat.le_refl _
  | j+1,h=>by
    by_cases e:i=j+1
    · subst e;exact Nat.le_refl _
    · have:=sel_mono (b:=b) (l:=l) (i:=i) (j:=j) (by omega)
      simp only [selTo]
      split
      · simp;omega
      · exact this

theorem zeroU_op {n:Int} {x:Gate} (hn:0 < n) (hl:usesL x=true → 0≤x.l∧x.l < n) (hr:usesR x=true → 0≤x.r∧x.r < n):opG n (zeroU x):=by
  have h3:(0≤(n3 x).l∧(n3 x).l < n)∧(n3 x).r=x.r∧usesR (n3 x)=usesR x:=by
    unfold n3
    cases h:usesL x with
    | true=>exact ⟨hl h,rfl,rfl⟩
    | false=>exact ⟨⟨Int.le_refl _,hn⟩,rfl,rfl⟩
  unfold zeroU m4
  rw [h3.2.2]
  cases h:usesR x with
  | true =>
    have:=hr h
    exact ⟨h3.1.1,h3.1.2,by rw [show (if (!true)=true then _ else n3 x)=n3 x from rfl,h3.2.1];exact this.1,by rw [show (if (!true)=true then _ else n3 x)=n3 x from rfl,h3.2.1];exact this.2⟩
  | false=>exact ⟨h3.1.1,h3.1.2,Int.le_refl _,hn⟩

theorem used_of {l:List Gate} {g:Gate} {i:Nat} {x:Int} (hi:i < l.length) (hg:nth l i=g) (h:usesAt g x=true):usedB l x=true:=by
  cases hu:usedB l x with
  | true=>rfl
  | false=>rw [not_used hi hg hu] at h;cases h

theorem Ok.dead {c:Circ} (hc:Ok c):Ok (deadG c) where
  inp:=hc.inp
  sums:=hc.sums
  len:=by show 1≤(tab _ _).length∧(tab _ _).length≤_;rw [tab_len];exact hc.len
  row k hk:=by
    simp only [deadG,tab_len] at hk ⊢
    rw [nth_tab hk,gf,List.length_map]
    exact gw_len hc (by omega)
  op k hk i hi:=by
    simp only [deadG,tab_len] at hk hi ⊢
    rw [nth_tab hk] at hi ⊢
    obtain ⟨d,hd⟩ : ∃ d,c.layers.length - 1 - k=d:=⟨_,rfl⟩
    have hdn:d < c.layers.length:=by omega
    have hkd:c.layers.length - 1 - d=k:=by omega
    rw [gf,List.length_map,hd] at hi
    rw [gf,nth_map (by rw [hd];exact hi),hd]
    have ho:=gw_op hc hdn i hi
    rw [hkd] at ho
    obtain ⟨g,hg⟩ : ∃ g,nth (gw c d) i=g:=⟨_,rfl⟩
    rw [hg] at ho ⊢
    by_cases h0:k=0
    · subst h0
      have hw:wid (⟨c.inputs,tab (gf c) c.layers.length,c.sums⟩:Circ) 0=wid c 0:=rfl
      rw [hw,if_pos rfl]
      obtain ⟨o1,o2,o3,o4⟩:=ho
      exact zeroU_op (by omega) (fun _=>⟨o1,o2⟩) (fun _=>⟨o3,o4⟩)
    · rw [if_neg h0]
      rw [wid,if_neg h0] at ho
      obtain ⟨o1,o2,o3,o4⟩:=ho
      have hd1:d+1 < c.layers.length:=by omega
      have hk1:c.layers.length - 1 - (d+1)=k - 1:=by omega
      have hfw:fw c (d+1)=tab (want c (k - 1) (gw c d)) (nth c.layers (k - 1)).length:=by
        rw [fw,hk1,gwN,if_neg (by omega),Nat.add_sub_cancel]
      have hw:wid (⟨c.inputs,tab (gf c) c.layers.length,c.sums⟩:Circ) k=((gw c (d+1)).length:Int):=by
        rw [wid,if_neg h0]
        simp only
        rw [nth_tab (by omega),gf,List.length_map,show c.layers.length - 1 - (k - 1)=d+1 by omega]
      rw [hw]
      have hgl:=gw_len hc hd1
      have key : ∀ x:Int,0≤x → x < ((nth c.layers (k - 1)).length:Int) → usesAt g x=true → 0≤nth (gnum c (k - 1)) x.toNat∧nth (gnum c (k - 1)) x.toNat < ((gw c (d+1)).length:Int):=by
        intro x h1 h2 h3
        obtain ⟨j,rfl⟩ : ∃ j:Nat,x=j:=⟨x.toNat,by omega⟩
        have hj:j < (nth c.layers (k - 1)).length:=by omega
        have hwant:nth (fw c (d+1)) j=true:=by
          rw [hfw,nth_tab hj,want,if_neg (by omega)]
          exact used_of hi hg h3
        rw [Int.toNat_natCast,gnum,show c.layers.length - 1 - (k - 1)=d+1 by omega,keepN,nth_tab hj]
        have hs:(selTo (fw c (d+1)) (nth c.layers (k - 1)) (j+1)).length=(selTo (fw c (d+1)) (nth c.layers (k - 1)) j).length+1:=by
          simp only [selTo,hwant,if_true,List.length_append,List.length_cons,List.length_nil]
        have hm:=sel_mono (b:=fw c (d+1)) (l:=nth c.layers (k - 1)) (show j+1≤(nth c.layers (k - 1)).length by omega)
        have he:gw c (d+1)=selTo (fw c (d+1)) (nth c.layers (k - 1)) (nth c.layers (k - 1)).length:=by
          rw [gw_eq,hk1,keepO,if_neg (by omega)]
        rw [he]
        omega
      refine zeroU_op (by omega) (fun h => ?_) (fun h => ?_)
      · have hu:usesL g=true:=h
        exact key g.l o1 o2 (by simp [usesAt,hu])
      · have hu:usesR g=true:=h
        exact key g.r o3 o4 (by simp [usesAt,hu])

def once (f:Bool → List Gate → Gate → Gate) (c:Circ):Circ:=deadG (share (fold f c))
theorem Ok.once {f:Bool → List Gate → Gate → Gate} (hf:keeps f) {c:Circ} (hc:Ok c):Ok (once f c):=(hc.fold hf).share.dead

section walks
variable {G:Globs}

end walks
end Go.Proofs.Ytjnbifkojpfdgaa

/-
  Valid circuits: the checks say so.
-/
namespace Go.Proofs.Ytjnbifkojpfdgaa
open Go Go.AL

structure Vd (c:Circ):Prop where
  ok:Ok c
  inp:c.inputs≤64
  len:c.layers.length≤64
  row : ∀ k,k < c.layers.length → (nth c.layers k).length≤64
  sm:c.sums≤((nth c.layers (c.layers.length - 1)).length:Int)
  vg : ∀ k,k < c.layers.length → ∀ i,i < (nth c.layers k).length → vG (nth (nth c.layers k) i) (wid c k)=true

section walks
variable {G:Globs}

end walks
end Go.Proofs.Ytjnbifkojpfdgaa

/-
  Valid circuits: the program's check says so.
-/
namespace Go.Proofs.Ytjnbifkojpfdgaa
open Go Go.AL

theorem vG_inv {g:Gate} {n:Int} (h:vG g n=true):(0≤g.l∧g.l < n∧0≤g.r∧g.r < n)∧valid g.c=true∧valid g.a=true∧valid g.b=true∧valid g.d=true:=by
  simp only [vG,Bool.and_eq_true,decide_eq_true_eq] at h
  obtain ⟨⟨⟨⟨⟨⟨⟨h1,h2⟩,h3⟩,h4⟩,h5⟩,h6⟩,h7⟩,h8⟩:=h
  exact ⟨⟨h1,h2,h3,h4⟩,h5,h6,h7,h8⟩

section walks
variable {G:Globs}


theorem IndexL_spec (xs:List (List Gate)) (hl:xs.length≤1000) (f:Nat) (caps:List AV) (hent:enters Try.prog f=true) (hcw:caps.map AV.weak=caps) (H:Hp) (hf : ∀ i,i < xs.length → ∀ R:AV → Hp → Prop,R (.p (bo false)) H → ACall Try.prog G f (.p (.sl false 6 (pl gate (nth xs i))) :: caps) H R) (R:AV → Hp → Prop) (h:R (.p (i64 (-1))) H) :
    ACall Try.prog G 80 [.p (.sl false 1 (pl (sle 6 gate) xs)),.clo f [] caps] H R:=by
  refine ACall.of_run (raw:=[]) Try.func80 rfl Try.ntmps80 (by simp) fun hbel => ?_
  (repeat refine .z rfl ?_);refine .text ?_;simp (disch:=first|exact dsc|fail) only [go_sem,seval]
  (repeat refine .z rfl ?_);refine .text ?_;simp (disch:=first|exact dsc|fail) only [go_sem,seval]
  repeat refine .z rfl ?_
  refine .count (fun i env H'=>env 0 = .p (.sl false 1 (pl (sle 6 gate) xs))∧env 1 = .clo f [] caps∧env 7 = .p (i64 xs.length)∧env 8 = .p (i64 i)∧H'=H) 0 xs.length (by omega) ?_ ?_ ?_
  · simp (disch:=first|exact dsc|fail) only [go_sem,seval]
  · intro env H' ⟨e0,e1,e7,e8,eH⟩
    subst eH
    (repeat refine .z rfl ?_);refine .text ?_;simp (disch:=first|exact dsc|fail) only [go_sem,seval,e7,e8]
    (repeat refine .z rfl ?_);refine .ifF (by simp (disch:=first|exact dsc|fail) only [go_sem,seval]) ?_
    (repeat refine .z rfl ?_);refine .text ?_;simp (disch:=first|exact dsc|fail) only [go_sem,seval]
    (repeat refine .z rfl ?_);refine .rt Try.func80 (by rw [Try.results80]) (hR := ?_);simp (disch:=first|exact dsc|fail) only [go_sem,seval]
    exact h
  · intro i env H' _ hi ⟨e0,e1,e7,e8,eH⟩ ih
    subst eH
    have hfi:=hf i hi
    (repeat refine .z rfl ?_);refine .text ?_;simp (disch:=first|exact dsc|fail) only [go_sem,seval,e7,e8]
    (repeat refine .z rfl ?_);refine .ifT (by simp (disch:=first|exact dsc|fail) only [go_sem,seval]) ?_
    (repeat refine .z rfl ?_);refine .text ?_;simp (disch:=first|exact dsc|fail) only [go_sem,seval,e8]
    (repeat refine .z rfl ?_);refine .text ?_;simp (disch:=first|exact dsc|fail) only [go_sem,seval,e0,e1,hent,hcw]
    refine CallK.of (fun R h=>hfi R h) ?_;simp (disch:=first|exact dsc|fail) only [go_sem,seval]
    (repeat refine .z rfl ?_);refine .ifF (by simp (disch:=first|exact dsc|fail) only [go_sem,seval]) ?_
    (repeat refine .z rfl ?_);refine .text ?_;simp (disch:=first|exact dsc|fail) only [go_sem,seval,e8]
    refine ih _ _ ?_
    simp (disch:=first|exact dsc|fail) only [go_sem,seval,e0,e1,e7,e8]

theorem ContainsL_spec (xs:List (List Gate)) (hl:xs.length≤1000) (f:Nat) (caps:List AV) (hent:enters Try.prog f=true) (hcw:caps.map AV.weak=caps) (H:Hp) (hf : ∀ i,i < xs.length → ∀ R:AV → Hp → Prop,R (.p (bo false)) H → ACall Try.prog G f (.p (.sl false 6 (pl gate (nth xs i))) :: caps) H R) (R:AV → Hp → Prop) (h:R (.p (bo false)) H) :
    ACall Try.prog G 65 [.p (.sl false 1 (pl (sle 6 gate) xs)),.clo f [] caps] H R:=by
  refine ACall.of_run (raw:=[]) Try.func65 rfl Try.ntmps65 (by simp) fun hbel => ?_
  (repeat refine .z rfl ?_);refine .text ?_;simp (disch:=first|exact dsc|fail) only [go_sem,seval]
  (repeat refine .z rfl ?_);refine .text ?_;simp (disch:=first|exact dsc|fail) only [go_sem,seval]
  refine CallK.of (fun R h=>IndexL_spec xs hl f caps hent hcw _ hf R h) ?_;simp (disch:=first|exact dsc|fail) only [go_sem,seval]
  (repeat refine .z rfl ?_);refine .rt Try.func65 (by rw [Try.results65]) (hR := ?_);simp (disch:=first|exact dsc|fail) only [go_sem,seval]
  exact h

theorem IndexG_spec (xs:List Gate) (hl:xs.length≤1000) (f:Nat) (caps:List AV) (hent:enters Try.prog f=true) (hcw:caps.map AV.weak=caps) (H:Hp) (hf : ∀ i,i < xs.length → ∀ R:AV → Hp → Prop,R (.p (bo false)) H → ACall Try.prog G f (.p (gate (nth xs i)) :: caps) H R) (R:AV → Hp → Prop) (h:R (.p (i64 (-1))) H) :
    ACall Try.prog G 81 [.p (.sl false 6 (pl gate xs)),.clo f [] caps] H R:=by
  refine ACall.of_run (raw:=[]) Try.func81 rfl Try.ntmps81 (by simp) fun hbel => ?_
  (repeat refine .z rfl ?_);refine .text ?_;simp (disch:=first|exact dsc|fail) only [go_sem,seval]
  (repeat refine .z rfl ?_);refine .text ?_;simp (disch:=first|exact dsc|fail) only [go_sem,seval]
  repeat refine .z rfl ?_
  refine .count (fun i env H'=>env 0 = .p (.sl false 6 (pl gate xs))∧env 1 = .clo f [] caps∧env 7 = .p (i64 xs.length)∧env 8 = .p (i64 i)∧H'=H) 0 xs.length (by omega) ?_ ?_ ?_
  · simp (disch:=first|exact dsc|fail) only [go_sem,seval]
  · intro env H' ⟨e0,e1,e7,e8,eH⟩
    subst eH
    (repeat refine .z rfl ?_);refine .text ?_;simp (disch:=first|exact dsc|fail) only [go_sem,seval,e7,e8]
    (repeat refine .z rfl ?_);refine .ifF (by simp (disch:=first|exact dsc|fail) only [go_sem,seval]) ?_
    (repeat refine .z rfl ?_);refine .text ?_;simp (disch:=first|exact dsc|fail) only [go_sem,seval]
    (repeat refine .z rfl ?_);refine .rt Try.func81 (by rw [Try.results81]) (hR := ?_);simp (disch:=first|exact dsc|fail) only [go_sem,seval]
    exact h
  · intro i env H' _ hi ⟨e0,e1,e7,e8,eH⟩ ih
    subst eH
    have hfi:=hf i hi
    (repeat refine .z rfl ?_);refine .text ?_;simp (disch:=first|exact dsc|fail) only [go_sem,seval,e7,e8]
    (repeat refine .z rfl ?_);refine .ifT (by simp (disch:=first|exact dsc|fail) only [go_sem,seval]) ?_
    (repeat refine .z rfl ?_);refine .text ?_;simp (disch:=first|exact dsc|fail) only [go_sem,seval,e8]
    (repeat refine .z rfl ?_);refine .text ?_;simp (disch:=first|exact dsc|fail) only [go_sem,seval,e0,e1,hent,hcw]
    refine CallK.of (fun R h=>hfi R h) ?_;simp (disch:=first|exact dsc|fail) only [go_sem,seval]
    (repeat refine .z rfl ?_);refine .ifF (by simp (disch:=first|exact dsc|fail) only [go_sem,seval]) ?_
    (repeat refine .z rfl ?_);refine .text ?_;simp (disch:=first|exact dsc|fail) only [go_sem,seval,e8]
    refine ih _ _ ?_
    simp (disch:=first|exact dsc|fail) only [go_sem,seval,e0,e1,e7,e8]

theorem ContainsG_spec (xs:List Gate) (hl:xs.length≤1000) (f:Nat) (caps:List AV) (hent:enters Try.prog f=true) (hcw:caps.map AV.weak=caps) (H:Hp) (hf : ∀ i,i < xs.length → ∀ R:AV → Hp → Prop,R (.p (bo false)) H → ACall Try.prog G f (.p (gate (nth xs i)) :: caps) H R) (R:AV → Hp → Prop) (h:R (.p (bo false)) H) :
    ACall Try.prog G 70 [.p (.sl false 6 (pl gate xs)),.clo f [] caps] H R:=by
  refine ACall.of_run (raw:=[]) Try.func70 rfl Try.ntmps70 (by simp) fun hbel => ?_
  (repeat refine .z rfl ?_);refine .text ?_;simp (disch:=first|exact dsc|fail) only [go_sem,seval]
  (repeat refine .z rfl ?_);refine .text ?_;simp (disch:=first|exact dsc|fail) only [go_sem,seval]
  refine CallK.of (fun R h=>IndexG_spec xs hl f caps hent hcw _ hf R h) ?_;simp (disch:=first|exact dsc|fail) only [go_sem,seval]
  (repeat refine .z rfl ?_);refine .rt Try.func70 (by rw [Try.results70]) (hR := ?_);simp (disch:=first|exact dsc|fail) only [go_sem,seval]
  exact h

theorem Valid_c1_spec (l:List Gate) (hl:l.length≤64) (H:Hp) (R:AV → Hp → Prop) (h:R (.p (bo false)) H):ACall Try.prog G 64 [.p (.sl false 6 (pl gate l))] H R:=by
  refine ACall.of_run (raw:=[]) Try.func64 rfl Try.ntmps64 (by simp) fun hbel => ?_
  (repeat refine .z rfl ?_);refine .text ?_;simp (disch:=first|exact dsc|fail) only [go_sem,seval]
  (repeat refine .z rfl ?_);refine .text ?_;simp (disch:=first|exact dsc|fail) only [go_sem,seval]
  (repeat refine .z rfl ?_);refine .rt Try.func64 (by rw [Try.results64]) (hR := ?_);simp (disch:=first|exact dsc|fail) only [go_sem,seval]
  exact h

theorem Valid_c2_spec (l:List Gate) (hl:1≤l.length) (H:Hp) (R:AV → Hp → Prop) (h:R (.p (bo false)) H):ACall Try.prog G 66 [.p (.sl false 6 (pl gate l))] H R:=by
  refine ACall.of_run (raw:=[]) Try.func66 rfl Try.ntmps66 (by simp) fun hbel => ?_
  have hz:((l.length:Int) == 0)=false:=beq_eq_false_iff_ne.2 (by omega)
  (repeat refine .z rfl ?_);refine .text ?_;simp (disch:=first|exact dsc|fail) only [go_sem,seval]
  (repeat refine .z rfl ?_);refine .text ?_;simp (disch:=first|exact dsc|fail) only [go_sem,seval,hz]
  (repeat refine .z rfl ?_);refine .rt Try.func66 (by rw [Try.results66]) (hR := ?_);simp (disch:=first|exact dsc|fail) only [go_sem,seval]
  exact h

theorem Valid_c31_spec (x n:Int) (hx:0≤x∧x < n) (p:Nat) (H:Hp) (hp:H.f p=some (.cells [.p (i64 n)])) (R:AV → Hp → Prop) (h:R (.p (bo false)) H):ACall Try.prog G 68 [.p (i64 x),.ptr p 0] H R:=by
  refine ACall.of_run (raw:=[]) Try.func68 rfl Try.ntmps68 (by simp) fun hbel => ?_
  obtain ⟨h1,h2⟩:=hx
  (repeat refine .z rfl ?_);refine .text ?_;simp (disch:=first|exact dsc|fail) only [go_sem,seval]
  (repeat refine .z rfl ?_);refine .text ?_;simp (disch:=first|exact dsc|fail) only [go_sem,seval,hp]
  (repeat refine .z rfl ?_);refine .rt Try.func68 (by rw [Try.results68]) (hR := ?_);simp (disch:=first|exact dsc|fail) only [go_sem,seval]
  exact h

theorem Valid_c3_spec (g:Gate) (n:Int) (hg:vG g n=true) (p:Nat) (H:Hp) (hp:H.f p=some (.cells [.p (i64 n)])) (R:AV → Hp → Prop) (h:R (.p (bo false)) H):ACall Try.prog G 67 [.p (gate g),.ptr p 0] H R:=by
  refine ACall.of_run (raw:=[]) Try.func67 rfl Try.ntmps67 (by simp) fun hbel => ?_
  obtain ⟨⟨h1,h2,h3,h4⟩,h5,h6,h7,h8⟩:=vG_inv hg
  have hpl:=Hp.lt hp
  have hp1 : ∀ x,(H.new x).f p=some (.cells [.p (i64 n)]):=fun x=>by rw [Hp.f_new_old H x p hpl];exact hp
  (repeat refine .z rfl ?_);refine .text ?_;simp (disch:=first|exact dsc|fail) only [go_sem,seval]
  (repeat refine .z rfl ?_);refine .text ?_;simp (disch:=first|exact dsc|fail) only [go_sem,seval]
  (repeat refine .z rfl ?_);refine .text ?_;simp (disch:=first|exact dsc|fail) only [go_sem,seval]
  refine CallK.of (fun R h=>Valid_c31_spec g.l n ⟨h1,h2⟩ p _ (hp1 _) R h) ?_;simp (disch:=first|exact dsc|fail) only [go_sem,seval]
  refine CallK.of (fun R h=>Valid_c31_spec g.r n ⟨h3,h4⟩ p _ (hp1 _) R h) ?_;simp (disch:=first|exact dsc|fail) only [go_sem,seval]
  refine CallK.of (fun R h=>fValid_spec _ _ R h) ?_;simp (disch:=first|exact dsc|fail) only [go_sem,seval,h5]
  refine CallK.of (fun R h=>fValid_spec _ _ R h) ?_;simp (disch:=first|exact dsc|fail) only [go_sem,seval,h6]
  refine CallK.of (fun R h=>fValid_spec _ _ R h) ?_;simp (disch:=first|exact dsc|fail) only [go_sem,seval,h7]
  refine CallK.of (fun R h=>fValid_spec _ _ R h) ?_;simp (disch:=first|exact dsc|fail) only [go_sem,seval,h8]
  (repeat refine .z rfl ?_);refine .rt Try.func67 (by rw [Try.results67]) (hR := ?_);simp (disch:=first|exact dsc|fail) only [go_sem,seval]
  exact h

set_option maxHeartbeats 8000000 in
theorem circuit_Valid_spec (c:Circ) (hv:Vd c) (H:Hp) (R:AV → Hp → Prop) (h:R (.p (i64 0)) H):ACall Try.prog G 49 [.p (circ c)] H R:=by
  refine ACall.of_run (raw:=[]) Try.func49 rfl Try.ntmps49 (by simp) fun hbel => ?_
  have hc:=hv.ok
  obtain ⟨hl1,hl⟩:=hc.len
  obtain ⟨hi1,_⟩:=hc.inp
  obtain ⟨hs1,_⟩:=hc.sums
  have hi2:=hv.inp
  have hl2:=hv.len
  have hsm:=hv.sm
  have hr0:=hc.row (c.layers.length - 1) (by omega)
  have hz0:((c.layers.length:Int) == 0)=false:=beq_eq_false_iff_ne.2 (by omega)
  (repeat refine .z rfl ?_);refine .text ?_;simp (disch:=first|exact dsc|fail) only [go_sem,seval]
  (repeat refine .z rfl ?_);refine .text ?_;simp (disch:=first|exact dsc|fail) only [go_sem,seval]
  (repeat refine .z rfl ?_);refine .text ?_;simp (disch:=first|exact dsc|fail) only [go_sem,seval]
  refine CallK.of (fun R h=>ContainsL_spec c.layers hl 64 [] enters64 rfl _ (fun i hi R h=>Valid_c1_spec _ (hv.row i hi) _ R h) R h) ?_;simp (disch:=first|exact dsc|fail) only [go_sem,seval]
  (repeat refine .z rfl ?_);refine .ifF (by simp (disch:=first|exact dsc|fail) only [go_sem,seval]) ?_
  (repeat refine .z rfl ?_);refine .text ?_;simp (disch:=first|exact dsc|fail) only [go_sem,seval]
  (repeat refine .z rfl ?_);refine .open [] follows (by kernel_rfl) ?_;simp (disch:=first|exact dsc|fail) only [go_sem,seval,hz0]
  refine CallD.still (fun R h=>ContainsL_spec c.layers hl 66 [] enters66 rfl _ (fun i hi R h=>Valid_c2_spec _ (hc.row i hi).1 _ R h) R h) ?_;simp (disch:=first|exact dsc|fail) only [go_sem,seval]
  (repeat refine .z rfl ?_);refine .ifF (by simp (disch:=first|exact dsc|fail) only [go_sem,seval]) ?_
  (repeat refine .z rfl ?_);refine .text ?_;simp (disch:=first|exact dsc|fail) only [go_sem,seval]
  (repeat refine .z rfl ?_);refine .text ?_;simp (disch:=first|exact dsc|fail) only [go_sem,seval]
  (repeat refine .z rfl ?_);refine .text ?_;simp (disch:=first|exact dsc|fail) only [go_sem,seval]
  repeat refine .z rfl ?_
  refine .count (fun k env H'=>env 1 = .ptr H.n 0∧env 5 = .ptr (H.n+1) 0∧env 6 = .clo 67 [] [.ptr (H.n+1) 0]∧env 62 = .p (.sl false 1 (pl (sle 6 gate) c.layers))∧env 63 = .p (i64 c.layers.length)∧env 64 = .p (i64 k)∧H'=(H.new (.cells (cc c))).new (.cells [.p (i64 (wid c k))])) 0 c.layers.length (by omega) ?_ ?_ ?_
  · simp (disch:=first|exact dsc|fail) only [go_sem,seval]
    rfl
  · intro env H' ⟨e1,e5,e6,e62,e63,e64,eH⟩
    subst eH
    (repeat refine .z rfl ?_);refine .text ?_;simp (disch:=first|exact dsc|fail) only [go_sem,seval,e63,e64]
    (repeat refine .z rfl ?_);refine .ifF (by simp (disch:=first|exact dsc|fail) only [go_sem,seval]) ?_
    (repeat refine .z rfl ?_);refine .text ?_;simp (disch:=first|exact dsc|fail) only [go_sem,seval]
    (repeat refine .z rfl ?_);refine .rt Try.func49 (by rw [Try.results49]) (hR := ?_);simp (disch:=first|exact dsc|fail) only [go_sem,seval]
    exact h
  · intro k env H' _ hk ⟨e1,e5,e6,e62,e63,e64,eH⟩ ih
    subst eH
    have hr:=(hc.row k hk).2
    have hf : ∀ Hx:Hp,Hx.f (H.n+1)=some (.cells [.p (i64 (wid c k))]) → ∀ i,i < (nth c.layers k).length → ∀ R:AV → Hp → Prop,R (.p (bo false)) Hx → ACall Try.prog G 67 (.p (gate (nth (nth c.layers k) i)) :: [.ptr (H.n+1) 0]) Hx R:=fun Hx hx i hi R h=>Valid_c3_spec _ _ (hv.vg k hk i hi) _ _ hx R h
    (repeat refine .z rfl ?_);refine .text ?_;simp (disch:=first|exact dsc|fail) only [go_sem,seval,e63,e64]
    (repeat refine .z rfl ?_);refine .ifT (by simp (disch:=first|exact dsc|fail) only [go_sem,seval]) ?_
    (repeat refine .z rfl ?_);refine .text ?_;simp (disch:=first|exact dsc|fail) only [go_sem,seval,e62,e64]
    (repeat refine .z rfl ?_);refine .text ?_;simp (disch:=first|exact dsc|fail) only [go_sem,seval,e6]
    refine CallK.of (fun R h=>ContainsG_spec (nth c.layers k) hr 67 [.ptr (H.n+1) 0] enters67 rfl _ (hf _ (by simp (disch:=first|exact dsc|fail) only [go_sem,seval])) R h) ?_;simp (disch:=first|exact dsc|fail) only [go_sem,seval]
    (repeat refine .z rfl ?_);refine .ifF (by simp (disch:=first|exact dsc|fail) only [go_sem,seval]) ?_
    (repeat refine .z rfl ?_);refine .text ?_;simp (disch:=first|exact dsc|fail) only [go_sem,seval,e5]
    (repeat refine .z rfl ?_);refine .text ?_;simp (disch:=first|exact dsc|fail) only [go_sem,seval,e64]
    refine ih _ _ ?_
    simp (disch:=first|exact dsc|fail) only [go_sem,seval,e1,e5,e6,e62,e63,e64]
    rfl
end walks
end Go.Proofs.Ytjnbifkojpfdgaa
