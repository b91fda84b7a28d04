/-
  What the rules ask of the types and functions of this program: closed facts, by the kernel.
  Conditions: none. Written by gen_tab.py.
-/
import Derived.Test.YtkpeknkpleocgaaDoorChecked
import Derived.Test.YtkpeknkpleocgaaDoorEngS
namespace Go.Proofs.YtkpeknkpleocgaaDoor
open Go Go.AL

theorem cells1 : Tryd.prog.cellsOf 1 = 1 := by kernel_rfl
theorem info1 : (Tryd.prog.info? 1).isSome = true := by kernel_rfl
theorem bytes1 : Tryd.prog.bytesOf 1 = 8 := by kernel_rfl
theorem aggT1 : isAggT Tryd.prog 1 = false := by kernel_rfl
theorem isIface1 : isIface Tryd.prog 1 = false := by kernel_rfl
theorem azero1 : azero Tryd.prog 1 = some ([.s .nilFunc]) := by kernel_rfl
theorem zfits1 : zfits Tryd.prog 1 = true := by kernel_rfl
theorem cells2 : Tryd.prog.cellsOf 2 = 1 := by kernel_rfl
theorem info2 : (Tryd.prog.info? 2).isSome = true := by kernel_rfl
theorem bytes2 : Tryd.prog.bytesOf 2 = 8 := by kernel_rfl
theorem aggT2 : isAggT Tryd.prog 2 = false := by kernel_rfl
theorem isInt2 : isIntT Tryd.prog 2 = true := by kernel_rfl
theorem isIface2 : isIface Tryd.prog 2 = false := by kernel_rfl
theorem azero2 : azero Tryd.prog 2 = some ([i64 0]) := by kernel_rfl
theorem zfits2 : zfits Tryd.prog 2 = true := by kernel_rfl
theorem cells3 : Tryd.prog.cellsOf 3 = 1 := by kernel_rfl
theorem info3 : (Tryd.prog.info? 3).isSome = true := by kernel_rfl
theorem bytes3 : Tryd.prog.bytesOf 3 = 8 := by kernel_rfl
theorem aggT3 : isAggT Tryd.prog 3 = false := by kernel_rfl
theorem isInt3 : isIntT Tryd.prog 3 = true := by kernel_rfl
theorem isIface3 : isIface Tryd.prog 3 = false := by kernel_rfl
theorem azero3 : azero Tryd.prog 3 = some ([i64 0]) := by kernel_rfl
theorem zfits3 : zfits Tryd.prog 3 = true := by kernel_rfl
theorem cells4 : Tryd.prog.cellsOf 4 = 1 := by kernel_rfl
theorem info4 : (Tryd.prog.info? 4).isSome = true := by kernel_rfl
theorem bytes4 : Tryd.prog.bytesOf 4 = 1 := by kernel_rfl
theorem aggT4 : isAggT Tryd.prog 4 = false := by kernel_rfl
theorem isBool4 : isBool Tryd.prog 4 = true := by kernel_rfl
theorem isIface4 : isIface Tryd.prog 4 = false := by kernel_rfl
theorem azero4 : azero Tryd.prog 4 = some ([bo false]) := by kernel_rfl
theorem zfits4 : zfits Tryd.prog 4 = true := by kernel_rfl
theorem cells5 : Tryd.prog.cellsOf 5 = 1 := by kernel_rfl
theorem info5 : (Tryd.prog.info? 5).isSome = true := by kernel_rfl
theorem bytes5 : Tryd.prog.bytesOf 5 = 1 := by kernel_rfl
theorem aggT5 : isAggT Tryd.prog 5 = false := by kernel_rfl
theorem isInt5 : isIntT Tryd.prog 5 = true := by kernel_rfl
theorem isIface5 : isIface Tryd.prog 5 = false := by kernel_rfl
theorem azero5 : azero Tryd.prog 5 = some ([b8 0#8]) := by kernel_rfl
theorem zfits5 : zfits Tryd.prog 5 = true := by kernel_rfl
theorem cells6 : Tryd.prog.cellsOf 6 = 1 := by kernel_rfl
theorem info6 : (Tryd.prog.info? 6).isSome = true := by kernel_rfl
theorem bytes6 : Tryd.prog.bytesOf 6 = 1 := by kernel_rfl
theorem aggT6 : isAggT Tryd.prog 6 = false := by kernel_rfl
theorem isInt6 : isIntT Tryd.prog 6 = true := by kernel_rfl
theorem isIface6 : isIface Tryd.prog 6 = false := by kernel_rfl
theorem azero6 : azero Tryd.prog 6 = some ([b8 0#8]) := by kernel_rfl
theorem zfits6 : zfits Tryd.prog 6 = true := by kernel_rfl
theorem cells7 : Tryd.prog.cellsOf 7 = 4 := by kernel_rfl
theorem info7 : (Tryd.prog.info? 7).isSome = true := by kernel_rfl
theorem bytes7 : Tryd.prog.bytesOf 7 = 24 := by kernel_rfl
theorem aggT7 : isAggT Tryd.prog 7 = true := by kernel_rfl
theorem isIface7 : isIface Tryd.prog 7 = false := by kernel_rfl
theorem azero7 : azero Tryd.prog 7 = some ([i64 0, i64 0, bo false, b8 0#8]) := by kernel_rfl
theorem zfits7 : zfits Tryd.prog 7 = true := by kernel_rfl
theorem cells8 : Tryd.prog.cellsOf 8 = 4 := by kernel_rfl
theorem info8 : (Tryd.prog.info? 8).isSome = true := by kernel_rfl
theorem bytes8 : Tryd.prog.bytesOf 8 = 24 := by kernel_rfl
theorem aggT8 : isAggT Tryd.prog 8 = true := by kernel_rfl
theorem isIface8 : isIface Tryd.prog 8 = false := by kernel_rfl
theorem azero8 : azero Tryd.prog 8 = some ([i64 0, i64 0, bo false, b8 0#8]) := by kernel_rfl
theorem zfits8 : zfits Tryd.prog 8 = true := by kernel_rfl
theorem cells9 : Tryd.prog.cellsOf 9 = 1 := by kernel_rfl
theorem info9 : (Tryd.prog.info? 9).isSome = true := by kernel_rfl
theorem bytes9 : Tryd.prog.bytesOf 9 = 16 := by kernel_rfl
theorem aggT9 : isAggT Tryd.prog 9 = false := by kernel_rfl
theorem isIface9 : isIface Tryd.prog 9 = false := by kernel_rfl
theorem azero9 : azero Tryd.prog 9 = some ([str ByteArray.empty]) := by kernel_rfl
theorem zfits9 : zfits Tryd.prog 9 = true := by kernel_rfl
theorem cells10 : Tryd.prog.cellsOf 10 = 1 := by kernel_rfl
theorem info10 : (Tryd.prog.info? 10).isSome = true := by kernel_rfl
theorem bytes10 : Tryd.prog.bytesOf 10 = 16 := by kernel_rfl
theorem aggT10 : isAggT Tryd.prog 10 = false := by kernel_rfl
theorem isIface10 : isIface Tryd.prog 10 = false := by kernel_rfl
theorem azero10 : azero Tryd.prog 10 = some ([str ByteArray.empty]) := by kernel_rfl
theorem zfits10 : zfits Tryd.prog 10 = true := by kernel_rfl
theorem cells11 : Tryd.prog.cellsOf 11 = 1 := by kernel_rfl
theorem info11 : (Tryd.prog.info? 11).isSome = true := by kernel_rfl
theorem bytes11 : Tryd.prog.bytesOf 11 = 16 := by kernel_rfl
theorem aggT11 : isAggT Tryd.prog 11 = false := by kernel_rfl
theorem isIface11 : isIface Tryd.prog 11 = false := by kernel_rfl
theorem azero11 : azero Tryd.prog 11 = some ([str ByteArray.empty]) := by kernel_rfl
theorem zfits11 : zfits Tryd.prog 11 = true := by kernel_rfl
theorem cells12 : Tryd.prog.cellsOf 12 = 1 := by kernel_rfl
theorem info12 : (Tryd.prog.info? 12).isSome = true := by kernel_rfl
theorem bytes12 : Tryd.prog.bytesOf 12 = 8 := by kernel_rfl
theorem aggT12 : isAggT Tryd.prog 12 = false := by kernel_rfl
theorem isInt12 : isIntT Tryd.prog 12 = true := by kernel_rfl
theorem isIface12 : isIface Tryd.prog 12 = false := by kernel_rfl
theorem azero12 : azero Tryd.prog 12 = some ([w64 0#64]) := by kernel_rfl
theorem zfits12 : zfits Tryd.prog 12 = true := by kernel_rfl
theorem cells13 : Tryd.prog.cellsOf 13 = 2 := by kernel_rfl
theorem info13 : (Tryd.prog.info? 13).isSome = true := by kernel_rfl
theorem bytes13 : Tryd.prog.bytesOf 13 = 24 := by kernel_rfl
theorem aggT13 : isAggT Tryd.prog 13 = true := by kernel_rfl
theorem isIface13 : isIface Tryd.prog 13 = false := by kernel_rfl
theorem azero13 : azero Tryd.prog 13 = some ([str ByteArray.empty, w64 0#64]) := by kernel_rfl
theorem zfits13 : zfits Tryd.prog 13 = true := by kernel_rfl
theorem cells14 : Tryd.prog.cellsOf 14 = 2 := by kernel_rfl
theorem info14 : (Tryd.prog.info? 14).isSome = true := by kernel_rfl
theorem bytes14 : Tryd.prog.bytesOf 14 = 24 := by kernel_rfl
theorem aggT14 : isAggT Tryd.prog 14 = true := by kernel_rfl
theorem isIface14 : isIface Tryd.prog 14 = false := by kernel_rfl
theorem azero14 : azero Tryd.prog 14 = some ([str ByteArray.empty, w64 0#64]) := by kernel_rfl
theorem zfits14 : zfits Tryd.prog 14 = true := by kernel_rfl
theorem cells15 : Tryd.prog.cellsOf 15 = 1 := by kernel_rfl
theorem info15 : (Tryd.prog.info? 15).isSome = true := by kernel_rfl
theorem bytes15 : Tryd.prog.bytesOf 15 = 8 := by kernel_rfl
theorem aggT15 : isAggT Tryd.prog 15 = false := by kernel_rfl
theorem isIface15 : isIface Tryd.prog 15 = false := by kernel_rfl
theorem azero15 : azero Tryd.prog 15 = some ([.s (.pointer none)]) := by kernel_rfl
theorem zfits15 : zfits Tryd.prog 15 = true := by kernel_rfl
theorem cells16 : Tryd.prog.cellsOf 16 = 1 := by kernel_rfl
theorem info16 : (Tryd.prog.info? 16).isSome = true := by kernel_rfl
theorem bytes16 : Tryd.prog.bytesOf 16 = 8 := by kernel_rfl
theorem aggT16 : isAggT Tryd.prog 16 = false := by kernel_rfl
theorem isIface16 : isIface Tryd.prog 16 = false := by kernel_rfl
theorem azero16 : azero Tryd.prog 16 = some ([.s (.pointer none)]) := by kernel_rfl
theorem zfits16 : zfits Tryd.prog 16 = true := by kernel_rfl
theorem cells17 : Tryd.prog.cellsOf 17 = 1 := by kernel_rfl
theorem info17 : (Tryd.prog.info? 17).isSome = true := by kernel_rfl
theorem bytes17 : Tryd.prog.bytesOf 17 = 8 := by kernel_rfl
theorem aggT17 : isAggT Tryd.prog 17 = false := by kernel_rfl
theorem isIface17 : isIface Tryd.prog 17 = false := by kernel_rfl
theorem azero17 : azero Tryd.prog 17 = some ([.s (.pointer none)]) := by kernel_rfl
theorem zfits17 : zfits Tryd.prog 17 = true := by kernel_rfl
theorem cells18 : Tryd.prog.cellsOf 18 = 1 := by kernel_rfl
theorem info18 : (Tryd.prog.info? 18).isSome = true := by kernel_rfl
theorem bytes18 : Tryd.prog.bytesOf 18 = 8 := by kernel_rfl
theorem aggT18 : isAggT Tryd.prog 18 = true := by kernel_rfl
theorem isIface18 : isIface Tryd.prog 18 = false := by kernel_rfl
theorem azero18 : azero Tryd.prog 18 = some ([.s (.pointer none)]) := by kernel_rfl
theorem zfits18 : zfits Tryd.prog 18 = true := by kernel_rfl
theorem cells19 : Tryd.prog.cellsOf 19 = 1 := by kernel_rfl
theorem info19 : (Tryd.prog.info? 19).isSome = true := by kernel_rfl
theorem bytes19 : Tryd.prog.bytesOf 19 = 8 := by kernel_rfl
theorem aggT19 : isAggT Tryd.prog 19 = true := by kernel_rfl
theorem isIface19 : isIface Tryd.prog 19 = false := by kernel_rfl
theorem azero19 : azero Tryd.prog 19 = some ([.s (.pointer none)]) := by kernel_rfl
theorem zfits19 : zfits Tryd.prog 19 = true := by kernel_rfl
theorem cells20 : Tryd.prog.cellsOf 20 = 1 := by kernel_rfl
theorem info20 : (Tryd.prog.info? 20).isSome = true := by kernel_rfl
theorem bytes20 : Tryd.prog.bytesOf 20 = 16 := by kernel_rfl
theorem aggT20 : isAggT Tryd.prog 20 = false := by kernel_rfl
theorem isIface20 : isIface Tryd.prog 20 = true := by kernel_rfl
theorem azero20 : azero Tryd.prog 20 = some ([.s .nilIface]) := by kernel_rfl
theorem zfits20 : zfits Tryd.prog 20 = true := by kernel_rfl
theorem cells21 : Tryd.prog.cellsOf 21 = 1 := by kernel_rfl
theorem info21 : (Tryd.prog.info? 21).isSome = true := by kernel_rfl
theorem bytes21 : Tryd.prog.bytesOf 21 = 4 := by kernel_rfl
theorem aggT21 : isAggT Tryd.prog 21 = false := by kernel_rfl
theorem isInt21 : isIntT Tryd.prog 21 = true := by kernel_rfl
theorem isIface21 : isIface Tryd.prog 21 = false := by kernel_rfl
theorem azero21 : azero Tryd.prog 21 = some ([.s (.int .i32 0)]) := by kernel_rfl
theorem zfits21 : zfits Tryd.prog 21 = true := by kernel_rfl
theorem cells22 : Tryd.prog.cellsOf 22 = 1 := by kernel_rfl
theorem info22 : (Tryd.prog.info? 22).isSome = true := by kernel_rfl
theorem bytes22 : Tryd.prog.bytesOf 22 = 24 := by kernel_rfl
theorem aggT22 : isAggT Tryd.prog 22 = false := by kernel_rfl
theorem isBytes22 : isBytesT Tryd.prog 22 = true := by kernel_rfl
theorem isIface22 : isIface Tryd.prog 22 = false := by kernel_rfl
theorem azero22 : azero Tryd.prog 22 = some ([.sl true 1 []]) := by kernel_rfl
theorem zfits22 : zfits Tryd.prog 22 = true := by kernel_rfl
theorem cells23 : Tryd.prog.cellsOf 23 = 2 := by kernel_rfl
theorem info23 : (Tryd.prog.info? 23).isSome = true := by kernel_rfl
theorem bytes23 : Tryd.prog.bytesOf 23 = 48 := by kernel_rfl
theorem aggT23 : isAggT Tryd.prog 23 = true := by kernel_rfl
theorem isIface23 : isIface Tryd.prog 23 = false := by kernel_rfl
theorem azero23 : azero Tryd.prog 23 = some ([.sl true 1 [], .sl true 1 []]) := by kernel_rfl
theorem zfits23 : zfits Tryd.prog 23 = true := by kernel_rfl
theorem cells24 : Tryd.prog.cellsOf 24 = 1 := by kernel_rfl
theorem info24 : (Tryd.prog.info? 24).isSome = true := by kernel_rfl
theorem bytes24 : Tryd.prog.bytesOf 24 = 8 := by kernel_rfl
theorem aggT24 : isAggT Tryd.prog 24 = false := by kernel_rfl
theorem isIface24 : isIface Tryd.prog 24 = false := by kernel_rfl
theorem azero24 : azero Tryd.prog 24 = some ([.s .nilFunc]) := by kernel_rfl
theorem zfits24 : zfits Tryd.prog 24 = true := by kernel_rfl
theorem cells25 : Tryd.prog.cellsOf 25 = 32 := by kernel_rfl
theorem info25 : (Tryd.prog.info? 25).isSome = true := by kernel_rfl
theorem bytes25 : Tryd.prog.bytesOf 25 = 32 := by kernel_rfl
theorem aggT25 : isAggT Tryd.prog 25 = true := by kernel_rfl
theorem arrOK25 : arrOK Tryd.prog 25 .u8 32 = true := by kernel_rfl
theorem isIface25 : isIface Tryd.prog 25 = false := by kernel_rfl
theorem azero25 : azero Tryd.prog 25 = some (List.replicate 32 (b8 0#8)) := by kernel_rfl
theorem zfits25 : zfits Tryd.prog 25 = true := by kernel_rfl
theorem cells26 : Tryd.prog.cellsOf 26 = 32 := by kernel_rfl
theorem info26 : (Tryd.prog.info? 26).isSome = true := by kernel_rfl
theorem bytes26 : Tryd.prog.bytesOf 26 = 32 := by kernel_rfl
theorem aggT26 : isAggT Tryd.prog 26 = true := by kernel_rfl
theorem arrOK26 : arrOK Tryd.prog 26 .u8 32 = true := by kernel_rfl
theorem isIface26 : isIface Tryd.prog 26 = false := by kernel_rfl
theorem azero26 : azero Tryd.prog 26 = some (List.replicate 32 (b8 0#8)) := by kernel_rfl
theorem zfits26 : zfits Tryd.prog 26 = true := by kernel_rfl
theorem cells27 : Tryd.prog.cellsOf 27 = 1 := by kernel_rfl
theorem info27 : (Tryd.prog.info? 27).isSome = true := by kernel_rfl
theorem bytes27 : Tryd.prog.bytesOf 27 = 8 := by kernel_rfl
theorem aggT27 : isAggT Tryd.prog 27 = false := by kernel_rfl
theorem isIface27 : isIface Tryd.prog 27 = false := by kernel_rfl
theorem azero27 : azero Tryd.prog 27 = some ([.s .nilFunc]) := by kernel_rfl
theorem zfits27 : zfits Tryd.prog 27 = true := by kernel_rfl
theorem cells28 : Tryd.prog.cellsOf 28 = 1 := by kernel_rfl
theorem info28 : (Tryd.prog.info? 28).isSome = true := by kernel_rfl
theorem bytes28 : Tryd.prog.bytesOf 28 = 8 := by kernel_rfl
theorem aggT28 : isAggT Tryd.prog 28 = false := by kernel_rfl
theorem isIface28 : isIface Tryd.prog 28 = false := by kernel_rfl
theorem azero28 : azero Tryd.prog 28 = some ([.s .nilFunc]) := by kernel_rfl
theorem zfits28 : zfits Tryd.prog 28 = true := by kernel_rfl
theorem cells29 : Tryd.prog.cellsOf 29 = 1 := by kernel_rfl
theorem info29 : (Tryd.prog.info? 29).isSome = true := by kernel_rfl
theorem bytes29 : Tryd.prog.bytesOf 29 = 8 := by kernel_rfl
theorem aggT29 : isAggT Tryd.prog 29 = false := by kernel_rfl
theorem isIface29 : isIface Tryd.prog 29 = false := by kernel_rfl
theorem azero29 : azero Tryd.prog 29 = some ([.s .nilFunc]) := by kernel_rfl
theorem zfits29 : zfits Tryd.prog 29 = true := by kernel_rfl
theorem cells30 : Tryd.prog.cellsOf 30 = 1 := by kernel_rfl
theorem info30 : (Tryd.prog.info? 30).isSome = true := by kernel_rfl
theorem bytes30 : Tryd.prog.bytesOf 30 = 8 := by kernel_rfl
theorem aggT30 : isAggT Tryd.prog 30 = false := by kernel_rfl
theorem isIface30 : isIface Tryd.prog 30 = false := by kernel_rfl
theorem azero30 : azero Tryd.prog 30 = some ([.s .nilFunc]) := by kernel_rfl
theorem zfits30 : zfits Tryd.prog 30 = true := by kernel_rfl
theorem cells31 : Tryd.prog.cellsOf 31 = 1 := by kernel_rfl
theorem info31 : (Tryd.prog.info? 31).isSome = true := by kernel_rfl
theorem bytes31 : Tryd.prog.bytesOf 31 = 2 := by kernel_rfl
theorem aggT31 : isAggT Tryd.prog 31 = false := by kernel_rfl
theorem isInt31 : isIntT Tryd.prog 31 = true := by kernel_rfl
theorem isIface31 : isIface Tryd.prog 31 = false := by kernel_rfl
theorem azero31 : azero Tryd.prog 31 = some ([w16 0#16]) := by kernel_rfl
theorem zfits31 : zfits Tryd.prog 31 = true := by kernel_rfl
theorem cells32 : Tryd.prog.cellsOf 32 = 1 := by kernel_rfl
theorem info32 : (Tryd.prog.info? 32).isSome = true := by kernel_rfl
theorem bytes32 : Tryd.prog.bytesOf 32 = 8 := by kernel_rfl
theorem aggT32 : isAggT Tryd.prog 32 = false := by kernel_rfl
theorem isIface32 : isIface Tryd.prog 32 = false := by kernel_rfl
theorem azero32 : azero Tryd.prog 32 = some ([.s .nilFunc]) := by kernel_rfl
theorem zfits32 : zfits Tryd.prog 32 = true := by kernel_rfl
theorem cells33 : Tryd.prog.cellsOf 33 = 1 := by kernel_rfl
theorem info33 : (Tryd.prog.info? 33).isSome = true := by kernel_rfl
theorem bytes33 : Tryd.prog.bytesOf 33 = 8 := by kernel_rfl
theorem aggT33 : isAggT Tryd.prog 33 = false := by kernel_rfl
theorem isIface33 : isIface Tryd.prog 33 = false := by kernel_rfl
theorem azero33 : azero Tryd.prog 33 = some ([.s .nilFunc]) := by kernel_rfl
theorem zfits33 : zfits Tryd.prog 33 = true := by kernel_rfl
theorem cells34 : Tryd.prog.cellsOf 34 = 1 := by kernel_rfl
theorem info34 : (Tryd.prog.info? 34).isSome = true := by kernel_rfl
theorem bytes34 : Tryd.prog.bytesOf 34 = 8 := by kernel_rfl
theorem aggT34 : isAggT Tryd.prog 34 = false := by kernel_rfl
theorem isIface34 : isIface Tryd.prog 34 = false := by kernel_rfl
theorem azero34 : azero Tryd.prog 34 = some ([.s .nilFunc]) := by kernel_rfl
theorem zfits34 : zfits Tryd.prog 34 = true := by kernel_rfl
theorem cells35 : Tryd.prog.cellsOf 35 = 1 := by kernel_rfl
theorem info35 : (Tryd.prog.info? 35).isSome = true := by kernel_rfl
theorem bytes35 : Tryd.prog.bytesOf 35 = 4 := by kernel_rfl
theorem aggT35 : isAggT Tryd.prog 35 = false := by kernel_rfl
theorem isInt35 : isIntT Tryd.prog 35 = true := by kernel_rfl
theorem isIface35 : isIface Tryd.prog 35 = false := by kernel_rfl
theorem azero35 : azero Tryd.prog 35 = some ([w32 0#32]) := by kernel_rfl
theorem zfits35 : zfits Tryd.prog 35 = true := by kernel_rfl
theorem cells36 : Tryd.prog.cellsOf 36 = 8 := by kernel_rfl
theorem info36 : (Tryd.prog.info? 36).isSome = true := by kernel_rfl
theorem bytes36 : Tryd.prog.bytesOf 36 = 32 := by kernel_rfl
theorem aggT36 : isAggT Tryd.prog 36 = true := by kernel_rfl
theorem arrOK36 : arrOK Tryd.prog 36 .u32 8 = true := by kernel_rfl
theorem isIface36 : isIface Tryd.prog 36 = false := by kernel_rfl
theorem azero36 : azero Tryd.prog 36 = some (List.replicate 8 (w32 0#32)) := by kernel_rfl
theorem zfits36 : zfits Tryd.prog 36 = true := by kernel_rfl
theorem cells37 : Tryd.prog.cellsOf 37 = 1 := by kernel_rfl
theorem info37 : (Tryd.prog.info? 37).isSome = true := by kernel_rfl
theorem bytes37 : Tryd.prog.bytesOf 37 = 8 := by kernel_rfl
theorem aggT37 : isAggT Tryd.prog 37 = false := by kernel_rfl
theorem isIface37 : isIface Tryd.prog 37 = false := by kernel_rfl
theorem azero37 : azero Tryd.prog 37 = some ([.s .nilFunc]) := by kernel_rfl
theorem zfits37 : zfits Tryd.prog 37 = true := by kernel_rfl
theorem cells38 : Tryd.prog.cellsOf 38 = 1 := by kernel_rfl
theorem info38 : (Tryd.prog.info? 38).isSome = true := by kernel_rfl
theorem bytes38 : Tryd.prog.bytesOf 38 = 8 := by kernel_rfl
theorem aggT38 : isAggT Tryd.prog 38 = false := by kernel_rfl
theorem isIface38 : isIface Tryd.prog 38 = false := by kernel_rfl
theorem azero38 : azero Tryd.prog 38 = some ([.s .nilFunc]) := by kernel_rfl
theorem zfits38 : zfits Tryd.prog 38 = true := by kernel_rfl
theorem cells39 : Tryd.prog.cellsOf 39 = 1 := by kernel_rfl
theorem info39 : (Tryd.prog.info? 39).isSome = true := by kernel_rfl
theorem bytes39 : Tryd.prog.bytesOf 39 = 8 := by kernel_rfl
theorem aggT39 : isAggT Tryd.prog 39 = false := by kernel_rfl
theorem isIface39 : isIface Tryd.prog 39 = false := by kernel_rfl
theorem azero39 : azero Tryd.prog 39 = some ([.s .nilFunc]) := by kernel_rfl
theorem zfits39 : zfits Tryd.prog 39 = true := by kernel_rfl
theorem cells40 : Tryd.prog.cellsOf 40 = 1 := by kernel_rfl
theorem info40 : (Tryd.prog.info? 40).isSome = true := by kernel_rfl
theorem bytes40 : Tryd.prog.bytesOf 40 = 8 := by kernel_rfl
theorem aggT40 : isAggT Tryd.prog 40 = false := by kernel_rfl
theorem isIface40 : isIface Tryd.prog 40 = false := by kernel_rfl
theorem azero40 : azero Tryd.prog 40 = some ([.s .nilFunc]) := by kernel_rfl
theorem zfits40 : zfits Tryd.prog 40 = true := by kernel_rfl
theorem cells41 : Tryd.prog.cellsOf 41 = 1 := by kernel_rfl
theorem info41 : (Tryd.prog.info? 41).isSome = true := by kernel_rfl
theorem bytes41 : Tryd.prog.bytesOf 41 = 8 := by kernel_rfl
theorem aggT41 : isAggT Tryd.prog 41 = false := by kernel_rfl
theorem isIface41 : isIface Tryd.prog 41 = false := by kernel_rfl
theorem azero41 : azero Tryd.prog 41 = some ([.s .nilFunc]) := by kernel_rfl
theorem zfits41 : zfits Tryd.prog 41 = true := by kernel_rfl
theorem cells42 : Tryd.prog.cellsOf 42 = 1 := by kernel_rfl
theorem info42 : (Tryd.prog.info? 42).isSome = true := by kernel_rfl
theorem bytes42 : Tryd.prog.bytesOf 42 = 8 := by kernel_rfl
theorem aggT42 : isAggT Tryd.prog 42 = false := by kernel_rfl
theorem isIface42 : isIface Tryd.prog 42 = false := by kernel_rfl
theorem azero42 : azero Tryd.prog 42 = some ([.s .nilFunc]) := by kernel_rfl
theorem zfits42 : zfits Tryd.prog 42 = true := by kernel_rfl
theorem cells43 : Tryd.prog.cellsOf 43 = 1 := by kernel_rfl
theorem info43 : (Tryd.prog.info? 43).isSome = true := by kernel_rfl
theorem bytes43 : Tryd.prog.bytesOf 43 = 8 := by kernel_rfl
theorem aggT43 : isAggT Tryd.prog 43 = false := by kernel_rfl
theorem isIface43 : isIface Tryd.prog 43 = false := by kernel_rfl
theorem azero43 : azero Tryd.prog 43 = some ([.s .nilFunc]) := by kernel_rfl
theorem zfits43 : zfits Tryd.prog 43 = true := by kernel_rfl
theorem cells44 : Tryd.prog.cellsOf 44 = 1 := by kernel_rfl
theorem info44 : (Tryd.prog.info? 44).isSome = true := by kernel_rfl
theorem bytes44 : Tryd.prog.bytesOf 44 = 8 := by kernel_rfl
theorem aggT44 : isAggT Tryd.prog 44 = false := by kernel_rfl
theorem isIface44 : isIface Tryd.prog 44 = false := by kernel_rfl
theorem azero44 : azero Tryd.prog 44 = some ([.s .nilFunc]) := by kernel_rfl
theorem zfits44 : zfits Tryd.prog 44 = true := by kernel_rfl
theorem cells45 : Tryd.prog.cellsOf 45 = 4 := by kernel_rfl
theorem info45 : (Tryd.prog.info? 45).isSome = true := by kernel_rfl
theorem bytes45 : Tryd.prog.bytesOf 45 = 96 := by kernel_rfl
theorem aggT45 : isAggT Tryd.prog 45 = true := by kernel_rfl
theorem isIface45 : isIface Tryd.prog 45 = false := by kernel_rfl
theorem azero45 : azero Tryd.prog 45 = some ([.sl true 1 [], .sl true 1 [], .sl true 1 [], .sl true 1 []]) := by kernel_rfl
theorem zfits45 : zfits Tryd.prog 45 = true := by kernel_rfl
theorem cells46 : Tryd.prog.cellsOf 46 = 1 := by kernel_rfl
theorem info46 : (Tryd.prog.info? 46).isSome = true := by kernel_rfl
theorem bytes46 : Tryd.prog.bytesOf 46 = 24 := by kernel_rfl
theorem aggT46 : isAggT Tryd.prog 46 = false := by kernel_rfl
theorem isIface46 : isIface Tryd.prog 46 = false := by kernel_rfl
theorem azero46 : azero Tryd.prog 46 = some ([.sl true 32 []]) := by kernel_rfl
theorem zfits46 : zfits Tryd.prog 46 = true := by kernel_rfl
theorem cells47 : Tryd.prog.cellsOf 47 = 1 := by kernel_rfl
theorem info47 : (Tryd.prog.info? 47).isSome = true := by kernel_rfl
theorem bytes47 : Tryd.prog.bytesOf 47 = 8 := by kernel_rfl
theorem aggT47 : isAggT Tryd.prog 47 = false := by kernel_rfl
theorem isIface47 : isIface Tryd.prog 47 = false := by kernel_rfl
theorem azero47 : azero Tryd.prog 47 = some ([.s .nilFunc]) := by kernel_rfl
theorem zfits47 : zfits Tryd.prog 47 = true := by kernel_rfl
theorem cells48 : Tryd.prog.cellsOf 48 = 1 := by kernel_rfl
theorem info48 : (Tryd.prog.info? 48).isSome = true := by kernel_rfl
theorem bytes48 : Tryd.prog.bytesOf 48 = 8 := by kernel_rfl
theorem aggT48 : isAggT Tryd.prog 48 = false := by kernel_rfl
theorem isIface48 : isIface Tryd.prog 48 = false := by kernel_rfl
theorem azero48 : azero Tryd.prog 48 = some ([.s .nilFunc]) := by kernel_rfl
theorem zfits48 : zfits Tryd.prog 48 = true := by kernel_rfl
theorem cells49 : Tryd.prog.cellsOf 49 = 1 := by kernel_rfl
theorem info49 : (Tryd.prog.info? 49).isSome = true := by kernel_rfl
theorem bytes49 : Tryd.prog.bytesOf 49 = 8 := by kernel_rfl
theorem aggT49 : isAggT Tryd.prog 49 = false := by kernel_rfl
theorem isIface49 : isIface Tryd.prog 49 = false := by kernel_rfl
theorem azero49 : azero Tryd.prog 49 = some ([.s .nilFunc]) := by kernel_rfl
theorem zfits49 : zfits Tryd.prog 49 = true := by kernel_rfl
theorem cells50 : Tryd.prog.cellsOf 50 = 1 := by kernel_rfl
theorem info50 : (Tryd.prog.info? 50).isSome = true := by kernel_rfl
theorem bytes50 : Tryd.prog.bytesOf 50 = 8 := by kernel_rfl
theorem aggT50 : isAggT Tryd.prog 50 = false := by kernel_rfl
theorem isIface50 : isIface Tryd.prog 50 = false := by kernel_rfl
theorem azero50 : azero Tryd.prog 50 = some ([.s .nilFunc]) := by kernel_rfl
theorem zfits50 : zfits Tryd.prog 50 = true := by kernel_rfl
theorem cells51 : Tryd.prog.cellsOf 51 = 8 := by kernel_rfl
theorem info51 : (Tryd.prog.info? 51).isSome = true := by kernel_rfl
theorem bytes51 : Tryd.prog.bytesOf 51 = 32 := by kernel_rfl
theorem aggT51 : isAggT Tryd.prog 51 = true := by kernel_rfl
theorem arrOK51 : arrOK Tryd.prog 51 .u32 8 = true := by kernel_rfl
theorem isIface51 : isIface Tryd.prog 51 = false := by kernel_rfl
theorem azero51 : azero Tryd.prog 51 = some (List.replicate 8 (w32 0#32)) := by kernel_rfl
theorem zfits51 : zfits Tryd.prog 51 = true := by kernel_rfl
theorem cells52 : Tryd.prog.cellsOf 52 = 1 := by kernel_rfl
theorem info52 : (Tryd.prog.info? 52).isSome = true := by kernel_rfl
theorem bytes52 : Tryd.prog.bytesOf 52 = 8 := by kernel_rfl
theorem aggT52 : isAggT Tryd.prog 52 = false := by kernel_rfl
theorem isIface52 : isIface Tryd.prog 52 = false := by kernel_rfl
theorem azero52 : azero Tryd.prog 52 = some ([.s .nilFunc]) := by kernel_rfl
theorem zfits52 : zfits Tryd.prog 52 = true := by kernel_rfl
theorem cells53 : Tryd.prog.cellsOf 53 = 1 := by kernel_rfl
theorem info53 : (Tryd.prog.info? 53).isSome = true := by kernel_rfl
theorem bytes53 : Tryd.prog.bytesOf 53 = 8 := by kernel_rfl
theorem aggT53 : isAggT Tryd.prog 53 = false := by kernel_rfl
theorem isIface53 : isIface Tryd.prog 53 = false := by kernel_rfl
theorem azero53 : azero Tryd.prog 53 = some ([.s .nilFunc]) := by kernel_rfl
theorem zfits53 : zfits Tryd.prog 53 = true := by kernel_rfl
theorem cells54 : Tryd.prog.cellsOf 54 = 1 := by kernel_rfl
theorem info54 : (Tryd.prog.info? 54).isSome = true := by kernel_rfl
theorem bytes54 : Tryd.prog.bytesOf 54 = 8 := by kernel_rfl
theorem aggT54 : isAggT Tryd.prog 54 = false := by kernel_rfl
theorem isIface54 : isIface Tryd.prog 54 = false := by kernel_rfl
theorem azero54 : azero Tryd.prog 54 = some ([.s .nilFunc]) := by kernel_rfl
theorem zfits54 : zfits Tryd.prog 54 = true := by kernel_rfl
theorem cells55 : Tryd.prog.cellsOf 55 = 1 := by kernel_rfl
theorem info55 : (Tryd.prog.info? 55).isSome = true := by kernel_rfl
theorem bytes55 : Tryd.prog.bytesOf 55 = 8 := by kernel_rfl
theorem aggT55 : isAggT Tryd.prog 55 = false := by kernel_rfl
theorem isIface55 : isIface Tryd.prog 55 = false := by kernel_rfl
theorem azero55 : azero Tryd.prog 55 = some ([.s .nilFunc]) := by kernel_rfl
theorem zfits55 : zfits Tryd.prog 55 = true := by kernel_rfl
theorem cells56 : Tryd.prog.cellsOf 56 = 64 := by kernel_rfl
theorem info56 : (Tryd.prog.info? 56).isSome = true := by kernel_rfl
theorem bytes56 : Tryd.prog.bytesOf 56 = 64 := by kernel_rfl
theorem aggT56 : isAggT Tryd.prog 56 = true := by kernel_rfl
theorem arrOK56 : arrOK Tryd.prog 56 .u8 64 = true := by kernel_rfl
theorem isIface56 : isIface Tryd.prog 56 = false := by kernel_rfl
theorem azero56 : azero Tryd.prog 56 = some (List.replicate 64 (b8 0#8)) := by kernel_rfl
theorem zfits56 : zfits Tryd.prog 56 = true := by kernel_rfl
theorem cells57 : Tryd.prog.cellsOf 57 = 1 := by kernel_rfl
theorem info57 : (Tryd.prog.info? 57).isSome = true := by kernel_rfl
theorem bytes57 : Tryd.prog.bytesOf 57 = 8 := by kernel_rfl
theorem aggT57 : isAggT Tryd.prog 57 = false := by kernel_rfl
theorem isInt57 : isIntT Tryd.prog 57 = true := by kernel_rfl
theorem isIface57 : isIface Tryd.prog 57 = false := by kernel_rfl
theorem azero57 : azero Tryd.prog 57 = some ([w64 0#64]) := by kernel_rfl
theorem zfits57 : zfits Tryd.prog 57 = true := by kernel_rfl
theorem cells58 : Tryd.prog.cellsOf 58 = 64 := by kernel_rfl
theorem info58 : (Tryd.prog.info? 58).isSome = true := by kernel_rfl
theorem bytes58 : Tryd.prog.bytesOf 58 = 256 := by kernel_rfl
theorem aggT58 : isAggT Tryd.prog 58 = true := by kernel_rfl
theorem arrOK58 : arrOK Tryd.prog 58 .u32 64 = true := by kernel_rfl
theorem isIface58 : isIface Tryd.prog 58 = false := by kernel_rfl
theorem azero58 : azero Tryd.prog 58 = some (List.replicate 64 (w32 0#32)) := by kernel_rfl
theorem zfits58 : zfits Tryd.prog 58 = true := by kernel_rfl
theorem cells59 : Tryd.prog.cellsOf 59 = 1 := by kernel_rfl
theorem info59 : (Tryd.prog.info? 59).isSome = true := by kernel_rfl
theorem bytes59 : Tryd.prog.bytesOf 59 = 8 := by kernel_rfl
theorem aggT59 : isAggT Tryd.prog 59 = false := by kernel_rfl
theorem isIface59 : isIface Tryd.prog 59 = false := by kernel_rfl
theorem azero59 : azero Tryd.prog 59 = some ([.s .nilFunc]) := by kernel_rfl
theorem zfits59 : zfits Tryd.prog 59 = true := by kernel_rfl
theorem cells60 : Tryd.prog.cellsOf 60 = 1 := by kernel_rfl
theorem info60 : (Tryd.prog.info? 60).isSome = true := by kernel_rfl
theorem bytes60 : Tryd.prog.bytesOf 60 = 8 := by kernel_rfl
theorem aggT60 : isAggT Tryd.prog 60 = false := by kernel_rfl
theorem isIface60 : isIface Tryd.prog 60 = false := by kernel_rfl
theorem azero60 : azero Tryd.prog 60 = some ([.s .nilFunc]) := by kernel_rfl
theorem zfits60 : zfits Tryd.prog 60 = true := by kernel_rfl
theorem cells61 : Tryd.prog.cellsOf 61 = 1 := by kernel_rfl
theorem info61 : (Tryd.prog.info? 61).isSome = true := by kernel_rfl
theorem bytes61 : Tryd.prog.bytesOf 61 = 8 := by kernel_rfl
theorem aggT61 : isAggT Tryd.prog 61 = false := by kernel_rfl
theorem isIface61 : isIface Tryd.prog 61 = false := by kernel_rfl
theorem azero61 : azero Tryd.prog 61 = some ([.s .nilFunc]) := by kernel_rfl
theorem zfits61 : zfits Tryd.prog 61 = true := by kernel_rfl
theorem cells62 : Tryd.prog.cellsOf 62 = 1 := by kernel_rfl
theorem info62 : (Tryd.prog.info? 62).isSome = true := by kernel_rfl
theorem bytes62 : Tryd.prog.bytesOf 62 = 8 := by kernel_rfl
theorem aggT62 : isAggT Tryd.prog 62 = false := by kernel_rfl
theorem isIface62 : isIface Tryd.prog 62 = false := by kernel_rfl
theorem azero62 : azero Tryd.prog 62 = some ([.s .nilFunc]) := by kernel_rfl
theorem zfits62 : zfits Tryd.prog 62 = true := by kernel_rfl
theorem cells63 : Tryd.prog.cellsOf 63 = 1 := by kernel_rfl
theorem info63 : (Tryd.prog.info? 63).isSome = true := by kernel_rfl
theorem bytes63 : Tryd.prog.bytesOf 63 = 8 := by kernel_rfl
theorem aggT63 : isAggT Tryd.prog 63 = false := by kernel_rfl
theorem isIface63 : isIface Tryd.prog 63 = false := by kernel_rfl
theorem azero63 : azero Tryd.prog 63 = some ([.s (.pointer none)]) := by kernel_rfl
theorem zfits63 : zfits Tryd.prog 63 = true := by kernel_rfl
theorem cells64 : Tryd.prog.cellsOf 64 = 1 := by kernel_rfl
theorem info64 : (Tryd.prog.info? 64).isSome = true := by kernel_rfl
theorem bytes64 : Tryd.prog.bytesOf 64 = 24 := by kernel_rfl
theorem aggT64 : isAggT Tryd.prog 64 = false := by kernel_rfl
theorem isIface64 : isIface Tryd.prog 64 = false := by kernel_rfl
theorem azero64 : azero Tryd.prog 64 = some ([.sl true 1 []]) := by kernel_rfl
theorem zfits64 : zfits Tryd.prog 64 = true := by kernel_rfl
theorem cells65 : Tryd.prog.cellsOf 65 = 1 := by kernel_rfl
theorem info65 : (Tryd.prog.info? 65).isSome = true := by kernel_rfl
theorem bytes65 : Tryd.prog.bytesOf 65 = 24 := by kernel_rfl
theorem aggT65 : isAggT Tryd.prog 65 = false := by kernel_rfl
theorem isIface65 : isIface Tryd.prog 65 = false := by kernel_rfl
theorem azero65 : azero Tryd.prog 65 = some ([.sl true 1 []]) := by kernel_rfl
theorem zfits65 : zfits Tryd.prog 65 = true := by kernel_rfl
theorem cells66 : Tryd.prog.cellsOf 66 = 1 := by kernel_rfl
theorem info66 : (Tryd.prog.info? 66).isSome = true := by kernel_rfl
theorem bytes66 : Tryd.prog.bytesOf 66 = 8 := by kernel_rfl
theorem aggT66 : isAggT Tryd.prog 66 = false := by kernel_rfl
theorem isIface66 : isIface Tryd.prog 66 = false := by kernel_rfl
theorem azero66 : azero Tryd.prog 66 = some ([.s .nilFunc]) := by kernel_rfl
theorem zfits66 : zfits Tryd.prog 66 = true := by kernel_rfl
theorem cells67 : Tryd.prog.cellsOf 67 = 1 := by kernel_rfl
theorem info67 : (Tryd.prog.info? 67).isSome = true := by kernel_rfl
theorem bytes67 : Tryd.prog.bytesOf 67 = 8 := by kernel_rfl
theorem aggT67 : isAggT Tryd.prog 67 = false := by kernel_rfl
theorem isInt67 : isIntT Tryd.prog 67 = true := by kernel_rfl
theorem isIface67 : isIface Tryd.prog 67 = false := by kernel_rfl
theorem azero67 : azero Tryd.prog 67 = some ([w64 0#64]) := by kernel_rfl
theorem zfits67 : zfits Tryd.prog 67 = true := by kernel_rfl
theorem cells68 : Tryd.prog.cellsOf 68 = 1 := by kernel_rfl
theorem info68 : (Tryd.prog.info? 68).isSome = true := by kernel_rfl
theorem bytes68 : Tryd.prog.bytesOf 68 = 8 := by kernel_rfl
theorem aggT68 : isAggT Tryd.prog 68 = false := by kernel_rfl
theorem isIface68 : isIface Tryd.prog 68 = false := by kernel_rfl
theorem azero68 : azero Tryd.prog 68 = some ([.s .nilFunc]) := by kernel_rfl
theorem zfits68 : zfits Tryd.prog 68 = true := by kernel_rfl
theorem cells69 : Tryd.prog.cellsOf 69 = 4 := by kernel_rfl
theorem info69 : (Tryd.prog.info? 69).isSome = true := by kernel_rfl
theorem bytes69 : Tryd.prog.bytesOf 69 = 40 := by kernel_rfl
theorem aggT69 : isAggT Tryd.prog 69 = true := by kernel_rfl
theorem isIface69 : isIface Tryd.prog 69 = false := by kernel_rfl
theorem azero69 : azero Tryd.prog 69 = some ([.s (.pointer none), .s (.pointer none), .s (.pointer none), str ByteArray.empty]) := by kernel_rfl
theorem zfits69 : zfits Tryd.prog 69 = true := by kernel_rfl
theorem cells70 : Tryd.prog.cellsOf 70 = 4 := by kernel_rfl
theorem info70 : (Tryd.prog.info? 70).isSome = true := by kernel_rfl
theorem bytes70 : Tryd.prog.bytesOf 70 = 40 := by kernel_rfl
theorem aggT70 : isAggT Tryd.prog 70 = true := by kernel_rfl
theorem isIface70 : isIface Tryd.prog 70 = false := by kernel_rfl
theorem azero70 : azero Tryd.prog 70 = some ([.s (.pointer none), .s (.pointer none), .s (.pointer none), str ByteArray.empty]) := by kernel_rfl
theorem zfits70 : zfits Tryd.prog 70 = true := by kernel_rfl
theorem cells71 : Tryd.prog.cellsOf 71 = 0 := by kernel_rfl
theorem info71 : (Tryd.prog.info? 71).isSome = true := by kernel_rfl
theorem bytes71 : Tryd.prog.bytesOf 71 = 0 := by kernel_rfl
theorem aggT71 : isAggT Tryd.prog 71 = true := by kernel_rfl
theorem isIface71 : isIface Tryd.prog 71 = false := by kernel_rfl
theorem azero71 : azero Tryd.prog 71 = some ([]) := by kernel_rfl
theorem zfits71 : zfits Tryd.prog 71 = true := by kernel_rfl
theorem cells72 : Tryd.prog.cellsOf 72 = 0 := by kernel_rfl
theorem info72 : (Tryd.prog.info? 72).isSome = true := by kernel_rfl
theorem bytes72 : Tryd.prog.bytesOf 72 = 0 := by kernel_rfl
theorem aggT72 : isAggT Tryd.prog 72 = true := by kernel_rfl
theorem isIface72 : isIface Tryd.prog 72 = false := by kernel_rfl
theorem azero72 : azero Tryd.prog 72 = some ([]) := by kernel_rfl
theorem zfits72 : zfits Tryd.prog 72 = true := by kernel_rfl
theorem cells73 : Tryd.prog.cellsOf 73 = 0 := by kernel_rfl
theorem info73 : (Tryd.prog.info? 73).isSome = true := by kernel_rfl
theorem bytes73 : Tryd.prog.bytesOf 73 = 0 := by kernel_rfl
theorem aggT73 : isAggT Tryd.prog 73 = true := by kernel_rfl
theorem isIface73 : isIface Tryd.prog 73 = false := by kernel_rfl
theorem azero73 : azero Tryd.prog 73 = some ([]) := by kernel_rfl
theorem zfits73 : zfits Tryd.prog 73 = true := by kernel_rfl
theorem cells74 : Tryd.prog.cellsOf 74 = 1 := by kernel_rfl
theorem info74 : (Tryd.prog.info? 74).isSome = true := by kernel_rfl
theorem bytes74 : Tryd.prog.bytesOf 74 = 8 := by kernel_rfl
theorem aggT74 : isAggT Tryd.prog 74 = false := by kernel_rfl
theorem isIface74 : isIface Tryd.prog 74 = false := by kernel_rfl
theorem azero74 : azero Tryd.prog 74 = some ([.s .nilFunc]) := by kernel_rfl
theorem zfits74 : zfits Tryd.prog 74 = true := by kernel_rfl
theorem cells75 : Tryd.prog.cellsOf 75 = 1 := by kernel_rfl
theorem info75 : (Tryd.prog.info? 75).isSome = true := by kernel_rfl
theorem bytes75 : Tryd.prog.bytesOf 75 = 1 := by kernel_rfl
theorem aggT75 : isAggT Tryd.prog 75 = false := by kernel_rfl
theorem isInt75 : isIntT Tryd.prog 75 = true := by kernel_rfl
theorem isIface75 : isIface Tryd.prog 75 = false := by kernel_rfl
theorem azero75 : azero Tryd.prog 75 = some ([b8 0#8]) := by kernel_rfl
theorem zfits75 : zfits Tryd.prog 75 = true := by kernel_rfl
theorem cells76 : Tryd.prog.cellsOf 76 = 1 := by kernel_rfl
theorem info76 : (Tryd.prog.info? 76).isSome = true := by kernel_rfl
theorem bytes76 : Tryd.prog.bytesOf 76 = 1 := by kernel_rfl
theorem aggT76 : isAggT Tryd.prog 76 = false := by kernel_rfl
theorem isInt76 : isIntT Tryd.prog 76 = true := by kernel_rfl
theorem isIface76 : isIface Tryd.prog 76 = false := by kernel_rfl
theorem azero76 : azero Tryd.prog 76 = some ([b8 0#8]) := by kernel_rfl
theorem zfits76 : zfits Tryd.prog 76 = true := by kernel_rfl
theorem cells77 : Tryd.prog.cellsOf 77 = 1 := by kernel_rfl
theorem info77 : (Tryd.prog.info? 77).isSome = true := by kernel_rfl
theorem bytes77 : Tryd.prog.bytesOf 77 = 8 := by kernel_rfl
theorem aggT77 : isAggT Tryd.prog 77 = false := by kernel_rfl
theorem isIface77 : isIface Tryd.prog 77 = false := by kernel_rfl
theorem azero77 : azero Tryd.prog 77 = some ([.s .nilFunc]) := by kernel_rfl
theorem zfits77 : zfits Tryd.prog 77 = true := by kernel_rfl
theorem cells78 : Tryd.prog.cellsOf 78 = 1 := by kernel_rfl
theorem info78 : (Tryd.prog.info? 78).isSome = true := by kernel_rfl
theorem bytes78 : Tryd.prog.bytesOf 78 = 8 := by kernel_rfl
theorem aggT78 : isAggT Tryd.prog 78 = false := by kernel_rfl
theorem isIface78 : isIface Tryd.prog 78 = false := by kernel_rfl
theorem azero78 : azero Tryd.prog 78 = some ([.s (.pointer none)]) := by kernel_rfl
theorem zfits78 : zfits Tryd.prog 78 = true := by kernel_rfl
theorem cells79 : Tryd.prog.cellsOf 79 = 1 := by kernel_rfl
theorem info79 : (Tryd.prog.info? 79).isSome = true := by kernel_rfl
theorem bytes79 : Tryd.prog.bytesOf 79 = 4 := by kernel_rfl
theorem aggT79 : isAggT Tryd.prog 79 = false := by kernel_rfl
theorem isInt79 : isIntT Tryd.prog 79 = true := by kernel_rfl
theorem isIface79 : isIface Tryd.prog 79 = false := by kernel_rfl
theorem azero79 : azero Tryd.prog 79 = some ([.s (.int .i32 0)]) := by kernel_rfl
theorem zfits79 : zfits Tryd.prog 79 = true := by kernel_rfl
theorem cells80 : Tryd.prog.cellsOf 80 = 1 := by kernel_rfl
theorem info80 : (Tryd.prog.info? 80).isSome = true := by kernel_rfl
theorem bytes80 : Tryd.prog.bytesOf 80 = 4 := by kernel_rfl
theorem aggT80 : isAggT Tryd.prog 80 = false := by kernel_rfl
theorem isInt80 : isIntT Tryd.prog 80 = true := by kernel_rfl
theorem isIface80 : isIface Tryd.prog 80 = false := by kernel_rfl
theorem azero80 : azero Tryd.prog 80 = some ([.s (.int .i32 0)]) := by kernel_rfl
theorem zfits80 : zfits Tryd.prog 80 = true := by kernel_rfl
theorem cells81 : Tryd.prog.cellsOf 81 = 11 := by kernel_rfl
theorem info81 : (Tryd.prog.info? 81).isSome = true := by kernel_rfl
theorem bytes81 : Tryd.prog.bytesOf 81 = 48 := by kernel_rfl
theorem aggT81 : isAggT Tryd.prog 81 = true := by kernel_rfl
theorem isIface81 : isIface Tryd.prog 81 = false := by kernel_rfl
theorem azero81 : azero Tryd.prog 81 = some ([w64 0#64, w64 0#64, w32 0#32, b8 0#8, b8 0#8, b8 0#8, b8 0#8, .s .nilFunc, .s (.pointer none), .s (.int .i32 0), .s (.int .i32 0)]) := by kernel_rfl
theorem zfits81 : zfits Tryd.prog 81 = true := by kernel_rfl
theorem cells82 : Tryd.prog.cellsOf 82 = 11 := by kernel_rfl
theorem info82 : (Tryd.prog.info? 82).isSome = true := by kernel_rfl
theorem bytes82 : Tryd.prog.bytesOf 82 = 48 := by kernel_rfl
theorem aggT82 : isAggT Tryd.prog 82 = true := by kernel_rfl
theorem isIface82 : isIface Tryd.prog 82 = false := by kernel_rfl
theorem azero82 : azero Tryd.prog 82 = some ([w64 0#64, w64 0#64, w32 0#32, b8 0#8, b8 0#8, b8 0#8, b8 0#8, .s .nilFunc, .s (.pointer none), .s (.int .i32 0), .s (.int .i32 0)]) := by kernel_rfl
theorem zfits82 : zfits Tryd.prog 82 = true := by kernel_rfl
theorem cells83 : Tryd.prog.cellsOf 83 = 1 := by kernel_rfl
theorem info83 : (Tryd.prog.info? 83).isSome = true := by kernel_rfl
theorem bytes83 : Tryd.prog.bytesOf 83 = 8 := by kernel_rfl
theorem aggT83 : isAggT Tryd.prog 83 = false := by kernel_rfl
theorem isIface83 : isIface Tryd.prog 83 = false := by kernel_rfl
theorem azero83 : azero Tryd.prog 83 = some ([.s (.pointer none)]) := by kernel_rfl
theorem zfits83 : zfits Tryd.prog 83 = true := by kernel_rfl
theorem enters2 : enters Tryd.prog 2 = true := by kernel_rfl
theorem enters3 : enters Tryd.prog 3 = true := by kernel_rfl
theorem enters4 : enters Tryd.prog 4 = true := by kernel_rfl
theorem enters5 : enters Tryd.prog 5 = true := by kernel_rfl
theorem enters6 : enters Tryd.prog 6 = true := by kernel_rfl
theorem enters7 : enters Tryd.prog 7 = true := by kernel_rfl
theorem enters8 : enters Tryd.prog 8 = true := by kernel_rfl
theorem enters9 : enters Tryd.prog 9 = true := by kernel_rfl
theorem enters10 : enters Tryd.prog 10 = true := by kernel_rfl
theorem enters11 : enters Tryd.prog 11 = true := by kernel_rfl
theorem enters12 : enters Tryd.prog 12 = true := by kernel_rfl
theorem enters13 : enters Tryd.prog 13 = true := by kernel_rfl
theorem enters14 : enters Tryd.prog 14 = true := by kernel_rfl
theorem enters15 : enters Tryd.prog 15 = true := by kernel_rfl
theorem enters16 : enters Tryd.prog 16 = true := by kernel_rfl
theorem enters17 : enters Tryd.prog 17 = true := by kernel_rfl
theorem enters18 : enters Tryd.prog 18 = true := by kernel_rfl
theorem enters19 : enters Tryd.prog 19 = true := by kernel_rfl
theorem enters20 : enters Tryd.prog 20 = true := by kernel_rfl
theorem enters21 : enters Tryd.prog 21 = true := by kernel_rfl
theorem enters22 : enters Tryd.prog 22 = true := by kernel_rfl
theorem enters23 : enters Tryd.prog 23 = true := by kernel_rfl
theorem enters24 : enters Tryd.prog 24 = true := by kernel_rfl
theorem enters25 : enters Tryd.prog 25 = true := by kernel_rfl
theorem enters26 : enters Tryd.prog 26 = true := by kernel_rfl
theorem enters27 : enters Tryd.prog 27 = true := by kernel_rfl
theorem enters28 : enters Tryd.prog 28 = true := by kernel_rfl
theorem enters29 : enters Tryd.prog 29 = true := by kernel_rfl
theorem enters30 : enters Tryd.prog 30 = true := by kernel_rfl
theorem enters31 : enters Tryd.prog 31 = true := by kernel_rfl
theorem enters32 : enters Tryd.prog 32 = true := by kernel_rfl
theorem enters33 : enters Tryd.prog 33 = true := by kernel_rfl
theorem enters34 : enters Tryd.prog 34 = true := by kernel_rfl
theorem enters35 : enters Tryd.prog 35 = true := by kernel_rfl
theorem enters36 : enters Tryd.prog 36 = true := by kernel_rfl
theorem enters37 : enters Tryd.prog 37 = true := by kernel_rfl
theorem enters38 : enters Tryd.prog 38 = true := by kernel_rfl
theorem enters39 : enters Tryd.prog 39 = true := by kernel_rfl
theorem enters40 : enters Tryd.prog 40 = true := by kernel_rfl
theorem enters41 : enters Tryd.prog 41 = true := by kernel_rfl
theorem enters62 : enters Tryd.prog 62 = true := by kernel_rfl
theorem follows : Tryd.prog.follows .mixedOrders = true := by kernel_rfl
attribute [go_sem] cells1 info1 bytes1 aggT1 isIface1 azero1 zfits1 cells2 info2 bytes2 aggT2 isInt2 isIface2 azero2 zfits2 cells3 info3 bytes3 aggT3 isInt3 isIface3 azero3 zfits3 cells4 info4 bytes4 aggT4 isBool4 isIface4 azero4 zfits4 cells5 info5 bytes5 aggT5 isInt5 isIface5 azero5 zfits5 cells6 info6 bytes6 aggT6 isInt6 isIface6 azero6 zfits6 cells7 info7 bytes7 aggT7 isIface7 azero7 zfits7 cells8 info8 bytes8 aggT8 isIface8 azero8 zfits8 cells9 info9 bytes9 aggT9 isIface9 azero9 zfits9 cells10 info10 bytes10 aggT10 isIface10 azero10 zfits10 cells11 info11 bytes11 aggT11 isIface11 azero11 zfits11 cells12 info12 bytes12 aggT12 isInt12 isIface12 azero12 zfits12 cells13 info13 bytes13 aggT13 isIface13 azero13 zfits13 cells14 info14 bytes14 aggT14 isIface14 azero14 zfits14 cells15 info15 bytes15 aggT15 isIface15 azero15 zfits15 cells16 info16 bytes16 aggT16 isIface16 azero16 zfits16 cells17 info17 bytes17 aggT17 isIface17 azero17 zfits17 cells18 info18 bytes18 aggT18 isIface18 azero18 zfits18 cells19 info19 bytes19 aggT19 isIface19 azero19 zfits19 cells20 info20 bytes20 aggT20 isIface20 azero20 zfits20 cells21 info21 bytes21 aggT21 isInt21 isIface21 azero21 zfits21 cells22 info22 bytes22 aggT22 isBytes22 isIface22 azero22 zfits22 cells23 info23 bytes23 aggT23 isIface23 azero23 zfits23 cells24 info24 bytes24 aggT24 isIface24 azero24 zfits24 cells25 info25 bytes25 aggT25 arrOK25 isIface25 azero25 zfits25 cells26 info26 bytes26 aggT26 arrOK26 isIface26 azero26 zfits26 cells27 info27 bytes27 aggT27 isIface27 azero27 zfits27 cells28 info28 bytes28 aggT28 isIface28 azero28 zfits28 cells29 info29 bytes29 aggT29 isIface29 azero29 zfits29 cells30 info30 bytes30 aggT30 isIface30 azero30 zfits30 cells31 info31 bytes31 aggT31 isInt31 isIface31 azero31 zfits31 cells32 info32 bytes32 aggT32 isIface32 azero32 zfits32 cells33 info33 bytes33 aggT33 isIface33 azero33 zfits33 cells34 info34 bytes34 aggT34 isIface34 azero34 zfits34 cells35 info35 bytes35 aggT35 isInt35 isIface35 azero35 zfits35 cells36 info36 bytes36 aggT36 arrOK36 isIface36 azero36 zfits36 cells37 info37 bytes37 aggT37 isIface37 azero37 zfits37 cells38 info38 bytes38 aggT38 isIface38 azero38 zfits38 cells39 info39 bytes39 aggT39 isIface39 azero39 zfits39 cells40 info40 bytes40 aggT40 isIface40 azero40 zfits40 cells41 info41 bytes41 aggT41 isIface41 azero41 zfits41 cells42 info42 bytes42 aggT42 isIface42 azero42 zfits42 cells43 info43 bytes43 aggT43 isIface43 azero43 zfits43 cells44 info44 bytes44 aggT44 isIface44 azero44 zfits44 cells45 info45 bytes45 aggT45 isIface45 azero45 zfits45 cells46 info46 bytes46 aggT46 isIface46 azero46 zfits46 cells47 info47 bytes47 aggT47 isIface47 azero47 zfits47 cells48 info48 bytes48 aggT48 isIface48 azero48 zfits48 cells49 info49 bytes49 aggT49 isIface49 azero49 zfits49 cells50 info50 bytes50 aggT50 isIface50 azero50 zfits50 cells51 info51 bytes51 aggT51 arrOK51 isIface51 azero51 zfits51 cells52 info52 bytes52 aggT52 isIface52 azero52 zfits52 cells53 info53 bytes53 aggT53 isIface53 azero53 zfits53 cells54 info54 bytes54 aggT54 isIface54 azero54 zfits54 cells55 info55 bytes55 aggT55 isIface55 azero55 zfits55 cells56 info56 bytes56 aggT56 arrOK56 isIface56 azero56 zfits56 cells57 info57 bytes57 aggT57 isInt57 isIface57 azero57 zfits57 cells58 info58 bytes58 aggT58 arrOK58 isIface58 azero58 zfits58 cells59 info59 bytes59 aggT59 isIface59 azero59 zfits59 cells60 info60 bytes60 aggT60 isIface60 azero60 zfits60 cells61 info61 bytes61 aggT61 isIface61 azero61 zfits61 cells62 info62 bytes62 aggT62 isIface62 azero62 zfits62 cells63 info63 bytes63 aggT63 isIface63 azero63 zfits63 cells64 info64 bytes64 aggT64 isIface64 azero64 zfits64 cells65 info65 bytes65 aggT65 isIface65 azero65 zfits65 cells66 info66 bytes66 aggT66 isIface66 azero66 zfits66 cells67 info67 bytes67 aggT67 isInt67 isIface67 azero67 zfits67 cells68 info68 bytes68 aggT68 isIface68 azero68 zfits68 cells69 info69 bytes69 aggT69 isIface69 azero69 zfits69 cells70 info70 bytes70 aggT70 isIface70 azero70 zfits70 cells71 info71 bytes71 aggT71 isIface71 azero71 zfits71 cells72 info72 bytes72 aggT72 isIface72 azero72 zfits72 cells73 info73 bytes73 aggT73 isIface73 azero73 zfits73 cells74 info74 bytes74 aggT74 isIface74 azero74 zfits74 cells75 info75 bytes75 aggT75 isInt75 isIface75 azero75 zfits75 cells76 info76 bytes76 aggT76 isInt76 isIface76 azero76 zfits76 cells77 info77 bytes77 aggT77 isIface77 azero77 zfits77 cells78 info78 bytes78 aggT78 isIface78 azero78 zfits78 cells79 info79 bytes79 aggT79 isInt79 isIface79 azero79 zfits79 cells80 info80 bytes80 aggT80 isInt80 isIface80 azero80 zfits80 cells81 info81 bytes81 aggT81 isIface81 azero81 zfits81 cells82 info82 bytes82 aggT82 isIface82 azero82 zfits82 cells83 info83 bytes83 aggT83 isIface83 azero83 zfits83 enters2 enters3 enters4 enters5 enters6 enters7 enters8 enters9 enters10 enters11 enters12 enters13 enters14 enters15 enters16 enters17 enters18 enters19 enters20 enters21 enters22 enters23 enters24 enters25 enters26 enters27 enters28 enters29 enters30 enters31 enters32 enters33 enters34 enters35 enters36 enters37 enters38 enters39 enters40 enters41 enters62
attribute [go_sem] Tryd.underlying1 Tryd.underlying2 Tryd.underlying3 Tryd.underlying4 Tryd.underlying5 Tryd.underlying6 Tryd.underlying7 Tryd.underlying8 Tryd.underlying9 Tryd.underlying10 Tryd.underlying11 Tryd.underlying12 Tryd.underlying13 Tryd.underlying14 Tryd.underlying15 Tryd.underlying16 Tryd.underlying17 Tryd.underlying18 Tryd.underlying19 Tryd.underlying20 Tryd.underlying21 Tryd.underlying22 Tryd.underlying23 Tryd.underlying24 Tryd.underlying25 Tryd.underlying26 Tryd.underlying27 Tryd.underlying28 Tryd.underlying29 Tryd.underlying30 Tryd.underlying31 Tryd.underlying32 Tryd.underlying33 Tryd.underlying34 Tryd.underlying35 Tryd.underlying36 Tryd.underlying37 Tryd.underlying38 Tryd.underlying39 Tryd.underlying40 Tryd.underlying41 Tryd.underlying42 Tryd.underlying43 Tryd.underlying44 Tryd.underlying45 Tryd.underlying46 Tryd.underlying47 Tryd.underlying48 Tryd.underlying49 Tryd.underlying50 Tryd.underlying51 Tryd.underlying52 Tryd.underlying53 Tryd.underlying54 Tryd.underlying55 Tryd.underlying56 Tryd.underlying57 Tryd.underlying58 Tryd.underlying59 Tryd.underlying60 Tryd.underlying61 Tryd.underlying62 Tryd.underlying63 Tryd.underlying64 Tryd.underlying65 Tryd.underlying66 Tryd.underlying67 Tryd.underlying68 Tryd.underlying69 Tryd.underlying70 Tryd.underlying71 Tryd.underlying72 Tryd.underlying73 Tryd.underlying74 Tryd.underlying75 Tryd.underlying76 Tryd.underlying77 Tryd.underlying78 Tryd.underlying79 Tryd.underlying80 Tryd.underlying81 Tryd.underlying82 Tryd.underlying83

end Go.Proofs.YtkpeknkpleocgaaDoor
