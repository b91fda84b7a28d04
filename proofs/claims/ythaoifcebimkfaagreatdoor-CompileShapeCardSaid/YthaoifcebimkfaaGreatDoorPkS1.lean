/- Proofs. -/
import Derived.Test.YthaoifcebimkfaaGreatDoorPkE3
import Derived.Test.YthaoifcebimkfaaGreatDoorChecked
import Derived.Laws.StructEq
set_option linter.unusedSimpArgs false
set_option linter.unusedVariables false
namespace Go.Proofs.YthaoifcebimkfaaGreatDoor
open Go Go.AL

theorem cells2:Tryz.prog.cellsOf 2=1:=by kernel_rfl
theorem zBg:Tryz.prog.bytesOf 2=8:=by kernel_rfl
theorem zBh:zdF Tryz.prog 2=true:=by kernel_rfl
theorem zBi:zL Tryz.prog 2=some ([i64 0]):=by kernel_rfl
theorem zBj:yx Tryz.prog 2=true:=by kernel_rfl
theorem cells3:Tryz.prog.cellsOf 3=1:=by kernel_rfl
theorem zBk:zdF Tryz.prog 3=true:=by kernel_rfl
theorem zBl:zL Tryz.prog 3=some ([i64 0]):=by kernel_rfl
theorem zBm:yx Tryz.prog 3=true:=by kernel_rfl
theorem cells4:Tryz.prog.cellsOf 4=1:=by kernel_rfl
theorem zy1:isBool Tryz.prog 4=true:=by kernel_rfl
theorem zBn:zL Tryz.prog 4=some ([bo false]):=by kernel_rfl
theorem zBo:yx Tryz.prog 4=true:=by kernel_rfl
theorem cells9:Tryz.prog.cellsOf 9=1:=by kernel_rfl
theorem zBp:yx Tryz.prog 9=true:=by kernel_rfl
theorem cells22:Tryz.prog.cellsOf 22=1:=by kernel_rfl
theorem cells24:Tryz.prog.cellsOf 24=4:=by kernel_rfl
theorem zvS:yk Tryz.prog 24=true:=by kernel_rfl
theorem zpL:zL Tryz.prog 24=some ([i64 0,i64 0,i64 0,.sl true 1 []]):=by kernel_rfl
theorem zy2 : ∀ parts,zZ Tryz.prog 24 parts=(yg (fun i=>[some (0,1),some (1,1),some (2,1),some (3,1)][i]?.join) ([.p (i64 0),.p (i64 0),.p (i64 0),.p (.sl true 1 [])]) parts).map zm:=fun _=>zo (by kernel_rfl) zpL
theorem cells27:Tryz.prog.cellsOf 27=1:=by kernel_rfl
theorem bytes27:Tryz.prog.bytesOf 27=24:=by kernel_rfl
theorem zy3:yx Tryz.prog 27=true:=by kernel_rfl
theorem cells30:Tryz.prog.cellsOf 30=1:=by kernel_rfl
theorem zy4:zL Tryz.prog 30=some ([.sl true 1 []]):=by kernel_rfl
theorem cells32:Tryz.prog.cellsOf 32=3:=by kernel_rfl
theorem zpM:zL Tryz.prog 32=some ([i64 0,.sl true 1 [],i64 0]):=by kernel_rfl
theorem zy5 : ∀ parts,zZ Tryz.prog 32 parts=(yg (fun i=>[some (0,1),some (1,1),some (2,1)][i]?.join) ([.p (i64 0),.p (.sl true 1 []),.p (i64 0)]) parts).map zm:=fun _=>zo (by kernel_rfl) zpM
theorem cells38:Tryz.prog.cellsOf 38=1:=by kernel_rfl
theorem cells39:Tryz.prog.cellsOf 39=1:=by kernel_rfl
theorem cells41:Tryz.prog.cellsOf 41=2:=by kernel_rfl
theorem zpN:zL Tryz.prog 41=some ([.sl true 4 [],.sl true 1 []]):=by kernel_rfl
theorem zy6 : ∀ parts,zZ Tryz.prog 41 parts=(yg (fun i=>[some (0,1),some (1,1)][i]?.join) ([.p (.sl true 4 []),.p (.sl true 1 [])]) parts).map zm:=fun _=>zo (by kernel_rfl) zpN
theorem cells43:Tryz.prog.cellsOf 43=1:=by kernel_rfl
theorem zy7:yx Tryz.prog 43=true:=by kernel_rfl
theorem cells46:Tryz.prog.cellsOf 46=1:=by kernel_rfl
theorem cells53:Tryz.prog.cellsOf 53=1:=by kernel_rfl
theorem zy8:Tryz.prog.bytesOf 53=8:=by kernel_rfl
theorem zy9:zdF Tryz.prog 53=true:=by kernel_rfl
theorem zza:zL Tryz.prog 53=some ([zl 0#64]):=by kernel_rfl
theorem zzb:yx Tryz.prog 53=true:=by kernel_rfl
theorem zzc:Tryz.prog.cellsOf 70=1:=by kernel_rfl
theorem zzd:Tryz.prog.bytesOf 70=24:=by kernel_rfl
theorem zze:zL Tryz.prog 70=some ([.sl true 6 []]):=by kernel_rfl
theorem zzf:yx Tryz.prog 70=true:=by kernel_rfl
theorem zpO:Tryz.prog.cellsOf 72=6:=by kernel_rfl
theorem zzg:Tryz.prog.bytesOf 72=48:=by kernel_rfl
theorem zpP:zL Tryz.prog 72=some ([i64 0,i64 0,zl 0#64,zl 0#64,zl 0#64,zl 0#64]):=by kernel_rfl
theorem zzh:yx Tryz.prog 72=true:=by kernel_rfl
theorem zzi : ∀ parts,zZ Tryz.prog 72 parts=(yg (fun i=>[some (0,1),some (1,1),some (2,1),some (3,1),some (4,1),some (5,1)][i]?.join) ([.p (i64 0),.p (i64 0),.p (zl 0#64),.p (zl 0#64),.p (zl 0#64),.p (zl 0#64)]) parts).map zm:=fun _=>zo (by kernel_rfl) zpP
theorem zpQ:Tryz.prog.cellsOf 73=1:=by kernel_rfl
theorem zzj:Tryz.prog.bytesOf 73=24:=by kernel_rfl
theorem zvT:yk Tryz.prog 73=false:=by kernel_rfl
theorem zzk:yx Tryz.prog 73=true:=by kernel_rfl
theorem zpR:Tryz.prog.cellsOf 75=3:=by kernel_rfl
theorem zzl:Tryz.prog.bytesOf 75=24:=by kernel_rfl
theorem zvU:yk Tryz.prog 75=true:=by kernel_rfl
theorem zpS:zL Tryz.prog 75=some ([i64 0,i64 0,i64 0]):=by kernel_rfl
theorem zzm:yx Tryz.prog 75=true:=by kernel_rfl
theorem zzn : ∀ parts,zZ Tryz.prog 75 parts=(yg (fun i=>[some (0,1),some (1,1),some (2,1)][i]?.join) ([.p (i64 0),.p (i64 0),.p (i64 0)]) parts).map zm:=fun _=>zo (by kernel_rfl) zpS
theorem zzo:Tryz.prog.cellsOf 77=4:=by kernel_rfl
theorem zpT:zL Tryz.prog 77=some ([i64 0,i64 0,i64 0,i64 0]):=by kernel_rfl
theorem zzp:yx Tryz.prog 77=true:=by kernel_rfl
theorem zzq : ∀ parts,zZ Tryz.prog 77 parts=(yg (fun i=>[some (0,1),some (1,1),some (2,1),some (3,1)][i]?.join) ([.p (i64 0),.p (i64 0),.p (i64 0),.p (i64 0)]) parts).map zm:=fun _=>zo (by kernel_rfl) zpT
theorem zzr:Tryz.prog.cellsOf 80=1:=by kernel_rfl
theorem zpU:zL Tryz.prog 80=some ([.sl true 1 []]):=by kernel_rfl
theorem zzs : ∀ parts,zZ Tryz.prog 80 parts=(yg (fun i=>[some (0,1)][i]?.join) ([.p (.sl true 1 [])]) parts).map zm:=fun _=>zo (by kernel_rfl) zpU
theorem cells85:Tryz.prog.cellsOf 85=1:=by kernel_rfl
theorem zzt:yx Tryz.prog 85=true:=by kernel_rfl
theorem zzu:Tryz.prog.cellsOf 89=1:=by kernel_rfl
theorem zzv:Tryz.prog.bytesOf 89=8:=by kernel_rfl
theorem zzw:zL Tryz.prog 89=some ([.s (.pointer none)]):=by kernel_rfl
theorem zzx:yx Tryz.prog 89=true:=by kernel_rfl
theorem zvV:Tryz.prog.cellsOf 128=4:=by kernel_rfl
theorem zkS:zL Tryz.prog 128=some ([str ByteArray.empty,bo false,i64 0,i64 0]):=by kernel_rfl
theorem zvW : ∀ parts,zZ Tryz.prog 128 parts=(yg (fun i=>[some (0,1),some (1,1),some (2,1),some (3,1)][i]?.join) ([.p (str ByteArray.empty),.p (bo false),.p (i64 0),.p (i64 0)]) parts).map zm:=fun _=>zo (by kernel_rfl) zkS
theorem zvX:Tryz.prog.cellsOf 133=1:=by kernel_rfl
theorem zvY:zL Tryz.prog 133=some ([.s .nilFunc]):=by kernel_rfl
theorem zvZ:Tryz.prog.cellsOf 134=1:=by kernel_rfl
theorem zv0:Tryz.prog.cellsOf 136=3:=by kernel_rfl
theorem zkT:zL Tryz.prog 136=some ([i64 0,bo false,.s .nilFunc]):=by kernel_rfl
theorem zv1 : ∀ parts,zZ Tryz.prog 136 parts=(yg (fun i=>[some (0,1),some (1,1),some (2,1)][i]?.join) ([.p (i64 0),.p (bo false),.p (.s .nilFunc)]) parts).map zm:=fun _=>zo (by kernel_rfl) zkT
theorem zv2:Tryz.prog.cellsOf 140=1:=by kernel_rfl
theorem zkU:zL Tryz.prog 142=some ([.sl true 1 [],.s (.map none)]):=by kernel_rfl
theorem zv3 : ∀ parts,zZ Tryz.prog 142 parts=(yg (fun i=>[some (0,1),some (1,1)][i]?.join) ([.p (.sl true 1 []),.p (.s (.map none))]) parts).map zm:=fun _=>zo (by kernel_rfl) zkU
theorem zgq:Tryz.prog.cellsOf 144=4:=by kernel_rfl
theorem ziV:(Tryz.prog.info? 144).isSome=true:=by kernel_rfl
theorem zkV:zL Tryz.prog 144=some ([i64 0,i64 0,i64 0,i64 0]):=by kernel_rfl
theorem zv4 : ∀ parts,zZ Tryz.prog 144 parts=(yg (fun i=>[some (0,1),some (1,1),some (2,1),some (3,1)][i]?.join) ([.p (i64 0),.p (i64 0),.p (i64 0),.p (i64 0)]) parts).map zm:=fun _=>zo (by kernel_rfl) zkV
theorem zkW:Tryz.prog.cellsOf 146=8:=by kernel_rfl
theorem zpV:(Tryz.prog.info? 146).isSome=true:=by kernel_rfl
theorem zkX:zL Tryz.prog 146=some ([i64 0,i64 0,i64 0,i64 0,i64 0,.s (.pointer none),.s (.pointer none),i64 0]):=by kernel_rfl
theorem zv5 : ∀ parts,zZ Tryz.prog 146 parts=(yg (fun i=>[some (0,1),some (1,4),some (5,1),some (6,1),some (7,1)][i]?.join) ([.p (i64 0),.p (i64 0),.p (i64 0),.p (i64 0),.p (i64 0),.p (.s (.pointer none)),.p (.s (.pointer none)),.p (i64 0)]) parts).map zm:=fun _=>zo (by kernel_rfl) zkX
theorem zv6:Tryz.prog.cellsOf 151=1:=by kernel_rfl
theorem zv7:zL Tryz.prog 151=some ([.s (.map none)]):=by kernel_rfl
theorem zv8:Tryz.prog.cellsOf 152=1:=by kernel_rfl
theorem zv9:zL Tryz.prog 152=some ([.s .nilFunc]):=by kernel_rfl
theorem zwa:Tryz.prog.cellsOf 154=2:=by kernel_rfl
theorem zkY:zL Tryz.prog 154=some ([.s (.pointer none),i64 0]):=by kernel_rfl
theorem zwb : ∀ parts,zZ Tryz.prog 154 parts=(yg (fun i=>[some (0,1),some (1,1)][i]?.join) ([.p (.s (.pointer none)),.p (i64 0)]) parts).map zm:=fun _=>zo (by kernel_rfl) zkY
theorem zwc:Tryz.prog.cellsOf 175=1:=by kernel_rfl
theorem zwd:Tryz.prog.cellsOf 176=2:=by kernel_rfl
theorem zkZ:zL Tryz.prog 176=some ([.s .nilFunc,i64 0]):=by kernel_rfl
theorem zwe : ∀ parts,zZ Tryz.prog 176 parts=(yg (fun i=>[some (0,1),some (1,1)][i]?.join) ([.p (.s .nilFunc),.p (i64 0)]) parts).map zm:=fun _=>zo (by kernel_rfl) zkZ
theorem zwf:Tryz.prog.cellsOf 177=8:=by kernel_rfl
theorem zk0:zL Tryz.prog 177=some ([.s .nilFunc,i64 0,.s .nilFunc,i64 0,.s .nilFunc,i64 0,.s .nilFunc,i64 0]):=by kernel_rfl
theorem zwg : ∀ parts,zZ Tryz.prog 177 parts=(yg (fun i=>some (i*2,2)) ([.p (.s .nilFunc),.p (i64 0),.p (.s .nilFunc),.p (i64 0),.p (.s .nilFunc),.p (i64 0),.p (.s .nilFunc),.p (i64 0)]) parts).map zm:=fun _=>zgf (by kernel_rfl) zk0
theorem zk1:zL Tryz.prog 192=some (List.replicate 16 (i64 0)):=by kernel_rfl
theorem zk2 : ∀ parts,zZ Tryz.prog 192 parts=(yg (fun i=>some (i*4,4)) ((List.replicate 16 (i64 0)).map .p) parts).map zm:=fun _=>zgf (by kernel_rfl) zk1
theorem zwh:Tryz.prog.cellsOf 195=6:=by kernel_rfl
theorem zk3:zL Tryz.prog 195=some ([i64 0,i64 0,i64 0,i64 0,.s (.pointer none),.s (.pointer none)]):=by kernel_rfl
theorem zwi : ∀ parts,zZ Tryz.prog 195 parts=(yg (fun i=>[some (0,4),some (4,1),some (5,1)][i]?.join) ([.p (i64 0),.p (i64 0),.p (i64 0),.p (i64 0),.p (.s (.pointer none)),.p (.s (.pointer none))]) parts).map zm:=fun _=>zo (by kernel_rfl) zk3
theorem zwj:Tryz.prog.cellsOf 202=2:=by kernel_rfl
theorem zk4:zL Tryz.prog 202=some ([i64 0,i64 0]):=by kernel_rfl
theorem zwk : ∀ parts,zZ Tryz.prog 202 parts=(yg (fun i=>[some (0,1),some (1,1)][i]?.join) ([.p (i64 0),.p (i64 0)]) parts).map zm:=fun _=>zo (by kernel_rfl) zk4
theorem zzy:enters Tryz.prog 8=true:=by kernel_rfl
theorem zwl:enters Tryz.prog 10=true:=by kernel_rfl
theorem zwm:enters Tryz.prog 12=true:=by kernel_rfl
theorem zwn:enters Tryz.prog 13=true:=by kernel_rfl
theorem zwo:enters Tryz.prog 15=true:=by kernel_rfl
theorem zwp:enters Tryz.prog 17=true:=by kernel_rfl
theorem zwq:enters Tryz.prog 20=true:=by kernel_rfl
theorem zwr:enters Tryz.prog 30=true:=by kernel_rfl
theorem zws:enters Tryz.prog 31=true:=by kernel_rfl
theorem zwt:enters Tryz.prog 32=true:=by kernel_rfl
theorem zwu:enters Tryz.prog 33=true:=by kernel_rfl
theorem zwv:enters Tryz.prog 34=true:=by kernel_rfl
theorem zww:enters Tryz.prog 35=true:=by kernel_rfl
theorem zwx:enters Tryz.prog 36=true:=by kernel_rfl
theorem zwy:enters Tryz.prog 37=true:=by kernel_rfl
theorem zwz:enters Tryz.prog 38=true:=by kernel_rfl
theorem zwA:enters Tryz.prog 39=true:=by kernel_rfl
theorem zwB:enters Tryz.prog 40=true:=by kernel_rfl
theorem zwC:enters Tryz.prog 41=true:=by kernel_rfl
theorem zwD:enters Tryz.prog 42=true:=by kernel_rfl
theorem zwE:enters Tryz.prog 43=true:=by kernel_rfl
theorem zwF:enters Tryz.prog 44=true:=by kernel_rfl
theorem zwG:enters Tryz.prog 50=true:=by kernel_rfl
theorem zwH:enters Tryz.prog 54=true:=by kernel_rfl
theorem zwI:enters Tryz.prog 55=true:=by kernel_rfl
theorem zwJ:enters Tryz.prog 56=true:=by kernel_rfl
theorem zwK:enters Tryz.prog 59=true:=by kernel_rfl
theorem zk5:enters Tryz.prog 71=true:=by kernel_rfl
theorem zk6:enters Tryz.prog 72=true:=by kernel_rfl
theorem zk7:enters Tryz.prog 73=true:=by kernel_rfl
theorem zwL:enters Tryz.prog 74=true:=by kernel_rfl
theorem zwM:enters Tryz.prog 75=true:=by kernel_rfl
theorem zwN:enters Tryz.prog 76=true:=by kernel_rfl
theorem zwO:enters Tryz.prog 77=true:=by kernel_rfl
theorem zwP:enters Tryz.prog 78=true:=by kernel_rfl
theorem zwQ:enters Tryz.prog 79=true:=by kernel_rfl
theorem zwR:enters Tryz.prog 80=true:=by kernel_rfl
theorem zwS:enters Tryz.prog 81=true:=by kernel_rfl
theorem zwT:enters Tryz.prog 82=true:=by kernel_rfl
theorem zwU:enters Tryz.prog 83=true:=by kernel_rfl
theorem zwV:enters Tryz.prog 84=true:=by kernel_rfl
theorem zwW:enters Tryz.prog 85=true:=by kernel_rfl
theorem zwX:enters Tryz.prog 86=true:=by kernel_rfl
theorem zwY:enters Tryz.prog 87=true:=by kernel_rfl
theorem zwZ:enters Tryz.prog 88=true:=by kernel_rfl
theorem zw0:enters Tryz.prog 89=true:=by kernel_rfl
theorem zw1:enters Tryz.prog 90=true:=by kernel_rfl
theorem zw2:enters Tryz.prog 91=true:=by kernel_rfl
theorem zw3:enters Tryz.prog 92=true:=by kernel_rfl
theorem zw4:enters Tryz.prog 93=true:=by kernel_rfl
theorem zw5:enters Tryz.prog 94=true:=by kernel_rfl
theorem zw6:enters Tryz.prog 95=true:=by kernel_rfl
theorem zw7:enters Tryz.prog 96=true:=by kernel_rfl
theorem zw8:enters Tryz.prog 97=true:=by kernel_rfl
theorem zw9:enters Tryz.prog 98=true:=by kernel_rfl
theorem zxa:enters Tryz.prog 99=true:=by kernel_rfl
theorem zr7:enters Tryz.prog 100=true:=by kernel_rfl
theorem zr8:enters Tryz.prog 101=true:=by kernel_rfl
theorem zr9:enters Tryz.prog 102=true:=by kernel_rfl
theorem zsa:enters Tryz.prog 103=true:=by kernel_rfl
theorem zsb:enters Tryz.prog 108=true:=by kernel_rfl
theorem zsc:enters Tryz.prog 111=true:=by kernel_rfl
theorem zsd:enters Tryz.prog 112=true:=by kernel_rfl
theorem zse:enters Tryz.prog 113=true:=by kernel_rfl
theorem zsf:enters Tryz.prog 117=true:=by kernel_rfl
theorem zsg:enters Tryz.prog 122=true:=by kernel_rfl
theorem zsh:enters Tryz.prog 123=true:=by kernel_rfl
theorem zsi:enters Tryz.prog 124=true:=by kernel_rfl
theorem zsj:enters Tryz.prog 125=true:=by kernel_rfl
theorem zsk:enters Tryz.prog 126=true:=by kernel_rfl
theorem zsl:enters Tryz.prog 130=true:=by kernel_rfl
theorem zsm:enters Tryz.prog 131=true:=by kernel_rfl
theorem zsn:enters Tryz.prog 132=true:=by kernel_rfl
theorem zso:enters Tryz.prog 133=true:=by kernel_rfl
theorem zsp:enters Tryz.prog 134=true:=by kernel_rfl
theorem zsq:enters Tryz.prog 135=true:=by kernel_rfl
theorem zsr:enters Tryz.prog 136=true:=by kernel_rfl
theorem zss:enters Tryz.prog 137=true:=by kernel_rfl
theorem zst:enters Tryz.prog 138=true:=by kernel_rfl
theorem zsu:enters Tryz.prog 139=true:=by kernel_rfl
theorem zsv:enters Tryz.prog 140=true:=by kernel_rfl
theorem zsw:enters Tryz.prog 141=true:=by kernel_rfl
theorem zsx:enters Tryz.prog 142=true:=by kernel_rfl
theorem zsy:enters Tryz.prog 143=true:=by kernel_rfl
theorem zsz:enters Tryz.prog 153=true:=by kernel_rfl
theorem zsA:enters Tryz.prog 154=true:=by kernel_rfl
theorem zsB:enters Tryz.prog 155=true:=by kernel_rfl
theorem zsC:enters Tryz.prog 156=true:=by kernel_rfl
theorem zsD:enters Tryz.prog 157=true:=by kernel_rfl
theorem zsE:enters Tryz.prog 158=true:=by kernel_rfl
theorem zsF:enters Tryz.prog 159=true:=by kernel_rfl
theorem zsG:enters Tryz.prog 161=true:=by kernel_rfl
theorem zsH:enters Tryz.prog 162=true:=by kernel_rfl
theorem zsI:enters Tryz.prog 163=true:=by kernel_rfl
theorem zsJ:enters Tryz.prog 164=true:=by kernel_rfl
theorem zsK:enters Tryz.prog 165=false:=by kernel_rfl
theorem zzz : ∀ args H, zcc Tryz.prog 165 args H = vH (zil "math/bits.Sub64" args) H := fun _ _ => zkl (by kernel_rfl)
theorem zsL:enters Tryz.prog 168=true:=by kernel_rfl
theorem zsM:enters Tryz.prog 169=true:=by kernel_rfl
theorem zsN:enters Tryz.prog 170=true:=by kernel_rfl
theorem zn1:za2 Tryz.prog 130=false:=by kernel_rfl
theorem zpW:zfM Tryz.prog 3=true:=by kernel_rfl
theorem zhP:zax Tryz.prog 128=some (.p (.agg [str ByteArray.empty,bo false,i64 0,i64 0])):=by kernel_rfl
theorem zn2:za2 Tryz.prog 137=false:=by kernel_rfl
theorem zhQ:zax Tryz.prog 136=some (.p (.agg [i64 0,bo false,.s .nilFunc])):=by kernel_rfl
theorem zn3:za2 Tryz.prog 140=true:=by kernel_rfl
theorem zk8:zax Tryz.prog 89=some (.p (.s (.pointer none))):=by kernel_rfl
theorem zn4:za2 Tryz.prog 151=true:=by kernel_rfl
theorem ziW:zax Tryz.prog 3=some (.p (i64 0)):=by kernel_rfl
theorem zn5:za2 Tryz.prog 190=false:=by kernel_rfl
theorem follows:Tryz.prog.follows .mixedOrders=true:=by kernel_rfl
attribute [go_sem] cells2 zBg zBh zBi zBj cells3 zBk zBl zBm cells4 zy1 zBn zBo cells9 zBp cells22 cells24 zvS zpL zy2 cells27 bytes27 zy3 cells30 zy4 cells32 zpM zy5 cells38 cells39 cells41 zpN zy6 cells43 zy7 cells46 cells53 zy8 zy9 zza zzb zzc zzd zze zzf zpO zzg zpP zzh zzi zpQ zzj zvT zzk zpR zzl zvU zpS zzm zzn zzo zpT zzp zzq zzr zpU zzs cells85 zzt zzu zzv zzw zzx zvV zkS zvW zvX zvY zvZ zv0 zkT zv1 zv2 zkU zv3 zgq ziV zkV zv4 zkW zpV zkX zv5 zv6 zv7 zv8 zv9 zwa zkY zwb zwc zwd zkZ zwe zwf zk0 zwg zk1 zk2 zwh zk3 zwi zwj zk4 zwk zzy zwl zwm zwn zwo zwp zwq zwr zws zwt zwu zwv zww zwx zwy zwz zwA zwB zwC zwD zwE zwF zwG zwH zwI zwJ zwK zk5 zk6 zk7 zwL zwM zwN zwO zwP zwQ zwR zwS zwT zwU zwV zwW zwX zwY zwZ zw0 zw1 zw2 zw3 zw4 zw5 zw6 zw7 zw8 zw9 zxa zr7 zr8 zr9 zsa zsb zsc zsd zse zsf zsg zsh zsi zsj zsk zsl zsm zsn zso zsp zsq zsr zss zst zsu zsv zsw zsx zsy zsz zsA zsB zsC zsD zsE zsF zsG zsH zsI zsJ zsK zzz zsL zsM zsN zn1 zpW zhP zn2 zhQ zn3 zk8 zn4 ziW zn5
attribute [go_sem] Tryz.underlying1 Tryz.underlying2 Tryz.underlying3 Tryz.underlying4 Tryz.underlying5 Tryz.underlying6 Tryz.underlying7 Tryz.underlying8 Tryz.underlying9 Tryz.underlying10 Tryz.underlying11 Tryz.underlying12 Tryz.underlying13 Tryz.underlying14 Tryz.underlying15 Tryz.underlying16 Tryz.underlying17 Tryz.underlying18 Tryz.underlying19 Tryz.underlying20 Tryz.underlying21 Tryz.underlying22 Tryz.underlying23 Tryz.underlying24 Tryz.underlying25 Tryz.underlying26 Tryz.underlying27 Tryz.underlying28 Tryz.underlying29 Tryz.underlying30 Tryz.underlying31 Tryz.underlying32 Tryz.underlying33 Tryz.underlying35 Tryz.underlying36 Tryz.underlying37 Tryz.underlying38 Tryz.underlying39 Tryz.underlying40 Tryz.underlying41 Tryz.underlying42 Tryz.underlying43 Tryz.underlying45 Tryz.underlying46 Tryz.underlying48 Tryz.underlying49 Tryz.underlying50 Tryz.underlying51 Tryz.underlying52 Tryz.underlying53 Tryz.underlying54 Tryz.underlying55 Tryz.underlying56 Tryz.underlying58 Tryz.underlying60 Tryz.underlying61 Tryz.underlying62 Tryz.underlying63 Tryz.underlying64 Tryz.underlying65 Tryz.underlying66 Tryz.underlying67 Tryz.underlying68 Tryz.underlying69 Tryz.underlying70 Tryz.underlying71 Tryz.underlying72 Tryz.underlying73 Tryz.underlying74 Tryz.underlying75 Tryz.underlying76 Tryz.underlying77 Tryz.underlying78 Tryz.underlying79 Tryz.underlying80 Tryz.underlying82 Tryz.underlying83 Tryz.underlying84 Tryz.underlying85 Tryz.underlying86 Tryz.underlying87 Tryz.underlying88 Tryz.underlying89 Tryz.underlying90 Tryz.underlying91 Tryz.underlying92 Tryz.underlying93 Tryz.underlying94 Tryz.underlying95 Tryz.underlying96 Tryz.underlying97 Tryz.underlying98 Tryz.underlying99 Tryz.underlying100 Tryz.underlying101 Tryz.underlying102 Tryz.underlying103 Tryz.underlying104 Tryz.underlying105 Tryz.underlying106 Tryz.underlying107 Tryz.underlying108 Tryz.underlying110 Tryz.underlying111 Tryz.underlying112 Tryz.underlying113 Tryz.underlying114 Tryz.underlying115 Tryz.underlying116 Tryz.underlying117 Tryz.underlying118 Tryz.underlying119 Tryz.underlying120 Tryz.underlying121 Tryz.underlying122 Tryz.underlying123 Tryz.underlying124 Tryz.underlying125 Tryz.underlying126 Tryz.underlying127 Tryz.underlying128 Tryz.underlying130 Tryz.underlying131 Tryz.underlying132 Tryz.underlying133 Tryz.underlying134 Tryz.underlying135 Tryz.underlying136 Tryz.underlying137 Tryz.underlying138 Tryz.underlying140 Tryz.underlying141 Tryz.underlying142 Tryz.underlying143 Tryz.underlying144 Tryz.underlying145 Tryz.underlying146 Tryz.underlying147 Tryz.underlying148 Tryz.underlying149 Tryz.underlying150 Tryz.underlying151 Tryz.underlying152 Tryz.underlying153 Tryz.underlying154 Tryz.underlying155 Tryz.underlying156 Tryz.underlying157 Tryz.underlying158 Tryz.underlying159 Tryz.underlying160 Tryz.underlying161 Tryz.underlying162 Tryz.underlying164 Tryz.underlying165 Tryz.underlying166 Tryz.underlying167 Tryz.underlying168 Tryz.underlying169 Tryz.underlying170 Tryz.underlying172 Tryz.underlying173 Tryz.underlying174 Tryz.underlying175 Tryz.underlying176 Tryz.underlying177 Tryz.underlying178 Tryz.underlying179 Tryz.underlying180 Tryz.underlying181 Tryz.underlying182 Tryz.underlying183 Tryz.underlying184 Tryz.underlying185 Tryz.underlying186 Tryz.underlying187 Tryz.underlying188 Tryz.underlying189 Tryz.underlying190 Tryz.underlying191 Tryz.underlying192 Tryz.underlying193 Tryz.underlying194 Tryz.underlying195 Tryz.underlying196 Tryz.underlying197 Tryz.underlying198 Tryz.underlying199 Tryz.underlying200 Tryz.underlying201 Tryz.underlying202 Tryz.underlying203 Tryz.underlying204 Tryz.underlying205 Tryz.underlying206 Tryz.underlying207 Tryz.underlying208 Tryz.underlying209 Tryz.underlying211 Tryz.underlying212 Tryz.underlying213 Tryz.underlying214 Tryz.underlying215 Tryz.underlying216 Tryz.underlying217 Tryz.underlying218 Tryz.underlying219 Tryz.underlying220 Tryz.underlying221 Tryz.underlying222 Tryz.underlying223 Tryz.underlying224 Tryz.underlying225 Tryz.underlying226 Tryz.underlying227 Tryz.underlying228 Tryz.underlying229

end Go.Proofs.YthaoifcebimkfaaGreatDoor

namespace Go.Proofs.YthaoifcebimkfaaGreatDoor
open Go Go.AL

abbrev U:=BitVec 64
abbrev pp:U:=18446744069414584321#64
abbrev two32:U:=4294967296#64
abbrev eps:U:=4294967295#64

def zfl (x:U):U:=x % 18446744069414584321#64
def zdl (a b:U):U:=if 18446744069414584321#64 - b≤a then a - (18446744069414584321#64 - b) else a+b
def ziX (a:U):U:=zdl (zfl (a % 4294967296#64*4294967296#64)) (zfl (a / 4294967296#64*4294967295#64))
def zpX (a b:U):U:=zdl (zfl (a % 4294967296#64*b)) (ziX (zfl (a / 4294967296#64*b)))
def zeb (a b:U):U:=zdl (zpX a (b % 4294967296#64)) (ziX (zpX a (b / 4294967296#64)))
def valid (a:U):Bool:=decide (a < 18446744069414584321#64)

def zn6 (x:U):U:=if 18446744069414584321#64≤x then x - 18446744069414584321#64 else x
def zzA (a b:U):U:=if 2 ^ 64≤a.toNat+b.toNat ∨ 18446744069414584321#64≤a+b then a+b - 18446744069414584321#64 else a+b
def zsO (a b:U):U:=if a.toNat < b.toNat then a - b+18446744069414584321#64 else a - b
def zhR (x y:U):U :=
 let t:=(x >>> 32)*(y &&& 4294967295#64)+((x &&& 4294967295#64)*(y &&& 4294967295#64)) >>> 32
 (x >>> 32)*(y >>> 32)+t >>> 32+((t &&& 4294967295#64)+(x &&& 4294967295#64)*(y >>> 32)) >>> 32
def zCQ (a b:U):U:=zzA (zsO (zn6 (a*b)) (zhR a b >>> 32)) (zn6 ((zhR a b &&& 4294967295#64)*4294967295#64))


theorem zsP {c:Prop} [Decidable c]:decide (0#64 < if c then 1#64 else 0#64)=decide c:=by
 by_cases h:c
 · simp [h]
 · simp [h]

section walks
variable {G:Globs} (a b:U) (H:Hp) (R:AV → Hp → Prop)







theorem zbH (h:R (.p (bo (valid a))) H):ACall Tryz.prog G 75 [.p (zl a)] H R:=by
 refine ACall.of_run (raw:=[]) Tryz.func75 rfl Tryz.ntmps75 (by simp) fun hbel => ?_
 refine .qt rfl ?_;simp (disch:=first|exact za|fail) only [go_sem,seval];refine .qt rfl ?_;simp (disch:=first|exact za|fail) only [go_sem,seval];refine .qr rfl Tryz.func75 (by rw [Tryz.results75]) ?_;simp (disch:=first|exact za|fail) only [go_sem,seval];exact h

theorem zsQ (h:R (.p (zl (zn6 a))) H):ACall Tryz.prog G 136 [.p (zl a)] H R:=by
 refine ACall.of_run (raw:=[]) Tryz.func136 rfl Tryz.ntmps136 (by simp) fun hbel => ?_
 unfold zn6 at h;refine .qt rfl ?_;simp (disch:=first|exact za|fail) only [go_sem,seval];refine .qt rfl ?_;simp (disch:=first|exact za|fail) only [go_sem,seval];refine .q ?_;refine .ifB (by simp (disch:=first|exact za|fail) only [go_sem,seval];rfl) (fun hc => ?_) (fun hc => ?_)
 · rw [if_pos (of_decide_eq_true hc)] at h;refine .qt rfl ?_;simp (disch:=first|exact za|fail) only [go_sem,seval];refine .qt rfl ?_;simp (disch:=first|exact za|fail) only [go_sem,seval];refine .qr rfl Tryz.func136 (by rw [Tryz.results136]) ?_;simp (disch:=first|exact za|fail) only [go_sem,seval];exact h
 · rw [if_neg (of_decide_eq_false hc)] at h;refine .qt rfl ?_;simp (disch:=first|exact za|fail) only [go_sem,seval];refine .qr rfl Tryz.func136 (by rw [Tryz.results136]) ?_;simp (disch:=first|exact za|fail) only [go_sem,seval];exact h

theorem zsR (h:R (.p (zl (zsO a b))) H):ACall Tryz.prog G 158 [.p (zl a),.p (zl b)] H R:=by
 refine ACall.of_run (raw:=[]) Tryz.func158 rfl Tryz.ntmps158 (by simp) fun hbel => ?_
 unfold zsO at h;refine .qt rfl ?_;simp (disch:=first|exact za|fail) only [go_sem,seval];refine .qt rfl ?_;simp (disch:=first|exact za|fail) only [go_sem,seval];refine .qt rfl ?_;simp (disch:=first|exact za|fail) only [go_sem,seval,zsP];refine .q ?_;refine .ifB (by simp (disch:=first|exact za|fail) only [go_sem,seval];rfl) (fun hc => ?_) (fun hc => ?_)
 · rw [if_pos (of_decide_eq_true hc)] at h;refine .qt rfl ?_;simp (disch:=first|exact za|fail) only [go_sem,seval];refine .qt rfl ?_;simp (disch:=first|exact za|fail) only [go_sem,seval];refine .qr rfl Tryz.func158 (by rw [Tryz.results158]) ?_;simp (disch:=first|exact za|fail) only [go_sem,seval];exact h
 · rw [if_neg (of_decide_eq_false hc)] at h;refine .qt rfl ?_;simp (disch:=first|exact za|fail) only [go_sem,seval];refine .qr rfl Tryz.func158 (by rw [Tryz.results158]) ?_;simp (disch:=first|exact za|fail) only [go_sem,seval];exact h

theorem zn7 (h:R (.tup [.p (zl (zhR a b)),.p (zl (a*b))]) H):ACall Tryz.prog G 170 [.p (zl a),.p (zl b)] H R:=by
 refine ACall.of_run (raw:=[]) Tryz.func170 rfl Tryz.ntmps170 (by simp) fun hbel => ?_
 refine .qt rfl ?_;simp (disch:=first|exact za|fail) only [go_sem,seval];refine .qt rfl ?_;simp (disch:=first|exact za|fail) only [go_sem,seval];refine .qt rfl ?_;simp (disch:=first|exact za|fail) only [go_sem,seval];refine .qt rfl ?_;simp (disch:=first|exact za|fail) only [go_sem,seval];refine .qt rfl ?_;simp (disch:=first|exact za|fail) only [go_sem,seval];refine .qt rfl ?_;simp (disch:=first|exact za|fail) only [go_sem,seval];refine .qt rfl ?_;simp (disch:=first|exact za|fail) only [go_sem,seval];refine .qt rfl ?_;simp (disch:=first|exact za|fail) only [go_sem,seval];refine .qt rfl ?_;simp (disch:=first|exact za|fail) only [go_sem,seval];refine .qt rfl ?_;simp (disch:=first|exact za|fail) only [go_sem,seval];refine .qt rfl ?_;simp (disch:=first|exact za|fail) only [go_sem,seval];refine .qt rfl ?_;simp (disch:=first|exact za|fail) only [go_sem,seval];refine .qr rfl Tryz.func170 (by rw [Tryz.results170]) ?_;simp (disch:=first|exact za|fail) only [go_sem,seval];exact h

end walks
end Go.Proofs.YthaoifcebimkfaaGreatDoor

namespace Go.Proofs.YthaoifcebimkfaaGreatDoor
open Go Go.AL

structure Gate where
 l:Int
 r:Int
 c:U
 a:U
 b:U
 d:U
 deriving DecidableEq

instance:Inhabited Gate:=⟨⟨0,0,0,0,0,0⟩⟩

structure Circ where
 inputs:Int
 layers:List (List Gate)
 sums:Int
 deriving DecidableEq

def zG (g:Gate):PV := .agg [i64 g.l,i64 g.r,zl g.c,zl g.a,zl g.b,zl g.d]
def zbK (c:Circ):PV := .agg [i64 c.inputs,.sl false 1 (pl (sle 6 zG) c.layers),i64 c.sums]
def gc (g:Gate):List AV:=[.p (i64 g.l),.p (i64 g.r),.p (zl g.c),.p (zl g.a),.p (zl g.b),.p (zl g.d)]
def cc (c:Circ):List AV:=[.p (i64 c.inputs),.p (.sl false 1 (pl (sle 6 zG) c.layers)),.p (i64 c.sums)]

section enc
variable {g:Gate} {c:Circ} {l:List Gate} {i s:Int} {x y z u:U}
theorem zBq:gc g=[.p (i64 g.l),.p (i64 g.r),.p (zl g.c),.p (zl g.a),.p (zl g.b),.p (zl g.d)]:=rfl
theorem zBr:cc c=[.p (i64 c.inputs),.p (.sl false 1 (pl (sle 6 zG) c.layers)),.p (i64 c.sums)]:=rfl
theorem zn8:(zG g).cells=[i64 g.l,i64 g.r,zl g.c,zl g.a,zl g.b,zl g.d]:=rfl
theorem zn9:(zG g).isAgg=true:=rfl
theorem zoa:(zG g).aggOf 0 6=zG g:=rfl
theorem zob:(zbK c).aggOf 0 3=zbK c:=rfl
theorem zk9:(AV.p (zG g)).isAggV=true:=rfl
theorem zsS:(zG g).weak=zG g:=rfl
theorem zoc:(zG g).weak1=zG g:=rfl
theorem zla:ze (.p (zG g))=some (gc g):=rfl
theorem zsT:PV.agg [i64 i,i64 s,zl x,zl y,zl z,zl u]=zG ⟨i,s,x,y,z,u⟩:=rfl
theorem zod:zm [.p (i64 i),.p (i64 s),.p (zl x),.p (zl y),.p (zl z),.p (zl u)] = .p (zG ⟨i,s,x,y,z,u⟩):=rfl
theorem zoe {ls:List (List Gate)}:zm [.p (i64 i),.p (.sl false 1 (pl (sle 6 zG) ls)),.p (i64 s)] = .p (zbK ⟨i,ls,s⟩):=rfl
theorem zlb {b:Bool}:zm [.p (i64 i),.p (.sl b 1 []),.p (i64 s)] = .p (.agg [i64 i,.sl b 1 [],i64 s]):=rfl
theorem zlc {α v:Nat} {ls:List (List Gate)}:zm [.p (i64 i),.sl α v 1 (pl (sle 6 zG) ls),.p (i64 s)] = .p (zbK ⟨i,ls,s⟩):=rfl
theorem zxb:(⟨g.l,g.r,g.c,g.a,g.b,g.d⟩:Gate)=g:=rfl
theorem zof:(zbK c).cells=[i64 c.inputs,.sl false 1 (pl (sle 6 zG) c.layers),i64 c.sums]:=rfl
theorem zog:(zbK c).isAgg=true:=rfl
theorem zld:(AV.p (zbK c)).isAggV=true:=rfl
theorem zsU:(zbK c).weak=zbK c:=rfl
theorem zoh:(zbK c).weak1=zbK c:=rfl
theorem zle:ze (.p (zbK c))=some (cc c):=rfl
theorem zsV {ls:List (List Gate)}:PV.agg [i64 i,.sl false 1 (pl (sle 6 zG) ls),i64 s]=zbK ⟨i,ls,s⟩:=rfl
theorem zoi:PV.agg [i64 i,.sl false 1 [],i64 s]=zbK ⟨i,[],s⟩:=rfl
theorem zxc:(⟨c.inputs,c.layers,c.sums⟩:Circ)=c:=rfl
theorem zxd : ∀ y∈pl zG l,y.cells.length=6:=fun y hy=>by
 simp only [pl,List.mem_map] at hy
 obtain⟨x,_,rfl⟩:=hy
 rfl
end enc
attribute [go_sem] zoa zob zBq zBr zn8 zn9 zk9 zsS zoc zla zsT zxb zod zoe zlb zlc zof zog zld zsU zoh zle zsV zoi zxc
def okG (g:Gate):Prop := -9223372036854775808≤g.l∧g.l≤9223372036854775807 ∧ -9223372036854775808≤g.r∧g.r≤9223372036854775807

theorem wf_i64 {n:Int} (h1 : -9223372036854775808≤n) (h2:n≤9223372036854775807):(Lit.int .i64 n).wf=true:=by
 simp only [Lit.wf,Bool.and_eq_true,decide_eq_true_eq]
 exact⟨h1,h2⟩
theorem wf_u64 (x:U):(Lit.int .u64 (x.toNat:Int)).wf=true:=by
 have:=x.isLt
 simp only [Lit.wf,Bool.and_eq_true,decide_eq_true_eq]
 exact⟨by show (0:Int)≤_;omega,by show _≤(18446744073709551615:Int);omega⟩

theorem ze1 {P:Program} {t:TypeId} {k:IntKind} {n:Int} {d:Nat} (hu:P.underlying t=some (.int k)) (h:(Lit.int k n).wf=true):P.keyLits (d+1) t [.int k n]=some [.int k n]:=by
 unfold Program.keyLits;simp [hu,h]

theorem zhS (g:Gate) (h:okG g):Tryz.prog.keyLits 64 72 [.int .i64 g.l,.int .i64 g.r,.int .u64 g.c.toNat,.int .u64 g.a.toNat,.int .u64 g.b.toNat,.int .u64 g.d.toNat] =
 some [.int .i64 g.l,.int .i64 g.r,.int .u64 g.c.toNat,.int .u64 g.a.toNat,.int .u64 g.b.toNat,.int .u64 g.d.toNat]:=by
 obtain⟨h1,h2,h3,h4⟩:=h
 have i1 : ∀ n,(Lit.int .i64 n).wf=true → Tryz.prog.keyLits 63 3 [.int .i64 n]=some [.int .i64 n]:=fun n h=>ze1 Tryz.underlying3 h
 have i2 : ∀ x:U,Tryz.prog.keyLits 63 53 [.int .u64 x.toNat]=some [.int .u64 x.toNat]:=fun x=>ze1 Tryz.underlying53 (wf_u64 x)
 have h5:=i1 _ (wf_i64 h1 h2);have h6:=i1 _ (wf_i64 h3 h4);unfold Program.keyLits;simp only [Tryz.underlying72,zpO];rw [if_pos ⟨rfl,by kernel_rfl⟩];simp only [List.mapM_cons,List.mapM_nil,cells3,cells53,List.drop_zero,List.drop_succ_cons,List.take_succ_cons,List.take_zero,h5,h6,i2,Option.pure_def,Option.bind_eq_bind,Option.bind_some,Option.map_some];rfl

theorem zpY {a b:Gate} (ha:okG a) (hb:okG b):zE Tryz.prog .eql 72 (.p (zG a)) (.p (zG b))=some (.p (bo (decide (a=b))))∧zE Tryz.prog .neq 72 (.p (zG a)) (.p (zG b))=some (.p (bo !decide (a=b))) :=
 zyY (by kernel_rfl) rfl rfl (zhS a ha) (zhS b hb) (by
  constructor
  · intro h
    obtain⟨a1,a2,a3,a4,a5,a6⟩:=a
    obtain⟨b1,b2,b3,b4,b5,b6⟩:=b
    simp only [List.cons.injEq,Lit.int.injEq,true_and,and_true] at h
    obtain⟨h1,h2,h3,h4,h5,h6⟩:=h
    have e : ∀ x y:U,(x.toNat:Int)=y.toNat → x=y:=fun x y h=>BitVec.eq_of_toNat_eq (by omega)
    rw [h1,h2,e _ _ h3,e _ _ h4,e _ _ h5,e _ _ h6]
  · intro h;rw [h])

def zdo (g:Gate):Bool:=g.c != 0#64 || g.a != 0#64
def zbU (g:Gate):Bool:=g.c != 0#64 || g.b != 0#64
def zpZ (g:Gate):Bool:=g.c == 0#64 && g.a == 0#64 && g.b == 0#64
def swp (g:Gate):Gate:=⟨g.r,g.l,g.c,g.b,g.a,g.d⟩

section walks
variable {G:Globs} (g:Gate) (H:Hp) (R:AV → Hp → Prop)


end walks
end Go.Proofs.YthaoifcebimkfaaGreatDoor

namespace Go.Proofs.YthaoifcebimkfaaGreatDoor
open Go Go.AL

structure Cnd where
 col:Int
 lo:Int
 hi:Int
 deriving DecidableEq
instance:Inhabited Cnd:=⟨⟨0,0,0⟩⟩
structure Qry where
 kind:Int
 col:Int
 k:Int
 fl:List (List Cnd)
 deriving DecidableEq

structure Cf where
 c:Int
 a:Int
 b:Int
 d:Int
 deriving DecidableEq
instance:Inhabited Cf:=⟨⟨0,0,0,0⟩⟩
structure Nd where
 k:Cf
 l:Nat
 r:Nat
 lv:Nat
 deriving DecidableEq
instance:Inhabited Nd:=⟨⟨default,0,0,0⟩⟩

def lev (s:List Nd) (n:Nat):Nat:=if n < 29 then 0 else (nth s (n - 29)).lv
def ym (s:List Nd) (k:Cf) (l r:Nat):Nat:=s.findIdx fun x=>decide (x.k=k∧x.l=l∧x.r=r)
abbrev BS:=Nat × List Nd
def addN (s:List Nd) (l r:Nat) (k:Cf):BS :=
 (29+ym s k l r,if ym s k l r < s.length then s else s++[⟨k,l,r,1+max (lev s l) (lev s r)⟩])
def prN (s:List Nd) (l r:Nat):BS:=addN s l r ⟨1,0,0,0⟩

def zf (c:Nat):Nat:=nth [5,9,17,21] c
def zR (c:Nat):Nat:=if c=0 ∨ c=2 then 4 else 8
def yu (c:Nat):Int:=if c=0 ∨ c=2 then 15 else 255
def bt (n i:Nat):Bool:=decide (n / 2 ^ i % 2=1)

def ziY (most one:Bool):Cf:=if most then if one then ⟨1,-1,0,1⟩ else ⟨-1,0,1,0⟩ else if one then ⟨1,0,0,0⟩ else ⟨-1,1,1,0⟩
def zaR (most:Bool) (n x i:Nat) (p:Option Nat × List Nd):Option Nat × List Nd :=
 match p.1 with
 | none=>if most then if bt n i then (none,p.2) else (some (addN p.2 x x ⟨0,-1,0,1⟩).1,(addN p.2 x x ⟨0,-1,0,1⟩).2)
  else if bt n i then (some x,p.2) else (none,p.2)
 | some g=>(some (addN p.2 x g (ziY most (bt n i))).1,(addN p.2 x g (ziY most (bt n i))).2)
def yB (most:Bool) (n c:Nat) (s:List Nd):Nat → Option Nat × List Nd
 | 0=>(none,s)
 | i+1=>zaR most n (zf c+i) i (yB most n c s i)
def zcl (most:Bool) (n c:Nat) (s:List Nd):BS:=((yB most n c s (zR c)).1.getD 0,(yB most n c s (zR c)).2)

def mt1 (c:Cnd) (p:BS):BS:=if 0 < c.lo then prN (zcl false c.lo.toNat c.col.toNat p.2).2 p.1 (zcl false c.lo.toNat c.col.toNat p.2).1 else p
def mt2 (c:Cnd) (p:BS):BS:=if c.hi < yu c.col.toNat then prN (zcl true c.hi.toNat c.col.toNat p.2).2 p.1 (zcl true c.hi.toNat c.col.toNat p.2).1 else p
def zbV (l:List Cnd) (s:List Nd):Nat → BS
 | 0=>(4,s)
 | i+1=>mt2 (nth l i) (mt1 (nth l i) (zbV l s i))
def yl (l:List Cnd) (s:List Nd):BS:=zbV l s l.length

def zap (uv:Nat):Cf:=nth [⟨1,-1,-1,1⟩,⟨-1,1,0,0⟩,⟨-1,0,1,0⟩,⟨1,0,0,0⟩] uv
def zcR (c v:Nat) (s:List Nd):BS :=
 let p:=addN s (zf c) (zf c+1) (zap (v % 4))
 let q:=addN p.2 (zf c+2) (zf c+3) (zap (v / 4))
 prN q.2 p.1 q.1
abbrev LBS:=List Nat × List Nd
def yQ (m c:Nat) (s:List Nd):Nat → LBS
 | 0=>([],s)
 | v+1 =>
  let p:=yQ m c s v
  let q:=zcR c v p.2
  let r:=prN q.2 m q.1
  (p.1++[r.1],r.2)
def y5 (l:List Cnd) (c:Nat) (s:List Nd):LBS:=yQ (yl l s).1 c (yl l s).2 16
def zbW (c:Nat) (s:List Nd):Nat → BS
 | 0=>(c,s)
 | i+1=>prN (zbW c s i).2 (zbW c s i).1 c
def zB (q:Qry) (s:List Nd):LBS :=
 if q.kind=1 then ([(yl (nth q.fl 0) s).1],(yl (nth q.fl 0) s).2)
 else if q.kind=2 ∨ q.kind=3 then
  let m:=yl (nth q.fl 0) s
  let p:=zbW q.col.toNat m.2 (q.k - 1).toNat
  let r:=prN p.2 m.1 p.1
  ([r.1],r.2)
 else if q.kind=7 then
  let a:=y5 (nth q.fl 0) 0 s
  let b:=y5 (nth q.fl 1) 0 a.2
  (a.1++b.1,b.2)
 else y5 (nth q.fl 0) q.col.toNat s

def yH (c:Nat) (x:Cnd):Bool:=decide (x.col=c∧(0 < x.lo ∨ x.hi < yu c))
def zaw (q:Qry) (c:Nat):Bool :=
 (q.fl.any fun l=>l.any (yH c)) || (decide ((q.kind=4 ∨ q.kind=5 ∨ q.kind=6)∧q.col=c) || decide (q.kind=7∧c=0))

def chk (s:List Nd) (x:Nat):BS:=addN s x x ⟨1,-1,0,0⟩
structure ZS where
 o:List Nat
 sum:Nat
 s:List Nd
def zS (c:Nat) (k:Nat) (z:ZS):ZS :=
 let p:=chk z.s (zf c+k)
 if k=0 then ⟨z.o++[p.1],z.sum,p.2⟩
 else
  let q:=addN p.2 z.sum (zf c+k) ⟨0,1,2 ^ k,0⟩
  ⟨z.o++[p.1],q.1,q.2⟩
def zT (c:Nat) (p:LBS):Nat → ZS
 | 0=>⟨p.1,zf c,p.2⟩
 | k+1=>zS c k (zT c p k)
def zec (c:Nat) (p:LBS):LBS :=
 let z:=zT c p (zR c)
 let r:=addN z.s z.sum c ⟨0,1,-1,0⟩
 (z.o++[r.1],r.2)
def yR (q:Qry) (s:List Nd):Nat → LBS
 | 0=>([(chk s 4).1],(chk s 4).2)
 | c+1=>if zaw q c then zec c (yR q s c) else yR q s c
def yV (q:Qry) (s:List Nd):LBS:=yR q s 4

def fi (n:Int):U:=if n < 0 then pp - BitVec.ofNat 64 (-n).toNat else BitVec.ofNat 64 n.toNat

structure LS where
 at':List ((Nat × Nat) × Nat)
 ls:List (List Gate)
def zab (n k:Nat) (g:Gate) (st:LS):Nat × LS :=
 ((nth st.ls k).length,⟨zbm (n,k+1) (nth st.ls k).length st.at',st.ls.set k (nth st.ls k++[g])⟩)
def need (S:List Nd):Nat → Nat → LS → Nat × LS
 | 0,n,st=>(n,st)
 | k+1,n,st =>
  match zD (n,k+1) st.at' with
  | some i=>(i,st)
  | none =>
   if lev S n < k+1 then
    let p:=need S k n st
    zab n k ⟨p.1,p.1,0,1,0,0⟩ p.2
   else
    let x:=nth S (n - 29)
    let p:=need S k x.l st
    let q:=need S k x.r p.2
    zab n k ⟨p.1,q.1,fi x.k.c,fi x.k.a,fi x.k.b,fi x.k.d⟩ q.2
def depth (S:List Nd):List Nat → Nat
 | []=>0
 | n :: l=>max (lev S n) (depth S l)
def yI (S:List Nd) (d:Nat) (o:List Nat) (st:LS):Nat → List Gate × LS
 | 0=>([],st)
 | i+1 =>
  let p:=yI S d o st i
  let q:=need S d (nth o i) p.2
  (p.1++[nth (nth q.2.ls (d - 1)) q.1],q.2)
def zbn (S:List Nd) (o:List Nat):List (List Gate) :=
 let d:=depth S o
 let p:=yI S d o ⟨[],List.replicate d []⟩ o.length
 p.2.ls.set (d - 1) p.1
def yt (q:Qry):List Nat × List Nat × List Nd :=
 let a:=zB q []
 let b:=yV q a.2
 (a.1,b.1,b.2)
def yW (q:Qry):List (List Gate):=zbn (yt q).2.2 ((yt q).1++(yt q).2.1)
def vC (c:Cnd):Bool:=decide (0≤c.col∧c.col < 4∧0≤c.lo∧c.lo≤c.hi∧c.hi≤yu c.col.toNat)
def vF (l:List Cnd):Bool:=decide (l.length≤3) && l.all vC
def yd (kind:Int):Int:=if kind=3 then 6 else if kind=6 then 65536 else 0
def zbo (kind:Int):Bool:=decide (2≤kind∧kind≤6)
def vQ (q:Qry):Bool :=
 decide (1≤q.kind∧q.kind≤7) && (decide (0≤q.col∧q.col < 4) && ((zbo q.kind || decide (q.col=0)) &&
  (decide (min (yd q.kind) 1≤q.k∧q.k≤yd q.kind) && (decide (q.fl.length=if q.kind=7 then 2 else 1) && q.fl.all vF))))
def yi (q:Qry):Int:=if vQ q then if 4≤q.kind∧q.kind≤6∧(q.col=1 ∨ q.col=3) then 140 else 0 else 1
def zgr (l:List (List Gate)):Bool:=l.any fun x=>decide (64 < x.length)
def yz (q:Qry):Circ × Int :=
 if yi q=0 then if zgr (yW q) then (⟨0,[],0⟩,2) else (⟨29,yW q,(yt q).1.length⟩,0)
 else (⟨0,[],0⟩,yi q)
end Go.Proofs.YthaoifcebimkfaaGreatDoor

namespace Go.Proofs.YthaoifcebimkfaaGreatDoor
open Go Go.AL

def Exn (s t:List Nd):Prop := ∃ u,t=s++u
theorem Exn.refl (s:List Nd):Exn s s:=⟨[],by simp⟩
theorem Exn.trans {s t u:List Nd} (h:Exn s t) (h':Exn t u):Exn s u:=by
 obtain⟨a,rfl⟩:=h
 obtain⟨b,rfl⟩:=h'
 exact⟨a++b,by simp⟩
theorem Exn.len {s t:List Nd} (h:Exn s t):s.length≤t.length:=by
 obtain⟨a,rfl⟩:=h
 simp
theorem Exn.nth {s t:List Nd} (h:Exn s t) {i:Nat} (hi:i < s.length):nth t i=nth s i:=by
 obtain⟨a,rfl⟩:=h
 simp [AL.nth,List.getElem?_append_left hi]
theorem Exn.lev {s t:List Nd} (h:Exn s t) {n:Nat} (hn:n < 29+s.length):lev t n=lev s n:=by
 unfold Proofs.YthaoifcebimkfaaGreatDoor.lev
 split
 · rfl
 · rw [h.nth (by omega)]

structure Rep {α:Type} (n:Nat) (f:List Nd → α × List Nd):Prop where
 ext : ∀ s,Exn s (f s).2
 len : ∀ s,(f s).2.length≤s.length+n
 rep : ∀ s t,Exn (f s).2 t → f t=((f s).1,t)

theorem zfw (s:List Nd) (k:Cf) (l r:Nat):ym s k l r≤s.length:=List.findIdx_le_length
theorem zxe {s u:List Nd} {k:Cf} {l r:Nat} (h:ym s k l r < s.length):ym (s++u) k l r=ym s k l r:=by
 unfold ym at h ⊢;rw [List.findIdx_append,if_pos h]
theorem zxf {s u:List Nd} {k:Cf} {l r v:Nat} (h : ¬ ym s k l r < s.length):ym (s++⟨k,l,r,v⟩ :: u) k l r=s.length:=by
 unfold ym at h ⊢;rw [List.findIdx_append,if_neg h];simp [List.findIdx_cons]

theorem zaq (s:List Nd) (l r:Nat) (k:Cf):(addN s l r k).1=29+ym s k l r:=rfl
theorem yP (s:List Nd) (l r:Nat) (k:Cf):(addN s l r k).2=if ym s k l r < s.length then s else s++[⟨k,l,r,1+max (lev s l) (lev s r)⟩]:=rfl
theorem yC (s:List Nd) (l r:Nat) (k:Cf):(addN s l r k).1 < 29+(addN s l r k).2.length:=by
 rw [zaq,yP]
 have:=zfw s k l r
 split
 · omega
 · simp;omega
theorem ya (l r:Nat) (k:Cf):Rep 1 fun s=>addN s l r k where
 ext s:=by
  show Exn s (addN s l r k).2
  rw [yP]
  split
  · exact .refl s
  · exact⟨_,rfl⟩
 len s:=by
  show (addN s l r k).2.length≤_
  rw [yP]
  split
  · omega
  · simp
 rep s t h:=by
  show addN t l r k=_
  simp only [yP] at h
  have e:ym t k l r=ym s k l r∧ym s k l r < t.length:=by
   split at h
   · rename_i hp
     obtain⟨u,rfl⟩:=h
     exact⟨zxe hp,by simp;omega⟩
   · rename_i hp
     obtain⟨u,rfl⟩:=h
     have:=zfw s k l r
     refine⟨?_,by simp;omega⟩
     rw [List.append_assoc,List.singleton_append,zxf hp];omega
  refine Prod.ext ?_ ?_
  · rw [zaq,e.1,zaq]
  · rw [yP,if_pos (by rw [e.1];exact e.2)]

theorem Rep.pure {α:Type} (x:α):Rep 0 fun s=>(x,s):=⟨fun s => .refl s,fun s=>by simp,fun s t _=>rfl⟩
theorem Rep.bind {α β:Type} {m n:Nat} {f:List Nd → α × List Nd} {g:α → List Nd → β × List Nd} (hf:Rep m f) (hg : ∀ x,Rep n (g x)):Rep (m+n) fun s=>g (f s).1 (f s).2 where
 ext s:=(hf.ext s).trans ((hg _).ext _)
 len s:=by have:=hf.len s;have:=(hg (f s).1).len (f s).2;show (g (f s).1 (f s).2).2.length≤_;omega
 rep s t h:=by
  have h1:f t=((f s).1,t):=hf.rep s t (((hg _).ext _).trans h);simp only [h1];exact (hg _).rep _ _ h
theorem Rep.more {α:Type} {m n:Nat} {f:List Nd → α × List Nd} (hf:Rep m f) (h:m≤n):Rep n f:=⟨hf.ext,fun s=>by have:=hf.len s;omega,hf.rep⟩
theorem Rep.map {α β:Type} {m:Nat} {f:List Nd → α × List Nd} (hf:Rep m f) (g:α → β):Rep m fun s=>(g (f s).1,(f s).2) :=
 hf.bind (n:=0) (g:=fun x s=>(g x,s)) fun x => .pure _
theorem Rep.loop {α:Type} {n:Nat} (x:α) (st:Nat → α × List Nd → α × List Nd) (T:List Nd → Nat → α × List Nd) (h0 : ∀ s,T s 0=(x,s)) (h1 : ∀ s i,T s (i+1)=st i (T s i)) (hs : ∀ i y,Rep n fun s=>st i (y,s)) :
 ∀ i,Rep (n*i) fun s=>T s i
 | 0=>by simp only [h0];exact .pure x
 | i+1=>by
  simp only [h1];exact (loop x st T h0 h1 hs i).bind (g:=fun y s=>st i (y,s)) (hs i)

theorem zcm (l r:Nat):Rep 1 fun s=>prN s l r:=ya l r _
theorem zxg (most:Bool) (n x i:Nat) (o:Option Nat):Rep 1 fun s=>zaR most n x i (o,s):=by
 unfold zaR
 cases o with
 | none =>
  simp only
  split
  · split
    · exact (Rep.pure _).more (by omega)
    · exact (ya x x ⟨0,-1,0,1⟩).map some
  · split
    · exact (Rep.pure _).more (by omega)
    · exact (Rep.pure _).more (by omega)
 | some g=>exact (ya x g _).map some
theorem zgs (most:Bool) (n c i:Nat):Rep i fun s=>yB most n c s i:=by
 have:=Rep.loop (n:=1) none (fun i p=>zaR most n (zf c+i) i p) (fun s i=>yB most n c s i) (fun _=>rfl) (fun _ _=>rfl) (fun i o=>zxg most n (zf c+i) i o) i
 rwa [Nat.one_mul] at this
theorem zaz (c:Nat):zR c≤8:=by unfold zR;split<;>omega
theorem zbX (most:Bool) (n c:Nat):Rep 8 fun s=>zcl most n c s:=((zgs most n c (zR c)).map fun o=>o.getD 0).more (zaz c)
theorem ziZ (c:Cnd) (x:Nat):Rep 9 fun s=>mt1 c (x,s):=by
 unfold mt1
 split
 · exact (zbX false c.lo.toNat c.col.toNat).bind (n:=1) (g:=fun y s=>prN s x y) fun y=>zcm x y
 · exact (Rep.pure x).more (by omega)
theorem zzB (c:Cnd) (x:Nat):Rep 9 fun s=>mt2 c (x,s):=by
 unfold mt2
 split
 · exact (zbX true c.hi.toNat c.col.toNat).bind (n:=1) (g:=fun y s=>prN s x y) fun y=>zcm x y
 · exact (Rep.pure x).more (by omega)
theorem zgt (l:List Cnd) (i:Nat):Rep (18*i) fun s=>zbV l s i :=
 Rep.loop (n:=18) 4 (fun i p=>mt2 (nth l i) (mt1 (nth l i) p)) (fun s i=>zbV l s i) (fun _=>rfl) (fun _ _=>rfl) (fun i x=>(ziZ (nth l i) x).bind (n:=9) (g:=fun y s=>mt2 (nth l i) (y,s)) fun y=>zzB (nth l i) y) i
theorem zbp (l:List Cnd):Rep (18*l.length) fun s=>yl l s:=zgt l l.length
theorem zed (c v:Nat):Rep 3 fun s=>zcR c v s :=
 (ya (zf c) (zf c+1) (zap (v % 4))).bind (n:=2) (g:=fun p s=>prN (addN s (zf c+2) (zf c+3) (zap (v / 4))).2 p (addN s (zf c+2) (zf c+3) (zap (v / 4))).1)
  fun p=>(ya (zf c+2) (zf c+3) (zap (v / 4))).bind (n:=1) (g:=fun q s=>prN s p q) fun q=>zcm p q
theorem zgu (m c i:Nat):Rep (4*i) fun s=>yQ m c s i :=
 Rep.loop (n:=4) [] (fun v p=>(p.1++[(prN (zcR c v p.2).2 m (zcR c v p.2).1).1],(prN (zcR c v p.2).2 m (zcR c v p.2).1).2)) (fun s i=>yQ m c s i) (fun _=>rfl) (fun _ _=>rfl)
  (fun v x=>(zed c v).bind (n:=1) (g:=fun q s=>(x++[(prN s m q).1],(prN s m q).2)) fun q=>(zcm m q).map fun y=>x++[y]) i
theorem zee (l:List Cnd) (c:Nat):Rep (18*l.length+64) fun s=>y5 l c s :=
 (zbp l).bind (n:=64) (g:=fun m s=>yQ m c s 16) fun m=>zgu m c 16
theorem zgv (c i:Nat):Rep i fun s=>zbW c s i:=by
 have:=Rep.loop (n:=1) c (fun _ p=>prN p.2 p.1 c) (fun s i=>zbW c s i) (fun _=>rfl) (fun _ _=>rfl) (fun _ x=>zcm x c) i
 rwa [Nat.one_mul] at this
end Go.Proofs.YthaoifcebimkfaaGreatDoor

namespace Go.Proofs.YthaoifcebimkfaaGreatDoor
open Go Go.AL

def zAC (g:Gate) (prev:List Gate):Gate :=
 if zpZ (nth prev g.l.toNat) then ⟨g.l,g.r,0#64,0#64,zzA g.b (zCQ g.c (nth prev g.l.toNat).d),zzA g.d (zCQ g.a (nth prev g.l.toNat).d)⟩ else g
def n1 (g:Gate):Gate:=if g.l == g.r then ⟨g.l,g.r,g.c,zzA g.a g.b,0#64,g.d⟩ else g
def n2 (g:Gate):Gate:=if !zdo g && zbU g then swp g else g
def n3 (g:Gate):Gate:=if !zdo g then ⟨0,g.r,g.c,g.a,g.b,g.d⟩ else g
def n4 (g:Gate):Gate:=if !zbU g then ⟨g.l,0,g.c,g.a,g.b,g.d⟩ else if decide (g.r < g.l) then swp g else g
def norm (g:Gate):Gate:=n4 (n3 (n2 (n1 g)))

section walks
variable {G:Globs}

end walks
end Go.Proofs.YthaoifcebimkfaaGreatDoor

namespace Go.Proofs.YthaoifcebimkfaaGreatDoor
open Go Go.AL

def m1 (g:Gate):Gate:=if g.l == g.r then ⟨g.l,g.r,g.c,zdl g.a g.b,0#64,g.d⟩ else g
def m2 (g:Gate):Gate:=if !zdo g && zbU g then ⟨g.r,g.r,g.c,g.b,0#64,g.d⟩ else g
def m4 (g:Gate):Gate:=if !zbU g then ⟨g.l,0,g.c,g.a,g.b,g.d⟩ else g


section walks
variable {G:Globs}

def zef (g:Gate) (l r:U):U:=zdl (zdl (zdl (zeb g.c (zeb l r)) (zeb g.a l)) (zeb g.b r)) g.d
def mkG (g:Gate) (n:Int):Gate :=
 ⟨g.l % 256 % n,g.r % 256 % n,zfl g.c,zfl g.a,zfl g.b,zfl g.d⟩
def vG (g:Gate) (n:Int):Bool:=decide (0≤g.l) && decide (g.l < n) && decide (0≤g.r) && decide (g.r < n) && valid g.c && valid g.a && valid g.b && valid g.d



end walks
end Go.Proofs.YthaoifcebimkfaaGreatDoor

namespace Go.Proofs.YthaoifcebimkfaaGreatDoor
open Go Go.AL

def wid (c:Circ) (k:Nat):Int:=if k=0 then c.inputs else ((nth c.layers (k - 1)).length:Int)
def opG (n:Int) (g:Gate):Prop:=0≤g.l∧g.l < n∧0≤g.r∧g.r < n
structure Ok (c:Circ):Prop where
 inp:1≤c.inputs∧c.inputs≤1000
 sums:0≤c.sums∧c.sums≤1000
 len:1≤c.layers.length∧c.layers.length≤1000
 row : ∀ k,k < c.layers.length → 1≤(nth c.layers k).length∧(nth c.layers k).length≤1000
 op : ∀ k,k < c.layers.length → ∀ i,i < (nth c.layers k).length → opG (wid c k) (nth (nth c.layers k) i)


def cnt (ls:List (List Gate)):Nat → Nat
 | 0=>0
 | i+1=>cnt ls i+(nth ls i).length
def size (c:Circ):Nat:=cnt c.layers c.layers.length

section walks
variable {G:Globs}

end walks
end Go.Proofs.YthaoifcebimkfaaGreatDoor

namespace Go.Proofs.YthaoifcebimkfaaGreatDoor
open Go Go.AL

def tab {α:Type} (f:Nat → α) (n:Nat):List α:=(List.range n).map f
section tab
variable {α:Type} {f g:Nat → α} {n i:Nat}
theorem zbI:(tab f n).length=n:=by simp [tab]
theorem zar [Inhabited α] (h:i < n):nth (tab f n) i=f i:=by simp [tab,nth,h]
end tab
attribute [go_sem] zbI
theorem zi0 {i s:Int} {b:Bool}:ze (.p (.agg [i64 i,.sl b 1 [],i64 s]))=some [.p (i64 i),.p (.sl b 1 []),.p (i64 s)]:=rfl
attribute [go_sem] zi0
def goG (first:Bool) (prev:List Gate) (g:Gate):Gate:=norm (if first then g else swp (zAC (swp (zAC g prev)) prev))
def fl (f:Bool → List Gate → Gate → Gate) (ls:List (List Gate)):Nat → List Gate
 | 0=>tab (fun j=>f true [] (nth (nth ls 0) j)) (nth ls 0).length
 | k+1=>tab (fun j=>f false (fl f ls k) (nth (nth ls (k+1)) j)) (nth ls (k+1)).length
def fold (f:Bool → List Gate → Gate → Gate) (c:Circ):Circ:=⟨c.inputs,tab (fl f c.layers) c.layers.length,c.sums⟩
def pv (f:Bool → List Gate → Gate → Gate) (ls:List (List Gate)) (k:Nat):List Gate:=if k=0 then [] else fl f ls (k - 1)
theorem zCR (f:Bool → List Gate → Gate → Gate) (ls:List (List Gate)) (k:Nat):fl f ls k=tab (fun j=>f (k == 0) (pv f ls k) (nth (nth ls k) j)) (nth ls k).length:=by
 cases k with
 | zero=>rfl
 | succ k=>rfl
theorem zBs {f:Bool → List Gate → Gate → Gate} {ls:List (List Gate)} {k i:Nat} (h:i < (nth ls k).length):nth (fl f ls k) i=f (k == 0) (pv f ls k) (nth (nth ls k) i):=by
 rw [zCR,zar h]

section op
variable {n:Int} {g:Gate} {p:List Gate}
end op

def keeps (f:Bool → List Gate → Gate → Gate):Prop := ∀ n b p g,opG n g → opG n (f b p g)
theorem Ok.fl {f:Bool → List Gate → Gate → Gate} (hf:keeps f) {c:Circ} (h:Ok c) {k i:Nat} (hk:k < c.layers.length) (hi:i < (nth c.layers k).length):opG (wid c k) (nth (fl f c.layers k) i):=by
 rw [zBs hi];exact hf _ _ _ _ (h.op k hk i hi)


theorem zol {α v sz:Nat} {l:List PV}:pvs? [.sl α v sz l]=some [.sl false sz l]:=rfl
attribute [go_sem] zol

section walks
variable {G:Globs}

end walks
end Go.Proofs.YthaoifcebimkfaaGreatDoor

namespace Go.Proofs.YthaoifcebimkfaaGreatDoor
open Go Go.AL


section walks
variable {G:Globs}

end walks
end Go.Proofs.YthaoifcebimkfaaGreatDoor

namespace Go.Proofs.YthaoifcebimkfaaGreatDoor
open Go Go.AL

def fst? (p:Nat → Bool):Nat → Option Nat
 | 0=>none
 | n+1=>match fst? p n with
  | some i=>some i
  | none=>if p n then some n else none
theorem zlg {p:Nat → Bool} {n:Nat}:fst? p n=none ↔ ∀ i,i < n → p i=false:=by
 induction n with
 | zero=>exact⟨fun _ i h=>absurd h (by omega),fun _=>rfl⟩
 | succ n ih =>
  simp only [fst?];constructor
  · intro h i hi
    cases hf:fst? p n with
    | some j=>rw [hf] at h;cases h
    | none =>
     rw [hf] at h;by_cases hp:p n=true
     · simp [hp] at h
     · by_cases e:i=n
       · subst e;simpa using hp
       · exact ih.1 hf i (by omega)
  · intro h;rw [ih.2 fun i hi=>h i (by omega)];simp [h n (by omega)]

def pos (o:Option Nat):Int:=match o with | some i=>i | none => -1
def zcS (l:List Gate) (g:Gate):Option Nat:=fst? (fun i=>decide (nth l i=g)) l.length
def zcT (g:Gate) (i:Int):Bool:=(zdo g && g.l == i) || (zbU g && g.r == i)
def zlh (l:List Gate) (i:Int):Bool:=(fst? (fun k=>zcT (nth l k) i) l.length).isSome
def zsW (l:List Bool):Nat → Nat
 | 0=>0
 | i+1=>if nth l i then zsW l i+1 else zsW l i

section walks
variable {G:Globs}

end walks
end Go.Proofs.YthaoifcebimkfaaGreatDoor

namespace Go.Proofs.YthaoifcebimkfaaGreatDoor
open Go Go.AL

def yv (c:Circ) (k:Nat) (next:List Gate) (i:Nat):Bool :=
 if k+1=c.layers.length then decide ((i:Int) < c.sums) || !zpZ (nth (nth c.layers k) i) || (nth (nth c.layers k) i).d != 0#64 else zlh next i
def zDp (c:Circ) (k:Nat) (next:List Gate) (i:Nat):Bool:=(fst? (yv c k next) i).isSome
def zp0 (c:Circ) (k:Nat) (next:List Gate):List Bool :=
 if zDp c k next (nth c.layers k).length then tab (yv c k next) (nth c.layers k).length else (tab (yv c k next) (nth c.layers k).length).set 0 true

section walks
variable {G:Globs}

end walks
end Go.Proofs.YthaoifcebimkfaaGreatDoor

namespace Go.Proofs.YthaoifcebimkfaaGreatDoor
open Go Go.AL

def shG (ns:List Int) (first:Bool) (g:Gate):Gate:=if first then g else ⟨nth ns g.l.toNat,nth ns g.r.toNat,g.c,g.a,g.b,g.d⟩
def zBt (ns:List Int) (first last:Bool) (l:List Gate):Nat → List Gate × List Int
 | 0=>([],[])
 | i+1 =>
  let s:=zBt ns first last l i
  let g:=shG ns first (nth l i)
  match zcS s.1 g with
  | some j=>if last then (s.1++[g],s.2++[(s.1.length:Int)]) else (s.1,s.2++[(j:Int)])
  | none=>(s.1++[g],s.2++[(s.1.length:Int)])
def shN (ls:List (List Gate)):Nat → List Gate × List Int
 | 0=>zBt [] true (1 == ls.length) (nth ls 0) (nth ls 0).length
 | k+1=>zBt (shN ls k).2 false (k+2 == ls.length) (nth ls (k+1)) (nth ls (k+1)).length
def zxh (c:Circ):Circ:=⟨c.inputs,tab (fun k=>(shN c.layers k).1) c.layers.length,c.sums⟩





section walks
variable {G:Globs}

end walks
end Go.Proofs.YthaoifcebimkfaaGreatDoor

namespace Go.Proofs.YthaoifcebimkfaaGreatDoor
open Go Go.AL

def yJ (b:List Bool) (l:List Gate):Nat → List Gate
 | 0=>[]
 | i+1=>if nth b i then yJ b l i++[nth l i] else yJ b l i
def dk (c:Circ):Nat → List Bool × List Gate
 | 0=>(zp0 c (c.layers.length - 1) [],yJ (zp0 c (c.layers.length - 1) []) (nth c.layers (c.layers.length - 1)) (nth c.layers (c.layers.length - 1)).length)
 | d+1=>(zp0 c (c.layers.length - 2 - d) (dk c d).2,yJ (zp0 c (c.layers.length - 2 - d) (dk c d).2) (nth c.layers (c.layers.length - 2 - d)) (nth c.layers (c.layers.length - 2 - d)).length)
def kb (c:Circ) (k:Nat):List Bool:=(dk c (c.layers.length - 1 - k)).1
theorem zli (b:List Bool) (l:List Gate) : ∀ i,(yJ b l i).length≤i
 | 0=>Nat.le_refl _
 | i+1=>by have:=zli b l i;simp only [yJ];split<;>simp<;>omega
def zlj (g:Gate):Gate:=m4 (n3 g)


def eH (H:Hp) (c:Circ) (T:List AB) (ls:List (List Gate)) (k:Nat):Hp :=
 ((app (((H.new (.cells (cc c))).new (.cells [.p (i64 0),.p (.sl true 1 []),.p (i64 0)])).new .dead) T).new (.cells [.p (i64 c.inputs),.sl (H.n+3+T.length+1) k 1 (pl (sle 6 zG) ls),.p (i64 c.sums)])).new (.tail k)

section walks
variable {G:Globs}

end walks
end Go.Proofs.YthaoifcebimkfaaGreatDoor

namespace Go.Proofs.YthaoifcebimkfaaGreatDoor
open Go Go.AL





def nv (n:Nat):AV := .p (i64 n)
theorem zsX {p q:Nat → Bool} {n:Nat} (h : ∀ i,i < n → p i=q i):fst? p n=fst? q n:=by
 induction n with
 | zero=>rfl
 | succ n ih=>simp only [fst?];rw [ih fun i hi=>h i (by omega),h n (by omega)]
theorem zom {l:List Gate} {g a:Gate}:zcS (l++[g]) a=match zcS l a with | some j=>some j | none=>if g=a then some l.length else none:=by
 have h1:fst? (fun i=>decide (nth (l++[g]) i=a)) l.length=zcS l a:=zsX fun i hi=>by rw [zI hi]
 unfold zcS at h1 ⊢;rw [show (l++[g]).length=l.length+1 by simp];simp only [fst?];rw [h1]
 cases fst? (fun i=>decide (nth l i=a)) l.length with
 | some j=>rfl
 | none =>
  have h2:nth (l++[g]) l.length=g:=by rw [zA (Nat.le_refl _),Nat.sub_self,zx]
  simp [h2]
def MapOf (m:List (Gate × Nat)) (l:List Gate):Prop:=(∀ p∈m,okG p.1) ∧ ∀ a,zD a m=zcS l a
theorem MapOf.put {m:List (Gate × Nat)} {l:List Gate} {g:Gate} (h:MapOf m l) (hok:okG g) (hg:zcS l g=none):MapOf (zbm g l.length m) (l++[g]):=⟨zhL m hok h.1,fun a=>by
 rw [zom,yO,h.2 a];by_cases e:g=a
 · subst e;rw [hg]
 · simp only [if_neg e];cases zcS l a<;>rfl⟩

theorem zBu {n:Nat}:nv n = .p (i64 n):=rfl
attribute [go_sem] zBu
section walks
variable {G:Globs}

end walks
end Go.Proofs.YthaoifcebimkfaaGreatDoor

namespace Go.Proofs.YthaoifcebimkfaaGreatDoor
open Go Go.AL

def iev (n:Int):Value := .int .i64 n
def okI (n:Int):Prop := -9223372036854775808≤n∧n≤9223372036854775807
def uv (_:Unit):AV := .p (.agg [])
theorem zi1 (n:Int) (h:okI n):(keyOf Tryz.prog 3 (iev n)).isSome=true:=by
 unfold keyOf;simp only [Tryz.underlying3,mapKey,iev];rw [if_pos ⟨trivial,wf_i64 h.1 h.2⟩];rfl
theorem zBv {u:Unit}:uv u = .p (.agg []):=rfl
theorem zlk:ze (.p (.agg []))=some []:=rfl
theorem zon:zm [] = .p (.agg []):=rfl
attribute [go_sem] zBv zlk zon

def zcV (b:List Bool) (l:List Gate):List Gate:=if (yJ b l l.length).length=0 then [nth l 0] else yJ b l l.length
def zAD (b:List Bool) (l:List Gate):List Int:=tab (fun j=>((yJ b l j).length:Int)) l.length
def gcs (l:List Gate):List AV:=(flat (pl zG l)).map .p
theorem zzC:gcs []=[]:=rfl
attribute [go_sem] zzC

section walks
variable {G:Globs}

end walks
end Go.Proofs.YthaoifcebimkfaaGreatDoor

namespace Go.Proofs.YthaoifcebimkfaaGreatDoor
open Go Go.AL


def reN (ns:List Int) (g:Gate):Gate:=⟨nth ns g.l.toNat,nth ns g.r.toNat,g.c,g.a,g.b,g.d⟩


section walks
variable {G:Globs}

end walks
end Go.Proofs.YthaoifcebimkfaaGreatDoor

namespace Go.Proofs.YthaoifcebimkfaaGreatDoor
open Go Go.AL

def gw (c:Circ):Nat → List Gate
 | 0=>zcV (tab (yv c (c.layers.length - 1) []) (nth c.layers (c.layers.length - 1)).length) (nth c.layers (c.layers.length - 1))
 | d+1=>zcV (tab (yv c (c.layers.length - 2 - d) (gw c d)) (nth c.layers (c.layers.length - 2 - d)).length) (nth c.layers (c.layers.length - 2 - d))
def gwN (c:Circ) (d:Nat):List Gate:=if d=0 then [] else gw c (d - 1)
def fw (c:Circ) (d:Nat):List Bool:=tab (yv c (c.layers.length - 1 - d) (gwN c d)) (nth c.layers (c.layers.length - 1 - d)).length
theorem zhT {c:Circ} (d:Nat):gw c d=zcV (fw c d) (nth c.layers (c.layers.length - 1 - d)):=by
 cases d with
 | zero=>rfl
 | succ d=>simp only [gw,fw,gwN,show c.layers.length - 1 - (d+1)=c.layers.length - 2 - d by omega,Nat.succ_ne_zero,if_false,Nat.add_sub_cancel]
def zzD (c:Circ) (k:Nat):List Int:=zAD (fw c (c.layers.length - 1 - k)) (nth c.layers k)
def gf (c:Circ) (k:Nat):List Gate:=(gw c (c.layers.length - 1 - k)).map (if k=0 then zlj else fun g=>zlj (reN (zzD c (k - 1)) g))
def zdq (c:Circ):Circ:=⟨c.inputs,tab (gf c) c.layers.length,c.sums⟩

theorem zll {b:List Bool} {l:List Gate} (h:1≤l.length):1≤(zcV b l).length∧(zcV b l).length≤l.length:=by
 unfold zcV
 have:=zli b l l.length
 split
 · simp;omega
 · omega
theorem zhU {b:List Bool} {l:List Gate} {Pr:Gate → Prop} (h : ∀ i,i < l.length → Pr (nth l i)) : ∀ i,i≤l.length → ∀ j,j < (yJ b l i).length → Pr (nth (yJ b l i) j)
 | 0,_,j,hj=>absurd hj (by simp [yJ])
 | i+1,hi,j,hj=>by
  have ih:=zhU (b:=b) h i (by omega);simp only [yJ] at hj ⊢;split at hj
  · rename_i hb;rw [if_pos hb];by_cases e:j < (yJ b l i).length
    · rw [zI e];exact ih j e
    · rw [zA (by omega),show j - (yJ b l i).length=0 by simp at hj;omega,zx];exact h i (by omega)
  · rename_i hb;rw [if_neg hb];exact ih j hj
theorem zhV {b:List Bool} {l:List Gate} {Pr:Gate → Prop} (hl:1≤l.length) (h : ∀ i,i < l.length → Pr (nth l i)) : ∀ j,j < (zcV b l).length → Pr (nth (zcV b l) j):=by
 unfold zcV
 split
 · intro j hj
   have:j=0:=by simpa using hj
   subst this;exact h 0 (by omega)
 · exact zhU h _ (Nat.le_refl _)
theorem zxi {c:Circ} (hc:Ok c) {d:Nat} (hd:d < c.layers.length):1≤(gw c d).length∧(gw c d).length≤1000:=by
 have h1:=hc.row (c.layers.length - 1 - d) (by omega);have h2:=zll (b:=fw c d) h1.1;rw [zhT];omega
theorem zCS {c:Circ} (hc:Ok c) {d:Nat} (hd:d < c.layers.length) : ∀ j,j < (gw c d).length → opG (wid c (c.layers.length - 1 - d)) (nth (gw c d) j):=by
 rw [zhT];exact zhV (hc.row (c.layers.length - 1 - d) (by omega)).1 (hc.op (c.layers.length - 1 - d) (by omega))



structure DX (H:Hp) (c:Circ) (a b:Nat) (rows:List AV) (X:Hp):Prop where
 n:H.n+5≤X.n
 f0:X.f H.n=some (.cells [.p (i64 c.inputs),.p (.sl false 1 (pl (sle 6 zG) c.layers)),.p (i64 c.sums)])
 f1:X.f (H.n+1)=some (.cells [.p (i64 0),.p (.sl true 1 []),.p (i64 0)])
 fa:X.f a=some (.cells rows)
 fb:X.f b=some (.cells [.p (i64 c.inputs),.ref a 0 c.layers.length 1,.p (i64 c.sums)])
 f4:X.f (H.n+4)=some (.cells [.p (i64 ((c.layers.length:Int) - 1))])
 bel:Bel H.n X
 tr:X.trunc H.n=H
structure Ext (H X Y:Hp):Prop where
 n:X.n≤Y.n
 f : ∀ z,z < X.n → Y.f z=X.f z
 bel:Bel H.n X → Bel H.n Y
 tr:Y.trunc H.n=X.trunc H.n
theorem Ext.app {H X:Hp} {T:List AB} (h:H.n≤X.n):Ext H X (app X T):=⟨by rw [app_n'];omega,fun z hz=>zd6 hz,fun hb=>zd8 hb h,zhG h⟩
theorem Ext.new {H X:Hp} {x:AB} (h:H.n≤X.n):Ext H X (X.new x):=⟨by rw [n_new'];omega,fun z hz=>Hp.f_new_old X x z hz,fun hb=>zam hb h,by rw [Hp.trunc_new X x H.n h]⟩
theorem Ext.trans {H X Y Z:Hp} (h1:Ext H X Y) (h2:Ext H Y Z):Ext H X Z:=⟨Nat.le_trans h1.n h2.n,fun z hz=>(h2.f z (Nat.lt_of_lt_of_le hz h1.n)).trans (h1.f z hz),fun h=>h2.bel (h1.bel h),h2.tr.trans h1.tr⟩
section dx
variable {H X Y:Hp} {c:Circ} {a b:Nat} {rows:List AV}
theorem DX.ext (h:DX H c a b rows X) (e:Ext H X Y):DX H c a b rows Y where
 n:=Nat.le_trans h.n e.n
 f0:=(e.f _ (Hp.lt h.f0)).trans h.f0
 f1:=(e.f _ (Hp.lt h.f1)).trans h.f1
 fa:=(e.f _ (Hp.lt h.fa)).trans h.fa
 fb:=(e.f _ (Hp.lt h.fb)).trans h.fb
 f4:=(e.f _ (Hp.lt h.f4)).trans h.f4
 bel:=e.bel h.bel
 tr:=e.tr.trans h.tr
theorem DX.le (h:DX H c a b rows X):H.n≤X.n:=by have:=h.n;omega
theorem DX.new {x:AB} (h:DX H c a b rows X):DX H c a b rows (X.new x):=h.ext (Ext.new h.le)
theorem DX.app {T:List AB} (h:DX H c a b rows X):DX H c a b rows (app X T):=h.ext (Ext.app h.le)
end dx
theorem zsY {n:Nat}:ze (.mp n)=some [.mp n]:=rfl
theorem zsZ {n l s:Nat}:ze (.vr n l s)=some [.vr n l s]:=rfl
attribute [go_sem] zsY zsZ
theorem zi2 {i s:Int} {a n:Nat}:ze (zm [.p (i64 i),.ref a 0 n 1,.p (i64 s)])=some [.p (i64 i),.ref a 0 n 1,.p (i64 s)]:=rfl
attribute [go_sem] zi2
section walks
variable {G:Globs}

end walks
end Go.Proofs.YthaoifcebimkfaaGreatDoor

namespace Go.Proofs.YthaoifcebimkfaaGreatDoor
open Go Go.AL

theorem zeg (b:List Bool) (l:List Gate) : ∀ i,(yJ b l i).length=zsW b i
 | 0=>rfl
 | i+1=>by
  have:=zeg b l i
  simp only [yJ,zsW]
  split
  · simp [this]
  · exact this





theorem zxj {l:List Gate} {g:Gate} {i:Nat} {x:Int} (hi:i < l.length) (hg:nth l i=g) (h:zlh l x=false):zcT g x=false:=by
 unfold zlh at h
 have:fst? (fun k=>zcT (nth l k) x) l.length=none:=by
  cases hf:fst? (fun k=>zcT (nth l k) x) l.length with
  | none=>rfl
  | some j=>rw [hf] at h;cases h
 have:=zlg.1 this i hi
 rw [hg] at this;exact this

end Go.Proofs.YthaoifcebimkfaaGreatDoor

namespace Go.Proofs.YthaoifcebimkfaaGreatDoor
open Go Go.AL

theorem zgw {b:List Bool} {l:List Gate} {i:Nat} : ∀ {j:Nat},i≤j → (yJ b l i).length≤(yJ b l j).length
 | 0,h=>by
  have:i=0:=by omega
  subst this;exact Nat.le_refl _
 | j+1,h=>by
  by_cases e:i=j+1
  · subst e;exact Nat.le_refl _
  · have:=zgw (b:=b) (l:=l) (i:=i) (j:=j) (by omega)
    simp only [yJ]
    split
    · simp;omega
    · exact this

theorem zlm {n:Int} {x:Gate} (hn:0 < n) (hl:zdo x=true → 0≤x.l∧x.l < n) (hr:zbU x=true → 0≤x.r∧x.r < n):opG n (zlj x):=by
 have h3:(0≤(n3 x).l∧(n3 x).l < n)∧(n3 x).r=x.r∧zbU (n3 x)=zbU x:=by
  unfold n3
  cases h:zdo x with
  | true=>exact⟨hl h,rfl,rfl⟩
  | false=>exact⟨⟨Int.le_refl _,hn⟩,rfl,rfl⟩
 unfold zlj m4;rw [h3.2.2]
 cases h:zbU x with
 | true =>
  have:=hr h
  exact⟨h3.1.1,h3.1.2,by rw [show (if (!true)=true then _ else n3 x)=n3 x from rfl,h3.2.1];exact this.1,by rw [show (if (!true)=true then _ else n3 x)=n3 x from rfl,h3.2.1];exact this.2⟩
 | false=>exact⟨h3.1.1,h3.1.2,Int.le_refl _,hn⟩

theorem zzE {l:List Gate} {g:Gate} {i:Nat} {x:Int} (hi:i < l.length) (hg:nth l i=g) (h:zcT g x=true):zlh l x=true:=by
 cases hu:zlh l x with
 | true=>rfl
 | false=>rw [zxj hi hg hu] at h;cases h

theorem Ok.dead {c:Circ} (hc:Ok c):Ok (zdq c) where
 inp:=hc.inp
 sums:=hc.sums
 len:=by show 1≤(tab _ _).length∧(tab _ _).length≤_;rw [zbI];exact hc.len
 row k hk:=by
  simp only [zdq,zbI] at hk ⊢;rw [zar hk,gf,List.length_map];exact zxi hc (by omega)
 op k hk i hi:=by
  simp only [zdq,zbI] at hk hi ⊢;rw [zar hk] at hi ⊢
  obtain⟨d,hd⟩ : ∃ d,c.layers.length - 1 - k=d:=⟨_,rfl⟩
  have hdn:d < c.layers.length:=by omega
  have hkd:c.layers.length - 1 - d=k:=by omega
  rw [gf,List.length_map,hd] at hi;rw [gf,zpy (by rw [hd];exact hi),hd];have ho:=zCS hc hdn i hi;rw [hkd] at ho
  obtain⟨g,hg⟩ : ∃ g,nth (gw c d) i=g:=⟨_,rfl⟩
  rw [hg] at ho ⊢;by_cases h0:k=0
  · subst h0;have hw:wid (⟨c.inputs,tab (gf c) c.layers.length,c.sums⟩:Circ) 0=wid c 0:=rfl;rw [hw,if_pos rfl]
    obtain⟨o1,o2,o3,o4⟩:=ho
    exact zlm (by omega) (fun _=>⟨o1,o2⟩) (fun _=>⟨o3,o4⟩)
  · rw [if_neg h0];rw [wid,if_neg h0] at ho
    obtain⟨o1,o2,o3,o4⟩:=ho
    have hd1:d+1 < c.layers.length:=by omega
    have hk1:c.layers.length - 1 - (d+1)=k - 1:=by omega
    have hfw:fw c (d+1)=tab (yv c (k - 1) (gw c d)) (nth c.layers (k - 1)).length:=by
     rw [fw,hk1,gwN,if_neg (by omega),Nat.add_sub_cancel]
    have hw:wid (⟨c.inputs,tab (gf c) c.layers.length,c.sums⟩:Circ) k=((gw c (d+1)).length:Int):=by
     rw [wid,if_neg h0];simp only;rw [zar (by omega),gf,List.length_map,show c.layers.length - 1 - (k - 1)=d+1 by omega]
    rw [hw];have hgl:=zxi hc hd1
    have key : ∀ x:Int,0≤x → x < ((nth c.layers (k - 1)).length:Int) → zcT g x=true → 0≤nth (zzD c (k - 1)) x.toNat∧nth (zzD c (k - 1)) x.toNat < ((gw c (d+1)).length:Int):=by
     intro x h1 h2 h3
     obtain⟨j,rfl⟩ : ∃ j:Nat,x=j:=⟨x.toNat,by omega⟩
     have hj:j < (nth c.layers (k - 1)).length:=by omega
     have hwant:nth (fw c (d+1)) j=true:=by
      rw [hfw,zar hj,yv,if_neg (by omega)];exact zzE hi hg h3
     rw [Int.toNat_natCast,zzD,show c.layers.length - 1 - (k - 1)=d+1 by omega,zAD,zar hj]
     have hs:(yJ (fw c (d+1)) (nth c.layers (k - 1)) (j+1)).length=(yJ (fw c (d+1)) (nth c.layers (k - 1)) j).length+1:=by
      simp only [yJ,hwant,if_true,List.length_append,List.length_cons,List.length_nil]
     have hm:=zgw (b:=fw c (d+1)) (l:=nth c.layers (k - 1)) (show j+1≤(nth c.layers (k - 1)).length by omega)
     have he:gw c (d+1)=yJ (fw c (d+1)) (nth c.layers (k - 1)) (nth c.layers (k - 1)).length:=by
      rw [zhT,hk1,zcV,if_neg (by omega)]
     rw [he];omega
    refine zlm (by omega) (fun h => ?_) (fun h => ?_)
    · have hu:zdo g=true:=h;exact key g.l o1 o2 (by simp [zcT,hu])
    · have hu:zbU g=true:=h;exact key g.r o3 o4 (by simp [zcT,hu])

def zln (f:Bool → List Gate → Gate → Gate) (c:Circ):Circ:=zdq (zxh (fold f c))

section walks
variable {G:Globs}

end walks
end Go.Proofs.YthaoifcebimkfaaGreatDoor

namespace Go.Proofs.YthaoifcebimkfaaGreatDoor
open Go Go.AL

structure Vd (c:Circ):Prop where
 ok:Ok c
 inp:c.inputs≤64
 len:c.layers.length≤64
 row : ∀ k,k < c.layers.length → (nth c.layers k).length≤64
 sm:c.sums≤((nth c.layers (c.layers.length - 1)).length:Int)
 vg : ∀ k,k < c.layers.length → ∀ i,i < (nth c.layers k).length → vG (nth (nth c.layers k) i) (wid c k)=true

section walks
variable {G:Globs}

end walks
end Go.Proofs.YthaoifcebimkfaaGreatDoor

namespace Go.Proofs.YthaoifcebimkfaaGreatDoor
open Go Go.AL

theorem zxk {g:Gate} {n:Int} (h:vG g n=true):(0≤g.l∧g.l < n∧0≤g.r∧g.r < n)∧valid g.c=true∧valid g.a=true∧valid g.b=true∧valid g.d=true:=by
 simp only [vG,Bool.and_eq_true,decide_eq_true_eq] at h
 obtain⟨⟨⟨⟨⟨⟨⟨h1,h2⟩,h3⟩,h4⟩,h5⟩,h6⟩,h7⟩,h8⟩:=h
 exact⟨⟨h1,h2,h3,h4⟩,h5,h6,h7,h8⟩

section walks
variable {G:Globs}


theorem zlo (xs:List (List Gate)) (hl:xs.length≤1000) (f:Nat) (caps:List AV) (hent:enters Tryz.prog f=true) (hcw:caps.map AV.weak=caps) (H:Hp) (hf : ∀ i,i < xs.length → ∀ R:AV → Hp → Prop,R (.p (bo false)) H → ACall Tryz.prog G f (.p (.sl false 6 (pl zG (nth xs i))) :: caps) H R) (R:AV → Hp → Prop) (h:R (.p (i64 (-1))) H) :
 ACall Tryz.prog G 95 [.p (.sl false 1 (pl (sle 6 zG) xs)),.clo f [] caps] H R:=by
 refine ACall.of_run (raw:=[]) Tryz.func95 rfl Tryz.ntmps95 (by simp) fun hbel => ?_
 refine .qt rfl ?_;simp (disch:=first|exact za|fail) only [go_sem,seval];refine .qt rfl ?_;simp (disch:=first|exact za|fail) only [go_sem,seval];refine .q ?_;refine .count (fun i env H'=>env 0 = .p (.sl false 1 (pl (sle 6 zG) xs))∧env 1 = .clo f [] caps∧env 7 = .p (i64 xs.length)∧env 8 = .p (i64 i)∧H'=H) 0 xs.length (by omega) ?_ ?_ ?_
 · simp (disch:=first|exact za|fail) only [go_sem,seval]
 · intro env H' ⟨e0,e1,e7,e8,eH⟩;subst eH;refine .qt rfl ?_;simp (disch:=first|exact za|fail) only [go_sem,seval,e7,e8];refine .qF rfl ?_;refine .qt rfl ?_;simp (disch:=first|exact za|fail) only [go_sem,seval];refine .qr rfl Tryz.func95 (by rw [Tryz.results95]) ?_;simp (disch:=first|exact za|fail) only [go_sem,seval];exact h
 · intro i env H' _ hi ⟨e0,e1,e7,e8,eH⟩ ih;subst eH;have hfi:=hf i hi;refine .qt rfl ?_;simp (disch:=first|exact za|fail) only [go_sem,seval,e7,e8];refine .qT rfl ?_;refine .qt rfl ?_;simp (disch:=first|exact za|fail) only [go_sem,seval,e8];refine .qt rfl ?_;simp (disch:=first|exact za|fail) only [go_sem,seval,e0,e1,hent,hcw];refine CallK.of (fun R h=>hfi R h) ?_;simp (disch:=first|exact za|fail) only [go_sem,seval];refine .qF rfl ?_;refine .qt rfl ?_;simp (disch:=first|exact za|fail) only [go_sem,seval,e8];refine ih _ _ ?_;simp (disch:=first|exact za|fail) only [go_sem,seval,e0,e1,e7,e8]

theorem zcW (xs:List (List Gate)) (hl:xs.length≤1000) (f:Nat) (caps:List AV) (hent:enters Tryz.prog f=true) (hcw:caps.map AV.weak=caps) (H:Hp) (hf : ∀ i,i < xs.length → ∀ R:AV → Hp → Prop,R (.p (bo false)) H → ACall Tryz.prog G f (.p (.sl false 6 (pl zG (nth xs i))) :: caps) H R) (R:AV → Hp → Prop) (h:R (.p (bo false)) H) :
 ACall Tryz.prog G 41 [.p (.sl false 1 (pl (sle 6 zG) xs)),.clo f [] caps] H R:=by
 refine ACall.of_run (raw:=[]) Tryz.func41 rfl Tryz.ntmps41 (by simp) fun hbel => ?_
 refine .qt rfl ?_;simp (disch:=first|exact za|fail) only [go_sem,seval];refine .qt rfl ?_;simp (disch:=first|exact za|fail) only [go_sem,seval];refine CallK.of (fun R h=>zlo xs hl f caps hent hcw _ hf R h) ?_;simp (disch:=first|exact za|fail) only [go_sem,seval];refine .qr rfl Tryz.func41 (by rw [Tryz.results41]) ?_;simp (disch:=first|exact za|fail) only [go_sem,seval];exact h

theorem zlp (xs:List Gate) (hl:xs.length≤1000) (f:Nat) (caps:List AV) (hent:enters Tryz.prog f=true) (hcw:caps.map AV.weak=caps) (H:Hp) (hf : ∀ i,i < xs.length → ∀ R:AV → Hp → Prop,R (.p (bo false)) H → ACall Tryz.prog G f (.p (zG (nth xs i)) :: caps) H R) (R:AV → Hp → Prop) (h:R (.p (i64 (-1))) H) :
 ACall Tryz.prog G 122 [.p (.sl false 6 (pl zG xs)),.clo f [] caps] H R:=by
 refine ACall.of_run (raw:=[]) Tryz.func122 rfl Tryz.ntmps122 (by simp) fun hbel => ?_
 refine .qt rfl ?_;simp (disch:=first|exact za|fail) only [go_sem,seval];refine .qt rfl ?_;simp (disch:=first|exact za|fail) only [go_sem,seval];refine .q ?_;refine .count (fun i env H'=>env 0 = .p (.sl false 6 (pl zG xs))∧env 1 = .clo f [] caps∧env 7 = .p (i64 xs.length)∧env 8 = .p (i64 i)∧H'=H) 0 xs.length (by omega) ?_ ?_ ?_
 · simp (disch:=first|exact za|fail) only [go_sem,seval]
 · intro env H' ⟨e0,e1,e7,e8,eH⟩;subst eH;refine .qt rfl ?_;simp (disch:=first|exact za|fail) only [go_sem,seval,e7,e8];refine .qF rfl ?_;refine .qt rfl ?_;simp (disch:=first|exact za|fail) only [go_sem,seval];refine .qr rfl Tryz.func122 (by rw [Tryz.results122]) ?_;simp (disch:=first|exact za|fail) only [go_sem,seval];exact h
 · intro i env H' _ hi ⟨e0,e1,e7,e8,eH⟩ ih;subst eH;have hfi:=hf i hi;refine .qt rfl ?_;simp (disch:=first|exact za|fail) only [go_sem,seval,e7,e8];refine .qT rfl ?_;refine .qt rfl ?_;simp (disch:=first|exact za|fail) only [go_sem,seval,e8];refine .qt rfl ?_;simp (disch:=first|exact za|fail) only [go_sem,seval,e0,e1,hent,hcw];refine CallK.of (fun R h=>hfi R h) ?_;simp (disch:=first|exact za|fail) only [go_sem,seval];refine .qF rfl ?_;refine .qt rfl ?_;simp (disch:=first|exact za|fail) only [go_sem,seval,e8];refine ih _ _ ?_;simp (disch:=first|exact za|fail) only [go_sem,seval,e0,e1,e7,e8]

theorem zgx (xs:List Gate) (hl:xs.length≤1000) (f:Nat) (caps:List AV) (hent:enters Tryz.prog f=true) (hcw:caps.map AV.weak=caps) (H:Hp) (hf : ∀ i,i < xs.length → ∀ R:AV → Hp → Prop,R (.p (bo false)) H → ACall Tryz.prog G f (.p (zG (nth xs i)) :: caps) H R) (R:AV → Hp → Prop) (h:R (.p (bo false)) H) :
 ACall Tryz.prog G 76 [.p (.sl false 6 (pl zG xs)),.clo f [] caps] H R:=by
 refine ACall.of_run (raw:=[]) Tryz.func76 rfl Tryz.ntmps76 (by simp) fun hbel => ?_
 refine .qt rfl ?_;simp (disch:=first|exact za|fail) only [go_sem,seval];refine .qt rfl ?_;simp (disch:=first|exact za|fail) only [go_sem,seval];refine CallK.of (fun R h=>zlp xs hl f caps hent hcw _ hf R h) ?_;simp (disch:=first|exact za|fail) only [go_sem,seval];refine .qr rfl Tryz.func76 (by rw [Tryz.results76]) ?_;simp (disch:=first|exact za|fail) only [go_sem,seval];exact h

theorem zhb (l:List Gate) (hl:l.length≤64) (H:Hp) (R:AV → Hp → Prop) (h:R (.p (bo false)) H):ACall Tryz.prog G 71 [.p (.sl false 6 (pl zG l))] H R:=by
 refine ACall.of_run (raw:=[]) Tryz.func71 rfl Tryz.ntmps71 (by simp) fun hbel => ?_
 refine .qt rfl ?_;simp (disch:=first|exact za|fail) only [go_sem,seval];refine .qt rfl ?_;simp (disch:=first|exact za|fail) only [go_sem,seval];refine .qr rfl Tryz.func71 (by rw [Tryz.results71]) ?_;simp (disch:=first|exact za|fail) only [go_sem,seval];exact h

theorem zhc (l:List Gate) (hl:1≤l.length) (H:Hp) (R:AV → Hp → Prop) (h:R (.p (bo false)) H):ACall Tryz.prog G 72 [.p (.sl false 6 (pl zG l))] H R:=by
 refine ACall.of_run (raw:=[]) Tryz.func72 rfl Tryz.ntmps72 (by simp) fun hbel => ?_
 have hz:((l.length:Int) == 0)=false:=beq_eq_false_iff_ne.2 (by omega);refine .qt rfl ?_;simp (disch:=first|exact za|fail) only [go_sem,seval];refine .qt rfl ?_;simp (disch:=first|exact za|fail) only [go_sem,seval,hz];refine .qr rfl Tryz.func72 (by rw [Tryz.results72]) ?_;simp (disch:=first|exact za|fail) only [go_sem,seval];exact h

theorem zcX (x n:Int) (hx:0≤x∧x < n) (p:Nat) (H:Hp) (hp:H.f p=some (.cells [.p (i64 n)])) (R:AV → Hp → Prop) (h:R (.p (bo false)) H):ACall Tryz.prog G 74 [.p (i64 x),.ptr p 0] H R:=by
 refine ACall.of_run (raw:=[]) Tryz.func74 rfl Tryz.ntmps74 (by simp) fun hbel => ?_
 obtain⟨h1,h2⟩:=hx
 refine .qt rfl ?_;simp (disch:=first|exact za|fail) only [go_sem,seval];refine .qt rfl ?_;simp (disch:=first|exact za|fail) only [go_sem,seval,hp];refine .qr rfl Tryz.func74 (by rw [Tryz.results74]) ?_;simp (disch:=first|exact za|fail) only [go_sem,seval];exact h

theorem zhd (g:Gate) (n:Int) (hg:vG g n=true) (p:Nat) (H:Hp) (hp:H.f p=some (.cells [.p (i64 n)])) (R:AV → Hp → Prop) (h:R (.p (bo false)) H):ACall Tryz.prog G 73 [.p (zG g),.ptr p 0] H R:=by
 refine ACall.of_run (raw:=[]) Tryz.func73 rfl Tryz.ntmps73 (by simp) fun hbel => ?_
 obtain⟨⟨h1,h2,h3,h4⟩,h5,h6,h7,h8⟩:=zxk hg
 have hpl:=Hp.lt hp
 have hp1 : ∀ x,(H.new x).f p=some (.cells [.p (i64 n)]):=fun x=>by rw [Hp.f_new_old H x p hpl];exact hp
 refine .qt rfl ?_;simp (disch:=first|exact za|fail) only [go_sem,seval];refine .qt rfl ?_;simp (disch:=first|exact za|fail) only [go_sem,seval];refine .qt rfl ?_;simp (disch:=first|exact za|fail) only [go_sem,seval];refine CallK.of (fun R h=>zcX g.l n ⟨h1,h2⟩ p _ (hp1 _) R h) ?_;simp (disch:=first|exact za|fail) only [go_sem,seval];refine CallK.of (fun R h=>zcX g.r n ⟨h3,h4⟩ p _ (hp1 _) R h) ?_;simp (disch:=first|exact za|fail) only [go_sem,seval];refine CallK.of (fun R h=>zbH _ _ R h) ?_;simp (disch:=first|exact za|fail) only [go_sem,seval,h5];refine CallK.of (fun R h=>zbH _ _ R h) ?_;simp (disch:=first|exact za|fail) only [go_sem,seval,h6];refine CallK.of (fun R h=>zbH _ _ R h) ?_;simp (disch:=first|exact za|fail) only [go_sem,seval,h7];refine CallK.of (fun R h=>zbH _ _ R h) ?_;simp (disch:=first|exact za|fail) only [go_sem,seval,h8];refine .qr rfl Tryz.func73 (by rw [Tryz.results73]) ?_;simp (disch:=first|exact za|fail) only [go_sem,seval];exact h

set_option maxHeartbeats 8000000 in
theorem zdM (c:Circ) (hv:Vd c) (H:Hp) (R:AV → Hp → Prop) (h:R (.p (i64 0)) H):ACall Tryz.prog G 30 [.p (zbK c)] H R:=by
 refine ACall.of_run (raw:=[]) Tryz.func30 rfl Tryz.ntmps30 (by simp) fun hbel => ?_
 have hc:=hv.ok
 obtain⟨hl1,hl⟩:=hc.len
 obtain⟨hi1,_⟩:=hc.inp
 obtain⟨hs1,_⟩:=hc.sums
 have hi2:=hv.inp;have hl2:=hv.len;have hsm:=hv.sm;have hr0:=hc.row (c.layers.length - 1) (by omega);have hz0:((c.layers.length:Int) == 0)=false:=beq_eq_false_iff_ne.2 (by omega);refine .qt rfl ?_;simp (disch:=first|exact za|fail) only [go_sem,seval];refine .qt rfl ?_;simp (disch:=first|exact za|fail) only [go_sem,seval];refine .qt rfl ?_;simp (disch:=first|exact za|fail) only [go_sem,seval];refine CallK.of (fun R h=>zcW c.layers hl 71 [] zk5 rfl _ (fun i hi R h=>zhb _ (hv.row i hi) _ R h) R h) ?_;simp (disch:=first|exact za|fail) only [go_sem,seval];refine .qF rfl ?_;refine .qt rfl ?_;simp (disch:=first|exact za|fail) only [go_sem,seval];refine .q ?_;refine .open [] follows (by kernel_rfl) ?_;simp (disch:=first|exact za|fail) only [go_sem,seval,hz0];refine CallD.still (fun R h=>zcW c.layers hl 72 [] zk6 rfl _ (fun i hi R h=>zhc _ (hc.row i hi).1 _ R h) R h) ?_;simp (disch:=first|exact za|fail) only [go_sem,seval];refine .qF rfl ?_;refine .qt rfl ?_;simp (disch:=first|exact za|fail) only [go_sem,seval];refine .qt rfl ?_;simp (disch:=first|exact za|fail) only [go_sem,seval];refine .qt rfl ?_;simp (disch:=first|exact za|fail) only [go_sem,seval];refine .q ?_;refine .count (fun k env H'=>env 1 = .ptr H.n 0∧env 5 = .ptr (H.n+1) 0∧env 6 = .clo 73 [] [.ptr (H.n+1) 0]∧env 62 = .p (.sl false 1 (pl (sle 6 zG) c.layers))∧env 63 = .p (i64 c.layers.length)∧env 64 = .p (i64 k)∧H'=(H.new (.cells (cc c))).new (.cells [.p (i64 (wid c k))])) 0 c.layers.length (by omega) ?_ ?_ ?_
 · simp (disch:=first|exact za|fail) only [go_sem,seval];rfl
 · intro env H' ⟨e1,e5,e6,e62,e63,e64,eH⟩;subst eH;refine .qt rfl ?_;simp (disch:=first|exact za|fail) only [go_sem,seval,e63,e64];refine .qF rfl ?_;refine .qt rfl ?_;simp (disch:=first|exact za|fail) only [go_sem,seval];refine .qr rfl Tryz.func30 (by rw [Tryz.results30]) ?_;simp (disch:=first|exact za|fail) only [go_sem,seval];exact h
 · intro k env H' _ hk ⟨e1,e5,e6,e62,e63,e64,eH⟩ ih;subst eH;have hr:=(hc.row k hk).2
   have hf : ∀ Hx:Hp,Hx.f (H.n+1)=some (.cells [.p (i64 (wid c k))]) → ∀ i,i < (nth c.layers k).length → ∀ R:AV → Hp → Prop,R (.p (bo false)) Hx → ACall Tryz.prog G 73 (.p (zG (nth (nth c.layers k) i)) :: [.ptr (H.n+1) 0]) Hx R:=fun Hx hx i hi R h=>zhd _ _ (hv.vg k hk i hi) _ _ hx R h
   refine .qt rfl ?_;simp (disch:=first|exact za|fail) only [go_sem,seval,e63,e64];refine .qT rfl ?_;refine .qt rfl ?_;simp (disch:=first|exact za|fail) only [go_sem,seval,e62,e64];refine .qt rfl ?_;simp (disch:=first|exact za|fail) only [go_sem,seval,e6];refine CallK.of (fun R h=>zgx (nth c.layers k) hr 73 [.ptr (H.n+1) 0] zk7 rfl _ (hf _ (by simp (disch:=first|exact za|fail) only [go_sem,seval])) R h) ?_;simp (disch:=first|exact za|fail) only [go_sem,seval];refine .qF rfl ?_;refine .qt rfl ?_;simp (disch:=first|exact za|fail) only [go_sem,seval,e5];refine .qt rfl ?_;simp (disch:=first|exact za|fail) only [go_sem,seval,e64];refine ih _ _ ?_;simp (disch:=first|exact za|fail) only [go_sem,seval,e1,e5,e6,e62,e63,e64];rfl
end walks
end Go.Proofs.YthaoifcebimkfaaGreatDoor

namespace Go.Proofs.YthaoifcebimkfaaGreatDoor
open Go Go.AL


theorem zs0 {f:Nat} {a b:List AV}:zm [.clo f a b] = .agg [.clo f a b]:=rfl
theorem zoo {xs:List AV}:ze (.agg xs)=some xs:=rfl
theorem zop {f g h:Nat} {a b a' b' a'' b'':List AV}:zm [.clo f a b,.clo g a' b',.clo h a'' b''] = .agg [.clo f a b,.clo g a' b',.clo h a'' b'']:=rfl
theorem isAggV_agg {xs:List AV}:(AV.agg xs).isAggV=true:=rfl
attribute [go_sem] zs0 zoo zop isAggV_agg
section walks
variable {G:Globs}

end walks
end Go.Proofs.YthaoifcebimkfaaGreatDoor

namespace Go.Proofs.YthaoifcebimkfaaGreatDoor
open Go Go.AL

def mdM (c:Circ) (i:Nat):Nat:=if i < c.layers.length then min (nth c.layers i).length 6 else 0
def mdR (c:Circ) (i:Nat) (n:Int):List Gate:=if mdM c i=0 then [⟨0,0,0#64,1#64,0#64,0#64⟩] else tab (fun k=>mkG (nth (nth c.layers i) k) n) (mdM c i)
def mdI (c:Circ):Int:=1+c.inputs % 256 % 6
def mdL (c:Circ):Nat → List Gate
 | 0=>mdR c 0 (mdI c)
 | i+1=>mdR c (i+1) ((mdL c i).length:Int)
def mdW (c:Circ) (i:Nat):Int:=if i=0 then mdI c else ((mdL c (i - 1)).length:Int)
def mdN (c:Circ):Nat:=max 1 (min c.layers.length 4)
def made (c:Circ):Circ:=⟨mdI c,tab (mdL c) (mdN c),c.sums % 256 % (mdW c (mdN c)+1)⟩


theorem zoq {i s:Int}:ze (.p (.agg [i64 i,i64 s]))=some [.p (i64 i),.p (i64 s)]:=rfl
attribute [go_sem] zoq
section walks
variable {G:Globs}

end walks
end Go.Proofs.YthaoifcebimkfaaGreatDoor

namespace Go.Proofs.YthaoifcebimkfaaGreatDoor
open Go Go.AL

def clM (raw:List (List U)) (N i:Nat):Nat:=if i < raw.length then min (nth raw i).length N else 0
def zDt (raw:List (List U)) (N i m:Nat):List U:=tab (fun t=>if t < m then zfl (nth (nth raw i) t) else 0#64) N
def clR (raw:List (List U)) (N i:Nat):List U:=zDt raw N i (clM raw N i)
def zDh (raw:List (List U)) (n N:Nat):List (List U):=tab (clR raw N) n

section walks
variable {G:Globs}

end walks
end Go.Proofs.YthaoifcebimkfaaGreatDoor

namespace Go.Proofs.YthaoifcebimkfaaGreatDoor
open Go Go.AL

theorem yS {a:U}:valid a=true ↔ a.toNat < 18446744069414584321:=by
 unfold valid;rw [decide_eq_true_eq,BitVec.lt_def];rfl
theorem zcY {x:U}:(zfl x).toNat=x.toNat % 18446744069414584321:=by
 unfold zfl;rw [BitVec.toNat_umod];rfl
theorem zbr {x:U}:valid (zfl x)=true:=by
 rw [yS,zcY];omega
theorem zbs {a b:U} (ha:valid a=true) (hb:valid b=true):(zdl a b).toNat=(a.toNat+b.toNat) % 18446744069414584321:=by
 rw [yS] at ha hb;have hp:(18446744069414584321#64:U).toNat=18446744069414584321:=rfl
 have hs:(18446744069414584321#64 - b).toNat=18446744069414584321 - b.toNat:=by
  rw [BitVec.toNat_sub_of_le (by rw [BitVec.le_def,hp];omega),hp]
 unfold zdl
 split
 · rename_i h;rw [BitVec.le_def,hs] at h;rw [BitVec.toNat_sub_of_le (by rw [BitVec.le_def,hs];exact h),hs];omega
 · rename_i h;rw [BitVec.le_def,hs] at h;rw [BitVec.toNat_add];omega
theorem zcn {a:U} (ha:valid a=true):(ziX a).toNat=a.toNat*4294967296 % 18446744069414584321:=by
 rw [yS] at ha
 have h1:(a % 4294967296#64*4294967296#64).toNat=a.toNat % 4294967296*4294967296:=by
  rw [BitVec.toNat_mul,BitVec.toNat_umod]
  show a.toNat % 4294967296*4294967296 % 2 ^ 64=_
  omega
 have h2:(a / 4294967296#64*4294967295#64).toNat=a.toNat / 4294967296*4294967295:=by
  rw [BitVec.toNat_mul,BitVec.toNat_udiv]
  show a.toNat / 4294967296*4294967295 % 2 ^ 64=_
  omega
 unfold ziX;rw [zbs zbr zbr,zcY,zcY,h1,h2];omega
theorem zaA {a:U} {n:Nat} (h:a.toNat=n % 18446744069414584321):valid a=true:=by
 rw [yS,h];omega
end Go.Proofs.YthaoifcebimkfaaGreatDoor

namespace Go.Proofs.YthaoifcebimkfaaGreatDoor
open Go Go.AL

theorem zbY {x y:Nat} (hx:x < 4294967296) (hy:y < 4294967296):x*y≤4294967295*4294967295:=Nat.mul_le_mul (by omega) (by omega)

theorem zhW {a b:U} (ha:valid a=true) (hb:b.toNat < 4294967296):(zpX a b).toNat=a.toNat*b.toNat % 18446744069414584321:=by
 rw [yS] at ha
 have h1:(a % 4294967296#64*b).toNat=a.toNat % 4294967296*b.toNat:=by
  rw [BitVec.toNat_mul,BitVec.toNat_umod]
  show a.toNat % 4294967296*b.toNat % 2 ^ 64=_
  have:=zbY (x:=a.toNat % 4294967296) (by omega) hb
  omega
 have h2:(a / 4294967296#64*b).toNat=a.toNat / 4294967296*b.toNat:=by
  rw [BitVec.toNat_mul,BitVec.toNat_udiv]
  show a.toNat / 4294967296*b.toNat % 2 ^ 64=_
  have:=zbY (x:=a.toNat / 4294967296) (by omega) hb
  omega
 have h3:a.toNat*b.toNat=a.toNat / 4294967296*b.toNat*4294967296+a.toNat % 4294967296*b.toNat:=by
  conv=>lhs;rw [←Nat.div_add_mod a.toNat 4294967296,Nat.add_mul]
  rw [Nat.mul_comm 4294967296,Nat.mul_right_comm]
 unfold zpX;rw [zbs zbr (zaA (zcn zbr)),zcY,zcn zbr,zcY,h1,h2,h3]
 generalize a.toNat / 4294967296*b.toNat=B
 generalize a.toNat % 4294967296*b.toNat=A
 omega

theorem zeh {a b:U} (ha:valid a=true) (hb:valid b=true):(zeb a b).toNat=a.toNat*b.toNat % 18446744069414584321:=by
 have hb':=yS.1 hb
 have l1:(b % 4294967296#64).toNat=b.toNat % 4294967296:=by rw [BitVec.toNat_umod];rfl
 have l2:(b / 4294967296#64).toNat=b.toNat / 4294967296:=by rw [BitVec.toNat_udiv];rfl
 have e1:=zhW (b:=b % 4294967296#64) ha (by rw [l1];omega);have e2:=zhW (b:=b / 4294967296#64) ha (by rw [l2];omega);rw [l1] at e1;rw [l2] at e2
 have h3:a.toNat*b.toNat=a.toNat*(b.toNat / 4294967296)*4294967296+a.toNat*(b.toNat % 4294967296):=by
  conv=>lhs;rw [←Nat.div_add_mod b.toNat 4294967296,Nat.mul_add]
  rw [Nat.mul_comm 4294967296,Nat.mul_assoc]
 unfold zeb;rw [zbs (zaA e1) (zaA (zcn (zaA e2))),e1,zcn (zaA e2),e2,h3]
 generalize a.toNat*(b.toNat / 4294967296)=B
 generalize a.toNat*(b.toNat % 4294967296)=A
 omega

theorem zcZ {x:U}:(x &&& 4294967295#64).toNat=x.toNat % 4294967296:=by
 rw [BitVec.toNat_and];exact Nat.and_two_pow_sub_one_eq_mod x.toNat 32
theorem zei {x:U}:(x >>> 32).toNat=x.toNat / 4294967296:=by
 rw [BitVec.toNat_ushiftRight,Nat.shiftRight_eq_div_pow]

theorem zs1 {a b:U}:(zhR a b).toNat=a.toNat*b.toNat / 18446744073709551616:=by
 have ha:=a.isLt;have hb:=b.isLt;have q00:=zbY (x:=a.toNat % 4294967296) (y:=b.toNat % 4294967296) (by omega) (by omega);have q10:=zbY (x:=a.toNat / 4294967296) (y:=b.toNat % 4294967296) (by omega) (by omega);have q01:=zbY (x:=a.toNat % 4294967296) (y:=b.toNat / 4294967296) (by omega) (by omega);have q11:=zbY (x:=a.toNat / 4294967296) (y:=b.toNat / 4294967296) (by omega) (by omega)
 have h3:a.toNat*b.toNat=a.toNat / 4294967296*(b.toNat / 4294967296)*18446744073709551616+(a.toNat / 4294967296*(b.toNat % 4294967296)+a.toNat % 4294967296*(b.toNat / 4294967296))*4294967296+a.toNat % 4294967296*(b.toNat % 4294967296):=by
  conv=>lhs;rw [←Nat.div_add_mod a.toNat 4294967296,←Nat.div_add_mod b.toNat 4294967296]
  generalize a.toNat / 4294967296=x1
  generalize a.toNat % 4294967296=x0
  generalize b.toNat / 4294967296=y1
  generalize b.toNat % 4294967296=y0
  rw [Nat.add_mul,Nat.mul_add,Nat.mul_add]
  have e1:4294967296*x1*(4294967296*y1)=x1*y1*18446744073709551616:=by
   rw [Nat.mul_mul_mul_comm,Nat.mul_comm]
  have e2:4294967296*x1*y0=x1*y0*4294967296:=by rw [Nat.mul_assoc,Nat.mul_comm]
  have e3:x0*(4294967296*y1)=x0*y1*4294967296:=by rw [Nat.mul_left_comm,Nat.mul_comm]
  rw [e1,e2,e3];omega
 have t00:((a &&& 4294967295#64)*(b &&& 4294967295#64)).toNat=a.toNat % 4294967296*(b.toNat % 4294967296):=by
  rw [BitVec.toNat_mul,zcZ,zcZ];omega
 have t10:((a >>> 32)*(b &&& 4294967295#64)).toNat=a.toNat / 4294967296*(b.toNat % 4294967296):=by
  rw [BitVec.toNat_mul,zcZ,zei];omega
 have t01:((a &&& 4294967295#64)*(b >>> 32)).toNat=a.toNat % 4294967296*(b.toNat / 4294967296):=by
  rw [BitVec.toNat_mul,zcZ,zei];omega
 have t11:((a >>> 32)*(b >>> 32)).toNat=a.toNat / 4294967296*(b.toNat / 4294967296):=by
  rw [BitVec.toNat_mul,zei,zei];omega
 unfold zhR;simp only [BitVec.toNat_add,zei,zcZ,t00,t10,t01,t11];rw [h3]
 generalize a.toNat / 4294967296*(b.toNat / 4294967296)=p11 at *
 generalize a.toNat / 4294967296*(b.toNat % 4294967296)=p10 at *
 generalize a.toNat % 4294967296*(b.toNat / 4294967296)=p01 at *
 generalize a.toNat % 4294967296*(b.toNat % 4294967296)=p00 at *
 omega
end Go.Proofs.YthaoifcebimkfaaGreatDoor

namespace Go.Proofs.YthaoifcebimkfaaGreatDoor
open Go Go.AL


theorem zaB {a b:U} (ha:valid a=true) (hb:valid b=true):valid (zdl a b)=true:=zaA (zbs ha hb)
theorem yD {a b:U} (ha:valid a=true) (hb:valid b=true):valid (zeb a b)=true:=zaA (zeh ha hb)
theorem zac:valid 0#64=true:=by decide

def fvG (g:Gate):Prop:=valid g.c=true∧valid g.a=true∧valid g.b=true∧valid g.d=true

theorem zhX {a:U} (ha:valid a=true):zeb 0#64 a=0#64:=BitVec.eq_of_toNat_eq (by rw [zeh zac ha];simp)
theorem zhY {a:U} (ha:valid a=true):zdl a 0#64=a:=BitVec.eq_of_toNat_eq (by rw [zbs ha zac];have:=yS.1 ha;simp;omega)
end Go.Proofs.YthaoifcebimkfaaGreatDoor

namespace Go.Proofs.YthaoifcebimkfaaGreatDoor
open Go Go.AL








end Go.Proofs.YthaoifcebimkfaaGreatDoor

namespace Go.Proofs.YthaoifcebimkfaaGreatDoor
open Go Go.AL

theorem zCT {x:Gate} (h:fvG x):fvG (n3 x):=by unfold n3;split<;>exact⟨h.1,h.2.1,h.2.2.1,h.2.2.2⟩
theorem zCU {x:Gate} (h:fvG x):fvG (m4 x):=by unfold m4;split<;>exact⟨h.1,h.2.1,h.2.2.1,h.2.2.2⟩

theorem Vd.fv {c:Circ} (h:Vd c) {k i:Nat} (hk:k < c.layers.length) (hi:i < (nth c.layers k).length):fvG (nth (nth c.layers k) i):=by
 obtain⟨_,h1,h2,h3,h4⟩:=zxk (h.vg k hk i hi)
 exact⟨h1,h2,h3,h4⟩



theorem zCV {g:Gate} {n:Int} (ho:opG n g) (hf:fvG g):vG g n=true:=by
 simp only [vG,Bool.and_eq_true,decide_eq_true_eq]
 exact⟨⟨⟨⟨⟨⟨⟨ho.1,ho.2.1⟩,ho.2.2.1⟩,ho.2.2.2⟩,hf.1⟩,hf.2.1⟩,hf.2.2.1⟩,hf.2.2.2⟩

end Go.Proofs.YthaoifcebimkfaaGreatDoor

namespace Go.Proofs.YthaoifcebimkfaaGreatDoor
open Go Go.AL



end Go.Proofs.YthaoifcebimkfaaGreatDoor

namespace Go.Proofs.YthaoifcebimkfaaGreatDoor
open Go Go.AL

theorem zp1 {b:List Bool} : ∀ {i:Nat},(∀ j,j < i → nth b j=true) → zsW b i=i
 | 0,_=>rfl
 | i+1,h=>by
  have ih:=zp1 (b:=b) (i:=i) fun j hj=>h j (by omega)
  simp only [zsW,h i (by omega),if_true];omega
theorem zlq {x:Gate} (h:fvG x):fvG (zlj x):=zCU (zCT h)
theorem zCW {c:Circ} (h:Vd c) {d:Nat} (hd:d < c.layers.length) : ∀ j,j < (gw c d).length → fvG (nth (gw c d) j):=by
 rw [zhT];exact zhV (h.ok.row (c.layers.length - 1 - d) (by omega)).1 (fun i hi=>h.fv (by omega) hi)

theorem zzF {c:Circ} (h:Vd c):c.sums≤((gw c 0).length:Int):=by
 have hl:=h.ok.len.1;have hs:=h.sm;have h0:=h.ok.sums.1
 obtain⟨s,hs'⟩ : ∃ s:Nat,c.sums=s:=⟨c.sums.toNat,by omega⟩
 rw [zhT,Nat.sub_zero]
 generalize hn:(nth c.layers (c.layers.length - 1)).length=n at *
 have hb : ∀ j,j < s → nth (fw c 0) j=true:=fun j hj=>by
  have hjn:j < (nth c.layers (c.layers.length - 1 - 0)).length:=by rw [Nat.sub_zero,hn];omega
  rw [fw,zar hjn,yv,if_pos (by omega)]
  have:decide ((j:Int) < c.sums)=true:=by simp;omega
  rw [this];rfl
 have h1:=zp1 hb;have h2:=zgw (b:=fw c 0) (l:=nth c.layers (c.layers.length - 1)) (show s≤n by omega);rw [zeg,zeg,h1] at h2;unfold zcV;rw [hn,zeg]
 split
 · omega
 · rw [zeg];omega

theorem Vd.dead {c:Circ} (h:Vd c):Vd (zdq c) where
 ok:=h.ok.dead
 inp:=h.inp
 len:=by show (tab _ _).length≤64;rw [zbI];exact h.len
 row k hk:=by
  simp only [zdq,zbI] at hk ⊢;rw [zar hk,gf,List.length_map,zhT,show c.layers.length - 1 - (c.layers.length - 1 - k)=k by omega];have h1:=zll (b:=fw c (c.layers.length - 1 - k)) (h.ok.row k hk).1;have h2:=h.row k hk;omega
 sm:=by
  have hl:=h.ok.len.1;have hs:=zzF h;simp only [zdq,zbI];rw [zar (by omega),gf,List.length_map,Nat.sub_self];exact hs
 vg k hk i hi:=by
  refine zCV (h.ok.dead.op k hk i hi) ?_;simp only [zdq,zbI] at hk hi ⊢;rw [zar hk] at hi ⊢;rw [gf,List.length_map] at hi;rw [gf,zpy hi];have hf:=zCW h (show c.layers.length - 1 - k < c.layers.length by omega) i hi
  split
  · exact zlq hf
  · exact zlq ⟨hf.1,hf.2.1,hf.2.2.1,hf.2.2.2⟩


end Go.Proofs.YthaoifcebimkfaaGreatDoor

namespace Go.Proofs.YthaoifcebimkfaaGreatDoor
open Go Go.AL





end Go.Proofs.YthaoifcebimkfaaGreatDoor

namespace Go.Proofs.YthaoifcebimkfaaGreatDoor
open Go Go.AL

def zDu (c:Circ) (cols:List (List U)) (lg:BitVec 8):PV := .agg [i64 c.inputs,.sl false 1 (pl (sle 6 zG) c.layers),i64 c.sums,.sl false 1 (pl (sle 1 zl) cols),b8 lg]
theorem zor {c:Circ} {cols:List (List U)} {lg:BitVec 8}:ze (.p (zDu c cols lg))=some [.p (i64 c.inputs),.p (.sl false 1 (pl (sle 6 zG) c.layers)),.p (i64 c.sums),.p (.sl false 1 (pl (sle 1 zl) cols)),.p (b8 lg)]:=rfl
def zAE (x y:Option AV):Option AV:=match x,y with | some x,some y=>some (.tup [x,y]) | _,_=>none
theorem zos {x y:AV}:zAE (some x) (some y)=some (.tup [x,y]):=rfl
theorem zhe {P:Program} {a b:Nat} {t:TypeId} {env:Env} {H:Hp}:zd0 P [.cell a t,.tmp b] env H=zAE (zbB P H t (env a)) (some (env b)):=by
 simp only [zd0,zbD,zdg]
 cases zbB P H t (env a)<;>rfl
attribute [go_sem] zos zhe
attribute [go_sem] zor
section walks
variable {G:Globs}

end walks
end Go.Proofs.YthaoifcebimkfaaGreatDoor

namespace Go.Proofs.YthaoifcebimkfaaGreatDoor
open Go Go.AL



def twice:Circ:=⟨1,[[⟨0,0,0,1,0,0⟩,⟨0,0,0,1,0,0⟩],[⟨0,1,0,1,1,0⟩]],1⟩
def zxl:Circ:=⟨2,[[⟨0,0,0,0,0,5⟩,⟨1,0,0,1,0,0⟩],[⟨0,1,1,0,0,0⟩]],1⟩
def zAF:Circ:=⟨1,[[⟨0,0,1,0,0,0⟩,⟨0,0,0,0,0,0⟩,⟨0,0,0,0,0,1⟩]],1⟩

theorem zCX:zln goG (zln goG twice)=⟨1,[[⟨0,0,0,1,0,0⟩],[⟨0,0,0,2,0,0⟩]],1⟩:=by decide
theorem zCY:zln goG (zln goG zxl)=⟨2,[[⟨1,0,0,1,0,0⟩],[⟨0,0,0,5,0,0⟩]],1⟩:=by decide
theorem zCZ:zdq zAF=⟨1,[[⟨0,0,1,0,0,0⟩,⟨0,0,0,0,0,1⟩]],1⟩:=by decide
theorem zC0:fold goG twice=twice:=by decide
theorem zC1:zxh twice=⟨1,[[⟨0,0,0,1,0,0⟩],[⟨0,0,0,1,1,0⟩]],1⟩:=by decide
end Go.Proofs.YthaoifcebimkfaaGreatDoor

namespace Go.Proofs.YthaoifcebimkfaaGreatDoor
open Go Go.AL


def sA:Circ:=⟨1,[[⟨0,0,0,1,0,0⟩],[⟨0,0,0,2,0,0⟩]],1⟩
def sB:Circ:=⟨2,[[⟨1,0,0,1,0,0⟩],[⟨0,0,0,5,0,0⟩]],1⟩
def sD:Circ:=⟨1,[[⟨0,0,1,0,0,0⟩,⟨0,0,0,0,0,1⟩]],1⟩
def sS:Circ:=⟨1,[[⟨0,0,0,1,0,0⟩],[⟨0,0,0,1,1,0⟩]],1⟩
theorem hA:decide (zln goG (zln goG twice)=sA)=true:=decide_eq_true zCX
theorem hB:decide (zln goG (zln goG zxl)=sB)=true:=decide_eq_true zCY
theorem hD:decide (zdq zAF=sD)=true:=decide_eq_true zCZ
theorem hF:decide (fold goG twice=twice)=true:=decide_eq_true zC0
theorem hS:decide (zxh twice=sS)=true:=decide_eq_true zC1
section walks
variable {G:Globs}

end walks
end Go.Proofs.YthaoifcebimkfaaGreatDoor

namespace Go.Proofs.YthaoifcebimkfaaGreatDoor
open Go Go.AL

section walks
variable {G:Globs}

end walks
end Go.Proofs.YthaoifcebimkfaaGreatDoor

namespace Go.Proofs.YthaoifcebimkfaaGreatDoor
open Go Go.AL

def zBw (l:List Gate) (inp:List U):List U:=tab (fun i=>zef (nth l i) (nth inp (nth l i).l.toNat) (nth inp (nth l i).r.toNat)) l.length
def zC2 (c:Circ) (inp:List U):Nat → List U
 | 0=>inp
 | k+1=>zBw (nth c.layers k) (zC2 c inp k)



section walks
variable {G:Globs}




end walks
end Go.Proofs.YthaoifcebimkfaaGreatDoor

namespace Go.Proofs.YthaoifcebimkfaaGreatDoor
open Go Go.AL




section walks
variable {G:Globs}



end walks
end Go.Proofs.YthaoifcebimkfaaGreatDoor

namespace Go.Proofs.YthaoifcebimkfaaGreatDoor
open Go Go.AL

structure NF (b:Bool) (p:List Gate) (x:Gate):Prop where
 l0:zdo x=false → x.l=0
 r0:zbU x=false → x.r=0
 rl:zbU x=true → zdo x=true∧x.l≤x.r
 eq:x.l=x.r → x.b=0#64
 kl:b=false → zdo x=true → zpZ (nth p x.l.toNat)=false
 kr:b=false → zbU x=true → zpZ (nth p x.r.toNat)=false









end Go.Proofs.YthaoifcebimkfaaGreatDoor

namespace Go.Proofs.YthaoifcebimkfaaGreatDoor
open Go Go.AL

def Dif (l:List Gate):Prop := ∀ i j,i < l.length → j < i → nth l i≠nth l j

theorem zot {l:List Gate} {g:Gate}:zcS l g=none ↔ ∀ i,i < l.length → nth l i≠g:=by
 unfold zcS;rw [zlg]
 exact⟨fun h i hi e=>by have:=h i hi;simp [e] at this,fun h i hi=>by simpa using h i hi⟩
theorem Dif.snoc {l:List Gate} {g:Gate} (h:Dif l) (hg:zcS l g=none):Dif (l++[g]):=by
 intro i j hi hj;simp only [List.length_append,List.length_cons,List.length_nil] at hi;by_cases e:i < l.length
 · rw [zI e,zI (by omega)];exact h i j e hj
 · rw [zA (by omega),show i - l.length=0 by omega,zx,zI (by omega)]
   exact fun e=>zot.1 hg j (by omega) e.symm












structure Doubled (c d:Circ) (k:Nat):Prop where
 hk:k+1 < c.layers.length
 inp:d.inputs=c.inputs
 sums:d.sums=c.sums
 len:d.layers.length=c.layers.length
 same : ∀ j,j < c.layers.length → j≠k → j≠k+1 → nth d.layers j=nth c.layers j
 two:nth d.layers k=nth c.layers k++nth c.layers k
 nlen:(nth d.layers (k+1)).length=(nth c.layers (k+1)).length
 next : ∀ i,i < (nth c.layers (k+1)).length → ∃ a b:Bool,nth (nth d.layers (k+1)) i = { nth (nth c.layers (k+1)) i with
  l:=(nth (nth c.layers (k+1)) i).l+(if a then ((nth c.layers k).length:Int) else 0),r:=(nth (nth c.layers (k+1)) i).r+(if b then ((nth c.layers k).length:Int) else 0) }



end Go.Proofs.YthaoifcebimkfaaGreatDoor

namespace Go.Proofs.YthaoifcebimkfaaGreatDoor
open Go Go.AL










end Go.Proofs.YthaoifcebimkfaaGreatDoor

namespace Go.Proofs.YthaoifcebimkfaaGreatDoor
open Go Go.AL

abbrev FP:=Fin 18446744069414584321
def fe (x:U):FP:=Fin.ofNat _ x.toNat
theorem zeF (x:U):(fe x).val=x.toNat % 18446744069414584321:=rfl
theorem zou {a b:U} (ha:valid a=true) (hb:valid b=true):fe (zdl a b)=fe a+fe b:=by
 apply Fin.ext;rw [Fin.val_add,zeF,zeF,zeF,zbs ha hb,Nat.mod_mod,←Nat.add_mod]
theorem zi3 {a b:U} (ha:valid a=true) (hb:valid b=true):fe (zeb a b)=fe a*fe b:=by
 apply Fin.ext;rw [Fin.val_mul,zeF,zeF,zeF,zeh ha hb,Nat.mod_mod,←Nat.mul_mod]

theorem zlr {g:Gate} {l r:U} (hg:fvG g) (hl:valid l=true) (hr:valid r=true):valid (zef g l r)=true :=
 zaB (zaB (zaB (yD hg.1 (yD hl hr)) (yD hg.2.1 hl)) (yD hg.2.2.1 hr)) hg.2.2.2
theorem zxm {g:Gate} {l r:U} (hg:fvG g) (hl:valid l=true) (hr:valid r=true):fe (zef g l r)=fe g.c*(fe l*fe r)+fe g.a*fe l+fe g.b*fe r+fe g.d:=by
 have v1:=yD hl hr;have v2:=yD hg.1 v1;have v3:=yD hg.2.1 hl;have v4:=yD hg.2.2.1 hr;unfold zef;rw [zou (zaB (zaB v2 v3) v4) hg.2.2.2,zou (zaB v2 v3) v4,zou v2 v3,zi3 hg.1 v1,zi3 hl hr,zi3 hg.2.1 hl,zi3 hg.2.2.1 hr]

def val (inp:List U) (g:Gate):U:=zef g (nth inp g.l.toNat) (nth inp g.r.toNat)
def Fv (inp:List U):Prop := ∀ i,valid (nth inp i)=true
theorem Fv.of {inp:List U} (h : ∀ i,i < inp.length → valid (nth inp i)=true):Fv inp:=fun i=>by
 by_cases hi:i < inp.length
 · exact h i hi
 · have:nth inp i=default:=by simp [nth,show inp.length≤i by omega]
   rw [this];decide



end Go.Proofs.YthaoifcebimkfaaGreatDoor

namespace Go.Proofs.YthaoifcebimkfaaGreatDoor
open Go Go.AL

def gvU (k:Cf) (a b:U):U:=zef ⟨0,0,fi k.c,fi k.a,fi k.b,fi k.d⟩ a b
def lkV (inp p:List U) (n:Nat):U:=if n < 29 then nth inp n else nth p (n - 29)
def zcx (s:List Nd) (inp:List U):Nat → List U
 | 0=>[]
 | j+1=>zcx s inp j++[gvU (nth s j).k (lkV inp (zcx s inp j) (nth s j).l) (lkV inp (zcx s inp j) (nth s j).r)]
def ndv (s:List Nd) (inp:List U) (n:Nat):U:=lkV inp (zcx s inp s.length) n
structure Wf (s:List Nd):Prop where
 op : ∀ j,j < s.length → (nth s j).l < 29+j∧(nth s j).r < 29+j
 lv : ∀ j,j < s.length → (nth s j).lv=1+max (lev s (nth s j).l) (lev s (nth s j).r)

theorem zej (s:List Nd) (inp:List U) : ∀ j,(zcx s inp j).length=j
 | 0=>rfl
 | j+1=>by simp [zcx,zej s inp j]
theorem zi4 {s:List Nd} {inp:List U} {i:Nat} : ∀ {m:Nat},i < m → nth (zcx s inp m) i=nth (zcx s inp (i+1)) i
 | m+1,h=>by
  by_cases e:i=m
  · rw [e]
  · rw [zcx,zI (by rw [zej];omega)];exact zi4 (by omega)
theorem zi5 {s:List Nd} {inp:List U} {n m m':Nat} (h:n < 29+m) (h':n < 29+m'):lkV inp (zcx s inp m) n=lkV inp (zcx s inp m') n:=by
 unfold lkV
 split
 · rfl
 · rw [zi4 (show n - 29 < m by omega),zi4 (show n - 29 < m' by omega)]
theorem zov {s:List Nd} {inp:List U} {n:Nat} (h:n < 29):ndv s inp n=nth inp n:=if_pos h
theorem zow {s:List Nd} (hw:Wf s) {inp:List U} {j:Nat} (hj:j < s.length):ndv s inp (29+j)=gvU (nth s j).k (ndv s inp (nth s j).l) (ndv s inp (nth s j).r):=by
 have h1:=hw.op j hj;unfold ndv;rw [zi5 (m:=s.length) (m':=j+1) (by omega) (by omega)];rw [show lkV inp (zcx s inp (j+1)) (29+j)=nth (zcx s inp (j+1)) j by unfold lkV;rw [if_neg (by omega),Nat.add_sub_cancel_left],zcx,zA (by rw [zej];omega),zej,Nat.sub_self,zx];rw [zi5 (m:=j) (m':=s.length) h1.1 (by omega),zi5 (m:=j) (m':=s.length) h1.2 (by omega)]
theorem zls {s t:List Nd} (h:Exn s t) (inp:List U) : ∀ j,j≤s.length → zcx t inp j=zcx s inp j
 | 0,_=>rfl
 | j+1,hj=>by rw [zcx,zcx,zls h inp j (by omega),h.nth (by omega)]
theorem zek {s t:List Nd} (h:Exn s t) {inp:List U} {n:Nat} (hn:n < 29+s.length):ndv t inp n=ndv s inp n:=by
 unfold ndv;rw [zi5 (m:=t.length) (m':=s.length) (by have:=h.len;omega) hn,zls h inp _ (Nat.le_refl _)]

theorem Wf.nil:Wf []:=⟨fun j h=>absurd h (Nat.not_lt_zero _),fun j h=>absurd h (Nat.not_lt_zero _)⟩
theorem zgy {s:List Nd} (n:Nat) (h:n < 29):lev s n=0:=if_pos h
theorem Wf.add {s:List Nd} (hw:Wf s) {l r:Nat} (hl:l < 29+s.length) (hr:r < 29+s.length) (k:Cf):Wf (addN s l r k).2:=by
 have hx:Exn s (addN s l r k).2:=(ya l r k).ext s;rw [yP] at hx ⊢
 split
 · exact hw
 · rename_i hp;rw [if_neg hp] at hx
   refine⟨fun j hj => ?_,fun j hj => ?_⟩
   · by_cases e:j < s.length
     · rw [hx.nth e];exact hw.op j e
     · have:j=s.length:=by simp at hj;omega
       subst this;rw [zA (Nat.le_refl _),Nat.sub_self,zx]
       exact⟨hl,hr⟩
   · by_cases e:j < s.length
     · have h1:=hw.op j e;rw [hx.nth e,hw.lv j e,hx.lev (by omega),hx.lev (by omega)]
     · have:j=s.length:=by simp at hj;omega
       subst this;rw [zA (Nat.le_refl _),Nat.sub_self,zx,hx.lev hl,hx.lev hr]
theorem zh {α:Type} [Inhabited α] {l:List α} {i:Nat} (h:i < l.length):nth l i=l[i]'h:=by simp [nth,h]
theorem zzG {s:List Nd} (hw:Wf s) {l r:Nat} (hl:l < 29+s.length) (hr:r < 29+s.length) (k:Cf) (inp:List U) :
 ndv (addN s l r k).2 inp (addN s l r k).1=gvU k (ndv s inp l) (ndv s inp r):=by
 have hx:Exn s (addN s l r k).2:=(ya l r k).ext s;have hw':=hw.add hl hr k
 have hn:ym s k l r < (addN s l r k).2.length∧nth (addN s l r k).2 (ym s k l r)=⟨k,l,r,(nth (addN s l r k).2 (ym s k l r)).lv⟩:=by
  have hle:=zfw s k l r;rw [yP]
  split
  · rename_i hp
    refine⟨hp,?_⟩
    have hp':s.findIdx (fun x=>decide (x.k=k∧x.l=l∧x.r=r)) < s.length:=hp;have this:=List.findIdx_getElem (xs:=s) (p:=fun x=>decide (x.k=k∧x.l=l∧x.r=r)) (w:=hp');simp only [decide_eq_true_eq] at this
    have e:nth s (ym s k l r)=s[s.findIdx (fun x=>decide (x.k=k∧x.l=l∧x.r=r))]'hp':=by
     exact zh hp'
    rw [e]
    obtain⟨h1,h2,h3⟩:=this
    generalize s[s.findIdx (fun x=>decide (x.k=k∧x.l=l∧x.r=r))]'hp'=x at h1 h2 h3
    cases x
    simp only at h1 h2 h3;subst h1;subst h2;subst h3;rfl
  · rename_i hp
    have:ym s k l r=s.length:=by omega
    rw [this]
    refine⟨by simp,?_⟩
    rw [zA (Nat.le_refl _),Nat.sub_self,zx]
 rw [zaq,zow hw' hn.1,hn.2];rw [zek hx hl,zek hx hr]

theorem zel {s:List Nd} (hw:Wf s) {n:Nat} (hn:n < 29+s.length) (h:lev s n=0):n < 29:=by
 unfold lev at h;split at h
 · assumption
 · rw [hw.lv _ (by omega)] at h;omega

abbrev rw' (ls:List (List Gate)) (inp:List U) (k:Nat):List U:=zC2 ⟨29,ls,0⟩ inp k
theorem rw'_succ {ls:List (List Gate)} {inp:List U} {k:Nat}:rw' ls inp (k+1)=zBw (nth ls k) (rw' ls inp k):=rfl
def za5 (ls:List (List Gate)) (k:Nat):Nat:=if k=0 then 29 else (nth ls (k - 1)).length
def OpL (ls:List (List Gate)):Prop := ∀ k j,j < (nth ls k).length → opG (za5 ls k:Int) (nth (nth ls k) j)
def Lx (a b:List (List Gate)):Prop:=a.length=b.length ∧ ∀ k,∃ u,nth b k=nth a k++u
theorem Lx.refl (a:List (List Gate)):Lx a a:=⟨rfl,fun k=>⟨[],by simp⟩⟩
theorem Lx.trans {a b c:List (List Gate)} (h:Lx a b) (h':Lx b c):Lx a c:=⟨h.1.trans h'.1,fun k=>by
 obtain⟨u,hu⟩:=h.2 k
 obtain⟨v,hv⟩:=h'.2 k
 exact⟨u++v,by rw [hv,hu,List.append_assoc]⟩⟩
theorem Lx.len {a b:List (List Gate)} (h:Lx a b) (k:Nat):(nth a k).length≤(nth b k).length:=by
 obtain⟨u,hu⟩:=h.2 k
 rw [hu];simp
theorem Lx.wid {a b:List (List Gate)} (h:Lx a b) (k:Nat):za5 a k≤za5 b k:=by
 unfold za5
 split
 · exact Nat.le_refl _
 · exact h.len _
theorem Lx.at {a b:List (List Gate)} (h:Lx a b) {k j:Nat} (hj:j < (nth a k).length):nth (nth b k) j=nth (nth a k) j:=by
 obtain⟨u,hu⟩:=h.2 k
 rw [hu,zI hj]
theorem zem {l:List Gate} {inp:List U} {i:Nat} (h:i < l.length):nth (zBw l inp) i=zef (nth l i) (nth inp (nth l i).l.toNat) (nth inp (nth l i).r.toNat):=zar h
theorem Lx.row {a b:List (List Gate)} (h:Lx a b) (ho:OpL a) {inp:List U} : ∀ k i,i < za5 a k → nth (rw' b inp k) i=nth (rw' a inp k) i
 | 0,_,_=>rfl
 | k+1,i,hi=>by
  have hi':i < (nth a k).length:=hi;rw [rw'_succ,rw'_succ,zem hi',zem (Nat.lt_of_lt_of_le hi' (h.len k)),h.at hi']
  obtain⟨h1,h2,h3,h4⟩:=ho k i hi'
  rw [h.row ho k _ (by omega),h.row ho k _ (by omega)]

structure LOk (s:List Nd) (inp:List U) (d:Nat) (st:LS):Prop where
 len:st.ls.length=d
 op:OpL st.ls
 fv : ∀ k j,j < (nth st.ls k).length → fvG (nth (nth st.ls k) j)
 at' : ∀ n k i,zD (n,k+1) st.at'=some i → k < d∧i < (nth st.ls k).length∧nth (rw' st.ls inp (k+1)) i=ndv s inp n

theorem zxn {a:U} (ha:valid a=true):zeb 1#64 a=a:=BitVec.eq_of_toNat_eq (by rw [zeh (by decide) ha];have:=yS.1 ha;simp;omega)
theorem rAdd_zero' {a:U} (ha:valid a=true):zdl 0#64 a=a:=BitVec.eq_of_toNat_eq (by rw [zbs zac ha];have:=yS.1 ha;simp;omega)
theorem zox {i:Int} {a:U} (ha:valid a=true):zef ⟨i,i,0,1,0,0⟩ a a=a:=by
 show zdl (zdl (zdl (zeb 0#64 (zeb a a)) (zeb 1#64 a)) (zeb 0#64 a)) 0#64=a
 rw [zhX (yD ha ha),zxn ha,zhX ha,rAdd_zero' ha,zhY ha,zhY ha]

theorem Lx.put {ls:List (List Gate)} {k:Nat} (hk:k < ls.length) (g:Gate):Lx ls (ls.set k (nth ls k++[g])):=by
 refine⟨by simp,fun j => ?_⟩
 by_cases e:j=k
 · subst e;exact⟨[g],by simp [nth,hk]⟩
 · exact⟨[],by simp [nth,Ne.symm e]⟩
theorem zco {ls:List (List Gate)} {k:Nat} (hk:k < ls.length) (g:Gate):nth (ls.set k (nth ls k++[g])) k=nth ls k++[g]:=by simp [nth,hk]
theorem put_ne {ls:List (List Gate)} {k j:Nat} (h:j≠k) (x:List Gate):nth (ls.set k x) j=nth ls j:=by simp [nth,Ne.symm h]

theorem LOk.put {s:List Nd} {inp:List U} {d:Nat} {st:LS} (h:LOk s inp d st) {n k:Nat} (hk:k < d) {g:Gate} (hg:opG (za5 st.ls k:Int) g) (hf:fvG g)
 (hv:zef g (nth (rw' st.ls inp k) g.l.toNat) (nth (rw' st.ls inp k) g.r.toNat)=ndv s inp n) :
 LOk s inp d (zab n k g st).2∧Lx st.ls (zab n k g st).2.ls∧(zab n k g st).1 < za5 (zab n k g st).2.ls (k+1)∧nth (rw' (zab n k g st).2.ls inp (k+1)) (zab n k g st).1=ndv s inp n ∧
  (zab n k g st).2.ls=st.ls.set k (nth st.ls k++[g]):=by
 have hkl:k < st.ls.length:=by rw [h.len];exact hk
 have hx:Lx st.ls (zab n k g st).2.ls:=Lx.put hkl g;have hat:nth (zab n k g st).2.ls k=nth st.ls k++[g]:=zco hkl g
 have hlast:(nth st.ls k).length < (nth (zab n k g st).2.ls k).length:=by rw [hat];simp
 have hval:nth (rw' (zab n k g st).2.ls inp (k+1)) (nth st.ls k).length=ndv s inp n:=by
  obtain⟨g1,g2,g3,g4⟩:=hg
  rw [rw'_succ,zem hlast,hat,zA (Nat.le_refl _),Nat.sub_self,zx,hx.row h.op k _ (by omega),hx.row h.op k _ (by omega)];exact hv
 refine⟨⟨by simp [zab,h.len],fun k' j hj => ?_,fun k' j hj => ?_,fun n' k' i hi => ?_⟩,hx,hlast,hval,rfl⟩
 · have hw:=hx.wid k';by_cases e:k'=k
   · subst e;rw [hat] at hj ⊢;by_cases e2:j < (nth st.ls k').length
     · rw [zI e2]
       obtain⟨a,b,c,d⟩:=h.op k' j e2
       exact⟨a,by omega,c,by omega⟩
     · rw [zA (by omega),show j - (nth st.ls k').length=0 by simp at hj;omega,zx]
       obtain⟨a,b,c,d⟩:=hg
       exact⟨a,by omega,c,by omega⟩
   · have e3:nth (zab n k g st).2.ls k'=nth st.ls k':=put_ne e _;rw [e3] at hj ⊢
     obtain⟨a,b,c,d⟩:=h.op k' j hj
     exact⟨a,by omega,c,by omega⟩
 · by_cases e:k'=k
   · subst e;rw [hat] at hj ⊢;by_cases e2:j < (nth st.ls k').length
     · rw [zI e2];exact h.fv k' j e2
     · rw [zA (by omega),show j - (nth st.ls k').length=0 by simp at hj;omega,zx];exact hf
   · have e3:nth (zab n k g st).2.ls k'=nth st.ls k':=put_ne e _;rw [e3] at hj ⊢;exact h.fv k' j hj
 · simp only [zab] at hi;rw [yO] at hi;split at hi
   · rename_i e;simp only [Prod.mk.injEq,Nat.add_right_cancel_iff] at e
     obtain⟨rfl,rfl⟩:=e
     cases hi
     exact⟨hk,hlast,hval⟩
   · obtain⟨a,b,c⟩:=h.at' n' k' i hi
     refine⟨a,Nat.lt_of_lt_of_le b (hx.len k'),?_⟩
     rw [hx.row h.op (k'+1) i b];exact c

def Cfv (s:List Nd):Prop := ∀ j,j < s.length → valid (fi (nth s j).k.c)=true∧valid (fi (nth s j).k.a)=true∧valid (fi (nth s j).k.b)=true∧valid (fi (nth s j).k.d)=true
theorem zeG {s:List Nd} (hw:Wf s) (hc:Cfv s) {inp:List U} (hi:Fv inp) : ∀ n,n < 29+s.length → valid (ndv s inp n)=true:=by
 intro n
 induction n using Nat.strongRecOn with
 | _ n ih =>
  intro hn;by_cases h:n < 29
  · rw [zov h];exact hi n
  · obtain⟨j,rfl⟩ : ∃ j,n=29+j:=⟨n - 29,by omega⟩
    have hj:j < s.length:=by omega
    obtain⟨h1,h2⟩:=hw.op j hj
    rw [zow hw hj];exact zlr (hc j hj) (ih _ (by omega) (by omega)) (ih _ (by omega) (by omega))
theorem zbc (s:List Nd) (k n:Nat) (st:LS):need s (k+1) n st=match zD (n,k+1) st.at' with
 | some i=>(i,st)
 | none =>
  if lev s n < k+1 then zab n k ⟨(need s k n st).1,(need s k n st).1,0,1,0,0⟩ (need s k n st).2
  else zab n k ⟨(need s k (nth s (n - 29)).l st).1,(need s k (nth s (n - 29)).r (need s k (nth s (n - 29)).l st).2).1,fi (nth s (n - 29)).k.c,fi (nth s (n - 29)).k.a,fi (nth s (n - 29)).k.b,fi (nth s (n - 29)).k.d⟩
   (need s k (nth s (n - 29)).r (need s k (nth s (n - 29)).l st).2).2:=rfl
theorem zs2:valid 1#64=true:=by decide
theorem zzH (i:Int):fvG ⟨i,i,0,1,0,0⟩:=⟨zac,zs2,zac,zac⟩

theorem zcp {s:List Nd} (hw:Wf s) (hc:Cfv s) {inp:List U} (hi:Fv inp) {d:Nat} :
 ∀ k n st,LOk s inp d st → k≤d → n < 29+s.length → lev s n≤k →
  LOk s inp d (need s k n st).2∧Lx st.ls (need s k n st).2.ls∧(need s k n st).1 < za5 (need s k n st).2.ls k∧nth (rw' (need s k n st).2.ls inp k) (need s k n st).1=ndv s inp n ∧
   ∀ m,k≤m → nth (need s k n st).2.ls m=nth st.ls m:=by
 intro k
 induction k with
 | zero =>
  intro n st h _ hn hl;have h0:=zel hw hn (by omega)
  exact⟨h,.refl _,h0,(zov h0).symm,fun _ _=>rfl⟩
 | succ k ih =>
  intro n st h hk hn hl;rw [zbc]
  cases ha:zD (n,k+1) st.at' with
  | some i =>
   obtain⟨_,h2,h3⟩:=h.at' n k i ha
   exact⟨h,.refl _,h2,h3,fun _ _=>rfl⟩
  | none =>
   simp only
   split
   · rename_i hlt
     obtain⟨a1,a2,a3,a4,a5⟩:=ih n st h (by omega) hn (by omega)
     obtain⟨b1,b2,b3,b4,b5⟩:=a1.put (n:=n) (show k < d by omega) (g:=⟨(need s k n st).1,(need s k n st).1,0,1,0,0⟩) ⟨by simp only;omega,by simp only;omega,by simp only;omega,by simp only;omega⟩ (zzH _) (by
      simp only [Int.toNat_natCast];rw [a4]
      exact zox (zeG hw hc hi n hn))
     refine⟨b1,a2.trans b2,b3,b4,fun m hm => ?_⟩
     rw [b5,put_ne (by omega),a5 m (by omega)]
   · rename_i hge
     have h29 : ¬ n < 29:=fun h'=>by rw [zgy n h'] at hge;omega
     obtain⟨j,rfl⟩ : ∃ j,n=29+j:=⟨n - 29,by omega⟩
     have hj:j < s.length:=by omega
     obtain⟨o1,o2⟩:=hw.op j hj
     have hlv:=hw.lv j hj
     have hle:(nth s j).lv≤k+1:=by
      have e:lev s (29+j)=(nth s j).lv:=by unfold lev;rw [if_neg h29,Nat.add_sub_cancel_left]
      rw [←e];exact hl
     rw [Nat.add_sub_cancel_left]
     obtain⟨a1,a2,a3,a4,a5⟩:=ih (nth s j).l st h (by omega) (by omega) (by omega)
     obtain⟨c1,c2,c3,c4,c5⟩:=ih (nth s j).r _ a1 (by omega) (by omega) (by omega)
     have hwd:=c2.wid k
     obtain⟨b1,b2,b3,b4,b5⟩:=c1.put (n:=29+j) (show k < d by omega)
      (g:=⟨(need s k (nth s j).l st).1,(need s k (nth s j).r (need s k (nth s j).l st).2).1,fi (nth s j).k.c,fi (nth s j).k.a,fi (nth s j).k.b,fi (nth s j).k.d⟩)
      ⟨by simp only;omega,by simp only;omega,by simp only;omega,by simp only;omega⟩ (hc j hj) (by
      simp only [Int.toNat_natCast];rw [c2.row a1.op k _ a3,a4,c4,zow hw hj]
      rfl)
     refine⟨b1,(a2.trans c2).trans b2,b3,b4,fun m hm => ?_⟩
     rw [b5,put_ne (by omega),c5 m (by omega),a5 m (by omega)]
end Go.Proofs.YthaoifcebimkfaaGreatDoor

namespace Go.Proofs.YthaoifcebimkfaaGreatDoor
open Go Go.AL

theorem zi6 {w:World} {d:Nat} (n m:Int):(Op.equalIn (d+1) 2 (.int .i64 n) (.int .i64 m)).run Tryz.prog w = .ok (decide (n=m)) w:=by
 simp [Op.equalIn,run_underlying Tryz.underlying2];by_cases h:n=m<;>simp [h]
theorem zzI {w:World} {d:Nat} (n m:Int):(Op.equalIn (d+1) 3 (.int .i64 n) (.int .i64 m)).run Tryz.prog w = .ok (decide (n=m)) w:=by
 simp [Op.equalIn,run_underlying Tryz.underlying3];by_cases h:n=m<;>simp [h]
theorem zi7 {w:World} {d g g':Nat} {c c':Array Value} {e e':TypeId} (h:w.heap[g]? = some (.cells c e (0,0))) (h':w.heap[g']? = some (.cells c' e' (0,0))) :
 (Op.equalIn (d+1) 89 (ptv g) (ptv g')).run Tryz.prog w = .ok (decide (g=g')) w:=by
 obtain⟨j,hj⟩:=Option.isSome_iff_exists.1 zpV
 have hsz:j.size≠0:=by
  have:Tryz.prog.cellsOf 146=j.size:=by simp [Program.cellsOf,hj]
  rw [←this,zkW];decide
 by_cases hg:g=g'
 · subst hg;simp [Op.equalIn,run_underlying Tryz.underlying89,sizeOf,typeInfo,hj,run_sameAddr_same]
 · simp [Op.equalIn,run_underlying Tryz.underlying89,sizeOf,typeInfo,hj,hsz,hg,run_sameAddr_other w (a:=⟨g,0,none⟩) (b:=⟨g',0,none⟩) (by simp [hg]) h h']
theorem zc0 {t:TypeId} {d:TypeDesc} (h:Tryz.prog.underlying t=some d) (hd:zW d=false) {cs:Array Value} {off:Nat} {v:Value} (hv:cs[off]? = some v) (w:World):(part t cs off).run Tryz.prog w = .ok v w:=by
 simp only [part,Sem.run_bind,zad h,Result.andThen_ok,hd,hv];rfl
theorem zlt {t:TypeId} {d:TypeDesc} (h:Tryz.prog.underlying t=some d) (hd:zW d=true) {n:Nat} (hc:Tryz.prog.cellsOf t=n) {cs:Array Value} {off:Nat} {l:List Value} (hl:(cs.toList.drop off).take n=l) (w:World) (hi:(Tryz.prog.info? t).isSome=true):(part t cs off).run Tryz.prog w = .ok (.agg l.toArray) w:=by
 obtain⟨j,hj⟩:=Option.isSome_iff_exists.1 hi
 have hsz:j.size=n:=by
  have:Tryz.prog.cellsOf t=j.size:=by simp [Program.cellsOf,hj]
  rw [←this,hc]
 simp only [part,Sem.run_bind,zad h,Result.andThen_ok,hd,if_true,sizeOf,typeInfo,run_program,hj,Sem.run_pure,hsz];rw [←hl,←extract_toList]
theorem zi8 {d:Nat} {xs ys:Array Value} {w:World}:(Op.eqFields d xs ys []).run Tryz.prog w = .ok true w:=by simp [Op.eqFields]
theorem zas {d : Nat} {xs ys : Array Value} {f : Field} {fs : List Field} {a b : Value} {r q : Bool} {w : World} (hn : f.name ≠ "_") (ha : (part f.type xs f.offset).run Tryz.prog w = .ok a w) (hb : (part f.type ys f.offset).run Tryz.prog w = .ok b w)
    (he:(Op.equalIn d f.type a b).run Tryz.prog w = .ok r w) (hr:(Op.eqFields d xs ys fs).run Tryz.prog w = .ok q w):(Op.eqFields d xs ys (f :: fs)).run Tryz.prog w = .ok (r && q) w:=by
  simp only [Op.eqFields,hn,ne_eq,not_false_eq_true,if_true,Sem.run_bind,ha,hb,he,Result.andThen_ok]
  cases r<;>simp [hr]
theorem zeH {d:Nat} {t:TypeId} {fs:Array Field} (hu:Tryz.prog.underlying t=some (.struct fs)) (hp:Tryz.prog.stoodInHeld t=false) {xs ys:Array Value} {r:Bool} {w:World} (h:(Op.eqFields d xs ys fs.toList).run Tryz.prog w = .ok r w):(Op.equalIn (d+1) t (.agg xs) (.agg ys)).run Tryz.prog w = .ok r w:=by
 have hf:Tryz.prog.fieldsOf t=fs:=by simp [Program.fieldsOf,hu]
 rw [run_equalIn_struct w d t xs ys (by rw [hf];exact hu) hp,hf];exact h

theorem zzJ {w:World} (d:Nat) (n1 n2 n3 n4 m1 m2 m3 m4:Int) :
 (Op.equalIn (d+1+1) 144 (.agg #[.int .i64 n1,.int .i64 n2,.int .i64 n3,.int .i64 n4]) (.agg #[.int .i64 m1,.int .i64 m2,.int .i64 m3,.int .i64 m4])).run Tryz.prog w =
  .ok (decide (n1=m1) && (decide (n2=m2) && (decide (n3=m3) && (decide (n4=m4) && true)))) w:=by
 have p : ∀ {cs:Array Value} {off:Nat} {v:Value} (hv:cs[off]? = some v),(part 2 cs off).run Tryz.prog w = .ok v w:=fun hv=>zc0 Tryz.underlying2 rfl hv w
 exact zeH Tryz.underlying144 (by kernel_rfl)
  (zas (by decide) (p rfl) (p rfl) (zi6 _ _) (zas (by decide) (p rfl) (p rfl) (zi6 _ _) (zas (by decide) (p rfl) (p rfl) (zi6 _ _) (zas (by decide) (p rfl) (p rfl) (zi6 _ _) zi8))))
theorem zzK {w:World} (n1 n2 n3 n4 m1 m2 m3 m4:Int) {g h g' h':Nat} {c1 c2 c3 c4:Array Value} {e1 e2 e3 e4:TypeId} (q1:w.heap[g]? = some (.cells c1 e1 (0,0))) (q2:w.heap[h]? = some (.cells c2 e2 (0,0))) (q3:w.heap[g']? = some (.cells c3 e3 (0,0))) (q4:w.heap[h']? = some (.cells c4 e4 (0,0))) :
 (Op.equal 195 (.agg #[.int .i64 n1,.int .i64 n2,.int .i64 n3,.int .i64 n4,ptv g,ptv h]) (.agg #[.int .i64 m1,.int .i64 m2,.int .i64 m3,.int .i64 m4,ptv g',ptv h'])).run Tryz.prog w =
  .ok ((decide (n1=m1) && (decide (n2=m2) && (decide (n3=m3) && (decide (n4=m4) && true)))) && (decide (g=g') && (decide (h=h') && true))) w:=by
 have p : ∀ {cs:Array Value} {off:Nat} {v:Value} (hv:cs[off]? = some v),(part 89 cs off).run Tryz.prog w = .ok v w:=fun hv=>zc0 Tryz.underlying89 rfl hv w
 have k : ∀ {a b c d e f:Value},(part 144 #[a,b,c,d,e,f] 0).run Tryz.prog w = .ok (.agg #[a,b,c,d]) w:=fun {a b c d e f}=>zlt (l:=[a,b,c,d]) Tryz.underlying144 rfl zgq rfl w ziV
 exact zeH (d:=9999) Tryz.underlying195 (by kernel_rfl)
  (zas (by decide) k k (zzJ 9997 _ _ _ _ _ _ _ _) (zas (by decide) (p rfl) (p rfl) (zi7 q1 q3) (zas (by decide) (p rfl) (p rfl) (zi7 q2 q4) zi8)))
theorem zs3 {w:World} (n m:Int) {g g':Nat} {c1 c3:Array Value} {e1 e3:TypeId} (q1:w.heap[g]? = some (.cells c1 e1 (0,0))) (q3:w.heap[g']? = some (.cells c3 e3 (0,0))) :
 (Op.equal 154 (.agg #[ptv g,.int .i64 n]) (.agg #[ptv g',.int .i64 m])).run Tryz.prog w = .ok (decide (g=g') && (decide (n=m) && true)) w:=by
 have p : ∀ {cs:Array Value} {off:Nat} {v:Value} (hv:cs[off]? = some v),(part 89 cs off).run Tryz.prog w = .ok v w:=fun hv=>zc0 Tryz.underlying89 rfl hv w
 have p2 : ∀ {cs:Array Value} {off:Nat} {v:Value} (hv:cs[off]? = some v),(part 3 cs off).run Tryz.prog w = .ok v w:=fun hv=>zc0 Tryz.underlying3 rfl hv w
 exact zeH (d:=9999) Tryz.underlying154 (by kernel_rfl)
  (zas (by decide) (p rfl) (p rfl) (zi7 q1 q3) (zas (by decide) (p2 rfl) (p2 rfl) (zzI _ _) zi8))

theorem zfx {em:Bool} {d:Nat} {t:TypeId} {k:TypeDesc} (h:Tryz.prog.underlying t=some k) (hk:(match k with | .interface _ | .array _ _ | .struct _=>false | _=>true)=true) (v:Value) (w:World):(Instr.checkKey em (d+1) t v).run Tryz.prog w = .ok () w:=by
 rw [Instr.checkKey,Sem.run_bind,run_underlying h,Result.andThen_ok]
 cases k<;>first | (cases hk;done) | rfl | (cases v<;>rfl)
theorem zdN {em : Bool} {d : Nat} {t : TypeId} {fs : Array Field} (hu : Tryz.prog.underlying t = some (.struct fs)) {cs : Array Value} {w : World} (h : ∀ f ∈ fs.toList, f.name = "_" ∨ ∃ v, (part f.type cs f.offset).run Tryz.prog w = .ok v w ∧ (Instr.checkKey em d f.type v).run Tryz.prog w = .ok () w) :
    (Instr.checkKey em (d+1) t (.agg cs)).run Tryz.prog w = .ok () w:=by
  rw [Instr.checkKey];simp only [Sem.run_bind,run_underlying hu,Result.andThen_ok];rw [←Array.forIn_toList]
  generalize fs.toList=L at h
  induction L with
  | nil=>simp
  | cons f L ih =>
    rcases h f (by simp) with hn | ⟨v,h1,h2⟩
    · simp only [List.forIn_cons,Sem.run_bind,hn,ne_eq,not_true_eq_false,if_false,Sem.run_pure,Result.andThen_ok]
      exact ih fun g hg=>h g (by simp [hg])
    · by_cases hn : f.name = "_"
      · simp only [List.forIn_cons,Sem.run_bind,hn,ne_eq,not_true_eq_false,if_false,Sem.run_pure,Result.andThen_ok]
        exact ih fun g hg=>h g (by simp [hg])
      · simp only [List.forIn_cons,Sem.run_bind,hn,ne_eq,not_false_eq_true,if_true,h1,h2,Sem.run_pure,Result.andThen_ok]
        exact ih fun g hg=>h g (by simp [hg])

theorem zC3:PKeys Tryz.prog 195 [false,false,false,false,true,true] where
 st:=⟨_,Tryz.underlying195⟩
 check w em vs h:=by
  match vs,h with
  | [a,b,c,d,e,f],h =>
   have p : ∀ {cs:Array Value} {off:Nat} {v:Value} (hv:cs[off]? = some v),(part 89 cs off).run Tryz.prog w = .ok v w:=fun hv=>zc0 Tryz.underlying89 rfl hv w
   have p2 : ∀ {cs:Array Value} {off:Nat} {v:Value} (hv:cs[off]? = some v),(part 2 cs off).run Tryz.prog w = .ok v w:=fun hv=>zc0 Tryz.underlying2 rfl hv w
   have k:(part 144 #[a,b,c,d,e,f] 0).run Tryz.prog w = .ok (.agg #[a,b,c,d]) w:=zlt (l:=[a,b,c,d]) Tryz.underlying144 rfl zgq rfl w ziV
   refine zdN (d:=9999) Tryz.underlying195 fun x hx => .inr ?_
   simp only [List.mem_cons,List.not_mem_nil,or_false] at hx
   rcases hx with rfl | rfl | rfl
   · refine⟨_,k,zdN (d:=9998) Tryz.underlying144 fun y hy => .inr ?_⟩
     simp only [List.mem_cons,List.not_mem_nil,or_false] at hy
     rcases hy with rfl | rfl | rfl | rfl
     all_goals exact⟨_,p2 rfl,zfx (d:=9997) Tryz.underlying2 rfl _ _⟩
   all_goals exact⟨_,p rfl,zfx (d:=9998) Tryz.underlying89 rfl _ _⟩
 eq w xs ys hx hy:=by
  match xs,hx,ys,hy with
  | [a1,a2,a3,a4,a5,a6],hx,[b1,b2,b3,b4,b5,b6],hy =>
   obtain⟨⟨n1,rfl⟩,⟨n2,rfl⟩,⟨n3,rfl⟩,⟨n4,rfl⟩,⟨g,_,_,rfl,q1⟩,⟨h,_,_,rfl,q2⟩,_⟩:=hx
   obtain⟨⟨m1,rfl⟩,⟨m2,rfl⟩,⟨m3,rfl⟩,⟨m4,rfl⟩,⟨g',_,_,rfl,q3⟩,⟨h',_,_,rfl,q4⟩,_⟩:=hy
   refine⟨_,zzK n1 n2 n3 n4 m1 m2 m3 m4 q1 q2 q3 q4,?_⟩
   simp [and_assoc]
theorem zzL:PKeys Tryz.prog 154 [true,false] where
 st:=⟨_,Tryz.underlying154⟩
 check w em vs h:=by
  match vs,h with
  | [a,b],h =>
   have p : ∀ {cs:Array Value} {off:Nat} {v:Value} (hv:cs[off]? = some v),(part 89 cs off).run Tryz.prog w = .ok v w:=fun hv=>zc0 Tryz.underlying89 rfl hv w
   have p2 : ∀ {cs:Array Value} {off:Nat} {v:Value} (hv:cs[off]? = some v),(part 3 cs off).run Tryz.prog w = .ok v w:=fun hv=>zc0 Tryz.underlying3 rfl hv w
   refine zdN (d:=9999) Tryz.underlying154 fun x hx => .inr ?_
   simp only [List.mem_cons,List.not_mem_nil,or_false] at hx
   rcases hx with rfl | rfl
   · exact⟨_,p rfl,zfx (d:=9998) Tryz.underlying89 rfl _ _⟩
   · exact⟨_,p2 rfl,zfx (d:=9998) Tryz.underlying3 rfl _ _⟩
 eq w xs ys hx hy:=by
  match xs,hx,ys,hy with
  | [a1,a2],hx,[b1,b2],hy =>
   obtain⟨⟨g,_,_,rfl,q1⟩,⟨n,rfl⟩,_⟩:=hx
   obtain⟨⟨g',_,_,rfl,q3⟩,⟨m,rfl⟩,_⟩:=hy
   refine⟨_,zs3 n m q1 q3,?_⟩
   simp
theorem keyM:MapZ Tryz.prog 140 [false,false,false,false,true,true] (.p (.s (.pointer none))):=⟨_,_,Tryz.underlying140,zC3,zk8⟩
theorem placeM:MapZ Tryz.prog 151 [true,false] (.p (i64 0)):=⟨_,_,Tryz.underlying151,zzL,ziW⟩
end Go.Proofs.YthaoifcebimkfaaGreatDoor

namespace Go.Proofs.YthaoifcebimkfaaGreatDoor
open Go Go.AL

abbrev Ky:=Cf × Nat × Nat
def ek (ad:Nat → Nat) (q:Ky):List Value:=[.int .i64 q.1.c,.int .i64 q.1.a,.int .i64 q.1.b,.int .i64 q.1.d,ptv (ad q.2.1),ptv (ad q.2.2)]
def zdr (j:Nat):List Nd → List (Ky × Nat)
 | []=>[]
 | x :: s=>((x.k,x.l,x.r),29+j) :: zdr (j+1) s
def zc1 (s:List Nd):List (Ky × Nat):=zdr 0 s
theorem zs4 (x:Nd) (s:List Nd) (k:Cf) (l r:Nat):ym (x :: s) k l r=if x.k=k∧x.l=l∧x.r=r then 0 else ym s k l r+1:=by
 unfold ym;rw [List.findIdx_cons];by_cases e:x.k=k∧x.l=l∧x.r=r
 · rw [if_pos e,decide_eq_true e];rfl
 · rw [if_neg e,decide_eq_false e];rfl
theorem ze2 (k:Cf) (l r:Nat) : ∀ (s:List Nd) (j:Nat),zD (k,l,r) (zdr j s)=if ym s k l r < s.length then some (29+(j+ym s k l r)) else none
 | [],j=>rfl
 | x :: s,j=>by
  simp only [zdr,zD,zs4,List.length_cons];by_cases e:x.k=k∧x.l=l∧x.r=r
  · obtain⟨rfl,rfl,rfl⟩:=e
    simp
  · have e' : ¬ (x.k,x.l,x.r)=(k,l,r):=fun h=>e (by simpa using h)
    rw [if_neg e',if_neg e,ze2 k l r s (j+1)];by_cases hh:ym s k l r < s.length
    · rw [if_pos hh,if_pos (by omega)];congr 2;omega
    · rw [if_neg hh,if_neg (by omega)]
theorem zoy (s:List Nd) (k:Cf) (l r:Nat):zD (k,l,r) (zc1 s)=if ym s k l r < s.length then some (29+ym s k l r) else none:=by
 rw [zc1,ze2,Nat.zero_add]
theorem zen : ∀ {s:List Nd} {j:Nat} {p:Ky × Nat},p∈zdr j s → ∃ i,i < s.length∧p=(((nth s i).k,(nth s i).l,(nth s i).r),29+(j+i))
 | [],j,p,h=>by simp [zdr] at h
 | x :: s,j,p,h=>by
  simp only [zdr,List.mem_cons] at h
  rcases h with rfl | h
  · exact⟨0,by simp,by simp [zx]⟩
  · obtain⟨i,hi,rfl⟩:=zen h
    refine⟨i+1,by simp;omega,?_⟩
    have:nth (x :: s) (i+1)=nth s i:=by simp [nth]
    rw [this]
    congr 1;omega

def ndC (ad:Nat → Nat) (s:List Nd) (n:Nat):List PV :=
 if n < 29 then [i64 n,i64 0,i64 0,i64 0,i64 0,.s (.pointer none),.s (.pointer none),i64 0]
 else [i64 0,i64 (nth s (n - 29)).k.c,i64 (nth s (n - 29)).k.a,i64 (nth s (n - 29)).k.b,i64 (nth s (n - 29)).k.d,ptp (ad (nth s (n - 29)).l),ptp (ad (nth s (n - 29)).r),i64 ((nth s (n - 29)).lv:Nat)]
abbrev kyV (ad:Nat → Nat) (a:Ky):Value := .agg (ek ad a).toArray
abbrev ndP (ad:Nat → Nat) (n:Nat):AV := .p (ptp (ad n))
def rng29:List Nat:=List.range 29
theorem zbZ:rng29.length=29:=List.length_range
theorem zhZ {i:Nat} (h:i∈rng29):i < 29:=List.mem_range.1 h
theorem zc2 {i:Nat} (h:i < 29):nth rng29 i=i:=by simp [rng29,nth,h]
structure BH (H:Hp) (s:List Nd) (ad:Nat → Nat) (bb mb:Nat):Prop where
 bld:H.f bb=some (.cells [.p (.sl false 1 (pl (fun i=>ptp (ad i)) rng29)),.mp mb])
 map:H.f mb=some (.mapB (tm (kyV ad) (ndP ad) (zc1 s)))
 nd : ∀ n,n < 29+s.length → H.z (ad n)=some (8,[.agg (ndC ad s n)])
 inj : ∀ i j,i < 29+s.length → j < 29+s.length → ad i=ad j → i=j
 wf:Wf s
 ne:bb≠mb
def cfP (k:Cf):PV := .agg [i64 k.c,i64 k.a,i64 k.b,i64 k.d]

theorem BH.key {H:Hp} {s:List Nd} {ad:Nat → Nat} {bb mb:Nat} (hB:BH H s ad bb mb) {H':Hp} (hz:H'.z=H.z) {k:Cf} {l r:Nat} (hl:l < 29+s.length) (hr:r < 29+s.length):RowZ H' [false,false,false,false,true,true] (ek ad (k,l,r)) :=
 ⟨⟨_,rfl⟩,⟨_,rfl⟩,⟨_,rfl⟩,⟨_,rfl⟩,⟨_,rfl,by rw [hz,hB.nd l hl];simp⟩,⟨_,rfl,by rw [hz,hB.nd r hr];simp⟩,trivial⟩
theorem BH.entB {H:Hp} {s:List Nd} {ad:Nat → Nat} {bb mb:Nat} (hB:BH H s ad bb mb) {p:Ky × Nat} (hp:p∈zc1 s):p.1.2.1 < 29+s.length∧p.1.2.2 < 29+s.length:=by
 obtain⟨i,hi,rfl⟩:=zen hp
 obtain⟨a,b⟩:=hB.wf.op i hi
 exact⟨by simp only;omega,by simp only;omega⟩
theorem BH.look {H:Hp} {s:List Nd} {ad:Nat → Nat} {bb mb:Nat} (hB:BH H s ad bb mb) {H':Hp} (hf:H'.f mb=H.f mb) (hz:H'.z=H.z) {k:Cf} {l r:Nat} (hl:l < 29+s.length) (hr:r < 29+s.length) :
 zaj Tryz.prog H' 140 (.mp mb) (.p (.agg [i64 k.c,i64 k.a,i64 k.b,i64 k.d,ptp (ad l),ptp (ad r)])) false =
  some (if ym s k l r < s.length then ndP ad (29+ym s k l r) else .p (.s (.pointer none))):=by
 have:=keyM.look (H:=H') (b:=mb) (ek:=ek ad) (f:=ndP ad) (m:=zc1 s) (k:=(k,l,r)) (by rw [hf,hB.map];exact map?_mapB _) (hB.key hz hl hr) (fun p hp=>hB.key hz (hB.entB hp).1 (hB.entB hp).2)
  (fun a ⟨x,hx⟩ e=>by
   have h1:=hB.entB hx;simp only [ek,List.cons.injEq,Value.int.injEq,Value.pointer.injEq,Option.some.injEq,Addr.mk.injEq,true_and,and_true] at e
   obtain⟨e1,e2,e3,e4,e5,e6⟩:=e
   obtain⟨⟨c1,c2,c3,c4⟩,a1,a2⟩:=a
   obtain⟨k1,k2,k3,k4⟩:=k
   simp only at e1 e2 e3 e4 e5 e6 h1;subst e1;subst e2;subst e3;subst e4
   rw [hB.inj a1 l h1.1 hl e5,hB.inj a2 r h1.2 hr e6]) (ix := .p (.agg [i64 k.c,i64 k.a,i64 k.b,i64 k.d,ptp (ad l),ptp (ad r)])) rfl false
 rw [this,zoy];by_cases hp:ym s k l r < s.length
 · rw [if_pos hp,if_pos hp];rfl
 · rw [if_neg hp,if_neg hp];rfl
def adU (ad:Nat → Nat) (n g:Nat):Nat → Nat:=fun i=>if i=n then g else ad i
theorem zc3 {ad:Nat → Nat} {n g:Nat}:adU ad n g n=g:=if_pos rfl
theorem zaC {ad:Nat → Nat} {n g i:Nat} (h:i≠n):adU ad n g i=ad i:=if_neg h
theorem zlu {ad ad':Nat → Nat} {a:Ky} (h1:ad' a.2.1=ad a.2.1) (h2:ad' a.2.2=ad a.2.2):ek ad' a=ek ad a:=by simp only [ek,h1,h2]
theorem zxo {ad ad':Nat → Nat} {m:List (Ky × Nat)} (h : ∀ p∈m,ad' p.1.2.1=ad p.1.2.1∧ad' p.1.2.2=ad p.1.2.2∧ad' p.2=ad p.2):tm (kyV ad') (ndP ad') m=tm (kyV ad) (ndP ad) m:=by
 simp only [tm]
 refine List.map_congr_left fun p hp => ?_
 obtain⟨h1,h2,h3⟩:=h p hp
 simp only [kyV,ndP,zlu h1 h2,h3]
theorem BH.fresh {H:Hp} {s:List Nd} {ad:Nat → Nat} {bb mb:Nat} (hB:BH H s ad bb mb) {H':Hp} (hf:H'.f mb=H.f mb) (hz:H'.z=H.z) {k:Cf} {l r:Nat} (hl:l < 29+s.length) (hr:r < 29+s.length) (hp : ¬ ym s k l r < s.length) (y:AV) :
 zcK Tryz.prog H' 140 (.mp mb) (.p (.agg [i64 k.c,i64 k.a,i64 k.b,i64 k.d,ptp (ad l),ptp (ad r)])) y=some (H'.set mb (.mapB (tm (kyV ad) (ndP ad) (zc1 s)++[(kyV ad (k,l,r),y)]))):=by
 refine keyM.new (H:=H') (by rw [hf,hB.map];exact map?_mapB _) ⟨ek ad (k,l,r),rfl,hB.key hz hl hr⟩ (fun e he => ?_) (fun e he h => ?_) rfl
 · simp only [tm,List.mem_map] at he
   obtain⟨p,hp,rfl⟩:=he
   exact⟨_,rfl,hB.key hz (hB.entB hp).1 (hB.entB hp).2⟩
 · simp only [tm,List.mem_map] at he
   obtain⟨p,hpm,rfl⟩:=he
   have h1:=hB.entB hpm
   obtain⟨i,hi,rfl⟩:=zen hpm
   simp only at h1
   have h2:ek ad ((nth s i).k,(nth s i).l,(nth s i).r)=ek ad (k,l,r):=by simpa [kyV] using h
   simp only [ek,List.cons.injEq,Value.int.injEq,Value.pointer.injEq,Option.some.injEq,Addr.mk.injEq,true_and,and_true] at h2
   obtain⟨e1,e2,e3,e4,e5,e6⟩:=h2
   have e7:=hB.inj _ l h1.1 hl e5;have e8:=hB.inj _ r h1.2 hr e6
   have e9:(nth s i).k=k:=by
    obtain⟨k1,k2,k3,k4⟩:=k
    generalize (nth s i).k=q at e1 e2 e3 e4
    obtain⟨q1,q2,q3,q4⟩:=q
    simp only at e1 e2 e3 e4;rw [e1,e2,e3,e4]
   refine hp (List.findIdx_lt_length_of_exists ⟨nth s i,?_,by simp [e7,e8,e9]⟩);rw [zh hi];exact List.getElem_mem _
theorem zzM {s:List Nd} (hw:Wf s) {ad:Nat → Nat} {k:Cf} {l r:Nat} (hl:l < 29+s.length) (hr:r < 29+s.length) (hp : ¬ ym s k l r < s.length) (g v:Nat) :
 tm (kyV ad) (ndP ad) (zc1 s)++[(kyV ad (k,l,r),.p (ptp g))]=tm (kyV (adU ad (29+s.length) g)) (ndP (adU ad (29+s.length) g)) (zc1 (s++[⟨k,l,r,v⟩])):=by
 have hne : ∀ i,i < 29+s.length → adU ad (29+s.length) g i=ad i:=fun i hi=>zaC (by omega)
 have hent : ∀ p∈zc1 s,p.1.2.1 < 29+s.length∧p.1.2.2 < 29+s.length∧p.2 < 29+s.length:=fun p hp=>by
  obtain⟨i,hi,rfl⟩:=zen hp
  obtain⟨a,b⟩:=hw.op i hi
  exact⟨by simp only;omega,by simp only;omega,by simp only;omega⟩
 have hm:tm (kyV (adU ad (29+s.length) g)) (ndP (adU ad (29+s.length) g)) (zc1 s)=tm (kyV ad) (ndP ad) (zc1 s):=zxo fun p hp=>let ⟨a,b,c⟩:=hent p hp;⟨hne _ a,hne _ b,hne _ c⟩
 have h2 : ∀ (s:List Nd) (j:Nat) (x:Nd),zdr j (s++[x])=zdr j s++[((x.k,x.l,x.r),29+(j+s.length))]:=by
  intro s
  induction s with
  | nil=>intro j x;rfl
  | cons y s ih=>intro j x;simp only [List.cons_append,zdr,ih,List.length_cons,Nat.add_assoc,Nat.add_comm 1]
 rw [←hm,zc1,zc1,h2,Nat.zero_add];simp only [tm,List.map_append,List.map_cons,List.map_nil];rw [show kyV (adU ad (29+s.length) g) (k,l,r)=kyV ad (k,l,r) by simp only [kyV,zlu (a:=(k,l,r)) (hne l hl) (hne r hr)],show ndP (adU ad (29+s.length) g) (29+s.length) = .p (ptp g) by simp only [ndP,zc3]]
theorem BH.add {H:Hp} {s:List Nd} {ad:Nat → Nat} {bb mb:Nat} (hB:BH H s ad bb mb) {k:Cf} {l r:Nat} (hl:l < 29+s.length) (hr:r < 29+s.length) (hp : ¬ ym s k l r < s.length) {g:Nat} (hg:H.z g=none) {H':Hp}
 (hf:H'.f bb=H.f bb) (hm:H'.f mb=some (.mapB (tm (kyV (adU ad (29+s.length) g)) (ndP (adU ad (29+s.length) g)) (zc1 (s++[⟨k,l,r,1+max (lev s l) (lev s r)⟩])))))
 (hz:H'.z=(H.wz g (8,[.agg [i64 0,i64 k.c,i64 k.a,i64 k.b,i64 k.d,ptp (ad l),ptp (ad r),i64 ((1+max (lev s l) (lev s r):Nat):Int)]])).z) :
 BH H' (addN s l r k).2 (adU ad (29+s.length) g) bb mb:=by
 have hne : ∀ i,i < 29+s.length → adU ad (29+s.length) g i=ad i:=fun i hi=>zaC (by omega)
 have hgn : ∀ i,i < 29+s.length → ad i≠g:=fun i hi e=>by rw [←e,hB.nd i hi] at hg;cases hg
 have hw:=hB.wf.add hl hr k;rw [yP,if_neg hp] at hw ⊢
 refine⟨?_,hm,fun n hn => ?_,fun i j hi hj e => ?_,hw,hB.ne⟩
 · rw [hf,hB.bld]
   have:pl (fun i=>ptp (adU ad (29+s.length) g i)) rng29=pl (fun i=>ptp (ad i)) rng29:=List.map_congr_left fun i hi=>by
    rw [hne i (by have:=zhZ hi;omega)]
   rw [this]
 · rw [hz];by_cases e:n=29+s.length
   · subst e;rw [zc3,zpH]
     have h1:nth (s++[(⟨k,l,r,1+max (lev s l) (lev s r)⟩:Nd)]) s.length=⟨k,l,r,1+max (lev s l) (lev s r)⟩:=by rw [zA (Nat.le_refl _),Nat.sub_self,zx]
     simp only [ndC,show ¬ 29+s.length < 29 by omega,if_false,Nat.add_sub_cancel_left,h1,hne l hl,hne r hr]
   · have hn':n < 29+s.length:=by simp at hn;omega
     rw [hne n hn',zvH (hgn n hn'),hB.nd n hn']
     congr 3
     simp only [ndC]
     split
     · rfl
     · have h1:nth (s++[(⟨k,l,r,1+max (lev s l) (lev s r)⟩:Nd)]) (n - 29)=nth s (n - 29):=zI (by omega)
       obtain⟨o1,o2⟩:=hB.wf.op (n - 29) (by omega)
       rw [h1,hne _ (by omega),hne _ (by omega)]
 · have hlen:(s++[(⟨k,l,r,1+max (lev s l) (lev s r)⟩:Nd)]).length=s.length+1:=by simp
   rw [hlen] at hi hj;by_cases ei:i=29+s.length
   · by_cases ej:j=29+s.length
     · omega
     · rw [ei,zc3,zaC ej] at e;exact absurd e.symm (hgn j (by omega))
   · by_cases ej:j=29+s.length
     · rw [ej,zc3,zaC ei] at e;exact absurd e (hgn i (by omega))
     · rw [zaC ei,zaC ej] at e;exact hB.inj i j (by omega) (by omega) e
theorem BH.bel {H H':Hp} {s:List Nd} {ad:Nat → Nat} {bb mb n:Nat} (hB:BH H' s ad bb mb) (hb:Bel n H) (hf : ∀ b,b < n → b≠mb → H'.f b=H.f b):Bel n H':=fun b x hbn hx y hy=>by
 by_cases e:b=mb
 · subst e;rw [hB.map] at hx;cases hx;simp only [AB.mapB,AB.vals,tm,List.map_map,List.mem_map] at hy
   obtain⟨p,_,rfl⟩:=hy
   exact .p _
 · rw [hf b hbn e] at hx;exact hb b x hbn hx y hy
end Go.Proofs.YthaoifcebimkfaaGreatDoor

namespace Go.Proofs.YthaoifcebimkfaaGreatDoor
open Go Go.AL

theorem CallD.of {C:Cx} {ops:Array Oper} {q:Nat → Bool} {f:FuncId} {args':List AV} {dst:Option Nat} {n:Nat} {rest:List Oper} {k:List Item} {env:Env} {H H':Hp} {R:AV → Hp → Prop} {r:AV}
 (h : ∀ R:AV → Hp → Prop,R r H' → ACall C.P C.G f args' H R) (hk:zaa C ops q n rest k (env.put dst r) H' R):CallD C ops q false f args' dst n rest k env H R :=
 .moves (h (fun r' H2=>r'=r∧H2=H') ⟨rfl,rfl⟩) (by rintro _ _ ⟨rfl,rfl⟩;exact hk)

theorem yc {C:Cx} {ops:Array Oper} {i:Nat} {o:Oper} {K:Env → Hp → Prop} {env:Env} {H:Hp} (x:AV) (ho:ops[i]? = some o) (hg:o.guard=none) (hs:zc C.P C.G o.op o.type env H = .val x H) (hd:zv C.nt o.dst=true)
 (hK:K (env.put o.dst x) H):opA C ops false i K env H:=by
 unfold opA;rw [ho];simp only [hg,zC,aOp1,hs,sOp]
 exact⟨hd,hK⟩
theorem zxp {C:Cx} {ops:Array Oper} {i:Nat} {o:Oper} {K:Env → Hp → Prop} {env:Env} {H H':Hp} (x:AV) (ho:ops[i]? = some o) (hg:o.guard=none) (hs:zc C.P C.G o.op o.type env H = .val x H') (hd:zv C.nt o.dst=true)
 (hK:K (env.put o.dst x) H'):opA C ops false i K env H:=by
 unfold opA;rw [ho];simp only [hg,zC,aOp1,hs,sOp]
 exact⟨hd,hK⟩
theorem zxq {C:Cx} {ops:Array Oper} {i:Nat} {o:Oper} {K:Env → Hp → Prop} {env:Env} {H H':Hp} (ho:ops[i]? = some o) (hg:o.guard=none) (hs:zc C.P C.G o.op o.type env H = .unit H') (hd:o.dst=none)
 (hK:K env H'):opA C ops false i K env H:=by
 unfold opA;rw [ho];simp only [hg,zC,aOp1,hs,sOp]
 exact⟨hd,by rw [hd];exact hK⟩
theorem zk {L:Nat → Bool} {i k:Nat} (h:k≠i):more L i k=L k:=by simp [more,h]
theorem zp2 {L:Nat → Bool} {i:Nat}:more L i i=true:=by simp [more]
theorem zBx {L:Nat → Bool} {i k:Nat} (h:L k=true):more L i k=true:=by simp [more,h]
def allT (L:Nat → Bool) (l:List Nat):Prop := ∀ d∈l,L d=true
theorem zlv {L:Nat → Bool}:allT L []:=fun d h=>by cases h
theorem zH {L:Nat → Bool} {d:Nat} {l:List Nat} (h:L d=true) (t:allT L l):allT L (d :: l):=fun x hx=>by
 rcases List.mem_cons.1 hx with rfl | hx
 · exact h
 · exact t x hx
section inv
variable {L:Nat → Bool} {i j s:Nat} {env:Env} {d:Option Nat} {x v:AV} {l:List Nat}
theorem nfT (m:L j=true → allT L l) (hL:L i=false) (h:i∈l:=by decide):L j=false:=Bool.eq_false_iff.2 fun e=>by
 have:=m e i h
 rw [hL] at this;cases this
theorem kf (e:env s=v) (h:d≠some s:=by decide):env.put d x s=v:=(Go.AL.put_ne fun i hi q=>h (hi.trans (congrArg some q))).trans e
theorem kn {p:Prop}:p → env.put (some s) x s=x:=fun _=>put_some.trans (if_pos rfl)
theorem kt (t:allT L l):allT (more L i) l:=fun d h=>zBx (t d h)
theorem ka (m:L j=true → allT L l) (h:j≠i:=by decide):more L i j=true → allT (more L i) l:=fun q=>kt (m (by rwa [zk h] at q))
theorem kL {A:Array Edge} {L:Nat → Bool} (hall : ∀ e∈A,Region.binds .any e=true → L e.on=true) (k:Nat) {j:Nat} {g:Ground} (h1:A[k]? = some ⟨j,g⟩) (h2:Region.binds .any ⟨j,g⟩=true):L j=true:=hall _ (Array.mem_of_getElem? h1) h2
def kF (env:Env) (l:List (Nat × AV)):Prop := ∀ p∈l,env p.1=p.2
def kI (L:Nat → Bool) (env:Env) (l:List (Nat × Nat × AV)):Prop := ∀ p∈l,L p.1=true → env p.2.1=p.2.2
theorem kF0:kF env []:=fun p h=>by cases h
theorem kFc {t:List (Nat × AV)} (h:env s=v) (r:kF env t):kF env ((s,v) :: t):=fun p hp=>by
 rcases List.mem_cons.1 hp with rfl | hp
 · exact h
 · exact r p hp
theorem kFi {t:List (Nat × AV)}:kF env ((s,v) :: t)=(env s=v∧kF env t):=propext ⟨fun F=>⟨F _ List.mem_cons_self,fun p hp=>F p (List.mem_cons_of_mem _ hp)⟩,fun h=>kFc h.1 h.2⟩
theorem kFn:kF env []=True:=propext ⟨fun _=>trivial,fun _=>kF0⟩
theorem kFg {t:List (Nat × AV)} (F:kF env t) (k:Nat) (e:t[k]? = some (s,v)):env s=v:=F _ (List.mem_of_getElem? e)
theorem kIg {t:List (Nat × Nat × AV)} (G:kI L env t) (k:Nat) (e:t[k]? = some (i,s,v)) (h:L i=true):env s=v:=G _ (List.mem_of_getElem? e) h
theorem kFp {t:List (Nat × AV)} (F:kF env t) (h:t.all (fun p=>p.1 != s)=true:=by rfl):kF (env.put (some s) x) t:=fun p hp =>
 kf (F p hp) fun q=>by
  have h1:=List.all_eq_true.1 h p hp;simp only [Option.some.injEq] at q;simp [q] at h1
theorem kIp {t:List (Nat × Nat × AV)} (G:kI L env t) (h1:t.all (fun p=>p.1 == i || p.2.1 != s)=true:=by rfl) (h2:t.filter (fun p=>p.1 == i)=[(i,s,x)]:=by rfl):kI (more L i) (env.put (some s) x) t:=fun p hp hL=>by
 by_cases e:p.1=i
 · have h3:p∈t.filter (fun p=>p.1 == i):=List.mem_filter.2 ⟨hp,by simp [e]⟩;rw [h2] at h3;obtain rfl:=List.mem_singleton.1 h3;exact kn (p:=True) trivial
 · refine kf (G p hp (by rwa [zk e] at hL)) fun q => ?_
   have h3:=List.all_eq_true.1 h1 p hp;simp only [Option.some.injEq] at q;simp [q,e] at h3
theorem kIs {t:List (Nat × Nat × AV)} (G:kI L env t) (h1:t.all (fun p=>p.1 != i)=true:=by rfl):kI (more L i) env t:=fun p hp hL=>by
 have h3:=List.all_eq_true.1 h1 p hp;exact G p hp (by rwa [zk (by simpa using h3)] at hL)
end inv
end Go.Proofs.YthaoifcebimkfaaGreatDoor

namespace Go.Proofs.YthaoifcebimkfaaGreatDoor
open Go Go.AL

structure Nx (mb:Nat) (H:Hp) (m:Nat) (ad:Nat → Nat) (H':Hp) (ad':Nat → Nat):Prop where
 n:H'.n=H.n
 f : ∀ b,b≠mb → H'.f b=H.f b
 ad : ∀ i,i < m → ad' i=ad i
theorem Nx.refl {mb:Nat} {H:Hp} {m:Nat} {ad:Nat → Nat}:Nx mb H m ad H ad:=⟨rfl,fun _ _=>rfl,fun _ _=>rfl⟩
theorem Nx.trans {mb:Nat} {H H1 H2:Hp} {m m1:Nat} {ad ad1 ad2:Nat → Nat} (h:Nx mb H m ad H1 ad1) (h':Nx mb H1 m1 ad1 H2 ad2) (hm:m≤m1):Nx mb H m ad H2 ad2 :=
 ⟨h'.n.trans h.n,fun b hb=>(h'.f b hb).trans (h.f b hb),fun i hi=>(h'.ad i (by omega)).trans (h.ad i hi)⟩

theorem zdO {s:List Nd} (hw:Wf s) : ∀ n,n < 29+s.length → lev s n≤n - 28:=by
 intro n
 induction n using Nat.strongRecOn with
 | _ n ih =>
  intro hn;by_cases h:n < 29
  · rw [zgy n h];omega
  · obtain⟨j,rfl⟩ : ∃ j,n=29+j:=⟨n - 29,by omega⟩
    have hj:j < s.length:=by omega
    obtain⟨h1,h2⟩:=hw.op j hj
    have a:=ih (nth s j).l (by omega) (by omega);have b:=ih (nth s j).r (by omega) (by omega)
    have e:lev s (29+j)=(nth s j).lv:=by unfold lev;rw [if_neg h,Nat.add_sub_cancel_left]
    rw [e,hw.lv j hj];omega
theorem zi9 {ad:Nat → Nat} {s:List Nd} {n:Nat}:(ndC ad s n)[7]? = some (i64 (lev s n:Nat)):=by
 unfold ndC lev
 split<;>rfl

def nw (s:List Nd) (ad:Nat → Nat) (k:Cf) (l r:Nat):List PV:=[i64 0,i64 k.c,i64 k.a,i64 k.b,i64 k.d,ptp (ad l),ptp (ad r),i64 ((1+max (lev s l) (lev s r):Nat):Int)]
section nw
variable {s:List Nd} {ad:Nat → Nat} {k:Cf} {l r:Nat}
theorem zF:zm [.p (i64 0),.p (i64 k.c),.p (i64 k.a),.p (i64 k.b),.p (i64 k.d),.p (ptp (ad l)),.p (ptp (ad r)),.p (i64 ((1+max (lev s l) (lev s r):Nat):Int))] = .p (.agg (nw s ad k l r)):=rfl
theorem zw:ze (.p (.agg (nw s ad k l r)))=some ((nw s ad k l r).map .p):=rfl
end nw

section walks
variable {G:Globs}
def kyP (k:Cf) (g g':Nat):PV := .agg [i64 k.c,i64 k.a,i64 k.b,i64 k.d,ptp g,ptp g']
section enc
variable {k:Cf} {a b c d:Int} {g g' o o':Nat} {v:Value} {n:Int}
theorem zoz:ze (.p (cfP k))=some [.p (i64 k.c),.p (i64 k.a),.p (i64 k.b),.p (i64 k.d)]:=rfl
theorem zs5:(cfP k).cells=[i64 k.c,i64 k.a,i64 k.b,i64 k.d]:=rfl
theorem zs6:(cfP k).isAgg=true:=rfl
theorem zoA:(AV.p (cfP k)).isAggV=true:=rfl
theorem zxr:(cfP k).weak=cfP k:=rfl
theorem zs7:(cfP k).weak1=cfP k:=rfl
theorem zs8:(cfP k).aggOf 0 4=cfP k:=rfl
theorem zs9:zm [.p (i64 a),.p (i64 b),.p (i64 c),.p (i64 d)] = .p (cfP ⟨a,b,c,d⟩):=rfl
theorem zBy:(⟨k.c,k.a,k.b,k.d⟩:Cf)=k:=rfl
theorem zzO:PV.agg [i64 a,i64 b,i64 c,i64 d]=cfP ⟨a,b,c,d⟩:=rfl
theorem zoB:ze (.p (kyP k g g'))=some [.p (i64 k.c),.p (i64 k.a),.p (i64 k.b),.p (i64 k.d),.p (ptp g),.p (ptp g')]:=rfl
theorem zta:(kyP k g g').cells=[i64 k.c,i64 k.a,i64 k.b,i64 k.d,ptp g,ptp g']:=rfl
theorem ztb:(kyP k g g').isAgg=true:=rfl
theorem zoC:(AV.p (kyP k g g')).isAggV=true:=rfl
theorem zxs:(kyP k g g').weak=kyP k g g':=rfl
theorem ztc:(kyP k g g').weak1=kyP k g g':=rfl
theorem ztd:zm [.p (i64 a),.p (i64 b),.p (i64 c),.p (i64 d),.p (ptp g),.p (ptp g')] = .p (kyP ⟨a,b,c,d⟩ g g'):=rfl
theorem zzP:PV.agg [i64 a,i64 b,i64 c,i64 d,ptp g,ptp g']=kyP ⟨a,b,c,d⟩ g g':=rfl
theorem zxt {a b c d w x y z:AV} {r:List AV}:setAt (a :: b :: c :: d :: r) 0 [w,x,y,z]=w :: x :: y :: z :: r:=rfl
theorem zxu {e a b c d w x y z:AV} {r:List AV}:setAt (e :: a :: b :: c :: d :: r) 1 [w,x,y,z]=e :: w :: x :: y :: z :: r:=rfl
end enc
attribute [go_sem] zxt zxu zoz zs5 zs6 zoA zxr zs7 zs8 zs9 zBy zzO zoB zta ztb zoC zxs ztc ztd zzP
set_option maxRecDepth 20000 in
set_option maxHeartbeats 8000000 in
theorem zte {s:List Nd} {ad:Nat → Nat} {bb mb:Nat} (l r:Nat) (k:Cf) (H:Hp) (hB:BH H s ad bb mb) (hl:l < 29+s.length) (hr:r < 29+s.length) (hlen:s.length≤1000) (R:AV → Hp → Prop)
 (h : ∀ H' ad',BH H' (addN s l r k).2 ad' bb mb → Nx mb H (29+s.length) ad H' ad' → R (.p (ptp (ad' (addN s l r k).1))) H') :
 ACall Tryz.prog G 92 [.ptr bb 0,.p (ptp (ad l)),.p (ptp (ad r)),.p (cfP k)] H R:=by
 refine ACall.of_run (raw:=[]) Tryz.func92 rfl Tryz.ntmps92 (by simp) fun hbel => ?_
 have hbb:=Hp.lt hB.bld;have hmb:=Hp.lt hB.map;refine .qt rfl ?_;simp (disch:=first|exact za|fail) only [go_sem,seval];refine .qt rfl ?_;simp (disch:=first|exact za|fail) only [go_sem,seval]
 have hnew : ∀ x y,((H.new x).new y).f mb=H.f mb:=fun x y=>by rw [zb (by rw [n_new'];omega),zb (by omega)]
 by_cases hp:ym s k l r < s.length
 · have hlk : ∀ x y,zaj Tryz.prog ((H.new x).new y) 140 (.mp mb) (.p (kyP k (ad l) (ad r))) false=some (.p (ptp (ad (29+ym s k l r)))):=fun x y=>by
    have:=hB.look (hnew x y) rfl (k:=k) hl hr
    rw [if_pos hp] at this;exact this
   refine .q ?_;refine .open [] follows (by kernel_rfl) ?_;simp (disch:=first|exact za|fail) only [go_sem,seval,hB.bld,hlk];refine .qF rfl ?_;refine .q ?_;refine .open [] follows (by kernel_rfl) ?_;simp (disch:=first|exact za|fail) only [go_sem,seval,hB.bld,hlk];refine .qr rfl Tryz.func92 (by rw [Tryz.results92]) ?_;simp (disch:=first|exact za|fail) only [go_sem,seval]
   have e:(addN s l r k).2=s:=by rw [yP,if_pos hp]
   exact h H ad (by rw [e];exact hB) .refl
 · have hlk : ∀ x y,zaj Tryz.prog ((H.new x).new y) 140 (.mp mb) (.p (kyP k (ad l) (ad r))) false=some (.p (.s (.pointer none))):=fun x y=>by
    have:=hB.look (hnew x y) rfl (k:=k) hl hr
    rw [if_neg hp] at this;exact this
   have hfr : ∀ x y z v,zcK Tryz.prog (app ((H.new x).new y) [z]) 140 (.mp mb) (.p (kyP k (ad l) (ad r))) v=some ((app ((H.new x).new y) [z]).set mb (.mapB (tm (kyV ad) (ndP ad) (zc1 s)++[(kyV ad (k,l,r),v)]))):=fun x y z v =>
    hB.fresh (H':=((H.new x).new y).new z) (by rw [zb (by rw [n_new',n_new'];omega)];exact hnew x y) rfl hl hr hp v
   have hzl:=hB.nd l hl;have hzr:=hB.nd r hr;have hll:=zdO hB.wf l hl;have hlr:=zdO hB.wf r hr
   have hmx:max (lev s l:Int) (lev s r:Int)=((max (lev s l) (lev s r):Nat):Int):=by omega
   have ndl:(ndC ad s l)[7]? = some (i64 (lev s l:Nat)):=zi9;have ndr:(ndC ad s r)[7]? = some (i64 (lev s r:Nat)):=zi9;refine .q ?_;refine .open [] follows (by kernel_rfl) ?_;simp (disch:=first|exact za|fail) only [go_sem,seval,hB.bld,hlk];refine .qT rfl ?_
   (refine .q ?_)
   refine .openInv (fun L env' H'=>kF env' [(0,.ptr bb 0),(1,.p (ptp (ad l))),(2,.p (ptp (ad r))),(7,.ptr H.n 0),(9,.ptr (H.n+1) 0)]∧kI L env' [(0,21,.ptr bb 0),(1,22,.ptr bb 0),(2,23,.ptr bb 1),(3,24,.mp mb),(4,25,.p (kyP k (ad l) (ad r))),(5,26,.p (cfP k)),(6,27,.p (ptp (ad l))),(7,28,.p (ptp (ad r))),(8,29,.p (ptp (ad l))),(9,30,.p (ptp (ad l))),(10,31,.p (ptq (ad l) 7)),(11,32,.p (i64 (lev s l:Nat))),(12,33,.p (ptp (ad r))),(13,34,.p (ptp (ad r))),(14,35,.p (ptq (ad r) 7)),(15,36,.p (i64 (lev s r:Nat))),(16,37,.p (i64 (max (lev s l) (lev s r):Nat))),(17,38,.p (i64 (1+max (lev s l) (lev s r):Nat))),(18,39,.p (.agg (nw s ad k l r))),(19,40,.ptr (H.n+2) 0)]∧(L 19=true → allT L [18])∧(L 20=true → allT L [0,1,2,3,4,5,6,7,8,9,10,11,12,13,14,15,16,17,18,19])∧H'=(if L 20=true then (app ((H.new (.cells [.p (i64 k.c),.p (i64 k.a),.p (i64 k.b),.p (i64 k.d)])).new (.cells [.p (i64 k.c),.p (i64 k.a),.p (i64 k.b),.p (i64 k.d),.p (ptp (ad l)),.p (ptp (ad r))])) [.cells ((nw s ad k l r).map .p)]).set mb (.mapB (tm (kyV ad) (ndP ad) (zc1 s)++[(kyV ad (k,l,r),.ptr (H.n+2) 0)])) else app ((H.new (.cells [.p (i64 k.c),.p (i64 k.a),.p (i64 k.b),.p (i64 k.d)])).new (.cells [.p (i64 k.c),.p (i64 k.a),.p (i64 k.b),.p (i64 k.d),.p (ptp (ad l)),.p (ptp (ad r))])) (if L 19=true then [.cells ((nw s ad k l r).map .p)] else []))) follows (by kernel_rfl) ?_ ?_ ?_
   · exact⟨(by simp (disch:=first|exact za|fail) only [go_sem,seval,kFi,kFn,and_self,hB.bld,hfr,hzl,hzr,ndl,ndr,hmx,zF,zw]),(fun _ _ h=>by cases h),(fun h=>by cases h),(fun h=>by cases h),(by first | rfl | (simp only [Bool.false_eq_true,if_false];first | rfl | (simp (disch:=first|exact za|fail) only [go_sem,seval,hB.bld,hfr,hzl,hzr,ndl,ndr,hmx,zF,zw]<;>rfl)))⟩
   · intro i o L env' H' ho hL hall hI
     obtain⟨KF,KG,m19,m20,rfl⟩:=hI
     rcases i with _ | _ | _ | _ | _ | _ | _ | _ | _ | _ | _ | _ | _ | _ | _ | _ | _ | _ | _ | _ | _ | i
     · cases ho;have f0:=kFg KF 0 rfl;refine yc (.ptr bb 0) rfl rfl (by simp (disch:=first|exact za|fail) only [go_sem,seval,f0,hB.bld,hfr,hzl,hzr,ndl,ndr,hmx,zF,zw]<;>rfl) rfl ?_;exact⟨kFp KF,kIp KG,ka m19,ka m20,(by rw [zk (by decide),zk (by decide)])⟩
     · cases ho;have d0:=kIg KG 0 rfl (kL hall 0 rfl rfl);refine yc (.ptr bb 0) rfl rfl (by simp (disch:=first|exact za|fail) only [go_sem,seval,d0,hB.bld,hfr,hzl,hzr,ndl,ndr,hmx,zF,zw]<;>rfl) rfl ?_;exact⟨kFp KF,kIp KG,ka m19,ka m20,(by rw [zk (by decide),zk (by decide)])⟩
     · cases ho;have d1:=kIg KG 1 rfl (kL hall 0 rfl rfl);refine yc (.ptr bb 1) rfl rfl (by simp (disch:=first|exact za|fail) only [go_sem,seval,d1,hB.bld,hfr,hzl,hzr,ndl,ndr,hmx,zF,zw]<;>rfl) rfl ?_;exact⟨kFp KF,kIp KG,ka m19,ka m20,(by rw [zk (by decide),zk (by decide)])⟩
     · cases ho;have d2:=kIg KG 2 rfl (kL hall 0 rfl rfl);have n20:=nfT m20 hL;refine yc (.mp mb) rfl rfl (by simp (disch:=first|exact za|fail) only [go_sem,seval,reduceIte,Bool.false_eq_true,if_false,if_true,d2,n20,hL,hB.bld,hfr,hzl,hzr,ndl,ndr,hmx,zF,zw]<;>rfl) rfl ?_;exact⟨kFp KF,kIp KG,ka m19,ka m20,(by rw [zk (by decide),zk (by decide)])⟩
     · cases ho;have n20:=nfT m20 hL;have f4:=kFg KF 4 rfl;refine yc (.p (kyP k (ad l) (ad r))) rfl rfl (by simp (disch:=first|exact za|fail) only [go_sem,seval,reduceIte,Bool.false_eq_true,if_false,if_true,f4,n20,hL,hB.bld,hfr,hzl,hzr,ndl,ndr,hmx,zF,zw]<;>rfl) rfl ?_;exact⟨kFp KF,kIp KG,ka m19,ka m20,(by rw [zk (by decide),zk (by decide)])⟩
     · cases ho;have n20:=nfT m20 hL;have f3:=kFg KF 3 rfl;refine yc (.p (cfP k)) rfl rfl (by simp (disch:=first|exact za|fail) only [go_sem,seval,reduceIte,Bool.false_eq_true,if_false,if_true,f3,n20,hL,hB.bld,hfr,hzl,hzr,ndl,ndr,hmx,zF,zw]<;>rfl) rfl ?_;exact⟨kFp KF,kIp KG,ka m19,ka m20,(by rw [zk (by decide),zk (by decide)])⟩
     · cases ho;have f1:=kFg KF 1 rfl;refine yc (.p (ptp (ad l))) rfl rfl (by simp (disch:=first|exact za|fail) only [go_sem,seval,f1,hB.bld,hfr,hzl,hzr,ndl,ndr,hmx,zF,zw]<;>rfl) rfl ?_;exact⟨kFp KF,kIp KG,ka m19,ka m20,(by rw [zk (by decide),zk (by decide)])⟩
     · cases ho;have f2:=kFg KF 2 rfl;refine yc (.p (ptp (ad r))) rfl rfl (by simp (disch:=first|exact za|fail) only [go_sem,seval,f2,hB.bld,hfr,hzl,hzr,ndl,ndr,hmx,zF,zw]<;>rfl) rfl ?_;exact⟨kFp KF,kIp KG,ka m19,ka m20,(by rw [zk (by decide),zk (by decide)])⟩
     · cases ho;have f1:=kFg KF 1 rfl;refine yc (.p (ptp (ad l))) rfl rfl (by simp (disch:=first|exact za|fail) only [go_sem,seval,f1,hB.bld,hfr,hzl,hzr,ndl,ndr,hmx,zF,zw]<;>rfl) rfl ?_;exact⟨kFp KF,kIp KG,ka m19,ka m20,(by rw [zk (by decide),zk (by decide)])⟩
     · cases ho;have d8:=kIg KG 8 rfl (kL hall 0 rfl rfl);refine yc (.p (ptp (ad l))) rfl rfl (by simp (disch:=first|exact za|fail) only [go_sem,seval,d8,hB.bld,hfr,hzl,hzr,ndl,ndr,hmx,zF,zw]<;>rfl) rfl ?_;exact⟨kFp KF,kIp KG,ka m19,ka m20,(by rw [zk (by decide),zk (by decide)])⟩
     · cases ho;have d9:=kIg KG 9 rfl (kL hall 0 rfl rfl);refine yc (.p (ptq (ad l) 7)) rfl rfl (by simp (disch:=first|exact za|fail) only [go_sem,seval,d9,hB.bld,hfr,hzl,hzr,ndl,ndr,hmx,zF,zw]<;>rfl) rfl ?_;exact⟨kFp KF,kIp KG,ka m19,ka m20,(by rw [zk (by decide),zk (by decide)])⟩
     · cases ho;have d10:=kIg KG 10 rfl (kL hall 0 rfl rfl);have n20:=nfT m20 hL;refine yc (.p (i64 (lev s l:Nat))) rfl rfl (by simp (disch:=first|exact za|fail) only [go_sem,seval,reduceIte,Bool.false_eq_true,if_false,if_true,d10,n20,hL,hB.bld,hfr,hzl,hzr,ndl,ndr,hmx,zF,zw]<;>rfl) rfl ?_;exact⟨kFp KF,kIp KG,ka m19,ka m20,(by rw [zk (by decide),zk (by decide)])⟩
     · cases ho;have f2:=kFg KF 2 rfl;refine yc (.p (ptp (ad r))) rfl rfl (by simp (disch:=first|exact za|fail) only [go_sem,seval,f2,hB.bld,hfr,hzl,hzr,ndl,ndr,hmx,zF,zw]<;>rfl) rfl ?_;exact⟨kFp KF,kIp KG,ka m19,ka m20,(by rw [zk (by decide),zk (by decide)])⟩
     · cases ho;have d12:=kIg KG 12 rfl (kL hall 0 rfl rfl);refine yc (.p (ptp (ad r))) rfl rfl (by simp (disch:=first|exact za|fail) only [go_sem,seval,d12,hB.bld,hfr,hzl,hzr,ndl,ndr,hmx,zF,zw]<;>rfl) rfl ?_;exact⟨kFp KF,kIp KG,ka m19,ka m20,(by rw [zk (by decide),zk (by decide)])⟩
     · cases ho;have d13:=kIg KG 13 rfl (kL hall 0 rfl rfl);refine yc (.p (ptq (ad r) 7)) rfl rfl (by simp (disch:=first|exact za|fail) only [go_sem,seval,d13,hB.bld,hfr,hzl,hzr,ndl,ndr,hmx,zF,zw]<;>rfl) rfl ?_;exact⟨kFp KF,kIp KG,ka m19,ka m20,(by rw [zk (by decide),zk (by decide)])⟩
     · cases ho;have d14:=kIg KG 14 rfl (kL hall 0 rfl rfl);have n20:=nfT m20 hL;refine yc (.p (i64 (lev s r:Nat))) rfl rfl (by simp (disch:=first|exact za|fail) only [go_sem,seval,reduceIte,Bool.false_eq_true,if_false,if_true,d14,n20,hL,hB.bld,hfr,hzl,hzr,ndl,ndr,hmx,zF,zw]<;>rfl) rfl ?_;exact⟨kFp KF,kIp KG,ka m19,ka m20,(by rw [zk (by decide),zk (by decide)])⟩
     · cases ho;have d11:=kIg KG 11 rfl (kL hall 0 rfl rfl);have d15:=kIg KG 15 rfl (kL hall 1 rfl rfl);have n20:=nfT m20 hL;refine yc (.p (i64 (max (lev s l) (lev s r):Nat))) rfl rfl (by simp (disch:=first|exact za|fail) only [go_sem,seval,reduceIte,Bool.false_eq_true,if_false,if_true,d11,d15,n20,hL,hB.bld,hfr,hzl,hzr,ndl,ndr,hmx,zF,zw]<;>rfl) rfl ?_;exact⟨kFp KF,kIp KG,ka m19,ka m20,(by rw [zk (by decide),zk (by decide)])⟩
     · cases ho;have d16:=kIg KG 16 rfl (kL hall 0 rfl rfl);refine yc (.p (i64 (1+max (lev s l) (lev s r):Nat))) rfl rfl (by simp (disch:=first|exact za|fail) only [go_sem,seval,d16,hB.bld,hfr,hzl,hzr,ndl,ndr,hmx,zF,zw]<;>rfl) rfl ?_;exact⟨kFp KF,kIp KG,ka m19,ka m20,(by rw [zk (by decide),zk (by decide)])⟩
     · cases ho;have d5:=kIg KG 5 rfl (kL hall 0 rfl rfl);have d6:=kIg KG 6 rfl (kL hall 1 rfl rfl);have d7:=kIg KG 7 rfl (kL hall 2 rfl rfl);have d17:=kIg KG 17 rfl (kL hall 3 rfl rfl);have n19:=nfT m19 hL;have n20:=nfT m20 hL;refine yc (.p (.agg (nw s ad k l r))) rfl rfl (by simp (disch:=first|exact za|fail) only [go_sem,seval,reduceIte,Bool.false_eq_true,if_false,if_true,d5,d6,d7,d17,n19,n20,hL,hB.bld,hfr,hzl,hzr,ndl,ndr,hmx,zF,zw]<;>rfl) rfl ?_;exact⟨kFp KF,kIp KG,ka m19,ka m20,(by rw [zk (by decide),zk (by decide)])⟩
     · cases ho;have h18:=kL hall 0 rfl rfl;have d18:=kIg KG 18 rfl h18;have n20:=nfT m20 hL;(try simp only [n20,hL,if_true,if_false,Bool.false_eq_true]);refine zxp (.ptr (H.n+2) 0) rfl rfl (by simp (disch:=first|exact za|fail) only [go_sem,seval,reduceIte,Bool.false_eq_true,if_false,if_true,d18,n20,hL,hB.bld,hfr,hzl,hzr,ndl,ndr,hmx,zF,zw]<;>rfl) rfl ?_;exact⟨kFp KF,kIp KG,(fun _=>kt (zH h18 zlv)),ka m20,(by (have e19:more L 19 19=true:=zp2);(have e20:more L 19 20=L 20:=zk (by decide));(try simp only [e19,e20,n20,hL]);first | done | rfl | (simp only [e19,e20,n20,hL,if_true,if_false,Bool.false_eq_true];first | done | rfl | (simp (disch:=first|exact za|fail) only [go_sem,seval,e19,e20,n20,hL,hB.bld,hfr,hzl,hzr,ndl,ndr,hmx,zF,zw]<;>rfl)))⟩
     · cases ho;have h3:=kL hall 0 rfl rfl;have d3:=kIg KG 3 rfl h3;have h4:=kL hall 1 rfl rfl;have d4:=kIg KG 4 rfl h4;have h19:=kL hall 2 rfl rfl;have d19:=kIg KG 19 rfl h19;have h0:=kL hall 3 rfl rfl;have h1:=kL hall 4 rfl rfl;have h2:=kL hall 5 rfl rfl;have h5:=kL hall 8 rfl rfl;have h6:=kL hall 9 rfl rfl;have h7:=kL hall 10 rfl rfl;have h8:=kL hall 11 rfl rfl;have h9:=kL hall 12 rfl rfl;have h10:=kL hall 13 rfl rfl;have h11:=kL hall 14 rfl rfl;have h12:=kL hall 15 rfl rfl;have h13:=kL hall 16 rfl rfl;have h14:=kL hall 17 rfl rfl;have h15:=kL hall 18 rfl rfl;have h16:=kL hall 19 rfl rfl;have h17:=kL hall 20 rfl rfl;have h18:=kL hall 21 rfl rfl;refine zxq rfl rfl (by simp (disch:=first|exact za|fail) only [go_sem,seval,reduceIte,Bool.false_eq_true,if_false,if_true,d3,d4,d19,h19,hL,hB.bld,hfr,hzl,hzr,ndl,ndr,hmx,zF,zw]<;>rfl) rfl ?_;exact⟨KF,kIs KG,ka m19,(fun _=>kt (zH h0 (zH h1 (zH h2 (zH h3 (zH h4 (zH h5 (zH h6 (zH h7 (zH h8 (zH h9 (zH h10 (zH h11 (zH h12 (zH h13 (zH h14 (zH h15 (zH h16 (zH h17 (zH h18 (zH h19 zlv))))))))))))))))))))),(by (have e19:more L 20 19=L 19:=zk (by decide));(have e20:more L 20 20=true:=zp2);(try simp only [e19,e20,h19,hL]);first | done | rfl | (simp only [e19,e20,h19,hL,if_true,if_false,Bool.false_eq_true];first | done | rfl | (simp (disch:=first|exact za|fail) only [go_sem,seval,e19,e20,h19,hL,hB.bld,hfr,hzl,hzr,ndl,ndr,hmx,zF,zw]<;>rfl)))⟩
     · simp at ho
   · intro L env' H' hall hI
     obtain⟨KF,KG,_,_,rfl⟩:=hI
     have l19:=hall 19 (by decide);have l20:=hall 20 (by decide);have f0:=kFg KF 0 rfl;have f1:=kFg KF 1 rfl;have f2:=kFg KF 2 rfl;have f3:=kFg KF 3 rfl;have f4:=kFg KF 4 rfl;simp only [l19,l20,if_true]
     clear hall
     refine .frzZM (H.n+2) mb (nw s ad k l r) (tm (kyV ad) (ndP ad) (zc1 s)) (kyV ad (k,l,r)) (by rw [Hp.f_set_ne _ _ _ _ (by omega)];exact Hp.f_new_self _ _) (Nat.succ_pos _) (by rw [Hp.f_set_self _ _ _ (by rw [app_n',n_new',n_new'];omega)]) fun g hg => ?_
     rw [zzM hB.wf hl hr hp g (1+max (lev s l) (lev s r))]
     generalize hHx:Hp.wz _ _ _=Hx
     have hxf : ∀ b,b < H.n → b≠mb → Hx.f b=H.f b:=fun b hb hm=>by
      subst hHx;rw [ziT,Hp.f_set_ne _ _ _ _ hm,Hp.f_set_ne _ _ _ _ (by omega),Hp.f_set_ne _ _ _ _ hm,zd6 (by rw [n_new',n_new'];omega),zb (by rw [n_new'];omega),zb (by omega)]
     have hBx:BH Hx (addN s l r k).2 (adU ad (29+s.length) g) bb mb:=hB.add hl hr hp hg (hxf bb hbb hB.ne) (by subst hHx;rw [ziT,Hp.f_set_self _ _ _ (by rw [Hp.n_set,Hp.n_set,app_n',n_new',n_new'];omega)]) (by subst hHx;rfl)
     have hx9:Hx.f (H.n+1)=some (.cells [.p (i64 k.c),.p (i64 k.a),.p (i64 k.b),.p (i64 k.d),.p (ptp (ad l)),.p (ptp (ad r))]):=by
      subst hHx;rw [ziT,Hp.f_set_ne _ _ _ _ (by omega),Hp.f_set_ne _ _ _ _ (by omega),Hp.f_set_ne _ _ _ _ (by omega),zd6 (by rw [n_new',n_new'];omega)];exact Hp.f_new_self _ _
     have hxn:Hx.n=H.n+3:=by subst hHx;rfl
     clear hHx
     have hne : ∀ i,i < 29+s.length → adU ad (29+s.length) g i=ad i:=fun i hi=>zaC (by omega)
     have hll':s.length≤(addN s l r k).2.length:=((ya l r k).ext s).len;have hlt:=yC s l r k;have hag:=(ya l r k).rep s _ (.refl _)
     have hpos:ym (addN s l r k).2 k l r=ym s k l r:=by
      have:=congrArg Prod.fst hag
      simp only [zaq] at this;omega
     have hlk':zaj Tryz.prog Hx 140 (.mp mb) (.p (kyP k (ad l) (ad r))) false=some (.p (ptp (adU ad (29+s.length) g (addN s l r k).1))):=by
      have:=hBx.look (H':=Hx) rfl rfl (k:=k) (l:=l) (r:=r) (by omega) (by omega)
      rw [if_pos (by rw [hpos];rw [zaq] at hlt;omega),hne l hl,hne r hr,hpos] at this;exact this
     refine .q ?_;refine .open [] follows (by kernel_rfl) ?_;simp (disch:=first|exact za|fail) only [go_sem,seval,f0,f1,f2,f3,f4,hBx.bld,hlk',hx9];have hbel:Bel H.n Hx:=hBx.bel hbel hxf;refine .qr rfl Tryz.func92 (by rw [Tryz.results92]) ?_;simp (disch:=first|exact za|fail) only [go_sem,seval];refine h _ _ ⟨by rw [Hp.f_trunc,if_pos hbb];exact hBx.bld,by rw [Hp.f_trunc,if_pos hmb];exact hBx.map,hBx.nd,hBx.inj,hBx.wf,hBx.ne⟩ ⟨rfl,fun b hb => ?_,hne⟩;by_cases hbn:b < H.n
     · rw [Hp.f_trunc,if_pos hbn];exact hxf b hbn hb
     · rw [Hp.f_trunc,if_neg hbn];exact (H.wf b (by omega)).symm
end walks
end Go.Proofs.YthaoifcebimkfaaGreatDoor

namespace Go.Proofs.YthaoifcebimkfaaGreatDoor
open Go Go.AL

theorem BH.new {H:Hp} {s:List Nd} {ad:Nat → Nat} {bb mb:Nat} (hB:BH H s ad bb mb) (x:AB):BH (H.new x) s ad bb mb :=
 ⟨by rw [zb (by have:=Hp.lt hB.bld;omega)];exact hB.bld,by rw [zb (by have:=Hp.lt hB.map;omega)];exact hB.map,hB.nd,hB.inj,hB.wf,hB.ne⟩
theorem BH.set {H:Hp} {s:List Nd} {ad:Nat → Nat} {bb mb b:Nat} (hB:BH H s ad bb mb) (x:AB) (h1:b≠bb) (h2:b≠mb):BH (H.set b x) s ad bb mb :=
 ⟨by rw [Hp.f_set_ne _ _ _ _ (Ne.symm h1)];exact hB.bld,by rw [Hp.f_set_ne _ _ _ _ (Ne.symm h2)];exact hB.map,hB.nd,hB.inj,hB.wf,hB.ne⟩
theorem BH.trunc {H:Hp} {s:List Nd} {ad:Nat → Nat} {bb mb n:Nat} (hB:BH H s ad bb mb) (h1:bb < n) (h2:mb < n):BH (H.trunc n) s ad bb mb :=
 ⟨by rw [Hp.f_trunc,if_pos h1];exact hB.bld,by rw [Hp.f_trunc,if_pos h2];exact hB.map,hB.nd,hB.inj,hB.wf,hB.ne⟩

structure Nw (mb:Nat) (H:Hp) (m:Nat) (ad:Nat → Nat) (H':Hp) (ad':Nat → Nat):Prop where
 n:H.n≤H'.n
 f : ∀ b,b < H.n → b≠mb → H'.f b=H.f b
 ad : ∀ i,i < m → ad' i=ad i
theorem Nw.refl {mb:Nat} {H:Hp} {m:Nat} {ad:Nat → Nat}:Nw mb H m ad H ad:=⟨Nat.le_refl _,fun _ _ _=>rfl,fun _ _=>rfl⟩
theorem Nx.w {mb:Nat} {H H':Hp} {m:Nat} {ad ad':Nat → Nat} (h:Nx mb H m ad H' ad'):Nw mb H m ad H' ad':=⟨Nat.le_of_eq h.n.symm,fun b _ hb=>h.f b hb,h.ad⟩
theorem Nw.trans {mb:Nat} {H H1 H2:Hp} {m m1:Nat} {ad ad1 ad2:Nat → Nat} (h:Nw mb H m ad H1 ad1) (h':Nw mb H1 m1 ad1 H2 ad2) (hm:m≤m1):Nw mb H m ad H2 ad2 :=
 ⟨Nat.le_trans h.n h'.n,fun b hb hm=>(h'.f b (Nat.lt_of_lt_of_le hb h.n) hm).trans (h.f b hb hm),fun i hi=>(h'.ad i (by omega)).trans (h.ad i hi)⟩
theorem Nw.new {mb:Nat} {H:Hp} {m:Nat} {ad:Nat → Nat} (x:AB):Nw mb H m ad (H.new x) ad:=⟨by rw [n_new'];omega,fun b hb _=>zb (by omega),fun _ _=>rfl⟩
theorem Nw.back {mb:Nat} {H H':Hp} {m:Nat} {ad ad':Nat → Nat} (h:Nw mb H m ad H' ad') (hm:mb < H.n):Nx mb H m ad (H'.trunc H.n) ad' :=
 ⟨rfl,fun b hb=>by
  by_cases hbn:b < H.n
  · rw [Hp.f_trunc,if_pos hbn];exact h.f b hbn hb
  · rw [Hp.f_trunc,if_neg hbn];exact (H.wf b (by omega)).symm,h.ad⟩

def BR (bb mb:Nat) (H:Hp) (m:Nat) (ad:Nat → Nat) (f:BS) (r:AV) (H':Hp):Prop := ∃ ad',BH H' f.2 ad' bb mb∧Nx mb H m ad H' ad'∧r = .p (ptp (ad' f.1))

section walks
variable {G:Globs} {s:List Nd} {ad:Nat → Nat} {bb mb:Nat}
theorem yT (l r:Nat) (k:Cf) {H:Hp} (hB:BH H s ad bb mb) (hl:l < 29+s.length) (hr:r < 29+s.length) (hlen:s.length≤1000) :
 ACall Tryz.prog G 92 [.ptr bb 0,.p (ptp (ad l)),.p (ptp (ad r)),.p (cfP k)] H (BR bb mb H (29+s.length) ad (addN s l r k)) :=
 zte l r k H hB hl hr hlen _ fun _ ad' a b=>⟨ad',a,b,rfl⟩

set_option maxHeartbeats 8000000 in
theorem yE (l r:Nat) {H:Hp} (hB:BH H s ad bb mb) (hl:l < 29+s.length) (hr:r < 29+s.length) (hlen:s.length≤1000) :
 ACall Tryz.prog G 86 [.ptr bb 0,.p (ptp (ad l)),.p (ptp (ad r))] H (BR bb mb H (29+s.length) ad (prN s l r)):=by
 refine ACall.of_run (raw:=[]) Tryz.func86 rfl Tryz.ntmps86 (by simp) fun hbel => ?_
 have hbb:=Hp.lt hB.bld;have hmb:=Hp.lt hB.map;refine .qt rfl ?_;simp (disch:=first|exact za|fail) only [go_sem,seval];refine .qt rfl ?_;simp (disch:=first|exact za|fail) only [go_sem,seval];refine CallK.ex (yT l r ⟨1,0,0,0⟩ hB hl hr hlen) ?_
 rintro _ H1 ⟨ad1,hB1,n1,rfl⟩
 simp (disch:=first|exact za|fail) only [go_sem,seval];have hbel:Bel H.n H1:=hB1.bel hbel n1.w.f;refine .qr rfl Tryz.func86 (by rw [Tryz.results86]) ?_;simp (disch:=first|exact za|fail) only [go_sem,seval]
 exact⟨ad1,hB1.trunc hbb hmb,n1.w.back hmb,rfl⟩
end walks
end Go.Proofs.YthaoifcebimkfaaGreatDoor

namespace Go.Proofs.YthaoifcebimkfaaGreatDoor
open Go Go.AL

def ivv (n:Int):AV := .p (i64 n)
def ztf (k:Int):Option Int:=if k=0 then some 4 else if k=1 then some 8 else if k=2 then some 4 else if k=3 then some 8 else if k=4 then some 1 else none
theorem zxv {v:Value}:(PV.s v).cells=[PV.s v]:=rfl
attribute [go_sem] zxv
theorem widMap:MapT Tryz.prog 190 i64 iev okI ivv (.p (i64 0)) where
 ty:=⟨_,_,Tryz.underlying190,zpW,zi1,ziW⟩
 val k:=rfl
 inj a b _ _ h:=by simpa [iev] using h
structure GW (G:Globs) (r1:Nat) (m1:List (Int × Int)):Prop where
 g1:G 0=some (1,[.s (.map (some r1))])
 h1:G.map r1=some (tm iev ivv m1)
 k1 : ∀ p∈m1,okI p.1
 t1 : ∀ k,zD k m1=ztf k
theorem GW.at {G:Globs} {r1:Nat} {m1:List (Int × Int)} (g:GW G r1 m1) {k:Int} (h:okI k):zea Tryz.prog 190 (some (tm iev ivv m1)) (.p (i64 k)) false=some (.p (i64 ((ztf k).getD 0))):=by
 rw [←g.t1,widMap.at g.k1 h];cases zD k m1<;>rfl
def zp3 (k:Int):Int:=(ztf k).getD 0
theorem zdh {c:Nat} (h:c < 4):zp3 c=(zR c:Nat):=by
 match c,h with
 | 0,_=>rfl
 | 1,_=>rfl
 | 2,_=>rfl
 | 3,_=>rfl
 | c+4,h=>omega

section walks
variable {G:Globs} {r1:Nat} {m1:List (Int × Int)}
set_option maxHeartbeats 8000000 in
theorem zaD (g:GW G r1 m1) (k:Int) (hk:okI k) (H:Hp) (R:AV → Hp → Prop) (h:R (.p (i64 (zp3 k))) H):ACall Tryz.prog G 83 [.p (i64 k)] H R:=by
 refine ACall.of_run (raw:=[]) Tryz.func83 rfl Tryz.ntmps83 (by simp) fun hbel => ?_
 have hg:=g.g1;have hm:=g.h1;have hl:=g.at hk;refine .qt rfl ?_;simp (disch:=first|exact za|fail) only [go_sem,seval];refine .qt rfl ?_;simp (disch:=first|exact za|fail) only [go_sem,seval,hg,hm,hl];refine .qr rfl Tryz.func83 (by rw [Tryz.results83]) ?_;simp (disch:=first|exact za|fail) only [go_sem,seval];exact h
set_option maxHeartbeats 8000000 in
theorem zlw (g:GW G r1 m1) (c:Nat) (hc:c < 4) (H:Hp) (R:AV → Hp → Prop) (h:R (.p (i64 (zf c:Nat))) H):ACall Tryz.prog G 140 [.p (i64 c)] H R:=by
 refine ACall.of_run (raw:=[]) Tryz.func140 rfl Tryz.ntmps140 (by simp) fun hbel => ?_
 refine .qt rfl ?_;simp (disch:=first|exact za|fail) only [go_sem,seval];refine .qt rfl ?_;simp (disch:=first|exact za|fail) only [go_sem,seval];refine .qt rfl ?_;simp (disch:=first|exact za|fail) only [go_sem,seval];refine .q ?_;refine .count (fun i env H'=>env 3 = .p (i64 (zf i:Nat))∧env 5 = .p (i64 c)∧env 6 = .p (i64 i)∧H'=H) 0 c (by omega) ?_ ?_ ?_
 · simp (disch:=first|exact za|fail) only [go_sem,seval];rfl
 · intro env H' ⟨e3,e5,e6,eH⟩;subst eH;refine .qt rfl ?_;simp (disch:=first|exact za|fail) only [go_sem,seval,e5,e6];refine .qF rfl ?_;refine .qt rfl ?_;simp (disch:=first|exact za|fail) only [go_sem,seval,e3];refine .qr rfl Tryz.func140 (by rw [Tryz.results140]) ?_;simp (disch:=first|exact za|fail) only [go_sem,seval];exact h
 · intro i env H' hi0 hi ⟨e3,e5,e6,eH⟩ ih;subst eH
   have hf:zf i≤21:=by
    match i,(show i < 4 by omega) with
    | 0,_=>decide
    | 1,_=>decide
    | 2,_=>decide
    | 3,_=>decide
    | i+4,h=>omega
   have hb:=zdh (show i < 4 by omega);have hw:=zaz i
   have hn:zf (i+1)=zf i+zR i:=by
    match i,(show i < 3 by omega) with
    | 0,_=>decide
    | 1,_=>decide
    | 2,_=>decide
    | i+3,h=>omega
   refine .qt rfl ?_;simp (disch:=first|exact za|fail) only [go_sem,seval,e5,e6];refine .qT rfl ?_;refine .qt rfl ?_;simp (disch:=first|exact za|fail) only [go_sem,seval,e6];refine .qt rfl ?_;simp (disch:=first|exact za|fail) only [go_sem,seval,e3];refine CallK.of (fun R h=>zaD g i ⟨by omega,by omega⟩ _ R h) ?_;simp (disch:=first|exact za|fail) only [go_sem,seval,hb];refine .qt rfl ?_;simp (disch:=first|exact za|fail) only [go_sem,seval,e6];refine ih _ _ ?_;simp (disch:=first|exact za|fail) only [go_sem,seval,e5,hn]
def zc4 (ad:Nat → Nat) (c:Nat):PV := .sl false 1 (pl (fun i=>ptp (ad i)) ((rng29.take (zf c+zR c)).drop (zf c)))
set_option maxHeartbeats 8000000 in
theorem zeI (g:GW G r1 m1) {s:List Nd} {ad:Nat → Nat} {bb mb:Nat} (c:Nat) (hc:c < 4) (H:Hp) (hB:BH H s ad bb mb) (R:AV → Hp → Prop) (h:R (.p (zc4 ad c)) H):ACall Tryz.prog G 94 [.ptr bb 0,.p (i64 c)] H R:=by
 refine ACall.of_run (raw:=[]) Tryz.func94 rfl Tryz.ntmps94 (by simp) fun hbel => ?_
 have hf:zf c≤21:=by
  match c,hc with
  | 0,_=>decide
  | 1,_=>decide
  | 2,_=>decide
  | 3,_=>decide
  | c+4,h=>omega
 have hb:=zdh hc;have hw:=zaz c;have hlen:=zbZ
 have hcast:((zf c:Int)+(zR c:Int)).toNat=zf c+zR c:=by omega
 refine .qt rfl ?_;simp (disch:=first|exact za|fail) only [go_sem,seval];refine .qt rfl ?_;simp (disch:=first|exact za|fail) only [go_sem,seval];refine CallK.of (fun R h=>zlw g c hc _ R h) ?_;simp (disch:=first|exact za|fail) only [go_sem,seval];refine .q ?_;refine .open [] follows (by kernel_rfl) ?_;simp (disch:=first|exact za|fail) only [go_sem,seval,hB.bld];refine CallD.still (fun R h=>zaD g c ⟨by omega,by omega⟩ _ R h) ?_;simp (disch:=first|exact za|fail) only [go_sem,seval,hb,hlen,hcast];refine .qr rfl Tryz.func94 (by rw [Tryz.results94]) ?_;simp (disch:=first|exact za|fail) only [go_sem,seval];exact h
end walks
end Go.Proofs.YthaoifcebimkfaaGreatDoor

namespace Go.Proofs.YthaoifcebimkfaaGreatDoor
open Go Go.AL

def oP (ad:Nat → Nat) (o:Option Nat):PV:=match o with | none => .s (.pointer none) | some g=>ptp (ad g)
theorem zja {ad:Nat → Nat}:oP ad none = .s (.pointer none):=rfl
theorem zcq {ad:Nat → Nat} {g:Nat}:oP ad (some g)=ptp (ad g):=rfl
theorem zp4 {most:Bool} {n c:Nat} {s:List Nd} (hc:c < 4) : ∀ i,i≤zR c → ∀ g,(yB most n c s i).1=some g → g < 29+(yB most n c s i).2.length
 | 0,_,g,h=>by cases h
 | i+1,hi,g,h=>by
  have hf:zf c+zR c≤29:=by
   match c,hc with
   | 0,_=>decide
   | 1,_=>decide
   | 2,_=>decide
   | 3,_=>decide
   | c+4,h=>omega
  simp only [yB,zaR] at h ⊢
  cases ho:(yB most n c s i).1 with
  | none =>
   rw [ho] at h;simp only at h ⊢
   cases most with
   | true =>
    simp only [if_true] at h ⊢
    cases hb:bt n i with
    | true=>rw [hb] at h;simp at h
    | false =>
     rw [hb] at h;simp only [Bool.false_eq_true,if_false] at h ⊢;cases h;exact yC _ _ _ _
   | false =>
    simp only [Bool.false_eq_true,if_false] at h ⊢
    cases hb:bt n i with
    | true =>
     rw [hb] at h;simp only [if_true] at h ⊢;cases h;omega
    | false=>rw [hb] at h;simp at h
  | some q =>
   rw [ho] at h;simp only at h ⊢;cases h;exact yC _ _ _ _
theorem zjb {c:Nat} (hc:c < 4):zf c+zR c≤29:=by
 match c,hc with
 | 0,_=>decide
 | 1,_=>decide
 | 2,_=>decide
 | 3,_=>decide
 | c+4,h=>omega
theorem zxw (most:Bool) (n c:Nat) (s:List Nd) (i:Nat):(yB most n c s i).2.length≤s.length+i∧s.length≤(yB most n c s i).2.length:=⟨(zgs most n c i).len s,((zgs most n c i).ext s).len⟩
theorem zjc {c i:Nat} (hc:c < 4) (hi:i < zR c):nth ((rng29.take (zf c+zR c)).drop (zf c)) i=zf c+i:=by
 have:=zjb hc
 have h1:nth ((rng29.take (zf c+zR c)).drop (zf c)) i=nth rng29 (zf c+i):=by
  simp only [nth,List.getElem?_drop,List.getElem?_take_of_lt (show zf c+i < zf c+zR c by omega)]
 rw [h1,zc2 (by omega)]
theorem zlx {c:Nat} (hc:c < 4):((rng29.take (zf c+zR c)).drop (zf c)).length=zR c:=by
 have:=zjb hc
 simp [rng29];omega
theorem zC4 (n i:Nat):((n:Int) / 2 ^ i % 2 == 1)=bt n i:=by
 have e:(n:Int) / 2 ^ i % 2=((n / 2 ^ i % 2:Nat):Int):=by simp
 rw [e];unfold bt;by_cases h:n / 2 ^ i % 2=1
 · rw [h];rfl
 · rw [decide_eq_false h]
   rcases Nat.mod_two_eq_zero_or_one (n / 2 ^ i) with h' | h'
   · rw [h'];rfl
   · exact absurd h' h
theorem zzQ {ad:Nat → Nat} {o:Option Nat}:(oP ad o).weak=oP ad o:=by cases o<;>rfl
attribute [go_sem] zzQ
def CR (bb mb:Nat) (H:Hp) (m:Nat) (ad:Nat → Nat) (f:Option Nat × List Nd) (r:AV) (H':Hp):Prop := ∃ ad',BH H' f.2 ad' bb mb∧Nx mb H m ad H' ad'∧r = .p (oP ad' f.1)

section walks
variable {G:Globs} {r1:Nat} {m1:List (Int × Int)}
set_option maxHeartbeats 8000000 in
theorem zjd (g:GW G r1 m1) {s:List Nd} {ad:Nat → Nat} {bb mb:Nat} (c:Nat) (hc:c < 4) (n:Nat) (hn:n≤255) (most:Bool) {H:Hp} (hB:BH H s ad bb mb) (hlen:s.length≤900) :
 ACall Tryz.prog G 132 [.ptr bb 0,.p (i64 c),.p (i64 n),.p (bo most)] H (CR bb mb H (29+s.length) ad (yB most n c s (zR c))):=by
 refine ACall.of_run (raw:=[]) Tryz.func132 rfl Tryz.ntmps132 (by simp) fun hbel => ?_
 have hbb:=Hp.lt hB.bld;have hmb:=Hp.lt hB.map;have hw:=zaz c;have hfw:=zjb hc;refine .qt rfl ?_;simp (disch:=first|exact za|fail) only [go_sem,seval];refine .qt rfl ?_;simp (disch:=first|exact za|fail) only [go_sem,seval];refine .qt rfl ?_;simp (disch:=first|exact za|fail) only [go_sem,seval];refine CallK.of (fun R h=>zeI g c hc _ hB R h) ?_;simp (disch:=first|exact za|fail) only [go_sem,seval,zc4,zlx hc];refine .q ?_;refine .count (fun i env H' => ∃ ad',BH H' (yB most n c s i).2 ad' bb mb∧Nw mb H (29+s.length) ad H' ad'∧env 0 = .ptr bb 0∧env 2 = .p (i64 n)∧env 3 = .p (bo most)∧env 9 = .p (oP ad' (yB most n c s i).1)∧env 15 = .p (zc4 ad c)∧env 16 = .p (i64 (zR c:Nat))∧env 17 = .p (i64 i)) 0 (zR c) (by omega) ?_ ?_ ?_
 · refine⟨ad,hB,.refl,?_⟩
   simp (disch:=first|exact za|fail) only [go_sem,seval]
   exact⟨rfl,rfl⟩
 · intro env H' ⟨ad',hB',hN,e0,e2,e3,e9,e15,e16,e17⟩;have hbel:Bel H.n H':=hB'.bel hbel hN.f;refine .qt rfl ?_;simp (disch:=first|exact za|fail) only [go_sem,seval,e16,e17];refine .qF rfl ?_;refine .qt rfl ?_;simp (disch:=first|exact za|fail) only [go_sem,seval,e9];refine .qr rfl Tryz.func132 (by rw [Tryz.results132]) ?_;simp (disch:=first|exact za|fail) only [go_sem,seval]
   exact⟨ad',hB'.trunc hbb hmb,hN.back hmb,rfl⟩
 · intro i env H' hi0 hi ⟨ad',hB',hN,e0,e2,e3,e9,e15,e16,e17⟩ ih;have hbi:=zjc hc hi;have hbl:=zlx hc;refine .qt rfl ?_;simp (disch:=first|exact za|fail) only [go_sem,seval,e16,e17];refine .qT rfl ?_;have hadx:ad (zf c+i)=ad' (zf c+i):=(hN.ad _ (by omega)).symm;refine .qt rfl ?_;simp (disch:=first|exact za|fail) only [go_sem,seval,zc4,hbl,e15,e17,hbi,hadx];refine .qt rfl ?_;simp (disch:=first|exact za|fail) only [go_sem,seval,e2,zC4];have hln:=zxw most n c s i;have hbel:Bel H.n H':=hB'.bel hbel hN.f
   have hnx : ∀ {H2 ad2} (f:Option Nat × List Nd) (env':Env),yB most n c s (i+1)=f → BH H2 f.2 ad2 bb mb → Nw mb H (29+s.length) ad H2 ad2 → env' 0 = .ptr bb 0 → env' 2 = .p (i64 n) → env' 3 = .p (bo most) → env' 9 = .p (oP ad2 f.1) → env' 15 = .p (zc4 ad c) → env' 16 = .p (i64 (zR c:Nat)) → env' 17 = .p (i64 (i+1:Nat)) → ARun _ _ env' H2 _ :=
    fun f env' ef q1 q2 q3 q4 q5 q6 q7 q8 q9=>ih env' _ ⟨_,by rw [ef];exact q1,q2,q3,q4,q5,by rw [ef];exact q6,q7,q8,q9⟩
   have hs:=zp4 (most:=most) (n:=n) (s:=s) hc i (by omega);have hnext:yB most n c s (i+1)=zaR most n (zf c+i) i (yB most n c s i):=rfl
   generalize yB most n c s i=z at hB' e9 hln hs hnext
   obtain⟨o,s'⟩:=z
   simp only at hB' e9 hln hs
   cases o with
   | none =>
    rw [zja] at e9
    cases most with
    | true =>
     cases hb:bt n i with
     | true =>
      refine .qt rfl ?_;simp (disch:=first|exact za|fail) only [go_sem,seval,e9,e3,hb];refine .qF rfl ?_;refine .qt rfl ?_;simp (disch:=first|exact za|fail) only [go_sem,seval,e9,e3,hb];refine .qF rfl ?_;refine .qt rfl ?_;simp (disch:=first|exact za|fail) only [go_sem,seval,e9];refine .qT rfl ?_;refine .qt rfl ?_;simp (disch:=first|exact za|fail) only [go_sem,seval,e17]
      refine hnx (none,s') _ (by rw [hnext];simp [zaR,hb]) hB' hN ?_ ?_ ?_ ?_ ?_ ?_ ?_<;>first | rfl | (rw [zja];simp (disch:=first|exact za|fail) only [go_sem,seval,e0,e2,e3,e9,e15,e16]) | simp (disch:=first|exact za|fail) only [go_sem,seval,e0,e2,e3,e9,e15,e16]
     | false =>
      refine .qt rfl ?_;simp (disch:=first|exact za|fail) only [go_sem,seval,e9,e3,hb];refine .qT rfl ?_;refine .qt rfl ?_;simp (disch:=first|exact za|fail) only [go_sem,seval,e0];refine CallK.ex (yT (zf c+i) (zf c+i) ⟨0,-1,0,1⟩ hB' (by omega) (by omega) (by omega)) ?_
      rintro _ H2 ⟨ad2,hB2,n2,rfl⟩
      simp (disch:=first|exact za|fail) only [go_sem,seval];refine .qt rfl ?_;simp (disch:=first|exact za|fail) only [go_sem,seval,e17];have hN2:=hN.trans n2.w (show 29+s.length≤29+s'.length by omega)
      refine hnx (some (addN s' (zf c+i) (zf c+i) ⟨0,-1,0,1⟩).1,(addN s' (zf c+i) (zf c+i) ⟨0,-1,0,1⟩).2) _ (by rw [hnext];simp [zaR,ziY,prN,hb]) hB2 hN2 ?_ ?_ ?_ ?_ ?_ ?_ ?_<;>first | rfl | simp (disch:=first|exact za|fail) only [go_sem,seval,e0,e2,e3,e9,e15,e16,zcq]
    | false =>
     cases hb:bt n i with
     | true =>
      refine .qt rfl ?_;simp (disch:=first|exact za|fail) only [go_sem,seval,e9,e3,hb];refine .qF rfl ?_;refine .qt rfl ?_;simp (disch:=first|exact za|fail) only [go_sem,seval,e9,e3,hb];refine .qT rfl ?_;refine .qt rfl ?_;simp (disch:=first|exact za|fail) only [go_sem,seval];refine .qt rfl ?_;simp (disch:=first|exact za|fail) only [go_sem,seval,e17]
      refine hnx (some (zf c+i),s') _ (by rw [hnext];simp [zaR,hb]) hB' hN ?_ ?_ ?_ ?_ ?_ ?_ ?_<;>first | rfl | simp (disch:=first|exact za|fail) only [go_sem,seval,e0,e2,e3,e9,e15,e16,zcq]
     | false =>
      refine .qt rfl ?_;simp (disch:=first|exact za|fail) only [go_sem,seval,e9,e3,hb];refine .qF rfl ?_;refine .qt rfl ?_;simp (disch:=first|exact za|fail) only [go_sem,seval,e9,e3,hb];refine .qF rfl ?_;refine .qt rfl ?_;simp (disch:=first|exact za|fail) only [go_sem,seval,e9];refine .qT rfl ?_;refine .qt rfl ?_;simp (disch:=first|exact za|fail) only [go_sem,seval,e17]
      refine hnx (none,s') _ (by rw [hnext];simp [zaR,hb]) hB' hN ?_ ?_ ?_ ?_ ?_ ?_ ?_<;>first | rfl | (rw [zja];simp (disch:=first|exact za|fail) only [go_sem,seval,e0,e2,e3,e9,e15,e16]) | simp (disch:=first|exact za|fail) only [go_sem,seval,e0,e2,e3,e9,e15,e16]
   | some q =>
    rw [zcq] at e9;have hq:=hs q rfl
    cases most with
    | true =>
     cases hb:bt n i with
     | true =>
      refine .qt rfl ?_;simp (disch:=first|exact za|fail) only [go_sem,seval,e9,e3,hb];refine .qF rfl ?_;refine .qt rfl ?_;simp (disch:=first|exact za|fail) only [go_sem,seval,e9,e3,hb];refine .qF rfl ?_;refine .qt rfl ?_;simp (disch:=first|exact za|fail) only [go_sem,seval,e9];refine .qF rfl ?_;refine .qt rfl ?_;simp (disch:=first|exact za|fail) only [go_sem,seval,e3,hb];refine .qT rfl ?_;refine .qt rfl ?_;simp (disch:=first|exact za|fail) only [go_sem,seval,e0,e9];refine CallK.ex (yT (zf c+i) q ⟨1,-1,0,1⟩ hB' (by omega) (by omega) (by omega)) ?_
      rintro _ H2 ⟨ad2,hB2,n2,rfl⟩
      simp (disch:=first|exact za|fail) only [go_sem,seval];refine .qt rfl ?_;simp (disch:=first|exact za|fail) only [go_sem,seval,e17];have hN2:=hN.trans n2.w (show 29+s.length≤29+s'.length by omega)
      refine hnx (some (addN s' (zf c+i) q ⟨1,-1,0,1⟩).1,(addN s' (zf c+i) q ⟨1,-1,0,1⟩).2) _ (by rw [hnext];simp [zaR,ziY,prN,hb]) hB2 hN2 ?_ ?_ ?_ ?_ ?_ ?_ ?_<;>first | rfl | simp (disch:=first|exact za|fail) only [go_sem,seval,e0,e2,e3,e9,e15,e16,zcq]
     | false =>
      refine .qt rfl ?_;simp (disch:=first|exact za|fail) only [go_sem,seval,e9,e3,hb];refine .qF rfl ?_;refine .qt rfl ?_;simp (disch:=first|exact za|fail) only [go_sem,seval,e9,e3,hb];refine .qF rfl ?_;refine .qt rfl ?_;simp (disch:=first|exact za|fail) only [go_sem,seval,e9];refine .qF rfl ?_;refine .qt rfl ?_;simp (disch:=first|exact za|fail) only [go_sem,seval,e3,hb];refine .qF rfl ?_;refine .qt rfl ?_;simp (disch:=first|exact za|fail) only [go_sem,seval,e3];refine .qT rfl ?_;refine .qt rfl ?_;simp (disch:=first|exact za|fail) only [go_sem,seval,e0,e9];refine CallK.ex (yT (zf c+i) q ⟨-1,0,1,0⟩ hB' (by omega) (by omega) (by omega)) ?_
      rintro _ H2 ⟨ad2,hB2,n2,rfl⟩
      simp (disch:=first|exact za|fail) only [go_sem,seval];refine .qt rfl ?_;simp (disch:=first|exact za|fail) only [go_sem,seval,e17];have hN2:=hN.trans n2.w (show 29+s.length≤29+s'.length by omega)
      refine hnx (some (addN s' (zf c+i) q ⟨-1,0,1,0⟩).1,(addN s' (zf c+i) q ⟨-1,0,1,0⟩).2) _ (by rw [hnext];simp [zaR,ziY,prN,hb]) hB2 hN2 ?_ ?_ ?_ ?_ ?_ ?_ ?_<;>first | rfl | simp (disch:=first|exact za|fail) only [go_sem,seval,e0,e2,e3,e9,e15,e16,zcq]
    | false =>
     cases hb:bt n i with
     | true =>
      refine .qt rfl ?_;simp (disch:=first|exact za|fail) only [go_sem,seval,e9,e3,hb];refine .qF rfl ?_;refine .qt rfl ?_;simp (disch:=first|exact za|fail) only [go_sem,seval,e9,e3,hb];refine .qF rfl ?_;refine .qt rfl ?_;simp (disch:=first|exact za|fail) only [go_sem,seval,e9];refine .qF rfl ?_;refine .qt rfl ?_;simp (disch:=first|exact za|fail) only [go_sem,seval,e3,hb];refine .qF rfl ?_;refine .qt rfl ?_;simp (disch:=first|exact za|fail) only [go_sem,seval,e3];refine .qF rfl ?_;refine .qt rfl ?_;simp (disch:=first|exact za|fail) only [go_sem,seval,hb];refine .qT rfl ?_;refine .qt rfl ?_;simp (disch:=first|exact za|fail) only [go_sem,seval,e0,e9];refine CallK.ex (yE (zf c+i) q hB' (by omega) (by omega) (by omega)) ?_
      rintro _ H2 ⟨ad2,hB2,n2,rfl⟩
      simp (disch:=first|exact za|fail) only [go_sem,seval];refine .qt rfl ?_;simp (disch:=first|exact za|fail) only [go_sem,seval,e17];have hN2:=hN.trans n2.w (show 29+s.length≤29+s'.length by omega)
      refine hnx (some (prN s' (zf c+i) q).1,(prN s' (zf c+i) q).2) _ (by rw [hnext];simp [zaR,ziY,prN,hb]) hB2 hN2 ?_ ?_ ?_ ?_ ?_ ?_ ?_<;>first | rfl | simp (disch:=first|exact za|fail) only [go_sem,seval,e0,e2,e3,e9,e15,e16,zcq]
     | false =>
      refine .qt rfl ?_;simp (disch:=first|exact za|fail) only [go_sem,seval,e9,e3,hb];refine .qF rfl ?_;refine .qt rfl ?_;simp (disch:=first|exact za|fail) only [go_sem,seval,e9,e3,hb];refine .qF rfl ?_;refine .qt rfl ?_;simp (disch:=first|exact za|fail) only [go_sem,seval,e9];refine .qF rfl ?_;refine .qt rfl ?_;simp (disch:=first|exact za|fail) only [go_sem,seval,e3,hb];refine .qF rfl ?_;refine .qt rfl ?_;simp (disch:=first|exact za|fail) only [go_sem,seval,e3];refine .qF rfl ?_;refine .qt rfl ?_;simp (disch:=first|exact za|fail) only [go_sem,seval,hb];refine .qF rfl ?_;refine .qt rfl ?_;simp (disch:=first|exact za|fail) only [go_sem,seval,e0,e9];refine CallK.ex (yT (zf c+i) q ⟨-1,1,1,0⟩ hB' (by omega) (by omega) (by omega)) ?_
      rintro _ H2 ⟨ad2,hB2,n2,rfl⟩
      simp (disch:=first|exact za|fail) only [go_sem,seval];refine .qt rfl ?_;simp (disch:=first|exact za|fail) only [go_sem,seval,e17];have hN2:=hN.trans n2.w (show 29+s.length≤29+s'.length by omega)
      refine hnx (some (addN s' (zf c+i) q ⟨-1,1,1,0⟩).1,(addN s' (zf c+i) q ⟨-1,1,1,0⟩).2) _ (by rw [hnext];simp [zaR,ziY,prN,hb]) hB2 hN2 ?_ ?_ ?_ ?_ ?_ ?_ ?_<;>first | rfl | simp (disch:=first|exact za|fail) only [go_sem,seval,e0,e2,e3,e9,e15,e16,zcq]
end walks
end Go.Proofs.YthaoifcebimkfaaGreatDoor

namespace Go.Proofs.YthaoifcebimkfaaGreatDoor
open Go Go.AL

def cnd (c:Cnd):PV := .agg [i64 c.col,i64 c.lo,i64 c.hi]
section enc
variable {c:Cnd} {a b d:Int} {l:List Cnd}
theorem zoD:ze (.p (cnd c))=some [.p (i64 c.col),.p (i64 c.lo),.p (i64 c.hi)]:=rfl
theorem ztg:(cnd c).cells=[i64 c.col,i64 c.lo,i64 c.hi]:=rfl
theorem zth:(cnd c).isAgg=true:=rfl
theorem zoE:(AV.p (cnd c)).isAggV=true:=rfl
theorem zxx:(cnd c).weak=cnd c:=rfl
theorem zti:(cnd c).weak1=cnd c:=rfl
theorem ztj:(cnd c).aggOf 0 3=cnd c:=rfl
theorem ztk:zm [.p (i64 a),.p (i64 b),.p (i64 d)] = .p (cnd ⟨a,b,d⟩):=rfl
theorem zzR:(⟨c.col,c.lo,c.hi⟩:Cnd)=c:=rfl
end enc
attribute [go_sem] zoD ztg zth zoE zxx zti ztj ztk zzR
theorem zp5 (n i:Nat):n % 2 ^ (i+1)=n % 2 ^ i+2 ^ i*(n / 2 ^ i % 2):=by
 rw [Nat.pow_succ,Nat.mod_mul]
theorem zp6 {n c:Nat} {s:List Nd} : ∀ i,(yB false n c s i).1=none ↔ n % 2 ^ i=0
 | 0=>by simp [yB,Nat.mod_one]
 | i+1=>by
  have ih:=zp6 (n:=n) (c:=c) (s:=s) i;rw [zp5];simp only [yB,zaR]
  cases ho:(yB false n c s i).1 with
  | none =>
   rw [ho] at ih;have h0:=ih.1 rfl;have hp:=Nat.two_pow_pos i;simp only [Bool.false_eq_true,if_false,bt]
   rcases Nat.mod_two_eq_zero_or_one (n / 2 ^ i) with h | h
   · simp [h,h0]
   · simp [h,h0]
  | some q =>
   rw [ho] at ih
   have h0 : ¬ n % 2 ^ i=0:=fun e=>by have:=ih.2 e;cases this
   simp only [reduceCtorEq,false_iff];omega
theorem zp7 {n c:Nat} {s:List Nd} : ∀ i,(yB true n c s i).1=none ↔ n % 2 ^ i=2 ^ i - 1
 | 0=>by simp [yB,Nat.mod_one]
 | i+1=>by
  have ih:=zp7 (n:=n) (c:=c) (s:=s) i;have hp:=Nat.two_pow_pos i;have hlt:=Nat.mod_lt n hp;rw [zp5,Nat.pow_succ];simp only [yB,zaR]
  cases ho:(yB true n c s i).1 with
  | none =>
   rw [ho] at ih;have h0:=ih.1 rfl;simp only [if_true,bt]
   rcases Nat.mod_two_eq_zero_or_one (n / 2 ^ i) with h | h
   · simp [h,h0];omega
   · simp [h,h0];omega
  | some q =>
   rw [ho] at ih
   have h0 : ¬ n % 2 ^ i=2 ^ i - 1:=fun e=>by have:=ih.2 e;cases this
   simp only [reduceCtorEq,false_iff]
   rcases Nat.mod_two_eq_zero_or_one (n / 2 ^ i) with h | h
   · rw [h];omega
   · rw [h];omega
theorem zzS {c:Nat}:yu c=(2 ^ zR c:Nat) - 1:=by
 unfold yu zR
 split<;>rfl
theorem zh3 {most:Bool} {n c:Nat} {s:List Nd} (h:if most then n < 2 ^ zR c - 1 else 0 < n∧n < 2 ^ zR c):(yB most n c s (zR c)).1=some (zcl most n c s).1:=by
 have hp:=Nat.two_pow_pos (zR c)
 cases most with
 | true =>
  simp only [if_true] at h
  cases ho:(yB true n c s (zR c)).1 with
  | none =>
   have:=(zp7 (zR c)).1 ho
   rw [Nat.mod_eq_of_lt (by omega)] at this;omega
  | some q=>simp [zcl,ho]
 | false =>
  simp only [Bool.false_eq_true,if_false] at h
  cases ho:(yB false n c s (zR c)).1 with
  | none =>
   have:=(zp6 (zR c)).1 ho
   rw [Nat.mod_eq_of_lt h.2] at this;omega
  | some q=>simp [zcl,ho]

theorem Nw.newl {mb:Nat} {H H':Hp} {m:Nat} {ad ad':Nat → Nat} (h:Nw mb H m ad H' ad') (x:AB):Nw mb H m ad (H'.new x) ad' :=
 ⟨by rw [n_new'];have:=h.n;omega,fun b hb hm=>by rw [zb (by have:=h.n;omega)];exact h.f b hb hm,h.ad⟩
section walks
variable {G:Globs} {r1:Nat} {m1:List (Int × Int)}
set_option maxHeartbeats 8000000 in
theorem zly (g:GW G r1 m1) (c:Nat) (hc:c < 4) (H:Hp) (R:AV → Hp → Prop) (h:R (.p (i64 (yu c))) H):ACall Tryz.prog G 133 [.p (i64 c)] H R:=by
 refine ACall.of_run (raw:=[]) Tryz.func133 rfl Tryz.ntmps133 (by simp) fun hbel => ?_
 have hb:=zdh hc
 have h2:(c=0 ∨ c=2) ∨ ¬ (c=0 ∨ c=2):=by omega
 rcases h2 with h2 | h2
 · have hw:zR c=4:=if_pos h2;have ht:yu c=15:=if_pos h2;rw [hw] at hb;rw [ht] at h;refine .qt rfl ?_;simp (disch:=first|exact za|fail) only [go_sem,seval];refine .qt rfl ?_;simp (disch:=first|exact za|fail) only [go_sem,seval];refine CallK.of (fun R h=>zaD g c ⟨by omega,by omega⟩ _ R h) ?_;simp (disch:=first|exact za|fail) only [go_sem,seval,hb];refine .qr rfl Tryz.func133 (by rw [Tryz.results133]) ?_;simp (disch:=first|exact za|fail) only [go_sem,seval];exact h
 · have hw:zR c=8:=if_neg h2;have ht:yu c=255:=if_neg h2;rw [hw] at hb;rw [ht] at h;refine .qt rfl ?_;simp (disch:=first|exact za|fail) only [go_sem,seval];refine .qt rfl ?_;simp (disch:=first|exact za|fail) only [go_sem,seval];refine CallK.of (fun R h=>zaD g c ⟨by omega,by omega⟩ _ R h) ?_;simp (disch:=first|exact za|fail) only [go_sem,seval,hb];refine .qr rfl Tryz.func133 (by rw [Tryz.results133]) ?_;simp (disch:=first|exact za|fail) only [go_sem,seval];exact h
end walks
end Go.Proofs.YthaoifcebimkfaaGreatDoor

namespace Go.Proofs.YthaoifcebimkfaaGreatDoor
open Go Go.AL

theorem zBz {c:Cnd}:vC c=true ↔ 0≤c.col∧c.col < 4∧0≤c.lo∧c.lo≤c.hi∧c.hi≤yu c.col.toNat:=by unfold vC;exact decide_eq_true_iff
theorem zzT (c:Nat):yu c≤255:=by unfold yu;split<;>decide
theorem zeo {l:List Cnd} {s:List Nd} : ∀ i,(zbV l s i).1 < 29+(zbV l s i).2.length
 | 0=>by simp only [zbV];omega
 | i+1=>by
  have h:=zeo (l:=l) (s:=s) i;simp only [zbV]
  have h1:(mt1 (nth l i) (zbV l s i)).1 < 29+(mt1 (nth l i) (zbV l s i)).2.length:=by
   unfold mt1
   split
   · exact yC _ _ _ _
   · exact h
  generalize mt1 (nth l i) (zbV l s i)=z at h1
  unfold mt2
  split
  · exact yC _ _ _ _
  · exact h1
theorem zp8 {most:Bool} {n c:Nat} {s:List Nd} (hc:c < 4) (h:if most then n < 2 ^ zR c - 1 else 0 < n∧n < 2 ^ zR c):(zcl most n c s).1 < 29+(zcl most n c s).2.length :=
 zp4 hc (zR c) (Nat.le_refl _) _ (zh3 h)
theorem zxy (l:List Cnd) (s:List Nd) (i:Nat):(zbV l s i).2.length≤s.length+18*i∧s.length≤(zbV l s i).2.length:=⟨(zgt l i).len s,((zgt l i).ext s).len⟩

section walks
variable {G:Globs} {r1:Nat} {m1:List (Int × Int)}
theorem zlz (g:GW G r1 m1) {s:List Nd} {ad:Nat → Nat} {bb mb:Nat} (c:Nat) (hc:c < 4) (n:Nat) (hn:n≤255) (most:Bool) {H:Hp} (hB:BH H s ad bb mb) (hlen:s.length≤900) (h:if most then n < 2 ^ zR c - 1 else 0 < n∧n < 2 ^ zR c) :
 ACall Tryz.prog G 132 [.ptr bb 0,.p (i64 c),.p (i64 n),.p (bo most)] H (BR bb mb H (29+s.length) ad (zcl most n c s)) :=
 (zjd g c hc n hn most hB hlen).mono fun r H' ⟨ad',q1,q2,q3⟩=>⟨ad',q1,q2,by rw [q3,zh3 h];rfl⟩

set_option maxRecDepth 20000 in
set_option maxHeartbeats 8000000 in
theorem za7 (g:GW G r1 m1) {s:List Nd} {ad:Nat → Nat} {bb mb:Nat} (l:List Cnd) (hl:vF l=true) {H:Hp} (hB:BH H s ad bb mb) (hlen:s.length≤800) :
 ACall Tryz.prog G 85 [.ptr bb 0,.p (.sl false 3 (pl cnd l))] H (BR bb mb H (29+s.length) ad (yl l s)):=by
 refine ACall.of_run (raw:=[]) Tryz.func85 rfl Tryz.ntmps85 (by simp) fun hbel => ?_
 have hbb:=Hp.lt hB.bld;have hmb:=Hp.lt hB.map;unfold vF at hl;rw [Bool.and_eq_true,decide_eq_true_iff,List.all_eq_true] at hl
 obtain⟨hl3,hv⟩:=hl
 have h29:=zbZ;have h4:nth rng29 4=4:=zc2 (by omega);refine .qt rfl ?_;simp (disch:=first|exact za|fail) only [go_sem,seval];refine .qt rfl ?_;simp (disch:=first|exact za|fail) only [go_sem,seval,hB.bld,h29,h4];refine .qt rfl ?_;simp (disch:=first|exact za|fail) only [go_sem,seval];refine .q ?_;refine .count (fun i env H' => ∃ ad',BH H' (zbV l s i).2 ad' bb mb∧Nw mb H (29+s.length) ad H' ad'∧env 0 = .ptr bb 0∧env 5 = .p (ptp (ad' (zbV l s i).1))∧env 14 = .p (.sl false 3 (pl cnd l))∧env 15 = .p (i64 l.length)∧env 16 = .p (i64 i)) 0 l.length (by omega) ?_ ?_ ?_
 · refine⟨ad,hB,.refl,?_⟩
   simp (disch:=first|exact za|fail) only [go_sem,seval];rfl
 · intro env H' ⟨ad',hB',hN,e0,e5,e14,e15,e16⟩;have hbel:Bel H.n H':=hB'.bel hbel hN.f;refine .qt rfl ?_;simp (disch:=first|exact za|fail) only [go_sem,seval,e15,e16];refine .qF rfl ?_;refine .qt rfl ?_;simp (disch:=first|exact za|fail) only [go_sem,seval,e5];refine .qr rfl Tryz.func85 (by rw [Tryz.results85]) ?_;simp (disch:=first|exact za|fail) only [go_sem,seval]
   exact⟨ad',hB'.trunc hbb hmb,hN.back hmb,rfl⟩
 · intro i env H' hi0 hi ⟨ad',hB',hN,e0,e5,e14,e15,e16⟩ ih;have hci:=hv (nth l i) (by rw [zh hi];exact List.getElem_mem _);rw [zBz] at hci
   obtain⟨v1,v2,v3,v4,v5⟩:=hci
   have v6:=zzT (nth l i).col.toNat
   obtain⟨c,hc⟩:=Int.eq_ofNat_of_zero_le v1
   obtain⟨a,ha⟩:=Int.eq_ofNat_of_zero_le v3
   obtain⟨b,hb⟩:=Int.eq_ofNat_of_zero_le (show 0≤(nth l i).hi by omega)
   have hx:nth l i=⟨(c:Int),(a:Int),(b:Int)⟩:=by rw [←hc,←ha,←hb]
   rw [hc] at v2 v5 v6;rw [hb] at v5;rw [ha,hb] at v4
   have hc4:c < 4:=by omega
   have htw:=zzS (c:=c);simp only [Int.toNat_natCast] at v5 v6
   have hnext:zbV l s (i+1)=mt2 ⟨(c:Int),(a:Int),(b:Int)⟩ (mt1 ⟨(c:Int),(a:Int),(b:Int)⟩ (zbV l s i)):=by rw [←hx];rfl
   have hln:=zxy l s i;have hlt:=zeo (l:=l) (s:=s) i
   generalize zbV l s i=z at hB' e5 hln hlt hnext
   obtain⟨m,s'⟩:=z
   simp only at hB' e5 hln hlt;have hbn:=Hp.lt hB'.bld;have hmn:=Hp.lt hB'.map;refine .qt rfl ?_;simp (disch:=first|exact za|fail) only [go_sem,seval,e15,e16];refine .qT rfl ?_;refine .qt rfl ?_;simp (disch:=first|exact za|fail) only [go_sem,seval,e14,e16,hx];refine .qt rfl ?_;simp (disch:=first|exact za|fail) only [go_sem,seval]
   obtain⟨X,hX⟩ : ∃ X:Cnd,X=⟨(c:Int),(a:Int),(b:Int)⟩:=⟨_,rfl⟩
   rw [←hX] at hnext;have hcell:(H'.new (.cells [.p (i64 c),.p (i64 a),.p (i64 b)])).f H'.n=some (.cells [.p (i64 c),.p (i64 a),.p (i64 b)]):=Hp.f_new_self _ _;have hpw:=Nat.two_pow_pos (zR c);refine .q ?_;refine .ifJ (fun env2 H2 => ∃ ad2,BH H2 (mt1 X (m,s')).2 ad2 bb mb∧Nw mb H (29+s.length) ad H2 ad2∧H2.f H'.n=some (.cells [.p (i64 c),.p (i64 a),.p (i64 b)])∧env2 7 = .ptr H'.n 0∧env2 0 = .ptr bb 0∧env2 5 = .p (ptp (ad2 (mt1 X (m,s')).1))∧env2 14 = .p (.sl false 3 (pl cnd l))∧env2 15 = .p (i64 l.length)∧env2 16 = .p (i64 i)) (by simp (disch:=first|exact za|fail) only [go_sem,seval];rfl) (fun hc ih => ?_) (fun hc ih => ?_) ?_
   · have hlo:0 < a:=by simpa using hc
     have hm1:mt1 X (m,s')=prN (zcl false a c s').2 m (zcl false a c s').1:=by subst hX;unfold mt1;rw [if_pos (by simp only;omega)];simp only [Int.toNat_natCast]
     have hq:=zp8 (most:=false) (n:=a) (s:=s') hc4 ⟨hlo,by omega⟩;have hln2:=(zbX false a c).len s';have hln3:=((zbX false a c).ext s').len;refine .qt rfl ?_;simp (disch:=first|exact za|fail) only [go_sem,seval,hcell,e0,e5];refine CallK.ex (zlz g c hc4 a (by omega) false (hB'.new _) (by omega) ⟨hlo,by omega⟩) ?_
     rintro _ H2 ⟨ad2,hB2,n2,rfl⟩
     simp (disch:=first|exact za|fail) only [go_sem,seval,e5];rw [←n2.ad m hlt];refine CallK.ex (yE m (zcl false a c s').1 hB2 (by omega) hq (by omega)) ?_
     rintro _ H3 ⟨ad3,hB3,n3,rfl⟩
     simp (disch:=first|exact za|fail) only [go_sem,seval];refine ih _ _ ⟨ad3,by rw [hm1];exact hB3,((hN.newl _).trans n2.w (by omega)).trans n3.w (by omega),by rw [n3.f _ (by omega),n2.f _ (by omega)];exact hcell,?_⟩;rw [hm1];simp (disch:=first|exact za|fail) only [go_sem,seval,e0,e14,e15,e16]
     try rfl
   · have hlo : ¬ 0 < a:=by simpa using hc
     have hm1:mt1 X (m,s')=(m,s'):=by subst hX;unfold mt1;rw [if_neg (by simp only;omega)]
     refine .skip (ih _ _ ⟨ad',by rw [hm1];exact hB'.new _,hN.newl _,hcell,?_⟩);rw [hm1];simp (disch:=first|exact za|fail) only [go_sem,seval,e0,e5,e14,e15,e16]
     try rfl
   intro env2 H2 ⟨ad2,hB2,hN2,hc2,f7,f0,f5,f14,f15,f16⟩
   have hlen1:(mt1 X (m,s')).2.length≤s'.length+9∧s'.length≤(mt1 X (m,s')).2.length:=⟨(ziZ X m).len s',((ziZ X m).ext s').len⟩
   have hlt1:(mt1 X (m,s')).1 < 29+(mt1 X (m,s')).2.length:=by
    unfold mt1
    split
    · exact yC _ _ _ _
    · exact hlt
   generalize mt1 X (m,s')=z1 at hB2 f5 hlen1 hlt1 hnext
   obtain⟨p,s1⟩:=z1
   simp only at hB2 f5 hlen1 hlt1;have hnH:=Hp.lt hc2;have hb2:=Hp.lt hB2.bld;have hm2:=Hp.lt hB2.map;refine .q ?_;refine .open [] follows (by kernel_rfl) ?_;simp (disch:=first|exact za|fail) only [go_sem,seval,f7,hc2];refine CallD.still (fun R h=>zly g c hc4 _ R h) ?_;simp (disch:=first|exact za|fail) only [go_sem,seval];refine .q ?_;refine .ifJ (fun env2 H2 => ∃ ad2,BH H2 (mt2 X (p,s1)).2 ad2 bb mb∧Nw mb H (29+s.length) ad H2 ad2∧env2 0 = .ptr bb 0∧env2 5 = .p (ptp (ad2 (mt2 X (p,s1)).1))∧env2 14 = .p (.sl false 3 (pl cnd l))∧env2 15 = .p (i64 l.length)∧env2 16 = .p (i64 i)) (by simp (disch:=first|exact za|fail) only [go_sem,seval];rfl) (fun hc ih => ?_) (fun hc ih => ?_) ?_
   · have hhi:(b:Int) < yu c:=by simpa using hc
     have hb':b < 2 ^ zR c - 1:=by omega
     have hm:mt2 X (p,s1)=prN (zcl true b c s1).2 p (zcl true b c s1).1:=by subst hX;unfold mt2;rw [if_pos (by simpa using hhi)];simp only [Int.toNat_natCast]
     have hq:=zp8 (most:=true) (n:=b) (s:=s1) hc4 hb';have hln2:=(zbX true b c).len s1;have hln3:=((zbX true b c).ext s1).len;refine .qt rfl ?_;simp (disch:=first|exact za|fail) only [go_sem,seval,hc2,f0,f5,f7];refine CallK.ex (zlz g c hc4 b (by omega) true hB2 (by omega) hb') ?_
     rintro _ H3 ⟨ad3,hB3,n3,rfl⟩
     simp (disch:=first|exact za|fail) only [go_sem,seval,f5];rw [←n3.ad p hlt1];refine CallK.ex (yE p (zcl true b c s1).1 hB3 (by omega) hq (by omega)) ?_
     rintro _ H4 ⟨ad4,hB4,n4,rfl⟩
     simp (disch:=first|exact za|fail) only [go_sem,seval];refine ih _ _ ⟨ad4,by rw [hm];exact hB4,(hN2.trans n3.w (by omega)).trans n4.w (by omega),?_⟩;rw [hm];simp (disch:=first|exact za|fail) only [go_sem,seval,f0,f14,f15,f16]
     try rfl
   · have hhi : ¬ (b:Int) < yu c:=by simpa using hc
     have hm:mt2 X (p,s1)=(p,s1):=by subst hX;unfold mt2;rw [if_neg (by simpa using hhi)]
     refine .skip (ih _ _ ⟨ad2,by rw [hm];exact hB2,hN2,?_⟩);rw [hm];simp (disch:=first|exact za|fail) only [go_sem,seval,f0,f5,f14,f15,f16]
     try rfl
   intro env3 H3 ⟨ad3,hB3,hN3,g0,g5,g14,g15,g16⟩;rw [←hnext] at hB3 g5;refine .qt rfl ?_;simp (disch:=first|exact za|fail) only [go_sem,seval,g16];refine ih _ _ ⟨ad3,hB3,hN3,?_⟩;simp (disch:=first|exact za|fail) only [go_sem,seval,g0,g5,g14,g15,g16]
   try rfl
end walks
end Go.Proofs.YthaoifcebimkfaaGreatDoor

namespace Go.Proofs.YthaoifcebimkfaaGreatDoor
open Go Go.AL

section enc
variable {a0 a1 a2 a3 a4 a5 a6 a7 a8 a9 b0 b1 b2 b3 b4 b5 w x y z:AV}
theorem ztl:setAt [a0,a1,a2,a3,a4,a5,a6,a7,a8,a9,b0,b1,b2,b3,b4,b5] 4 [w,x,y,z]=[a0,a1,a2,a3,w,x,y,z,a8,a9,b0,b1,b2,b3,b4,b5]:=rfl
theorem ztm:setAt [a0,a1,a2,a3,a4,a5,a6,a7,a8,a9,b0,b1,b2,b3,b4,b5] 8 [w,x,y,z]=[a0,a1,a2,a3,a4,a5,a6,a7,w,x,y,z,b2,b3,b4,b5]:=rfl
theorem zoF:setAt [a0,a1,a2,a3,a4,a5,a6,a7,a8,a9,b0,b1,b2,b3,b4,b5] 12 [w,x,y,z]=[a0,a1,a2,a3,a4,a5,a6,a7,a8,a9,b0,b1,w,x,y,z]:=rfl
end enc
def zgz:PV := .agg [i64 1,i64 (-1),i64 (-1),i64 1,i64 (-1),i64 1,i64 0,i64 0,i64 (-1),i64 0,i64 1,i64 0,i64 1,i64 0,i64 0,i64 0]
theorem zlA:zm [.p (i64 1),.p (i64 (-1)),.p (i64 (-1)),.p (i64 1),.p (i64 (-1)),.p (i64 1),.p (i64 0),.p (i64 0),.p (i64 (-1)),.p (i64 0),.p (i64 1),.p (i64 0),.p (i64 1),.p (i64 0),.p (i64 0),.p (i64 0)] = .p zgz:=rfl
attribute [go_sem] ztl ztm zoF zlA
theorem ztn:y9 Tryz.prog 192 (.p zgz) (.p (i64 0))=some (.p (cfP ⟨1,-1,-1,1⟩)):=by kernel_rfl
theorem zto:y9 Tryz.prog 192 (.p zgz) (.p (i64 1))=some (.p (cfP ⟨-1,1,0,0⟩)):=by kernel_rfl
theorem ztp:y9 Tryz.prog 192 (.p zgz) (.p (i64 2))=some (.p (cfP ⟨-1,0,1,0⟩)):=by kernel_rfl
theorem ztq:y9 Tryz.prog 192 (.p zgz) (.p (i64 3))=some (.p (cfP ⟨1,0,0,0⟩)):=by kernel_rfl
section walks
variable {G:Globs} {r1:Nat} {m1:List (Int × Int)}
set_option maxHeartbeats 8000000 in
theorem zh4 {s:List Nd} {ad:Nat → Nat} {bb mb cb:Nat} (l r v:Nat) {H:Hp} (hB:BH H s ad bb mb) (hl:l < 29+s.length) (hr:r < 29+s.length) (hlen:s.length≤1000) (hv:v < 16) (hc:H.f cb=some (.cells [.ptr bb 0])) :
 ACall Tryz.prog G 134 [.p (ptp (ad l)),.p (ptp (ad r)),.p (i64 v),.ptr cb 0] H (BR bb mb H (29+s.length) ad (addN s l r (zap (v % 4)))):=by
 refine ACall.of_run (raw:=[]) Tryz.func134 rfl Tryz.ntmps134 (by simp) fun hbel => ?_
 have hbb:=Hp.lt hB.bld;have hmb:=Hp.lt hB.map
 have hm:((v:Int) % 4)=((v % 4:Nat):Int):=by omega
 have h4:v % 4 < 4:=Nat.mod_lt _ (by decide)
 generalize v % 4=u at hm h4
 refine .qt rfl ?_;simp (disch:=first|exact za|fail) only [go_sem,seval]
 have hidx:y9 Tryz.prog 192 (.p zgz) (.p (i64 (u:Nat)))=some (.p (cfP (zap u))):=by
  have hu:u=0 ∨ u=1 ∨ u=2 ∨ u=3:=by omega
  rcases hu with rfl | rfl | rfl | rfl
  · exact ztn
  · exact zto
  · exact ztp
  · exact ztq
 have hand:zE Tryz.prog .and 3 (.p (i64 v)) (.p (i64 3))=some (.p (i64 (u:Nat))):=by rw [←hm];exact zan Tryz.prog 3 v 2 (by omega)
 have hbuild:zZ Tryz.prog 192 [(0,.p (cfP ⟨1,-1,-1,1⟩)),(1,.p (cfP ⟨-1,1,0,0⟩)),(2,.p (cfP ⟨-1,0,1,0⟩)),(3,.p (cfP ⟨1,0,0,0⟩))]=some (.p zgz):=by
  rw [zk2];rfl
 refine .q ?_;refine .open [11] follows (by kernel_rfl) ?_;simp (disch:=first|exact za|fail) only [go_sem,seval,hbuild,hc,hand,hidx];refine CallD.moves (yT l r (zap u) hB hl hr hlen) ?_
 rintro _ H1 ⟨ad1,hB1,n1,rfl⟩
 simp (disch:=first|exact za|fail) only [go_sem,seval];have hbel:Bel H.n H1:=hB1.bel hbel n1.w.f;refine .qr rfl Tryz.func134 (by rw [Tryz.results134]) ?_;simp (disch:=first|exact za|fail) only [go_sem,seval]
 exact⟨ad1,hB1.trunc hbb hmb,n1.w.back hmb,rfl⟩
end walks
end Go.Proofs.YthaoifcebimkfaaGreatDoor

namespace Go.Proofs.YthaoifcebimkfaaGreatDoor
open Go Go.AL

theorem zoG {c:Nat} (h:c < 4):zf c+zR c≤29∧4≤zR c:=by
 match c,h with
 | 0,_=>decide
 | 1,_=>decide
 | 2,_=>decide
 | 3,_=>decide
 | c+4,h=>omega
theorem zC5 {P:Program} {t:TypeId} {x:Int}:zE P .shr t (.p (i64 x)) (.p (zl 2#64))=some (.p (i64 (x / 4))):=by
 have:x.fdiv (2 ^ 2)=x / 4:=Int.fdiv_eq_ediv_of_nonneg _ (by decide)
 rw [←this];rfl
section walks
variable {G:Globs} {r1:Nat} {m1:List (Int × Int)}
set_option maxHeartbeats 8000000 in
set_option maxRecDepth 20000 in
theorem zxz (g:GW G r1 m1) {s:List Nd} {ad:Nat → Nat} {bb mb:Nat} (c v:Nat) {H:Hp} (hB:BH H s ad bb mb) (hc:c < 4) (hv:v < 16) (hlen:s.length≤990) :
 ACall Tryz.prog G 87 [.ptr bb 0,.p (i64 c),.p (i64 v)] H (BR bb mb H (29+s.length) ad (zcR c v s)):=by
 refine ACall.of_run (raw:=[]) Tryz.func87 rfl Tryz.ntmps87 (by simp) fun hbel => ?_
 have hbb:=Hp.lt hB.bld;have hmb:=Hp.lt hB.map;have hfs:=zoG hc;refine .qt rfl ?_;simp (disch:=first|exact za|fail) only [go_sem,seval];refine .qt rfl ?_;simp (disch:=first|exact za|fail) only [go_sem,seval];have hB0:BH (H.new (.cells [.ptr bb 0])) s ad bb mb:=hB.new _;refine CallK.of (fun R h=>zeI g c hc _ hB0 R h) ?_;simp (disch:=first|exact za|fail) only [go_sem,seval];refine .qt rfl ?_;simp (disch:=first|exact za|fail) only [go_sem,seval];have hlen29:=zbZ
 have hl1:(List.take (zf c+zR c) rng29).length=zf c+zR c:=by rw [List.length_take];omega
 have hl2:(List.drop (zf c) (List.take (zf c+zR c) rng29)).length=zR c:=by rw [List.length_drop];omega
 have hi0 : ∀ j,j < 4 → nth ((rng29.take (zf c+zR c)).drop (zf c)) j=zf c+j:=fun j hj=>zjc hc (by omega)
 have i0:=hi0 0 (by omega);have i1:=hi0 1 (by omega);have i2:=hi0 2 (by omega);have i3:=hi0 3 (by omega);rw [Nat.add_zero] at i0;refine .q ?_;refine .openJ (E := ?E1) (fun H'=>H'.f H.n=some (.cells [.ptr bb 0])) [0,1,2,3,4,5,6,7,8,10,11,12,13,14,15,16,17,18] [] [9,19,20,21] [true,true,true,false] follows (by kernel_rfl) (by first | exact rfl | assumption | simp (disch:=first|exact za|fail) only [go_sem,seval]) (fun H2 hJ => ?hP1) ?_;(case hP1=>((try dsimp only at hJ);simp (disch:=first|exact za|fail) only [go_sem,seval,zc4,hl2,i0,i1,i2,i3,zC5,hJ];(try exact rfl)));simp (disch:=first|exact za|fail) only [go_sem,seval,zc4,hl2,i0,i1,i2,i3,zC5];refine CallJ.moves (zh4 (zf c) (zf c+1) v hB0 (by omega) (by omega) (by omega) hv (zu rfl)) ?_
 rintro _ H1 ⟨ad1,hB1,n1,rfl⟩
 have hJ1:H1.f H.n=some (.cells [.ptr bb 0]):=(n1.f H.n (by omega)).trans (zu rfl)
 refine⟨.inr hJ1,?_⟩
 have hv4:(v:Int) / 4=((v / 4:Nat):Int):=by omega
 have ha2:ad1 (zf c+2)=ad (zf c+2):=n1.ad _ (by omega);have ha3:ad1 (zf c+3)=ad (zf c+3):=n1.ad _ (by omega);simp (disch:=first|exact za|fail) only [go_sem,seval,hv4];rw [←ha2,←ha3];have hl1:(addN s (zf c) (zf c+1) (zap (v % 4))).2.length≤s.length+1:=(ya _ _ _).len s;have hl1':s.length≤(addN s (zf c) (zf c+1) (zap (v % 4))).2.length:=((ya _ _ _).ext s).len;refine CallJ.moves (zh4 (zf c+2) (zf c+3) (v / 4) hB1 (by omega) (by omega) (by omega) (by omega) hJ1) ?_
 rintro _ H2 ⟨ad2,hB2,n2,rfl⟩
 have hJ2:H2.f H.n=some (.cells [.ptr bb 0]):=(n2.f H.n (by omega)).trans hJ1
 refine⟨.inr hJ2,?_⟩
 have hp1:=yC s (zf c) (zf c+1) (zap (v % 4));have hd4:v / 4 % 4=v / 4:=Nat.mod_eq_of_lt (by omega);rw [hd4] at hB2 ⊢;unfold zcR;dsimp only
 generalize addN s (zf c) (zf c+1) (zap (v % 4))=p at *
 have hq1:=yC p.2 (zf c+2) (zf c+3) (zap (v / 4));have hl2:(addN p.2 (zf c+2) (zf c+3) (zap (v / 4))).2.length≤p.2.length+1:=(ya _ _ _).len p.2;have hl2':p.2.length≤(addN p.2 (zf c+2) (zf c+3) (zap (v / 4))).2.length:=((ya _ _ _).ext p.2).len;have ha4:ad2 p.1=ad1 p.1:=n2.ad _ (by omega)
 generalize addN p.2 (zf c+2) (zf c+3) (zap (v / 4))=q at *
 rw [←ha4];simp (disch:=first|exact za|fail) only [go_sem,seval];refine CallJ.moves (yE p.1 q.1 hB2 (by omega) (by omega) (by omega)) ?_
 rintro _ H3 ⟨ad3,hB3,n3,rfl⟩
 have hJ3:H3.f H.n=some (.cells [.ptr bb 0]):=(n3.f H.n (by omega)).trans hJ2
 refine⟨.inr hJ3,?_⟩
 simp (disch:=first|exact za|fail) only [go_sem,seval];have n03:Nw mb H (29+s.length) ad H3 ad3:=(Nw.new _).trans ((n1.trans n2 (by omega)).trans n3 (by omega)).w (Nat.le_refl _);have hbel:Bel H.n H3:=hB3.bel hbel n03.f;refine .qr rfl Tryz.func87 (by rw [Tryz.results87]) ?_;simp (disch:=first|exact za|fail) only [go_sem,seval]
 exact⟨ad3,hB3.trunc hbb hmb,n03.back hmb,rfl⟩
end walks
end Go.Proofs.YthaoifcebimkfaaGreatDoor

namespace Go.Proofs.YthaoifcebimkfaaGreatDoor
open Go Go.AL

def LR (bb mb:Nat) (H:Hp) (m:Nat) (ad:Nat → Nat) (f:LBS) (r:AV) (H':Hp):Prop := ∃ ad',BH H' f.2 ad' bb mb∧Nx mb H m ad H' ad'∧r = .p (.sl false 1 (pl (fun i=>ptp (ad' i)) f.1))
def zdP (ad:Nat → Nat) (L:List Nat):List Value:=L.map (fun i=>ptA (ad i) 0)++List.replicate (16 - L.length) (Value.pointer none)
theorem zxA {ad:Nat → Nat} {L:List Nat} (h:L.length≤16):(zdP ad L).length=16:=by simp [zdP];omega
theorem zxB {ad:Nat → Nat} {L:List Nat} {x:Nat} (h:L.length < 16):(zdP ad L).set L.length (ptA (ad x) 0)=zdP ad (L++[x]):=by
 unfold zdP;rw [show 16 - L.length=(16 - (L++[x]).length)+1 by simp;omega,List.replicate_succ,List.set_append_right _ _ (by simp)]
 simp
theorem ztr {ad:Nat → Nat} {L:List Nat} (h:L.length=16):zdP ad L=L.map (fun i=>ptA (ad i) 0):=by simp [zdP,h]
theorem zoH {ad ad':Nat → Nat} {L:List Nat} (h : ∀ i∈L,ad' i=ad i):zdP ad' L=zdP ad L:=by
 unfold zdP;rw [List.map_congr_left fun i hi=>by rw [h i hi]]
section steps
variable {P:Program} {G:Globs} {ty t:TypeId} {env:Env} {H:Hp} {y:Operand} {k:IntKind}
theorem zeJ:zc P G (.makeSlice t (.const (.int k 16)) y) ty env H=vHH (zdX P H t (.p (.s (.int k 16))) (zY G env y)):=rfl
end steps
attribute [go_sem] zeJ
theorem zBA {H:Hp} {s:List Nd} {ad:Nat → Nat} {bb mb cb:Nat} {x:List AV} (hB:BH H s ad bb mb) (hc:H.f cb=some (.cells x)):cb≠mb:=by
 rintro rfl
 have:=hB.map
 rw [hc] at this
 cases this
theorem Nw.set {mb:Nat} {H H':Hp} {m:Nat} {ad ad':Nat → Nat} (h:Nw mb H m ad H' ad') {b:Nat} (x:AB) (hb:H.n≤b):Nw mb H m ad (H'.set b x) ad' :=
 ⟨by rw [n_set'];exact h.n,fun c hc hm=>(f_set_ne' (by omega)).trans (h.f c hc hm),h.ad⟩
theorem zbt {m c:Nat} {s:List Nd} : ∀ i,(yQ m c s i).1.length=i
 | 0=>rfl
 | i+1=>by simp only [yQ,List.length_append,List.length_singleton];rw [zbt i]
theorem zoI (s:List Nd) (l r:Nat):(prN s l r).1 < 29+(prN s l r).2.length:=yC ..
theorem zBB (s:List Nd) (l r:Nat):s.length≤(prN s l r).2.length:=((zcm l r).ext s).len
theorem zep {m c:Nat} {s:List Nd} : ∀ i,∀ x∈(yQ m c s i).1,x < 29+(yQ m c s i).2.length
 | 0,x,h=>by cases h
 | i+1,x,h=>by
  simp only [yQ,List.mem_append,List.mem_singleton] at h ⊢;have a:=((zed c i).ext (yQ m c s i).2).len;have b:=zBB (zcR c i (yQ m c s i).2).2 m (zcR c i (yQ m c s i).2).1
  rcases h with h | rfl
  · have:=zep i x h;omega
  · exact zoI ..
section walks
variable {G:Globs} {r1:Nat} {m1:List (Int × Int)}
set_option maxHeartbeats 8000000 in
set_option maxRecDepth 20000 in
theorem zdQ (g:GW G r1 m1) {s:List Nd} {ad:Nat → Nat} {bb mb cb:Nat} (l:List Cnd) (c:Nat) (hl:vF l=true) (hc4:c < 4) {H:Hp} (hB:BH H s ad bb mb) (hlen:s.length≤700) (hc:H.f cb=some (.cells [.ptr bb 0])) :
 ACall Tryz.prog G 84 [.p (.sl false 3 (pl cnd l)),.p (i64 c),.ptr cb 0] H (LR bb mb H (29+s.length) ad (y5 l c s)):=by
 refine ACall.of_run (raw:=[]) Tryz.func84 rfl Tryz.ntmps84 (by simp) fun hbel => ?_
 have hbb:=Hp.lt hB.bld;have hmb:=Hp.lt hB.map;have hcb:=Hp.lt hc;have hcm:=zBA hB hc
 have hl3:l.length≤3:=by unfold vF at hl;rw [Bool.and_eq_true,decide_eq_true_iff] at hl;exact hl.1
 refine .qt rfl ?_;simp (disch:=first|exact za|fail) only [go_sem,seval];refine .q ?_;refine .cut (fun env2 H2 => ∃ ad2,BH H2 (yl l s).2 ad2 bb mb∧Nw mb H (29+s.length) ad H2 ad2∧H2.n=H.n+1∧H2.f H.n=some (.cells (cl PV.s (zdP ad2 [])))∧env2 1 = .p (i64 c)∧env2 2 = .ptr cb 0∧env2 6 = .p (ptp (ad2 (yl l s).1))∧env2 7 = .ref H.n 0 16 1) (fun ih => ?_) ?_
 · refine .q ?_;refine .openJ2 (E := ?E1) (fun H'=>H'.f cb=some (.cells [.ptr bb 0])) [0,1] [4] 2 3 [4,3,5] [2,4,5] [false,false,true,false] [true,false,false,false] follows (by kernel_rfl) (by first | exact rfl | assumption | simp (disch:=first|exact za|fail) only [go_sem,seval]) (fun H2 hJ => ?hP1) ?_ ?_;(case hP1=>((try dsimp only at hJ);simp (disch:=first|exact za|fail) only [go_sem,seval,hJ];(try exact rfl)));all_goals simp (disch:=first|exact za|fail) only [go_sem,seval]
   · refine CallJ.moves (za7 g l hl hB (by omega)) ?_
     rintro _ H1 ⟨ad1,hB1,n1,rfl⟩
     refine⟨.inl rfl,?_⟩
     simp (disch:=first|exact za|fail) only [go_sem,seval];have hnn:=n1.n
     refine⟨(zb (by omega)).trans ((n1.f cb hcm).trans hc),?_⟩
     refine ih _ _ ⟨ad1,hB1.new _,n1.w.trans (Nw.new _) (Nat.le_refl _),by rw [n_new',n1.n],zu n1.n.symm,?_⟩;rw [n1.n];simp (disch:=first|exact za|fail) only [go_sem,seval]
   · refine⟨hc,?_⟩
     refine CallJ.moves (za7 g l hl (hB.new _) (by omega)) ?_
     rintro _ H1 ⟨ad1,hB1,n1,rfl⟩
     refine⟨.inl rfl,?_⟩
     simp (disch:=first|exact za|fail) only [go_sem,seval];refine ih _ _ ⟨ad1,hB1,(Nw.new _).trans n1.w (Nat.le_refl _),by rw [n1.n,n_new'],(n1.f H.n (by omega)).trans (zu rfl),?_⟩;simp (disch:=first|exact za|fail) only [go_sem,seval]
 rintro env H1 ⟨ad1,hB1,n1,hn1,hr1,e1,e2,e6,e7⟩
 have hlm:=(zbp l).len s;have hlx2:=((zbp l).ext s).len;have hlx:(yl l s).1 < 29+(yl l s).2.length:=zeo (l:=l) (s:=s) l.length
 generalize hgm:yl l s=M at *
 refine .qt rfl ?_;simp (disch:=first|exact za|fail) only [go_sem,seval,e7];refine .q ?_;refine .count (fun i env H' => ∃ ad',BH H' (yQ M.1 c M.2 i).2 ad' bb mb∧Nw mb H (29+s.length) ad H' ad'∧H'.n=H.n+1∧H'.f H.n=some (.cells (cl PV.s (zdP ad' (yQ M.1 c M.2 i).1)))∧env 1 = .p (i64 c)∧env 2 = .ptr cb 0∧env 6 = .p (ptp (ad' M.1))∧env 7 = .ref H.n 0 16 1∧env 14 = .p (i64 16)∧env 15 = .p (i64 i)) 0 16 (by omega) ?_ ?_ ?_
 · refine⟨ad1,hB1,n1,hn1,hr1,?_⟩
   simp (disch:=first|exact za|fail) only [go_sem,seval,e1,e2,e6,e7]
 · intro env H' ⟨ad',hB',hN,hn',hr',e1,e2,e6,e7,e14,e15⟩;refine .qt rfl ?_;simp (disch:=first|exact za|fail) only [go_sem,seval,e14,e15];refine .qF rfl ?_;have hL:(zdP ad' (yQ M.1 c M.2 16).1)=(yQ M.1 c M.2 16).1.map (fun i=>ptA (ad' i) 0):=ztr (zbt 16);rw [hL] at hr';refine .qt rfl ?_;simp (disch:=first|exact za|fail) only [go_sem,seval,e7]
   have hL2:((yQ M.1 c M.2 16).1.map (fun i=>ptA (ad' i) 0)).length=16:=by rw [List.length_map,zbt]
   have hpl:pl PV.s ((yQ M.1 c M.2 16).1.map (fun i=>ptA (ad' i) 0))=pl (fun i=>ptp (ad' i)) (yQ M.1 c M.2 16).1:=by simp [pl,ptp]
   have hgr:y5 l c s=yQ M.1 c M.2 16:=by rw [y5,hgm]
   refine .q ?_;refine .frzS 5 (by simp (disch:=first|exact za|fail) only [go_sem,seval,hr',hL2];rfl) (by simp (disch:=first|exact za|fail) only [go_sem,seval,hr',hL2]<;>rfl) (fun _=>rfl) (by first | exact za | fail) ?_;(try simp (disch:=first|exact za|fail) only [go_sem,seval,hr',hL2]);rw [hpl,hgr];have hB3:=hB'.set (b:=H.n) .dead (by omega) (by omega);have n3:=hN.set (b:=H.n) .dead (Nat.le_refl _)
   generalize H'.set H.n .dead=H3 at hB3 n3 ⊢
   have hbel:Bel H.n H3:=hB3.bel hbel n3.f;refine .qr rfl Tryz.func84 (by rw [Tryz.results84]) ?_;simp (disch:=first|exact za|fail) only [go_sem,seval]
   exact⟨ad',hB3.trunc hbb hmb,n3.back hmb,rfl⟩
 · intro i env H' hi0 hi ⟨ad',hB',hN,hn',hr',e1,e2,e6,e7,e14,e15⟩ ih;refine .qt rfl ?_;simp (disch:=first|exact za|fail) only [go_sem,seval,e14,e15];refine .qT rfl ?_;refine .qt rfl ?_;simp (disch:=first|exact za|fail) only [go_sem,seval,e15];have hc':H'.f cb=some (.cells [.ptr bb 0]):=(hN.f cb hcb hcm).trans hc;refine .q ?_;refine .openJ (E := ?E2) (fun H'=>H'.f cb=some (.cells [.ptr bb 0])) [0,1,2,3,4,5,6] [9] [7,8,9,10] [true,true,false,false] follows (by kernel_rfl) (by first | exact rfl | assumption | simp (disch:=first|exact za|fail) only [go_sem,seval]) (fun H2 hJ => ?hP2) ?_;(case hP2=>((try dsimp only at hJ);simp (disch:=first|exact za|fail) only [go_sem,seval,e1,e2,e6,e7,hJ];(try exact rfl)));simp (disch:=first|exact za|fail) only [go_sem,seval,e1,e2,e6,e7];have g1:=(zgu M.1 c i).len M.2;have g2:=((zgu M.1 c i).ext M.2).len;have g3:=(zed c i).len (yQ M.1 c M.2 i).2;have g4:=((zed c i).ext (yQ M.1 c M.2 i).2).len;have g5:(zcR c i (yQ M.1 c M.2 i).2).1 < 29+(zcR c i (yQ M.1 c M.2 i).2).2.length:=yC ..;refine CallJ.moves (zxz g c i hB' hc4 hi (by omega)) ?_
   rintro _ H2 ⟨ad2,hB2,n2,rfl⟩
   have hJ2:=(n2.f cb hcm).trans hc'
   refine⟨.inr hJ2,?_⟩
   simp (disch:=first|exact za|fail) only [go_sem,seval];have a1:ad2 M.1=ad' M.1:=n2.ad _ (by omega);rw [←a1];refine CallJ.moves (yE M.1 (zcR c i (yQ M.1 c M.2 i).2).1 hB2 (by omega) (by omega) (by omega)) ?_
   rintro _ H3 ⟨ad3,hB3,n3,rfl⟩
   have hJ3:=(n3.f cb hcm).trans hJ2
   refine⟨.inr hJ3,?_⟩
   obtain⟨L,hL⟩ : ∃ L,L=(yQ M.1 c M.2 i).1:=⟨_,rfl⟩
   have hLl:L.length=i:=by rw [hL];exact zbt i
   have hLm : ∀ x∈L,ad3 x=ad' x:=fun x hx=>by
    rw [hL] at hx
    have:=zep i x hx
    rw [n3.ad x (by omega),n2.ad x (by omega)]
   have g6:(zdP ad3 L).length=16:=zxA (by omega)
   have hr3:H3.f H.n=some (.cells (cl PV.s (zdP ad3 L))):=by rw [zoH hLm,hL];exact (n3.f H.n (by omega)).trans ((n2.f H.n (by omega)).trans hr')
   simp (disch:=first|exact za|fail) only [go_sem,seval,hr3,g6];have n03:Nw mb H (29+s.length) ad H3 ad3:=hN.trans (n2.trans n3 (by omega)).w (by omega);have a2:ad3 M.1=ad2 M.1:=n3.ad _ (by omega);refine .qt rfl ?_;simp (disch:=first|exact za|fail) only [go_sem,seval,e15];refine ih _ _ ⟨ad3,hB3.set (b:=H.n) _ (by omega) (by omega),n03.set (b:=H.n) _ (Nat.le_refl _),?_,?_,?_⟩
   · rw [n_set',n3.n,n2.n,hn']
   · rw [zN rfl (by rw [n3.n,n2.n];omega)]
     have:=zxB (ad:=ad3) (L:=L) (x:=(prN (zcR c i (yQ M.1 c M.2 i).2).2 M.1 (zcR c i (yQ M.1 c M.2 i).2).1).1) (by omega)
     rw [hLl] at this;rw [this,hL];rfl
   · simp (disch:=first|exact za|fail) only [go_sem,seval,e1,e2,e6,e7,e14,a2];rw [a1]
end walks
end Go.Proofs.YthaoifcebimkfaaGreatDoor
