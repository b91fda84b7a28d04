/- Proofs. -/
import Derived.Test.YthaoifcebimkfaaGreatDoorPkE3
import Derived.Test.YthaoifcebimkfaaGreatDoorChecked
import Derived.Laws.StructEq
set_option linter.unusedSimpArgs false
set_option linter.unusedVariables false
namespace Go.Proofs.YthaoifcebimkfaaGreatDoor
open Go Go.AL

theorem cells2:Tryz.prog.cellsOf 2=1:=by kernel_rfl
theorem zE1:Tryz.prog.bytesOf 2=8:=by kernel_rfl
theorem zE2:zcW Tryz.prog 2=true:=by kernel_rfl
theorem zE3:zU Tryz.prog 2=some ([i64 0]):=by kernel_rfl
theorem zE4:yE Tryz.prog 2=true:=by kernel_rfl
theorem cells3:Tryz.prog.cellsOf 3=1:=by kernel_rfl
theorem zE5:zcW Tryz.prog 3=true:=by kernel_rfl
theorem zE6:zU Tryz.prog 3=some ([i64 0]):=by kernel_rfl
theorem zE7:yE Tryz.prog 3=true:=by kernel_rfl
theorem cells4:Tryz.prog.cellsOf 4=1:=by kernel_rfl
theorem bytes4:Tryz.prog.bytesOf 4=1:=by kernel_rfl
theorem zCG:isBool Tryz.prog 4=true:=by kernel_rfl
theorem zE8:zU Tryz.prog 4=some ([bo false]):=by kernel_rfl
theorem zE9:yE Tryz.prog 4=true:=by kernel_rfl
theorem cells5:Tryz.prog.cellsOf 5=1:=by kernel_rfl
theorem zFa:zcW Tryz.prog 5=true:=by kernel_rfl
theorem zFb:yE Tryz.prog 5=true:=by kernel_rfl
theorem cells9:Tryz.prog.cellsOf 9=1:=by kernel_rfl
theorem zFc:yE Tryz.prog 9=true:=by kernel_rfl
theorem cells22:Tryz.prog.cellsOf 22=1:=by kernel_rfl
theorem cells24:Tryz.prog.cellsOf 24=4:=by kernel_rfl
theorem zyX:yr Tryz.prog 24=true:=by kernel_rfl
theorem zsq:zU Tryz.prog 24=some ([i64 0,i64 0,i64 0,.sl true 1 []]):=by kernel_rfl
theorem zCH : ∀ parts,yf Tryz.prog 24 parts=(yA (fun i=>[some (0,1),some (1,1),some (2,1),some (3,1)][i]?.join) ([.p (i64 0),.p (i64 0),.p (i64 0),.p (.sl true 1 [])]) parts).map zu:=fun _=>zB (by kernel_rfl) zsq
theorem zyY:yr Tryz.prog 25=false:=by kernel_rfl
theorem cells27:Tryz.prog.cellsOf 27=1:=by kernel_rfl
theorem bytes27:Tryz.prog.bytesOf 27=24:=by kernel_rfl
theorem zCI:yE Tryz.prog 27=true:=by kernel_rfl
theorem cells30:Tryz.prog.cellsOf 30=1:=by kernel_rfl
theorem zCJ:zU Tryz.prog 30=some ([.sl true 1 []]):=by kernel_rfl
theorem cells32:Tryz.prog.cellsOf 32=3:=by kernel_rfl
theorem zsr:zU Tryz.prog 32=some ([i64 0,.sl true 1 [],i64 0]):=by kernel_rfl
theorem zCK : ∀ parts,yf Tryz.prog 32 parts=(yA (fun i=>[some (0,1),some (1,1),some (2,1)][i]?.join) ([.p (i64 0),.p (.sl true 1 []),.p (i64 0)]) parts).map zu:=fun _=>zB (by kernel_rfl) zsr
theorem cells38:Tryz.prog.cellsOf 38=1:=by kernel_rfl
theorem cells39:Tryz.prog.cellsOf 39=1:=by kernel_rfl
theorem cells41:Tryz.prog.cellsOf 41=2:=by kernel_rfl
theorem zss:zU Tryz.prog 41=some ([.sl true 4 [],.sl true 1 []]):=by kernel_rfl
theorem zCL : ∀ parts,yf Tryz.prog 41 parts=(yA (fun i=>[some (0,1),some (1,1)][i]?.join) ([.p (.sl true 4 []),.p (.sl true 1 [])]) parts).map zu:=fun _=>zB (by kernel_rfl) zss
theorem cells43:Tryz.prog.cellsOf 43=1:=by kernel_rfl
theorem zCM:yE Tryz.prog 43=true:=by kernel_rfl
theorem cells46:Tryz.prog.cellsOf 46=1:=by kernel_rfl
theorem zyZ:yr Tryz.prog 52=false:=by kernel_rfl
theorem cells53:Tryz.prog.cellsOf 53=1:=by kernel_rfl
theorem zCN:Tryz.prog.bytesOf 53=8:=by kernel_rfl
theorem zCO:zcW Tryz.prog 53=true:=by kernel_rfl
theorem zCP:zU Tryz.prog 53=some ([zg 0#64]):=by kernel_rfl
theorem zCQ:yE Tryz.prog 53=true:=by kernel_rfl
theorem cells55:Tryz.prog.cellsOf 55=3:=by kernel_rfl
theorem zy0:yr Tryz.prog 55=true:=by kernel_rfl
theorem zCR:Tryz.prog.cellsOf 70=1:=by kernel_rfl
theorem zCS:Tryz.prog.bytesOf 70=24:=by kernel_rfl
theorem zCT:zU Tryz.prog 70=some ([.sl true 6 []]):=by kernel_rfl
theorem zCU:yE Tryz.prog 70=true:=by kernel_rfl
theorem zst:Tryz.prog.cellsOf 72=6:=by kernel_rfl
theorem zCV:Tryz.prog.bytesOf 72=48:=by kernel_rfl
theorem zsu:zU Tryz.prog 72=some ([i64 0,i64 0,zg 0#64,zg 0#64,zg 0#64,zg 0#64]):=by kernel_rfl
theorem zCW:yE Tryz.prog 72=true:=by kernel_rfl
theorem zCX : ∀ parts,yf Tryz.prog 72 parts=(yA (fun i=>[some (0,1),some (1,1),some (2,1),some (3,1),some (4,1),some (5,1)][i]?.join) ([.p (i64 0),.p (i64 0),.p (zg 0#64),.p (zg 0#64),.p (zg 0#64),.p (zg 0#64)]) parts).map zu:=fun _=>zB (by kernel_rfl) zsu
theorem zsv:Tryz.prog.cellsOf 73=1:=by kernel_rfl
theorem zCY:Tryz.prog.bytesOf 73=24:=by kernel_rfl
theorem zy1:yr Tryz.prog 73=false:=by kernel_rfl
theorem zCZ:yE Tryz.prog 73=true:=by kernel_rfl
theorem zsw:Tryz.prog.cellsOf 75=3:=by kernel_rfl
theorem zC0:Tryz.prog.bytesOf 75=24:=by kernel_rfl
theorem zy2:yr Tryz.prog 75=true:=by kernel_rfl
theorem zsx:zU Tryz.prog 75=some ([i64 0,i64 0,i64 0]):=by kernel_rfl
theorem zC1:yE Tryz.prog 75=true:=by kernel_rfl
theorem zC2 : ∀ parts,yf Tryz.prog 75 parts=(yA (fun i=>[some (0,1),some (1,1),some (2,1)][i]?.join) ([.p (i64 0),.p (i64 0),.p (i64 0)]) parts).map zu:=fun _=>zB (by kernel_rfl) zsx
theorem zC3:Tryz.prog.cellsOf 77=4:=by kernel_rfl
theorem zC4:Tryz.prog.bytesOf 77=32:=by kernel_rfl
theorem zsy:zU Tryz.prog 77=some ([i64 0,i64 0,i64 0,i64 0]):=by kernel_rfl
theorem zC5:yE Tryz.prog 77=true:=by kernel_rfl
theorem zC6 : ∀ parts,yf Tryz.prog 77 parts=(yA (fun i=>[some (0,1),some (1,1),some (2,1),some (3,1)][i]?.join) ([.p (i64 0),.p (i64 0),.p (i64 0),.p (i64 0)]) parts).map zu:=fun _=>zB (by kernel_rfl) zsy
theorem zC7:Tryz.prog.cellsOf 80=1:=by kernel_rfl
theorem zsz:zU Tryz.prog 80=some ([.sl true 1 []]):=by kernel_rfl
theorem zC8 : ∀ parts,yf Tryz.prog 80 parts=(yA (fun i=>[some (0,1)][i]?.join) ([.p (.sl true 1 [])]) parts).map zu:=fun _=>zB (by kernel_rfl) zsz
theorem cells85:Tryz.prog.cellsOf 85=1:=by kernel_rfl
theorem zC9:yE Tryz.prog 85=true:=by kernel_rfl
theorem zDa:Tryz.prog.cellsOf 89=1:=by kernel_rfl
theorem zDb:Tryz.prog.bytesOf 89=8:=by kernel_rfl
theorem zDc:zU Tryz.prog 89=some ([.s (.pointer none)]):=by kernel_rfl
theorem zDd:yE Tryz.prog 89=true:=by kernel_rfl
theorem zy3:Tryz.prog.cellsOf 106=3:=by kernel_rfl
theorem zm6:Tryz.prog.cellsOf 108=4:=by kernel_rfl
theorem zsA:yr Tryz.prog 108=true:=by kernel_rfl
theorem zy4:Tryz.prog.cellsOf 128=4:=by kernel_rfl
theorem zm7:zU Tryz.prog 128=some ([str ByteArray.empty,bo false,i64 0,i64 0]):=by kernel_rfl
theorem zy5 : ∀ parts,yf Tryz.prog 128 parts=(yA (fun i=>[some (0,1),some (1,1),some (2,1),some (3,1)][i]?.join) ([.p (str ByteArray.empty),.p (bo false),.p (i64 0),.p (i64 0)]) parts).map zu:=fun _=>zB (by kernel_rfl) zm7
theorem zy6:Tryz.prog.cellsOf 133=1:=by kernel_rfl
theorem zy7:zU Tryz.prog 133=some ([.s .nilFunc]):=by kernel_rfl
theorem zy8:Tryz.prog.cellsOf 134=1:=by kernel_rfl
theorem zy9:Tryz.prog.cellsOf 136=3:=by kernel_rfl
theorem zm8:zU Tryz.prog 136=some ([i64 0,bo false,.s .nilFunc]):=by kernel_rfl
theorem zza : ∀ parts,yf Tryz.prog 136 parts=(yA (fun i=>[some (0,1),some (1,1),some (2,1)][i]?.join) ([.p (i64 0),.p (bo false),.p (.s .nilFunc)]) parts).map zu:=fun _=>zB (by kernel_rfl) zm8
theorem zzb:Tryz.prog.cellsOf 140=1:=by kernel_rfl
theorem zm9:zU Tryz.prog 142=some ([.sl true 1 [],.s (.map none)]):=by kernel_rfl
theorem zzc : ∀ parts,yf Tryz.prog 142 parts=(yA (fun i=>[some (0,1),some (1,1)][i]?.join) ([.p (.sl true 1 []),.p (.s (.map none))]) parts).map zu:=fun _=>zB (by kernel_rfl) zm9
theorem zhW:Tryz.prog.cellsOf 144=4:=by kernel_rfl
theorem zkU:(Tryz.prog.info? 144).isSome=true:=by kernel_rfl
theorem zna:zU Tryz.prog 144=some ([i64 0,i64 0,i64 0,i64 0]):=by kernel_rfl
theorem zzd : ∀ parts,yf Tryz.prog 144 parts=(yA (fun i=>[some (0,1),some (1,1),some (2,1),some (3,1)][i]?.join) ([.p (i64 0),.p (i64 0),.p (i64 0),.p (i64 0)]) parts).map zu:=fun _=>zB (by kernel_rfl) zna
theorem znb:Tryz.prog.cellsOf 146=8:=by kernel_rfl
theorem zsB:(Tryz.prog.info? 146).isSome=true:=by kernel_rfl
theorem znc:zU Tryz.prog 146=some ([i64 0,i64 0,i64 0,i64 0,i64 0,.s (.pointer none),.s (.pointer none),i64 0]):=by kernel_rfl
theorem zze : ∀ parts,yf Tryz.prog 146 parts=(yA (fun i=>[some (0,1),some (1,4),some (5,1),some (6,1),some (7,1)][i]?.join) ([.p (i64 0),.p (i64 0),.p (i64 0),.p (i64 0),.p (i64 0),.p (.s (.pointer none)),.p (.s (.pointer none)),.p (i64 0)]) parts).map zu:=fun _=>zB (by kernel_rfl) znc
theorem zzf:Tryz.prog.cellsOf 151=1:=by kernel_rfl
theorem zzg:zU Tryz.prog 151=some ([.s (.map none)]):=by kernel_rfl
theorem zzh:Tryz.prog.cellsOf 152=1:=by kernel_rfl
theorem zzi:zU Tryz.prog 152=some ([.s .nilFunc]):=by kernel_rfl
theorem zzj:Tryz.prog.cellsOf 154=2:=by kernel_rfl
theorem znd:zU Tryz.prog 154=some ([.s (.pointer none),i64 0]):=by kernel_rfl
theorem zzk : ∀ parts,yf Tryz.prog 154 parts=(yA (fun i=>[some (0,1),some (1,1)][i]?.join) ([.p (.s (.pointer none)),.p (i64 0)]) parts).map zu:=fun _=>zB (by kernel_rfl) znd
theorem zzl:Tryz.prog.cellsOf 175=1:=by kernel_rfl
theorem zzm:Tryz.prog.cellsOf 176=2:=by kernel_rfl
theorem zne:zU Tryz.prog 176=some ([.s .nilFunc,i64 0]):=by kernel_rfl
theorem zzn : ∀ parts,yf Tryz.prog 176 parts=(yA (fun i=>[some (0,1),some (1,1)][i]?.join) ([.p (.s .nilFunc),.p (i64 0)]) parts).map zu:=fun _=>zB (by kernel_rfl) zne
theorem zzo:Tryz.prog.cellsOf 177=8:=by kernel_rfl
theorem znf:zU Tryz.prog 177=some ([.s .nilFunc,i64 0,.s .nilFunc,i64 0,.s .nilFunc,i64 0,.s .nilFunc,i64 0]):=by kernel_rfl
theorem zzp : ∀ parts,yf Tryz.prog 177 parts=(yA (fun i=>some (i*2,2)) ([.p (.s .nilFunc),.p (i64 0),.p (.s .nilFunc),.p (i64 0),.p (.s .nilFunc),.p (i64 0),.p (.s .nilFunc),.p (i64 0)]) parts).map zu:=fun _=>zhL (by kernel_rfl) znf
theorem zng:zU Tryz.prog 192=some (List.replicate 16 (i64 0)):=by kernel_rfl
theorem znh : ∀ parts,yf Tryz.prog 192 parts=(yA (fun i=>some (i*4,4)) ((List.replicate 16 (i64 0)).map .p) parts).map zu:=fun _=>zhL (by kernel_rfl) zng
theorem zzq:Tryz.prog.cellsOf 195=6:=by kernel_rfl
theorem zni:zU Tryz.prog 195=some ([i64 0,i64 0,i64 0,i64 0,.s (.pointer none),.s (.pointer none)]):=by kernel_rfl
theorem zzr : ∀ parts,yf Tryz.prog 195 parts=(yA (fun i=>[some (0,4),some (4,1),some (5,1)][i]?.join) ([.p (i64 0),.p (i64 0),.p (i64 0),.p (i64 0),.p (.s (.pointer none)),.p (.s (.pointer none))]) parts).map zu:=fun _=>zB (by kernel_rfl) zni
theorem zzs:Tryz.prog.cellsOf 202=2:=by kernel_rfl
theorem znj:zU Tryz.prog 202=some ([i64 0,i64 0]):=by kernel_rfl
theorem zzt : ∀ parts,yf Tryz.prog 202 parts=(yA (fun i=>[some (0,1),some (1,1)][i]?.join) ([.p (i64 0),.p (i64 0)]) parts).map zu:=fun _=>zB (by kernel_rfl) znj
theorem zDe:enters Tryz.prog 8=true:=by kernel_rfl
theorem zzu:enters Tryz.prog 10=true:=by kernel_rfl
theorem zzv:enters Tryz.prog 12=true:=by kernel_rfl
theorem zzw:enters Tryz.prog 13=true:=by kernel_rfl
theorem zzx:enters Tryz.prog 14=true:=by kernel_rfl
theorem zzy:enters Tryz.prog 15=true:=by kernel_rfl
theorem zzz:enters Tryz.prog 16=true:=by kernel_rfl
theorem zzA:enters Tryz.prog 17=true:=by kernel_rfl
theorem zzB:enters Tryz.prog 19=true:=by kernel_rfl
theorem zzC:enters Tryz.prog 20=true:=by kernel_rfl
theorem zzD:enters Tryz.prog 21=true:=by kernel_rfl
theorem zzE:enters Tryz.prog 22=true:=by kernel_rfl
theorem zzF:enters Tryz.prog 23=true:=by kernel_rfl
theorem zzG:enters Tryz.prog 24=true:=by kernel_rfl
theorem zzH:enters Tryz.prog 25=true:=by kernel_rfl
theorem zzI:enters Tryz.prog 26=true:=by kernel_rfl
theorem zzJ:enters Tryz.prog 27=true:=by kernel_rfl
theorem zzK:enters Tryz.prog 28=true:=by kernel_rfl
theorem zzL:enters Tryz.prog 29=true:=by kernel_rfl
theorem zzM:enters Tryz.prog 32=true:=by kernel_rfl
theorem zzN:enters Tryz.prog 33=true:=by kernel_rfl
theorem zzO:enters Tryz.prog 34=true:=by kernel_rfl
theorem zzP:enters Tryz.prog 35=true:=by kernel_rfl
theorem zzQ:enters Tryz.prog 36=true:=by kernel_rfl
theorem zzR:enters Tryz.prog 37=true:=by kernel_rfl
theorem zzS:enters Tryz.prog 38=true:=by kernel_rfl
theorem zzT:enters Tryz.prog 39=true:=by kernel_rfl
theorem zzU:enters Tryz.prog 40=true:=by kernel_rfl
theorem zzV:enters Tryz.prog 41=true:=by kernel_rfl
theorem zzW:enters Tryz.prog 42=true:=by kernel_rfl
theorem zzX:enters Tryz.prog 43=true:=by kernel_rfl
theorem zzY:enters Tryz.prog 44=true:=by kernel_rfl
theorem zzZ:enters Tryz.prog 50=true:=by kernel_rfl
theorem zz0:enters Tryz.prog 51=true:=by kernel_rfl
theorem zz1:enters Tryz.prog 52=true:=by kernel_rfl
theorem zz2:enters Tryz.prog 53=true:=by kernel_rfl
theorem zz3:enters Tryz.prog 54=true:=by kernel_rfl
theorem zz4:enters Tryz.prog 55=true:=by kernel_rfl
theorem zz5:enters Tryz.prog 56=true:=by kernel_rfl
theorem zz6:enters Tryz.prog 57=true:=by kernel_rfl
theorem zz7:enters Tryz.prog 58=true:=by kernel_rfl
theorem zz8:enters Tryz.prog 59=true:=by kernel_rfl
theorem zz9:enters Tryz.prog 60=true:=by kernel_rfl
theorem zAa:enters Tryz.prog 61=true:=by kernel_rfl
theorem zAb:enters Tryz.prog 62=true:=by kernel_rfl
theorem zAc:enters Tryz.prog 63=true:=by kernel_rfl
theorem zAd:enters Tryz.prog 64=true:=by kernel_rfl
theorem zAe:enters Tryz.prog 65=true:=by kernel_rfl
theorem zAf:enters Tryz.prog 66=true:=by kernel_rfl
theorem zAg:enters Tryz.prog 67=true:=by kernel_rfl
theorem zAh:enters Tryz.prog 68=true:=by kernel_rfl
theorem zAi:enters Tryz.prog 69=true:=by kernel_rfl
theorem zAj:enters Tryz.prog 70=true:=by kernel_rfl
theorem zAk:enters Tryz.prog 77=true:=by kernel_rfl
theorem zAl:enters Tryz.prog 78=true:=by kernel_rfl
theorem zAm:enters Tryz.prog 79=true:=by kernel_rfl
theorem zAn:enters Tryz.prog 80=true:=by kernel_rfl
theorem zAo:enters Tryz.prog 81=true:=by kernel_rfl
theorem zAp:enters Tryz.prog 82=true:=by kernel_rfl
theorem zAq:enters Tryz.prog 83=true:=by kernel_rfl
theorem zAr:enters Tryz.prog 84=true:=by kernel_rfl
theorem zAs:enters Tryz.prog 85=true:=by kernel_rfl
theorem zAt:enters Tryz.prog 86=true:=by kernel_rfl
theorem zAu:enters Tryz.prog 87=true:=by kernel_rfl
theorem zAv:enters Tryz.prog 88=true:=by kernel_rfl
theorem zAw:enters Tryz.prog 89=true:=by kernel_rfl
theorem zAx:enters Tryz.prog 90=true:=by kernel_rfl
theorem zAy:enters Tryz.prog 91=true:=by kernel_rfl
theorem zAz:enters Tryz.prog 92=true:=by kernel_rfl
theorem zAA:enters Tryz.prog 93=true:=by kernel_rfl
theorem zAB:enters Tryz.prog 94=true:=by kernel_rfl
theorem zAC:enters Tryz.prog 95=true:=by kernel_rfl
theorem zAD:enters Tryz.prog 96=true:=by kernel_rfl
theorem zAE:enters Tryz.prog 97=true:=by kernel_rfl
theorem zAF:enters Tryz.prog 98=true:=by kernel_rfl
theorem zAG:enters Tryz.prog 99=true:=by kernel_rfl
theorem zuQ:enters Tryz.prog 100=true:=by kernel_rfl
theorem zuR:enters Tryz.prog 101=true:=by kernel_rfl
theorem zuS:enters Tryz.prog 102=true:=by kernel_rfl
theorem zuT:enters Tryz.prog 103=true:=by kernel_rfl
theorem zuU:enters Tryz.prog 108=true:=by kernel_rfl
theorem zuV:enters Tryz.prog 109=true:=by kernel_rfl
theorem zuW:enters Tryz.prog 110=true:=by kernel_rfl
theorem zuX:enters Tryz.prog 111=true:=by kernel_rfl
theorem zuY:enters Tryz.prog 112=true:=by kernel_rfl
theorem zuZ:enters Tryz.prog 113=true:=by kernel_rfl
theorem zu0:enters Tryz.prog 117=true:=by kernel_rfl
theorem zu1:enters Tryz.prog 118=true:=by kernel_rfl
theorem zu2:enters Tryz.prog 119=true:=by kernel_rfl
theorem zu3:enters Tryz.prog 120=true:=by kernel_rfl
theorem zu4:enters Tryz.prog 121=true:=by kernel_rfl
theorem zu5:enters Tryz.prog 123=true:=by kernel_rfl
theorem zu6:enters Tryz.prog 124=true:=by kernel_rfl
theorem zu7:enters Tryz.prog 125=true:=by kernel_rfl
theorem zu8:enters Tryz.prog 126=true:=by kernel_rfl
theorem zu9:enters Tryz.prog 130=true:=by kernel_rfl
theorem zva:enters Tryz.prog 131=true:=by kernel_rfl
theorem zvb:enters Tryz.prog 132=true:=by kernel_rfl
theorem zvc:enters Tryz.prog 133=true:=by kernel_rfl
theorem zvd:enters Tryz.prog 134=true:=by kernel_rfl
theorem zve:enters Tryz.prog 135=true:=by kernel_rfl
theorem zvf:enters Tryz.prog 136=true:=by kernel_rfl
theorem zvg:enters Tryz.prog 137=true:=by kernel_rfl
theorem zvh:enters Tryz.prog 138=true:=by kernel_rfl
theorem zvi:enters Tryz.prog 139=true:=by kernel_rfl
theorem zvj:enters Tryz.prog 140=true:=by kernel_rfl
theorem zvk:enters Tryz.prog 141=true:=by kernel_rfl
theorem zvl:enters Tryz.prog 142=true:=by kernel_rfl
theorem zvm:enters Tryz.prog 143=true:=by kernel_rfl
theorem zvn:enters Tryz.prog 151=true:=by kernel_rfl
theorem zvo:enters Tryz.prog 152=true:=by kernel_rfl
theorem zvp:enters Tryz.prog 153=true:=by kernel_rfl
theorem zvq:enters Tryz.prog 154=true:=by kernel_rfl
theorem zvr:enters Tryz.prog 155=true:=by kernel_rfl
theorem zvs:enters Tryz.prog 156=true:=by kernel_rfl
theorem zvt:enters Tryz.prog 157=true:=by kernel_rfl
theorem zvu:enters Tryz.prog 158=true:=by kernel_rfl
theorem zvv:enters Tryz.prog 159=true:=by kernel_rfl
theorem zvw:enters Tryz.prog 160=true:=by kernel_rfl
theorem zvx:enters Tryz.prog 161=true:=by kernel_rfl
theorem zvy:enters Tryz.prog 162=true:=by kernel_rfl
theorem zvz:enters Tryz.prog 163=true:=by kernel_rfl
theorem zvA:enters Tryz.prog 164=true:=by kernel_rfl
theorem zvB:enters Tryz.prog 165=false:=by kernel_rfl
theorem zDf : ∀ args H, zcS Tryz.prog 165 args H = vH (zki "math/bits.Sub64" args) H := fun _ _ => zmy (by kernel_rfl)
theorem zvC:enters Tryz.prog 166=true:=by kernel_rfl
theorem zvD:enters Tryz.prog 167=true:=by kernel_rfl
theorem zvE:enters Tryz.prog 168=true:=by kernel_rfl
theorem zvF:enters Tryz.prog 169=true:=by kernel_rfl
theorem zvG:enters Tryz.prog 170=true:=by kernel_rfl
theorem zqt:zbz Tryz.prog 130=false:=by kernel_rfl
theorem zsC:zhh Tryz.prog 3=true:=by kernel_rfl
theorem zjz:zaZ Tryz.prog 128=some (.p (.agg [str ByteArray.empty,bo false,i64 0,i64 0])):=by kernel_rfl
theorem zqu:zbz Tryz.prog 137=false:=by kernel_rfl
theorem zjA:zaZ Tryz.prog 136=some (.p (.agg [i64 0,bo false,.s .nilFunc])):=by kernel_rfl
theorem zqv:zbz Tryz.prog 140=true:=by kernel_rfl
theorem znk:zaZ Tryz.prog 89=some (.p (.s (.pointer none))):=by kernel_rfl
theorem zqw:zbz Tryz.prog 151=true:=by kernel_rfl
theorem zkV:zaZ Tryz.prog 3=some (.p (i64 0)):=by kernel_rfl
theorem zqx:zbz Tryz.prog 190=false:=by kernel_rfl
theorem follows:Tryz.prog.follows .mixedOrders=true:=by kernel_rfl
attribute [go_sem] cells2 zE1 zE2 zE3 zE4 cells3 zE5 zE6 zE7 cells4 bytes4 zCG zE8 zE9 cells5 zFa zFb cells9 zFc cells22 cells24 zyX zsq zCH zyY cells27 bytes27 zCI cells30 zCJ cells32 zsr zCK cells38 cells39 cells41 zss zCL cells43 zCM cells46 zyZ cells53 zCN zCO zCP zCQ cells55 zy0 zCR zCS zCT zCU zst zCV zsu zCW zCX zsv zCY zy1 zCZ zsw zC0 zy2 zsx zC1 zC2 zC3 zC4 zsy zC5 zC6 zC7 zsz zC8 cells85 zC9 zDa zDb zDc zDd zy3 zm6 zsA zy4 zm7 zy5 zy6 zy7 zy8 zy9 zm8 zza zzb zm9 zzc zhW zkU zna zzd znb zsB znc zze zzf zzg zzh zzi zzj znd zzk zzl zzm zne zzn zzo znf zzp zng znh zzq zni zzr zzs znj zzt zDe zzu zzv zzw zzx zzy zzz zzA zzB zzC zzD zzE zzF zzG zzH zzI zzJ zzK zzL zzM zzN zzO zzP zzQ zzR zzS zzT zzU zzV zzW zzX zzY zzZ zz0 zz1 zz2 zz3 zz4 zz5 zz6 zz7 zz8 zz9 zAa zAb zAc zAd zAe zAf zAg zAh zAi zAj zAk zAl zAm zAn zAo zAp zAq zAr zAs zAt zAu zAv zAw zAx zAy zAz zAA zAB zAC zAD zAE zAF zAG zuQ zuR zuS zuT zuU zuV zuW zuX zuY zuZ zu0 zu1 zu2 zu3 zu4 zu5 zu6 zu7 zu8 zu9 zva zvb zvc zvd zve zvf zvg zvh zvi zvj zvk zvl zvm zvn zvo zvp zvq zvr zvs zvt zvu zvv zvw zvx zvy zvz zvA zvB zDf zvC zvD zvE zvF zvG zqt zsC zjz zqu zjA zqv znk zqw zkV zqx
attribute [go_sem] Tryz.underlying1 Tryz.underlying2 Tryz.underlying3 Tryz.underlying4 Tryz.underlying5 Tryz.underlying6 Tryz.underlying7 Tryz.underlying8 Tryz.underlying9 Tryz.underlying10 Tryz.underlying11 Tryz.underlying12 Tryz.underlying13 Tryz.underlying14 Tryz.underlying15 Tryz.underlying16 Tryz.underlying17 Tryz.underlying18 Tryz.underlying19 Tryz.underlying20 Tryz.underlying21 Tryz.underlying22 Tryz.underlying23 Tryz.underlying24 Tryz.underlying25 Tryz.underlying26 Tryz.underlying27 Tryz.underlying28 Tryz.underlying29 Tryz.underlying30 Tryz.underlying31 Tryz.underlying32 Tryz.underlying33 Tryz.underlying35 Tryz.underlying36 Tryz.underlying37 Tryz.underlying38 Tryz.underlying39 Tryz.underlying40 Tryz.underlying41 Tryz.underlying42 Tryz.underlying43 Tryz.underlying45 Tryz.underlying46 Tryz.underlying48 Tryz.underlying49 Tryz.underlying50 Tryz.underlying51 Tryz.underlying52 Tryz.underlying53 Tryz.underlying54 Tryz.underlying55 Tryz.underlying56 Tryz.underlying58 Tryz.underlying60 Tryz.underlying61 Tryz.underlying62 Tryz.underlying63 Tryz.underlying64 Tryz.underlying65 Tryz.underlying66 Tryz.underlying67 Tryz.underlying68 Tryz.underlying69 Tryz.underlying70 Tryz.underlying71 Tryz.underlying72 Tryz.underlying73 Tryz.underlying74 Tryz.underlying75 Tryz.underlying76 Tryz.underlying77 Tryz.underlying78 Tryz.underlying79 Tryz.underlying80 Tryz.underlying82 Tryz.underlying83 Tryz.underlying84 Tryz.underlying85 Tryz.underlying86 Tryz.underlying87 Tryz.underlying88 Tryz.underlying89 Tryz.underlying90 Tryz.underlying91 Tryz.underlying92 Tryz.underlying93 Tryz.underlying94 Tryz.underlying95 Tryz.underlying96 Tryz.underlying97 Tryz.underlying98 Tryz.underlying99 Tryz.underlying100 Tryz.underlying101 Tryz.underlying102 Tryz.underlying103 Tryz.underlying104 Tryz.underlying105 Tryz.underlying106 Tryz.underlying107 Tryz.underlying108 Tryz.underlying110 Tryz.underlying111 Tryz.underlying112 Tryz.underlying113 Tryz.underlying114 Tryz.underlying115 Tryz.underlying116 Tryz.underlying117 Tryz.underlying118 Tryz.underlying119 Tryz.underlying120 Tryz.underlying121 Tryz.underlying122 Tryz.underlying123 Tryz.underlying124 Tryz.underlying125 Tryz.underlying126 Tryz.underlying127 Tryz.underlying128 Tryz.underlying130 Tryz.underlying131 Tryz.underlying132 Tryz.underlying133 Tryz.underlying134 Tryz.underlying135 Tryz.underlying136 Tryz.underlying137 Tryz.underlying138 Tryz.underlying140 Tryz.underlying141 Tryz.underlying142 Tryz.underlying143 Tryz.underlying144 Tryz.underlying145 Tryz.underlying146 Tryz.underlying147 Tryz.underlying148 Tryz.underlying149 Tryz.underlying150 Tryz.underlying151 Tryz.underlying152 Tryz.underlying153 Tryz.underlying154 Tryz.underlying155 Tryz.underlying156 Tryz.underlying157 Tryz.underlying158 Tryz.underlying159 Tryz.underlying160 Tryz.underlying161 Tryz.underlying162 Tryz.underlying164 Tryz.underlying165 Tryz.underlying166 Tryz.underlying167 Tryz.underlying168 Tryz.underlying169 Tryz.underlying170 Tryz.underlying172 Tryz.underlying173 Tryz.underlying174 Tryz.underlying175 Tryz.underlying176 Tryz.underlying177 Tryz.underlying178 Tryz.underlying179 Tryz.underlying180 Tryz.underlying181 Tryz.underlying182 Tryz.underlying183 Tryz.underlying184 Tryz.underlying185 Tryz.underlying186 Tryz.underlying187 Tryz.underlying188 Tryz.underlying189 Tryz.underlying190 Tryz.underlying191 Tryz.underlying192 Tryz.underlying193 Tryz.underlying194 Tryz.underlying195 Tryz.underlying196 Tryz.underlying197 Tryz.underlying198 Tryz.underlying199 Tryz.underlying200 Tryz.underlying201 Tryz.underlying202 Tryz.underlying203 Tryz.underlying204 Tryz.underlying205 Tryz.underlying206 Tryz.underlying207 Tryz.underlying208 Tryz.underlying209 Tryz.underlying211 Tryz.underlying212 Tryz.underlying213 Tryz.underlying214 Tryz.underlying215 Tryz.underlying216 Tryz.underlying217 Tryz.underlying218 Tryz.underlying219 Tryz.underlying220 Tryz.underlying221 Tryz.underlying222 Tryz.underlying223 Tryz.underlying224 Tryz.underlying225 Tryz.underlying226 Tryz.underlying227 Tryz.underlying228 Tryz.underlying229

end Go.Proofs.YthaoifcebimkfaaGreatDoor

namespace Go.Proofs.YthaoifcebimkfaaGreatDoor
open Go Go.AL

abbrev U:=BitVec 64
abbrev pp:U:=18446744069414584321#64
abbrev two32:U:=4294967296#64
abbrev eps:U:=4294967295#64

def zcw (x:U):U:=x % 18446744069414584321#64
def zbC (a b:U):U:=if 18446744069414584321#64 - b≤a then a - (18446744069414584321#64 - b) else a+b
def zhX (a:U):U:=zbC (zcw (a % 4294967296#64*4294967296#64)) (zcw (a / 4294967296#64*4294967295#64))
def znl (a b:U):U:=zbC (zcw (a % 4294967296#64*b)) (zhX (zcw (a / 4294967296#64*b)))
def zeQ (a b:U):U:=zbC (znl a (b % 4294967296#64)) (zhX (znl a (b / 4294967296#64)))
def valid (a:U):Bool:=decide (a < 18446744069414584321#64)

def zqy (x:U):U:=if 18446744069414584321#64≤x then x - 18446744069414584321#64 else x
def zDg (a b:U):U:=if 2 ^ 64≤a.toNat+b.toNat ∨ 18446744069414584321#64≤a+b then a+b - 18446744069414584321#64 else a+b
def zvH (a b:U):U:=if a.toNat < b.toNat then a - b+18446744069414584321#64 else a - b
def zjB (x y:U):U :=
 let t:=(x >>> 32)*(y &&& 4294967295#64)+((x &&& 4294967295#64)*(y &&& 4294967295#64)) >>> 32
 (x >>> 32)*(y >>> 32)+t >>> 32+((t &&& 4294967295#64)+(x &&& 4294967295#64)*(y >>> 32)) >>> 32
def zGI (a b:U):U:=zDg (zvH (zqy (a*b)) (zjB a b >>> 32)) (zqy ((zjB a b &&& 4294967295#64)*4294967295#64))

theorem zGJ:(18446744069414584321#64:U)≠0#64:=by decide
theorem zhY:(4294967296#64:U)≠0#64:=by decide

theorem zvI {c:Prop} [Decidable c]:decide (0#64 < if c then 1#64 else 0#64)=decide c:=by
 by_cases h:c
 · simp [h]
 · simp [h]

section walks
variable {G:Globs} (a b:U) (H:Hp) (R:AV → Hp → Prop)

theorem za1 (h:R (.p (zg (zcw a))) H):ACall Tryz.prog G 21 [.p (zg a)] H R:=by
 refine ACall.of_run (raw:=[]) Tryz.func21 rfl Tryz.ntmps21 (by simp) fun hbel => ?_
 have h1:=zGJ;refine .qt rfl ?_;simp (disch:=first|exact za|fail) only [go_sem,seval];refine .qt rfl ?_;simp (disch:=first|exact za|fail) only [go_sem,seval];refine .qr rfl Tryz.func21 (by rw [Tryz.results21]) ?_;simp (disch:=first|exact za|fail) only [go_sem,seval];exact h

theorem zaD (h:R (.p (zg (zbC a b))) H):ACall Tryz.prog G 64 [.p (zg a),.p (zg b)] H R:=by
 refine ACall.of_run (raw:=[]) Tryz.func64 rfl Tryz.ntmps64 (by simp) fun hbel => ?_
 unfold zbC at h;refine .qt rfl ?_;simp (disch:=first|exact za|fail) only [go_sem,seval];refine .qt rfl ?_;simp (disch:=first|exact za|fail) only [go_sem,seval];refine .q ?_;refine .ifB (by simp (disch:=first|exact za|fail) only [go_sem,seval];rfl) (fun hc => ?_) (fun hc => ?_)
 · rw [if_pos (of_decide_eq_true hc)] at h;refine .qt rfl ?_;simp (disch:=first|exact za|fail) only [go_sem,seval];refine .qr rfl Tryz.func64 (by rw [Tryz.results64]) ?_;simp (disch:=first|exact za|fail) only [go_sem,seval];exact h
 · rw [if_neg (of_decide_eq_false hc)] at h;refine .qt rfl ?_;simp (disch:=first|exact za|fail) only [go_sem,seval];refine .qr rfl Tryz.func64 (by rw [Tryz.results64]) ?_;simp (disch:=first|exact za|fail) only [go_sem,seval];exact h

theorem zgn (h:R (.p (zg (zhX a))) H):ACall Tryz.prog G 167 [.p (zg a)] H R:=by
 refine ACall.of_run (raw:=[]) Tryz.func167 rfl Tryz.ntmps167 (by simp) fun hbel => ?_
 have h1:=zhY;refine .qt rfl ?_;simp (disch:=first|exact za|fail) only [go_sem,seval];refine .qt rfl ?_;simp (disch:=first|exact za|fail) only [go_sem,seval];refine .qt rfl ?_;simp (disch:=first|exact za|fail) only [go_sem,seval];refine CallK.of (fun R h=>za1 _ _ R h) ?_;simp (disch:=first|exact za|fail) only [go_sem,seval];refine CallK.of (fun R h=>za1 _ _ R h) ?_;simp (disch:=first|exact za|fail) only [go_sem,seval];refine CallK.of (fun R h=>zaD _ _ _ R h) ?_;simp (disch:=first|exact za|fail) only [go_sem,seval];refine .qr rfl Tryz.func167 (by rw [Tryz.results167]) ?_;simp (disch:=first|exact za|fail) only [go_sem,seval];exact h

theorem zhZ (h:R (.p (zg (znl a b))) H):ACall Tryz.prog G 166 [.p (zg a),.p (zg b)] H R:=by
 refine ACall.of_run (raw:=[]) Tryz.func166 rfl Tryz.ntmps166 (by simp) fun hbel => ?_
 have h1:=zhY;refine .qt rfl ?_;simp (disch:=first|exact za|fail) only [go_sem,seval];refine .qt rfl ?_;simp (disch:=first|exact za|fail) only [go_sem,seval];refine CallK.of (fun R h=>za1 _ _ R h) ?_;simp (disch:=first|exact za|fail) only [go_sem,seval];refine CallK.of (fun R h=>za1 _ _ R h) ?_;simp (disch:=first|exact za|fail) only [go_sem,seval];refine CallK.of (fun R h=>zgn _ _ R h) ?_;simp (disch:=first|exact za|fail) only [go_sem,seval];refine CallK.of (fun R h=>zaD _ _ _ R h) ?_;simp (disch:=first|exact za|fail) only [go_sem,seval];refine .qr rfl Tryz.func166 (by rw [Tryz.results166]) ?_;simp (disch:=first|exact za|fail) only [go_sem,seval];exact h

theorem zek (h:R (.p (zg (zeQ a b))) H):ACall Tryz.prog G 160 [.p (zg a),.p (zg b)] H R:=by
 refine ACall.of_run (raw:=[]) Tryz.func160 rfl Tryz.ntmps160 (by simp) fun hbel => ?_
 have h1:=zhY;refine .qt rfl ?_;simp (disch:=first|exact za|fail) only [go_sem,seval];refine .qt rfl ?_;simp (disch:=first|exact za|fail) only [go_sem,seval];refine CallK.of (fun R h=>zhZ _ _ _ R h) ?_;simp (disch:=first|exact za|fail) only [go_sem,seval];refine CallK.of (fun R h=>zhZ _ _ _ R h) ?_;simp (disch:=first|exact za|fail) only [go_sem,seval];refine CallK.of (fun R h=>zgn _ _ R h) ?_;simp (disch:=first|exact za|fail) only [go_sem,seval];refine CallK.of (fun R h=>zaD _ _ _ R h) ?_;simp (disch:=first|exact za|fail) only [go_sem,seval];refine .qr rfl Tryz.func160 (by rw [Tryz.results160]) ?_;simp (disch:=first|exact za|fail) only [go_sem,seval];exact h

theorem zcl (h:R (.p (bo (valid a))) H):ACall Tryz.prog G 152 [.p (zg a)] H R:=by
 refine ACall.of_run (raw:=[]) Tryz.func152 rfl Tryz.ntmps152 (by simp) fun hbel => ?_
 refine .qt rfl ?_;simp (disch:=first|exact za|fail) only [go_sem,seval];refine .qt rfl ?_;simp (disch:=first|exact za|fail) only [go_sem,seval];refine .qr rfl Tryz.func152 (by rw [Tryz.results152]) ?_;simp (disch:=first|exact za|fail) only [go_sem,seval];exact h


theorem zvJ (h:R (.p (zg (zqy a))) H):ACall Tryz.prog G 136 [.p (zg a)] H R:=by
 refine ACall.of_run (raw:=[]) Tryz.func136 rfl Tryz.ntmps136 (by simp) fun hbel => ?_
 unfold zqy at h;refine .qt rfl ?_;simp (disch:=first|exact za|fail) only [go_sem,seval];refine .qt rfl ?_;simp (disch:=first|exact za|fail) only [go_sem,seval];refine .q ?_;refine .ifB (by simp (disch:=first|exact za|fail) only [go_sem,seval];rfl) (fun hc => ?_) (fun hc => ?_)
 · rw [if_pos (of_decide_eq_true hc)] at h;refine .qt rfl ?_;simp (disch:=first|exact za|fail) only [go_sem,seval];refine .qt rfl ?_;simp (disch:=first|exact za|fail) only [go_sem,seval];refine .qr rfl Tryz.func136 (by rw [Tryz.results136]) ?_;simp (disch:=first|exact za|fail) only [go_sem,seval];exact h
 · rw [if_neg (of_decide_eq_false hc)] at h;refine .qt rfl ?_;simp (disch:=first|exact za|fail) only [go_sem,seval];refine .qr rfl Tryz.func136 (by rw [Tryz.results136]) ?_;simp (disch:=first|exact za|fail) only [go_sem,seval];exact h

theorem zvK (h:R (.p (zg (zvH a b))) H):ACall Tryz.prog G 158 [.p (zg a),.p (zg b)] H R:=by
 refine ACall.of_run (raw:=[]) Tryz.func158 rfl Tryz.ntmps158 (by simp) fun hbel => ?_
 unfold zvH at h;refine .qt rfl ?_;simp (disch:=first|exact za|fail) only [go_sem,seval];refine .qt rfl ?_;simp (disch:=first|exact za|fail) only [go_sem,seval];refine .qt rfl ?_;simp (disch:=first|exact za|fail) only [go_sem,seval,zvI];refine .q ?_;refine .ifB (by simp (disch:=first|exact za|fail) only [go_sem,seval];rfl) (fun hc => ?_) (fun hc => ?_)
 · rw [if_pos (of_decide_eq_true hc)] at h;refine .qt rfl ?_;simp (disch:=first|exact za|fail) only [go_sem,seval];refine .qt rfl ?_;simp (disch:=first|exact za|fail) only [go_sem,seval];refine .qr rfl Tryz.func158 (by rw [Tryz.results158]) ?_;simp (disch:=first|exact za|fail) only [go_sem,seval];exact h
 · rw [if_neg (of_decide_eq_false hc)] at h;refine .qt rfl ?_;simp (disch:=first|exact za|fail) only [go_sem,seval];refine .qr rfl Tryz.func158 (by rw [Tryz.results158]) ?_;simp (disch:=first|exact za|fail) only [go_sem,seval];exact h

theorem zqz (h:R (.tup [.p (zg (zjB a b)),.p (zg (a*b))]) H):ACall Tryz.prog G 170 [.p (zg a),.p (zg b)] H R:=by
 refine ACall.of_run (raw:=[]) Tryz.func170 rfl Tryz.ntmps170 (by simp) fun hbel => ?_
 refine .qt rfl ?_;simp (disch:=first|exact za|fail) only [go_sem,seval];refine .qt rfl ?_;simp (disch:=first|exact za|fail) only [go_sem,seval];refine .qt rfl ?_;simp (disch:=first|exact za|fail) only [go_sem,seval];refine .qt rfl ?_;simp (disch:=first|exact za|fail) only [go_sem,seval];refine .qt rfl ?_;simp (disch:=first|exact za|fail) only [go_sem,seval];refine .qt rfl ?_;simp (disch:=first|exact za|fail) only [go_sem,seval];refine .qt rfl ?_;simp (disch:=first|exact za|fail) only [go_sem,seval];refine .qt rfl ?_;simp (disch:=first|exact za|fail) only [go_sem,seval];refine .qt rfl ?_;simp (disch:=first|exact za|fail) only [go_sem,seval];refine .qt rfl ?_;simp (disch:=first|exact za|fail) only [go_sem,seval];refine .qt rfl ?_;simp (disch:=first|exact za|fail) only [go_sem,seval];refine .qt rfl ?_;simp (disch:=first|exact za|fail) only [go_sem,seval];refine .qr rfl Tryz.func170 (by rw [Tryz.results170]) ?_;simp (disch:=first|exact za|fail) only [go_sem,seval];exact h

end walks
end Go.Proofs.YthaoifcebimkfaaGreatDoor

namespace Go.Proofs.YthaoifcebimkfaaGreatDoor
open Go Go.AL

structure Gate where
 l:Int
 r:Int
 c:U
 a:U
 b:U
 d:U
 deriving DecidableEq

instance:Inhabited Gate:=⟨⟨0,0,0,0,0,0⟩⟩

structure Circ where
 inputs:Int
 layers:List (List Gate)
 sums:Int
 deriving DecidableEq

def zY (g:Gate):PV := .agg [i64 g.l,i64 g.r,zg g.c,zg g.a,zg g.b,zg g.d]
def za2 (c:Circ):PV := .agg [i64 c.inputs,.sl false 1 (pl (ym 6 zY) c.layers),i64 c.sums]
def gc (g:Gate):List AV:=[.p (i64 g.l),.p (i64 g.r),.p (zg g.c),.p (zg g.a),.p (zg g.b),.p (zg g.d)]
def cc (c:Circ):List AV:=[.p (i64 c.inputs),.p (.sl false 1 (pl (ym 6 zY) c.layers)),.p (i64 c.sums)]

section enc
variable {g:Gate} {c:Circ} {l:List Gate} {i s:Int} {x y z u:U}
theorem zFd:gc g=[.p (i64 g.l),.p (i64 g.r),.p (zg g.c),.p (zg g.a),.p (zg g.b),.p (zg g.d)]:=rfl
theorem zFe:cc c=[.p (i64 c.inputs),.p (.sl false 1 (pl (ym 6 zY) c.layers)),.p (i64 c.sums)]:=rfl
theorem zqA:(zY g).cells=[i64 g.l,i64 g.r,zg g.c,zg g.a,zg g.b,zg g.d]:=rfl
theorem zqB:(zY g).isAgg=true:=rfl
theorem zqC:(zY g).aggOf 0 6=zY g:=rfl
theorem zqD:(za2 c).aggOf 0 3=za2 c:=rfl
theorem znm:(AV.p (zY g)).isAggV=true:=rfl
theorem zvL:(zY g).weak=zY g:=rfl
theorem zqE:(zY g).weak1=zY g:=rfl
theorem znn:zh (.p (zY g))=some (gc g):=rfl
theorem zvM:PV.agg [i64 i,i64 s,zg x,zg y,zg z,zg u]=zY ⟨i,s,x,y,z,u⟩:=rfl
theorem zqF:zu [.p (i64 i),.p (i64 s),.p (zg x),.p (zg y),.p (zg z),.p (zg u)] = .p (zY ⟨i,s,x,y,z,u⟩):=rfl
theorem zqG {ls:List (List Gate)}:zu [.p (i64 i),.p (.sl false 1 (pl (ym 6 zY) ls)),.p (i64 s)] = .p (za2 ⟨i,ls,s⟩):=rfl
theorem zno {b:Bool}:zu [.p (i64 i),.p (.sl b 1 []),.p (i64 s)] = .p (.agg [i64 i,.sl b 1 [],i64 s]):=rfl
theorem znp {α v:Nat} {ls:List (List Gate)}:zu [.p (i64 i),.sl α v 1 (pl (ym 6 zY) ls),.p (i64 s)] = .p (za2 ⟨i,ls,s⟩):=rfl
theorem zAH:(⟨g.l,g.r,g.c,g.a,g.b,g.d⟩:Gate)=g:=rfl
theorem zqH:(za2 c).cells=[i64 c.inputs,.sl false 1 (pl (ym 6 zY) c.layers),i64 c.sums]:=rfl
theorem zqI:(za2 c).isAgg=true:=rfl
theorem znq:(AV.p (za2 c)).isAggV=true:=rfl
theorem zvN:(za2 c).weak=za2 c:=rfl
theorem zqJ:(za2 c).weak1=za2 c:=rfl
theorem znr:zh (.p (za2 c))=some (cc c):=rfl
theorem zvO {ls:List (List Gate)}:PV.agg [i64 i,.sl false 1 (pl (ym 6 zY) ls),i64 s]=za2 ⟨i,ls,s⟩:=rfl
theorem zqK:PV.agg [i64 i,.sl false 1 [],i64 s]=za2 ⟨i,[],s⟩:=rfl
theorem zAI:(⟨c.inputs,c.layers,c.sums⟩:Circ)=c:=rfl
theorem zAJ : ∀ y∈pl zY l,y.cells.length=6:=fun y hy=>by
 simp only [pl,List.mem_map] at hy
 obtain⟨x,_,rfl⟩:=hy
 rfl
end enc
attribute [go_sem] zqC zqD zFd zFe zqA zqB znm zvL zqE znn zvM zAH zqF zqG zno znp zqH zqI znq zvN zqJ znr zvO zqK zAI
def okG (g:Gate):Prop := -9223372036854775808≤g.l∧g.l≤9223372036854775807 ∧ -9223372036854775808≤g.r∧g.r≤9223372036854775807

theorem wf_i64 {n:Int} (h1 : -9223372036854775808≤n) (h2:n≤9223372036854775807):(Lit.int .i64 n).wf=true:=by
 simp only [Lit.wf,Bool.and_eq_true,decide_eq_true_eq]
 exact⟨h1,h2⟩
theorem wf_u64 (x:U):(Lit.int .u64 (x.toNat:Int)).wf=true:=by
 have:=x.isLt
 simp only [Lit.wf,Bool.and_eq_true,decide_eq_true_eq]
 exact⟨by show (0:Int)≤_;omega,by show _≤(18446744073709551615:Int);omega⟩

theorem zgo {P:Program} {t:TypeId} {k:IntKind} {n:Int} {d:Nat} (hu:P.underlying t=some (.int k)) (h:(Lit.int k n).wf=true):P.keyLits (d+1) t [.int k n]=some [.int k n]:=by
 unfold Program.keyLits;simp [hu,h]

theorem zjC (g:Gate) (h:okG g):Tryz.prog.keyLits 64 72 [.int .i64 g.l,.int .i64 g.r,.int .u64 g.c.toNat,.int .u64 g.a.toNat,.int .u64 g.b.toNat,.int .u64 g.d.toNat] =
 some [.int .i64 g.l,.int .i64 g.r,.int .u64 g.c.toNat,.int .u64 g.a.toNat,.int .u64 g.b.toNat,.int .u64 g.d.toNat]:=by
 obtain⟨h1,h2,h3,h4⟩:=h
 have i1 : ∀ n,(Lit.int .i64 n).wf=true → Tryz.prog.keyLits 63 3 [.int .i64 n]=some [.int .i64 n]:=fun n h=>zgo Tryz.underlying3 h
 have i2 : ∀ x:U,Tryz.prog.keyLits 63 53 [.int .u64 x.toNat]=some [.int .u64 x.toNat]:=fun x=>zgo Tryz.underlying53 (wf_u64 x)
 have h5:=i1 _ (wf_i64 h1 h2);have h6:=i1 _ (wf_i64 h3 h4);unfold Program.keyLits;simp only [Tryz.underlying72,zst];rw [if_pos ⟨rfl,by kernel_rfl⟩];simp only [List.mapM_cons,List.mapM_nil,cells3,cells53,List.drop_zero,List.drop_succ_cons,List.take_succ_cons,List.take_zero,h5,h6,i2,Option.pure_def,Option.bind_eq_bind,Option.bind_some,Option.map_some];rfl

theorem zsD {a b:Gate} (ha:okG a) (hb:okG b):zx Tryz.prog .eql 72 (.p (zY a)) (.p (zY b))=some (.p (bo (decide (a=b))))∧zx Tryz.prog .neq 72 (.p (zY a)) (.p (zY b))=some (.p (bo !decide (a=b))) :=
 zCD (by kernel_rfl) rfl rfl (zjC a ha) (zjC b hb) (by
  constructor
  · intro h
    obtain⟨a1,a2,a3,a4,a5,a6⟩:=a
    obtain⟨b1,b2,b3,b4,b5,b6⟩:=b
    simp only [List.cons.injEq,Lit.int.injEq,true_and,and_true] at h
    obtain⟨h1,h2,h3,h4,h5,h6⟩:=h
    have e : ∀ x y:U,(x.toNat:Int)=y.toNat → x=y:=fun x y h=>BitVec.eq_of_toNat_eq (by omega)
    rw [h1,h2,e _ _ h3,e _ _ h4,e _ _ h5,e _ _ h6]
  · intro h;rw [h])

def zer (g:Gate):Bool:=g.c != 0#64 || g.a != 0#64
def zcx (g:Gate):Bool:=g.c != 0#64 || g.b != 0#64
def zsE (g:Gate):Bool:=g.c == 0#64 && g.a == 0#64 && g.b == 0#64
def swp (g:Gate):Gate:=⟨g.r,g.l,g.c,g.b,g.a,g.d⟩

section walks
variable {G:Globs} (g:Gate) (H:Hp) (R:AV → Hp → Prop)


end walks
end Go.Proofs.YthaoifcebimkfaaGreatDoor

namespace Go.Proofs.YthaoifcebimkfaaGreatDoor
open Go Go.AL

structure Cnd where
 col:Int
 lo:Int
 hi:Int
 deriving DecidableEq
instance:Inhabited Cnd:=⟨⟨0,0,0⟩⟩
structure Qry where
 kind:Int
 col:Int
 k:Int
 fl:List (List Cnd)
 deriving DecidableEq

structure Cf where
 c:Int
 a:Int
 b:Int
 d:Int
 deriving DecidableEq
instance:Inhabited Cf:=⟨⟨0,0,0,0⟩⟩
structure Nd where
 k:Cf
 l:Nat
 r:Nat
 lv:Nat
 deriving DecidableEq
instance:Inhabited Nd:=⟨⟨default,0,0,0⟩⟩

def lev (s:List Nd) (n:Nat):Nat:=if n < 29 then 0 else (nth s (n - 29)).lv
def yF (s:List Nd) (k:Cf) (l r:Nat):Nat:=s.findIdx fun x=>decide (x.k=k∧x.l=l∧x.r=r)
abbrev BS:=Nat × List Nd
def addN (s:List Nd) (l r:Nat) (k:Cf):BS :=
 (29+yF s k l r,if yF s k l r < s.length then s else s++[⟨k,l,r,1+max (lev s l) (lev s r)⟩])
def prN (s:List Nd) (l r:Nat):BS:=addN s l r ⟨1,0,0,0⟩

def zf (c:Nat):Nat:=nth [5,9,17,21] c
def zN (c:Nat):Nat:=if c=0 ∨ c=2 then 4 else 8
def yC (c:Nat):Int:=if c=0 ∨ c=2 then 15 else 255
def bt (n i:Nat):Bool:=decide (n / 2 ^ i % 2=1)

def zkW (most one:Bool):Cf:=if most then if one then ⟨1,-1,0,1⟩ else ⟨-1,0,1,0⟩ else if one then ⟨1,0,0,0⟩ else ⟨-1,1,1,0⟩
def zbh (most:Bool) (n x i:Nat) (p:Option Nat × List Nd):Option Nat × List Nd :=
 match p.1 with
 | none=>if most then if bt n i then (none,p.2) else (some (addN p.2 x x ⟨0,-1,0,1⟩).1,(addN p.2 x x ⟨0,-1,0,1⟩).2)
  else if bt n i then (some x,p.2) else (none,p.2)
 | some g=>(some (addN p.2 x g (zkW most (bt n i))).1,(addN p.2 x g (zkW most (bt n i))).2)
def yO (most:Bool) (n c:Nat) (s:List Nd):Nat → Option Nat × List Nd
 | 0=>(none,s)
 | i+1=>zbh most n (zf c+i) i (yO most n c s i)
def zc3 (most:Bool) (n c:Nat) (s:List Nd):BS:=((yO most n c s (zN c)).1.getD 0,(yO most n c s (zN c)).2)

def mt1 (c:Cnd) (p:BS):BS:=if 0 < c.lo then prN (zc3 false c.lo.toNat c.col.toNat p.2).2 p.1 (zc3 false c.lo.toNat c.col.toNat p.2).1 else p
def mt2 (c:Cnd) (p:BS):BS:=if c.hi < yC c.col.toNat then prN (zc3 true c.hi.toNat c.col.toNat p.2).2 p.1 (zc3 true c.hi.toNat c.col.toNat p.2).1 else p
def zcy (l:List Cnd) (s:List Nd):Nat → BS
 | 0=>(4,s)
 | i+1=>mt2 (nth l i) (mt1 (nth l i) (zcy l s i))
def yD (l:List Cnd) (s:List Nd):BS:=zcy l s l.length

def zaP (uv:Nat):Cf:=nth [⟨1,-1,-1,1⟩,⟨-1,1,0,0⟩,⟨-1,0,1,0⟩,⟨1,0,0,0⟩] uv
def zdL (c v:Nat) (s:List Nd):BS :=
 let p:=addN s (zf c) (zf c+1) (zaP (v % 4))
 let q:=addN p.2 (zf c+2) (zf c+3) (zaP (v / 4))
 prN q.2 p.1 q.1
abbrev LBS:=List Nat × List Nd
def zaj (m c:Nat) (s:List Nd):Nat → LBS
 | 0=>([],s)
 | v+1 =>
  let p:=zaj m c s v
  let q:=zdL c v p.2
  let r:=prN q.2 m q.1
  (p.1++[r.1],r.2)
def zar (l:List Cnd) (c:Nat) (s:List Nd):LBS:=zaj (yD l s).1 c (yD l s).2 16
def zcz (c:Nat) (s:List Nd):Nat → BS
 | 0=>(c,s)
 | i+1=>prN (zcz c s i).2 (zcz c s i).1 c
def zF (q:Qry) (s:List Nd):LBS :=
 if q.kind=1 then ([(yD (nth q.fl 0) s).1],(yD (nth q.fl 0) s).2)
 else if q.kind=2 ∨ q.kind=3 then
  let m:=yD (nth q.fl 0) s
  let p:=zcz q.col.toNat m.2 (q.k - 1).toNat
  let r:=prN p.2 m.1 p.1
  ([r.1],r.2)
 else if q.kind=7 then
  let a:=zar (nth q.fl 0) 0 s
  let b:=zar (nth q.fl 1) 0 a.2
  (a.1++b.1,b.2)
 else zar (nth q.fl 0) q.col.toNat s

def z5 (c:Nat) (x:Cnd):Bool:=decide (x.col=c∧(0 < x.lo ∨ x.hi < yC c))
def zO (q:Qry) (c:Nat):Bool :=
 (q.fl.any fun l=>l.any (z5 c)) || (decide ((q.kind=4 ∨ q.kind=5 ∨ q.kind=6)∧q.col=c) || decide (q.kind=7∧c=0))

def chk (s:List Nd) (x:Nat):BS:=addN s x x ⟨1,-1,0,0⟩
structure ZS where
 o:List Nat
 sum:Nat
 s:List Nd
def zS (c:Nat) (k:Nat) (z:ZS):ZS :=
 let p:=chk z.s (zf c+k)
 if k=0 then ⟨z.o++[p.1],z.sum,p.2⟩
 else
  let q:=addN p.2 z.sum (zf c+k) ⟨0,1,2 ^ k,0⟩
  ⟨z.o++[p.1],q.1,q.2⟩
def zT (c:Nat) (p:LBS):Nat → ZS
 | 0=>⟨p.1,zf c,p.2⟩
 | k+1=>zS c k (zT c p k)
def zfn (c:Nat) (p:LBS):LBS :=
 let z:=zT c p (zN c)
 let r:=addN z.s z.sum c ⟨0,1,-1,0⟩
 (z.o++[r.1],r.2)
def zak (q:Qry) (s:List Nd):Nat → LBS
 | 0=>([(chk s 4).1],(chk s 4).2)
 | c+1=>if zO q c then zfn c (zak q s c) else zak q s c
def zan (q:Qry) (s:List Nd):LBS:=zak q s 4

def fi (n:Int):U:=if n < 0 then pp - BitVec.ofNat 64 (-n).toNat else BitVec.ofNat 64 n.toNat

structure LS where
 at':List ((Nat × Nat) × Nat)
 ls:List (List Gate)
def zay (n k:Nat) (g:Gate) (st:LS):Nat × LS :=
 ((nth st.ls k).length,⟨zbX (n,k+1) (nth st.ls k).length st.at',st.ls.set k (nth st.ls k++[g])⟩)
def need (S:List Nd):Nat → Nat → LS → Nat × LS
 | 0,n,st=>(n,st)
 | k+1,n,st =>
  match zM (n,k+1) st.at' with
  | some i=>(i,st)
  | none =>
   if lev S n < k+1 then
    let p:=need S k n st
    zay n k ⟨p.1,p.1,0,1,0,0⟩ p.2
   else
    let x:=nth S (n - 29)
    let p:=need S k x.l st
    let q:=need S k x.r p.2
    zay n k ⟨p.1,q.1,fi x.k.c,fi x.k.a,fi x.k.b,fi x.k.d⟩ q.2
def depth (S:List Nd):List Nat → Nat
 | []=>0
 | n :: l=>max (lev S n) (depth S l)
def y6 (S:List Nd) (d:Nat) (o:List Nat) (st:LS):Nat → List Gate × LS
 | 0=>([],st)
 | i+1 =>
  let p:=y6 S d o st i
  let q:=need S d (nth o i) p.2
  (p.1++[nth (nth q.2.ls (d - 1)) q.1],q.2)
def zbY (S:List Nd) (o:List Nat):List (List Gate) :=
 let d:=depth S o
 let p:=y6 S d o ⟨[],List.replicate d []⟩ o.length
 p.2.ls.set (d - 1) p.1
def yi (q:Qry):List Nat × List Nat × List Nd :=
 let a:=zF q []
 let b:=zan q a.2
 (a.1,b.1,b.2)
def zao (q:Qry):List (List Gate):=zbY (yi q).2.2 ((yi q).1++(yi q).2.1)
def vC (c:Cnd):Bool:=decide (0≤c.col∧c.col < 4∧0≤c.lo∧c.lo≤c.hi∧c.hi≤yC c.col.toNat)
def vF (l:List Cnd):Bool:=decide (l.length≤3) && l.all vC
def yt (kind:Int):Int:=if kind=3 then 6 else if kind=6 then 65536 else 0
def zbZ (kind:Int):Bool:=decide (2≤kind∧kind≤6)
def vQ (q:Qry):Bool :=
 decide (1≤q.kind∧q.kind≤7) && (decide (0≤q.col∧q.col < 4) && ((zbZ q.kind || decide (q.col=0)) &&
  (decide (min (yt q.kind) 1≤q.k∧q.k≤yt q.kind) && (decide (q.fl.length=if q.kind=7 then 2 else 1) && q.fl.all vF))))
def ya (q:Qry):Int:=if vQ q then if 4≤q.kind∧q.kind≤6∧(q.col=1 ∨ q.col=3) then 140 else 0 else 1
def zh0 (l:List (List Gate)):Bool:=l.any fun x=>decide (64 < x.length)
def yM (q:Qry):Circ × Int :=
 if ya q=0 then if zh0 (zao q) then (⟨0,[],0⟩,2) else (⟨29,zao q,(yi q).1.length⟩,0)
 else (⟨0,[],0⟩,ya q)
end Go.Proofs.YthaoifcebimkfaaGreatDoor

namespace Go.Proofs.YthaoifcebimkfaaGreatDoor
open Go Go.AL

def Exn (s t:List Nd):Prop := ∃ u,t=s++u
theorem Exn.refl (s:List Nd):Exn s s:=⟨[],by simp⟩
theorem Exn.trans {s t u:List Nd} (h:Exn s t) (h':Exn t u):Exn s u:=by
 obtain⟨a,rfl⟩:=h
 obtain⟨b,rfl⟩:=h'
 exact⟨a++b,by simp⟩
theorem Exn.len {s t:List Nd} (h:Exn s t):s.length≤t.length:=by
 obtain⟨a,rfl⟩:=h
 simp
theorem Exn.nth {s t:List Nd} (h:Exn s t) {i:Nat} (hi:i < s.length):nth t i=nth s i:=by
 obtain⟨a,rfl⟩:=h
 simp [AL.nth,List.getElem?_append_left hi]
theorem Exn.lev {s t:List Nd} (h:Exn s t) {n:Nat} (hn:n < 29+s.length):lev t n=lev s n:=by
 unfold Proofs.YthaoifcebimkfaaGreatDoor.lev
 split
 · rfl
 · rw [h.nth (by omega)]

structure Rep {α:Type} (n:Nat) (f:List Nd → α × List Nd):Prop where
 ext : ∀ s,Exn s (f s).2
 len : ∀ s,(f s).2.length≤s.length+n
 rep : ∀ s t,Exn (f s).2 t → f t=((f s).1,t)

theorem zgY (s:List Nd) (k:Cf) (l r:Nat):yF s k l r≤s.length:=List.findIdx_le_length
theorem zAK {s u:List Nd} {k:Cf} {l r:Nat} (h:yF s k l r < s.length):yF (s++u) k l r=yF s k l r:=by
 unfold yF at h ⊢;rw [List.findIdx_append,if_pos h]
theorem zAL {s u:List Nd} {k:Cf} {l r v:Nat} (h : ¬ yF s k l r < s.length):yF (s++⟨k,l,r,v⟩ :: u) k l r=s.length:=by
 unfold yF at h ⊢;rw [List.findIdx_append,if_neg h];simp [List.findIdx_cons]

theorem zaQ (s:List Nd) (l r:Nat) (k:Cf):(addN s l r k).1=29+yF s k l r:=rfl
theorem zaf (s:List Nd) (l r:Nat) (k:Cf):(addN s l r k).2=if yF s k l r < s.length then s else s++[⟨k,l,r,1+max (lev s l) (lev s r)⟩]:=rfl
theorem yP (s:List Nd) (l r:Nat) (k:Cf):(addN s l r k).1 < 29+(addN s l r k).2.length:=by
 rw [zaQ,zaf]
 have:=zgY s k l r
 split
 · omega
 · simp;omega
theorem yk (l r:Nat) (k:Cf):Rep 1 fun s=>addN s l r k where
 ext s:=by
  show Exn s (addN s l r k).2
  rw [zaf]
  split
  · exact .refl s
  · exact⟨_,rfl⟩
 len s:=by
  show (addN s l r k).2.length≤_
  rw [zaf]
  split
  · omega
  · simp
 rep s t h:=by
  show addN t l r k=_
  simp only [zaf] at h
  have e:yF t k l r=yF s k l r∧yF s k l r < t.length:=by
   split at h
   · rename_i hp
     obtain⟨u,rfl⟩:=h
     exact⟨zAK hp,by simp;omega⟩
   · rename_i hp
     obtain⟨u,rfl⟩:=h
     have:=zgY s k l r
     refine⟨?_,by simp;omega⟩
     rw [List.append_assoc,List.singleton_append,zAL hp];omega
  refine Prod.ext ?_ ?_
  · rw [zaQ,e.1,zaQ]
  · rw [zaf,if_pos (by rw [e.1];exact e.2)]

theorem Rep.pure {α:Type} (x:α):Rep 0 fun s=>(x,s):=⟨fun s => .refl s,fun s=>by simp,fun s t _=>rfl⟩
theorem Rep.bind {α β:Type} {m n:Nat} {f:List Nd → α × List Nd} {g:α → List Nd → β × List Nd} (hf:Rep m f) (hg : ∀ x,Rep n (g x)):Rep (m+n) fun s=>g (f s).1 (f s).2 where
 ext s:=(hf.ext s).trans ((hg _).ext _)
 len s:=by have:=hf.len s;have:=(hg (f s).1).len (f s).2;show (g (f s).1 (f s).2).2.length≤_;omega
 rep s t h:=by
  have h1:f t=((f s).1,t):=hf.rep s t (((hg _).ext _).trans h);simp only [h1];exact (hg _).rep _ _ h
theorem Rep.more {α:Type} {m n:Nat} {f:List Nd → α × List Nd} (hf:Rep m f) (h:m≤n):Rep n f:=⟨hf.ext,fun s=>by have:=hf.len s;omega,hf.rep⟩
theorem Rep.map {α β:Type} {m:Nat} {f:List Nd → α × List Nd} (hf:Rep m f) (g:α → β):Rep m fun s=>(g (f s).1,(f s).2) :=
 hf.bind (n:=0) (g:=fun x s=>(g x,s)) fun x => .pure _
theorem Rep.loop {α:Type} {n:Nat} (x:α) (st:Nat → α × List Nd → α × List Nd) (T:List Nd → Nat → α × List Nd) (h0 : ∀ s,T s 0=(x,s)) (h1 : ∀ s i,T s (i+1)=st i (T s i)) (hs : ∀ i y,Rep n fun s=>st i (y,s)) :
 ∀ i,Rep (n*i) fun s=>T s i
 | 0=>by simp only [h0];exact .pure x
 | i+1=>by
  simp only [h1];exact (loop x st T h0 h1 hs i).bind (g:=fun y s=>st i (y,s)) (hs i)

theorem zc4 (l r:Nat):Rep 1 fun s=>prN s l r:=yk l r _
theorem zAM (most:Bool) (n x i:Nat) (o:Option Nat):Rep 1 fun s=>zbh most n x i (o,s):=by
 unfold zbh
 cases o with
 | none =>
  simp only
  split
  · split
    · exact (Rep.pure _).more (by omega)
    · exact (yk x x ⟨0,-1,0,1⟩).map some
  · split
    · exact (Rep.pure _).more (by omega)
    · exact (Rep.pure _).more (by omega)
 | some g=>exact (yk x g _).map some
theorem zh1 (most:Bool) (n c i:Nat):Rep i fun s=>yO most n c s i:=by
 have:=Rep.loop (n:=1) none (fun i p=>zbh most n (zf c+i) i p) (fun s i=>yO most n c s i) (fun _=>rfl) (fun _ _=>rfl) (fun i o=>zAM most n (zf c+i) i o) i
 rwa [Nat.one_mul] at this
theorem zag (c:Nat):zN c≤8:=by unfold zN;split<;>omega
theorem zcA (most:Bool) (n c:Nat):Rep 8 fun s=>zc3 most n c s:=((zh1 most n c (zN c)).map fun o=>o.getD 0).more (zag c)
theorem zkX (c:Cnd) (x:Nat):Rep 9 fun s=>mt1 c (x,s):=by
 unfold mt1
 split
 · exact (zcA false c.lo.toNat c.col.toNat).bind (n:=1) (g:=fun y s=>prN s x y) fun y=>zc4 x y
 · exact (Rep.pure x).more (by omega)
theorem zDh (c:Cnd) (x:Nat):Rep 9 fun s=>mt2 c (x,s):=by
 unfold mt2
 split
 · exact (zcA true c.hi.toNat c.col.toNat).bind (n:=1) (g:=fun y s=>prN s x y) fun y=>zc4 x y
 · exact (Rep.pure x).more (by omega)
theorem zh2 (l:List Cnd) (i:Nat):Rep (18*i) fun s=>zcy l s i :=
 Rep.loop (n:=18) 4 (fun i p=>mt2 (nth l i) (mt1 (nth l i) p)) (fun s i=>zcy l s i) (fun _=>rfl) (fun _ _=>rfl) (fun i x=>(zkX (nth l i) x).bind (n:=9) (g:=fun y s=>mt2 (nth l i) (y,s)) fun y=>zDh (nth l i) y) i
theorem zb0 (l:List Cnd):Rep (18*l.length) fun s=>yD l s:=zh2 l l.length
theorem zfo (c v:Nat):Rep 3 fun s=>zdL c v s :=
 (yk (zf c) (zf c+1) (zaP (v % 4))).bind (n:=2) (g:=fun p s=>prN (addN s (zf c+2) (zf c+3) (zaP (v / 4))).2 p (addN s (zf c+2) (zf c+3) (zaP (v / 4))).1)
  fun p=>(yk (zf c+2) (zf c+3) (zaP (v / 4))).bind (n:=1) (g:=fun q s=>prN s p q) fun q=>zc4 p q
theorem zh3 (m c i:Nat):Rep (4*i) fun s=>zaj m c s i :=
 Rep.loop (n:=4) [] (fun v p=>(p.1++[(prN (zdL c v p.2).2 m (zdL c v p.2).1).1],(prN (zdL c v p.2).2 m (zdL c v p.2).1).2)) (fun s i=>zaj m c s i) (fun _=>rfl) (fun _ _=>rfl)
  (fun v x=>(zfo c v).bind (n:=1) (g:=fun q s=>(x++[(prN s m q).1],(prN s m q).2)) fun q=>(zc4 m q).map fun y=>x++[y]) i
theorem zfp (l:List Cnd) (c:Nat):Rep (18*l.length+64) fun s=>zar l c s :=
 (zb0 l).bind (n:=64) (g:=fun m s=>zaj m c s 16) fun m=>zh3 m c 16
theorem zh4 (c i:Nat):Rep i fun s=>zcz c s i:=by
 have:=Rep.loop (n:=1) c (fun _ p=>prN p.2 p.1 c) (fun s i=>zcz c s i) (fun _=>rfl) (fun _ _=>rfl) (fun _ x=>zc4 x c) i
 rwa [Nat.one_mul] at this
end Go.Proofs.YthaoifcebimkfaaGreatDoor

namespace Go.Proofs.YthaoifcebimkfaaGreatDoor
open Go Go.AL

def zEl (g:Gate) (prev:List Gate):Gate :=
 if zsE (nth prev g.l.toNat) then ⟨g.l,g.r,0#64,0#64,zDg g.b (zGI g.c (nth prev g.l.toNat).d),zDg g.d (zGI g.a (nth prev g.l.toNat).d)⟩ else g
def n1 (g:Gate):Gate:=if g.l == g.r then ⟨g.l,g.r,g.c,zDg g.a g.b,0#64,g.d⟩ else g
def n2 (g:Gate):Gate:=if !zer g && zcx g then swp g else g
def n3 (g:Gate):Gate:=if !zer g then ⟨0,g.r,g.c,g.a,g.b,g.d⟩ else g
def n4 (g:Gate):Gate:=if !zcx g then ⟨g.l,0,g.c,g.a,g.b,g.d⟩ else if decide (g.r < g.l) then swp g else g
def norm (g:Gate):Gate:=n4 (n3 (n2 (n1 g)))

section walks
variable {G:Globs}

end walks
end Go.Proofs.YthaoifcebimkfaaGreatDoor

namespace Go.Proofs.YthaoifcebimkfaaGreatDoor
open Go Go.AL

def m1 (g:Gate):Gate:=if g.l == g.r then ⟨g.l,g.r,g.c,zbC g.a g.b,0#64,g.d⟩ else g
def m2 (g:Gate):Gate:=if !zer g && zcx g then ⟨g.r,g.r,g.c,g.b,0#64,g.d⟩ else g
def m4 (g:Gate):Gate:=if !zcx g then ⟨g.l,0,g.c,g.a,g.b,g.d⟩ else g


section walks
variable {G:Globs}

def zdM (g:Gate) (l r:U):U:=zbC (zbC (zbC (zeQ g.c (zeQ l r)) (zeQ g.a l)) (zeQ g.b r)) g.d
def mkG (g:Gate) (n:Int):Gate :=
 ⟨g.l % 256 % n,g.r % 256 % n,zcw g.c,zcw g.a,zcw g.b,zcw g.d⟩
def vG (g:Gate) (n:Int):Bool:=decide (0≤g.l) && decide (g.l < n) && decide (0≤g.r) && decide (g.r < n) && valid g.c && valid g.a && valid g.b && valid g.d

theorem ziY (g:Gate) (l r:U) (H:Hp) (R:AV → Hp → Prop) (h:R (.p (zg (zdM g l r))) H):ACall Tryz.prog G 151 [.p (zY g),.p (zg l),.p (zg r)] H R:=by
 refine ACall.of_run (raw:=[]) Tryz.func151 rfl Tryz.ntmps151 (by simp) fun hbel => ?_
 refine .qt rfl ?_;simp (disch:=first|exact za|fail) only [go_sem,seval];refine .q ?_;refine .open [] follows (by kernel_rfl) ?_;simp (disch:=first|exact za|fail) only [go_sem,seval];refine CallD.still (fun R h=>zek _ _ _ R h) ?_;simp (disch:=first|exact za|fail) only [go_sem,seval];refine CallD.still (fun R h=>zek _ _ _ R h) ?_;simp (disch:=first|exact za|fail) only [go_sem,seval];refine CallD.still (fun R h=>zek _ _ _ R h) ?_;simp (disch:=first|exact za|fail) only [go_sem,seval];refine CallD.still (fun R h=>zaD _ _ _ R h) ?_;simp (disch:=first|exact za|fail) only [go_sem,seval];refine .q ?_;refine .open [] follows (by kernel_rfl) ?_;simp (disch:=first|exact za|fail) only [go_sem,seval];refine CallD.still (fun R h=>zek _ _ _ R h) ?_;simp (disch:=first|exact za|fail) only [go_sem,seval];refine CallD.still (fun R h=>zaD _ _ _ R h) ?_;simp (disch:=first|exact za|fail) only [go_sem,seval];refine CallD.still (fun R h=>zaD _ _ _ R h) ?_;simp (disch:=first|exact za|fail) only [go_sem,seval];refine .qr rfl Tryz.func151 (by rw [Tryz.results151]) ?_;simp (disch:=first|exact za|fail) only [go_sem,seval];exact h

theorem zeR (g:Gate) (n:Int) (H:Hp) (R:AV → Hp → Prop) (h:R (.p (bo (vG g n))) H):ACall Tryz.prog G 119 [.p (zY g),.p (i64 n)] H R:=by
 refine ACall.of_run (raw:=[]) Tryz.func119 rfl Tryz.ntmps119 (by simp) fun hbel => ?_
 unfold vG at h;refine .qt rfl ?_;simp (disch:=first|exact za|fail) only [go_sem,seval];refine .qt rfl ?_;simp (disch:=first|exact za|fail) only [go_sem,seval]
 (first | refine zI (fun h0 => ?_) (fun h0 => ?_) | refine zD (fun h0 => ?_) (fun h0 => ?_))<;>(try simp only [Bool.not_eq_true',Bool.not_eq_false'] at h0)<;>simp (disch:=first|exact za|fail) only [go_sem,seval,h0]
 rotate_left
 · rw [h0] at h;refine .qr rfl Tryz.func119 (by rw [Tryz.results119]) ?_;simp (disch:=first|exact za|fail) only [go_sem,seval];exact h
 rw [h0] at h
 (first | refine zI (fun h1 => ?_) (fun h1 => ?_) | refine zD (fun h1 => ?_) (fun h1 => ?_))<;>(try simp only [Bool.not_eq_true',Bool.not_eq_false'] at h1)<;>simp (disch:=first|exact za|fail) only [go_sem,seval,h1]
 rotate_left
 · rw [h1] at h;refine .qr rfl Tryz.func119 (by rw [Tryz.results119]) ?_;simp (disch:=first|exact za|fail) only [go_sem,seval];exact h
 rw [h1] at h
 (first | refine zI (fun h2 => ?_) (fun h2 => ?_) | refine zD (fun h2 => ?_) (fun h2 => ?_))<;>(try simp only [Bool.not_eq_true',Bool.not_eq_false'] at h2)<;>simp (disch:=first|exact za|fail) only [go_sem,seval,h2]
 rotate_left
 · rw [h2] at h;refine .qr rfl Tryz.func119 (by rw [Tryz.results119]) ?_;simp (disch:=first|exact za|fail) only [go_sem,seval];exact h
 rw [h2] at h
 (first | refine zI (fun h3 => ?_) (fun h3 => ?_) | refine zD (fun h3 => ?_) (fun h3 => ?_))<;>(try simp only [Bool.not_eq_true',Bool.not_eq_false'] at h3)<;>simp (disch:=first|exact za|fail) only [go_sem,seval,h3]
 rotate_left
 · rw [h3] at h;refine .qr rfl Tryz.func119 (by rw [Tryz.results119]) ?_;simp (disch:=first|exact za|fail) only [go_sem,seval];exact h
 rw [h3] at h;refine CallK.of (fun R h=>zcl _ _ R h) ?_;simp (disch:=first|exact za|fail) only [go_sem,seval]
 (first | refine zI (fun h4 => ?_) (fun h4 => ?_) | refine zD (fun h4 => ?_) (fun h4 => ?_))<;>(try simp only [Bool.not_eq_true',Bool.not_eq_false'] at h4)<;>simp (disch:=first|exact za|fail) only [go_sem,seval,h4]
 rotate_left
 · rw [h4] at h;refine .qr rfl Tryz.func119 (by rw [Tryz.results119]) ?_;simp (disch:=first|exact za|fail) only [go_sem,seval];exact h
 rw [h4] at h;refine CallK.of (fun R h=>zcl _ _ R h) ?_;simp (disch:=first|exact za|fail) only [go_sem,seval]
 (first | refine zI (fun h5 => ?_) (fun h5 => ?_) | refine zD (fun h5 => ?_) (fun h5 => ?_))<;>(try simp only [Bool.not_eq_true',Bool.not_eq_false'] at h5)<;>simp (disch:=first|exact za|fail) only [go_sem,seval,h5]
 rotate_left
 · rw [h5] at h;refine .qr rfl Tryz.func119 (by rw [Tryz.results119]) ?_;simp (disch:=first|exact za|fail) only [go_sem,seval];exact h
 rw [h5] at h;refine CallK.of (fun R h=>zcl _ _ R h) ?_;simp (disch:=first|exact za|fail) only [go_sem,seval]
 (first | refine zI (fun h6 => ?_) (fun h6 => ?_) | refine zD (fun h6 => ?_) (fun h6 => ?_))<;>(try simp only [Bool.not_eq_true',Bool.not_eq_false'] at h6)<;>simp (disch:=first|exact za|fail) only [go_sem,seval,h6]
 rotate_left
 · rw [h6] at h;refine .qr rfl Tryz.func119 (by rw [Tryz.results119]) ?_;simp (disch:=first|exact za|fail) only [go_sem,seval];exact h
 rw [h6] at h;refine CallK.of (fun R h=>zcl _ _ R h) ?_;simp (disch:=first|exact za|fail) only [go_sem,seval];refine .qr rfl Tryz.func119 (by rw [Tryz.results119]) ?_;simp (disch:=first|exact za|fail) only [go_sem,seval];exact h

end walks
end Go.Proofs.YthaoifcebimkfaaGreatDoor

namespace Go.Proofs.YthaoifcebimkfaaGreatDoor
open Go Go.AL

def wid (c:Circ) (k:Nat):Int:=if k=0 then c.inputs else ((nth c.layers (k - 1)).length:Int)
def opG (n:Int) (g:Gate):Prop:=0≤g.l∧g.l < n∧0≤g.r∧g.r < n
structure Ok (c:Circ):Prop where
 inp:1≤c.inputs∧c.inputs≤1000
 sums:0≤c.sums∧c.sums≤1000
 len:1≤c.layers.length∧c.layers.length≤1000
 row : ∀ k,k < c.layers.length → 1≤(nth c.layers k).length∧(nth c.layers k).length≤1000
 op : ∀ k,k < c.layers.length → ∀ i,i < (nth c.layers k).length → opG (wid c k) (nth (nth c.layers k) i)


def cnt (ls:List (List Gate)):Nat → Nat
 | 0=>0
 | i+1=>cnt ls i+(nth ls i).length
def size (c:Circ):Nat:=cnt c.layers c.layers.length

section walks
variable {G:Globs}

end walks
end Go.Proofs.YthaoifcebimkfaaGreatDoor

namespace Go.Proofs.YthaoifcebimkfaaGreatDoor
open Go Go.AL

def tab {α:Type} (f:Nat → α) (n:Nat):List α:=(List.range n).map f
section tab
variable {α:Type} {f g:Nat → α} {n i:Nat}
theorem yu:tab f 0=[]:=rfl
theorem zbi:tab f (n+1)=tab f n++[f n]:=by simp [tab,List.range_succ]
theorem y7:(tab f n).length=n:=by simp [tab]
theorem yb [Inhabited α] (h:i < n):nth (tab f n) i=f i:=by simp [tab,nth,h]
theorem zvP (h : ∀ i,i < n → f i=g i):tab f n=tab g n:=by
 unfold tab
 exact List.map_congr_left fun i hi=>h i (List.mem_range.1 hi)
end tab
attribute [go_sem] y7
theorem zkY {i s:Int} {b:Bool}:zh (.p (.agg [i64 i,.sl b 1 [],i64 s]))=some [.p (i64 i),.p (.sl b 1 []),.p (i64 s)]:=rfl
attribute [go_sem] zkY
def goG (first:Bool) (prev:List Gate) (g:Gate):Gate:=norm (if first then g else swp (zEl (swp (zEl g prev)) prev))
def fl (f:Bool → List Gate → Gate → Gate) (ls:List (List Gate)):Nat → List Gate
 | 0=>tab (fun j=>f true [] (nth (nth ls 0) j)) (nth ls 0).length
 | k+1=>tab (fun j=>f false (fl f ls k) (nth (nth ls (k+1)) j)) (nth ls (k+1)).length
def fold (f:Bool → List Gate → Gate → Gate) (c:Circ):Circ:=⟨c.inputs,tab (fl f c.layers) c.layers.length,c.sums⟩
def pv (f:Bool → List Gate → Gate → Gate) (ls:List (List Gate)) (k:Nat):List Gate:=if k=0 then [] else fl f ls (k - 1)
theorem zGK (f:Bool → List Gate → Gate → Gate) (ls:List (List Gate)) (k:Nat):fl f ls k=tab (fun j=>f (k == 0) (pv f ls k) (nth (nth ls k) j)) (nth ls k).length:=by
 cases k with
 | zero=>rfl
 | succ k=>rfl
theorem zFf {f:Bool → List Gate → Gate → Gate} {ls:List (List Gate)} {k i:Nat} (h:i < (nth ls k).length):nth (fl f ls k) i=f (k == 0) (pv f ls k) (nth (nth ls k) i):=by
 rw [zGK,yb h]

section op
variable {n:Int} {g:Gate} {p:List Gate}
end op

def keeps (f:Bool → List Gate → Gate → Gate):Prop := ∀ n b p g,opG n g → opG n (f b p g)
theorem Ok.fl {f:Bool → List Gate → Gate → Gate} (hf:keeps f) {c:Circ} (h:Ok c) {k i:Nat} (hk:k < c.layers.length) (hi:i < (nth c.layers k).length):opG (wid c k) (nth (fl f c.layers k) i):=by
 rw [zFf hi];exact hf _ _ _ _ (h.op k hk i hi)


theorem zqM {α v sz:Nat} {l:List PV}:pvs? [.sl α v sz l]=some [.sl false sz l]:=rfl
attribute [go_sem] zqM

section walks
variable {G:Globs}

end walks
end Go.Proofs.YthaoifcebimkfaaGreatDoor

namespace Go.Proofs.YthaoifcebimkfaaGreatDoor
open Go Go.AL


section walks
variable {G:Globs}

end walks
end Go.Proofs.YthaoifcebimkfaaGreatDoor

namespace Go.Proofs.YthaoifcebimkfaaGreatDoor
open Go Go.AL

def fst? (p:Nat → Bool):Nat → Option Nat
 | 0=>none
 | n+1=>match fst? p n with
  | some i=>some i
  | none=>if p n then some n else none
theorem zbj {p:Nat → Bool} {n:Nat}:fst? p n=none ↔ ∀ i,i < n → p i=false:=by
 induction n with
 | zero=>exact⟨fun _ i h=>absurd h (by omega),fun _=>rfl⟩
 | succ n ih =>
  simp only [fst?];constructor
  · intro h i hi
    cases hf:fst? p n with
    | some j=>rw [hf] at h;cases h
    | none =>
     rw [hf] at h;by_cases hp:p n=true
     · simp [hp] at h
     · by_cases e:i=n
       · subst e;simpa using hp
       · exact ih.1 hf i (by omega)
  · intro h;rw [ih.2 fun i hi=>h i (by omega)];simp [h n (by omega)]
theorem znt {p:Nat → Bool} {n i:Nat}:fst? p n=some i ↔ i < n∧p i=true ∧ ∀ j,j < i → p j=false:=by
 induction n with
 | zero=>exact⟨fun h=>(by cases h),fun h=>absurd h.1 (by omega)⟩
 | succ n ih =>
  simp only [fst?]
  cases hf:fst? p n with
  | some j =>
   obtain⟨h1,h2,h3⟩:j < n∧p j=true ∧ ∀ k,k < j → p k=false:=by
    clear ih
    induction n with
    | zero=>cases hf
    | succ n ih =>
     simp only [fst?] at hf
     cases hg:fst? p n with
     | some k=>rw [hg] at hf;cases hf;obtain⟨a,b,c⟩:=ih hg;exact⟨by omega,b,c⟩
     | none =>
      rw [hg] at hf;by_cases hp:p n=true
      · simp [hp] at hf;subst hf;exact⟨by omega,hp,zbj.1 hg⟩
      · simp [hp] at hf
   simp only [Option.some.injEq];constructor
   · rintro rfl;exact⟨by omega,h2,h3⟩
   · intro ⟨a,b,c⟩;by_cases e:i < j
     · rw [h3 i e] at b;cases b
     · by_cases e2:j < i
       · rw [c j e2] at h2;cases h2
       · omega
  | none =>
   have hn:=zbj.1 hf;by_cases hp:p n=true
   · simp only [hp,if_true,Option.some.injEq];constructor
     · rintro rfl;exact⟨by omega,hp,hn⟩
     · intro ⟨a,b,c⟩;by_cases e:i < n
       · rw [hn i e] at b;cases b
       · omega
   · simp only [hp];constructor
     · intro h;cases h
     · intro ⟨a,b,c⟩;by_cases e:i < n
       · rw [hn i e] at b;cases b
       · have:i=n:=by omega
         subst this;exact absurd b hp

def pos (o:Option Nat):Int:=match o with | some i=>i | none => -1
def zdN (l:List Gate) (g:Gate):Option Nat:=fst? (fun i=>decide (nth l i=g)) l.length
def zdO (g:Gate) (i:Int):Bool:=(zer g && g.l == i) || (zcx g && g.r == i)
def znu (l:List Gate) (i:Int):Bool:=(fst? (fun k=>zdO (nth l k) i) l.length).isSome
def zvQ (l:List Bool):Nat → Nat
 | 0=>0
 | i+1=>if nth l i then zvQ l i+1 else zvQ l i

section walks
variable {G:Globs}

end walks
end Go.Proofs.YthaoifcebimkfaaGreatDoor

namespace Go.Proofs.YthaoifcebimkfaaGreatDoor
open Go Go.AL

def yJ (c:Circ) (k:Nat) (next:List Gate) (i:Nat):Bool :=
 if k+1=c.layers.length then decide ((i:Int) < c.sums) || !zsE (nth (nth c.layers k) i) || (nth (nth c.layers k) i).d != 0#64 else znu next i
def zHh (c:Circ) (k:Nat) (next:List Gate) (i:Nat):Bool:=(fst? (yJ c k next) i).isSome
def zsF (c:Circ) (k:Nat) (next:List Gate):List Bool :=
 if zHh c k next (nth c.layers k).length then tab (yJ c k next) (nth c.layers k).length else (tab (yJ c k next) (nth c.layers k).length).set 0 true
theorem zDi {l:List Bool} : ∀ x∈pl bo l,x.cells.length=1:=fun x hx=>by
 simp only [pl,List.mem_map] at hx
 obtain⟨b,_,rfl⟩:=hx
 rfl

section walks
variable {G:Globs}

end walks
end Go.Proofs.YthaoifcebimkfaaGreatDoor

namespace Go.Proofs.YthaoifcebimkfaaGreatDoor
open Go Go.AL

def shG (ns:List Int) (first:Bool) (g:Gate):Gate:=if first then g else ⟨nth ns g.l.toNat,nth ns g.r.toNat,g.c,g.a,g.b,g.d⟩
def zFg (ns:List Int) (first last:Bool) (l:List Gate):Nat → List Gate × List Int
 | 0=>([],[])
 | i+1 =>
  let s:=zFg ns first last l i
  let g:=shG ns first (nth l i)
  match zdN s.1 g with
  | some j=>if last then (s.1++[g],s.2++[(s.1.length:Int)]) else (s.1,s.2++[(j:Int)])
  | none=>(s.1++[g],s.2++[(s.1.length:Int)])
def shN (ls:List (List Gate)):Nat → List Gate × List Int
 | 0=>zFg [] true (1 == ls.length) (nth ls 0) (nth ls 0).length
 | k+1=>zFg (shN ls k).2 false (k+2 == ls.length) (nth ls (k+1)) (nth ls (k+1)).length
def zAN (c:Circ):Circ:=⟨c.inputs,tab (fun k=>(shN c.layers k).1) c.layers.length,c.sums⟩





section walks
variable {G:Globs}

end walks
end Go.Proofs.YthaoifcebimkfaaGreatDoor

namespace Go.Proofs.YthaoifcebimkfaaGreatDoor
open Go Go.AL

def y8 (b:List Bool) (l:List Gate):Nat → List Gate
 | 0=>[]
 | i+1=>if nth b i then y8 b l i++[nth l i] else y8 b l i
def dk (c:Circ):Nat → List Bool × List Gate
 | 0=>(zsF c (c.layers.length - 1) [],y8 (zsF c (c.layers.length - 1) []) (nth c.layers (c.layers.length - 1)) (nth c.layers (c.layers.length - 1)).length)
 | d+1=>(zsF c (c.layers.length - 2 - d) (dk c d).2,y8 (zsF c (c.layers.length - 2 - d) (dk c d).2) (nth c.layers (c.layers.length - 2 - d)) (nth c.layers (c.layers.length - 2 - d)).length)
def kb (c:Circ) (k:Nat):List Bool:=(dk c (c.layers.length - 1 - k)).1
theorem znv (b:List Bool) (l:List Gate) : ∀ i,(y8 b l i).length≤i
 | 0=>Nat.le_refl _
 | i+1=>by have:=znv b l i;simp only [y8];split<;>simp<;>omega
def znw (g:Gate):Gate:=m4 (n3 g)


def eH (H:Hp) (c:Circ) (T:List AB) (ls:List (List Gate)) (k:Nat):Hp :=
 ((app (((H.new (.cells (cc c))).new (.cells [.p (i64 0),.p (.sl true 1 []),.p (i64 0)])).new .dead) T).new (.cells [.p (i64 c.inputs),.sl (H.n+3+T.length+1) k 1 (pl (ym 6 zY) ls),.p (i64 c.sums)])).new (.tail k)

section walks
variable {G:Globs}

end walks
end Go.Proofs.YthaoifcebimkfaaGreatDoor

namespace Go.Proofs.YthaoifcebimkfaaGreatDoor
open Go Go.AL





def nv (n:Nat):AV := .p (i64 n)
theorem zvR {p q:Nat → Bool} {n:Nat} (h : ∀ i,i < n → p i=q i):fst? p n=fst? q n:=by
 induction n with
 | zero=>rfl
 | succ n ih=>simp only [fst?];rw [ih fun i hi=>h i (by omega),h n (by omega)]
theorem zqN {l:List Gate} {g a:Gate}:zdN (l++[g]) a=match zdN l a with | some j=>some j | none=>if g=a then some l.length else none:=by
 have h1:fst? (fun i=>decide (nth (l++[g]) i=a)) l.length=zdN l a:=zvR fun i hi=>by rw [zv hi]
 unfold zdN at h1 ⊢;rw [show (l++[g]).length=l.length+1 by simp];simp only [fst?];rw [h1]
 cases fst? (fun i=>decide (nth l i=a)) l.length with
 | some j=>rfl
 | none =>
  have h2:nth (l++[g]) l.length=g:=by rw [zm (Nat.le_refl _),Nat.sub_self,zw]
  simp [h2]
def MapOf (m:List (Gate × Nat)) (l:List Gate):Prop:=(∀ p∈m,okG p.1) ∧ ∀ a,zM a m=zdN l a
theorem MapOf.put {m:List (Gate × Nat)} {l:List Gate} {g:Gate} (h:MapOf m l) (hok:okG g) (hg:zdN l g=none):MapOf (zbX g l.length m) (l++[g]):=⟨zjv m hok h.1,fun a=>by
 rw [zqN,zae,h.2 a];by_cases e:g=a
 · subst e;rw [hg]
 · simp only [if_neg e];cases zdN l a<;>rfl⟩

theorem zFh {n:Nat}:nv n = .p (i64 n):=rfl
attribute [go_sem] zFh
section walks
variable {G:Globs}

end walks
end Go.Proofs.YthaoifcebimkfaaGreatDoor

namespace Go.Proofs.YthaoifcebimkfaaGreatDoor
open Go Go.AL

def iev (n:Int):Value := .int .i64 n
def okI (n:Int):Prop := -9223372036854775808≤n∧n≤9223372036854775807
def uv (_:Unit):AV := .p (.agg [])
theorem zkZ (n:Int) (h:okI n):(keyOf Tryz.prog 3 (iev n)).isSome=true:=by
 unfold keyOf;simp only [Tryz.underlying3,mapKey,iev];rw [if_pos ⟨trivial,wf_i64 h.1 h.2⟩];rfl
theorem zFi {u:Unit}:uv u = .p (.agg []):=rfl
theorem znx:zh (.p (.agg []))=some []:=rfl
theorem zqO:zu [] = .p (.agg []):=rfl
attribute [go_sem] zFi znx zqO

def zdP (b:List Bool) (l:List Gate):List Gate:=if (y8 b l l.length).length=0 then [nth l 0] else y8 b l l.length
def zEm (b:List Bool) (l:List Gate):List Int:=tab (fun j=>((y8 b l j).length:Int)) l.length
def gcs (l:List Gate):List AV:=(flat (pl zY l)).map .p
theorem zDj:gcs []=[]:=rfl
attribute [go_sem] zDj

section walks
variable {G:Globs}

end walks
end Go.Proofs.YthaoifcebimkfaaGreatDoor

namespace Go.Proofs.YthaoifcebimkfaaGreatDoor
open Go Go.AL


def reN (ns:List Int) (g:Gate):Gate:=⟨nth ns g.l.toNat,nth ns g.r.toNat,g.c,g.a,g.b,g.d⟩


section walks
variable {G:Globs}

end walks
end Go.Proofs.YthaoifcebimkfaaGreatDoor

namespace Go.Proofs.YthaoifcebimkfaaGreatDoor
open Go Go.AL

def gw (c:Circ):Nat → List Gate
 | 0=>zdP (tab (yJ c (c.layers.length - 1) []) (nth c.layers (c.layers.length - 1)).length) (nth c.layers (c.layers.length - 1))
 | d+1=>zdP (tab (yJ c (c.layers.length - 2 - d) (gw c d)) (nth c.layers (c.layers.length - 2 - d)).length) (nth c.layers (c.layers.length - 2 - d))
def gwN (c:Circ) (d:Nat):List Gate:=if d=0 then [] else gw c (d - 1)
def fw (c:Circ) (d:Nat):List Bool:=tab (yJ c (c.layers.length - 1 - d) (gwN c d)) (nth c.layers (c.layers.length - 1 - d)).length
theorem zjD {c:Circ} (d:Nat):gw c d=zdP (fw c d) (nth c.layers (c.layers.length - 1 - d)):=by
 cases d with
 | zero=>rfl
 | succ d=>simp only [gw,fw,gwN,show c.layers.length - 1 - (d+1)=c.layers.length - 2 - d by omega,Nat.succ_ne_zero,if_false,Nat.add_sub_cancel]
def zDk (c:Circ) (k:Nat):List Int:=zEm (fw c (c.layers.length - 1 - k)) (nth c.layers k)
def gf (c:Circ) (k:Nat):List Gate:=(gw c (c.layers.length - 1 - k)).map (if k=0 then znw else fun g=>znw (reN (zDk c (k - 1)) g))
def zet (c:Circ):Circ:=⟨c.inputs,tab (gf c) c.layers.length,c.sums⟩

theorem zny {b:List Bool} {l:List Gate} (h:1≤l.length):1≤(zdP b l).length∧(zdP b l).length≤l.length:=by
 unfold zdP
 have:=znv b l l.length
 split
 · simp;omega
 · omega
theorem zjE {b:List Bool} {l:List Gate} {Pr:Gate → Prop} (h : ∀ i,i < l.length → Pr (nth l i)) : ∀ i,i≤l.length → ∀ j,j < (y8 b l i).length → Pr (nth (y8 b l i) j)
 | 0,_,j,hj=>absurd hj (by simp [y8])
 | i+1,hi,j,hj=>by
  have ih:=zjE (b:=b) h i (by omega);simp only [y8] at hj ⊢;split at hj
  · rename_i hb;rw [if_pos hb];by_cases e:j < (y8 b l i).length
    · rw [zv e];exact ih j e
    · rw [zm (by omega),show j - (y8 b l i).length=0 by simp at hj;omega,zw];exact h i (by omega)
  · rename_i hb;rw [if_neg hb];exact ih j hj
theorem zjF {b:List Bool} {l:List Gate} {Pr:Gate → Prop} (hl:1≤l.length) (h : ∀ i,i < l.length → Pr (nth l i)) : ∀ j,j < (zdP b l).length → Pr (nth (zdP b l) j):=by
 unfold zdP
 split
 · intro j hj
   have:j=0:=by simpa using hj
   subst this;exact h 0 (by omega)
 · exact zjE h _ (Nat.le_refl _)
theorem zAO {c:Circ} (hc:Ok c) {d:Nat} (hd:d < c.layers.length):1≤(gw c d).length∧(gw c d).length≤1000:=by
 have h1:=hc.row (c.layers.length - 1 - d) (by omega);have h2:=zny (b:=fw c d) h1.1;rw [zjD];omega
theorem zGL {c:Circ} (hc:Ok c) {d:Nat} (hd:d < c.layers.length) : ∀ j,j < (gw c d).length → opG (wid c (c.layers.length - 1 - d)) (nth (gw c d) j):=by
 rw [zjD];exact zjF (hc.row (c.layers.length - 1 - d) (by omega)).1 (hc.op (c.layers.length - 1 - d) (by omega))



structure DX (H:Hp) (c:Circ) (a b:Nat) (rows:List AV) (X:Hp):Prop where
 n:H.n+5≤X.n
 f0:X.f H.n=some (.cells [.p (i64 c.inputs),.p (.sl false 1 (pl (ym 6 zY) c.layers)),.p (i64 c.sums)])
 f1:X.f (H.n+1)=some (.cells [.p (i64 0),.p (.sl true 1 []),.p (i64 0)])
 fa:X.f a=some (.cells rows)
 fb:X.f b=some (.cells [.p (i64 c.inputs),.ref a 0 c.layers.length 1,.p (i64 c.sums)])
 f4:X.f (H.n+4)=some (.cells [.p (i64 ((c.layers.length:Int) - 1))])
 bel:Bel H.n X
 tr:X.trunc H.n=H
structure Ext (H X Y:Hp):Prop where
 n:X.n≤Y.n
 f : ∀ z,z < X.n → Y.f z=X.f z
 bel:Bel H.n X → Bel H.n Y
 tr:Y.trunc H.n=X.trunc H.n
theorem Ext.app {H X:Hp} {T:List AB} (h:H.n≤X.n):Ext H X (app X T):=⟨by rw [app_n'];omega,fun z hz=>zfh hz,fun hb=>zfk hb h,zjq h⟩
theorem Ext.new {H X:Hp} {x:AB} (h:H.n≤X.n):Ext H X (X.new x):=⟨by rw [n_new'];omega,fun z hz=>Hp.f_new_old X x z hz,fun hb=>zaM hb h,by rw [Hp.trunc_new X x H.n h]⟩
theorem Ext.trans {H X Y Z:Hp} (h1:Ext H X Y) (h2:Ext H Y Z):Ext H X Z:=⟨Nat.le_trans h1.n h2.n,fun z hz=>(h2.f z (Nat.lt_of_lt_of_le hz h1.n)).trans (h1.f z hz),fun h=>h2.bel (h1.bel h),h2.tr.trans h1.tr⟩
section dx
variable {H X Y:Hp} {c:Circ} {a b:Nat} {rows:List AV}
theorem DX.ext (h:DX H c a b rows X) (e:Ext H X Y):DX H c a b rows Y where
 n:=Nat.le_trans h.n e.n
 f0:=(e.f _ (Hp.lt h.f0)).trans h.f0
 f1:=(e.f _ (Hp.lt h.f1)).trans h.f1
 fa:=(e.f _ (Hp.lt h.fa)).trans h.fa
 fb:=(e.f _ (Hp.lt h.fb)).trans h.fb
 f4:=(e.f _ (Hp.lt h.f4)).trans h.f4
 bel:=e.bel h.bel
 tr:=e.tr.trans h.tr
theorem DX.le (h:DX H c a b rows X):H.n≤X.n:=by have:=h.n;omega
theorem DX.new {x:AB} (h:DX H c a b rows X):DX H c a b rows (X.new x):=h.ext (Ext.new h.le)
theorem DX.app {T:List AB} (h:DX H c a b rows X):DX H c a b rows (app X T):=h.ext (Ext.app h.le)
end dx
theorem zvS {n:Nat}:zh (.mp n)=some [.mp n]:=rfl
theorem zvT {n l s:Nat}:zh (.vr n l s)=some [.vr n l s]:=rfl
attribute [go_sem] zvS zvT
theorem zk0 {i s:Int} {a n:Nat}:zh (zu [.p (i64 i),.ref a 0 n 1,.p (i64 s)])=some [.p (i64 i),.ref a 0 n 1,.p (i64 s)]:=rfl
attribute [go_sem] zk0
section walks
variable {G:Globs}

end walks
end Go.Proofs.YthaoifcebimkfaaGreatDoor

namespace Go.Proofs.YthaoifcebimkfaaGreatDoor
open Go Go.AL

theorem zfq (b:List Bool) (l:List Gate) : ∀ i,(y8 b l i).length=zvQ b i
 | 0=>rfl
 | i+1=>by
  have:=zfq b l i
  simp only [y8,zvQ]
  split
  · simp [this]
  · exact this





theorem zAP {l:List Gate} {g:Gate} {i:Nat} {x:Int} (hi:i < l.length) (hg:nth l i=g) (h:znu l x=false):zdO g x=false:=by
 unfold znu at h
 have:fst? (fun k=>zdO (nth l k) x) l.length=none:=by
  cases hf:fst? (fun k=>zdO (nth l k) x) l.length with
  | none=>rfl
  | some j=>rw [hf] at h;cases h
 have:=zbj.1 this i hi
 rw [hg] at this;exact this

end Go.Proofs.YthaoifcebimkfaaGreatDoor

namespace Go.Proofs.YthaoifcebimkfaaGreatDoor
open Go Go.AL

theorem zh5 {b:List Bool} {l:List Gate} {i:Nat} : ∀ {j:Nat},i≤j → (y8 b l i).length≤(y8 b l j).length
 | 0,h=>by
  have:i=0:=by omega
  subst this;exact Nat.le_refl _
 | j+1,h=>by
  by_cases e:i=j+1
  · subst e;exact Nat.le_refl _
  · have:=zh5 (b:=b) (l:=l) (i:=i) (j:=j) (by omega)
    simp only [y8]
    split
    · simp;omega
    · exact this

theorem znz {n:Int} {x:Gate} (hn:0 < n) (hl:zer x=true → 0≤x.l∧x.l < n) (hr:zcx x=true → 0≤x.r∧x.r < n):opG n (znw x):=by
 have h3:(0≤(n3 x).l∧(n3 x).l < n)∧(n3 x).r=x.r∧zcx (n3 x)=zcx x:=by
  unfold n3
  cases h:zer x with
  | true=>exact⟨hl h,rfl,rfl⟩
  | false=>exact⟨⟨Int.le_refl _,hn⟩,rfl,rfl⟩
 unfold znw m4;rw [h3.2.2]
 cases h:zcx x with
 | true =>
  have:=hr h
  exact⟨h3.1.1,h3.1.2,by rw [show (if (!true)=true then _ else n3 x)=n3 x from rfl,h3.2.1];exact this.1,by rw [show (if (!true)=true then _ else n3 x)=n3 x from rfl,h3.2.1];exact this.2⟩
 | false=>exact⟨h3.1.1,h3.1.2,Int.le_refl _,hn⟩

theorem zDl {l:List Gate} {g:Gate} {i:Nat} {x:Int} (hi:i < l.length) (hg:nth l i=g) (h:zdO g x=true):znu l x=true:=by
 cases hu:znu l x with
 | true=>rfl
 | false=>rw [zAP hi hg hu] at h;cases h

theorem Ok.dead {c:Circ} (hc:Ok c):Ok (zet c) where
 inp:=hc.inp
 sums:=hc.sums
 len:=by show 1≤(tab _ _).length∧(tab _ _).length≤_;rw [y7];exact hc.len
 row k hk:=by
  simp only [zet,y7] at hk ⊢;rw [yb hk,gf,List.length_map];exact zAO hc (by omega)
 op k hk i hi:=by
  simp only [zet,y7] at hk hi ⊢;rw [yb hk] at hi ⊢
  obtain⟨d,hd⟩ : ∃ d,c.layers.length - 1 - k=d:=⟨_,rfl⟩
  have hdn:d < c.layers.length:=by omega
  have hkd:c.layers.length - 1 - d=k:=by omega
  rw [gf,List.length_map,hd] at hi;rw [gf,zfb (by rw [hd];exact hi),hd];have ho:=zGL hc hdn i hi;rw [hkd] at ho
  obtain⟨g,hg⟩ : ∃ g,nth (gw c d) i=g:=⟨_,rfl⟩
  rw [hg] at ho ⊢;by_cases h0:k=0
  · subst h0;have hw:wid (⟨c.inputs,tab (gf c) c.layers.length,c.sums⟩:Circ) 0=wid c 0:=rfl;rw [hw,if_pos rfl]
    obtain⟨o1,o2,o3,o4⟩:=ho
    exact znz (by omega) (fun _=>⟨o1,o2⟩) (fun _=>⟨o3,o4⟩)
  · rw [if_neg h0];rw [wid,if_neg h0] at ho
    obtain⟨o1,o2,o3,o4⟩:=ho
    have hd1:d+1 < c.layers.length:=by omega
    have hk1:c.layers.length - 1 - (d+1)=k - 1:=by omega
    have hfw:fw c (d+1)=tab (yJ c (k - 1) (gw c d)) (nth c.layers (k - 1)).length:=by
     rw [fw,hk1,gwN,if_neg (by omega),Nat.add_sub_cancel]
    have hw:wid (⟨c.inputs,tab (gf c) c.layers.length,c.sums⟩:Circ) k=((gw c (d+1)).length:Int):=by
     rw [wid,if_neg h0];simp only;rw [yb (by omega),gf,List.length_map,show c.layers.length - 1 - (k - 1)=d+1 by omega]
    rw [hw];have hgl:=zAO hc hd1
    have key : ∀ x:Int,0≤x → x < ((nth c.layers (k - 1)).length:Int) → zdO g x=true → 0≤nth (zDk c (k - 1)) x.toNat∧nth (zDk c (k - 1)) x.toNat < ((gw c (d+1)).length:Int):=by
     intro x h1 h2 h3
     obtain⟨j,rfl⟩ : ∃ j:Nat,x=j:=⟨x.toNat,by omega⟩
     have hj:j < (nth c.layers (k - 1)).length:=by omega
     have hwant:nth (fw c (d+1)) j=true:=by
      rw [hfw,yb hj,yJ,if_neg (by omega)];exact zDl hi hg h3
     rw [Int.toNat_natCast,zDk,show c.layers.length - 1 - (k - 1)=d+1 by omega,zEm,yb hj]
     have hs:(y8 (fw c (d+1)) (nth c.layers (k - 1)) (j+1)).length=(y8 (fw c (d+1)) (nth c.layers (k - 1)) j).length+1:=by
      simp only [y8,hwant,if_true,List.length_append,List.length_cons,List.length_nil]
     have hm:=zh5 (b:=fw c (d+1)) (l:=nth c.layers (k - 1)) (show j+1≤(nth c.layers (k - 1)).length by omega)
     have he:gw c (d+1)=y8 (fw c (d+1)) (nth c.layers (k - 1)) (nth c.layers (k - 1)).length:=by
      rw [zjD,hk1,zdP,if_neg (by omega)]
     rw [he];omega
    refine znz (by omega) (fun h => ?_) (fun h => ?_)
    · have hu:zer g=true:=h;exact key g.l o1 o2 (by simp [zdO,hu])
    · have hu:zcx g=true:=h;exact key g.r o3 o4 (by simp [zdO,hu])

def znA (f:Bool → List Gate → Gate → Gate) (c:Circ):Circ:=zet (zAN (fold f c))

section walks
variable {G:Globs}

end walks
end Go.Proofs.YthaoifcebimkfaaGreatDoor

namespace Go.Proofs.YthaoifcebimkfaaGreatDoor
open Go Go.AL

structure Vd (c:Circ):Prop where
 ok:Ok c
 inp:c.inputs≤64
 len:c.layers.length≤64
 row : ∀ k,k < c.layers.length → (nth c.layers k).length≤64
 sm:c.sums≤((nth c.layers (c.layers.length - 1)).length:Int)
 vg : ∀ k,k < c.layers.length → ∀ i,i < (nth c.layers k).length → vG (nth (nth c.layers k) i) (wid c k)=true

section walks
variable {G:Globs}

set_option maxHeartbeats 8000000 in
theorem zdQ (c:Circ) (hv:Vd c) (H:Hp) (R:AV → Hp → Prop) (h:R (.p (i64 0)) H):ACall Tryz.prog G 62 [.p (za2 c)] H R:=by
 refine ACall.of_run (raw:=[]) Tryz.func62 rfl Tryz.ntmps62 (by simp) fun hbel => ?_
 have hc:=hv.ok
 obtain⟨hl1,hl⟩:=hc.len
 obtain⟨hi1,_⟩:=hc.inp
 obtain⟨hs1,_⟩:=hc.sums
 have hi2:=hv.inp;have hl2:=hv.len;have hsm:=hv.sm;have hr0:=hc.row (c.layers.length - 1) (by omega);have hz0:((c.layers.length:Int) == 0)=false:=beq_eq_false_iff_ne.2 (by omega);refine .qt rfl ?_;simp (disch:=first|exact za|fail) only [go_sem,seval];refine .qt rfl ?_;simp (disch:=first|exact za|fail) only [go_sem,seval];refine .qF rfl ?_;refine .qt rfl ?_;simp (disch:=first|exact za|fail) only [go_sem,seval];refine .q ?_;refine .count (fun i env H'=>env 1 = .ptr H.n 0∧env 3 = .p (i64 i)∧H'=H.new (.cells (cc c))) 0 c.layers.length (by omega) ?_ ?_ ?_
 · simp (disch:=first|exact za|fail) only [go_sem,seval]
 rotate_left
 · intro i env H' _ hi ⟨e1,e3,eH⟩ ih;subst eH;have hr1:=(hc.row i hi).2;have hr2:=hv.row i hi;refine .qt rfl ?_;simp (disch:=first|exact za|fail) only [go_sem,seval,e1,e3];refine .qT rfl ?_;refine .qt rfl ?_;simp (disch:=first|exact za|fail) only [go_sem,seval,e1,e3];refine .qF rfl ?_;refine .qt rfl ?_;simp (disch:=first|exact za|fail) only [go_sem,seval,e3];refine ih _ _ ?_;simp (disch:=first|exact za|fail) only [go_sem,seval,e1,e3]
 intro env H' ⟨e1,e3,eH⟩;subst eH;refine .qt rfl ?_;simp (disch:=first|exact za|fail) only [go_sem,seval,e1,e3];refine .qF rfl ?_;refine .qt rfl ?_;simp (disch:=first|exact za|fail) only [go_sem,seval,e1,hz0];refine .qF rfl ?_;refine .qt rfl ?_;simp (disch:=first|exact za|fail) only [go_sem,seval];refine .q ?_;refine .count (fun i env H'=>env 1 = .ptr H.n 0∧env 4 = .p (i64 i)∧H'=H.new (.cells (cc c))) 0 c.layers.length (by omega) ?_ ?_ ?_
 · simp (disch:=first|exact za|fail) only [go_sem,seval,e1]
 rotate_left
 · intro i env H' _ hi ⟨e1,e4,eH⟩ ih;subst eH;have hr1:=hc.row i hi;have hz:(((nth c.layers i).length:Int) == 0)=false:=beq_eq_false_iff_ne.2 (by omega);refine .qt rfl ?_;simp (disch:=first|exact za|fail) only [go_sem,seval,e1,e4];refine .qT rfl ?_;refine .qt rfl ?_;simp (disch:=first|exact za|fail) only [go_sem,seval,e1,e4,hz];refine .qF rfl ?_;refine .qt rfl ?_;simp (disch:=first|exact za|fail) only [go_sem,seval,e4];refine ih _ _ ?_;simp (disch:=first|exact za|fail) only [go_sem,seval,e1,e4]
 clear e1 e3
 intro env H' ⟨e1,e4,eH⟩;subst eH;refine .qt rfl ?_;simp (disch:=first|exact za|fail) only [go_sem,seval,e1,e4];refine .qF rfl ?_;refine .q ?_;refine .open [] follows (by kernel_rfl) ?_;simp (disch:=first|exact za|fail) only [go_sem,seval,e1];refine .qF rfl ?_;refine .qt rfl ?_;simp (disch:=first|exact za|fail) only [go_sem,seval,e1];refine .qt rfl ?_;simp (disch:=first|exact za|fail) only [go_sem,seval];refine .q ?_;refine .count (fun k env H'=>env 1 = .ptr H.n 0∧env 5 = .p (i64 (wid c k))∧env 6 = .p (i64 k)∧H'=H.new (.cells (cc c))) 0 c.layers.length (by omega) ?_ ?_ ?_
 · simp (disch:=first|exact za|fail) only [go_sem,seval,e1];rfl
 · clear e1 e4
   intro env H' ⟨e1,e5,e6,eH⟩;subst eH;refine .qt rfl ?_;simp (disch:=first|exact za|fail) only [go_sem,seval,e1,e6];refine .qF rfl ?_;refine .qt rfl ?_;simp (disch:=first|exact za|fail) only [go_sem,seval];refine .qr rfl Tryz.func62 (by rw [Tryz.results62]) ?_;simp (disch:=first|exact za|fail) only [go_sem,seval];exact h
 · clear e1 e4
   intro k env H' _ hk ⟨e1,e5,e6,eH⟩ ih;subst eH;have hr:=(hc.row k hk).2;refine .qt rfl ?_;simp (disch:=first|exact za|fail) only [go_sem,seval,e1,e6];refine .qT rfl ?_;refine .qt rfl ?_;simp (disch:=first|exact za|fail) only [go_sem,seval];refine .q ?_;refine .count (fun i env H'=>env 1 = .ptr H.n 0∧env 5 = .p (i64 (wid c k))∧env 6 = .p (i64 k)∧env 7 = .p (i64 i)∧H'=H.new (.cells (cc c))) 0 (nth c.layers k).length (by omega) ?_ ?_ ?_
   · simp (disch:=first|exact za|fail) only [go_sem,seval,e1,e5,e6]
   · clear e1 e5 e6
     intro env H' ⟨e1,e5,e6,e7,eH⟩;subst eH;refine .qt rfl ?_;simp (disch:=first|exact za|fail) only [go_sem,seval,e1,e6,e7];refine .qF rfl ?_;refine .qt rfl ?_;simp (disch:=first|exact za|fail) only [go_sem,seval,e1,e6];refine .qt rfl ?_;simp (disch:=first|exact za|fail) only [go_sem,seval,e6];refine ih _ _ ?_;simp (disch:=first|exact za|fail) only [go_sem,seval,e1,e6];rfl
   · clear e1 e5 e6
     intro i env H' _ hi ⟨e1,e5,e6,e7,eH⟩ ih;subst eH;have hg:=hv.vg k hk i hi;refine .qt rfl ?_;simp (disch:=first|exact za|fail) only [go_sem,seval,e1,e6,e7];refine .qT rfl ?_;refine .qt rfl ?_;simp (disch:=first|exact za|fail) only [go_sem,seval,e1,e5,e6,e7];refine CallK.of (fun R h=>zeR _ _ _ R h) ?_;simp (disch:=first|exact za|fail) only [go_sem,seval,hg];refine .qF rfl ?_;refine .qt rfl ?_;simp (disch:=first|exact za|fail) only [go_sem,seval,e7];refine ih _ _ ?_;simp (disch:=first|exact za|fail) only [go_sem,seval,e1,e5,e6,e7]
end walks
end Go.Proofs.YthaoifcebimkfaaGreatDoor

namespace Go.Proofs.YthaoifcebimkfaaGreatDoor
open Go Go.AL

theorem zFj {g:Gate} {n:Int} (h:vG g n=true):(0≤g.l∧g.l < n∧0≤g.r∧g.r < n)∧valid g.c=true∧valid g.a=true∧valid g.b=true∧valid g.d=true:=by
 simp only [vG,Bool.and_eq_true,decide_eq_true_eq] at h
 obtain⟨⟨⟨⟨⟨⟨⟨h1,h2⟩,h3⟩,h4⟩,h5⟩,h6⟩,h7⟩,h8⟩:=h
 exact⟨⟨h1,h2,h3,h4⟩,h5,h6,h7,h8⟩

section walks
variable {G:Globs}










end walks
end Go.Proofs.YthaoifcebimkfaaGreatDoor

namespace Go.Proofs.YthaoifcebimkfaaGreatDoor
open Go Go.AL


theorem zvU {f:Nat} {a b:List AV}:zu [.clo f a b] = .agg [.clo f a b]:=rfl
theorem zqP {xs:List AV}:zh (.agg xs)=some xs:=rfl
theorem zqQ {f g h:Nat} {a b a' b' a'' b'':List AV}:zu [.clo f a b,.clo g a' b',.clo h a'' b''] = .agg [.clo f a b,.clo g a' b',.clo h a'' b'']:=rfl
theorem isAggV_agg {xs:List AV}:(AV.agg xs).isAggV=true:=rfl
attribute [go_sem] zvU zqP zqQ isAggV_agg
section walks
variable {G:Globs}

end walks
end Go.Proofs.YthaoifcebimkfaaGreatDoor

namespace Go.Proofs.YthaoifcebimkfaaGreatDoor
open Go Go.AL

def mdM (c:Circ) (i:Nat):Nat:=if i < c.layers.length then min (nth c.layers i).length 6 else 0
def mdR (c:Circ) (i:Nat) (n:Int):List Gate:=if mdM c i=0 then [⟨0,0,0#64,1#64,0#64,0#64⟩] else tab (fun k=>mkG (nth (nth c.layers i) k) n) (mdM c i)
def mdI (c:Circ):Int:=1+c.inputs % 256 % 6
def mdL (c:Circ):Nat → List Gate
 | 0=>mdR c 0 (mdI c)
 | i+1=>mdR c (i+1) ((mdL c i).length:Int)
def mdW (c:Circ) (i:Nat):Int:=if i=0 then mdI c else ((mdL c (i - 1)).length:Int)
def mdN (c:Circ):Nat:=max 1 (min c.layers.length 4)
def made (c:Circ):Circ:=⟨mdI c,tab (mdL c) (mdN c),c.sums % 256 % (mdW c (mdN c)+1)⟩


theorem zqR {i s:Int}:zh (.p (.agg [i64 i,i64 s]))=some [.p (i64 i),.p (i64 s)]:=rfl
attribute [go_sem] zqR
section walks
variable {G:Globs}

end walks
end Go.Proofs.YthaoifcebimkfaaGreatDoor

namespace Go.Proofs.YthaoifcebimkfaaGreatDoor
open Go Go.AL

def clM (raw:List (List U)) (N i:Nat):Nat:=if i < raw.length then min (nth raw i).length N else 0
def zHl (raw:List (List U)) (N i m:Nat):List U:=tab (fun t=>if t < m then zcw (nth (nth raw i) t) else 0#64) N
def clR (raw:List (List U)) (N i:Nat):List U:=zHl raw N i (clM raw N i)
def zG8 (raw:List (List U)) (n N:Nat):List (List U):=tab (clR raw N) n

section walks
variable {G:Globs}

end walks
end Go.Proofs.YthaoifcebimkfaaGreatDoor

namespace Go.Proofs.YthaoifcebimkfaaGreatDoor
open Go Go.AL

theorem yp {a:U}:valid a=true ↔ a.toNat < 18446744069414584321:=by
 unfold valid;rw [decide_eq_true_eq,BitVec.lt_def];rfl
theorem zcB {x:U}:(zcw x).toNat=x.toNat % 18446744069414584321:=by
 unfold zcw;rw [BitVec.toNat_umod];rfl
theorem zb2 {x:U}:valid (zcw x)=true:=by
 rw [yp,zcB];omega
theorem zb3 {a b:U} (ha:valid a=true) (hb:valid b=true):(zbC a b).toNat=(a.toNat+b.toNat) % 18446744069414584321:=by
 rw [yp] at ha hb;have hp:(18446744069414584321#64:U).toNat=18446744069414584321:=rfl
 have hs:(18446744069414584321#64 - b).toNat=18446744069414584321 - b.toNat:=by
  rw [BitVec.toNat_sub_of_le (by rw [BitVec.le_def,hp];omega),hp]
 unfold zbC
 split
 · rename_i h;rw [BitVec.le_def,hs] at h;rw [BitVec.toNat_sub_of_le (by rw [BitVec.le_def,hs];exact h),hs];omega
 · rename_i h;rw [BitVec.le_def,hs] at h;rw [BitVec.toNat_add];omega
theorem zc6 {a:U} (ha:valid a=true):(zhX a).toNat=a.toNat*4294967296 % 18446744069414584321:=by
 rw [yp] at ha
 have h1:(a % 4294967296#64*4294967296#64).toNat=a.toNat % 4294967296*4294967296:=by
  rw [BitVec.toNat_mul,BitVec.toNat_umod]
  show a.toNat % 4294967296*4294967296 % 2 ^ 64=_
  omega
 have h2:(a / 4294967296#64*4294967295#64).toNat=a.toNat / 4294967296*4294967295:=by
  rw [BitVec.toNat_mul,BitVec.toNat_udiv]
  show a.toNat / 4294967296*4294967295 % 2 ^ 64=_
  omega
 unfold zhX;rw [zb3 zb2 zb2,zcB,zcB,h1,h2];omega
theorem za3 {a:U} {n:Nat} (h:a.toNat=n % 18446744069414584321):valid a=true:=by
 rw [yp,h];omega
end Go.Proofs.YthaoifcebimkfaaGreatDoor

namespace Go.Proofs.YthaoifcebimkfaaGreatDoor
open Go Go.AL

theorem zcC {x y:Nat} (hx:x < 4294967296) (hy:y < 4294967296):x*y≤4294967295*4294967295:=Nat.mul_le_mul (by omega) (by omega)

theorem zjG {a b:U} (ha:valid a=true) (hb:b.toNat < 4294967296):(znl a b).toNat=a.toNat*b.toNat % 18446744069414584321:=by
 rw [yp] at ha
 have h1:(a % 4294967296#64*b).toNat=a.toNat % 4294967296*b.toNat:=by
  rw [BitVec.toNat_mul,BitVec.toNat_umod]
  show a.toNat % 4294967296*b.toNat % 2 ^ 64=_
  have:=zcC (x:=a.toNat % 4294967296) (by omega) hb
  omega
 have h2:(a / 4294967296#64*b).toNat=a.toNat / 4294967296*b.toNat:=by
  rw [BitVec.toNat_mul,BitVec.toNat_udiv]
  show a.toNat / 4294967296*b.toNat % 2 ^ 64=_
  have:=zcC (x:=a.toNat / 4294967296) (by omega) hb
  omega
 have h3:a.toNat*b.toNat=a.toNat / 4294967296*b.toNat*4294967296+a.toNat % 4294967296*b.toNat:=by
  conv=>lhs;rw [←Nat.div_add_mod a.toNat 4294967296,Nat.add_mul]
  rw [Nat.mul_comm 4294967296,Nat.mul_right_comm]
 unfold znl;rw [zb3 zb2 (za3 (zc6 zb2)),zcB,zc6 zb2,zcB,h1,h2,h3]
 generalize a.toNat / 4294967296*b.toNat=B
 generalize a.toNat % 4294967296*b.toNat=A
 omega

theorem zfr {a b:U} (ha:valid a=true) (hb:valid b=true):(zeQ a b).toNat=a.toNat*b.toNat % 18446744069414584321:=by
 have hb':=yp.1 hb
 have l1:(b % 4294967296#64).toNat=b.toNat % 4294967296:=by rw [BitVec.toNat_umod];rfl
 have l2:(b / 4294967296#64).toNat=b.toNat / 4294967296:=by rw [BitVec.toNat_udiv];rfl
 have e1:=zjG (b:=b % 4294967296#64) ha (by rw [l1];omega);have e2:=zjG (b:=b / 4294967296#64) ha (by rw [l2];omega);rw [l1] at e1;rw [l2] at e2
 have h3:a.toNat*b.toNat=a.toNat*(b.toNat / 4294967296)*4294967296+a.toNat*(b.toNat % 4294967296):=by
  conv=>lhs;rw [←Nat.div_add_mod b.toNat 4294967296,Nat.mul_add]
  rw [Nat.mul_comm 4294967296,Nat.mul_assoc]
 unfold zeQ;rw [zb3 (za3 e1) (za3 (zc6 (za3 e2))),e1,zc6 (za3 e2),e2,h3]
 generalize a.toNat*(b.toNat / 4294967296)=B
 generalize a.toNat*(b.toNat % 4294967296)=A
 omega

theorem zdR {x:U}:(x &&& 4294967295#64).toNat=x.toNat % 4294967296:=by
 rw [BitVec.toNat_and];exact Nat.and_two_pow_sub_one_eq_mod x.toNat 32
theorem zfs {x:U}:(x >>> 32).toNat=x.toNat / 4294967296:=by
 rw [BitVec.toNat_ushiftRight,Nat.shiftRight_eq_div_pow]

theorem zvV {a b:U}:(zjB a b).toNat=a.toNat*b.toNat / 18446744073709551616:=by
 have ha:=a.isLt;have hb:=b.isLt;have q00:=zcC (x:=a.toNat % 4294967296) (y:=b.toNat % 4294967296) (by omega) (by omega);have q10:=zcC (x:=a.toNat / 4294967296) (y:=b.toNat % 4294967296) (by omega) (by omega);have q01:=zcC (x:=a.toNat % 4294967296) (y:=b.toNat / 4294967296) (by omega) (by omega);have q11:=zcC (x:=a.toNat / 4294967296) (y:=b.toNat / 4294967296) (by omega) (by omega)
 have h3:a.toNat*b.toNat=a.toNat / 4294967296*(b.toNat / 4294967296)*18446744073709551616+(a.toNat / 4294967296*(b.toNat % 4294967296)+a.toNat % 4294967296*(b.toNat / 4294967296))*4294967296+a.toNat % 4294967296*(b.toNat % 4294967296):=by
  conv=>lhs;rw [←Nat.div_add_mod a.toNat 4294967296,←Nat.div_add_mod b.toNat 4294967296]
  generalize a.toNat / 4294967296=x1
  generalize a.toNat % 4294967296=x0
  generalize b.toNat / 4294967296=y1
  generalize b.toNat % 4294967296=y0
  rw [Nat.add_mul,Nat.mul_add,Nat.mul_add]
  have e1:4294967296*x1*(4294967296*y1)=x1*y1*18446744073709551616:=by
   rw [Nat.mul_mul_mul_comm,Nat.mul_comm]
  have e2:4294967296*x1*y0=x1*y0*4294967296:=by rw [Nat.mul_assoc,Nat.mul_comm]
  have e3:x0*(4294967296*y1)=x0*y1*4294967296:=by rw [Nat.mul_left_comm,Nat.mul_comm]
  rw [e1,e2,e3];omega
 have t00:((a &&& 4294967295#64)*(b &&& 4294967295#64)).toNat=a.toNat % 4294967296*(b.toNat % 4294967296):=by
  rw [BitVec.toNat_mul,zdR,zdR];omega
 have t10:((a >>> 32)*(b &&& 4294967295#64)).toNat=a.toNat / 4294967296*(b.toNat % 4294967296):=by
  rw [BitVec.toNat_mul,zdR,zfs];omega
 have t01:((a &&& 4294967295#64)*(b >>> 32)).toNat=a.toNat % 4294967296*(b.toNat / 4294967296):=by
  rw [BitVec.toNat_mul,zdR,zfs];omega
 have t11:((a >>> 32)*(b >>> 32)).toNat=a.toNat / 4294967296*(b.toNat / 4294967296):=by
  rw [BitVec.toNat_mul,zfs,zfs];omega
 unfold zjB;simp only [BitVec.toNat_add,zfs,zdR,t00,t10,t01,t11];rw [h3]
 generalize a.toNat / 4294967296*(b.toNat / 4294967296)=p11 at *
 generalize a.toNat / 4294967296*(b.toNat % 4294967296)=p10 at *
 generalize a.toNat % 4294967296*(b.toNat / 4294967296)=p01 at *
 generalize a.toNat % 4294967296*(b.toNat % 4294967296)=p00 at *
 omega
end Go.Proofs.YthaoifcebimkfaaGreatDoor

namespace Go.Proofs.YthaoifcebimkfaaGreatDoor
open Go Go.AL


theorem zaz {a b:U} (ha:valid a=true) (hb:valid b=true):valid (zbC a b)=true:=za3 (zb3 ha hb)
theorem yQ {a b:U} (ha:valid a=true) (hb:valid b=true):valid (zeQ a b)=true:=za3 (zfr ha hb)
theorem yR:valid 0#64=true:=by decide

def fvG (g:Gate):Prop:=valid g.c=true∧valid g.a=true∧valid g.b=true∧valid g.d=true

theorem zjH {a:U} (ha:valid a=true):zeQ 0#64 a=0#64:=BitVec.eq_of_toNat_eq (by rw [zfr yR ha];simp)
theorem zjI {a:U} (ha:valid a=true):zbC a 0#64=a:=BitVec.eq_of_toNat_eq (by rw [zb3 ha yR];have:=yp.1 ha;simp;omega)
end Go.Proofs.YthaoifcebimkfaaGreatDoor

namespace Go.Proofs.YthaoifcebimkfaaGreatDoor
open Go Go.AL








end Go.Proofs.YthaoifcebimkfaaGreatDoor

namespace Go.Proofs.YthaoifcebimkfaaGreatDoor
open Go Go.AL

theorem zGM {x:Gate} (h:fvG x):fvG (n3 x):=by unfold n3;split<;>exact⟨h.1,h.2.1,h.2.2.1,h.2.2.2⟩
theorem zGN {x:Gate} (h:fvG x):fvG (m4 x):=by unfold m4;split<;>exact⟨h.1,h.2.1,h.2.2.1,h.2.2.2⟩

theorem Vd.fv {c:Circ} (h:Vd c) {k i:Nat} (hk:k < c.layers.length) (hi:i < (nth c.layers k).length):fvG (nth (nth c.layers k) i):=by
 obtain⟨_,h1,h2,h3,h4⟩:=zFj (h.vg k hk i hi)
 exact⟨h1,h2,h3,h4⟩



theorem zGO {g:Gate} {n:Int} (ho:opG n g) (hf:fvG g):vG g n=true:=by
 simp only [vG,Bool.and_eq_true,decide_eq_true_eq]
 exact⟨⟨⟨⟨⟨⟨⟨ho.1,ho.2.1⟩,ho.2.2.1⟩,ho.2.2.2⟩,hf.1⟩,hf.2.1⟩,hf.2.2.1⟩,hf.2.2.2⟩

end Go.Proofs.YthaoifcebimkfaaGreatDoor

namespace Go.Proofs.YthaoifcebimkfaaGreatDoor
open Go Go.AL



end Go.Proofs.YthaoifcebimkfaaGreatDoor

namespace Go.Proofs.YthaoifcebimkfaaGreatDoor
open Go Go.AL

theorem zsG {b:List Bool} : ∀ {i:Nat},(∀ j,j < i → nth b j=true) → zvQ b i=i
 | 0,_=>rfl
 | i+1,h=>by
  have ih:=zsG (b:=b) (i:=i) fun j hj=>h j (by omega)
  simp only [zvQ,h i (by omega),if_true];omega
theorem znB {x:Gate} (h:fvG x):fvG (znw x):=zGN (zGM h)
theorem zGP {c:Circ} (h:Vd c) {d:Nat} (hd:d < c.layers.length) : ∀ j,j < (gw c d).length → fvG (nth (gw c d) j):=by
 rw [zjD];exact zjF (h.ok.row (c.layers.length - 1 - d) (by omega)).1 (fun i hi=>h.fv (by omega) hi)

theorem zDm {c:Circ} (h:Vd c):c.sums≤((gw c 0).length:Int):=by
 have hl:=h.ok.len.1;have hs:=h.sm;have h0:=h.ok.sums.1
 obtain⟨s,hs'⟩ : ∃ s:Nat,c.sums=s:=⟨c.sums.toNat,by omega⟩
 rw [zjD,Nat.sub_zero]
 generalize hn:(nth c.layers (c.layers.length - 1)).length=n at *
 have hb : ∀ j,j < s → nth (fw c 0) j=true:=fun j hj=>by
  have hjn:j < (nth c.layers (c.layers.length - 1 - 0)).length:=by rw [Nat.sub_zero,hn];omega
  rw [fw,yb hjn,yJ,if_pos (by omega)]
  have:decide ((j:Int) < c.sums)=true:=by simp;omega
  rw [this];rfl
 have h1:=zsG hb;have h2:=zh5 (b:=fw c 0) (l:=nth c.layers (c.layers.length - 1)) (show s≤n by omega);rw [zfq,zfq,h1] at h2;unfold zdP;rw [hn,zfq]
 split
 · omega
 · rw [zfq];omega

theorem Vd.dead {c:Circ} (h:Vd c):Vd (zet c) where
 ok:=h.ok.dead
 inp:=h.inp
 len:=by show (tab _ _).length≤64;rw [y7];exact h.len
 row k hk:=by
  simp only [zet,y7] at hk ⊢;rw [yb hk,gf,List.length_map,zjD,show c.layers.length - 1 - (c.layers.length - 1 - k)=k by omega];have h1:=zny (b:=fw c (c.layers.length - 1 - k)) (h.ok.row k hk).1;have h2:=h.row k hk;omega
 sm:=by
  have hl:=h.ok.len.1;have hs:=zDm h;simp only [zet,y7];rw [yb (by omega),gf,List.length_map,Nat.sub_self];exact hs
 vg k hk i hi:=by
  refine zGO (h.ok.dead.op k hk i hi) ?_;simp only [zet,y7] at hk hi ⊢;rw [yb hk] at hi ⊢;rw [gf,List.length_map] at hi;rw [gf,zfb hi];have hf:=zGP h (show c.layers.length - 1 - k < c.layers.length by omega) i hi
  split
  · exact znB hf
  · exact znB ⟨hf.1,hf.2.1,hf.2.2.1,hf.2.2.2⟩


end Go.Proofs.YthaoifcebimkfaaGreatDoor

namespace Go.Proofs.YthaoifcebimkfaaGreatDoor
open Go Go.AL





end Go.Proofs.YthaoifcebimkfaaGreatDoor

namespace Go.Proofs.YthaoifcebimkfaaGreatDoor
open Go Go.AL

def zHm (c:Circ) (cols:List (List U)) (lg:BitVec 8):PV := .agg [i64 c.inputs,.sl false 1 (pl (ym 6 zY) c.layers),i64 c.sums,.sl false 1 (pl (ym 1 zg) cols),b8 lg]
theorem zqS {c:Circ} {cols:List (List U)} {lg:BitVec 8}:zh (.p (zHm c cols lg))=some [.p (i64 c.inputs),.p (.sl false 1 (pl (ym 6 zY) c.layers)),.p (i64 c.sums),.p (.sl false 1 (pl (ym 1 zg) cols)),.p (b8 lg)]:=rfl
def zEn (x y:Option AV):Option AV:=match x,y with | some x,some y=>some (.tup [x,y]) | _,_=>none
theorem zqT {x y:AV}:zEn (some x) (some y)=some (.tup [x,y]):=rfl
theorem ziZ {P:Program} {a b:Nat} {t:TypeId} {env:Env} {H:Hp}:ze7 P [.cell a t,.tmp b] env H=zEn (zcg P H t (env a)) (some (env b)):=by
 simp only [ze7,zci,zei]
 cases zcg P H t (env a)<;>rfl
attribute [go_sem] zqT ziZ
attribute [go_sem] zqS
section walks
variable {G:Globs}

end walks
end Go.Proofs.YthaoifcebimkfaaGreatDoor

namespace Go.Proofs.YthaoifcebimkfaaGreatDoor
open Go Go.AL



def twice:Circ:=⟨1,[[⟨0,0,0,1,0,0⟩,⟨0,0,0,1,0,0⟩],[⟨0,1,0,1,1,0⟩]],1⟩
def zAQ:Circ:=⟨2,[[⟨0,0,0,0,0,5⟩,⟨1,0,0,1,0,0⟩],[⟨0,1,1,0,0,0⟩]],1⟩
def zEo:Circ:=⟨1,[[⟨0,0,1,0,0,0⟩,⟨0,0,0,0,0,0⟩,⟨0,0,0,0,0,1⟩]],1⟩

theorem zGQ:znA goG (znA goG twice)=⟨1,[[⟨0,0,0,1,0,0⟩],[⟨0,0,0,2,0,0⟩]],1⟩:=by decide
theorem zGR:znA goG (znA goG zAQ)=⟨2,[[⟨1,0,0,1,0,0⟩],[⟨0,0,0,5,0,0⟩]],1⟩:=by decide
theorem zGS:zet zEo=⟨1,[[⟨0,0,1,0,0,0⟩,⟨0,0,0,0,0,1⟩]],1⟩:=by decide
theorem zGT:fold goG twice=twice:=by decide
theorem zGU:zAN twice=⟨1,[[⟨0,0,0,1,0,0⟩],[⟨0,0,0,1,1,0⟩]],1⟩:=by decide
end Go.Proofs.YthaoifcebimkfaaGreatDoor

namespace Go.Proofs.YthaoifcebimkfaaGreatDoor
open Go Go.AL


def sA:Circ:=⟨1,[[⟨0,0,0,1,0,0⟩],[⟨0,0,0,2,0,0⟩]],1⟩
def sB:Circ:=⟨2,[[⟨1,0,0,1,0,0⟩],[⟨0,0,0,5,0,0⟩]],1⟩
def sD:Circ:=⟨1,[[⟨0,0,1,0,0,0⟩,⟨0,0,0,0,0,1⟩]],1⟩
def sS:Circ:=⟨1,[[⟨0,0,0,1,0,0⟩],[⟨0,0,0,1,1,0⟩]],1⟩
theorem hA:decide (znA goG (znA goG twice)=sA)=true:=decide_eq_true zGQ
theorem hB:decide (znA goG (znA goG zAQ)=sB)=true:=decide_eq_true zGR
theorem hD:decide (zet zEo=sD)=true:=decide_eq_true zGS
theorem hF:decide (fold goG twice=twice)=true:=decide_eq_true zGT
theorem hS:decide (zAN twice=sS)=true:=decide_eq_true zGU
section walks
variable {G:Globs}

end walks
end Go.Proofs.YthaoifcebimkfaaGreatDoor

namespace Go.Proofs.YthaoifcebimkfaaGreatDoor
open Go Go.AL

section walks
variable {G:Globs}

end walks
end Go.Proofs.YthaoifcebimkfaaGreatDoor

namespace Go.Proofs.YthaoifcebimkfaaGreatDoor
open Go Go.AL

def zvW (l:List Gate) (inp:List U):List U:=tab (fun i=>zdM (nth l i) (nth inp (nth l i).l.toNat) (nth inp (nth l i).r.toNat)) l.length
def zb4 (c:Circ) (inp:List U):Nat → List U
 | 0=>inp
 | k+1=>zvW (nth c.layers k) (zb4 c inp k)
def yS (cols:List (List U)) (r:Nat):List U:=tab (fun i=>nth (nth cols i) r) cols.length
theorem zc7 {cols:List (List U)} {r:Nat}:(yS cols r).length=cols.length:=y7
theorem zdS {c:Circ} {inp:List U} {k:Nat}:(zb4 c inp (k+1)).length=(nth c.layers k).length:=y7

theorem zEp : ∀ k,k < 17 → IntKind.i64.wrap (1*2 ^ k)=((2 ^ k:Nat):Int):=by decide +kernel


section walks
variable {G:Globs}

set_option maxHeartbeats 4000000 in
theorem zh6 (l:List Gate) (inp:List U) (hl:l.length≤1000) (hop : ∀ i,i < l.length → opG (inp.length:Int) (nth l i)) (H:Hp) (R:AV → Hp → Prop) (h:R (.p (.sl false 1 (pl zg (zvW l inp)))) H) :
 ACall Tryz.prog G 118 [.p (.sl false 6 (pl zY l)),.p (.sl false 1 (pl zg inp))] H R:=by
 refine ACall.of_run (raw:=[]) Tryz.func118 rfl Tryz.ntmps118 (by simp) fun hbel => ?_
 refine .qt rfl ?_;simp (disch:=first|exact za|fail) only [go_sem,seval];refine .qt rfl ?_;simp (disch:=first|exact za|fail) only [go_sem,seval];refine .q ?_;refine .own 5 (by simp (disch:=first|exact za|fail) only [go_sem,seval];rfl) ?_;refine .qt rfl ?_;simp (disch:=first|exact za|fail) only [go_sem,seval];refine .q ?_;refine .loopE [0,1] (fun i=>[(5,.sl H.n i 1 (pl zg (tab (fun i=>zdM (nth l i) (nth inp (nth l i).l.toNat) (nth inp (nth l i).r.toNat)) i))),(6,.p (i64 i))]) (fun i=>[(H.n,.tail i)]) (fun i=>True) (0) (l.length) (by omega) ?_ (by first | rfl | (simp (disch:=first|exact za|fail) only [go_sem,seval,yu]<;>rfl)) ?_ ?_ ?_
 · simp (disch:=first|exact za|fail) only [go_sem,seval,yu]<;>(repeat' (first | rfl | refine And.intro ?_ ?_))
 · exact trivial
 intro env E hQ;simp (disch:=first|exact za|fail) only [go_sem,seval,yu] at E
 rotate_left 1
 intro i env hi0 hi E hQ ihE;simp (disch:=first|exact za|fail) only [go_sem,seval,yu] at E
 rotate_left 1
 · refine .qt rfl ?_;simp (disch:=first|exact za|fail) only [go_sem,seval,E];refine .qF rfl ?_;refine .qt rfl ?_;simp (disch:=first|exact za|fail) only [go_sem,seval,E];refine .qr rfl Tryz.func118 (by rw [Tryz.results118]) ?_;simp (disch:=first|exact za|fail) only [go_sem,seval];exact h
 · obtain⟨o1,o2,o3,o4⟩:=hop i hi
   refine .qt rfl ?_;simp (disch:=first|exact za|fail) only [go_sem,seval,E];refine .qT rfl ?_;refine .q ?_;refine .open [23] follows (by kernel_rfl) ?_;simp (disch:=first|exact za|fail) only [go_sem,seval,E];refine CallD.still (fun R h=>ziY _ _ _ _ R h) ?_;simp (disch:=first|exact za|fail) only [go_sem,seval,E];refine .qt rfl ?_;simp (disch:=first|exact za|fail) only [go_sem,seval,E]
   first | (refine ihE _ _ ?_ trivial ?_) | (refine .z rfl ?_;refine ihE _ _ ?_ trivial ?_) | (refine .z rfl ?_;refine .z rfl ?_;refine ihE _ _ ?_ trivial ?_) | (refine .z rfl ?_;refine .z rfl ?_;refine .z rfl ?_;refine ihE _ _ ?_ trivial ?_)
   · simp (disch:=first|exact za|fail) only [go_sem,seval,E,zbi]<;>(repeat' (first | rfl | refine And.intro ?_ ?_))
   · first | rfl | (simp (disch:=first|exact za|fail) only [go_sem,seval,E,zbi]<;>(try rfl))

set_option maxHeartbeats 4000000 in
theorem zc8 (c:Circ) (hc:Ok c) (inp:List U) (hi:(inp.length:Int)=c.inputs) (H:Hp) (R:AV → Hp → Prop) (h:R (.p (.sl false 1 (pl (ym 1 zg) (tab (zb4 c inp) (c.layers.length+1))))) H) :
 ACall Tryz.prog G 60 [.p (za2 c),.p (.sl false 1 (pl zg inp))] H R:=by
 refine ACall.of_run (raw:=[]) Tryz.func60 rfl Tryz.ntmps60 (by simp) fun hbel => ?_
 have hl:=hc.len.2;refine .qt rfl ?_;simp (disch:=first|exact za|fail) only [go_sem,seval];refine .qt rfl ?_;simp (disch:=first|exact za|fail) only [go_sem,seval];refine .q ?_;refine .own 5 (by simp (disch:=first|exact za|fail) only [go_sem,seval];rfl) ?_;refine .qt rfl ?_;simp (disch:=first|exact za|fail) only [go_sem,seval];refine .q ?_;refine .loopE [2] (fun k=>[(5,.sl (H.n+1) k 1 (pl (ym 1 zg) (tab (zb4 c inp) (k+1)))),(6,.p (i64 k))]) (fun k=>[(H.n+1,.tail k)]) (fun k=>True) (0) (c.layers.length) (by omega) ?_ (by first | rfl | (simp (disch:=first|exact za|fail) only [go_sem,seval,yu]<;>rfl)) ?_ ?_ ?_
 · simp (disch:=first|exact za|fail) only [go_sem,seval,yu]<;>(repeat' (first | rfl | refine And.intro ?_ ?_))
 · exact trivial
 intro env E hQ;simp (disch:=first|exact za|fail) only [go_sem,seval,yu] at E
 rotate_left 1
 intro k env hk0 hk E hQ ihE;simp (disch:=first|exact za|fail) only [go_sem,seval,yu] at E
 rotate_left 1
 · refine .qt rfl ?_;simp (disch:=first|exact za|fail) only [go_sem,seval,E];refine .qF rfl ?_;refine .qt rfl ?_;simp (disch:=first|exact za|fail) only [go_sem,seval,E];refine .qr rfl Tryz.func60 (by rw [Tryz.results60]) ?_;simp (disch:=first|exact za|fail) only [go_sem,seval];exact h
 · have hr:=(hc.row k hk).2
   have hw:wid c k=((zb4 c inp k).length:Int):=by
    cases k with
    | zero=>exact hi.symm
    | succ k=>rw [zdS,wid,if_neg (by omega)];rfl
   have hop:=hc.op k hk;rw [hw] at hop;have hn:nth (tab (zb4 c inp) (k+1)) k=zb4 c inp k:=yb (by omega);refine .qt rfl ?_;simp (disch:=first|exact za|fail) only [go_sem,seval,E];refine .qT rfl ?_;refine .q ?_;refine .open [12] follows (by kernel_rfl) ?_;simp (disch:=first|exact za|fail) only [go_sem,seval,E,hn];refine CallD.still (fun R h=>zh6 _ _ hr hop _ R h) ?_;simp (disch:=first|exact za|fail) only [go_sem,seval,E];refine .qt rfl ?_;simp (disch:=first|exact za|fail) only [go_sem,seval,E]
   first | (refine ihE _ _ ?_ trivial ?_) | (refine .z rfl ?_;refine ihE _ _ ?_ trivial ?_) | (refine .z rfl ?_;refine .z rfl ?_;refine ihE _ _ ?_ trivial ?_) | (refine .z rfl ?_;refine .z rfl ?_;refine .z rfl ?_;refine ihE _ _ ?_ trivial ?_)
   · simp (disch:=first|exact za|fail) only [go_sem,seval,E,zbi]<;>(repeat' (first | rfl | refine And.intro ?_ ?_))
   · first | rfl | (simp (disch:=first|exact za|fail) only [go_sem,seval,E,zbi]<;>(try rfl))

set_option maxHeartbeats 4000000 in
theorem zdo (cols:List (List U)) (hl:cols.length≤1000) (r:Nat) (hr : ∀ i,i < cols.length → r < (nth cols i).length) (H:Hp) (R:AV → Hp → Prop) (h:R (.p (.sl false 1 (pl zg (yS cols r)))) H) :
 ACall Tryz.prog G 61 [.p (.sl false 1 (pl (ym 1 zg) cols)),.p (i64 r)] H R:=by
 refine ACall.of_run (raw:=[]) Tryz.func61 rfl Tryz.ntmps61 (by simp) fun hbel => ?_
 refine .qt rfl ?_;simp (disch:=first|exact za|fail) only [go_sem,seval];refine .qt rfl ?_;simp (disch:=first|exact za|fail) only [go_sem,seval];refine .q ?_;refine .own 5 (by simp (disch:=first|exact za|fail) only [go_sem,seval];rfl) ?_;refine .qt rfl ?_;simp (disch:=first|exact za|fail) only [go_sem,seval];refine .q ?_;refine .loopE [0,1] (fun i=>[(5,.sl H.n i 1 (pl zg (tab (fun i=>nth (nth cols i) r) i))),(6,.p (i64 i))]) (fun i=>[(H.n,.tail i)]) (fun i=>True) (0) (cols.length) (by omega) ?_ (by first | rfl | (simp (disch:=first|exact za|fail) only [go_sem,seval,yu]<;>rfl)) ?_ ?_ ?_
 · simp (disch:=first|exact za|fail) only [go_sem,seval,yu]<;>(repeat' (first | rfl | refine And.intro ?_ ?_))
 · exact trivial
 intro env E hQ;simp (disch:=first|exact za|fail) only [go_sem,seval,yu] at E
 rotate_left 1
 intro i env hi0 hi E hQ ihE;simp (disch:=first|exact za|fail) only [go_sem,seval,yu] at E
 rotate_left 1
 · refine .qt rfl ?_;simp (disch:=first|exact za|fail) only [go_sem,seval,E];refine .qF rfl ?_;refine .qt rfl ?_;simp (disch:=first|exact za|fail) only [go_sem,seval,E];refine .qr rfl Tryz.func61 (by rw [Tryz.results61]) ?_;simp (disch:=first|exact za|fail) only [go_sem,seval];exact h
 · have hri:=hr i hi;refine .qt rfl ?_;simp (disch:=first|exact za|fail) only [go_sem,seval,E];refine .qT rfl ?_;refine .qt rfl ?_;simp (disch:=first|exact za|fail) only [go_sem,seval,E];refine .qt rfl ?_;simp (disch:=first|exact za|fail) only [go_sem,seval,E]
   first | (refine ihE _ _ ?_ trivial ?_) | (refine .z rfl ?_;refine ihE _ _ ?_ trivial ?_) | (refine .z rfl ?_;refine .z rfl ?_;refine ihE _ _ ?_ trivial ?_) | (refine .z rfl ?_;refine .z rfl ?_;refine .z rfl ?_;refine ihE _ _ ?_ trivial ?_)
   · simp (disch:=first|exact za|fail) only [go_sem,seval,E,zbi]<;>(repeat' (first | rfl | refine And.intro ?_ ?_))
   · first | rfl | (simp (disch:=first|exact za|fail) only [go_sem,seval,E,zbi]<;>(try rfl))

set_option maxHeartbeats 4000000 in
theorem zgp (j:Nat) (hj:j≤16) (H:Hp) (R:AV → Hp → Prop) (h:R (.p (i64 j)) H):ACall Tryz.prog G 120 [.p (i64 (2 ^ j:Nat))] H R:=by
 refine ACall.of_run (raw:=[]) Tryz.func120 rfl Tryz.ntmps120 (by simp) fun hbel => ?_
 refine .qt rfl ?_;simp (disch:=first|exact za|fail) only [go_sem,seval];refine .qt rfl ?_;simp (disch:=first|exact za|fail) only [go_sem,seval];refine .q ?_;refine .loopE [0] (fun k=>[(3,.p (i64 k))]) (fun k=>[]) (fun k=>True) (0) (j) (by omega) ?_ (by first | rfl | (simp (disch:=first|exact za|fail) only [go_sem,seval]<;>rfl)) ?_ ?_ ?_
 · simp (disch:=first|exact za|fail) only [go_sem,seval]<;>(repeat' (first | rfl | refine And.intro ?_ ?_))
 · exact trivial
 intro env E hQ;simp (disch:=first|exact za|fail) only [go_sem,seval] at E
 rotate_left 1
 intro k env hk0 hk E hQ ihE;simp (disch:=first|exact za|fail) only [go_sem,seval] at E
 rotate_left 1
 · refine .qt rfl ?_;simp (disch:=first|exact za|fail) only [go_sem,seval,E];refine .qT rfl ?_;refine .qt rfl ?_;simp (disch:=first|exact za|fail) only [go_sem,seval,E,zEp,beq_self_eq_true];refine .qT rfl ?_;refine .qt rfl ?_;simp (disch:=first|exact za|fail) only [go_sem,seval,E];refine .qr rfl Tryz.func120 (by rw [Tryz.results120]) ?_;simp (disch:=first|exact za|fail) only [go_sem,seval];exact h
 · have hne:(((2 ^ j:Nat):Int) == ((2 ^ k:Nat):Int))=false:=by
    have:2 ^ k < 2 ^ j:=Nat.pow_lt_pow_right (by omega) hk
    simp only [beq_eq_false_iff_ne];omega
   refine .qt rfl ?_;simp (disch:=first|exact za|fail) only [go_sem,seval,E];refine .qT rfl ?_;refine .qt rfl ?_;simp (disch:=first|exact za|fail) only [go_sem,seval,E,zEp,hne];refine .qF rfl ?_;refine .skip ?_;refine .qt rfl ?_;simp (disch:=first|exact za|fail) only [go_sem,seval,E]
   first | (refine ihE _ _ ?_ trivial ?_) | (refine .z rfl ?_;refine ihE _ _ ?_ trivial ?_) | (refine .z rfl ?_;refine .z rfl ?_;refine ihE _ _ ?_ trivial ?_) | (refine .z rfl ?_;refine .z rfl ?_;refine .z rfl ?_;refine ihE _ _ ?_ trivial ?_)
   · simp (disch:=first|exact za|fail) only [go_sem,seval,E]<;>(repeat' (first | rfl | refine And.intro ?_ ?_))
   · first | rfl | (simp (disch:=first|exact za|fail) only [go_sem,seval,E]<;>(try rfl))
end walks
end Go.Proofs.YthaoifcebimkfaaGreatDoor

namespace Go.Proofs.YthaoifcebimkfaaGreatDoor
open Go Go.AL

structure Fits (c:Circ) (cols:List (List U)) (N:Nat):Prop where
 n:(cols.length:Int)=c.inputs
 len : ∀ i,i < cols.length → (nth cols i).length=N

def y9 (c:Circ) (cols:List (List U)) (r:Nat):List U:=zb4 c (yS cols r) c.layers.length
def yc (c:Circ) (cols:List (List U)):Nat → List U
 | 0=>List.replicate c.sums.toNat 0#64
 | r+1=>tab (fun i=>zbC (nth (yc c cols r) i) (nth (y9 c cols r) i)) c.sums.toNat
theorem zcD {c:Circ} {cols:List (List U)} : ∀ r,(yc c cols r).length=c.sums.toNat
 | 0=>by simp [yc]
 | r+1=>y7
def sumP (a v:List U) (i n:Nat):List U:=tab (fun t=>if t < i then zbC (nth a t) (nth v t) else nth a t) n
theorem zjJ {a v:List U} {n:Nat} (h:a.length=n):sumP a v 0 n=a:=zfc (by rw [sumP,y7,h]) fun i hi=>by
 rw [sumP,y7] at hi;rw [sumP,yb hi,if_neg (by omega)]
theorem zft {a v:List U} {i n:Nat}:(sumP a v i n).length=n:=y7
theorem zsH {a v:List U} {i n:Nat} (h:i < n):nth (sumP a v i n) i=nth a i:=by rw [sumP,yb h,if_neg (by omega)]
theorem zjK {a v:List U} {i n:Nat} (h:i < n):(sumP a v i n).set i (zbC (nth a i) (nth v i))=sumP a v (i+1) n:=zfc (by simp [sumP,tab]) fun j hj=>by
 rw [List.length_set,zft] at hj;by_cases e:i=j
 · subst e;rw [zbU rfl (by rw [zft];exact h),sumP,yb hj,if_pos (by omega)]
 · rw [zbV e,sumP,sumP,yb hj,yb hj];by_cases e2:j < i
   · rw [if_pos e2,if_pos (by omega)]
   · rw [if_neg e2,if_neg (by omega)]
theorem znC {a v:List U} {n:Nat}:sumP a v n n=tab (fun t=>zbC (nth a t) (nth v t)) n:=zvP fun i hi=>by rw [if_pos hi]

def nzB (out:List U) (s:Nat):Bool:=(fst? (fun i=>decide (s≤i) && nth out i != 0#64) out.length).isSome
def zc9 (c:Circ) (cols:List (List U)) (N:Nat):Option Nat:=fst? (fun r=>nzB (y9 c cols r) c.sums.toNat) N
def zHn (o:Option Nat):Int:=match o with | some r=>r | none=>0
theorem zAR {out:List U} {s i:Nat} (h1:s≤i) (h2:i < out.length) (h3:nth out i≠0#64):nzB out s=true:=by
 unfold nzB
 cases hf:fst? (fun i=>decide (s≤i) && nth out i != 0#64) out.length with
 | some j=>rfl
 | none =>
  have:=zbj.1 hf i h2
  simp [h1,h3] at this
theorem zjL {out:List U} {s:Nat} (h : ∀ i,s≤i → i < out.length → nth out i=0#64):nzB out s=false:=by
 unfold nzB
 cases hf:fst? (fun i=>decide (s≤i) && nth out i != 0#64) out.length with
 | none=>rfl
 | some j =>
  obtain⟨h1,h2,_⟩:=znt.1 hf
  simp only [Bool.and_eq_true,decide_eq_true_eq,bne_iff_ne] at h2;exact absurd (h j h2.1 h1) h2.2

theorem znD {out:List U} {s:Nat} (h:nzB out s=false) : ∀ i,s≤i → i < out.length → nth out i=0#64:=fun i h1 h2=>by
 by_cases h3:nth out i=0#64
 · exact h3
 · rw [zAR h1 h2 h3] at h;cases h
section walks
variable {G:Globs}

set_option maxHeartbeats 4000000 in
theorem zk1 (c:Circ) (hc:Ok c) (cols:List (List U)) (j:Nat) (hj:j≤16) (hf:Fits c cols (2 ^ j)) (H:Hp) (R:AV → Hp → Prop) (h:R (.p (bo true)) H) :
 ACall Tryz.prog G 63 [.p (za2 c),.p (.sl false 1 (pl (ym 1 zg) cols))] H R:=by
 refine ACall.of_run (raw:=[]) Tryz.func63 rfl Tryz.ntmps63 (by simp) fun hbel => ?_
 have hn:=hf.n;have hi:=hc.inp
 have h1:((cols.length:Int) != c.inputs)=false:=by rw [hn];simp
 have h2:((cols.length:Int) == 0)=false:=by rw [beq_eq_false_iff_ne];omega
 have h3:decide ((j:Int) < 0)=false:=by simp
 have h4:=hf.len 0 (by omega);refine .qt rfl ?_;simp (disch:=first|exact za|fail) only [go_sem,seval];refine .qt rfl ?_;simp (disch:=first|exact za|fail) only [go_sem,seval,h1,h2,h4];refine CallK.of (fun R h=>zgp j hj _ R h) ?_;simp (disch:=first|exact za|fail) only [go_sem,seval,h3];refine .qF rfl ?_;refine .skip ?_;refine .qt rfl ?_;simp (disch:=first|exact za|fail) only [go_sem,seval];refine .q ?_;refine .loopE [1] (fun i=>[(5,.p (i64 i))]) (fun i=>[]) (fun i=>True) (0) (cols.length) (by omega) ?_ (by first | rfl | (simp (disch:=first|exact za|fail) only [go_sem,seval]<;>rfl)) ?_ ?_ ?_
 · simp (disch:=first|exact za|fail) only [go_sem,seval]<;>(repeat' (first | rfl | refine And.intro ?_ ?_))
 · exact trivial
 intro env E hQ;simp (disch:=first|exact za|fail) only [go_sem,seval] at E
 rotate_left 1
 intro i env hi0 hi E hQ ihE;simp (disch:=first|exact za|fail) only [go_sem,seval] at E
 rotate_left 1
 · refine .qt rfl ?_;simp (disch:=first|exact za|fail) only [go_sem,seval,E];refine .qF rfl ?_;refine .qt rfl ?_;simp (disch:=first|exact za|fail) only [go_sem,seval,E];refine .qr rfl Tryz.func63 (by rw [Tryz.results63]) ?_;simp (disch:=first|exact za|fail) only [go_sem,seval];exact h
 · have h5:=hf.len i hi;refine .qt rfl ?_;simp (disch:=first|exact za|fail) only [go_sem,seval,E];refine .qT rfl ?_;refine .q ?_;refine .open [] follows (by kernel_rfl) ?_;simp (disch:=first|exact za|fail) only [go_sem,seval,E,h4,h5,bne_self_eq_false];refine .qF rfl ?_;refine .skip ?_;refine .qt rfl ?_;simp (disch:=first|exact za|fail) only [go_sem,seval,E]
   first | (refine ihE _ _ ?_ trivial ?_) | (refine .z rfl ?_;refine ihE _ _ ?_ trivial ?_) | (refine .z rfl ?_;refine .z rfl ?_;refine ihE _ _ ?_ trivial ?_) | (refine .z rfl ?_;refine .z rfl ?_;refine .z rfl ?_;refine ihE _ _ ?_ trivial ?_)
   · simp (disch:=first|exact za|fail) only [go_sem,seval,E]<;>(repeat' (first | rfl | refine And.intro ?_ ?_))
   · first | rfl | (simp (disch:=first|exact za|fail) only [go_sem,seval,E]<;>(try rfl))

set_option maxHeartbeats 4000000 in
theorem zeu (c:Circ) (hv:Vd c) (cols:List (List U)) (j:Nat) (hj:j≤16) (hf:Fits c cols (2 ^ j)) (H:Hp) (R:AV → Hp → Prop) (h:R (.tup [.p (.sl false 1 (pl zg (yc c cols (2 ^ j)))),.p (i64 0)]) H) :
 ACall Tryz.prog G 23 [.p (za2 c),.p (.sl false 1 (pl (ym 1 zg) cols))] H R:=by
 refine ACall.of_run (raw:=[]) Tryz.func23 rfl Tryz.ntmps23 (by simp) fun hbel => ?_
 have hc:=hv.ok;have hn:=hf.n;have hi:=hc.inp;have hs0:=hc.sums;have hl0:=hc.len;have hsm:=hv.sm
 obtain⟨s,hs⟩ : ∃ s:Nat,c.sums=s:=⟨c.sums.toNat,by omega⟩
 have hst:c.sums.toNat=s:=by omega
 have hcirc:(⟨c.inputs,c.layers,(s:Int)⟩:Circ)=c:=by rw [←hs]
 have h4:=hf.len 0 (by omega)
 obtain⟨N,hN⟩ : ∃ N,2 ^ j=N:=⟨_,rfl⟩
 have hNb:N≤65536:=by rw [←hN];exact Nat.pow_le_pow_right (n:=2) (by omega) hj
 have hz:List.replicate s 0#64=yc c cols 0:=by rw [yc,hst]
 refine .qt rfl ?_;simp (disch:=first|exact za|fail) only [go_sem,seval];refine .qt rfl ?_;simp (disch:=first|exact za|fail) only [go_sem,seval];refine CallK.of (fun R h=>zdQ c hv _ R h) ?_;simp (disch:=first|exact za|fail) only [go_sem,seval];refine .qt rfl ?_;simp (disch:=first|exact za|fail) only [go_sem,seval];refine .qF rfl ?_;refine .skip ?_;refine .qt rfl ?_;simp (disch:=first|exact za|fail) only [go_sem,seval];refine CallK.of (fun R h=>zk1 c hc cols j hj hf _ R h) ?_;simp (disch:=first|exact za|fail) only [go_sem,seval];refine .qF rfl ?_;refine .skip ?_;rw [hN] at h h4;refine .qt rfl ?_;simp (disch:=first|exact za|fail) only [go_sem,seval,hs,hz];refine .qt rfl ?_;simp (disch:=first|exact za|fail) only [go_sem,seval];refine .q ?_;refine .loopE [1,2,7] (fun r=>[(8,.p (i64 r))]) (fun r=>[(H.n+1,.cells (cl zg (yc c cols r)))]) (fun r=>True) (0) (N) (by omega) ?_ (by first | rfl | (simp (disch:=first|exact za|fail) only [go_sem,seval]<;>rfl)) ?_ ?_ ?_
 · simp (disch:=first|exact za|fail) only [go_sem,seval]<;>(repeat' (first | rfl | refine And.intro ?_ ?_))
 · exact trivial
 intro env E hQ;simp (disch:=first|exact za|fail) only [go_sem,seval] at E
 rotate_left 1
 intro r env hr0 hr E hQ ihE;simp (disch:=first|exact za|fail) only [go_sem,seval] at E
 rotate_left 1
 · refine .qt rfl ?_;simp (disch:=first|exact za|fail) only [go_sem,seval,E,h4];refine .qF rfl ?_;have hsl:=zcD (c:=c) (cols:=cols) N;rw [hst] at hsl;refine .q ?_;refine .frzS 7 (by simp (disch:=first|exact za|fail) only [go_sem,seval,E];rfl) (by simp (disch:=first|exact za|fail) only [go_sem,seval,E]<;>rfl) (fun _=>rfl) (by first | exact za | fail) ?_;(try simp (disch:=first|exact za|fail) only [go_sem,seval,E]);refine .qt rfl ?_;simp (disch:=first|exact za|fail) only [go_sem,seval,E];refine .qr rfl Tryz.func23 (by rw [Tryz.results23]) (hx:=by simp (disch:=first|exact za|fail) only [go_sem,seval,List.take_length];rfl) ?_;simp (disch:=first|exact za|fail) only [go_sem,seval,List.take_length];exact h
 · have hsl:=zcD (c:=c) (cols:=cols) r;rw [hst] at hsl;have hout:y9 c cols r=zb4 c (yS cols r) c.layers.length:=rfl
   have hol:(y9 c cols r).length=(nth c.layers (c.layers.length - 1)).length:=by
    rw [hout,show c.layers.length=c.layers.length - 1+1 by omega,zdS,Nat.add_sub_cancel]
   have hx:((c.layers.length:Int)+1 - 1).toNat=c.layers.length:=by omega
   have hrw:nth (tab (zb4 c (yS cols r)) (c.layers.length+1)) c.layers.length=y9 c cols r:=yb (by omega)
   have hsucc:yc c cols (r+1)=sumP (yc c cols r) (y9 c cols r) s s:=by rw [znC,yc,hst]
   have hp0:yc c cols r=sumP (yc c cols r) (y9 c cols r) 0 s:=(zjJ hsl).symm;refine .qt rfl ?_;simp (disch:=first|exact za|fail) only [go_sem,seval,E,h4];refine .qT rfl ?_;refine .q ?_;refine .open [] follows (by kernel_rfl) ?_;simp (disch:=first|exact za|fail) only [go_sem,seval,E,hcirc];refine CallD.still (fun R h=>zdo cols (by omega) r (fun i hi=>by have:=hf.len i hi;omega) _ R h) ?_;simp (disch:=first|exact za|fail) only [go_sem,seval,E,hcirc];refine CallD.still (fun R h=>zc8 c hc (yS cols r) (by rw [zc7];exact hn) _ R h) ?_;simp (disch:=first|exact za|fail) only [go_sem,seval,E];refine .qt rfl ?_;simp (disch:=first|exact za|fail) only [go_sem,seval,E]
   (repeat refine .zs rfl ?_);refine .cutE [1,2,7,8] [] [(H.n+1,.cells (cl zg (yc c cols (r+1))))] (fun ihJ => ?_) (fun env J => ?_)
   rotate_left 1
   simp (disch:=first|exact za|fail) only [go_sem,seval,E] at J
   rotate_left 1
   · refine .q ?_;refine .loopE [1,2,7,8,9] (fun i=>[(10,.p (i64 i))]) (fun i=>[(H.n+1,.cells (cl zg (sumP (yc c cols r) (y9 c cols r) i s)))]) (fun i=>True) (0) (s) (by omega) ?_ (by first | rfl | (simp (disch:=first|exact za|fail) only [go_sem,seval,E,←hp0]<;>rfl)) ?_ ?_ ?_
     · simp (disch:=first|exact za|fail) only [go_sem,seval,E,←hp0]<;>(repeat' (first | rfl | refine And.intro ?_ ?_))
     · exact trivial
     intro env K hQ;simp (disch:=first|exact za|fail) only [go_sem,seval,E,←hp0] at K
     rotate_left 1
     intro i env hi0 hi K hQ ihK;simp (disch:=first|exact za|fail) only [go_sem,seval,E,←hp0] at K
     rotate_left 1
     · refine .qt rfl ?_;simp (disch:=first|exact za|fail) only [go_sem,seval,K,hs];refine .qF rfl ?_
       first | (refine ihJ _ _ ?_ ?_) | (refine .z rfl ?_;refine ihJ _ _ ?_ ?_) | (refine .z rfl ?_;refine .z rfl ?_;refine ihJ _ _ ?_ ?_) | (refine .z rfl ?_;refine .z rfl ?_;refine .z rfl ?_;refine ihJ _ _ ?_ ?_)
       · simp (disch:=first|exact za|fail) only [go_sem,seval,K,E,hsucc]<;>(repeat' (first | rfl | refine And.intro ?_ ?_))
       · first | rfl | (simp (disch:=first|exact za|fail) only [go_sem,seval,K,E,hsucc]<;>(try rfl))
     · have hpl:(sumP (yc c cols r) (y9 c cols r) i s).length=s:=zft;have hat:=zsH (a:=yc c cols r) (v:=y9 c cols r) hi;have hset:=zjK (a:=yc c cols r) (v:=y9 c cols r) hi;refine .qt rfl ?_;simp (disch:=first|exact za|fail) only [go_sem,seval,K,hs];refine .qT rfl ?_;refine .q ?_;refine .open [17] follows (by kernel_rfl) ?_;simp (disch:=first|exact za|fail) only [go_sem,seval,K,hx,hrw,hat];refine CallD.still (fun R h=>zaD _ _ _ R h) ?_;simp (disch:=first|exact za|fail) only [go_sem,seval,K,hset];refine .qt rfl ?_;simp (disch:=first|exact za|fail) only [go_sem,seval,K]
       first | (refine ihK _ _ ?_ trivial ?_) | (refine .z rfl ?_;refine ihK _ _ ?_ trivial ?_) | (refine .z rfl ?_;refine .z rfl ?_;refine ihK _ _ ?_ trivial ?_) | (refine .z rfl ?_;refine .z rfl ?_;refine .z rfl ?_;refine ihK _ _ ?_ trivial ?_)
       · simp (disch:=first|exact za|fail) only [go_sem,seval,K,E]<;>(repeat' (first | rfl | refine And.intro ?_ ?_))
       · first | rfl | (simp (disch:=first|exact za|fail) only [go_sem,seval,K,E]<;>(try rfl))
   refine .qt rfl ?_;simp (disch:=first|exact za|fail) only [go_sem,seval,J]
   first | (refine ihE _ _ ?_ trivial ?_) | (refine .z rfl ?_;refine ihE _ _ ?_ trivial ?_) | (refine .z rfl ?_;refine .z rfl ?_;refine ihE _ _ ?_ trivial ?_) | (refine .z rfl ?_;refine .z rfl ?_;refine .z rfl ?_;refine ihE _ _ ?_ trivial ?_)
   · simp (disch:=first|exact za|fail) only [go_sem,seval,J,E]<;>(repeat' (first | rfl | refine And.intro ?_ ?_))
   · first | rfl | (simp (disch:=first|exact za|fail) only [go_sem,seval,J,E]<;>(try rfl))

set_option maxHeartbeats 4000000 in
theorem zb5 (c:Circ) (hv:Vd c) (cols:List (List U)) (N:Nat) (hN:N≤65536) (hf:Fits c cols N) (H:Hp) (R:AV → Hp → Prop) (h:R (.tup [.p (i64 (zHn (zc9 c cols N))),.p (bo (zc9 c cols N).isSome)]) H) :
 ACall Tryz.prog G 22 [.p (za2 c),.p (.sl false 1 (pl (ym 1 zg) cols))] H R:=by
 refine ACall.of_run (raw:=[]) Tryz.func22 rfl Tryz.ntmps22 (by simp) fun hbel => ?_
 have hc:=hv.ok;have hn:=hf.n;have hi:=hc.inp;have hs0:=hc.sums;have hl0:=hc.len;have hsm:=hv.sm
 obtain⟨s,hs⟩ : ∃ s:Nat,c.sums=s:=⟨c.sums.toNat,by omega⟩
 have hst:c.sums.toNat=s:=by omega
 have hcirc:(⟨c.inputs,c.layers,(s:Int)⟩:Circ)=c:=by rw [←hs]
 have h4:=hf.len 0 (by omega);refine .qt rfl ?_;simp (disch:=first|exact za|fail) only [go_sem,seval];refine .qt rfl ?_;simp (disch:=first|exact za|fail) only [go_sem,seval];refine .q ?_;refine .loopE [1,2] (fun r=>[(6,.p (i64 r))]) (fun r=>[]) (fun r => ∀ q,q < r → nzB (y9 c cols q) s=false) (0) (N) (by omega) ?_ (by first | rfl | (simp (disch:=first|exact za|fail) only [go_sem,seval]<;>rfl)) ?_ ?_ ?_
 · simp (disch:=first|exact za|fail) only [go_sem,seval]<;>(repeat' (first | rfl | refine And.intro ?_ ?_))
 rotate_left 1
 intro env E hQ;simp (disch:=first|exact za|fail) only [go_sem,seval] at E
 rotate_left 1
 intro r env hr0 hr E hQ ihE;simp (disch:=first|exact za|fail) only [go_sem,seval] at E
 rotate_left 1
 · exact fun q hq=>absurd hq (by omega)
 · rw [zc9,hst,zbj.2 hQ] at h;refine .qt rfl ?_;simp (disch:=first|exact za|fail) only [go_sem,seval,E,h4];refine .qF rfl ?_;refine .qt rfl ?_;simp (disch:=first|exact za|fail) only [go_sem,seval];refine .qr rfl Tryz.func22 (by rw [Tryz.results22]) ?_;simp (disch:=first|exact za|fail) only [go_sem,seval];exact h
 · have hout:y9 c cols r=zb4 c (yS cols r) c.layers.length:=rfl
   have hol:(y9 c cols r).length=(nth c.layers (c.layers.length - 1)).length:=by
    rw [hout,show c.layers.length=c.layers.length - 1+1 by omega,zdS,Nat.add_sub_cancel]
   have hor:=(hc.row (c.layers.length - 1) (by omega)).2
   have hx:((c.layers.length:Int)+1 - 1).toNat=c.layers.length:=by omega
   have hrw:nth (tab (zb4 c (yS cols r)) (c.layers.length+1)) c.layers.length=y9 c cols r:=yb (by omega);have hQr:=hQ;refine .qt rfl ?_;simp (disch:=first|exact za|fail) only [go_sem,seval,E,h4];refine .qT rfl ?_;refine .q ?_;refine .open [] follows (by kernel_rfl) ?_;simp (disch:=first|exact za|fail) only [go_sem,seval,E,hcirc];refine CallD.still (fun R h=>zdo cols (by omega) r (fun i hi=>by have:=hf.len i hi;omega) _ R h) ?_;simp (disch:=first|exact za|fail) only [go_sem,seval,E,hcirc];refine CallD.still (fun R h=>zc8 c hc (yS cols r) (by rw [zc7];exact hn) _ R h) ?_;simp (disch:=first|exact za|fail) only [go_sem,seval,E];refine .qt rfl ?_;simp (disch:=first|exact za|fail) only [go_sem,seval,E,hx,hrw];refine .qt rfl ?_;simp (disch:=first|exact za|fail) only [go_sem,seval,E,hs]
   have hlen:s≤(y9 c cols r).length:=by omega
   cases hnz:nzB (y9 c cols r) s with
   | false =>
    have hz:=znD hnz
    (repeat refine .zs rfl ?_);refine .cutE [1,2,6] [] [] (fun ihJ => ?_) (fun env J => ?_)
    rotate_left 1
    simp (disch:=first|exact za|fail) only [go_sem,seval,E] at J
    rotate_left 1
    · refine .q ?_;refine .loopE [1,2,6,8] (fun i=>[(9,.p (i64 i))]) (fun i=>[]) (fun i=>True) (s) ((y9 c cols r).length) (by omega) ?_ (by first | rfl | (simp (disch:=first|exact za|fail) only [go_sem,seval,E]<;>rfl)) ?_ ?_ ?_
      · simp (disch:=first|exact za|fail) only [go_sem,seval,E]<;>(repeat' (first | rfl | refine And.intro ?_ ?_))
      · exact trivial
      intro env K hQ;simp (disch:=first|exact za|fail) only [go_sem,seval,E] at K
      rotate_left 1
      intro i env hi0 hi K hQ ihK;simp (disch:=first|exact za|fail) only [go_sem,seval,E] at K
      rotate_left 1
      · refine .qt rfl ?_;simp (disch:=first|exact za|fail) only [go_sem,seval,K];refine .qF rfl ?_
        first | (refine ihJ _ _ ?_ ?_) | (refine .z rfl ?_;refine ihJ _ _ ?_ ?_) | (refine .z rfl ?_;refine .z rfl ?_;refine ihJ _ _ ?_ ?_) | (refine .z rfl ?_;refine .z rfl ?_;refine .z rfl ?_;refine ihJ _ _ ?_ ?_)
        · simp (disch:=first|exact za|fail) only [go_sem,seval,K,E]<;>(repeat' (first | rfl | refine And.intro ?_ ?_))
        · first | rfl | (simp (disch:=first|exact za|fail) only [go_sem,seval,K,E]<;>(try rfl))
      · have hzi:(nth (y9 c cols r) i != 0#64)=false:=by rw [hz i hi0 hi];rfl
        refine .qt rfl ?_;simp (disch:=first|exact za|fail) only [go_sem,seval,K];refine .qT rfl ?_;refine .qt rfl ?_;simp (disch:=first|exact za|fail) only [go_sem,seval,K,hzi];refine .qF rfl ?_;refine .skip ?_;refine .qt rfl ?_;simp (disch:=first|exact za|fail) only [go_sem,seval,K]
        first | (refine ihK _ _ ?_ trivial ?_) | (refine .z rfl ?_;refine ihK _ _ ?_ trivial ?_) | (refine .z rfl ?_;refine .z rfl ?_;refine ihK _ _ ?_ trivial ?_) | (refine .z rfl ?_;refine .z rfl ?_;refine .z rfl ?_;refine ihK _ _ ?_ trivial ?_)
        · simp (disch:=first|exact za|fail) only [go_sem,seval,K,E]<;>(repeat' (first | rfl | refine And.intro ?_ ?_))
        · first | rfl | (simp (disch:=first|exact za|fail) only [go_sem,seval,K,E]<;>(try rfl))
    have hqq : ∀ q,q < r+1 → nzB (y9 c cols q) s=false:=fun q hq=>by
     rcases Nat.lt_or_ge q r with h1 | h1
     · exact hQr q h1
     · have:q=r:=by omega
       rw [this];exact hnz
    refine .qt rfl ?_;simp (disch:=first|exact za|fail) only [go_sem,seval,J]
    first | (refine ihE _ _ ?_ hqq ?_) | (refine .z rfl ?_;refine ihE _ _ ?_ hqq ?_) | (refine .z rfl ?_;refine .z rfl ?_;refine ihE _ _ ?_ hqq ?_) | (refine .z rfl ?_;refine .z rfl ?_;refine .z rfl ?_;refine ihE _ _ ?_ hqq ?_)
    · simp (disch:=first|exact za|fail) only [go_sem,seval,J,E,hs]<;>(repeat' (first | rfl | refine And.intro ?_ ?_))
    · first | rfl | (simp (disch:=first|exact za|fail) only [go_sem,seval,J,E,hs]<;>(try rfl))
   | true =>
    have hfound:zc9 c cols N=some r:=by rw [zc9,hst];exact znt.2 ⟨hr,hnz,hQr⟩
    rw [hfound] at h;refine .q ?_;refine .loopE [1,2,6,8] (fun i=>[(9,.p (i64 i))]) (fun i=>[]) (fun i => ∀ q,s≤q → q < i → nth (y9 c cols r) q=0#64) (s) ((y9 c cols r).length) (by omega) ?_ (by first | rfl | (simp (disch:=first|exact za|fail) only [go_sem,seval,E]<;>rfl)) ?_ ?_ ?_
    · simp (disch:=first|exact za|fail) only [go_sem,seval,E]<;>(repeat' (first | rfl | refine And.intro ?_ ?_))
    rotate_left 1
    intro env K hQ;simp (disch:=first|exact za|fail) only [go_sem,seval,E] at K
    rotate_left 1
    intro i env hi0 hi K hQ ihK;simp (disch:=first|exact za|fail) only [go_sem,seval,E] at K
    rotate_left 1
    · exact fun q h1 h2=>absurd h2 (by omega)
    · rw [zjL fun q h1 h2=>hQ q h1 h2] at hnz;cases hnz
    · refine .qt rfl ?_;simp (disch:=first|exact za|fail) only [go_sem,seval,K];refine .qT rfl ?_;by_cases hzi:nth (y9 c cols r) i=0#64
      · have hzb:(nth (y9 c cols r) i != 0#64)=false:=by rw [hzi];rfl
        refine .qt rfl ?_;simp (disch:=first|exact za|fail) only [go_sem,seval,K,hzb];refine .qF rfl ?_;refine .skip ?_;refine .qt rfl ?_;simp (disch:=first|exact za|fail) only [go_sem,seval,K]
        have hqq : ∀ q,s≤q → q < i+1 → nth (y9 c cols r) q=0#64:=fun q h1 h2=>by
         rcases Nat.lt_or_ge q i with h3 | h3
         · exact hQ q h1 h3
         · have:q=i:=by omega
           rw [this];exact hzi
        first | (refine ihK _ _ ?_ hqq ?_) | (refine .z rfl ?_;refine ihK _ _ ?_ hqq ?_) | (refine .z rfl ?_;refine .z rfl ?_;refine ihK _ _ ?_ hqq ?_) | (refine .z rfl ?_;refine .z rfl ?_;refine .z rfl ?_;refine ihK _ _ ?_ hqq ?_)
        · simp (disch:=first|exact za|fail) only [go_sem,seval,K,E,hs]<;>(repeat' (first | rfl | refine And.intro ?_ ?_))
        · first | rfl | (simp (disch:=first|exact za|fail) only [go_sem,seval,K,E,hs]<;>(try rfl))
      · have hzb:(nth (y9 c cols r) i != 0#64)=true:=by simpa using hzi
        refine .qt rfl ?_;simp (disch:=first|exact za|fail) only [go_sem,seval,K,hzb];refine .qT rfl ?_;refine .qt rfl ?_;simp (disch:=first|exact za|fail) only [go_sem,seval,K];refine .qr rfl Tryz.func22 (by rw [Tryz.results22]) ?_;simp (disch:=first|exact za|fail) only [go_sem,seval];exact h
end walks
end Go.Proofs.YthaoifcebimkfaaGreatDoor

namespace Go.Proofs.YthaoifcebimkfaaGreatDoor
open Go Go.AL

structure NF (b:Bool) (p:List Gate) (x:Gate):Prop where
 l0:zer x=false → x.l=0
 r0:zcx x=false → x.r=0
 rl:zcx x=true → zer x=true∧x.l≤x.r
 eq:x.l=x.r → x.b=0#64
 kl:b=false → zer x=true → zsE (nth p x.l.toNat)=false
 kr:b=false → zcx x=true → zsE (nth p x.r.toNat)=false









end Go.Proofs.YthaoifcebimkfaaGreatDoor

namespace Go.Proofs.YthaoifcebimkfaaGreatDoor
open Go Go.AL

def Dif (l:List Gate):Prop := ∀ i j,i < l.length → j < i → nth l i≠nth l j

theorem zqU {l:List Gate} {g:Gate}:zdN l g=none ↔ ∀ i,i < l.length → nth l i≠g:=by
 unfold zdN;rw [zbj]
 exact⟨fun h i hi e=>by have:=h i hi;simp [e] at this,fun h i hi=>by simpa using h i hi⟩
theorem Dif.snoc {l:List Gate} {g:Gate} (h:Dif l) (hg:zdN l g=none):Dif (l++[g]):=by
 intro i j hi hj;simp only [List.length_append,List.length_cons,List.length_nil] at hi;by_cases e:i < l.length
 · rw [zv e,zv (by omega)];exact h i j e hj
 · rw [zm (by omega),show i - l.length=0 by omega,zw,zv (by omega)]
   exact fun e=>zqU.1 hg j (by omega) e.symm












structure Doubled (c d:Circ) (k:Nat):Prop where
 hk:k+1 < c.layers.length
 inp:d.inputs=c.inputs
 sums:d.sums=c.sums
 len:d.layers.length=c.layers.length
 same : ∀ j,j < c.layers.length → j≠k → j≠k+1 → nth d.layers j=nth c.layers j
 two:nth d.layers k=nth c.layers k++nth c.layers k
 nlen:(nth d.layers (k+1)).length=(nth c.layers (k+1)).length
 next : ∀ i,i < (nth c.layers (k+1)).length → ∃ a b:Bool,nth (nth d.layers (k+1)) i = { nth (nth c.layers (k+1)) i with
  l:=(nth (nth c.layers (k+1)) i).l+(if a then ((nth c.layers k).length:Int) else 0),r:=(nth (nth c.layers (k+1)) i).r+(if b then ((nth c.layers k).length:Int) else 0) }



end Go.Proofs.YthaoifcebimkfaaGreatDoor

namespace Go.Proofs.YthaoifcebimkfaaGreatDoor
open Go Go.AL










end Go.Proofs.YthaoifcebimkfaaGreatDoor

namespace Go.Proofs.YthaoifcebimkfaaGreatDoor
open Go Go.AL

abbrev FP:=Fin 18446744069414584321
def fe (x:U):FP:=Fin.ofNat _ x.toNat
theorem zdT (x:U):(fe x).val=x.toNat % 18446744069414584321:=rfl
theorem zqV {a b:U} (ha:valid a=true) (hb:valid b=true) (h:fe a=fe b):a=b:=by
 have h1:=yp.1 ha;have h2:=yp.1 hb
 have h3:(fe a).val=(fe b).val:=by rw [h]
 rw [zdT,zdT,Nat.mod_eq_of_lt h1,Nat.mod_eq_of_lt h2] at h3;exact BitVec.eq_of_toNat_eq h3
theorem zk2 {a b:U} (ha:valid a=true) (hb:valid b=true):fe (zbC a b)=fe a+fe b:=by
 apply Fin.ext;rw [Fin.val_add,zdT,zdT,zdT,zb3 ha hb,Nat.mod_mod,←Nat.add_mod]
theorem zk3 {a b:U} (ha:valid a=true) (hb:valid b=true):fe (zeQ a b)=fe a*fe b:=by
 apply Fin.ext;rw [Fin.val_mul,zdT,zdT,zdT,zfr ha hb,Nat.mod_mod,←Nat.mul_mod]

theorem znE {g:Gate} {l r:U} (hg:fvG g) (hl:valid l=true) (hr:valid r=true):valid (zdM g l r)=true :=
 zaz (zaz (zaz (yQ hg.1 (yQ hl hr)) (yQ hg.2.1 hl)) (yQ hg.2.2.1 hr)) hg.2.2.2
theorem zAS {g:Gate} {l r:U} (hg:fvG g) (hl:valid l=true) (hr:valid r=true):fe (zdM g l r)=fe g.c*(fe l*fe r)+fe g.a*fe l+fe g.b*fe r+fe g.d:=by
 have v1:=yQ hl hr;have v2:=yQ hg.1 v1;have v3:=yQ hg.2.1 hl;have v4:=yQ hg.2.2.1 hr;unfold zdM;rw [zk2 (zaz (zaz v2 v3) v4) hg.2.2.2,zk2 (zaz v2 v3) v4,zk2 v2 v3,zk3 hg.1 v1,zk3 hl hr,zk3 hg.2.1 hl,zk3 hg.2.2.1 hr]

def val (inp:List U) (g:Gate):U:=zdM g (nth inp g.l.toNat) (nth inp g.r.toNat)
def Fv (inp:List U):Prop := ∀ i,valid (nth inp i)=true
theorem Fv.of {inp:List U} (h : ∀ i,i < inp.length → valid (nth inp i)=true):Fv inp:=fun i=>by
 by_cases hi:i < inp.length
 · exact h i hi
 · have:nth inp i=default:=by simp [nth,show inp.length≤i by omega]
   rw [this];decide



end Go.Proofs.YthaoifcebimkfaaGreatDoor

namespace Go.Proofs.YthaoifcebimkfaaGreatDoor
open Go Go.AL

def gvU (k:Cf) (a b:U):U:=zdM ⟨0,0,fi k.c,fi k.a,fi k.b,fi k.d⟩ a b
def lkV (inp p:List U) (n:Nat):U:=if n < 29 then nth inp n else nth p (n - 29)
def zdq (s:List Nd) (inp:List U):Nat → List U
 | 0=>[]
 | j+1=>zdq s inp j++[gvU (nth s j).k (lkV inp (zdq s inp j) (nth s j).l) (lkV inp (zdq s inp j) (nth s j).r)]
def ndv (s:List Nd) (inp:List U) (n:Nat):U:=lkV inp (zdq s inp s.length) n
structure Wf (s:List Nd):Prop where
 op : ∀ j,j < s.length → (nth s j).l < 29+j∧(nth s j).r < 29+j
 lv : ∀ j,j < s.length → (nth s j).lv=1+max (lev s (nth s j).l) (lev s (nth s j).r)

theorem zfu (s:List Nd) (inp:List U) : ∀ j,(zdq s inp j).length=j
 | 0=>rfl
 | j+1=>by simp [zdq,zfu s inp j]
theorem zk4 {s:List Nd} {inp:List U} {i:Nat} : ∀ {m:Nat},i < m → nth (zdq s inp m) i=nth (zdq s inp (i+1)) i
 | m+1,h=>by
  by_cases e:i=m
  · rw [e]
  · rw [zdq,zv (by rw [zfu];omega)];exact zk4 (by omega)
theorem zk5 {s:List Nd} {inp:List U} {n m m':Nat} (h:n < 29+m) (h':n < 29+m'):lkV inp (zdq s inp m) n=lkV inp (zdq s inp m') n:=by
 unfold lkV
 split
 · rfl
 · rw [zk4 (show n - 29 < m by omega),zk4 (show n - 29 < m' by omega)]
theorem zqW {s:List Nd} {inp:List U} {n:Nat} (h:n < 29):ndv s inp n=nth inp n:=if_pos h
theorem zqX {s:List Nd} (hw:Wf s) {inp:List U} {j:Nat} (hj:j < s.length):ndv s inp (29+j)=gvU (nth s j).k (ndv s inp (nth s j).l) (ndv s inp (nth s j).r):=by
 have h1:=hw.op j hj;unfold ndv;rw [zk5 (m:=s.length) (m':=j+1) (by omega) (by omega)];rw [show lkV inp (zdq s inp (j+1)) (29+j)=nth (zdq s inp (j+1)) j by unfold lkV;rw [if_neg (by omega),Nat.add_sub_cancel_left],zdq,zm (by rw [zfu];omega),zfu,Nat.sub_self,zw];rw [zk5 (m:=j) (m':=s.length) h1.1 (by omega),zk5 (m:=j) (m':=s.length) h1.2 (by omega)]
theorem znF {s t:List Nd} (h:Exn s t) (inp:List U) : ∀ j,j≤s.length → zdq t inp j=zdq s inp j
 | 0,_=>rfl
 | j+1,hj=>by rw [zdq,zdq,znF h inp j (by omega),h.nth (by omega)]
theorem zfv {s t:List Nd} (h:Exn s t) {inp:List U} {n:Nat} (hn:n < 29+s.length):ndv t inp n=ndv s inp n:=by
 unfold ndv;rw [zk5 (m:=t.length) (m':=s.length) (by have:=h.len;omega) hn,znF h inp _ (Nat.le_refl _)]

theorem Wf.nil:Wf []:=⟨fun j h=>absurd h (Nat.not_lt_zero _),fun j h=>absurd h (Nat.not_lt_zero _)⟩
theorem zh7 {s:List Nd} (n:Nat) (h:n < 29):lev s n=0:=if_pos h
theorem Wf.add {s:List Nd} (hw:Wf s) {l r:Nat} (hl:l < 29+s.length) (hr:r < 29+s.length) (k:Cf):Wf (addN s l r k).2:=by
 have hx:Exn s (addN s l r k).2:=(yk l r k).ext s;rw [zaf] at hx ⊢
 split
 · exact hw
 · rename_i hp;rw [if_neg hp] at hx
   refine⟨fun j hj => ?_,fun j hj => ?_⟩
   · by_cases e:j < s.length
     · rw [hx.nth e];exact hw.op j e
     · have:j=s.length:=by simp at hj;omega
       subst this;rw [zm (Nat.le_refl _),Nat.sub_self,zw]
       exact⟨hl,hr⟩
   · by_cases e:j < s.length
     · have h1:=hw.op j e;rw [hx.nth e,hw.lv j e,hx.lev (by omega),hx.lev (by omega)]
     · have:j=s.length:=by simp at hj;omega
       subst this;rw [zm (Nat.le_refl _),Nat.sub_self,zw,hx.lev hl,hx.lev hr]
theorem zc {α:Type} [Inhabited α] {l:List α} {i:Nat} (h:i < l.length):nth l i=l[i]'h:=by simp [nth,h]
theorem zDn {s:List Nd} (hw:Wf s) {l r:Nat} (hl:l < 29+s.length) (hr:r < 29+s.length) (k:Cf) (inp:List U) :
 ndv (addN s l r k).2 inp (addN s l r k).1=gvU k (ndv s inp l) (ndv s inp r):=by
 have hx:Exn s (addN s l r k).2:=(yk l r k).ext s;have hw':=hw.add hl hr k
 have hn:yF s k l r < (addN s l r k).2.length∧nth (addN s l r k).2 (yF s k l r)=⟨k,l,r,(nth (addN s l r k).2 (yF s k l r)).lv⟩:=by
  have hle:=zgY s k l r;rw [zaf]
  split
  · rename_i hp
    refine⟨hp,?_⟩
    have hp':s.findIdx (fun x=>decide (x.k=k∧x.l=l∧x.r=r)) < s.length:=hp;have this:=List.findIdx_getElem (xs:=s) (p:=fun x=>decide (x.k=k∧x.l=l∧x.r=r)) (w:=hp');simp only [decide_eq_true_eq] at this
    have e:nth s (yF s k l r)=s[s.findIdx (fun x=>decide (x.k=k∧x.l=l∧x.r=r))]'hp':=by
     exact zc hp'
    rw [e]
    obtain⟨h1,h2,h3⟩:=this
    generalize s[s.findIdx (fun x=>decide (x.k=k∧x.l=l∧x.r=r))]'hp'=x at h1 h2 h3
    cases x
    simp only at h1 h2 h3;subst h1;subst h2;subst h3;rfl
  · rename_i hp
    have:yF s k l r=s.length:=by omega
    rw [this]
    refine⟨by simp,?_⟩
    rw [zm (Nat.le_refl _),Nat.sub_self,zw]
 rw [zaQ,zqX hw' hn.1,hn.2];rw [zfv hx hl,zfv hx hr]

theorem zfw {s:List Nd} (hw:Wf s) {n:Nat} (hn:n < 29+s.length) (h:lev s n=0):n < 29:=by
 unfold lev at h;split at h
 · assumption
 · rw [hw.lv _ (by omega)] at h;omega

abbrev rw' (ls:List (List Gate)) (inp:List U) (k:Nat):List U:=zb4 ⟨29,ls,0⟩ inp k
theorem rw'_succ {ls:List (List Gate)} {inp:List U} {k:Nat}:rw' ls inp (k+1)=zvW (nth ls k) (rw' ls inp k):=rfl
def zbD (ls:List (List Gate)) (k:Nat):Nat:=if k=0 then 29 else (nth ls (k - 1)).length
def OpL (ls:List (List Gate)):Prop := ∀ k j,j < (nth ls k).length → opG (zbD ls k:Int) (nth (nth ls k) j)
def Lx (a b:List (List Gate)):Prop:=a.length=b.length ∧ ∀ k,∃ u,nth b k=nth a k++u
theorem Lx.refl (a:List (List Gate)):Lx a a:=⟨rfl,fun k=>⟨[],by simp⟩⟩
theorem Lx.trans {a b c:List (List Gate)} (h:Lx a b) (h':Lx b c):Lx a c:=⟨h.1.trans h'.1,fun k=>by
 obtain⟨u,hu⟩:=h.2 k
 obtain⟨v,hv⟩:=h'.2 k
 exact⟨u++v,by rw [hv,hu,List.append_assoc]⟩⟩
theorem Lx.len {a b:List (List Gate)} (h:Lx a b) (k:Nat):(nth a k).length≤(nth b k).length:=by
 obtain⟨u,hu⟩:=h.2 k
 rw [hu];simp
theorem Lx.wid {a b:List (List Gate)} (h:Lx a b) (k:Nat):zbD a k≤zbD b k:=by
 unfold zbD
 split
 · exact Nat.le_refl _
 · exact h.len _
theorem Lx.at {a b:List (List Gate)} (h:Lx a b) {k j:Nat} (hj:j < (nth a k).length):nth (nth b k) j=nth (nth a k) j:=by
 obtain⟨u,hu⟩:=h.2 k
 rw [hu,zv hj]
theorem zfx {l:List Gate} {inp:List U} {i:Nat} (h:i < l.length):nth (zvW l inp) i=zdM (nth l i) (nth inp (nth l i).l.toNat) (nth inp (nth l i).r.toNat):=yb h
theorem Lx.row {a b:List (List Gate)} (h:Lx a b) (ho:OpL a) {inp:List U} : ∀ k i,i < zbD a k → nth (rw' b inp k) i=nth (rw' a inp k) i
 | 0,_,_=>rfl
 | k+1,i,hi=>by
  have hi':i < (nth a k).length:=hi;rw [rw'_succ,rw'_succ,zfx hi',zfx (Nat.lt_of_lt_of_le hi' (h.len k)),h.at hi']
  obtain⟨h1,h2,h3,h4⟩:=ho k i hi'
  rw [h.row ho k _ (by omega),h.row ho k _ (by omega)]

structure LOk (s:List Nd) (inp:List U) (d:Nat) (st:LS):Prop where
 len:st.ls.length=d
 op:OpL st.ls
 fv : ∀ k j,j < (nth st.ls k).length → fvG (nth (nth st.ls k) j)
 at' : ∀ n k i,zM (n,k+1) st.at'=some i → k < d∧i < (nth st.ls k).length∧nth (rw' st.ls inp (k+1)) i=ndv s inp n

theorem zAT {a:U} (ha:valid a=true):zeQ 1#64 a=a:=BitVec.eq_of_toNat_eq (by rw [zfr (by decide) ha];have:=yp.1 ha;simp;omega)
theorem rAdd_zero' {a:U} (ha:valid a=true):zbC 0#64 a=a:=BitVec.eq_of_toNat_eq (by rw [zb3 yR ha];have:=yp.1 ha;simp;omega)
theorem zqY {i:Int} {a:U} (ha:valid a=true):zdM ⟨i,i,0,1,0,0⟩ a a=a:=by
 show zbC (zbC (zbC (zeQ 0#64 (zeQ a a)) (zeQ 1#64 a)) (zeQ 0#64 a)) 0#64=a
 rw [zjH (yQ ha ha),zAT ha,zjH ha,rAdd_zero' ha,zjI ha,zjI ha]

theorem Lx.put {ls:List (List Gate)} {k:Nat} (hk:k < ls.length) (g:Gate):Lx ls (ls.set k (nth ls k++[g])):=by
 refine⟨by simp,fun j => ?_⟩
 by_cases e:j=k
 · subst e;exact⟨[g],by simp [nth,hk]⟩
 · exact⟨[],by simp [nth,Ne.symm e]⟩
theorem zda {ls:List (List Gate)} {k:Nat} (hk:k < ls.length) (g:Gate):nth (ls.set k (nth ls k++[g])) k=nth ls k++[g]:=by simp [nth,hk]
theorem put_ne {ls:List (List Gate)} {k j:Nat} (h:j≠k) (x:List Gate):nth (ls.set k x) j=nth ls j:=by simp [nth,Ne.symm h]

theorem LOk.put {s:List Nd} {inp:List U} {d:Nat} {st:LS} (h:LOk s inp d st) {n k:Nat} (hk:k < d) {g:Gate} (hg:opG (zbD st.ls k:Int) g) (hf:fvG g)
 (hv:zdM g (nth (rw' st.ls inp k) g.l.toNat) (nth (rw' st.ls inp k) g.r.toNat)=ndv s inp n) :
 LOk s inp d (zay n k g st).2∧Lx st.ls (zay n k g st).2.ls∧(zay n k g st).1 < zbD (zay n k g st).2.ls (k+1)∧nth (rw' (zay n k g st).2.ls inp (k+1)) (zay n k g st).1=ndv s inp n ∧
  (zay n k g st).2.ls=st.ls.set k (nth st.ls k++[g]):=by
 have hkl:k < st.ls.length:=by rw [h.len];exact hk
 have hx:Lx st.ls (zay n k g st).2.ls:=Lx.put hkl g;have hat:nth (zay n k g st).2.ls k=nth st.ls k++[g]:=zda hkl g
 have hlast:(nth st.ls k).length < (nth (zay n k g st).2.ls k).length:=by rw [hat];simp
 have hval:nth (rw' (zay n k g st).2.ls inp (k+1)) (nth st.ls k).length=ndv s inp n:=by
  obtain⟨g1,g2,g3,g4⟩:=hg
  rw [rw'_succ,zfx hlast,hat,zm (Nat.le_refl _),Nat.sub_self,zw,hx.row h.op k _ (by omega),hx.row h.op k _ (by omega)];exact hv
 refine⟨⟨by simp [zay,h.len],fun k' j hj => ?_,fun k' j hj => ?_,fun n' k' i hi => ?_⟩,hx,hlast,hval,rfl⟩
 · have hw:=hx.wid k';by_cases e:k'=k
   · subst e;rw [hat] at hj ⊢;by_cases e2:j < (nth st.ls k').length
     · rw [zv e2]
       obtain⟨a,b,c,d⟩:=h.op k' j e2
       exact⟨a,by omega,c,by omega⟩
     · rw [zm (by omega),show j - (nth st.ls k').length=0 by simp at hj;omega,zw]
       obtain⟨a,b,c,d⟩:=hg
       exact⟨a,by omega,c,by omega⟩
   · have e3:nth (zay n k g st).2.ls k'=nth st.ls k':=put_ne e _;rw [e3] at hj ⊢
     obtain⟨a,b,c,d⟩:=h.op k' j hj
     exact⟨a,by omega,c,by omega⟩
 · by_cases e:k'=k
   · subst e;rw [hat] at hj ⊢;by_cases e2:j < (nth st.ls k').length
     · rw [zv e2];exact h.fv k' j e2
     · rw [zm (by omega),show j - (nth st.ls k').length=0 by simp at hj;omega,zw];exact hf
   · have e3:nth (zay n k g st).2.ls k'=nth st.ls k':=put_ne e _;rw [e3] at hj ⊢;exact h.fv k' j hj
 · simp only [zay] at hi;rw [zae] at hi;split at hi
   · rename_i e;simp only [Prod.mk.injEq,Nat.add_right_cancel_iff] at e
     obtain⟨rfl,rfl⟩:=e
     cases hi
     exact⟨hk,hlast,hval⟩
   · obtain⟨a,b,c⟩:=h.at' n' k' i hi
     refine⟨a,Nat.lt_of_lt_of_le b (hx.len k'),?_⟩
     rw [hx.row h.op (k'+1) i b];exact c

def Cfv (s:List Nd):Prop := ∀ j,j < s.length → valid (fi (nth s j).k.c)=true∧valid (fi (nth s j).k.a)=true∧valid (fi (nth s j).k.b)=true∧valid (fi (nth s j).k.d)=true
theorem zcE {s:List Nd} (hw:Wf s) (hc:Cfv s) {inp:List U} (hi:Fv inp) : ∀ n,n < 29+s.length → valid (ndv s inp n)=true:=by
 intro n
 induction n using Nat.strongRecOn with
 | _ n ih =>
  intro hn;by_cases h:n < 29
  · rw [zqW h];exact hi n
  · obtain⟨j,rfl⟩ : ∃ j,n=29+j:=⟨n - 29,by omega⟩
    have hj:j < s.length:=by omega
    obtain⟨h1,h2⟩:=hw.op j hj
    rw [zqX hw hj];exact znE (hc j hj) (ih _ (by omega) (by omega)) (ih _ (by omega) (by omega))
theorem zbK (s:List Nd) (k n:Nat) (st:LS):need s (k+1) n st=match zM (n,k+1) st.at' with
 | some i=>(i,st)
 | none =>
  if lev s n < k+1 then zay n k ⟨(need s k n st).1,(need s k n st).1,0,1,0,0⟩ (need s k n st).2
  else zay n k ⟨(need s k (nth s (n - 29)).l st).1,(need s k (nth s (n - 29)).r (need s k (nth s (n - 29)).l st).2).1,fi (nth s (n - 29)).k.c,fi (nth s (n - 29)).k.a,fi (nth s (n - 29)).k.b,fi (nth s (n - 29)).k.d⟩
   (need s k (nth s (n - 29)).r (need s k (nth s (n - 29)).l st).2).2:=rfl
theorem zvX:valid 1#64=true:=by decide
theorem zDo (i:Int):fvG ⟨i,i,0,1,0,0⟩:=⟨yR,zvX,yR,yR⟩

theorem zdb {s:List Nd} (hw:Wf s) (hc:Cfv s) {inp:List U} (hi:Fv inp) {d:Nat} :
 ∀ k n st,LOk s inp d st → k≤d → n < 29+s.length → lev s n≤k →
  LOk s inp d (need s k n st).2∧Lx st.ls (need s k n st).2.ls∧(need s k n st).1 < zbD (need s k n st).2.ls k∧nth (rw' (need s k n st).2.ls inp k) (need s k n st).1=ndv s inp n ∧
   ∀ m,k≤m → nth (need s k n st).2.ls m=nth st.ls m:=by
 intro k
 induction k with
 | zero =>
  intro n st h _ hn hl;have h0:=zfw hw hn (by omega)
  exact⟨h,.refl _,h0,(zqW h0).symm,fun _ _=>rfl⟩
 | succ k ih =>
  intro n st h hk hn hl;rw [zbK]
  cases ha:zM (n,k+1) st.at' with
  | some i =>
   obtain⟨_,h2,h3⟩:=h.at' n k i ha
   exact⟨h,.refl _,h2,h3,fun _ _=>rfl⟩
  | none =>
   simp only
   split
   · rename_i hlt
     obtain⟨a1,a2,a3,a4,a5⟩:=ih n st h (by omega) hn (by omega)
     obtain⟨b1,b2,b3,b4,b5⟩:=a1.put (n:=n) (show k < d by omega) (g:=⟨(need s k n st).1,(need s k n st).1,0,1,0,0⟩) ⟨by simp only;omega,by simp only;omega,by simp only;omega,by simp only;omega⟩ (zDo _) (by
      simp only [Int.toNat_natCast];rw [a4]
      exact zqY (zcE hw hc hi n hn))
     refine⟨b1,a2.trans b2,b3,b4,fun m hm => ?_⟩
     rw [b5,put_ne (by omega),a5 m (by omega)]
   · rename_i hge
     have h29 : ¬ n < 29:=fun h'=>by rw [zh7 n h'] at hge;omega
     obtain⟨j,rfl⟩ : ∃ j,n=29+j:=⟨n - 29,by omega⟩
     have hj:j < s.length:=by omega
     obtain⟨o1,o2⟩:=hw.op j hj
     have hlv:=hw.lv j hj
     have hle:(nth s j).lv≤k+1:=by
      have e:lev s (29+j)=(nth s j).lv:=by unfold lev;rw [if_neg h29,Nat.add_sub_cancel_left]
      rw [←e];exact hl
     rw [Nat.add_sub_cancel_left]
     obtain⟨a1,a2,a3,a4,a5⟩:=ih (nth s j).l st h (by omega) (by omega) (by omega)
     obtain⟨c1,c2,c3,c4,c5⟩:=ih (nth s j).r _ a1 (by omega) (by omega) (by omega)
     have hwd:=c2.wid k
     obtain⟨b1,b2,b3,b4,b5⟩:=c1.put (n:=29+j) (show k < d by omega)
      (g:=⟨(need s k (nth s j).l st).1,(need s k (nth s j).r (need s k (nth s j).l st).2).1,fi (nth s j).k.c,fi (nth s j).k.a,fi (nth s j).k.b,fi (nth s j).k.d⟩)
      ⟨by simp only;omega,by simp only;omega,by simp only;omega,by simp only;omega⟩ (hc j hj) (by
      simp only [Int.toNat_natCast];rw [c2.row a1.op k _ a3,a4,c4,zqX hw hj]
      rfl)
     refine⟨b1,(a2.trans c2).trans b2,b3,b4,fun m hm => ?_⟩
     rw [b5,put_ne (by omega),c5 m (by omega),a5 m (by omega)]
end Go.Proofs.YthaoifcebimkfaaGreatDoor

namespace Go.Proofs.YthaoifcebimkfaaGreatDoor
open Go Go.AL

theorem zk6 {w:World} {d:Nat} (n m:Int):(Op.equalIn (d+1) 2 (.int .i64 n) (.int .i64 m)).run Tryz.prog w = .ok (decide (n=m)) w:=by
 simp [Op.equalIn,run_underlying Tryz.underlying2];by_cases h:n=m<;>simp [h]
theorem zDp {w:World} {d:Nat} (n m:Int):(Op.equalIn (d+1) 3 (.int .i64 n) (.int .i64 m)).run Tryz.prog w = .ok (decide (n=m)) w:=by
 simp [Op.equalIn,run_underlying Tryz.underlying3];by_cases h:n=m<;>simp [h]
theorem zk7 {w:World} {d g g':Nat} {c c':Array Value} {e e':TypeId} (h:w.heap[g]? = some (.cells c e (0,0))) (h':w.heap[g']? = some (.cells c' e' (0,0))) :
 (Op.equalIn (d+1) 89 (ptv g) (ptv g')).run Tryz.prog w = .ok (decide (g=g')) w:=by
 obtain⟨j,hj⟩:=Option.isSome_iff_exists.1 zsB
 have hsz:j.size≠0:=by
  have:Tryz.prog.cellsOf 146=j.size:=by simp [Program.cellsOf,hj]
  rw [←this,znb];decide
 by_cases hg:g=g'
 · subst hg;simp [Op.equalIn,run_underlying Tryz.underlying89,sizeOf,typeInfo,hj,run_sameAddr_same]
 · simp [Op.equalIn,run_underlying Tryz.underlying89,sizeOf,typeInfo,hj,hsz,hg,run_sameAddr_other w (a:=⟨g,0,none⟩) (b:=⟨g',0,none⟩) (by simp [hg]) h h']
theorem zdU {t:TypeId} {d:TypeDesc} (h:Tryz.prog.underlying t=some d) (hd:z8 d=false) {cs:Array Value} {off:Nat} {v:Value} (hv:cs[off]? = some v) (w:World):(part t cs off).run Tryz.prog w = .ok v w:=by
 simp only [part,Sem.run_bind,zaA h,Result.andThen_ok,hd,hv];rfl
theorem znG {t:TypeId} {d:TypeDesc} (h:Tryz.prog.underlying t=some d) (hd:z8 d=true) {n:Nat} (hc:Tryz.prog.cellsOf t=n) {cs:Array Value} {off:Nat} {l:List Value} (hl:(cs.toList.drop off).take n=l) (w:World) (hi:(Tryz.prog.info? t).isSome=true):(part t cs off).run Tryz.prog w = .ok (.agg l.toArray) w:=by
 obtain⟨j,hj⟩:=Option.isSome_iff_exists.1 hi
 have hsz:j.size=n:=by
  have:Tryz.prog.cellsOf t=j.size:=by simp [Program.cellsOf,hj]
  rw [←this,hc]
 simp only [part,Sem.run_bind,zaA h,Result.andThen_ok,hd,if_true,sizeOf,typeInfo,run_program,hj,Sem.run_pure,hsz];rw [←hl,←extract_toList]
theorem zk8 {d:Nat} {xs ys:Array Value} {w:World}:(Op.eqFields d xs ys []).run Tryz.prog w = .ok true w:=by simp [Op.eqFields]
theorem zaR {d : Nat} {xs ys : Array Value} {f : Field} {fs : List Field} {a b : Value} {r q : Bool} {w : World} (hn : f.name ≠ "_") (ha : (part f.type xs f.offset).run Tryz.prog w = .ok a w) (hb : (part f.type ys f.offset).run Tryz.prog w = .ok b w)
    (he:(Op.equalIn d f.type a b).run Tryz.prog w = .ok r w) (hr:(Op.eqFields d xs ys fs).run Tryz.prog w = .ok q w):(Op.eqFields d xs ys (f :: fs)).run Tryz.prog w = .ok (r && q) w:=by
  simp only [Op.eqFields,hn,ne_eq,not_false_eq_true,if_true,Sem.run_bind,ha,hb,he,Result.andThen_ok]
  cases r<;>simp [hr]
theorem zf0 {d:Nat} {t:TypeId} {fs:Array Field} (hu:Tryz.prog.underlying t=some (.struct fs)) (hp:Tryz.prog.stoodInHeld t=false) {xs ys:Array Value} {r:Bool} {w:World} (h:(Op.eqFields d xs ys fs.toList).run Tryz.prog w = .ok r w):(Op.equalIn (d+1) t (.agg xs) (.agg ys)).run Tryz.prog w = .ok r w:=by
 have hf:Tryz.prog.fieldsOf t=fs:=by simp [Program.fieldsOf,hu]
 rw [run_equalIn_struct w d t xs ys (by rw [hf];exact hu) hp,hf];exact h

theorem zDq {w:World} (d:Nat) (n1 n2 n3 n4 m1 m2 m3 m4:Int) :
 (Op.equalIn (d+1+1) 144 (.agg #[.int .i64 n1,.int .i64 n2,.int .i64 n3,.int .i64 n4]) (.agg #[.int .i64 m1,.int .i64 m2,.int .i64 m3,.int .i64 m4])).run Tryz.prog w =
  .ok (decide (n1=m1) && (decide (n2=m2) && (decide (n3=m3) && (decide (n4=m4) && true)))) w:=by
 have p : ∀ {cs:Array Value} {off:Nat} {v:Value} (hv:cs[off]? = some v),(part 2 cs off).run Tryz.prog w = .ok v w:=fun hv=>zdU Tryz.underlying2 rfl hv w
 exact zf0 Tryz.underlying144 (by kernel_rfl)
  (zaR (by decide) (p rfl) (p rfl) (zk6 _ _) (zaR (by decide) (p rfl) (p rfl) (zk6 _ _) (zaR (by decide) (p rfl) (p rfl) (zk6 _ _) (zaR (by decide) (p rfl) (p rfl) (zk6 _ _) zk8))))
theorem zDr {w:World} (n1 n2 n3 n4 m1 m2 m3 m4:Int) {g h g' h':Nat} {c1 c2 c3 c4:Array Value} {e1 e2 e3 e4:TypeId} (q1:w.heap[g]? = some (.cells c1 e1 (0,0))) (q2:w.heap[h]? = some (.cells c2 e2 (0,0))) (q3:w.heap[g']? = some (.cells c3 e3 (0,0))) (q4:w.heap[h']? = some (.cells c4 e4 (0,0))) :
 (Op.equal 195 (.agg #[.int .i64 n1,.int .i64 n2,.int .i64 n3,.int .i64 n4,ptv g,ptv h]) (.agg #[.int .i64 m1,.int .i64 m2,.int .i64 m3,.int .i64 m4,ptv g',ptv h'])).run Tryz.prog w =
  .ok ((decide (n1=m1) && (decide (n2=m2) && (decide (n3=m3) && (decide (n4=m4) && true)))) && (decide (g=g') && (decide (h=h') && true))) w:=by
 have p : ∀ {cs:Array Value} {off:Nat} {v:Value} (hv:cs[off]? = some v),(part 89 cs off).run Tryz.prog w = .ok v w:=fun hv=>zdU Tryz.underlying89 rfl hv w
 have k : ∀ {a b c d e f:Value},(part 144 #[a,b,c,d,e,f] 0).run Tryz.prog w = .ok (.agg #[a,b,c,d]) w:=fun {a b c d e f}=>znG (l:=[a,b,c,d]) Tryz.underlying144 rfl zhW rfl w zkU
 exact zf0 (d:=9999) Tryz.underlying195 (by kernel_rfl)
  (zaR (by decide) k k (zDq 9997 _ _ _ _ _ _ _ _) (zaR (by decide) (p rfl) (p rfl) (zk7 q1 q3) (zaR (by decide) (p rfl) (p rfl) (zk7 q2 q4) zk8)))
theorem zvY {w:World} (n m:Int) {g g':Nat} {c1 c3:Array Value} {e1 e3:TypeId} (q1:w.heap[g]? = some (.cells c1 e1 (0,0))) (q3:w.heap[g']? = some (.cells c3 e3 (0,0))) :
 (Op.equal 154 (.agg #[ptv g,.int .i64 n]) (.agg #[ptv g',.int .i64 m])).run Tryz.prog w = .ok (decide (g=g') && (decide (n=m) && true)) w:=by
 have p : ∀ {cs:Array Value} {off:Nat} {v:Value} (hv:cs[off]? = some v),(part 89 cs off).run Tryz.prog w = .ok v w:=fun hv=>zdU Tryz.underlying89 rfl hv w
 have p2 : ∀ {cs:Array Value} {off:Nat} {v:Value} (hv:cs[off]? = some v),(part 3 cs off).run Tryz.prog w = .ok v w:=fun hv=>zdU Tryz.underlying3 rfl hv w
 exact zf0 (d:=9999) Tryz.underlying154 (by kernel_rfl)
  (zaR (by decide) (p rfl) (p rfl) (zk7 q1 q3) (zaR (by decide) (p2 rfl) (p2 rfl) (zDp _ _) zk8))

theorem zgZ {em:Bool} {d:Nat} {t:TypeId} {k:TypeDesc} (h:Tryz.prog.underlying t=some k) (hk:(match k with | .interface _ | .array _ _ | .struct _=>false | _=>true)=true) (v:Value) (w:World):(Instr.checkKey em (d+1) t v).run Tryz.prog w = .ok () w:=by
 rw [Instr.checkKey,Sem.run_bind,run_underlying h,Result.andThen_ok]
 cases k<;>first | (cases hk;done) | rfl | (cases v<;>rfl)
theorem zeS {em : Bool} {d : Nat} {t : TypeId} {fs : Array Field} (hu : Tryz.prog.underlying t = some (.struct fs)) {cs : Array Value} {w : World} (h : ∀ f ∈ fs.toList, f.name = "_" ∨ ∃ v, (part f.type cs f.offset).run Tryz.prog w = .ok v w ∧ (Instr.checkKey em d f.type v).run Tryz.prog w = .ok () w) :
    (Instr.checkKey em (d+1) t (.agg cs)).run Tryz.prog w = .ok () w:=by
  rw [Instr.checkKey];simp only [Sem.run_bind,run_underlying hu,Result.andThen_ok];rw [←Array.forIn_toList]
  generalize fs.toList=L at h
  induction L with
  | nil=>simp
  | cons f L ih =>
    rcases h f (by simp) with hn | ⟨v,h1,h2⟩
    · simp only [List.forIn_cons,Sem.run_bind,hn,ne_eq,not_true_eq_false,if_false,Sem.run_pure,Result.andThen_ok]
      exact ih fun g hg=>h g (by simp [hg])
    · by_cases hn : f.name = "_"
      · simp only [List.forIn_cons,Sem.run_bind,hn,ne_eq,not_true_eq_false,if_false,Sem.run_pure,Result.andThen_ok]
        exact ih fun g hg=>h g (by simp [hg])
      · simp only [List.forIn_cons,Sem.run_bind,hn,ne_eq,not_false_eq_true,if_true,h1,h2,Sem.run_pure,Result.andThen_ok]
        exact ih fun g hg=>h g (by simp [hg])

theorem zGV:PKeys Tryz.prog 195 [false,false,false,false,true,true] where
 st:=⟨_,Tryz.underlying195⟩
 check w em vs h:=by
  match vs,h with
  | [a,b,c,d,e,f],h =>
   have p : ∀ {cs:Array Value} {off:Nat} {v:Value} (hv:cs[off]? = some v),(part 89 cs off).run Tryz.prog w = .ok v w:=fun hv=>zdU Tryz.underlying89 rfl hv w
   have p2 : ∀ {cs:Array Value} {off:Nat} {v:Value} (hv:cs[off]? = some v),(part 2 cs off).run Tryz.prog w = .ok v w:=fun hv=>zdU Tryz.underlying2 rfl hv w
   have k:(part 144 #[a,b,c,d,e,f] 0).run Tryz.prog w = .ok (.agg #[a,b,c,d]) w:=znG (l:=[a,b,c,d]) Tryz.underlying144 rfl zhW rfl w zkU
   refine zeS (d:=9999) Tryz.underlying195 fun x hx => .inr ?_
   simp only [List.mem_cons,List.not_mem_nil,or_false] at hx
   rcases hx with rfl | rfl | rfl
   · refine⟨_,k,zeS (d:=9998) Tryz.underlying144 fun y hy => .inr ?_⟩
     simp only [List.mem_cons,List.not_mem_nil,or_false] at hy
     rcases hy with rfl | rfl | rfl | rfl
     all_goals exact⟨_,p2 rfl,zgZ (d:=9997) Tryz.underlying2 rfl _ _⟩
   all_goals exact⟨_,p rfl,zgZ (d:=9998) Tryz.underlying89 rfl _ _⟩
 eq w xs ys hx hy:=by
  match xs,hx,ys,hy with
  | [a1,a2,a3,a4,a5,a6],hx,[b1,b2,b3,b4,b5,b6],hy =>
   obtain⟨⟨n1,rfl⟩,⟨n2,rfl⟩,⟨n3,rfl⟩,⟨n4,rfl⟩,⟨g,_,_,rfl,q1⟩,⟨h,_,_,rfl,q2⟩,_⟩:=hx
   obtain⟨⟨m1,rfl⟩,⟨m2,rfl⟩,⟨m3,rfl⟩,⟨m4,rfl⟩,⟨g',_,_,rfl,q3⟩,⟨h',_,_,rfl,q4⟩,_⟩:=hy
   refine⟨_,zDr n1 n2 n3 n4 m1 m2 m3 m4 q1 q2 q3 q4,?_⟩
   simp [and_assoc]
theorem zDs:PKeys Tryz.prog 154 [true,false] where
 st:=⟨_,Tryz.underlying154⟩
 check w em vs h:=by
  match vs,h with
  | [a,b],h =>
   have p : ∀ {cs:Array Value} {off:Nat} {v:Value} (hv:cs[off]? = some v),(part 89 cs off).run Tryz.prog w = .ok v w:=fun hv=>zdU Tryz.underlying89 rfl hv w
   have p2 : ∀ {cs:Array Value} {off:Nat} {v:Value} (hv:cs[off]? = some v),(part 3 cs off).run Tryz.prog w = .ok v w:=fun hv=>zdU Tryz.underlying3 rfl hv w
   refine zeS (d:=9999) Tryz.underlying154 fun x hx => .inr ?_
   simp only [List.mem_cons,List.not_mem_nil,or_false] at hx
   rcases hx with rfl | rfl
   · exact⟨_,p rfl,zgZ (d:=9998) Tryz.underlying89 rfl _ _⟩
   · exact⟨_,p2 rfl,zgZ (d:=9998) Tryz.underlying3 rfl _ _⟩
 eq w xs ys hx hy:=by
  match xs,hx,ys,hy with
  | [a1,a2],hx,[b1,b2],hy =>
   obtain⟨⟨g,_,_,rfl,q1⟩,⟨n,rfl⟩,_⟩:=hx
   obtain⟨⟨g',_,_,rfl,q3⟩,⟨m,rfl⟩,_⟩:=hy
   refine⟨_,zvY n m q1 q3,?_⟩
   simp
theorem keyM:MapZ Tryz.prog 140 [false,false,false,false,true,true] (.p (.s (.pointer none))):=⟨_,_,Tryz.underlying140,zGV,znk⟩
theorem placeM:MapZ Tryz.prog 151 [true,false] (.p (i64 0)):=⟨_,_,Tryz.underlying151,zDs,zkV⟩
end Go.Proofs.YthaoifcebimkfaaGreatDoor

namespace Go.Proofs.YthaoifcebimkfaaGreatDoor
open Go Go.AL

abbrev Ky:=Cf × Nat × Nat
def ek (ad:Nat → Nat) (q:Ky):List Value:=[.int .i64 q.1.c,.int .i64 q.1.a,.int .i64 q.1.b,.int .i64 q.1.d,ptv (ad q.2.1),ptv (ad q.2.2)]
def zev (j:Nat):List Nd → List (Ky × Nat)
 | []=>[]
 | x :: s=>((x.k,x.l,x.r),29+j) :: zev (j+1) s
def zdV (s:List Nd):List (Ky × Nat):=zev 0 s
theorem zvZ (x:Nd) (s:List Nd) (k:Cf) (l r:Nat):yF (x :: s) k l r=if x.k=k∧x.l=l∧x.r=r then 0 else yF s k l r+1:=by
 unfold yF;rw [List.findIdx_cons];by_cases e:x.k=k∧x.l=l∧x.r=r
 · rw [if_pos e,decide_eq_true e];rfl
 · rw [if_neg e,decide_eq_false e];rfl
theorem zgq (k:Cf) (l r:Nat) : ∀ (s:List Nd) (j:Nat),zM (k,l,r) (zev j s)=if yF s k l r < s.length then some (29+(j+yF s k l r)) else none
 | [],j=>rfl
 | x :: s,j=>by
  simp only [zev,zM,zvZ,List.length_cons];by_cases e:x.k=k∧x.l=l∧x.r=r
  · obtain⟨rfl,rfl,rfl⟩:=e
    simp
  · have e' : ¬ (x.k,x.l,x.r)=(k,l,r):=fun h=>e (by simpa using h)
    rw [if_neg e',if_neg e,zgq k l r s (j+1)];by_cases hh:yF s k l r < s.length
    · rw [if_pos hh,if_pos (by omega)];congr 2;omega
    · rw [if_neg hh,if_neg (by omega)]
theorem zqZ (s:List Nd) (k:Cf) (l r:Nat):zM (k,l,r) (zdV s)=if yF s k l r < s.length then some (29+yF s k l r) else none:=by
 rw [zdV,zgq,Nat.zero_add]
theorem zfy : ∀ {s:List Nd} {j:Nat} {p:Ky × Nat},p∈zev j s → ∃ i,i < s.length∧p=(((nth s i).k,(nth s i).l,(nth s i).r),29+(j+i))
 | [],j,p,h=>by simp [zev] at h
 | x :: s,j,p,h=>by
  simp only [zev,List.mem_cons] at h
  rcases h with rfl | h
  · exact⟨0,by simp,by simp [zw]⟩
  · obtain⟨i,hi,rfl⟩:=zfy h
    refine⟨i+1,by simp;omega,?_⟩
    have:nth (x :: s) (i+1)=nth s i:=by simp [nth]
    rw [this]
    congr 1;omega

def ndC (ad:Nat → Nat) (s:List Nd) (n:Nat):List PV :=
 if n < 29 then [i64 n,i64 0,i64 0,i64 0,i64 0,.s (.pointer none),.s (.pointer none),i64 0]
 else [i64 0,i64 (nth s (n - 29)).k.c,i64 (nth s (n - 29)).k.a,i64 (nth s (n - 29)).k.b,i64 (nth s (n - 29)).k.d,ptp (ad (nth s (n - 29)).l),ptp (ad (nth s (n - 29)).r),i64 ((nth s (n - 29)).lv:Nat)]
abbrev kyV (ad:Nat → Nat) (a:Ky):Value := .agg (ek ad a).toArray
abbrev ndP (ad:Nat → Nat) (n:Nat):AV := .p (ptp (ad n))
def rng29:List Nat:=List.range 29
theorem zcF:rng29.length=29:=List.length_range
theorem zjM {i:Nat} (h:i∈rng29):i < 29:=List.mem_range.1 h
theorem zdW {i:Nat} (h:i < 29):nth rng29 i=i:=by simp [rng29,nth,h]
structure BH (H:Hp) (s:List Nd) (ad:Nat → Nat) (bb mb:Nat):Prop where
 bld:H.f bb=some (.cells [.p (.sl false 1 (pl (fun i=>ptp (ad i)) rng29)),.mp mb])
 map:H.f mb=some (.mapB (tm (kyV ad) (ndP ad) (zdV s)))
 nd : ∀ n,n < 29+s.length → H.z (ad n)=some (8,[.agg (ndC ad s n)])
 inj : ∀ i j,i < 29+s.length → j < 29+s.length → ad i=ad j → i=j
 wf:Wf s
 ne:bb≠mb
def cfP (k:Cf):PV := .agg [i64 k.c,i64 k.a,i64 k.b,i64 k.d]

theorem BH.key {H:Hp} {s:List Nd} {ad:Nat → Nat} {bb mb:Nat} (hB:BH H s ad bb mb) {H':Hp} (hz:H'.z=H.z) {k:Cf} {l r:Nat} (hl:l < 29+s.length) (hr:r < 29+s.length):RowZ H' [false,false,false,false,true,true] (ek ad (k,l,r)) :=
 ⟨⟨_,rfl⟩,⟨_,rfl⟩,⟨_,rfl⟩,⟨_,rfl⟩,⟨_,rfl,by rw [hz,hB.nd l hl];simp⟩,⟨_,rfl,by rw [hz,hB.nd r hr];simp⟩,trivial⟩
theorem BH.entB {H:Hp} {s:List Nd} {ad:Nat → Nat} {bb mb:Nat} (hB:BH H s ad bb mb) {p:Ky × Nat} (hp:p∈zdV s):p.1.2.1 < 29+s.length∧p.1.2.2 < 29+s.length:=by
 obtain⟨i,hi,rfl⟩:=zfy hp
 obtain⟨a,b⟩:=hB.wf.op i hi
 exact⟨by simp only;omega,by simp only;omega⟩
theorem BH.look {H:Hp} {s:List Nd} {ad:Nat → Nat} {bb mb:Nat} (hB:BH H s ad bb mb) {H':Hp} (hf:H'.f mb=H.f mb) (hz:H'.z=H.z) {k:Cf} {l r:Nat} (hl:l < 29+s.length) (hr:r < 29+s.length) :
 zaJ Tryz.prog H' 140 (.mp mb) (.p (.agg [i64 k.c,i64 k.a,i64 k.b,i64 k.d,ptp (ad l),ptp (ad r)])) false =
  some (if yF s k l r < s.length then ndP ad (29+yF s k l r) else .p (.s (.pointer none))):=by
 have:=keyM.look (H:=H') (b:=mb) (ek:=ek ad) (f:=ndP ad) (m:=zdV s) (k:=(k,l,r)) (by rw [hf,hB.map];exact map?_mapB _) (hB.key hz hl hr) (fun p hp=>hB.key hz (hB.entB hp).1 (hB.entB hp).2)
  (fun a ⟨x,hx⟩ e=>by
   have h1:=hB.entB hx;simp only [ek,List.cons.injEq,Value.int.injEq,Value.pointer.injEq,Option.some.injEq,Addr.mk.injEq,true_and,and_true] at e
   obtain⟨e1,e2,e3,e4,e5,e6⟩:=e
   obtain⟨⟨c1,c2,c3,c4⟩,a1,a2⟩:=a
   obtain⟨k1,k2,k3,k4⟩:=k
   simp only at e1 e2 e3 e4 e5 e6 h1;subst e1;subst e2;subst e3;subst e4
   rw [hB.inj a1 l h1.1 hl e5,hB.inj a2 r h1.2 hr e6]) (ix := .p (.agg [i64 k.c,i64 k.a,i64 k.b,i64 k.d,ptp (ad l),ptp (ad r)])) rfl false
 rw [this,zqZ];by_cases hp:yF s k l r < s.length
 · rw [if_pos hp,if_pos hp];rfl
 · rw [if_neg hp,if_neg hp];rfl
def adU (ad:Nat → Nat) (n g:Nat):Nat → Nat:=fun i=>if i=n then g else ad i
theorem zdX {ad:Nat → Nat} {n g:Nat}:adU ad n g n=g:=if_pos rfl
theorem za4 {ad:Nat → Nat} {n g i:Nat} (h:i≠n):adU ad n g i=ad i:=if_neg h
theorem znH {ad ad':Nat → Nat} {a:Ky} (h1:ad' a.2.1=ad a.2.1) (h2:ad' a.2.2=ad a.2.2):ek ad' a=ek ad a:=by simp only [ek,h1,h2]
theorem zAU {ad ad':Nat → Nat} {m:List (Ky × Nat)} (h : ∀ p∈m,ad' p.1.2.1=ad p.1.2.1∧ad' p.1.2.2=ad p.1.2.2∧ad' p.2=ad p.2):tm (kyV ad') (ndP ad') m=tm (kyV ad) (ndP ad) m:=by
 simp only [tm]
 refine List.map_congr_left fun p hp => ?_
 obtain⟨h1,h2,h3⟩:=h p hp
 simp only [kyV,ndP,znH h1 h2,h3]
theorem BH.fresh {H:Hp} {s:List Nd} {ad:Nat → Nat} {bb mb:Nat} (hB:BH H s ad bb mb) {H':Hp} (hf:H'.f mb=H.f mb) (hz:H'.z=H.z) {k:Cf} {l r:Nat} (hl:l < 29+s.length) (hr:r < 29+s.length) (hp : ¬ yF s k l r < s.length) (y:AV) :
 zdD Tryz.prog H' 140 (.mp mb) (.p (.agg [i64 k.c,i64 k.a,i64 k.b,i64 k.d,ptp (ad l),ptp (ad r)])) y=some (H'.set mb (.mapB (tm (kyV ad) (ndP ad) (zdV s)++[(kyV ad (k,l,r),y)]))):=by
 refine keyM.new (H:=H') (by rw [hf,hB.map];exact map?_mapB _) ⟨ek ad (k,l,r),rfl,hB.key hz hl hr⟩ (fun e he => ?_) (fun e he h => ?_) rfl
 · simp only [tm,List.mem_map] at he
   obtain⟨p,hp,rfl⟩:=he
   exact⟨_,rfl,hB.key hz (hB.entB hp).1 (hB.entB hp).2⟩
 · simp only [tm,List.mem_map] at he
   obtain⟨p,hpm,rfl⟩:=he
   have h1:=hB.entB hpm
   obtain⟨i,hi,rfl⟩:=zfy hpm
   simp only at h1
   have h2:ek ad ((nth s i).k,(nth s i).l,(nth s i).r)=ek ad (k,l,r):=by simpa [kyV] using h
   simp only [ek,List.cons.injEq,Value.int.injEq,Value.pointer.injEq,Option.some.injEq,Addr.mk.injEq,true_and,and_true] at h2
   obtain⟨e1,e2,e3,e4,e5,e6⟩:=h2
   have e7:=hB.inj _ l h1.1 hl e5;have e8:=hB.inj _ r h1.2 hr e6
   have e9:(nth s i).k=k:=by
    obtain⟨k1,k2,k3,k4⟩:=k
    generalize (nth s i).k=q at e1 e2 e3 e4
    obtain⟨q1,q2,q3,q4⟩:=q
    simp only at e1 e2 e3 e4;rw [e1,e2,e3,e4]
   refine hp (List.findIdx_lt_length_of_exists ⟨nth s i,?_,by simp [e7,e8,e9]⟩);rw [zc hi];exact List.getElem_mem _
theorem zDt {s:List Nd} (hw:Wf s) {ad:Nat → Nat} {k:Cf} {l r:Nat} (hl:l < 29+s.length) (hr:r < 29+s.length) (hp : ¬ yF s k l r < s.length) (g v:Nat) :
 tm (kyV ad) (ndP ad) (zdV s)++[(kyV ad (k,l,r),.p (ptp g))]=tm (kyV (adU ad (29+s.length) g)) (ndP (adU ad (29+s.length) g)) (zdV (s++[⟨k,l,r,v⟩])):=by
 have hne : ∀ i,i < 29+s.length → adU ad (29+s.length) g i=ad i:=fun i hi=>za4 (by omega)
 have hent : ∀ p∈zdV s,p.1.2.1 < 29+s.length∧p.1.2.2 < 29+s.length∧p.2 < 29+s.length:=fun p hp=>by
  obtain⟨i,hi,rfl⟩:=zfy hp
  obtain⟨a,b⟩:=hw.op i hi
  exact⟨by simp only;omega,by simp only;omega,by simp only;omega⟩
 have hm:tm (kyV (adU ad (29+s.length) g)) (ndP (adU ad (29+s.length) g)) (zdV s)=tm (kyV ad) (ndP ad) (zdV s):=zAU fun p hp=>let ⟨a,b,c⟩:=hent p hp;⟨hne _ a,hne _ b,hne _ c⟩
 have h2 : ∀ (s:List Nd) (j:Nat) (x:Nd),zev j (s++[x])=zev j s++[((x.k,x.l,x.r),29+(j+s.length))]:=by
  intro s
  induction s with
  | nil=>intro j x;rfl
  | cons y s ih=>intro j x;simp only [List.cons_append,zev,ih,List.length_cons,Nat.add_assoc,Nat.add_comm 1]
 rw [←hm,zdV,zdV,h2,Nat.zero_add];simp only [tm,List.map_append,List.map_cons,List.map_nil];rw [show kyV (adU ad (29+s.length) g) (k,l,r)=kyV ad (k,l,r) by simp only [kyV,znH (a:=(k,l,r)) (hne l hl) (hne r hr)],show ndP (adU ad (29+s.length) g) (29+s.length) = .p (ptp g) by simp only [ndP,zdX]]
theorem BH.add {H:Hp} {s:List Nd} {ad:Nat → Nat} {bb mb:Nat} (hB:BH H s ad bb mb) {k:Cf} {l r:Nat} (hl:l < 29+s.length) (hr:r < 29+s.length) (hp : ¬ yF s k l r < s.length) {g:Nat} (hg:H.z g=none) {H':Hp}
 (hf:H'.f bb=H.f bb) (hm:H'.f mb=some (.mapB (tm (kyV (adU ad (29+s.length) g)) (ndP (adU ad (29+s.length) g)) (zdV (s++[⟨k,l,r,1+max (lev s l) (lev s r)⟩])))))
 (hz:H'.z=(H.wz g (8,[.agg [i64 0,i64 k.c,i64 k.a,i64 k.b,i64 k.d,ptp (ad l),ptp (ad r),i64 ((1+max (lev s l) (lev s r):Nat):Int)]])).z) :
 BH H' (addN s l r k).2 (adU ad (29+s.length) g) bb mb:=by
 have hne : ∀ i,i < 29+s.length → adU ad (29+s.length) g i=ad i:=fun i hi=>za4 (by omega)
 have hgn : ∀ i,i < 29+s.length → ad i≠g:=fun i hi e=>by rw [←e,hB.nd i hi] at hg;cases hg
 have hw:=hB.wf.add hl hr k;rw [zaf,if_neg hp] at hw ⊢
 refine⟨?_,hm,fun n hn => ?_,fun i j hi hj e => ?_,hw,hB.ne⟩
 · rw [hf,hB.bld]
   have:pl (fun i=>ptp (adU ad (29+s.length) g i)) rng29=pl (fun i=>ptp (ad i)) rng29:=List.map_congr_left fun i hi=>by
    rw [hne i (by have:=zjM hi;omega)]
   rw [this]
 · rw [hz];by_cases e:n=29+s.length
   · subst e;rw [zdX,zsm]
     have h1:nth (s++[(⟨k,l,r,1+max (lev s l) (lev s r)⟩:Nd)]) s.length=⟨k,l,r,1+max (lev s l) (lev s r)⟩:=by rw [zm (Nat.le_refl _),Nat.sub_self,zw]
     simp only [ndC,show ¬ 29+s.length < 29 by omega,if_false,Nat.add_sub_cancel_left,h1,hne l hl,hne r hr]
   · have hn':n < 29+s.length:=by simp at hn;omega
     rw [hne n hn',zyM (hgn n hn'),hB.nd n hn']
     congr 3
     simp only [ndC]
     split
     · rfl
     · have h1:nth (s++[(⟨k,l,r,1+max (lev s l) (lev s r)⟩:Nd)]) (n - 29)=nth s (n - 29):=zv (by omega)
       obtain⟨o1,o2⟩:=hB.wf.op (n - 29) (by omega)
       rw [h1,hne _ (by omega),hne _ (by omega)]
 · have hlen:(s++[(⟨k,l,r,1+max (lev s l) (lev s r)⟩:Nd)]).length=s.length+1:=by simp
   rw [hlen] at hi hj;by_cases ei:i=29+s.length
   · by_cases ej:j=29+s.length
     · omega
     · rw [ei,zdX,za4 ej] at e;exact absurd e.symm (hgn j (by omega))
   · by_cases ej:j=29+s.length
     · rw [ej,zdX,za4 ei] at e;exact absurd e (hgn i (by omega))
     · rw [za4 ei,za4 ej] at e;exact hB.inj i j (by omega) (by omega) e
theorem BH.bel {H H':Hp} {s:List Nd} {ad:Nat → Nat} {bb mb n:Nat} (hB:BH H' s ad bb mb) (hb:Bel n H) (hf : ∀ b,b < n → b≠mb → H'.f b=H.f b):Bel n H':=fun b x hbn hx y hy=>by
 by_cases e:b=mb
 · subst e;rw [hB.map] at hx;cases hx;simp only [AB.mapB,AB.vals,tm,List.map_map,List.mem_map] at hy
   obtain⟨p,_,rfl⟩:=hy
   exact .p _
 · rw [hf b hbn e] at hx;exact hb b x hbn hx y hy
end Go.Proofs.YthaoifcebimkfaaGreatDoor

namespace Go.Proofs.YthaoifcebimkfaaGreatDoor
open Go Go.AL

theorem CallD.of {C:Cx} {ops:Array Oper} {q:Nat → Bool} {f:FuncId} {args':List AV} {dst:Option Nat} {n:Nat} {rest:List Oper} {k:List Item} {env:Env} {H H':Hp} {R:AV → Hp → Prop} {r:AV}
 (h : ∀ R:AV → Hp → Prop,R r H' → ACall C.P C.G f args' H R) (hk:zax C ops q n rest k (env.put dst r) H' R):CallD C ops q false f args' dst n rest k env H R :=
 .moves (h (fun r' H2=>r'=r∧H2=H') ⟨rfl,rfl⟩) (by rintro _ _ ⟨rfl,rfl⟩;exact hk)

theorem yw {C:Cx} {ops:Array Oper} {i:Nat} {o:Oper} {K:Env → Hp → Prop} {env:Env} {H:Hp} (x:AV) (ho:ops[i]? = some o) (hg:o.guard=none) (hs:ze C.P C.G o.op o.type env H = .val x H) (hd:zA C.nt o.dst=true)
 (hK:K (env.put o.dst x) H):opA C ops false i K env H:=by
 unfold opA;rw [ho];simp only [hg,zL,aOp1,hs,sOp]
 exact⟨hd,hK⟩
theorem zAV {C:Cx} {ops:Array Oper} {i:Nat} {o:Oper} {K:Env → Hp → Prop} {env:Env} {H H':Hp} (x:AV) (ho:ops[i]? = some o) (hg:o.guard=none) (hs:ze C.P C.G o.op o.type env H = .val x H') (hd:zA C.nt o.dst=true)
 (hK:K (env.put o.dst x) H'):opA C ops false i K env H:=by
 unfold opA;rw [ho];simp only [hg,zL,aOp1,hs,sOp]
 exact⟨hd,hK⟩
theorem zAW {C:Cx} {ops:Array Oper} {i:Nat} {o:Oper} {K:Env → Hp → Prop} {env:Env} {H H':Hp} (ho:ops[i]? = some o) (hg:o.guard=none) (hs:ze C.P C.G o.op o.type env H = .unit H') (hd:o.dst=none)
 (hK:K env H'):opA C ops false i K env H:=by
 unfold opA;rw [ho];simp only [hg,zL,aOp1,hs,sOp]
 exact⟨hd,by rw [hd];exact hK⟩
theorem zo {L:Nat → Bool} {i k:Nat} (h:k≠i):more L i k=L k:=by simp [more,h]
theorem zsI {L:Nat → Bool} {i:Nat}:more L i i=true:=by simp [more]
theorem zFk {L:Nat → Bool} {i k:Nat} (h:L k=true):more L i k=true:=by simp [more,h]
def allT (L:Nat → Bool) (l:List Nat):Prop := ∀ d∈l,L d=true
theorem znI {L:Nat → Bool}:allT L []:=fun d h=>by cases h
theorem zQ {L:Nat → Bool} {d:Nat} {l:List Nat} (h:L d=true) (t:allT L l):allT L (d :: l):=fun x hx=>by
 rcases List.mem_cons.1 hx with rfl | hx
 · exact h
 · exact t x hx
section inv
variable {L:Nat → Bool} {i j s:Nat} {env:Env} {d:Option Nat} {x v:AV} {l:List Nat}
theorem nfT (m:L j=true → allT L l) (hL:L i=false) (h:i∈l:=by decide):L j=false:=Bool.eq_false_iff.2 fun e=>by
 have:=m e i h
 rw [hL] at this;cases this
theorem kf (e:env s=v) (h:d≠some s:=by decide):env.put d x s=v:=(Go.AL.put_ne fun i hi q=>h (hi.trans (congrArg some q))).trans e
theorem kn {p:Prop}:p → env.put (some s) x s=x:=fun _=>put_some.trans (if_pos rfl)
theorem kt (t:allT L l):allT (more L i) l:=fun d h=>zFk (t d h)
theorem ka (m:L j=true → allT L l) (h:j≠i:=by decide):more L i j=true → allT (more L i) l:=fun q=>kt (m (by rwa [zo h] at q))
theorem kL {A:Array Edge} {L:Nat → Bool} (hall : ∀ e∈A,Region.binds .any e=true → L e.on=true) (k:Nat) {j:Nat} {g:Ground} (h1:A[k]? = some ⟨j,g⟩) (h2:Region.binds .any ⟨j,g⟩=true):L j=true:=hall _ (Array.mem_of_getElem? h1) h2
def kF (env:Env) (l:List (Nat × AV)):Prop := ∀ p∈l,env p.1=p.2
def kI (L:Nat → Bool) (env:Env) (l:List (Nat × Nat × AV)):Prop := ∀ p∈l,L p.1=true → env p.2.1=p.2.2
theorem kF0:kF env []:=fun p h=>by cases h
theorem kFc {t:List (Nat × AV)} (h:env s=v) (r:kF env t):kF env ((s,v) :: t):=fun p hp=>by
 rcases List.mem_cons.1 hp with rfl | hp
 · exact h
 · exact r p hp
theorem kFi {t:List (Nat × AV)}:kF env ((s,v) :: t)=(env s=v∧kF env t):=propext ⟨fun F=>⟨F _ List.mem_cons_self,fun p hp=>F p (List.mem_cons_of_mem _ hp)⟩,fun h=>kFc h.1 h.2⟩
theorem kFn:kF env []=True:=propext ⟨fun _=>trivial,fun _=>kF0⟩
theorem kFg {t:List (Nat × AV)} (F:kF env t) (k:Nat) (e:t[k]? = some (s,v)):env s=v:=F _ (List.mem_of_getElem? e)
theorem kIg {t:List (Nat × Nat × AV)} (G:kI L env t) (k:Nat) (e:t[k]? = some (i,s,v)) (h:L i=true):env s=v:=G _ (List.mem_of_getElem? e) h
theorem kFp {t:List (Nat × AV)} (F:kF env t) (h:t.all (fun p=>p.1 != s)=true:=by rfl):kF (env.put (some s) x) t:=fun p hp =>
 kf (F p hp) fun q=>by
  have h1:=List.all_eq_true.1 h p hp;simp only [Option.some.injEq] at q;simp [q] at h1
theorem kIp {t:List (Nat × Nat × AV)} (G:kI L env t) (h1:t.all (fun p=>p.1 == i || p.2.1 != s)=true:=by rfl) (h2:t.filter (fun p=>p.1 == i)=[(i,s,x)]:=by rfl):kI (more L i) (env.put (some s) x) t:=fun p hp hL=>by
 by_cases e:p.1=i
 · have h3:p∈t.filter (fun p=>p.1 == i):=List.mem_filter.2 ⟨hp,by simp [e]⟩;rw [h2] at h3;obtain rfl:=List.mem_singleton.1 h3;exact kn (p:=True) trivial
 · refine kf (G p hp (by rwa [zo e] at hL)) fun q => ?_
   have h3:=List.all_eq_true.1 h1 p hp;simp only [Option.some.injEq] at q;simp [q,e] at h3
theorem kIs {t:List (Nat × Nat × AV)} (G:kI L env t) (h1:t.all (fun p=>p.1 != i)=true:=by rfl):kI (more L i) env t:=fun p hp hL=>by
 have h3:=List.all_eq_true.1 h1 p hp;exact G p hp (by rwa [zo (by simpa using h3)] at hL)
end inv
end Go.Proofs.YthaoifcebimkfaaGreatDoor

namespace Go.Proofs.YthaoifcebimkfaaGreatDoor
open Go Go.AL

structure Nx (mb:Nat) (H:Hp) (m:Nat) (ad:Nat → Nat) (H':Hp) (ad':Nat → Nat):Prop where
 n:H'.n=H.n
 f : ∀ b,b≠mb → H'.f b=H.f b
 ad : ∀ i,i < m → ad' i=ad i
theorem Nx.refl {mb:Nat} {H:Hp} {m:Nat} {ad:Nat → Nat}:Nx mb H m ad H ad:=⟨rfl,fun _ _=>rfl,fun _ _=>rfl⟩
theorem Nx.trans {mb:Nat} {H H1 H2:Hp} {m m1:Nat} {ad ad1 ad2:Nat → Nat} (h:Nx mb H m ad H1 ad1) (h':Nx mb H1 m1 ad1 H2 ad2) (hm:m≤m1):Nx mb H m ad H2 ad2 :=
 ⟨h'.n.trans h.n,fun b hb=>(h'.f b hb).trans (h.f b hb),fun i hi=>(h'.ad i (by omega)).trans (h.ad i hi)⟩

theorem zeT {s:List Nd} (hw:Wf s) : ∀ n,n < 29+s.length → lev s n≤n - 28:=by
 intro n
 induction n using Nat.strongRecOn with
 | _ n ih =>
  intro hn;by_cases h:n < 29
  · rw [zh7 n h];omega
  · obtain⟨j,rfl⟩ : ∃ j,n=29+j:=⟨n - 29,by omega⟩
    have hj:j < s.length:=by omega
    obtain⟨h1,h2⟩:=hw.op j hj
    have a:=ih (nth s j).l (by omega) (by omega);have b:=ih (nth s j).r (by omega) (by omega)
    have e:lev s (29+j)=(nth s j).lv:=by unfold lev;rw [if_neg h,Nat.add_sub_cancel_left]
    rw [e,hw.lv j hj];omega
theorem zk9 {ad:Nat → Nat} {s:List Nd} {n:Nat}:(ndC ad s n)[7]? = some (i64 (lev s n:Nat)):=by
 unfold ndC lev
 split<;>rfl

def nw (s:List Nd) (ad:Nat → Nat) (k:Cf) (l r:Nat):List PV:=[i64 0,i64 k.c,i64 k.a,i64 k.b,i64 k.d,ptp (ad l),ptp (ad r),i64 ((1+max (lev s l) (lev s r):Nat):Int)]
section nw
variable {s:List Nd} {ad:Nat → Nat} {k:Cf} {l r:Nat}
theorem zP:zu [.p (i64 0),.p (i64 k.c),.p (i64 k.a),.p (i64 k.b),.p (i64 k.d),.p (ptp (ad l)),.p (ptp (ad r)),.p (i64 ((1+max (lev s l) (lev s r):Nat):Int))] = .p (.agg (nw s ad k l r)):=rfl
theorem zC:zh (.p (.agg (nw s ad k l r)))=some ((nw s ad k l r).map .p):=rfl
end nw

section walks
variable {G:Globs}
def kyP (k:Cf) (g g':Nat):PV := .agg [i64 k.c,i64 k.a,i64 k.b,i64 k.d,ptp g,ptp g']
section enc
variable {k:Cf} {a b c d:Int} {g g' o o':Nat} {v:Value} {n:Int}
theorem zq0:zh (.p (cfP k))=some [.p (i64 k.c),.p (i64 k.a),.p (i64 k.b),.p (i64 k.d)]:=rfl
theorem zv0:(cfP k).cells=[i64 k.c,i64 k.a,i64 k.b,i64 k.d]:=rfl
theorem zv1:(cfP k).isAgg=true:=rfl
theorem zq1:(AV.p (cfP k)).isAggV=true:=rfl
theorem zAX:(cfP k).weak=cfP k:=rfl
theorem zv2:(cfP k).weak1=cfP k:=rfl
theorem zv3:(cfP k).aggOf 0 4=cfP k:=rfl
theorem zv4:zu [.p (i64 a),.p (i64 b),.p (i64 c),.p (i64 d)] = .p (cfP ⟨a,b,c,d⟩):=rfl
theorem zFl:(⟨k.c,k.a,k.b,k.d⟩:Cf)=k:=rfl
theorem zDv:PV.agg [i64 a,i64 b,i64 c,i64 d]=cfP ⟨a,b,c,d⟩:=rfl
theorem zq2:zh (.p (kyP k g g'))=some [.p (i64 k.c),.p (i64 k.a),.p (i64 k.b),.p (i64 k.d),.p (ptp g),.p (ptp g')]:=rfl
theorem zv5:(kyP k g g').cells=[i64 k.c,i64 k.a,i64 k.b,i64 k.d,ptp g,ptp g']:=rfl
theorem zv6:(kyP k g g').isAgg=true:=rfl
theorem zq3:(AV.p (kyP k g g')).isAggV=true:=rfl
theorem zAY:(kyP k g g').weak=kyP k g g':=rfl
theorem zv7:(kyP k g g').weak1=kyP k g g':=rfl
theorem zv8:zu [.p (i64 a),.p (i64 b),.p (i64 c),.p (i64 d),.p (ptp g),.p (ptp g')] = .p (kyP ⟨a,b,c,d⟩ g g'):=rfl
theorem zDw:PV.agg [i64 a,i64 b,i64 c,i64 d,ptp g,ptp g']=kyP ⟨a,b,c,d⟩ g g':=rfl
theorem zAZ {a b c d w x y z:AV} {r:List AV}:setAt (a :: b :: c :: d :: r) 0 [w,x,y,z]=w :: x :: y :: z :: r:=rfl
theorem zA0 {e a b c d w x y z:AV} {r:List AV}:setAt (e :: a :: b :: c :: d :: r) 1 [w,x,y,z]=e :: w :: x :: y :: z :: r:=rfl
end enc
attribute [go_sem] zAZ zA0 zq0 zv0 zv1 zq1 zAX zv2 zv3 zv4 zFl zDv zq2 zv5 zv6 zq3 zAY zv7 zv8 zDw
set_option maxRecDepth 20000 in
set_option maxHeartbeats 8000000 in
theorem zv9 {s:List Nd} {ad:Nat → Nat} {bb mb:Nat} (l r:Nat) (k:Cf) (H:Hp) (hB:BH H s ad bb mb) (hl:l < 29+s.length) (hr:r < 29+s.length) (hlen:s.length≤1000) (R:AV → Hp → Prop)
 (h : ∀ H' ad',BH H' (addN s l r k).2 ad' bb mb → Nx mb H (29+s.length) ad H' ad' → R (.p (ptp (ad' (addN s l r k).1))) H') :
 ACall Tryz.prog G 92 [.ptr bb 0,.p (ptp (ad l)),.p (ptp (ad r)),.p (cfP k)] H R:=by
 refine ACall.of_run (raw:=[]) Tryz.func92 rfl Tryz.ntmps92 (by simp) fun hbel => ?_
 have hbb:=Hp.lt hB.bld;have hmb:=Hp.lt hB.map;refine .qt rfl ?_;simp (disch:=first|exact za|fail) only [go_sem,seval];refine .qt rfl ?_;simp (disch:=first|exact za|fail) only [go_sem,seval]
 have hnew : ∀ x y,((H.new x).new y).f mb=H.f mb:=fun x y=>by rw [zb (by rw [n_new'];omega),zb (by omega)]
 by_cases hp:yF s k l r < s.length
 · have hlk : ∀ x y,zaJ Tryz.prog ((H.new x).new y) 140 (.mp mb) (.p (kyP k (ad l) (ad r))) false=some (.p (ptp (ad (29+yF s k l r)))):=fun x y=>by
    have:=hB.look (hnew x y) rfl (k:=k) hl hr
    rw [if_pos hp] at this;exact this
   refine .q ?_;refine .open [] follows (by kernel_rfl) ?_;simp (disch:=first|exact za|fail) only [go_sem,seval,hB.bld,hlk];refine .qF rfl ?_;refine .q ?_;refine .open [] follows (by kernel_rfl) ?_;simp (disch:=first|exact za|fail) only [go_sem,seval,hB.bld,hlk];refine .qr rfl Tryz.func92 (by rw [Tryz.results92]) ?_;simp (disch:=first|exact za|fail) only [go_sem,seval]
   have e:(addN s l r k).2=s:=by rw [zaf,if_pos hp]
   exact h H ad (by rw [e];exact hB) .refl
 · have hlk : ∀ x y,zaJ Tryz.prog ((H.new x).new y) 140 (.mp mb) (.p (kyP k (ad l) (ad r))) false=some (.p (.s (.pointer none))):=fun x y=>by
    have:=hB.look (hnew x y) rfl (k:=k) hl hr
    rw [if_neg hp] at this;exact this
   have hfr : ∀ x y z v,zdD Tryz.prog (app ((H.new x).new y) [z]) 140 (.mp mb) (.p (kyP k (ad l) (ad r))) v=some ((app ((H.new x).new y) [z]).set mb (.mapB (tm (kyV ad) (ndP ad) (zdV s)++[(kyV ad (k,l,r),v)]))):=fun x y z v =>
    hB.fresh (H':=((H.new x).new y).new z) (by rw [zb (by rw [n_new',n_new'];omega)];exact hnew x y) rfl hl hr hp v
   have hzl:=hB.nd l hl;have hzr:=hB.nd r hr;have hll:=zeT hB.wf l hl;have hlr:=zeT hB.wf r hr
   have hmx:max (lev s l:Int) (lev s r:Int)=((max (lev s l) (lev s r):Nat):Int):=by omega
   have ndl:(ndC ad s l)[7]? = some (i64 (lev s l:Nat)):=zk9;have ndr:(ndC ad s r)[7]? = some (i64 (lev s r:Nat)):=zk9;refine .q ?_;refine .open [] follows (by kernel_rfl) ?_;simp (disch:=first|exact za|fail) only [go_sem,seval,hB.bld,hlk];refine .qT rfl ?_
   (refine .q ?_)
   refine .openInv (fun L env' H'=>kF env' [(0,.ptr bb 0),(1,.p (ptp (ad l))),(2,.p (ptp (ad r))),(7,.ptr H.n 0),(9,.ptr (H.n+1) 0)]∧kI L env' [(0,21,.ptr bb 0),(1,22,.ptr bb 0),(2,23,.ptr bb 1),(3,24,.mp mb),(4,25,.p (kyP k (ad l) (ad r))),(5,26,.p (cfP k)),(6,27,.p (ptp (ad l))),(7,28,.p (ptp (ad r))),(8,29,.p (ptp (ad l))),(9,30,.p (ptp (ad l))),(10,31,.p (ptq (ad l) 7)),(11,32,.p (i64 (lev s l:Nat))),(12,33,.p (ptp (ad r))),(13,34,.p (ptp (ad r))),(14,35,.p (ptq (ad r) 7)),(15,36,.p (i64 (lev s r:Nat))),(16,37,.p (i64 (max (lev s l) (lev s r):Nat))),(17,38,.p (i64 (1+max (lev s l) (lev s r):Nat))),(18,39,.p (.agg (nw s ad k l r))),(19,40,.ptr (H.n+2) 0)]∧(L 19=true → allT L [18])∧(L 20=true → allT L [0,1,2,3,4,5,6,7,8,9,10,11,12,13,14,15,16,17,18,19])∧H'=(if L 20=true then (app ((H.new (.cells [.p (i64 k.c),.p (i64 k.a),.p (i64 k.b),.p (i64 k.d)])).new (.cells [.p (i64 k.c),.p (i64 k.a),.p (i64 k.b),.p (i64 k.d),.p (ptp (ad l)),.p (ptp (ad r))])) [.cells ((nw s ad k l r).map .p)]).set mb (.mapB (tm (kyV ad) (ndP ad) (zdV s)++[(kyV ad (k,l,r),.ptr (H.n+2) 0)])) else app ((H.new (.cells [.p (i64 k.c),.p (i64 k.a),.p (i64 k.b),.p (i64 k.d)])).new (.cells [.p (i64 k.c),.p (i64 k.a),.p (i64 k.b),.p (i64 k.d),.p (ptp (ad l)),.p (ptp (ad r))])) (if L 19=true then [.cells ((nw s ad k l r).map .p)] else []))) follows (by kernel_rfl) ?_ ?_ ?_
   · exact⟨(by simp (disch:=first|exact za|fail) only [go_sem,seval,kFi,kFn,and_self,hB.bld,hfr,hzl,hzr,ndl,ndr,hmx,zP,zC]),(fun _ _ h=>by cases h),(fun h=>by cases h),(fun h=>by cases h),(by first | rfl | (simp only [Bool.false_eq_true,if_false];first | rfl | (simp (disch:=first|exact za|fail) only [go_sem,seval,hB.bld,hfr,hzl,hzr,ndl,ndr,hmx,zP,zC]<;>rfl)))⟩
   · intro i o L env' H' ho hL hall hI
     obtain⟨KF,KG,m19,m20,rfl⟩:=hI
     rcases i with _ | _ | _ | _ | _ | _ | _ | _ | _ | _ | _ | _ | _ | _ | _ | _ | _ | _ | _ | _ | _ | i
     · cases ho;have f0:=kFg KF 0 rfl;refine yw (.ptr bb 0) rfl rfl (by simp (disch:=first|exact za|fail) only [go_sem,seval,f0,hB.bld,hfr,hzl,hzr,ndl,ndr,hmx,zP,zC]<;>rfl) rfl ?_;exact⟨kFp KF,kIp KG,ka m19,ka m20,(by rw [zo (by decide),zo (by decide)])⟩
     · cases ho;have d0:=kIg KG 0 rfl (kL hall 0 rfl rfl);refine yw (.ptr bb 0) rfl rfl (by simp (disch:=first|exact za|fail) only [go_sem,seval,d0,hB.bld,hfr,hzl,hzr,ndl,ndr,hmx,zP,zC]<;>rfl) rfl ?_;exact⟨kFp KF,kIp KG,ka m19,ka m20,(by rw [zo (by decide),zo (by decide)])⟩
     · cases ho;have d1:=kIg KG 1 rfl (kL hall 0 rfl rfl);refine yw (.ptr bb 1) rfl rfl (by simp (disch:=first|exact za|fail) only [go_sem,seval,d1,hB.bld,hfr,hzl,hzr,ndl,ndr,hmx,zP,zC]<;>rfl) rfl ?_;exact⟨kFp KF,kIp KG,ka m19,ka m20,(by rw [zo (by decide),zo (by decide)])⟩
     · cases ho;have d2:=kIg KG 2 rfl (kL hall 0 rfl rfl);have n20:=nfT m20 hL;refine yw (.mp mb) rfl rfl (by simp (disch:=first|exact za|fail) only [go_sem,seval,reduceIte,Bool.false_eq_true,if_false,if_true,d2,n20,hL,hB.bld,hfr,hzl,hzr,ndl,ndr,hmx,zP,zC]<;>rfl) rfl ?_;exact⟨kFp KF,kIp KG,ka m19,ka m20,(by rw [zo (by decide),zo (by decide)])⟩
     · cases ho;have n20:=nfT m20 hL;have f4:=kFg KF 4 rfl;refine yw (.p (kyP k (ad l) (ad r))) rfl rfl (by simp (disch:=first|exact za|fail) only [go_sem,seval,reduceIte,Bool.false_eq_true,if_false,if_true,f4,n20,hL,hB.bld,hfr,hzl,hzr,ndl,ndr,hmx,zP,zC]<;>rfl) rfl ?_;exact⟨kFp KF,kIp KG,ka m19,ka m20,(by rw [zo (by decide),zo (by decide)])⟩
     · cases ho;have n20:=nfT m20 hL;have f3:=kFg KF 3 rfl;refine yw (.p (cfP k)) rfl rfl (by simp (disch:=first|exact za|fail) only [go_sem,seval,reduceIte,Bool.false_eq_true,if_false,if_true,f3,n20,hL,hB.bld,hfr,hzl,hzr,ndl,ndr,hmx,zP,zC]<;>rfl) rfl ?_;exact⟨kFp KF,kIp KG,ka m19,ka m20,(by rw [zo (by decide),zo (by decide)])⟩
     · cases ho;have f1:=kFg KF 1 rfl;refine yw (.p (ptp (ad l))) rfl rfl (by simp (disch:=first|exact za|fail) only [go_sem,seval,f1,hB.bld,hfr,hzl,hzr,ndl,ndr,hmx,zP,zC]<;>rfl) rfl ?_;exact⟨kFp KF,kIp KG,ka m19,ka m20,(by rw [zo (by decide),zo (by decide)])⟩
     · cases ho;have f2:=kFg KF 2 rfl;refine yw (.p (ptp (ad r))) rfl rfl (by simp (disch:=first|exact za|fail) only [go_sem,seval,f2,hB.bld,hfr,hzl,hzr,ndl,ndr,hmx,zP,zC]<;>rfl) rfl ?_;exact⟨kFp KF,kIp KG,ka m19,ka m20,(by rw [zo (by decide),zo (by decide)])⟩
     · cases ho;have f1:=kFg KF 1 rfl;refine yw (.p (ptp (ad l))) rfl rfl (by simp (disch:=first|exact za|fail) only [go_sem,seval,f1,hB.bld,hfr,hzl,hzr,ndl,ndr,hmx,zP,zC]<;>rfl) rfl ?_;exact⟨kFp KF,kIp KG,ka m19,ka m20,(by rw [zo (by decide),zo (by decide)])⟩
     · cases ho;have d8:=kIg KG 8 rfl (kL hall 0 rfl rfl);refine yw (.p (ptp (ad l))) rfl rfl (by simp (disch:=first|exact za|fail) only [go_sem,seval,d8,hB.bld,hfr,hzl,hzr,ndl,ndr,hmx,zP,zC]<;>rfl) rfl ?_;exact⟨kFp KF,kIp KG,ka m19,ka m20,(by rw [zo (by decide),zo (by decide)])⟩
     · cases ho;have d9:=kIg KG 9 rfl (kL hall 0 rfl rfl);refine yw (.p (ptq (ad l) 7)) rfl rfl (by simp (disch:=first|exact za|fail) only [go_sem,seval,d9,hB.bld,hfr,hzl,hzr,ndl,ndr,hmx,zP,zC]<;>rfl) rfl ?_;exact⟨kFp KF,kIp KG,ka m19,ka m20,(by rw [zo (by decide),zo (by decide)])⟩
     · cases ho;have d10:=kIg KG 10 rfl (kL hall 0 rfl rfl);have n20:=nfT m20 hL;refine yw (.p (i64 (lev s l:Nat))) rfl rfl (by simp (disch:=first|exact za|fail) only [go_sem,seval,reduceIte,Bool.false_eq_true,if_false,if_true,d10,n20,hL,hB.bld,hfr,hzl,hzr,ndl,ndr,hmx,zP,zC]<;>rfl) rfl ?_;exact⟨kFp KF,kIp KG,ka m19,ka m20,(by rw [zo (by decide),zo (by decide)])⟩
     · cases ho;have f2:=kFg KF 2 rfl;refine yw (.p (ptp (ad r))) rfl rfl (by simp (disch:=first|exact za|fail) only [go_sem,seval,f2,hB.bld,hfr,hzl,hzr,ndl,ndr,hmx,zP,zC]<;>rfl) rfl ?_;exact⟨kFp KF,kIp KG,ka m19,ka m20,(by rw [zo (by decide),zo (by decide)])⟩
     · cases ho;have d12:=kIg KG 12 rfl (kL hall 0 rfl rfl);refine yw (.p (ptp (ad r))) rfl rfl (by simp (disch:=first|exact za|fail) only [go_sem,seval,d12,hB.bld,hfr,hzl,hzr,ndl,ndr,hmx,zP,zC]<;>rfl) rfl ?_;exact⟨kFp KF,kIp KG,ka m19,ka m20,(by rw [zo (by decide),zo (by decide)])⟩
     · cases ho;have d13:=kIg KG 13 rfl (kL hall 0 rfl rfl);refine yw (.p (ptq (ad r) 7)) rfl rfl (by simp (disch:=first|exact za|fail) only [go_sem,seval,d13,hB.bld,hfr,hzl,hzr,ndl,ndr,hmx,zP,zC]<;>rfl) rfl ?_;exact⟨kFp KF,kIp KG,ka m19,ka m20,(by rw [zo (by decide),zo (by decide)])⟩
     · cases ho;have d14:=kIg KG 14 rfl (kL hall 0 rfl rfl);have n20:=nfT m20 hL;refine yw (.p (i64 (lev s r:Nat))) rfl rfl (by simp (disch:=first|exact za|fail) only [go_sem,seval,reduceIte,Bool.false_eq_true,if_false,if_true,d14,n20,hL,hB.bld,hfr,hzl,hzr,ndl,ndr,hmx,zP,zC]<;>rfl) rfl ?_;exact⟨kFp KF,kIp KG,ka m19,ka m20,(by rw [zo (by decide),zo (by decide)])⟩
     · cases ho;have d11:=kIg KG 11 rfl (kL hall 0 rfl rfl);have d15:=kIg KG 15 rfl (kL hall 1 rfl rfl);have n20:=nfT m20 hL;refine yw (.p (i64 (max (lev s l) (lev s r):Nat))) rfl rfl (by simp (disch:=first|exact za|fail) only [go_sem,seval,reduceIte,Bool.false_eq_true,if_false,if_true,d11,d15,n20,hL,hB.bld,hfr,hzl,hzr,ndl,ndr,hmx,zP,zC]<;>rfl) rfl ?_;exact⟨kFp KF,kIp KG,ka m19,ka m20,(by rw [zo (by decide),zo (by decide)])⟩
     · cases ho;have d16:=kIg KG 16 rfl (kL hall 0 rfl rfl);refine yw (.p (i64 (1+max (lev s l) (lev s r):Nat))) rfl rfl (by simp (disch:=first|exact za|fail) only [go_sem,seval,d16,hB.bld,hfr,hzl,hzr,ndl,ndr,hmx,zP,zC]<;>rfl) rfl ?_;exact⟨kFp KF,kIp KG,ka m19,ka m20,(by rw [zo (by decide),zo (by decide)])⟩
     · cases ho;have d5:=kIg KG 5 rfl (kL hall 0 rfl rfl);have d6:=kIg KG 6 rfl (kL hall 1 rfl rfl);have d7:=kIg KG 7 rfl (kL hall 2 rfl rfl);have d17:=kIg KG 17 rfl (kL hall 3 rfl rfl);have n19:=nfT m19 hL;have n20:=nfT m20 hL;refine yw (.p (.agg (nw s ad k l r))) rfl rfl (by simp (disch:=first|exact za|fail) only [go_sem,seval,reduceIte,Bool.false_eq_true,if_false,if_true,d5,d6,d7,d17,n19,n20,hL,hB.bld,hfr,hzl,hzr,ndl,ndr,hmx,zP,zC]<;>rfl) rfl ?_;exact⟨kFp KF,kIp KG,ka m19,ka m20,(by rw [zo (by decide),zo (by decide)])⟩
     · cases ho;have h18:=kL hall 0 rfl rfl;have d18:=kIg KG 18 rfl h18;have n20:=nfT m20 hL;(try simp only [n20,hL,if_true,if_false,Bool.false_eq_true]);refine zAV (.ptr (H.n+2) 0) rfl rfl (by simp (disch:=first|exact za|fail) only [go_sem,seval,reduceIte,Bool.false_eq_true,if_false,if_true,d18,n20,hL,hB.bld,hfr,hzl,hzr,ndl,ndr,hmx,zP,zC]<;>rfl) rfl ?_;exact⟨kFp KF,kIp KG,(fun _=>kt (zQ h18 znI)),ka m20,(by (have e19:more L 19 19=true:=zsI);(have e20:more L 19 20=L 20:=zo (by decide));(try simp only [e19,e20,n20,hL]);first | done | rfl | (simp only [e19,e20,n20,hL,if_true,if_false,Bool.false_eq_true];first | done | rfl | (simp (disch:=first|exact za|fail) only [go_sem,seval,e19,e20,n20,hL,hB.bld,hfr,hzl,hzr,ndl,ndr,hmx,zP,zC]<;>rfl)))⟩
     · cases ho;have h3:=kL hall 0 rfl rfl;have d3:=kIg KG 3 rfl h3;have h4:=kL hall 1 rfl rfl;have d4:=kIg KG 4 rfl h4;have h19:=kL hall 2 rfl rfl;have d19:=kIg KG 19 rfl h19;have h0:=kL hall 3 rfl rfl;have h1:=kL hall 4 rfl rfl;have h2:=kL hall 5 rfl rfl;have h5:=kL hall 8 rfl rfl;have h6:=kL hall 9 rfl rfl;have h7:=kL hall 10 rfl rfl;have h8:=kL hall 11 rfl rfl;have h9:=kL hall 12 rfl rfl;have h10:=kL hall 13 rfl rfl;have h11:=kL hall 14 rfl rfl;have h12:=kL hall 15 rfl rfl;have h13:=kL hall 16 rfl rfl;have h14:=kL hall 17 rfl rfl;have h15:=kL hall 18 rfl rfl;have h16:=kL hall 19 rfl rfl;have h17:=kL hall 20 rfl rfl;have h18:=kL hall 21 rfl rfl;refine zAW rfl rfl (by simp (disch:=first|exact za|fail) only [go_sem,seval,reduceIte,Bool.false_eq_true,if_false,if_true,d3,d4,d19,h19,hL,hB.bld,hfr,hzl,hzr,ndl,ndr,hmx,zP,zC]<;>rfl) rfl ?_;exact⟨KF,kIs KG,ka m19,(fun _=>kt (zQ h0 (zQ h1 (zQ h2 (zQ h3 (zQ h4 (zQ h5 (zQ h6 (zQ h7 (zQ h8 (zQ h9 (zQ h10 (zQ h11 (zQ h12 (zQ h13 (zQ h14 (zQ h15 (zQ h16 (zQ h17 (zQ h18 (zQ h19 znI))))))))))))))))))))),(by (have e19:more L 20 19=L 19:=zo (by decide));(have e20:more L 20 20=true:=zsI);(try simp only [e19,e20,h19,hL]);first | done | rfl | (simp only [e19,e20,h19,hL,if_true,if_false,Bool.false_eq_true];first | done | rfl | (simp (disch:=first|exact za|fail) only [go_sem,seval,e19,e20,h19,hL,hB.bld,hfr,hzl,hzr,ndl,ndr,hmx,zP,zC]<;>rfl)))⟩
     · simp at ho
   · intro L env' H' hall hI
     obtain⟨KF,KG,_,_,rfl⟩:=hI
     have l19:=hall 19 (by decide);have l20:=hall 20 (by decide);have f0:=kFg KF 0 rfl;have f1:=kFg KF 1 rfl;have f2:=kFg KF 2 rfl;have f3:=kFg KF 3 rfl;have f4:=kFg KF 4 rfl;simp only [l19,l20,if_true]
     clear hall
     refine .frzZM (H.n+2) mb (nw s ad k l r) (tm (kyV ad) (ndP ad) (zdV s)) (kyV ad (k,l,r)) (by rw [Hp.f_set_ne _ _ _ _ (by omega)];exact Hp.f_new_self _ _) (Nat.succ_pos _) (by rw [Hp.f_set_self _ _ _ (by rw [app_n',n_new',n_new'];omega)]) fun g hg => ?_
     rw [zDt hB.wf hl hr hp g (1+max (lev s l) (lev s r))]
     generalize hHx:Hp.wz _ _ _=Hx
     have hxf : ∀ b,b < H.n → b≠mb → Hx.f b=H.f b:=fun b hb hm=>by
      subst hHx;rw [zkR,Hp.f_set_ne _ _ _ _ hm,Hp.f_set_ne _ _ _ _ (by omega),Hp.f_set_ne _ _ _ _ hm,zfh (by rw [n_new',n_new'];omega),zb (by rw [n_new'];omega),zb (by omega)]
     have hBx:BH Hx (addN s l r k).2 (adU ad (29+s.length) g) bb mb:=hB.add hl hr hp hg (hxf bb hbb hB.ne) (by subst hHx;rw [zkR,Hp.f_set_self _ _ _ (by rw [Hp.n_set,Hp.n_set,app_n',n_new',n_new'];omega)]) (by subst hHx;rfl)
     have hx9:Hx.f (H.n+1)=some (.cells [.p (i64 k.c),.p (i64 k.a),.p (i64 k.b),.p (i64 k.d),.p (ptp (ad l)),.p (ptp (ad r))]):=by
      subst hHx;rw [zkR,Hp.f_set_ne _ _ _ _ (by omega),Hp.f_set_ne _ _ _ _ (by omega),Hp.f_set_ne _ _ _ _ (by omega),zfh (by rw [n_new',n_new'];omega)];exact Hp.f_new_self _ _
     have hxn:Hx.n=H.n+3:=by subst hHx;rfl
     clear hHx
     have hne : ∀ i,i < 29+s.length → adU ad (29+s.length) g i=ad i:=fun i hi=>za4 (by omega)
     have hll':s.length≤(addN s l r k).2.length:=((yk l r k).ext s).len;have hlt:=yP s l r k;have hag:=(yk l r k).rep s _ (.refl _)
     have hpos:yF (addN s l r k).2 k l r=yF s k l r:=by
      have:=congrArg Prod.fst hag
      simp only [zaQ] at this;omega
     have hlk':zaJ Tryz.prog Hx 140 (.mp mb) (.p (kyP k (ad l) (ad r))) false=some (.p (ptp (adU ad (29+s.length) g (addN s l r k).1))):=by
      have:=hBx.look (H':=Hx) rfl rfl (k:=k) (l:=l) (r:=r) (by omega) (by omega)
      rw [if_pos (by rw [hpos];rw [zaQ] at hlt;omega),hne l hl,hne r hr,hpos] at this;exact this
     refine .q ?_;refine .open [] follows (by kernel_rfl) ?_;simp (disch:=first|exact za|fail) only [go_sem,seval,f0,f1,f2,f3,f4,hBx.bld,hlk',hx9];have hbel:Bel H.n Hx:=hBx.bel hbel hxf;refine .qr rfl Tryz.func92 (by rw [Tryz.results92]) ?_;simp (disch:=first|exact za|fail) only [go_sem,seval];refine h _ _ ⟨by rw [Hp.f_trunc,if_pos hbb];exact hBx.bld,by rw [Hp.f_trunc,if_pos hmb];exact hBx.map,hBx.nd,hBx.inj,hBx.wf,hBx.ne⟩ ⟨rfl,fun b hb => ?_,hne⟩;by_cases hbn:b < H.n
     · rw [Hp.f_trunc,if_pos hbn];exact hxf b hbn hb
     · rw [Hp.f_trunc,if_neg hbn];exact (H.wf b (by omega)).symm
end walks
end Go.Proofs.YthaoifcebimkfaaGreatDoor

namespace Go.Proofs.YthaoifcebimkfaaGreatDoor
open Go Go.AL

theorem BH.new {H:Hp} {s:List Nd} {ad:Nat → Nat} {bb mb:Nat} (hB:BH H s ad bb mb) (x:AB):BH (H.new x) s ad bb mb :=
 ⟨by rw [zb (by have:=Hp.lt hB.bld;omega)];exact hB.bld,by rw [zb (by have:=Hp.lt hB.map;omega)];exact hB.map,hB.nd,hB.inj,hB.wf,hB.ne⟩
theorem BH.set {H:Hp} {s:List Nd} {ad:Nat → Nat} {bb mb b:Nat} (hB:BH H s ad bb mb) (x:AB) (h1:b≠bb) (h2:b≠mb):BH (H.set b x) s ad bb mb :=
 ⟨by rw [Hp.f_set_ne _ _ _ _ (Ne.symm h1)];exact hB.bld,by rw [Hp.f_set_ne _ _ _ _ (Ne.symm h2)];exact hB.map,hB.nd,hB.inj,hB.wf,hB.ne⟩
theorem BH.trunc {H:Hp} {s:List Nd} {ad:Nat → Nat} {bb mb n:Nat} (hB:BH H s ad bb mb) (h1:bb < n) (h2:mb < n):BH (H.trunc n) s ad bb mb :=
 ⟨by rw [Hp.f_trunc,if_pos h1];exact hB.bld,by rw [Hp.f_trunc,if_pos h2];exact hB.map,hB.nd,hB.inj,hB.wf,hB.ne⟩

structure Nw (mb:Nat) (H:Hp) (m:Nat) (ad:Nat → Nat) (H':Hp) (ad':Nat → Nat):Prop where
 n:H.n≤H'.n
 f : ∀ b,b < H.n → b≠mb → H'.f b=H.f b
 ad : ∀ i,i < m → ad' i=ad i
theorem Nw.refl {mb:Nat} {H:Hp} {m:Nat} {ad:Nat → Nat}:Nw mb H m ad H ad:=⟨Nat.le_refl _,fun _ _ _=>rfl,fun _ _=>rfl⟩
theorem Nx.w {mb:Nat} {H H':Hp} {m:Nat} {ad ad':Nat → Nat} (h:Nx mb H m ad H' ad'):Nw mb H m ad H' ad':=⟨Nat.le_of_eq h.n.symm,fun b _ hb=>h.f b hb,h.ad⟩
theorem Nw.trans {mb:Nat} {H H1 H2:Hp} {m m1:Nat} {ad ad1 ad2:Nat → Nat} (h:Nw mb H m ad H1 ad1) (h':Nw mb H1 m1 ad1 H2 ad2) (hm:m≤m1):Nw mb H m ad H2 ad2 :=
 ⟨Nat.le_trans h.n h'.n,fun b hb hm=>(h'.f b (Nat.lt_of_lt_of_le hb h.n) hm).trans (h.f b hb hm),fun i hi=>(h'.ad i (by omega)).trans (h.ad i hi)⟩
theorem Nw.new {mb:Nat} {H:Hp} {m:Nat} {ad:Nat → Nat} (x:AB):Nw mb H m ad (H.new x) ad:=⟨by rw [n_new'];omega,fun b hb _=>zb (by omega),fun _ _=>rfl⟩
theorem Nw.back {mb:Nat} {H H':Hp} {m:Nat} {ad ad':Nat → Nat} (h:Nw mb H m ad H' ad') (hm:mb < H.n):Nx mb H m ad (H'.trunc H.n) ad' :=
 ⟨rfl,fun b hb=>by
  by_cases hbn:b < H.n
  · rw [Hp.f_trunc,if_pos hbn];exact h.f b hbn hb
  · rw [Hp.f_trunc,if_neg hbn];exact (H.wf b (by omega)).symm,h.ad⟩

def BR (bb mb:Nat) (H:Hp) (m:Nat) (ad:Nat → Nat) (f:BS) (r:AV) (H':Hp):Prop := ∃ ad',BH H' f.2 ad' bb mb∧Nx mb H m ad H' ad'∧r = .p (ptp (ad' f.1))

section walks
variable {G:Globs} {s:List Nd} {ad:Nat → Nat} {bb mb:Nat}
theorem zal (l r:Nat) (k:Cf) {H:Hp} (hB:BH H s ad bb mb) (hl:l < 29+s.length) (hr:r < 29+s.length) (hlen:s.length≤1000) :
 ACall Tryz.prog G 92 [.ptr bb 0,.p (ptp (ad l)),.p (ptp (ad r)),.p (cfP k)] H (BR bb mb H (29+s.length) ad (addN s l r k)) :=
 zv9 l r k H hB hl hr hlen _ fun _ ad' a b=>⟨ad',a,b,rfl⟩

set_option maxHeartbeats 8000000 in
theorem yT (l r:Nat) {H:Hp} (hB:BH H s ad bb mb) (hl:l < 29+s.length) (hr:r < 29+s.length) (hlen:s.length≤1000) :
 ACall Tryz.prog G 86 [.ptr bb 0,.p (ptp (ad l)),.p (ptp (ad r))] H (BR bb mb H (29+s.length) ad (prN s l r)):=by
 refine ACall.of_run (raw:=[]) Tryz.func86 rfl Tryz.ntmps86 (by simp) fun hbel => ?_
 have hbb:=Hp.lt hB.bld;have hmb:=Hp.lt hB.map;refine .qt rfl ?_;simp (disch:=first|exact za|fail) only [go_sem,seval];refine .qt rfl ?_;simp (disch:=first|exact za|fail) only [go_sem,seval];refine CallK.ex (zal l r ⟨1,0,0,0⟩ hB hl hr hlen) ?_
 rintro _ H1 ⟨ad1,hB1,n1,rfl⟩
 simp (disch:=first|exact za|fail) only [go_sem,seval];have hbel:Bel H.n H1:=hB1.bel hbel n1.w.f;refine .qr rfl Tryz.func86 (by rw [Tryz.results86]) ?_;simp (disch:=first|exact za|fail) only [go_sem,seval]
 exact⟨ad1,hB1.trunc hbb hmb,n1.w.back hmb,rfl⟩
end walks
end Go.Proofs.YthaoifcebimkfaaGreatDoor

namespace Go.Proofs.YthaoifcebimkfaaGreatDoor
open Go Go.AL

def ivv (n:Int):AV := .p (i64 n)
def zwa (k:Int):Option Int:=if k=0 then some 4 else if k=1 then some 8 else if k=2 then some 4 else if k=3 then some 8 else if k=4 then some 1 else none
theorem zA1 {v:Value}:(PV.s v).cells=[PV.s v]:=rfl
attribute [go_sem] zA1
theorem widMap:MapT Tryz.prog 190 i64 iev okI ivv (.p (i64 0)) where
 ty:=⟨_,_,Tryz.underlying190,zsC,zkZ,zkV⟩
 val k:=rfl
 inj a b _ _ h:=by simpa [iev] using h
structure GW (G:Globs) (r1:Nat) (m1:List (Int × Int)):Prop where
 g1:G 0=some (1,[.s (.map (some r1))])
 h1:G.map r1=some (tm iev ivv m1)
 k1 : ∀ p∈m1,okI p.1
 t1 : ∀ k,zM k m1=zwa k
theorem GW.at {G:Globs} {r1:Nat} {m1:List (Int × Int)} (g:GW G r1 m1) {k:Int} (h:okI k):zfm Tryz.prog 190 (some (tm iev ivv m1)) (.p (i64 k)) false=some (.p (i64 ((zwa k).getD 0))):=by
 rw [←g.t1,widMap.at g.k1 h];cases zM k m1<;>rfl
def zsJ (k:Int):Int:=(zwa k).getD 0
theorem zel {c:Nat} (h:c < 4):zsJ c=(zN c:Nat):=by
 match c,h with
 | 0,_=>rfl
 | 1,_=>rfl
 | 2,_=>rfl
 | 3,_=>rfl
 | c+4,h=>omega

section walks
variable {G:Globs} {r1:Nat} {m1:List (Int × Int)}
set_option maxHeartbeats 8000000 in
theorem za5 (g:GW G r1 m1) (k:Int) (hk:okI k) (H:Hp) (R:AV → Hp → Prop) (h:R (.p (i64 (zsJ k))) H):ACall Tryz.prog G 83 [.p (i64 k)] H R:=by
 refine ACall.of_run (raw:=[]) Tryz.func83 rfl Tryz.ntmps83 (by simp) fun hbel => ?_
 have hg:=g.g1;have hm:=g.h1;have hl:=g.at hk;refine .qt rfl ?_;simp (disch:=first|exact za|fail) only [go_sem,seval];refine .qt rfl ?_;simp (disch:=first|exact za|fail) only [go_sem,seval,hg,hm,hl];refine .qr rfl Tryz.func83 (by rw [Tryz.results83]) ?_;simp (disch:=first|exact za|fail) only [go_sem,seval];exact h
set_option maxHeartbeats 8000000 in
theorem znJ (g:GW G r1 m1) (c:Nat) (hc:c < 4) (H:Hp) (R:AV → Hp → Prop) (h:R (.p (i64 (zf c:Nat))) H):ACall Tryz.prog G 140 [.p (i64 c)] H R:=by
 refine ACall.of_run (raw:=[]) Tryz.func140 rfl Tryz.ntmps140 (by simp) fun hbel => ?_
 refine .qt rfl ?_;simp (disch:=first|exact za|fail) only [go_sem,seval];refine .qt rfl ?_;simp (disch:=first|exact za|fail) only [go_sem,seval];refine .qt rfl ?_;simp (disch:=first|exact za|fail) only [go_sem,seval];refine .q ?_;refine .count (fun i env H'=>env 3 = .p (i64 (zf i:Nat))∧env 5 = .p (i64 c)∧env 6 = .p (i64 i)∧H'=H) 0 c (by omega) ?_ ?_ ?_
 · simp (disch:=first|exact za|fail) only [go_sem,seval];rfl
 · intro env H' ⟨e3,e5,e6,eH⟩;subst eH;refine .qt rfl ?_;simp (disch:=first|exact za|fail) only [go_sem,seval,e5,e6];refine .qF rfl ?_;refine .qt rfl ?_;simp (disch:=first|exact za|fail) only [go_sem,seval,e3];refine .qr rfl Tryz.func140 (by rw [Tryz.results140]) ?_;simp (disch:=first|exact za|fail) only [go_sem,seval];exact h
 · intro i env H' hi0 hi ⟨e3,e5,e6,eH⟩ ih;subst eH
   have hf:zf i≤21:=by
    match i,(show i < 4 by omega) with
    | 0,_=>decide
    | 1,_=>decide
    | 2,_=>decide
    | 3,_=>decide
    | i+4,h=>omega
   have hb:=zel (show i < 4 by omega);have hw:=zag i
   have hn:zf (i+1)=zf i+zN i:=by
    match i,(show i < 3 by omega) with
    | 0,_=>decide
    | 1,_=>decide
    | 2,_=>decide
    | i+3,h=>omega
   refine .qt rfl ?_;simp (disch:=first|exact za|fail) only [go_sem,seval,e5,e6];refine .qT rfl ?_;refine .qt rfl ?_;simp (disch:=first|exact za|fail) only [go_sem,seval,e6];refine .qt rfl ?_;simp (disch:=first|exact za|fail) only [go_sem,seval,e3];refine CallK.of (fun R h=>za5 g i ⟨by omega,by omega⟩ _ R h) ?_;simp (disch:=first|exact za|fail) only [go_sem,seval,hb];refine .qt rfl ?_;simp (disch:=first|exact za|fail) only [go_sem,seval,e6];refine ih _ _ ?_;simp (disch:=first|exact za|fail) only [go_sem,seval,e5,hn]
def zdY (ad:Nat → Nat) (c:Nat):PV := .sl false 1 (pl (fun i=>ptp (ad i)) ((rng29.take (zf c+zN c)).drop (zf c)))
set_option maxHeartbeats 8000000 in
theorem zf1 (g:GW G r1 m1) {s:List Nd} {ad:Nat → Nat} {bb mb:Nat} (c:Nat) (hc:c < 4) (H:Hp) (hB:BH H s ad bb mb) (R:AV → Hp → Prop) (h:R (.p (zdY ad c)) H):ACall Tryz.prog G 94 [.ptr bb 0,.p (i64 c)] H R:=by
 refine ACall.of_run (raw:=[]) Tryz.func94 rfl Tryz.ntmps94 (by simp) fun hbel => ?_
 have hf:zf c≤21:=by
  match c,hc with
  | 0,_=>decide
  | 1,_=>decide
  | 2,_=>decide
  | 3,_=>decide
  | c+4,h=>omega
 have hb:=zel hc;have hw:=zag c;have hlen:=zcF
 have hcast:((zf c:Int)+(zN c:Int)).toNat=zf c+zN c:=by omega
 refine .qt rfl ?_;simp (disch:=first|exact za|fail) only [go_sem,seval];refine .qt rfl ?_;simp (disch:=first|exact za|fail) only [go_sem,seval];refine CallK.of (fun R h=>znJ g c hc _ R h) ?_;simp (disch:=first|exact za|fail) only [go_sem,seval];refine .q ?_;refine .open [] follows (by kernel_rfl) ?_;simp (disch:=first|exact za|fail) only [go_sem,seval,hB.bld];refine CallD.still (fun R h=>za5 g c ⟨by omega,by omega⟩ _ R h) ?_;simp (disch:=first|exact za|fail) only [go_sem,seval,hb,hlen,hcast];refine .qr rfl Tryz.func94 (by rw [Tryz.results94]) ?_;simp (disch:=first|exact za|fail) only [go_sem,seval];exact h
end walks
end Go.Proofs.YthaoifcebimkfaaGreatDoor
