/-
  Texts of this claim, joined: what the statement's proof uses.
-/
import Derived.Shelf.Strings.BuilderK
import Derived.Shelf.Strconv.Itoa4
import Derived.Shelf.Strconv.ErrVarParseInt
import Derived.Shelf.Strings.Search3
import Derived.Test.YtpeaigpfddalcaaGreatDoorProg
import Derived.WalkKit
import Derived.WalkSpells
import Derived.WalkLawsBesides
import Derived.Lib.Hide
import Derived.Laws.OwnMore
import Derived.Laws.Rows
import Derived.RegionTactic
import Derived.OwnWalk
import Derived.Orders
import Derived.StillTail
import Derived.Laws.AppendOwn
import Derived.Deep.MidRow
import Derived.Laws.BytesArg
import Derived.Laws.IdiomStrings
import Derived.Laws.StructEq
import Derived.ChangeKeysEq
import Derived.Laws.IdiomCopy
import Derived.Great.BuildSlice
import Derived.Laws.AppendOwnNone
import Derived.Laws.MakeOwn
import Derived.Scope
import Derived.RangeFuncKeeps
import Derived.RangeFuncCalls
import Derived.LoopNIn
import Derived.OrdersIn
import Derived.OwnWalkIn
import Derived.RangeFuncLeaves
import Derived.Laws.CopyOwn
import Derived.ProofKit
import Derived.OpenShut
import Derived.Carry
import Derived.ChangeSame
import Derived.Deep.DeepHandedRow
import Derived.Lib.LaidTab
import Derived.Lib.ParseIntBCases
import Derived.Test.YtpeaigpfddalcaaGreatDoorCards
import Derived.Test.YtpeaigpfddalcaaGreatDoorTie
import Derived.LaidSub
import Derived.Lib.LaidIn
import Derived.Lib.AppendStr
import Derived.RecoverIn
import Derived.Laws.RangeAny
import Derived.LoopTactic
import Derived.LoopIn
import Derived.Lib.Strings
import Derived.Lib.Walk
import Derived.Lib.Bytealg
set_option linter.unusedSimpArgs false
set_option linter.unusedVariables false
set_option maxRecDepth 100000
open Array renaming getD_eq_getD_getElem? -> zJ,getElem?_eq_some_iff -> zo,getElem?_modify -> xZ,getElem?_setIfInBounds -> xN,length_toList -> vw,range -> uL,replicate -> zz,toList_inj -> qc,toList_map -> jD
open BitVec renaming eq_of_toNat_eq -> vg,ofInt -> yL,ofInt_natCast -> qR,ofNat -> yc,toNat -> yY,toNat_inj -> kg,toNat_ofNat -> qF
open Bool renaming and_eq_true -> zf,false_eq_true -> yw,not_eq_true' -> zB,not_false -> vL,not_true -> jL
open ByteArray renaming extract -> ug,size -> qG
open Go renaming BinOp -> jI,Field -> vf,FuncId -> zP,IntKind -> yC,Operand -> zE,Program -> zx,TypeId -> zn,Value -> zh,World -> zj,binOp -> yQ,convert -> kY,sizeOf -> jV
open Go.Addr renaming add_mid -> yZ
open Go.Builtin renaming append_ -> qN,firstCells -> kZ,lenOf -> uV,len_ -> vC,max_ -> uk,min_ -> uj
open Go.ByteArray renaming toList_eq -> xD
open Go.Call renaming operands -> ka
open Go.Conv renaming stringToBytes -> kX
open Go.Extern.AbiNoEscape renaming same -> uY
open Go.Instr renaming buildSlice -> kh,field -> uG,fieldAt -> kP,fill -> kv,index -> uJ,indexAt -> vj,loadAt -> qQ,slice -> uK,sliceAt -> qB,sliceBound -> uz,sliceBounds -> qU,sureAddr -> ql
open Go.IntKind renaming bits -> y7,i64 -> uI,max -> vk,min -> vT,signed -> xV,wrap -> je
open Go.Next renaming value -> uS
open Go.Obj renaming cells -> uy
open Go.Op renaming bytesLess -> ku,eqFields -> vU,equal -> uf,intArith -> qA,intBits -> qE,intDiv -> vG,maxDepth -> kE,operands -> yu,shift -> kC,stringOp -> jW,unary -> ue
open Go.Oper renaming upon_value -> qK
open Go.Program renaming built -> kQ,fieldsOf -> ux
open Go.Question renaming cut -> uZ
open Go.Result renaming andThen -> vH,andThen_ok -> zA
open Go.RowKit renaming Below -> yV
open Go.RowKit.Below renaming refl -> zV
open Go.Sem renaming run_bind -> zC,run_pure -> zv
open Go.Shelf renaming Ren -> vA
open Go.Value renaming bool -> uR,int -> yF,oneCell' -> qi,string -> jg
open Go.World renaming cell? -> xo,freeze -> qT,ownsRow_nil -> um,shape? -> kr
open Int renaming ediv_eq_zero_of_lt -> jf,emod_eq_of_lt -> qS,fdiv_eq_ediv_of_nonneg -> jv,le_of_lt -> ud,mul_emod_left -> k9,mul_emod_right -> kW,natCast_ediv -> kf,natCast_inj -> vq,not_lt -> vJ,pow_pos -> uH,tdiv_eq_ediv_of_nonneg -> vI,toNat_natCast -> zD
open List renaming append_assoc -> zp,append_nil -> zL,drop -> jC,drop_drop -> xW,drop_eq_getElem_cons -> yr,drop_eq_nil_of_le -> jY,drop_left -> qm,drop_length_add_append -> xT,drop_take -> jc,eq_nil_of_length_eq_zero -> yP,extract_eq_take_drop -> vP,flatten_append -> vv,flatten_nil -> uA,foldlM_cons -> uB,getD -> qD,getElem?_append -> jx,getElem?_eq_getElem -> zU,getElem?_eq_some_iff -> yI,getElem?_map -> ym,getElem?_take -> zM,length -> zg,length_append -> zd,length_cons -> zt,length_take -> yB,mem_cons_self -> yf,mem_of_getElem? -> qn,range -> xE,replicate -> zu,set -> kD,size_toArray -> qV,take -> jl,take_append -> uC,take_append_drop -> x9,take_left -> xr,take_length_add_append -> js,take_of_length_le -> xx,take_take -> qH,toArray -> yD
open List.cons renaming inj -> v8,injEq -> kA
open Nat renaming add_assoc -> xU,add_mul -> xp,beq -> yb,beq_eq -> xc,ble -> qI,ble_eq -> qt,blt -> zW,eq_of_beq_eq_true -> xH,le_mul_of_pos_right -> ki,le_refl -> zl,le_total -> ks,le_trans -> zH,lt_of_le_of_lt -> kV,lt_of_lt_of_le -> zK,min_eq_left -> yz,min_eq_right -> qC,mod_eq_of_lt -> xQ,mul_le_mul -> jw,mul_le_mul_right -> xR,one_mul -> vV,pow_le_pow_right -> ju,shiftRight_eq_div_pow -> vQ,zero_add -> yp,zero_le -> zk
open Ne renaming symm -> yT
open Option renaming bind_eq_some_iff -> qp,isSome_none -> xP,map_eq_some_iff -> zG,map_some -> uO
open Option.some renaming injEq -> yN
open Prod.mk renaming injEq -> xJ
open UInt8 renaming ofNat -> yh,toNat -> qP,toNat_lt -> vK,toNat_ofNat' -> jR
open UInt8.toNat renaming inj -> uN
open Go Go.RowKit
namespace Go.Proofs
open Go.Shelf
def Tryz.lays169_ren:vA:=⟨fun|169=>62|n=>n,fun|70=>102|9=>9|0=>0|72=>105|37=>103|127=>161|3=>3|5=>5|n=>n,fun|n=>n⟩
theorem Tryz.lays169:Go.Proofs.Lays.n169 Tryz.prog Tryz.lays169_ren:={
 mixed:=by kernel_rfl
 f169:=Tryz.func62.trans (congrArg some (by kernel_rfl))
 t0:=Tryz.underlying0
 a0:=Tryz.isAgg0
 z0:=Tryz.sizeOf0
 v0:=Tryz.zeroValue0
 t3:=Tryz.underlying3
 a3:=Tryz.isAgg3
 z3:=Tryz.sizeOf3
 v3:=Tryz.zeroValue3
 t9:=Tryz.underlying9
 a9:=Tryz.isAgg9
 z9:=Tryz.sizeOf9
 v9:=Tryz.zeroValue9
 t37:=Tryz.underlying103
 a37:=Tryz.isAgg103
 z37:=Tryz.sizeOf103
 v37:=Tryz.zeroValue103
 t70:=Tryz.underlying102
 a70:=Tryz.isAgg102
 z70:=Tryz.sizeOf102
 v70:=Tryz.zeroValue102
 t72:=Tryz.underlying105
 a72:=Tryz.isAgg105
 z72:=Tryz.sizeOf105
 v72:=Tryz.zeroValue105
 t127:=Tryz.underlying161
 a127:=Tryz.isAgg161
 z127:=Tryz.sizeOf161
 v127:=Tryz.zeroValue161 }
theorem Tryz.Builder_Extra_169:Builder.Extra Tryz.prog Tryz.lays169_ren:={
 sizeBuilder:=by kernel_rfl
 liesBuilder:=by kernel_rfl
 t5:=Tryz.underlying5
 a5:=Tryz.isAgg5
 z5:=Tryz.sizeOf5
 v5:=Tryz.zeroValue5
 infoByte:=by kernel_rfl
 cellsByte:=by kernel_rfl
 sizeByte:=by kernel_rfl
 neB5:=by decide }
def Tryz.laysM171_ren:vA:=⟨fun|171=>149|243=>185|246=>221|283=>246|284=>247|285=>248|286=>249|129=>260|317=>259|318=>261|319=>262|320=>263|337=>267|338=>268|n=>n,fun|3=>3|9=>9|2=>2|4=>4|171=>256|0=>0|53=>236|37=>103|5=>5|173=>259|212=>267|51=>253|20=>20|213=>268|46=>229|232=>278|233=>279|n=>n,fun|17=>5|18=>6|19=>7|n=>n⟩
theorem Tryz.laysM171:Go.Proofs.LaysM.n171 Tryz.prog Tryz.laysM171_ren:={
 mixed:=by kernel_rfl
 f129:=Tryz.func260.trans (congrArg some (by kernel_rfl))
 f171:=Tryz.func149.trans (congrArg some (by kernel_rfl))
 f243:=Tryz.func185.trans (congrArg some (by kernel_rfl))
 f246:=Tryz.func221.trans (congrArg some (by kernel_rfl))
 f283:=Tryz.func246.trans (congrArg some (by kernel_rfl))
 f284:=Tryz.func247.trans (congrArg some (by kernel_rfl))
 f285:=Tryz.func248.trans (congrArg some (by kernel_rfl))
 f286:=Tryz.func249.trans (congrArg some (by kernel_rfl))
 f317:=Tryz.func259.trans (congrArg some (by kernel_rfl))
 f318:=Tryz.func261.trans (congrArg some (by kernel_rfl))
 f319:=Tryz.func262.trans (congrArg some (by kernel_rfl))
 f320:=Tryz.func263.trans (congrArg some (by kernel_rfl))
 f337:=Tryz.func267.trans (congrArg some (by kernel_rfl))
 f338:=Tryz.func268.trans (congrArg some (by kernel_rfl))
 t0:=Tryz.underlying0
 a0:=Tryz.isAgg0
 z0:=Tryz.sizeOf0
 v0:=Tryz.zeroValue0
 t2:=Tryz.underlying2
 a2:=Tryz.isAgg2
 z2:=Tryz.sizeOf2
 v2:=Tryz.zeroValue2
 t3:=Tryz.underlying3
 a3:=Tryz.isAgg3
 z3:=Tryz.sizeOf3
 v3:=Tryz.zeroValue3
 t4:=Tryz.underlying4
 a4:=Tryz.isAgg4
 z4:=Tryz.sizeOf4
 v4:=Tryz.zeroValue4
 t5:=Tryz.underlying5
 a5:=Tryz.isAgg5
 z5:=Tryz.sizeOf5
 v5:=Tryz.zeroValue5
 t9:=Tryz.underlying9
 a9:=Tryz.isAgg9
 z9:=Tryz.sizeOf9
 v9:=Tryz.zeroValue9
 t20:=Tryz.underlying20
 a20:=Tryz.isAgg20
 z20:=Tryz.sizeOf20
 v20:=Tryz.zeroValue20
 t37:=Tryz.underlying103
 a37:=Tryz.isAgg103
 z37:=Tryz.sizeOf103
 v37:=Tryz.zeroValue103
 t46:=Tryz.underlying229
 a46:=Tryz.isAgg229
 z46:=Tryz.sizeOf229
 v46:=Tryz.zeroValue229
 t51:=Tryz.underlying253
 a51:=Tryz.isAgg253
 z51:=Tryz.sizeOf253
 v51:=Tryz.zeroValue253
 t53:=Tryz.underlying236
 a53:=Tryz.isAgg236
 z53:=Tryz.sizeOf236
 v53:=Tryz.zeroValue236
 t171:=Tryz.underlying256
 a171:=Tryz.isAgg256
 z171:=Tryz.sizeOf256
 v171:=Tryz.zeroValue256
 t173:=Tryz.underlying259
 a173:=Tryz.isAgg259
 z173:=Tryz.sizeOf259
 v173:=Tryz.zeroValue259
 t212:=Tryz.underlying267
 a212:=Tryz.isAgg267
 z212:=Tryz.sizeOf267
 v212:=Tryz.zeroValue267
 t213:=Tryz.underlying268
 a213:=Tryz.isAgg268
 z213:=Tryz.sizeOf268
 t232:=Tryz.underlying278
 a232:=Tryz.isAgg278
 z232:=Tryz.sizeOf278
 v232:=Tryz.zeroValue278
 t233:=Tryz.underlying279
 a233:=Tryz.isAgg279
 z233:=Tryz.sizeOf279
 v233:=Tryz.zeroValue279
 g17:=by kernel_rfl
 g18:=by kernel_rfl
 g19:=by kernel_rfl
 i0:=by kernel_rfl
 i2:=by kernel_rfl
 i3:=by kernel_rfl
 i4:=by kernel_rfl
 i5:=by kernel_rfl
 i9:=by kernel_rfl
 i20:=by kernel_rfl
 i37:=by kernel_rfl
 i46:=by kernel_rfl
 i51:=by kernel_rfl
 i53:=by kernel_rfl
 i171:=by kernel_rfl
 i173:=by kernel_rfl
 i212:=by kernel_rfl
 i232:=by kernel_rfl
 i233:=by kernel_rfl
 m17:=by kernel_rfl
 m18:=by kernel_rfl
 m19:=by kernel_rfl }
def Tryz.laysC174_ren:vA:=⟨fun|174=>177|247=>198|245=>199|287=>232|279=>233|280=>234|281=>235|282=>236|321=>255|322=>256|316=>257|171=>149|205=>258|243=>185|246=>221|283=>246|284=>247|285=>248|286=>249|129=>260|317=>259|318=>261|319=>262|320=>263|337=>267|338=>268|n=>n,fun|9=>9|3=>3|2=>2|75=>114|85=>202|4=>4|167=>247|5=>5|53=>236|175=>248|46=>229|168=>250|37=>103|0=>0|210=>264|21=>21|127=>161|145=>275|143=>273|171=>256|173=>259|212=>267|51=>253|20=>20|213=>268|232=>278|233=>279|80=>110|n=>n,fun|15=>3|16=>4|17=>5|18=>6|19=>7|n=>n⟩
theorem Tryz.laysC174:Go.Proofs.LaysC.n174 Tryz.prog Tryz.laysC174_ren:={
 mixed:=by kernel_rfl
 f129:=Tryz.func260.trans (congrArg some (by kernel_rfl))
 f171:=Tryz.func149.trans (congrArg some (by kernel_rfl))
 f174:=Tryz.func177.trans (congrArg some (by kernel_rfl))
 f205:=Tryz.func258.trans (congrArg some (by kernel_rfl))
 f243:=Tryz.func185.trans (congrArg some (by kernel_rfl))
 f245:=Tryz.func199.trans (congrArg some (by kernel_rfl))
 f246:=Tryz.func221.trans (congrArg some (by kernel_rfl))
 f247:=Tryz.func198.trans (congrArg some (by kernel_rfl))
 f279:=Tryz.func233.trans (congrArg some (by kernel_rfl))
 f280:=Tryz.func234.trans (congrArg some (by kernel_rfl))
 f281:=Tryz.func235.trans (congrArg some (by kernel_rfl))
 f282:=Tryz.func236.trans (congrArg some (by kernel_rfl))
 f283:=Tryz.func246.trans (congrArg some (by kernel_rfl))
 f284:=Tryz.func247.trans (congrArg some (by kernel_rfl))
 f285:=Tryz.func248.trans (congrArg some (by kernel_rfl))
 f286:=Tryz.func249.trans (congrArg some (by kernel_rfl))
 f287:=Tryz.func232.trans (congrArg some (by kernel_rfl))
 f316:=Tryz.func257.trans (congrArg some (by kernel_rfl))
 f317:=Tryz.func259.trans (congrArg some (by kernel_rfl))
 f318:=Tryz.func261.trans (congrArg some (by kernel_rfl))
 f319:=Tryz.func262.trans (congrArg some (by kernel_rfl))
 f320:=Tryz.func263.trans (congrArg some (by kernel_rfl))
 f321:=Tryz.func255.trans (congrArg some (by kernel_rfl))
 f322:=Tryz.func256.trans (congrArg some (by kernel_rfl))
 f337:=Tryz.func267.trans (congrArg some (by kernel_rfl))
 f338:=Tryz.func268.trans (congrArg some (by kernel_rfl))
 t0:=Tryz.underlying0
 a0:=Tryz.isAgg0
 z0:=Tryz.sizeOf0
 v0:=Tryz.zeroValue0
 t2:=Tryz.underlying2
 a2:=Tryz.isAgg2
 z2:=Tryz.sizeOf2
 v2:=Tryz.zeroValue2
 t3:=Tryz.underlying3
 a3:=Tryz.isAgg3
 z3:=Tryz.sizeOf3
 v3:=Tryz.zeroValue3
 t4:=Tryz.underlying4
 a4:=Tryz.isAgg4
 z4:=Tryz.sizeOf4
 v4:=Tryz.zeroValue4
 t5:=Tryz.underlying5
 a5:=Tryz.isAgg5
 z5:=Tryz.sizeOf5
 v5:=Tryz.zeroValue5
 t9:=Tryz.underlying9
 a9:=Tryz.isAgg9
 z9:=Tryz.sizeOf9
 v9:=Tryz.zeroValue9
 t20:=Tryz.underlying20
 a20:=Tryz.isAgg20
 z20:=Tryz.sizeOf20
 v20:=Tryz.zeroValue20
 t21:=Tryz.underlying21
 a21:=Tryz.isAgg21
 z21:=Tryz.sizeOf21
 v21:=Tryz.zeroValue21
 t37:=Tryz.underlying103
 a37:=Tryz.isAgg103
 z37:=Tryz.sizeOf103
 v37:=Tryz.zeroValue103
 t46:=Tryz.underlying229
 a46:=Tryz.isAgg229
 z46:=Tryz.sizeOf229
 v46:=Tryz.zeroValue229
 t51:=Tryz.underlying253
 a51:=Tryz.isAgg253
 z51:=Tryz.sizeOf253
 v51:=Tryz.zeroValue253
 t53:=Tryz.underlying236
 a53:=Tryz.isAgg236
 z53:=Tryz.sizeOf236
 v53:=Tryz.zeroValue236
 t75:=Tryz.underlying114
 a75:=Tryz.isAgg114
 z75:=Tryz.sizeOf114
 v75:=Tryz.zeroValue114
 t85:=Tryz.underlying202
 a85:=Tryz.isAgg202
 z85:=Tryz.sizeOf202
 v85:=Tryz.zeroValue202
 t127:=Tryz.underlying161
 a127:=Tryz.isAgg161
 z127:=Tryz.sizeOf161
 v127:=Tryz.zeroValue161
 t143:=Tryz.underlying273
 a143:=Tryz.isAgg273
 z143:=Tryz.sizeOf273
 v143:=Tryz.zeroValue273
 t145:=Tryz.underlying275
 a145:=Tryz.isAgg275
 z145:=Tryz.sizeOf275
 v145:=Tryz.zeroValue275
 t167:=Tryz.underlying247
 a167:=Tryz.isAgg247
 z167:=Tryz.sizeOf247
 v167:=Tryz.zeroValue247
 t168:=Tryz.underlying250
 a168:=Tryz.isAgg250
 z168:=Tryz.sizeOf250
 v168:=Tryz.zeroValue250
 t171:=Tryz.underlying256
 a171:=Tryz.isAgg256
 z171:=Tryz.sizeOf256
 v171:=Tryz.zeroValue256
 t173:=Tryz.underlying259
 a173:=Tryz.isAgg259
 z173:=Tryz.sizeOf259
 v173:=Tryz.zeroValue259
 t175:=Tryz.underlying248
 a175:=Tryz.isAgg248
 z175:=Tryz.sizeOf248
 v175:=Tryz.zeroValue248
 t210:=Tryz.underlying264
 a210:=Tryz.isAgg264
 z210:=Tryz.sizeOf264
 v210:=Tryz.zeroValue264
 t212:=Tryz.underlying267
 a212:=Tryz.isAgg267
 z212:=Tryz.sizeOf267
 v212:=Tryz.zeroValue267
 t213:=Tryz.underlying268
 a213:=Tryz.isAgg268
 z213:=Tryz.sizeOf268
 t232:=Tryz.underlying278
 a232:=Tryz.isAgg278
 z232:=Tryz.sizeOf278
 v232:=Tryz.zeroValue278
 t233:=Tryz.underlying279
 a233:=Tryz.isAgg279
 z233:=Tryz.sizeOf279
 v233:=Tryz.zeroValue279
 g15:=by kernel_rfl
 g16:=by kernel_rfl
 g17:=by kernel_rfl
 g18:=by kernel_rfl
 g19:=by kernel_rfl
 t80:=Tryz.underlying110
 a80:=Tryz.isAgg110
 z80:=Tryz.sizeOf110
 v80:=Tryz.zeroValue110
 i0:=by kernel_rfl
 i2:=by kernel_rfl
 i3:=by kernel_rfl
 i4:=by kernel_rfl
 i5:=by kernel_rfl
 i9:=by kernel_rfl
 i20:=by kernel_rfl
 i21:=by kernel_rfl
 i37:=by kernel_rfl
 i46:=by kernel_rfl
 i51:=by kernel_rfl
 i53:=by kernel_rfl
 i75:=by kernel_rfl
 i80:=by kernel_rfl
 i85:=by kernel_rfl
 i127:=by kernel_rfl
 i143:=by kernel_rfl
 i145:=by kernel_rfl
 i167:=by kernel_rfl
 i168:=by kernel_rfl
 i171:=by kernel_rfl
 i173:=by kernel_rfl
 i175:=by kernel_rfl
 i210:=by kernel_rfl
 i212:=by kernel_rfl
 i232:=by kernel_rfl
 i233:=by kernel_rfl
 m15:=by kernel_rfl
 m16:=by kernel_rfl
 m17:=by kernel_rfl
 m18:=by kernel_rfl
 m19:=by kernel_rfl
 c0:=by kernel_rfl
 c2:=by kernel_rfl
 c3:=by kernel_rfl
 c4:=by kernel_rfl
 c5:=by kernel_rfl
 c9:=by kernel_rfl
 c20:=by kernel_rfl
 c21:=by kernel_rfl
 c37:=by kernel_rfl
 c46:=by kernel_rfl
 c51:=by kernel_rfl
 c53:=by kernel_rfl
 c75:=by kernel_rfl
 c80:=by kernel_rfl
 c85:=by kernel_rfl
 c127:=by kernel_rfl
 c143:=by kernel_rfl
 c145:=by kernel_rfl
 c167:=by kernel_rfl
 c168:=by kernel_rfl
 c171:=by kernel_rfl
 c173:=by kernel_rfl
 c175:=by kernel_rfl
 c210:=by kernel_rfl
 c212:=by kernel_rfl
 c213:=by kernel_rfl
 c232:=by kernel_rfl
 c233:=by kernel_rfl }
def Tryz.lays144_ren:vA:=⟨fun|144=>132|143=>147|219=>184|217=>217|225=>218|224=>219|267=>220|266=>244|314=>245|n=>n,fun|9=>9|4=>4|3=>3|5=>5|46=>229|146=>254|51=>253|n=>n,fun|1=>2|n=>n⟩
theorem Tryz.lays144:Go.Proofs.Lays.n144 Tryz.prog Tryz.lays144_ren:={
 mixed:=by kernel_rfl
 f143:=Tryz.func147.trans (congrArg some (by kernel_rfl))
 f144:=Tryz.func132.trans (congrArg some (by kernel_rfl))
 f217:=Tryz.func217.trans (congrArg some (by kernel_rfl))
 f219:=Tryz.func184.trans (congrArg some (by kernel_rfl))
 f224:=Tryz.func219.trans (congrArg some (by kernel_rfl))
 f225:=Tryz.func218.trans (congrArg some (by kernel_rfl))
 f266:=Tryz.func244.trans (congrArg some (by kernel_rfl))
 f267:=Tryz.func220.trans (congrArg some (by kernel_rfl))
 f314:=Tryz.func245.trans (congrArg some (by kernel_rfl))
 t3:=Tryz.underlying3
 a3:=Tryz.isAgg3
 z3:=Tryz.sizeOf3
 v3:=Tryz.zeroValue3
 t4:=Tryz.underlying4
 a4:=Tryz.isAgg4
 z4:=Tryz.sizeOf4
 v4:=Tryz.zeroValue4
 t5:=Tryz.underlying5
 a5:=Tryz.isAgg5
 z5:=Tryz.sizeOf5
 v5:=Tryz.zeroValue5
 t9:=Tryz.underlying9
 a9:=Tryz.isAgg9
 z9:=Tryz.sizeOf9
 v9:=Tryz.zeroValue9
 t46:=Tryz.underlying229
 a46:=Tryz.isAgg229
 z46:=Tryz.sizeOf229
 v46:=Tryz.zeroValue229
 t51:=Tryz.underlying253
 a51:=Tryz.isAgg253
 z51:=Tryz.sizeOf253
 v51:=Tryz.zeroValue253
 t146:=Tryz.underlying254
 a146:=Tryz.isAgg254
 z146:=Tryz.sizeOf254
 v146:=Tryz.zeroValue254
 g1:=by kernel_rfl }
def Tryz.lays240_ren:vA:=⟨fun|240=>114|276=>156|n=>n,fun|0=>0|4=>4|9=>9|20=>20|37=>103|5=>5|70=>102|72=>105|164=>188|n=>n,fun|n=>n⟩
theorem Tryz.lays240:Go.Proofs.Lays.n240 Tryz.prog Tryz.lays240_ren:={
 mixed:=by kernel_rfl
 f240:=Tryz.func114.trans (congrArg some (by kernel_rfl))
 f276:=Tryz.func156.trans (congrArg some (by kernel_rfl))
 t0:=Tryz.underlying0
 a0:=Tryz.isAgg0
 z0:=Tryz.sizeOf0
 v0:=Tryz.zeroValue0
 t4:=Tryz.underlying4
 a4:=Tryz.isAgg4
 z4:=Tryz.sizeOf4
 v4:=Tryz.zeroValue4
 t9:=Tryz.underlying9
 a9:=Tryz.isAgg9
 z9:=Tryz.sizeOf9
 v9:=Tryz.zeroValue9
 t20:=Tryz.underlying20
 a20:=Tryz.isAgg20
 z20:=Tryz.sizeOf20
 v20:=Tryz.zeroValue20
 t70:=Tryz.underlying102
 a70:=Tryz.isAgg102
 z70:=Tryz.sizeOf102
 v70:=Tryz.zeroValue102
 t72:=Tryz.underlying105
 a72:=Tryz.isAgg105
 z72:=Tryz.sizeOf105
 v72:=Tryz.zeroValue105
 t164:=Tryz.underlying188
 a164:=Tryz.isAgg188
 z164:=Tryz.sizeOf188
 v164:=Tryz.zeroValue188 }
theorem Tryz.Builder_X72_240:Builder.X72 Tryz.prog Tryz.lays240_ren:={
 sizeBuilder:=by kernel_rfl
 liesBuilder:=by kernel_rfl }
end Go.Proofs
namespace Go.Proofs.YtpeaigpfddalcaaGreatDoor
section
open Go Go.Shelf Go.RowKit
set_option maxHeartbeats 1000000 in
set_option maxRecDepth 100000 in
theorem zh9 {P:zx} {ρ:Ren} (L:Lays.n240 P ρ) (X:Builder.X72 P ρ) (b:Nat) (w:zj) {e:zn} {m:Nat} (h0:w.cell? ⟨b,0,none⟩=some (.pointer none)) (hsh:w.shape? b=some (e,m)) (hm:0 < m) (hlies:liesAt P P.depth e (m / P.cellsOf e) 0 (ρ.t 72) 1=true) (hfz:w.frozen? ⟨b,0,none⟩=false):
  Calls P (ρ.f 240) #[.pointer (some ⟨b,0,none⟩)] w fun e w'=>e= .returned (.tuple #[])∧w'=w.setCell ⟨b,0,none⟩ (.pointer (some ⟨b,0,none⟩)):=by
 obtain⟨j,hj,hjs⟩:=zG.1 X.sizeBuilder;have mixed:=L.mixed;have t72:=L.t72;have a72:=L.a72;have z72:=L.z72;have v72:=L.v72;have u72:=run_underlying L.t72;have t70:=L.t70;have a70:=L.a70;have z70:=L.z70;have v70:=L.v70;have u70:=run_underlying L.t70;have t9:=L.t9;have a9:=L.a9;have z9:=L.z9;have v9:=L.v9;have u9:=run_underlying L.t9;have t4:=L.t4;have a4:=L.a4;have z4:=L.z4;have v4:=L.v4;have u4:=run_underlying L.t4;have t164:=L.t164;have a164:=L.a164;have z164:=L.z164;have v164:=L.v164;have u164:=run_underlying L.t164
 go_enter L.f240,Body.n240_ntmps ρ
 go_wp2
 rw[Lib.run_to_unsafe w ⟨b,0,none⟩ L.t70 L.t164 hj (by rw[hjs];decide) hsh hm];simp only[vH];rw[qK]
 go_wp2
 rw[run_callFunc_extern L.f276 (by kernel_rfl) (by kernel_rfl) (by kernel_rfl) (e:=uY) (by kernel_rfl)];rw[Lib.run_noEscape];simp only[vH];rw[qK]
 go_wp2
 rw[Lib.run_from_unsafe w ⟨b,0,none⟩ L.t164 L.t70 hj hsh hlies];simp only[vH];rw[qK]
 go_wp2
 go_end0
 exact⟨rfl,rfl⟩
theorem zia (ty:zn) (h1:ty=107∨ty=105) (b:Nat) (w:zj) (cs:List zh) (hlen:cs.length=if ty=105 then 1 else 2) (hb:w.heap[b]? =some (.cells (Value.pointer none::cs).toArray ty (0,0))):
  Calls Tryz.prog 114 #[.pointer (some ⟨b,0,none⟩)] w fun e w'=>e= .returned (.tuple #[])∧w'=w.setCell ⟨b,0,none⟩ (.pointer (some ⟨b,0,none⟩)):=by
 have hc:w.cell? ⟨b,0,none⟩=some (.pointer none):=by simp[xo,hb]
 have hf:w.frozen? ⟨b,0,none⟩=false:=Lib.frozen_of_heap hb 0;have hsh:w.shape? b=some (ty,cs.length+1):=by simp[kr,hb]
 refine zh9 Tryz.lays240 Tryz.Builder_X72_240 b w hc hsh (Nat.succ_pos _) ?_ hf;rcases h1 with rfl|rfl
 ·rw[hlen];kernel_rfl
 ·rw[hlen];kernel_rfl
end
@[reducible] def IntT:yC->Type
 | .u8=>UInt8
 | .u16=>BitVec 16
 | .u32=>BitVec 32
 | .u64=>BitVec 64
 |_=>Int
def encI:(k:yC)->IntT k->Int
 | .u8,x=>((qP x:Nat):Int)
 | .u16,x=>((yY (w:=16) x:Nat):Int)
 | .u32,x=>((yY (w:=32) x:Nat):Int)
 | .u64,x=>((yY (w:=64) x:Nat):Int)
 | .i8,x=>x
 | .i16,x=>x
 | .i32,x=>x
 | .i64,x=>x
def decI:(k:yC)->Int->IntT k
 | .u8,n=>yh n.toNat
 | .u16,n=>yL 16 n
 | .u32,n=>yL 32 n
 | .u64,n=>yL 64 n
 | .i8,n=>n
 | .i16,n=>n
 | .i32,n=>n
 | .i64,n=>n
inductive Ty where
 |bool
 |int (k:yC)
 |str
 |unit
 |pair (a b:Ty)
 |arr (n:Nat) (t:Ty)
 |slice (t:Ty)
 |junk
 |lit
 |vptr (t:Ty)
 |optr (t:Ty)
 |obuf (t:Ty)
 |tup (a b:Ty)
 |cond (t:Ty)
 |clo (f:Nat) (t:Ty)
 |mapL
 |hptr
 |hcons (a b:Ty)
 |cptr (g off:Nat) (t:Ty)
inductive Path:Ty->Ty->Type where
 |here {r:Ty}:Path r r
 |fst {r a b:Ty} (p:Path r (.pair a b)):Path r a
 |snd {r a b:Ty} (p:Path r (.pair a b)):Path r b
 |idx {r t:Ty} {n:Nat} (p:Path r (.arr n t)) (k:Nat):Path r t
 |elm {t:Ty} (k:Nat):Path (.slice t) t
structure OPtr (t:Ty) where
 i:Nat
 root:Ty
 p:Path root t
@[reducible] def Ty.T:Ty->Type
 | .bool=>Bool
 | .int k=>IntT k
 | .str=>List UInt8
 | .unit=>Unit
 | .pair a b=>a.T×b.T
 | .arr _ t=>List t.T
 | .slice t=>List t.T
 | .junk=>Unit
 | .lit=>zh
 | .vptr t=>t.T
 | .optr t=>OPtr t
 | .obuf _=>Nat
 | .tup a b=>a.T×b.T
 | .cond t=>Bool×t.T
 | .clo _ t=>t.T
 | .mapL=>List (zh×zh)
 | .hptr=>Nat×Nat
 | .hcons a b=>a.T×b.T
 | .cptr _ _ t=>t.T
def Ty.size:Ty->Nat
 | .bool| .int _| .str| .slice _=>1
 | .pair a b=>a.size+b.size
 | .arr n t=>n * t.size
 |_=>0
def Ty.isAgg:Ty->Bool
 | .unit| .pair _ _| .arr _ _=>true
 |_=>false
def Ty.beq:Ty->Ty->Bool
 | .bool,.bool=>true
 | .int k,.int l=>decide (k=l)
 | .str,.str=>true
 | .unit,.unit=>true
 | .pair a b,.pair c d=>a.beq c&&b.beq d
 | .arr n a,.arr m b=>yb n m&&a.beq b
 | .slice a,.slice b=>a.beq b
 | .vptr a,.vptr b=>a.beq b
 | .tup a b,.tup c d=>a.beq c&&b.beq d
 | .clo f a,.clo g b=>yb f g&&a.beq b
 | .mapL,.mapL=>true
 | .lit,.lit=>true
 |_,_=>false
theorem Ty.beq_eq:∀ {a b:Ty},a.beq b=true->a=b:=by
 intro a
 induction a with
 |pair a b iha ihb=>intro c h;cases c<;>simp_all [Ty.beq];exact⟨iha h.1,ihb h.2⟩
 |arr n a ih=>intro c h;cases c<;>simp_all [Ty.beq];exact ih h.2
 |slice a ih=>intro c h;cases c<;>simp_all [Ty.beq];exact ih h
 |vptr a ih=>intro c h;cases c<;>simp_all [Ty.beq];exact ih h
 |tup a b iha ihb=>intro c h;cases c<;>simp_all [Ty.beq];exact⟨iha h.1,ihb h.2⟩
 |clo f a ih=>intro c h;cases c<;>simp_all [Ty.beq];exact ih h.2
 |_=>intro c h;cases c<;>simp_all [Ty.beq]
structure V where
 t:Ty
 x:t.T
def RepL {α:Type} (R:α->List zh->Prop):List α->List zh->Prop
 | [],cs=>cs=[]
 |x::xs,cs=>∃ c1 c2,cs=c1++c2∧R x c1∧RepL R xs c2
def CellsAt (w:zj) (g off:Nat) (vs:List zh):Prop:=∀ j u,vs[j]? =some u->w.cell? ⟨g,off+j,none⟩=some u
def RepS {α:Type} (w:zj) (O:Nat->Prop) (R:α->List zh->Prop) (xs:List α) (v:zh):Prop:=
 (xs=[]∧∃ A c,v= .slice A 0 c∧c≤maxLen)∨
 (∃ g off c vs,v= .slice (some ⟨g,off,none⟩) xs.length c∧xs≠ []∧xs.length≤c∧c≤maxLen∧g < w.heap.size∧¬ O g∧RepL R xs vs∧CellsAt w g off vs)
def RepC (w:zj) (O:Nat->Prop):(t:Ty)->t.T->List zh->Prop
 | .bool,b,cs=>cs=[.bool b]
 | .int k,x,cs=>cs=[.int k (encI k x)]
 | .str,l,cs=>cs=[.string ⟨yD l⟩]∧zg l≤maxLen
 | .unit,_,cs=>cs=[]
 | .pair a b,x,cs=>∃ c1 c2,cs=c1++c2∧RepC w O a x.1 c1∧RepC w O b x.2 c2
 | .arr n t,xs,cs=>zg xs=n∧RepL (RepC w O t) xs cs
 | .slice t,xs,cs=>∃ v,cs=[v]∧RepS w O (RepC w O t) xs v
 |_,_,_=>False
def RepD (w:zj) (O:Nat->Prop) (t:Ty) (x:t.T) (v:zh):Prop:=
 if t.isAgg then ∃ cs,v= .agg cs.toArray∧RepC w O t x cs else RepC w O t x [v]
def RepTup (w:zj) (O:Nat->Prop):(t:Ty)->t.T->List zh->Prop
 | .tup a b,x,vs=>∃ v r,vs=v::r∧RepD w O a x.1 v∧RepTup w O b x.2 r
 | .unit,_,vs=>vs=[]
 |_,_,_=>False
def zag:zh->Option Nat
 | .pointer (some a)=>some a.block
 | .slice (some a) _ _=>some a.block
 |_=>none
def Path.off:{r t:Ty}->Path r t->Nat
 |_,_,.here=>0
 |_,_,.fst p=>p.off
 |_,_,.snd (a:=a) p=>p.off+a.size
 |_,_,.idx (t:=t) p k=>p.off+k * t.size
 |_,_,.elm (t:=t) k=>k * t.size
def RepP (w:zj) (O:Nat->Prop):(t:Ty)->t.T->zh->Prop
 | .vptr t,x,v=>∃ g off cs,v= .pointer (some ⟨g,off,none⟩)∧g < w.heap.size∧¬ O g∧RepC w O t x cs∧CellsAt w g off cs
 |_,_,_=>False
def RepCap (w:zj) (O:Nat->Prop):(t:Ty)->t.T->List zh->Prop
 | .tup a b,x,vs=>∃ v r,vs=v::r∧RepP w O a x.1 v∧RepCap w O b x.2 r
 | .unit,_,vs=>vs=[]
 |_,_,_=>False
def RepV (w:zj) (O:Nat->Prop) (β:Nat->zh):(t:Ty)->t.T->zh->Prop
 | .junk,_,_=>True
 | .lit,x,v=>v=x
 | .vptr t,x,v=>∃ g off cs,v= .pointer (some ⟨g,off,none⟩)∧g < w.heap.size∧¬ O g∧RepC w O t x cs∧CellsAt w g off cs
 | .optr _,p,v=>∃ g,zag (β p.i)=some g∧v= .pointer (some ⟨g,p.p.off,none⟩)
 | .obuf _,i,v=>v=β i
 | .tup a b,x,v=>∃ vs,v= .tuple vs.toArray∧RepTup w O (.tup a b) x vs
 | .cond t,x,v=>(x.1=true->RepV w O β t x.2 v)∧(x.1=false->v=undef)
 | .clo f t,x,v=>∃ vs,v= .func (.func f) #[] (yD vs)∧RepCap w O t x vs
 | .mapL,es,v=>∃ r ms clock,v= .map (some r)∧r < w.heap.size∧¬ O r∧w.heap[r]? =some (.map ms clock)∧(Array.toList ms).map (fun e=>(e.key,e.val))=es
 | .hptr,x,v=>∃ g,zag (β x.1)=some g∧v= .pointer (some ⟨g,x.2,none⟩)
 | .hcons a b,x,v=>∃ u s,v= .agg (yD (u::s))∧u.oneCell'=true∧RepV w O β a x.1 u∧RepV w O β b x.2 (.agg (yD s))
 | .cptr g off t,x,v=>∃ cs,v= .pointer (some ⟨g,off,none⟩)∧g < w.heap.size∧¬ O g∧RepC w O t x cs∧CellsAt w g off cs
 | .bool,x,v=>RepD w O .bool x v
 | .int k,x,v=>RepD w O (.int k) x v
 | .str,x,v=>RepD w O .str x v
 | .unit,x,v=>RepD w O .unit x v
 | .pair a b,x,v=>RepD w O (.pair a b) x v
 | .arr n t,x,v=>RepD w O (.arr n t) x v
 | .slice t,x,v=>RepD w O (.slice t) x v
section repl
variable {α:Type} {R R':α->List zh->Prop} {xs ys:List α} {cs ds:List zh}
theorem RepL.mono (h:RepL R xs cs) (hr:∀ x,x∈xs->∀ c,R x c->R' x c):RepL R' xs cs:=by
 induction xs generalizing cs with
 |nil=>exact h
 |cons x xs ih=>
  obtain⟨c1,c2,h1,h2,h3⟩:=h;exact⟨c1,c2,h1,hr _ (by simp) _ h2,ih h3 fun y hy=>hr y (by simp[hy])⟩
theorem RepL.len {s:Nat} (h:RepL R xs cs) (hs:∀ x c,R x c->c.length=s):cs.length=xs.length * s:=by
 induction xs generalizing cs with
 |nil=>cases h;simp
 |cons x xs ih=>
  obtain⟨c1,c2,rfl,h2,h3⟩:=h;simp[hs _ _ h2,ih h3,xp,Nat.add_comm]
theorem RepL.all {p:zh->Prop} (h:RepL R xs cs) (hs:∀ x c,R x c->∀ u∈c,p u):∀ u∈cs,p u:=by
 induction xs generalizing cs with
 |nil=>cases h;simp
 |cons x xs ih=>
  obtain⟨c1,c2,rfl,h2,h3⟩:=h;intro u hu;rcases List.mem_append.1 hu with hu|hu
  ·exact hs _ _ h2 u hu
  ·exact ih h3 u hu
theorem RepL.append (h:RepL R xs cs) (h':RepL R ys ds):RepL R (xs++ys) (cs++ds):=by
 induction xs generalizing cs with
 |nil=>cases h;simpa using h'
 |cons x xs ih=>
  obtain⟨c1,c2,rfl,h2,h3⟩:=h;exact⟨c1,c2++ds,by simp,h2,ih h3⟩
theorem RepL.nth {s i:Nat} {x:α} (h:RepL R xs cs) (hs:∀ x c,R x c->c.length=s) (hx:xs[i]? =some x):R x ((cs.drop (i * s)).take s):=by
 induction xs generalizing cs i with
 |nil=>simp at hx
 |cons y ys ih=>
  obtain⟨c1,c2,rfl,h2,h3⟩:=h;have hl:=hs _ _ h2;cases i with
  |zero=>
   simp at hx;subst hx;simp[<-hl,h2]
  |succ i=>
   have:=ih h3 (by simpa using hx);rw[show (i+1) * s=c1.length+i * s by rw[hl,xp];omega];rw[xT];exact this
theorem RepL.drop {s:Nat} (h:RepL R xs cs) (hs:∀ x c,R x c->c.length=s) (i:Nat):RepL R (xs.drop i) (cs.drop (i * s)):=by
 induction xs generalizing cs i with
 |nil=>cases h;simp[RepL]
 |cons y ys ih=>
  cases i with
  |zero=>simpa using h
  |succ i=>
   obtain⟨c1,c2,rfl,h2,h3⟩:=h;have hl:=hs _ _ h2;rw[show (i+1) * s=c1.length+i * s by rw[hl,xp];omega];rw[xT];exact ih h3 i
theorem RepL.take {s:Nat} (h:RepL R xs cs) (hs:∀ x c,R x c->c.length=s) (i:Nat):RepL R (xs.take i) (cs.take (i * s)):=by
 induction xs generalizing cs i with
 |nil=>cases h;simp[RepL]
 |cons y ys ih=>
  cases i with
  |zero=>simp[RepL]
  |succ i=>
   obtain⟨c1,c2,rfl,h2,h3⟩:=h;have hl:=hs _ _ h2;rw[show (i+1) * s=c1.length+i * s by rw[hl,xp];omega,js];exact⟨c1,_,rfl,h2,ih h3 i⟩
theorem RepL.set {s i:Nat} {x:α} {c:List zh} (h:RepL R xs cs) (hs:∀ x c,R x c->c.length=s) (hi:i < xs.length) (hx:R x c):RepL R (xs.set i x) (cs.take (i * s)++c++cs.drop (i * s+s)):=by
 induction xs generalizing cs i with
 |nil=>simp at hi
 |cons y ys ih=>
  obtain⟨c1,c2,rfl,h2,h3⟩:=h;have hl:=hs _ _ h2;cases i with
  |zero=>exact⟨c,c2,by simp[<-hl],hx,h3⟩
  |succ i=>
   refine⟨c1,_,?_,h2,ih h3 (by simpa using hi)⟩;rw[show (i+1) * s=c1.length+i * s by rw[hl,xp];omega,js,xU,xT];simp
end repl
section
variable {w w':zj} {O O':Nat->Prop} {β:Nat->zh}
theorem CellsAt.keep {g off:Nat} {vs:List zh} (h:CellsAt w g off vs) (hk:w'.heap[g]? =w.heap[g]?):CellsAt w' g off vs:=
 fun j u hu=>(World.cell?_of_block (w:=w) hk).trans (h j u hu)
theorem CellsAt.drop {g off:Nat} {vs:List zh} (h:CellsAt w g off vs) (i:Nat):CellsAt w g (off+i) (vs.drop i):=
 fun j u hu=>by have:=h (i+j) u (by simpa using hu);rwa[<-xU]at this
theorem CellsAt.take {g off:Nat} {vs:List zh} (h:CellsAt w g off vs) (i:Nat):CellsAt w g off (vs.take i):=
 fun j u hu=>h j u (by
  rw[zM]at hu;split at hu
  ·exact hu
  ·cases hu)
theorem RepC.len:∀ (t:Ty) (x:t.T) (cs:List zh),RepC w O t x cs->cs.length=t.size:=by
 intro t
 induction t with
 |bool=>intro x cs h;cases h;rfl
 |int k=>intro x cs h;cases h;rfl
 |str=>intro x cs h;cases h.1;rfl
 |unit=>intro x cs h;cases h;rfl
 |pair a b iha ihb=>rintro x cs ⟨c1,c2,rfl,h1,h2⟩;simp[iha _ _ h1,ihb _ _ h2,Ty.size]
 |arr n t ih=>rintro x cs ⟨h1,h2⟩;simp only[Ty.size, <-h1];exact h2.len ih
 |slice t ih=>rintro x cs ⟨v,rfl,_⟩;rfl
 |_=>intro x cs h;exact absurd h (by simp[RepC])
theorem RepC.oneCell:∀ (t:Ty) (x:t.T) (cs:List zh),RepC w O t x cs->∀ u∈cs,u.oneCell'=true:=by
 intro t
 induction t with
 |bool=>intro x cs h;cases h;simp[qi]
 |int k=>intro x cs h;cases h;simp[qi]
 |str=>intro x cs h;cases h.1;simp[qi]
 |unit=>intro x cs h;cases h;simp
 |pair a b iha ihb=>
  rintro x cs ⟨c1,c2,rfl,h1,h2⟩ u hu;rcases List.mem_append.1 hu with hu|hu
  ·exact iha _ _ h1 u hu
  ·exact ihb _ _ h2 u hu
 |arr n t ih=>rintro x cs ⟨h1,h2⟩;exact h2.all ih
 |slice t ih=>
  rintro x cs ⟨v,rfl,h⟩;rcases h with ⟨_,A,c,rfl,_⟩|⟨g,off,c,vs,rfl,_⟩<;>simp[qi]
 |_=>intro x cs h;exact absurd h (by simp[RepC])
structure Keeps (w w':zj) (O O':Nat->Prop):Prop where
 size:w.heap.size≤w'.heap.size
 block:∀ g,g < w.heap.size->¬ O g->w'.heap[g]? =w.heap[g]?
 own:∀ g,g < w.heap.size->O' g->O g
theorem Keeps.refl (w:zj) (O:Nat->Prop):Keeps w w O O:=⟨zl _,fun _ _ _=>rfl,fun _ _ h=>h⟩
theorem Keeps.of_below (h:yV w.heap.size w w') (hO:∀ g,g < w.heap.size->O' g->O g):Keeps w w' O O':=⟨h.size,fun g hg _=>h.block g hg,hO⟩
theorem RepS.keep {α:Type} {R R':α->List zh->Prop} {xs:List α} {v:zh} (h:RepS w O R xs v) (hk:Keeps w w' O O') (hr:∀ x c,R x c->R' x c):RepS w' O' R' xs v:=by
 rcases h with h|⟨g,off,c,vs,h1,h2,h3,h4,h5,h6,h7,h8⟩
 ·exact .inl h
 ·exact .inr ⟨g,off,c,vs,h1,h2,h3,h4,zK h5 hk.size,fun h=>h6 (hk.own g h5 h),h7.mono fun x _ c=>hr x c,h8.keep (hk.block g h5 h6)⟩
theorem RepC.keep (hk:Keeps w w' O O'):∀ (t:Ty) (x:t.T) (cs:List zh),RepC w O t x cs->RepC w' O' t x cs:=by
 intro t
 induction t with
 |pair a b iha ihb=>rintro x cs ⟨c1,c2,h,h1,h2⟩;exact⟨c1,c2,h,iha _ _ h1,ihb _ _ h2⟩
 |arr n t ih=>rintro x cs ⟨h1,h2⟩;exact⟨h1,h2.mono fun x _ c=>ih x c⟩
 |slice t ih=>rintro x cs ⟨v,h,h2⟩;exact⟨v,h,h2.keep hk ih⟩
 |_=>intro x cs h;exact h
theorem RepD.keep (hk:Keeps w w' O O') {t:Ty} {x:t.T} {v:zh} (h:RepD w O t x v):RepD w' O' t x v:=by
 unfold RepD at *;split at h
 ·rename_i ht;obtain⟨cs,h1,h2⟩:=h;rw[if_pos ht];exact⟨cs,h1,RepC.keep hk _ _ _ h2⟩
 ·rename_i ht;rw[if_neg ht];exact RepC.keep hk _ _ _ h
theorem RepTup.keep (hk:Keeps w w' O O'):∀ (t:Ty) (x:t.T) (vs:List zh),RepTup w O t x vs->RepTup w' O' t x vs:=by
 intro t
 induction t with
 |tup a b iha ihb=>rintro x vs ⟨v,r,h,h1,h2⟩;exact⟨v,r,h,h1.keep hk,ihb _ _ h2⟩
 |unit=>intro x vs h;exact h
 |_=>intro x vs h;exact absurd h (by simp[RepTup])
theorem RepP.keep (hk:Keeps w w' O O') {t:Ty} {x:t.T} {v:zh} (h:RepP w O t x v):RepP w' O' t x v:=by
 cases t<;>first|exact h.elim|skip
 obtain⟨g,off,cs,h1,h2,h3,h4,h5⟩:=h;exact⟨g,off,cs,h1,zK h2 hk.size,fun h=>h3 (hk.own g h2 h),RepC.keep hk _ _ _ h4,h5.keep (hk.block g h2 h3)⟩
theorem RepCap.keep (hk:Keeps w w' O O'):∀ (t:Ty) (x:t.T) (vs:List zh),RepCap w O t x vs->RepCap w' O' t x vs:=by
 intro t
 induction t with
 |tup a b iha ihb=>rintro x vs ⟨v,r,h,h1,h2⟩;exact⟨v,r,h,h1.keep hk,ihb _ _ h2⟩
 |unit=>intro x vs h;exact h
 |_=>intro x vs h;exact absurd h (by simp[RepCap])
theorem RepV.keep (hk:Keeps w w' O O'):∀ (t:Ty) (x:t.T) (v:zh),RepV w O β t x v->RepV w' O' β t x v:=by
 intro t
 induction t with
 |junk=>intro x v h;exact h
 |lit=>intro x v h;exact h
 |vptr t _=>
  rintro x v ⟨g,off,cs,h1,h2,h3,h4,h5⟩;exact⟨g,off,cs,h1,zK h2 hk.size,fun h=>h3 (hk.own g h2 h),RepC.keep hk _ _ _ h4,h5.keep (hk.block g h2 h3)⟩
 |cptr g off t _=>
  rintro x v ⟨cs,h1,h2,h3,h4,h5⟩;exact⟨cs,h1,zK h2 hk.size,fun h=>h3 (hk.own g h2 h),RepC.keep hk _ _ _ h4,h5.keep (hk.block g h2 h3)⟩
 |optr t _=>intro x v h;exact h
 |obuf t _=>intro x v h;exact h
 |hptr=>intro x v h;exact h
 |hcons a b iha ihb=>rintro x v ⟨u,s,h1,h2,h3,h4⟩;exact⟨u,s,h1,h2,iha _ _ h3,ihb _ _ h4⟩
 |tup a b _ _=>rintro x v ⟨vs,h1,h2⟩;exact⟨vs,h1,RepTup.keep hk _ _ _ h2⟩
 |cond t ih=>intro x v h;exact⟨fun hc=>ih _ _ (h.1 hc),h.2⟩
 |clo f t _=>rintro x v ⟨vs,h1,h2⟩;exact⟨vs,h1,RepCap.keep hk _ _ _ h2⟩
 |mapL=>rintro x v ⟨r,ms,ck,h1,h2,h3,h4,h5⟩;exact⟨r,ms,ck,h1,zK h2 hk.size,fun h=>h3 (hk.own r h2 h),(hk.block r h2 h3).trans h4,h5⟩
 |_=>intro x v h;exact RepD.keep hk h
end
theorem RepD.scalar {w:zj} {O:Nat->Prop} {t:Ty} (ht:t.isAgg=false) {x:t.T} {v:zh}:RepD w O t x v↔RepC w O t x [v]:=by simp[RepD,ht]
theorem RepD.agg {w:zj} {O:Nat->Prop} {t:Ty} (ht:t.isAgg=true) {x:t.T} {v:zh}:RepD w O t x v↔∃ cs,v= .agg cs.toArray∧RepC w O t x cs:=by simp[RepD,ht]
abbrev Frame:=List (Nat×V)
def Frame.get:List (Nat×V)->Nat->V
 | [],_=>⟨.junk,()⟩
 |(s,v)::r,t=>bif yb s t then v else Frame.get r t
inductive OObj where
 |box (t:Ty) (x:t.T)
 |buf (te:zn) (t:Ty) (xs:List t.T)
 |hbox (ty:zn) (vs:List V)
def OObj.isBuf:OObj->Bool
 | .box _ _=>false
 | .buf _ _ _=>true
 | .hbox _ _=>false
abbrev Owns:=List (Nat×Option OObj)
def Owns.get:List (Nat×Option OObj)->Nat->Option OObj
 | [],_=>none
 |(i,o)::r,j=>bif yb i j then o else Owns.get r j
structure AS where
 F:Frame
 E:Owns
 nx:Nat
def bnd:(t:Ty)->t.T->Nat
 | .optr _,p=>p.i+1
 | .obuf _,i=>i+1
 | .cond t,x=>bnd t x.2
 | .hptr,x=>x.1+1
 | .hcons a b,x=>max (bnd a x.1) (bnd b x.2)
 |_,_=>0
def V.bound (v:V):Nat:=bnd v.t v.x
structure Ownr where
 G:zj->Prop
 X:Nat->Prop
 K:Nat
 fix:Nat->Nat
 D:List Deferred:=[]
 ρ:Option Nat:=none
 B:Nat->Prop:=fun _=>False
def Ownr.R (X:Ownr) (g:Nat):Prop:=(∃ i,i < X.K∧X.fix i=g)∨X.B g
def Ownr.plain (G:zj->Prop) (O:Nat->Prop):Ownr:=⟨G,O,0,fun _=>0,[],none,fun _=>False⟩
def Ownr.one (G:zj->Prop) (O:Nat->Prop) (g:Nat):Ownr:=⟨G,O,1,fun _=>g,[],none,fun _=>False⟩
theorem Ownr.plain_noR (G:zj->Prop) (O:Nat->Prop):∀ g,¬ (Ownr.plain G O).R g:=fun g h=>h.elim (fun⟨i,h,_⟩=>absurd h (Nat.not_lt_zero _)) id
theorem Ownr.one_R (G:zj->Prop) (O:Nat->Prop) (g:Nat):∀ h,(Ownr.one G O g).R h↔h=g:=fun h=>⟨fun hh=>hh.elim (fun⟨i,_,e⟩=>e.symm) False.elim,fun e=>.inl ⟨0,Nat.lt_succ_self 0,e.symm⟩⟩
instance:CoeFun Ownr (fun _=>Nat->Prop):=⟨Ownr.X⟩
structure Kept (R:Nat->Prop) (w w':zj):Prop where
 os:w'.os=w.os
 tape:w'.tape=w.tape
 output:w'.output=w.output
 size:w.heap.size≤w'.heap.size
 block:∀ k,k < w.heap.size->¬ R k->w'.heap[k]? =w.heap[k]?
def Ownr.Ok (X:Ownr) (w0:zj):Prop:=(∀ g,X g->g < w0.heap.size∧¬ X.R g)∧(∀ g,X.R g->g < w0.heap.size)∧∀ w,Kept X.R w0 w->X.G w
theorem Kept.then {R:Nat->Prop} {a b c:zj} (h:Kept R a b) (k:yV b.heap.size b c):Kept R a c:=
 ⟨k.os.trans h.os,k.tape.trans h.tape,k.output.trans h.output,zH h.size k.size,fun i hi hr=>(k.block i (zK hi h.size)).trans (h.block i hi hr)⟩
theorem Kept.below {R:Nat->Prop} {a b:zj} (h:Kept R a b) (hR:∀ g,¬ R g):yV a.heap.size a b:=⟨h.os,h.tape,h.output,h.size,fun k hk=>h.block k hk (hR k)⟩
theorem Kept.grown {R:Nat->Prop} {a b c:zj} {o:Option Nat} (h:Kept R a b) (hg:b.grownBy c o) (hn:∀ g,o=some g->a.heap.size≤g∨R g):Kept R a c:=
 ⟨hg.os.trans h.os,hg.tape.trans h.tape,hg.output.trans h.output,zH h.size hg.size,fun k hk hr=>(hg.block k (zK hk h.size) fun e=>by
   rcases hn k e.symm with h1|h1
   ·omega
   ·exact hr h1).trans (h.block k hk hr)⟩
theorem Kept.refl (R:Nat->Prop) (w:zj):Kept R w w:=⟨rfl,rfl,rfl,zl _,fun _ _ _=>rfl⟩
def OSet (X:Ownr) (E:Owns) (β:Nat->zh) (g:Nat):Prop:=X g∨∃ i o,Owns.get E i=some o∧zag (β i)=some g
def RepH (w:zj) (O:Nat->Prop) (β:Nat->zh):List V->List zh->Prop
 | [],cs=>cs=[]
 |v::r,cs=>∃ u s,cs=u::s∧u.oneCell'=true∧RepV w O β v.t v.x u∧RepH w O β r s
def OObj.hvs:OObj->Option (List V)
 | .hbox _ vs=>some vs
 |_=>none
def OObj.under (o:OObj) (k:Nat):Prop:=∀ vs,o.hvs=some vs->∀ v,v∈vs->v.bound≤k
def OwnRep (w:zj) (O:Nat->Prop) (β:Nat->zh) (B:Nat) (bv:zh):OObj->Prop
 | .box t x=>∃ g cs ty,bv= .pointer (some ⟨g,0,none⟩)∧B≤g∧w.heap[g]? =some (.cells (yD cs) ty (0,0))∧RepC w O t x cs
 | .buf te t xs=>∃ cs,RepL (RepC w O t) xs cs∧w.ownsRow B te t.size bv xs.length cs∧0 < t.size
 | .hbox ty vs=>∃ g cs,bv= .pointer (some ⟨g,0,none⟩)∧B≤g∧w.heap[g]? =some (.cells (yD cs) ty (0,0))∧RepH w O β vs cs
structure Sim (w0:zj) (X:Ownr) (n:Nat) (σ:AS) (β:Nat->zh) (a:Act) (w:zj):Prop where
 sz:a.tmps.size=n
 df:a.defers=X.D
 bel:Kept X.R w0 w
 fr:∀ s,RepV w (OSet X σ.E β) β (Frame.get σ.F s).t (Frame.get σ.F s).x (a.tmps.getD s undef)
 own:∀ i o,Owns.get σ.E i=some o->OwnRep w (OSet X σ.E β) β 0 (β i) o
 new:∀ i o g,Owns.get σ.E i=some o->zag (β i)=some g->w0.heap.size≤g∨X.R g
 inj:∀ i j oi oj,Owns.get σ.E i=some oi->Owns.get σ.E j=some oj->i≠j->∀ g,zag (β i)=some g->zag (β j)≠some g
 lt:∀ i o,Owns.get σ.E i=some o->i < σ.nx
 fix:X.K≤σ.nx∧∀ i,i < X.K->zag (β i)=some (X.fix i)∧∀ o,Owns.get σ.E i=some o->o.isBuf=false
 hb:∀ s,(Frame.get σ.F s).bound≤σ.nx
 hE:∀ i o,Owns.get σ.E i=some o->o.under σ.nx
theorem zat (s:Nat) (v:V) (r:Frame) (t:Nat):Frame.get ((s,v)::r) t=if s=t then v else Frame.get r t:=by
 simp only[Frame.get,cond_eq_ite,xc]
theorem zah (i:Nat) (o:Option OObj) (r:Owns) (j:Nat):Owns.get ((i,o)::r) j=if i=j then o else Owns.get r j:=by
 simp only[Owns.get,cond_eq_ite,xc]
section
variable {w w':zj} {O O':Nat->Prop} {β:Nat->zh}
theorem RepH.keep (hk:Keeps w w' O O'):∀ {vs:List V} {cs:List zh},RepH w O β vs cs->RepH w' O' β vs cs
 | [],_,h=>h
 |v::r,_,⟨u,s,h1,h2,h3,h4⟩=>⟨u,s,h1,h2,RepV.keep hk _ _ _ h3,RepH.keep hk h4⟩
theorem OwnRep.block_lt {B:Nat} {bv:zh} {o:OObj} (h:OwnRep w O β B bv o) {g:Nat} (hg:zag bv=some g):B≤g∧g < w.heap.size:=by
 cases o with
 |box t x=>
  obtain⟨g',cs,ty,rfl,h1,h2,_⟩:=h;simp[zag]at hg;subst hg;exact⟨h1,(zo.1 h2).1⟩
 |buf te t xs=>
  obtain⟨cs,_,h2,_⟩:=h;rcases h2.2 with ⟨rfl,_⟩|⟨g',cap,cur,rfl,h1,h2,_⟩
  ·simp[zag]at hg
  ·simp[zag]at hg;subst hg;exact⟨h1,(zo.1 h2).1⟩
 |hbox ty vs=>
  obtain⟨g',cs,rfl,h1,h2,_⟩:=h;simp[zag]at hg;subst hg;exact⟨h1,(zo.1 h2).1⟩
theorem OwnRep.keep {B:Nat} {bv:zh} {o:OObj} (h:OwnRep w O β B bv o) (hk:Keeps w w' O O') (hb:∀ g,zag bv=some g->w'.heap[g]? =w.heap[g]?):OwnRep w' O' β B bv o:=by
 cases o with
 |box t x=>
  obtain⟨g',cs,ty,rfl,h1,h2,h3⟩:=h;exact⟨g',cs,ty,rfl,h1,(hb g' rfl).trans h2,RepC.keep hk _ _ _ h3⟩
 |buf te t xs=>
  obtain⟨cs,h1,h2,h3⟩:=h;refine⟨cs,h1.mono fun x _ c=>RepC.keep hk _ _ _,⟨h2.1,?_⟩,h3⟩;rcases h2.2 with h4|⟨g',cap,cur,rfl,h4,h5,h6⟩
  ·exact .inl h4
  ·exact .inr ⟨g',cap,cur,rfl,h4,(hb g' rfl).trans h5,h6⟩
 |hbox ty vs=>
  obtain⟨g',cs,rfl,h1,h2,h3⟩:=h;exact⟨g',cs,rfl,h1,(hb g' rfl).trans h2,h3.keep hk⟩
end
section
variable {w0:zj} {X:Ownr} {n:Nat} {σ:AS} {β:Nat->zh} {a:Act} {w w':zj}
theorem Act.put_size (a:Act) (d:Option Tmp) (v:zh):(a.put d v).tmps.size=a.tmps.size:=by
 cases d<;>simp[Act.put]
theorem Act.put_defers (a:Act) (d:Option Tmp) (v:zh):(a.put d v).defers=a.defers:=by
 cases d<;>rfl
theorem Act.put_get {a:Act} {d s:Nat} {v:zh} (hd:d < a.tmps.size):(a.put (some d) v).tmps.getD s undef=if d=s then v else a.tmps.getD s undef:=by
 by_cases h:d=s
 ·subst h;rw[if_pos rfl];unfold Act.put;simp[zJ,xN,hd]
 ·rw[if_neg h];unfold Act.put;simp[zJ,xN,h]
theorem Sim.put (h:Sim w0 X n σ β a w) (hk:yV w.heap.size w w') {v:V} {u:zh} (hr:RepV w' (OSet X σ.E β) β v.t v.x u) (hb:v.bound≤σ.nx) {d:Nat} (hd:d < n):
  Sim w0 X n { σ with F:=(d,v)::σ.F } β (a.put (some d) u) w' where
 sz:=by rw[Act.put_size];exact h.sz
 df:=by rw[Act.put_defers];exact h.df
 bel:=h.bel.then hk
 new:=h.new
 fr:=fun s=>by
  rw[Act.put_get (by rw[h.sz];exact hd),zat];by_cases hs:d=s
  ·rw[if_pos hs,if_pos hs];exact hr
  ·rw[if_neg hs,if_neg hs];exact RepV.keep (.of_below hk fun _ _ h=>h) _ _ _ (h.fr s)
 own:=fun i o ho=>(h.own i o ho).keep (.of_below hk fun _ _ h=>h) fun g hg=>hk.block g ((h.own i o ho).block_lt hg).2
 inj:=h.inj
 lt:=h.lt
 fix:=h.fix
 hb:=fun s=>by
  rw[zat];by_cases hs:d=s
  ·rw[if_pos hs];exact hb
  ·rw[if_neg hs];exact h.hb s
 hE:=h.hE
theorem zjI {β:Nat->zh} {k i:Nat} {v:zh} (h:i≠k):(fun j=>if j=k then v else β j) i=β i:=by simp[h]
theorem RepV.update {w:zj} {O:Nat->Prop} {β:Nat->zh} {k:Nat} {bv:zh}:∀ (t:Ty) (x:t.T) (v:zh),bnd t x≤k->RepV w O β t x v->RepV w O (fun j=>if j=k then bv else β j) t x v:=by
 intro t
 induction t with
 |optr t _=>
  rintro x v hb ⟨g,h1,h2⟩;have:x.i≠k:=by simp[bnd]at hb;omega
  exact⟨g,by simp[this,h1],h2⟩
 |obuf t _=>
  intro x v;change Nat at x;intro hb h;have hb':x+1≤k:=hb;have:x≠k:=by omega
  have h':v=β x:=h;show v=if x=k then bv else β x
  rw[if_neg this,h']
 |cond t ih=>intro x v hb h;exact⟨fun hc=>ih _ _ hb (h.1 hc),h.2⟩
 |hptr=>
  rintro x v hb ⟨g,h1,h2⟩;have:x.1≠k:=by simp[bnd]at hb;omega
  exact⟨g,by simp[this,h1],h2⟩
 |hcons a b iha ihb=>
  rintro x v hb ⟨u,s,h1,h2,h3,h4⟩;have hb':max (bnd a x.1) (bnd b x.2)≤k:=hb;exact⟨u,s,h1,h2,iha _ _ (by omega) h3,ihb _ _ (by omega) h4⟩
 |_=>intro x v hb h;exact h
theorem RepH.update {w:zj} {O:Nat->Prop} {β:Nat->zh} {k:Nat} {bv:zh}:∀ {vs:List V} {cs:List zh},(∀ v,v∈vs->v.bound≤k)->RepH w O β vs cs->RepH w O (fun j=>if j=k then bv else β j) vs cs
 | [],_,_,h=>h
 |v::r,_,hb,⟨u,s,h1,h2,h3,h4⟩=>⟨u,s,h1,h2,RepV.update _ _ _ (hb v (by simp)) h3,RepH.update (fun y hy=>hb y (by simp[hy])) h4⟩
theorem OwnRep.update {w:zj} {O:Nat->Prop} {β:Nat->zh} {k B:Nat} {bv b':zh} {o:OObj} (hb:o.under k) (h:OwnRep w O β B b' o):OwnRep w O (fun j=>if j=k then bv else β j) B b' o:=by
 cases o with
 |box t x=>exact h
 |buf te t xs=>exact h
 |hbox ty vs=>
  obtain⟨g',cs,e,h1,h2,h3⟩:=h;exact⟨g',cs,e,h1,h2,h3.update (hb vs rfl)⟩
theorem OSet.new {E:Owns} {k:Nat} {o:OObj} {bv:zh} (hlt:∀ i o,Owns.get E i=some o->i < k) (g:Nat):
  OSet X ((k,some o)::E) (fun j=>if j=k then bv else β j) g↔OSet X E β g∨zag bv=some g:=by
 unfold OSet;constructor
 ·rintro (h|⟨i,oi,h1,h2⟩)
  ·exact .inl (.inl h)
  ·rw[zah]at h1;by_cases hi:k=i
   ·subst hi;simp at h2;exact .inr h2
   ·rw[if_neg hi]at h1;rw[zjI (yT hi)]at h2;exact .inl (.inr ⟨i,oi,h1,h2⟩)
 ·rintro ((h|⟨i,oi,h1,h2⟩)|h)
  ·exact .inl h
  ·have:=hlt _ _ h1;exact .inr ⟨i,oi,by rw[zah,if_neg (by omega)];exact h1,by rw[zjI (by omega)];exact h2⟩
  ·exact .inr ⟨k,o,by rw[zah,if_pos rfl],by simp[h]⟩
theorem Sim.make (h:Sim w0 X n σ β a w) (hX:X.Ok w0) (hk:yV w.heap.size w w') {bv:zh} {o:OObj}
  (hr:∀ O β',(∀ g,O g->OSet X σ.E β g∨zag bv=some g)->OwnRep w' O β' 0 bv o) (hnew:∀ g,zag bv=some g->w.heap.size≤g) {v:V} {u:zh}
  (hv:∀ O β',β' σ.nx=bv->RepV w' O β' v.t v.x u) (hb:v.bound≤σ.nx+1) {d:Nat} (hd:d < n) (hu:o.under (σ.nx+1):=by exact fun _ e=>by cases e):
  ∃ β',Sim w0 X n { F:=(d,v)::σ.F,E:=(σ.nx,some o)::σ.E,nx:=σ.nx+1 } β' (a.put (some d) u) w':=by
 refine⟨fun j=>if j=σ.nx then bv else β j,?_⟩;have hO:=fun g=>OSet.new (X:=X) (β:=β) (bv:=bv) (o:=o) h.lt g;have hkeep:Keeps w w' (OSet X σ.E β) (OSet X ((σ.nx,some o)::σ.E) (fun j=>if j=σ.nx then bv else β j)):=
  .of_below hk fun g hg hg'=>by
   rcases (hO g).1 hg' with h1|h1
   ·exact h1
   ·have:=hnew g h1;omega
 refine⟨?_,?_,h.bel.then hk,?_,?_,?_,?_,?_,?_,?_,?_⟩
 ·rw[Act.put_size];exact h.sz
 ·rw[Act.put_defers];exact h.df
 ·intro s;rw[Act.put_get (by rw[h.sz];exact hd)];show RepV _ _ _ (Frame.get ((d,v)::σ.F) s).t _ _;rw[zat];by_cases hs:d=s
  ·rw[if_pos hs,if_pos hs];exact hv _ _ (by simp)
  ·rw[if_neg hs,if_neg hs];exact RepV.update _ _ _ (h.hb s) (RepV.keep hkeep _ _ _ (h.fr s))
 ·intro i oi hi;rw[show Owns.get ((σ.nx,some o)::σ.E) i=_ from zah ..]at hi;by_cases hs:σ.nx=i
  ·subst hs;rw[if_pos rfl]at hi;cases hi;show OwnRep _ _ _ _ (if σ.nx=σ.nx then bv else _) _;rw[if_pos rfl];exact hr _ _ fun g hg'=>(hO g).1 hg'
  ·rw[if_neg hs]at hi;show OwnRep _ _ _ _ (if i=σ.nx then bv else _) _;rw[if_neg (yT hs)];exact ((h.own i oi hi).keep hkeep fun g hg=>hk.block g ((h.own i oi hi).block_lt hg).2).update (h.hE i oi hi)
 ·intro i oi g hi;rw[show Owns.get ((σ.nx,some o)::σ.E) i=_ from zah ..]at hi;show zag (if i=σ.nx then bv else β i)=some g->_;by_cases hs:σ.nx=i
  ·rw[if_pos hs.symm];intro hg;exact .inl (zH h.bel.size (hnew g hg))
  ·rw[if_neg hs]at hi;rw[if_neg (yT hs)];exact h.new i oi g hi
 ·intro i j oi oj hi hj hij g;rw[show Owns.get ((σ.nx,some o)::σ.E) i=_ from zah ..]at hi;rw[show Owns.get ((σ.nx,some o)::σ.E) j=_ from zah ..]at hj;show zag (if i=σ.nx then bv else β i)=some g->zag (if j=σ.nx then bv else β j)≠some g;by_cases h1:σ.nx=i
  ·by_cases h2:σ.nx=j
   ·omega
   ·rw[if_neg h2]at hj;rw[if_pos h1.symm,if_neg (yT h2)];intro hg hg';have:=hnew g hg;have:=((h.own j oj hj).block_lt hg').2;omega
  ·rw[if_neg h1]at hi;rw[if_neg (yT h1)];by_cases h2:σ.nx=j
   ·rw[if_pos h2.symm];intro hg hg';have:=hnew g hg';have:=((h.own i oi hi).block_lt hg).2;omega
   ·rw[if_neg h2]at hj;rw[if_neg (yT h2)];exact h.inj i j oi oj hi hj hij g
 ·intro i oi hi;rw[show Owns.get ((σ.nx,some o)::σ.E) i=_ from zah ..]at hi;show i < σ.nx+1;by_cases hs:σ.nx=i
  ·omega
  ·rw[if_neg hs]at hi;have:=h.lt i oi hi;omega
 ·obtain⟨hn,hf⟩:=h.fix;refine⟨Nat.le_succ_of_le hn,fun i hi=>?_⟩;obtain⟨h2,h3⟩:=hf i hi;refine⟨?_,fun oi ho=>?_⟩
  ·show zag (if i=σ.nx then bv else β i)=some (X.fix i);rw[if_neg (by omega)];exact h2
  ·rw[show Owns.get ((σ.nx,some o)::σ.E) i=_ from zah ..,if_neg (by omega)]at ho;exact h3 oi ho
 ·intro s;show (Frame.get ((d,v)::σ.F) s).bound≤σ.nx+1;rw[zat];by_cases hs:d=s
  ·rw[if_pos hs];exact hb
  ·rw[if_neg hs];have:=h.hb s;omega
 ·intro i oi hi;rw[show Owns.get ((σ.nx,some o)::σ.E) i=_ from zah ..]at hi;by_cases hs:σ.nx=i
  ·rw[if_pos hs]at hi;cases hi;exact hu
  ·rw[if_neg hs]at hi;intro vs e v hv;have:=h.hE i oi hi vs e v hv;show v.bound≤σ.nx+1;omega
theorem Sim.write (h:Sim w0 X n σ β a w) {i:Nat} {o o':OObj} (hi:Owns.get σ.E i=some o) (hg:w.grownBy w' (zag (β i)))
  (hr:Keeps w w' (OSet X σ.E β) (OSet X σ.E β)->OwnRep w' (OSet X σ.E β) β 0 (β i) o') (hbuf:o'.isBuf=o.isBuf) (hu:o'.under σ.nx:=by exact fun _ e=>by cases e):
  Sim w0 X n { σ with E:=(i,some o')::σ.E } β a w':=by
 have hO:∀ g,OSet X ((i,some o')::σ.E) β g↔OSet X σ.E β g:=fun g=>by
  unfold OSet;constructor
  ·rintro (h1|⟨j,oj,h1,h2⟩)
   ·exact .inl h1
   ·rw[zah]at h1;by_cases hj:i=j
    ·subst hj;exact .inr ⟨i,o,hi,h2⟩
    ·rw[if_neg hj]at h1;exact .inr ⟨j,oj,h1,h2⟩
  ·rintro (h1|⟨j,oj,h1,h2⟩)
   ·exact .inl h1
   ·by_cases hj:i=j
    ·subst hj;exact .inr ⟨i,o',by rw[zah,if_pos rfl],h2⟩
    ·exact .inr ⟨j,oj,by rw[zah,if_neg hj];exact h1,h2⟩
 have hO':OSet X ((i,some o')::σ.E) β=OSet X σ.E β:=funext fun g=>propext (hO g);have hkeep:Keeps w w' (OSet X σ.E β) (OSet X σ.E β):=⟨hg.size,fun g hgl hgo=>hg.block g hgl fun e=>hgo (.inr ⟨i,o,hi,e.symm⟩),fun _ _ h=>h⟩;refine⟨h.sz,h.df,h.bel.grown hg (fun g e=>h.new i o g hi e),?_,?_,?_,?_,?_,⟨h.fix.1,fun j hj=>?_⟩,h.hb,?_⟩
 ·intro s;show RepV w' (OSet X ((i,some o')::σ.E) β) β _ _ _;rw[hO'];exact RepV.keep hkeep _ _ _ (h.fr s)
 ·intro j oj hj;show OwnRep w' (OSet X ((i,some o')::σ.E) β) β _ _ _;rw[hO'];rw[show Owns.get ((i,some o')::σ.E) j=_ from zah ..]at hj;by_cases hs:i=j
  ·subst hs;rw[if_pos rfl]at hj;cases hj;exact hr hkeep
  ·rw[if_neg hs]at hj;refine (h.own j oj hj).keep hkeep fun g hgb=>hg.block g ((h.own j oj hj).block_lt hgb).2 fun e=>?_;exact h.inj i j o oj hi hj hs g e.symm hgb
 ·intro j oj g hj;rw[show Owns.get ((i,some o')::σ.E) j=_ from zah ..]at hj;by_cases hs:i=j
  ·subst hs;exact h.new i o g hi
  ·rw[if_neg hs]at hj;exact h.new j oj g hj
 ·intro j k oj ok hj hk;rw[show Owns.get ((i,some o')::σ.E) j=_ from zah ..]at hj;rw[show Owns.get ((i,some o')::σ.E) k=_ from zah ..]at hk;have hj':∃ p,Owns.get σ.E j=some p:=by
   by_cases hs:i=j
   ·subst hs;exact⟨o,hi⟩
   ·rw[if_neg hs]at hj;exact⟨_,hj⟩
  have hk':∃ p,Owns.get σ.E k=some p:=by
   by_cases hs:i=k
   ·subst hs;exact⟨o,hi⟩
   ·rw[if_neg hs]at hk;exact⟨_,hk⟩
  obtain⟨p,hp⟩:=hj';obtain⟨q,hq⟩:=hk';exact h.inj j k p q hp hq
 ·intro j oj hj;rw[show Owns.get ((i,some o')::σ.E) j=_ from zah ..]at hj;by_cases hs:i=j
  ·subst hs;exact h.lt i o hi
  ·rw[if_neg hs]at hj;exact h.lt j oj hj
 ·obtain⟨h2,h3⟩:=h.fix.2 j hj;refine⟨h2,fun oj ho=>?_⟩;rw[show Owns.get ((i,some o')::σ.E) j=_ from zah ..]at ho;by_cases hs:i=j
  ·subst hs;rw[if_pos rfl]at ho;cases ho;rw[hbuf];exact h3 o hi
  ·rw[if_neg hs]at ho;exact h3 oj ho
 ·intro j oj hj;rw[show Owns.get ((i,some o')::σ.E) j=_ from zah ..]at hj;by_cases hs:i=j
  ·rw[if_pos hs]at hj;cases hj;exact hu
  ·rw[if_neg hs]at hj;exact h.hE j oj hj
theorem Sim.forget (h:Sim w0 X n σ β a w) (i:Nat):Sim w0 X n { σ with E:=(i,none)::σ.E } β a w:=by
 have hget:∀ j oj,Owns.get ((i,none)::σ.E) j=some oj->i≠j∧Owns.get σ.E j=some oj:=fun j oj hj=>by
  rw[zah]at hj;by_cases hs:i=j
  ·rw[if_pos hs]at hj;cases hj
  ·rw[if_neg hs]at hj;exact⟨hs,hj⟩
 have hkeep:Keeps w w (OSet X σ.E β) (OSet X ((i,none)::σ.E) β):=⟨zl _,fun _ _ _=>rfl,fun g _ hg=>by
  rcases hg with hg|⟨j,oj,h1,h2⟩
  ·exact .inl hg
  ·exact .inr ⟨j,oj,(hget j oj h1).2,h2⟩⟩
 exact⟨h.sz,h.df,h.bel,fun s=>RepV.keep hkeep _ _ _ (h.fr s),fun j oj hj=>(h.own j oj (hget j oj hj).2).keep hkeep fun _ _=>rfl,fun j oj g hj=>h.new j oj g (hget j oj hj).2,
  fun j k oj ok hj hk=>h.inj j k oj ok (hget j oj hj).2 (hget k ok hk).2,fun j oj hj=>h.lt j oj (hget j oj hj).2,⟨h.fix.1,fun j hj=>⟨(h.fix.2 j hj).1,fun oj ho=>(h.fix.2 j hj).2 oj (hget j oj ho).2⟩⟩,h.hb,fun j oj hj=>h.hE j oj (hget j oj hj).2⟩
theorem OwnRep.view {B:Nat} {bv:zh} {te:zn} {t:Ty} {xs:List t.T} {O O':Nat->Prop} (h:OwnRep w O β B bv (.buf te t xs)) (hO:∀ g,g < w.heap.size->O' g->O g) (hn:∀ g,zag bv=some g->¬ O' g):
  RepD w O' (.slice t) xs bv:=by
 rw[RepD.scalar rfl];refine⟨bv,rfl,?_⟩;obtain⟨cs,h1,h2,h3⟩:=h;have h1':RepL (RepC w O' t) xs cs:=h1.mono fun x _ c=>RepC.keep ⟨zl _,fun _ _ _=>rfl,hO⟩ _ _ _;rcases h2.2 with ⟨rfl,h4⟩|⟨g,cap,cur,rfl,h5,h6,h7,h8,h9,h10⟩
 ·have:xs=[]:=yP h4;subst this;exact .inl ⟨rfl,none,0,rfl,by simp[maxLen]⟩
 ·by_cases hx:xs=[]
  ·subst hx;exact .inl ⟨rfl,some ⟨g,0,none⟩,cap,rfl,h8⟩
  ·refine .inr ⟨g,0,cap,cs,rfl,hx,h7,h8,(zo.1 h6).1,hn g rfl,h1',fun j u hu=>?_⟩;rw[yp];unfold xo;rw[h6];simp only[xP,yw,if_false];rw[<-h10,zM]at hu;split at hu
   ·simpa using hu
   ·cases hu
def thaw (i:Nat) (t:Ty) (xs:List t.T) (v:V):V:=
 match v with
 |⟨.obuf _,j⟩=>bif yb i j then ⟨.slice t,xs⟩ else v
 |v=>v
def Frame.thaw (i:Nat) (t:Ty) (xs:List t.T):List (Nat×V)->List (Nat×V)
 | []=>[]
 |(s,v)::r=>(s,Go.Proofs.YtpeaigpfddalcaaGreatDoor.thaw i t xs v)::Frame.thaw i t xs r
theorem Frame.get_thaw (i:Nat) (t:Ty) (xs:List t.T) (F:Frame) (s:Nat):Frame.get (Frame.thaw i t xs F) s=Go.Proofs.YtpeaigpfddalcaaGreatDoor.thaw i t xs (Frame.get F s):=by
 induction F with
 |nil=>rfl
 |cons p F ih=>
  obtain⟨d,v⟩:=p;simp only[Frame.thaw,zat,ih];split<;>rfl
theorem Sim.freeze (h:Sim w0 X n σ β a w) (hX:X.Ok w0) {i:Nat} {te:zn} {t:Ty} {xs:List t.T} (hi:Owns.get σ.E i=some (.buf te t xs)):
  Sim w0 X n { F:=Frame.thaw i t xs σ.F,E:=(i,none)::σ.E,nx:=σ.nx } β a w:=by
 have h':=h.forget i;have hv:RepD w (OSet X ((i,none)::σ.E) β) (.slice t) xs (β i):=(h.own i _ hi).view (fun g _ hg=>by
  rcases hg with hg|⟨j,oj,h1,h2⟩
  ·exact .inl hg
  ·rw[zah]at h1;by_cases hs:i=j
   ·rw[if_pos hs]at h1;cases h1
   ·rw[if_neg hs]at h1;exact .inr ⟨j,oj,h1,h2⟩) fun g hg hg'=>by
  rcases hg' with hg'|⟨j,oj,h1,h2⟩
  ·have h3:=hX.1 g hg';rcases h.new i _ g hi hg with h4|h4
   ·omega
   ·exact h3.2 h4
  ·rw[zah]at h1;by_cases hs:i=j
   ·rw[if_pos hs]at h1;cases h1
   ·rw[if_neg hs]at h1;exact h.inj i j _ _ hi h1 hs g hg h2
 refine⟨h'.sz,h'.df,h'.bel,fun s=>?_,h'.own,h'.new,h'.inj,h'.lt,h'.fix,fun s=>?_,h'.hE⟩
 ·have h1:=h'.fr s;show RepV _ _ _ (Frame.get (Frame.thaw i t xs σ.F) s).t _ _;rw[Frame.get_thaw];revert h1;show RepV _ _ _ (Frame.get σ.F s).t _ _->_;generalize Frame.get σ.F s=v;obtain⟨vt,vx⟩:=v;cases vt<;>first|exact id|skip
  rename_i t';intro h1;have h1':a.tmps.getD s undef=β vx:=h1;simp only[Go.Proofs.YtpeaigpfddalcaaGreatDoor.thaw];cases e:yb i vx with
  |true=>
   have e':i=vx:=xH e;simp only[cond_true];rw[h1', <-e'];exact hv
  |false=>exact h1
 ·have h1:=h'.hb s;show (Frame.get (Frame.thaw i t xs σ.F) s).bound≤_;rw[Frame.get_thaw];revert h1;show (Frame.get σ.F s).bound≤_->_;generalize Frame.get σ.F s=v;obtain⟨vt,vx⟩:=v;cases vt<;>first|exact id|skip
  intro h1;simp only[Go.Proofs.YtpeaigpfddalcaaGreatDoor.thaw];cases e:yb i vx with
  |true=>exact zk _
  |false=>exact h1
end
def zbW:Ty->List zh
 | .bool=>[.bool false]
 | .int k=>[.int k 0]
 | .str=>[.string ⟨#[]⟩]
 | .slice _=>[.slice none 0 0]
 | .pair a b=>zbW a++zbW b
 | .arr n t=>(zu n (zbW t)).flatten
 |_=>[]
def zsi:(k:yC)->IntT k
 | .u8=>(0:UInt8)
 | .u16=>(0:BitVec 16)
 | .u32=>(0:BitVec 32)
 | .u64=>(0:BitVec 64)
 | .i8=>(0:Int)
 | .i16=>(0:Int)
 | .i32=>(0:Int)
 | .i64=>(0:Int)
def za8:(t:Ty)->t.T
 | .bool=>false
 | .int k=>zsi k
 | .str=>[]
 | .unit=>()
 | .pair a b=>(za8 a,za8 b)
 | .arr n t=>zu n (za8 t)
 | .slice _=>[]
 | .junk=>()
 | .lit=>.nilFunc
 | .vptr t=>za8 t
 | .cptr _ _ t=>za8 t
 | .optr t=>⟨0,t,.here⟩
 | .obuf _=>(0:Nat)
 | .tup a b=>(za8 a,za8 b)
 | .cond t=>(false,za8 t)
 | .clo _ t=>za8 t
 | .mapL=>([]:List (zh×zh))
 | .hptr=>((0:Nat),(0:Nat))
 | .hcons a b=>(za8 a,za8 b)
def Ty.data:Ty->Bool
 | .bool| .int _| .str| .unit=>true
 | .pair a b=>a.data&&b.data
 | .arr _ t=>t.data
 | .slice t=>t.data
 |_=>false
theorem zpB (k:yC):encI k (zsi k)=0:=by cases k<;>rfl
theorem zfm (w:zj) (O:Nat->Prop):∀ t:Ty,t.data=true->RepC w O t (za8 t) (zbW t):=by
 intro t
 induction t with
 |bool=>intro _;rfl
 |int k=>intro _;show _=_;rw[show za8 (.int k)=zsi k from rfl,zpB];rfl
 |str=>intro _;exact⟨rfl,by simp[za8]⟩
 |unit=>intro _;rfl
 |pair a b iha ihb=>intro h;simp[Ty.data]at h;exact⟨_,_,rfl,iha h.1,ihb h.2⟩
 |arr n t ih=>
  intro h;refine⟨by simp[za8],?_⟩;simp only[za8,zbW]
  induction n with
  |zero=>rfl
  |succ n ihn=>exact⟨_,_,rfl,ih h,ihn h⟩
 |slice t ih=>intro _;exact⟨_,rfl,.inl ⟨rfl,none,0,rfl,by simp⟩⟩
 |_=>intro h;simp[Ty.data]at h
def Info (P:zx) (t:zn) (τ:Ty):Prop:=∃ i z,P.info? t=some i∧i.size=τ.size∧i.zero=some z∧z.cells=(zbW τ).toArray∧i.bytes≤24 * τ.size
def Lay (P:zx):Ty->zn ⊕ (List vf×Nat)->Prop
 | .bool,.inl t=>P.underlying t=some .bool∧Info P t .bool
 | .int k,.inl t=>P.underlying t=some (.int k)∧Info P t (.int k)
 | .str,.inl t=>P.underlying t=some .string∧Info P t .str
 | .unit,.inl t=>∃ fs,P.underlying t=some (.struct fs)∧Info P t .unit∧fs.toList=[]
 | .unit,.inr m=>m.1=[]
 | .pair a b,.inl t=>∃ fs,P.underlying t=some (.struct fs)∧Info P t (.pair a b)∧∃ f r,fs.toList=f::r∧f.offset=0∧Lay P a (.inl f.type)∧Lay P b (.inr (r,a.size))
 | .pair a b,.inr m=>∃ f r,m.1=f::r∧f.offset=m.2∧Lay P a (.inl f.type)∧Lay P b (.inr (r,m.2+a.size))
 | .arr n e,.inl t=>∃ te,P.underlying t=some (.array n te)∧Info P t (.arr n e)∧Lay P e (.inl te)
 | .slice e,.inl t=>∃ te,P.underlying t=some (.slice te)∧Info P t (.slice e)∧Lay P e (.inl te)
 |_,_=>False
def zqq:zh->zh->Bool
 | .bool a,.bool b=>a==b
 | .int k a,.int l b=>decide (k=l)&&decide (a=b)
 | .string a,.string b=>a.data.toList==b.data.toList
 | .slice none n c,.slice none m d=>yb n m&&yb c d
 |_,_=>false
theorem zqp {a b:zh} (h:zqq a b=true):a=b:=by
 cases a<;>cases b<;>simp_all [zqq]
 ·rename_i x y;cases x;cases y;simp_all
 ·rename_i x n c y m d;cases x<;>cases y<;>simp_all [zqq]
def zig:List zh->List zh->Bool
 | [],[]=>true
 |a::r,b::s=>zqq a b&&zig r s
 |_,_=>false
theorem zjT:∀ {a b:List zh},zig a b=true->a=b
 | [],[],_=>rfl
 |a::r,b::s,h=>by
  simp[zig]at h;rw[zqp h.1,zjT h.2]
 | [],_::_,h=>by simp[zig]at h
 |_::_,[],h=>by simp[zig]at h
def zjf (P:zx) (t:zn) (τ:Ty):Bool:=
 match P.info? t with
 |some i=>yb i.size τ.size&&qI i.bytes (24 * τ.size)&&(match i.zero with |some z=>zig z.cells.toList (zbW τ)|none=>false)
 |none=>false
theorem zd2 {P:zx} {t:zn} {τ:Ty} (h:zjf P t τ=true):Info P t τ:=by
 unfold zjf at h;split at h
 ·rename_i i hi;simp only[zf,xc,qt]at h;obtain⟨⟨h1,h2⟩,h3⟩:=h;split at h3
  ·rename_i z hz;exact⟨i,z,hi,h1,hz,by rw[<-zjT h3],h2⟩
  ·cases h3
 ·cases h
def layB (P:zx):Ty->zn ⊕ (List vf×Nat)->Bool
 | .bool,.inl t=>(match P.underlying t with |some .bool=>true|_=>false)&&zjf P t .bool
 | .int k,.inl t=>(match P.underlying t with |some (.int l)=>decide (k=l)|_=>false)&&zjf P t (.int k)
 | .str,.inl t=>(match P.underlying t with |some .string=>true|_=>false)&&zjf P t .str
 | .unit,.inl t=>(match P.underlying t with |some (.struct fs)=>(match fs.toList with | []=>true|_=>false)|_=>false)&&zjf P t .unit
 | .unit,.inr m=>(match m.1 with | []=>true|_=>false)
 | .pair a b,.inl t=>(match P.underlying t with |some (.struct fs)=>(match fs.toList with |f::r=>yb f.offset 0&&layB P a (.inl f.type)&&layB P b (.inr (r,a.size))|_=>false)|_=>false)&&zjf P t (.pair a b)
 | .pair a b,.inr m=>(match m.1 with |f::r=>yb f.offset m.2&&layB P a (.inl f.type)&&layB P b (.inr (r,m.2+a.size))|_=>false)
 | .arr n e,.inl t=>(match P.underlying t with |some (.array k te)=>yb n k&&layB P e (.inl te)|_=>false)&&zjf P t (.arr n e)
 | .slice e,.inl t=>(match P.underlying t with |some (.slice te)=>layB P e (.inl te)|_=>false)&&zjf P t (.slice e)
 |_,_=>false
theorem zs9 {P:zx}:∀ (τ:Ty) (m:zn ⊕ (List vf×Nat)),layB P τ m=true->Lay P τ m:=by
 intro τ
 induction τ with
 |bool=>
  rintro (t|m) h
  ·simp only[layB,zf]at h;refine⟨?_,zd2 h.2⟩;have h1:=h.1;split at h1
   ·assumption
   ·cases h1
  ·cases h
 |int k=>
  rintro (t|m) h
  ·simp only[layB,zf]at h;refine⟨?_,zd2 h.2⟩;have h1:=h.1;split at h1
   ·rename_i l hl;simp at h1;rw[h1];exact hl
   ·cases h1
  ·cases h
 |str=>
  rintro (t|m) h
  ·simp only[layB,zf]at h;refine⟨?_,zd2 h.2⟩;have h1:=h.1;split at h1
   ·assumption
   ·cases h1
  ·cases h
 |unit=>
  rintro (t|m) h
  ·simp only[layB,zf]at h;have h1:=h.1;split at h1
   ·rename_i fs hfs;refine⟨fs,hfs,zd2 h.2,?_⟩;split at h1
    ·assumption
    ·cases h1
   ·cases h1
  ·simp only[layB]at h;show m.1=[];split at h
   ·assumption
   ·cases h
 |pair a b iha ihb=>
  rintro (t|m) h
  ·simp only[layB,zf]at h;have h1:=h.1;split at h1
   ·rename_i fs hfs;split at h1
    ·rename_i f r hfr;simp only[zf,xc]at h1;exact⟨fs,hfs,zd2 h.2,f,r,hfr,h1.1.1,iha _ h1.1.2,ihb _ h1.2⟩
    ·cases h1
   ·cases h1
  ·simp only[layB]at h;split at h
   ·rename_i f r hfr;simp only[zf,xc]at h;exact⟨f,r,hfr,h.1.1,iha _ h.1.2,ihb _ h.2⟩
   ·cases h
 |arr n e ih=>
  rintro (t|m) h
  ·simp only[layB,zf]at h;have h1:=h.1;split at h1
   ·rename_i k te hk;simp only[zf,xc]at h1;rw[<-h1.1]at hk;exact⟨te,hk,zd2 h.2,ih _ h1.2⟩
   ·cases h1
  ·cases h
 |slice e ih=>
  rintro (t|m) h
  ·simp only[layB,zf]at h;have h1:=h.1;split at h1
   ·rename_i te hk;exact⟨te,hk,zd2 h.2,ih _ h1⟩
   ·cases h1
  ·cases h
 |_=>intro m h;cases m<;>cases h
section
variable {P:zx} {w:zj} {O:Nat->Prop}
theorem Lay.info {τ:Ty} {t:zn} (h:Lay P τ (.inl t)):Info P t τ:=by
 cases τ<;>first
  |exact h.2
  |(obtain⟨_,_,h,_⟩:=h;exact h)
  |exact absurd h (by simp[Lay])
theorem Lay.data:∀ {τ:Ty} {m:zn ⊕ (List vf×Nat)},Lay P τ m->τ.data=true:=by
 intro τ
 induction τ with
 |pair a b iha ihb=>
  rintro (t|m) h
  ·obtain⟨_,_,_,f,r,_,_,h1,h2⟩:=h;simp[Ty.data,iha h1,ihb h2]
  ·obtain⟨f,r,_,_,h1,h2⟩:=h;simp[Ty.data,iha h1,ihb h2]
 |arr n e ih=>
  rintro (t|m) h
  ·obtain⟨_,_,_,h1⟩:=h;simp[Ty.data,ih h1]
  ·exact absurd h (by simp[Lay])
 |slice e ih=>
  rintro (t|m) h
  ·obtain⟨_,_,_,h1⟩:=h;simp[Ty.data,ih h1]
  ·exact absurd h (by simp[Lay])
 |bool=>intro _ _;rfl
 |int=>intro _ _;rfl
 |str=>intro _ _;rfl
 |unit=>intro _ _;rfl
 |_=>intro m h;cases m<;>exact absurd h (by simp[Lay])
theorem Lay.sizeOf {τ:Ty} {t:zn} (h:Lay P τ (.inl t)):(jV t).run P w= .ok τ.size w:=by
 obtain⟨i,z,h1,h2,_⟩:=h.info;simp[jV,typeInfo,h1,h2]
theorem Lay.isAgg {τ:Ty} {t:zn} (h:Lay P τ (.inl t)):(Go.isAgg t).run P w= .ok τ.isAgg w:=by
 unfold Go.isAgg;cases τ with
 |bool=>rw[zC,run_underlying h.1];rfl
 |int=>rw[zC,run_underlying h.1];rfl
 |str=>rw[zC,run_underlying h.1];rfl
 |unit=>obtain⟨_,h1,_⟩:=h;rw[zC,run_underlying h1];rfl
 |pair=>obtain⟨_,h1,_⟩:=h;rw[zC,run_underlying h1];rfl
 |arr=>obtain⟨_,h1,_⟩:=h;rw[zC,run_underlying h1];rfl
 |slice=>obtain⟨_,h1,_⟩:=h;rw[zC,run_underlying h1];rfl
 |_=>exact absurd h (by simp[Lay])
theorem RepC.single {τ:Ty} (hd:τ.isAgg=false) {x:τ.T} {cs:List zh} (h:RepC w O τ x cs):∃ u,cs=[u]:=by
 have hl:=RepC.len _ _ _ h;have:τ.size=1:=by cases τ<;>first|rfl|(cases hd;done)|(simp[RepC]at h;done)
 rw[this]at hl;exact List.length_eq_one_iff.1 hl
theorem Lay.part {τ:Ty} {t:zn} (h:Lay P τ (.inl t)) {x:τ.T} {cs:List zh} {k:Nat} (hr:RepC w O τ x ((cs.drop k).take τ.size)):
  ∃ u,(Go.part t cs.toArray k).run P w= .ok u w∧RepD w O τ x u:=by
 unfold Go.part;simp only[zC,h.isAgg,zA];cases hd:τ.isAgg with
 |true=>
  simp only[if_true,zC,h.sizeOf,zA,zv];refine⟨_,rfl,(RepD.agg hd).2 ⟨_,?_,hr⟩⟩;simp only[List.extract_toArray,Value.agg.injEq,vP]
  congr 1
  simp
 |false=>
  obtain⟨u,hu⟩:=RepC.single hd hr;have hk:cs[k]? =some u:=by
   have h1:((cs.drop k).take τ.size)[0]? =some u:=by rw[hu];rfl
   rw[zM]at h1;split at h1
   ·simpa using h1
   ·cases h1
  refine⟨u,?_,(RepD.scalar hd).2 (hu▸hr)⟩;simp[hk]
theorem Lay.loadVar {τ:Ty} {t:zn} (h:Lay P τ (.inl t)) {x:τ.T} {cs:List zh} {g off:Nat} (hr:RepC w O τ x cs) (hc:CellsAt w g off cs):
  ∃ u,(Go.loadVar t ⟨g,off,none⟩).run P w= .ok u w∧RepD w O τ x u:=by
 unfold Go.loadVar;simp only[zC,h.isAgg,zA];have hl:=RepC.len _ _ _ hr;cases hd:τ.isAgg with
 |true=>
  have h2:=run_loadCells_list (P:=P) w ⟨g,off,none⟩ cs (fun j v hv=>by rw[yZ];exact hc j v hv);rw[hl]at h2;simp only[if_true,zC,h.sizeOf,zA,h2,zv];exact⟨_,rfl,(RepD.agg hd).2 ⟨_,rfl,hr⟩⟩
 |false=>
  obtain⟨u,rfl⟩:=RepC.single hd hr;refine⟨u,?_,(RepD.scalar hd).2 hr⟩;have:=hc 0 u rfl;simp[load,Sem.run,show w.cell? ⟨g,off,none⟩=some u from this]
theorem Lay.loadAt {τ:Ty} {t:zn} (h:Lay P τ (.inl t)) {x:τ.T} {cs:List zh} {g off:Nat} (hr:RepC w O τ x cs) (hc:CellsAt w g off cs):
  ∃ u,(qQ t (.pointer (some ⟨g,off,none⟩))).run P w= .ok u w∧RepD w O τ x u:=by
 obtain⟨u,h1,h2⟩:=h.loadVar hr hc;exact⟨u,by simp[qQ,ql,h1],h2⟩
def zhE:Nat->(t:Ty)->t.T->Option V
 |0,.pair a _,x=>some ⟨a,x.1⟩
 |n+1,.pair _ b,x=>zhE n b x.2
 |_,_,_=>none
def za9:Nat->Ty->Nat
 |n+1,.pair a b=>a.size+za9 n b
 |_,_=>0
theorem zdq:∀ (n:Nat) (τ:Ty) (x:τ.T) (v:V) (fs:List vf) (off:Nat) (cs:List zh),zhE n τ x=some v->Lay P τ (.inr (fs,off))->RepC w O τ x cs->
  ∃ f,fs[n]? =some f∧f.offset=off+za9 n τ∧Lay P v.t (.inl f.type)∧RepC w O v.t v.x ((cs.drop (za9 n τ)).take v.t.size)
 |0,.pair a b,x,v,fs,off,cs,h,hl,hr=>by
  cases h;obtain⟨f,r,h1,h2,h3,h4⟩:=hl;obtain⟨c1,c2,rfl,h5,h6⟩:=hr;simp only at h1 h2;subst h1;refine⟨f,rfl,by simp[za9,h2],h3,?_⟩;have:=RepC.len _ _ _ h5;simp[za9, <-this,h5]
 |n+1,.pair a b,x,v,fs,off,cs,h,hl,hr=>by
  obtain⟨f,r,h1,h2,h3,h4⟩:=hl;obtain⟨c1,c2,rfl,h5,h6⟩:=hr;simp only at h1 h2;subst h1;obtain⟨f',h7,h8,h9,h10⟩:=zdq n b x.2 v r _ c2 h h4 h6;have:=RepC.len _ _ _ h5;refine⟨f',by simpa using h7,by rw[h8];simp[za9,xU],h9,?_⟩;rw[show za9 (n+1) (.pair a b)=c1.length+za9 n b by simp[za9,this],xT];exact h10
 |0,.unit,_,_,_,_,_,h,_,_=>by cases h
 |_+1,.unit,_,_,_,_,_,h,_,_=>by cases h
 |n,.bool,_,_,_,_,_,h,_,_=>by cases n<;>cases h
 |n,.int _,_,_,_,_,_,h,_,_=>by cases n<;>cases h
 |n,.str,_,_,_,_,_,h,_,_=>by cases n<;>cases h
 |n,.arr _ _,_,_,_,_,_,h,_,_=>by cases n<;>cases h
 |n,.slice _,_,_,_,_,_,h,_,_=>by cases n<;>cases h
 |n,.junk,_,_,_,_,_,h,_,_=>by cases n<;>cases h
 |n,.lit,_,_,_,_,_,h,_,_=>by cases n<;>cases h
 |n,.vptr _,_,_,_,_,_,h,_,_=>by cases n<;>cases h
 |n,.cptr _ _ _,_,_,_,_,_,h,_,_=>by cases n<;>cases h
 |n,.optr _,_,_,_,_,_,h,_,_=>by cases n<;>cases h
 |n,.obuf _,_,_,_,_,_,h,_,_=>by cases n<;>cases h
 |n,.tup _ _,_,_,_,_,_,h,_,_=>by cases n<;>cases h
 |n,.cond _,_,_,_,_,_,h,_,_=>by cases n<;>cases h
theorem Lay.struct {n:Nat} {τ:Ty} {t:zn} (h:Lay P τ (.inl t)) {x:τ.T} {v:V} (hv:zhE n τ x=some v):
  ∃ fs,P.underlying t=some (.struct fs)∧Lay P τ (.inr (fs.toList,0)):=by
 cases τ with
 |pair a b=>
  obtain⟨fs,h1,_,f,r,h2,h3,h4,h5⟩:=h;exact⟨fs,h1,f,r,h2,h3,h4,by simpa using h5⟩
 |_=>cases n<;>cases hv
theorem Lay.field {n:Nat} {τ:Ty} {t:zn} (h:Lay P τ (.inl t)) {x:τ.T} {v:V} (hv:zhE n τ x=some v) {u:zh} (hr:RepD w O τ x u):
  ∃ y,(uG t u n).run P w= .ok y w∧RepD w O v.t v.x y:=by
 obtain⟨fs,h1,h2⟩:=h.struct hv;have hagg:τ.isAgg=true:=by cases τ<;>first|rfl|(cases n<;>cases hv)
 obtain⟨cs,rfl,hc⟩:=(RepD.agg hagg).1 hr;obtain⟨f,h3,h4,h5,h6⟩:=zdq n τ x v _ _ cs hv h2 hc;rw[yp]at h4;obtain⟨y,h7,h8⟩:=h5.part h6;refine⟨y,?_,h8⟩;unfold uG;simp only[zC,run_underlying h1,zA];rw[show fs[n]? =some f by simpa using h3];simp only[asAgg,zC,zv,zA,h4];exact h7
end
def allP:List Prop->Prop
 | []=>True
 | [p]=>p
 |p::q::r=>p∧allP (q::r)
theorem zhR {p:Prop} {r:List Prop}:allP (p::r)↔p∧allP r:=by
 cases r<;>simp[allP]
theorem zax {a b:List Prop}:allP (a++b)↔allP a∧allP b:=by
 induction a with
 |nil=>simp[allP]
 |cons p a ih=>rw[List.cons_append,zhR,zhR,ih,and_assoc]
theorem zrB {a:List Prop}:allP a↔∀ p∈a,p:=by
 induction a with
 |nil=>simp[allP]
 |cons p a ih=>
  rw[zhR,ih];constructor
  ·rintro ⟨h1,h2⟩ q hq;rcases List.mem_cons.1 hq with rfl|hq
   ·exact h1
   ·exact h2 q hq
  ·exact fun h=>⟨h p (yf ..),fun q hq=>h q (List.mem_cons_of_mem _ hq)⟩
def inR (k:yC) (n:Int):Prop:=k.min≤n∧n≤k.max
theorem zq6 {n:Int}:inR .i64 n↔ -9223372036854775808≤n∧n≤9223372036854775807:=by
 simp[inR,vT,vk,xV,y7]
theorem zcj {k:yC} {n:Int} (h:inR k n):k.wrap n=n:=by
 unfold inR vT vk at h;cases k<;>simp[je,xV,y7]at h ⊢ <;>omega
theorem zdS (n:Int):IntKind.u8.wrap n=n % 256:=by simp[je,y7,xV]
theorem zp8 (n:Int):IntKind.u16.wrap n=n % 65536:=by simp[je,y7,xV]
theorem zp7 (n:Int):IntKind.u32.wrap n=n % 4294967296:=by simp[je,y7,xV]
theorem zp6 (n:Int):IntKind.u64.wrap n=n % 18446744073709551616:=by simp[je,y7,xV]
abbrev arS (k:yC) (op:jI) (x y:Int):Option (List Prop×Int):=
 match op with
 | .add=>some ([inR k (x+y)],x+y)
 | .sub=>some ([inR k (x - y)],x - y)
 | .mul=>some ([inR k (x * y)],x * y)
 | .quo=>some ([y≠0,inR k (x.tdiv y)],x.tdiv y)
 | .rem=>some ([y≠0],x.tmod y)
 | .or=>some ([0≤x,0≤y,x.toNat < 2 ^ (k.bits - 1),y.toNat < 2 ^ (k.bits - 1)],((x.toNat|||y.toNat:Nat):Int))
 | .and=>some ([0≤x,0≤y,x.toNat < 2 ^ (k.bits - 1),y.toNat < 2 ^ (k.bits - 1)],((x.toNat&&& y.toNat:Nat):Int))
 |_=>none
abbrev ar8 (op:jI) (x y:UInt8):Option (List Prop×UInt8):=
 match op with
 | .add=>some ([],x+y)
 | .sub=>some ([],x - y)
 | .mul=>some ([],x * y)
 | .quo=>some ([y≠0],x / y)
 | .rem=>some ([y≠0],x % y)
 | .and=>some ([],x&&& y)
 | .or=>some ([],x|||y)
 | .xor=>some ([],x ^^^ y)
 |_=>none
abbrev arB (w:Nat) (op:jI) (x y:BitVec w):Option (List Prop×BitVec w):=
 match op with
 | .add=>some ([],x+y)
 | .sub=>some ([],x - y)
 | .mul=>some ([],x * y)
 | .quo=>some ([y≠0],x / y)
 | .rem=>some ([y≠0],x % y)
 | .and=>some ([],x&&& y)
 | .or=>some ([],x|||y)
 | .xor=>some ([],x ^^^ y)
 |_=>none
def arI (op:jI):(k:yC)->IntT k->IntT k->Option (List Prop×IntT k)
 | .u8,x,y=>ar8 op x y
 | .u16,x,y=>arB 16 op x y
 | .u32,x,y=>arB 32 op x y
 | .u64,x,y=>arB 64 op x y
 | .i8,x,y=>arS .i8 op x y
 | .i16,x,y=>arS .i16 op x y
 | .i32,x,y=>arS .i32 op x y
 | .i64,x,y=>arS .i64 op x y
def cmpI (op:jI) (a b:Int):Option Bool:=
 match op with
 | .eql=>some (a==b)
 | .neq=>some (a != b)
 | .lss=>some (decide (a < b))
 | .leq=>some (decide (a≤b))
 | .gtr=>some (decide (a > b))
 | .geq=>some (decide (a≥b))
 |_=>none
def shI (op:jI):(k:yC)->IntT k->Int->Option (List Prop×IntT k)
 | .u8,x,n=>match op with
  | .shl=>some ([0≤n],(yh (qP x <<< n.toNat):UInt8))
  | .shr=>some ([0≤n],(yh (qP x >>> n.toNat):UInt8))
  |_=>none
 | .u16,x,n=>shB 16 op x n
 | .u32,x,n=>shB 32 op x n
 | .u64,x,n=>shB 64 op x n
 | .i8,_,_=>none
 | .i16,_,_=>none
 | .i32,_,_=>none
 | .i64,x,n=>match op with
  | .shl=>some ([0≤n,n≤63,inR .i64 ((x:Int) * 2 ^ n.toNat)],((x:Int) * 2 ^ n.toNat:Int))
  | .shr=>some ([0≤n,n≤63],((x:Int) / 2 ^ n.toNat:Int))
  |_=>none
where
 shB (w:Nat) (op:jI) (x:BitVec w) (n:Int):Option (List Prop×BitVec w):=
  match op with
  | .shl=>some ([0≤n],x <<< n.toNat)
  | .shr=>some ([0≤n],x >>> n.toNat)
  |_=>none
def cvI:(k l:yC)->IntT k->Option (List Prop×IntT l)
 | .u8,.u8,x=>some ([],(x:UInt8))
 | .u16,.u8,x=>some ([],(yh (yY (w:=16) x):UInt8))
 | .u32,.u8,x=>some ([],(yh (yY (w:=32) x):UInt8))
 | .u64,.u8,x=>some ([],(yh (yY (w:=64) x):UInt8))
 | .i64,.u8,x=>some ([],(yh ((x:Int) % 256).toNat:UInt8))
 | .u8,.u16,x=>some ([],yc 16 (qP x))
 | .u8,.u32,x=>some ([],yc 32 (qP x))
 | .u8,.u64,x=>some ([],yc 64 (qP x))
 | .u32,.u64,x=>some ([],yc 64 (yY (w:=32) x))
 | .u64,.u32,x=>some ([],yc 32 (yY (w:=64) x))
 | .u32,.u32,x=>some ([],(x:BitVec 32))
 | .u64,.u64,x=>some ([],(x:BitVec 64))
 | .i64,.u64,x=>some ([],yL 64 (x:Int))
 | .i64,.u32,x=>some ([],yL 32 (x:Int))
 | .u8,.i64,x=>some ([],((qP x:Nat):Int))
 | .u16,.i64,x=>some ([],((yY (w:=16) x:Nat):Int))
 | .u32,.i64,x=>some ([],((yY (w:=32) x:Nat):Int))
 | .u64,.i64,x=>some ([inR .i64 ((yY (w:=64) x:Nat):Int)],((yY (w:=64) x:Nat):Int))
 | .i64,.i64,x=>some ([inR .i64 (x:Int)],(x:Int))
 |_,_,_=>none
def unI (op:UnOp):(k:yC)->IntT k->Option (List Prop×IntT k)
 | .u8,x=>match op with | .xor=>some ([],(~~~ (x:UInt8):UInt8))|_=>none
 | .u16,x=>match op with | .xor=>some ([], ~~~ (x:BitVec 16))|_=>none
 | .u32,x=>match op with | .xor=>some ([], ~~~ (x:BitVec 32))|_=>none
 | .u64,x=>match op with | .xor=>some ([], ~~~ (x:BitVec 64))|_=>none
 | .i64,x=>match op with | .neg=>some ([inR .i64 (-(x:Int))],(-(x:Int):Int))|_=>none
 |_,_=>none
section
variable {P:zx} {w:zj}
def zbN (op:jI) (k:yC) (a b:Int):Sem zh:=
 match op with
 | .add| .sub| .mul=>qA op k a b
 | .quo| .rem=>vG op k a b
 | .and| .or| .xor| .andNot=>qE op k a b
 |_=>Op.intCmp op a b
theorem zpV {op:jI} {t:zn} {k:yC} {a b:Int} (h1:op≠ .shl) (h2:op≠ .shr):yQ op t (.int k a) (.int k b)=zbN op k a b:=by
 cases op<;>simp_all [yQ,zbN]
theorem or_run {k:yC} {x y:Int} (h1:0≤x) (h2:0≤y) (h3:x.toNat < 2 ^ (k.bits - 1)) (h4:y.toNat < 2 ^ (k.bits - 1)):(qE .or k x y).run P w= .ok (.int k ((x.toNat|||y.toNat:Nat):Int)) w:=by
 have h5:x.toNat|||y.toNat < 2 ^ (k.bits - 1):=Nat.or_lt_two_pow h3 h4
 have hb:k.bits - 1+1=k.bits:=by cases k<;>rfl
 have h6:2 ^ (k.bits - 1)≤2 ^ k.bits:=ju (by omega) (by omega);have ex:(yL k.bits x).toNat=x.toNat:=by rw[show x=((x.toNat:Nat):Int) by omega,qR,qF,zD,xQ (by omega)]
 have ey:(yL k.bits y).toNat=y.toNat:=by rw[show y=((y.toNat:Nat):Int) by omega,qR,qF,zD,xQ (by omega)]
 have hw:k.wrap ((x.toNat|||y.toNat:Nat):Int)=((x.toNat|||y.toNat:Nat):Int):=by
  refine zcj ?_;unfold inR vT vk;cases k<;>simp[xV,y7]at h5 ⊢ <;>omega
 simp only[qE,zv,BitVec.toNat_or,ex,ey,hw]
theorem zt8 {k:yC} {x y:Int} (h1:0≤x) (h2:0≤y) (h3:x.toNat < 2 ^ (k.bits - 1)) (h4:y.toNat < 2 ^ (k.bits - 1)):(qE .and k x y).run P w= .ok (.int k ((x.toNat&&& y.toNat:Nat):Int)) w:=by
 have h5:x.toNat&&& y.toNat < 2 ^ (k.bits - 1):=Nat.and_lt_two_pow _ h4;have hb:k.bits - 1+1=k.bits:=by cases k<;>rfl
 have h6:2 ^ (k.bits - 1)≤2 ^ k.bits:=ju (by omega) (by omega);have ex:(yL k.bits x).toNat=x.toNat:=by rw[show x=((x.toNat:Nat):Int) by omega,qR,qF,zD,xQ (by omega)]
 have ey:(yL k.bits y).toNat=y.toNat:=by rw[show y=((y.toNat:Nat):Int) by omega,qR,qF,zD,xQ (by omega)]
 have hw:k.wrap ((x.toNat&&& y.toNat:Nat):Int)=((x.toNat&&& y.toNat:Nat):Int):=by
  refine zcj ?_;unfold inR vT vk;cases k<;>simp[xV,y7]at h5 ⊢ <;>omega
 simp only[qE,zv,BitVec.toNat_and,ex,ey,hw]
theorem zjx {k:yC} {op:jI} {x y:Int} {vc:List Prop} {z:Int} (h:arS k op x y=some (vc,z)) (hv:allP vc):(zbN op k x y).run P w= .ok (.int k z) w:=by
 cases op<;>simp only[arS,yN,xJ,reduceCtorEq]at h<;>obtain⟨rfl,rfl⟩:=h<;>simp only[allP]at hv
 ·simp[zbN,qA,zcj hv]
 ·simp[zbN,qA,zcj hv]
 ·simp[zbN,qA,zcj hv]
 ·simp[zbN,vG,hv.1,zcj hv.2]
 ·simp[zbN,vG,hv]
 ·exact zt8 hv.1 hv.2.1 hv.2.2.1 hv.2.2.2
 ·exact or_run hv.1 hv.2.1 hv.2.2.1 hv.2.2.2
theorem zfp (w n:Nat):yL w (n:Int)=yc w n:=by simp
theorem bits8 (x y:UInt8):(yL 8 (x.toNat:Int))=x.toBitVec:=by rw[zfp, <-UInt8.toNat_toBitVec,BitVec.ofNat_toNat,BitVec.setWidth_eq]
theorem zt5 {op:jI} {x y:UInt8} {vc:List Prop} {z:UInt8} (h:ar8 op x y=some (vc,z)) (hv:allP vc):(zbN op .u8 (x.toNat:Int) (y.toNat:Int)).run P w= .ok (.int .u8 (z.toNat:Int)) w:=by
 have hx:=x.toNat_lt;have hy:=y.toNat_lt;have ex:yL 8 (x.toNat:Int)=x.toBitVec:=bits8 x x;have ey:yL 8 (y.toNat:Int)=y.toBitVec:=bits8 y y;cases op<;>simp only[ar8,yN,xJ,reduceCtorEq]at h<;>obtain⟨rfl,rfl⟩:=h<;>simp only[allP]at hv
 ·simp only[zbN,qA,zv,zdS,UInt8.toNat_add];congr 2
 ·simp only[zbN,qA,zv,zdS,UInt8.toNat_sub];congr 2;omega
 ·simp only[zbN,qA,zv,zdS,UInt8.toNat_mul];congr 2
 ·have:(y.toNat:Int)≠0:=by intro e;apply hv;apply uN;simpa using e
  simp only[zbN,vG,this,if_false,zv,zdS,UInt8.toNat_div]
  congr 2
  rw[vI (by omega)];have h1:x.toNat / y.toNat < 256:=kV (Nat.div_le_self _ _) hx;rw[<-kf];generalize x.toNat / y.toNat=q at *;omega
 ·have:(y.toNat:Int)≠0:=by intro e;apply hv;apply uN;simpa using e
  simp only[zbN,vG,this,if_false,zv,UInt8.toNat_mod]
  congr 2
 ·simp only[zbN,qE,y7,ex,ey,zv,zdS]
  congr 2
  have:=(x&&& y).toNat_lt;rw[qS (by omega) (by have:=(x.toBitVec&&& y.toBitVec).isLt;omega)];rfl
 ·simp only[zbN,qE,y7,ex,ey,zv,zdS]
  congr 2
  rw[qS (by omega) (by have:=(x.toBitVec|||y.toBitVec).isLt;omega)];rfl
 ·simp only[zbN,qE,y7,ex,ey,zv,zdS]
  congr 2
  rw[qS (by omega) (by have:=(x.toBitVec ^^^ y.toBitVec).isLt;omega)];rfl
theorem zgb {m:Nat} (x:BitVec m):((x.toNat:Int)) % (2 ^ m:Int)=x.toNat:=by
 have:=x.isLt;rw[qS (by omega) (by exact_mod_cast this)]
theorem zlB {k:yC} (hk:k.signed=false) {op:jI} {x y:BitVec k.bits} {vc:List Prop} {z:BitVec k.bits} (h:arB k.bits op x y=some (vc,z)) (hv:allP vc):
  (zbN op k (x.toNat:Int) (y.toNat:Int)).run P w= .ok (.int k (z.toNat:Int)) w:=by
 have hw:∀ n,k.wrap n=n % (2 ^ k.bits:Int):=fun n=>by simp[je,hk]
 have ex:yL k.bits (x.toNat:Int)=x:=by rw[zfp];simp
 have ey:yL k.bits (y.toNat:Int)=y:=by rw[zfp];simp
 cases op<;>simp only[arB,yN,xJ,reduceCtorEq]at h<;>obtain⟨rfl,rfl⟩:=h<;>simp only[allP]at hv
 ·simp only[zbN,qA,zv,hw,BitVec.toNat_add];norm_cast
 ·simp only[zbN,qA,zv,hw,BitVec.toNat_sub]
  congr 2
  have:=y.isLt
  push_cast
  rw[Int.natCast_sub (by omega)]
  push_cast
  rw[show ((2:Int)^k.bits - (y.toNat:Int)+x.toNat)=(x.toNat - y.toNat)+(2:Int)^k.bits by omega,Int.add_emod_right]
 ·simp only[zbN,qA,zv,hw,BitVec.toNat_mul];norm_cast
 ·have:(y.toNat:Int)≠0:=by intro e;apply hv;apply vg;simpa using e
  simp only[zbN,vG,this,if_false,zv,hw]
  congr 2
  rw[vI (by omega), <-kf, <-BitVec.toNat_udiv];exact zgb _
 ·have:(y.toNat:Int)≠0:=by intro e;apply hv;apply vg;simpa using e
  simp only[zbN,vG,this,if_false,zv]
  congr 2
 ·simp only[zbN,qE,ex,ey,zv,hw,zgb]
 ·simp only[zbN,qE,ex,ey,zv,hw,zgb]
 ·simp only[zbN,qE,ex,ey,zv,hw,zgb]
theorem zsg {op:jI} {k:yC} {x y:IntT k} {r:List Prop×IntT k} (h:arI op k x y=some r):op≠ .shl∧op≠ .shr:=by
 constructor<;>(rintro rfl;cases k<;>cases h)
theorem zt4 {op:jI} {k:yC} {t:zn} {x y:IntT k} {vc:List Prop} {z:IntT k} (h:arI op k x y=some (vc,z)) (hv:allP vc):
  (yQ op t (.int k (encI k x)) (.int k (encI k y))).run P w= .ok (.int k (encI k z)) w:=by
 rw[zpV (zsg h).1 (zsg h).2];cases k with
 |u8=>exact zt5 h hv
 |u16=>exact zlB (k:=.u16) rfl h hv
 |u32=>exact zlB (k:=.u32) rfl h hv
 |u64=>exact zlB (k:=.u64) rfl h hv
 |i8=>exact zjx h hv
 |i16=>exact zjx h hv
 |i32=>exact zjx h hv
 |i64=>exact zjx h hv
theorem zro {op:jI} {k:yC} {t:zn} {a b:Int} {r:Bool} (h:cmpI op a b=some r):(yQ op t (.int k a) (.int k b)).run P w= .ok (.bool r) w:=by
 cases op<;>simp only[cmpI,yN,reduceCtorEq]at h<;>subst h<;>simp[yQ,Op.intCmp]
theorem znZ {op:jI} {k l:yC} {t:zn} {x:IntT k} {n:Int} {vc:List Prop} {z:IntT k} (h:shI op k x n=some (vc,z)) (hv:allP vc):
  (yQ op t (.int k (encI k x)) (.int l n)).run P w= .ok (.int k (encI k z)) w:=by
 have key:∀ (k:yC) (hk:k.signed=false) (x:BitVec k.bits) (vc:List Prop) (z:BitVec k.bits),shI.shB k.bits op x n=some (vc,z)->allP vc->
   (yQ op t (.int k (x.toNat:Int)) (.int l n)).run P w= .ok (.int k (z.toNat:Int)) w:=by
  intro k hk x vc z h hv;have hw:∀ n,k.wrap n=n % (2 ^ k.bits:Int):=fun n=>by simp[je,hk]
  cases op<;>simp only[shI.shB,yN,xJ,reduceCtorEq]at h<;>obtain⟨rfl,rfl⟩:=h<;>simp only[allP]at hv
  ·simp only[yQ,kC,vJ.mpr hv,if_false,hw,zv]
   congr 2
   rw[BitVec.toNat_shiftLeft,Nat.shiftLeft_eq]
   push_cast
   rcases ks n.toNat k.bits with h1|h1
   ·rw[yz h1]
   ·rw[qC h1];have e1:(2:Int) ^ n.toNat=2 ^ k.bits * 2 ^ (n.toNat - k.bits):=by rw[<-Int.pow_add];congr 1;omega
    rw[e1,k9, <-Int.mul_assoc,Int.mul_comm (x.toNat:Int),Int.mul_assoc,kW]
  ·simp only[yQ,kC,vJ.mpr hv,if_false,zv]
   congr 2
   rw[BitVec.toNat_ushiftRight,vQ,jv _ (ud (uH (by decide)))]
   push_cast
   rcases ks n.toNat k.bits with h1|h1
   ·rw[yz h1]
   ·rw[qC h1];have:=x.isLt;have e0:(x.toNat:Int) < 2 ^ k.bits:=by exact_mod_cast this
    have e1:(2:Int) ^ k.bits≤2 ^ n.toNat:=by exact_mod_cast ju (by decide) h1
    rw[jf (by omega) e0,jf (by omega) (by omega)]
 cases k with
 |u16=>exact key .u16 rfl x vc z h hv
 |u32=>exact key .u32 rfl x vc z h hv
 |u64=>exact key .u64 rfl x vc z h hv
 |u8=>
  have hx:=vK x;cases op<;>simp only[shI,yN,xJ,reduceCtorEq]at h<;>obtain⟨rfl,rfl⟩:=h<;>simp only[allP]at hv
  ·simp only[yQ,kC,vJ.mpr hv,if_false,zdS,zv,encI]
   congr 2
   simp only[jR,Nat.shiftLeft_eq,y7];rw[Int.natCast_emod,Int.natCast_mul,Int.natCast_pow,show ((2:Nat):Int)=2 from rfl,show ((2 ^ 8:Nat):Int)=256 from rfl];rcases ks n.toNat 8 with h1|h1
   ·rw[yz h1]
   ·rw[qC h1];have e1:(2:Int) ^ n.toNat=256 * 2 ^ (n.toNat - 8):=by rw[show (256:Int)=2^8 by rfl, <-Int.pow_add];congr 1;omega
    rw[e1,Int.mul_left_comm,kW,show (2:Int) ^ 8=256 from rfl,k9]
  ·simp only[yQ,kC,vJ.mpr hv,if_false,zv,encI]
   congr 2
   rw[jv _ (ud (uH (by decide)))];simp only[jR,vQ,y7];have h3:qP x / 2 ^ n.toNat < 256:=kV (Nat.div_le_self _ _) hx;rw[show 2 ^ 8=256 from rfl,xQ h3,kf,Int.natCast_pow,show ((2:Nat):Int)=2 from rfl];rcases ks n.toNat 8 with h1|h1
   ·rw[yz h1]
   ·rw[qC h1];have e1:(2:Int) ^ 8≤2 ^ n.toNat:=by exact_mod_cast ju (by decide) h1
    rw[jf (by omega) (by omega),jf (by omega) (by omega)]
 |i64=>
  cases op<;>simp only[shI,yN,xJ,reduceCtorEq]at h<;>obtain⟨rfl,rfl⟩:=h<;>simp only[allP]at hv
  ·have:min n.toNat uI.bits=n.toNat:=by simp only[y7];omega
   simp only[yQ,kC,vJ.mpr hv.1,if_false,this,encI,zcj hv.2.2,zv]
  ·have:min n.toNat uI.bits=n.toNat:=by simp only[y7];omega
   simp only[yQ,kC,vJ.mpr hv.1,if_false,this,encI,zv];rw[jv _ (ud (uH (by decide)))]
 |i8=>cases h
 |i16=>cases h
 |i32=>cases h
theorem zrn {k l:yC} {x:IntT k} {vc:List Prop} {z:IntT l} (h:cvI k l x=some (vc,z)) (hv:allP vc):l.wrap (encI k x)=encI l z:=by
 have bv:∀ (m:Nat) (x:BitVec m) (c:Int),c=2 ^ m->(yY x:Int) % c=x.toNat:=fun m x c hc=>by rw[hc];exact zgb x
 cases k<;>cases l<;>simp only[cvI,yN,xJ,reduceCtorEq]at h<;>obtain⟨rfl,rfl⟩:=h<;>simp only[allP]at hv<;>
  simp only[encI,zdS,zp8,zp7,zp6]<;>first
  |exact zcj hv
  |exact bv _ _ _ (by decide)
  |(have:=vK x;rw[zcj];rw[zq6];omega)
  |(have:=BitVec.isLt (w:=16) x;rw[zcj];rw[zq6];omega)
  |(have:=BitVec.isLt (w:=32) x;rw[zcj];rw[zq6];omega)
  |(have:=vK x;omega)
  |(simp only[jR,qF,BitVec.toNat_ofInt];omega)
theorem zsm {op:UnOp} {k:yC} {x:IntT k} {vc:List Prop} {z:IntT k} (h:unI op k x=some (vc,z)) (hv:allP vc):(ue op (.int k (encI k x))).run P w= .ok (.int k (encI k z)) w:=by
 have key:∀ (k:yC) (hk:k.signed=false) (x:BitVec k.bits),(ue .xor (.int k (x.toNat:Int))).run P w= .ok (.int k ((~~~ x).toNat:Int)) w:=by
  intro k hk x;have ex:yL k.bits (x.toNat:Int)=x:=by rw[zfp];simp
  have em:yL k.bits k.max=BitVec.allOnes k.bits:=by cases k<;>first|rfl|cases hk
  have hw:∀ n,k.wrap n=n % (2 ^ k.bits:Int):=fun n=>by simp[je,hk]
  simp only[ue,hk,yw,if_false,qE,ex,em,zv,hw];rw[BitVec.allOnes_xor,zgb]
 cases k with
 |u8=>
  cases op<;>simp only[unI,yN,xJ,reduceCtorEq]at h;obtain⟨rfl,rfl⟩:=h;exact key .u8 rfl (UInt8.toBitVec x)
 |u16=>cases op<;>simp only[unI,yN,xJ,reduceCtorEq]at h;obtain⟨rfl,rfl⟩:=h;exact key .u16 rfl x
 |u32=>cases op<;>simp only[unI,yN,xJ,reduceCtorEq]at h;obtain⟨rfl,rfl⟩:=h;exact key .u32 rfl x
 |u64=>cases op<;>simp only[unI,yN,xJ,reduceCtorEq]at h;obtain⟨rfl,rfl⟩:=h;exact key .u64 rfl x
 |i64=>
  cases op<;>simp only[unI,yN,xJ,reduceCtorEq]at h;obtain⟨rfl,rfl⟩:=h;simp only[allP]at hv;simp[ue,qA,encI,zcj hv]
 |_=>cases op<;>cases h
end
open Classical in
noncomputable def eqb (t:Ty) (x y:t.T):Bool:=decide (x=y)
theorem zbx {t:Ty} {x y:t.T}:eqb t x y=true↔x=y:=by unfold eqb;simp
theorem zfD {t:Ty} {x y:t.T} {b:Bool} (h:b=true↔x=y):b=eqb t x y:=by
 rw[Bool.eq_iff_iff,h,zbx]
theorem zcy {t:Ty} {x y:t.T} [Decidable (x=y)]:eqb t x y=decide (x=y):=by
 rw[Bool.eq_iff_iff,zbx,decide_eq_true_iff]
theorem zeH {t:Ty} (x:t.T):eqb t x x=true:=zbx.2 rfl
def Cmp (P:zx):Ty->zn ⊕ List vf->Bool
 | .bool,_| .int _,_| .str,_=>true
 | .unit,.inl t=>!P.stoodInHeld t
 | .unit,.inr _=>true
 | .pair a b,.inl t=>!P.stoodInHeld t&&(match P.underlying t with |some (.struct fs)=>(match fs.toList with |f::r=>decide (f.name≠"_")&&Cmp P a (.inl f.type)&&Cmp P b (.inr r)|_=>false)|_=>false)
 | .pair a b,.inr m=>(match m with |f::r=>decide (f.name≠"_")&&Cmp P a (.inl f.type)&&Cmp P b (.inr r)|_=>false)
 | .arr _ e,.inl t=>(match P.underlying t with |some (.array _ te)=>Cmp P e (.inl te)|_=>false)
 |_,_=>false
def Ty.depth:Ty->Nat
 | .pair a b=>max a.depth b.depth+1
 | .arr _ e=>e.depth+1
 |_=>1
theorem zrj {k:yC} {x y:IntT k}:encI k x=encI k y↔x=y:=by
 cases k<;>simp only[encI]
 ·rw[vq];exact UInt8.toNat_inj
 ·rw[vq];exact kg
 ·rw[vq];exact kg
 ·rw[vq];exact kg
section
variable {P:zx} {w:zj} {O O':Nat->Prop}
theorem zlp:∀ (τ:Ty) (d:Nat),τ.depth≤d->
  (∀ (t:zn) (x y:τ.T) (u v:zh),Lay P τ (.inl t)->Cmp P τ (.inl t)=true->RepD w O τ x u->RepD w O' τ y v->(Op.equalIn d t u v).run P w= .ok (eqb τ x y) w)∧
  (∀ (fs:List vf) (off:Nat) (x y:τ.T) (pre pre' cs ds:List zh),Lay P τ (.inr (fs,off))->Cmp P τ (.inr fs)=true->RepC w O τ x cs->RepC w O' τ y ds->pre.length=off->pre'.length=off->
    (vU d (pre++cs).toArray (pre'++ds).toArray fs).run P w= .ok (eqb τ x y) w):=by
 intro τ
 induction τ with
 |bool=>
  intro d hd;obtain⟨d,rfl⟩:∃ e,d=e+1:=⟨d - 1,by simp[Ty.depth]at hd;omega⟩;refine⟨fun t x y u v hl hc hx hy=>?_,fun fs off x y pre pre' cs ds hl=>absurd hl (by simp[Lay])⟩;have h1:=(RepD.scalar rfl).1 hx;have h2:=(RepD.scalar rfl).1 hy;simp only[RepC,kA,and_true]at h1 h2;subst h1;subst h2;rw[run_equalIn_bool' w d t _ _ hl.1]
  congr 1
  exact zfD (by simp)
 |int k=>
  intro d hd;obtain⟨d,rfl⟩:∃ e,d=e+1:=⟨d - 1,by simp[Ty.depth]at hd;omega⟩;refine⟨fun t x y u v hl hc hx hy=>?_,fun fs off x y pre pre' cs ds hl=>absurd hl (by simp[Lay])⟩;have h1:=(RepD.scalar rfl).1 hx;have h2:=(RepD.scalar rfl).1 hy;simp only[RepC,kA,and_true]at h1 h2;subst h1;subst h2;rw[run_equalIn_int w d t _ k _ _ hl.1]
  congr 1
  exact zfD (by rw[beq_iff_eq];exact zrj)
 |str=>
  intro d hd;obtain⟨d,rfl⟩:∃ e,d=e+1:=⟨d - 1,by simp[Ty.depth]at hd;omega⟩;refine⟨fun t x y u v hl hc hx hy=>?_,fun fs off x y pre pre' cs ds hl=>absurd hl (by simp[Lay])⟩;have h1:=((RepD.scalar rfl).1 hx).1;have h2:=((RepD.scalar rfl).1 hy).1;simp only[kA,and_true]at h1 h2;subst h1;subst h2;rw[run_equalIn_string w d t _ _ hl.1]
  congr 1
  rw[xD,xD];exact zfD (by simp)
 |unit=>
  intro d hd;obtain⟨d,rfl⟩:∃ e,d=e+1:=⟨d - 1,by simp[Ty.depth]at hd;omega⟩;refine⟨fun t x y u v hl hc hx hy=>?_,fun fs off x y pre pre' cs ds hl hc hx hy hp hq=>?_⟩
  ·obtain⟨fs,hu,hi,hf⟩:=hl;obtain⟨cs,rfl,hx⟩:=(RepD.agg rfl).1 hx;obtain⟨ds,rfl,hy⟩:=(RepD.agg rfl).1 hy;simp only[Cmp,zB]at hc;have hfs:P.fieldsOf t=fs:=by simp[ux,hu]
   rw[run_equalIn_struct w d t _ _ (hfs▸hu) hc,hfs,hf];simp only[vU,zv]
   congr 1
   exact (zbx.2 rfl).symm
  ·have:fs=[]:=hl;subst this;simp only[vU,zv]
   congr 1
   exact (zbx.2 rfl).symm
 |pair a b iha ihb=>
  have key:∀ d,(Ty.pair a b).depth≤d+1->∀ (fs:List vf) (off:Nat) (x y:(Ty.pair a b).T) (pre pre' cs ds:List zh),Lay P (.pair a b) (.inr (fs,off))->Cmp P (.pair a b) (.inr fs)=true->RepC w O (.pair a b) x cs->RepC w O' (.pair a b) y ds->pre.length=off->pre'.length=off->
   (vU d (pre++cs).toArray (pre'++ds).toArray fs).run P w= .ok (eqb (.pair a b) x y) w:=by
   intro d hd fs off x y pre pre' cs ds hl hc hx hy hp hq;simp only[Ty.depth]at hd;obtain⟨f,r,h1,h2,h3,h4⟩:=hl;simp only at h1 h2 h4;subst h1;simp only[Cmp,zf,decide_eq_true_eq]at hc;obtain⟨c1,c2,rfl,hx1,hx2⟩:=hx;obtain⟨d1,d2,rfl,hy1,hy2⟩:=hy;have lc:=RepC.len _ _ _ hx1;have ld:=RepC.len _ _ _ hy1;have e1:RepC w O a x.1 (((pre++(c1++c2)).drop f.offset).take a.size):=by
    rw[h2, <-hp,qm, <-lc,xr];exact hx1
   have e2:RepC w O' a y.1 (((pre'++(d1++d2)).drop f.offset).take a.size):=by
    rw[h2, <-hq,qm, <-ld,xr];exact hy1
   obtain⟨u1,p1,q1⟩:=h3.part e1;obtain⟨v1,p2,q2⟩:=h3.part e2;have:=(iha d (by omega)).1 _ _ _ _ _ h3 hc.1.2 q1 q2;have i2:=(ihb d (by omega)).2 r (off+a.size) x.2 y.2 (pre++c1) (pre'++d1) c2 d2 h4 hc.2 hx2 hy2 (by simp[hp,lc]) (by simp[hq,ld]);simp only[zp]at i2;simp only[vU,ne_eq,hc.1.1,not_false_eq_true,if_true,zC,p1,p2,this,zA];cases he:eqb a x.1 y.1 with
   |true=>
    simp only[jL,yw,if_false,i2]
    congr 1
    refine zfD ?_;rw[zbx];have:=zbx.1 he;constructor
    ·intro h;exact Prod.ext this h
    ·intro h;rw[h]
   |false=>
    simp only[vL,if_true,zv]
    congr 1
    refine zfD ?_;constructor
    ·intro h;cases h
    ·intro h;rw[h,zeH]at he;cases he
  intro d hd;obtain⟨d,rfl⟩:∃ e,d=e+1:=⟨d - 1,by simp[Ty.depth]at hd;omega⟩;refine⟨fun t x y u v hl hc hx hy=>?_,fun fs off x y pre pre' cs ds hl hc hx hy hp hq=>key (d+1) (by omega) fs off x y pre pre' cs ds hl hc hx hy hp hq⟩;obtain⟨fs,hu,hi,f,r,h1,h2,h3,h4⟩:=hl;obtain⟨cs,rfl,hx'⟩:=(RepD.agg rfl).1 hx;obtain⟨ds,rfl,hy'⟩:=(RepD.agg rfl).1 hy;simp only[Cmp,zf,zB,hu,h1]at hc;have hfs:P.fieldsOf t=fs:=by simp[ux,hu]
  rw[run_equalIn_struct w d t _ _ (hfs▸hu) hc.1,hfs];exact key d hd fs.toList 0 x y [] [] cs ds ⟨f,r,h1,h2,h3,by simpa using h4⟩ (by simp only[Cmp,h1,zf];exact hc.2) hx' hy' rfl rfl
 |arr n e ih=>
  intro d hd;obtain⟨d,rfl⟩:∃ e,d=e+1:=⟨d - 1,by simp[Ty.depth]at hd;omega⟩;refine⟨fun t x y u v hl hc hx hy=>?_,fun fs off x y pre pre' cs ds hl=>absurd hl (by simp[Lay])⟩;obtain⟨te,hu,hi,hte⟩:=hl;obtain⟨cs,rfl,hx0,hx⟩:=(RepD.agg rfl).1 hx;obtain⟨ds,rfl,hy0,hy⟩:=(RepD.agg rfl).1 hy;simp only[Cmp,hu]at hc;obtain⟨i,z,hinf,hsz,_⟩:=hte.info;have hce:P.cellsOf te=e.size:=by simp[Program.cellsOf,hinf,hsz]
  rw[run_equalIn_array w d _ _ hu hinf,hce];have key:∀ (m k:Nat),k+m=n->(Op.eqItems d te e.size cs.toArray ds.toArray (List.range' k m)).run P w= .ok (eqb (.arr m e) (jC k x) (jC k y)) w:=by
   intro m
   induction m with
   |zero=>
    intro k hk;simp only[List.range'_zero,Op.eqItems,zv]
    congr 1
    refine (zbx.2 ?_).symm;rw[jY (by omega),jY (by omega)]
   |succ m ihm=>
    intro k hk;have hkx:k < zg x:=by omega
    have hky:k < zg y:=by omega
    have nx:=hx.nth (fun x c=>RepC.len e x c) (zU hkx);have ny:=hy.nth (fun x c=>RepC.len e x c) (zU hky);obtain⟨u1,p1,q1⟩:=hte.part nx;obtain⟨v1,p2,q2⟩:=hte.part ny;have he:=(ih d (by simp[Ty.depth]at hd;omega)).1 _ _ _ _ _ hte hc q1 q2;rw[List.range'_succ];simp only[Op.eqItems,zC,p1,p2,he,zA];have dx:jC k x=(x[k]'hkx)::jC (k+1) x:=yr hkx;have dy:jC k y=(y[k]'hky)::jC (k+1) y:=yr hky;cases hb:eqb e (x[k]'hkx) (y[k]'hky) with
    |true=>
     simp only[jL,yw,if_false,ihm (k+1) (by omega)]
     congr 1
     refine zfD ?_;rw[zbx,dx,dy,zbx.1 hb];constructor
     ·intro h;rw[h]
     ·intro h;exact (v8 h).2
    |false=>
     simp only[vL,if_true,zv]
     congr 1
     refine zfD ?_;constructor
     ·intro h;cases h
     ·intro h;rw[dx,dy]at h;rw[(v8 h).1,zeH]at hb;cases hb
  have:=key n 0 (by omega);rw[List.range_eq_range'];exact this
 |_=>intro d hd;exact⟨fun t x y u v hl hc=>absurd hc (by simp[Cmp]),fun fs off x y pre pre' cs ds hl=>absurd hl (by simp[Lay])⟩
end
abbrev Tbl:=List (zn×Ty)
def tget:List (zn×Ty)->zn->Option Ty
 | [],_=>none
 |(s,τ)::r,t=>bif yb s t then some τ else tget r t
def tis (T:Tbl) (t:zn) (τ:Ty):Bool:=
 match tget T t with
 |some σ=>σ.beq τ
 |none=>false
structure TOk (P:zx) (T:Tbl) (Q:List zn):Prop where
 lay:∀ t τ,tget T t=some τ->Lay P τ (.inl t)
 cmp:∀ t,Q.any (yb t)=true->P.eqGuardType P.depth t=false∧∀ τ,tget T t=some τ->Cmp P τ (.inl t)=true∧τ.depth≤10000
theorem TOk.is {P:zx} {T:Tbl} {Q:List zn} (h:TOk P T Q) {t:zn} {τ:Ty} (ht:tis T t τ=true):Lay P τ (.inl t):=by
 unfold tis at ht;split at ht
 ·rename_i σ hσ;rw[<-Ty.beq_eq ht];exact h.lay _ _ hσ
 ·cases ht
theorem ziL {T:Tbl} {t:zn} {τ:Ty} (ht:tis T t τ=true):tget T t=some τ:=by
 unfold tis at ht;split at ht
 ·rename_i σ hσ;rw[hσ,Ty.beq_eq ht]
 ·cases ht
def evI:(k:yC)->Int->V
 | .u8,n=>if encI .u8 (yh n.toNat)=n then ⟨.int .u8,yh n.toNat⟩ else ⟨.lit,.int .u8 n⟩
 | .u16,n=>if encI .u16 (yc 16 n.toNat)=n then ⟨.int .u16,yc 16 n.toNat⟩ else ⟨.lit,.int .u16 n⟩
 | .u32,n=>if encI .u32 (yc 32 n.toNat)=n then ⟨.int .u32,yc 32 n.toNat⟩ else ⟨.lit,.int .u32 n⟩
 | .u64,n=>if encI .u64 (yc 64 n.toNat)=n then ⟨.int .u64,yc 64 n.toNat⟩ else ⟨.lit,.int .u64 n⟩
 | .i8,n=>⟨.int .i8,n⟩
 | .i16,n=>⟨.int .i16,n⟩
 | .i32,n=>⟨.int .i32,n⟩
 | .i64,n=>⟨.int .i64,n⟩
def evC:zh->V
 | .bool b=>⟨.bool,b⟩
 | .int k n=>evI k n
 | .string s=>bif qI s.data.toList.length 1000000 then ⟨.str,s.data.toList⟩ else ⟨.lit,.string s⟩
 |v=>⟨.lit,v⟩
def evO (F:Frame):zE->V
 | .tmp s=>Frame.get F s
 | .const v=>evC v
 | .global g=>⟨.lit,.pointer (some ⟨g,0,none⟩)⟩
 | .func f=>⟨.lit,.func (.func f) #[] #[]⟩
def zaM:V->List Prop×V
 |⟨.cond t,(c,y)⟩=>([c=true],⟨t,y⟩)
 |v=>([],v)
def dat (E:Owns):V->V
 |⟨.obuf _,i⟩=>match Owns.get E i with
  |some (.buf _ t xs)=>⟨.slice t,xs⟩
  |_=>⟨.junk,()⟩
 |v=>v
def impP (c:Bool):List Prop->List Prop
 | []=>[]
 |p::r=>[c=true->allP (p::r)]
def zfM (s t:Ty):Option (PLift (s=t)):=if h:s.beq t=true then some ⟨Ty.beq_eq h⟩ else none
def nilAs:(t:Ty)->V->Option t.T
 | .slice _,⟨.lit,.slice none 0 0⟩=>some []
 |_,_=>none
def zrs:(s t:Ty)->s.T->Option (PLift (s=t))->Option t.T
 |_,_,x,some ⟨rfl⟩=>some x
 |_,_,_,none=>none
def coeA:(s t:Ty)->s.T->Option (PLift (s=t))->Option t.T
 |_,_,x,some ⟨rfl⟩=>some x
 |s,t,x,none=>nilAs t ⟨s,x⟩
def coe (t:Ty) (v:V):Option t.T:=
 match v with
 |⟨s,x⟩=>coeA s t x (zfM s t)
abbrev Res:=Option (List Prop×V)
def pre:List Prop->Option (List Prop×V)->Res
 | [],o=>o
 |a::A,o=>match pre A o with
  |some (p,v)=>some (a::p,v)
  |none=>none
def asI (k:yC) (o:Option (List Prop×IntT k)):Res:=
 match o with
 |some (p,z)=>some (p,⟨.int k,z⟩)
 |none=>none
def asT (t:Ty) (o:Option (List Prop×t.T)):Res:=
 match o with
 |some (p,z)=>some (p,⟨t,z⟩)
 |none=>none
def zpX (o:Option Bool):Res:=
 match o with
 |some b=>some ([],⟨.bool,b⟩)
 |none=>none
def zsk (p:List Prop) (o:Option V):Res:=
 match o with
 |some v=>some (p,v)
 |none=>none
def pickA (cb:Bool):(s t:Ty)->s.T->t.T->Option (PLift (t=s))->Res
 |s,_,x,y,some ⟨rfl⟩=>some ([],⟨s,bif cb then x else y⟩)
 |_,_,_,_,none=>none
def zoz (cb:Bool) (a b:V):Res:=
 match zaM a,zaM b with
 |(p,⟨s,x⟩),(q,⟨t,y⟩)=>pre (impP cb p) (pre (impP (!cb) q) (pickA cb s t x y (zfM t s)))
def pickV (c a b:V):Res:=
 match c with
 |⟨.bool,cb⟩=>zoz cb a b
 |⟨.cond .bool,(k,cb)⟩=>pre [k=true] (zoz cb a b)
 |_=>none
def isCmp:jI->Bool
 | .eql| .neq| .lss| .leq| .gtr| .geq=>true
 |_=>false
def encS:(k:yC)->IntT k->Option Int
 | .u8,x=>some ((qP x:Nat):Int)
 | .u16,x=>some ((yY (w:=16) x:Nat):Int)
 | .u32,x=>some ((yY (w:=32) x:Nat):Int)
 | .u64,x=>some ((yY (w:=64) x:Nat):Int)
 | .i8,x=>some x
 | .i16,x=>some x
 | .i32,x=>some x
 | .i64,x=>some x
theorem zhH (k:yC) (x:IntT k):encS k x=some (encI k x):=by cases k<;>rfl
def numV:V->Option Int
 |⟨.int k,x⟩=>encS k x
 |_=>none
def kEq? (l k:yC):Option (PLift (l=k)):=if h:l=k then some ⟨h⟩ else none
def binI (op:jI):(k l:yC)->IntT k->IntT l->Option (PLift (l=k))->Res
 |k,_,x,y,some ⟨rfl⟩=>if isCmp op then (match encS k x,encS k y with |some a,some b=>zpX (cmpI op a b)|_,_=>none) else asI k (arI op k x y)
 |_,_,_,_,none=>none
noncomputable def binE (op:jI):(t s:Ty)->t.T->s.T->Option (PLift (s=t))->Res
 |t,_,x,y,some ⟨rfl⟩=>match op with
  | .eql=>some ([],⟨.bool,eqb t x y⟩)
  | .neq=>some ([],⟨.bool,!eqb t x y⟩)
  |_=>none
 |_,_,_,_,none=>none
noncomputable def binV (T:Tbl) (Q:List zn) (op:jI) (xt:zn) (a b:V):Res:=
 match a,b with
 |⟨.int k,x⟩,⟨.int l,y⟩=>
  match op with
  | .shl=>match encS l y with
   |some m=>asI k (shI .shl k x m)
   |none=>none
  | .shr=>match encS l y with
   |some m=>asI k (shI .shr k x m)
   |none=>none
  |op=>binI op k l x y (kEq? l k)
 |⟨.str,x⟩,⟨.str,y⟩=>
  match op with
  | .add=>some ([zg x+zg y≤maxLen],⟨.str,(x:List UInt8)++y⟩)
  | .eql=>some ([],⟨.bool,eqb .str x y⟩)
  | .neq=>some ([],⟨.bool,!eqb .str x y⟩)
  | .lss=>some ([],⟨.bool,ku x y⟩)
  | .leq=>some ([],⟨.bool,ku x y||eqb .str x y⟩)
  | .gtr=>some ([],⟨.bool,!(ku x y||eqb .str x y)⟩)
  | .geq=>some ([],⟨.bool,!ku x y⟩)
  |_=>none
 |⟨.bool,x⟩,⟨.bool,y⟩=>
  match op with
  | .eql=>if tis T xt .bool then some ([],⟨.bool,eqb .bool x y⟩) else none
  | .neq=>if tis T xt .bool then some ([],⟨.bool,!eqb .bool x y⟩) else none
  |_=>none
 |⟨t,x⟩,⟨s,y⟩=>if (t.isAgg&&tis T xt t&&Q.any (yb xt))=true then binE op t s x y (zfM s t) else none
def unV (op:UnOp) (a:V):Res:=
 match a with
 |⟨.bool,b⟩=>match op with | .not=>some ([],⟨.bool,!b⟩)|_=>none
 |⟨.int k,x⟩=>asI k (unI op k x)
 |_=>none
def cvV (T:Tbl) (src dst:zn) (a:V):Res:=
 match a,tget T dst with
 |⟨.int k,x⟩,some (.int l)=>if tis T src (.int k) then asI l (cvI k l x) else none
 |⟨.str,x⟩,some .str=>if tis T src .str then some ([],⟨.str,x⟩) else none
 |⟨.str,x⟩,some (.slice (.int .u8))=>if tis T src .str then some ([],⟨.slice (.int .u8),x⟩) else none
 |⟨.slice (.int .u8),x⟩,some .str=>if tis T src (.slice (.int .u8)) then some ([],⟨.str,x⟩) else none
 |_,_=>none
def zpi (T:Tbl) (xt:zn) (a i:V):Res:=
 match a,numV i with
 |⟨.arr n t,xs⟩,some i=>if tis T xt (.arr n t) then some ([0≤i,i < n],⟨t,qD xs i.toNat (za8 t)⟩) else none
 |⟨.str,l⟩,some i=>if tis T xt .str then some ([0≤i,i < (zg l:Nat)],⟨.int .u8,qD l i.toNat 0⟩) else none
 |_,_=>none
def zeF (T:Tbl) (E:Owns) (xt:zn) (a i:V):Res:=
 match a,numV i with
 |⟨.slice t,xs⟩,some i=>if tis T xt (.slice t) then some ([0≤i,i < (zg xs:Nat)],⟨.vptr t,qD xs i.toNat (za8 t)⟩) else none
 |⟨.vptr (.arr n t),xs⟩,some i=>if tis T xt (.arr n t) then some ([0≤i,i < n],⟨.vptr t,qD xs i.toNat (za8 t)⟩) else none
 |⟨.optr (.arr n t),⟨o,r,p⟩⟩,some i=>if tis T xt (.arr n t) then some ([0≤i,i < n],⟨.optr t,⟨o,r,.idx p i.toNat⟩⟩) else none
 |⟨.obuf _,j⟩,some i=>
  match Owns.get E j with
  |some (.buf _ t xs)=>if tis T xt (.slice t) then some ([0≤i,i < (zg xs:Nat)],⟨.optr t,⟨j,.slice t,.elm i.toNat⟩⟩) else none
  |_=>none
 |_,_=>none
def Path.get:{r t:Ty}->Path r t->r.T->t.T
 |_,_,.here,x=>x
 |_,_,.fst p,x=>(p.get x).1
 |_,_,.snd p,x=>(p.get x).2
 |_,_,.idx (t:=t) p k,x=>qD (p.get x) k (za8 t)
 |_,_,.elm (t:=t) k,x=>qD x k (za8 t)
def Path.vcs:{r t:Ty}->Path r t->r.T->List Prop
 |_,_,.here,_=>[]
 |_,_,.fst p,x=>p.vcs x
 |_,_,.snd p,x=>p.vcs x
 |_,_,.idx (n:=n) p k,x=>p.vcs x++ [k < n]
 |_,_,.elm k,x=>[k < zg x]
def Path.set:{r t:Ty}->Path r t->r.T->t.T->r.T
 |_,_,.here,_,y=>y
 |_,_,.fst p,x,y=>p.set x (y,(p.get x).2)
 |_,_,.snd p,x,y=>p.set x ((p.get x).1,y)
 |_,_,.idx p k,x,y=>p.set x (kD (p.get x) k y)
 |_,_,.elm k,x,y=>kD x k y
def Path.getO:{r t:Ty}->Path r t->r.T->Option t.T
 |_,_,.here,x=>some x
 |_,_,.fst p,x=>match p.getO x with
  |some z=>some z.1
  |none=>none
 |_,_,.snd p,x=>match p.getO x with
  |some z=>some z.2
  |none=>none
 |_,_,.idx (t:=t) p k,x=>match p.getO x with
  |some z=>some (qD z k (za8 t))
  |none=>none
 |_,_,.elm (t:=t) k,x=>some (qD x k (za8 t))
theorem Path.getO_eq:∀ {r t:Ty} (p:Path r t) (x:r.T),p.getO x=some (p.get x):=by
 intro r t p
 induction p with
 |here=>intro x;rfl
 |fst p ih=>intro x;simp only[Path.getO,ih,Path.get]
 |snd p ih=>intro x;simp only[Path.getO,ih,Path.get]
 |idx p k ih=>intro x;simp only[Path.getO,ih,Path.get]
 |elm k=>intro x;rfl
def Path.setO:{r t:Ty}->Path r t->r.T->t.T->Option r.T
 |_,_,.here,_,y=>some y
 |_,_,.fst p,x,y=>match p.getO x with
  |some z=>p.setO x (y,z.2)
  |none=>none
 |_,_,.snd p,x,y=>match p.getO x with
  |some z=>p.setO x (z.1,y)
  |none=>none
 |_,_,.idx p k,x,y=>match p.getO x with
  |some z=>p.setO x (kD z k y)
  |none=>none
 |_,_,.elm k,x,y=>some (kD x k y)
theorem Path.setO_eq:∀ {r t:Ty} (p:Path r t) (x:r.T) (y:t.T),p.setO x y=some (p.set x y):=by
 intro r t p
 induction p with
 |here=>intro x y;rfl
 |fst p ih=>intro x y;simp only[Path.setO,Path.getO_eq,ih,Path.set]
 |snd p ih=>intro x y;simp only[Path.setO,Path.getO_eq,ih,Path.set]
 |idx p k ih=>intro x y;simp only[Path.setO,Path.getO_eq,ih,Path.set]
 |elm k=>intro x y;rfl
def Path.isElm:{r t:Ty}->Path r t->Bool
 |_,_,.here=>false
 |_,_,.fst p=>p.isElm
 |_,_,.snd p=>p.isElm
 |_,_,.idx p _=>p.isElm
 |_,_,.elm _=>true
def Ty.noArr:Ty->Bool
 | .arr _ _=>false
 | .pair a b=>a.noArr&&b.noArr
 |_=>true
def Ty.leafy:Ty->Bool
 | .optr _| .hptr| .vptr _| .clo _ _| .mapL=>true
 | .hcons _ b=>b.leafy
 |t=>t.data&&t.noArr
def zaW:(t:Ty)->t.T->List V
 | .pair a b,x=>zaW a x.1++zaW b x.2
 | .unit,_=>[]
 | .hcons a b,x=>⟨a,x.1⟩::zaW b x.2
 |t,x=>[⟨t,x⟩]
def zhq:zh->Option (List V)
 | .agg cs=>if cs.toList.all qi then some (cs.toList.map evC) else none
 | .tuple _=>none
 |y=>some [⟨.lit,y⟩]
def zhp (E:Owns):V->Option (List V)
 |⟨.lit,y⟩=>zhq y
 |⟨.obuf t,j⟩=>match Owns.get E j with
  |some (.buf _ _ _)=>some [⟨.obuf t,j⟩]
  |_=>none
 |⟨t,x⟩=>if t.leafy=true then some (zaW t x) else none
def unD:(t:Ty)->List V->Option (t.T×List V)
 | .pair a b,vs=>match unD a vs with
  |some (x,r)=>match unD b r with
   |some (y,r')=>some ((x,y),r')
   |none=>none
  |none=>none
 | .unit,vs=>some ((),vs)
 | .arr _ _,_=>none
 |t,v::r=>match coe t v with
  |some x=>some (x,r)
  |none=>none
 |_,[]=>none
def putH (E:Owns) (size k:Nat) (vs:List V) (v:V):Option (List V):=
 match zhp E v with
 |some ls=>if yb ls.length size&&qI (k+size) vs.length then some (vs.take k++ls++vs.drop (k+size)) else none
 |none=>none
def OObj.v:OObj->V
 | .box t x=>⟨t,x⟩
 | .buf _ t xs=>⟨.slice t,xs⟩
 | .hbox _ _=>⟨.junk,()⟩
def zqv (r:Ty) (o:OObj):Option r.T:=
 match o.v with
 |⟨s,x⟩=>zrs s r x (zfM s r)
def zkc (T:Tbl) (E:Owns) (t:zn) (a:V):Res:=
 match a with
 |⟨.vptr τ,x⟩=>if tis T t τ then some ([],⟨τ,x⟩) else none
 |⟨.cptr _ _ τ,x⟩=>if tis T t τ then some ([],⟨τ,x⟩) else none
 |⟨.optr τ,⟨i,r,p⟩⟩=>
  match Owns.get E i with
  |some o=>if tis T t τ&&(Path.isElm p==o.isBuf) then (match zqv r o with |some y=>(match Path.getO p y with |some z=>some (Path.vcs p y,⟨τ,z⟩)|none=>none)|none=>none) else none
  |none=>none
 |⟨.hptr,(i,k)⟩=>
  match Owns.get E i with
  |some (.hbox _ vs)=>match tget T t with
   |some τ=>if τ.isAgg=true then (match unD τ (vs.drop k) with |some (x,_)=>some ([],⟨τ,x⟩)|none=>none) else (match vs.drop k with |v::_=>if yb τ.size 1 then some ([],⟨v.t,v.x⟩) else none| []=>none)
   |none=>none
  |_=>none
 |_=>none
def zlm (T:Tbl) (xt:zn) (a:V) (n:Nat):Res:=
 if tis T xt a.t then zsk [] (zhE n a.t a.x) else none
def zky:Nat->(r τ:Ty)->Path r τ->Option ((t:Ty)×Path r t)
 |0,_,.pair a _,p=>some ⟨a,.fst p⟩
 |n+1,r,.pair _ b,p=>zky n r b (.snd p)
 |_,_,_,_=>none
def zeG (T:Tbl) (s:zn) (a:V) (n:Nat):Res:=
 match a with
 |⟨.vptr τ,x⟩=>if tis T s τ then (match zhE n τ x with |some v=>if zW 0 v.t.size then some ([],⟨.vptr v.t,v.x⟩) else none|none=>none) else none
 |⟨.cptr _ _ τ,x⟩=>if tis T s τ then (match zhE n τ x with |some v=>if zW 0 v.t.size then some ([],⟨.vptr v.t,v.x⟩) else none|none=>none) else none
 |⟨.optr τ,⟨i,r,p⟩⟩=>if tis T s τ then (match zky n r τ p with |some ⟨t,q⟩=>if zW 0 t.size then some ([],⟨.optr t,⟨i,r,q⟩⟩) else none|none=>none) else none
 |⟨.hptr,(i,k)⟩=>match tget T s with
  |some τ=>(match zky n τ τ .here with |some ⟨t,q⟩=>if zW 0 t.size then some ([],⟨.hptr,(i,k+q.off)⟩) else none|none=>none)
  |none=>none
 |_=>none
def tupV:Nat->(t:Ty)->t.T->Option V
 |0,.tup a _,x=>some ⟨a,x.1⟩
 |n+1,.tup _ b,x=>tupV n b x.2
 |_,_,_=>none
def lenV (T:Tbl) (xt:zn) (a:V):Res:=
 match a with
 |⟨.str,l⟩=>if tis T xt .str then some ([],⟨.int .i64,((zg l:Nat):Int)⟩) else none
 |⟨.slice t,l⟩=>if tis T xt (.slice t) then some ([],⟨.int .i64,((zg l:Nat):Int)⟩) else none
 |⟨.arr n t,_⟩=>if tis T xt (.arr n t) then some ([],⟨.int .i64,((n:Nat):Int)⟩) else none
 |_=>none
def cutL {α:Type} (xs:List α):Option V->Option V->Option (List Prop×List α)
 |none,none=>some ([],xs)
 |some v,none=>match numV v with
  |some i=>some ([0≤i,i≤(xs.length:Nat)],xs.drop i.toNat)
  |none=>none
 |none,some v=>match numV v with
  |some j=>some ([0≤j,j≤(xs.length:Nat)],xs.take j.toNat)
  |none=>none
 |some v,some u=>match numV v,numV u with
  |some i,some j=>some ([0≤i,i≤j,j≤(xs.length:Nat)],(xs.take j.toNat).drop i.toNat)
  |_,_=>none
def znX (T:Tbl) (xt:zn) (a:V) (lo hi:Option V):Res:=
 match a with
 |⟨.str,l⟩=>if tis T xt .str then asT .str (cutL l lo hi) else none
 |⟨.slice t,xs⟩=>if tis T xt (.slice t) then asT (.slice t) (cutL xs lo hi) else none
 |⟨.vptr (.arr n t),xs⟩=>if tis T xt (.arr n t)&&qI n 1000000000 then asT (.slice t) (cutL xs lo hi) else none
 |_=>none
def optP (F:Frame):Option zE->List Prop
 |none=>[]
 |some y=>(zaM (evO F y)).1
def zfi:Nat->(t:Ty)->t.T->V->Option t.T
 |0,.pair a _,x,v=>match coe a v with |some y=>some (y,x.2)|none=>none
 |n+1,.pair _ b,x,v=>match zfi n b x.2 v with |some y=>some (x.1,y)|none=>none
 |_,_,_,_=>none
def ziT (t:Ty):t.T->List (Nat×V)->Option t.T
 |x,[]=>some x
 |x,(i,v)::r=>(zfi i t x v).bind fun y=>ziT t y r
def zfj (t:Ty):List t.T->List (Nat×V)->Option (List t.T)
 |xs,[]=>some xs
 |xs,(i,v)::r=>if zW i xs.length then (coe t v).bind fun y=>zfj t (xs.set i y) r else none
def zec:List (Nat×V)->List Prop×List (Nat×V)
 | []=>([],[])
 |(i,v)::r=>((zaM v).1++(zec r).1,(i,(zaM v).2)::(zec r).2)
def zpR (T:Tbl) (t:zn) (parts:List (Nat×V)):Res:=
 match tget T t with
 |some (.pair a b)=>(match ziT (.pair a b) (za8 (.pair a b)) (zec parts).2 with |some x=>some ((zec parts).1,⟨.pair a b,x⟩)|none=>none)
 |some (.arr n e)=>(match zfj e (zu n (za8 e)) (zec parts).2 with |some x=>some ((zec parts).1,⟨.arr n e,x⟩)|none=>none)
 |_=>none
def zcr (T:Tbl) (t:zn) (len:Nat) (parts:List (Nat×V)):Option (List Prop×(t:Ty)×List t.T):=
 match tget T t with
 |some (.slice e)=>if qI (len * e.size) 16777216&&zW 0 e.size then (match zfj e (zu len (za8 e)) (zec parts).2 with |some x=>some ((zec parts).1,⟨e,x⟩)|none=>none) else none
 |_=>none
def minV (op:Builtin):List V->Res
 | [⟨.int .i64,x⟩,⟨.int .i64,y⟩]=>match op with
  | .min=>some ([],⟨.int .i64,min (x:Int) y⟩)
  | .max=>some ([],⟨.int .i64,max (x:Int) y⟩)
  |_=>none
 |_=>none
def cloV:List V->Option ((t:Ty)×t.T)
 | []=>some ⟨.unit,()⟩
 |⟨.vptr a,x⟩::r=>match cloV r with
  |some ⟨t,y⟩=>some ⟨.tup (.vptr a) t,(x,y)⟩
  |none=>none
 |_::_=>none
noncomputable def pOp (T:Tbl) (Q:List zn) (E:Owns) (F:Frame):Op->Res
 | .move x=>match evO F x with
  |⟨t,y⟩=>some ([],⟨t,y⟩)
 | .assign x=>match evO F x with
  |⟨t,y⟩=>some ([],⟨t,y⟩)
 | .pick c a b=>pickV (evO F c) (evO F a) (evO F b)
 | .binOp op xt x y _=>pre ((zaM (evO F x)).1++(zaM (evO F y)).1) (binV T Q op xt (zaM (evO F x)).2 (zaM (evO F y)).2)
 | .unOp op _ x=>pre ((zaM (evO F x)).1) (unV op (zaM (evO F x)).2)
 | .convert s d x=>pre ((zaM (evO F x)).1) (cvV T s d (dat E (zaM (evO F x)).2))
 | .index xt x i=>pre ((zaM (evO F x)).1++(zaM (evO F i)).1) (zpi T xt (zaM (evO F x)).2 (zaM (evO F i)).2)
 | .indexAddr xt x i=>pre ((zaM (evO F x)).1++(zaM (evO F i)).1) (zeF T E xt (zaM (evO F x)).2 (zaM (evO F i)).2)
 | .load t x=>pre ((zaM (evO F x)).1) (zkc T E t (zaM (evO F x)).2)
 | .field xt x n=>pre ((zaM (evO F x)).1) (zlm T xt (zaM (evO F x)).2 n)
 | .fieldAddr s x n=>pre ((zaM (evO F x)).1) (zeG T s (zaM (evO F x)).2 n)
 | .extract x n=>match zaM (evO F x) with
  |(p,v)=>zsk p (tupV n v.t v.x)
 | .slice xt x lo hi none=>pre ((zaM (evO F x)).1++(optP F lo++optP F hi)) (znX T xt (zaM (evO F x)).2 (lo.map fun y=>(zaM (evO F y)).2) (hi.map fun y=>(zaM (evO F y)).2))
 | .build t parts=>zpR T t (parts.toList.map fun p=>(p.1,evO F p.2))
 | .buildSlice t len parts=>match zcr T t len (parts.toList.map fun p=>(p.1,evO F p.2)) with
  |some (p,⟨e,xs⟩)=>some (p,⟨.slice e,xs⟩)
  |none=>none
 | .makeFunc (.func f) first caps=>match first.toList,cloV (caps.toList.map (evO F)) with
  | [],some ⟨t,x⟩=>some ([],⟨.clo f t,x⟩)
  |_,_=>none
 | .nilCheck x=>match zaM (evO F x) with
  |(p,⟨.vptr t,y⟩)=>some (p,⟨.vptr t,y⟩)
  |(p,⟨.optr t,y⟩)=>some (p,⟨.optr t,y⟩)
  |(p,⟨.hptr,y⟩)=>some (p,⟨.hptr,y⟩)
  |_=>none
 | .call c=>match c.callee with
  | .builtin .len=>match c.args.toList,c.argTypes.toList with
   | [x],[t]=>pre ((zaM (evO F x)).1) (lenV T t (dat E (zaM (evO F x)).2))
   |_,_=>none
  | .builtin .min=>pre ((c.args.toList.map fun x=>(zaM (evO F x)).1).flatten) (minV .min (c.args.toList.map fun x=>(zaM (evO F x)).2))
  | .builtin .max=>pre ((c.args.toList.map fun x=>(zaM (evO F x)).1).flatten) (minV .max (c.args.toList.map fun x=>(zaM (evO F x)).2))
  |_=>none
 |_=>none
def Yields (P:zx) (s:Sem zh) (w:zj) (O:Nat->Prop) (β:Nat->zh) (r:V):Prop:=
 ∃ u w',s.run P w= .ok u w'∧yV w.heap.size w w'∧RepV w' O β r.t r.x u
section
variable {P:zx} {w:zj} {O O':Nat->Prop} {β:Nat->zh} {T:Tbl} {Q:List zn} {E:Owns} {F:Frame} {B:Nat} {a:Act}
theorem Yields.still {s:Sem zh} {r:V} {u:zh} (h:s.run P w= .ok u w) (hr:RepV w O β r.t r.x u):Yields P s w O β r:=⟨u,w,h,zV _ _,hr⟩
theorem zbG {t:Ty} (ht:t.data=true) {x:t.T} {u:zh}:RepV w O β t x u↔RepD w O t x u:=by
 cases t<;>first|exact Iff.rfl|cases ht
theorem zlo (v:zh):RepV w O β (evC v).t (evC v).x v:=by
 cases v with
 |bool b=>exact rfl
 |int k n=>
  have key:∀ (k:yC) (x:IntT k),RepV w O β (if encI k x=n then (⟨.int k,x⟩:V) else ⟨.lit,.int k n⟩).t (if encI k x=n then (⟨.int k,x⟩:V) else ⟨.lit,.int k n⟩).x (.int k n):=by
   intro k x;by_cases h:encI k x=n
   ·rw[show (if encI k x=n then (⟨.int k,x⟩:V) else ⟨.lit,.int k n⟩)=⟨.int k,x⟩ from if_pos h];show [yF k n]=[yF k (encI k x)];rw[h]
   ·rw[show (if encI k x=n then (⟨.int k,x⟩:V) else ⟨.lit,.int k n⟩)=⟨.lit,.int k n⟩ from if_neg h];exact rfl
  cases k with
  |u8=>exact key .u8 _
  |u16=>exact key .u16 _
  |u32=>exact key .u32 _
  |u64=>exact key .u64 _
  |i8=>exact (rfl: [yF .i8 n]=[yF .i8 n])
  |i16=>exact (rfl: [yF .i16 n]=[yF .i16 n])
  |i32=>exact (rfl: [yF .i32 n]=[yF .i32 n])
  |i64=>exact (rfl: [yF .i64 n]=[yF .i64 n])
 |string s=>
  simp only[evC];cases h:qI s.data.toList.length 1000000 with
  |true=>
   have:=Nat.le_of_ble_eq_true h;exact⟨by simp,zH this (by simp[maxLen])⟩
  |false=>exact rfl
 |_=>exact rfl
theorem zpz {x:zE} (hx:∀ s,x= .tmp s->RepV w O β (Frame.get F s).t (Frame.get F s).x (a.tmps.getD s undef)):RepV w O β (evO F x).t (evO F x).x (a.eval x):=by
 cases x with
 |tmp s=>exact hx s rfl
 |global g=>exact rfl
 |func f=>exact rfl
 |const v=>exact zlo v
theorem za7 {v:V} {u:zh} (h:RepV w O β v.t v.x u) (hp:allP (zaM v).1):RepV w O β (zaM v).2.t (zaM v).2.x u:=by
 obtain⟨t,x⟩:=v;cases t<;>first|exact h|exact h.1 hp
theorem zls (hown:∀ i o,Owns.get E i=some o->OwnRep w O β B (β i) o) {v:V} {u:zh} (h:RepV w O β v.t v.x u):RepV w (fun _=>False) β (dat E v).t (dat E v).x u:=by
 have hk:Keeps w w O (fun _=>False):=⟨zl _,fun _ _ _=>rfl,fun _ _ h=>h.elim⟩;obtain⟨t,x⟩:=v;cases t with
 |obuf t=>
  have h':u=β x:=h;subst h';cases he:Owns.get E x with
  |none=>
   have e:dat E ⟨.obuf t,x⟩=⟨.junk,()⟩:=by simp only[dat,he]
   rw[e];trivial
  |some o=>
   cases o with
   |box t' x'=>
    have e:dat E ⟨.obuf t,x⟩=⟨.junk,()⟩:=by simp only[dat,he]
    rw[e];trivial
   |hbox ty vs=>
    have e:dat E ⟨.obuf t,x⟩=⟨.junk,()⟩:=by simp only[dat,he]
    rw[e];trivial
   |buf te t' xs=>
    have e:dat E ⟨.obuf t,x⟩=⟨.slice t',xs⟩:=by simp only[dat,he]
    rw[e];exact (hown x _ he).view (fun _ _ h=>h.elim) (fun _ _ h=>h.elim)
 |_=>exact RepV.keep hk _ _ _ h
theorem RepV.bool {b:Bool} {u:zh} (h:RepV w O β .bool b u):u= .bool b:=by
 have h': [u]=[uR b]:=h
 simpa using h'
theorem RepV.int {k:yC} {x:IntT k} {u:zh} (h:RepV w O β (.int k) x u):u= .int k (encI k x):=by
 have h': [u]=[yF k (encI k x)]:=h
 simpa using h'
theorem RepV.str {l:List UInt8} {u:zh} (h:RepV w O β .str l u):u= .string ⟨l.toArray⟩∧l.length≤maxLen:=by
 have h': [u]=[jg ⟨l.toArray⟩]∧l.length≤maxLen:=h;exact⟨by simpa using h'.1,h'.2⟩
theorem RepV.ofBool {b:Bool}:RepV w O β .bool b (.bool b):=(rfl: [uR b]=[uR b])
theorem RepV.ofInt {k:yC} {x:IntT k}:RepV w O β (.int k) x (.int k (encI k x)):=(rfl: [yF k (encI k x)]=[yF k (encI k x)])
theorem RepV.ofStr {l:List UInt8} (h:l.length≤maxLen):RepV w O β .str l (.string ⟨l.toArray⟩):=(⟨rfl,h⟩: [jg ⟨l.toArray⟩]=[jg ⟨l.toArray⟩]∧l.length≤maxLen)
theorem ziF {s t:Ty} {x:s.T} {e:Option (PLift (s=t))} {y:t.T} (h:zrs s t x e=some y):(⟨s,x⟩:V)=⟨t,y⟩:=by
 cases e with
 |none=>cases h
 |some e=>obtain⟨e⟩:=e;subst e;cases h;rfl
theorem zne {t:Ty} {v:V} {y:t.T} (h:nilAs t v=some y):v=⟨.lit,.slice none 0 0⟩∧∃ τ,(⟨t,y⟩:V)=⟨.slice τ,[]⟩:=by
 obtain⟨s,x⟩:=v;cases t<;>first|(cases h;done)|skip
 rename_i τ;cases s<;>first|(cases h;done)|skip
 cases x<;>first|(cases h;done)|skip
 rename_i A m c;cases A<;>first|(cases h;done)|skip
 cases m<;>first|(cases h;done)|skip
 cases c<;>first|(cases h;done)|skip
 cases h;exact⟨rfl,τ,rfl⟩
theorem zeI {t:Ty} {v:V} {y:t.T} (h:coe t v=some y):v=⟨t,y⟩∨(v=⟨.lit,.slice none 0 0⟩∧∃ τ,(⟨t,y⟩:V)=⟨.slice τ,[]⟩):=by
 obtain⟨s,x⟩:=v;simp only[coe]at h;generalize zfM s t=e at h;cases e with
 |some e=>
  obtain⟨e⟩:=e;subst e;cases h;exact .inl rfl
 |none=>
  refine .inr ?_;exact zne h
theorem zf6 {t:Ty} (ht:t.data=true) {v:V} {y:t.T} (h:coe t v=some y) {u:zh} (hr:RepV w O β v.t v.x u):RepD w O t y u:=by
 rcases zeI h with rfl|⟨rfl,τ,he⟩
 ·exact (zbG ht).1 hr
 ·cases he;have:u= .slice none 0 0:=hr;subst this;exact (RepD.scalar rfl).2 ⟨_,rfl,.inl ⟨rfl,none,0,rfl,by simp⟩⟩
theorem zbn {A:List Prop} {o:Option (List Prop×V)} {r:List Prop×V} (h:pre A o=some r):∃ q,o=some q∧(A++q.1,q.2)=r:=by
 induction A generalizing r with
 |nil=>exact⟨r,h,rfl⟩
 |cons a A ih=>
  simp only[pre]at h;split at h<;>first|(cases h;done)|skip
  rename_i p v hp;cases h;obtain⟨q,h1,h2⟩:=ih hp;cases h2;exact⟨q,h1,rfl⟩
theorem zfJ {k:yC} {o:Option (List Prop×IntT k)} {r:List Prop×V} (h:asI k o=some r):∃ q,o=some q∧(q.1,(⟨.int k,q.2⟩:V))=r:=by
 cases o with
 |none=>cases h
 |some q=>obtain⟨p,v⟩:=q;cases h;exact⟨(p,v),rfl,rfl⟩
theorem zjw {t:Ty} {o:Option (List Prop×t.T)} {r:List Prop×V} (h:asT t o=some r):∃ q,o=some q∧(q.1,(⟨t,q.2⟩:V))=r:=by
 cases o with
 |none=>cases h
 |some q=>obtain⟨p,v⟩:=q;cases h;exact⟨(p,v),rfl,rfl⟩
theorem zkM {o:Option Bool} {r:List Prop×V} (h:zpX o=some r):∃ b,o=some b∧(([]:List Prop),(⟨.bool,b⟩:V))=r:=by
 cases o with
 |none=>cases h
 |some b=>cases h;exact⟨b,rfl,rfl⟩
theorem zif {p:List Prop} {o:Option V} {r:List Prop×V} (h:zsk p o=some r):∃ v,o=some v∧(p,v)=r:=by
 cases o with
 |none=>cases h
 |some b=>cases h;exact⟨b,rfl,rfl⟩
theorem zcD {v:V} {i:Int} (h:numV v=some i) {u:zh} (hr:RepV w O β v.t v.x u):∃ k,u= .int k i:=by
 obtain⟨t,x⟩:=v;cases t<;>simp only[numV,reduceCtorEq]at h;rw[zhH]at h;cases h;exact⟨_,RepV.int hr⟩
theorem zhQ {c:Bool} {l:List Prop} (h:allP (impP c l)) (hc:c=true):allP l:=by
 cases l with
 |nil=>trivial
 |cons p r=>exact h hc
theorem zj4 {cb:Bool} {va vb:V} {r:List Prop×V} (h:zoz cb va vb=some r) (hp:allP r.1) {ua ub:zh}
  (ha:RepV w O β va.t va.x ua) (hb:RepV w O β vb.t vb.x ub):RepV w O β r.2.t r.2.x (if cb then ua else ub):=by
 unfold zoz at h;have h1:∀ p a',zaM va=(p,a')->allP (impP cb p)->(cb=true->RepV w O β a'.t a'.x ua):=fun p a' he hi hcb=>by
  have:=za7 ha (by rw[he];exact zhQ hi hcb);rwa[he]at this
 have h2:∀ p b',zaM vb=(p,b')->allP (impP (!cb) p)->(cb=false->RepV w O β b'.t b'.x ub):=fun p b' he hi hcb=>by
  have:=za7 hb (by rw[he];exact zhQ hi (by simp[hcb]));rwa[he]at this
 generalize hx:zaM va=sa at h;generalize hy:zaM vb=sb at h;obtain⟨p,s,x⟩:=sa;obtain⟨q,t,y⟩:=sb;obtain⟨r1,g1,rfl⟩:=zbn h;obtain⟨r2,g2,rfl⟩:=zbn g1;simp only[zax]at hp;generalize zfM t s=e at g2;cases e with
 |none=>cases g2
 |some e=>
  obtain⟨e⟩:=e;subst e;cases g2;cases hcb:cb with
  |true=>exact h1 _ _ hx hp.1 hcb
  |false=>exact h2 _ _ hy hp.2.1 hcb
theorem zoy {c va vb:V} {r:List Prop×V} (h:pickV c va vb=some r) (hp:allP r.1) {uc ua ub:zh} (hc:RepV w O β c.t c.x uc)
  (ha:RepV w O β va.t va.x ua) (hb:RepV w O β vb.t vb.x ub):
  ∃ b:Bool,uc= .bool b∧RepV w O β r.2.t r.2.x (if b then ua else ub):=by
 obtain⟨tc,cb⟩:=c;cases tc with
 |bool=>exact⟨cb,RepV.bool hc,zj4 h hp ha hb⟩
 |cond t=>
  cases t with
  |bool=>
   obtain⟨k,cb⟩:=cb;obtain⟨r1,g1,rfl⟩:=zbn (A:=[k=true]) (o:=zoz cb va vb) h;simp only[zax]at hp;exact⟨cb,RepV.bool (hc.1 hp.1),zj4 g1 hp.2 ha hb⟩
  |_=>cases h
 |_=>cases h
theorem zjn {op:jI} {t:zn} {x y:zE} {u v:zh} (h1:∀ cs,u≠ .agg cs) (h2:u≠ .nilIface):(eqGuard op t x y u v).run P w= .ok () w:=by
 unfold eqGuard;cases op<;>simp only[vL,jL,if_true,yw,if_false]<;>first
  |rfl
  |(cases u<;>first|rfl|exact absurd rfl (h1 _)|exact absurd rfl h2)
theorem zbv {op:jI} {t:zn} {x y:zE} {u v z:zh} (h1:∀ cs,u≠ .agg cs) (h2:u≠ .nilIface) (h:(yQ op t u v).run P w= .ok z w):
  (do eqGuard op t x y u v;yQ op t u v:Sem zh).run P w= .ok z w:=by
 rw[zC,zjn h1 h2];exact h
theorem zet (x y:List UInt8):((⟨x.toArray⟩:ByteArray).toList==(⟨y.toArray⟩:ByteArray).toList)=eqb .str x y:=by
 rw[xD,xD];exact zfD (t:=.str) (by simp)
theorem zdB (x:List UInt8):(⟨x.toArray⟩:ByteArray).toList=x:=by rw[xD]
theorem zlz (hT:TOk P T Q) {op:jI} {xt:zn} {x y:zE} {va vb:V} {r:List Prop×V} (h:binV T Q op xt va vb=some r) (hp:allP r.1) {ua ub:zh}
  (ha:RepV w O β va.t va.x ua) (hb:RepV w O β vb.t vb.x ub):Yields P (do eqGuard op xt x y ua ub;yQ op xt ua ub) w O β r.2:=by
 have agg:∀ (t s:Ty) (xa:t.T) (xb:s.T),RepV w O β t xa ua->RepV w O β s xb ub->(h0:(t.isAgg&&tis T xt t&&Q.any (yb xt))=true)->
   ∀ (he:s=t),(op= .eql->Yields P (do eqGuard op xt x y ua ub;yQ op xt ua ub) w O β ⟨.bool,eqb t xa (he▸xb)⟩)∧
    (op= .neq->Yields P (do eqGuard op xt x y ua ub;yQ op xt ua ub) w O β ⟨.bool,!eqb t xa (he▸xb)⟩):=by
  intro t s xa xb ha hb h0 he;subst he;simp only[zf]at h0;obtain⟨⟨h1,h3⟩,h4⟩:=h0;have hl:=hT.is h3;obtain⟨hg,hc⟩:=hT.cmp _ h4;obtain⟨hc,hd⟩:=hc _ (ziL h3);have ha':=(zbG hl.data).1 ha;have hb':=(zbG hl.data).1 hb;have hrun:=((zlp (P:=P) (w:=w) (O:=O) (O':=O) s 10000 hd).1 xt xa xb ua ub hl hc ha' hb');obtain⟨cs,rfl,_⟩:=(RepD.agg h1).1 ha';obtain⟨ds,rfl,_⟩:=(RepD.agg h1).1 hb';constructor
  ·rintro rfl;refine .still (u:=.bool (eqb s xa xb)) ?_ RepV.ofBool;rw[zC,run_eqGuard_agg _ _ _ _ _ _ _ hg,zA];simp only[yQ,uf,kE,zC,hrun,zA,zv]
  ·rintro rfl;refine .still (u:=.bool (!eqb s xa xb)) ?_ RepV.ofBool;rw[zC,run_eqGuard_agg _ _ _ _ _ _ _ hg,zA];simp only[yQ,uf,kE,zC,hrun,zA,zv]
 obtain⟨ta,xa⟩:=va;obtain⟨tb,xb⟩:=vb;unfold binV at h;split at h
 ·rename_i k xa l xb hxa hxb;obtain⟨rfl,hxa⟩:=V.mk.inj hxa;obtain⟨rfl,hxb⟩:=V.mk.inj hxb;cases hxa;cases hxb;have eu:=RepV.int ha;have ev:=RepV.int hb;subst eu;subst ev;split at h
  ·rw[zhH]at h;obtain⟨q,h1,rfl⟩:=zfJ h;exact .still (zbv (by simp) (by simp) (znZ (vc:=q.1) (z:=q.2) h1 hp)) RepV.ofInt
  ·rw[zhH]at h;obtain⟨q,h1,rfl⟩:=zfJ h;exact .still (zbv (by simp) (by simp) (znZ (vc:=q.1) (z:=q.2) h1 hp)) RepV.ofInt
  ·generalize kEq? l k=e at h;cases e with
   |none=>cases h
   |some e=>
    obtain⟨e⟩:=e;subst e;simp only[binI]at h;split at h
    ·rw[zhH,zhH]at h;obtain⟨q,h1,rfl⟩:=zkM h;exact .still (zbv (by simp) (by simp) (zro h1)) RepV.ofBool
    ·obtain⟨q,h1,rfl⟩:=zfJ h;exact .still (zbv (by simp) (by simp) (zt4 (vc:=q.1) (z:=q.2) h1 hp)) RepV.ofInt
 ·rename_i xa xb hxa hxb;obtain⟨rfl,hxa⟩:=V.mk.inj hxa;obtain⟨rfl,hxb⟩:=V.mk.inj hxb;cases hxa;cases hxb;obtain⟨eu,_⟩:=RepV.str ha;obtain⟨ev,_⟩:=RepV.str hb;subst eu;subst ev;split at h<;>first|(cases h;done)|(cases h)
  ·have hp':zg xa+zg xb≤maxLen:=hp;refine .still (zbv (by simp) (by simp) (?_:_=Result.ok (.string ⟨(xa++xb:List UInt8).toArray⟩) w)) (RepV.ofStr (by simpa using hp'));have hs:∀ l:List UInt8,(⟨l.toArray⟩:ByteArray).size=l.length:=fun l=>by simp[qG]
   have:¬ (((zg xa+zg xb:Nat):Int) > uI.max):=by
    simp only[maxLen,vk,xV,y7]at *;simp;omega
   simp only[yQ,jW,hs,this,if_false,zv]
   congr 2
  ·exact .still (zbv (by simp) (by simp) (by simp only[yQ,jW,zet,zv])) RepV.ofBool
  ·exact .still (zbv (by simp) (by simp) (by simp only[yQ,jW,zet,zv])) RepV.ofBool
  ·exact .still (zbv (by simp) (by simp) (by simp only[yQ,jW,zdB,zv])) RepV.ofBool
  ·exact .still (zbv (by simp) (by simp) (by simp only[yQ,jW,zet,zv];simp only[zdB])) RepV.ofBool
  ·exact .still (zbv (by simp) (by simp) (by simp only[yQ,jW,zet,zv];simp only[zdB])) RepV.ofBool
  ·exact .still (zbv (by simp) (by simp) (by simp only[yQ,jW,zdB,zv])) RepV.ofBool
 ·rename_i xa xb hxa hxb;obtain⟨rfl,hxa⟩:=V.mk.inj hxa;obtain⟨rfl,hxb⟩:=V.mk.inj hxb;cases hxa;cases hxb;have eu:=RepV.bool ha;have ev:=RepV.bool hb;subst eu;subst ev;have hq:tis T xt .bool=true->(uf xt (.bool xa) (.bool xb)).run P w= .ok (eqb .bool xa xb) w:=fun ht=>by
   have:=run_equalIn_bool' w 9999 xt xa xb (hT.is ht).1;simp only[uf,kE];rw[this]
   congr 1
   exact zfD (t:=.bool) (by simp)
  split at h
  ·split at h
   ·rename_i ht;cases h;refine .still (zbv (by simp) (by simp) ?_) RepV.ofBool;simp only[yQ,zC,hq ht,zA,zv]
   ·cases h
  ·split at h
   ·rename_i ht;cases h;refine .still (zbv (by simp) (by simp) ?_) RepV.ofBool;simp only[yQ,zC,hq ht,zA,zv]
   ·cases h
  ·cases h
 ·rename_i t xa s xb hn1 hn2 hn3 hxa hxb;obtain⟨rfl,hxa⟩:=V.mk.inj hxa;obtain⟨rfl,hxb⟩:=V.mk.inj hxb;cases hxa;cases hxb;split at h
  ·rename_i h0;generalize zfM tb ta=e at h;cases e with
   |none=>cases h
   |some e=>
    obtain⟨e⟩:=e;subst e;have:=agg _ _ _ _ ha hb h0 rfl;simp only[binE]at h;split at h
    ·cases h;exact this.1 rfl
    ·cases h;exact this.2 rfl
    ·cases h
  ·cases h
theorem zmK {op:UnOp} {va:V} {r:List Prop×V} (h:unV op va=some r) (hp:allP r.1) {ua:zh} (ha:RepV w O β va.t va.x ua):Yields P (ue op ua) w O β r.2:=by
 obtain⟨ta,xa⟩:=va;cases ta<;>simp only[unV,reduceCtorEq]at h
 ·have:=RepV.bool ha;subst this;cases op<;>simp only[reduceCtorEq]at h;cases h;exact .still rfl RepV.ofBool
 ·have:=RepV.int ha;subst this;obtain⟨q,h1,rfl⟩:=zfJ h;exact .still (zsm (vc:=q.1) (z:=q.2) h1 hp) RepV.ofInt
end
section
variable {P:zx} {w:zj} {O O':Nat->Prop} {β:Nat->zh} {T:Tbl} {Q:List zn} {E:Owns} {F:Frame} {B:Nat} {a:Act}
theorem Keeps.of_false:Keeps w w O (fun _=>False):=⟨zl _,fun _ _ _=>rfl,fun _ _ h=>h.elim⟩
theorem zfU {xs:List UInt8} {vs:List zh} (h:RepL (RepC w O (.int .u8)) xs vs):vs=xs.map fun b=>.int .u8 (b.toNat:Int):=by
 induction xs generalizing vs with
 |nil=>cases h;rfl
 |cons x xs ih=>
  obtain⟨c1,c2,rfl,h2,h3⟩:=h;rw[ih h3];cases h2;rfl
theorem zgk (xs:List UInt8):RepL (RepC w O (.int .u8)) xs (xs.map fun b=>.int .u8 (b.toNat:Int)):=by
 induction xs with
 |nil=>rfl
 |cons x xs ih=>exact⟨[_],_,rfl,rfl,ih⟩
theorem RepV.slice {t:Ty} {xs:List t.T} {u:zh} (h:RepV w O β (.slice t) xs u):RepS w O (RepC w O t) xs u:=by
 obtain⟨v,hv,h'⟩:=((RepD.scalar rfl).1 h:RepC w O (.slice t) xs [u]);cases hv;exact h'
theorem RepV.ofSlice {t:Ty} {xs:List t.T} {u:zh} (h:RepS w O (RepC w O t) xs u):RepV w O β (.slice t) xs u:=
 ((RepD.scalar rfl).2 ⟨u,rfl,h⟩:RepD w O (.slice t) xs u)
theorem RepS.nlen {α:Type} {R:α->List zh->Prop} {xs:List α} {u:zh} (h:RepS w O R xs u):∃ A c,u= .slice A xs.length c∧xs.length≤c∧c≤maxLen:=by
 rcases h with ⟨rfl,A,c,rfl,h⟩|⟨g,off,c,vs,rfl,_,h1,h2,_⟩
 ·exact⟨A,c,rfl,zk _,h⟩
 ·exact⟨_,c,rfl,h1,h2⟩
theorem za4 (w:zj) (o:Obj):yV w.heap.size w (w.alloc o):=(zV _ _).alloc (zl _) _
theorem zlM {t:Ty} {xs:List t.T} {vs:List zh} (hO:∀ g,O g->g < w.heap.size) (h:RepL (RepC w O t) xs vs) {cap:Nat} (hc:xs.length≤cap) (hm:cap≤maxLen) {cells:Array zh} {te:zn} {fz:Nat×Nat}
  {w':zj} (hk:yV w.heap.size w w') (hrow:w'.heap[w.heap.size]? =some (.cells cells te fz)) (hpre:∀ (j:Nat) (u:zh),vs[j]? =some u->cells[j]? =some u):
  RepS w' O (RepC w' O t) xs (.slice (some ⟨w.heap.size,0,none⟩) xs.length cap):=by
 by_cases hx:xs=[]
 ·subst hx;exact .inl ⟨rfl,_,cap,rfl,hm⟩
 ·refine .inr ⟨w.heap.size,0,cap,vs,rfl,hx,hc,hm,(zo.1 hrow).1,fun h=>Nat.lt_irrefl _ (hO _ h),h.mono fun x _ c=>RepC.keep (.of_below hk fun _ _ h=>h) _ _ _,fun j u hu=>?_⟩;rw[yp];unfold xo;rw[hrow];simp only[xP,yw,if_false];exact hpre j u hu
def byteCells (l:List UInt8):List zh:=l.map fun b=>.int .u8 (b.toNat:Int)
theorem zkL (w:zj) (o:Obj) (k n:Nat):yV w.heap.size w ((w.alloc o).freeze ⟨w.heap.size,k,none⟩ n):=by
 unfold qT;split
 ·exact za4 w o
 ·refine⟨rfl,rfl,rfl,?_,fun g hg=>?_⟩
  ·show w.heap.size≤(Array.modify (w.heap.push o) _ _).size;simp
  show (Array.modify (w.heap.push o) _ _)[g]? =_;simp only[xZ];rw[if_neg (by omega),Array.getElem?_push,if_neg (by omega)]
theorem zno (w:zj) (cs:Array zh) (e:zn) (fz:Nat×Nat) (k n:Nat):∃ fz',((w.alloc (.cells cs e fz)).freeze ⟨w.heap.size,k,none⟩ n).heap[w.heap.size]? =some (.cells cs e fz'):=by
 unfold qT;split
 ·exact⟨fz,heap_alloc_new w _⟩
 ·simp only[World.alloc,xZ,if_true];rw[show (w.heap.push (uy cs e fz))[w.heap.size]? =some (uy cs e fz) by simp];exact⟨_,rfl⟩
theorem zfO (e:zn) (l:List UInt8) (w:zj):
  ∃ cap w',(kX e ⟨l.toArray⟩).run P w= .ok (.slice (some ⟨w.heap.size,0,none⟩) l.length cap) w'∧l.length≤cap∧(l.length≤maxLen->cap≤maxLen)∧yV w.heap.size w w'∧
   ∃ fz,w'.heap[w.heap.size]? =some (.cells ((byteCells l).toArray++zz (cap - l.length) (yF .u8 0)) e fz):=by
 have hs:(⟨l.toArray⟩:ByteArray).size=l.length:=by simp[qG]
 have hdata:((⟨l.toArray⟩:ByteArray).data.map fun b=>yF .u8 (b.toNat:Int))=(byteCells l).toArray:=by simp[byteCells]
 generalize hcap:(Question.appendCap l.length 0 e).cut (w.tape w.drawn (.appendCap l.length 0 e))=cap;have h1:l.length≤cap:=by rw[<-hcap];simp only[uZ];omega
 have h2:l.length≤maxLen->cap≤maxLen:=fun hm=>by
  rw[<-hcap];simp only[uZ,maxLen]at *;have:=Nat.mod_lt (w.tape w.drawn (.appendCap l.length 0 e)) (show 0 < 2 ^ 63 - l.length by omega);omega
 have hb:yV w.heap.size w w.drew:=(zV _ _).drew;refine⟨cap,(w.drew.alloc (.cells ((byteCells l).toArray++zz (cap - l.length) (yF .u8 0)) e)).freeze ⟨w.drew.heap.size,((byteCells l).toArray++zz (cap - l.length) (yF .u8 0)).size,none⟩ 1,?_,h1,h2,hb.trans (zkL w.drew _ _ _),zno w.drew _ _ _ _ _⟩;have hrow:(w.drew.alloc (.cells ((byteCells l).toArray++zz (cap - l.length) (yF .u8 0)) e)).shape? w.drew.heap.size=some (e,((byteCells l).toArray++zz (cap - l.length) (yF .u8 0)).size):=by
  simp only[kr,heap_alloc_new]
 unfold kX;rw[hs];simp only[zC,run_choose_drew,Question.forced,yw,if_false,zA,hcap,newRow,newObj,Sem.run,zv,markStringish,hdata];rw[show ({ w.drew with heap:=w.drew.heap.push (uy ((byteCells l).toArray++zz (cap - l.length) (yF .u8 0)) e) }:zj)=w.drew.alloc (uy ((byteCells l).toArray++zz (cap - l.length) (yF .u8 0)) e) from rfl];simp only[run_shape,hrow,zA,run_freeze];rfl
theorem znr (hT:TOk P T Q) (hO:∀ g,O g->g < w.heap.size) {src dst:zn} {va:V} {r:List Prop×V} (h:cvV T src dst va=some r) (hp:allP r.1) {ua:zh} (ha:RepV w (fun _=>False) β va.t va.x ua):
  Yields P (kY src dst ua) w O β r.2:=by
 obtain⟨ta,xa⟩:=va;unfold cvV at h;split at h
 ·rename_i k x l hv ht;obtain⟨rfl,hv⟩:=V.mk.inj hv;cases hv;split at h
  ·rename_i hs;obtain⟨q,h1,rfl⟩:=zfJ h;have:=RepV.int ha;subst this;have hsu:=(hT.is hs).1;have hdu:=(hT.lay _ _ ht).1;refine .still (u:=.int l (encI l q.2)) ?_ RepV.ofInt;unfold kY;simp only[zC,run_underlying hsu,run_underlying hdu,zA,Conv.intToInt,zv];rw[zrn (vc:=q.1) (z:=q.2) h1 hp]
  ·cases h
 ·rename_i x hv ht;obtain⟨rfl,hv⟩:=V.mk.inj hv;cases hv;split at h
  ·rename_i hs;cases h;obtain⟨e,hl⟩:=RepV.str ha;subst e;have hsu:=(hT.is hs).1;have hdu:=(hT.lay _ _ ht).1;refine .still ?_ (RepV.ofStr hl);unfold kY;simp only[zC,run_underlying hsu,run_underlying hdu,zA,zv]
  ·cases h
 ·rename_i x hv ht;obtain⟨rfl,hv⟩:=V.mk.inj hv;cases hv;split at h
  ·rename_i hs;cases h;obtain⟨e,hl⟩:=RepV.str ha;subst e;have hsu:=(hT.is hs).1;obtain⟨te,hdu,_,hte⟩:=hT.lay _ _ ht;obtain⟨cap,w',h1,h2,h3,h4,fz,h5⟩:=zfO (P:=P) te x w;refine⟨_,w',?_,h4,RepV.ofSlice (zlM hO (zgk x) h2 (h3 hl) h4 h5 fun j u hj=>?_)⟩
   ·unfold kY;simp only[zC,run_underlying hsu,run_underlying hdu,zA,run_underlying hte.1,h1]
   ·rw[Array.getElem?_append_left]
    ·simpa [byteCells] using hj
    ·have:=(yI.1 hj).1
     simpa [byteCells] using this
  ·cases h
 ·rename_i x hv ht;obtain⟨rfl,hv⟩:=V.mk.inj hv;cases hv;split at h
  ·rename_i hs;cases h;have hsl:=RepV.slice ha;obtain⟨te,hsu,_,hte⟩:=hT.is hs;have hdu:=(hT.lay _ _ ht).1;rcases hsl with ⟨rfl,A,c,rfl,hc⟩|⟨g,off,c,vs,rfl,hx,h1,h2,h3,_,h5,h6⟩
   ·refine .still (u:=.string ⟨#[]⟩) ?_ (RepV.ofStr (l:=[]) (by simp));cases A with
    |none=>exact run_convert_bytes_nil (P:=P) w src te hsu hte.1 0 c dst hdu
    |some A=>
     have:=run_convert_bytes_back (P:=P) w src dst te A c [] hsu hte.1 hdu (fun j hj=>by simp at hj);exact this
   ·have hvs:=zfU h5;subst hvs;refine .still (run_convert_bytes_back (P:=P) w src dst te ⟨g,off,none⟩ c x hsu hte.1 hdu fun j hj=>?_) (RepV.ofStr (zH h1 h2));rw[yZ];exact h6 j _ (by simp[hj])
  ·cases h
 ·cases h
theorem zds (k:yC) (n:Int):(asIntOf (.int k n)).run P w= .ok (k,n) w:=rfl
theorem zlA {n i:Nat} {t:Ty} {xs:List t.T} {cs:List zh} (h:RepC w O (.arr n t) xs cs) (hi:i < n):
  RepC w O t (xs.getD i (za8 t)) ((cs.drop (i * t.size)).take t.size):=by
 obtain⟨h1,h2⟩:=h;have hi':i < xs.length:=by have h1':xs.length=n:=h1;omega
 refine h2.nth (fun x c=>RepC.len t x c) ?_;simp[qD,zU hi']
theorem zjg (hT:TOk P T Q) {xt:zn} {va vi:V} {r:List Prop×V} (h:zpi T xt va vi=some r) (hp:allP r.1) {ua ui:zh} (ha:RepV w O β va.t va.x ua) (hi:RepV w O β vi.t vi.x ui):
  Yields P (uJ xt ua ui) w O β r.2:=by
 obtain⟨ta,xa⟩:=va;unfold zpi at h;split at h
 ·rename_i n t xs i hv hv';obtain⟨rfl,hv⟩:=V.mk.inj hv;cases hv;obtain⟨k,rfl⟩:=zcD hv' hi;split at h
  ·rename_i hs;cases h;obtain⟨te,hu,_,hte⟩:=hT.is hs;obtain⟨cs,rfl,hc⟩:=(RepD.agg rfl).1 ha;obtain⟨h0,h1⟩:=hp;have h1:i < (n:Int):=h1;obtain⟨u,h2,h3⟩:=hte.part (zlA hc (i:=i.toNat) (by omega));refine .still (u:=u) ?_ ((zbG hte.data).2 h3);unfold uJ;simp only[zC,zds,zA,run_underlying hu,h0,h1,and_self,if_true,hte.sizeOf,h2]
  ·cases h
 ·rename_i l i hv hv';obtain⟨rfl,hv⟩:=V.mk.inj hv;cases hv;obtain⟨k,rfl⟩:=zcD hv' hi;split at h
  ·rename_i hs;cases h;have hu:=(hT.is hs).1;obtain⟨e,hl⟩:=RepV.str ha;subst e;obtain⟨h0,h1⟩:=hp;have h1:i < (zg l:Nat):=h1;have hlt:i.toNat < zg l:=by omega
   refine .still (u:=.int .u8 ((qD l i.toNat 0).toNat:Int)) ?_ (RepV.ofInt (k:=.u8));unfold uJ;have hget:(⟨yD l⟩:ByteArray)[i.toNat]? =some (qD l i.toNat 0):=by
    have hsz:i.toNat < (⟨yD l⟩:ByteArray).size:=by simpa [qG] using hlt
    rw[getElem?_pos (⟨yD l⟩:ByteArray) i.toNat hsz];simp[qD,zU hlt];rfl
   simp only[zC,zds,zA,run_underlying hu,h0,if_true,hget,zv]
  ·cases h
 ·cases h
end
section
variable {P:zx} {w:zj} {O O':Nat->Prop} {β:Nat->zh} {T:Tbl} {Q:List zn} {E:Owns} {F:Frame} {B:Nat} {a:Act}
theorem zg0 {t:Ty} {i:Nat} {xs:List t.T} {vs:List zh} (h:RepL (RepC w O t) xs vs) (hi:i < xs.length):RepC w O t (xs.getD i (za8 t)) ((vs.drop (i * t.size)).take t.size):=by
 refine h.nth (fun x c=>RepC.len t x c) ?_;simp[qD,zU hi]
theorem zd3 {xt te:zn} {s:Nat} (hu:P.underlying xt=some (.slice te)) (hs:(jV te).run P w= .ok s w) {A:Addr} {n c:Nat} {k:yC} {i:Int} (h0:0≤i) (h1:i < n):
  (vj xt (.slice (some A) n c) (.int k i)).run P w= .ok (.pointer (some (A.add (i.toNat * s)))) w:=by
 unfold vj;simp[zC,zds,run_underlying hu,hs,h0,h1]
theorem zhw {xt te:zn} {n s:Nat} (hu:P.underlying xt=some (.array n te)) (hs:(jV te).run P w= .ok s w) {A:Addr} {k:yC} {i:Int} (h0:0≤i) (h1:i < n):
  (vj xt (.pointer (some A)) (.int k i)).run P w= .ok (.pointer (some (A.add (i.toNat * s)))) w:=by
 unfold vj;simp[zC,zds,run_underlying hu,hs,h0,h1,ql]
theorem zf1 (hT:TOk P T Q) (hown:∀ i o,Owns.get E i=some o->OwnRep w O β B (β i) o) {xt:zn} {va vi:V} {r:List Prop×V} (h:zeF T E xt va vi=some r) (hp:allP r.1) {ua ui:zh}
  (ha:RepV w O β va.t va.x ua) (hi:RepV w O β vi.t vi.x ui):Yields P (vj xt ua ui) w O β r.2:=by
 obtain⟨ta,xa⟩:=va;unfold zeF at h;split at h
 ·rename_i t xs i hv hv';obtain⟨rfl,hv⟩:=V.mk.inj hv;cases hv;obtain⟨k,rfl⟩:=zcD hv' hi;split at h
  ·rename_i hs;cases h;obtain⟨h0,h1⟩:=hp;have h1:i < (zg xs:Nat):=h1;have hlt:i.toNat < zg xs:=by omega
   obtain⟨te,hu,_,hte⟩:=hT.is hs;rcases RepV.slice ha with ⟨rfl,_⟩|⟨g,off,c,vs,rfl,_,_,_,h5,h6,h7,h8⟩
   ·simp at hlt
   ·refine .still (zd3 hu hte.sizeOf h0 h1) ⟨g,off+i.toNat * t.size,_,by rw[yZ],h5,h6,zg0 h7 hlt,(h8.drop _).take _⟩
  ·cases h
 ·rename_i n t xs i hv hv';obtain⟨rfl,hv⟩:=V.mk.inj hv;cases hv;obtain⟨k,rfl⟩:=zcD hv' hi;split at h
  ·rename_i hs;cases h;obtain⟨h0,h1⟩:=hp;have h1:i < (n:Int):=h1;obtain⟨te,hu,_,hte⟩:=hT.is hs;obtain⟨g,off,cs,rfl,h5,h6,h7,h8⟩:=ha;exact .still (zhw hu hte.sizeOf h0 h1) ⟨g,off+i.toNat * t.size,_,by rw[yZ],h5,h6,zlA h7 (by omega),(h8.drop _).take _⟩
  ·cases h
 ·rename_i n t o rt p i hv hv';obtain⟨rfl,hv⟩:=V.mk.inj hv;cases hv;obtain⟨k,rfl⟩:=zcD hv' hi;split at h
  ·rename_i hs;cases h;obtain⟨h0,h1⟩:=hp;have h1:i < (n:Int):=h1;obtain⟨te,hu,_,hte⟩:=hT.is hs;obtain⟨g,h2,rfl⟩:=ha;exact .still (zhw hu hte.sizeOf h0 h1) ⟨g,h2,by rw[yZ];rfl⟩
  ·cases h
 ·rename_i t' j i hv hv';obtain⟨rfl,hv⟩:=V.mk.inj hv;cases hv;obtain⟨k,rfl⟩:=zcD hv' hi;split at h
  ·rename_i te0 t xs he;split at h
   ·rename_i hs;cases h;obtain⟨h0,h1⟩:=hp;have h1:i < (zg xs:Nat):=h1;obtain⟨te,hu,_,hte⟩:=hT.is hs;have hub:ua=β j:=ha;obtain⟨cs,h2,h3,h4⟩:=hown j _ he;rcases h3.2 with ⟨h5,h6⟩|⟨g,cap,cur,h5,_⟩
    ·have:zg xs=0:=h6;omega
    ·rw[hub,h5];exact .still (zd3 hu hte.sizeOf h0 h1) ⟨g,by rw[h5];rfl,by rw[yZ,yp];rfl⟩
   ·cases h
  ·cases h
 ·cases h
def zcF (w:zj) (O:Nat->Prop):(e:Bool)->(r:Ty)->r.T->List zh->Prop
 |true,.slice s,xs,cs=>RepL (RepC w O s) xs cs
 |true,_,_,_=>False
 |false,r,x,cs=>RepC w O r x cs
theorem Path.rep:∀ {r t:Ty} (p:Path r t) (x:r.T) (cs:List zh),zcF w O p.isElm r x cs->allP (p.vcs x)->RepC w O t (p.get x) ((cs.drop p.off).take t.size)∧p.off+t.size≤cs.length:=by
 intro r t p
 induction p with
 |here=>
  intro x cs h _;have hl:=RepC.len _ _ _ h;refine⟨?_,by simp[Path.off,hl]⟩;simp only[Path.off,List.drop_zero, <-hl,List.take_length];exact h
 | @fst r a b p ih=>
  intro x cs h hv;obtain⟨⟨c1,c2,h1,h2,h3⟩,h4⟩:=ih x cs h hv;have l1:=RepC.len _ _ _ h2;simp only[Ty.size]at h4 h1;refine⟨?_,by simp only[Path.off];omega⟩;have:(cs.drop p.off).take a.size=c1:=by
   have h5:((cs.drop p.off).take (a.size+b.size)).take a.size=c1:=by rw[h1, <-l1,xr]
   rwa[qH,yz (by omega)]at h5
  simp only[Path.off,Path.get,this];exact h2
 | @snd r a b p ih=>
  intro x cs h hv;obtain⟨⟨c1,c2,h1,h2,h3⟩,h4⟩:=ih x cs h hv;have l1:=RepC.len _ _ _ h2;simp only[Ty.size]at h4 h1;refine⟨?_,by simp only[Path.off];omega⟩;have:(cs.drop (p.off+a.size)).take b.size=c2:=by
   have h5:((cs.drop p.off).take (a.size+b.size)).drop a.size=c2:=by rw[h1, <-l1,qm]
   rw[jc,xW]at h5;rwa[show a.size+b.size - a.size=b.size by omega]at h5
  simp only[Path.off,Path.get,this];exact h3
 | @idx r t n p k ih=>
  intro x cs h hv;rw[Path.vcs,zax]at hv;have hk:k < n:=hv.2;obtain⟨h1,h4⟩:=ih x cs h hv.1;simp only[Ty.size]at h1 h4;have h2:=zlA h1 hk;have hle:k * t.size+t.size≤n * t.size:=by
   have:=xR t.size (show k+1≤n by omega);rwa[xp,vV]at this
  refine⟨?_,by simp only[Path.off];omega⟩;simp only[Path.off,Path.get];rw[jc,xW,qH,yz (by omega)]at h2;exact h2
 | @elm t k=>
  intro x cs h hv;have hk:k < zg x:=hv;have h':RepL (RepC w O t) x cs:=h;refine⟨zg0 h' hk,?_⟩;have hl:=h'.len (fun x c=>RepC.len t x c);have:=xR t.size (show k+1≤zg x by omega);rw[xp,vV]at this;simp only[Path.off];omega
theorem OwnRep.cells {bv:zh} {o:OObj} (h:OwnRep w O β B bv o) (hH:∀ ty vs,o≠ .hbox ty vs) {g:Nat} (hg:zag bv=some g):∃ cs,zcF w O o.isBuf o.v.t o.v.x cs∧CellsAt w g 0 cs:=by
 cases o with
 |box t x=>
  obtain⟨g',cs,ty,rfl,h1,h2,h3⟩:=h;cases hg;refine⟨cs,h3,fun j u hu=>?_⟩;rw[yp];unfold xo;rw[h2]
  simpa using hu
 |buf te t xs=>
  obtain⟨cs,h1,h2,h3⟩:=h;rcases h2.2 with ⟨rfl,_⟩|⟨g',cap,cur,rfl,h4,h5,h6,h7,h8,h9⟩
  ·cases hg
  ·cases hg;refine⟨cs,h1,fun j u hu=>?_⟩;rw[yp];unfold xo;rw[h5];simp only[xP,yw,if_false];rw[<-h9,zM]at hu;split at hu
   ·simpa using hu
   ·cases hu
 |hbox ty vs=>exact absurd rfl (hH _ _)
theorem zih {r:Ty} {o:OObj} {y:r.T} (h:zqv r o=some y):o.v=⟨r,y⟩:=by
 unfold zqv at h;generalize o.v=ov at h ⊢;obtain⟨s,x⟩:=ov;exact ziF h
theorem zmU {r:Ty} {o:OObj} {y:r.T} (h:zqv r o=some y):∀ ty vs,o≠ .hbox ty vs:=by
 rintro ty vs rfl;have:=zih h;obtain⟨rfl,_⟩:=V.mk.inj this;cases h
theorem RepH.append:∀ {vs ws:List V} {cs ds:List zh},RepH w O β vs cs->RepH w O β ws ds->RepH w O β (vs++ws) (cs++ds)
 | [],_,_,_,h,h'=>by
  have h:_=[]:=h;subst h;exact h'
 |v::r,_,_,_,⟨u,s,e,h2,h3,h4⟩,h'=>by subst e;exact⟨u,s++_,rfl,h2,h3,RepH.append h4 h'⟩
theorem RepH.len:∀ {vs:List V} {cs:List zh},RepH w O β vs cs->vs.length=cs.length
 | [],_,h=>by
  have h:_=[]:=h;subst h;rfl
 |v::r,_,⟨u,s,e,_,_,h4⟩=>by subst e;simp[RepH.len h4]
theorem RepH.take:∀ (k:Nat) {vs:List V} {cs:List zh},RepH w O β vs cs->RepH w O β (vs.take k) (cs.take k)
 |0,_,_,_=>rfl
 |k+1,[],_,h=>by
  have h:_=[]:=h;subst h;exact rfl
 |k+1,v::r,_,⟨u,s,e,h2,h3,h4⟩=>by subst e;exact⟨u,s.take k,rfl,h2,h3,RepH.take k h4⟩
theorem RepH.drop:∀ (k:Nat) {vs:List V} {cs:List zh},RepH w O β vs cs->RepH w O β (vs.drop k) (cs.drop k)
 |0,_,_,h=>h
 |k+1,[],_,h=>by
  have h:_=[]:=h;subst h;exact rfl
 |k+1,v::r,_,⟨u,s,e,h2,h3,h4⟩=>by subst e;exact RepH.drop k h4
theorem zei:∀ (t:Ty) (x:t.T) (cs:List zh),t.data=true->t.noArr=true->RepC w O t x cs->RepH w O β (zaW t x) cs:=by
 intro t
 induction t with
 |pair a b iha ihb=>
  rintro x cs hd hn ⟨c1,c2,rfl,h1,h2⟩;simp only[Ty.data,zf]at hd;simp only[Ty.noArr,zf]at hn;exact (iha _ _ hd.1 hn.1 h1).append (ihb _ _ hd.2 hn.2 h2)
 |unit=>intro x cs _ _ h;exact h
 |arr n t ih=>intro x cs _ hn;cases hn
 |bool=>intro x cs _ _ h;cases h;exact⟨_,_,rfl,rfl,rfl,rfl⟩
 |int k=>intro x cs _ _ h;cases h;exact⟨_,_,rfl,rfl,rfl,rfl⟩
 |str=>rintro x cs _ _ ⟨h,h'⟩;subst h;exact⟨_,_,rfl,rfl,⟨rfl,h'⟩,rfl⟩
 |slice t ih=>
  rintro x cs _ _ ⟨v,rfl,h⟩;refine⟨v,[],rfl,?_,RepV.ofSlice h,rfl⟩;rcases h with ⟨_,A,c,rfl,_⟩|⟨g,off,c,vs,rfl,_⟩<;>rfl
 |_=>intro x cs hd;cases hd
theorem zlf:∀ (t:Ty) (x:t.T) (u:zh),t.leafy=true->RepV w O β t x u->RepH w O β (zaW t x) u.cells.toList:=by
 intro t
 induction t with
 |optr t _=>rintro x u _ h;have h':=h;obtain⟨g,_,rfl⟩:=h';exact⟨_,_,rfl,rfl,h,rfl⟩
 |hptr=>rintro x u _ h;have h':=h;obtain⟨g,_,rfl⟩:=h';exact⟨_,_,rfl,rfl,h,rfl⟩
 |vptr t _=>rintro x u _ h;have h':=h;obtain⟨g,off,cs,rfl,_⟩:=h';exact⟨_,_,rfl,rfl,h,rfl⟩
 |clo f t _=>rintro x u _ h;have h':=h;obtain⟨vs,rfl,_⟩:=h';exact⟨_,_,rfl,rfl,h,rfl⟩
 |mapL=>rintro x u _ h;have h':=h;obtain⟨r,ms,ck,rfl,_⟩:=h';exact⟨_,_,rfl,rfl,h,rfl⟩
 |hcons a b _ ihb=>
  rintro x u hl ⟨y,s,rfl,h2,h3,h4⟩;exact⟨y,s,rfl,h2,h3,ihb _ _ hl h4⟩
 |pair a b _ _=>
  intro x u hl h;have hd:(Ty.pair a b).data=true∧(Ty.pair a b).noArr=true:=by
   have hl:((Ty.pair a b).data&&(Ty.pair a b).noArr)=true:=hl
   simpa using hl
  obtain⟨cs,rfl,h1⟩:=(RepD.agg rfl).1 h;exact zei _ _ _ hd.1 hd.2 h1
 |unit=>
  intro x u hl h;obtain⟨cs,rfl,h1⟩:=(RepD.agg rfl).1 h;exact zei _ _ _ rfl rfl h1
 |bool=>intro x u _ h;have:=RepV.bool h;subst this;exact⟨_,_,rfl,rfl,rfl,rfl⟩
 |int k=>intro x u _ h;have:=RepV.int h;subst this;exact⟨_,_,rfl,rfl,rfl,rfl⟩
 |str=>intro x u _ h;have:=RepV.str h;obtain⟨rfl,h'⟩:=this;exact⟨_,_,rfl,rfl,⟨rfl,h'⟩,rfl⟩
 |slice t _=>
  intro x u hl h;have hd:(Ty.slice t).data=true:=by
   have hl:((Ty.slice t).data&&(Ty.slice t).noArr)=true:=hl;simp only[zf]at hl;exact hl.1
  have h1:=(RepD.scalar rfl).1 h;have h2:u.cells.toList=[u]:=by
   obtain⟨v,e,h2⟩:=h1;cases e;rcases h2 with ⟨_,A,c,rfl,_⟩|⟨g,off,c,vs,rfl,_⟩<;>rfl
  rw[h2];exact zei _ _ _ hd rfl h1
 |arr n t _=>
  intro x u hl;have hl:((Ty.arr n t).data&&(Ty.arr n t).noArr)=true:=hl;simp[Ty.noArr]at hl
 |_=>intro x u hl;cases hl
theorem zle (hown:∀ i o,Owns.get E i=some o->OwnRep w O β B (β i) o) {v:V} {ls:List V} (h:zhp E v=some ls) {u:zh} (hu:RepV w O β v.t v.x u):RepH w O β ls u.cells.toList:=by
 obtain⟨t,x⟩:=v;unfold zhp at h;split at h
 ·rename_i y he;obtain⟨rfl,he⟩:=V.mk.inj he;cases he;have hu:u=y:=hu;subst hu;unfold zhq at h;split at h
  ·rename_i cs;split at h
   ·rename_i hall;cases h;have key:∀ l:List zh,l.all qi=true->RepH w O β (l.map evC) l:=by
     intro l
     induction l with
     |nil=>intro _;exact rfl
     |cons c l ih=>
      intro hl;simp only[List.all_cons,zf]at hl;exact⟨c,l,rfl,hl.1,zlo c,ih hl.2⟩
    exact key _ hall
   ·cases h
  ·cases h
  ·rename_i h1 h2;cases h;have hc:u.cells.toList=[u]∧u.oneCell'=true:=by
    cases u<;>first|exact⟨rfl,rfl⟩|exact absurd rfl (h1 _)|exact absurd rfl (h2 _)
   rw[hc.1];exact⟨u,[],rfl,hc.2,rfl,rfl⟩
 ·rename_i t' j he;obtain⟨rfl,he⟩:=V.mk.inj he;cases he;split at h
  ·rename_i te τ xs hb;cases h;have hu':u=β j:=hu;have hc:u.cells.toList=[u]∧u.oneCell'=true:=by
    obtain⟨cs,h1,h2,h3⟩:=hown _ _ hb;rw[hu'];rcases h2.2 with ⟨e,_⟩|⟨g,cap,cur,e,_⟩<;>rw[e]<;>exact⟨rfl,rfl⟩
   rw[hc.1];exact⟨u,[],rfl,hc.2,hu,rfl⟩
  ·cases h
 ·rename_i h1 h2 he;obtain⟨rfl,he⟩:=V.mk.inj he;cases he;split at h
  ·rename_i hl;cases h;exact zlf _ _ _ hl hu
  ·cases h
theorem zsn:∀ (t:Ty) (vs:List V) (x:t.T) (r:List V) (cs:List zh),t.data=true->unD t vs=some (x,r)->RepH w O β vs cs->∃ c1 c2,cs=c1++c2∧RepC w O t x c1∧RepH w O β r c2:=by
 have one:∀ (t:Ty) (vs:List V) (x:t.T) (r:List V) (cs:List zh),t.data=true->t.isAgg=false->(match vs with |v::r=>(match coe t v with |some x=>some (x,r)|none=>none)| []=>none)=some (x,r)->RepH w O β vs cs->∃ c1 c2,cs=c1++c2∧RepC w O t x c1∧RepH w O β r c2:=by
  intro t vs x r cs hd ha h hr;cases vs with
  |nil=>cases h
  |cons v vs=>
   simp only at h;split at h
   ·rename_i y hy;cases h;obtain⟨u,s,rfl,h2,h3,h4⟩:=hr;exact⟨[u],s,rfl,(RepD.scalar ha).1 (zf6 hd hy h3),h4⟩
   ·cases h
 intro t
 induction t with
 |pair a b iha ihb=>
  intro vs x r cs hd h hr;simp only[Ty.data,zf]at hd;simp only[unD]at h;split at h
  ·rename_i y r1 h1;split at h
   ·rename_i z r2 h2;cases h;obtain⟨c1,c2,rfl,g1,g2⟩:=iha _ _ _ _ hd.1 h1 hr;obtain⟨c3,c4,rfl,g3,g4⟩:=ihb _ _ _ _ hd.2 h2 g2;exact⟨c1++c3,c4,by simp,⟨c1,c3,rfl,g1,g3⟩,g4⟩
   ·cases h
  ·cases h
 |unit=>
  intro vs x r cs _ h hr;cases h;exact⟨[],cs,rfl,rfl,hr⟩
 |arr n t _=>intro vs x r cs _ h;cases h
 |bool=>intro vs x r cs hd h hr;exact one .bool vs x r cs hd rfl (by cases vs<;>exact h) hr
 |int k=>intro vs x r cs hd h hr;exact one (.int k) vs x r cs hd rfl (by cases vs<;>exact h) hr
 |str=>intro vs x r cs hd h hr;exact one .str vs x r cs hd rfl (by cases vs<;>exact h) hr
 |slice t _=>intro vs x r cs hd h hr;exact one (.slice t) vs x r cs hd rfl (by cases vs<;>exact h) hr
 |_=>intro vs x r cs hd;cases hd
theorem zs1 {τ:Ty} {t:zn} (ht:Lay P τ (.inl t)) (ha:τ.isAgg=false) {g off:Nat} {u:zh} (hc:w.cell? ⟨g,off,none⟩=some u):
  (qQ t (.pointer (some ⟨g,off,none⟩))).run P w= .ok u w:=by
 unfold qQ ql Go.loadVar;simp[zC,ht.isAgg,ha,load,Sem.run,hc]
theorem OwnRep.hcells {bv:zh} {ty:zn} {vs:List V} (h:OwnRep w O β B bv (.hbox ty vs)) {g:Nat} (hg:zag bv=some g):∃ cs,RepH w O β vs cs∧CellsAt w g 0 cs:=by
 obtain⟨g',cs,rfl,h1,h2,h3⟩:=h;cases hg;refine⟨cs,h3,fun j u hu=>?_⟩;rw[yp];unfold xo;rw[h2]
 simpa using hu
theorem zkb (hT:TOk P T Q) (hown:∀ i o,Owns.get E i=some o->OwnRep w O β B (β i) o) {t:zn} {va:V} {r:List Prop×V} (h:zkc T E t va=some r) (hp:allP r.1) {ua:zh}
  (ha:RepV w O β va.t va.x ua):∃ u,(qQ t ua).run P w= .ok u w∧RepV w O β r.2.t r.2.x u:=by
 obtain⟨ta,xa⟩:=va;unfold zkc at h;split at h
 ·rename_i τ x hv;obtain⟨rfl,hv⟩:=V.mk.inj hv;cases hv;split at h
  ·rename_i hs;cases h;obtain⟨g,off,cs,rfl,_,_,h4,h5⟩:=ha;obtain⟨u,h6,h7⟩:=(hT.is hs).loadAt h4 h5;exact⟨_,h6,(zbG (hT.is hs).data).2 h7⟩
  ·cases h
 ·rename_i g off τ x hv;obtain⟨rfl,hv⟩:=V.mk.inj hv;cases hv;split at h
  ·rename_i hs;cases h;obtain⟨cs,rfl,_,_,h4,h5⟩:=ha;obtain⟨u,h6,h7⟩:=(hT.is hs).loadAt h4 h5;exact⟨_,h6,(zbG (hT.is hs).data).2 h7⟩
  ·cases h
 ·rename_i τ i rt p hv;obtain⟨rfl,hv⟩:=V.mk.inj hv;cases hv;split at h
  ·rename_i o he;split at h
   ·rename_i hs;split at h
    ·rename_i y hy;rw[Path.getO_eq]at h;cases h;simp only[zf,beq_iff_eq]at hs;obtain⟨g,h1,rfl⟩:=ha;obtain⟨cs,h2,h3⟩:=(hown _ _ he).cells (zmU hy) h1;have h4:zcF w O o.isBuf rt y cs:=by
      rw[zih hy]at h2;exact h2
     rw[<-hs.2]at h4;obtain⟨h5,h6⟩:=Path.rep p _ _ h4 hp;have h7:=(h3.drop (Path.off p)).take τ.size;rw[yp]at h7;obtain⟨u,h8,h9⟩:=(hT.is hs.1).loadAt h5 h7;exact⟨_,h8,(zbG (hT.is hs.1).data).2 h9⟩
    ·cases h
   ·cases h
  ·cases h
 ·rename_i i k hv;obtain⟨rfl,hv⟩:=V.mk.inj hv;cases hv;split at h
  ·rename_i vs he;split at h
   ·rename_i τ hτ;obtain⟨g,h1,rfl⟩:=ha;obtain⟨cs,h2,h3⟩:=(hown _ _ he).hcells h1;have hl:=hT.lay _ _ hτ;have h4:=h2.drop k;have h5:=h3.drop k;rw[yp]at h5;split at h
    ·split at h
     ·rename_i x r hx;cases h;obtain⟨c1,c2,h6,h7,_⟩:=zsn _ _ _ _ _ hl.data hx h4;have h8:CellsAt w g k c1:=fun j u hu=>h5 j u (by rw[h6,List.getElem?_append_left (yI.1 hu).1];exact hu);obtain⟨u,h9,h10⟩:=hl.loadAt h7 h8;exact⟨u,h9,(zbG hl.data).2 h10⟩
     ·cases h
    ·rename_i hag;split at h
     ·rename_i v r hv;split at h
      ·cases h;rw[hv]at h4;obtain⟨u,s,h6,h7,h8,_⟩:=h4;have h9:w.cell? ⟨g,k,none⟩=some u:=by
        have:=h5 0 u (by rw[h6];rfl)
        simpa using this
       exact⟨u,zs1 hl (by simpa using hag) h9,h8⟩
      ·cases h
     ·cases h
   ·cases h
  ·cases h
 ·cases h
theorem zka (hT:TOk P T Q) (hown:∀ i o,Owns.get E i=some o->OwnRep w O β B (β i) o) {t:zn} {va:V} {r:List Prop×V} (h:zkc T E t va=some r) (hp:allP r.1) {ua:zh}
  (ha:RepV w O β va.t va.x ua):Yields P (qQ t ua) w O β r.2:=by
 obtain⟨u,h1,h2⟩:=zkb hT hown h hp ha;exact .still h1 h2
theorem zh7 (hT:TOk P T Q) {xt:zn} {va:V} {n:Nat} {r:List Prop×V} (h:zlm T xt va n=some r) {ua:zh} (ha:RepV w O β va.t va.x ua):Yields P (uG xt ua n) w O β r.2:=by
 unfold zlm at h;split at h
 ·rename_i hs;obtain⟨v,h1,rfl⟩:=zif h;have hl:=hT.is hs;obtain⟨y,h2,h3⟩:=hl.field h1 ((zbG hl.data).1 ha);have hd:v.t.data=true:=by
   obtain⟨fs,_,h5⟩:=hl.struct h1;have ha':=(zbG hl.data).1 ha;have hagg:va.t.isAgg=true:=by
    obtain⟨t,x⟩:=va;cases t<;>first|rfl|(cases n<;>cases h1)
   obtain⟨cs,_,hc⟩:=(RepD.agg hagg).1 ha';obtain⟨_,_,_,h6,_⟩:=zdq n _ _ v _ _ cs h1 h5 hc;exact h6.data
  exact .still h2 ((zbG hd).2 h3)
 ·cases h
theorem ze7:∀ (n:Nat) (r τ:Ty) (p:Path r τ) (t:Ty) (q:Path r t) (fs:List vf) (off:Nat),zky n r τ p=some ⟨t,q⟩->Lay P τ (.inr (fs,off))->
  ∃ f,fs[n]? =some f∧f.offset+p.off=off+q.off∧Lay P t (.inl f.type)
 |0,r,.pair a b,p,t,q,fs,off,h,hl=>by
  cases h;obtain⟨f,rest,h1,h2,h3,h4⟩:=hl;simp only at h1 h2;subst h1;exact⟨f,rfl,by simp[Path.off,h2],h3⟩
 |n+1,r,.pair a b,p,t,q,fs,off,h,hl=>by
  obtain⟨f,rest,h1,h2,h3,h4⟩:=hl;simp only at h1 h2;subst h1;obtain⟨f',h5,h6,h7⟩:=ze7 n r b (.snd p) t q rest _ h h4;refine⟨f',by simpa using h5,?_,h7⟩;simp only[Path.off]at h6;omega
 |0,_,.unit,_,_,_,_,_,h,_=>by cases h
 |_+1,_,.unit,_,_,_,_,_,h,_=>by cases h
 |n,_,.bool,_,_,_,_,_,h,_=>by cases n<;>cases h
 |n,_,.int _,_,_,_,_,_,h,_=>by cases n<;>cases h
 |n,_,.str,_,_,_,_,_,h,_=>by cases n<;>cases h
 |n,_,.arr _ _,_,_,_,_,_,h,_=>by cases n<;>cases h
 |n,_,.slice _,_,_,_,_,_,h,_=>by cases n<;>cases h
 |n,_,.junk,_,_,_,_,_,h,_=>by cases n<;>cases h
 |n,_,.lit,_,_,_,_,_,h,_=>by cases n<;>cases h
 |n,_,.vptr _,_,_,_,_,_,h,_=>by cases n<;>cases h
 |n,_,.cptr _ _ _,_,_,_,_,_,h,_=>by cases n<;>cases h
 |n,_,.optr _,_,_,_,_,_,h,_=>by cases n<;>cases h
 |n,_,.obuf _,_,_,_,_,_,h,_=>by cases n<;>cases h
 |n,_,.tup _ _,_,_,_,_,_,h,_=>by cases n<;>cases h
 |n,_,.cond _,_,_,_,_,_,h,_=>by cases n<;>cases h
theorem Lay.struct' {n:Nat} {r τ:Ty} {s:zn} (h:Lay P τ (.inl s)) {p:Path r τ} {q:(t:Ty)×Path r t} (hv:zky n r τ p=some q):∃ fs,P.underlying s=some (.struct fs)∧Lay P τ (.inr (fs.toList,0)):=by
 cases τ with
 |pair a b=>
  obtain⟨fs,h1,_,f,r,h2,h3,h4,h5⟩:=h;exact⟨fs,h1,f,r,h2,h3,h4,by simpa using h5⟩
 |_=>cases n<;>cases hv
theorem zd4 {s:zn} {fs:Array vf} (hu:P.underlying s=some (.struct fs)) {n:Nat} {f:vf} (hf:fs[n]? =some f) {t:Ty} (ht:Lay P t (.inl f.type)) (hz:0 < t.size) (A:Addr):
  (kP s (.pointer (some A)) n).run P w= .ok (.pointer (some (A.add f.offset))) w:=by
 unfold kP;simp only[zC,run_underlying hu,zA,hf,ql,zv,fieldPlace,ht.sizeOf];rw[if_neg (by omega)];rfl
theorem zf3 (hT:TOk P T Q) {s:zn} {va:V} {n:Nat} {r:List Prop×V} (h:zeG T s va n=some r) {ua:zh} (ha:RepV w O β va.t va.x ua):Yields P (kP s ua n) w O β r.2:=by
 obtain⟨ta,xa⟩:=va;unfold zeG at h;split at h
 ·rename_i τ x hv;obtain⟨rfl,hv⟩:=V.mk.inj hv;cases hv;split at h
  ·rename_i hs;split at h
   ·rename_i v hf;split at h
    ·rename_i hz;cases h;have hl:=hT.is hs;obtain⟨fs,h1,h2⟩:=hl.struct hf;obtain⟨g,off,cs,rfl,h3,h4,h5,h6⟩:=ha;obtain⟨f,h7,h8,h9,h10⟩:=zdq n _ _ v _ _ cs hf h2 h5;refine .still (zd4 h1 (by simpa using h7) h9 (by simpa using hz) _) ⟨g,off+za9 n τ,_,?_,h3,h4,h10,(h6.drop _).take _⟩;rw[yZ,h8,yp]
    ·cases h
   ·cases h
  ·cases h
 ·rename_i g off τ x hv;obtain⟨rfl,hv⟩:=V.mk.inj hv;cases hv;split at h
  ·rename_i hs;split at h
   ·rename_i v hf;split at h
    ·rename_i hz;cases h;have hl:=hT.is hs;obtain⟨fs,h1,h2⟩:=hl.struct hf;obtain⟨cs,rfl,h3,h4,h5,h6⟩:=ha;obtain⟨f,h7,h8,h9,h10⟩:=zdq n _ _ v _ _ cs hf h2 h5;refine .still (zd4 h1 (by simpa using h7) h9 (by simpa using hz) _) ⟨g,off+za9 n τ,_,?_,h3,h4,h10,(h6.drop _).take _⟩;rw[yZ,h8,yp]
    ·cases h
   ·cases h
  ·cases h
 ·rename_i τ i rt p hv;obtain⟨rfl,hv⟩:=V.mk.inj hv;cases hv;split at h
  ·rename_i hs;split at h
   ·rename_i t q hf;split at h
    ·rename_i hz;cases h;have hl:=hT.is hs;obtain⟨fs,h1,h2⟩:=hl.struct' hf;obtain⟨g,h3,rfl⟩:=ha;obtain⟨f,h7,h8,h9⟩:=ze7 n _ _ _ t q _ _ hf h2;refine .still (zd4 h1 (by simpa using h7) h9 (by simpa using hz) _) ⟨g,h3,?_⟩;rw[yZ,show Path.off p+f.offset=q.off by omega]
    ·cases h
   ·cases h
  ·cases h
 ·rename_i i k hv;obtain⟨rfl,hv⟩:=V.mk.inj hv;cases hv;split at h
  ·rename_i τ hs;split at h
   ·rename_i t q hf;split at h
    ·rename_i hz;cases h;have hl:=hT.lay _ _ hs;obtain⟨fs,h1,h2⟩:=hl.struct' hf;obtain⟨g,h3,rfl⟩:=ha;obtain⟨f,h7,h8,h9⟩:=ze7 n _ _ _ t q _ _ hf h2;refine .still (zd4 h1 (by simpa using h7) h9 (by simpa using hz) _) ⟨g,h3,?_⟩;have h8':f.offset+0=0+q.off:=h8;rw[yZ,show k+f.offset=k+q.off by omega]
    ·cases h
   ·cases h
  ·cases h
 ·cases h
theorem zjK:∀ (n:Nat) (τ:Ty) (x:τ.T) (v:V) (vs:List zh),tupV n τ x=some v->RepTup w O τ x vs->∃ u,vs[n]? =some u∧RepD w O v.t v.x u
 |0,.tup a b,x,v,vs,h,hr=>by
  cases h;obtain⟨u,r,rfl,h1,h2⟩:=hr;exact⟨u,rfl,h1⟩
 |n+1,.tup a b,x,v,vs,h,hr=>by
  obtain⟨u,r,rfl,h1,h2⟩:=hr;obtain⟨u',h3,h4⟩:=zjK n b x.2 v r h h2;exact⟨u',by simpa using h3,h4⟩
 |0,.unit,_,_,_,h,_=>by cases h
 |_+1,.unit,_,_,_,h,_=>by cases h
 |n,.bool,_,_,_,h,_=>by cases n<;>cases h
 |n,.int _,_,_,_,h,_=>by cases n<;>cases h
 |n,.str,_,_,_,h,_=>by cases n<;>cases h
 |n,.arr _ _,_,_,_,h,_=>by cases n<;>cases h
 |n,.slice _,_,_,_,h,_=>by cases n<;>cases h
 |n,.junk,_,_,_,h,_=>by cases n<;>cases h
 |n,.lit,_,_,_,h,_=>by cases n<;>cases h
 |n,.vptr _,_,_,_,h,_=>by cases n<;>cases h
 |n,.cptr _ _ _,_,_,_,h,_=>by cases n<;>cases h
 |n,.optr _,_,_,_,h,_=>by cases n<;>cases h
 |n,.obuf _,_,_,_,h,_=>by cases n<;>cases h
 |n,.pair _ _,_,_,_,h,_=>by cases n<;>cases h
 |n,.cond _,_,_,_,h,_=>by cases n<;>cases h
end
section
variable {P:zx} {w:zj} {O O':Nat->Prop} {β:Nat->zh} {T:Tbl} {Q:List zn} {E:Owns} {F:Frame} {B:Nat} {a:Act}
theorem zcA {t:Ty} {x:t.T} {u:zh} (h:RepD w O t x u):RepV w O β t x u:=by
 cases t<;>first|exact h|exact absurd ((RepD.scalar rfl).1 h) (by simp[RepC])
theorem zh8 {va:V} {n:Nat} {v:V} (h:tupV n va.t va.x=some v) {ua:zh} (ha:RepV w O β va.t va.x ua):Yields P (Instr.extract ua n) w O β v:=by
 obtain⟨ta,xa⟩:=va;cases ta<;>first|(cases n<;>cases h;done)|skip
 obtain⟨vs,rfl,h1⟩:=ha;obtain⟨u,h2,h3⟩:=zjK n _ _ v vs h h1;refine .still (u:=u) ?_ (zcA h3);unfold Instr.extract;simp[h2]
theorem zld (hT:TOk P T Q) {xt:zn} {va:V} {r:List Prop×V} (h:lenV T xt va=some r) {ua:zh} (ha:RepV w O' β va.t va.x ua) (ty:zn):Yields P (vC #[xt] ty #[ua]) w O β r.2:=by
 obtain⟨ta,xa⟩:=va;unfold lenV at h;split at h
 ·rename_i l hv;obtain⟨rfl,hv⟩:=V.mk.inj hv;cases hv;split at h
  ·rename_i hs;cases h;obtain⟨e,_⟩:=RepV.str ha;subst e;have hsz:(⟨yD l⟩:ByteArray).size=zg l:=by simp[qG]
   refine .still (u:=.int .i64 ((zg l:Nat):Int)) ?_ (RepV.ofInt (k:=.i64));unfold vC;simp[zC,run_underlying (hT.is hs).1,goInt,hsz]
  ·cases h
 ·rename_i t l hv;obtain⟨rfl,hv⟩:=V.mk.inj hv;cases hv;split at h
  ·rename_i hs;cases h;obtain⟨te,hu,_⟩:=hT.is hs;obtain⟨A,c,e,_⟩:=(RepV.slice ha).nlen;subst e;refine .still (u:=.int .i64 ((zg l:Nat):Int)) ?_ (RepV.ofInt (k:=.i64));unfold vC;simp[zC,run_underlying hu,goInt]
  ·cases h
 ·rename_i n t l hv;obtain⟨rfl,hv⟩:=V.mk.inj hv;cases hv;split at h
  ·rename_i hs;cases h;obtain⟨te,hu,_⟩:=hT.is hs;refine .still (u:=.int .i64 ((n:Nat):Int)) ?_ (RepV.ofInt (k:=.i64));unfold vC;simp[zC,run_underlying hu,goInt]
  ·cases h
 ·cases h
theorem zcg {k:yC} {i:Int} {y:Nat} {c:BoundsCode} (h0:0≤i) (h1:i≤y):(uz (.int k i) y c).run P w= .ok i.toNat w:=by
 unfold uz;simp[zC,zds,h0,h1]
theorem zf4 {α:Type} {xs:List α} {lo hi:Option V} {r:List Prop×List α} (h:cutL xs lo hi=some r) (hp:allP r.1) {ul uh:Option zh} (hl:∀ v,lo=some v->∃ u,ul=some u∧RepV w O β v.t v.x u) (hl0:lo=none->ul=none)
  (hh:∀ v,hi=some v->∃ u,uh=some u∧RepV w O β v.t v.x u) (hh0:hi=none->uh=none) (b:Bool) {cap:Nat} (hc:xs.length≤cap):
  ∃ i j,i≤j∧j≤xs.length∧r.2=(xs.take j).drop i∧(qU b xs.length cap ul uh none).run P w= .ok (i,j,cap) w:=by
 cases lo with
 |none=>
  have:=hl0 rfl;subst this;cases hi with
  |none=>
   have:=hh0 rfl;subst this;cases h;exact⟨0,xs.length,by omega,by omega,by simp,by simp[qU]⟩
  |some v=>
   obtain⟨u,rfl,hu⟩:=hh v rfl;simp only[cutL]at h;split at h
   ·rename_i x hx;cases h;obtain⟨k,rfl⟩:=zcD hx hu;obtain⟨h0,h1⟩:=hp;have h1:x≤(xs.length:Int):=h1;refine⟨0,x.toNat,by omega,by omega,by simp,?_⟩;have hb:=zcg (P:=P) (w:=w) (k:=k) (y:=cap) (c:=if b then .sliceAcap else .sliceAlen) h0 (by omega);simp only[qU,zC,zv,zA,hb]
   ·cases h
 |some v=>
  obtain⟨u,rfl,hu⟩:=hl v rfl;cases hi with
  |none=>
   have:=hh0 rfl;subst this;simp only[cutL]at h;split at h
   ·rename_i x hx;cases h;obtain⟨k,rfl⟩:=zcD hx hu;obtain⟨h0,h1⟩:=hp;have h1:x≤(xs.length:Int):=h1;refine⟨x.toNat,xs.length,by omega,by omega,by simp,?_⟩;have hb:=zcg (P:=P) (w:=w) (k:=k) (y:=xs.length) (c:=.sliceB) h0 (by omega);simp only[qU,zC,zv,zA,xP,yw,if_false,hb]
   ·cases h
  |some v'=>
   obtain⟨u',rfl,hu'⟩:=hh v' rfl;simp only[cutL]at h;split at h
   ·rename_i x x' hx hx';cases h;obtain⟨k,rfl⟩:=zcD hx hu;obtain⟨l,rfl⟩:=zcD hx' hu';obtain⟨h0,h1,h2⟩:=hp;have h2:x'≤(xs.length:Int):=h2;refine⟨x.toNat,x'.toNat,by omega,by omega,by simp,?_⟩;have hb:=zcg (P:=P) (w:=w) (k:=l) (y:=cap) (c:=if b then .sliceAcap else .sliceAlen) (show 0≤x' by omega) (by omega);have hb':=zcg (P:=P) (w:=w) (k:=k) (y:=x'.toNat) (c:=.sliceB) h0 (by omega);simp only[qU,zC,zv,zA,xP,yw,if_false,hb,hb']
   ·cases h
theorem ziR (hT:TOk P T Q) {xt:zn} {va:V} {lo hi:Option V} {r:List Prop×V} (h:znX T xt va lo hi=some r) (hp:allP r.1) {ua:zh} (ha:RepV w O β va.t va.x ua) {ul uh:Option zh}
  (hl:∀ v,lo=some v->∃ u,ul=some u∧RepV w O β v.t v.x u) (hl0:lo=none->ul=none)
  (hh:∀ v,hi=some v->∃ u,uh=some u∧RepV w O β v.t v.x u) (hh0:hi=none->uh=none):Yields P (qB xt ua ul uh none) w O β r.2:=by
 obtain⟨ta,xa⟩:=va;unfold znX at h;split at h
 ·rename_i l hv;obtain⟨rfl,hv⟩:=V.mk.inj hv;cases hv;split at h
  ·rename_i hs;obtain⟨q,h1,rfl⟩:=zjw h;have ha:RepV w O β .str l ua:=ha;obtain⟨e,hlen⟩:=RepV.str ha;subst e;have hsz:(⟨yD l⟩:ByteArray).size=zg l:=by simp[qG]
   obtain⟨i,j,h2,h3,h4,h5⟩:=zf4 (P:=P) h1 hp hl hl0 hh hh0 false (cap:=zg l) (zl _);refine .still (u:=.string ⟨(q.2:List UInt8).toArray⟩) ?_ (RepV.ofStr (by rw[h4];simp;omega));have hu:=(hT.is hs).1;unfold qB uK;simp only[zC,run_underlying hu,zA,xP,yw,if_false,zv,hsz,h5]
   congr 2
   have e2:ug ⟨yD l⟩ i j=⟨(yD l).extract i j⟩:=by
    have:=ByteArray.data_extract (a:=⟨yD l⟩) (b:=i) (e:=j);cases hE:ug ⟨yD l⟩ i j with
    |mk d=>rw[hE]at this;simp only at this;rw[this]
   rw[e2,h4]
   congr 1
   simp[vP,jc]
  ·cases h
 ·rename_i t xs hv;obtain⟨rfl,hv⟩:=V.mk.inj hv;cases hv;split at h
  ·rename_i hs;obtain⟨q,h1,rfl⟩:=zjw h;obtain⟨te,hu,_,hte⟩:=hT.is hs;show Yields P _ w O β ⟨.slice t,q.2⟩;have key:∀ A c,xs.length≤c->∃ i j,i≤j∧j≤xs.length∧q.2=(xs.take j).drop i∧(qB xt (.slice A xs.length c) ul uh none).run P w= .ok (.slice (if c=i then A else A.map (·.add (i * t.size))) (j - i) (c - i)) w:=by
    intro A c hc;obtain⟨i,j,h2,h3,h4,h5⟩:=zf4 (P:=P) h1 hp hl hl0 hh hh0 true (cap:=c) hc;refine⟨i,j,h2,h3,h4,?_⟩;unfold qB uK;simp only[zC,run_underlying hu,zA,h5,hte.sizeOf,zv]
   have ha:RepV w O β (.slice t) xs ua:=ha;rcases RepV.slice ha with ⟨rfl,A,c,rfl,hc⟩|⟨g,off,c,vs,rfl,hx,h5,h6,h7,h8,h9,h10⟩
   ·obtain⟨i,j,h2,h3,h4,hrun⟩:=key A c (by simp);have hj:j=0:=by simpa using h3
    subst hj;refine .still hrun (RepV.ofSlice (.inl ⟨by rw[h4];simp,(if c=i then A else A.map (·.add (i * t.size))),c - i,?_,by omega⟩));rw[show 0 - i=0 by omega]
   ·obtain⟨i,j,h2,h3,h4,hrun⟩:=key _ c h5;refine .still hrun (RepV.ofSlice ?_);show RepS w O (RepC w O t) q.2 _;have hq:(q.2:List t.T).length=j - i:=by rw[h4];simp;omega
    by_cases hij:i=j
    ·subst hij;exact .inl ⟨by rw[h4];simp,(if c=i then some ⟨g,off,none⟩ else (some (⟨g,off,none⟩:Addr)).map (·.add (i * t.size))),c - i,by rw[show i - i=0 by omega],by omega⟩
    ·refine .inr ⟨g,off+i * t.size,c - i,(vs.take (j * t.size)).drop (i * t.size),?_,?_,by omega,by omega,h7,h8,?_,?_⟩
     ·rw[if_neg (by omega),uO,yZ,hq]
     ·intro he;rw[he]at hq;simp at hq;omega
     ·rw[h4];exact (h9.take (fun x c=>RepC.len t x c) j).drop (fun x c=>RepC.len t x c) i
     ·exact (h10.take _).drop _
  ·cases h
 ·rename_i n t xs hv;obtain⟨rfl,hv⟩:=V.mk.inj hv;cases hv;split at h
  ·rename_i hs;simp only[zf,qt]at hs;obtain⟨q,h1,rfl⟩:=zjw h;obtain⟨te,hu,_,hte⟩:=hT.is hs.1;show Yields P _ w O β ⟨.slice t,q.2⟩;obtain⟨g,off,vs,rfl,h7,h8,hc,h10⟩:RepV w O β (.vptr (.arr n t)) xs ua:=ha;obtain⟨hxl,h9⟩:=hc;have hxl:zg xs=n:=hxl;obtain⟨i,j,h2,h3,h4,h5⟩:=zf4 (P:=P) h1 hp hl hl0 hh hh0 false (cap:=zg xs) (zl _);have hrun:(qB xt (.pointer (some ⟨g,off,none⟩)) ul uh none).run P w= .ok (.slice (some (if zg xs=i then ⟨g,off,none⟩ else (⟨g,off,none⟩:Addr).add (i * t.size))) (j - i) (zg xs - i)) w:=by
    rw[hxl]at h5 ⊢;unfold qB;simp only[zC,run_underlying hu,zA,h5,hte.sizeOf,zv,ql]
   refine .still hrun (RepV.ofSlice ?_);show RepS w O (RepC w O t) q.2 _;have hq:(q.2:List t.T).length=j - i:=by rw[h4];simp;omega
   have hmax:zg xs≤maxLen:=by rw[hxl];exact zH hs.2 (by unfold maxLen;omega)
   by_cases hij:i=j
   ·subst hij;exact .inl ⟨by rw[h4];simp,_,zg xs - i,by rw[show i - i=0 by omega],by omega⟩
   ·refine .inr ⟨g,off+i * t.size,zg xs - i,(vs.take (j * t.size)).drop (i * t.size),?_,?_,by omega,by omega,h7,h8,?_,?_⟩
    ·rw[if_neg (by omega),yZ,hq]
    ·intro he;rw[he]at hq;simp at hq;omega
    ·rw[h4];exact (h9.take (fun x c=>RepC.len t x c) j).drop (fun x c=>RepC.len t x c) i
    ·exact (h10.take _).drop _
  ·cases h
 ·cases h
end
def over (cs:List zh) (off:Nat) (vs:List zh):List zh:=cs.take off++vs++cs.drop (off+vs.length)
theorem ziD:∀ (vs:List zh) (k off:Nat) (cs:List zh),off+k+vs.length≤cs.length->
  ((vs.zipIdx k).foldl (fun (c:Array zh) (p:zh×Nat)=>c.setIfInBounds (off+p.2) p.1) cs.toArray)=(over cs (off+k) vs).toArray
 | [],k,off,cs,_=>by simp[over]
 |v::vs,k,off,cs,h=>by
  simp only[zt]at h;simp only[List.zipIdx_cons,List.foldl_cons,List.setIfInBounds_toArray];rw[ziD vs (k+1) off (cs.set (off+k) v) (by simp;omega)]
  congr 1
  unfold over;rw[show off+(k+1)=off+k+1 by omega,List.take_set,List.drop_set];rw[if_pos (by omega)];simp only[zt];rw[show off+k+1+vs.length=off+k+(vs.length+1) by omega]
  congr 1
  rw[show ((jl (off+k+1) cs).set (off+k) v)=jl (off+k) cs++ [v] by
   rw[List.take_succ_eq_append_getElem (by omega)];rw[List.set_append_right _ _ (by simp;omega)];simp;rw[show off+k - min (off+k) cs.length=0 by omega];rfl]
  simp
theorem zhh {cs vs:List zh} {off:Nat} (h:off+vs.length≤cs.length):(over cs off vs).length=cs.length:=by
 simp[over];omega
section
variable {P:zx} {w:zj} {O O':Nat->Prop} {β:Nat->zh} {T:Tbl} {Q:List zn} {E:Owns} {F:Frame} {B:Nat} {a:Act}
theorem RepD.cells {t:Ty} {x:t.T} {u:zh} (h:RepD w O t x u):RepC w O t x u.cells.toList:=by
 unfold RepD at h;split at h
 ·obtain⟨cs,rfl,h⟩:=h
  simpa [Value.cells] using h
 ·have h1:=RepC.oneCell _ _ _ h u (by simp);have:u.cells= #[u]:=by cases u<;>first|rfl|(simp[qi]at h1)
  rw[this];exact h
theorem zkx {place:Nat->Option (Nat×Nat)} {cs:List zh} {i off size:Nat} {u:zh} {rest:List (Nat×zh)} (hp:place i=some (off,size)) (hs:u.cells.toList.length=size) (hl:off+size≤cs.length):
  kv place cs.toArray ((i,u)::rest)=kv place (over cs off u.cells.toList).toArray rest:=by
 have hs':u.cells.size=size:=by simpa using hs
 simp only[kv,hp];rw[if_neg (by
  simp only[Bool.or_eq_true,decide_eq_true_eq,not_or,hs',qV];exact⟨fun h=>h rfl,by omega⟩)]
 congr 1
 have:=ziD u.cells.toList 0 off cs (by omega);rw[Nat.add_zero]at this;rw[<-this, <-Array.foldl_toList]
 congr 1
 simp
theorem zgi:∀ (n:Nat) (τ:Ty) (x y:τ.T) (v:V) (u:zh) (fs:List vf) (off:Nat) (cs:List zh),zfi n τ x v=some y->Lay P τ (.inr (fs,off))->RepC w O τ x cs->RepV w O β v.t v.x u->
  ∃ f i,fs[n]? =some f∧P.info? f.type=some i∧f.offset=off+za9 n τ∧u.cells.toList.length=i.size∧za9 n τ+i.size≤cs.length∧RepC w O τ y (over cs (za9 n τ) u.cells.toList)
 |0,.pair a b,x,y,v,u,fs,off,cs,h,hl,hr,hv=>by
  simp only[zfi]at h;split at h<;>first|(cases h;done)|skip
  rename_i z h0;cases h;obtain⟨f,r,h1,h2,h3,h4⟩:=hl;simp only at h1 h2;subst h1;obtain⟨c1,c2,rfl,h5,h6⟩:=hr;obtain⟨i,z',hi,hsz,_⟩:=h3.info;have hc:=(zf6 h3.data h0 hv).cells;have l1:=RepC.len _ _ _ h5;have l2:=RepC.len _ _ _ hc;refine⟨f,i,rfl,hi,by simp[za9,h2],by rw[l2,hsz],by simp[za9,hsz,l1],u.cells.toList,c2,?_,hc,h6⟩;simp only[over,za9,List.take_zero,List.nil_append,yp,l2, <-l1,qm]
 |n+1,.pair a b,x,y,v,u,fs,off,cs,h,hl,hr,hv=>by
  simp only[zfi]at h;split at h<;>first|(cases h;done)|skip
  rename_i z h0;cases h;obtain⟨f,r,h1,h2,h3,h4⟩:=hl;simp only at h1 h2;subst h1;obtain⟨c1,c2,rfl,h5,h6⟩:=hr;obtain⟨f',i,g1,g2,g3,g4,g5,g6⟩:=zgi n b x.2 z v u r _ c2 h0 h4 h6 hv;have l1:=RepC.len _ _ _ h5;refine⟨f',i,by simpa using g1,g2,by rw[g3];simp[za9,xU],g4,by simp[za9,l1];omega,c1,_,?_,h5,g6⟩;simp only[over,za9, <-l1,xU];rw[js,xT];simp
 |0,.unit,_,_,_,_,_,_,_,h,_,_,_=>by cases h
 |_+1,.unit,_,_,_,_,_,_,_,h,_,_,_=>by cases h
 |n,.bool,_,_,_,_,_,_,_,h,_,_,_=>by cases n<;>cases h
 |n,.int _,_,_,_,_,_,_,_,h,_,_,_=>by cases n<;>cases h
 |n,.str,_,_,_,_,_,_,_,h,_,_,_=>by cases n<;>cases h
 |n,.arr _ _,_,_,_,_,_,_,_,h,_,_,_=>by cases n<;>cases h
 |n,.slice _,_,_,_,_,_,_,_,h,_,_,_=>by cases n<;>cases h
 |n,.junk,_,_,_,_,_,_,_,h,_,_,_=>by cases n<;>cases h
 |n,.lit,_,_,_,_,_,_,_,h,_,_,_=>by cases n<;>cases h
 |n,.vptr _,_,_,_,_,_,_,_,h,_,_,_=>by cases n<;>cases h
 |n,.cptr _ _ _,_,_,_,_,_,_,_,h,_,_,_=>by cases n<;>cases h
 |n,.optr _,_,_,_,_,_,_,_,h,_,_,_=>by cases n<;>cases h
 |n,.obuf _,_,_,_,_,_,_,_,h,_,_,_=>by cases n<;>cases h
 |n,.tup _ _,_,_,_,_,_,_,_,h,_,_,_=>by cases n<;>cases h
 |n,.cond _,_,_,_,_,_,_,_,h,_,_,_=>by cases n<;>cases h
def zgA (w:zj) (O:Nat->Prop) (β:Nat->zh):List (Nat×V)->List (Nat×zh)->Prop
 | [],us=>us=[]
 |(i,v)::r,us=>∃ u s,us=(i,u)::s∧RepV w O β v.t v.x u∧zgA w O β r s
theorem zez:∀ {ps:List (Nat×V)} {us:List (Nat×zh)},zgA w O β ps us->allP (zec ps).1->zgA w O β (zec ps).2 us
 | [],us,h,_=>h
 |(i,v)::r,us,h,hp=>by
  obtain⟨u,s,rfl,h1,h2⟩:=h;simp only[zec,zax]at hp;exact⟨u,s,rfl,za7 h1 hp.1,zez h2 hp.2⟩
theorem zha {ps:List (Nat×zE)} (hops:∀ p∈ps,RepV w O β (evO F p.2).t (evO F p.2).x (a.eval p.2)):zgA w O β (ps.map fun p=>(p.1,evO F p.2)) (ps.map fun p=>(p.1,a.eval p.2)):=by
 induction ps with
 |nil=>rfl
 |cons p ps ih=>exact⟨_,_,rfl,hops p (by simp),ih fun q hq=>hops q (by simp[hq])⟩
theorem zfh {τ:Ty} {fs:List vf} (hl:Lay P τ (.inr (fs,0))) {place:Nat->Option (Nat×Nat)} (hpl:∀ (n:Nat) (f:vf) (i:TypeInfo),fs[n]? =some f->P.info? f.type=some i->place n=some (f.offset,i.size)):
  ∀ (ps:List (Nat×V)) (us:List (Nat×zh)) (x y:τ.T) (cs:List zh),zgA w O β ps us->ziT τ x ps=some y->RepC w O τ x cs->∃ ds:List zh,kv place cs.toArray us=some ds.toArray∧RepC w O τ y ds
 | [],us,x,y,cs,h,hs,hr=>by
  cases h;cases hs;exact⟨cs,rfl,hr⟩
 |(i,v)::r,us,x,y,cs,h,hs,hr=>by
  obtain⟨u,s,rfl,h1,h2⟩:=h;obtain⟨z,h3,h4⟩:=qp.1 hs;obtain⟨f,inf,g1,g2,g3,g4,g5,g6⟩:=zgi i τ x z v u fs 0 cs h3 hl hr h1;rw[yp]at g3;rw[zkx (hpl i f inf g1 g2) g4 (by omega),g3];exact zfh hl hpl r s z y _ h2 h4 g6
theorem zj3:∀ (τ:Ty) (fs:List vf) (off:Nat),Lay P τ (.inr (fs,off))->∃ places,fs.mapM (fun f=>(P.info? f.type).map fun i=>(f.offset,i.size))=some places∧
  ∀ (n:Nat) (f:vf) (i:TypeInfo),fs[n]? =some f->P.info? f.type=some i->places[n]? =some (f.offset,i.size):=by
 intro τ
 induction τ with
 |unit=>
  intro fs off h;have:fs=[]:=h;subst this;exact⟨[],rfl,fun n f i h=>by simp at h⟩
 |pair a b _ ihb=>
  rintro fs off ⟨f,r,h1,h2,h3,h4⟩;simp only at h1 h4;subst h1;obtain⟨pl,h5,h6⟩:=ihb r _ h4;obtain⟨i,z,hi,_⟩:=h3.info;refine⟨(f.offset,i.size)::pl,by simp[List.mapM_cons,hi,h5],fun n f' i' hn hi'=>?_⟩;cases n with
  |zero=>simp at hn;subst hn;rw[hi]at hi';cases hi';rfl
  |succ n=>exact h6 n f' i' (by simpa using hn) hi'
 |_=>intro fs off h;exact absurd h (by simp[Lay])
theorem zdV {e:Ty} (he:e.data=true) {place:Nat->Option (Nat×Nat)} (hpl:∀ n,place n=some (n * e.size,e.size)):
  ∀ (ps:List (Nat×V)) (us:List (Nat×zh)) (x y:List e.T) (cs:List zh),zgA w O β ps us->zfj e x ps=some y->RepL (RepC w O e) x cs->∃ ds:List zh,kv place cs.toArray us=some ds.toArray∧RepL (RepC w O e) y ds∧y.length=x.length
 | [],us,x,y,cs,h,hs,hr=>by
  cases h;cases hs;exact⟨cs,rfl,hr,rfl⟩
 |(i,v)::r,us,x,y,cs,h,hs,hr=>by
  obtain⟨u,s,rfl,h1,h2⟩:=h;simp only[zfj]at hs;split at hs
  ·rename_i hb;have hlt:i < x.length:=by simpa using hb
   obtain⟨z,h3,h4⟩:=qp.1 hs;have hc:=(zf6 he h3 h1).cells;have hlen:=RepC.len _ _ _ hc;have hl:=hr.len (fun x c=>RepC.len e x c);have hle:i * e.size+e.size≤cs.length:=by
    have:=xR e.size (show i+1≤x.length by omega);rw[xp,vV]at this;omega
   rw[zkx (hpl i) hlen hle];have hset:=hr.set (fun x c=>RepC.len e x c) hlt hc;rw[show over cs (i * e.size) u.cells.toList=cs.take (i * e.size)++u.cells.toList++cs.drop (i * e.size+e.size) by simp only[over,hlen]];obtain⟨ds,g1,g2,g3⟩:=zdV he hpl r s (x.set i z) y _ h2 h4 hset;exact⟨ds,g1,g2,by rw[g3];simp⟩
  ·cases hs
theorem zdb:∀ (t:Ty),t.data=true->(zbW t).length=t.size:=fun t h=>RepC.len (w:=default) (O:=fun _=>False) _ _ _ (zfm _ _ t h)
theorem zfT {e:Ty} (he:e.data=true) (n:Nat):RepL (RepC w O e) (zu n (za8 e)) (zu n (zbW e)).flatten:=by
 induction n with
 |zero=>rfl
 |succ n ih=>exact⟨_,_,rfl,zfm _ _ e he,ih⟩
theorem zgV (zc:Array zh) (hz:0 < zc.size) (n:Nat):(uL (n * zc.size)).map (fun i=>zc[i % zc.size]!)=(zu n zc.toList).flatten.toArray:=by
 apply qc.1;simp only[jD,Array.toList_range]
 induction n with
 |zero=>simp
 |succ n ih=>
  rw[xp,vV,List.range_add,List.map_append,ih,List.replicate_succ',vv]
  congr 1
  simp only[List.flatten_cons,uA,zL,List.map_map];apply List.ext_getElem
  ·simp
  ·intro i h1 h2;simp at h1;simp[Nat.mul_add_mod_of_lt h1,h1]
theorem zjs (hT:TOk P T Q) {t:zn} {ps:List (Nat×V)} {r:List Prop×V} (h:zpR T t ps=some r) (hp:allP r.1) {us:Array (Nat×zh)} (hu:zgA w O β ps us.toList):Yields P (Instr.build t us) w O β r.2:=by
 unfold zpR at h;split at h
 ·rename_i a b ht;split at h<;>first|(cases h;done)|skip
  rename_i x h1;cases h;have hl:=hT.lay _ _ ht;have hl':=hl;obtain⟨fs,h2,hinf,f,rr,h3,h4,h5,h6⟩:=hl;obtain⟨i,z,hi,hs,hz,hzc,_⟩:=hinf;have hlr:Lay P (.pair a b) (.inr (fs.toList,0)):=⟨f,rr,h3,h4,h5,by simpa using h6⟩;obtain⟨places,h7,h8⟩:=zj3 _ _ _ hlr;obtain⟨ds,g1,g2⟩:=zfh hlr (place:=(places.toArray[·]?)) (fun n f i hn hi=>by simpa using h8 n f i hn hi) _ us.toList _ x (zbW (.pair a b)) (zez hu hp) h1 (zfm _ _ _ hl'.data);refine .still (u:=.agg ds.toArray) (run_build w t us _ ?_) (zcA ((RepD.agg rfl).2 ⟨ds,rfl,g2⟩));unfold kQ;rw[hi,h2];simp only[hz,h7,hzc];exact g1
 ·rename_i n e ht;split at h<;>first|(cases h;done)|skip
  rename_i x h1;cases h;obtain⟨te,h2,hinf,hte⟩:=hT.lay _ _ ht;obtain⟨i,z,hi,hs,hz,hzc,_⟩:=hinf;obtain⟨ie,ze,hie,hse,_⟩:=hte.info;obtain⟨ds,g1,g2,g3⟩:=zdV hte.data (place:=fun i=>some (i * ie.size,ie.size)) (fun n=>by rw[hse]) _ us.toList _ x _ (zez hu hp) h1 (zfT hte.data n);refine .still (u:=.agg ds.toArray) (run_build w t us _ ?_) (zcA ((RepD.agg rfl).2 ⟨ds,rfl,by rw[g3];simp,g2⟩));unfold kQ;rw[hi,h2];simp only[hz,hie,hzc];exact g1
 ·cases h
theorem zeu (hT:TOk P T Q) {t:zn} {len:Nat} {ps:List (Nat×V)} {r:List Prop×(t:Ty)×List t.T} (h:zcr T t len ps=some r) (hp:allP r.1) {us:Array (Nat×zh)} (hu:zgA w O β ps us.toList):
  ∃ ds te,P.underlying t=some (.slice te)∧Lay P r.2.1 (.inl te)∧0 < r.2.1.size∧RepL (RepC w O r.2.1) r.2.2 ds∧r.2.2.length=len∧(kh t len us).run P w= .ok (.slice (some ⟨w.heap.size,0,none⟩) len len) (w.alloc (.cells ds.toArray te)):=by
 unfold zcr at h;split at h
 ·rename_i e ht;split at h
  ·rename_i hb;split at h<;>first|(cases h;done)|skip
   rename_i x h1;cases h;simp only[zf,qt]at hb;have hpos:0 < e.size:=by simpa using hb.2
   obtain⟨te,h2,_,hte⟩:=hT.lay _ _ ht;obtain⟨ie,ze,hie,hse,hze,hzc,_⟩:=hte.info;have hzs:ze.cells.size=e.size:=by rw[hzc];simp[zdb e hte.data]
   obtain⟨ds,g1,g2,g3⟩:=zdV hte.data (place:=fun i=>some (i * ie.size,ie.size)) (fun n=>by rw[hse]) _ us.toList _ x _ (zez hu hp) h1 (zfT hte.data len);refine⟨ds,te,h2,hte,hpos,g2,by rw[g3];simp,?_⟩;have hz0:(uL (len * ie.size)).map (ze.cells[· % ze.cells.size]!)=(zu len (zbW e)).flatten.toArray:=by
    have:=zgV ze.cells (by omega) len;rw[hzs]at this;rw[hse,hzs,this,hzc]
   by_cases h0:len=0
   ·subst h0;simp only[List.replicate_zero,uA]at g1;simp[kh,run_underlying h2,jV,typeInfo,zeroValue,hie,hze,g1,newRow,show uL 0= #[] from rfl]
   ·refine run_buildSlice w t te len us _ ie ze h2 hie hze (by rw[hse];omega) (by rw[hse];exact Nat.mul_ne_zero h0 (by omega)) ?_;rw[hz0];exact g1
  ·cases h
 ·cases h
theorem zfG (hT:TOk P T Q) (hO:∀ g,O g->g < w.heap.size) {t:zn} {len:Nat} (hlen:len≤maxLen) {ps:List (Nat×V)} {r:List Prop×(t:Ty)×List t.T} (h:zcr T t len ps=some r) (hp:allP r.1) {us:Array (Nat×zh)}
  (hu:zgA w O β ps us.toList):Yields P (kh t len us) w O β ⟨.slice r.2.1,r.2.2⟩:=by
 obtain⟨ds,te,_,_,_,h1,h2,h3⟩:=zeu hT h hp hu;refine⟨_,_,h3,za4 _ _,RepV.ofSlice ?_⟩;have:=zlM hO h1 (cap:=len) (by omega) hlen (za4 w (.cells ds.toArray te)) (heap_alloc_new w _) (fun j u hj=>by simpa using hj);rw[h2]at this;exact this
theorem zhi {op:Builtin} (hop:op= .min∨op= .max) {vs:List V} {r:List Prop×V} (h:minV op vs=some r) {us:List zh} (hu:∀ (i:Nat) (v:V),vs[i]? =some v->∃ u,us[i]? =some u∧RepV w O' β v.t v.x u) (hl:us.length=vs.length) (ts:Array zn) (ty:zn):
  (op= .min->Yields P (uj ts ty us.toArray) w O β r.2)∧(op= .max->Yields P (uk ts ty us.toArray) w O β r.2):=by
 unfold minV at h;split at h
 ·rename_i x y;obtain⟨u0,h0,e0⟩:=hu 0 _ rfl;obtain⟨u1,h1,e1⟩:=hu 1 _ rfl;have e0:=RepV.int e0;have e1:=RepV.int e1
  match us,hl with
  | [a,b],_=>
   simp at h0 h1;subst h0;subst h1;subst e0;subst e1;constructor
   ·rintro rfl;cases h;refine .still (u:=.int .i64 (min (x:Int) y)) ?_ (RepV.ofInt (k:=.i64));simp only[uj,uB,List.foldlM_nil,Builtin.min2,zC,zv,zA,encI]
    congr 2
    simp only[Int.min_def];split<;>split<;>omega
   ·rintro rfl;cases h;refine .still (u:=.int .i64 (max (x:Int) y)) ?_ (RepV.ofInt (k:=.i64));simp only[uk,uB,List.foldlM_nil,Builtin.max2,zC,zv,zA,encI]
    congr 2
    simp only[Int.max_def];split<;>split<;>omega
 ·cases h
end
def NYields (P:zx) (s:Sem Next) (w:zj) (O:Nat->Prop) (β:Nat->zh) (r:V):Prop:=
 ∃ u w',s.run P w= .ok (.value u) w'∧yV w.heap.size w w'∧RepV w' O β r.t r.x u
section
variable {P:zx} {w:zj} {O O':Nat->Prop} {β:Nat->zh} {T:Tbl} {Q:List zn} {E:Owns} {F:Frame} {B:Nat} {a:Act}
theorem Yields.next {s:Sem zh} {r:V} (h:Yields P s w O β r):NYields P (do pure (.value (<-s))) w O β r:=by
 obtain⟨u,w',h1,h2,h3⟩:=h;exact⟨u,w',by simp[h1],h2,h3⟩
theorem NYields.still {s:Sem Next} {r:V} {u:zh} (h:s.run P w= .ok (.value u) w) (hr:RepV w O β r.t r.x u):NYields P s w O β r:=⟨u,w,h,zV _ _,hr⟩
theorem zdk {α γ:Type} (f:α->γ) (xs:Array α):(xs.toList.map f).toArray=xs.map f:=by rw[<-jD,Array.toArray_toList]
theorem zir (hT:TOk P T Q) (hO:∀ g,O g->g < w.heap.size) (hown:∀ i o,Owns.get E i=some o->OwnRep w O β B (β i) o) {o:Oper} {r:List Prop×V} (h:pOp T Q E F o.op=some r) (hp:allP r.1)
  (hops:∀ x∈o.op.operands,RepV w O β (evO F x).t (evO F x).x (a.eval x)):NYields P (execOp a.eval o) w O β r.2:=by
 obtain⟨dst,op,ty,pos,after,guard⟩:=o;simp only at h hops;have minArgs:∀ {b:Builtin} {args:Array zE} {ats:Array zn},(∀ x∈(Op.call ⟨.builtin b,args,ats⟩).operands,RepV w O β (evO F x).t (evO F x).x (a.eval x))->allP (args.toList.map fun x=>(zaM (evO F x)).1).flatten->
   ∀ (i:Nat) (v:V),(args.toList.map fun x=>(zaM (evO F x)).2)[i]? =some v->∃ u,(args.toList.map a.eval)[i]? =some u∧RepV w O β v.t v.x u:=by
  intro b args ats hops hp i v hv;rw[ym]at hv;obtain⟨x,hx,rfl⟩:=zG.1 hv;have hm:x∈args.toList:=qn hx;refine⟨a.eval x,by rw[ym,hx];rfl,za7 (hops x (by simp[yu,ka];simpa using hm)) ?_⟩;rw[zrB]at hp ⊢;exact fun p hpm=>hp p (List.mem_flatten.2 ⟨_,List.mem_map.2 ⟨x,hm,rfl⟩,hpm⟩)
 have one:∀ (x:zE),RepV w O β (evO F x).t (evO F x).x (a.eval x)->allP (zaM (evO F x)).1->RepV w O β (zaM (evO F x)).2.t (zaM (evO F x)).2.x (a.eval x):=fun x hx hp=>za7 hx hp;cases op with
 |move x=>cases h;exact .still rfl (hops x (by simp[yu]))
 |assign x=>cases h;exact .still rfl (hops x (by simp[yu]))
 |pick c x y=>
  have hc:=hops c (by simp[yu]);have hx:=hops x (by simp[yu]);have hy:=hops y (by simp[yu]);obtain⟨b,h1,h2⟩:=zoy h hp hc hx hy;refine .still (u:=if b then a.eval x else a.eval y) ?_ h2;unfold execOp;simp[h1,asBool]
 |binOp op xt x y yt=>
  obtain⟨q,h1,rfl⟩:=zbn h;simp only[zax]at hp;have hx:=one x (hops x (by simp[yu])) hp.1.1;have hy:=one y (hops y (by simp[yu])) hp.1.2;exact (zlz hT h1 hp.2 hx hy (x:=x) (y:=y)).next
 |unOp op t x=>
  obtain⟨q,h1,rfl⟩:=zbn h;simp only[zax]at hp;exact (zmK h1 hp.2 (one x (hops x (by simp[yu])) hp.1)).next
 |convert s d x=>
  obtain⟨q,h1,rfl⟩:=zbn h;simp only[zax]at hp;exact (znr hT hO h1 hp.2 (zls hown (one x (hops x (by simp[yu])) hp.1))).next
 |index xt x i=>
  obtain⟨q,h1,rfl⟩:=zbn h;simp only[zax]at hp;exact (zjg hT h1 hp.2 (one x (hops x (by simp[yu])) hp.1.1) (one i (hops i (by simp[yu])) hp.1.2)).next
 |indexAddr xt x i=>
  obtain⟨q,h1,rfl⟩:=zbn h;simp only[zax]at hp;exact (zf1 hT hown h1 hp.2 (one x (hops x (by simp[yu])) hp.1.1) (one i (hops i (by simp[yu])) hp.1.2)).next
 |load t x=>
  obtain⟨q,h1,rfl⟩:=zbn h;simp only[zax]at hp;exact (zka hT hown h1 hp.2 (one x (hops x (by simp[yu])) hp.1)).next
 |field xt x n=>
  obtain⟨q,h1,rfl⟩:=zbn h;simp only[zax]at hp;exact (zh7 hT h1 (one x (hops x (by simp[yu])) hp.1)).next
 |fieldAddr s x n=>
  obtain⟨q,h1,rfl⟩:=zbn h;simp only[zax]at hp;exact (zf3 hT h1 (one x (hops x (by simp[yu])) hp.1)).next
 |extract x n=>
  simp only[pOp]at h;obtain⟨v,h1,rfl⟩:=zif h;exact (zh8 h1 (one x (hops x (by simp[yu])) hp)).next
 |slice xt x lo hi mx=>
  cases mx with
  |some m=>cases h
  |none=>
   obtain⟨q,h1,rfl⟩:=zbn h;simp only[zax]at hp;refine (ziR hT h1 hp.2 (one x (hops x (by simp[yu])) hp.1.1) (ul:=lo.map a.eval) (uh:=hi.map a.eval) ?_ (by intro h;cases lo<;>simp_all) ?_ (by intro h;cases hi<;>simp_all)).next
   ·intro v hv;obtain⟨y,rfl,rfl⟩:=zG.1 hv;exact⟨_,rfl,one y (hops y (by simp[yu])) hp.1.2.1⟩
   ·intro v hv;obtain⟨y,rfl,rfl⟩:=zG.1 hv;exact⟨_,rfl,one y (hops y (by simp[yu])) hp.1.2.2⟩
 |build t parts=>
  have hps:zgA w O β (parts.toList.map fun p=>(p.1,evO F p.2)) (parts.map fun p=>(p.1,a.eval p.2)).toList:=by
   rw[jD];exact zha fun p hpm=>hops p.2 (by simp only[yu];simp;exact⟨p.1,by simpa using hpm⟩)
  exact (zjs hT h hp hps).next
 |buildSlice t len parts=>
  simp only[pOp]at h;split at h<;>first|(cases h;done)|skip
  rename_i pq eq xq h1;cases h;have hps:zgA w O β (parts.toList.map fun p=>(p.1,evO F p.2)) (parts.map fun p=>(p.1,a.eval p.2)).toList:=by
   rw[jD];exact zha fun p hpm=>hops p.2 (by simp only[yu];simp;exact⟨p.1,by simpa using hpm⟩)
  have hlen:len≤maxLen:=by
   unfold zcr at h1;split at h1
   ·split at h1
    ·rename_i e _ hb;simp only[zf,qt]at hb;have hpos:0 < e.size:=by simpa using hb.2
     have:=ki len hpos;simp only[maxLen];omega
    ·cases h1
   ·cases h1
  exact (zfG hT hO hlen h1 hp hps).next
 |makeFunc fn first caps=>
  cases fn with
  |func f=>
   simp only[pOp]at h;split at h<;>first|(cases h;done)|skip
   rename_i t x hf hc;cases h;have ef:first= #[]:=by rw[<-qc,hf]
   subst ef;refine .still (u:=.func (.func f) #[] (caps.toList.map a.eval).toArray) ?_ ⟨_,rfl,?_⟩
   ·unfold execOp;rw[zdk];simp[Instr.makeFunc]
   ·have key:∀ (l:List zE) (y:(t:Ty)×t.T),(∀ z∈l,RepV w O β (evO F z).t (evO F z).x (a.eval z))->cloV (l.map (evO F))=some y->RepCap w O y.1 y.2 (l.map a.eval):=by
     intro l
     induction l with
     |nil=>intro y _ hy;cases hy;exact rfl
     |cons z l ih=>
      intro y hz hy;simp only[List.map_cons]at hy;unfold cloV at hy;split at hy
      ·rename_i he;cases he
      ·rename_i q a' x' r' he;split at hy<;>first|(cases hy;done)|skip
       rename_i t y' hr;cases hy;obtain⟨e1,e2⟩:=v8 he;have h0:=hz z (by simp);rw[e1]at h0;rw[<-e2]at hr;exact⟨_,_,rfl,h0,ih _ (fun z hz'=>hz z (by simp[hz'])) hr⟩
      ·cases hy
    exact key caps.toList ⟨t,x⟩ (fun z hz=>hops z (by simp only[yu];simp;simpa using hz)) hc
  |_=>cases h
 |nilCheck x=>
  have hx:=hops x (by simp[yu]);simp only[pOp]at h;split at h
  ·rename_i p t y he;cases h;have h1:=one x hx (by rw[he];exact hp);rw[he]at h1;have h1':=h1;obtain⟨g,off,cs,h2,_⟩:=h1;refine .still (u:=a.eval x) ?_ h1';unfold execOp;simp[h2]
  ·rename_i p t y he;cases h;have h1:=one x hx (by rw[he];exact hp);rw[he]at h1;have h1':=h1;obtain⟨g,h0,h2⟩:=h1;refine .still (u:=a.eval x) ?_ h1';unfold execOp;simp[h2]
  ·rename_i p y he;cases h;have h1:=one x hx (by rw[he];exact hp);rw[he]at h1;have h1':=h1;obtain⟨g,h0,h2⟩:=h1;refine .still (u:=a.eval x) ?_ h1';unfold execOp;simp[h2]
  ·cases h
 |call c=>
  obtain⟨callee,args,ats⟩:=c;simp only[pOp]at h;split at h
  ·split at h
   ·rename_i x t ha ht;obtain⟨q,h1,rfl⟩:=zbn h;simp only[zax]at hp;have ea:args= #[x]:=by rw[<-qc,ha]
    have et:ats= #[t]:=by rw[<-qc,ht]
    subst ea;subst et;have hx:=one x (hops x (by simp[yu,ka])) hp.1;have e:(execOp a.eval ⟨dst,.call ⟨.builtin .len,#[x],#[t]⟩,ty,pos,after,guard⟩).run P w=((do pure (uS (<-vC #[t] ty #[a.eval x])):Sem Next)).run P w:=by
     unfold execOp;simp[resolve,invoke,builtin]
    have:=(zld (P:=P) (O:=O) hT h1 (zls hown hx) ty).next
    unfold NYields at *;rw[e];exact this
   ·cases h
  ·obtain⟨q,h1,rfl⟩:=zbn h;simp only[zax]at hp;have e:(execOp a.eval ⟨dst,.call ⟨.builtin .min,args,ats⟩,ty,pos,after,guard⟩).run P w=((do pure (uS (<-uj ats ty (args.toList.map a.eval).toArray)):Sem Next)).run P w:=by
    unfold execOp;rw[zdk];simp[resolve,invoke,builtin]
   have:=(zhi (P:=P) (O:=O) (O':=O) (w:=w) (β:=β) (Or.inl rfl) h1 (us:=args.toList.map a.eval) (minArgs hops hp.1) (by simp) ats ty).1 rfl |>.next
   unfold NYields at *;rw[e];exact this
  ·obtain⟨q,h1,rfl⟩:=zbn h;simp only[zax]at hp;have e:(execOp a.eval ⟨dst,.call ⟨.builtin .max,args,ats⟩,ty,pos,after,guard⟩).run P w=((do pure (uS (<-uk ats ty (args.toList.map a.eval).toArray)):Sem Next)).run P w:=by
    unfold execOp;rw[zdk];simp[resolve,invoke,builtin]
   have:=(zhi (P:=P) (O:=O) (O':=O) (w:=w) (β:=β) (Or.inr rfl) h1 (us:=args.toList.map a.eval) (minArgs hops hp.1) (by simp) ats ty).2 rfl |>.next
   unfold NYields at *;rw[e];exact this
  ·cases h
 |_=>cases h
end
def uses (i:Nat):(t:Ty)->t.T->Bool
 | .obuf _,j=>yb i j
 | .optr _,p=>yb i p.i
 | .cond t,x=>uses i t x.2
 | .hptr,x=>yb i x.1
 | .hcons a b,x=>uses i a x.1||uses i b x.2
 |_,_=>false
def V.kill (i:Nat) (v:V):V:=bif uses i v.t v.x then ⟨.junk,()⟩ else v
def Frame.kill (i:Nat):List (Nat×V)->List (Nat×V)
 | []=>[]
 |(s,v)::r=>(s,v.kill i)::Frame.kill i r
theorem Frame.get_kill (i:Nat) (F:Frame) (s:Nat):Frame.get (Frame.kill i F) s=(Frame.get F s).kill i:=by
 induction F with
 |nil=>rfl
 |cons p F ih=>
  obtain⟨d,v⟩:=p;simp only[Frame.kill,zat,ih];split<;>rfl
theorem RepV.other {w:zj} {O:Nat->Prop} {β:Nat->zh} {i:Nat} {bv:zh}:∀ (t:Ty) (x:t.T) (v:zh),uses i t x=false->RepV w O β t x v->RepV w O (fun j=>if j=i then bv else β j) t x v:=by
 intro t
 induction t with
 |optr t _=>
  rintro x v hb ⟨g,h1,h2⟩;have hb':yb i x.i=false:=hb;have:x.i≠i:=fun e=>by rw[e]at hb';simp at hb'
  exact⟨g,by simp[this,h1],h2⟩
 |obuf t _=>
  intro x v;change Nat at x;intro hb h;have hb':yb i x=false:=hb;have:x≠i:=fun e=>by rw[e]at hb';simp at hb'
  have h':v=β x:=h;show v=if x=i then bv else β x
  rw[if_neg this,h']
 |cond t ih=>intro x v hb h;exact⟨fun hc=>ih _ _ hb (h.1 hc),h.2⟩
 |hptr=>
  rintro x v hb ⟨g,h1,h2⟩;have hb':yb i x.1=false:=hb;have:x.1≠i:=fun e=>by rw[e]at hb';simp at hb'
  exact⟨g,by simp[this,h1],h2⟩
 |hcons a b iha ihb=>
  rintro x v hb ⟨u,s,h1,h2,h3,h4⟩;have hb':(uses i a x.1||uses i b x.2)=false:=hb;rw[Bool.or_eq_false_iff]at hb';exact⟨u,s,h1,h2,iha _ _ hb'.1 h3,ihb _ _ hb'.2 h4⟩
 |_=>intro x v hb h;exact h
def OObj.kill (i:Nat):OObj->OObj
 | .hbox ty vs=>.hbox ty (vs.map (V.kill i))
 |o=>o
def Owns.kill (i:Nat):List (Nat×Option OObj)->List (Nat×Option OObj)
 | []=>[]
 |(j,some (.hbox ty vs))::r=>(j,some (.hbox ty (vs.map (V.kill i))))::Owns.kill i r
 |p::r=>p::Owns.kill i r
theorem Owns.get_kill (i:Nat) (E:Owns) (j:Nat):Owns.get (Owns.kill i E) j=(Owns.get E j).map (OObj.kill i):=by
 induction E with
 |nil=>rfl
 |cons p E ih=>
  obtain⟨k,o⟩:=p;have hstep:Owns.kill i ((k,o)::E)=(k,o.map (OObj.kill i))::Owns.kill i E:=by
   cases o with
   |none=>rfl
   |some o=>cases o<;>rfl
  rw[hstep,zah,zah,ih];split<;>rfl
theorem OObj.kill_isBuf (i:Nat) (o:OObj):(o.kill i).isBuf=o.isBuf:=by cases o<;>rfl
theorem V.kill_bound (i:Nat) (v:V):(v.kill i).bound≤v.bound:=by
 unfold V.kill;cases uses i v.t v.x with
 |true=>exact zk _
 |false=>exact zl _
theorem OObj.kill_under {i k:Nat} {o:OObj} (h:o.under k):(o.kill i).under k:=by
 cases o with
 |hbox ty vs=>
  intro ws e v hv;cases e;obtain⟨u,hu,rfl⟩:=List.mem_map.1 hv;exact zH (V.kill_bound i u) (h vs rfl u hu)
 |_=>intro ws e;cases e
theorem RepH.kill {w:zj} {O:Nat->Prop} {β:Nat->zh} {i:Nat} {bv:zh}:∀ {vs:List V} {cs:List zh},RepH w O β vs cs->RepH w O (fun j=>if j=i then bv else β j) (vs.map (V.kill i)) cs
 | [],_,h=>h
 |v::r,_,⟨u,s,h1,h2,h3,h4⟩=>by
  refine⟨u,s,h1,h2,?_,RepH.kill h4⟩;unfold V.kill;cases hu:uses i v.t v.x with
  |true=>trivial
  |false=>exact RepV.other _ _ _ hu h3
theorem OwnRep.kill {w:zj} {O:Nat->Prop} {β:Nat->zh} {i B:Nat} {bv b':zh} {o:OObj} (h:OwnRep w O β B b' o):OwnRep w O (fun j=>if j=i then bv else β j) B b' (o.kill i):=by
 cases o with
 |box t x=>exact h
 |buf te t xs=>exact h
 |hbox ty vs=>
  obtain⟨g',cs,e,h1,h2,h3⟩:=h;exact⟨g',cs,e,h1,h2,h3.kill⟩
section
variable {w0:zj} {X:Ownr} {n:Nat} {σ:AS} {β:Nat->zh} {a:Act} {w w':zj}
theorem Sim.redo (h:Sim w0 X n σ β a w) {i:Nat} {o o':OObj} (hi:Owns.get σ.E i=some o) (hbuf:o.isBuf=true) (hg:w.grownBy w' (zag (β i))) {bv:zh}
  (hbv:∀ g,zag bv=some g->zag (β i)=some g∨w.heap.size≤g)
  (hr:∀ O β',(∀ g,g < w.heap.size->O g->OSet X σ.E β g)->OwnRep w' O β' 0 bv o') {t:Ty} {d:Nat} (hd:d < n) (hu:o'.under σ.nx:=by exact fun _ e=>by cases e):
  ∃ β',Sim w0 X n { F:=(d,⟨.obuf t,i⟩)::Frame.kill i σ.F,E:=(i,some o')::Owns.kill i σ.E,nx:=σ.nx } β' (a.put (some d) bv) w':=by
 refine⟨fun j=>if j=i then bv else β j,?_⟩;have hO:∀ g,g < w.heap.size->OSet X ((i,some o')::Owns.kill i σ.E) (fun j=>if j=i then bv else β j) g->OSet X σ.E β g:=fun g hgl hg'=>by
  rcases hg' with h1|⟨j,oj,h1,h2⟩
  ·exact .inl h1
  ·rw[zah]at h1;by_cases hj:i=j
   ·subst hj;simp at h2;rcases hbv g h2 with h3|h3
    ·exact .inr ⟨i,o,hi,h3⟩
    ·omega
   ·rw[if_neg hj,Owns.get_kill]at h1;obtain⟨pj,hp1,hp2⟩:=zG.1 h1;simp[yT hj]at h2;exact .inr ⟨j,pj,hp1,h2⟩
 have hkeep:Keeps w w' (OSet X σ.E β) (OSet X ((i,some o')::Owns.kill i σ.E) (fun j=>if j=i then bv else β j)):=
  ⟨hg.size,fun g hgl hgo=>hg.block g hgl fun e=>hgo (.inr ⟨i,o,hi,e.symm⟩),hO⟩
 have hold:∀ {j:Nat} {oj:OObj},i≠j->(if i=j then some o' else Owns.get (Owns.kill i σ.E) j)=some oj->∃ pj,Owns.get σ.E j=some pj∧pj.kill i=oj:=fun hs hj=>by
  rw[if_neg hs,Owns.get_kill]at hj;exact zG.1 hj
 have hbel:=h.bel.grown hg fun g e=>h.new i o g hi e;have hii:=h.lt i o hi;refine⟨?_,?_,hbel,?_,?_,?_,?_,?_,?_,?_,?_⟩
 ·rw[Act.put_size];exact h.sz
 ·rw[Act.put_defers];exact h.df
 ·intro s;rw[Act.put_get (by rw[h.sz];exact hd)];show RepV _ _ _ (Frame.get ((d,⟨.obuf t,i⟩)::Frame.kill i σ.F) s).t _ _;rw[zat];by_cases hs:d=s
  ·rw[if_pos hs,if_pos hs];show bv=if i=i then bv else β i
   rw[if_pos rfl]
  ·rw[if_neg hs,if_neg hs,Frame.get_kill];unfold V.kill;cases hu:uses i (Frame.get σ.F s).t (Frame.get σ.F s).x with
   |true=>trivial
   |false=>exact RepV.other _ _ _ hu (RepV.keep hkeep _ _ _ (h.fr s))
 ·intro j oj hj;rw[show Owns.get ((i,some o')::Owns.kill i σ.E) j=_ from zah ..]at hj;by_cases hs:i=j
  ·subst hs;rw[if_pos rfl]at hj;cases hj;show OwnRep _ _ _ _ (if i=i then bv else _) _;rw[if_pos rfl];exact hr _ _ hO
  ·obtain⟨pj,hj2,rfl⟩:=hold hs hj;show OwnRep _ _ _ _ (if j=i then bv else _) _;rw[if_neg (yT hs)];refine ((h.own j pj hj2).keep hkeep fun g hgb=>hg.block g ((h.own j pj hj2).block_lt hgb).2 fun e=>?_).kill;exact h.inj i j o pj hi hj2 hs g e.symm hgb
 ·intro j oj g hj;rw[show Owns.get ((i,some o')::Owns.kill i σ.E) j=_ from zah ..]at hj;show zag (if j=i then bv else β j)=some g->_;by_cases hs:i=j
  ·rw[if_pos hs.symm];intro hb1;rcases hbv g hb1 with h3|h3
   ·exact h.new i o g hi h3
   ·exact .inl (zH h.bel.size h3)
  ·obtain⟨pj,hj2,rfl⟩:=hold hs hj;rw[if_neg (yT hs)];exact h.new j pj g hj2
 ·intro j k oj ok hj hk hjk g;rw[show Owns.get ((i,some o')::Owns.kill i σ.E) j=_ from zah ..]at hj;rw[show Owns.get ((i,some o')::Owns.kill i σ.E) k=_ from zah ..]at hk;show zag (if j=i then bv else β j)=some g->zag (if k=i then bv else β k)≠some g;have fresh:∀ m om,i≠m->Owns.get σ.E m=some om->zag bv=some g->zag (β m)≠some g:=fun m om hm hmo hb1 hb2=>by
   rcases hbv g hb1 with h3|h3
   ·exact h.inj i m o om hi hmo hm g h3 hb2
   ·have:=((h.own m om hmo).block_lt hb2).2;omega
  by_cases h1:i=j
  ·by_cases h2:i=k
   ·omega
   ·obtain⟨pk,hk2,rfl⟩:=hold h2 hk;rw[if_pos h1.symm,if_neg (yT h2)];exact fresh k pk h2 hk2
  ·obtain⟨pj,hj2,rfl⟩:=hold h1 hj;rw[if_neg (yT h1)];by_cases h2:i=k
   ·rw[if_pos h2.symm];exact fun hb1 hb2=>fresh j pj h1 hj2 hb2 hb1
   ·obtain⟨pk,hk2,rfl⟩:=hold h2 hk;rw[if_neg (yT h2)];exact h.inj j k pj pk hj2 hk2 hjk g
 ·intro j oj hj;rw[show Owns.get ((i,some o')::Owns.kill i σ.E) j=_ from zah ..]at hj;by_cases hs:i=j
  ·exact hs▸hii
  ·obtain⟨pj,hj2,rfl⟩:=hold hs hj;exact h.lt j pj hj2
 ·refine⟨h.fix.1,fun j hj=>?_⟩;obtain⟨h2,h3⟩:=h.fix.2 j hj;have hs:i≠j:=fun e=>by subst e;have:=h3 o hi;rw[hbuf]at this;cases this
  refine⟨?_,fun oj ho=>?_⟩
  ·show zag (if j=i then bv else β j)=some (X.fix j);rw[if_neg (yT hs)];exact h2
  ·rw[show Owns.get ((i,some o')::Owns.kill i σ.E) j=_ from zah ..]at ho;obtain⟨pj,hj2,rfl⟩:=hold hs ho;rw[OObj.kill_isBuf];exact h3 pj hj2
 ·intro s;show (Frame.get ((d,⟨.obuf t,i⟩)::Frame.kill i σ.F) s).bound≤σ.nx;rw[zat];by_cases hs:d=s
  ·rw[if_pos hs];show i+1≤σ.nx;omega
  ·rw[if_neg hs,Frame.get_kill];unfold V.kill;cases uses i (Frame.get σ.F s).t (Frame.get σ.F s).x with
   |true=>exact zk _
   |false=>exact h.hb s
 ·intro j oj hj;rw[show Owns.get ((i,some o')::Owns.kill i σ.E) j=_ from zah ..]at hj;by_cases hs:i=j
  ·rw[if_pos hs]at hj;cases hj;exact hu
  ·obtain⟨pj,hj2,rfl⟩:=hold hs hj;exact OObj.kill_under (h.hE j pj hj2)
end
section
variable {P:zx} {w:zj} {O O':Nat->Prop} {β:Nat->zh}
theorem zd9 {bv:zh} {w:zj} {B e s n:Nat} {cs:List zh} (h:w.ownsRow B e s bv n cs):bv.ownBlock=zag bv:=by
 rcases h.2 with ⟨rfl,_⟩|⟨g,cap,cur,rfl,_⟩<;>rfl
theorem zsC {E:Owns} {B:Nat} (hown:∀ i o,Owns.get E i=some o->OwnRep w O β B (β i) o) {v:V} {τ:Ty} {ys:List τ.T} (hd:dat E v=⟨.slice τ,ys⟩) {u:zh} (h:RepV w O β v.t v.x u):RepS w (fun _=>False) (RepC w O τ) ys u:=by
 obtain⟨t,x⟩:=v;cases t<;>simp only[dat]at hd<;>first|(cases hd;done)|skip
 ·cases hd;exact (RepV.slice h).keep .of_false fun _ _ h=>h
 ·split at hd
  ·rename_i te t' xs he;cases hd;have h':u=β x:=h;subst h';obtain⟨cs,h1,h2,h3⟩:=hown x _ he;rcases h2.2 with ⟨e,h4⟩|⟨g,cap,cur,e,h5,h6,h7,h8,h9,h10⟩
   ·have:ys=[]:=yP h4;subst this;exact .inl ⟨rfl,none,0,e,by simp[maxLen]⟩
   ·by_cases hx:ys=[]
    ·subst hx;exact .inl ⟨rfl,some ⟨g,0,none⟩,cap,e,h8⟩
    ·refine .inr ⟨g,0,cap,cs,e,hx,h7,h8,(zo.1 h6).1,fun h=>h.elim,h1,fun j u hu=>?_⟩;rw[yp];unfold xo;rw[h6];simp only[xP,yw,if_false];rw[<-h10,zM]at hu;split at hu
     ·simpa using hu
     ·cases hu
  ·cases hd
theorem ziH {t e:zn} {τ:Ty} (ht:P.underlying t=some (.slice e)) (he:Lay P τ (.inl e)) (hbig:24 * τ.size≤100000) (ty:zn) {B:Nat} (hB:B≤w.heap.size) {bv:zh} {xs ys:List τ.T} (hown:OwnRep w O β B bv (.buf e τ xs))
  (hOb:∀ g,zag bv=some g->O g) {u:zh} (hu:RepS w (fun _=>False) (RepC w O τ) ys u) (hlen:xs.length+ys.length≤1000000000):
  ∃ v' w',(qN #[t,t] ty #[bv,u]).run P w= .ok v' w'∧w.grownBy w' (zag bv)∧(∀ g,zag v'=some g->zag bv=some g∨w.heap.size≤g)∧
   ∀ O2,(∀ g,g < w.heap.size->O2 g->O g)->OwnRep w' O2 β B v' (.buf e τ (xs++ys)):=by
 obtain⟨cs,h1,h2,h3⟩:=hown;obtain⟨i,z,hi,hs,hz,hzc,hby⟩:=he.info;have hzs:z.cells.size=τ.size:=by rw[hzc];simp[zdb τ he.data]
 have h63:xs.length+ys.length≤maxLen:=by simp only[maxLen];omega
 have hbytes:(xs.length+ys.length) * i.bytes≤140737488355328:=by
  have h4:i.bytes≤100000:=by omega
  have h5:=jw hlen h4;omega
 have hob:=zd9 h2;have fin:∀ (ad:Addr) (c:Nat) (news:List zh),u= .slice (some ad) ys.length c->RepL (RepC w O τ) ys news->(∀ (j:Nat) (x:zh),news[j]? =some x->w.cell? (ad.add j)=some x)->∃ v' w',(qN #[t,t] ty #[bv,u]).run P w= .ok v' w'∧w.grownBy w' (zag bv)∧(∀ g,zag v'=some g->zag bv=some g∨w.heap.size≤g)∧
   ∀ O2,(∀ g,g < w.heap.size->O2 g->O g)->OwnRep w' O2 β B v' (.buf e τ (xs++ys)):=by
  intro ad c news hu hr hc;subst hu;have hl:=hr.len (fun x c=>RepC.len τ x c);have h1c:=hr.all (p:=fun u=>u.oneCell'=true) (fun x c=>RepC.oneCell τ x c);obtain⟨v',w',k1,k2,k3,k4⟩:=run_append_own (P:=P) w B t ty e i z τ.size i.bytes ht hi hz hs rfl hzs h3 bv xs.length cs h2 ad ys.length c news hl hc h1c h63 hbytes hB;refine⟨v',w',k1,hob▸k3,?_,fun O2 hO2=>⟨cs++news,?_,by rw[zd];exact k2,h3⟩⟩
  ·intro g hg;rcases h2.2 with ⟨rfl,hn⟩|⟨g',cap,cur,rfl,hbg,hg',hnc,hcm,hcs,htake⟩
   ·by_cases hm:ys.length=0
    ·have:=k4.2 ⟨rfl,hm⟩;rw[this]at hg;cases hg
    ·have hr2:=run_append_nil (P:=P) w t ty e i z ht hi hz ad ys.length c news (by rw[hl,hs]) hc (by omega) (by simp only[maxLen]at h63;omega) (by have h8:=jw (show ys.length≤xs.length+ys.length by omega) (zl i.bytes);omega);rw[hr2]at k1;cases k1;cases hg;exact .inr (zl _)
   ·by_cases hroom:xs.length+ys.length≤cap
    ·have hfit:xs.length * i.size+news.length≤cur.size:=by rw[hl,hcs,hs, <-xp];exact xR _ hroom
     have hr2:=run_append_room (P:=P) w t ty e i ht hi g' xs.length cap cur hg' ad ys.length c news (by rw[hl,hs]) hc h1c hroom hfit;rw[hr2]at k1;cases k1;exact .inl hg
    ·have holds:∀ j u,cs[j]? =some u->w.cell? ((⟨g',0,none⟩:Addr).add j)=some u:=h2.cells (g:=g') rfl;have hr2:=run_append_grow (P:=P) w t ty e i z ht hi hz ⟨g',0,none⟩ xs.length cap cs (by rw[h2.1,hs]) holds ad ys.length c news (by rw[hl,hs]) hc (by omega) (by simp only[maxLen]at h63;omega) (growslice_fits (by omega) hbytes);rw[hr2]at k1;cases k1;cases hg;exact .inr (zl _)
  ·have hk:Keeps w w' O O2:=⟨k3.size,fun g hgl hgo=>k3.block g hgl fun e=>hgo (hOb g (by rw[<-hob];exact e.symm)),hO2⟩;exact (h1.append hr).mono fun x _ c=>RepC.keep hk _ _ _
 rcases hu with ⟨rfl,A,c,rfl,hc⟩|⟨g,off,c,vs,rfl,hx,h5,h6,h7,_,h9,h10⟩
 ·cases A with
  |some ad=>exact fin ad c [] rfl rfl (fun j x hj=>by simp at hj)
  |none=>
   have hrun:(qN #[t,t] ty #[bv,.slice none 0 c]).run P w= .ok bv w:=by
    rcases h2.2 with ⟨rfl,_⟩|⟨g',cap,cur,rfl,hbg,hg',hnc,hcm,hcs,htake⟩
    ·simp[qN,run_underlying ht,jV,typeInfo,hi,uV,kZ]
    ·simp[qN,run_underlying ht,jV,typeInfo,hi,uV,kZ,hnc,storeCells]
   refine⟨bv,w,hrun,⟨rfl,rfl,rfl,zl _,fun _ _ _=>rfl⟩,fun g hg=>.inl hg,fun O2 hO2=>⟨cs,?_,by simpa using h2,h3⟩⟩;rw[zL];exact h1.mono fun x _ c=>RepC.keep ⟨zl _,fun _ _ _=>rfl,hO2⟩ _ _ _
 ·exact fin ⟨g,off,none⟩ c vs rfl h9 (fun j x hj=>by rw[yZ];exact h10 j x hj)
end
@[reducible] def Args:List Ty->Type
 | []=>Unit
 |t::r=>t.T×Args r
def RepA (w:zj) (O:Nat->Prop):(ts:List Ty)->Args ts->List zh->Prop
 | [],_,vs=>vs=[]
 |t::r,x,vs=>∃ v s,vs=v::s∧RepV w O (fun _=>undef) t x.1 v∧RepA w O r x.2 s
def zdu (w:zj) (O:Nat->Prop) (B:Nat) (own:Option zn):(t:Ty)->t.T->zh->Prop
 | .slice τ,xs,v=>match own with
  |some te=>OwnRep w (fun g=>O g∨zag v=some g) (fun _=>undef) B v (.buf te τ xs)
  |none=>RepD w O (.slice τ) xs v
 |t,x,v=>∀ β,RepV w O β t x v
structure Ctr where
 args:List Ty
 pre:Args args->List Prop
 res:Ty
 own:Option zn
 out:Args args->res.T
def CtrOk (P:zx) (G:zj->Prop) (f:zP) (c:Ctr):Prop:=
 (∀ (zas:Array zh) (w:zj),(callFunc f zas).run P w= .ok (.enter f zas) w)∧
 ∀ (w:zj) (O:Nat->Prop) (xs:Args c.args) (vs:List zh),(∀ g,O g->g < w.heap.size)->RepA w O c.args xs vs->allP (c.pre xs)->G w->
  Calls P f vs.toArray w fun e w'=>∃ v,e= .returned v∧yV w.heap.size w w'∧zdu w' O w.heap.size c.own c.res (c.out xs) v
abbrev Ctrs:=List (zP×Ctr)
def cget:List (zP×Ctr)->zP->Option Ctr
 | [],_=>none
 |(g,c)::r,f=>bif yb g f then some c else cget r f
def CsOk (P:zx) (G:zj->Prop) (C:Ctrs):Prop:=∀ f c,cget C f=some c->CtrOk P G f c
def Ty.flat:Ty->Bool
 | .bool| .int _| .str| .unit=>true
 | .pair a b=>a.flat&&b.flat
 | .arr _ t=>t.flat
 | .tup a b=>a.flat&&b.flat
 |_=>false
def zd6 (E:Owns) (fl:Bool):List V->(ts:List Ty)->Option (List Prop×Args ts)
 | [],[]=>some ([],())
 |v::vs,t::ts=>
  match coe t (bif fl then dat E (zaM v).2 else (zaM v).2),zd6 E fl vs ts with
  |some x,some (p,xs)=>some ((zaM v).1++p,(x,xs))
  |_,_=>none
 |_,_=>none
def Ctr.fl (c:Ctr):Bool:=c.res.flat
def Ty.argOk:Ty->Bool
 | .vptr t=>t.data
 | .clo _ _=>true
 | .mapL=>true
 | .lit=>true
 |t=>t.data
def zaY:List Ty->Bool
 | []=>true
 |t::r=>t.argOk&&zaY r
def zns:(t:Ty)->t.T->List V
 | .tup a b,x=>⟨a,x.1⟩::zns b x.2
 |_,_=>[]
def zs3:zh->Option (zP×List V)
 | .func (.func f) a b=>match a.toList,b.toList with
  | [],[]=>some (f,[])
  |_,_=>none
 |_=>none
def zf7 (F:Frame) (x:zE):Option (zP×List V):=
 match evO F x with
 |⟨.lit,y⟩=>zs3 y
 |⟨.clo f t,y⟩=>some (f,zns t y)
 |⟨.cond .lit,(true,y)⟩=>zs3 y
 |_=>none
def zrv (C:Ctrs) (E:Owns) (f:zP) (vs:List V):Option (List Prop×(c:Ctr)×Args c.args):=
 match cget C f with
 |some c=>if zaY c.args then (match zd6 E c.fl vs c.args with |some ([],xs)=>some (c.pre xs,⟨c,xs⟩)|some (p::q,xs)=>some (p::q++c.pre xs,⟨c,xs⟩)|none=>none) else none
 |none=>none
noncomputable def cOp (T:Tbl) (Q:List zn) (C:Ctrs) (E:Owns) (F:Frame) (op:Op):Res:=
 match op with
 | .call ⟨.value x,args,_⟩=>match zf7 F x with
  |some (f,cs)=>match zrv C E f (args.toList.map (evO F)++cs) with
   |some (p,⟨c,xs⟩)=>match c.own with
    |none=>some (p,⟨c.res,c.out xs⟩)
    |some _=>match c.res,c.out xs with
     | .slice τ,ys=>some (p,⟨.slice τ,ys⟩)
     |_,_=>none
   |none=>none
  |none=>none
 |op=>pOp T Q E F op
section
variable {P:zx} {w w':zj} {O O':Nat->Prop} {β:Nat->zh} {T:Tbl} {Q:List zn} {C:Ctrs} {E:Owns} {F:Frame} {B:Nat} {a:Act}
theorem zj0:∀ (t:Ty),t.flat=true->∀ (x:t.T) (cs:List zh),RepC w O t x cs->RepC w' O' t x cs:=by
 intro t
 induction t with
 |pair a b iha ihb=>
  intro h x cs;simp only[Ty.flat,zf]at h;rintro ⟨c1,c2,h0,h1,h2⟩;exact⟨c1,c2,h0,iha h.1 _ _ h1,ihb h.2 _ _ h2⟩
 |arr n t ih=>
  intro h x cs;rintro ⟨h1,h2⟩;exact⟨h1,h2.mono fun x _ c=>ih h x c⟩
 |bool=>intro _ x cs h;exact h
 |int=>intro _ x cs h;exact h
 |str=>intro _ x cs h;exact h
 |unit=>intro _ x cs h;exact h
 |tup=>intro _ x cs h;exact absurd h (by simp[RepC])
 |_=>intro h;cases h
theorem zjZ {t:Ty} (ht:t.flat=true) {x:t.T} {v:zh} (h:RepD w O t x v):RepD w' O' t x v:=by
 unfold RepD at *;split at h
 ·rename_i hd;rw[if_pos hd];obtain⟨cs,h1,h2⟩:=h;exact⟨cs,h1,zj0 t ht _ _ h2⟩
 ·rename_i hd;rw[if_neg hd];exact zj0 t ht _ _ h
theorem zk3:∀ (t:Ty),t.flat=true->∀ (x:t.T) (vs:List zh),RepTup w O t x vs->RepTup w' O' t x vs:=by
 intro t
 induction t with
 |tup a b iha ihb=>
  intro h x vs;simp only[Ty.flat,zf]at h;rintro ⟨v,r,h0,h1,h2⟩;exact⟨v,r,h0,zjZ h.1 h1,ihb h.2 _ _ h2⟩
 |unit=>intro _ x vs h;exact h
 |_=>intro _ x vs h;exact absurd h (by simp[RepTup])
theorem zjY {t:Ty} (ht:t.flat=true) {x:t.T} {v:zh} (h:RepV w O β t x v):RepV w' O' β t x v:=by
 cases t<;>first
  |exact zjZ ht h
  |(cases ht;done)
  |(obtain⟨vs,h1,h2⟩:=h;exact⟨vs,h1,zk3 _ ht _ _ h2⟩)
theorem zgR {t:Ty} {v:V} {y:t.T} (h:coe t v=some y) {u:zh} (hr:RepV w O β v.t v.x u):RepV w O β t y u:=by
 rcases zeI h with rfl|⟨rfl,τ,he⟩
 ·exact hr
 ·cases he;have:u= .slice none 0 0:=hr;subst this;exact RepV.ofSlice (.inl ⟨rfl,none,0,rfl,by simp⟩)
theorem zfl {t:Ty} (ht:t.argOk=true) {β':Nat->zh} {x:t.T} {u:zh} (h:RepV w O β t x u):RepV w O β' t x u:=by
 cases t<;>first|exact h|(cases ht;done)
theorem zdt (hown:∀ i o,Owns.get E i=some o->OwnRep w O β B (β i) o) {fl:Bool}:∀ {vs:List V} {ts:List Ty} {r:List Prop×Args ts} {us:List zh},zaY ts=true->zd6 E fl vs ts=some r->allP r.1->
  (∀ (i:Nat) (v:V),vs[i]? =some v->∃ u,us[i]? =some u∧RepV w O β v.t v.x u)->us.length=vs.length->RepA w (fun g=>fl=false∧O g) ts r.2 us
 | [],[],r,us,_,h,_,_,hl=>yP hl
 |v::vs,t::ts,r,us,hd,h,hp,hu,hl=>by
  simp only[zd6]at h;split at h
  ·rename_i x p' xs' hc hr;cases h;simp only[zax]at hp;simp only[zaY,zf]at hd
   match us,hl with
   |u::us,hl=>
    refine⟨u,us,rfl,?_,zdt hown hd.2 hr hp.2 (fun i v hv=>hu (i+1) v hv) (by simpa using hl)⟩;obtain⟨u',hu',hrep⟩:=hu 0 v rfl;cases hu';have h1:=za7 hrep hp.1;cases fl with
    |true=>
     have:=zfl (β':=fun _=>undef) hd.1 (zgR hc (zls hown h1));exact RepV.keep ⟨zl _,fun _ _ _=>rfl,fun g _ h=>by simp at h⟩ _ _ _ this
    |false=>
     have:=zfl (β':=fun _=>undef) hd.1 (zgR hc h1);exact RepV.keep ⟨zl _,fun _ _ _=>rfl,fun g _ h=>h.2⟩ _ _ _ this
  ·cases h
 | [],_::_,_,_,_,h,_,_,_=>by cases h
 |_::_,[],_,_,_,h,_,_,_=>by cases h
theorem zg8:∀ (t:Ty) (x:t.T) (v:zh),zdu w O B none t x v->RepV w O β t x v:=by
 intro t;cases t<;>intro x v h<;>first|exact h β|exact zcA h
theorem zjz {o:Oper} {x:zE} {f:zP} {us:List zh} {args:Array zE} {ts:Array zn} {K:Act->zj->Prop} {R:Exit->Act->zj->Prop} (ho:o.op= .call ⟨.value x,args,ts⟩) (hx:a.eval x= .func (.func f) #[] us.toArray) (hen:∀ (zas:Array zh) (w:zj),(callFunc f zas).run P w= .ok (.enter f zas) w)
  (h:Calls P f (args.toList.map a.eval++us).toArray w fun e w'=>∃ v,e= .returned v∧K (a.put o.dst v) w'):o.wp P a w K R:=by
 unfold Oper.wp;have em:(args.toList.map a.eval++us).toArray=args.map a.eval++us.toArray:=by
  rw[<-zdk];simp
 rw[em]at h;have e:(execOp a.eval o).run P w= .ok (.enter f (args.map a.eval++us.toArray)) w:=by
  unfold execOp;simp[ho,resolve,invoke,Deferred.ofValue,hx,hen]
 rw[e];show Calls P f (args.map a.eval++us.toArray) w _;refine h.mono fun e w' ⟨v,he,hk⟩=>?_;subst he;exact hk
theorem zgB {o:Oper} {f:zP} {args:Array zE} {ts:Array zn} {K:Act->zj->Prop} {R:Exit->Act->zj->Prop} (ho:o.op= .call ⟨.value (.func f),args,ts⟩) (hen:∀ (zas:Array zh) (w:zj),(callFunc f zas).run P w= .ok (.enter f zas) w)
  (h:Calls P f (args.toList.map a.eval).toArray w fun e w'=>∃ v,e= .returned v∧K (a.put o.dst v) w'):o.wp P a w K R:=
 zjz (us:=[]) ho rfl hen (by rw[zL];exact h)
def RepVs (w:zj) (O:Nat->Prop) (β:Nat->zh) (vs:List V) (us:List zh):Prop:=us.length=vs.length∧∀ (i:Nat) (v:V),vs[i]? =some v->∃ u,us[i]? =some u∧RepV w O β v.t v.x u
theorem RepVs.append {vs ws:List V} {us ys:List zh} (h:RepVs w O β vs us) (h':RepVs w O β ws ys):RepVs w O β (vs++ws) (us++ys):=by
 refine⟨by simp[h.1,h'.1],fun i v hv=>?_⟩;rw[jx]at hv;split at hv
 ·rename_i hlt;obtain⟨u,h1,h2⟩:=h.2 i v hv;exact⟨u,by rw[jx,if_pos (by rw[h.1];exact hlt)];exact h1,h2⟩
 ·rename_i hge;obtain⟨u,h1,h2⟩:=h'.2 _ v hv;exact⟨u,by rw[jx,if_neg (by rw[h.1];exact hge),h.1];exact h1,h2⟩
theorem zmZ:∀ (t:Ty) (x:t.T) (us:List zh),RepCap w O t x us->RepVs w O β (zns t x) us:=by
 intro t
 induction t with
 |tup a b iha ihb=>
  rintro x us ⟨v,r,rfl,h1,h2⟩;obtain⟨i1,i2⟩:=ihb _ _ h2;refine⟨by simp[zns,i1],fun i y hy=>?_⟩;cases i with
  |zero=>
   cases hy;refine⟨v,rfl,?_⟩;cases a<;>first|exact h1.elim|exact h1
  |succ i=>
   obtain⟨u,h3,h4⟩:=i2 i y (by simpa [zns] using hy);exact⟨u,by simpa using h3,h4⟩
 |unit=>
  intro x us h;have:us=[]:=h;subst this;exact⟨rfl,fun i v hv=>by simp[zns]at hv⟩
 |_=>intro x us h;exact absurd h (by simp[RepCap])
theorem ziy {y:zh} {f:zP} {cs:List V} (h:zs3 y=some (f,cs)):y= .func (.func f) #[] #[]∧cs=[]:=by
 cases y<;>first|(cases h;done)|skip
 rename_i fn p q;cases fn<;>first|(cases h;done)|skip
 rename_i g;obtain⟨p⟩:=p;obtain⟨q⟩:=q;cases p<;>cases q<;>first|(cases h;done)|skip
 cases h;exact⟨rfl,rfl⟩
theorem zlu {x:zE} {f:zP} {cs:List V} (h:zf7 F x=some (f,cs)) (hx:RepV w O β (evO F x).t (evO F x).x (a.eval x)):∃ us,a.eval x= .func (.func f) #[] (yD us)∧RepVs w O β cs us:=by
 unfold zf7 at h;split at h
 ·rename_i y he;rw[he]at hx;have hx:a.eval x=y:=hx;obtain⟨rfl,rfl⟩:=ziy h;exact⟨[],hx,rfl,fun i v hv=>by simp at hv⟩
 ·rename_i g t y he;cases h;rw[he]at hx;obtain⟨us,h1,h2⟩:=hx;exact⟨us,h1,zmZ _ _ _ h2⟩
 ·rename_i y he;rw[he]at hx;have hx:a.eval x=y:=hx.1 rfl;obtain⟨rfl,rfl⟩:=ziy h;exact⟨[],hx,rfl,fun i v hv=>by simp at hv⟩
 ·cases h
theorem opArgs {x:zE} {args:Array zE} {ts:Array zn} (hops:∀ y∈(Op.call ⟨.value x,args,ts⟩).operands,RepV w O β (evO F y).t (evO F y).x (a.eval y)):
  RepVs w O β (args.toList.map (evO F)) (args.toList.map a.eval):=by
 refine⟨by simp,fun i v hv=>?_⟩;rw[ym]at hv;obtain⟨y,hy,rfl⟩:=zG.1 hv;have hm:y∈args.toList:=qn hy;exact⟨a.eval y,by rw[ym,hy];rfl,hops y (by simp[yu,ka];exact .inr (by simpa using hm))⟩
theorem zgS {G:zj->Prop} (hC:CsOk P G C) (hG:G w) (hO:∀ g,O g->g < w.heap.size) (hown:∀ i o,Owns.get E i=some o->OwnRep w O β B (β i) o) {o:Oper} {x:zE} {f:zP} {cs:List V} {args:Array zE} {ts:Array zn} (ho:o.op= .call ⟨.value x,args,ts⟩) (hcal:zf7 F x=some (f,cs))
  {r:List Prop×(c:Ctr)×Args c.args} (h:zrv C E f (args.toList.map (evO F)++cs)=some r) (hp:allP r.1) (hops:∀ x∈o.op.operands,RepV w O β (evO F x).t (evO F x).x (a.eval x)) {K:Act->zj->Prop} {R:Exit->Act->zj->Prop}
  (hK:∀ v w',yV w.heap.size w w'->zdu w' (fun g=>r.2.1.fl=false∧O g) w.heap.size r.2.1.own r.2.1.res (r.2.1.out r.2.2) v->K (a.put o.dst v) w'):o.wp P a w K R:=by
 unfold zrv at h;split at h
 ·rename_i c hc;split at h
  ·rename_i hd;obtain⟨p,xs,h1,h⟩:∃ p xs,zd6 E c.fl (args.toList.map (evO F)++cs) c.args=some (p,xs)∧(p++c.pre xs,(⟨c,xs⟩:(c:Ctr)×Args c.args))=r:=by
    split at h<;>first|(cases h;done)|skip
    ·rename_i xs h1;cases h;exact⟨_,_,h1,rfl⟩
    ·rename_i p q xs h1;cases h;exact⟨_,_,h1,rfl⟩
   subst h;simp only[zax]at hp;rw[ho]at hops;obtain⟨us,hx,hcs⟩:=zlu hcal (hops x (by simp[yu,ka]));obtain⟨q1,q2⟩:=(opArgs hops).append hcs;have ha:=zdt hown hd h1 hp.1 q2 q1;obtain⟨hen,hcall⟩:=hC f c hc;refine zjz ho hx hen ((hcall w (fun g=>c.fl=false∧O g) xs _ (fun g h=>hO g h.2) ha hp.2 hG).mono fun e w' ⟨v,he,hb,hr⟩=>⟨v,he,hK v w' hb hr⟩)
  ·cases h
 ·cases h
theorem OwnRep.toView {bv:zh} {te:zn} {τ:Ty} {xs:List τ.T} {O2:Nat->Prop} (h:OwnRep w' O' β B bv (.buf te τ xs)) (hO2:∀ g,g < w'.heap.size->O2 g->O' g) (hlt:∀ g,O2 g->g < B):RepD w' O2 (.slice τ) xs bv:=
 h.view hO2 fun g hg hg'=>by
  have:=(h.block_lt hg).1;have:=hlt g hg';omega
theorem zsb (hT:TOk P T Q) {G:zj->Prop} (hC:CsOk P G C) (hG:G w) (hO:∀ g,O g->g < w.heap.size) (hown:∀ i o,Owns.get E i=some o->OwnRep w O β B (β i) o) {o:Oper} {r:List Prop×V} (h:cOp T Q C E F o.op=some r) (hp:allP r.1)
  (hops:∀ x∈o.op.operands,RepV w O β (evO F x).t (evO F x).x (a.eval x)) {K:Act->zj->Prop} {R:Exit->Act->zj->Prop}
  (hK:∀ u w',yV w.heap.size w w'->RepV w' O β r.2.t r.2.x u->K (a.put o.dst u) w'):o.wp P a w K R:=by
 have plain:pOp T Q E F o.op=some r->o.wp P a w K R:=fun h=>by
  obtain⟨u,w',h1,h2,h3⟩:=zir hT hO hown h hp hops;unfold Oper.wp;rw[h1];exact hK u w' h2 h3
 generalize hop:o.op=op at h;unfold cOp at h;split at h
 ·rename_i x args ts;split at h<;>first|(cases h;done)|skip
  rename_i f cs hcal;split at h<;>first|(cases h;done)|skip
  rename_i p c xs h1;have h2:=h;split at h2
  ·rename_i hown0;cases h2;refine zgS hC hG hO hown hop hcal h1 hp hops fun v w' hb hr=>hK v w' hb ?_;simp only[hown0]at hr;have hr':RepV w' (fun g=>c.fl=false∧O g) β c.res (c.out xs) v:=zg8 _ _ _ hr;cases hfl:c.fl with
   |true=>exact zjY hfl hr'
   |false=>
    rw[hfl]at hr';exact RepV.keep ⟨zl _,fun _ _ _=>rfl,fun g _ h=>⟨rfl,h⟩⟩ _ _ _ hr'
  ·rename_i te hown0;split at h2
   ·rename_i τ ys hres hout;cases h2;have hnf:c.fl=false:=by unfold Ctr.fl;rw[hres];rfl
    refine zgS hC hG hO hown hop hcal h1 hp hops fun v w' hb hr=>hK v w' hb ?_;simp only[hown0]at hr;have hr':OwnRep w' (fun g=>(c.fl=false∧O g)∨zag v=some g) β w.heap.size v (.buf te τ ys):=by
     revert hr;generalize c.out xs=x at hout ⊢;revert x;rw[hres];intro x hx hr;cases hx;exact hr
    exact zcA (hr'.toView (fun g _ h=>.inl ⟨hnf,h⟩) fun g h=>hO g h)
   ·cases h2
 ·exact plain (by rw[hop];exact h)
end
abbrev UTbl:=List (zn×zn)
def uget:List (zn×zn)->zn->Option zn
 | [],_=>none
 |(s,e)::r,t=>bif yb s t then some e else uget r t
def UOk (P:zx) (U:UTbl):Prop:=∀ t e,uget U t=some e->P.underlying t=some (.slice e)
structure RCtr where
 self:Ty
 args:List Ty
 inv:zj->Nat->Prop
 pre:self.T->Args args->List Prop
 res:Ty
 out:self.T->Args args->res.T
 post:self.T->Args args->self.T
def zeW (P:zx) (G:zj->Prop) (f:zP) (c:RCtr):Prop:=
 (∀ (zas:Array zh) (w:zj),(callFunc f zas).run P w= .ok (.enter f zas) w)∧
 ∀ (w:zj) (O:Nat->Prop) (g:Nat) (cs:List zh) (ty:zn) (x:c.self.T) (xs:Args c.args) (vs:List zh),(∀ h,O h->h < w.heap.size∧h≠g)->w.heap[g]? =some (.cells cs.toArray ty (0,0))->
  RepC w (fun h=>O h∨h=g) c.self x cs->RepA w (fun h=>O h∨h=g) c.args xs vs->allP (c.pre x xs)->c.inv w g->G w->
  Calls P f (Value.pointer (some ⟨g,0,none⟩)::vs).toArray w fun e w'=>∃ v cs' ty',e= .returned v∧Kept (fun h=>h=g) w w'∧w'.heap[g]? =some (.cells cs'.toArray ty' (0,0))∧
   RepC w' (fun h=>O h∨h=g) c.self (c.post x xs) cs'∧(c.res= .unit∨zdu w' (fun h=>O h∨h=g) w.heap.size none c.res (c.out x xs) v)
def rget:List (zP×RCtr)->zP->Option RCtr
 | [],_=>none
 |(g,c)::r,f=>bif yb g f then some c else rget r f
def RsOk (P:zx) (G:zj->Prop) (C:List (zP×RCtr)):Prop:=∀ f c,rget C f=some c->zeW P G f c∧∀ w g,c.inv w g
theorem RsOk.nil {P:zx} {G:zj->Prop}:RsOk P G []:=fun _ _ h=>by cases h
theorem RsOk.cons {P:zx} {G:zj->Prop} {f:zP} {c:RCtr} {C:List (zP×RCtr)} (h:zeW P G f c) (hi:∀ w g,c.inv w g) (hC:RsOk P G C):RsOk P G ((f,c)::C):=by
 intro g d hg;simp only[rget,cond_eq_ite,xc]at hg;split at hg
 ·rename_i e;cases hg;exact e▸⟨h,hi⟩
 ·exact hC g d hg
structure Kn where
 T:Tbl
 Q:List zn
 U:UTbl
 C:Ctrs
 cut:Bool:=false
 H:List zn:=[]
 R:List (zP×RCtr):=[]
structure KnOk (P:zx) (G:zj->Prop) (K:Kn):Prop where
 t:TOk P K.T K.Q
 u:UOk P K.U
 c:CsOk P G K.C
 st:∀ w w',G w->yV w.heap.size w w'->G w'
 r:RsOk P G K.R
def frz (σ:AS) (x:zE):AS:=
 match evO σ.F x with
 |⟨.obuf _,i⟩=>match Owns.get σ.E i with
  |some (.buf _ t xs)=>{ F:=Frame.thaw i t xs σ.F,E:=(i,none)::σ.E,nx:=σ.nx }
  |_=>σ
 |_=>σ
def frzs:AS->List zE->AS
 |σ,[]=>σ
 |σ,x::r=>frzs (frz σ x) r
def needF (F:Frame) (C:Ctrs):Op->List zE
 | .box _ x=>[x]
 | .store _ _ x=>[x]
 | .build _ ps=>ps.toList.map (·.2)
 | .buildSlice _ _ ps=>ps.toList.map (·.2)
 | .slice _ x _ _ _=>[x]
 | .call ⟨.value x,args,_⟩=>match zf7 F x with
  |some (f,_)=>match cget C f with
   |some c=>bif c.fl then [] else args.toList
   |none=>[]
  |none=>[]
 |_=>[]
def zn0 (te:zn) (s:Ty) (xs:List s.T) {t:Ty}:(r:Ty)->Path r t->t.T->Option (PLift (.slice s=r))->Option (List Prop×OObj)
 |_,p,y,some ⟨rfl⟩=>match p.setO xs y with
  |some z=>some (p.vcs xs,.buf te s z)
  |none=>none
 |_,_,_,none=>none
def OObj.set {r t:Ty} (o:OObj) (p:Path r t) (y:t.T):Option (List Prop×OObj):=
 match o with
 | .box s x=>if p.isElm=false then (match zrs s r x (zfM s r) with |some z=>(match p.setO z y with |some z'=>some (p.vcs z,.box r z')|none=>none)|none=>none) else none
 | .buf te s xs=>if p.isElm=true then zn0 te s xs r p y (zfM (.slice s) r) else none
 | .hbox _ _=>none
def AS.put (σ:AS) (d:Nat) (v:V):AS:={ σ with F:=(d,v)::σ.F }
def isNil:V->Bool
 |⟨.lit,.slice none 0 0⟩=>true
 |_=>false
def Ty.hand:Ty->Bool
 | .optr _| .obuf _=>true
 | .cond t=>t.hand
 | .hptr=>true
 | .hcons _ _=>true
 |_=>false
def zf2:Op->Bool
 | .move _| .assign _| .nilCheck _| .indexAddr _ _ _| .fieldAddr _ _ _| .load _ _=>true
 |_=>false
def appV (K:Kn) (F:Frame) (E:Owns) (nx:Nat) (d:Nat) (t:zn) (s x:V):Option (List Prop×AS):=
 match uget K.U t with
 |some te=>
  match s with
  |⟨.obuf _,i⟩=>match Owns.get E i with
   |some (.buf te' τ xs)=>
    if tis K.T t (.slice τ)&&yb te te'&&qI (24 * τ.size) 100000 then (match coe (.slice τ) (dat E x) with
     |some ys=>some ([zg xs+zg ys≤1000000000],⟨(d,⟨.obuf τ,i⟩)::Frame.kill i F,(i,some (.buf te τ (xs++ys)))::Owns.kill i E,nx⟩)
     |none=>none) else none
   |_=>none
  |s=>if isNil s then (match tget K.T t with
   |some (.slice τ)=>if qI (24 * τ.size) 100000&&zW 0 τ.size then (match coe (.slice τ) (dat E x) with
    |some ys=>some ([zg ys≤1000000000],⟨(d,⟨.obuf τ,nx⟩)::F,(nx,some (.buf te τ ys))::E,nx+1⟩)
    |none=>none) else none
   |_=>none) else none
 |none=>none
def preS:List Prop->Option (List Prop×AS)->Option (List Prop×AS)
 | [],o=>o
 |a::A,o=>match preS A o with
  |some (p,σ)=>some (a::p,σ)
  |none=>none
noncomputable def zpE (K:Kn) (n:Nat) (dst:Option Nat) (op:Op) (σ:AS):Option (List Prop×AS):=
 match σ with
 |⟨F,E,nx⟩=>match dst with
  |none=>match op with
   | .store t p x=>match (zaM (evO F p)).2 with
    |⟨.optr τ,⟨i,r,q⟩⟩=>match Owns.get E i with
     |some o=>if tis K.T t τ then (match coe τ (zaM (evO F x)).2 with
      |some y=>(match OObj.set (r:=r) o q y with
       |some (vc,o')=>some ((zaM (evO F p)).1++(zaM (evO F x)).1++vc,⟨F,(i,some o')::E,nx⟩)
       |none=>none)
      |none=>none) else none
     |none=>none
    |_=>none
   |_=>none
  |some d=>if zW d n then (match op with
   | .alloc t=>match tget K.T t with
    |some τ=>some ([],⟨(d,⟨.optr τ,⟨nx,τ,.here⟩⟩)::F,(nx,some (.box τ (za8 τ)))::E,nx+1⟩)
    |none=>none
   | .box t x=>match tget K.T t with
    |some τ=>(match coe τ (zaM (evO F x)).2 with
     |some y=>some ((zaM (evO F x)).1,⟨(d,⟨.optr τ,⟨nx,τ,.here⟩⟩)::F,(nx,some (.box τ y))::E,nx+1⟩)
     |none=>none)
    |none=>none
   | .buildSlice t len parts=>match uget K.U t,zcr K.T t len (parts.toList.map fun p=>(p.1,evO F p.2)) with
    |some te,some (p,⟨e,xs⟩)=>some (p,⟨(d,⟨.obuf e,nx⟩)::F,(nx,some (.buf te e xs))::E,nx+1⟩)
    |_,_=>none
   | .makeSlice t l c=>match uget K.U t,tget K.T t,(zaM (evO F l)).2,(zaM (evO F c)).2 with
    |some te,some (.slice τ),⟨.int .i64,x⟩,⟨.int .i64,y⟩=>if qI (24 * τ.size) 100000&&zW 0 τ.size then some ((zaM (evO F l)).1++(zaM (evO F c)).1++ [0≤(x:Int),(x:Int)≤y,(y:Int)≤1000000000],⟨(d,⟨.obuf τ,nx⟩)::F,(nx,some (.buf te τ (zu (x:Int).toNat (za8 τ))))::E,nx+1⟩) else none
    |_,_,_,_=>none
   | .call ⟨.builtin .append,args,ts⟩=>match args.toList,ts.toList with
    | [s,x],[t,u]=>if yb t u then preS ((zaM (evO F s)).1++(zaM (evO F x)).1) (appV K F E nx d t (zaM (evO F s)).2 (zaM (evO F x)).2) else none
    |_,_=>none
   | .call ⟨.value x,args,ts⟩=>match zf7 F x with
    |some (f,cs)=>match zrv K.C E f (args.toList.map (evO F)++cs) with
     |some (p,⟨c,xs⟩)=>match c.own with
      |none=>if c.res.hand then none else some (p,⟨(d,⟨c.res,c.out xs⟩)::F,E,nx⟩)
      |some te=>match c.res,c.out xs with
       | .slice τ,ys=>some (p,⟨(d,⟨.obuf τ,nx⟩)::F,(nx,some (.buf te τ ys))::E,nx+1⟩)
       |_,_=>none
     |none=>none
    |none=>none
   |op=>match pOp K.T K.Q E F op with
    |some (p,⟨t,x⟩)=>if !t.hand||zf2 op then some (p,⟨(d,⟨t,x⟩)::F,E,nx⟩) else none
    |none=>none) else none
def zkD (c:Bool):V->V
 |⟨.cond t,x⟩=>⟨.cond t,(c&&x.1,x.2)⟩
 |⟨t,x⟩=>⟨.cond t,(c,x)⟩
def zra:V->Bool->Option Bool
 |⟨.bool,b⟩,true=>some b
 |⟨.bool,b⟩,false=>some (!b)
 |⟨.cond .bool,(c,b)⟩,true=>some (c&&b)
 |⟨.cond .bool,(c,b)⟩,false=>some (c&& !b)
 |_,_=>none
def impV (c:Bool):List Prop->V->Res
 | [],v=>some ([],zkD c v)
 |p::r,v=>some ([c=true->allP (p::r)],zkD c v)
theorem zkn {c:Bool} {l:List Prop} {v:V} {r:List Prop×V} (h:impV c l v=some r):(impP c l,zkD c v)=r:=by
 cases l<;>(cases h;rfl)
noncomputable def gOp (K:Kn) (n:Nat) (ops:Array Oper) (E:Owns) (F:Frame) (o:Oper):Res:=
 match o.guard with
 |none=>match cOp K.T K.Q K.C E F o.op with
  |some (p,⟨t,x⟩)=>if !t.hand||zf2 o.op then some (p,⟨t,x⟩) else none
  |none=>none
 |some (j,want)=>
  match (ops[j]?).bind (·.dst) with
  |some dj=>if zW dj n then (match zra (Frame.get F dj) want,cOp K.T K.Q K.C E F o.op with
   |some c,some (p,v)=>if !v.t.hand||zf2 o.op then impV c p v else none
   |_,_=>none) else none
  |none=>none
def zsY (K:Kn) (n:Nat) (o:Oper):AS->Option (List Prop×AS)
 |⟨F,E,nx⟩=>match o.op,o.dst with
  | .convert s t x,some d=>match (zaM (evO F x)).2 with
   |⟨.obuf _,i⟩=>match Owns.get E i with
    |some (.buf _ (.int .u8) xs)=>if yb s t&&tis K.T s (.slice (.int .u8))&&zW d n then some ((zaM (evO F x)).1++ [0 < zg xs],⟨(d,⟨.slice (.int .u8),xs⟩)::Frame.thaw i (.int .u8) xs F,(i,none)::E,nx⟩) else none
    |_=>none
   |_=>none
  |_,_=>none
def cutS (K:Kn) (n:Nat) (o:Oper):AS->Option (List Prop×AS)
 |⟨F,E,nx⟩=>if K.cut=true then (match o.op,o.dst with
  | .slice s x none (some h) none,some d=>match (zaM (evO F x)).2,numV (evO F h) with
   |⟨.obuf _,i⟩,some j=>match Owns.get E i with
    |some (.buf te τ xs)=>if tis K.T s (.slice τ)&&zW d n then some ((zaM (evO F x)).1++ [0≤j,j≤((zg xs:Nat):Int)],⟨(d,⟨.obuf τ,i⟩)::Frame.kill i F,(i,some (.buf te τ (jl j.toNat xs)))::Owns.kill i E,nx⟩) else none
    |_=>none
   |_,_=>none
  |_,_=>none) else none
def ztn (K:Kn) (n:Nat) (o:Oper):AS->Option (List Prop×AS)
 |⟨F,E,nx⟩=>match o.op,o.dst with
  | .store t p x,none=>match (zaM (evO F p)).2 with
   |⟨.hptr,(i,k)⟩=>match Owns.get E i,tget K.T t with
    |some (.hbox ty vs),some τ=>match putH E τ.size k vs (zaM (evO F x)).2 with
     |some ws=>some ((zaM (evO F p)).1++(zaM (evO F x)).1,⟨F,(i,some (.hbox ty ws))::E,nx⟩)
     |none=>none
    |_,_=>none
   |_=>none
  | .alloc t,some d=>if K.H.any (yb t)&&zW d n then (match tget K.T t with
   |some τ=>if (zbW τ).all qi=true then some ([],⟨(d,⟨.hptr,(nx,0)⟩)::F,(nx,some (.hbox t ((zbW τ).map evC)))::E,nx+1⟩) else none
   |none=>none) else none
  | .build t parts,some d=>if K.H.any (yb t)&&zW d n&&parts.toList.isEmpty then (match tget K.T t with
   |some (.pair a b)=>some ([],⟨(d,⟨.lit,.agg (yD (zbW (.pair a b)))⟩)::F,E,nx⟩)
   |_=>none) else none
  |_,_=>none
def Ty.resOk:Ty->Bool
 | .tup a b=>a.data&&b.resOk
 |t=>t.data
def resV:(t:Ty)->t.T->V
 | .unit,_=>⟨.junk,()⟩
 |t,x=>⟨t,x⟩
def putD (n:Nat) (d:Option Nat) (v:V) (F:Frame):Option Frame:=
 match d with
 |some d=>if zW d n then some ((d,v)::F) else none
 |none=>some F
def zsN (C:List (zP×RCtr)) (n:Nat) (o:Oper) (σ:AS):Option (List Prop×AS):=
 match o.op with
 | .call ⟨.value (.func f),args,_⟩=>match args.toList,rget C f with
  |a0::zas,some c=>match frzs σ zas with
   |⟨F,E,nx⟩=>match evO F a0 with
    |⟨.optr _,p⟩=>match Owns.get E p.i with
     |some (.box s x)=>if yb p.p.off 0&&zaY c.args&&c.res.resOk&&c.self.data then
      (match coe c.self ⟨s,x⟩,zd6 E false (zas.map (evO F)) c.args with
       |some y,some (q,xs)=>(match putD n o.dst (resV c.res (c.out y xs)) F with
        |some F'=>some (q++c.pre y xs,⟨F',(p.i,some (.box c.self (c.post y xs)))::E,nx⟩)
        |none=>none)
       |_,_=>none) else none
     |_=>none
    |_=>none
  |_,_=>none
 |_=>none
noncomputable def znx (K:Kn) (n:Nat) (ops:Array Oper) (o:Oper) (σ:AS):Option (List Prop×AS):=
 match o.guard with
 |none=>match zsY K n o σ with
  |some r=>some r
  |none=>match cutS K n o σ with
   |some r=>some r
   |none=>match ztn K n o σ with
    |some r=>some r
    |none=>match zsN K.R n o σ with
     |some r=>some r
     |none=>zpE K n o.dst o.op (frzs σ (needF σ.F K.C o.op))
 |some _=>
  match o.dst,σ with
  |some d,⟨F,E,nx⟩=>if zW d n then (match gOp K n ops E F o with
   |some (p,⟨t,x⟩)=>some (p,⟨(d,⟨t,x⟩)::F,E,nx⟩)
   |none=>none) else none
  |none,_=>none
noncomputable def aSeq (K:Kn) (n:Nat) (ops:Array Oper):List Oper->AS->Option (List Prop×AS)
 | [],σ=>some ([],σ)
 |o::r,σ=>match znx K n ops o σ with
  |some (p,σ')=>preS p (aSeq K n ops r σ')
  |none=>none
noncomputable def zib (K:Kn) (n:Nat) (ops:Array Oper):List Oper->AS->Option (List Prop×AS)
 | [],σ=>some ([],σ)
 |o::r,⟨F,E,nx⟩=>match o.dst with
  |some d=>if zW d n then (match gOp K n ops E F o with
   |some (p,⟨t,x⟩)=>preS p (zib K n ops r ⟨(d,⟨t,x⟩)::F,E,nx⟩)
   |none=>none) else none
  |none=>none
def zn3 (ops:Array Oper) (o:Oper):List Nat:=
 (o.op.operands.toList.filterMap fun x=>match x with | .tmp t=>some t|_=>none)++(match o.guard with |some (j,_)=>((ops[j]?).bind (·.dst)).toList|none=>[])
def flowB (ops:Array Oper) (m:Nat):Bool:=
 (xE m).all fun j=>match ops[j]? with
   |some oj=>(xE m).all fun i=>match ops[i]? with
    |some oi=>(yb i j|| !(oi.dst==oj.dst))&&((zn3 ops oj).all fun t=>!(oi.dst==some t)||(zW i j&&oj.after.any fun e=>yb e.on i&&Region.binds .any e))
    |none=>false
   |none=>false
def znw (ops:Array Oper):Bool:=(xE ops.size).all fun i=>match ops[i]? with |some o=>o.after.all fun e=>zW e.on i|| !Region.binds .any e|none=>false
def zko (ops:Array Oper) (m:Nat):Bool:=
 qI m ops.size&&flowB ops m&&znw ops&&(yb m ops.size||(Region.sinkB .any ops m&&Region.chainB .any ops m))&&
  Region.seqB .any ops (ops.size - m) m (zu m true++zu (ops.size - m) false).toArray
section
variable {P:zx} {K:Kn} {w0:zj} {X:Ownr} {n:Nat} {σ:AS} {β:Nat->zh} {a:Act} {w:zj}
theorem Sim.hO (h:Sim w0 X n σ β a w) (hX:X.Ok w0):∀ g,OSet X σ.E β g->g < w.heap.size:=by
 rintro g (hg|⟨i,o,h1,h2⟩)
 ·exact zK (hX.1 g hg).1 h.bel.size
 ·exact ((h.own i o h1).block_lt h2).2
theorem Sim.ops (h:Sim w0 X n σ β a w) (x:zE):RepV w (OSet X σ.E β) β (evO σ.F x).t (evO σ.F x).x (a.eval x):=
 zpz fun s _=>h.fr s
theorem Sim.frz (h:Sim w0 X n σ β a w) (hX:X.Ok w0) (x:zE):Sim w0 X n (frz σ x) β a w:=by
 unfold Go.Proofs.YtpeaigpfddalcaaGreatDoor.frz;split
 ·split
  ·rename_i he;exact h.freeze hX he
  ·exact h
 ·exact h
theorem Sim.frzs (h:Sim w0 X n σ β a w) (hX:X.Ok w0) (l:List zE):Sim w0 X n (frzs σ l) β a w:=by
 induction l generalizing σ with
 |nil=>exact h
 |cons x l ih=>exact ih (h.frz hX x)
theorem zju:∀ (t:Ty) (x:t.T),t.data=true->bnd t x=0:=by
 intro t x h;cases t<;>first|rfl|cases h
theorem zgZ (v:V):(zaM v).2.bound≤v.bound:=by
 obtain⟨t,x⟩:=v;cases t<;>exact zl _
theorem zep {F:Frame} {m:Nat} (h:∀ s,(Frame.get F s).bound≤m) (x:zE):(evO F x).bound≤m:=by
 cases x with
 |tmp s=>exact h s
 |const v=>
  show (evC v).bound≤m;have:(evC v).bound=0:=by
   cases v with
   |int k n=>
    have key:∀ (k:yC) (x:IntT k),(if encI k x=n then (⟨.int k,x⟩:V) else ⟨.lit,.int k n⟩).bound=0:=by
     intro k x;split<;>rfl
    cases k<;>first|exact key _ _|rfl
   |string s=>
    simp only[evC];cases qI s.data.toList.length 1000000<;>rfl
   |_=>rfl
  omega
 |global g=>exact zk _
 |func f=>exact zk _
theorem zjt:∀ (t:Ty) (x:t.T),t.hand=false->bnd t x=0:=by
 intro t
 induction t with
 |cond t ih=>intro x h;exact ih _ h
 |optr=>intro x h;cases h
 |obuf=>intro x h;cases h
 |hptr=>intro x h;cases h
 |hcons=>intro x h;cases h
 |_=>intro x h;rfl
theorem zj6 {T:Tbl} {Q:List zn} {E:Owns} {F:Frame} {op:Op} {r:List Prop×V} (h:pOp T Q E F op=some r) (hh:(!r.2.t.hand||zf2 op)=true) {m:Nat} (hF:∀ s,(Frame.get F s).bound≤m) (hE:∀ i o,Owns.get E i=some o->i < m∧o.under m) (hT:∀ t τ,tget T t=some τ->τ.data=true):r.2.bound≤m:=by
 cases hr:r.2.t.hand with
 |false=>show bnd _ _≤m;rw[zjt _ _ hr];exact zk _
 |true=>
  rw[hr]at hh;have sb:∀ x,(zaM (evO F x)).2.bound≤m:=fun x=>zH (zgZ _) (zep hF x);cases op<;>first|(cases hh;done)|skip
  ·cases h;exact zep hF _
  ·cases h;exact zep hF _
  ·rename_i t x;obtain⟨q,h1,rfl⟩:=zbn h;have dat0:∀ (τ:Ty) (y:τ.T),tget T t=some τ->bnd τ y≤m:=fun τ y hτ=>by rw[zju _ _ (hT _ _ hτ)];exact zk _
   unfold zkc at h1;split at h1
   ·split at h1<;>first|(cases h1;done)|skip
    rename_i hs;cases h1;exact dat0 _ _ (ziL hs)
   ·split at h1<;>first|(cases h1;done)|skip
    rename_i hs;cases h1;exact dat0 _ _ (ziL hs)
   ·split at h1<;>first|(cases h1;done)|skip
    split at h1<;>first|(cases h1;done)|skip
    rename_i hs;split at h1<;>first|(cases h1;done)|skip
    split at h1<;>first|(cases h1;done)|skip
    cases h1;simp only[zf]at hs;exact dat0 _ _ (ziL hs.1)
   ·split at h1<;>first|(cases h1;done)|skip
    rename_i vs he;split at h1<;>first|(cases h1;done)|skip
    rename_i τ hτ;split at h1
    ·split at h1<;>first|(cases h1;done)|skip
     cases h1;exact dat0 _ _ hτ
    ·split at h1<;>first|(cases h1;done)|skip
     rename_i v r hv;split at h1<;>first|(cases h1;done)|skip
     cases h1;have hm:v∈vs:=List.mem_of_mem_drop (by rw[hv];exact yf);exact (hE _ _ he).2 vs rfl v hm
   ·cases h1
  ·rename_i x;have:=sb x;simp only[pOp]at h;split at h<;>first|(cases h;done)|skip
   ·rename_i he;cases h;rw[he]at this;exact this
   ·rename_i he;cases h;rw[he]at this;exact this
   ·rename_i he;cases h;rw[he]at this;exact this
  ·rename_i s x f;obtain⟨q,h1,rfl⟩:=zbn h;have:=sb x;unfold zeG at h1;split at h1
   ·split at h1<;>first|(cases h1;done)|skip
    split at h1<;>first|(cases h1;done)|skip
    split at h1<;>first|(cases h1;done)|skip
    cases h1;exact zk _
   ·split at h1<;>first|(cases h1;done)|skip
    split at h1<;>first|(cases h1;done)|skip
    split at h1<;>first|(cases h1;done)|skip
    cases h1;exact zk _
   ·rename_i he;split at h1<;>first|(cases h1;done)|skip
    split at h1<;>first|(cases h1;done)|skip
    split at h1<;>first|(cases h1;done)|skip
    cases h1;rw[he]at this;exact this
   ·rename_i he;split at h1<;>first|(cases h1;done)|skip
    split at h1<;>first|(cases h1;done)|skip
    split at h1<;>first|(cases h1;done)|skip
    cases h1;rw[he]at this;exact this
   ·cases h1
  ·rename_i t x i;obtain⟨q,h1,rfl⟩:=zbn h;have:=sb x;unfold zeF at h1;split at h1
   ·split at h1<;>first|(cases h1;done)|skip
    cases h1;exact zk _
   ·split at h1<;>first|(cases h1;done)|skip
    cases h1;exact zk _
   ·rename_i he _;split at h1<;>first|(cases h1;done)|skip
    cases h1;rw[he]at this;exact this
   ·rename_i he _;split at h1<;>first|(cases h1;done)|skip
    split at h1<;>first|(cases h1;done)|skip
    cases h1;rw[he]at this;exact this
   ·cases h1
theorem Sim.puts (h:Sim w0 X n σ β a w) {w':zj} (hk:yV w.heap.size w w') {v:V} {u:zh} (hr:RepV w' (OSet X σ.E β) β v.t v.x u) (hb:v.bound≤σ.nx) {d:Nat} (hd:d < n):Sim w0 X n (σ.put d v) β (a.put (some d) u) w':=
 h.put hk hr hb hd
theorem Path.set_rep:∀ {r t:Ty} (p:Path r t) (x:r.T) (y:t.T) (cs c:List zh) {O:Nat->Prop},zcF w O p.isElm r x cs->allP (p.vcs x)->RepC w O t y c->zcF w O p.isElm r (p.set x y) (over cs p.off c):=by
 intro r t p
 induction p with
 |here=>
  intro x y cs c O h _ hc;have l1:=RepC.len _ _ _ h;have l2:=RepC.len _ _ _ hc;have:over cs 0 c=c:=by simp[over,l1,l2]
  simp only[Path.off,this];exact hc
 | @fst r a b p ih=>
  intro x y cs c O h hv hc;obtain⟨⟨c1,c2,h1,h2,h3⟩,h4⟩:=Path.rep p x cs h hv;have l0:=RepC.len _ _ _ hc;have l1:=RepC.len _ _ _ h2;have l2:=RepC.len _ _ _ h3;simp only[Ty.size]at h1 h4;have:=ih x (y,(p.get x).2) cs (c++c2) h hv ⟨c,c2,rfl,hc,h3⟩;have e:over cs p.off (c++c2)=over cs p.off c:=by
   have hd:cs.drop (p.off+a.size)=c2++cs.drop (p.off+a.size+b.size):=by
    have h5:cs.drop p.off=c1++c2++(cs.drop p.off).drop (a.size+b.size):=by
     rw[<-h1,x9]
    rw[<-xW,h5,zp, <-l1,qm,xW,xU]
   simp only[over,zd,l0,l2];rw[<-xU,hd];simp
  rw[e]at this;exact this
 | @snd r a b p ih=>
  intro x y cs c O h hv hc;obtain⟨⟨c1,c2,h1,h2,h3⟩,h4⟩:=Path.rep p x cs h hv;have l0:=RepC.len _ _ _ hc;have l1:=RepC.len _ _ _ h2;simp only[Ty.size]at h1 h4;have:=ih x ((p.get x).1,y) cs (c1++c) h hv ⟨c1,c,rfl,h2,hc⟩;have e:over cs p.off (c1++c)=over cs (p.off+a.size) c:=by
   have hd:cs.take (p.off+a.size)=cs.take p.off++c1:=by
    have h5:(cs.drop p.off).take a.size=c1:=by
     have h6:((cs.drop p.off).take (a.size+b.size)).take a.size=c1:=by rw[h1, <-l1,xr]
     rwa[qH,yz (by omega)]at h6
    rw[<-h5,List.take_add]
   simp only[over,zd,l0,l1,hd];simp[xU]
  rw[e]at this;exact this
 | @idx r t n p k ih=>
  intro x y cs c O h hv hc;rw[Path.vcs,zax]at hv;have hk:k < n:=hv.2;obtain⟨⟨h1,h2⟩,h4⟩:=Path.rep p x cs h hv.1;simp only[Ty.size]at h2 h4;have l0:=RepC.len _ _ _ hc;have hlen:zg (p.get x)=n:=h1;have hset:=h2.set (fun x c=>RepC.len t x c) (show k < zg (p.get x) by omega) hc;have:=ih x (kD (p.get x) k y) cs _ h hv.1 ⟨by simp[hlen],hset⟩;have e:over cs p.off (((cs.drop p.off).take (n * t.size)).take (k * t.size)++c++((cs.drop p.off).take (n * t.size)).drop (k * t.size+t.size))=over cs (p.off+k * t.size) c:=by
   have hle:k * t.size+t.size≤n * t.size:=by
    have:=xR t.size (show k+1≤n by omega);rwa[xp,vV]at this
   have hl:(((cs.drop p.off).take (n * t.size)).take (k * t.size)++c++((cs.drop p.off).take (n * t.size)).drop (k * t.size+t.size)).length=n * t.size:=by
    simp[l0];omega
   simp only[over,hl,l0];rw[List.take_add (i:=p.off) (j:=k * t.size),qH,yz (by omega),jc,xW];have e3:cs.drop (p.off+k * t.size+t.size)=((cs.drop (p.off+(k * t.size+t.size))).take (n * t.size - (k * t.size+t.size)))++cs.drop (p.off+n * t.size):=by
    have h7:=(x9 (n * t.size - (k * t.size+t.size)) (cs.drop (p.off+(k * t.size+t.size)))).symm;rw[xW,show p.off+(k * t.size+t.size)+(n * t.size - (k * t.size+t.size))=p.off+n * t.size by omega]at h7;rw[xU];exact h7
   rw[e3];simp
  rw[e]at this;exact this
 | @elm t k=>
  intro x y cs c O h hv hc;have hk:k < zg x:=hv;have h':RepL (RepC w O t) x cs:=h;have l0:=RepC.len _ _ _ hc;have:=h'.set (fun x c=>RepC.len t x c) hk hc;show RepL (RepC w O t) (kD x k y) (over cs (k * t.size) c);simp only[over,l0];exact this
theorem zhx (w:zj) (g:Nat) (cs:Array zh):w.grownBy (w.setRow g cs) (some g):=
 ⟨rfl,rfl,rfl,by simp,fun k _ hne=>setRow_other w g k cs (fun e=>hne (by rw[e]))⟩
theorem zjV {w w':zj} {O O':Nat->Prop} (hk:Keeps w w' O O'):∀ (e:Bool) (r:Ty) (x:r.T) (cs:List zh),zcF w O e r x cs->zcF w' O' e r x cs
 |false,r,x,cs,h=>RepC.keep hk _ _ _ h
 |true,.slice s,x,cs,h=>RepL.mono h fun y _ c=>RepC.keep hk _ _ _
 |true,.bool,_,_,h=>h.elim
 |true,.int _,_,_,h=>h.elim
 |true,.str,_,_,h=>h.elim
 |true,.unit,_,_,h=>h.elim
 |true,.pair _ _,_,_,h=>h.elim
 |true,.arr _ _,_,_,h=>h.elim
 |true,.junk,_,_,h=>h.elim
 |true,.lit,_,_,h=>h.elim
 |true,.vptr _,_,_,h=>h.elim
 |true,.cptr _ _ _,_,_,h=>h.elim
 |true,.optr _,_,_,h=>h.elim
 |true,.obuf _,_,_,h=>h.elim
 |true,.tup _ _,_,_,h=>h.elim
 |true,.cond _,_,_,h=>h.elim
theorem OwnRep.anew {O:Nat->Prop} {B:Nat} {bv:zh} {o:OObj} (h:OwnRep w O β B bv o) (hH:∀ ty vs,o≠ .hbox ty vs) {g:Nat} (hg:zag bv=some g):
  ∃ cs cur ty,zcF w O o.isBuf o.v.t o.v.x cs∧w.heap[g]? =some (.cells cur ty (0,0))∧cs.length≤cur.size∧cur.toList.take cs.length=cs∧
   ∀ (w':zj) (O':Nat->Prop) (o':OObj) (cs':List zh) (cur':Array zh),o'.isBuf=o.isBuf->(∀ te t xs,o= .buf te t xs->∃ ys:List t.T,o'= .buf te t ys∧ys.length=xs.length)->zcF w' O' o'.isBuf o'.v.t o'.v.x cs'->cs'.length=cs.length->cur'.size=cur.size->cur'.toList.take cs.length=cs'->w'.heap[g]? =some (.cells cur' ty (0,0))->OwnRep w' O' β B bv o':=by
 cases o with
 |box t x=>
  obtain⟨g',cs,ty,rfl,h1,h2,h3⟩:=h;cases hg;refine⟨cs,cs.toArray,ty,h3,h2,by simp,by simp,fun w' O' o' cs' cur' hb _ hr hl hs ht hh=>?_⟩;cases o' with
  |buf te t ys=>cases hb
  |hbox ty' vs=>
   have hr':zcF w' O' false .junk () cs':=hr;exact hr'.elim
  |box t' x'=>
   refine⟨g',cur'.toList,ty,rfl,h1,by simpa using hh,?_⟩;have:cur'.toList=cs':=by rw[<-ht,xx (by simp[hs])]
   rw[this];exact hr
 |hbox ty vs=>exact absurd rfl (hH _ _)
 |buf te t xs=>
  obtain⟨cs,h1,h2,h3⟩:=h;rcases h2.2 with ⟨rfl,_⟩|⟨g',cap,cur,rfl,h4,h5,h6,h7,h8,h9⟩
  ·cases hg
  ·cases hg;have hcl:=h2.1;have hle:cs.length≤cur.size:=by rw[hcl,h8];exact xR _ h6
   refine⟨cs,cur,te,h1,h5,hle,by rw[hcl];exact h9,fun w' O' o' cs' cur' hb hbuf hr hl hs ht hh=>?_⟩;obtain⟨ys,rfl,hy⟩:=hbuf te t xs rfl;refine⟨cs',hr,⟨by rw[hl,hcl,hy],.inr ⟨g',cap,cur',by rw[hy],h4,hh,by rw[hy];exact h6,h7,by rw[hs];exact h8,by rw[hy, <-hcl];exact ht⟩⟩,h3⟩
theorem ztI:∀ {r t:Ty} (p:Path r t) (s:Ty) (h:r= .slice s) (x:r.T) (y:t.T),p.isElm=true->zg (h▸p.set x y:(Ty.slice s).T)=zg (h▸x:(Ty.slice s).T):=by
 intro r t p
 induction p with
 |here=>intro s h x y he;cases he
 |fst p ih=>intro s h x y he;exact ih s h x _ he
 |snd p ih=>intro s h x y he;exact ih s h x _ he
 |idx p k ih=>intro s h x y he;exact ih s h x _ he
 |elm k=>intro s h x y he;cases h;exact List.length_set
theorem zkY {B:Nat} {O:Nat->Prop} {bv:zh} {o o':OObj} (hown:OwnRep w O β B bv o) {g:Nat} (hg:zag bv=some g) (hOg:O g) {τ:Ty} {t:zn} (ht:Lay P τ (.inl t)) {root:Ty} {p:Path root τ} {y:τ.T} {vc:List Prop} (hset:o.set p y=some (vc,o')) (hp:allP vc) {u:zh} (hu:RepD w O τ y u):
  ∃ w',(Instr.storeAt t (.pointer (some ⟨g,p.off,none⟩)) u).run P w= .ok () w'∧w.grownBy w' (some g)∧(Keeps w w' O O->OwnRep w' O β B bv o')∧o'.isBuf=o.isBuf:=by
 obtain⟨cs,cur,ty,h1,h2,h3,h4,h5⟩:=hown.anew (by rintro ty vs rfl;cases hset) hg;have hc:=hu.cells;have hlc:=RepC.len _ _ _ hc;have hroot:∃ x:root.T,zcF w O p.isElm root x cs∧allP (p.vcs x)∧o'.isBuf=o.isBuf∧(∀ te t xs,o= .buf te t xs->∃ ys:List t.T,o'= .buf te t ys∧(ys.length=xs.length))∧(∀ w' O' cs',zcF w' O' p.isElm root (p.set x y) cs'->zcF w' O' o'.isBuf o'.v.t o'.v.x cs'):=by
  cases o with
  |box s x=>
   simp only[OObj.set]at hset;split at hset
   ·rename_i he;split at hset
    ·rename_i z hz;rw[Path.setO_eq]at hset;cases hset;have hz':=ziF hz;refine⟨z,?_,hp,rfl,?_,?_⟩
     ·rw[he];have h1':zcF w O false (OObj.box s x).v.t (OObj.box s x).v.x cs:=h1;rw[show (OObj.box s x).v=⟨root,z⟩ from hz']at h1';exact h1'
     ·intro te' t' xs' h;cases h
     ·intro w' O' cs' h;rw[he]at h;exact h
    ·cases hset
   ·cases hset
  |buf te s xs=>
   simp only[OObj.set]at hset;split at hset
   ·rename_i he;generalize zfM (.slice s) root=e at hset;cases e with
    |none=>cases hset
    |some e=>
     obtain⟨e⟩:=e;subst e;simp only[zn0,Path.setO_eq]at hset;cases hset;refine⟨xs,?_,hp,rfl,?_,?_⟩
     ·rw[he];exact h1
     ·intro te' t' xs' h;cases h;exact⟨_,rfl,ztI p s rfl xs y he⟩
     ·intro w' O' cs' h;rw[he]at h;exact h
   ·cases hset
  |hbox ty vs=>cases hset
 obtain⟨x,hx,hvx,hb,hbuf,hback⟩:=hroot;obtain⟨_,hle⟩:=Path.rep p x cs hx hvx;have hfit:p.off+0+u.cells.toList.length≤cur.size:=by rw[hlc];omega
 have hrun:=run_storeCells_at P g p.off ty u.cells.toList 0 cur w h2 hfit (RepC.oneCell _ _ _ hc);simp only[Nat.add_zero]at hrun;refine⟨w.setRow g (over cur.toList p.off u.cells.toList).toArray,?_,zhx w g _,fun hk=>?_,hb⟩
 ·unfold Instr.storeAt ql storeVar;simp only[zC,zv,zA,ht.sizeOf];rw[if_neg (by simp only[ne_eq,Decidable.not_not];rw[<-hlc];simp)];exact hrun
 ·have hnew:=hback _ _ _ (zjV hk _ _ _ _ (Path.set_rep p x y cs u.cells.toList hx hvx hc));have hol:(over cs p.off u.cells.toList).length=cs.length:=zhh (by rw[hlc];exact hle);refine h5 _ _ o' _ _ hb hbuf hnew hol ?_ ?_ (setRow_heap w g cur _ ty _ h2)
  ·rw[qV,zhh (by rw[hlc,vw];omega),vw]
  ·have e1:over (cur.toList.take cs.length) p.off u.cells.toList=(over cur.toList p.off u.cells.toList).take cs.length:=by
    simp only[over];rw[uC,uC,qH,jc];simp only[yB,vw,zd,hlc];rw[yz (show p.off≤cs.length by omega),yz (show p.off≤cur.size by omega),qH,qC (show p.off≤cs.length by omega),xx (show u.cells.toList.length≤cs.length - p.off by omega)]
   rw[h4]at e1;rw[e1]
end
section
variable {P:zx} {K:Kn} {w0:zj} {X:Ownr} {n:Nat} {σ:AS} {β:Nat->zh} {a:Act} {w:zj} {N:Act->zj->Prop} {R:Exit->Act->zj->Prop}
theorem zbz {o:Oper} {u:zh} {w':zj} (h:(execOp a.eval o).run P w= .ok (.value u) w') (hN:N (a.put o.dst u) w'):o.wp P a w N R:=by
 unfold Oper.wp;rw[h];exact hN
theorem zdH {s:Sem zh} {u:zh} {w':zj} (h:s.run P w= .ok u w'):(do pure (.value (<-s)):Sem Next).run P w= .ok (.value u) w':=by simp[h]
theorem OwnRep.base {w:zj} {O:Nat->Prop} {B B':Nat} {bv:zh} {o:OObj} (h:OwnRep w O β B bv o) (hB:B'≤B):OwnRep w O β B' bv o:=by
 cases o with
 |box t x=>
  obtain⟨g,cs,ty,e,h1,h2⟩:=h;exact⟨g,cs,ty,e,zH hB h1,h2⟩
 |buf te t xs=>
  obtain⟨cs,h1,h2,h3⟩:=h;refine⟨cs,h1,⟨h2.1,?_⟩,h3⟩;rcases h2.2 with h4|⟨g,cap,cur,e,h5,h6⟩
  ·exact .inl h4
  ·exact .inr ⟨g,cap,cur,e,zH hB h5,h6⟩
 |hbox ty vs=>
  obtain⟨g,cs,e,h1,h2⟩:=h;exact⟨g,cs,e,zH hB h1,h2⟩
theorem OObj.set_under {r t:Ty} {o o':OObj} {p:Path r t} {y:t.T} {vc:List Prop} {k:Nat} (h:o.set p y=some (vc,o')):o'.under k:=by
 cases o with
 |box s x=>
  simp only[OObj.set]at h;split at h
  ·split at h
   ·split at h
    ·cases h;intro _ e;cases e
    ·cases h
   ·cases h
  ·cases h
 |buf te s xs=>
  simp only[OObj.set]at h;split at h
  ·generalize zfM (.slice s) r=e at h;cases e with
   |none=>cases h
   |some e=>
    obtain⟨e⟩:=e;subst e;simp only[zn0]at h;split at h
    ·cases h;intro _ e;cases e
    ·cases h
  ·cases h
 |hbox ty vs=>cases h
theorem Sim.var (h:Sim w0 X n σ β a w) (hX:X.Ok w0) {τ:Ty} {x:τ.T} {cs:List zh} (hr:RepC w (OSet X σ.E β) τ x cs) {ty:zn} {d:Nat} (hd:d < n):
  ∃ β',Sim w0 X n ⟨(d,⟨.optr τ,⟨σ.nx,τ,.here⟩⟩)::σ.F,(σ.nx,some (.box τ x))::σ.E,σ.nx+1⟩ β' (a.put (some d) (.pointer (some ⟨w.heap.size,0,none⟩))) (w.alloc (.cells cs.toArray ty)):=by
 refine h.make hX (za4 w _) (bv:=.pointer (some ⟨w.heap.size,0,none⟩)) (o:=.box τ x) (v:=⟨.optr τ,⟨σ.nx,τ,.here⟩⟩) ?_ ?_ ?_ ?_ hd
 ·intro O β' hO;refine⟨w.heap.size,cs,ty,rfl,zk _,heap_alloc_new w _,RepC.keep (.of_below (za4 w _) fun g hg hg'=>?_) _ _ _ hr⟩;rcases hO g hg' with h1|h1
  ·exact h1
  ·have:w.heap.size=g:=by simpa [zag] using h1
   omega
 ·intro g hg;cases hg;exact zl _
 ·intro O β' hβ;exact⟨w.heap.size,by show zag (β' σ.nx)=_;rw[hβ];rfl,rfl⟩
 ·exact zl _
theorem Sim.buf (h:Sim w0 X n σ β a w) (hX:X.Ok w0) {w':zj} (hk:yV w.heap.size w w') {τ:Ty} {te:zn} {xs:List τ.T} {u:zh}
  (hr:OwnRep w' (fun g=>OSet X σ.E β g∨zag u=some g) β w.heap.size u (.buf te τ xs)) {d:Nat} (hd:d < n):
  ∃ β',Sim w0 X n ⟨(d,⟨.obuf τ,σ.nx⟩)::σ.F,(σ.nx,some (.buf te τ xs))::σ.E,σ.nx+1⟩ β' (a.put (some d) u) w':=by
 refine h.make hX hk (bv:=u) (o:=.buf te τ xs) (v:=⟨.obuf τ,σ.nx⟩) ?_ ?_ ?_ ?_ hd
 ·intro O β' hO;have h1:=hr.keep (O':=O) ⟨zl _,fun _ _ _=>rfl,fun g _ hg=>hO g hg⟩ fun _ _=>rfl;exact h1.base (zk _)
 ·exact fun g hg=>(hr.block_lt hg).1
 ·intro O β' hβ;exact hβ.symm
 ·exact zl _
theorem zis {w:zj} {O:Nat->Prop} (hO:∀ g,O g->g < w.heap.size) {τ:Ty} (hz:0 < τ.size) {xs:List τ.T} {ds:List zh} {te:zn} (h:RepL (RepC w O τ) xs ds) {len cap:Nat} (hl:xs.length=len) (hc:len≤cap) (hm:cap≤maxLen) {cur:Array zh} (hcur:cur.size=cap * τ.size) (ht:cur.toList.take ds.length=ds):
  OwnRep (w.alloc (.cells cur te)) (fun g=>O g∨zag (.slice (some ⟨w.heap.size,0,none⟩) len cap)=some g) β w.heap.size (.slice (some ⟨w.heap.size,0,none⟩) len cap) (.buf te τ xs):=by
 have hd:=h.len (fun x c=>RepC.len τ x c);refine⟨ds,h.mono fun x _ c=>RepC.keep (.of_below (za4 w _) fun g hg hg'=>?_) _ _ _,⟨hd,.inr ⟨w.heap.size,cap,cur,by rw[hl],zl _,heap_alloc_new w _,by rw[hl];exact hc,hm,hcur,by rw[<-hd];exact ht⟩⟩,hz⟩;rcases hg' with h1|h1
 ·exact h1
 ·have:w.heap.size=g:=by simpa [zag] using h1
  omega
theorem zpF {τ:Ty} {v:V} {ys:List τ.T} (h:coe (.slice τ) v=some ys):v=⟨.slice τ,ys⟩∨(v=⟨.lit,.slice none 0 0⟩∧ys=[]):=by
 rcases zeI h with h1|⟨h1,τ',h2⟩
 ·exact .inl h1
 ·cases h2;exact .inr ⟨h1,rfl⟩
theorem zhf {A:List Prop} {o:Option (List Prop×AS)} {r:List Prop×AS} (h:preS A o=some r):∃ q,o=some q∧(A++q.1,q.2)=r:=by
 induction A generalizing r with
 |nil=>exact⟨r,h,rfl⟩
 |cons a A ih=>
  simp only[preS]at h;split at h<;>first|(cases h;done)|skip
  rename_i p v hp;cases h;obtain⟨q,h1,h2⟩:=ih hp;cases h2;exact⟨q,h1,rfl⟩
theorem zpD (hK:KnOk P X.G K) (hX:X.Ok w0) (h:Sim w0 X n σ β a w) {o:Oper} {r:List Prop×AS} (hs:zpE K n o.dst o.op σ=some r) (hp:allP r.1)
  (hN:∀ β' a' w',Sim w0 X n r.2 β' a' w'->N a' w'):o.wp P a w N R:=by
 have hO:=h.hO hX;generalize hdst:o.dst=dst at hs;generalize hop:o.op=op at hs;obtain⟨F,E,nx⟩:=σ;simp only[zpE]at hs;split at hs
 ·
  split at hs
  ·rename_i t p x;split at hs
   ·rename_i τ i rt q hq;split at hs
    ·rename_i ob hob;split at hs
     ·rename_i hty;split at hs
      ·rename_i y hy;split at hs<;>first|(cases hs;done)|skip
       rename_i vc o' h1;cases hs;simp only[zax]at hp;have hpp:=za7 (h.ops p) hp.1.1;rw[hq]at hpp;obtain⟨g,h2,h3⟩:=hpp;have hl:=hK.t.is hty;have hx:=zf6 hl.data hy (za7 (h.ops x) hp.1.2);obtain⟨w',h4,h5,h6,h7⟩:=zkY (h.own _ _ hob) h2 (.inr ⟨_,_,hob,h2⟩) hl h1 hp.2 hx;unfold Oper.wp;have e:(execOp a.eval o).run P w= .ok .skip w':=by
        unfold execOp;simp only[hop];rw[h3];simp[h4]
       rw[e];show N (a.put o.dst undef) w';rw[hdst];exact hN β a w' (h.write hob (by rw[h2];exact h5) h6 h7 (OObj.set_under ‹_›))
      ·cases hs
     ·cases hs
    ·cases hs
   ·cases hs
  ·cases hs
 ·rename_i d;split at hs
  ·rename_i hdn;have hd:d < n:=by simpa using hdn
   split at hs
   ·
    rename_i t;split at hs
    ·rename_i τ ht;cases hs;have hl:=hK.t.lay _ _ ht;obtain⟨i,z,hi,_,hz,hzc,_⟩:=hl.info;obtain⟨β',hs'⟩:=h.var hX (zfm w (OSet X E β) τ hl.data) (ty:=t) hd;refine zbz (u:=.pointer (some ⟨w.heap.size,0,none⟩)) (w':=w.alloc (.cells (zbW τ).toArray t)) ?_ (by rw[hdst];exact hN β' _ _ hs');unfold execOp;simp[hop,Instr.alloc,zeroValue,typeInfo,hi,hz,newVar,newRow,hzc]
    ·cases hs
   ·
    rename_i t x;split at hs
    ·rename_i τ ht;split at hs<;>first|(cases hs;done)|skip
     rename_i y h1;cases hs;have hl:=hK.t.lay _ _ ht;have hx:=zf6 hl.data h1 (za7 (h.ops x) hp);obtain⟨β',hs'⟩:=h.var hX hx.cells (ty:=t) hd;refine zbz (u:=.pointer (some ⟨w.heap.size,0,none⟩)) (w':=w.alloc (.cells (a.eval x).cells t)) ?_ (by rw[hdst];exact hN β' _ _ (by simpa using hs'));unfold execOp;simp[hop,Instr.box,newVar,newRow]
    ·cases hs
   ·
    rename_i t len parts;split at hs
    ·rename_i te p e xs hte hq;cases hs;have hps:zgA w (OSet X E β) β (parts.toList.map fun p=>(p.1,evO F p.2)) (parts.map fun p=>(p.1,a.eval p.2)).toList:=by
      rw[jD];exact zha fun p hpm=>h.ops p.2
     obtain⟨ds,te',hu,hl,hz,h1,h2,h3⟩:=zeu hK.t hq hp hps;have:te=te':=by have:=hK.u _ _ hte;rw[hu]at this;cases this;rfl
     subst this;have hdl:=h1.len (fun x c=>RepC.len _ x c);have hlen:len≤maxLen:=by
      unfold zcr at hq;split at hq
      ·split at hq
       ·rename_i e _ hb;simp only[zf,qt]at hb;have hpos:0 < e.size:=by simpa using hb.2
        have:=ki len hpos;simp only[maxLen];omega
       ·cases hq
      ·cases hq
     have hown:=zis (β:=β) (te:=te) hO hz h1 h2 (zl _) hlen (cur:=ds.toArray) (by rw[qV,hdl,h2]) (by simp);obtain⟨β',hs'⟩:=h.buf hX (za4 w _) hown hd;refine zbz (u:=.slice (some ⟨w.heap.size,0,none⟩) len len) (w':=w.alloc (.cells ds.toArray te)) ?_ (by rw[hdst];exact hN β' _ _ hs');unfold execOp;simp only[hop];exact zdH h3
    ·cases hs
   ·
    rename_i t l c;split at hs
    ·rename_i te τ x0 y0 hte hty hl hc;obtain⟨x,rfl⟩:∃ x:Int,x=x0:=⟨x0,rfl⟩;obtain⟨y,rfl⟩:∃ y:Int,y=y0:=⟨y0,rfl⟩;split at hs
     ·rename_i hb;cases hs;simp only[zax]at hp;obtain⟨⟨hp1,hp2⟩,h0,hxy,hy⟩:=hp;have hy:y≤1000000000:=hy;have h0:0≤x:=h0;have hxy:x≤y:=hxy;simp only[zf,qt]at hb;have hz:0 < τ.size:=by simpa using hb.2
      have hL:=za7 (h.ops l) hp1;have hC:=za7 (h.ops c) hp2;rw[hl]at hL;rw[hc]at hC;have hL:=RepV.int hL;have hC:=RepV.int hC;obtain⟨te',hu,_,hlay⟩:=hK.t.lay _ _ hty;have:te=te':=by have:=hK.u _ _ hte;rw[hu]at this;cases this;rfl
      subst this;obtain⟨i,z,hi,hsz,hzv,hzc,hby⟩:=hlay.info;have hzs:z.cells.size=τ.size:=by rw[hzc];simp[zdb τ hlay.data]
      have hbytes:(i.bytes:Int) * y≤281474976710656:=by
       have hb1:i.bytes≤100000:=by omega
       have hb2:i.bytes * (y:Int).toNat≤100000 * 1000000000:=jw hb1 (by omega);have hb3:((i.bytes * (y:Int).toNat:Nat):Int)=(i.bytes:Int) * y:=by
        rw[Int.natCast_mul,Int.toNat_of_nonneg (by omega)]
       omega
      have hrun:=run_make (P:=P) w t te i z hu hi hzv .i64 .i64 x y h0 hxy hbytes (by omega);have hcells:madeCells z.cells ((y:Int).toNat * i.size)=(zu (y:Int).toNat (zbW τ)).flatten.toArray:=by
       have:=zgV z.cells (by omega) (y:Int).toNat;unfold madeCells;rw[hsz, <-hzs,this,hzc]
      rw[hcells]at hrun;have hz1:=zfT (w:=w) (O:=OSet X E β) hlay.data (x:Int).toNat;have hlz:=hz1.len (fun x c=>RepC.len _ x c);have hown:=zis (β:=β) (te:=te) hO hz hz1 (len:=(x:Int).toNat) (cap:=(y:Int).toNat) (by simp) (by omega) (by simp only[maxLen];omega) (cur:=(zu (y:Int).toNat (zbW τ)).flatten.toArray)
       (by simp[zdb τ hlay.data]) (by
         have e1:(y:Int).toNat=(x:Int).toNat+((y:Int).toNat - (x:Int).toNat):=by omega
         rw[e1, <-List.replicate_append_replicate,vv];simp only[List.toList_toArray];rw[xr])
      obtain⟨β',hs'⟩:=h.buf hX (za4 w _) hown hd;refine zbz (u:=.slice (some ⟨w.heap.size,0,none⟩) (x:Int).toNat (y:Int).toNat) ?_ (by rw[hdst];exact hN β' _ _ hs');unfold execOp;simp only[hop,hL,hC];exact zdH hrun
     ·cases hs
    ·cases hs
   ·
    rename_i args ts;split at hs
    ·rename_i s x t u ha ht;split at hs
     ·rename_i htu;have:t=u:=xH htu;subst this;have ea:args= #[s,x]:=by rw[<-qc,ha]
      have et:ts= #[t,t]:=by rw[<-qc,ht]
      subst ea;subst et;obtain⟨q,h1,rfl⟩:=zhf hs;simp only[zax]at hp;have hS:=za7 (h.ops s) hp.1.1;have hXX:=za7 (h.ops x) hp.1.2;have erun:∀ v' w',(qN #[t,t] o.type #[a.eval s,a.eval x]).run P w= .ok v' w'->(execOp a.eval o).run P w= .ok (.value v') w':=by
       intro v' w' hr;unfold execOp;simp[hop,resolve,invoke,builtin,hr]
      have src:∀ {τ:Ty} {ys:List τ.T} {y:V},coe (.slice τ) (dat E y)=some ys->RepV w (OSet X E β) β y.t y.x (a.eval x)->RepS w (fun _=>False) (RepC w (OSet X E β) τ) ys (a.eval x):=by
       intro τ ys y hy hr;rcases zpF hy with hd0|⟨hd0,rfl⟩
       ·exact zsC h.own hd0 hr
       ·have:y=⟨.lit,.slice none 0 0⟩:=by
         obtain⟨yt,yx⟩:=y;cases yt<;>simp only[dat]at hd0<;>first|exact hd0|(cases hd0;done)|(split at hd0<;>cases hd0)
        rw[this]at hr;have e:a.eval x= .slice none 0 0:=hr;exact .inl ⟨rfl,none,0,e,by simp⟩
      unfold appV at h1;split at h1
      ·rename_i te hte;split at h1
       ·rename_i τ0 i hsv;split at h1
        ·rename_i te' τ xs hob;split at h1
         ·rename_i hb;split at h1<;>first|(cases h1;done)|skip
          rename_i ys h2;cases h1;simp only[zf,qt]at hb;obtain⟨⟨hb1,hb2⟩,hb3⟩:=hb;have:te=te':=xH hb2;subst this;rw[hsv]at hS;have eS:a.eval s=β i:=hS;obtain⟨te2,hu,_,hlay⟩:=hK.t.is hb1;have:te=te2:=by have:=hK.u _ _ hte;rw[hu]at this;cases this;rfl
          subst this;obtain⟨v',w',k1,k2,k3,k4⟩:=ziH (P:=P) hu hlay hb3 o.type (zk _) (h.own i _ hob) (fun g hg=>.inr ⟨i,_,hob,hg⟩) (src h2 hXX) hp.2;obtain⟨β',hs'⟩:=h.redo hob rfl k2 (bv:=v') k3 (t:=τ) (o':=.buf te τ _) (fun O _ hO=>k4 O hO) hd;refine zbz (erun v' w' (by rw[eS];exact k1)) (by rw[hdst];exact hN β' _ _ hs')
         ·cases h1
        ·cases h1
       ·split at h1
        ·rename_i hnil;split at h1
         ·rename_i τ hty;split at h1
          ·rename_i hb;split at h1<;>first|(cases h1;done)|skip
           rename_i ys h2;cases h1;simp only[zf,qt]at hb;have hz:0 < τ.size:=by simpa using hb.2
           have eS:a.eval s= .slice none 0 0:=by
            revert hS hnil;generalize (zaM (evO F s)).2=sv;intro hS hnil;unfold isNil at hnil;split at hnil
            ·exact hS
            ·cases hnil
           obtain⟨te2,hu,_,hlay⟩:=hK.t.lay _ _ hty;have:te=te2:=by have:=hK.u _ _ hte;rw[hu]at this;cases this;rfl
           subst this;have hnilOwn:OwnRep w (OSet X E β) β w.heap.size (.slice none 0 0) (.buf te τ []):=⟨[],rfl,um w _ te τ.size,hz⟩;obtain⟨v',w',k1,k2,k3,k4⟩:=ziH (P:=P) hu hlay hb.1 o.type (zl _) hnilOwn (fun g hg=>by cases hg) (src h2 hXX) (by have hq:ys.length≤1000000000:=hp.2;simpa using hq);have hk:yV w.heap.size w w':=⟨k2.os,k2.tape,k2.output,k2.size,fun g hg=>k2.block g hg (by simp[zag])⟩;have hown:=k4 (fun g=>OSet X E β g∨zag v'=some g) fun g hg hg'=>by
            rcases hg' with h3|h3
            ·exact h3
            ·rcases k3 g h3 with h4|h4
             ·cases h4
             ·omega
           obtain⟨β',hs'⟩:=h.buf hX hk hown hd;refine zbz (erun v' w' (by rw[eS];exact k1)) (by rw[hdst];exact hN β' _ _ hs')
          ·cases h1
         ·cases h1
        ·cases h1
      ·cases h1
     ·cases hs
    ·cases hs
   ·
    rename_i x args ts;split at hs<;>first|(cases hs;done)|skip
    rename_i f cs hcal;split at hs<;>first|(cases hs;done)|skip
    rename_i p c xs h1;have h2:=hs;have hops:∀ x∈o.op.operands,RepV w (OSet X E β) β (evO F x).t (evO F x).x (a.eval x):=fun x _=>h.ops x;split at h2
    ·rename_i hown0;split at h2
     ·cases h2
     ·rename_i hh;cases h2;refine zgS hK.c (hX.2.2 w h.bel) hO h.own hop hcal h1 hp hops fun v w' hb hr=>?_;rw[hdst];simp only[hown0]at hr;have hr':RepV w' (fun g=>c.fl=false∧OSet X E β g) β c.res (c.out xs) v:=zg8 _ _ _ hr;have hr2:RepV w' (OSet X E β) β c.res (c.out xs) v:=by
       cases hfl:c.fl with
       |true=>exact zjY hfl hr'
       |false=>
        rw[hfl]at hr';exact RepV.keep ⟨zl _,fun _ _ _=>rfl,fun g _ h=>⟨rfl,h⟩⟩ _ _ _ hr'
      refine hN β _ _ (h.puts hb hr2 ?_ hd);show bnd _ _≤_;rw[zjt _ _ (by simpa using hh)];exact zk _
    ·rename_i te hown0;split at h2
     ·rename_i τ ys hres hout;cases h2;have hnf:c.fl=false:=by unfold Ctr.fl;rw[hres];rfl
      refine zgS hK.c (hX.2.2 w h.bel) hO h.own hop hcal h1 hp hops fun v w' hb hr=>?_;rw[hdst];simp only[hown0]at hr;have hr':OwnRep w' (fun g=>(c.fl=false∧OSet X E β g)∨zag v=some g) β w.heap.size v (.buf te τ ys):=by
       revert hr;generalize c.out xs=x at hout ⊢;revert x;rw[hres];intro x hx hr;cases hx;exact hr
      have hr2:OwnRep w' (fun g=>OSet X E β g∨zag v=some g) β w.heap.size v (.buf te τ ys):=hr'.keep ⟨zl _,fun _ _ _=>rfl,fun g _ h=>h.imp (fun h=>⟨hnf,h⟩) id⟩ fun _ _=>rfl;obtain⟨β',hs'⟩:=h.buf hX hb hr2 hd;exact hN β' _ _ hs'
     ·cases h2
   ·
    split at hs<;>first|(cases hs;done)|skip
    rename_i p t x h1;have h2:=hs;split at h2
    ·rename_i hh;cases h2;have hops:∀ x∈o.op.operands,RepV w (OSet X E β) β (evO F x).t (evO F x).x (a.eval x):=fun x _=>h.ops x;obtain⟨u,w',k1,k2,k3⟩:=zir (P:=P) (o:=o) hK.t hO h.own (by rw[hop];exact h1) hp hops;refine zbz k1 ?_;rw[hdst];exact hN β _ _ (h.puts k2 k3 (zj6 h1 hh h.hb (fun i o ho=>⟨h.lt i o ho,h.hE i o ho⟩) fun t τ ht=>(hK.t.lay t τ ht).data) hd)
    ·cases h2
  ·cases hs
end
structure KeepsM (w w':zj):Prop where
 size:w.heap.size≤w'.heap.size
 block:∀ (g:Nat) cs ty fz,w.heap[g]? =some (.cells cs ty fz)->∃ fz',w'.heap[g]? =some (.cells cs ty fz')
 maps:∀ (g:Nat) ms ck,w.heap[g]? =some (.map ms ck)->w'.heap[g]? =some (.map ms ck)
section
variable {w w':zj} {O:Nat->Prop} {β:Nat->zh}
theorem CellsAt.keepM {g off:Nat} {vs:List zh} (h:CellsAt w g off vs) (hk:KeepsM w w'):CellsAt w' g off vs:=fun j u hu=>by
 have h1:=h j u hu;unfold xo at h1 ⊢;simp only at h1 ⊢;cases ho:w.heap[g]? with
 |none=>simp[ho]at h1
 |some o=>
  cases o<;>first|(simp[ho]at h1;done)|skip
  rename_i cs ty fz;obtain⟨fz',h2⟩:=hk.block g cs ty fz ho;rw[h2];rw[ho]at h1;exact h1
theorem RepS.keepM {α:Type} {R R':α->List zh->Prop} {xs:List α} {v:zh} (h:RepS w O R xs v) (hk:KeepsM w w') (hr:∀ x c,R x c->R' x c):RepS w' O R' xs v:=by
 rcases h with h|⟨g,off,c,vs,h1,h2,h3,h4,h5,h6,h7,h8⟩
 ·exact .inl h
 ·exact .inr ⟨g,off,c,vs,h1,h2,h3,h4,zK h5 hk.size,h6,h7.mono fun x _ c=>hr x c,h8.keepM hk⟩
theorem RepC.keepM (hk:KeepsM w w'):∀ (t:Ty) (x:t.T) (cs:List zh),RepC w O t x cs->RepC w' O t x cs:=by
 intro t
 induction t with
 |pair a b iha ihb=>rintro x cs ⟨c1,c2,h,h1,h2⟩;exact⟨c1,c2,h,iha _ _ h1,ihb _ _ h2⟩
 |arr n t ih=>rintro x cs ⟨h1,h2⟩;exact⟨h1,h2.mono fun x _ c=>ih x c⟩
 |slice t ih=>rintro x cs ⟨v,h,h2⟩;exact⟨v,h,h2.keepM hk ih⟩
 |_=>intro x cs h;exact h
theorem RepD.keepM (hk:KeepsM w w') {t:Ty} {x:t.T} {v:zh} (h:RepD w O t x v):RepD w' O t x v:=by
 unfold RepD at *;split at h
 ·rename_i ht;obtain⟨cs,h1,h2⟩:=h;rw[if_pos ht];exact⟨cs,h1,RepC.keepM hk _ _ _ h2⟩
 ·rename_i ht;rw[if_neg ht];exact RepC.keepM hk _ _ _ h
theorem RepTup.keepM (hk:KeepsM w w'):∀ (t:Ty) (x:t.T) (vs:List zh),RepTup w O t x vs->RepTup w' O t x vs:=by
 intro t
 induction t with
 |tup a b iha ihb=>rintro x vs ⟨v,r,h,h1,h2⟩;exact⟨v,r,h,h1.keepM hk,ihb _ _ h2⟩
 |unit=>intro x vs h;exact h
 |_=>intro x vs h;exact absurd h (by simp[RepTup])
theorem RepP.keepM (hk:KeepsM w w') {t:Ty} {x:t.T} {v:zh} (h:RepP w O t x v):RepP w' O t x v:=by
 cases t<;>first|exact h.elim|skip
 obtain⟨g,off,cs,h1,h2,h3,h4,h5⟩:=h;exact⟨g,off,cs,h1,zK h2 hk.size,h3,RepC.keepM hk _ _ _ h4,h5.keepM hk⟩
theorem RepCap.keepM (hk:KeepsM w w'):∀ (t:Ty) (x:t.T) (vs:List zh),RepCap w O t x vs->RepCap w' O t x vs:=by
 intro t
 induction t with
 |tup a b iha ihb=>rintro x vs ⟨v,r,h,h1,h2⟩;exact⟨v,r,h,h1.keepM hk,ihb _ _ h2⟩
 |unit=>intro x vs h;exact h
 |_=>intro x vs h;exact absurd h (by simp[RepCap])
theorem RepV.keepM (hk:KeepsM w w'):∀ (t:Ty) (x:t.T) (v:zh),RepV w O β t x v->RepV w' O β t x v:=by
 intro t
 induction t with
 |junk=>intro x v h;exact h
 |lit=>intro x v h;exact h
 |vptr t _=>
  rintro x v ⟨g,off,cs,h1,h2,h3,h4,h5⟩;exact⟨g,off,cs,h1,zK h2 hk.size,h3,RepC.keepM hk _ _ _ h4,h5.keepM hk⟩
 |cptr g off t _=>
  rintro x v ⟨cs,h1,h2,h3,h4,h5⟩;exact⟨cs,h1,zK h2 hk.size,h3,RepC.keepM hk _ _ _ h4,h5.keepM hk⟩
 |optr t _=>intro x v h;exact h
 |obuf t _=>intro x v h;exact h
 |tup a b _ _=>rintro x v ⟨vs,h1,h2⟩;exact⟨vs,h1,RepTup.keepM hk _ _ _ h2⟩
 |cond t ih=>intro x v h;exact⟨fun hc=>ih _ _ (h.1 hc),h.2⟩
 |clo f t _=>rintro x v ⟨vs,h1,h2⟩;exact⟨vs,h1,RepCap.keepM hk _ _ _ h2⟩
 |mapL=>rintro x v ⟨r,ms,ck,h1,h2,h3,h4,h5⟩;exact⟨r,ms,ck,h1,zK h2 hk.size,h3,hk.maps r ms ck h4,h5⟩
 |hptr=>intro x v h;exact h
 |hcons a b iha ihb=>rintro x v ⟨u,s,h1,h2,h3,h4⟩;exact⟨u,s,h1,h2,iha _ _ h3,ihb _ _ h4⟩
 |_=>intro x v h;exact RepD.keepM hk h
theorem RepH.keepM (hk:KeepsM w w'):∀ {vs:List V} {cs:List zh},RepH w O β vs cs->RepH w' O β vs cs
 | [],_,h=>h
 |v::r,_,⟨u,s,h1,h2,h3,h4⟩=>⟨u,s,h1,h2,RepV.keepM hk _ _ _ h3,RepH.keepM hk h4⟩
end
section
variable {P:zx} {K:Kn} {w0:zj} {X:Ownr} {n:Nat} {σ:AS} {β:Nat->zh} {a:Act} {w:zj} {R:Exit->Act->zj->Prop} {N:Act->zj->Prop}
theorem zqR {s e g k c:Nat} {cs:Array zh} {te:zn} {fz:Nat×Nat} (hs:P.underlying s=some (.slice e)) (he:P.underlying e=some (.int .u8)) (hg:w.heap[g]? =some (.cells cs te fz)):
  ∃ w2,(convert s s (.slice (some ⟨g,0,none⟩) k c)).run P w= .ok (.slice (some ⟨g,0,none⟩) k c) w2∧w.grownBy w2 (some g)∧KeepsM w w2:=by
 have hsh:w.shape? g=some (te,cs.size):=by unfold kr;rw[hg]
 refine⟨w.freeze ⟨g,cs.size,none⟩ 1,by simp[convert,run_underlying hs,run_underlying he,markStringish,hsh],?_,?_⟩
 ·unfold qT;rw[if_neg (by decide)];refine⟨rfl,rfl,rfl,by simp,fun j _ hj=>?_⟩;show (w.heap.modify g _)[j]? =_;rw[xZ,if_neg (fun e=>hj (by rw[e]))]
 ·unfold qT;rw[if_neg (by decide)];refine⟨by simp,fun j cs' ty' fz' hj=>?_,?_⟩;show ∃ fz2,(w.heap.modify g _)[j]? =_;rw[xZ];by_cases hgj:g=j
  ·subst hgj;rw[if_pos rfl,hj];exact⟨_,rfl⟩
  ·rw[if_neg hgj];exact⟨fz',hj⟩
  ·intro j ms ck hj;show (w.heap.modify g _)[j]? =_;rw[xZ,if_neg (fun e=>by subst e;rw[hg]at hj;cases hj)];exact hj
theorem Sim.mark {w2:zj} (h:Sim w0 X n σ β a w) {g:Nat} (hk:KeepsM w w2) (hm:w.grownBy w2 (some g)) (hnew:w0.heap.size≤g∨X.R g) (hno:∀ i o,Owns.get σ.E i=some o->zag (β i)≠some g):Sim w0 X n σ β a w2:=
 ⟨h.sz,h.df,h.bel.grown hm (fun g' e=>by cases e;exact hnew),fun s=>RepV.keepM hk _ _ _ (h.fr s),fun i o hi=>by
   have hb:∀ g',zag (β i)=some g'->w2.heap[g']? =w.heap[g']? :=fun g' hg'=>hm.block g' ((h.own i o hi).block_lt hg').2 fun e=>hno i o hi (by rw[hg',e]);have h1:=h.own i o hi;cases o with
   |box t x=>
    obtain⟨g',cs,ty,e,h2,h3,h4⟩:=h1;exact⟨g',cs,ty,e,h2,(hb g' (by rw[e];rfl)).trans h3,RepC.keepM hk _ _ _ h4⟩
   |buf te t xs=>
    obtain⟨cs,h2,h3,h4⟩:=h1;refine⟨cs,h2.mono fun x _ c=>RepC.keepM hk _ _ _,⟨h3.1,?_⟩,h4⟩;rcases h3.2 with h5|⟨g',cap,cur,e,h5,h6,h7⟩
    ·exact .inl h5
    ·exact .inr ⟨g',cap,cur,e,h5,(hb g' (by rw[e];rfl)).trans h6,h7⟩
   |hbox ty vs=>
    obtain⟨g',cs,e,h2,h3,h4⟩:=h1;exact⟨g',cs,e,h2,(hb g' (by rw[e];rfl)).trans h3,h4.keepM hk⟩,h.new,h.inj,h.lt,h.fix,h.hb,h.hE⟩
theorem zqS (hK:KnOk P X.G K) (hX:X.Ok w0) (h:Sim w0 X n σ β a w) {o:Oper} {r:List Prop×AS} (hs:zsY K n o σ=some r) (hp:allP r.1)
  (hN:∀ β' a' w',Sim w0 X n r.2 β' a' w'->N a' w'):o.wp P a w N R:=by
 obtain⟨F,E,nx⟩:=σ;simp only[zsY]at hs;split at hs<;>first|(cases hs;done)|skip
 rename_i s t x d hop hdst;split at hs<;>first|(cases hs;done)|skip
 rename_i τ' i hx;split at hs<;>first|(cases hs;done)|skip
 rename_i te xs hi;split at hs<;>first|(cases hs;done)|skip
 rename_i hc;cases hs;simp only[zf]at hc;have e:=xH hc.1.1;subst e;have hd:d < n:=by simpa using hc.2
 rw[zax]at hp;have hpx:0 < zg xs:=hp.2;have hu:=za7 (h.ops x) hp.1;rw[hx]at hu;have hu:a.eval x=β i:=hu;have hown:=h.own i _ hi;obtain⟨cs,h1,h2,h3⟩:=hown;obtain⟨e,hut,_,he⟩:=hK.t.is hc.1.2;rcases h2.2 with ⟨_,h4⟩|⟨g,cap,cur,hb,h5,h6,h7⟩
 ·exact absurd h4 (by omega)
 ·have hbl:zag (β i)=some g:=by rw[hb];rfl
  obtain⟨w2,k1,k2,k3⟩:=zqR (P:=P) (k:=xs.length) (c:=cap) hut he.1 h6;have hf:=h.freeze hX hi;have hf2:=hf.mark k3 k2 (h.new i _ g hi hbl) fun j oj hj hg=>by
   rw[show Owns.get ((i,none)::E) j=_ from zah ..]at hj;by_cases hij:i=j
   ·rw[if_pos hij]at hj;cases hj
   ·rw[if_neg hij]at hj;exact h.inj i j _ _ hi hj hij g hbl hg
  have hv:RepV w2 (OSet X ((i,none)::E) β) β (.slice (.int .u8)) xs (β i):=by
   have hno:∀ g,zag (β i)=some g->¬ OSet X ((i,none)::E) β g:=fun g hg hg'=>by
    rcases hg' with hg'|⟨j,oj,h1,h2⟩
    ·have h3:=hX.1 g hg';rcases h.new i _ g hi hg with h4|h4
     ·omega
     ·exact h3.2 h4
    ·rw[zah]at h1;by_cases hs:i=j
     ·rw[if_pos hs]at h1;cases h1
     ·rw[if_neg hs]at h1;exact h.inj i j _ _ hi h1 hs g hg h2
   have hview:RepD w (OSet X ((i,none)::E) β) (.slice (.int .u8)) xs (β i):=(h.own i _ hi).view (fun g _ hg=>by
    rcases hg with hg|⟨j,oj,h1,h2⟩
    ·exact .inl hg
    ·rw[zah]at h1;by_cases hs:i=j
     ·rw[if_pos hs]at h1;cases h1
     ·rw[if_neg hs]at h1;exact .inr ⟨j,oj,h1,h2⟩) hno
   exact RepV.keepM k3 _ _ _ (zcA hview)
  have hput:=hf2.put (zV _ _) (v:=⟨.slice (.int .u8),xs⟩) hv (zk _) hd;refine zbz (u:=β i) (w':=w2) ?_ ?_
  ·unfold execOp;rw[hop];rw[<-hb]at k1;rw[<-hu]at k1 ⊢;exact zdH k1
  ·rw[hdst];exact hN β _ _ hput
theorem ztL (hK:KnOk P X.G K) (h:Sim w0 X n σ β a w) {o:Oper} {r:List Prop×AS} (hs:cutS K n o σ=some r) (hp:allP r.1)
  (hN:∀ β' a' w',Sim w0 X n r.2 β' a' w'->N a' w'):o.wp P a w N R:=by
 obtain⟨F,E,nx⟩:=σ;simp only[cutS]at hs;split at hs<;>first|(cases hs;done)|skip
 split at hs<;>first|(cases hs;done)|skip
 rename_i s x hi d hop hdst;split at hs<;>first|(cases hs;done)|skip
 rename_i τ' i j hx hj;split at hs<;>first|(cases hs;done)|skip
 rename_i te τ xs hE;split at hs<;>first|(cases hs;done)|skip
 rename_i hc;cases hs;simp only[zf]at hc;have hd:d < n:=by simpa using hc.2
 rw[zax]at hp;obtain⟨hp1,hj0,hj1⟩:=hp;have hj1:j≤((zg xs:Nat):Int):=hj1;have hu:=za7 (h.ops x) hp1;rw[hx]at hu;have hu:a.eval x=β i:=hu;obtain⟨k,hk⟩:=zcD hj (h.ops hi);obtain⟨cs,h1,h2,h3⟩:=h.own i _ hE;obtain⟨te2,hut,_,hte⟩:=hK.t.is hc.1;have hrun:∀ A c,xs.length≤c->(qB s (.slice A xs.length c) none (some (.int k j)) none).run P w= .ok (.slice (if c=0 then A else A.map (·.add (0 * τ.size))) j.toNat c) w:=by
  intro A c hc;have hb:=zcg (P:=P) (w:=w) (k:=k) (i:=j) (y:=c) (c:=.sliceAcap) hj0 (by omega);unfold qB uK;simp only[zC,run_underlying hut,zA,hte.sizeOf,zv,qU,xP,yw,if_false,if_true,hb,Nat.sub_zero]
 have hlen:∀ (y:List zh),RepL (RepC w (OSet X E β) τ) xs y->RepL (RepC w (OSet X E β) τ) (jl j.toNat xs) (y.take (j.toNat * τ.size)):=fun y hy=>hy.take (fun x c=>RepC.len τ x c) j.toNat;have hexec:∀ v,(qB s (β i) none (some (.int k j)) none).run P w= .ok v w->(execOp a.eval o).run P w= .ok (.value v) w:=by
  intro v hv;unfold execOp;rw[hop];simp only[hu,hk,uO,Option.map_none];exact zdH hv
 rcases h2.2 with ⟨h4,h5⟩|⟨g,cap,cur,hb,h5,h6,h7,h8,h9,h10⟩
 ·have hx0:xs=[]:=yP h5;subst hx0;have hj2:j=0:=by have:j≤((0:Nat):Int):=hj1;omega
  subst hj2;obtain⟨β',hs'⟩:=h.redo hE rfl (w':=w) ⟨rfl,rfl,rfl,zl _,fun _ _ _=>rfl⟩ (bv:=.slice none 0 0) (o':=.buf te τ []) (fun g hg=>by cases hg) (t:=τ) (fun O _ hO=>⟨[],rfl,um w _ te τ.size,h3⟩) hd;refine zbz (u:=.slice none 0 0) (hexec _ (by rw[h4];exact hrun none 0 (zl _))) ?_;rw[hdst];exact hN β' _ _ hs'
 ·have hcap:xs.length≤cap:=h7;have hm:(jl j.toNat xs).length=j.toNat:=by rw[yB];omega
  have hmul:j.toNat * τ.size≤xs.length * τ.size:=xR _ (by omega);have hrow:w.ownsRow 0 te τ.size (.slice (some ⟨g,0,none⟩) j.toNat cap) (jl j.toNat xs).length (cs.take (j.toNat * τ.size)):=by
   refine⟨?_,.inr ⟨g,cap,cur,by rw[hm],zk _,h6,by omega,h8,h9,?_⟩⟩
   ·rw[hm,yB,h2.1];omega
   ·rw[hm, <-h10,qH,yz hmul]
  obtain⟨β',hs'⟩:=h.redo hE rfl (w':=w) ⟨rfl,rfl,rfl,zl _,fun _ _ _=>rfl⟩ (bv:=.slice (some ⟨g,0,none⟩) j.toNat cap) (o':=.buf te τ (jl j.toNat xs)) (fun g' hg=>.inl (by rw[hb];exact hg)) (t:=τ)
   (fun O _ hO=>⟨cs.take (j.toNat * τ.size),(hlen cs h1).mono fun x _ c hc=>RepC.keep ⟨zl _,fun _ _ _=>rfl,fun g hg hg'=>hO g hg hg'⟩ _ _ _ hc,hrow,h3⟩) hd
  refine zbz (u:=.slice (some ⟨g,0,none⟩) j.toNat cap) (hexec _ ?_) ?_
  ·rw[hb,hrun _ _ hcap]
   congr 2
   split
   ·rfl
   ·simp[Addr.add]
  ·rw[hdst];exact hN β' _ _ hs'
end
end Go.Proofs.YtpeaigpfddalcaaGreatDoor
