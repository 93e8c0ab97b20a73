/-
  Texts of this claim, joined: what the statement's proof uses.
-/
import Derived.Shelf.Strings.BuilderK
import Derived.Shelf.Strconv.Itoa4
import Derived.Shelf.Strconv.ErrVarParseInt
import Derived.Shelf.Strings.Search3
import Derived.Test.YthbecdbmifchiaaGreatDoorProg
import Derived.WalkKit
import Derived.WalkSpells
import Derived.WalkLawsBesides
import Derived.Lib.Hide
import Derived.Laws.OwnMore
import Derived.Laws.Rows
import Derived.RegionTactic
import Derived.OwnWalk
import Derived.Orders
import Derived.StillTail
import Derived.Laws.AppendOwn
import Derived.Deep.MidRow
import Derived.Laws.BytesArg
import Derived.Laws.IdiomStrings
import Derived.Laws.StructEq
import Derived.ChangeKeysEq
import Derived.Laws.IdiomCopy
import Derived.Great.BuildSlice
import Derived.Laws.AppendOwnNone
import Derived.Laws.MakeOwn
import Derived.Scope
import Derived.RangeFuncKeeps
import Derived.RangeFuncCalls
import Derived.LoopNIn
import Derived.OrdersIn
import Derived.OwnWalkIn
import Derived.RangeFuncLeaves
import Derived.Laws.CopyOwn
import Derived.ProofKit
import Derived.OpenShut
import Derived.Carry
import Derived.ChangeSame
import Derived.Deep.DeepHandedRow
import Derived.Lib.LaidTab
import Derived.Lib.ParseIntBCases
import Derived.Test.YthbecdbmifchiaaGreatDoorCards
import Derived.Test.YthbecdbmifchiaaGreatDoorTie
import Derived.LaidSub
import Derived.Lib.LaidIn
import Derived.Lib.AppendStr
import Derived.RecoverIn
import Derived.RangeFuncBound
import Derived.Laws.RangeAny
import Derived.LoopTactic
import Derived.KernelRfl
import Derived.DeepKeys4
import Derived.LoopIn
import Derived.Lib.Strings
import Derived.Lib.Walk
import Derived.Lib.Bytealg
set_option linter.unusedSimpArgs false
set_option linter.unusedVariables false
set_option maxRecDepth 100000
open Array renaming getD_eq_getD_getElem? -> zO,getElem?_eq_some_iff -> zl,getElem?_modify -> jB,getElem?_setIfInBounds -> xO,length_toList -> uV,range -> gT,replicate -> zD,toList_inj -> jn,toList_map -> kB
open BitVec renaming eq_of_toNat_eq -> uw,ofInt -> xU,ofInt_natCast -> vF,ofNat -> yN,toNat -> qw,toNat_inj -> gi,toNat_ofNat -> jG
open Bool renaming and_eq_true -> zf,false_eq_true -> xL,not_eq_true' -> zL,not_false -> wo,not_true -> vQ
open ByteArray renaming extract -> pd,size -> vj
open Go renaming BinOp -> kG,Field -> kZ,FuncId -> zV,IntKind -> xT,Operand -> zB,Program -> zw,TypeId -> zo,Value -> zd,World -> zh,binOp -> qs,convert -> fG,sizeOf -> vA
open Go.Addr renaming add_mid -> xF
open Go.Builtin renaming append_ -> jT,firstCells -> fH,lenOf -> fk,len_ -> kA,max_ -> pg,min_ -> pf
open Go.ByteArray renaming toList_eq -> jf
open Go.Call renaming operands -> wY
open Go.Conv renaming stringToBytes -> fE
open Go.Extern.AbiNoEscape renaming same -> bj
open Go.Instr renaming buildSlice -> uB,field -> pI,fieldAt -> uI,fill -> wq,index -> pN,indexAt -> kh,loadAt -> xM,slice -> pO,sliceAt -> j8,sliceBound -> pB,sliceBounds -> vH,sureAddr -> qA
open Go.IntKind renaming bits -> qx,i64 -> pK,max -> uK,min -> wN,signed -> js,wrap -> vY
open Go.Next renaming value -> ba
open Go.Obj renaming cells -> pA
open Go.Op renaming bytesLess -> gE,eqFields -> wO,equal -> hU,intArith -> jZ,intBits -> vf,intDiv -> wh,maxDepth -> pM,operands -> xD,shift -> gS,stringOp -> ud,unary -> pb
open Go.Oper renaming upon_value -> uR
open Go.Program renaming built -> fj,fieldsOf -> pz
open Go.Proofs.Tryz renaming isAgg0 -> gM,isAgg20 -> fR,isAgg205 -> fh,isAgg223 -> fi,isAgg3 -> gN,isAgg4 -> gP,isAgg5 -> gO,isAgg62 -> fN,isAgg9 -> wJ,prog -> zb,sizeOf0 -> gx,sizeOf20 -> fg,sizeOf205 -> gQ,sizeOf223 -> gR,sizeOf3 -> gy,sizeOf4 -> gA,sizeOf5 -> gz,sizeOf62 -> ff,sizeOf9 -> uZ,underlying0 -> uy,underlying112 -> fq,underlying2 -> py,underlying20 -> wK,underlying205 -> wi,underlying210 -> wk,underlying212 -> fu,underlying215 -> fw,underlying223 -> wj,underlying227 -> wl,underlying228 -> fy,underlying243 -> fA,underlying244 -> fB,underlying3 -> kz,underlying4 -> uA,underlying5 -> uz,underlying61 -> fO,underlying62 -> km,underlying64 -> fP,underlying9 -> qP,zeroValue0 -> uN,zeroValue112 -> fQ,zeroValue20 -> gg,zeroValue205 -> wL,zeroValue210 -> fS,zeroValue212 -> fT,zeroValue215 -> fU,zeroValue223 -> wM,zeroValue227 -> fV,zeroValue243 -> fW,zeroValue244 -> fX,zeroValue3 -> uO,zeroValue4 -> uQ,zeroValue5 -> uP,zeroValue61 -> px,zeroValue62 -> ga,zeroValue64 -> gc,zeroValue9 -> kN
open Go.Question renaming cut -> bo
open Go.Result renaming andThen -> jr,andThen_ok -> zG
open Go.RowKit renaming Below -> xG
open Go.RowKit.Below renaming refl -> zR
open Go.Sem renaming run_bind -> zK,run_pure -> zF
open Go.Shelf renaming Ren -> uY
open Go.Value renaming bool -> p9,int -> qc,oneCell' -> jN
open Go.World renaming cell? -> qi,freeze -> vG,ownsRow_nil -> wR,shape? -> gB
open Int renaming ediv_eq_zero_of_lt -> vZ,emod_eq_of_lt -> jt,fdiv_eq_ediv_of_nonneg -> kw,le_of_lt -> pa,mul_emod_left -> f7,mul_emod_right -> fD,natCast_ediv -> gh,natCast_inj -> uS,not_lt -> wm,pow_pos -> pJ,tdiv_eq_ediv_of_nonneg -> vg,toNat_natCast -> zH
open List renaming append_assoc -> zz,append_nil -> zW,drop_drop -> vl,drop_eq_getElem_cons -> qf,drop_eq_nil_of_le -> gD,drop_left -> vh,drop_length_add_append -> jo,drop_take -> kx,eq_nil_of_length_eq_zero -> xW,extract_eq_take_drop -> wD,flatten_append -> uU,flatten_nil -> pC,foldlM_cons -> pD,getD -> vB,getElem?_append -> ky,getElem?_eq_getElem -> zI,getElem?_eq_some_iff -> yI,getElem?_map -> yP,getElem?_take -> yG,length -> zi,length_append -> zg,length_cons -> zv,length_take -> yU,mem_cons_self -> zC,mem_of_getElem? -> xX,range -> qB,replicate -> zr,set -> pc,size_toArray -> vJ,take -> ki,take_append -> pF,take_append_drop -> jC,take_left -> ju,take_length_add_append -> kq,take_of_length_le -> jc,take_take -> vk,toArray -> xQ
open List.cons renaming inj -> wX,injEq -> gJ
open Nat renaming add_assoc -> qX,add_mul -> jl,beq -> yK,beq_eq -> xV,ble -> qO,ble_eq -> jF,blt -> zM,eq_of_beq_eq_true -> qt,le_mul_of_pos_right -> gk,le_refl -> zj,le_total -> gC,le_trans -> zJ,lt_of_le_of_lt -> fC,lt_of_lt_of_le -> zy,min_eq_left -> qe,min_eq_right -> j9,mod_eq_of_lt -> jb,mul_le_mul -> wt,mul_le_mul_right -> jm,one_mul -> wP,pow_le_pow_right -> kv,shiftRight_eq_div_pow -> wF,zero_add -> yL,zero_le -> zk
open Ne renaming symm -> qF
open Option renaming bind_eq_some_iff -> jR,isSome_none -> jk,map_eq_some_iff -> zQ,map_some -> pW
open Option.some renaming injEq -> qb
open Prod.mk renaming injEq -> qG
open UInt8 renaming ofNat -> yR,toNat -> vE,toNat_lt -> wn,toNat_ofNat' -> kS
open UInt8.toNat renaming inj -> pV
open Go Go.RowKit
namespace Go.Proofs
open Go.Shelf
def Tryz.lays169_ren:uY:=⟨λ|169=>21|n=>n,λ|70=>61|9=>9|0=>0|72=>64|37=>62|127=>112|3=>3|5=>5|n=>n,λ|n=>n⟩
theorem Tryz.lays169:Go.Proofs.Lays.n169 zb Tryz.lays169_ren:={
 mixed:=by kernel_rfl
 f169:=Tryz.func21.trans (congrArg some (by kernel_rfl))
 t0:=uy
 a0:=gM
 z0:=gx
 v0:=uN
 t3:=kz
 a3:=gN
 z3:=gy
 v3:=uO
 t9:=qP
 a9:=wJ
 z9:=uZ
 v9:=kN
 t37:=km
 a37:=fN
 z37:=ff
 v37:=ga
 t70:=fO
 a70:=Tryz.isAgg61
 z70:=Tryz.sizeOf61
 v70:=px
 t72:=fP
 a72:=Tryz.isAgg64
 z72:=Tryz.sizeOf64
 v72:=gc
 t127:=fq
 a127:=Tryz.isAgg112
 z127:=Tryz.sizeOf112
 v127:=fQ }
theorem Tryz.Builder_Extra_169:Builder.Extra zb Tryz.lays169_ren:={
 sizeBuilder:=by kernel_rfl
 liesBuilder:=by kernel_rfl
 t5:=uz
 a5:=gO
 z5:=gz
 v5:=uP
 infoByte:=by kernel_rfl
 cellsByte:=by kernel_rfl
 sizeByte:=by kernel_rfl
 neB5:=by decide }
def Tryz.laysM171_ren:uY:=⟨λ|171=>77|243=>114|246=>129|283=>158|284=>159|285=>160|286=>161|129=>182|317=>181|318=>183|319=>184|320=>185|337=>193|338=>194|n=>n,λ|3=>3|9=>9|2=>2|4=>4|171=>212|0=>0|53=>210|37=>62|5=>5|173=>215|212=>227|51=>223|20=>20|213=>228|46=>205|232=>243|233=>244|n=>n,λ|17=>3|18=>6|19=>7|n=>n⟩
theorem Tryz.laysM171:Go.Proofs.LaysM.n171 zb Tryz.laysM171_ren:={
 mixed:=by kernel_rfl
 f129:=Tryz.func182.trans (congrArg some (by kernel_rfl))
 f171:=Tryz.func77.trans (congrArg some (by kernel_rfl))
 f243:=Tryz.func114.trans (congrArg some (by kernel_rfl))
 f246:=Tryz.func129.trans (congrArg some (by kernel_rfl))
 f283:=Tryz.func158.trans (congrArg some (by kernel_rfl))
 f284:=Tryz.func159.trans (congrArg some (by kernel_rfl))
 f285:=Tryz.func160.trans (congrArg some (by kernel_rfl))
 f286:=Tryz.func161.trans (congrArg some (by kernel_rfl))
 f317:=Tryz.func181.trans (congrArg some (by kernel_rfl))
 f318:=Tryz.func183.trans (congrArg some (by kernel_rfl))
 f319:=Tryz.func184.trans (congrArg some (by kernel_rfl))
 f320:=Tryz.func185.trans (congrArg some (by kernel_rfl))
 f337:=Tryz.func193.trans (congrArg some (by kernel_rfl))
 f338:=Tryz.func194.trans (congrArg some (by kernel_rfl))
 t0:=uy
 a0:=gM
 z0:=gx
 v0:=uN
 t2:=py
 a2:=Tryz.isAgg2
 z2:=Tryz.sizeOf2
 v2:=Tryz.zeroValue2
 t3:=kz
 a3:=gN
 z3:=gy
 v3:=uO
 t4:=uA
 a4:=gP
 z4:=gA
 v4:=uQ
 t5:=uz
 a5:=gO
 z5:=gz
 v5:=uP
 t9:=qP
 a9:=wJ
 z9:=uZ
 v9:=kN
 t20:=wK
 a20:=fR
 z20:=fg
 v20:=gg
 t37:=km
 a37:=fN
 z37:=ff
 v37:=ga
 t46:=wi
 a46:=fh
 z46:=gQ
 v46:=wL
 t51:=wj
 a51:=fi
 z51:=gR
 v51:=wM
 t53:=wk
 a53:=Tryz.isAgg210
 z53:=Tryz.sizeOf210
 v53:=fS
 t171:=fu
 a171:=Tryz.isAgg212
 z171:=Tryz.sizeOf212
 v171:=fT
 t173:=fw
 a173:=Tryz.isAgg215
 z173:=Tryz.sizeOf215
 v173:=fU
 t212:=wl
 a212:=Tryz.isAgg227
 z212:=Tryz.sizeOf227
 v212:=fV
 t213:=fy
 a213:=Tryz.isAgg228
 z213:=Tryz.sizeOf228
 t232:=fA
 a232:=Tryz.isAgg243
 z232:=Tryz.sizeOf243
 v232:=fW
 t233:=fB
 a233:=Tryz.isAgg244
 z233:=Tryz.sizeOf244
 v233:=fX
 g17:=by kernel_rfl
 g18:=by kernel_rfl
 g19:=by kernel_rfl
 i0:=by kernel_rfl
 i2:=by kernel_rfl
 i3:=by kernel_rfl
 i4:=by kernel_rfl
 i5:=by kernel_rfl
 i9:=by kernel_rfl
 i20:=by kernel_rfl
 i37:=by kernel_rfl
 i46:=by kernel_rfl
 i51:=by kernel_rfl
 i53:=by kernel_rfl
 i171:=by kernel_rfl
 i173:=by kernel_rfl
 i212:=by kernel_rfl
 i232:=by kernel_rfl
 i233:=by kernel_rfl
 m17:=by kernel_rfl
 m18:=by kernel_rfl
 m19:=by kernel_rfl }
def Tryz.laysC174_ren:uY:=⟨λ|174=>123|247=>139|245=>140|287=>167|279=>168|280=>169|281=>170|282=>171|321=>189|322=>190|316=>191|171=>77|205=>192|243=>114|246=>129|283=>158|284=>159|285=>160|286=>161|129=>182|317=>181|318=>183|319=>184|320=>185|337=>193|338=>194|n=>n,λ|9=>9|3=>3|2=>2|75=>90|85=>185|4=>4|167=>217|5=>5|53=>210|175=>218|46=>205|168=>220|37=>62|0=>0|210=>236|21=>21|127=>112|145=>242|143=>240|171=>212|173=>215|212=>227|51=>223|20=>20|213=>228|232=>243|233=>244|80=>69|n=>n,λ|15=>4|16=>5|17=>3|18=>6|19=>7|n=>n⟩
theorem Tryz.laysC174:Go.Proofs.LaysC.n174 zb Tryz.laysC174_ren:={
 mixed:=by kernel_rfl
 f129:=Tryz.func182.trans (congrArg some (by kernel_rfl))
 f171:=Tryz.func77.trans (congrArg some (by kernel_rfl))
 f174:=Tryz.func123.trans (congrArg some (by kernel_rfl))
 f205:=Tryz.func192.trans (congrArg some (by kernel_rfl))
 f243:=Tryz.func114.trans (congrArg some (by kernel_rfl))
 f245:=Tryz.func140.trans (congrArg some (by kernel_rfl))
 f246:=Tryz.func129.trans (congrArg some (by kernel_rfl))
 f247:=Tryz.func139.trans (congrArg some (by kernel_rfl))
 f279:=Tryz.func168.trans (congrArg some (by kernel_rfl))
 f280:=Tryz.func169.trans (congrArg some (by kernel_rfl))
 f281:=Tryz.func170.trans (congrArg some (by kernel_rfl))
 f282:=Tryz.func171.trans (congrArg some (by kernel_rfl))
 f283:=Tryz.func158.trans (congrArg some (by kernel_rfl))
 f284:=Tryz.func159.trans (congrArg some (by kernel_rfl))
 f285:=Tryz.func160.trans (congrArg some (by kernel_rfl))
 f286:=Tryz.func161.trans (congrArg some (by kernel_rfl))
 f287:=Tryz.func167.trans (congrArg some (by kernel_rfl))
 f316:=Tryz.func191.trans (congrArg some (by kernel_rfl))
 f317:=Tryz.func181.trans (congrArg some (by kernel_rfl))
 f318:=Tryz.func183.trans (congrArg some (by kernel_rfl))
 f319:=Tryz.func184.trans (congrArg some (by kernel_rfl))
 f320:=Tryz.func185.trans (congrArg some (by kernel_rfl))
 f321:=Tryz.func189.trans (congrArg some (by kernel_rfl))
 f322:=Tryz.func190.trans (congrArg some (by kernel_rfl))
 f337:=Tryz.func193.trans (congrArg some (by kernel_rfl))
 f338:=Tryz.func194.trans (congrArg some (by kernel_rfl))
 t0:=uy
 a0:=gM
 z0:=gx
 v0:=uN
 t2:=py
 a2:=Tryz.isAgg2
 z2:=Tryz.sizeOf2
 v2:=Tryz.zeroValue2
 t3:=kz
 a3:=gN
 z3:=gy
 v3:=uO
 t4:=uA
 a4:=gP
 z4:=gA
 v4:=uQ
 t5:=uz
 a5:=gO
 z5:=gz
 v5:=uP
 t9:=qP
 a9:=wJ
 z9:=uZ
 v9:=kN
 t20:=wK
 a20:=fR
 z20:=fg
 v20:=gg
 t21:=Tryz.underlying21
 a21:=Tryz.isAgg21
 z21:=Tryz.sizeOf21
 v21:=Tryz.zeroValue21
 t37:=km
 a37:=fN
 z37:=ff
 v37:=ga
 t46:=wi
 a46:=fh
 z46:=gQ
 v46:=wL
 t51:=wj
 a51:=fi
 z51:=gR
 v51:=wM
 t53:=wk
 a53:=Tryz.isAgg210
 z53:=Tryz.sizeOf210
 v53:=fS
 t75:=Tryz.underlying90
 a75:=Tryz.isAgg90
 z75:=Tryz.sizeOf90
 v75:=Tryz.zeroValue90
 t85:=Tryz.underlying185
 a85:=Tryz.isAgg185
 z85:=Tryz.sizeOf185
 v85:=Tryz.zeroValue185
 t127:=fq
 a127:=Tryz.isAgg112
 z127:=Tryz.sizeOf112
 v127:=fQ
 t143:=Tryz.underlying240
 a143:=Tryz.isAgg240
 z143:=Tryz.sizeOf240
 v143:=Tryz.zeroValue240
 t145:=Tryz.underlying242
 a145:=Tryz.isAgg242
 z145:=Tryz.sizeOf242
 v145:=Tryz.zeroValue242
 t167:=Tryz.underlying217
 a167:=Tryz.isAgg217
 z167:=Tryz.sizeOf217
 v167:=Tryz.zeroValue217
 t168:=Tryz.underlying220
 a168:=Tryz.isAgg220
 z168:=Tryz.sizeOf220
 v168:=Tryz.zeroValue220
 t171:=fu
 a171:=Tryz.isAgg212
 z171:=Tryz.sizeOf212
 v171:=fT
 t173:=fw
 a173:=Tryz.isAgg215
 z173:=Tryz.sizeOf215
 v173:=fU
 t175:=Tryz.underlying218
 a175:=Tryz.isAgg218
 z175:=Tryz.sizeOf218
 v175:=Tryz.zeroValue218
 t210:=Tryz.underlying236
 a210:=Tryz.isAgg236
 z210:=Tryz.sizeOf236
 v210:=Tryz.zeroValue236
 t212:=wl
 a212:=Tryz.isAgg227
 z212:=Tryz.sizeOf227
 v212:=fV
 t213:=fy
 a213:=Tryz.isAgg228
 z213:=Tryz.sizeOf228
 t232:=fA
 a232:=Tryz.isAgg243
 z232:=Tryz.sizeOf243
 v232:=fW
 t233:=fB
 a233:=Tryz.isAgg244
 z233:=Tryz.sizeOf244
 v233:=fX
 g15:=by kernel_rfl
 g16:=by kernel_rfl
 g17:=by kernel_rfl
 g18:=by kernel_rfl
 g19:=by kernel_rfl
 t80:=Tryz.underlying69
 a80:=Tryz.isAgg69
 z80:=Tryz.sizeOf69
 v80:=Tryz.zeroValue69
 i0:=by kernel_rfl
 i2:=by kernel_rfl
 i3:=by kernel_rfl
 i4:=by kernel_rfl
 i5:=by kernel_rfl
 i9:=by kernel_rfl
 i20:=by kernel_rfl
 i21:=by kernel_rfl
 i37:=by kernel_rfl
 i46:=by kernel_rfl
 i51:=by kernel_rfl
 i53:=by kernel_rfl
 i75:=by kernel_rfl
 i80:=by kernel_rfl
 i85:=by kernel_rfl
 i127:=by kernel_rfl
 i143:=by kernel_rfl
 i145:=by kernel_rfl
 i167:=by kernel_rfl
 i168:=by kernel_rfl
 i171:=by kernel_rfl
 i173:=by kernel_rfl
 i175:=by kernel_rfl
 i210:=by kernel_rfl
 i212:=by kernel_rfl
 i232:=by kernel_rfl
 i233:=by kernel_rfl
 m15:=by kernel_rfl
 m16:=by kernel_rfl
 m17:=by kernel_rfl
 m18:=by kernel_rfl
 m19:=by kernel_rfl
 c0:=by kernel_rfl
 c2:=by kernel_rfl
 c3:=by kernel_rfl
 c4:=by kernel_rfl
 c5:=by kernel_rfl
 c9:=by kernel_rfl
 c20:=by kernel_rfl
 c21:=by kernel_rfl
 c37:=by kernel_rfl
 c46:=by kernel_rfl
 c51:=by kernel_rfl
 c53:=by kernel_rfl
 c75:=by kernel_rfl
 c80:=by kernel_rfl
 c85:=by kernel_rfl
 c127:=by kernel_rfl
 c143:=by kernel_rfl
 c145:=by kernel_rfl
 c167:=by kernel_rfl
 c168:=by kernel_rfl
 c171:=by kernel_rfl
 c173:=by kernel_rfl
 c175:=by kernel_rfl
 c210:=by kernel_rfl
 c212:=by kernel_rfl
 c213:=by kernel_rfl
 c232:=by kernel_rfl
 c233:=by kernel_rfl }
def Tryz.lays144_ren:uY:=⟨λ|144=>102|143=>110|219=>127|217=>153|225=>154|224=>155|267=>156|266=>179|314=>180|n=>n,λ|9=>9|4=>4|3=>3|5=>5|46=>205|146=>224|51=>223|n=>n,λ|1=>2|n=>n⟩
theorem Tryz.lays144:Go.Proofs.Lays.n144 zb Tryz.lays144_ren:={
 mixed:=by kernel_rfl
 f143:=Tryz.func110.trans (congrArg some (by kernel_rfl))
 f144:=Tryz.func102.trans (congrArg some (by kernel_rfl))
 f217:=Tryz.func153.trans (congrArg some (by kernel_rfl))
 f219:=Tryz.func127.trans (congrArg some (by kernel_rfl))
 f224:=Tryz.func155.trans (congrArg some (by kernel_rfl))
 f225:=Tryz.func154.trans (congrArg some (by kernel_rfl))
 f266:=Tryz.func179.trans (congrArg some (by kernel_rfl))
 f267:=Tryz.func156.trans (congrArg some (by kernel_rfl))
 f314:=Tryz.func180.trans (congrArg some (by kernel_rfl))
 t3:=kz
 a3:=gN
 z3:=gy
 v3:=uO
 t4:=uA
 a4:=gP
 z4:=gA
 v4:=uQ
 t5:=uz
 a5:=gO
 z5:=gz
 v5:=uP
 t9:=qP
 a9:=wJ
 z9:=uZ
 v9:=kN
 t46:=wi
 a46:=fh
 z46:=gQ
 v46:=wL
 t51:=wj
 a51:=fi
 z51:=gR
 v51:=wM
 t146:=Tryz.underlying224
 a146:=Tryz.isAgg224
 z146:=Tryz.sizeOf224
 v146:=Tryz.zeroValue224
 g1:=by kernel_rfl }
def Tryz.lays240_ren:uY:=⟨λ|240=>68|276=>111|n=>n,λ|0=>0|4=>4|9=>9|20=>20|37=>62|5=>5|70=>61|72=>64|164=>164|n=>n,λ|n=>n⟩
theorem Tryz.lays240:Go.Proofs.Lays.n240 zb Tryz.lays240_ren:={
 mixed:=by kernel_rfl
 f240:=Tryz.func68.trans (congrArg some (by kernel_rfl))
 f276:=Tryz.func111.trans (congrArg some (by kernel_rfl))
 t0:=uy
 a0:=gM
 z0:=gx
 v0:=uN
 t4:=uA
 a4:=gP
 z4:=gA
 v4:=uQ
 t9:=qP
 a9:=wJ
 z9:=uZ
 v9:=kN
 t20:=wK
 a20:=fR
 z20:=fg
 v20:=gg
 t70:=fO
 a70:=Tryz.isAgg61
 z70:=Tryz.sizeOf61
 v70:=px
 t72:=fP
 a72:=Tryz.isAgg64
 z72:=Tryz.sizeOf64
 v72:=gc
 t164:=Tryz.underlying164
 a164:=Tryz.isAgg164
 z164:=Tryz.sizeOf164
 v164:=Tryz.zeroValue164 }
theorem Tryz.Builder_X72_240:Builder.X72 zb Tryz.lays240_ren:={
 sizeBuilder:=by kernel_rfl
 liesBuilder:=by kernel_rfl }
end Go.Proofs
namespace Go.Proofs.YthbecdbmifchiaaGreatDoor
section
open Go Go.Shelf Go.RowKit
set_option maxHeartbeats 1000000 in
set_option maxRecDepth 100000 in
theorem zjA{P:zw}{ρ:Ren}(L:Lays.n240 P ρ)(X:Builder.X72 P ρ)(b:Nat)(w:zh){e:zo}{m:Nat}(h0:w.cell? ⟨b,0,none⟩=some (.pointer none))(hsh:w.shape? b=some (e,m))(hm:0<m)(hlies:liesAt P P.depth e (m/P.cellsOf e) 0 (ρ.t 72) 1=true)(hfz:w.frozen? ⟨b,0,none⟩=false):
  Calls P (ρ.f 240) #[.pointer (some ⟨b,0,none⟩)] w λe w'=>e=.returned (.tuple #[])/\w'=w.setCell ⟨b,0,none⟩ (.pointer (some ⟨b,0,none⟩)):=by
 obtain⟨j,hj,hjs⟩:=zQ.1 X.sizeBuilder;have mixed:=L.mixed;have t72:=L.t72;have a72:=L.a72;have z72:=L.z72;have v72:=L.v72;have u72:=run_underlying L.t72;have t70:=L.t70;have a70:=L.a70;have z70:=L.z70;have v70:=L.v70;have u70:=run_underlying L.t70;have t9:=L.t9;have a9:=L.a9;have z9:=L.z9;have v9:=L.v9;have u9:=run_underlying L.t9;have t4:=L.t4;have a4:=L.a4;have z4:=L.z4;have v4:=L.v4;have u4:=run_underlying L.t4;have t164:=L.t164;have a164:=L.a164;have z164:=L.z164;have v164:=L.v164;have u164:=run_underlying L.t164
 go_enter L.f240,Body.n240_ntmps ρ
 go_wp2
 rw[Lib.run_to_unsafe w ⟨b,0,none⟩ L.t70 L.t164 hj (by rw[hjs];decide) hsh hm];simp only[jr];rw[uR]
 go_wp2
 rw[run_callFunc_extern L.f276 (by kernel_rfl) (by kernel_rfl) (by kernel_rfl) (e:=bj) (by kernel_rfl)];rw[Lib.run_noEscape];simp only[jr];rw[uR]
 go_wp2
 rw[Lib.run_from_unsafe w ⟨b,0,none⟩ L.t164 L.t70 hj hsh hlies];simp only[jr];rw[uR]
 go_wp2
 go_end0
 exact⟨rfl,rfl⟩
theorem zjB(ty:zo)(h1:ty=66\/ty=64)(b:Nat)(w:zh)(cs:List zd)(hlen:cs.length=if ty=64 then 1 else 2)(hb:w.heap[b]? =some (.cells (Value.pointer none::cs).toArray ty (0,0))):
  Calls zb 68 #[.pointer (some ⟨b,0,none⟩)] w λe w'=>e=.returned (.tuple #[])/\w'=w.setCell ⟨b,0,none⟩ (.pointer (some ⟨b,0,none⟩)):=by
 have hc:w.cell? ⟨b,0,none⟩=some (.pointer none):=by simp[qi,hb]
 have hf:w.frozen? ⟨b,0,none⟩=false:=Lib.frozen_of_heap hb 0;have hsh:w.shape? b=some (ty,cs.length+1):=by simp[gB,hb]
 refine zjA Tryz.lays240 Tryz.Builder_X72_240 b w hc hsh (Nat.succ_pos _) ?_ hf;rcases h1 with rfl|rfl
 .rw[hlen];kernel_rfl
 .rw[hlen];kernel_rfl
end
theorem o_{P:Prop}(h:P:=by omega):P:=h
theorem d_{P:Prop}(h:P:=by decide):P:=h
theorem t_:True:=True.intro
theorem k_{P:Prop}(h:P:=by exact⟨_,rfl,λF=>⟨_,rfl,trivial,rfl,λ_=>rfl,rfl⟩⟩):P:=h
@[reducible] def IntT:xT->Type
 |.u8=>UInt8
 |.u16=>BitVec 16
 |.u32=>BitVec 32
 |.u64=>BitVec 64
 |_=>Int
def encI:(k:xT)->IntT k->Int
 |.u8,x=>((vE x:Nat):Int)
 |.u16,x=>((qw (w:=16) x:Nat):Int)
 |.u32,x=>((qw (w:=32) x:Nat):Int)
 |.u64,x=>((qw (w:=64) x:Nat):Int)
 |.i8,x=>x
 |.i16,x=>x
 |.i32,x=>x
 |.i64,x=>x
def decI:(k:xT)->Int->IntT k
 |.u8,n=>yR n.toNat
 |.u16,n=>xU 16 n
 |.u32,n=>xU 32 n
 |.u64,n=>xU 64 n
 |.i8,n=>n
 |.i16,n=>n
 |.i32,n=>n
 |.i64,n=>n
inductive Ty where
 |bool
 |int (k:xT)
 |str
 |unit
 |pair (a b:Ty)
 |arr (n:Nat) (t:Ty)
 |slice (t:Ty)
 |junk
 |lit
 |vptr (t:Ty)
 |optr (t:Ty)
 |obuf (t:Ty)
 |tup (a b:Ty)
 |cond (t:Ty)
 |clo (f:Nat) (t:Ty)
 |mapL
 |hptr
 |hcons (a b:Ty)
 |cptr (g off:Nat) (t:Ty)
inductive Path:Ty->Ty->Type where
 |here {r:Ty}:Path r r
 |fst {r a b:Ty} (p:Path r (.pair a b)):Path r a
 |snd {r a b:Ty} (p:Path r (.pair a b)):Path r b
 |idx {r t:Ty}{n:Nat} (p:Path r (.arr n t)) (k:Nat):Path r t
 |elm {t:Ty} (k:Nat):Path (.slice t) t
structure OPtr(t:Ty)where
 i:Nat
 root:Ty
 p:Path root t
@[reducible] def Ty.T:Ty->Type
 |.bool=>Bool
 |.int k=>IntT k
 |.str=>List UInt8
 |.unit=>Unit
 |.pair a b=>a.T×b.T
 |.arr _ t=>List t.T
 |.slice t=>List t.T
 |.junk=>Unit
 |.lit=>zd
 |.vptr t=>t.T
 |.optr t=>OPtr t
 |.obuf _=>Nat
 |.tup a b=>a.T×b.T
 |.cond t=>Bool×t.T
 |.clo _ t=>t.T
 |.mapL=>List (zd×zd)
 |.hptr=>Nat×Nat
 |.hcons a b=>a.T×b.T
 |.cptr _ _ t=>t.T
def Ty.size:Ty->Nat
 |.bool|.int _|.str|.slice _=>1
 |.pair a b=>a.size+b.size
 |.arr n t=>n*t.size
 |_=>0
def Ty.isAgg:Ty->Bool
 |.unit|.pair _ _|.arr _ _=>true
 |_=>false
def Ty.beq:Ty->Ty->Bool
 |.bool,.bool=>true
 |.int k,.int l=>decide (k=l)
 |.str,.str=>true
 |.unit,.unit=>true
 |.pair a b,.pair c d=>a.beq c&&b.beq d
 |.arr n a,.arr m b=>yK n m&&a.beq b
 |.slice a,.slice b=>a.beq b
 |.vptr a,.vptr b=>a.beq b
 |.tup a b,.tup c d=>a.beq c&&b.beq d
 |.clo f a,.clo g b=>yK f g&&a.beq b
 |.mapL,.mapL=>true
 |.lit,.lit=>true
 |_,_=>false
theorem Ty.beq_eq:∀{a b:Ty},a.beq b=true->a=b:=by
 intro a
 induction a with
 |pair a b x0 x1=>intro c h;cases c<;>simp_all [Ty.beq];exact⟨x0 h.1,x1 h.2⟩
 |arr n a ih=>intro c h;cases c<;>simp_all [Ty.beq];exact ih h.2
 |slice a ih=>intro c h;cases c<;>simp_all [Ty.beq];exact ih h
 |vptr a ih=>intro c h;cases c<;>simp_all [Ty.beq];exact ih h
 |tup a b x0 x1=>intro c h;cases c<;>simp_all [Ty.beq];exact⟨x0 h.1,x1 h.2⟩
 |clo f a ih=>intro c h;cases c<;>simp_all [Ty.beq];exact ih h.2
 |_=>intro c h;cases c<;>simp_all [Ty.beq]
structure V where
 t:Ty
 x:t.T
def RepL{α:Type}(R:α->List zd->Prop):List α->List zd->Prop
 | [],cs=>cs=[]
 |x::xs,cs=>∃c1 c2,cs=c1++c2/\R x c1/\RepL R xs c2
def CellsAt(w:zh)(g off:Nat)(vs:List zd):Prop:=∀j u,vs[j]? =some u->w.cell? ⟨g,off+j,none⟩=some u
def RepS{α:Type}(w:zh)(O:Nat->Prop)(R:α->List zd->Prop)(xs:List α)(v:zd):Prop:=
 (xs=[]/\∃A c,v=.slice A 0 c/\c<=maxLen)\/
 (∃g off c vs,v=.slice (some ⟨g,off,none⟩) xs.length c/\xs≠ []/\xs.length<=c/\c<=maxLen/\g<w.heap.size/\¬O g/\RepL R xs vs/\CellsAt w g off vs)
def RepC(w:zh)(O:Nat->Prop):(t:Ty)->t.T->List zd->Prop
 |.bool,b,cs=>cs=[.bool b]
 |.int k,x,cs=>cs=[.int k (encI k x)]
 |.str,l,cs=>cs=[.string ⟨xQ l⟩]/\zi l<=maxLen
 |.unit,_,cs=>cs=[]
 |.pair a b,x,cs=>∃c1 c2,cs=c1++c2/\RepC w O a x.1 c1/\RepC w O b x.2 c2
 |.arr n t,xs,cs=>zi xs=n/\RepL (RepC w O t) xs cs
 |.slice t,xs,cs=>∃v,cs=[v]/\RepS w O (RepC w O t) xs v
 |_,_,_=>False
def RepD(w:zh)(O:Nat->Prop)(t:Ty)(x:t.T)(v:zd):Prop:=
 if t.isAgg then ∃cs,v=.agg cs.toArray/\RepC w O t x cs else RepC w O t x [v]
def RepTup(w:zh)(O:Nat->Prop):(t:Ty)->t.T->List zd->Prop
 |.tup a b,x,vs=>∃v r,vs=v::r/\RepD w O a x.1 v/\RepTup w O b x.2 r
 |.unit,_,vs=>vs=[]
 |_,_,_=>False
def zag:zd->Option Nat
 |.pointer (some a)=>some a.block
 |.slice (some a) _ _=>some a.block
 |_=>none
def Path.off:{r t:Ty}->Path r t->Nat
 |_,_,.here=>0
 |_,_,.fst p=>p.off
 |_,_,.snd (a:=a) p=>p.off+a.size
 |_,_,.idx (t:=t) p k=>p.off+k*t.size
 |_,_,.elm (t:=t) k=>k*t.size
def RepP(w:zh)(O:Nat->Prop):(t:Ty)->t.T->zd->Prop
 |.vptr t,x,v=>∃g off cs,v=.pointer (some ⟨g,off,none⟩)/\g<w.heap.size/\¬O g/\RepC w O t x cs/\CellsAt w g off cs
 |_,_,_=>False
def RepCap(w:zh)(O:Nat->Prop):(t:Ty)->t.T->List zd->Prop
 |.tup a b,x,vs=>∃v r,vs=v::r/\RepP w O a x.1 v/\RepCap w O b x.2 r
 |.unit,_,vs=>vs=[]
 |_,_,_=>False
def RepV(w:zh)(O:Nat->Prop)(U:Nat->zd):(t:Ty)->t.T->zd->Prop
 |.junk,_,_=>True
 |.lit,x,v=>v=x
 |.vptr t,x,v=>∃g off cs,v=.pointer (some ⟨g,off,none⟩)/\g<w.heap.size/\¬O g/\RepC w O t x cs/\CellsAt w g off cs
 |.optr _,p,v=>∃g,zag (U p.i)=some g/\v=.pointer (some ⟨g,p.p.off,none⟩)
 |.obuf _,i,v=>v=U i
 |.tup a b,x,v=>∃vs,v=.tuple vs.toArray/\RepTup w O (.tup a b) x vs
 |.cond t,x,v=>(x.1=true->RepV w O U t x.2 v)/\(x.1=false->v=undef)
 |.clo f t,x,v=>∃vs,v=.func (.func f) #[] (xQ vs)/\RepCap w O t x vs
 |.mapL,es,v=>∃r ms clock,v=.map (some r)/\r<w.heap.size/\¬O r/\w.heap[r]? =some (.map ms clock)/\(Array.toList ms).map (λe=>(e.key,e.val))=es
 |.hptr,x,v=>∃g,zag (U x.1)=some g/\v=.pointer (some ⟨g,x.2,none⟩)
 |.hcons a b,x,v=>∃u s,v=.agg (xQ (u::s))/\u.oneCell'=true/\RepV w O U a x.1 u/\RepV w O U b x.2 (.agg (xQ s))
 |.cptr g off t,x,v=>∃cs,v=.pointer (some ⟨g,off,none⟩)/\g<w.heap.size/\¬O g/\RepC w O t x cs/\CellsAt w g off cs
 |.bool,x,v=>RepD w O .bool x v
 |.int k,x,v=>RepD w O (.int k) x v
 |.str,x,v=>RepD w O .str x v
 |.unit,x,v=>RepD w O .unit x v
 |.pair a b,x,v=>RepD w O (.pair a b) x v
 |.arr n t,x,v=>RepD w O (.arr n t) x v
 |.slice t,x,v=>RepD w O (.slice t) x v
section repl
variable {α:Type}{R R':α->List zd->Prop}{xs ys:List α}{cs ds:List zd}
theorem RepL.mono(h:RepL R xs cs)(hr:∀x,x∈xs->∀c,R x c->R' x c):RepL R' xs cs:=by
 induction xs generalizing cs with
 |nil=>exact h
 |cons x xs ih=>
  obtain⟨c1,c2,h1,h2,h3⟩:=h;exact⟨c1,c2,h1,hr _ (by simp) _ h2,ih h3 λy hy=>hr y (by simp[hy])⟩
theorem RepL.len{s:Nat}(h:RepL R xs cs)(hs:∀x c,R x c->c.length=s):cs.length=xs.length*s:=by
 induction xs generalizing cs with
 |nil=>cases h;simp
 |cons x xs ih=>
  obtain⟨c1,c2,rfl,h2,h3⟩:=h;simp[hs _ _ h2,ih h3,jl,Nat.add_comm]
theorem RepL.all{p:zd->Prop}(h:RepL R xs cs)(hs:∀x c,R x c->∀u∈c,p u):∀u∈cs,p u:=by
 induction xs generalizing cs with
 |nil=>cases h;simp
 |cons x xs ih=>
  obtain⟨c1,c2,rfl,h2,h3⟩:=h;intro u hu;rcases List.mem_append.1 hu with hu|hu
  .exact hs _ _ h2 u hu
  .exact ih h3 u hu
theorem RepL.append(h:RepL R xs cs)(h':RepL R ys ds):RepL R (xs++ys) (cs++ds):=by
 induction xs generalizing cs with
 |nil=>cases h;simpa using h'
 |cons x xs ih=>
  obtain⟨c1,c2,rfl,h2,h3⟩:=h;exact⟨c1,c2++ds,by simp,h2,ih h3⟩
theorem RepL.nth{s i:Nat}{x:α}(h:RepL R xs cs)(hs:∀x c,R x c->c.length=s)(hx:xs[i]? =some x):R x ((cs.drop (i*s)).take s):=by
 induction xs generalizing cs i with
 |nil=>simp at hx
 |cons y ys ih=>
  obtain⟨c1,c2,rfl,h2,h3⟩:=h;have hl:=hs _ _ h2;cases i with
  |zero=>
   simp at hx;subst hx;simp[<-hl,h2]
  |succ i=>
   have:=ih h3 (by simpa using hx);rw[show(i+1)*s=c1.length+i*s by rw[hl,jl];omega];rw[jo];exact this
theorem RepL.drop{s:Nat}(h:RepL R xs cs)(hs:∀x c,R x c->c.length=s)(i:Nat):RepL R (xs.drop i) (cs.drop (i*s)):=by
 induction xs generalizing cs i with
 |nil=>cases h;simp[RepL]
 |cons y ys ih=>
  cases i with
  |zero=>simpa using h
  |succ i=>
   obtain⟨c1,c2,rfl,h2,h3⟩:=h;have hl:=hs _ _ h2;rw[show(i+1)*s=c1.length+i*s by rw[hl,jl];omega];rw[jo];exact ih h3 i
theorem RepL.take{s:Nat}(h:RepL R xs cs)(hs:∀x c,R x c->c.length=s)(i:Nat):RepL R (xs.take i) (cs.take (i*s)):=by
 induction xs generalizing cs i with
 |nil=>cases h;simp[RepL]
 |cons y ys ih=>
  cases i with
  |zero=>simp[RepL]
  |succ i=>
   obtain⟨c1,c2,rfl,h2,h3⟩:=h;have hl:=hs _ _ h2;rw[show(i+1)*s=c1.length+i*s by rw[hl,jl];omega,kq];exact⟨c1,_,rfl,h2,ih h3 i⟩
theorem RepL.set{s i:Nat}{x:α}{c:List zd}(h:RepL R xs cs)(hs:∀x c,R x c->c.length=s)(hi:i<xs.length)(hx:R x c):RepL R (xs.set i x) (cs.take (i*s)++c++cs.drop (i*s+s)):=by
 induction xs generalizing cs i with
 |nil=>simp at hi
 |cons y ys ih=>
  obtain⟨c1,c2,rfl,h2,h3⟩:=h;have hl:=hs _ _ h2;cases i with
  |zero=>exact⟨c,c2,by simp[<-hl],hx,h3⟩
  |succ i=>
   refine⟨c1,_,?_,h2,ih h3 (by simpa using hi)⟩;rw[show(i+1)*s=c1.length+i*s by rw[hl,jl];omega,kq,qX,jo];simp
end repl
section
variable {w w':zh}{O O':Nat->Prop}{U:Nat->zd}
theorem CellsAt.keep{g off:Nat}{vs:List zd}(h:CellsAt w g off vs)(hk:w'.heap[g]? =w.heap[g]?):CellsAt w' g off vs:=
 λj u hu=>(World.cell?_of_block (w:=w) hk).trans (h j u hu)
theorem CellsAt.drop{g off:Nat}{vs:List zd}(h:CellsAt w g off vs)(i:Nat):CellsAt w g (off+i) (vs.drop i):=
 λj u hu=>by have:=h (i+j) u (by simpa using hu);rwa[<-qX]at this
theorem CellsAt.take{g off:Nat}{vs:List zd}(h:CellsAt w g off vs)(i:Nat):CellsAt w g off (vs.take i):=
 λj u hu=>h j u (by
  rw[yG]at hu;split at hu
  .exact hu
  .cases hu)
theorem RepC.len:∀(t:Ty)(x:t.T)(cs:List zd),RepC w O t x cs->cs.length=t.size:=by
 intro t
 induction t with
 |bool=>intro x cs h;cases h;rfl
 |int k=>intro x cs h;cases h;rfl
 |str=>intro x cs h;cases h.1;rfl
 |unit=>intro x cs h;cases h;rfl
 |pair a b x0 x1=>rintro x cs ⟨c1,c2,rfl,h1,h2⟩;simp[x0 _ _ h1,x1 _ _ h2,Ty.size]
 |arr n t ih=>rintro x cs ⟨h1,h2⟩;simp only[Ty.size, <-h1];exact h2.len ih
 |slice t ih=>rintro x cs ⟨v,rfl,_⟩;rfl
 |_=>intro x cs h;exact absurd h (by simp[RepC])
theorem RepC.oneCell:∀(t:Ty)(x:t.T)(cs:List zd),RepC w O t x cs->∀u∈cs,u.oneCell'=true:=by
 intro t
 induction t with
 |bool=>intro x cs h;cases h;simp[jN]
 |int k=>intro x cs h;cases h;simp[jN]
 |str=>intro x cs h;cases h.1;simp[jN]
 |unit=>intro x cs h;cases h;simp
 |pair a b iha ihb=>
  rintro x cs ⟨c1,c2,rfl,h1,h2⟩ u hu;rcases List.mem_append.1 hu with hu|hu
  .exact iha _ _ h1 u hu
  .exact ihb _ _ h2 u hu
 |arr n t ih=>rintro x cs ⟨h1,h2⟩;exact h2.all ih
 |slice t ih=>
  rintro x cs ⟨v,rfl,h⟩;rcases h with ⟨_,A,c,rfl,_⟩|⟨g,off,c,vs,rfl,_⟩<;>simp[jN]
 |_=>intro x cs h;exact absurd h (by simp[RepC])
structure Keeps(w w':zh)(O O':Nat->Prop):Prop where
 size:w.heap.size<=w'.heap.size
 block:∀g,g<w.heap.size->¬O g->w'.heap[g]? =w.heap[g]?
 own:∀g,g<w.heap.size->O' g->O g
theorem Keeps.refl(w:zh)(O:Nat->Prop):Keeps w w O O:=⟨zj _,λ_ _ _=>rfl,λ_ _ h=>h⟩
theorem Keeps.of_below(h:xG w.heap.size w w')(hO:∀g,g<w.heap.size->O' g->O g):Keeps w w' O O':=⟨h.size,λg hg _=>h.block g hg,hO⟩
theorem RepS.keep{α:Type}{R R':α->List zd->Prop}{xs:List α}{v:zd}(h:RepS w O R xs v)(hk:Keeps w w' O O')(hr:∀x c,R x c->R' x c):RepS w' O' R' xs v:=by
 rcases h with h|⟨g,off,c,vs,h1,h2,h3,h4,h5,h6,h7,h8⟩
 .exact .inl h
 .exact .inr ⟨g,off,c,vs,h1,h2,h3,h4,zy h5 hk.size,λh=>h6 (hk.own g h5 h),h7.mono λx _ c=>hr x c,h8.keep (hk.block g h5 h6)⟩
theorem RepC.keep(hk:Keeps w w' O O'):∀(t:Ty)(x:t.T)(cs:List zd),RepC w O t x cs->RepC w' O' t x cs:=by
 intro t
 induction t with
 |pair a b x0 x1=>rintro x cs ⟨c1,c2,h,h1,h2⟩;exact⟨c1,c2,h,x0 _ _ h1,x1 _ _ h2⟩
 |arr n t ih=>rintro x cs ⟨h1,h2⟩;exact⟨h1,h2.mono λx _ c=>ih x c⟩
 |slice t ih=>rintro x cs ⟨v,h,h2⟩;exact⟨v,h,h2.keep hk ih⟩
 |_=>intro x cs h;exact h
theorem RepD.keep(hk:Keeps w w' O O'){t:Ty}{x:t.T}{v:zd}(h:RepD w O t x v):RepD w' O' t x v:=by
 unfold RepD at *;split at h
 .rename_i ht;obtain⟨cs,h1,h2⟩:=h;rw[if_pos ht];exact⟨cs,h1,RepC.keep hk _ _ _ h2⟩
 .rename_i ht;rw[if_neg ht];exact RepC.keep hk _ _ _ h
theorem RepTup.keep(hk:Keeps w w' O O'):∀(t:Ty)(x:t.T)(vs:List zd),RepTup w O t x vs->RepTup w' O' t x vs:=by
 intro t
 induction t with
 |tup a b iha x0=>rintro x vs ⟨v,r,h,h1,h2⟩;exact⟨v,r,h,h1.keep hk,x0 _ _ h2⟩
 |unit=>intro x vs h;exact h
 |_=>intro x vs h;exact absurd h (by simp[RepTup])
theorem RepP.keep(hk:Keeps w w' O O'){t:Ty}{x:t.T}{v:zd}(h:RepP w O t x v):RepP w' O' t x v:=by
 cases t<;>first|exact h.elim|skip
 obtain⟨g,off,cs,h1,h2,h3,h4,h5⟩:=h;exact⟨g,off,cs,h1,zy h2 hk.size,λh=>h3 (hk.own g h2 h),RepC.keep hk _ _ _ h4,h5.keep (hk.block g h2 h3)⟩
theorem RepCap.keep(hk:Keeps w w' O O'):∀(t:Ty)(x:t.T)(vs:List zd),RepCap w O t x vs->RepCap w' O' t x vs:=by
 intro t
 induction t with
 |tup a b iha x0=>rintro x vs ⟨v,r,h,h1,h2⟩;exact⟨v,r,h,h1.keep hk,x0 _ _ h2⟩
 |unit=>intro x vs h;exact h
 |_=>intro x vs h;exact absurd h (by simp[RepCap])
theorem RepV.keep(hk:Keeps w w' O O'):∀(t:Ty)(x:t.T)(v:zd),RepV w O U t x v->RepV w' O' U t x v:=by
 intro t
 induction t with
 |junk=>intro x v h;exact h
 |lit=>intro x v h;exact h
 |vptr t _=>
  rintro x v ⟨g,off,cs,h1,h2,h3,h4,h5⟩;exact⟨g,off,cs,h1,zy h2 hk.size,λh=>h3 (hk.own g h2 h),RepC.keep hk _ _ _ h4,h5.keep (hk.block g h2 h3)⟩
 |cptr g off t _=>
  rintro x v ⟨cs,h1,h2,h3,h4,h5⟩;exact⟨cs,h1,zy h2 hk.size,λh=>h3 (hk.own g h2 h),RepC.keep hk _ _ _ h4,h5.keep (hk.block g h2 h3)⟩
 |optr t _=>intro x v h;exact h
 |obuf t _=>intro x v h;exact h
 |hptr=>intro x v h;exact h
 |hcons a b x0 x1=>rintro x v ⟨u,s,h1,h2,h3,h4⟩;exact⟨u,s,h1,h2,x0 _ _ h3,x1 _ _ h4⟩
 |tup a b _ _=>rintro x v ⟨vs,h1,h2⟩;exact⟨vs,h1,RepTup.keep hk _ _ _ h2⟩
 |cond t ih=>intro x v h;exact⟨λhc=>ih _ _ (h.1 hc),h.2⟩
 |clo f t _=>rintro x v ⟨vs,h1,h2⟩;exact⟨vs,h1,RepCap.keep hk _ _ _ h2⟩
 |mapL=>rintro x v ⟨r,ms,ck,h1,h2,h3,h4,h5⟩;exact⟨r,ms,ck,h1,zy h2 hk.size,λh=>h3 (hk.own r h2 h),(hk.block r h2 h3).trans h4,h5⟩
 |_=>intro x v h;exact RepD.keep hk h
end
theorem RepD.scalar{w:zh}{O:Nat->Prop}{t:Ty}(ht:t.isAgg=false){x:t.T}{v:zd}:RepD w O t x v↔RepC w O t x [v]:=by simp[RepD,ht]
theorem RepD.agg{w:zh}{O:Nat->Prop}{t:Ty}(ht:t.isAgg=true){x:t.T}{v:zd}:RepD w O t x v↔∃cs,v=.agg cs.toArray/\RepC w O t x cs:=by simp[RepD,ht]
abbrev Frame:=List (Nat×V)
def Frame.get:List (Nat×V)->Nat->V
 | [],_=>⟨.junk,()⟩
 |(s,v)::r,t=>bif yK s t then v else Frame.get r t
inductive OObj where
 |box (t:Ty) (x:t.T)
 |buf (te:zo) (t:Ty) (xs:List t.T)
 |hbox (ty:zo) (vs:List V)
 |mp (m:Nat) (I:List (zd×zd)->Prop)
def OObj.isBuf:OObj->Bool
 |.box _ _=>false
 |.buf _ _ _=>true
 |.hbox _ _=>false
 |.mp _ _=>false
abbrev Owns:=List (Nat×Option OObj)
def Owns.get:List (Nat×Option OObj)->Nat->Option OObj
 | [],_=>none
 |(i,o)::r,j=>bif yK i j then o else Owns.get r j
structure AS where
 F:Frame
 E:Owns
 nx:Nat
def bnd:(t:Ty)->t.T->Nat
 |.optr _,p=>p.i+1
 |.obuf _,i=>i+1
 |.cond t,x=>bnd t x.2
 |.hptr,x=>x.1+1
 |.hcons a b,x=>max (bnd a x.1) (bnd b x.2)
 |_,_=>0
def V.bound(v:V):Nat:=bnd v.t v.x
structure Ownr where
 G:zh->Prop
 X:Nat->Prop
 K:Nat
 fix:Nat->Nat
 D:List Deferred:=[]
 ρ:Option Nat:=none
 B:Nat->Prop:=λ_=>False
def Ownr.R(X:Ownr)(g:Nat):Prop:=(∃i,i<X.K/\X.fix i=g)\/X.B g
def Ownr.plain(G:zh->Prop)(O:Nat->Prop):Ownr:=⟨G,O,0,λ_=>0,[],none,λ_=>False⟩
def Ownr.one(G:zh->Prop)(O:Nat->Prop)(g:Nat):Ownr:=⟨G,O,1,λ_=>g,[],none,λ_=>False⟩
theorem Ownr.plain_noR(G:zh->Prop)(O:Nat->Prop):∀g,¬(Ownr.plain G O).R g:=λg h=>h.elim (λ⟨i,h,_⟩=>absurd h (Nat.not_lt_zero _)) id
theorem Ownr.one_R(G:zh->Prop)(O:Nat->Prop)(g:Nat):∀h,(Ownr.one G O g).R h↔h=g:=λh=>⟨λhh=>hh.elim (λ⟨i,_,e⟩=>e.symm) False.elim,λe=>.inl ⟨0,Nat.lt_succ_self 0,e.symm⟩⟩
instance:CoeFun Ownr (λ_=>Nat->Prop):=⟨Ownr.X⟩
structure Kept(R:Nat->Prop)(w w':zh):Prop where
 os:w'.os=w.os
 tape:w'.tape=w.tape
 output:w'.output=w.output
 size:w.heap.size<=w'.heap.size
 block:∀k,k<w.heap.size->¬R k->w'.heap[k]? =w.heap[k]?
def Ownr.Ok(X:Ownr)(w0:zh):Prop:=(∀g,X g->g<w0.heap.size/\¬X.R g)/\(∀g,X.R g->g<w0.heap.size)/\∀w,Kept X.R w0 w->X.G w
theorem Kept.then{R:Nat->Prop}{a b c:zh}(h:Kept R a b)(k:xG b.heap.size b c):Kept R a c:=
 ⟨k.os.trans h.os,k.tape.trans h.tape,k.output.trans h.output,zJ h.size k.size,λi hi hr=>(k.block i (zy hi h.size)).trans (h.block i hi hr)⟩
theorem Kept.below{R:Nat->Prop}{a b:zh}(h:Kept R a b)(hR:∀g,¬R g):xG a.heap.size a b:=⟨h.os,h.tape,h.output,h.size,λk hk=>h.block k hk (hR k)⟩
theorem Kept.grown{R:Nat->Prop}{a b c:zh}{o:Option Nat}(h:Kept R a b)(hg:b.grownBy c o)(hn:∀g,o=some g->a.heap.size<=g\/R g):Kept R a c:=
 ⟨hg.os.trans h.os,hg.tape.trans h.tape,hg.output.trans h.output,zJ h.size hg.size,λk hk hr=>(hg.block k (zy hk h.size) λe=>by
   rcases hn k e.symm with h1|h1
   .omega
   .exact hr h1).trans (h.block k hk hr)⟩
theorem Kept.refl(R:Nat->Prop)(w:zh):Kept R w w:=⟨rfl,rfl,rfl,zj _,λ_ _ _=>rfl⟩
def OSet(X:Ownr)(E:Owns)(U:Nat->zd)(g:Nat):Prop:=X g\/∃i o,Owns.get E i=some o/\zag (U i)=some g
def RepH(w:zh)(O:Nat->Prop)(U:Nat->zd):List V->List zd->Prop
 | [],cs=>cs=[]
 |v::r,cs=>∃u s,cs=u::s/\u.oneCell'=true/\RepV w O U v.t v.x u/\RepH w O U r s
def OObj.hvs:OObj->Option (List V)
 |.hbox _ vs=>some vs
 |_=>none
def OObj.under(o:OObj)(k:Nat):Prop:=∀vs,o.hvs=some vs->∀v,v∈vs->v.bound<=k
def OwnRep(w:zh)(O:Nat->Prop)(U:Nat->zd)(B:Nat)(bv:zd):OObj->Prop
 |.box t x=>∃g cs ty,bv=.pointer (some ⟨g,0,none⟩)/\B<=g/\w.heap[g]? =some (.cells (xQ cs) ty (0,0))/\RepC w O t x cs
 |.buf te t xs=>∃cs,RepL (RepC w O t) xs cs/\w.ownsRow B te t.size bv xs.length cs/\0<t.size
 |.hbox ty vs=>∃g cs,bv=.pointer (some ⟨g,0,none⟩)/\B<=g/\w.heap[g]? =some (.cells (xQ cs) ty (0,0))/\RepH w O U vs cs
 |.mp m I=>∃ms ck,bv=.pointer (some ⟨m,0,none⟩)/\B<=m/\w.heap[m]? =some (.map ms ck)/\I (ms.toList.map λe=>(e.key,e.val))
structure Sim(w0:zh)(X:Ownr)(n:Nat)(Y:AS)(U:Nat->zd)(a:Act)(w:zh):Prop where
 sz:a.tmps.size=n
 df:a.defers=X.D
 bel:Kept X.R w0 w
 fr:∀s,RepV w (OSet X Y.E U) U (Frame.get Y.F s).t (Frame.get Y.F s).x (a.tmps.getD s undef)
 own:∀i o,Owns.get Y.E i=some o->OwnRep w (OSet X Y.E U) U 0 (U i) o
 new:∀i o g,Owns.get Y.E i=some o->zag (U i)=some g->w0.heap.size<=g\/X.R g
 inj:∀i j oi oj,Owns.get Y.E i=some oi->Owns.get Y.E j=some oj->i≠j->∀g,zag (U i)=some g->zag (U j)≠some g
 lt:∀i o,Owns.get Y.E i=some o->i<Y.nx
 fix:X.K<=Y.nx/\∀i,i<X.K->zag (U i)=some (X.fix i)/\∀o,Owns.get Y.E i=some o->o.isBuf=false
 hb:∀s,(Frame.get Y.F s).bound<=Y.nx
 hE:∀i o,Owns.get Y.E i=some o->o.under Y.nx
theorem zam(s:Nat)(v:V)(r:Frame)(t:Nat):Frame.get ((s,v)::r) t=if s=t then v else Frame.get r t:=by
 simp only[Frame.get,cond_eq_ite,xV]
theorem zab(i:Nat)(o:Option OObj)(r:Owns)(j:Nat):Owns.get ((i,o)::r) j=if i=j then o else Owns.get r j:=by
 simp only[Owns.get,cond_eq_ite,xV]
section
variable {w w':zh}{O O':Nat->Prop}{U:Nat->zd}
theorem RepH.keep(hk:Keeps w w' O O'):∀{vs:List V}{cs:List zd},RepH w O U vs cs->RepH w' O' U vs cs
 | [],_,h=>h
 |v::r,_,⟨u,s,h1,h2,h3,h4⟩=>⟨u,s,h1,h2,RepV.keep hk _ _ _ h3,RepH.keep hk h4⟩
theorem OwnRep.block_lt{B:Nat}{bv:zd}{o:OObj}(h:OwnRep w O U B bv o){g:Nat}(hg:zag bv=some g):B<=g/\g<w.heap.size:=by
 cases o with
 |box t x=>
  obtain⟨g',cs,ty,rfl,h1,h2,_⟩:=h;simp[zag]at hg;subst hg;exact⟨h1,(zl.1 h2).1⟩
 |buf te t xs=>
  obtain⟨cs,_,h2,_⟩:=h;rcases h2.2 with ⟨rfl,_⟩|⟨g',cap,cur,rfl,h1,h2,_⟩
  .simp[zag]at hg
  .simp[zag]at hg;subst hg;exact⟨h1,(zl.1 h2).1⟩
 |hbox ty vs=>
  obtain⟨g',cs,rfl,h1,h2,_⟩:=h;simp[zag]at hg;subst hg;exact⟨h1,(zl.1 h2).1⟩
 |mp m I=>
  obtain⟨ms,ck,rfl,h1,h2,_⟩:=h;simp[zag]at hg;subst hg;exact⟨h1,(zl.1 h2).1⟩
theorem OwnRep.keep{B:Nat}{bv:zd}{o:OObj}(h:OwnRep w O U B bv o)(hk:Keeps w w' O O')(hb:∀g,zag bv=some g->w'.heap[g]? =w.heap[g]?):OwnRep w' O' U B bv o:=by
 cases o with
 |box t x=>
  obtain⟨g',cs,ty,rfl,h1,h2,h3⟩:=h;exact⟨g',cs,ty,rfl,h1,(hb g' rfl).trans h2,RepC.keep hk _ _ _ h3⟩
 |buf te t xs=>
  obtain⟨cs,h1,h2,h3⟩:=h;refine⟨cs,h1.mono λx _ c=>RepC.keep hk _ _ _,⟨h2.1,?_⟩,h3⟩;rcases h2.2 with h4|⟨g',cap,cur,rfl,h4,h5,h6⟩
  .exact .inl h4
  .exact .inr ⟨g',cap,cur,rfl,h4,(hb g' rfl).trans h5,h6⟩
 |hbox ty vs=>
  obtain⟨g',cs,rfl,h1,h2,h3⟩:=h;exact⟨g',cs,rfl,h1,(hb g' rfl).trans h2,h3.keep hk⟩
 |mp m I=>
  obtain⟨ms,ck,rfl,h1,h2,h3⟩:=h;exact⟨ms,ck,rfl,h1,(hb m rfl).trans h2,h3⟩
end
section
variable {w0:zh}{X:Ownr}{n:Nat}{Y:AS}{U:Nat->zd}{a:Act}{w w':zh}
theorem Act.put_size(a:Act)(d:Option Tmp)(v:zd):(a.put d v).tmps.size=a.tmps.size:=by
 cases d<;>simp[Act.put]
theorem Act.put_defers(a:Act)(d:Option Tmp)(v:zd):(a.put d v).defers=a.defers:=by
 cases d<;>rfl
theorem Act.put_get{a:Act}{d s:Nat}{v:zd}(hd:d<a.tmps.size):(a.put (some d) v).tmps.getD s undef=if d=s then v else a.tmps.getD s undef:=by
 by_cases h:d=s
 .subst h;rw[if_pos rfl];unfold Act.put;simp[zO,xO,hd]
 .rw[if_neg h];unfold Act.put;simp[zO,xO,h]
theorem Sim.put(h:Sim w0 X n Y U a w)(hk:xG w.heap.size w w'){v:V}{u:zd}(hr:RepV w' (OSet X Y.E U) U v.t v.x u)(hb:v.bound<=Y.nx){d:Nat}(hd:d<n):
  Sim w0 X n { Y with F:=(d,v)::Y.F } U (a.put (some d) u) w' where
 sz:=by rw[Act.put_size];exact h.sz
 df:=by rw[Act.put_defers];exact h.df
 bel:=h.bel.then hk
 new:=h.new
 fr:=λs=>by
  rw[Act.put_get (by rw[h.sz];exact hd),zam];by_cases hs:d=s
  .rw[if_pos hs,if_pos hs];exact hr
  .rw[if_neg hs,if_neg hs];exact RepV.keep (.of_below hk λ_ _ h=>h) _ _ _ (h.fr s)
 own:=λi o ho=>(h.own i o ho).keep (.of_below hk λ_ _ h=>h) λg hg=>hk.block g ((h.own i o ho).block_lt hg).2
 inj:=h.inj
 lt:=h.lt
 fix:=h.fix
 hb:=λs=>by
  rw[zam];by_cases hs:d=s
  .rw[if_pos hs];exact hb
  .rw[if_neg hs];exact h.hb s
 hE:=h.hE
theorem zlD{U:Nat->zd}{k i:Nat}{v:zd}(h:i≠k):(λj=>if j=k then v else U j) i=U i:=by simp[h]
theorem RepV.update{w:zh}{O:Nat->Prop}{U:Nat->zd}{k:Nat}{bv:zd}:∀(t:Ty)(x:t.T)(v:zd),bnd t x<=k->RepV w O U t x v->RepV w O (λj=>if j=k then bv else U j) t x v:=by
 intro t
 induction t with
 |optr t _=>
  rintro x v hb ⟨g,h1,h2⟩;have:x.i≠k:=by simp[bnd]at hb;omega
  exact⟨g,by simp[this,h1],h2⟩
 |obuf t _=>
  intro x v;change Nat at x;intro hb h;have x0:x+1<=k:=hb;have:x≠k:=o_;have h':=h;show v=if x=k then bv else U x
  rw[if_neg this,h']
 |cond t ih=>intro x v hb h;exact⟨λhc=>ih _ _ hb (h.1 hc),h.2⟩
 |hptr=>
  rintro x v hb ⟨g,h1,h2⟩;have:x.1≠k:=by simp[bnd]at hb;omega
  exact⟨g,by simp[this,h1],h2⟩
 |hcons a b iha ihb=>
  rintro x v hb ⟨u,s,h1,h2,h3,h4⟩;have x0:max (bnd a x.1) (bnd b x.2)<=k:=hb;exact⟨u,s,h1,h2,iha _ _ o_ h3,ihb _ _ o_ h4⟩
 |_=>intro x v hb h;exact h
theorem RepH.update{w:zh}{O:Nat->Prop}{U:Nat->zd}{k:Nat}{bv:zd}:∀{vs:List V}{cs:List zd},(∀v,v∈vs->v.bound<=k)->RepH w O U vs cs->RepH w O (λj=>if j=k then bv else U j) vs cs
 | [],_,_,h=>h
 |v::r,_,hb,⟨u,s,h1,h2,h3,h4⟩=>⟨u,s,h1,h2,RepV.update _ _ _ (hb v (by simp)) h3,RepH.update (λy hy=>hb y (by simp[hy])) h4⟩
theorem OwnRep.update{w:zh}{O:Nat->Prop}{U:Nat->zd}{k B:Nat}{bv b':zd}{o:OObj}(hb:o.under k)(h:OwnRep w O U B b' o):OwnRep w O (λj=>if j=k then bv else U j) B b' o:=by
 cases o with
 |box t x=>exact h
 |buf te t xs=>exact h
 |hbox ty vs=>
  obtain⟨g',cs,e,h1,h2,h3⟩:=h;exact⟨g',cs,e,h1,h2,h3.update (hb vs rfl)⟩
 |mp m I=>exact h
theorem OSet.new{E:Owns}{k:Nat}{o:OObj}{bv:zd}(x0:∀i o,Owns.get E i=some o->i<k)(g:Nat):
  OSet X ((k,some o)::E) (λj=>if j=k then bv else U j) g↔OSet X E U g\/zag bv=some g:=by
 unfold OSet;constructor
 .rintro (h|⟨i,oi,h1,h2⟩)
  .exact .inl (.inl h)
  .rw[zab]at h1;by_cases hi:k=i
   .subst hi;simp at h2;exact .inr h2
   .rw[if_neg hi]at h1;rw[zlD (qF hi)]at h2;exact .inl (.inr ⟨i,oi,h1,h2⟩)
 .rintro ((h|⟨i,oi,h1,h2⟩)|h)
  .exact .inl h
  .have:=x0 _ _ h1;exact .inr ⟨i,oi,by rw[zab,if_neg o_];exact h1,by rw[zlD o_];exact h2⟩
  .exact .inr ⟨k,o,by rw[zab,if_pos rfl],by simp[h]⟩
theorem Sim.make(h:Sim w0 X n Y U a w)(hX:X.Ok w0)(hk:xG w.heap.size w w'){bv:zd}{o:OObj}
  (hr:∀O U',(∀g,O g->OSet X Y.E U g\/zag bv=some g)->OwnRep w' O U' 0 bv o) (x0:∀g,zag bv=some g->w.heap.size<=g) {v:V}{u:zd}
  (hv:∀O U',U' Y.nx=bv->RepV w' O U' v.t v.x u) (hb:v.bound<=Y.nx+1) {d:Nat} (hd:d<n) (hu:o.under (Y.nx+1):=by exact λ_ e=>by cases e):
  ∃U',Sim w0 X n { F:=(d,v)::Y.F,E:=(Y.nx,some o)::Y.E,nx:=Y.nx+1 } U' (a.put (some d) u) w':=by
 refine⟨λj=>if j=Y.nx then bv else U j,?_⟩;have hO:=λg=>OSet.new (X:=X) (U:=U) (bv:=bv) (o:=o) h.lt g;have x1:Keeps w w' (OSet X Y.E U) (OSet X ((Y.nx,some o)::Y.E) (λj=>if j=Y.nx then bv else U j)):=
  .of_below hk λg hg x2=>by
   rcases (hO g).1 x2 with h1|h1
   .exact h1
   .have:=x0 g h1;omega
 refine⟨?_,?_,h.bel.then hk,?_,?_,?_,?_,?_,?_,?_,?_⟩
 .rw[Act.put_size];exact h.sz
 .rw[Act.put_defers];exact h.df
 .intro s;rw[Act.put_get (by rw[h.sz];exact hd)];rw[zam];by_cases hs:d=s
  .rw[if_pos hs,if_pos hs];exact hv _ _ (by simp)
  .rw[if_neg hs,if_neg hs];exact RepV.update _ _ _ (h.hb s) (RepV.keep x1 _ _ _ (h.fr s))
 .intro i oi hi;rw[show Owns.get ((Y.nx,some o)::Y.E) i=_ from zab ..]at hi;by_cases hs:Y.nx=i
  .subst hs;rw[if_pos rfl]at hi;cases hi;rw[if_pos rfl];exact hr _ _ λg x2=>(hO g).1 x2
  .rw[if_neg hs]at hi;rw[if_neg (qF hs)];exact((h.own i oi hi).keep x1 λg hg=>hk.block g ((h.own i oi hi).block_lt hg).2).update (h.hE i oi hi)
 .intro i oi g hi;rw[show Owns.get ((Y.nx,some o)::Y.E) i=_ from zab ..]at hi;by_cases hs:Y.nx=i
  .rw[if_pos hs.symm];intro hg;exact .inl (zJ h.bel.size (x0 g hg))
  .rw[if_neg hs]at hi;rw[if_neg (qF hs)];exact h.new i oi g hi
 .intro i j oi oj hi hj x3 g;rw[show Owns.get ((Y.nx,some o)::Y.E) i=_ from zab ..]at hi;rw[show Owns.get ((Y.nx,some o)::Y.E) j=_ from zab ..]at hj;show zag (if i=Y.nx then bv else U i)=some g->zag (if j=Y.nx then bv else U j)≠some g;by_cases h1:Y.nx=i
  .by_cases h2:Y.nx=j
   .omega
   .rw[if_neg h2]at hj;rw[if_pos h1.symm,if_neg (qF h2)];intro hg x2;have:=x0 g hg;have:=((h.own j oj hj).block_lt x2).2;omega
  .rw[if_neg h1]at hi;rw[if_neg (qF h1)];by_cases h2:Y.nx=j
   .rw[if_pos h2.symm];intro hg x2;have:=x0 g x2;have:=((h.own i oi hi).block_lt hg).2;omega
   .rw[if_neg h2]at hj;rw[if_neg (qF h2)];exact h.inj i j oi oj hi hj x3 g
 .intro i oi hi;rw[show Owns.get ((Y.nx,some o)::Y.E) i=_ from zab ..]at hi;show i<Y.nx+1;by_cases hs:Y.nx=i
  .omega
  .rw[if_neg hs]at hi;have:=h.lt i oi hi;omega
 .obtain⟨hn,hf⟩:=h.fix;refine⟨Nat.le_succ_of_le hn,λi hi=>?_⟩;obtain⟨h2,h3⟩:=hf i hi;refine⟨?_,λoi ho=>?_⟩
  .
   rw[if_neg o_];exact h2
  .rw[show Owns.get ((Y.nx,some o)::Y.E) i=_ from zab ..,if_neg o_]at ho;exact h3 oi ho
 .intro s;show(Frame.get ((d,v)::Y.F) s).bound<=Y.nx+1;rw[zam];by_cases hs:d=s
  .rw[if_pos hs];exact hb
  .rw[if_neg hs];have:=h.hb s;omega
 .intro i oi hi;rw[show Owns.get ((Y.nx,some o)::Y.E) i=_ from zab ..]at hi;by_cases hs:Y.nx=i
  .rw[if_pos hs]at hi;cases hi;exact hu
  .rw[if_neg hs]at hi;intro vs e v hv;have:=h.hE i oi hi vs e v hv;show v.bound<=Y.nx+1;omega
theorem Sim.write(h:Sim w0 X n Y U a w){i:Nat}{o o':OObj}(hi:Owns.get Y.E i=some o)(hg:w.grownBy w' (zag (U i)))
  (hr:Keeps w w' (OSet X Y.E U) (OSet X Y.E U)->OwnRep w' (OSet X Y.E U) U 0 (U i) o') (x1:o'.isBuf=o.isBuf) (hu:o'.under Y.nx:=by exact λ_ e=>by cases e):
  Sim w0 X n { Y with E:=(i,some o')::Y.E } U a w':=by
 have hO:∀g,OSet X ((i,some o')::Y.E) U g↔OSet X Y.E U g:=λg=>by
  unfold OSet;constructor
  .rintro (h1|⟨j,oj,h1,h2⟩)
   .exact .inl h1
   .rw[zab]at h1;by_cases hj:i=j
    .subst hj;exact .inr ⟨i,o,hi,h2⟩
    .rw[if_neg hj]at h1;exact .inr ⟨j,oj,h1,h2⟩
  .rintro (h1|⟨j,oj,h1,h2⟩)
   .exact .inl h1
   .by_cases hj:i=j
    .subst hj;exact .inr ⟨i,o',by rw[zab,if_pos rfl],h2⟩
    .exact .inr ⟨j,oj,by rw[zab,if_neg hj];exact h1,h2⟩
 have x3:OSet X ((i,some o')::Y.E) U=OSet X Y.E U:=funext λg=>propext (hO g);have x0:Keeps w w' (OSet X Y.E U) (OSet X Y.E U):=⟨hg.size,λg x7 x6=>hg.block g x7 λe=>x6 (.inr ⟨i,o,hi,e.symm⟩),λ_ _ h=>h⟩;refine⟨h.sz,h.df,h.bel.grown hg (λg e=>h.new i o g hi e),?_,?_,?_,?_,?_,⟨h.fix.1,λj hj=>?_⟩,h.hb,?_⟩
 .intro s;rw[x3];exact RepV.keep x0 _ _ _ (h.fr s)
 .intro j oj hj;rw[x3];rw[show Owns.get ((i,some o')::Y.E) j=_ from zab ..]at hj;by_cases hs:i=j
  .subst hs;rw[if_pos rfl]at hj;cases hj;exact hr x0
  .rw[if_neg hs]at hj;refine(h.own j oj hj).keep x0 λg x2=>hg.block g ((h.own j oj hj).block_lt x2).2 λe=>?_;exact h.inj i j o oj hi hj hs g e.symm x2
 .intro j oj g hj;rw[show Owns.get ((i,some o')::Y.E) j=_ from zab ..]at hj;by_cases hs:i=j
  .subst hs;exact h.new i o g hi
  .rw[if_neg hs]at hj;exact h.new j oj g hj
 .intro j k oj ok hj hk;rw[show Owns.get ((i,some o')::Y.E) j=_ from zab ..]at hj;rw[show Owns.get ((i,some o')::Y.E) k=_ from zab ..]at hk;have x5:∃p,Owns.get Y.E j=some p:=by
   by_cases hs:i=j
   .subst hs;exact⟨o,hi⟩
   .rw[if_neg hs]at hj;exact⟨_,hj⟩
  have x4:∃p,Owns.get Y.E k=some p:=by
   by_cases hs:i=k
   .subst hs;exact⟨o,hi⟩
   .rw[if_neg hs]at hk;exact⟨_,hk⟩
  obtain⟨p,hp⟩:=x5;obtain⟨q,hq⟩:=x4;exact h.inj j k p q hp hq
 .intro j oj hj;rw[show Owns.get ((i,some o')::Y.E) j=_ from zab ..]at hj;by_cases hs:i=j
  .subst hs;exact h.lt i o hi
  .rw[if_neg hs]at hj;exact h.lt j oj hj
 .obtain⟨h2,h3⟩:=h.fix.2 j hj;refine⟨h2,λoj ho=>?_⟩;rw[show Owns.get ((i,some o')::Y.E) j=_ from zab ..]at ho;by_cases hs:i=j
  .subst hs;rw[if_pos rfl]at ho;cases ho;rw[x1];exact h3 o hi
  .rw[if_neg hs]at ho;exact h3 oj ho
 .intro j oj hj;rw[show Owns.get ((i,some o')::Y.E) j=_ from zab ..]at hj;by_cases hs:i=j
  .rw[if_pos hs]at hj;cases hj;exact hu
  .rw[if_neg hs]at hj;exact h.hE j oj hj
theorem Sim.forget(h:Sim w0 X n Y U a w)(i:Nat):Sim w0 X n { Y with E:=(i,none)::Y.E } U a w:=by
 have hget:∀j oj,Owns.get ((i,none)::Y.E) j=some oj->i≠j/\Owns.get Y.E j=some oj:=λj oj hj=>by
  rw[zab]at hj;by_cases hs:i=j
  .rw[if_pos hs]at hj;cases hj
  .rw[if_neg hs]at hj;exact⟨hs,hj⟩
 have x0:Keeps w w (OSet X Y.E U) (OSet X ((i,none)::Y.E) U):=⟨zj _,λ_ _ _=>rfl,λg _ hg=>by
  rcases hg with hg|⟨j,oj,h1,h2⟩
  .exact .inl hg
  .exact .inr ⟨j,oj,(hget j oj h1).2,h2⟩⟩
 exact⟨h.sz,h.df,h.bel,λs=>RepV.keep x0 _ _ _ (h.fr s),λj oj hj=>(h.own j oj (hget j oj hj).2).keep x0 λ_ _=>rfl,λj oj g hj=>h.new j oj g (hget j oj hj).2,
  λj k oj ok hj hk=>h.inj j k oj ok (hget j oj hj).2 (hget k ok hk).2,λj oj hj=>h.lt j oj (hget j oj hj).2,⟨h.fix.1,λj hj=>⟨(h.fix.2 j hj).1,λoj ho=>(h.fix.2 j hj).2 oj (hget j oj ho).2⟩⟩,h.hb,λj oj hj=>h.hE j oj (hget j oj hj).2⟩
theorem Sim.weaken(h:Sim w0 X n Y U a w){F':Frame}(hF:∀s,Frame.get F' s=Frame.get Y.F s\/Frame.get F' s=⟨.junk,()⟩):Sim w0 X n { Y with F:=F' } U a w:=
 ⟨h.sz,h.df,h.bel,λs=>by
   rcases hF s with e|e
   .show RepV _ _ _ (Frame.get F' s).t _ _;rw[e];exact h.fr s
   .show RepV _ _ _ (Frame.get F' s).t _ _;rw[e];trivial,h.own,h.new,h.inj,h.lt,h.fix,λs=>by
   rcases hF s with e|e
   .show(Frame.get F' s).bound<=_;rw[e];exact h.hb s
   .show(Frame.get F' s).bound<=_;rw[e];exact zk _,h.hE⟩
theorem OwnRep.view{B:Nat}{bv:zd}{te:zo}{t:Ty}{xs:List t.T}{O O':Nat->Prop}(h:OwnRep w O U B bv (.buf te t xs))(hO:∀g,g<w.heap.size->O' g->O g)(hn:∀g,zag bv=some g->¬O' g):
  RepD w O' (.slice t) xs bv:=by
 rw[RepD.scalar rfl];refine⟨bv,rfl,?_⟩;obtain⟨cs,h1,h2,h3⟩:=h;have x0:=h1.mono λx _ c=>RepC.keep ⟨zj _,λ_ _ _=>rfl,hO⟩ _ _ _;rcases h2.2 with ⟨rfl,h4⟩|⟨g,cap,cur,rfl,h5,h6,h7,h8,h9,h10⟩
 .have:xs=[]:=xW h4;subst this;exact .inl ⟨rfl,none,0,rfl,by simp[maxLen]⟩
 .by_cases hx:xs=[]
  .subst hx;exact .inl ⟨rfl,some ⟨g,0,none⟩,cap,rfl,h8⟩
  .refine .inr ⟨g,0,cap,cs,rfl,hx,h7,h8,(zl.1 h6).1,hn g rfl,x0,λj u hu=>?_⟩;rw[yL];unfold qi;rw[h6];simp only[jk,xL,if_false];rw[<-h10,yG]at hu;split at hu
   .simpa using hu
   .cases hu
def thaw(i:Nat)(t:Ty)(xs:List t.T)(v:V):V:=
 match v with
 |⟨.obuf _,j⟩=>bif yK i j then ⟨.slice t,xs⟩ else v
 |v=>v
def Frame.thaw(i:Nat)(t:Ty)(xs:List t.T):List (Nat×V)->List (Nat×V)
 | []=>[]
 |(s,v)::r=>(s,Go.Proofs.YthbecdbmifchiaaGreatDoor.thaw i t xs v)::Frame.thaw i t xs r
theorem Frame.get_thaw(i:Nat)(t:Ty)(xs:List t.T)(F:Frame)(s:Nat):Frame.get (Frame.thaw i t xs F) s=Go.Proofs.YthbecdbmifchiaaGreatDoor.thaw i t xs (Frame.get F s):=by
 induction F with
 |nil=>rfl
 |cons p F ih=>
  obtain⟨d,v⟩:=p;simp only[Frame.thaw,zam,ih];split<;>rfl
theorem Sim.freeze(h:Sim w0 X n Y U a w)(hX:X.Ok w0){i:Nat}{te:zo}{t:Ty}{xs:List t.T}(hi:Owns.get Y.E i=some (.buf te t xs)):
  Sim w0 X n { F:=Frame.thaw i t xs Y.F,E:=(i,none)::Y.E,nx:=Y.nx } U a w:=by
 have h':=h.forget i;have hv:RepD w (OSet X ((i,none)::Y.E) U) (.slice t) xs (U i):=(h.own i _ hi).view (λg _ hg=>by
  rcases hg with hg|⟨j,oj,h1,h2⟩
  .exact .inl hg
  .rw[zab]at h1;by_cases hs:i=j
   .rw[if_pos hs]at h1;cases h1
   .rw[if_neg hs]at h1;exact .inr ⟨j,oj,h1,h2⟩) λg hg x0=>by
  rcases x0 with x0|⟨j,oj,h1,h2⟩
  .have h3:=hX.1 g x0;rcases h.new i _ g hi hg with h4|h4
   .omega
   .exact h3.2 h4
  .rw[zab]at h1;by_cases hs:i=j
   .rw[if_pos hs]at h1;cases h1
   .rw[if_neg hs]at h1;exact h.inj i j _ _ hi h1 hs g hg h2
 refine⟨h'.sz,h'.df,h'.bel,λs=>?_,h'.own,h'.new,h'.inj,h'.lt,h'.fix,λs=>?_,h'.hE⟩
 .have h1:=h'.fr s;rw[Frame.get_thaw];revert h1;generalize Frame.get Y.F s=v;obtain⟨vt,vx⟩:=v;cases vt<;>first|exact id|skip
  rename_i t';intro h1;have x1:=h1;simp only[Go.Proofs.YthbecdbmifchiaaGreatDoor.thaw];cases e:yK i vx with
  |true=>
   have e':=qt e;simp only[cond_true];rw[x1, <-e'];exact hv
  |false=>exact h1
 .have h1:=h'.hb s;rw[Frame.get_thaw];revert h1;generalize Frame.get Y.F s=v;obtain⟨vt,vx⟩:=v;cases vt<;>first|exact id|skip
  intro h1;simp only[Go.Proofs.YthbecdbmifchiaaGreatDoor.thaw];cases e:yK i vx with
  |true=>exact zk _
  |false=>exact h1
end
def zbw:Ty->List zd
 |.bool=>[.bool false]
 |.int k=>[.int k 0]
 |.str=>[.string ⟨#[]⟩]
 |.slice _=>[.slice none 0 0]
 |.pair a b=>zbw a++zbw b
 |.arr n t=>(zr n (zbw t)).flatten
 |_=>[]
def zwl:(k:xT)->IntT k
 |.u8=>(0:UInt8)
 |.u16=>(0:BitVec 16)
 |.u32=>(0:BitVec 32)
 |.u64=>(0:BitVec 64)
 |.i8=>(0:Int)
 |.i16=>(0:Int)
 |.i32=>(0:Int)
 |.i64=>(0:Int)
def zav:(t:Ty)->t.T
 |.bool=>false
 |.int k=>zwl k
 |.str=>[]
 |.unit=>()
 |.pair a b=>(zav a,zav b)
 |.arr n t=>zr n (zav t)
 |.slice _=>[]
 |.junk=>()
 |.lit=>.nilFunc
 |.vptr t=>zav t
 |.cptr _ _ t=>zav t
 |.optr t=>⟨0,t,.here⟩
 |.obuf _=>(0:Nat)
 |.tup a b=>(zav a,zav b)
 |.cond t=>(false,zav t)
 |.clo _ t=>zav t
 |.mapL=>([]:List (zd×zd))
 |.hptr=>((0:Nat),(0:Nat))
 |.hcons a b=>(zav a,zav b)
def Ty.data:Ty->Bool
 |.bool|.int _|.str|.unit=>true
 |.pair a b=>a.data&&b.data
 |.arr _ t=>t.data
 |.slice t=>t.data
 |_=>false
theorem zsI(k:xT):encI k (zwl k)=0:=by cases k<;>rfl
theorem zgn(w:zh)(O:Nat->Prop):∀t:Ty,t.data=true->RepC w O t (zav t) (zbw t):=by
 intro t
 induction t with
 |bool=>intro _;rfl
 |int k=>intro _;show _=_;rw[show zav (.int k)=zwl k from rfl,zsI];rfl
 |str=>intro _;exact⟨rfl,by simp[zav]⟩
 |unit=>intro _;rfl
 |pair a b x0 x1=>intro h;simp[Ty.data]at h;exact⟨_,_,rfl,x0 h.1,x1 h.2⟩
 |arr n t ih=>
  intro h;refine⟨by simp[zav],?_⟩;simp only[zav,zbw]
  induction n with
  |zero=>rfl
  |succ n ihn=>exact⟨_,_,rfl,ih h,ihn h⟩
 |slice t ih=>intro _;exact⟨_,rfl,.inl ⟨rfl,none,0,rfl,by simp⟩⟩
 |_=>intro h;simp[Ty.data]at h
def Info(P:zw)(t:zo)(Z:Ty):Prop:=∃i z,P.info? t=some i/\i.size=Z.size/\i.zero=some z/\z.cells=(zbw Z).toArray/\i.bytes<=24*Z.size
def Lay(P:zw):Ty->zo ⊕ (List kZ×Nat)->Prop
 |.bool,.inl t=>P.underlying t=some .bool/\Info P t .bool
 |.int k,.inl t=>P.underlying t=some (.int k)/\Info P t (.int k)
 |.str,.inl t=>P.underlying t=some .string/\Info P t .str
 |.unit,.inl t=>∃fs,P.underlying t=some (.struct fs)/\Info P t .unit/\fs.toList=[]
 |.unit,.inr m=>m.1=[]
 |.pair a b,.inl t=>∃fs,P.underlying t=some (.struct fs)/\Info P t (.pair a b)/\∃f r,fs.toList=f::r/\f.offset=0/\Lay P a (.inl f.type)/\Lay P b (.inr (r,a.size))
 |.pair a b,.inr m=>∃f r,m.1=f::r/\f.offset=m.2/\Lay P a (.inl f.type)/\Lay P b (.inr (r,m.2+a.size))
 |.arr n e,.inl t=>∃te,P.underlying t=some (.array n te)/\Info P t (.arr n e)/\Lay P e (.inl te)
 |.slice e,.inl t=>∃te,P.underlying t=some (.slice te)/\Info P t (.slice e)/\Lay P e (.inl te)
 |_,_=>False
def ztN:zd->zd->Bool
 |.bool a,.bool b=>a==b
 |.int k a,.int l b=>decide (k=l)&&decide (a=b)
 |.string a,.string b=>a.data.toList==b.data.toList
 |.slice none n c,.slice none m d=>yK n m&&yK c d
 |_,_=>false
theorem ztM{a b:zd}(h:ztN a b=true):a=b:=by
 cases a<;>cases b<;>simp_all [ztN]
 .rename_i x y;cases x;cases y;simp_all
 .rename_i x n c y m d;cases x<;>cases y<;>simp_all [ztN]
def zjJ:List zd->List zd->Bool
 | [],[]=>true
 |a::r,b::s=>ztN a b&&zjJ r s
 |_,_=>false
theorem zlN:∀{a b:List zd},zjJ a b=true->a=b
 | [],[],_=>rfl
 |a::r,b::s,h=>by
  simp[zjJ]at h;rw[ztM h.1,zlN h.2]
 | [],_::_,h=>by simp[zjJ]at h
 |_::_,[],h=>by simp[zjJ]at h
def zkX(P:zw)(t:zo)(Z:Ty):Bool:=
 match P.info? t with
 |some i=>yK i.size Z.size&&qO i.bytes (24*Z.size)&&(match i.zero with |some z=>zjJ z.cells.toList (zbw Z)|none=>false)
 |none=>false
theorem zeB{P:zw}{t:zo}{Z:Ty}(h:zkX P t Z=true):Info P t Z:=by
 unfold zkX at h;split at h
 .rename_i i hi;simp only[zf,xV,jF]at h;obtain⟨⟨h1,h2⟩,h3⟩:=h;split at h3
  .rename_i z hz;exact⟨i,z,hi,h1,hz,by rw[<-zlN h3],h2⟩
  .cases h3
 .cases h
def layB(P:zw):Ty->zo ⊕ (List kZ×Nat)->Bool
 |.bool,.inl t=>(match P.underlying t with |some .bool=>true|_=>false)&&zkX P t .bool
 |.int k,.inl t=>(match P.underlying t with |some (.int l)=>decide (k=l)|_=>false)&&zkX P t (.int k)
 |.str,.inl t=>(match P.underlying t with |some .string=>true|_=>false)&&zkX P t .str
 |.unit,.inl t=>(match P.underlying t with |some (.struct fs)=>(match fs.toList with | []=>true|_=>false)|_=>false)&&zkX P t .unit
 |.unit,.inr m=>(match m.1 with | []=>true|_=>false)
 |.pair a b,.inl t=>(match P.underlying t with |some (.struct fs)=>(match fs.toList with |f::r=>yK f.offset 0&&layB P a (.inl f.type)&&layB P b (.inr (r,a.size))|_=>false)|_=>false)&&zkX P t (.pair a b)
 |.pair a b,.inr m=>(match m.1 with |f::r=>yK f.offset m.2&&layB P a (.inl f.type)&&layB P b (.inr (r,m.2+a.size))|_=>false)
 |.arr n e,.inl t=>(match P.underlying t with |some (.array k te)=>yK n k&&layB P e (.inl te)|_=>false)&&zkX P t (.arr n e)
 |.slice e,.inl t=>(match P.underlying t with |some (.slice te)=>layB P e (.inl te)|_=>false)&&zkX P t (.slice e)
 |_,_=>false
theorem zxt{P:zw}:∀(Z:Ty)(m:zo ⊕ (List kZ×Nat)),layB P Z m=true->Lay P Z m:=by
 intro Z
 induction Z with
 |bool=>
  rintro (t|m) h
  .simp only[layB,zf]at h;refine⟨?_,zeB h.2⟩;have h1:=h.1;split at h1
   .assumption
   .cases h1
  .cases h
 |int k=>
  rintro (t|m) h
  .simp only[layB,zf]at h;refine⟨?_,zeB h.2⟩;have h1:=h.1;split at h1
   .rename_i l hl;simp at h1;rw[h1];exact hl
   .cases h1
  .cases h
 |str=>
  rintro (t|m) h
  .simp only[layB,zf]at h;refine⟨?_,zeB h.2⟩;have h1:=h.1;split at h1
   .assumption
   .cases h1
  .cases h
 |unit=>
  rintro (t|m) h
  .simp only[layB,zf]at h;have h1:=h.1;split at h1
   .rename_i fs x1;refine⟨fs,x1,zeB h.2,?_⟩;split at h1
    .assumption
    .cases h1
   .cases h1
  .simp only[layB]at h;split at h
   .assumption
   .cases h
 |pair a b iha ihb=>
  rintro (t|m) h
  .simp only[layB,zf]at h;have h1:=h.1;split at h1
   .rename_i fs x1;split at h1
    .rename_i f r x0;simp only[zf,xV]at h1;exact⟨fs,x1,zeB h.2,f,r,x0,h1.1.1,iha _ h1.1.2,ihb _ h1.2⟩
    .cases h1
   .cases h1
  .simp only[layB]at h;split at h
   .rename_i f r x0;simp only[zf,xV]at h;exact⟨f,r,x0,h.1.1,iha _ h.1.2,ihb _ h.2⟩
   .cases h
 |arr n e ih=>
  rintro (t|m) h
  .simp only[layB,zf]at h;have h1:=h.1;split at h1
   .rename_i k te hk;simp only[zf,xV]at h1;rw[<-h1.1]at hk;exact⟨te,hk,zeB h.2,ih _ h1.2⟩
   .cases h1
  .cases h
 |slice e ih=>
  rintro (t|m) h
  .simp only[layB,zf]at h;have h1:=h.1;split at h1
   .rename_i te hk;exact⟨te,hk,zeB h.2,ih _ h1⟩
   .cases h1
  .cases h
 |_=>intro m h;cases m<;>cases h
section
variable {P:zw}{w:zh}{O:Nat->Prop}
theorem Lay.info{Z:Ty}{t:zo}(h:Lay P Z (.inl t)):Info P t Z:=by
 cases Z<;>first
  |exact h.2
  |(obtain⟨_,_,h,_⟩:=h;exact h)
  |exact absurd h (by simp[Lay])
theorem Lay.data:∀{Z:Ty}{m:zo ⊕ (List kZ×Nat)},Lay P Z m->Z.data=true:=by
 intro Z
 induction Z with
 |pair a b iha ihb=>
  rintro (t|m) h
  .obtain⟨_,_,_,f,r,_,_,h1,h2⟩:=h;simp[Ty.data,iha h1,ihb h2]
  .obtain⟨f,r,_,_,h1,h2⟩:=h;simp[Ty.data,iha h1,ihb h2]
 |arr n e ih=>
  rintro (t|m) h
  .obtain⟨_,_,_,h1⟩:=h;simp[Ty.data,ih h1]
  .exact absurd h (by simp[Lay])
 |slice e ih=>
  rintro (t|m) h
  .obtain⟨_,_,_,h1⟩:=h;simp[Ty.data,ih h1]
  .exact absurd h (by simp[Lay])
 |bool=>intro _ _;rfl
 |int=>intro _ _;rfl
 |str=>intro _ _;rfl
 |unit=>intro _ _;rfl
 |_=>intro m h;cases m<;>exact absurd h (by simp[Lay])
theorem Lay.sizeOf{Z:Ty}{t:zo}(h:Lay P Z (.inl t)):(vA t).run P w=.ok Z.size w:=by
 obtain⟨i,z,h1,h2,_⟩:=h.info;simp[vA,typeInfo,h1,h2]
theorem Lay.isAgg{Z:Ty}{t:zo}(h:Lay P Z (.inl t)):(Go.isAgg t).run P w=.ok Z.isAgg w:=by
 unfold Go.isAgg;cases Z with
 |bool=>rw[zK,run_underlying h.1];rfl
 |int=>rw[zK,run_underlying h.1];rfl
 |str=>rw[zK,run_underlying h.1];rfl
 |unit=>obtain⟨_,h1,_⟩:=h;rw[zK,run_underlying h1];rfl
 |pair=>obtain⟨_,h1,_⟩:=h;rw[zK,run_underlying h1];rfl
 |arr=>obtain⟨_,h1,_⟩:=h;rw[zK,run_underlying h1];rfl
 |slice=>obtain⟨_,h1,_⟩:=h;rw[zK,run_underlying h1];rfl
 |_=>exact absurd h (by simp[Lay])
theorem RepC.single{Z:Ty}(hd:Z.isAgg=false){x:Z.T}{cs:List zd}(h:RepC w O Z x cs):∃u,cs=[u]:=by
 have hl:=RepC.len _ _ _ h;have:Z.size=1:=by cases Z<;>first|rfl|(cases hd;done)|(simp[RepC]at h;done)
 rw[this]at hl;exact List.length_eq_one_iff.1 hl
theorem Lay.part{Z:Ty}{t:zo}(h:Lay P Z (.inl t)){x:Z.T}{cs:List zd}{k:Nat}(hr:RepC w O Z x ((cs.drop k).take Z.size)):
  ∃u,(Go.part t cs.toArray k).run P w=.ok u w/\RepD w O Z x u:=by
 unfold Go.part;simp only[zK,h.isAgg,zG];cases hd:Z.isAgg with
 |true=>
  simp only[if_true,zK,h.sizeOf,zG,zF];refine⟨_,rfl,(RepD.agg hd).2 ⟨_,?_,hr⟩⟩;simp only[List.extract_toArray,Value.agg.injEq,wD]
  congr 1
  simp
 |false=>
  obtain⟨u,hu⟩:=RepC.single hd hr;have hk:cs[k]? =some u:=by
   have h1:((cs.drop k).take Z.size)[0]? =some u:=by rw[hu];rfl
   rw[yG]at h1;split at h1
   .simpa using h1
   .cases h1
  refine⟨u,?_,(RepD.scalar hd).2 (hu▸hr)⟩;simp[hk]
theorem Lay.loadVar{Z:Ty}{t:zo}(h:Lay P Z (.inl t)){x:Z.T}{cs:List zd}{g off:Nat}(hr:RepC w O Z x cs)(hc:CellsAt w g off cs):
  ∃u,(Go.loadVar t ⟨g,off,none⟩).run P w=.ok u w/\RepD w O Z x u:=by
 unfold Go.loadVar;simp only[zK,h.isAgg,zG];have hl:=RepC.len _ _ _ hr;cases hd:Z.isAgg with
 |true=>
  have h2:=run_loadCells_list (P:=P) w ⟨g,off,none⟩ cs (λj v hv=>by rw[xF];exact hc j v hv);rw[hl]at h2;simp only[if_true,zK,h.sizeOf,zG,h2,zF];exact⟨_,rfl,(RepD.agg hd).2 ⟨_,rfl,hr⟩⟩
 |false=>
  obtain⟨u,rfl⟩:=RepC.single hd hr;refine⟨u,?_,(RepD.scalar hd).2 hr⟩;have:=hc 0 u rfl;simp[load,Sem.run,show w.cell? ⟨g,off,none⟩=some u from this]
theorem Lay.loadAt{Z:Ty}{t:zo}(h:Lay P Z (.inl t)){x:Z.T}{cs:List zd}{g off:Nat}(hr:RepC w O Z x cs)(hc:CellsAt w g off cs):
  ∃u,(xM t (.pointer (some ⟨g,off,none⟩))).run P w=.ok u w/\RepD w O Z x u:=by
 obtain⟨u,h1,h2⟩:=h.loadVar hr hc;exact⟨u,by simp[xM,qA,h1],h2⟩
def ziU:Nat->(t:Ty)->t.T->Option V
 |0,.pair a _,x=>some ⟨a,x.1⟩
 |n+1,.pair _ b,x=>ziU n b x.2
 |_,_,_=>none
def zbk:Nat->Ty->Nat
 |n+1,.pair a b=>a.size+zbk n b
 |_,_=>0
theorem zdN:∀(n:Nat)(Z:Ty)(x:Z.T)(v:V)(fs:List kZ)(off:Nat)(cs:List zd),ziU n Z x=some v->Lay P Z (.inr (fs,off))->RepC w O Z x cs->
  ∃f,fs[n]? =some f/\f.offset=off+zbk n Z/\Lay P v.t (.inl f.type)/\RepC w O v.t v.x ((cs.drop (zbk n Z)).take v.t.size)
 |0,.pair a b,x,v,fs,off,cs,h,hl,hr=>by
  cases h;obtain⟨f,r,h1,h2,h3,h4⟩:=hl;obtain⟨c1,c2,rfl,h5,h6⟩:=hr;simp only at h1 h2;subst h1;refine⟨f,rfl,by simp[zbk,h2],h3,?_⟩;have:=RepC.len _ _ _ h5;simp[zbk, <-this,h5]
 |n+1,.pair a b,x,v,fs,off,cs,h,hl,hr=>by
  obtain⟨f,r,h1,h2,h3,h4⟩:=hl;obtain⟨c1,c2,rfl,h5,h6⟩:=hr;simp only at h1 h2;subst h1;obtain⟨f',h7,h8,h9,x0⟩:=zdN n b x.2 v r _ c2 h h4 h6;have:=RepC.len _ _ _ h5;refine⟨f',by simpa using h7,by rw[h8];simp[zbk,qX],h9,?_⟩;rw[show zbk (n+1) (.pair a b)=c1.length+zbk n b by simp[zbk,this],jo];exact x0
 |0,.unit,_,_,_,_,_,h,_,_=>by cases h
 |_+1,.unit,_,_,_,_,_,h,_,_=>by cases h
 |n,.bool,_,_,_,_,_,h,_,_=>by cases n<;>cases h
 |n,.int _,_,_,_,_,_,h,_,_=>by cases n<;>cases h
 |n,.str,_,_,_,_,_,h,_,_=>by cases n<;>cases h
 |n,.arr _ _,_,_,_,_,_,h,_,_=>by cases n<;>cases h
 |n,.slice _,_,_,_,_,_,h,_,_=>by cases n<;>cases h
 |n,.junk,_,_,_,_,_,h,_,_=>by cases n<;>cases h
 |n,.lit,_,_,_,_,_,h,_,_=>by cases n<;>cases h
 |n,.vptr _,_,_,_,_,_,h,_,_=>by cases n<;>cases h
 |n,.cptr _ _ _,_,_,_,_,_,h,_,_=>by cases n<;>cases h
 |n,.optr _,_,_,_,_,_,h,_,_=>by cases n<;>cases h
 |n,.obuf _,_,_,_,_,_,h,_,_=>by cases n<;>cases h
 |n,.tup _ _,_,_,_,_,_,h,_,_=>by cases n<;>cases h
 |n,.cond _,_,_,_,_,_,h,_,_=>by cases n<;>cases h
theorem Lay.struct{n:Nat}{Z:Ty}{t:zo}(h:Lay P Z (.inl t)){x:Z.T}{v:V}(hv:ziU n Z x=some v):
  ∃fs,P.underlying t=some (.struct fs)/\Lay P Z (.inr (fs.toList,0)):=by
 cases Z with
 |pair a b=>
  obtain⟨fs,h1,_,f,r,h2,h3,h4,h5⟩:=h;exact⟨fs,h1,f,r,h2,h3,h4,by simpa using h5⟩
 |_=>cases n<;>cases hv
theorem Lay.field{n:Nat}{Z:Ty}{t:zo}(h:Lay P Z (.inl t)){x:Z.T}{v:V}(hv:ziU n Z x=some v){u:zd}(hr:RepD w O Z x u):
  ∃y,(pI t u n).run P w=.ok y w/\RepD w O v.t v.x y:=by
 obtain⟨fs,h1,h2⟩:=h.struct hv;have x0:Z.isAgg=true:=by cases Z<;>first|rfl|(cases n<;>cases hv)
 obtain⟨cs,rfl,hc⟩:=(RepD.agg x0).1 hr;obtain⟨f,h3,h4,h5,h6⟩:=zdN n Z x v _ _ cs hv h2 hc;rw[yL]at h4;obtain⟨y,h7,h8⟩:=h5.part h6;refine⟨y,?_,h8⟩;unfold pI;simp only[zK,run_underlying h1,zG];rw[show fs[n]? =some f by simpa using h3];simp only[asAgg,zK,zF,zG,h4];exact h7
end
def allP:List Prop->Prop
 | []=>True
 | [p]=>p
 |p::q::r=>p/\allP (q::r)
theorem zjc{p:Prop}{r:List Prop}:allP (p::r)↔p/\allP r:=by
 cases r<;>simp[allP]
theorem zat{a b:List Prop}:allP (a++b)↔allP a/\allP b:=by
 induction a with
 |nil=>simp[allP]
 |cons p a ih=>rw[List.cons_append,zjc,zjc,ih,and_assoc]
theorem zve{a:List Prop}:allP a↔∀p∈a,p:=by
 induction a with
 |nil=>simp[allP]
 |cons p a ih=>
  rw[zjc,ih];constructor
  .rintro ⟨h1,h2⟩ q hq;rcases List.mem_cons.1 hq with rfl|hq
   .exact h1
   .exact h2 q hq
  .exact λh=>⟨h p (zC ..),λq hq=>h q (List.mem_cons_of_mem _ hq)⟩
def inR(k:xT)(n:Int):Prop:=k.min<=n/\n<=k.max
theorem zsk{n:Int}:inR .i64 n↔ -9223372036854775808<=n/\n<=9223372036854775807:=by
 simp[inR,wN,uK,js,qx]
theorem zcn{k:xT}{n:Int}(h:inR k n):k.wrap n=n:=by
 unfold inR wN uK at h;cases k<;>simp[vY,js,qx]at h ⊢<;>omega
theorem zem(n:Int):IntKind.u8.wrap n=n%256:=by simp[vY,qx,js]
theorem ztt(n:Int):IntKind.u16.wrap n=n%65536:=by simp[vY,qx,js]
theorem zts(n:Int):IntKind.u32.wrap n=n%4294967296:=by simp[vY,qx,js]
theorem ztr(n:Int):IntKind.u64.wrap n=n%18446744073709551616:=by simp[vY,qx,js]
abbrev arS(k:xT)(op:kG)(x y:Int):Option (List Prop×Int):=
 match op with
 |.add=>some ([inR k (x+y)],x+y)
 |.sub=>some ([inR k (x-y)],x-y)
 |.mul=>some ([inR k (x*y)],x*y)
 |.quo=>some ([y≠0,inR k (x.tdiv y)],x.tdiv y)
 |.rem=>some ([y≠0],x.tmod y)
 |.or=>some ([0<=x,0<=y,x.toNat<2^(k.bits-1),y.toNat<2^(k.bits-1)],((x.toNat|||y.toNat:Nat):Int))
 |.and=>some ([0<=x,0<=y,x.toNat<2^(k.bits-1),y.toNat<2^(k.bits-1)],((x.toNat&&& y.toNat:Nat):Int))
 |_=>none
abbrev ar8(op:kG)(x y:UInt8):Option (List Prop×UInt8):=
 match op with
 |.add=>some ([],x+y)
 |.sub=>some ([],x-y)
 |.mul=>some ([],x*y)
 |.quo=>some ([y≠0],x/y)
 |.rem=>some ([y≠0],x%y)
 |.and=>some ([],x&&& y)
 |.or=>some ([],x|||y)
 |.xor=>some ([],x ^^^ y)
 |_=>none
abbrev arB(w:Nat)(op:kG)(x y:BitVec w):Option (List Prop×BitVec w):=
 match op with
 |.add=>some ([],x+y)
 |.sub=>some ([],x-y)
 |.mul=>some ([],x*y)
 |.quo=>some ([y≠0],x/y)
 |.rem=>some ([y≠0],x%y)
 |.and=>some ([],x&&& y)
 |.or=>some ([],x|||y)
 |.xor=>some ([],x ^^^ y)
 |_=>none
def arI(op:kG):(k:xT)->IntT k->IntT k->Option (List Prop×IntT k)
 |.u8,x,y=>ar8 op x y
 |.u16,x,y=>arB 16 op x y
 |.u32,x,y=>arB 32 op x y
 |.u64,x,y=>arB 64 op x y
 |.i8,x,y=>arS .i8 op x y
 |.i16,x,y=>arS .i16 op x y
 |.i32,x,y=>arS .i32 op x y
 |.i64,x,y=>arS .i64 op x y
def cmpI(op:kG)(a b:Int):Option Bool:=
 match op with
 |.eql=>some (a==b)
 |.neq=>some (a != b)
 |.lss=>some (decide (a<b))
 |.leq=>some (decide (a<=b))
 |.gtr=>some (decide (a>b))
 |.geq=>some (decide (a>=b))
 |_=>none
def shI(op:kG):(k:xT)->IntT k->Int->Option (List Prop×IntT k)
 |.u8,x,n=>match op with
  |.shl=>some ([0<=n],(yR (vE x <<< n.toNat):UInt8))
  |.shr=>some ([0<=n],(yR (vE x >>> n.toNat):UInt8))
  |_=>none
 |.u16,x,n=>shB 16 op x n
 |.u32,x,n=>shB 32 op x n
 |.u64,x,n=>shB 64 op x n
 |.i8,_,_=>none
 |.i16,_,_=>none
 |.i32,_,_=>none
 |.i64,x,n=>match op with
  |.shl=>some ([0<=n,n<=63,inR .i64 ((x:Int)*2^n.toNat)],((x:Int)*2^n.toNat:Int))
  |.shr=>some ([0<=n,n<=63],((x:Int)/2^n.toNat:Int))
  |_=>none
where
 shB (w:Nat) (op:kG) (x:BitVec w) (n:Int):Option (List Prop×BitVec w):=
  match op with
  |.shl=>some ([0<=n],x <<< n.toNat)
  |.shr=>some ([0<=n],x >>> n.toNat)
  |_=>none
def cvI:(k l:xT)->IntT k->Option (List Prop×IntT l)
 |.u8,.u8,x=>some ([],(x:UInt8))
 |.u16,.u8,x=>some ([],(yR (qw (w:=16) x):UInt8))
 |.u32,.u8,x=>some ([],(yR (qw (w:=32) x):UInt8))
 |.u64,.u8,x=>some ([],(yR (qw (w:=64) x):UInt8))
 |.i64,.u8,x=>some ([],(yR ((x:Int)%256).toNat:UInt8))
 |.u8,.u16,x=>some ([],yN 16 (vE x))
 |.u8,.u32,x=>some ([],yN 32 (vE x))
 |.u8,.u64,x=>some ([],yN 64 (vE x))
 |.u32,.u64,x=>some ([],yN 64 (qw (w:=32) x))
 |.u64,.u32,x=>some ([],yN 32 (qw (w:=64) x))
 |.u32,.u32,x=>some ([],(x:BitVec 32))
 |.u64,.u64,x=>some ([],(x:BitVec 64))
 |.i64,.u64,x=>some ([],xU 64 (x:Int))
 |.i64,.u32,x=>some ([],xU 32 (x:Int))
 |.u8,.i64,x=>some ([],((vE x:Nat):Int))
 |.u16,.i64,x=>some ([],((qw (w:=16) x:Nat):Int))
 |.u32,.i64,x=>some ([],((qw (w:=32) x:Nat):Int))
 |.u64,.i64,x=>some ([inR .i64 ((qw (w:=64) x:Nat):Int)],((qw (w:=64) x:Nat):Int))
 |.i64,.i64,x=>some ([inR .i64 (x:Int)],(x:Int))
 |_,_,_=>none
def unI(op:UnOp):(k:xT)->IntT k->Option (List Prop×IntT k)
 |.u8,x=>match op with |.xor=>some ([],(~~~ (x:UInt8):UInt8))|_=>none
 |.u16,x=>match op with |.xor=>some ([], ~~~ (x:BitVec 16))|_=>none
 |.u32,x=>match op with |.xor=>some ([], ~~~ (x:BitVec 32))|_=>none
 |.u64,x=>match op with |.xor=>some ([], ~~~ (x:BitVec 64))|_=>none
 |.i64,x=>match op with |.neg=>some ([inR .i64 (-(x:Int))],(-(x:Int):Int))|_=>none
 |_,_=>none
section
variable {P:zw}{w:zh}
def zbR(op:kG)(k:xT)(a b:Int):Sem zd:=
 match op with
 |.add|.sub|.mul=>jZ op k a b
 |.quo|.rem=>wh op k a b
 |.and|.or|.xor|.andNot=>vf op k a b
 |_=>Op.intCmp op a b
theorem zmG{op:kG}{t:zo}{k:xT}{a b:Int}(h1:op≠ .shl)(h2:op≠ .shr):qs op t (.int k a) (.int k b)=zbR op k a b:=by
 cases op<;>simp_all [qs,zbR]
theorem zy8{k:xT}{x y:Int}(h1:0<=x)(h2:0<=y)(h3:x.toNat<2^(k.bits-1))(h4:y.toNat<2^(k.bits-1)):(vf .or k x y).run P w=.ok (.int k ((x.toNat|||y.toNat:Nat):Int)) w:=by
 have h5:x.toNat|||y.toNat<2^(k.bits-1):=Nat.or_lt_two_pow h3 h4
 have hb:k.bits-1+1=k.bits:=by cases k<;>rfl
 have h6:2^(k.bits-1)<=2^k.bits:=kv o_ o_;have ex:(xU k.bits x).toNat=x.toNat:=by rw[show x=((x.toNat:Nat):Int) by omega,vF,jG,zH,jb o_]
 have ey:(xU k.bits y).toNat=y.toNat:=by rw[show y=((y.toNat:Nat):Int) by omega,vF,jG,zH,jb o_]
 have hw:k.wrap ((x.toNat|||y.toNat:Nat):Int)=((x.toNat|||y.toNat:Nat):Int):=by
  refine zcn ?_;unfold inR wN uK;cases k<;>simp[js,qx]at h5 ⊢<;>omega
 simp only[vf,zF,BitVec.toNat_or,ex,ey,hw]
theorem zyB{k:xT}{x y:Int}(h1:0<=x)(h2:0<=y)(h3:x.toNat<2^(k.bits-1))(h4:y.toNat<2^(k.bits-1)):(vf .and k x y).run P w=.ok (.int k ((x.toNat&&& y.toNat:Nat):Int)) w:=by
 have h5:x.toNat&&& y.toNat<2^(k.bits-1):=Nat.and_lt_two_pow _ h4;have hb:k.bits-1+1=k.bits:=by cases k<;>rfl
 have h6:2^(k.bits-1)<=2^k.bits:=kv o_ o_;have ex:(xU k.bits x).toNat=x.toNat:=by rw[show x=((x.toNat:Nat):Int) by omega,vF,jG,zH,jb o_]
 have ey:(xU k.bits y).toNat=y.toNat:=by rw[show y=((y.toNat:Nat):Int) by omega,vF,jG,zH,jb o_]
 have hw:k.wrap ((x.toNat&&& y.toNat:Nat):Int)=((x.toNat&&& y.toNat:Nat):Int):=by
  refine zcn ?_;unfold inR wN uK;cases k<;>simp[js,qx]at h5 ⊢<;>omega
 simp only[vf,zF,BitVec.toNat_and,ex,ey,hw]
theorem zja{k:xT}{op:kG}{x y:Int}{vc:List Prop}{z:Int}(h:arS k op x y=some (vc,z))(hv:allP vc):(zbR op k x y).run P w=.ok (.int k z) w:=by
 cases op<;>simp only[arS,qb,qG,reduceCtorEq]at h<;>obtain⟨rfl,rfl⟩:=h<;>simp only[allP]at hv
 .simp[zbR,jZ,zcn hv]
 .simp[zbR,jZ,zcn hv]
 .simp[zbR,jZ,zcn hv]
 .simp[zbR,wh,hv.1,zcn hv.2]
 .simp[zbR,wh,hv]
 .exact zyB hv.1 hv.2.1 hv.2.2.1 hv.2.2.2
 .exact zy8 hv.1 hv.2.1 hv.2.2.1 hv.2.2.2
theorem zeY(w n:Nat):xU w (n:Int)=yN w n:=by simp
theorem zAn(x y:UInt8):(xU 8 (x.toNat:Int))=x.toBitVec:=by rw[zeY, <-UInt8.toNat_toBitVec,BitVec.ofNat_toNat,BitVec.setWidth_eq]
theorem zyx{op:kG}{x y:UInt8}{vc:List Prop}{z:UInt8}(h:ar8 op x y=some (vc,z))(hv:allP vc):(zbR op .u8 (x.toNat:Int) (y.toNat:Int)).run P w=.ok (.int .u8 (z.toNat:Int)) w:=by
 have hx:=x.toNat_lt;have hy:=y.toNat_lt;have ex:=zAn x x;have ey:=zAn y y;cases op<;>simp only[ar8,qb,qG,reduceCtorEq]at h<;>obtain⟨rfl,rfl⟩:=h<;>simp only[allP]at hv
 .simp only[zbR,jZ,zF,zem,UInt8.toNat_add];congr 2
 .simp only[zbR,jZ,zF,zem,UInt8.toNat_sub];congr 2;omega
 .simp only[zbR,jZ,zF,zem,UInt8.toNat_mul];congr 2
 .have:(y.toNat:Int)≠0:=by intro e;apply hv;apply pV;simpa using e
  simp only[zbR,wh,this,if_false,zF,zem,UInt8.toNat_div]
  congr 2
  rw[vg o_];have h1:x.toNat/y.toNat<256:=fC (Nat.div_le_self _ _) hx;rw[<-gh];generalize x.toNat/y.toNat=q at *;omega
 .have:(y.toNat:Int)≠0:=by intro e;apply hv;apply pV;simpa using e
  simp only[zbR,wh,this,if_false,zF,UInt8.toNat_mod]
  congr 2
 .simp only[zbR,vf,qx,ex,ey,zF,zem]
  congr 2
  have:=(x&&& y).toNat_lt;rw[jt o_ (by have:=(x.toBitVec&&& y.toBitVec).isLt;omega)];rfl
 .simp only[zbR,vf,qx,ex,ey,zF,zem]
  congr 2
  rw[jt o_ (by have:=(x.toBitVec|||y.toBitVec).isLt;omega)];rfl
 .simp only[zbR,vf,qx,ex,ey,zF,zem]
  congr 2
  rw[jt o_ (by have:=(x.toBitVec ^^^ y.toBitVec).isLt;omega)];rfl
theorem zhj{m:Nat}(x:BitVec m):((x.toNat:Int))%(2^m:Int)=x.toNat:=by
 have:=x.isLt;rw[jt o_ (by exact_mod_cast this)]
theorem znU{k:xT}(hk:k.signed=false){op:kG}{x y:BitVec k.bits}{vc:List Prop}{z:BitVec k.bits}(h:arB k.bits op x y=some (vc,z))(hv:allP vc):
  (zbR op k (x.toNat:Int) (y.toNat:Int)).run P w=.ok (.int k (z.toNat:Int)) w:=by
 have hw:∀n,k.wrap n=n%(2^k.bits:Int):=λn=>by simp[vY,hk]
 have ex:xU k.bits (x.toNat:Int)=x:=by rw[zeY];simp
 have ey:xU k.bits (y.toNat:Int)=y:=by rw[zeY];simp
 cases op<;>simp only[arB,qb,qG,reduceCtorEq]at h<;>obtain⟨rfl,rfl⟩:=h<;>simp only[allP]at hv
 .simp only[zbR,jZ,zF,hw,BitVec.toNat_add];norm_cast
 .simp only[zbR,jZ,zF,hw,BitVec.toNat_sub]
  congr 2
  have:=y.isLt
  push_cast
  rw[Int.natCast_sub o_]
  push_cast
  rw[show((2:Int)^k.bits-(y.toNat:Int)+x.toNat)=(x.toNat-y.toNat)+(2:Int)^k.bits by omega,Int.add_emod_right]
 .simp only[zbR,jZ,zF,hw,BitVec.toNat_mul];norm_cast
 .have:(y.toNat:Int)≠0:=by intro e;apply hv;apply uw;simpa using e
  simp only[zbR,wh,this,if_false,zF,hw]
  congr 2
  rw[vg o_, <-gh, <-BitVec.toNat_udiv];exact zhj _
 .have:(y.toNat:Int)≠0:=by intro e;apply hv;apply uw;simpa using e
  simp only[zbR,wh,this,if_false,zF]
  congr 2
 .simp only[zbR,vf,ex,ey,zF,hw,zhj]
 .simp only[zbR,vf,ex,ey,zF,hw,zhj]
 .simp only[zbR,vf,ex,ey,zF,hw,zhj]
theorem zwh{op:kG}{k:xT}{x y:IntT k}{r:List Prop×IntT k}(h:arI op k x y=some r):op≠ .shl/\op≠ .shr:=by
 constructor<;>(rintro rfl;cases k<;>cases h)
theorem zyw{op:kG}{k:xT}{t:zo}{x y:IntT k}{vc:List Prop}{z:IntT k}(h:arI op k x y=some (vc,z))(hv:allP vc):
  (qs op t (.int k (encI k x)) (.int k (encI k y))).run P w=.ok (.int k (encI k z)) w:=by
 rw[zmG (zwh h).1 (zwh h).2];cases k with
 |u8=>exact zyx h hv
 |u16=>exact znU (k:=.u16) rfl h hv
 |u32=>exact znU (k:=.u32) rfl h hv
 |u64=>exact znU (k:=.u64) rfl h hv
 |i8=>exact zja h hv
 |i16=>exact zja h hv
 |i32=>exact zja h hv
 |i64=>exact zja h hv
theorem zuY{op:kG}{k:xT}{t:zo}{a b:Int}{r:Bool}(h:cmpI op a b=some r):(qs op t (.int k a) (.int k b)).run P w=.ok (.bool r) w:=by
 cases op<;>simp only[cmpI,qb,reduceCtorEq]at h<;>subst h<;>simp[qs,Op.intCmp]
theorem zqL{op:kG}{k l:xT}{t:zo}{x:IntT k}{n:Int}{vc:List Prop}{z:IntT k}(h:shI op k x n=some (vc,z))(hv:allP vc):
  (qs op t (.int k (encI k x)) (.int l n)).run P w=.ok (.int k (encI k z)) w:=by
 have key:∀(k:xT)(hk:k.signed=false)(x:BitVec k.bits)(vc:List Prop)(z:BitVec k.bits),shI.shB k.bits op x n=some (vc,z)->allP vc->
   (qs op t (.int k (x.toNat:Int)) (.int l n)).run P w=.ok (.int k (z.toNat:Int)) w:=by
  intro k hk x vc z h hv;have hw:∀n,k.wrap n=n%(2^k.bits:Int):=λn=>by simp[vY,hk]
  cases op<;>simp only[shI.shB,qb,qG,reduceCtorEq]at h<;>obtain⟨rfl,rfl⟩:=h<;>simp only[allP]at hv
  .simp only[qs,gS,wm.mpr hv,if_false,hw,zF]
   congr 2
   rw[BitVec.toNat_shiftLeft,Nat.shiftLeft_eq]
   push_cast
   rcases gC n.toNat k.bits with h1|h1
   .rw[qe h1]
   .rw[j9 h1];have e1:(2:Int)^n.toNat=2^k.bits*2^(n.toNat-k.bits):=by rw[<-Int.pow_add];congr 1;omega
    rw[e1,f7, <-Int.mul_assoc,Int.mul_comm (x.toNat:Int),Int.mul_assoc,fD]
  .simp only[qs,gS,wm.mpr hv,if_false,zF]
   congr 2
   rw[BitVec.toNat_ushiftRight,wF,kw _ (pa (pJ d_))]
   push_cast
   rcases gC n.toNat k.bits with h1|h1
   .rw[qe h1]
   .rw[j9 h1];have:=x.isLt;have e0:(x.toNat:Int)<2^k.bits:=by exact_mod_cast this
    have e1:(2:Int)^k.bits<=2^n.toNat:=by exact_mod_cast kv d_ h1
    rw[vZ o_ e0,vZ o_ o_]
 cases k with
 |u16=>exact key .u16 rfl x vc z h hv
 |u32=>exact key .u32 rfl x vc z h hv
 |u64=>exact key .u64 rfl x vc z h hv
 |u8=>
  have hx:=wn x;cases op<;>simp only[shI,qb,qG,reduceCtorEq]at h<;>obtain⟨rfl,rfl⟩:=h<;>simp only[allP]at hv
  .simp only[qs,gS,wm.mpr hv,if_false,zem,zF,encI]
   congr 2
   simp only[kS,Nat.shiftLeft_eq,qx];rw[Int.natCast_emod,Int.natCast_mul,Int.natCast_pow,show((2:Nat):Int)=2 from rfl,show((2^8:Nat):Int)=256 from rfl];rcases gC n.toNat 8 with h1|h1
   .rw[qe h1]
   .rw[j9 h1];have e1:(2:Int)^n.toNat=256*2^(n.toNat-8):=by rw[show(256:Int)=2^8 by rfl, <-Int.pow_add];congr 1;omega
    rw[e1,Int.mul_left_comm,fD,show(2:Int)^8=256 from rfl,f7]
  .simp only[qs,gS,wm.mpr hv,if_false,zF,encI]
   congr 2
   rw[kw _ (pa (pJ d_))];simp only[kS,wF,qx];have h3:vE x/2^n.toNat<256:=fC (Nat.div_le_self _ _) hx;rw[show 2^8=256 from rfl,jb h3,gh,Int.natCast_pow,show((2:Nat):Int)=2 from rfl];rcases gC n.toNat 8 with h1|h1
   .rw[qe h1]
   .rw[j9 h1];have e1:(2:Int)^8<=2^n.toNat:=by exact_mod_cast kv d_ h1
    rw[vZ o_ o_,vZ o_ o_]
 |i64=>
  cases op<;>simp only[shI,qb,qG,reduceCtorEq]at h<;>obtain⟨rfl,rfl⟩:=h<;>simp only[allP]at hv
  .have:min n.toNat pK.bits=n.toNat:=by simp only[qx];omega
   simp only[qs,gS,wm.mpr hv.1,if_false,this,encI,zcn hv.2.2,zF]
  .have:min n.toNat pK.bits=n.toNat:=by simp only[qx];omega
   simp only[qs,gS,wm.mpr hv.1,if_false,this,encI,zF];rw[kw _ (pa (pJ d_))]
 |i8=>cases h
 |i16=>cases h
 |i32=>cases h
theorem zuX{k l:xT}{x:IntT k}{vc:List Prop}{z:IntT l}(h:cvI k l x=some (vc,z))(hv:allP vc):l.wrap (encI k x)=encI l z:=by
 have bv:∀(m:Nat)(x:BitVec m)(c:Int),c=2^m->(qw x:Int)%c=x.toNat:=λm x c hc=>by rw[hc];exact zhj x
 cases k<;>cases l<;>simp only[cvI,qb,qG,reduceCtorEq]at h<;>obtain⟨rfl,rfl⟩:=h<;>simp only[allP]at hv<;>
  simp only[encI,zem,ztt,zts,ztr]<;>first
  |exact zcn hv
  |exact bv _ _ _ d_
  |(have:=wn x;rw[zcn];rw[zsk];omega)
  |(have:=BitVec.isLt (w:=16) x;rw[zcn];rw[zsk];omega)
  |(have:=BitVec.isLt (w:=32) x;rw[zcn];rw[zsk];omega)
  |(have:=wn x;omega)
  |(simp only[kS,jG,BitVec.toNat_ofInt];omega)
theorem zwp{op:UnOp}{k:xT}{x:IntT k}{vc:List Prop}{z:IntT k}(h:unI op k x=some (vc,z))(hv:allP vc):(pb op (.int k (encI k x))).run P w=.ok (.int k (encI k z)) w:=by
 have key:∀(k:xT)(hk:k.signed=false)(x:BitVec k.bits),(pb .xor (.int k (x.toNat:Int))).run P w=.ok (.int k ((~~~ x).toNat:Int)) w:=by
  intro k hk x;have ex:xU k.bits (x.toNat:Int)=x:=by rw[zeY];simp
  have em:xU k.bits k.max=BitVec.allOnes k.bits:=by cases k<;>first|rfl|cases hk
  have hw:∀n,k.wrap n=n%(2^k.bits:Int):=λn=>by simp[vY,hk]
  simp only[pb,hk,xL,if_false,vf,ex,em,zF,hw];rw[BitVec.allOnes_xor,zhj]
 cases k with
 |u8=>
  cases op<;>simp only[unI,qb,qG,reduceCtorEq]at h;obtain⟨rfl,rfl⟩:=h;exact key .u8 rfl (UInt8.toBitVec x)
 |u16=>cases op<;>simp only[unI,qb,qG,reduceCtorEq]at h;obtain⟨rfl,rfl⟩:=h;exact key .u16 rfl x
 |u32=>cases op<;>simp only[unI,qb,qG,reduceCtorEq]at h;obtain⟨rfl,rfl⟩:=h;exact key .u32 rfl x
 |u64=>cases op<;>simp only[unI,qb,qG,reduceCtorEq]at h;obtain⟨rfl,rfl⟩:=h;exact key .u64 rfl x
 |i64=>
  cases op<;>simp only[unI,qb,qG,reduceCtorEq]at h;obtain⟨rfl,rfl⟩:=h;simp only[allP]at hv;simp[pb,jZ,encI,zcn hv]
 |_=>cases op<;>cases h
end
open Classical in
noncomputable def eqb(t:Ty)(x y:t.T):Bool:=decide (x=y)
theorem zbs{t:Ty}{x y:t.T}:eqb t x y=true↔x=y:=by unfold eqb;simp
theorem zgH{t:Ty}{x y:t.T}{b:Bool}(h:b=true↔x=y):b=eqb t x y:=by
 rw[Bool.eq_iff_iff,h,zbs]
theorem zek{t:Ty}{x y:t.T}[Decidable (x=y)]:eqb t x y=decide (x=y):=by
 rw[Bool.eq_iff_iff,zbs,decide_eq_true_iff]
theorem zfz{t:Ty}(x:t.T):eqb t x x=true:=zbs.2 rfl
def Cmp(P:zw):Ty->zo ⊕ List kZ->Bool
 |.bool,_|.int _,_|.str,_=>true
 |.unit,.inl t=>!P.stoodInHeld t
 |.unit,.inr _=>true
 |.pair a b,.inl t=>!P.stoodInHeld t&&(match P.underlying t with |some (.struct fs)=>(match fs.toList with |f::r=>decide (f.name≠ "_")&&Cmp P a (.inl f.type)&&Cmp P b (.inr r)|_=>false)|_=>false)
 |.pair a b,.inr m=>(match m with |f::r=>decide (f.name≠ "_")&&Cmp P a (.inl f.type)&&Cmp P b (.inr r)|_=>false)
 |.arr _ e,.inl t=>(match P.underlying t with |some (.array _ te)=>Cmp P e (.inl te)|_=>false)
 |_,_=>false
def Ty.depth:Ty->Nat
 |.pair a b=>max a.depth b.depth+1
 |.arr _ e=>e.depth+1
 |_=>1
theorem zuQ{k:xT}{x y:IntT k}:encI k x=encI k y↔x=y:=by
 cases k<;>simp only[encI]
 .rw[uS];exact UInt8.toNat_inj
 .rw[uS];exact gi
 .rw[uS];exact gi
 .rw[uS];exact gi
section
variable {P:zw}{w:zh}{O O':Nat->Prop}
theorem znD:∀(Z:Ty)(d:Nat),Z.depth<=d->
  (∀(t:zo)(x y:Z.T)(u v:zd),Lay P Z (.inl t)->Cmp P Z (.inl t)=true->RepD w O Z x u->RepD w O' Z y v->(Op.equalIn d t u v).run P w=.ok (eqb Z x y) w)/\
  (∀(fs:List kZ)(off:Nat)(x y:Z.T)(pre x0 cs ds:List zd),Lay P Z (.inr (fs,off))->Cmp P Z (.inr fs)=true->RepC w O Z x cs->RepC w O' Z y ds->pre.length=off->x0.length=off->
    (wO d (pre++cs).toArray (x0++ds).toArray fs).run P w=.ok (eqb Z x y) w):=by
 intro Z
 induction Z with
 |bool=>
  intro d hd;obtain⟨d,rfl⟩:∃e,d=e+1:=⟨d-1,by simp[Ty.depth]at hd;omega⟩;refine⟨λt x y u v hl hc hx hy=>?_,λfs off x y pre x0 cs ds hl=>absurd hl (by simp[Lay])⟩;have h1:=(RepD.scalar rfl).1 hx;have h2:=(RepD.scalar rfl).1 hy;simp only[RepC,gJ,and_true]at h1 h2;subst h1;subst h2;rw[run_equalIn_bool' w d t _ _ hl.1]
  congr 1
  exact zgH (by simp)
 |int k=>
  intro d hd;obtain⟨d,rfl⟩:∃e,d=e+1:=⟨d-1,by simp[Ty.depth]at hd;omega⟩;refine⟨λt x y u v hl hc hx hy=>?_,λfs off x y pre x0 cs ds hl=>absurd hl (by simp[Lay])⟩;have h1:=(RepD.scalar rfl).1 hx;have h2:=(RepD.scalar rfl).1 hy;simp only[RepC,gJ,and_true]at h1 h2;subst h1;subst h2;rw[run_equalIn_int w d t _ k _ _ hl.1]
  congr 1
  exact zgH (by rw[beq_iff_eq];exact zuQ)
 |str=>
  intro d hd;obtain⟨d,rfl⟩:∃e,d=e+1:=⟨d-1,by simp[Ty.depth]at hd;omega⟩;refine⟨λt x y u v hl hc hx hy=>?_,λfs off x y pre x0 cs ds hl=>absurd hl (by simp[Lay])⟩;have h1:=((RepD.scalar rfl).1 hx).1;have h2:=((RepD.scalar rfl).1 hy).1;simp only[gJ,and_true]at h1 h2;subst h1;subst h2;rw[run_equalIn_string w d t _ _ hl.1]
  congr 1
  rw[jf,jf];exact zgH (by simp)
 |unit=>
  intro d hd;obtain⟨d,rfl⟩:∃e,d=e+1:=⟨d-1,by simp[Ty.depth]at hd;omega⟩;refine⟨λt x y u v hl hc hx hy=>?_,λfs off x y pre x0 cs ds hl hc hx hy hp hq=>?_⟩
  .obtain⟨fs,hu,hi,hf⟩:=hl;obtain⟨cs,rfl,hx⟩:=(RepD.agg rfl).1 hx;obtain⟨ds,rfl,hy⟩:=(RepD.agg rfl).1 hy;simp only[Cmp,zL]at hc;have x1:P.fieldsOf t=fs:=by simp[pz,hu]
   rw[run_equalIn_struct w d t _ _ (x1▸hu) hc,x1,hf];simp only[wO,zF]
   congr 1
   exact(zbs.2 rfl).symm
  .have:fs=[]:=hl;subst this;simp only[wO,zF]
   congr 1
   exact(zbs.2 rfl).symm
 |pair a b iha ihb=>
  have key:∀d,(Ty.pair a b).depth<=d+1->∀(fs:List kZ)(off:Nat)(x y:(Ty.pair a b).T)(pre x0 cs ds:List zd),Lay P (.pair a b) (.inr (fs,off))->Cmp P (.pair a b) (.inr fs)=true->RepC w O (.pair a b) x cs->RepC w O' (.pair a b) y ds->pre.length=off->x0.length=off->
   (wO d (pre++cs).toArray (x0++ds).toArray fs).run P w=.ok (eqb (.pair a b) x y) w:=by
   intro d hd fs off x y pre x0 cs ds hl hc hx hy hp hq;simp only[Ty.depth]at hd;obtain⟨f,r,h1,h2,h3,h4⟩:=hl;simp only at h1 h2 h4;subst h1;simp only[Cmp,zf,decide_eq_true_eq]at hc;obtain⟨c1,c2,rfl,x6,xd⟩:=hx;obtain⟨d1,d2,rfl,x7,xc⟩:=hy;have lc:=RepC.len _ _ _ x6;have ld:=RepC.len _ _ _ x7;have e1:RepC w O a x.1 (((pre++(c1++c2)).drop f.offset).take a.size):=by
    rw[h2, <-hp,vh, <-lc,ju];exact x6
   have e2:RepC w O' a y.1 (((x0++(d1++d2)).drop f.offset).take a.size):=by
    rw[h2, <-hq,vh, <-ld,ju];exact x7
   obtain⟨u1,p1,q1⟩:=h3.part e1;obtain⟨v1,p2,q2⟩:=h3.part e2;have:=(iha d o_).1 _ _ _ _ _ h3 hc.1.2 q1 q2;have i2:=(ihb d o_).2 r (off+a.size) x.2 y.2 (pre++c1) (x0++d1) c2 d2 h4 hc.2 xd xc (by simp[hp,lc]) (by simp[hq,ld]);simp only[zz]at i2;simp only[wO,ne_eq,hc.1.1,not_false_eq_true,if_true,zK,p1,p2,this,zG];cases he:eqb a x.1 y.1 with
   |true=>
    simp only[vQ,xL,if_false,i2]
    congr 1
    refine zgH ?_;rw[zbs];have:=zbs.1 he;constructor
    .intro h;exact Prod.ext this h
    .intro h;rw[h]
   |false=>
    simp only[wo,if_true,zF]
    congr 1
    refine zgH ?_;constructor
    .intro h;cases h
    .intro h;rw[h,zfz]at he;cases he
  intro d hd;obtain⟨d,rfl⟩:∃e,d=e+1:=⟨d-1,by simp[Ty.depth]at hd;omega⟩;refine⟨λt x y u v hl hc hx hy=>?_,λfs off x y pre x0 cs ds hl hc hx hy hp hq=>key (d+1) o_ fs off x y pre x0 cs ds hl hc hx hy hp hq⟩;obtain⟨fs,hu,hi,f,r,h1,h2,h3,h4⟩:=hl;obtain⟨cs,rfl,xb⟩:=(RepD.agg rfl).1 hx;obtain⟨ds,rfl,x8⟩:=(RepD.agg rfl).1 hy;simp only[Cmp,zf,zL,hu,h1]at hc;have x1:P.fieldsOf t=fs:=by simp[pz,hu]
  rw[run_equalIn_struct w d t _ _ (x1▸hu) hc.1,x1];exact key d hd fs.toList 0 x y [] [] cs ds ⟨f,r,h1,h2,h3,by simpa using h4⟩ (by simp only[Cmp,h1,zf];exact hc.2) xb x8 rfl rfl
 |arr n e ih=>
  intro d hd;obtain⟨d,rfl⟩:∃e,d=e+1:=⟨d-1,by simp[Ty.depth]at hd;omega⟩;refine⟨λt x y u v hl hc hx hy=>?_,λfs off x y pre x0 cs ds hl=>absurd hl (by simp[Lay])⟩;obtain⟨te,hu,hi,x3⟩:=hl;obtain⟨cs,rfl,xf,hx⟩:=(RepD.agg rfl).1 hx;obtain⟨ds,rfl,xe,hy⟩:=(RepD.agg rfl).1 hy;simp only[Cmp,hu]at hc;obtain⟨i,z,x2,xa,_⟩:=x3.info;have x9:P.cellsOf te=e.size:=by simp[Program.cellsOf,x2,xa]
  rw[run_equalIn_array w d _ _ hu x2,x9];have key:∀(m k:Nat),k+m=n->(Op.eqItems d te e.size cs.toArray ds.toArray (List.range' k m)).run P w=.ok (eqb (.arr m e) (List.drop k x) (List.drop k y)) w:=by
   intro m
   induction m with
   |zero=>
    intro k hk;simp only[List.range'_zero,Op.eqItems,zF]
    congr 1
    refine(zbs.2 ?_).symm;rw[gD o_,gD o_]
   |succ m ihm=>
    intro k hk;have x4:k<zi x:=o_;have x5:k<zi y:=o_;have nx:=hx.nth (λx c=>RepC.len e x c) (zI x4);have ny:=hy.nth (λx c=>RepC.len e x c) (zI x5);obtain⟨u1,p1,q1⟩:=x3.part nx;obtain⟨v1,p2,q2⟩:=x3.part ny;have he:=(ih d (by simp[Ty.depth]at hd;omega)).1 _ _ _ _ _ x3 hc q1 q2;rw[List.range'_succ];simp only[Op.eqItems,zK,p1,p2,he,zG];have dx:=qf x4;have dy:=qf x5;cases hb:eqb e (x[k]'x4) (y[k]'x5) with
    |true=>
     simp only[vQ,xL,if_false,ihm (k+1) o_]
     congr 1
     refine zgH ?_;rw[zbs,dx,dy,zbs.1 hb];constructor
     .intro h;rw[h]
     .intro h;exact(wX h).2
    |false=>
     simp only[wo,if_true,zF]
     congr 1
     refine zgH ?_;constructor
     .intro h;cases h
     .intro h;rw[dx,dy]at h;rw[(wX h).1,zfz]at hb;cases hb
  have:=key n 0 o_;rw[List.range_eq_range'];exact this
 |_=>intro d hd;exact⟨λt x y u v hl hc=>absurd hc (by simp[Cmp]),λfs off x y pre x0 cs ds hl=>absurd hl (by simp[Lay])⟩
end
abbrev Tbl:=List (zo×Ty)
def tget:List (zo×Ty)->zo->Option Ty
 | [],_=>none
 |(s,Z)::r,t=>bif yK s t then some Z else tget r t
def tis(T:Tbl)(t:zo)(Z:Ty):Bool:=
 match tget T t with
 |some Y=>Y.beq Z
 |none=>false
structure TOk(P:zw)(T:Tbl)(Q:List zo):Prop where
 lay:∀t Z,tget T t=some Z->Lay P Z (.inl t)
 cmp:∀t,Q.any (yK t)=true->P.eqGuardType P.depth t=false/\∀Z,tget T t=some Z->Cmp P Z (.inl t)=true/\Z.depth<=10000
theorem TOk.is{P:zw}{T:Tbl}{Q:List zo}(h:TOk P T Q){t:zo}{Z:Ty}(ht:tis T t Z=true):Lay P Z (.inl t):=by
 unfold tis at ht;split at ht
 .rename_i Y x0;rw[<-Ty.beq_eq ht];exact h.lay _ _ x0
 .cases ht
theorem zkg{T:Tbl}{t:zo}{Z:Ty}(ht:tis T t Z=true):tget T t=some Z:=by
 unfold tis at ht;split at ht
 .rename_i Y x0;rw[x0,Ty.beq_eq ht]
 .cases ht
def evI:(k:xT)->Int->V
 |.u8,n=>if encI .u8 (yR n.toNat)=n then ⟨.int .u8,yR n.toNat⟩ else ⟨.lit,.int .u8 n⟩
 |.u16,n=>if encI .u16 (yN 16 n.toNat)=n then ⟨.int .u16,yN 16 n.toNat⟩ else ⟨.lit,.int .u16 n⟩
 |.u32,n=>if encI .u32 (yN 32 n.toNat)=n then ⟨.int .u32,yN 32 n.toNat⟩ else ⟨.lit,.int .u32 n⟩
 |.u64,n=>if encI .u64 (yN 64 n.toNat)=n then ⟨.int .u64,yN 64 n.toNat⟩ else ⟨.lit,.int .u64 n⟩
 |.i8,n=>⟨.int .i8,n⟩
 |.i16,n=>⟨.int .i16,n⟩
 |.i32,n=>⟨.int .i32,n⟩
 |.i64,n=>⟨.int .i64,n⟩
def evC:zd->V
 |.bool b=>⟨.bool,b⟩
 |.int k n=>evI k n
 |.string s=>bif qO s.data.toList.length 1000000 then ⟨.str,s.data.toList⟩ else ⟨.lit,.string s⟩
 |v=>⟨.lit,v⟩
def evO(F:Frame):zB->V
 |.tmp s=>Frame.get F s
 |.const v=>evC v
 |.global g=>⟨.lit,.pointer (some ⟨g,0,none⟩)⟩
 |.func f=>⟨.lit,.func (.func f) #[] #[]⟩
def zaM:V->List Prop×V
 |⟨.cond t,(c,y)⟩=>([c=true],⟨t,y⟩)
 |v=>([],v)
def dat(E:Owns):V->V
 |⟨.obuf _,i⟩=>match Owns.get E i with
  |some (.buf _ t xs)=>⟨.slice t,xs⟩
  |_=>⟨.junk,()⟩
 |v=>v
def impP(c:Bool):List Prop->List Prop
 | []=>[]
 |p::r=>[c=true->allP (p::r)]
def zfE(s t:Ty):Option (PLift (s=t)):=if h:s.beq t=true then some ⟨Ty.beq_eq h⟩ else none
def zzf:(t:Ty)->V->Option t.T
 |.slice _,⟨.lit,.slice none 0 0⟩=>some []
 |_,_=>none
def zu2:(s t:Ty)->s.T->Option (PLift (s=t))->Option t.T
 |_,_,x,some ⟨rfl⟩=>some x
 |_,_,_,none=>none
def coeA:(s t:Ty)->s.T->Option (PLift (s=t))->Option t.T
 |_,_,x,some ⟨rfl⟩=>some x
 |s,t,x,none=>zzf t ⟨s,x⟩
def coe(t:Ty)(v:V):Option t.T:=
 match v with
 |⟨s,x⟩=>coeA s t x (zfE s t)
abbrev Res:=Option (List Prop×V)
def pre:List Prop->Option (List Prop×V)->Res
 | [],o=>o
 |a::A,o=>match pre A o with
  |some (p,v)=>some (a::p,v)
  |none=>none
def asI(k:xT)(o:Option (List Prop×IntT k)):Res:=
 match o with
 |some (p,z)=>some (p,⟨.int k,z⟩)
 |none=>none
def asT(t:Ty)(o:Option (List Prop×t.T)):Res:=
 match o with
 |some (p,z)=>some (p,⟨t,z⟩)
 |none=>none
def ztd(o:Option Bool):Res:=
 match o with
 |some b=>some ([],⟨.bool,b⟩)
 |none=>none
def zwn(p:List Prop)(o:Option V):Res:=
 match o with
 |some v=>some (p,v)
 |none=>none
def zAM(cb:Bool):(s t:Ty)->s.T->t.T->Option (PLift (t=s))->Res
 |s,_,x,y,some ⟨rfl⟩=>some ([],⟨s,bif cb then x else y⟩)
 |_,_,_,_,none=>none
def zrk(cb:Bool)(a b:V):Res:=
 match zaM a,zaM b with
 |(p,⟨s,x⟩),(q,⟨t,y⟩)=>pre (impP cb p) (pre (impP (!cb) q) (zAM cb s t x y (zfE t s)))
def zy6(c a b:V):Res:=
 match c with
 |⟨.bool,cb⟩=>zrk cb a b
 |⟨.cond .bool,(k,cb)⟩=>pre [k=true] (zrk cb a b)
 |_=>none
def zA9:kG->Bool
 |.eql|.neq|.lss|.leq|.gtr|.geq=>true
 |_=>false
def encS:(k:xT)->IntT k->Option Int
 |.u8,x=>some ((vE x:Nat):Int)
 |.u16,x=>some ((qw (w:=16) x:Nat):Int)
 |.u32,x=>some ((qw (w:=32) x:Nat):Int)
 |.u64,x=>some ((qw (w:=64) x:Nat):Int)
 |.i8,x=>some x
 |.i16,x=>some x
 |.i32,x=>some x
 |.i64,x=>some x
theorem ziY(k:xT)(x:IntT k):encS k x=some (encI k x):=by cases k<;>rfl
def numV:V->Option Int
 |⟨.int k,x⟩=>encS k x
 |_=>none
def kEq?(l k:xT):Option (PLift (l=k)):=if h:l=k then some ⟨h⟩ else none
def binI(op:kG):(k l:xT)->IntT k->IntT l->Option (PLift (l=k))->Res
 |k,_,x,y,some ⟨rfl⟩=>if zA9 op then(match encS k x,encS k y with |some a,some b=>ztd (cmpI op a b)|_,_=>none) else asI k (arI op k x y)
 |_,_,_,_,none=>none
noncomputable def binE(op:kG):(t s:Ty)->t.T->s.T->Option (PLift (s=t))->Res
 |t,_,x,y,some ⟨rfl⟩=>match op with
  |.eql=>some ([],⟨.bool,eqb t x y⟩)
  |.neq=>some ([],⟨.bool,!eqb t x y⟩)
  |_=>none
 |_,_,_,_,none=>none
noncomputable def binV(T:Tbl)(Q:List zo)(op:kG)(xt:zo)(a b:V):Res:=
 match a,b with
 |⟨.int k,x⟩,⟨.int l,y⟩=>
  match op with
  |.shl=>match encS l y with
   |some m=>asI k (shI .shl k x m)
   |none=>none
  |.shr=>match encS l y with
   |some m=>asI k (shI .shr k x m)
   |none=>none
  |op=>binI op k l x y (kEq? l k)
 |⟨.str,x⟩,⟨.str,y⟩=>
  match op with
  |.add=>some ([zi x+zi y<=maxLen],⟨.str,(x:List UInt8)++y⟩)
  |.eql=>some ([],⟨.bool,eqb .str x y⟩)
  |.neq=>some ([],⟨.bool,!eqb .str x y⟩)
  |.lss=>some ([],⟨.bool,gE x y⟩)
  |.leq=>some ([],⟨.bool,gE x y||eqb .str x y⟩)
  |.gtr=>some ([],⟨.bool,!(gE x y||eqb .str x y)⟩)
  |.geq=>some ([],⟨.bool,!gE x y⟩)
  |_=>none
 |⟨.bool,x⟩,⟨.bool,y⟩=>
  match op with
  |.eql=>if tis T xt .bool then some ([],⟨.bool,eqb .bool x y⟩) else none
  |.neq=>if tis T xt .bool then some ([],⟨.bool,!eqb .bool x y⟩) else none
  |_=>none
 |⟨t,x⟩,⟨s,y⟩=>if(t.isAgg&&tis T xt t&&Q.any (yK xt))=true then binE op t s x y (zfE s t) else none
def unV(op:UnOp)(a:V):Res:=
 match a with
 |⟨.bool,b⟩=>match op with |.not=>some ([],⟨.bool,!b⟩)|_=>none
 |⟨.int k,x⟩=>asI k (unI op k x)
 |_=>none
def cvV(T:Tbl)(x0 dst:zo)(a:V):Res:=
 match a,tget T dst with
 |⟨.int k,x⟩,some (.int l)=>if tis T x0 (.int k) then asI l (cvI k l x) else none
 |⟨.str,x⟩,some .str=>if tis T x0 .str then some ([],⟨.str,x⟩) else none
 |⟨.str,x⟩,some (.slice (.int .u8))=>if tis T x0 .str then some ([],⟨.slice (.int .u8),x⟩) else none
 |⟨.slice (.int .u8),x⟩,some .str=>if tis T x0 (.slice (.int .u8)) then some ([],⟨.str,x⟩) else none
 |_,_=>none
def zsj(T:Tbl)(xt:zo)(a i:V):Res:=
 match a,numV i with
 |⟨.arr n t,xs⟩,some i=>if tis T xt (.arr n t) then some ([0<=i,i<n],⟨t,vB xs i.toNat (zav t)⟩) else none
 |⟨.str,l⟩,some i=>if tis T xt .str then some ([0<=i,i<(zi l:Nat)],⟨.int .u8,vB l i.toNat 0⟩) else none
 |_,_=>none
def zfw(T:Tbl)(E:Owns)(xt:zo)(a i:V):Res:=
 match a,numV i with
 |⟨.slice t,xs⟩,some i=>if tis T xt (.slice t) then some ([0<=i,i<(zi xs:Nat)],⟨.vptr t,vB xs i.toNat (zav t)⟩) else none
 |⟨.vptr (.arr n t),xs⟩,some i=>if tis T xt (.arr n t) then some ([0<=i,i<n],⟨.vptr t,vB xs i.toNat (zav t)⟩) else none
 |⟨.optr (.arr n t),⟨o,r,p⟩⟩,some i=>if tis T xt (.arr n t) then some ([0<=i,i<n],⟨.optr t,⟨o,r,.idx p i.toNat⟩⟩) else none
 |⟨.obuf _,j⟩,some i=>
  match Owns.get E j with
  |some (.buf _ t xs)=>if tis T xt (.slice t) then some ([0<=i,i<(zi xs:Nat)],⟨.optr t,⟨j,.slice t,.elm i.toNat⟩⟩) else none
  |_=>none
 |_,_=>none
def Path.get:{r t:Ty}->Path r t->r.T->t.T
 |_,_,.here,x=>x
 |_,_,.fst p,x=>(p.get x).1
 |_,_,.snd p,x=>(p.get x).2
 |_,_,.idx (t:=t) p k,x=>vB (p.get x) k (zav t)
 |_,_,.elm (t:=t) k,x=>vB x k (zav t)
def Path.vcs:{r t:Ty}->Path r t->r.T->List Prop
 |_,_,.here,_=>[]
 |_,_,.fst p,x=>p.vcs x
 |_,_,.snd p,x=>p.vcs x
 |_,_,.idx (n:=n) p k,x=>p.vcs x++[k<n]
 |_,_,.elm k,x=>[k<zi x]
def Path.set:{r t:Ty}->Path r t->r.T->t.T->r.T
 |_,_,.here,_,y=>y
 |_,_,.fst p,x,y=>p.set x (y,(p.get x).2)
 |_,_,.snd p,x,y=>p.set x ((p.get x).1,y)
 |_,_,.idx p k,x,y=>p.set x (pc (p.get x) k y)
 |_,_,.elm k,x,y=>pc x k y
def Path.getO:{r t:Ty}->Path r t->r.T->Option t.T
 |_,_,.here,x=>some x
 |_,_,.fst p,x=>match p.getO x with
  |some z=>some z.1
  |none=>none
 |_,_,.snd p,x=>match p.getO x with
  |some z=>some z.2
  |none=>none
 |_,_,.idx (t:=t) p k,x=>match p.getO x with
  |some z=>some (vB z k (zav t))
  |none=>none
 |_,_,.elm (t:=t) k,x=>some (vB x k (zav t))
theorem Path.getO_eq:∀{r t:Ty}(p:Path r t)(x:r.T),p.getO x=some (p.get x):=by
 intro r t p
 induction p with
 |here=>intro x;rfl
 |fst p ih=>intro x;simp only[Path.getO,ih,Path.get]
 |snd p ih=>intro x;simp only[Path.getO,ih,Path.get]
 |idx p k ih=>intro x;simp only[Path.getO,ih,Path.get]
 |elm k=>intro x;rfl
def Path.setO:{r t:Ty}->Path r t->r.T->t.T->Option r.T
 |_,_,.here,_,y=>some y
 |_,_,.fst p,x,y=>match p.getO x with
  |some z=>p.setO x (y,z.2)
  |none=>none
 |_,_,.snd p,x,y=>match p.getO x with
  |some z=>p.setO x (z.1,y)
  |none=>none
 |_,_,.idx p k,x,y=>match p.getO x with
  |some z=>p.setO x (pc z k y)
  |none=>none
 |_,_,.elm k,x,y=>some (pc x k y)
theorem Path.setO_eq:∀{r t:Ty}(p:Path r t)(x:r.T)(y:t.T),p.setO x y=some (p.set x y):=by
 intro r t p
 induction p with
 |here=>intro x y;rfl
 |fst p ih=>intro x y;simp only[Path.setO,Path.getO_eq,ih,Path.set]
 |snd p ih=>intro x y;simp only[Path.setO,Path.getO_eq,ih,Path.set]
 |idx p k ih=>intro x y;simp only[Path.setO,Path.getO_eq,ih,Path.set]
 |elm k=>intro x y;rfl
def Path.isElm:{r t:Ty}->Path r t->Bool
 |_,_,.here=>false
 |_,_,.fst p=>p.isElm
 |_,_,.snd p=>p.isElm
 |_,_,.idx p _=>p.isElm
 |_,_,.elm _=>true
def Ty.noArr:Ty->Bool
 |.arr _ _=>false
 |.pair a b=>a.noArr&&b.noArr
 |_=>true
def Ty.leafy:Ty->Bool
 |.optr _|.hptr|.vptr _|.clo _ _|.mapL=>true
 |.hcons _ b=>b.leafy
 |t=>t.data&&t.noArr
def za7:(t:Ty)->t.T->List V
 |.pair a b,x=>za7 a x.1++za7 b x.2
 |.unit,_=>[]
 |.hcons a b,x=>⟨a,x.1⟩::za7 b x.2
 |t,x=>[⟨t,x⟩]
def ziJ:zd->Option (List V)
 |.agg cs=>if cs.toList.all jN then some (cs.toList.map evC) else none
 |.tuple _=>none
 |y=>some [⟨.lit,y⟩]
def zg6(E:Owns):V->Option (List V)
 |⟨.lit,y⟩=>ziJ y
 |⟨.obuf t,j⟩=>match Owns.get E j with
  |some (.buf _ _ _)=>some [⟨.obuf t,j⟩]
  |_=>none
 |⟨t,x⟩=>if t.leafy=true then some (za7 t x) else none
def unD:(t:Ty)->List V->Option (t.T×List V)
 |.pair a b,vs=>match unD a vs with
  |some (x,r)=>match unD b r with
   |some (y,r')=>some ((x,y),r')
   |none=>none
  |none=>none
 |.unit,vs=>some ((),vs)
 |.arr _ _,_=>none
 |t,v::r=>match coe t v with
  |some x=>some (x,r)
  |none=>none
 |_,[]=>none
def putH(E:Owns)(size k:Nat)(vs:List V)(v:V):Option (List V):=
 match zg6 E v with
 |some ls=>if yK ls.length size&&qO (k+size) vs.length then some (vs.take k++ls++vs.drop (k+size)) else none
 |none=>none
def OObj.v:OObj->V
 |.box t x=>⟨t,x⟩
 |.buf _ t xs=>⟨.slice t,xs⟩
 |.hbox _ _=>⟨.junk,()⟩
 |.mp _ _=>⟨.junk,()⟩
def OObj.noH:OObj->Bool
 |.box _ _=>true
 |.buf _ _ _=>true
 |.hbox _ _=>false
 |.mp _ _=>false
def ztU(r:Ty)(o:OObj):Option r.T:=
 match o.v with
 |⟨s,x⟩=>zu2 s r x (zfE s r)
def zl6(T:Tbl)(E:Owns)(t:zo)(a:V):Res:=
 match a with
 |⟨.vptr Z,x⟩=>if tis T t Z then some ([],⟨Z,x⟩) else none
 |⟨.cptr _ _ Z,x⟩=>if tis T t Z then some ([],⟨Z,x⟩) else none
 |⟨.optr Z,⟨i,r,p⟩⟩=>
  match Owns.get E i with
  |some o=>if tis T t Z&&(Path.isElm p==o.isBuf) then(match ztU r o with |some y=>(match Path.getO p y with |some z=>some (Path.vcs p y,⟨Z,z⟩)|none=>none)|none=>none) else none
  |none=>none
 |⟨.hptr,(i,k)⟩=>
  match Owns.get E i with
  |some (.hbox _ vs)=>match tget T t with
   |some Z=>if Z.isAgg=true then(match unD Z (vs.drop k) with |some (x,_)=>some ([],⟨Z,x⟩)|none=>none) else(match vs.drop k with |v::_=>if yK Z.size 1 then some ([],⟨v.t,v.x⟩) else none| []=>none)
   |none=>none
  |_=>none
 |_=>none
def znA(T:Tbl)(xt:zo)(a:V)(n:Nat):Res:=
 if tis T xt a.t then zwn [] (ziU n a.t a.x) else none
def zmt:Nat->(r Z:Ty)->Path r Z->Option ((t:Ty)×Path r t)
 |0,_,.pair a _,p=>some ⟨a,.fst p⟩
 |n+1,r,.pair _ b,p=>zmt n r b (.snd p)
 |_,_,_,_=>none
def zfy(T:Tbl)(s:zo)(a:V)(n:Nat):Res:=
 match a with
 |⟨.vptr Z,x⟩=>if tis T s Z then(match ziU n Z x with |some v=>if zM 0 v.t.size then some ([],⟨.vptr v.t,v.x⟩) else none|none=>none) else none
 |⟨.cptr _ _ Z,x⟩=>if tis T s Z then(match ziU n Z x with |some v=>if zM 0 v.t.size then some ([],⟨.vptr v.t,v.x⟩) else none|none=>none) else none
 |⟨.optr Z,⟨i,r,p⟩⟩=>if tis T s Z then(match zmt n r Z p with |some ⟨t,q⟩=>if zM 0 t.size then some ([],⟨.optr t,⟨i,r,q⟩⟩) else none|none=>none) else none
 |⟨.hptr,(i,k)⟩=>match tget T s with
  |some Z=>(match zmt n Z Z .here with |some ⟨t,q⟩=>if zM 0 t.size then some ([],⟨.hptr,(i,k+q.off)⟩) else none|none=>none)
  |none=>none
 |_=>none
def tupV:Nat->(t:Ty)->t.T->Option V
 |0,.tup a _,x=>some ⟨a,x.1⟩
 |n+1,.tup _ b,x=>tupV n b x.2
 |_,_,_=>none
def lenV(T:Tbl)(xt:zo)(a:V):Res:=
 match a with
 |⟨.str,l⟩=>if tis T xt .str then some ([],⟨.int .i64,((zi l:Nat):Int)⟩) else none
 |⟨.slice t,l⟩=>if tis T xt (.slice t) then some ([],⟨.int .i64,((zi l:Nat):Int)⟩) else none
 |⟨.arr n t,_⟩=>if tis T xt (.arr n t) then some ([],⟨.int .i64,((n:Nat):Int)⟩) else none
 |_=>none
def cutL{α:Type}(xs:List α):Option V->Option V->Option (List Prop×List α)
 |none,none=>some ([],xs)
 |some v,none=>match numV v with
  |some i=>some ([0<=i,i<=(xs.length:Nat)],xs.drop i.toNat)
  |none=>none
 |none,some v=>match numV v with
  |some j=>some ([0<=j,j<=(xs.length:Nat)],xs.take j.toNat)
  |none=>none
 |some v,some u=>match numV v,numV u with
  |some i,some j=>some ([0<=i,i<=j,j<=(xs.length:Nat)],(xs.take j.toNat).drop i.toNat)
  |_,_=>none
def zqK(T:Tbl)(xt:zo)(a:V)(lo hi:Option V):Res:=
 match a with
 |⟨.str,l⟩=>if tis T xt .str then asT .str (cutL l lo hi) else none
 |⟨.slice t,xs⟩=>if tis T xt (.slice t) then asT (.slice t) (cutL xs lo hi) else none
 |⟨.vptr (.arr n t),xs⟩=>if tis T xt (.arr n t)&&qO n 1000000000 then asT (.slice t) (cutL xs lo hi) else none
 |_=>none
def optP(F:Frame):Option zB->List Prop
 |none=>[]
 |some y=>(zaM (evO F y)).1
def zgk:Nat->(t:Ty)->t.T->V->Option t.T
 |0,.pair a _,x,v=>match coe a v with |some y=>some (y,x.2)|none=>none
 |n+1,.pair _ b,x,v=>match zgk n b x.2 v with |some y=>some (x.1,y)|none=>none
 |_,_,_,_=>none
def zkr(t:Ty):t.T->List (Nat×V)->Option t.T
 |x,[]=>some x
 |x,(i,v)::r=>(zgk i t x v).bind λy=>zkr t y r
def zgl(t:Ty):List t.T->List (Nat×V)->Option (List t.T)
 |xs,[]=>some xs
 |xs,(i,v)::r=>if zM i xs.length then(coe t v).bind λy=>zgl t (xs.set i y) r else none
def zeR:List (Nat×V)->List Prop×List (Nat×V)
 | []=>([],[])
 |(i,v)::r=>((zaM v).1++(zeR r).1,(i,(zaM v).2)::(zeR r).2)
def zs6(T:Tbl)(t:zo)(x0:List (Nat×V)):Res:=
 match tget T t with
 |some (.pair a b)=>(match zkr (.pair a b) (zav (.pair a b)) (zeR x0).2 with |some x=>some ((zeR x0).1,⟨.pair a b,x⟩)|none=>none)
 |some (.arr n e)=>(match zgl e (zr n (zav e)) (zeR x0).2 with |some x=>some ((zeR x0).1,⟨.arr n e,x⟩)|none=>none)
 |_=>none
def zcz(T:Tbl)(t:zo)(len:Nat)(x0:List (Nat×V)):Option (List Prop×(t:Ty)×List t.T):=
 match tget T t with
 |some (.slice e)=>if qO (len*e.size) 16777216&&zM 0 e.size then(match zgl e (zr len (zav e)) (zeR x0).2 with |some x=>some ((zeR x0).1,⟨e,x⟩)|none=>none) else none
 |_=>none
def minV(op:Builtin):List V->Res
 | [⟨.int .i64,x⟩,⟨.int .i64,y⟩]=>match op with
  |.min=>some ([],⟨.int .i64,min (x:Int) y⟩)
  |.max=>some ([],⟨.int .i64,max (x:Int) y⟩)
  |_=>none
 |_=>none
def cloV:List V->Option ((t:Ty)×t.T)
 | []=>some ⟨.unit,()⟩
 |⟨.vptr a,x⟩::r=>match cloV r with
  |some ⟨t,y⟩=>some ⟨.tup (.vptr a) t,(x,y)⟩
  |none=>none
 |_::_=>none
noncomputable def pOp(T:Tbl)(Q:List zo)(E:Owns)(F:Frame):Op->Res
 |.move x=>match evO F x with
  |⟨t,y⟩=>some ([],⟨t,y⟩)
 |.assign x=>match evO F x with
  |⟨t,y⟩=>some ([],⟨t,y⟩)
 |.pick c a b=>zy6 (evO F c) (evO F a) (evO F b)
 |.binOp op xt x y _=>pre ((zaM (evO F x)).1++(zaM (evO F y)).1) (binV T Q op xt (zaM (evO F x)).2 (zaM (evO F y)).2)
 |.unOp op _ x=>pre ((zaM (evO F x)).1) (unV op (zaM (evO F x)).2)
 |.convert s d x=>pre ((zaM (evO F x)).1) (cvV T s d (dat E (zaM (evO F x)).2))
 |.index xt x i=>pre ((zaM (evO F x)).1++(zaM (evO F i)).1) (zsj T xt (zaM (evO F x)).2 (zaM (evO F i)).2)
 |.indexAddr xt x i=>pre ((zaM (evO F x)).1++(zaM (evO F i)).1) (zfw T E xt (zaM (evO F x)).2 (zaM (evO F i)).2)
 |.load t x=>pre ((zaM (evO F x)).1) (zl6 T E t (zaM (evO F x)).2)
 |.field xt x n=>pre ((zaM (evO F x)).1) (znA T xt (zaM (evO F x)).2 n)
 |.fieldAddr s x n=>pre ((zaM (evO F x)).1) (zfy T s (zaM (evO F x)).2 n)
 |.extract x n=>match zaM (evO F x) with
  |(p,v)=>zwn p (tupV n v.t v.x)
 |.slice xt x lo hi none=>pre ((zaM (evO F x)).1++(optP F lo++optP F hi)) (zqK T xt (zaM (evO F x)).2 (lo.map λy=>(zaM (evO F y)).2) (hi.map λy=>(zaM (evO F y)).2))
 |.build t parts=>zs6 T t (parts.toList.map λp=>(p.1,evO F p.2))
 |.buildSlice t len parts=>match zcz T t len (parts.toList.map λp=>(p.1,evO F p.2)) with
  |some (p,⟨e,xs⟩)=>some (p,⟨.slice e,xs⟩)
  |none=>none
 |.makeFunc (.func f) first caps=>match first.toList,cloV (caps.toList.map (evO F)) with
  | [],some ⟨t,x⟩=>some ([],⟨.clo f t,x⟩)
  |_,_=>none
 |.nilCheck x=>match zaM (evO F x) with
  |(p,⟨.vptr t,y⟩)=>some (p,⟨.vptr t,y⟩)
  |(p,⟨.optr t,y⟩)=>some (p,⟨.optr t,y⟩)
  |(p,⟨.hptr,y⟩)=>some (p,⟨.hptr,y⟩)
  |_=>none
 |.call c=>match c.callee with
  |.builtin .len=>match c.args.toList,c.argTypes.toList with
   | [x],[t]=>pre ((zaM (evO F x)).1) (lenV T t (dat E (zaM (evO F x)).2))
   |_,_=>none
  |.builtin .min=>pre ((c.args.toList.map λx=>(zaM (evO F x)).1).flatten) (minV .min (c.args.toList.map λx=>(zaM (evO F x)).2))
  |.builtin .max=>pre ((c.args.toList.map λx=>(zaM (evO F x)).1).flatten) (minV .max (c.args.toList.map λx=>(zaM (evO F x)).2))
  |_=>none
 |_=>none
def Yields(P:zw)(s:Sem zd)(w:zh)(O:Nat->Prop)(U:Nat->zd)(r:V):Prop:=
 ∃u w',s.run P w=.ok u w'/\xG w.heap.size w w'/\RepV w' O U r.t r.x u
section
variable {P:zw}{w:zh}{O O':Nat->Prop}{U:Nat->zd}{T:Tbl}{Q:List zo}{E:Owns}{F:Frame}{B:Nat}{a:Act}
theorem Yields.still{s:Sem zd}{r:V}{u:zd}(h:s.run P w=.ok u w)(hr:RepV w O U r.t r.x u):Yields P s w O U r:=⟨u,w,h,zR _ _,hr⟩
theorem zbA{t:Ty}(ht:t.data=true){x:t.T}{u:zd}:RepV w O U t x u↔RepD w O t x u:=by
 cases t<;>first|exact Iff.rfl|cases ht
theorem znC(v:zd):RepV w O U (evC v).t (evC v).x v:=by
 cases v with
 |bool b=>exact rfl
 |int k n=>
  have key:∀(k:xT)(x:IntT k),RepV w O U (if encI k x=n then(⟨.int k,x⟩:V) else ⟨.lit,.int k n⟩).t (if encI k x=n then(⟨.int k,x⟩:V) else ⟨.lit,.int k n⟩).x (.int k n):=by
   intro k x;by_cases h:encI k x=n
   .rw[show(if encI k x=n then(⟨.int k,x⟩:V) else ⟨.lit,.int k n⟩)=⟨.int k,x⟩ from if_pos h];show [qc k n]=[qc k (encI k x)];rw[h]
   .rw[show(if encI k x=n then(⟨.int k,x⟩:V) else ⟨.lit,.int k n⟩)=⟨.lit,.int k n⟩ from if_neg h];exact rfl
  cases k with
  |u8=>exact key .u8 _
  |u16=>exact key .u16 _
  |u32=>exact key .u32 _
  |u64=>exact key .u64 _
  |i8=>exact(rfl: [qc .i8 n]=[qc .i8 n])
  |i16=>exact(rfl: [qc .i16 n]=[qc .i16 n])
  |i32=>exact(rfl: [qc .i32 n]=[qc .i32 n])
  |i64=>exact(rfl: [qc .i64 n]=[qc .i64 n])
 |string s=>
  simp only[evC];cases h:qO s.data.toList.length 1000000 with
  |true=>
   have:=Nat.le_of_ble_eq_true h;exact⟨by simp,zJ this (by simp[maxLen])⟩
  |false=>exact rfl
 |_=>exact rfl
theorem zsF{x:zB}(hx:∀s,x=.tmp s->RepV w O U (Frame.get F s).t (Frame.get F s).x (a.tmps.getD s undef)):RepV w O U (evO F x).t (evO F x).x (a.eval x):=by
 cases x with
 |tmp s=>exact hx s rfl
 |global g=>exact rfl
 |func f=>exact rfl
 |const v=>exact znC v
theorem zbj{v:V}{u:zd}(h:RepV w O U v.t v.x u)(hp:allP (zaM v).1):RepV w O U (zaM v).2.t (zaM v).2.x u:=by
 obtain⟨t,x⟩:=v;cases t<;>first|exact h|exact h.1 hp
theorem zle(x0:∀i o,Owns.get E i=some o->OwnRep w O U B (U i) o){v:V}{u:zd}(h:RepV w O U v.t v.x u):RepV w (λ_=>False) U (dat E v).t (dat E v).x u:=by
 have hk:Keeps w w O (λ_=>False):=⟨zj _,λ_ _ _=>rfl,λ_ _ h=>h.elim⟩;obtain⟨t,x⟩:=v;cases t with
 |obuf t=>
  have h':u=U x:=h;subst h';cases he:Owns.get E x with
  |none=>
   have e:dat E ⟨.obuf t,x⟩=⟨.junk,()⟩:=by simp only[dat,he]
   rw[e];trivial
  |some o=>
   cases o with
   |box t' x'=>
    have e:dat E ⟨.obuf t,x⟩=⟨.junk,()⟩:=by simp only[dat,he]
    rw[e];trivial
   |hbox ty vs=>
    have e:dat E ⟨.obuf t,x⟩=⟨.junk,()⟩:=by simp only[dat,he]
    rw[e];trivial
   |mp m I=>
    have e:dat E ⟨.obuf t,x⟩=⟨.junk,()⟩:=by simp only[dat,he]
    rw[e];trivial
   |buf te t' xs=>
    have e:dat E ⟨.obuf t,x⟩=⟨.slice t',xs⟩:=by simp only[dat,he]
    rw[e];exact(x0 x _ he).view (λ_ _ h=>h.elim) (λ_ _ h=>h.elim)
 |_=>exact RepV.keep hk _ _ _ h
theorem RepV.bool{b:Bool}{u:zd}(h:RepV w O U .bool b u):u=.bool b:=by
 have h': [u]=[p9 b]:=h
 simpa using h'
theorem RepV.int{k:xT}{x:IntT k}{u:zd}(h:RepV w O U (.int k) x u):u=.int k (encI k x):=by
 have h': [u]=[qc k (encI k x)]:=h
 simpa using h'
theorem RepV.str{l:List UInt8}{u:zd}(h:RepV w O U .str l u):u=.string ⟨l.toArray⟩/\l.length<=maxLen:=by
 have h':=h;exact⟨by simpa using h'.1,h'.2⟩
theorem RepV.ofBool{b:Bool}:RepV w O U .bool b (.bool b):=(rfl: [p9 b]=[p9 b])
theorem RepV.ofInt{k:xT}{x:IntT k}:RepV w O U (.int k) x (.int k (encI k x)):=(rfl: [qc k (encI k x)]=[qc k (encI k x)])
theorem RepV.ofStr{l:List UInt8}(h:l.length<=maxLen):RepV w O U .str l (.string ⟨l.toArray⟩):=(⟨rfl,h⟩: [Value.string ⟨l.toArray⟩]=[Value.string ⟨l.toArray⟩]/\l.length<=maxLen)
theorem zka{s t:Ty}{x:s.T}{e:Option (PLift (s=t))}{y:t.T}(h:zu2 s t x e=some y):(⟨s,x⟩:V)=⟨t,y⟩:=by
 cases e with
 |none=>cases h
 |some e=>obtain⟨e⟩:=e;subst e;cases h;rfl
theorem zpR{t:Ty}{v:V}{y:t.T}(h:zzf t v=some y):v=⟨.lit,.slice none 0 0⟩/\∃Z,(⟨t,y⟩:V)=⟨.slice Z,[]⟩:=by
 obtain⟨s,x⟩:=v;cases t<;>first|(cases h;done)|skip
 rename_i Z;cases s<;>first|(cases h;done)|skip
 cases x<;>first|(cases h;done)|skip
 rename_i A m c;cases A<;>first|(cases h;done)|skip
 cases m<;>first|(cases h;done)|skip
 cases c<;>first|(cases h;done)|skip
 cases h;exact⟨rfl,Z,rfl⟩
theorem zfA{t:Ty}{v:V}{y:t.T}(h:coe t v=some y):v=⟨t,y⟩\/(v=⟨.lit,.slice none 0 0⟩/\∃Z,(⟨t,y⟩:V)=⟨.slice Z,[]⟩):=by
 obtain⟨s,x⟩:=v;simp only[coe]at h;generalize zfE s t=e at h;cases e with
 |some e=>
  obtain⟨e⟩:=e;subst e;cases h;exact .inl rfl
 |none=>
  refine .inr ?_;exact zpR h
theorem zhe{t:Ty}(ht:t.data=true){v:V}{y:t.T}(h:coe t v=some y){u:zd}(hr:RepV w O U v.t v.x u):RepD w O t y u:=by
 rcases zfA h with rfl|⟨rfl,Z,he⟩
 .exact(zbA ht).1 hr
 .cases he;have:u=.slice none 0 0:=hr;subst this;exact(RepD.scalar rfl).2 ⟨_,rfl,.inl ⟨rfl,none,0,rfl,by simp⟩⟩
theorem zbu{A:List Prop}{o:Option (List Prop×V)}{r:List Prop×V}(h:pre A o=some r):∃q,o=some q/\(A++q.1,q.2)=r:=by
 induction A generalizing r with
 |nil=>exact⟨r,h,rfl⟩
 |cons a A ih=>
  simp only[pre]at h;split at h<;>first|(cases h;done)|skip
  rename_i p v hp;cases h;obtain⟨q,h1,h2⟩:=ih hp;cases h2;exact⟨q,h1,rfl⟩
theorem zgP{k:xT}{o:Option (List Prop×IntT k)}{r:List Prop×V}(h:asI k o=some r):∃q,o=some q/\(q.1,(⟨.int k,q.2⟩:V))=r:=by
 cases o with
 |none=>cases h
 |some q=>obtain⟨p,v⟩:=q;cases h;exact⟨(p,v),rfl,rfl⟩
theorem zlr{t:Ty}{o:Option (List Prop×t.T)}{r:List Prop×V}(h:asT t o=some r):∃q,o=some q/\(q.1,(⟨t,q.2⟩:V))=r:=by
 cases o with
 |none=>cases h
 |some q=>obtain⟨p,v⟩:=q;cases h;exact⟨(p,v),rfl,rfl⟩
theorem zmJ{o:Option Bool}{r:List Prop×V}(h:ztd o=some r):∃b,o=some b/\(([]:List Prop),(⟨.bool,b⟩:V))=r:=by
 cases o with
 |none=>cases h
 |some b=>cases h;exact⟨b,rfl,rfl⟩
theorem zjH{p:List Prop}{o:Option V}{r:List Prop×V}(h:zwn p o=some r):∃v,o=some v/\(p,v)=r:=by
 cases o with
 |none=>cases h
 |some b=>cases h;exact⟨b,rfl,rfl⟩
theorem zcK{v:V}{i:Int}(h:numV v=some i){u:zd}(hr:RepV w O U v.t v.x u):∃k,u=.int k i:=by
 obtain⟨t,x⟩:=v;cases t<;>simp only[numV,reduceCtorEq]at h;rw[ziY]at h;cases h;exact⟨_,RepV.int hr⟩
theorem zjb{c:Bool}{l:List Prop}(h:allP (impP c l))(hc:c=true):allP l:=by
 cases l with
 |nil=>trivial
 |cons p r=>exact h hc
theorem zlX{cb:Bool}{va vb:V}{r:List Prop×V}(h:zrk cb va vb=some r)(hp:allP r.1){ua ub:zd}
  (ha:RepV w O U va.t va.x ua) (hb:RepV w O U vb.t vb.x ub):RepV w O U r.2.t r.2.x (if cb then ua else ub):=by
 unfold zrk at h;have h1:∀p a',zaM va=(p,a')->allP (impP cb p)->(cb=true->RepV w O U a'.t a'.x ua):=λp a' he hi x0=>by
  have:=zbj ha (by rw[he];exact zjb hi x0);rwa[he]at this
 have h2:∀p b',zaM vb=(p,b')->allP (impP (!cb) p)->(cb=false->RepV w O U b'.t b'.x ub):=λp b' he hi x0=>by
  have:=zbj hb (by rw[he];exact zjb hi (by simp[x0]));rwa[he]at this
 generalize hx:zaM va=sa at h;generalize hy:zaM vb=sb at h;obtain⟨p,s,x⟩:=sa;obtain⟨q,t,y⟩:=sb;obtain⟨r1,g1,rfl⟩:=zbu h;obtain⟨r2,g2,rfl⟩:=zbu g1;simp only[zat]at hp;generalize zfE t s=e at g2;cases e with
 |none=>cases g2
 |some e=>
  obtain⟨e⟩:=e;subst e;cases g2;cases x0:cb with
  |true=>exact h1 _ _ hx hp.1 x0
  |false=>exact h2 _ _ hy hp.2.1 x0
theorem zrj{c va vb:V}{r:List Prop×V}(h:zy6 c va vb=some r)(hp:allP r.1){uc ua ub:zd}(hc:RepV w O U c.t c.x uc)
  (ha:RepV w O U va.t va.x ua) (hb:RepV w O U vb.t vb.x ub):
  ∃b:Bool,uc=.bool b/\RepV w O U r.2.t r.2.x (if b then ua else ub):=by
 obtain⟨tc,cb⟩:=c;cases tc with
 |bool=>exact⟨cb,RepV.bool hc,zlX h hp ha hb⟩
 |cond t=>
  cases t with
  |bool=>
   obtain⟨k,cb⟩:=cb;obtain⟨r1,g1,rfl⟩:=zbu (A:=[k=true]) (o:=zrk cb va vb) h;simp only[zat]at hp;exact⟨cb,RepV.bool (hc.1 hp.1),zlX g1 hp.2 ha hb⟩
  |_=>cases h
 |_=>cases h
theorem zlb{op:kG}{t:zo}{x y:zB}{u v:zd}(h1:∀cs,u≠ .agg cs)(h2:u≠ .nilIface):(eqGuard op t x y u v).run P w=.ok () w:=by
 unfold eqGuard;cases op<;>simp only[wo,vQ,if_true,xL,if_false]<;>first
  |rfl
  |(cases u<;>first|rfl|exact absurd rfl (h1 _)|exact absurd rfl h2)
theorem zbC{op:kG}{t:zo}{x y:zB}{u v z:zd}(h1:∀cs,u≠ .agg cs)(h2:u≠ .nilIface)(h:(qs op t u v).run P w=.ok z w):
  (do eqGuard op t x y u v;qs op t u v:Sem zd).run P w=.ok z w:=by
 rw[zK,zlb h1 h2];exact h
theorem zfj(x y:List UInt8):((⟨x.toArray⟩:ByteArray).toList==(⟨y.toArray⟩:ByteArray).toList)=eqb .str x y:=by
 rw[jf,jf];exact zgH (t:=.str) (by simp)
theorem zd7(x:List UInt8):(⟨x.toArray⟩:ByteArray).toList=x:=by rw[jf]
theorem znR(hT:TOk P T Q){op:kG}{xt:zo}{x y:zB}{va vb:V}{r:List Prop×V}(h:binV T Q op xt va vb=some r)(hp:allP r.1){ua ub:zd}
  (ha:RepV w O U va.t va.x ua) (hb:RepV w O U vb.t vb.x ub):Yields P (do eqGuard op xt x y ua ub;qs op xt ua ub) w O U r.2:=by
 have agg:∀(t s:Ty)(xa:t.T)(xb:s.T),RepV w O U t xa ua->RepV w O U s xb ub->(h0:(t.isAgg&&tis T xt t&&Q.any (yK xt))=true)->
   ∀(he:s=t),(op=.eql->Yields P (do eqGuard op xt x y ua ub;qs op xt ua ub) w O U ⟨.bool,eqb t xa (he▸xb)⟩)/\
    (op=.neq->Yields P (do eqGuard op xt x y ua ub;qs op xt ua ub) w O U ⟨.bool,!eqb t xa (he▸xb)⟩):=by
  intro t s xa xb ha hb h0 he;subst he;simp only[zf]at h0;obtain⟨⟨h1,h3⟩,h4⟩:=h0;have hl:=hT.is h3;obtain⟨hg,hc⟩:=hT.cmp _ h4;obtain⟨hc,hd⟩:=hc _ (zkg h3);have x4:=(zbA hl.data).1 ha;have x3:=(zbA hl.data).1 hb;have x2:=((znD (P:=P) (w:=w) (O:=O) (O':=O) s 10000 hd).1 xt xa xb ua ub hl hc x4 x3);obtain⟨cs,rfl,_⟩:=(RepD.agg h1).1 x4;obtain⟨ds,rfl,_⟩:=(RepD.agg h1).1 x3;constructor
  .rintro rfl;refine .still (u:=.bool (eqb s xa xb)) ?_ RepV.ofBool;rw[zK,run_eqGuard_agg _ _ _ _ _ _ _ hg,zG];simp only[qs,hU,pM,zK,x2,zG,zF]
  .rintro rfl;refine .still (u:=.bool (!eqb s xa xb)) ?_ RepV.ofBool;rw[zK,run_eqGuard_agg _ _ _ _ _ _ _ hg,zG];simp only[qs,hU,pM,zK,x2,zG,zF]
 obtain⟨ta,xa⟩:=va;obtain⟨tb,xb⟩:=vb;unfold binV at h;split at h
 .rename_i k xa l xb x0 x1;obtain⟨rfl,x0⟩:=V.mk.inj x0;obtain⟨rfl,x1⟩:=V.mk.inj x1;cases x0;cases x1;have eu:=RepV.int ha;have ev:=RepV.int hb;subst eu;subst ev;split at h
  .rw[ziY]at h;obtain⟨q,h1,rfl⟩:=zgP h;exact .still (zbC (by simp) (by simp) (zqL (vc:=q.1) (z:=q.2) h1 hp)) RepV.ofInt
  .rw[ziY]at h;obtain⟨q,h1,rfl⟩:=zgP h;exact .still (zbC (by simp) (by simp) (zqL (vc:=q.1) (z:=q.2) h1 hp)) RepV.ofInt
  .generalize kEq? l k=e at h;cases e with
   |none=>cases h
   |some e=>
    obtain⟨e⟩:=e;subst e;simp only[binI]at h;split at h
    .rw[ziY,ziY]at h;obtain⟨q,h1,rfl⟩:=zmJ h;exact .still (zbC (by simp) (by simp) (zuY h1)) RepV.ofBool
    .obtain⟨q,h1,rfl⟩:=zgP h;exact .still (zbC (by simp) (by simp) (zyw (vc:=q.1) (z:=q.2) h1 hp)) RepV.ofInt
 .rename_i xa xb x0 x1;obtain⟨rfl,x0⟩:=V.mk.inj x0;obtain⟨rfl,x1⟩:=V.mk.inj x1;cases x0;cases x1;obtain⟨eu,_⟩:=RepV.str ha;obtain⟨ev,_⟩:=RepV.str hb;subst eu;subst ev;split at h<;>first|(cases h;done)|(cases h)
  .have x5:zi xa+zi xb<=maxLen:=hp;refine .still (zbC (by simp) (by simp) (?_:_=Result.ok (.string ⟨(xa++xb:List UInt8).toArray⟩) w)) (RepV.ofStr (by simpa using x5));have hs:∀l:List UInt8,(⟨l.toArray⟩:ByteArray).size=l.length:=λl=>by simp[vj]
   have:¬(((zi xa+zi xb:Nat):Int)>pK.max):=by
    simp only[maxLen,uK,js,qx]at *;simp;omega
   simp only[qs,ud,hs,this,if_false,zF]
   congr 2
  .exact .still (zbC (by simp) (by simp) (by simp only[qs,ud,zfj,zF])) RepV.ofBool
  .exact .still (zbC (by simp) (by simp) (by simp only[qs,ud,zfj,zF])) RepV.ofBool
  .exact .still (zbC (by simp) (by simp) (by simp only[qs,ud,zd7,zF])) RepV.ofBool
  .exact .still (zbC (by simp) (by simp) (by simp only[qs,ud,zfj,zF];simp only[zd7])) RepV.ofBool
  .exact .still (zbC (by simp) (by simp) (by simp only[qs,ud,zfj,zF];simp only[zd7])) RepV.ofBool
  .exact .still (zbC (by simp) (by simp) (by simp only[qs,ud,zd7,zF])) RepV.ofBool
 .rename_i xa xb x0 x1;obtain⟨rfl,x0⟩:=V.mk.inj x0;obtain⟨rfl,x1⟩:=V.mk.inj x1;cases x0;cases x1;have eu:=RepV.bool ha;have ev:=RepV.bool hb;subst eu;subst ev;have hq:tis T xt .bool=true->(hU xt (.bool xa) (.bool xb)).run P w=.ok (eqb .bool xa xb) w:=λht=>by
   have:=run_equalIn_bool' w 9999 xt xa xb (hT.is ht).1;simp only[hU,pM];rw[this]
   congr 1
   exact zgH (t:=.bool) (by simp)
  split at h
  .split at h
   .rename_i ht;cases h;refine .still (zbC (by simp) (by simp) ?_) RepV.ofBool;simp only[qs,zK,hq ht,zG,zF]
   .cases h
  .split at h
   .rename_i ht;cases h;refine .still (zbC (by simp) (by simp) ?_) RepV.ofBool;simp only[qs,zK,hq ht,zG,zF]
   .cases h
  .cases h
 .rename_i t xa s xb x7 x6 x8 x0 x1;obtain⟨rfl,x0⟩:=V.mk.inj x0;obtain⟨rfl,x1⟩:=V.mk.inj x1;cases x0;cases x1;split at h
  .rename_i h0;generalize zfE tb ta=e at h;cases e with
   |none=>cases h
   |some e=>
    obtain⟨e⟩:=e;subst e;have:=agg _ _ _ _ ha hb h0 rfl;simp only[binE]at h;split at h
    .cases h;exact this.1 rfl
    .cases h;exact this.2 rfl
    .cases h
  .cases h
theorem zpp{op:UnOp}{va:V}{r:List Prop×V}(h:unV op va=some r)(hp:allP r.1){ua:zd}(ha:RepV w O U va.t va.x ua):Yields P (pb op ua) w O U r.2:=by
 obtain⟨ta,xa⟩:=va;cases ta<;>simp only[unV,reduceCtorEq]at h
 .have:=RepV.bool ha;subst this;cases op<;>simp only[reduceCtorEq]at h;cases h;exact .still rfl RepV.ofBool
 .have:=RepV.int ha;subst this;obtain⟨q,h1,rfl⟩:=zgP h;exact .still (zwp (vc:=q.1) (z:=q.2) h1 hp) RepV.ofInt
end
section
variable {P:zw}{w:zh}{O O':Nat->Prop}{U:Nat->zd}{T:Tbl}{Q:List zo}{E:Owns}{F:Frame}{B:Nat}{a:Act}
theorem Keeps.of_false:Keeps w w O (λ_=>False):=⟨zj _,λ_ _ _=>rfl,λ_ _ h=>h.elim⟩
theorem zgZ{xs:List UInt8}{vs:List zd}(h:RepL (RepC w O (.int .u8)) xs vs):vs=xs.map λb=>.int .u8 (b.toNat:Int):=by
 induction xs generalizing vs with
 |nil=>cases h;rfl
 |cons x xs ih=>
  obtain⟨c1,c2,rfl,h2,h3⟩:=h;rw[ih h3];cases h2;rfl
theorem zhs(xs:List UInt8):RepL (RepC w O (.int .u8)) xs (xs.map λb=>.int .u8 (b.toNat:Int)):=by
 induction xs with
 |nil=>rfl
 |cons x xs ih=>exact⟨[_],_,rfl,rfl,ih⟩
theorem RepV.slice{t:Ty}{xs:List t.T}{u:zd}(h:RepV w O U (.slice t) xs u):RepS w O (RepC w O t) xs u:=by
 obtain⟨v,hv,h'⟩:=((RepD.scalar rfl).1 h:RepC w O (.slice t) xs [u]);cases hv;exact h'
theorem RepV.ofSlice{t:Ty}{xs:List t.T}{u:zd}(h:RepS w O (RepC w O t) xs u):RepV w O U (.slice t) xs u:=
 ((RepD.scalar rfl).2 ⟨u,rfl,h⟩:RepD w O (.slice t) xs u)
theorem RepS.nlen{α:Type}{R:α->List zd->Prop}{xs:List α}{u:zd}(h:RepS w O R xs u):∃A c,u=.slice A xs.length c/\xs.length<=c/\c<=maxLen:=by
 rcases h with ⟨rfl,A,c,rfl,h⟩|⟨g,off,c,vs,rfl,_,h1,h2,_⟩
 .exact⟨A,c,rfl,zk _,h⟩
 .exact⟨_,c,rfl,h1,h2⟩
theorem zbg(w:zh)(o:Obj):xG w.heap.size w (w.alloc o):=(zR _ _).alloc (zj _) _
theorem zog{t:Ty}{xs:List t.T}{vs:List zd}(hO:∀g,O g->g<w.heap.size)(h:RepL (RepC w O t) xs vs){cap:Nat}(hc:xs.length<=cap)(hm:cap<=maxLen){cells:Array zd}{te:zo}{fz:Nat×Nat}
  {w':zh} (hk:xG w.heap.size w w') (x0:w'.heap[w.heap.size]? =some (.cells cells te fz)) (x1:∀(j:Nat)(u:zd),vs[j]? =some u->cells[j]? =some u):
  RepS w' O (RepC w' O t) xs (.slice (some ⟨w.heap.size,0,none⟩) xs.length cap):=by
 by_cases hx:xs=[]
 .subst hx;exact .inl ⟨rfl,_,cap,rfl,hm⟩
 .refine .inr ⟨w.heap.size,0,cap,vs,rfl,hx,hc,hm,(zl.1 x0).1,λh=>Nat.lt_irrefl _ (hO _ h),h.mono λx _ c=>RepC.keep (.of_below hk λ_ _ h=>h) _ _ _,λj u hu=>?_⟩;rw[yL];unfold qi;rw[x0];simp only[jk,xL,if_false];exact x1 j u hu
def byteCells(l:List UInt8):List zd:=l.map λb=>.int .u8 (b.toNat:Int)
theorem zmI(w:zh)(o:Obj)(k n:Nat):xG w.heap.size w ((w.alloc o).freeze ⟨w.heap.size,k,none⟩ n):=by
 unfold vG;split
 .exact zbg w o
 .refine⟨rfl,rfl,rfl,?_,λg hg=>?_⟩
  .
   simp
  show(Array.modify (w.heap.push o) _ _)[g]? =_;simp only[jB];rw[if_neg o_,Array.getElem?_push,if_neg o_]
theorem zp9(w:zh)(cs:Array zd)(e:zo)(fz:Nat×Nat)(k n:Nat):∃fz',((w.alloc (.cells cs e fz)).freeze ⟨w.heap.size,k,none⟩ n).heap[w.heap.size]? =some (.cells cs e fz'):=by
 unfold vG;split
 .exact⟨fz,heap_alloc_new w _⟩
 .simp only[World.alloc,jB,if_true];rw[show(w.heap.push (pA cs e fz))[w.heap.size]? =some (pA cs e fz) by simp];exact⟨_,rfl⟩
theorem zgV(e:zo)(l:List UInt8)(w:zh):
  ∃cap w',(fE e ⟨l.toArray⟩).run P w=.ok (.slice (some ⟨w.heap.size,0,none⟩) l.length cap) w'/\l.length<=cap/\(l.length<=maxLen->cap<=maxLen)/\xG w.heap.size w w'/\
   ∃fz,w'.heap[w.heap.size]? =some (.cells ((byteCells l).toArray++zD (cap-l.length) (qc .u8 0)) e fz):=by
 have hs:(⟨l.toArray⟩:ByteArray).size=l.length:=by simp[vj]
 have x1:((⟨l.toArray⟩:ByteArray).data.map λb=>qc .u8 (b.toNat:Int))=(byteCells l).toArray:=by simp[byteCells]
 generalize x0:(Question.appendCap l.length 0 e).cut (w.tape w.drawn (.appendCap l.length 0 e))=cap;have h1:l.length<=cap:=by rw[<-x0];simp only[bo];omega
 have h2:l.length<=maxLen->cap<=maxLen:=λhm=>by
  rw[<-x0];simp only[bo,maxLen]at *;have:=Nat.mod_lt (w.tape w.drawn (.appendCap l.length 0 e)) (show 0<2^63-l.length by omega);omega
 have hb:xG w.heap.size w w.drew:=(zR _ _).drew;refine⟨cap,(w.drew.alloc (.cells ((byteCells l).toArray++zD (cap-l.length) (qc .u8 0)) e)).freeze ⟨w.drew.heap.size,((byteCells l).toArray++zD (cap-l.length) (qc .u8 0)).size,none⟩ 1,?_,h1,h2,hb.trans (zmI w.drew _ _ _),zp9 w.drew _ _ _ _ _⟩;have x2:(w.drew.alloc (.cells ((byteCells l).toArray++zD (cap-l.length) (qc .u8 0)) e)).shape? w.drew.heap.size=some (e,((byteCells l).toArray++zD (cap-l.length) (qc .u8 0)).size):=by
  simp only[gB,heap_alloc_new]
 unfold fE;rw[hs];simp only[zK,run_choose_drew,Question.forced,xL,if_false,zG,x0,newRow,newObj,Sem.run,zF,markStringish,x1];rw[show({ w.drew with heap:=w.drew.heap.push (pA ((byteCells l).toArray++zD (cap-l.length) (qc .u8 0)) e) }:zh)=w.drew.alloc (pA ((byteCells l).toArray++zD (cap-l.length) (qc .u8 0)) e) from rfl];simp only[run_shape,x2,zG,run_freeze];rfl
theorem zqc(hT:TOk P T Q)(hO:∀g,O g->g<w.heap.size){x3 dst:zo}{va:V}{r:List Prop×V}(h:cvV T x3 dst va=some r)(hp:allP r.1){ua:zd}(ha:RepV w (λ_=>False) U va.t va.x ua):
  Yields P (fG x3 dst ua) w O U r.2:=by
 obtain⟨ta,xa⟩:=va;unfold cvV at h;split at h
 .rename_i k x l hv ht;obtain⟨rfl,hv⟩:=V.mk.inj hv;cases hv;split at h
  .rename_i hs;obtain⟨q,h1,rfl⟩:=zgP h;have:=RepV.int ha;subst this;have x0:=(hT.is hs).1;have x1:=(hT.lay _ _ ht).1;refine .still (u:=.int l (encI l q.2)) ?_ RepV.ofInt;unfold fG;simp only[zK,run_underlying x0,run_underlying x1,zG,Conv.intToInt,zF];rw[zuX (vc:=q.1) (z:=q.2) h1 hp]
  .cases h
 .rename_i x hv ht;obtain⟨rfl,hv⟩:=V.mk.inj hv;cases hv;split at h
  .rename_i hs;cases h;obtain⟨e,hl⟩:=RepV.str ha;subst e;have x0:=(hT.is hs).1;have x1:=(hT.lay _ _ ht).1;refine .still ?_ (RepV.ofStr hl);unfold fG;simp only[zK,run_underlying x0,run_underlying x1,zG,zF]
  .cases h
 .rename_i x hv ht;obtain⟨rfl,hv⟩:=V.mk.inj hv;cases hv;split at h
  .rename_i hs;cases h;obtain⟨e,hl⟩:=RepV.str ha;subst e;have x0:=(hT.is hs).1;obtain⟨te,x1,_,x2⟩:=hT.lay _ _ ht;obtain⟨cap,w',h1,h2,h3,h4,fz,h5⟩:=zgV (P:=P) te x w;refine⟨_,w',?_,h4,RepV.ofSlice (zog hO (zhs x) h2 (h3 hl) h4 h5 λj u hj=>?_)⟩
   .unfold fG;simp only[zK,run_underlying x0,run_underlying x1,zG,run_underlying x2.1,h1]
   .rw[Array.getElem?_append_left]
    .simpa [byteCells] using hj
    .have:=(yI.1 hj).1
     simpa [byteCells] using this
  .cases h
 .rename_i x hv ht;obtain⟨rfl,hv⟩:=V.mk.inj hv;cases hv;split at h
  .rename_i hs;cases h;have x4:=RepV.slice ha;obtain⟨te,x0,_,x2⟩:=hT.is hs;have x1:=(hT.lay _ _ ht).1;rcases x4 with ⟨rfl,A,c,rfl,hc⟩|⟨g,off,c,vs,rfl,hx,h1,h2,h3,_,h5,h6⟩
   .refine .still (u:=.string ⟨#[]⟩) ?_ (RepV.ofStr (l:=[]) (by simp));cases A with
    |none=>exact run_convert_bytes_nil (P:=P) w x3 te x0 x2.1 0 c dst x1
    |some A=>
     have:=run_convert_bytes_back (P:=P) w x3 dst te A c [] x0 x2.1 x1 (λj hj=>by simp at hj);exact this
   .have hvs:=zgZ h5;subst hvs;refine .still (run_convert_bytes_back (P:=P) w x3 dst te ⟨g,off,none⟩ c x x0 x2.1 x1 λj hj=>?_) (RepV.ofStr (zJ h1 h2));rw[xF];exact h6 j _ (by simp[hj])
  .cases h
 .cases h
theorem zdQ(k:xT)(n:Int):(asIntOf (.int k n)).run P w=.ok (k,n) w:=rfl
theorem znT{n i:Nat}{t:Ty}{xs:List t.T}{cs:List zd}(h:RepC w O (.arr n t) xs cs)(hi:i<n):
  RepC w O t (xs.getD i (zav t)) ((cs.drop (i*t.size)).take t.size):=by
 obtain⟨h1,h2⟩:=h;have x0:i<xs.length:=by have x1:xs.length=n:=h1;omega
 refine h2.nth (λx c=>RepC.len t x c) ?_;simp[vB,zI x0]
theorem zkY(hT:TOk P T Q){xt:zo}{va vi:V}{r:List Prop×V}(h:zsj T xt va vi=some r)(hp:allP r.1){ua ui:zd}(ha:RepV w O U va.t va.x ua)(hi:RepV w O U vi.t vi.x ui):
  Yields P (pN xt ua ui) w O U r.2:=by
 obtain⟨ta,xa⟩:=va;unfold zsj at h;split at h
 .rename_i n t xs i hv x1;obtain⟨rfl,hv⟩:=V.mk.inj hv;cases hv;obtain⟨k,rfl⟩:=zcK x1 hi;split at h
  .rename_i hs;cases h;obtain⟨te,hu,_,x0⟩:=hT.is hs;obtain⟨cs,rfl,hc⟩:=(RepD.agg rfl).1 ha;obtain⟨h0,h1⟩:=hp;have h1:i<(n:Int):=h1;obtain⟨u,h2,h3⟩:=x0.part (znT hc (i:=i.toNat) o_);refine .still (u:=u) ?_ ((zbA x0.data).2 h3);unfold pN;simp only[zK,zdQ,zG,run_underlying hu,h0,h1,and_self,if_true,x0.sizeOf,h2]
  .cases h
 .rename_i l i hv x1;obtain⟨rfl,hv⟩:=V.mk.inj hv;cases hv;obtain⟨k,rfl⟩:=zcK x1 hi;split at h
  .rename_i hs;cases h;have hu:=(hT.is hs).1;obtain⟨e,hl⟩:=RepV.str ha;subst e;obtain⟨h0,h1⟩:=hp;have h1:i<(zi l:Nat):=h1;have x2:i.toNat<zi l:=o_;refine .still (u:=.int .u8 ((vB l i.toNat 0).toNat:Int)) ?_ (RepV.ofInt (k:=.u8));unfold pN;have hget:(⟨xQ l⟩:ByteArray)[i.toNat]? =some (vB l i.toNat 0):=by
    have x3:i.toNat<(⟨xQ l⟩:ByteArray).size:=by simpa [vj] using x2
    rw[getElem?_pos (⟨xQ l⟩:ByteArray) i.toNat x3];simp[vB,zI x2];rfl
   simp only[zK,zdQ,zG,run_underlying hu,h0,if_true,hget,zF]
  .cases h
 .cases h
end
section
variable {P:zw}{w:zh}{O O':Nat->Prop}{U:Nat->zd}{T:Tbl}{Q:List zo}{E:Owns}{F:Frame}{B:Nat}{a:Act}
theorem zlL{t:Ty}{i:Nat}{xs:List t.T}{vs:List zd}(h:RepL (RepC w O t) xs vs)(hi:i<xs.length):RepC w O t (xs.getD i (zav t)) ((vs.drop (i*t.size)).take t.size):=by
 refine h.nth (λx c=>RepC.len t x c) ?_;simp[vB,zI hi]
theorem zcN{xt te:zo}{s:Nat}(hu:P.underlying xt=some (.slice te))(hs:(vA te).run P w=.ok s w){A:Addr}{n c:Nat}{k:xT}{i:Int}(h0:0<=i)(h1:i<n):
  (kh xt (.slice (some A) n c) (.int k i)).run P w=.ok (.pointer (some (A.add (i.toNat*s)))) w:=by
 unfold kh;simp[zK,zdQ,run_underlying hu,hs,h0,h1]
theorem zf6{xt te:zo}{n s:Nat}(hu:P.underlying xt=some (.array n te))(hs:(vA te).run P w=.ok s w){A:Addr}{k:xT}{i:Int}(h0:0<=i)(h1:i<n):
  (kh xt (.pointer (some A)) (.int k i)).run P w=.ok (.pointer (some (A.add (i.toNat*s)))) w:=by
 unfold kh;simp[zK,zdQ,run_underlying hu,hs,h0,h1,qA]
theorem zg8(hT:TOk P T Q)(x2:∀i o,Owns.get E i=some o->OwnRep w O U B (U i) o){xt:zo}{va vi:V}{r:List Prop×V}(h:zfw T E xt va vi=some r)(hp:allP r.1){ua ui:zd}
  (ha:RepV w O U va.t va.x ua) (hi:RepV w O U vi.t vi.x ui):Yields P (kh xt ua ui) w O U r.2:=by
 obtain⟨ta,xa⟩:=va;unfold zfw at h;split at h
 .rename_i t xs i hv x1;obtain⟨rfl,hv⟩:=V.mk.inj hv;cases hv;obtain⟨k,rfl⟩:=zcK x1 hi;split at h
  .rename_i hs;cases h;obtain⟨h0,h1⟩:=hp;have h1:i<(zi xs:Nat):=h1;have x3:i.toNat<zi xs:=o_;obtain⟨te,hu,_,x0⟩:=hT.is hs;rcases RepV.slice ha with ⟨rfl,_⟩|⟨g,off,c,vs,rfl,_,_,_,h5,h6,h7,h8⟩
   .simp at x3
   .refine .still (zcN hu x0.sizeOf h0 h1) ⟨g,off+i.toNat*t.size,_,by rw[xF],h5,h6,zlL h7 x3,(h8.drop _).take _⟩
  .cases h
 .rename_i n t xs i hv x1;obtain⟨rfl,hv⟩:=V.mk.inj hv;cases hv;obtain⟨k,rfl⟩:=zcK x1 hi;split at h
  .rename_i hs;cases h;obtain⟨h0,h1⟩:=hp;have h1:i<(n:Int):=h1;obtain⟨te,hu,_,x0⟩:=hT.is hs;obtain⟨g,off,cs,rfl,h5,h6,h7,h8⟩:=ha;exact .still (zf6 hu x0.sizeOf h0 h1) ⟨g,off+i.toNat*t.size,_,by rw[xF],h5,h6,znT h7 o_,(h8.drop _).take _⟩
  .cases h
 .rename_i n t o rt p i hv x1;obtain⟨rfl,hv⟩:=V.mk.inj hv;cases hv;obtain⟨k,rfl⟩:=zcK x1 hi;split at h
  .rename_i hs;cases h;obtain⟨h0,h1⟩:=hp;have h1:i<(n:Int):=h1;obtain⟨te,hu,_,x0⟩:=hT.is hs;obtain⟨g,h2,rfl⟩:=ha;exact .still (zf6 hu x0.sizeOf h0 h1) ⟨g,h2,by rw[xF];rfl⟩
  .cases h
 .rename_i t' j i hv x1;obtain⟨rfl,hv⟩:=V.mk.inj hv;cases hv;obtain⟨k,rfl⟩:=zcK x1 hi;split at h
  .rename_i x5 t xs he;split at h
   .rename_i hs;cases h;obtain⟨h0,h1⟩:=hp;have h1:i<(zi xs:Nat):=h1;obtain⟨te,hu,_,x0⟩:=hT.is hs;have x4:ua=U j:=ha;obtain⟨cs,h2,h3,h4⟩:=x2 j _ he;rcases h3.2 with ⟨h5,h6⟩|⟨g,cap,cur,h5,_⟩
    .have:zi xs=0:=h6;omega
    .rw[x4,h5];exact .still (zcN hu x0.sizeOf h0 h1) ⟨g,by rw[h5];rfl,by rw[xF,yL];rfl⟩
   .cases h
  .cases h
 .cases h
def zdh(w:zh)(O:Nat->Prop):(e:Bool)->(r:Ty)->r.T->List zd->Prop
 |true,.slice s,xs,cs=>RepL (RepC w O s) xs cs
 |true,_,_,_=>False
 |false,r,x,cs=>RepC w O r x cs
theorem Path.rep:∀{r t:Ty}(p:Path r t)(x:r.T)(cs:List zd),zdh w O p.isElm r x cs->allP (p.vcs x)->RepC w O t (p.get x) ((cs.drop p.off).take t.size)/\p.off+t.size<=cs.length:=by
 intro r t p
 induction p with
 |here=>
  intro x cs h _;have hl:=RepC.len _ _ _ h;refine⟨?_,by simp[Path.off,hl]⟩;simp only[Path.off,List.drop_zero, <-hl,List.take_length];exact h
 | @fst r a b p ih=>
  intro x cs h hv;obtain⟨⟨c1,c2,h1,h2,h3⟩,h4⟩:=ih x cs h hv;have l1:=RepC.len _ _ _ h2;simp only[Ty.size]at h4 h1;refine⟨?_,by simp only[Path.off];omega⟩;have:(cs.drop p.off).take a.size=c1:=by
   have h5:((cs.drop p.off).take (a.size+b.size)).take a.size=c1:=by rw[h1, <-l1,ju]
   rwa[vk,qe o_]at h5
  simp only[Path.off,Path.get,this];exact h2
 | @snd r a b p ih=>
  intro x cs h hv;obtain⟨⟨c1,c2,h1,h2,h3⟩,h4⟩:=ih x cs h hv;have l1:=RepC.len _ _ _ h2;simp only[Ty.size]at h4 h1;refine⟨?_,by simp only[Path.off];omega⟩;have:(cs.drop (p.off+a.size)).take b.size=c2:=by
   have h5:((cs.drop p.off).take (a.size+b.size)).drop a.size=c2:=by rw[h1, <-l1,vh]
   rw[kx,vl]at h5;rwa[show a.size+b.size-a.size=b.size by omega]at h5
  simp only[Path.off,Path.get,this];exact h3
 | @idx r t n p k ih=>
  intro x cs h hv;rw[Path.vcs,zat]at hv;have hk:k<n:=hv.2;obtain⟨h1,h4⟩:=ih x cs h hv.1;simp only[Ty.size]at h1 h4;have h2:=znT h1 hk;have x0:k*t.size+t.size<=n*t.size:=by
   have:=jm t.size (show k+1<=n by omega);rwa[jl,wP]at this
  refine⟨?_,by simp only[Path.off];omega⟩;simp only[Path.off,Path.get];rw[kx,vl,vk,qe o_]at h2;exact h2
 | @elm t k=>
  intro x cs h hv;have hk:k<zi x:=hv;have h':RepL (RepC w O t) x cs:=h;refine⟨zlL h' hk,?_⟩;have hl:=h'.len (λx c=>RepC.len t x c);have:=jm t.size (show k+1<=zi x by omega);rw[jl,wP]at this;simp only[Path.off];omega
theorem OwnRep.cells{bv:zd}{o:OObj}(h:OwnRep w O U B bv o)(hH:o.noH=true){g:Nat}(hg:zag bv=some g):∃cs,zdh w O o.isBuf o.v.t o.v.x cs/\CellsAt w g 0 cs:=by
 cases o with
 |box t x=>
  obtain⟨g',cs,ty,rfl,h1,h2,h3⟩:=h;cases hg;refine⟨cs,h3,λj u hu=>?_⟩;rw[yL];unfold qi;rw[h2]
  simpa using hu
 |buf te t xs=>
  obtain⟨cs,h1,h2,h3⟩:=h;rcases h2.2 with ⟨rfl,_⟩|⟨g',cap,cur,rfl,h4,h5,h6,h7,h8,h9⟩
  .cases hg
  .cases hg;refine⟨cs,h1,λj u hu=>?_⟩;rw[yL];unfold qi;rw[h5];simp only[jk,xL,if_false];rw[<-h9,yG]at hu;split at hu
   .simpa using hu
   .cases hu
 |hbox ty vs=>cases hH
 |mp m I=>cases hH
theorem zjK{r:Ty}{o:OObj}{y:r.T}(h:ztU r o=some y):o.v=⟨r,y⟩:=by
 unfold ztU at h;generalize o.v=ov at h ⊢;obtain⟨s,x⟩:=ov;exact zka h
theorem zpx{r:Ty}{o:OObj}{y:r.T}(h:ztU r o=some y):o.noH=true:=by
 have:=zjK h;cases o with
 |box t x=>rfl
 |buf te t xs=>rfl
 |hbox ty vs=>
  obtain⟨rfl,_⟩:=V.mk.inj this;cases h
 |mp m I=>
  obtain⟨rfl,_⟩:=V.mk.inj this;cases h
theorem RepH.append:∀{vs ws:List V}{cs ds:List zd},RepH w O U vs cs->RepH w O U ws ds->RepH w O U (vs++ws) (cs++ds)
 | [],_,_,_,h,h'=>by
  subst h;exact h'
 |v::r,_,_,_,⟨u,s,e,h2,h3,h4⟩,h'=>by subst e;exact⟨u,s++_,rfl,h2,h3,RepH.append h4 h'⟩
theorem RepH.len:∀{vs:List V}{cs:List zd},RepH w O U vs cs->vs.length=cs.length
 | [],_,h=>by
  subst h;rfl
 |v::r,_,⟨u,s,e,_,_,h4⟩=>by subst e;simp[RepH.len h4]
theorem RepH.take:∀(k:Nat){vs:List V}{cs:List zd},RepH w O U vs cs->RepH w O U (vs.take k) (cs.take k)
 |0,_,_,_=>rfl
 |k+1,[],_,h=>by
  subst h;exact rfl
 |k+1,v::r,_,⟨u,s,e,h2,h3,h4⟩=>by subst e;exact⟨u,s.take k,rfl,h2,h3,RepH.take k h4⟩
theorem RepH.drop:∀(k:Nat){vs:List V}{cs:List zd},RepH w O U vs cs->RepH w O U (vs.drop k) (cs.drop k)
 |0,_,_,h=>h
 |k+1,[],_,h=>by
  subst h;exact rfl
 |k+1,v::r,_,⟨u,s,e,h2,h3,h4⟩=>by subst e;exact RepH.drop k h4
theorem ze5:∀(t:Ty)(x:t.T)(cs:List zd),t.data=true->t.noArr=true->RepC w O t x cs->RepH w O U (za7 t x) cs:=by
 intro t
 induction t with
 |pair a b iha ihb=>
  rintro x cs hd hn ⟨c1,c2,rfl,h1,h2⟩;simp only[Ty.data,zf]at hd;simp only[Ty.noArr,zf]at hn;exact(iha _ _ hd.1 hn.1 h1).append (ihb _ _ hd.2 hn.2 h2)
 |unit=>intro x cs _ _ h;exact h
 |arr n t ih=>intro x cs _ hn;cases hn
 |bool=>intro x cs _ _ h;cases h;exact⟨_,_,rfl,rfl,rfl,rfl⟩
 |int k=>intro x cs _ _ h;cases h;exact⟨_,_,rfl,rfl,rfl,rfl⟩
 |str=>rintro x cs _ _ ⟨h,h'⟩;subst h;exact⟨_,_,rfl,rfl,⟨rfl,h'⟩,rfl⟩
 |slice t ih=>
  rintro x cs _ _ ⟨v,rfl,h⟩;refine⟨v,[],rfl,?_,RepV.ofSlice h,rfl⟩;rcases h with ⟨_,A,c,rfl,_⟩|⟨g,off,c,vs,rfl,_⟩<;>rfl
 |_=>intro x cs hd;cases hd
theorem znk:∀(t:Ty)(x:t.T)(u:zd),t.leafy=true->RepV w O U t x u->RepH w O U (za7 t x) u.cells.toList:=by
 intro t
 induction t with
 |optr t _=>rintro x u _ h;have h':=h;obtain⟨g,_,rfl⟩:=h';exact⟨_,_,rfl,rfl,h,rfl⟩
 |hptr=>rintro x u _ h;have h':=h;obtain⟨g,_,rfl⟩:=h';exact⟨_,_,rfl,rfl,h,rfl⟩
 |vptr t _=>rintro x u _ h;have h':=h;obtain⟨g,off,cs,rfl,_⟩:=h';exact⟨_,_,rfl,rfl,h,rfl⟩
 |clo f t _=>rintro x u _ h;have h':=h;obtain⟨vs,rfl,_⟩:=h';exact⟨_,_,rfl,rfl,h,rfl⟩
 |mapL=>rintro x u _ h;have h':=h;obtain⟨r,ms,ck,rfl,_⟩:=h';exact⟨_,_,rfl,rfl,h,rfl⟩
 |hcons a b _ ihb=>
  rintro x u hl ⟨y,s,rfl,h2,h3,h4⟩;exact⟨y,s,rfl,h2,h3,ihb _ _ hl h4⟩
 |pair a b _ _=>
  intro x u hl h;have hd:(Ty.pair a b).data=true/\(Ty.pair a b).noArr=true:=by
   have hl:((Ty.pair a b).data&&(Ty.pair a b).noArr)=true:=hl
   simpa using hl
  obtain⟨cs,rfl,h1⟩:=(RepD.agg rfl).1 h;exact ze5 _ _ _ hd.1 hd.2 h1
 |unit=>
  intro x u hl h;obtain⟨cs,rfl,h1⟩:=(RepD.agg rfl).1 h;exact ze5 _ _ _ rfl rfl h1
 |bool=>intro x u _ h;have:=RepV.bool h;subst this;exact⟨_,_,rfl,rfl,rfl,rfl⟩
 |int k=>intro x u _ h;have:=RepV.int h;subst this;exact⟨_,_,rfl,rfl,rfl,rfl⟩
 |str=>intro x u _ h;have:=RepV.str h;obtain⟨rfl,h'⟩:=this;exact⟨_,_,rfl,rfl,⟨rfl,h'⟩,rfl⟩
 |slice t _=>
  intro x u hl h;have hd:(Ty.slice t).data=true:=by
   have hl:((Ty.slice t).data&&(Ty.slice t).noArr)=true:=hl;simp only[zf]at hl;exact hl.1
  have h1:=(RepD.scalar rfl).1 h;have h2:u.cells.toList=[u]:=by
   obtain⟨v,e,h2⟩:=h1;cases e;rcases h2 with ⟨_,A,c,rfl,_⟩|⟨g,off,c,vs,rfl,_⟩<;>rfl
  rw[h2];exact ze5 _ _ _ hd rfl h1
 |arr n t _=>
  intro x u hl;have hl:((Ty.arr n t).data&&(Ty.arr n t).noArr)=true:=hl;simp[Ty.noArr]at hl
 |_=>intro x u hl;cases hl
theorem ziI(x1:∀i o,Owns.get E i=some o->OwnRep w O U B (U i) o){v:V}{ls:List V}(h:zg6 E v=some ls){u:zd}(hu:RepV w O U v.t v.x u):RepH w O U ls u.cells.toList:=by
 obtain⟨t,x⟩:=v;unfold zg6 at h;split at h
 .rename_i y he;obtain⟨rfl,he⟩:=V.mk.inj he;cases he;subst hu;unfold ziJ at h;split at h
  .rename_i cs;split at h
   .rename_i x0;cases h;have key:∀l:List zd,l.all jN=true->RepH w O U (l.map evC) l:=by
     intro l
     induction l with
     |nil=>intro _;exact rfl
     |cons c l ih=>
      intro hl;simp only[List.all_cons,zf]at hl;exact⟨c,l,rfl,hl.1,znC c,ih hl.2⟩
    exact key _ x0
   .cases h
  .cases h
  .rename_i h1 h2;cases h;have hc:u.cells.toList=[u]/\u.oneCell'=true:=by
    cases u<;>first|exact⟨rfl,rfl⟩|exact absurd rfl (h1 _)|exact absurd rfl (h2 _)
   rw[hc.1];exact⟨u,[],rfl,hc.2,rfl,rfl⟩
 .rename_i t' j he;obtain⟨rfl,he⟩:=V.mk.inj he;cases he;split at h
  .rename_i te Z xs hb;cases h;have x2:=hu;have hc:u.cells.toList=[u]/\u.oneCell'=true:=by
    obtain⟨cs,h1,h2,h3⟩:=x1 _ _ hb;rw[x2];rcases h2.2 with ⟨e,_⟩|⟨g,cap,cur,e,_⟩<;>rw[e]<;>exact⟨rfl,rfl⟩
   rw[hc.1];exact⟨u,[],rfl,hc.2,hu,rfl⟩
  .cases h
 .rename_i h1 h2 he;obtain⟨rfl,he⟩:=V.mk.inj he;cases he;split at h
  .rename_i hl;cases h;exact znk _ _ _ hl hu
  .cases h
theorem zqo:∀(t:Ty)(vs:List V)(x:t.T)(r:List V)(cs:List zd),t.data=true->unD t vs=some (x,r)->RepH w O U vs cs->∃c1 c2,cs=c1++c2/\RepC w O t x c1/\RepH w O U r c2:=by
 have one:∀(t:Ty)(vs:List V)(x:t.T)(r:List V)(cs:List zd),t.data=true->t.isAgg=false->(match vs with |v::r=>(match coe t v with |some x=>some (x,r)|none=>none)| []=>none)=some (x,r)->RepH w O U vs cs->∃c1 c2,cs=c1++c2/\RepC w O t x c1/\RepH w O U r c2:=by
  intro t vs x r cs hd ha h hr;cases vs with
  |nil=>cases h
  |cons v vs=>
   simp only at h;split at h
   .rename_i y hy;cases h;obtain⟨u,s,rfl,h2,h3,h4⟩:=hr;exact⟨[u],s,rfl,(RepD.scalar ha).1 (zhe hd hy h3),h4⟩
   .cases h
 intro t
 induction t with
 |pair a b iha ihb=>
  intro vs x r cs hd h hr;simp only[Ty.data,zf]at hd;simp only[unD]at h;split at h
  .rename_i y r1 h1;split at h
   .rename_i z r2 h2;cases h;obtain⟨c1,c2,rfl,g1,g2⟩:=iha _ _ _ _ hd.1 h1 hr;obtain⟨c3,c4,rfl,g3,g4⟩:=ihb _ _ _ _ hd.2 h2 g2;exact⟨c1++c3,c4,by simp,⟨c1,c3,rfl,g1,g3⟩,g4⟩
   .cases h
  .cases h
 |unit=>
  intro vs x r cs _ h hr;cases h;exact⟨[],cs,rfl,rfl,hr⟩
 |arr n t _=>intro vs x r cs _ h;cases h
 |bool=>intro vs x r cs hd h hr;exact one .bool vs x r cs hd rfl (by cases vs<;>exact h) hr
 |int k=>intro vs x r cs hd h hr;exact one (.int k) vs x r cs hd rfl (by cases vs<;>exact h) hr
 |str=>intro vs x r cs hd h hr;exact one .str vs x r cs hd rfl (by cases vs<;>exact h) hr
 |slice t _=>intro vs x r cs hd h hr;exact one (.slice t) vs x r cs hd rfl (by cases vs<;>exact h) hr
 |_=>intro vs x r cs hd;cases hd
theorem zxj{Z:Ty}{t:zo}(ht:Lay P Z (.inl t))(ha:Z.isAgg=false){g off:Nat}{u:zd}(hc:w.cell? ⟨g,off,none⟩=some u):
  (xM t (.pointer (some ⟨g,off,none⟩))).run P w=.ok u w:=by
 unfold xM qA Go.loadVar;simp[zK,ht.isAgg,ha,load,Sem.run,hc]
theorem OwnRep.hcells{bv:zd}{ty:zo}{vs:List V}(h:OwnRep w O U B bv (.hbox ty vs)){g:Nat}(hg:zag bv=some g):∃cs,RepH w O U vs cs/\CellsAt w g 0 cs:=by
 obtain⟨g',cs,rfl,h1,h2,h3⟩:=h;cases hg;refine⟨cs,h3,λj u hu=>?_⟩;rw[yL];unfold qi;rw[h2]
 simpa using hu
theorem zl5(hT:TOk P T Q)(x0:∀i o,Owns.get E i=some o->OwnRep w O U B (U i) o){t:zo}{va:V}{r:List Prop×V}(h:zl6 T E t va=some r)(hp:allP r.1){ua:zd}
  (ha:RepV w O U va.t va.x ua):∃u,(xM t ua).run P w=.ok u w/\RepV w O U r.2.t r.2.x u:=by
 obtain⟨ta,xa⟩:=va;unfold zl6 at h;split at h
 .rename_i Z x hv;obtain⟨rfl,hv⟩:=V.mk.inj hv;cases hv;split at h
  .rename_i hs;cases h;obtain⟨g,off,cs,rfl,_,_,h4,h5⟩:=ha;obtain⟨u,h6,h7⟩:=(hT.is hs).loadAt h4 h5;exact⟨_,h6,(zbA (hT.is hs).data).2 h7⟩
  .cases h
 .rename_i g off Z x hv;obtain⟨rfl,hv⟩:=V.mk.inj hv;cases hv;split at h
  .rename_i hs;cases h;obtain⟨cs,rfl,_,_,h4,h5⟩:=ha;obtain⟨u,h6,h7⟩:=(hT.is hs).loadAt h4 h5;exact⟨_,h6,(zbA (hT.is hs).data).2 h7⟩
  .cases h
 .rename_i Z i rt p hv;obtain⟨rfl,hv⟩:=V.mk.inj hv;cases hv;split at h
  .rename_i o he;split at h
   .rename_i hs;split at h
    .rename_i y hy;rw[Path.getO_eq]at h;cases h;simp only[zf,beq_iff_eq]at hs;obtain⟨g,h1,rfl⟩:=ha;obtain⟨cs,h2,h3⟩:=(x0 _ _ he).cells (zpx hy) h1;have h4:zdh w O o.isBuf rt y cs:=by
      rw[zjK hy]at h2;exact h2
     rw[<-hs.2]at h4;obtain⟨h5,h6⟩:=Path.rep p _ _ h4 hp;have h7:=(h3.drop (Path.off p)).take Z.size;rw[yL]at h7;obtain⟨u,h8,h9⟩:=(hT.is hs.1).loadAt h5 h7;exact⟨_,h8,(zbA (hT.is hs.1).data).2 h9⟩
    .cases h
   .cases h
  .cases h
 .rename_i i k hv;obtain⟨rfl,hv⟩:=V.mk.inj hv;cases hv;split at h
  .rename_i vs he;split at h
   .rename_i Z x3;obtain⟨g,h1,rfl⟩:=ha;obtain⟨cs,h2,h3⟩:=(x0 _ _ he).hcells h1;have hl:=hT.lay _ _ x3;have h4:=h2.drop k;have h5:=h3.drop k;rw[yL]at h5;split at h
    .split at h
     .rename_i x r hx;cases h;obtain⟨c1,c2,h6,h7,_⟩:=zqo _ _ _ _ _ hl.data hx h4;have h8:CellsAt w g k c1:=λj u hu=>h5 j u (by rw[h6,List.getElem?_append_left (yI.1 hu).1];exact hu);obtain⟨u,h9,x2⟩:=hl.loadAt h7 h8;exact⟨u,h9,(zbA hl.data).2 x2⟩
     .cases h
    .rename_i x1;split at h
     .rename_i v r hv;split at h
      .cases h;rw[hv]at h4;obtain⟨u,s,h6,h7,h8,_⟩:=h4;have h9:w.cell? ⟨g,k,none⟩=some u:=by
        have:=h5 0 u (by rw[h6];rfl)
        simpa using this
       exact⟨u,zxj hl (by simpa using x1) h9,h8⟩
      .cases h
     .cases h
   .cases h
  .cases h
 .cases h
theorem zl4(hT:TOk P T Q)(x0:∀i o,Owns.get E i=some o->OwnRep w O U B (U i) o){t:zo}{va:V}{r:List Prop×V}(h:zl6 T E t va=some r)(hp:allP r.1){ua:zd}
  (ha:RepV w O U va.t va.x ua):Yields P (xM t ua) w O U r.2:=by
 obtain⟨u,h1,h2⟩:=zl5 hT x0 h hp ha;exact .still h1 h2
theorem zjy(hT:TOk P T Q){xt:zo}{va:V}{n:Nat}{r:List Prop×V}(h:znA T xt va n=some r){ua:zd}(ha:RepV w O U va.t va.x ua):Yields P (pI xt ua n) w O U r.2:=by
 unfold znA at h;split at h
 .rename_i hs;obtain⟨v,h1,rfl⟩:=zjH h;have hl:=hT.is hs;obtain⟨y,h2,h3⟩:=hl.field h1 ((zbA hl.data).1 ha);have hd:v.t.data=true:=by
   obtain⟨fs,_,h5⟩:=hl.struct h1;have x1:=(zbA hl.data).1 ha;have x0:va.t.isAgg=true:=by
    obtain⟨t,x⟩:=va;cases t<;>first|rfl|(cases n<;>cases h1)
   obtain⟨cs,_,hc⟩:=(RepD.agg x0).1 x1;obtain⟨_,_,_,h6,_⟩:=zdN n _ _ v _ _ cs h1 h5 hc;exact h6.data
  exact .still h2 ((zbA hd).2 h3)
 .cases h
theorem zf7:∀(n:Nat)(r Z:Ty)(p:Path r Z)(t:Ty)(q:Path r t)(fs:List kZ)(off:Nat),zmt n r Z p=some ⟨t,q⟩->Lay P Z (.inr (fs,off))->
  ∃f,fs[n]? =some f/\f.offset+p.off=off+q.off/\Lay P t (.inl f.type)
 |0,r,.pair a b,p,t,q,fs,off,h,hl=>by
  cases h;obtain⟨f,rest,h1,h2,h3,h4⟩:=hl;simp only at h1 h2;subst h1;exact⟨f,rfl,by simp[Path.off,h2],h3⟩
 |n+1,r,.pair a b,p,t,q,fs,off,h,hl=>by
  obtain⟨f,rest,h1,h2,h3,h4⟩:=hl;simp only at h1 h2;subst h1;obtain⟨f',h5,h6,h7⟩:=zf7 n r b (.snd p) t q rest _ h h4;refine⟨f',by simpa using h5,?_,h7⟩;simp only[Path.off]at h6;omega
 |0,_,.unit,_,_,_,_,_,h,_=>by cases h
 |_+1,_,.unit,_,_,_,_,_,h,_=>by cases h
 |n,_,.bool,_,_,_,_,_,h,_=>by cases n<;>cases h
 |n,_,.int _,_,_,_,_,_,h,_=>by cases n<;>cases h
 |n,_,.str,_,_,_,_,_,h,_=>by cases n<;>cases h
 |n,_,.arr _ _,_,_,_,_,_,h,_=>by cases n<;>cases h
 |n,_,.slice _,_,_,_,_,_,h,_=>by cases n<;>cases h
 |n,_,.junk,_,_,_,_,_,h,_=>by cases n<;>cases h
 |n,_,.lit,_,_,_,_,_,h,_=>by cases n<;>cases h
 |n,_,.vptr _,_,_,_,_,_,h,_=>by cases n<;>cases h
 |n,_,.cptr _ _ _,_,_,_,_,_,h,_=>by cases n<;>cases h
 |n,_,.optr _,_,_,_,_,_,h,_=>by cases n<;>cases h
 |n,_,.obuf _,_,_,_,_,_,h,_=>by cases n<;>cases h
 |n,_,.tup _ _,_,_,_,_,_,h,_=>by cases n<;>cases h
 |n,_,.cond _,_,_,_,_,_,h,_=>by cases n<;>cases h
theorem Lay.struct'{n:Nat}{r Z:Ty}{s:zo}(h:Lay P Z (.inl s)){p:Path r Z}{q:(t:Ty)×Path r t}(hv:zmt n r Z p=some q):∃fs,P.underlying s=some (.struct fs)/\Lay P Z (.inr (fs.toList,0)):=by
 cases Z with
 |pair a b=>
  obtain⟨fs,h1,_,f,r,h2,h3,h4,h5⟩:=h;exact⟨fs,h1,f,r,h2,h3,h4,by simpa using h5⟩
 |_=>cases n<;>cases hv
theorem zeD{s:zo}{fs:Array kZ}(hu:P.underlying s=some (.struct fs)){n:Nat}{f:kZ}(hf:fs[n]? =some f){t:Ty}(ht:Lay P t (.inl f.type))(hz:0<t.size)(A:Addr):
  (uI s (.pointer (some A)) n).run P w=.ok (.pointer (some (A.add f.offset))) w:=by
 unfold uI;simp only[zK,run_underlying hu,zG,hf,qA,zF,fieldPlace,ht.sizeOf];rw[if_neg o_];rfl
theorem zhb(hT:TOk P T Q){s:zo}{va:V}{n:Nat}{r:List Prop×V}(h:zfy T s va n=some r){ua:zd}(ha:RepV w O U va.t va.x ua):Yields P (uI s ua n) w O U r.2:=by
 obtain⟨ta,xa⟩:=va;unfold zfy at h;split at h
 .rename_i Z x hv;obtain⟨rfl,hv⟩:=V.mk.inj hv;cases hv;split at h
  .rename_i hs;split at h
   .rename_i v hf;split at h
    .rename_i hz;cases h;have hl:=hT.is hs;obtain⟨fs,h1,h2⟩:=hl.struct hf;obtain⟨g,off,cs,rfl,h3,h4,h5,h6⟩:=ha;obtain⟨f,h7,h8,h9,x0⟩:=zdN n _ _ v _ _ cs hf h2 h5;refine .still (zeD h1 (by simpa using h7) h9 (by simpa using hz) _) ⟨g,off+zbk n Z,_,?_,h3,h4,x0,(h6.drop _).take _⟩;rw[xF,h8,yL]
    .cases h
   .cases h
  .cases h
 .rename_i g off Z x hv;obtain⟨rfl,hv⟩:=V.mk.inj hv;cases hv;split at h
  .rename_i hs;split at h
   .rename_i v hf;split at h
    .rename_i hz;cases h;have hl:=hT.is hs;obtain⟨fs,h1,h2⟩:=hl.struct hf;obtain⟨cs,rfl,h3,h4,h5,h6⟩:=ha;obtain⟨f,h7,h8,h9,x0⟩:=zdN n _ _ v _ _ cs hf h2 h5;refine .still (zeD h1 (by simpa using h7) h9 (by simpa using hz) _) ⟨g,off+zbk n Z,_,?_,h3,h4,x0,(h6.drop _).take _⟩;rw[xF,h8,yL]
    .cases h
   .cases h
  .cases h
 .rename_i Z i rt p hv;obtain⟨rfl,hv⟩:=V.mk.inj hv;cases hv;split at h
  .rename_i hs;split at h
   .rename_i t q hf;split at h
    .rename_i hz;cases h;have hl:=hT.is hs;obtain⟨fs,h1,h2⟩:=hl.struct' hf;obtain⟨g,h3,rfl⟩:=ha;obtain⟨f,h7,h8,h9⟩:=zf7 n _ _ _ t q _ _ hf h2;refine .still (zeD h1 (by simpa using h7) h9 (by simpa using hz) _) ⟨g,h3,?_⟩;rw[xF,show Path.off p+f.offset=q.off by omega]
    .cases h
   .cases h
  .cases h
 .rename_i i k hv;obtain⟨rfl,hv⟩:=V.mk.inj hv;cases hv;split at h
  .rename_i Z hs;split at h
   .rename_i t q hf;split at h
    .rename_i hz;cases h;have hl:=hT.lay _ _ hs;obtain⟨fs,h1,h2⟩:=hl.struct' hf;obtain⟨g,h3,rfl⟩:=ha;obtain⟨f,h7,h8,h9⟩:=zf7 n _ _ _ t q _ _ hf h2;refine .still (zeD h1 (by simpa using h7) h9 (by simpa using hz) _) ⟨g,h3,?_⟩;have x1:f.offset+0=0+q.off:=h8;rw[xF,show k+f.offset=k+q.off by omega]
    .cases h
   .cases h
  .cases h
 .cases h
theorem zlF:∀(n:Nat)(Z:Ty)(x:Z.T)(v:V)(vs:List zd),tupV n Z x=some v->RepTup w O Z x vs->∃u,vs[n]? =some u/\RepD w O v.t v.x u
 |0,.tup a b,x,v,vs,h,hr=>by
  cases h;obtain⟨u,r,rfl,h1,h2⟩:=hr;exact⟨u,rfl,h1⟩
 |n+1,.tup a b,x,v,vs,h,hr=>by
  obtain⟨u,r,rfl,h1,h2⟩:=hr;obtain⟨u',h3,h4⟩:=zlF n b x.2 v r h h2;exact⟨u',by simpa using h3,h4⟩
 |0,.unit,_,_,_,h,_=>by cases h
 |_+1,.unit,_,_,_,h,_=>by cases h
 |n,.bool,_,_,_,h,_=>by cases n<;>cases h
 |n,.int _,_,_,_,h,_=>by cases n<;>cases h
 |n,.str,_,_,_,h,_=>by cases n<;>cases h
 |n,.arr _ _,_,_,_,h,_=>by cases n<;>cases h
 |n,.slice _,_,_,_,h,_=>by cases n<;>cases h
 |n,.junk,_,_,_,h,_=>by cases n<;>cases h
 |n,.lit,_,_,_,h,_=>by cases n<;>cases h
 |n,.vptr _,_,_,_,h,_=>by cases n<;>cases h
 |n,.cptr _ _ _,_,_,_,h,_=>by cases n<;>cases h
 |n,.optr _,_,_,_,h,_=>by cases n<;>cases h
 |n,.obuf _,_,_,_,h,_=>by cases n<;>cases h
 |n,.pair _ _,_,_,_,h,_=>by cases n<;>cases h
 |n,.cond _,_,_,_,h,_=>by cases n<;>cases h
end
section
variable {P:zw}{w:zh}{O O':Nat->Prop}{U:Nat->zd}{T:Tbl}{Q:List zo}{E:Owns}{F:Frame}{B:Nat}{a:Act}
theorem zcI{t:Ty}{x:t.T}{u:zd}(h:RepD w O t x u):RepV w O U t x u:=by
 cases t<;>first|exact h|exact absurd ((RepD.scalar rfl).1 h) (by simp[RepC])
theorem zjz{va:V}{n:Nat}{v:V}(h:tupV n va.t va.x=some v){ua:zd}(ha:RepV w O U va.t va.x ua):Yields P (Instr.extract ua n) w O U v:=by
 obtain⟨ta,xa⟩:=va;cases ta<;>first|(cases n<;>cases h;done)|skip
 obtain⟨vs,rfl,h1⟩:=ha;obtain⟨u,h2,h3⟩:=zlF n _ _ v vs h h1;refine .still (u:=u) ?_ (zcI h3);unfold Instr.extract;simp[h2]
theorem znj(hT:TOk P T Q){xt:zo}{va:V}{r:List Prop×V}(h:lenV T xt va=some r){ua:zd}(ha:RepV w O' U va.t va.x ua)(ty:zo):Yields P (kA #[xt] ty #[ua]) w O U r.2:=by
 obtain⟨ta,xa⟩:=va;unfold lenV at h;split at h
 .rename_i l hv;obtain⟨rfl,hv⟩:=V.mk.inj hv;cases hv;split at h
  .rename_i hs;cases h;obtain⟨e,_⟩:=RepV.str ha;subst e;have x0:(⟨xQ l⟩:ByteArray).size=zi l:=by simp[vj]
   refine .still (u:=.int .i64 ((zi l:Nat):Int)) ?_ (RepV.ofInt (k:=.i64));unfold kA;simp[zK,run_underlying (hT.is hs).1,goInt,x0]
  .cases h
 .rename_i t l hv;obtain⟨rfl,hv⟩:=V.mk.inj hv;cases hv;split at h
  .rename_i hs;cases h;obtain⟨te,hu,_⟩:=hT.is hs;obtain⟨A,c,e,_⟩:=(RepV.slice ha).nlen;subst e;refine .still (u:=.int .i64 ((zi l:Nat):Int)) ?_ (RepV.ofInt (k:=.i64));unfold kA;simp[zK,run_underlying hu,goInt]
  .cases h
 .rename_i n t l hv;obtain⟨rfl,hv⟩:=V.mk.inj hv;cases hv;split at h
  .rename_i hs;cases h;obtain⟨te,hu,_⟩:=hT.is hs;refine .still (u:=.int .i64 ((n:Nat):Int)) ?_ (RepV.ofInt (k:=.i64));unfold kA;simp[zK,run_underlying hu,goInt]
  .cases h
 .cases h
theorem zck{k:xT}{i:Int}{y:Nat}{c:BoundsCode}(h0:0<=i)(h1:i<=y):(pB (.int k i) y c).run P w=.ok i.toNat w:=by
 unfold pB;simp[zK,zdQ,h0,h1]
theorem zhc{α:Type}{xs:List α}{lo hi:Option V}{r:List Prop×List α}(h:cutL xs lo hi=some r)(hp:allP r.1){ul uh:Option zd}(hl:∀v,lo=some v->∃u,ul=some u/\RepV w O U v.t v.x u)(x3:lo=none->ul=none)
  (hh:∀v,hi=some v->∃u,uh=some u/\RepV w O U v.t v.x u) (x0:hi=none->uh=none) (b:Bool) {cap:Nat} (hc:xs.length<=cap):
  ∃i j,i<=j/\j<=xs.length/\r.2=(xs.take j).drop i/\(vH b xs.length cap ul uh none).run P w=.ok (i,j,cap) w:=by
 cases lo with
 |none=>
  have:=x3 rfl;subst this;cases hi with
  |none=>
   have:=x0 rfl;subst this;cases h;exact⟨0,xs.length,by omega,by omega,by simp,by simp[vH]⟩
  |some v=>
   obtain⟨u,rfl,hu⟩:=hh v rfl;simp only[cutL]at h;split at h
   .rename_i x hx;cases h;obtain⟨k,rfl⟩:=zcK hx hu;obtain⟨h0,h1⟩:=hp;have h1:x<=(xs.length:Int):=h1;refine⟨0,x.toNat,by omega,by omega,by simp,?_⟩;have hb:=zck (P:=P) (w:=w) (k:=k) (y:=cap) (c:=if b then .sliceAcap else .sliceAlen) h0 o_;simp only[vH,zK,zF,zG,hb]
   .cases h
 |some v=>
  obtain⟨u,rfl,hu⟩:=hl v rfl;cases hi with
  |none=>
   have:=x0 rfl;subst this;simp only[cutL]at h;split at h
   .rename_i x hx;cases h;obtain⟨k,rfl⟩:=zcK hx hu;obtain⟨h0,h1⟩:=hp;have h1:x<=(xs.length:Int):=h1;refine⟨x.toNat,xs.length,by omega,by omega,by simp,?_⟩;have hb:=zck (P:=P) (w:=w) (k:=k) (y:=xs.length) (c:=.sliceB) h0 o_;simp only[vH,zK,zF,zG,jk,xL,if_false,hb]
   .cases h
  |some v'=>
   obtain⟨u',rfl,x4⟩:=hh v' rfl;simp only[cutL]at h;split at h
   .rename_i x x' hx x1;cases h;obtain⟨k,rfl⟩:=zcK hx hu;obtain⟨l,rfl⟩:=zcK x1 x4;obtain⟨h0,h1,h2⟩:=hp;have h2:x'<=(xs.length:Int):=h2;refine⟨x.toNat,x'.toNat,by omega,by omega,by simp,?_⟩;have hb:=zck (P:=P) (w:=w) (k:=l) (y:=cap) (c:=if b then .sliceAcap else .sliceAlen) (show 0<=x' by omega) o_;have x2:=zck (P:=P) (w:=w) (k:=k) (y:=x'.toNat) (c:=.sliceB) h0 o_;simp only[vH,zK,zF,zG,jk,xL,if_false,hb,x2]
   .cases h
theorem zkn(hT:TOk P T Q){xt:zo}{va:V}{lo hi:Option V}{r:List Prop×V}(h:zqK T xt va lo hi=some r)(hp:allP r.1){ua:zd}(ha:RepV w O U va.t va.x ua){ul uh:Option zd}
  (hl:∀v,lo=some v->∃u,ul=some u/\RepV w O U v.t v.x u) (x6:lo=none->ul=none)
  (hh:∀v,hi=some v->∃u,uh=some u/\RepV w O U v.t v.x u) (x3:hi=none->uh=none):Yields P (j8 xt ua ul uh none) w O U r.2:=by
 obtain⟨ta,xa⟩:=va;unfold zqK at h;split at h
 .rename_i l hv;obtain⟨rfl,hv⟩:=V.mk.inj hv;cases hv;split at h
  .rename_i hs;obtain⟨q,h1,rfl⟩:=zlr h;have ha:RepV w O U .str l ua:=ha;obtain⟨e,hlen⟩:=RepV.str ha;subst e;have x7:(⟨xQ l⟩:ByteArray).size=zi l:=by simp[vj]
   obtain⟨i,j,h2,h3,h4,h5⟩:=zhc (P:=P) h1 hp hl x6 hh x3 false (cap:=zi l) (zj _);refine .still (u:=.string ⟨(q.2:List UInt8).toArray⟩) ?_ (RepV.ofStr (by rw[h4];simp;omega));have hu:=(hT.is hs).1;unfold j8 pO;simp only[zK,run_underlying hu,zG,jk,xL,if_false,zF,x7,h5]
   congr 2
   have e2:pd ⟨xQ l⟩ i j=⟨(xQ l).extract i j⟩:=by
    have:=ByteArray.data_extract (a:=⟨xQ l⟩) (b:=i) (e:=j);cases hE:pd ⟨xQ l⟩ i j with
    |mk d=>rw[hE]at this;simp only at this;rw[this]
   rw[e2,h4]
   congr 1
   simp[wD,kx]
  .cases h
 .rename_i t xs hv;obtain⟨rfl,hv⟩:=V.mk.inj hv;cases hv;split at h
  .rename_i hs;obtain⟨q,h1,rfl⟩:=zlr h;obtain⟨te,hu,_,x5⟩:=hT.is hs;show Yields P _ w O U ⟨.slice t,q.2⟩;have key:∀A c,xs.length<=c->∃i j,i<=j/\j<=xs.length/\q.2=(xs.take j).drop i/\(j8 xt (.slice A xs.length c) ul uh none).run P w=.ok (.slice (if c=i then A else A.map (·.add (i*t.size))) (j-i) (c-i)) w:=by
    intro A c hc;obtain⟨i,j,h2,h3,h4,h5⟩:=zhc (P:=P) h1 hp hl x6 hh x3 true (cap:=c) hc;refine⟨i,j,h2,h3,h4,?_⟩;unfold j8 pO;simp only[zK,run_underlying hu,zG,h5,x5.sizeOf,zF]
   have ha:RepV w O U (.slice t) xs ua:=ha;rcases RepV.slice ha with ⟨rfl,A,c,rfl,hc⟩|⟨g,off,c,vs,rfl,hx,h5,h6,h7,h8,h9,x4⟩
   .obtain⟨i,j,h2,h3,h4,x0⟩:=key A c (by simp);have hj:j=0:=by simpa using h3
    subst hj;refine .still x0 (RepV.ofSlice (.inl ⟨by rw[h4];simp,(if c=i then A else A.map (·.add (i*t.size))),c-i,?_,by omega⟩));rw[show 0-i=0 by omega]
   .obtain⟨i,j,h2,h3,h4,x0⟩:=key _ c h5;refine .still x0 (RepV.ofSlice ?_);show RepS w O (RepC w O t) q.2 _;have hq:(q.2:List t.T).length=j-i:=by rw[h4];simp;omega
    by_cases x2:i=j
    .subst x2;exact .inl ⟨by rw[h4];simp,(if c=i then some ⟨g,off,none⟩ else(some (⟨g,off,none⟩:Addr)).map (·.add (i*t.size))),c-i,by rw[show i-i=0 by omega],by omega⟩
    .refine .inr ⟨g,off+i*t.size,c-i,(vs.take (j*t.size)).drop (i*t.size),?_,?_,by omega,by omega,h7,h8,?_,?_⟩
     .rw[if_neg o_,pW,xF,hq]
     .intro he;rw[he]at hq;simp at hq;omega
     .rw[h4];exact(h9.take (λx c=>RepC.len t x c) j).drop (λx c=>RepC.len t x c) i
     .exact(x4.take _).drop _
  .cases h
 .rename_i n t xs hv;obtain⟨rfl,hv⟩:=V.mk.inj hv;cases hv;split at h
  .rename_i hs;simp only[zf,jF]at hs;obtain⟨q,h1,rfl⟩:=zlr h;obtain⟨te,hu,_,x5⟩:=hT.is hs.1;show Yields P _ w O U ⟨.slice t,q.2⟩;obtain⟨g,off,vs,rfl,h7,h8,hc,x4⟩:RepV w O U (.vptr (.arr n t)) xs ua:=ha;obtain⟨x1,h9⟩:=hc;have x1:zi xs=n:=x1;obtain⟨i,j,h2,h3,h4,h5⟩:=zhc (P:=P) h1 hp hl x6 hh x3 false (cap:=zi xs) (zj _);have x0:(j8 xt (.pointer (some ⟨g,off,none⟩)) ul uh none).run P w=.ok (.slice (some (if zi xs=i then ⟨g,off,none⟩ else(⟨g,off,none⟩:Addr).add (i*t.size))) (j-i) (zi xs-i)) w:=by
    rw[x1]at h5 ⊢;unfold j8;simp only[zK,run_underlying hu,zG,h5,x5.sizeOf,zF,qA]
   refine .still x0 (RepV.ofSlice ?_);show RepS w O (RepC w O t) q.2 _;have hq:(q.2:List t.T).length=j-i:=by rw[h4];simp;omega
   have x8:zi xs<=maxLen:=by rw[x1];exact zJ hs.2 (by unfold maxLen;omega)
   by_cases x2:i=j
   .subst x2;exact .inl ⟨by rw[h4];simp,_,zi xs-i,by rw[show i-i=0 by omega],by omega⟩
   .refine .inr ⟨g,off+i*t.size,zi xs-i,(vs.take (j*t.size)).drop (i*t.size),?_,?_,by omega,by omega,h7,h8,?_,?_⟩
    .rw[if_neg o_,xF,hq]
    .intro he;rw[he]at hq;simp at hq;omega
    .rw[h4];exact(h9.take (λx c=>RepC.len t x c) j).drop (λx c=>RepC.len t x c) i
    .exact(x4.take _).drop _
  .cases h
 .cases h
end
def over(cs:List zd)(off:Nat)(vs:List zd):List zd:=cs.take off++vs++cs.drop (off+vs.length)
theorem zj7:∀(vs:List zd)(k off:Nat)(cs:List zd),off+k+vs.length<=cs.length->
  ((vs.zipIdx k).foldl (λ(c:Array zd)(p:zd×Nat)=>c.setIfInBounds (off+p.2) p.1) cs.toArray)=(over cs (off+k) vs).toArray
 | [],k,off,cs,_=>by simp[over]
 |v::vs,k,off,cs,h=>by
  simp only[zv]at h;simp only[List.zipIdx_cons,List.foldl_cons,List.setIfInBounds_toArray];rw[zj7 vs (k+1) off (cs.set (off+k) v) (by simp;omega)]
  congr 1
  unfold over;rw[show off+(k+1)=off+k+1 by omega,List.take_set,List.drop_set];rw[if_pos o_];simp only[zv];rw[show off+k+1+vs.length=off+k+(vs.length+1) by omega]
  congr 1
  rw[show((ki (off+k+1) cs).set (off+k) v)=ki (off+k) cs++[v] by
   rw[List.take_succ_eq_append_getElem o_];rw[List.set_append_right _ _ (by simp;omega)];simp;rw[show off+k-min (off+k) cs.length=0 by omega];rfl]
  simp
theorem ziy{cs vs:List zd}{off:Nat}(h:off+vs.length<=cs.length):(over cs off vs).length=cs.length:=by
 simp[over];omega
section
variable {P:zw}{w:zh}{O O':Nat->Prop}{U:Nat->zd}{T:Tbl}{Q:List zo}{E:Owns}{F:Frame}{B:Nat}{a:Act}
theorem RepD.cells{t:Ty}{x:t.T}{u:zd}(h:RepD w O t x u):RepC w O t x u.cells.toList:=by
 unfold RepD at h;split at h
 .obtain⟨cs,rfl,h⟩:=h
  simpa [Value.cells] using h
 .have h1:=RepC.oneCell _ _ _ h u (by simp);have:u.cells= #[u]:=by cases u<;>first|rfl|(simp[jN]at h1)
  rw[this];exact h
theorem zms{place:Nat->Option (Nat×Nat)}{cs:List zd}{i off size:Nat}{u:zd}{rest:List (Nat×zd)}(hp:place i=some (off,size))(hs:u.cells.toList.length=size)(hl:off+size<=cs.length):
  wq place cs.toArray ((i,u)::rest)=wq place (over cs off u.cells.toList).toArray rest:=by
 have x0:u.cells.size=size:=by simpa using hs
 simp only[wq,hp];rw[if_neg (by
  simp only[Bool.or_eq_true,decide_eq_true_eq,not_or,x0,vJ];exact⟨λh=>h rfl,by omega⟩)]
 congr 1
 have:=zj7 u.cells.toList 0 off cs o_;rw[Nat.add_zero]at this;rw[<-this, <-Array.foldl_toList]
 congr 1
 simp
theorem zhq:∀(n:Nat)(Z:Ty)(x y:Z.T)(v:V)(u:zd)(fs:List kZ)(off:Nat)(cs:List zd),zgk n Z x v=some y->Lay P Z (.inr (fs,off))->RepC w O Z x cs->RepV w O U v.t v.x u->
  ∃f i,fs[n]? =some f/\P.info? f.type=some i/\f.offset=off+zbk n Z/\u.cells.toList.length=i.size/\zbk n Z+i.size<=cs.length/\RepC w O Z y (over cs (zbk n Z) u.cells.toList)
 |0,.pair a b,x,y,v,u,fs,off,cs,h,hl,hr,hv=>by
  simp only[zgk]at h;split at h<;>first|(cases h;done)|skip
  rename_i z h0;cases h;obtain⟨f,r,h1,h2,h3,h4⟩:=hl;simp only at h1 h2;subst h1;obtain⟨c1,c2,rfl,h5,h6⟩:=hr;obtain⟨i,z',hi,x0,_⟩:=h3.info;have hc:=(zhe h3.data h0 hv).cells;have l1:=RepC.len _ _ _ h5;have l2:=RepC.len _ _ _ hc;refine⟨f,i,rfl,hi,by simp[zbk,h2],by rw[l2,x0],by simp[zbk,x0,l1],u.cells.toList,c2,?_,hc,h6⟩;simp only[over,zbk,List.take_zero,List.nil_append,yL,l2, <-l1,vh]
 |n+1,.pair a b,x,y,v,u,fs,off,cs,h,hl,hr,hv=>by
  simp only[zgk]at h;split at h<;>first|(cases h;done)|skip
  rename_i z h0;cases h;obtain⟨f,r,h1,h2,h3,h4⟩:=hl;simp only at h1 h2;subst h1;obtain⟨c1,c2,rfl,h5,h6⟩:=hr;obtain⟨f',i,g1,g2,g3,g4,g5,g6⟩:=zhq n b x.2 z v u r _ c2 h0 h4 h6 hv;have l1:=RepC.len _ _ _ h5;refine⟨f',i,by simpa using g1,g2,by rw[g3];simp[zbk,qX],g4,by simp[zbk,l1];omega,c1,_,?_,h5,g6⟩;simp only[over,zbk, <-l1,qX];rw[kq,jo];simp
 |0,.unit,_,_,_,_,_,_,_,h,_,_,_=>by cases h
 |_+1,.unit,_,_,_,_,_,_,_,h,_,_,_=>by cases h
 |n,.bool,_,_,_,_,_,_,_,h,_,_,_=>by cases n<;>cases h
 |n,.int _,_,_,_,_,_,_,_,h,_,_,_=>by cases n<;>cases h
 |n,.str,_,_,_,_,_,_,_,h,_,_,_=>by cases n<;>cases h
 |n,.arr _ _,_,_,_,_,_,_,_,h,_,_,_=>by cases n<;>cases h
 |n,.slice _,_,_,_,_,_,_,_,h,_,_,_=>by cases n<;>cases h
 |n,.junk,_,_,_,_,_,_,_,h,_,_,_=>by cases n<;>cases h
 |n,.lit,_,_,_,_,_,_,_,h,_,_,_=>by cases n<;>cases h
 |n,.vptr _,_,_,_,_,_,_,_,h,_,_,_=>by cases n<;>cases h
 |n,.cptr _ _ _,_,_,_,_,_,_,_,h,_,_,_=>by cases n<;>cases h
 |n,.optr _,_,_,_,_,_,_,_,h,_,_,_=>by cases n<;>cases h
 |n,.obuf _,_,_,_,_,_,_,_,h,_,_,_=>by cases n<;>cases h
 |n,.tup _ _,_,_,_,_,_,_,_,h,_,_,_=>by cases n<;>cases h
 |n,.cond _,_,_,_,_,_,_,_,h,_,_,_=>by cases n<;>cases h
def zhO(w:zh)(O:Nat->Prop)(U:Nat->zd):List (Nat×V)->List (Nat×zd)->Prop
 | [],us=>us=[]
 |(i,v)::r,us=>∃u s,us=(i,u)::s/\RepV w O U v.t v.x u/\zhO w O U r s
theorem zfq:∀{ps:List (Nat×V)}{us:List (Nat×zd)},zhO w O U ps us->allP (zeR ps).1->zhO w O U (zeR ps).2 us
 | [],us,h,_=>h
 |(i,v)::r,us,h,hp=>by
  obtain⟨u,s,rfl,h1,h2⟩:=h;simp only[zeR,zat]at hp;exact⟨u,s,rfl,zbj h1 hp.1,zfq h2 hp.2⟩
theorem zis{ps:List (Nat×zB)}(x0:∀p∈ps,RepV w O U (evO F p.2).t (evO F p.2).x (a.eval p.2)):zhO w O U (ps.map λp=>(p.1,evO F p.2)) (ps.map λp=>(p.1,a.eval p.2)):=by
 induction ps with
 |nil=>rfl
 |cons p ps ih=>exact⟨_,_,rfl,x0 p (by simp),ih λq hq=>x0 q (by simp[hq])⟩
theorem zgj{Z:Ty}{fs:List kZ}(hl:Lay P Z (.inr (fs,0))){place:Nat->Option (Nat×Nat)}(x0:∀(n:Nat)(f:kZ)(i:TypeInfo),fs[n]? =some f->P.info? f.type=some i->place n=some (f.offset,i.size)):
  ∀(ps:List (Nat×V))(us:List (Nat×zd))(x y:Z.T)(cs:List zd),zhO w O U ps us->zkr Z x ps=some y->RepC w O Z x cs->∃ds:List zd,wq place cs.toArray us=some ds.toArray/\RepC w O Z y ds
 | [],us,x,y,cs,h,hs,hr=>by
  cases h;cases hs;exact⟨cs,rfl,hr⟩
 |(i,v)::r,us,x,y,cs,h,hs,hr=>by
  obtain⟨u,s,rfl,h1,h2⟩:=h;obtain⟨z,h3,h4⟩:=jR.1 hs;obtain⟨f,x1,g1,g2,g3,g4,g5,g6⟩:=zhq i Z x z v u fs 0 cs h3 hl hr h1;rw[yL]at g3;rw[zms (x0 i f x1 g1 g2) g4 o_,g3];exact zgj hl x0 r s z y _ h2 h4 g6
theorem zlW:∀(Z:Ty)(fs:List kZ)(off:Nat),Lay P Z (.inr (fs,off))->∃places,fs.mapM (λf=>(P.info? f.type).map λi=>(f.offset,i.size))=some places/\
  ∀(n:Nat)(f:kZ)(i:TypeInfo),fs[n]? =some f->P.info? f.type=some i->places[n]? =some (f.offset,i.size):=by
 intro Z
 induction Z with
 |unit=>
  intro fs off h;have:fs=[]:=h;subst this;exact⟨[],rfl,λn f i h=>by simp at h⟩
 |pair a b _ ihb=>
  rintro fs off ⟨f,r,h1,h2,h3,h4⟩;simp only at h1 h4;subst h1;obtain⟨pl,h5,h6⟩:=ihb r _ h4;obtain⟨i,z,hi,_⟩:=h3.info;refine⟨(f.offset,i.size)::pl,by simp[List.mapM_cons,hi,h5],λn f' i' hn x0=>?_⟩;cases n with
  |zero=>simp at hn;subst hn;rw[hi]at x0;cases x0;rfl
  |succ n=>exact h6 n f' i' (by simpa using hn) x0
 |_=>intro fs off h;exact absurd h (by simp[Lay])
theorem zep{e:Ty}(he:e.data=true){place:Nat->Option (Nat×Nat)}(x1:∀n,place n=some (n*e.size,e.size)):
  ∀(ps:List (Nat×V))(us:List (Nat×zd))(x y:List e.T)(cs:List zd),zhO w O U ps us->zgl e x ps=some y->RepL (RepC w O e) x cs->∃ds:List zd,wq place cs.toArray us=some ds.toArray/\RepL (RepC w O e) y ds/\y.length=x.length
 | [],us,x,y,cs,h,hs,hr=>by
  cases h;cases hs;exact⟨cs,rfl,hr,rfl⟩
 |(i,v)::r,us,x,y,cs,h,hs,hr=>by
  obtain⟨u,s,rfl,h1,h2⟩:=h;simp only[zgl]at hs;split at hs
  .rename_i hb;have x2:i<x.length:=by simpa using hb
   obtain⟨z,h3,h4⟩:=jR.1 hs;have hc:=(zhe he h3 h1).cells;have hlen:=RepC.len _ _ _ hc;have hl:=hr.len (λx c=>RepC.len e x c);have x3:i*e.size+e.size<=cs.length:=by
    have:=jm e.size (show i+1<=x.length by omega);rw[jl,wP]at this;omega
   rw[zms (x1 i) hlen x3];have x0:=hr.set (λx c=>RepC.len e x c) x2 hc;rw[show over cs (i*e.size) u.cells.toList=cs.take (i*e.size)++u.cells.toList++cs.drop (i*e.size+e.size) by simp only[over,hlen]];obtain⟨ds,g1,g2,g3⟩:=zep he x1 r s (x.set i z) y _ h2 h4 x0;exact⟨ds,g1,g2,by rw[g3];simp⟩
  .cases hs
theorem zdp:∀(t:Ty),t.data=true->(zbw t).length=t.size:=λt h=>RepC.len (w:=default) (O:=λ_=>False) _ _ _ (zgn _ _ t h)
theorem zgY{e:Ty}(he:e.data=true)(n:Nat):RepL (RepC w O e) (zr n (zav e)) (zr n (zbw e)).flatten:=by
 induction n with
 |zero=>rfl
 |succ n ih=>exact⟨_,_,rfl,zgn _ _ e he,ih⟩
theorem zfW(zc:Array zd)(hz:0<zc.size)(n:Nat):(gT (n*zc.size)).map (λi=>zc[i%zc.size]!)=(zr n zc.toList).flatten.toArray:=by
 apply jn.1;simp only[kB,Array.toList_range]
 induction n with
 |zero=>simp
 |succ n ih=>
  rw[jl,wP,List.range_add,List.map_append,ih,List.replicate_succ',uU]
  congr 1
  simp only[List.flatten_cons,pC,zW,List.map_map];apply List.ext_getElem
  .simp
  .intro i h1 h2;simp at h1;simp[Nat.mul_add_mod_of_lt h1,h1]
theorem zlm(hT:TOk P T Q){t:zo}{ps:List (Nat×V)}{r:List Prop×V}(h:zs6 T t ps=some r)(hp:allP r.1){us:Array (Nat×zd)}(hu:zhO w O U ps us.toList):Yields P (Instr.build t us) w O U r.2:=by
 unfold zs6 at h;split at h
 .rename_i a b ht;split at h<;>first|(cases h;done)|skip
  rename_i x h1;cases h;have hl:=hT.lay _ _ ht;have x5:=hl;obtain⟨fs,h2,x0,f,rr,h3,h4,h5,h6⟩:=hl;obtain⟨i,z,hi,hs,hz,x3,_⟩:=x0;have x4:Lay P (.pair a b) (.inr (fs.toList,0)):=⟨f,rr,h3,h4,h5,by simpa using h6⟩;obtain⟨x1,h7,h8⟩:=zlW _ _ _ x4;obtain⟨ds,g1,g2⟩:=zgj x4 (place:=(x1.toArray[·]?)) (λn f i hn hi=>by simpa using h8 n f i hn hi) _ us.toList _ x (zbw (.pair a b)) (zfq hu hp) h1 (zgn _ _ _ x5.data);refine .still (u:=.agg ds.toArray) (run_build w t us _ ?_) (zcI ((RepD.agg rfl).2 ⟨ds,rfl,g2⟩));unfold fj;rw[hi,h2];simp only[hz,h7,x3];exact g1
 .rename_i n e ht;split at h<;>first|(cases h;done)|skip
  rename_i x h1;cases h;obtain⟨te,h2,x0,x2⟩:=hT.lay _ _ ht;obtain⟨i,z,hi,hs,hz,x3,_⟩:=x0;obtain⟨ie,ze,x7,x6,_⟩:=x2.info;obtain⟨ds,g1,g2,g3⟩:=zep x2.data (place:=λi=>some (i*ie.size,ie.size)) (λn=>by rw[x6]) _ us.toList _ x _ (zfq hu hp) h1 (zgY x2.data n);refine .still (u:=.agg ds.toArray) (run_build w t us _ ?_) (zcI ((RepD.agg rfl).2 ⟨ds,rfl,by rw[g3];simp,g2⟩));unfold fj;rw[hi,h2];simp only[hz,x7,x3];exact g1
 .cases h
theorem zfk(hT:TOk P T Q){t:zo}{len:Nat}{ps:List (Nat×V)}{r:List Prop×(t:Ty)×List t.T}(h:zcz T t len ps=some r)(hp:allP r.1){us:Array (Nat×zd)}(hu:zhO w O U ps us.toList):
  ∃ds te,P.underlying t=some (.slice te)/\Lay P r.2.1 (.inl te)/\0<r.2.1.size/\RepL (RepC w O r.2.1) r.2.2 ds/\r.2.2.length=len/\(uB t len us).run P w=.ok (.slice (some ⟨w.heap.size,0,none⟩) len len) (w.alloc (.cells ds.toArray te)):=by
 unfold zcz at h;split at h
 .rename_i e ht;split at h
  .rename_i hb;split at h<;>first|(cases h;done)|skip
   rename_i x h1;cases h;simp only[zf,jF]at hb;have x2:0<e.size:=by simpa using hb.2
   obtain⟨te,h2,_,x0⟩:=hT.lay _ _ ht;obtain⟨ie,ze,x6,x1,x4,x3,_⟩:=x0.info;have x5:ze.cells.size=e.size:=by rw[x3];simp[zdp e x0.data]
   obtain⟨ds,g1,g2,g3⟩:=zep x0.data (place:=λi=>some (i*ie.size,ie.size)) (λn=>by rw[x1]) _ us.toList _ x _ (zfq hu hp) h1 (zgY x0.data len);refine⟨ds,te,h2,x0,x2,g2,by rw[g3];simp,?_⟩;have x7:(gT (len*ie.size)).map (ze.cells[· % ze.cells.size]!)=(zr len (zbw e)).flatten.toArray:=by
    have:=zfW ze.cells o_ len;rw[x5]at this;rw[x1,x5,this,x3]
   by_cases h0:len=0
   .subst h0;simp only[List.replicate_zero,pC]at g1;simp[uB,run_underlying h2,vA,typeInfo,zeroValue,x6,x4,g1,newRow,show gT 0= #[] from rfl]
   .refine run_buildSlice w t te len us _ ie ze h2 x6 x4 (by rw[x1];omega) (by rw[x1];exact Nat.mul_ne_zero h0 o_) ?_;rw[x7];exact g1
  .cases h
 .cases h
theorem zgL(hT:TOk P T Q)(hO:∀g,O g->g<w.heap.size){t:zo}{len:Nat}(hlen:len<=maxLen){ps:List (Nat×V)}{r:List Prop×(t:Ty)×List t.T}(h:zcz T t len ps=some r)(hp:allP r.1){us:Array (Nat×zd)}
  (hu:zhO w O U ps us.toList):Yields P (uB t len us) w O U ⟨.slice r.2.1,r.2.2⟩:=by
 obtain⟨ds,te,_,_,_,h1,h2,h3⟩:=zfk hT h hp hu;refine⟨_,_,h3,zbg _ _,RepV.ofSlice ?_⟩;have:=zog hO h1 (cap:=len) o_ hlen (zbg w (.cells ds.toArray te)) (heap_alloc_new w _) (λj u hj=>by simpa using hj);rw[h2]at this;exact this
theorem ziB{op:Builtin}(x0:op=.min\/op=.max){vs:List V}{r:List Prop×V}(h:minV op vs=some r){us:List zd}(hu:∀(i:Nat)(v:V),vs[i]? =some v->∃u,us[i]? =some u/\RepV w O' U v.t v.x u)(hl:us.length=vs.length)(ts:Array zo)(ty:zo):
  (op=.min->Yields P (pf ts ty us.toArray) w O U r.2)/\(op=.max->Yields P (pg ts ty us.toArray) w O U r.2):=by
 unfold minV at h;split at h
 .rename_i x y;obtain⟨u0,h0,e0⟩:=hu 0 _ rfl;obtain⟨u1,h1,e1⟩:=hu 1 _ rfl;have e0:=RepV.int e0;have e1:=RepV.int e1
  match us,hl with
  | [a,b],_=>
   simp at h0 h1;subst h0;subst h1;subst e0;subst e1;constructor
   .rintro rfl;cases h;refine .still (u:=.int .i64 (min (x:Int) y)) ?_ (RepV.ofInt (k:=.i64));simp only[pf,pD,List.foldlM_nil,Builtin.min2,zK,zF,zG,encI]
    congr 2
    simp only[Int.min_def];split<;>split<;>omega
   .rintro rfl;cases h;refine .still (u:=.int .i64 (max (x:Int) y)) ?_ (RepV.ofInt (k:=.i64));simp only[pg,pD,List.foldlM_nil,Builtin.max2,zK,zF,zG,encI]
    congr 2
    simp only[Int.max_def];split<;>split<;>omega
 .cases h
end
def NYields(P:zw)(s:Sem Next)(w:zh)(O:Nat->Prop)(U:Nat->zd)(r:V):Prop:=
 ∃u w',s.run P w=.ok (.value u) w'/\xG w.heap.size w w'/\RepV w' O U r.t r.x u
section
variable {P:zw}{w:zh}{O O':Nat->Prop}{U:Nat->zd}{T:Tbl}{Q:List zo}{E:Owns}{F:Frame}{B:Nat}{a:Act}
theorem Yields.next{s:Sem zd}{r:V}(h:Yields P s w O U r):NYields P (do pure (.value (<-s))) w O U r:=by
 obtain⟨u,w',h1,h2,h3⟩:=h;exact⟨u,w',by simp[h1],h2,h3⟩
theorem NYields.still{s:Sem Next}{r:V}{u:zd}(h:s.run P w=.ok (.value u) w)(hr:RepV w O U r.t r.x u):NYields P s w O U r:=⟨u,w,h,zR _ _,hr⟩
theorem zdE{α γ:Type}(f:α->γ)(xs:Array α):(xs.toList.map f).toArray=xs.map f:=by rw[<-kB,Array.toArray_toList]
theorem zg1(hT:TOk P T Q)(hO:∀g,O g->g<w.heap.size)(x3:∀i o,Owns.get E i=some o->OwnRep w O U B (U i) o){o:Oper}{r:List Prop×V}(h:pOp T Q E F o.op=some r)(hp:allP r.1)
  (x0:∀x∈o.op.operands,RepV w O U (evO F x).t (evO F x).x (a.eval x)):NYields P (execOp a.eval o) w O U r.2:=by
 obtain⟨dst,op,ty,pos,after,guard⟩:=o;simp only at h x0;have x1:∀{b:Builtin}{args:Array zB}{x2:Array zo},(∀x∈(Op.call ⟨.builtin b,args,x2⟩).operands,RepV w O U (evO F x).t (evO F x).x (a.eval x))->allP (args.toList.map λx=>(zaM (evO F x)).1).flatten->
   ∀(i:Nat)(v:V),(args.toList.map λx=>(zaM (evO F x)).2)[i]? =some v->∃u,(args.toList.map a.eval)[i]? =some u/\RepV w O U v.t v.x u:=by
  intro b args x2 x0 hp i v hv;rw[yP]at hv;obtain⟨x,hx,rfl⟩:=zQ.1 hv;have hm:x∈args.toList:=xX hx;refine⟨a.eval x,by rw[yP,hx];rfl,zbj (x0 x (by simp[xD,wY];simpa using hm)) ?_⟩;rw[zve]at hp ⊢;exact λp x5=>hp p (List.mem_flatten.2 ⟨_,List.mem_map.2 ⟨x,hm,rfl⟩,x5⟩)
 have one:∀(x:zB),RepV w O U (evO F x).t (evO F x).x (a.eval x)->allP (zaM (evO F x)).1->RepV w O U (zaM (evO F x)).2.t (zaM (evO F x)).2.x (a.eval x):=λx hx hp=>zbj hx hp;cases op with
 |move x=>cases h;exact .still rfl (x0 x (by simp[xD]))
 |assign x=>cases h;exact .still rfl (x0 x (by simp[xD]))
 |pick c x y=>
  have hc:=x0 c (by simp[xD]);have hx:=x0 x (by simp[xD]);have hy:=x0 y (by simp[xD]);obtain⟨b,h1,h2⟩:=zrj h hp hc hx hy;refine .still (u:=if b then a.eval x else a.eval y) ?_ h2;unfold execOp;simp[h1,asBool]
 |binOp op xt x y yt=>
  obtain⟨q,h1,rfl⟩:=zbu h;simp only[zat]at hp;have hx:=one x (x0 x (by simp[xD])) hp.1.1;have hy:=one y (x0 y (by simp[xD])) hp.1.2;exact(znR hT h1 hp.2 hx hy (x:=x) (y:=y)).next
 |unOp op t x=>
  obtain⟨q,h1,rfl⟩:=zbu h;simp only[zat]at hp;exact(zpp h1 hp.2 (one x (x0 x (by simp[xD])) hp.1)).next
 |convert s d x=>
  obtain⟨q,h1,rfl⟩:=zbu h;simp only[zat]at hp;exact(zqc hT hO h1 hp.2 (zle x3 (one x (x0 x (by simp[xD])) hp.1))).next
 |index xt x i=>
  obtain⟨q,h1,rfl⟩:=zbu h;simp only[zat]at hp;exact(zkY hT h1 hp.2 (one x (x0 x (by simp[xD])) hp.1.1) (one i (x0 i (by simp[xD])) hp.1.2)).next
 |indexAddr xt x i=>
  obtain⟨q,h1,rfl⟩:=zbu h;simp only[zat]at hp;exact(zg8 hT x3 h1 hp.2 (one x (x0 x (by simp[xD])) hp.1.1) (one i (x0 i (by simp[xD])) hp.1.2)).next
 |load t x=>
  obtain⟨q,h1,rfl⟩:=zbu h;simp only[zat]at hp;exact(zl4 hT x3 h1 hp.2 (one x (x0 x (by simp[xD])) hp.1)).next
 |field xt x n=>
  obtain⟨q,h1,rfl⟩:=zbu h;simp only[zat]at hp;exact(zjy hT h1 (one x (x0 x (by simp[xD])) hp.1)).next
 |fieldAddr s x n=>
  obtain⟨q,h1,rfl⟩:=zbu h;simp only[zat]at hp;exact(zhb hT h1 (one x (x0 x (by simp[xD])) hp.1)).next
 |extract x n=>
  simp only[pOp]at h;obtain⟨v,h1,rfl⟩:=zjH h;exact(zjz h1 (one x (x0 x (by simp[xD])) hp)).next
 |slice xt x lo hi mx=>
  cases mx with
  |some m=>cases h
  |none=>
   obtain⟨q,h1,rfl⟩:=zbu h;simp only[zat]at hp;refine(zkn hT h1 hp.2 (one x (x0 x (by simp[xD])) hp.1.1) (ul:=lo.map a.eval) (uh:=hi.map a.eval) ?_ (by intro h;cases lo<;>simp_all) ?_ (by intro h;cases hi<;>simp_all)).next
   .intro v hv;obtain⟨y,rfl,rfl⟩:=zQ.1 hv;exact⟨_,rfl,one y (x0 y (by simp[xD])) hp.1.2.1⟩
   .intro v hv;obtain⟨y,rfl,rfl⟩:=zQ.1 hv;exact⟨_,rfl,one y (x0 y (by simp[xD])) hp.1.2.2⟩
 |build t parts=>
  have x6:zhO w O U (parts.toList.map λp=>(p.1,evO F p.2)) (parts.map λp=>(p.1,a.eval p.2)).toList:=by
   rw[kB];exact zis λp x5=>x0 p.2 (by simp only[xD];simp;exact⟨p.1,by simpa using x5⟩)
  exact(zlm hT h hp x6).next
 |buildSlice t len parts=>
  simp only[pOp]at h;split at h<;>first|(cases h;done)|skip
  rename_i pq eq xq h1;cases h;have x6:zhO w O U (parts.toList.map λp=>(p.1,evO F p.2)) (parts.map λp=>(p.1,a.eval p.2)).toList:=by
   rw[kB];exact zis λp x5=>x0 p.2 (by simp only[xD];simp;exact⟨p.1,by simpa using x5⟩)
  have hlen:len<=maxLen:=by
   unfold zcz at h1;split at h1
   .split at h1
    .rename_i e _ hb;simp only[zf,jF]at hb;have x7:0<e.size:=by simpa using hb.2
     have:=gk len x7;simp only[maxLen];omega
    .cases h1
   .cases h1
  exact(zgL hT hO hlen h1 hp x6).next
 |makeFunc fn first caps=>
  cases fn with
  |func f=>
   simp only[pOp]at h;split at h<;>first|(cases h;done)|skip
   rename_i t x hf hc;cases h;have ef:first= #[]:=by rw[<-jn,hf]
   subst ef;refine .still (u:=.func (.func f) #[] (caps.toList.map a.eval).toArray) ?_ ⟨_,rfl,?_⟩
   .unfold execOp;rw[zdE];simp[Instr.makeFunc]
   .have key:∀(l:List zB)(y:(t:Ty)×t.T),(∀z∈l,RepV w O U (evO F z).t (evO F z).x (a.eval z))->cloV (l.map (evO F))=some y->RepCap w O y.1 y.2 (l.map a.eval):=by
     intro l
     induction l with
     |nil=>intro y _ hy;cases hy;exact rfl
     |cons z l ih=>
      intro y hz hy;simp only[List.map_cons]at hy;unfold cloV at hy;split at hy
      .rename_i he;cases he
      .rename_i q a' x' r' he;split at hy<;>first|(cases hy;done)|skip
       rename_i t y' hr;cases hy;obtain⟨e1,e2⟩:=wX he;have h0:=hz z (by simp);rw[e1]at h0;rw[<-e2]at hr;exact⟨_,_,rfl,h0,ih _ (λz x8=>hz z (by simp[x8])) hr⟩
      .cases hy
    exact key caps.toList ⟨t,x⟩ (λz hz=>x0 z (by simp only[xD];simp;simpa using hz)) hc
  |_=>cases h
 |nilCheck x=>
  have hx:=x0 x (by simp[xD]);simp only[pOp]at h;split at h
  .rename_i p t y he;cases h;have h1:=one x hx (by rw[he];exact hp);rw[he]at h1;have x4:=h1;obtain⟨g,off,cs,h2,_⟩:=h1;refine .still (u:=a.eval x) ?_ x4;unfold execOp;simp[h2]
  .rename_i p t y he;cases h;have h1:=one x hx (by rw[he];exact hp);rw[he]at h1;have x4:=h1;obtain⟨g,h0,h2⟩:=h1;refine .still (u:=a.eval x) ?_ x4;unfold execOp;simp[h2]
  .rename_i p y he;cases h;have h1:=one x hx (by rw[he];exact hp);rw[he]at h1;have x4:=h1;obtain⟨g,h0,h2⟩:=h1;refine .still (u:=a.eval x) ?_ x4;unfold execOp;simp[h2]
  .cases h
 |call c=>
  obtain⟨callee,args,x2⟩:=c;simp only[pOp]at h;split at h
  .split at h
   .rename_i x t ha ht;obtain⟨q,h1,rfl⟩:=zbu h;simp only[zat]at hp;have ea:args= #[x]:=by rw[<-jn,ha]
    have et:x2= #[t]:=by rw[<-jn,ht]
    subst ea;subst et;have hx:=one x (x0 x (by simp[xD,wY])) hp.1;have e:(execOp a.eval ⟨dst,.call ⟨.builtin .len,#[x],#[t]⟩,ty,pos,after,guard⟩).run P w=((do pure (ba (<-kA #[t] ty #[a.eval x])):Sem Next)).run P w:=by
     unfold execOp;simp[resolve,invoke,builtin]
    have:=(znj (P:=P) (O:=O) hT h1 (zle x3 hx) ty).next
    unfold NYields at *;rw[e];exact this
   .cases h
  .obtain⟨q,h1,rfl⟩:=zbu h;simp only[zat]at hp;have e:(execOp a.eval ⟨dst,.call ⟨.builtin .min,args,x2⟩,ty,pos,after,guard⟩).run P w=((do pure (ba (<-pf x2 ty (args.toList.map a.eval).toArray)):Sem Next)).run P w:=by
    unfold execOp;rw[zdE];simp[resolve,invoke,builtin]
   have:=(ziB (P:=P) (O:=O) (O':=O) (w:=w) (U:=U) (Or.inl rfl) h1 (us:=args.toList.map a.eval) (x1 x0 hp.1) (by simp) x2 ty).1 rfl |>.next
   unfold NYields at *;rw[e];exact this
  .obtain⟨q,h1,rfl⟩:=zbu h;simp only[zat]at hp;have e:(execOp a.eval ⟨dst,.call ⟨.builtin .max,args,x2⟩,ty,pos,after,guard⟩).run P w=((do pure (ba (<-pg x2 ty (args.toList.map a.eval).toArray)):Sem Next)).run P w:=by
    unfold execOp;rw[zdE];simp[resolve,invoke,builtin]
   have:=(ziB (P:=P) (O:=O) (O':=O) (w:=w) (U:=U) (Or.inr rfl) h1 (us:=args.toList.map a.eval) (x1 x0 hp.1) (by simp) x2 ty).2 rfl |>.next
   unfold NYields at *;rw[e];exact this
  .cases h
 |_=>cases h
end
def uses(i:Nat):(t:Ty)->t.T->Bool
 |.obuf _,j=>yK i j
 |.optr _,p=>yK i p.i
 |.cond t,x=>uses i t x.2
 |.hptr,x=>yK i x.1
 |.hcons a b,x=>uses i a x.1||uses i b x.2
 |_,_=>false
def V.kill(i:Nat)(v:V):V:=bif uses i v.t v.x then ⟨.junk,()⟩ else v
def Frame.kill(i:Nat):List (Nat×V)->List (Nat×V)
 | []=>[]
 |(s,v)::r=>(s,v.kill i)::Frame.kill i r
theorem Frame.get_kill(i:Nat)(F:Frame)(s:Nat):Frame.get (Frame.kill i F) s=(Frame.get F s).kill i:=by
 induction F with
 |nil=>rfl
 |cons p F ih=>
  obtain⟨d,v⟩:=p;simp only[Frame.kill,zam,ih];split<;>rfl
theorem RepV.other{w:zh}{O:Nat->Prop}{U:Nat->zd}{i:Nat}{bv:zd}:∀(t:Ty)(x:t.T)(v:zd),uses i t x=false->RepV w O U t x v->RepV w O (λj=>if j=i then bv else U j) t x v:=by
 intro t
 induction t with
 |optr t _=>
  rintro x v hb ⟨g,h1,h2⟩;have x0:yK i x.i=false:=hb;have:x.i≠i:=λe=>by rw[e]at x0;simp at x0
  exact⟨g,by simp[this,h1],h2⟩
 |obuf t _=>
  intro x v;intro hb h;have x0:yK i x=false:=hb;have:x≠i:=λe=>by rw[e]at x0;simp at x0
  have h':=h;show v=if x=i then bv else U x
  rw[if_neg this,h']
 |cond t ih=>intro x v hb h;exact⟨λhc=>ih _ _ hb (h.1 hc),h.2⟩
 |hptr=>
  rintro x v hb ⟨g,h1,h2⟩;have x0:yK i x.1=false:=hb;have:x.1≠i:=λe=>by rw[e]at x0;simp at x0
  exact⟨g,by simp[this,h1],h2⟩
 |hcons a b iha ihb=>
  rintro x v hb ⟨u,s,h1,h2,h3,h4⟩;have x0:(uses i a x.1||uses i b x.2)=false:=hb;rw[Bool.or_eq_false_iff]at x0;exact⟨u,s,h1,h2,iha _ _ x0.1 h3,ihb _ _ x0.2 h4⟩
 |_=>intro x v hb h;exact h
def OObj.kill(i:Nat):OObj->OObj
 |.hbox ty vs=>.hbox ty (vs.map (V.kill i))
 |o=>o
def Owns.kill(i:Nat):List (Nat×Option OObj)->List (Nat×Option OObj)
 | []=>[]
 |(j,some (.hbox ty vs))::r=>(j,some (.hbox ty (vs.map (V.kill i))))::Owns.kill i r
 |p::r=>p::Owns.kill i r
theorem Owns.get_kill(i:Nat)(E:Owns)(j:Nat):Owns.get (Owns.kill i E) j=(Owns.get E j).map (OObj.kill i):=by
 induction E with
 |nil=>rfl
 |cons p E ih=>
  obtain⟨k,o⟩:=p;have x0:Owns.kill i ((k,o)::E)=(k,o.map (OObj.kill i))::Owns.kill i E:=by
   cases o with
   |none=>rfl
   |some o=>cases o<;>rfl
  rw[x0,zab,zab,ih];split<;>rfl
theorem OObj.kill_isBuf(i:Nat)(o:OObj):(o.kill i).isBuf=o.isBuf:=by cases o<;>rfl
theorem V.kill_bound(i:Nat)(v:V):(v.kill i).bound<=v.bound:=by
 unfold V.kill;cases uses i v.t v.x with
 |true=>exact zk _
 |false=>exact zj _
theorem OObj.kill_under{i k:Nat}{o:OObj}(h:o.under k):(o.kill i).under k:=by
 cases o with
 |hbox ty vs=>
  intro ws e v hv;cases e;obtain⟨u,hu,rfl⟩:=List.mem_map.1 hv;exact zJ (V.kill_bound i u) (h vs rfl u hu)
 |_=>intro ws e;cases e
theorem RepH.kill{w:zh}{O:Nat->Prop}{U:Nat->zd}{i:Nat}{bv:zd}:∀{vs:List V}{cs:List zd},RepH w O U vs cs->RepH w O (λj=>if j=i then bv else U j) (vs.map (V.kill i)) cs
 | [],_,h=>h
 |v::r,_,⟨u,s,h1,h2,h3,h4⟩=>by
  refine⟨u,s,h1,h2,?_,RepH.kill h4⟩;unfold V.kill;cases hu:uses i v.t v.x with
  |true=>trivial
  |false=>exact RepV.other _ _ _ hu h3
theorem OwnRep.kill{w:zh}{O:Nat->Prop}{U:Nat->zd}{i B:Nat}{bv b':zd}{o:OObj}(h:OwnRep w O U B b' o):OwnRep w O (λj=>if j=i then bv else U j) B b' (o.kill i):=by
 cases o with
 |box t x=>exact h
 |buf te t xs=>exact h
 |hbox ty vs=>
  obtain⟨g',cs,e,h1,h2,h3⟩:=h;exact⟨g',cs,e,h1,h2,h3.kill⟩
 |mp m I=>exact h
section
variable {w0:zh}{X:Ownr}{n:Nat}{Y:AS}{U:Nat->zd}{a:Act}{w w':zh}
theorem Sim.redo(h:Sim w0 X n Y U a w){i:Nat}{o o':OObj}(hi:Owns.get Y.E i=some o)(x7:o.isBuf=true)(hg:w.grownBy w' (zag (U i))){bv:zd}
  (x8:∀g,zag bv=some g->zag (U i)=some g\/w.heap.size<=g)
  (hr:∀O U',(∀g,g<w.heap.size->O g->OSet X Y.E U g)->OwnRep w' O U' 0 bv o') {t:Ty}{d:Nat} (hd:d<n) (hu:o'.under Y.nx:=by exact λ_ e=>by cases e):
  ∃U',Sim w0 X n { F:=(d,⟨.obuf t,i⟩)::Frame.kill i Y.F,E:=(i,some o')::Owns.kill i Y.E,nx:=Y.nx } U' (a.put (some d) bv) w':=by
 refine⟨λj=>if j=i then bv else U j,?_⟩;have hO:∀g,g<w.heap.size->OSet X ((i,some o')::Owns.kill i Y.E) (λj=>if j=i then bv else U j) g->OSet X Y.E U g:=λg xb xd=>by
  rcases xd with h1|⟨j,oj,h1,h2⟩
  .exact .inl h1
  .rw[zab]at h1;by_cases hj:i=j
   .subst hj;simp at h2;rcases x8 g h2 with h3|h3
    .exact .inr ⟨i,o,hi,h3⟩
    .omega
   .rw[if_neg hj,Owns.get_kill]at h1;obtain⟨pj,xg,xh⟩:=zQ.1 h1;simp[qF hj]at h2;exact .inr ⟨j,pj,xg,h2⟩
 have x2:Keeps w w' (OSet X Y.E U) (OSet X ((i,some o')::Owns.kill i Y.E) (λj=>if j=i then bv else U j)):=
  ⟨hg.size,λg xb xf=>hg.block g xb λe=>xf (.inr ⟨i,o,hi,e.symm⟩),hO⟩
 have x0:∀{j:Nat}{oj:OObj},i≠j->(if i=j then some o' else Owns.get (Owns.kill i Y.E) j)=some oj->∃pj,Owns.get Y.E j=some pj/\pj.kill i=oj:=λhs hj=>by
  rw[if_neg hs,Owns.get_kill]at hj;exact zQ.1 hj
 have x5:=h.bel.grown hg λg e=>h.new i o g hi e;have xe:=h.lt i o hi;refine⟨?_,?_,x5,?_,?_,?_,?_,?_,?_,?_,?_⟩
 .rw[Act.put_size];exact h.sz
 .rw[Act.put_defers];exact h.df
 .intro s;rw[Act.put_get (by rw[h.sz];exact hd)];rw[zam];by_cases hs:d=s
  .rw[if_pos hs,if_pos hs];show bv=if i=i then bv else U i
   rw[if_pos rfl]
  .rw[if_neg hs,if_neg hs,Frame.get_kill];unfold V.kill;cases hu:uses i (Frame.get Y.F s).t (Frame.get Y.F s).x with
   |true=>trivial
   |false=>exact RepV.other _ _ _ hu (RepV.keep x2 _ _ _ (h.fr s))
 .intro j oj hj;rw[show Owns.get ((i,some o')::Owns.kill i Y.E) j=_ from zab ..]at hj;by_cases hs:i=j
  .subst hs;rw[if_pos rfl]at hj;cases hj;rw[if_pos rfl];exact hr _ _ hO
  .obtain⟨pj,x1,rfl⟩:=x0 hs hj;rw[if_neg (qF hs)];refine((h.own j pj x1).keep x2 λg x9=>hg.block g ((h.own j pj x1).block_lt x9).2 λe=>?_).kill;exact h.inj i j o pj hi x1 hs g e.symm x9
 .intro j oj g hj;rw[show Owns.get ((i,some o')::Owns.kill i Y.E) j=_ from zab ..]at hj;by_cases hs:i=j
  .rw[if_pos hs.symm];intro x3;rcases x8 g x3 with h3|h3
   .exact h.new i o g hi h3
   .exact .inl (zJ h.bel.size h3)
  .obtain⟨pj,x1,rfl⟩:=x0 hs hj;rw[if_neg (qF hs)];exact h.new j pj g x1
 .intro j k oj ok hj hk xc g;rw[show Owns.get ((i,some o')::Owns.kill i Y.E) j=_ from zab ..]at hj;rw[show Owns.get ((i,some o')::Owns.kill i Y.E) k=_ from zab ..]at hk;have fresh:∀m om,i≠m->Owns.get Y.E m=some om->zag bv=some g->zag (U m)≠some g:=λm om hm xa x3 x4=>by
   rcases x8 g x3 with h3|h3
   .exact h.inj i m o om hi xa hm g h3 x4
   .have:=((h.own m om xa).block_lt x4).2;omega
  by_cases h1:i=j
  .by_cases h2:i=k
   .omega
   .obtain⟨pk,x6,rfl⟩:=x0 h2 hk;rw[if_pos h1.symm,if_neg (qF h2)];exact fresh k pk h2 x6
  .obtain⟨pj,x1,rfl⟩:=x0 h1 hj;rw[if_neg (qF h1)];by_cases h2:i=k
   .rw[if_pos h2.symm];exact λx3 x4=>fresh j pj h1 x1 x4 x3
   .obtain⟨pk,x6,rfl⟩:=x0 h2 hk;rw[if_neg (qF h2)];exact h.inj j k pj pk x1 x6 xc g
 .intro j oj hj;rw[show Owns.get ((i,some o')::Owns.kill i Y.E) j=_ from zab ..]at hj;by_cases hs:i=j
  .exact hs▸xe
  .obtain⟨pj,x1,rfl⟩:=x0 hs hj;exact h.lt j pj x1
 .refine⟨h.fix.1,λj hj=>?_⟩;obtain⟨h2,h3⟩:=h.fix.2 j hj;have hs:i≠j:=λe=>by subst e;have:=h3 o hi;rw[x7]at this;cases this
  refine⟨?_,λoj ho=>?_⟩
  .
   rw[if_neg (qF hs)];exact h2
  .rw[show Owns.get ((i,some o')::Owns.kill i Y.E) j=_ from zab ..]at ho;obtain⟨pj,x1,rfl⟩:=x0 hs ho;rw[OObj.kill_isBuf];exact h3 pj x1
 .intro s;rw[zam];by_cases hs:d=s
  .rw[if_pos hs];show i+1<=Y.nx;omega
  .rw[if_neg hs,Frame.get_kill];unfold V.kill;cases uses i (Frame.get Y.F s).t (Frame.get Y.F s).x with
   |true=>exact zk _
   |false=>exact h.hb s
 .intro j oj hj;rw[show Owns.get ((i,some o')::Owns.kill i Y.E) j=_ from zab ..]at hj;by_cases hs:i=j
  .rw[if_pos hs]at hj;cases hj;exact hu
  .obtain⟨pj,x1,rfl⟩:=x0 hs hj;exact OObj.kill_under (h.hE j pj x1)
end
section
variable {P:zw}{w:zh}{O O':Nat->Prop}{U:Nat->zd}
theorem zeO{bv:zd}{w:zh}{B e s n:Nat}{cs:List zd}(h:w.ownsRow B e s bv n cs):bv.ownBlock=zag bv:=by
 rcases h.2 with ⟨rfl,_⟩|⟨g,cap,cur,rfl,_⟩<;>rfl
theorem zwG{E:Owns}{B:Nat}(x0:∀i o,Owns.get E i=some o->OwnRep w O U B (U i) o){v:V}{Z:Ty}{ys:List Z.T}(hd:dat E v=⟨.slice Z,ys⟩){u:zd}(h:RepV w O U v.t v.x u):RepS w (λ_=>False) (RepC w O Z) ys u:=by
 obtain⟨t,x⟩:=v;cases t<;>simp only[dat]at hd<;>first|(cases hd;done)|skip
 .cases hd;exact(RepV.slice h).keep .of_false λ_ _ h=>h
 .split at hd
  .rename_i te t' xs he;cases hd;have h':=h;subst h';obtain⟨cs,h1,h2,h3⟩:=x0 x _ he;rcases h2.2 with ⟨e,h4⟩|⟨g,cap,cur,e,h5,h6,h7,h8,h9,h10⟩
   .have:ys=[]:=xW h4;subst this;exact .inl ⟨rfl,none,0,e,by simp[maxLen]⟩
   .by_cases hx:ys=[]
    .subst hx;exact .inl ⟨rfl,some ⟨g,0,none⟩,cap,e,h8⟩
    .refine .inr ⟨g,0,cap,cs,e,hx,h7,h8,(zl.1 h6).1,λh=>h.elim,h1,λj u hu=>?_⟩;rw[yL];unfold qi;rw[h6];simp only[jk,xL,if_false];rw[<-h10,yG]at hu;split at hu
     .simpa using hu
     .cases hu
  .cases hd
theorem zkc{t e:zo}{Z:Ty}(ht:P.underlying t=some (.slice e))(he:Lay P Z (.inl e))(xc:24*Z.size<=100000)(ty:zo){B:Nat}(hB:B<=w.heap.size){bv:zd}{xs ys:List Z.T}(x6:OwnRep w O U B bv (.buf e Z xs))
  (xf:∀g,zag bv=some g->O g) {u:zd} (hu:RepS w (λ_=>False) (RepC w O Z) ys u) (hlen:xs.length+ys.length<=1000000000):
  ∃v' w',(jT #[t,t] ty #[bv,u]).run P w=.ok v' w'/\w.grownBy w' (zag bv)/\(∀g,zag v'=some g->zag bv=some g\/w.heap.size<=g)/\
   ∀O2,(∀g,g<w.heap.size->O2 g->O g)->OwnRep w' O2 U B v' (.buf e Z (xs++ys)):=by
 obtain⟨cs,h1,h2,h3⟩:=x6;obtain⟨i,z,hi,hs,hz,xe,xi⟩:=he.info;have xd:z.cells.size=Z.size:=by rw[xe];simp[zdp Z he.data]
 have x7:xs.length+ys.length<=maxLen:=by simp only[maxLen];omega
 have x1:(xs.length+ys.length)*i.bytes<=140737488355328:=by
  have h4:i.bytes<=100000:=o_;have h5:=wt hlen h4;omega
 have xb:=zeO h2;have fin:∀(ad:Addr)(c:Nat)(x0:List zd),u=.slice (some ad) ys.length c->RepL (RepC w O Z) ys x0->(∀(j:Nat)(x:zd),x0[j]? =some x->w.cell? (ad.add j)=some x)->∃v' w',(jT #[t,t] ty #[bv,u]).run P w=.ok v' w'/\w.grownBy w' (zag bv)/\(∀g,zag v'=some g->zag bv=some g\/w.heap.size<=g)/\
   ∀O2,(∀g,g<w.heap.size->O2 g->O g)->OwnRep w' O2 U B v' (.buf e Z (xs++ys)):=by
  intro ad c x0 hu hr hc;subst hu;have hl:=hr.len (λx c=>RepC.len Z x c);have xa:=hr.all (p:=λu=>u.oneCell'=true) (λx c=>RepC.oneCell Z x c);obtain⟨v',w',k1,k2,k3,k4⟩:=run_append_own (P:=P) w B t ty e i z Z.size i.bytes ht hi hz hs rfl xd h3 bv xs.length cs h2 ad ys.length c x0 hl hc xa x7 x1 hB;refine⟨v',w',k1,xb▸k3,?_,λO2 x5=>⟨cs++x0,?_,by rw[zg];exact k2,h3⟩⟩
  .intro g hg;rcases h2.2 with ⟨rfl,hn⟩|⟨g',cap,cur,rfl,hbg,hg',hnc,hcm,hcs,htake⟩
   .by_cases hm:ys.length=0
    .have:=k4.2 ⟨rfl,hm⟩;rw[this]at hg;cases hg
    .have x3:=run_append_nil (P:=P) w t ty e i z ht hi hz ad ys.length c x0 (by rw[hl,hs]) hc o_ (by simp only[maxLen]at x7;omega) (by have h8:=wt (show ys.length<=xs.length+ys.length by omega) (zj i.bytes);omega);rw[x3]at k1;cases k1;cases hg;exact .inr (zj _)
   .by_cases x2:xs.length+ys.length<=cap
    .have x8:xs.length*i.size+x0.length<=cur.size:=by rw[hl,hcs,hs, <-jl];exact jm _ x2
     have x3:=run_append_room (P:=P) w t ty e i ht hi g' xs.length cap cur hg' ad ys.length c x0 (by rw[hl,hs]) hc xa x2 x8;rw[x3]at k1;cases k1;exact .inl hg
    .have x4:∀j u,cs[j]? =some u->w.cell? ((⟨g',0,none⟩:Addr).add j)=some u:=h2.cells (g:=g') rfl;have x3:=run_append_grow (P:=P) w t ty e i z ht hi hz ⟨g',0,none⟩ xs.length cap cs (by rw[h2.1,hs]) x4 ad ys.length c x0 (by rw[hl,hs]) hc o_ (by simp only[maxLen]at x7;omega) (growslice_fits o_ x1);rw[x3]at k1;cases k1;cases hg;exact .inr (zj _)
  .have hk:Keeps w w' O O2:=⟨k3.size,λg xh xg=>k3.block g xh λe=>xg (xf g (by rw[<-xb];exact e.symm)),x5⟩;exact(h1.append hr).mono λx _ c=>RepC.keep hk _ _ _
 rcases hu with ⟨rfl,A,c,rfl,hc⟩|⟨g,off,c,vs,rfl,hx,h5,h6,h7,_,h9,h10⟩
 .cases A with
  |some ad=>exact fin ad c [] rfl rfl (λj x hj=>by simp at hj)
  |none=>
   have x9:(jT #[t,t] ty #[bv,.slice none 0 c]).run P w=.ok bv w:=by
    rcases h2.2 with ⟨rfl,_⟩|⟨g',cap,cur,rfl,hbg,hg',hnc,hcm,hcs,htake⟩
    .simp[jT,run_underlying ht,vA,typeInfo,hi,fk,fH]
    .simp[jT,run_underlying ht,vA,typeInfo,hi,fk,fH,hnc,storeCells]
   refine⟨bv,w,x9,⟨rfl,rfl,rfl,zj _,λ_ _ _=>rfl⟩,λg hg=>.inl hg,λO2 x5=>⟨cs,?_,by simpa using h2,h3⟩⟩;rw[zW];exact h1.mono λx _ c=>RepC.keep ⟨zj _,λ_ _ _=>rfl,x5⟩ _ _ _
 .exact fin ⟨g,off,none⟩ c vs rfl h9 (λj x hj=>by rw[xF];exact h10 j x hj)
end
@[reducible] def Args:List Ty->Type
 | []=>Unit
 |t::r=>t.T×Args r
def RepA(w:zh)(O:Nat->Prop):(ts:List Ty)->Args ts->List zd->Prop
 | [],_,vs=>vs=[]
 |t::r,x,vs=>∃v s,vs=v::s/\RepV w O (λ_=>undef) t x.1 v/\RepA w O r x.2 s
def zdb(w:zh)(O:Nat->Prop)(B:Nat)(own:Option zo):(t:Ty)->t.T->zd->Prop
 |.slice Z,xs,v=>match own with
  |some te=>OwnRep w (λg=>O g\/zag v=some g) (λ_=>undef) B v (.buf te Z xs)
  |none=>RepD w O (.slice Z) xs v
 |t,x,v=>∀U,RepV w O U t x v
structure Ctr where
 args:List Ty
 pre:Args args->List Prop
 res:Ty
 own:Option zo
 out:Args args->res.T
def CtrOk(P:zw)(G:zh->Prop)(f:zV)(c:Ctr):Prop:=
 (∀(zas:Array zd)(w:zh),(callFunc f zas).run P w=.ok (.enter f zas) w)/\
 ∀(w:zh)(O:Nat->Prop)(xs:Args c.args)(vs:List zd),(∀g,O g->g<w.heap.size)->RepA w O c.args xs vs->allP (c.pre xs)->G w->
  Calls P f vs.toArray w λe w'=>∃v,e=.returned v/\xG w.heap.size w w'/\zdb w' O w.heap.size c.own c.res (c.out xs) v
abbrev Ctrs:=List (zV×Ctr)
def cget:List (zV×Ctr)->zV->Option Ctr
 | [],_=>none
 |(g,c)::r,f=>bif yK g f then some c else cget r f
def CsOk(P:zw)(G:zh->Prop)(C:Ctrs):Prop:=∀f c,cget C f=some c->CtrOk P G f c
def Ty.flat:Ty->Bool
 |.bool|.int _|.str|.unit=>true
 |.pair a b=>a.flat&&b.flat
 |.arr _ t=>t.flat
 |.tup a b=>a.flat&&b.flat
 |_=>false
def zdY(E:Owns)(fl:Bool):List V->(ts:List Ty)->Option (List Prop×Args ts)
 | [],[]=>some ([],())
 |v::vs,t::ts=>
  match coe t (bif fl then dat E (zaM v).2 else(zaM v).2),zdY E fl vs ts with
  |some x,some (p,xs)=>some ((zaM v).1++p,(x,xs))
  |_,_=>none
 |_,_=>none
def Ctr.fl(c:Ctr):Bool:=c.res.flat
def Ty.argOk:Ty->Bool
 |.vptr t=>t.data
 |.clo _ _=>true
 |.mapL=>true
 |.lit=>true
 |t=>t.data
def zaN:List Ty->Bool
 | []=>true
 |t::r=>t.argOk&&zaN r
def zqd:(t:Ty)->t.T->List V
 |.tup a b,x=>⟨a,x.1⟩::zqd b x.2
 |_,_=>[]
def zxl:zd->Option (zV×List V)
 |.func (.func f) a b=>match a.toList,b.toList with
  | [],[]=>some (f,[])
  |_,_=>none
 |_=>none
def zhf(F:Frame)(x:zB):Option (zV×List V):=
 match evO F x with
 |⟨.lit,y⟩=>zxl y
 |⟨.clo f t,y⟩=>some (f,zqd t y)
 |⟨.cond .lit,(true,y)⟩=>zxl y
 |_=>none
def zu5(C:Ctrs)(E:Owns)(f:zV)(vs:List V):Option (List Prop×(c:Ctr)×Args c.args):=
 match cget C f with
 |some c=>if zaN c.args then(match zdY E c.fl vs c.args with |some ([],xs)=>some (c.pre xs,⟨c,xs⟩)|some (p::q,xs)=>some (p::q++c.pre xs,⟨c,xs⟩)|none=>none) else none
 |none=>none
noncomputable def cOp(T:Tbl)(Q:List zo)(C:Ctrs)(E:Owns)(F:Frame)(op:Op):Res:=
 match op with
 |.call ⟨.value x,args,_⟩=>match zhf F x with
  |some (f,cs)=>match zu5 C E f (args.toList.map (evO F)++cs) with
   |some (p,⟨c,xs⟩)=>match c.own with
    |none=>some (p,⟨c.res,c.out xs⟩)
    |some _=>match c.res,c.out xs with
     |.slice Z,ys=>some (p,⟨.slice Z,ys⟩)
     |_,_=>none
   |none=>none
  |none=>none
 |op=>pOp T Q E F op
section
variable {P:zw}{w w':zh}{O O':Nat->Prop}{U:Nat->zd}{T:Tbl}{Q:List zo}{C:Ctrs}{E:Owns}{F:Frame}{B:Nat}{a:Act}
theorem zlU:∀(t:Ty),t.flat=true->∀(x:t.T)(cs:List zd),RepC w O t x cs->RepC w' O' t x cs:=by
 intro t
 induction t with
 |pair a b iha ihb=>
  intro h x cs;simp only[Ty.flat,zf]at h;rintro ⟨c1,c2,h0,h1,h2⟩;exact⟨c1,c2,h0,iha h.1 _ _ h1,ihb h.2 _ _ h2⟩
 |arr n t ih=>
  intro h x cs;rintro ⟨h1,h2⟩;exact⟨h1,h2.mono λx _ c=>ih h x c⟩
 |bool=>intro _ x cs h;exact h
 |int=>intro _ x cs h;exact h
 |str=>intro _ x cs h;exact h
 |unit=>intro _ x cs h;exact h
 |tup=>intro _ x cs h;exact absurd h (by simp[RepC])
 |_=>intro h;cases h
theorem zlT{t:Ty}(ht:t.flat=true){x:t.T}{v:zd}(h:RepD w O t x v):RepD w' O' t x v:=by
 unfold RepD at *;split at h
 .rename_i hd;rw[if_pos hd];obtain⟨cs,h1,h2⟩:=h;exact⟨cs,h1,zlU t ht _ _ h2⟩
 .rename_i hd;rw[if_neg hd];exact zlU t ht _ _ h
theorem zm5:∀(t:Ty),t.flat=true->∀(x:t.T)(vs:List zd),RepTup w O t x vs->RepTup w' O' t x vs:=by
 intro t
 induction t with
 |tup a b iha ihb=>
  intro h x vs;simp only[Ty.flat,zf]at h;rintro ⟨v,r,h0,h1,h2⟩;exact⟨v,r,h0,zlT h.1 h1,ihb h.2 _ _ h2⟩
 |unit=>intro _ x vs h;exact h
 |_=>intro _ x vs h;exact absurd h (by simp[RepTup])
theorem zeV{t:Ty}(ht:t.flat=true){x:t.T}{v:zd}(h:RepV w O U t x v):RepV w' O' U t x v:=by
 cases t<;>first
  |exact zlT ht h
  |(cases ht;done)
  |(obtain⟨vs,h1,h2⟩:=h;exact⟨vs,h1,zm5 _ ht _ _ h2⟩)
theorem zh2{t:Ty}{v:V}{y:t.T}(h:coe t v=some y){u:zd}(hr:RepV w O U v.t v.x u):RepV w O U t y u:=by
 rcases zfA h with rfl|⟨rfl,Z,he⟩
 .exact hr
 .cases he;have:u=.slice none 0 0:=hr;subst this;exact RepV.ofSlice (.inl ⟨rfl,none,0,rfl,by simp⟩)
theorem zgm{t:Ty}(ht:t.argOk=true){U':Nat->zd}{x:t.T}{u:zd}(h:RepV w O U t x u):RepV w O U' t x u:=by
 cases t<;>first|exact h|(cases ht;done)
theorem zdR(x0:∀i o,Owns.get E i=some o->OwnRep w O U B (U i) o){fl:Bool}:∀{vs:List V}{ts:List Ty}{r:List Prop×Args ts}{us:List zd},zaN ts=true->zdY E fl vs ts=some r->allP r.1->
  (∀(i:Nat)(v:V),vs[i]? =some v->∃u,us[i]? =some u/\RepV w O U v.t v.x u)->us.length=vs.length->RepA w (λg=>fl=false/\O g) ts r.2 us
 | [],[],r,us,_,h,_,_,hl=>xW hl
 |v::vs,t::ts,r,us,hd,h,hp,hu,hl=>by
  simp only[zdY]at h;split at h
  .rename_i x p' x3 hc hr;cases h;simp only[zat]at hp;simp only[zaN,zf]at hd
   match us,hl with
   |u::us,hl=>
    refine⟨u,us,rfl,?_,zdR x0 hd.2 hr hp.2 (λi v hv=>hu (i+1) v hv) (by simpa using hl)⟩;obtain⟨u',x2,x1⟩:=hu 0 v rfl;cases x2;have h1:=zbj x1 hp.1;cases fl with
    |true=>
     have:=zgm (U':=λ_=>undef) hd.1 (zh2 hc (zle x0 h1));exact RepV.keep ⟨zj _,λ_ _ _=>rfl,λg _ h=>by simp at h⟩ _ _ _ this
    |false=>
     have:=zgm (U':=λ_=>undef) hd.1 (zh2 hc h1);exact RepV.keep ⟨zj _,λ_ _ _=>rfl,λg _ h=>h.2⟩ _ _ _ this
  .cases h
 | [],_::_,_,_,_,h,_,_,_=>by cases h
 |_::_,[],_,_,_,h,_,_,_=>by cases h
theorem zcY:∀(t:Ty)(x:t.T)(v:zd),zdb w O B none t x v->RepV w O U t x v:=by
 intro t;cases t<;>intro x v h<;>first|exact h U|exact zcI h
theorem zlv{o:Oper}{x:zB}{f:zV}{us:List zd}{args:Array zB}{ts:Array zo}{K:Act->zh->Prop}{R:Exit->Act->zh->Prop}(ho:o.op=.call ⟨.value x,args,ts⟩)(hx:a.eval x=.func (.func f) #[] us.toArray)(x0:∀(zas:Array zd)(w:zh),(callFunc f zas).run P w=.ok (.enter f zas) w)
  (h:Calls P f (args.toList.map a.eval++us).toArray w λe w'=>∃v,e=.returned v/\K (a.put o.dst v) w'):o.wp P a w K R:=by
 unfold Oper.wp;have em:(args.toList.map a.eval++us).toArray=args.map a.eval++us.toArray:=by
  rw[<-zdE];simp
 rw[em]at h;have e:(execOp a.eval o).run P w=.ok (.enter f (args.map a.eval++us.toArray)) w:=by
  unfold execOp;simp[ho,resolve,invoke,Deferred.ofValue,hx,x0]
 rw[e];refine h.mono λe w'⟨v,he,hk⟩=>?_;subst he;exact hk
theorem zen{o:Oper}{f:zV}{args:Array zB}{ts:Array zo}{K:Act->zh->Prop}{R:Exit->Act->zh->Prop}(ho:o.op=.call ⟨.value (.func f),args,ts⟩)(x0:∀(zas:Array zd)(w:zh),(callFunc f zas).run P w=.ok (.enter f zas) w)
  (h:Calls P f (args.toList.map a.eval).toArray w λe w'=>∃v,e=.returned v/\K (a.put o.dst v) w'):o.wp P a w K R:=
 zlv (us:=[]) ho rfl x0 (by rw[zW];exact h)
def RepVs(w:zh)(O:Nat->Prop)(U:Nat->zd)(vs:List V)(us:List zd):Prop:=us.length=vs.length/\∀(i:Nat)(v:V),vs[i]? =some v->∃u,us[i]? =some u/\RepV w O U v.t v.x u
theorem RepVs.append{vs ws:List V}{us ys:List zd}(h:RepVs w O U vs us)(h':RepVs w O U ws ys):RepVs w O U (vs++ws) (us++ys):=by
 refine⟨by simp[h.1,h'.1],λi v hv=>?_⟩;rw[ky]at hv;split at hv
 .rename_i x0;obtain⟨u,h1,h2⟩:=h.2 i v hv;exact⟨u,by rw[ky,if_pos (by rw[h.1];exact x0)];exact h1,h2⟩
 .rename_i x1;obtain⟨u,h1,h2⟩:=h'.2 _ v hv;exact⟨u,by rw[ky,if_neg (by rw[h.1];exact x1),h.1];exact h1,h2⟩
theorem zpD:∀(t:Ty)(x:t.T)(us:List zd),RepCap w O t x us->RepVs w O U (zqd t x) us:=by
 intro t
 induction t with
 |tup a b iha ihb=>
  rintro x us ⟨v,r,rfl,h1,h2⟩;obtain⟨i1,i2⟩:=ihb _ _ h2;refine⟨by simp[zqd,i1],λi y hy=>?_⟩;cases i with
  |zero=>
   cases hy;refine⟨v,rfl,?_⟩;cases a<;>first|exact h1.elim|exact h1
  |succ i=>
   obtain⟨u,h3,h4⟩:=i2 i y (by simpa [zqd] using hy);exact⟨u,by simpa using h3,h4⟩
 |unit=>
  intro x us h;have:us=[]:=h;subst this;exact⟨rfl,λi v hv=>by simp[zqd]at hv⟩
 |_=>intro x us h;exact absurd h (by simp[RepCap])
theorem zj3{y:zd}{f:zV}{cs:List V}(h:zxl y=some (f,cs)):y=.func (.func f) #[] #[]/\cs=[]:=by
 cases y<;>first|(cases h;done)|skip
 rename_i fn p q;cases fn<;>first|(cases h;done)|skip
 rename_i g;obtain⟨p⟩:=p;obtain⟨q⟩:=q;cases p<;>cases q<;>first|(cases h;done)|skip
 cases h;exact⟨rfl,rfl⟩
theorem znM{x:zB}{f:zV}{cs:List V}(h:zhf F x=some (f,cs))(hx:RepV w O U (evO F x).t (evO F x).x (a.eval x)):∃us,a.eval x=.func (.func f) #[] (xQ us)/\RepVs w O U cs us:=by
 unfold zhf at h;split at h
 .rename_i y he;rw[he]at hx;obtain⟨rfl,rfl⟩:=zj3 h;exact⟨[],hx,rfl,λi v hv=>by simp at hv⟩
 .rename_i g t y he;cases h;rw[he]at hx;obtain⟨us,h1,h2⟩:=hx;exact⟨us,h1,zpD _ _ _ h2⟩
 .rename_i y he;rw[he]at hx;have hx:=hx.1 rfl;obtain⟨rfl,rfl⟩:=zj3 h;exact⟨[],hx,rfl,λi v hv=>by simp at hv⟩
 .cases h
theorem zza{x:zB}{args:Array zB}{ts:Array zo}(x0:∀y∈(Op.call ⟨.value x,args,ts⟩).operands,RepV w O U (evO F y).t (evO F y).x (a.eval y)):
  RepVs w O U (args.toList.map (evO F)) (args.toList.map a.eval):=by
 refine⟨by simp,λi v hv=>?_⟩;rw[yP]at hv;obtain⟨y,hy,rfl⟩:=zQ.1 hv;have hm:=xX hy;exact⟨a.eval y,by rw[yP,hy];rfl,x0 y (by simp[xD,wY];exact .inr (by simpa using hm))⟩
theorem zh3{G:zh->Prop}(hC:CsOk P G C)(hG:G w)(hO:∀g,O g->g<w.heap.size)(x3:∀i o,Owns.get E i=some o->OwnRep w O U B (U i) o){o:Oper}{x:zB}{f:zV}{cs:List V}{args:Array zB}{ts:Array zo}(ho:o.op=.call ⟨.value x,args,ts⟩)(x2:zhf F x=some (f,cs))
  {r:List Prop×(c:Ctr)×Args c.args} (h:zu5 C E f (args.toList.map (evO F)++cs)=some r) (hp:allP r.1) (x0:∀x∈o.op.operands,RepV w O U (evO F x).t (evO F x).x (a.eval x)) {K:Act->zh->Prop}{R:Exit->Act->zh->Prop}
  (hK:∀v w',xG w.heap.size w w'->zdb w' (λg=>r.2.1.fl=false/\O g) w.heap.size r.2.1.own r.2.1.res (r.2.1.out r.2.2) v->K (a.put o.dst v) w'):o.wp P a w K R:=by
 unfold zu5 at h;split at h
 .rename_i c hc;split at h
  .rename_i hd;obtain⟨p,xs,h1,h⟩:∃p xs,zdY E c.fl (args.toList.map (evO F)++cs) c.args=some (p,xs)/\(p++c.pre xs,(⟨c,xs⟩:(c:Ctr)×Args c.args))=r:=by
    split at h<;>first|(cases h;done)|skip
    .rename_i xs h1;cases h;exact⟨_,_,h1,rfl⟩
    .rename_i p q xs h1;cases h;exact⟨_,_,h1,rfl⟩
   subst h;simp only[zat]at hp;rw[ho]at x0;obtain⟨us,hx,x4⟩:=znM x2 (x0 x (by simp[xD,wY]));obtain⟨q1,q2⟩:=(zza x0).append x4;have ha:=zdR x3 hd h1 hp.1 q2 q1;obtain⟨x5,x1⟩:=hC f c hc;refine zlv ho hx x5 ((x1 w (λg=>c.fl=false/\O g) xs _ (λg h=>hO g h.2) ha hp.2 hG).mono λe w'⟨v,he,hb,hr⟩=>⟨v,he,hK v w' hb hr⟩)
  .cases h
 .cases h
theorem OwnRep.toView{bv:zd}{te:zo}{Z:Ty}{xs:List Z.T}{O2:Nat->Prop}(h:OwnRep w' O' U B bv (.buf te Z xs))(x1:∀g,g<w'.heap.size->O2 g->O' g)(x0:∀g,O2 g->g<B):RepD w' O2 (.slice Z) xs bv:=
 h.view x1 λg hg x2=>by
  have:=(h.block_lt hg).1;have:=x0 g x2;omega
theorem zwa(hT:TOk P T Q){G:zh->Prop}(hC:CsOk P G C)(hG:G w)(hO:∀g,O g->g<w.heap.size)(x2:∀i o,Owns.get E i=some o->OwnRep w O U B (U i) o){o:Oper}{r:List Prop×V}(h:cOp T Q C E F o.op=some r)(hp:allP r.1)
  (x1:∀x∈o.op.operands,RepV w O U (evO F x).t (evO F x).x (a.eval x)) {K:Act->zh->Prop}{R:Exit->Act->zh->Prop}
  (hK:∀u w',xG w.heap.size w w'->RepV w' O U r.2.t r.2.x u->K (a.put o.dst u) w'):o.wp P a w K R:=by
 have plain:pOp T Q E F o.op=some r->o.wp P a w K R:=λh=>by
  obtain⟨u,w',h1,h2,h3⟩:=zg1 hT hO x2 h hp x1;unfold Oper.wp;rw[h1];exact hK u w' h2 h3
 generalize x7:o.op=op at h;unfold cOp at h;split at h
 .rename_i x args ts;split at h<;>first|(cases h;done)|skip
  rename_i f cs x4;split at h<;>first|(cases h;done)|skip
  rename_i p c xs h1;have h2:=h;split at h2
  .rename_i x0;cases h2;refine zh3 hC hG hO x2 x7 x4 h1 hp x1 λv w' hb hr=>hK v w' hb ?_;simp only[x0]at hr;have x3:RepV w' (λg=>c.fl=false/\O g) U c.res (c.out xs) v:=zcY _ _ _ hr;cases hfl:c.fl with
   |true=>exact zeV hfl x3
   |false=>
    rw[hfl]at x3;exact RepV.keep ⟨zj _,λ_ _ _=>rfl,λg _ h=>⟨rfl,h⟩⟩ _ _ _ x3
  .rename_i te x0;split at h2
   .rename_i Z ys x5 x6;cases h2;have x8:c.fl=false:=by unfold Ctr.fl;rw[x5];rfl
    refine zh3 hC hG hO x2 x7 x4 h1 hp x1 λv w' hb hr=>hK v w' hb ?_;simp only[x0]at hr;have x3:OwnRep w' (λg=>(c.fl=false/\O g)\/zag v=some g) U w.heap.size v (.buf te Z ys):=by
     revert hr;generalize c.out xs=x at x6 ⊢;revert x;rw[x5];intro x hx hr;cases hx;exact hr
    exact zcI (x3.toView (λg _ h=>.inl ⟨x8,h⟩) λg h=>hO g h)
   .cases h2
 .exact plain (by rw[x7];exact h)
end
abbrev UTbl:=List (zo×zo)
def uget:List (zo×zo)->zo->Option zo
 | [],_=>none
 |(s,e)::r,t=>bif yK s t then some e else uget r t
def UOk(P:zw)(U0:UTbl):Prop:=∀t e,uget U0 t=some e->P.underlying t=some (.slice e)
structure RCtr where
 self:Ty
 args:List Ty
 inv:zh->Nat->Prop
 pre:self.T->Args args->List Prop
 res:Ty
 out:self.T->Args args->res.T
 post:self.T->Args args->self.T
def zfU(P:zw)(G:zh->Prop)(f:zV)(c:RCtr):Prop:=
 (∀(zas:Array zd)(w:zh),(callFunc f zas).run P w=.ok (.enter f zas) w)/\
 ∀(w:zh)(O:Nat->Prop)(g:Nat)(cs:List zd)(ty:zo)(x:c.self.T)(xs:Args c.args)(vs:List zd),(∀h,O h->h<w.heap.size/\h≠g)->w.heap[g]? =some (.cells cs.toArray ty (0,0))->
  RepC w (λh=>O h\/h=g) c.self x cs->RepA w (λh=>O h\/h=g) c.args xs vs->allP (c.pre x xs)->c.inv w g->G w->
  Calls P f (Value.pointer (some ⟨g,0,none⟩)::vs).toArray w λe w'=>∃v cs' ty',e=.returned v/\Kept (λh=>h=g) w w'/\w'.heap[g]? =some (.cells cs'.toArray ty' (0,0))/\
   RepC w' (λh=>O h\/h=g) c.self (c.post x xs) cs'/\(c.res=.unit\/zdb w' (λh=>O h\/h=g) w.heap.size none c.res (c.out x xs) v)
def rget:List (zV×RCtr)->zV->Option RCtr
 | [],_=>none
 |(g,c)::r,f=>bif yK g f then some c else rget r f
def RsOk(P:zw)(G:zh->Prop)(C:List (zV×RCtr)):Prop:=∀f c,rget C f=some c->zfU P G f c/\∀w g,c.inv w g
theorem RsOk.nil{P:zw}{G:zh->Prop}:RsOk P G []:=λ_ _ h=>by cases h
theorem RsOk.cons{P:zw}{G:zh->Prop}{f:zV}{c:RCtr}{C:List (zV×RCtr)}(h:zfU P G f c)(hi:∀w g,c.inv w g)(hC:RsOk P G C):RsOk P G ((f,c)::C):=by
 intro g d hg;simp only[rget,cond_eq_ite,xV]at hg;split at hg
 .rename_i e;cases hg;exact e▸⟨h,hi⟩
 .exact hC g d hg
structure Kn where
 T:Tbl
 Q:List zo
 U0:UTbl
 C:Ctrs
 cut:Bool:=false
 H:List zo:=[]
 R:List (zV×RCtr):=[]
structure KnOk(P:zw)(G:zh->Prop)(K:Kn):Prop where
 t:TOk P K.T K.Q
 u:UOk P K.U0
 c:CsOk P G K.C
 st:∀w w',G w->xG w.heap.size w w'->G w'
 r:RsOk P G K.R
def frz(Y:AS)(x:zB):AS:=
 match evO Y.F x with
 |⟨.obuf _,i⟩=>match Owns.get Y.E i with
  |some (.buf _ t xs)=>{ F:=Frame.thaw i t xs Y.F,E:=(i,none)::Y.E,nx:=Y.nx }
  |_=>Y
 |_=>Y
def frzs:AS->List zB->AS
 |Y,[]=>Y
 |Y,x::r=>frzs (frz Y x) r
def zAO(F:Frame)(C:Ctrs):Op->List zB
 |.box _ x=>[x]
 |.store _ _ x=>[x]
 |.build _ ps=>ps.toList.map (·.2)
 |.buildSlice _ _ ps=>ps.toList.map (·.2)
 |.slice _ x _ _ _=>[x]
 |.call ⟨.value x,args,_⟩=>match zhf F x with
  |some (f,_)=>match cget C f with
   |some c=>bif c.fl then [] else args.toList
   |none=>[]
  |none=>[]
 |_=>[]
def zqM(te:zo)(s:Ty)(xs:List s.T){t:Ty}:(r:Ty)->Path r t->t.T->Option (PLift (.slice s=r))->Option (List Prop×OObj)
 |_,p,y,some ⟨rfl⟩=>match p.setO xs y with
  |some z=>some (p.vcs xs,.buf te s z)
  |none=>none
 |_,_,_,none=>none
def OObj.set{r t:Ty}(o:OObj)(p:Path r t)(y:t.T):Option (List Prop×OObj):=
 match o with
 |.box s x=>if p.isElm=false then(match zu2 s r x (zfE s r) with |some z=>(match p.setO z y with |some z'=>some (p.vcs z,.box r z')|none=>none)|none=>none) else none
 |.buf te s xs=>if p.isElm=true then zqM te s xs r p y (zfE (.slice s) r) else none
 |.hbox _ _=>none
 |.mp _ _=>none
def AS.put(Y:AS)(d:Nat)(v:V):AS:={ Y with F:=(d,v)::Y.F }
def zzz:V->Bool
 |⟨.lit,.slice none 0 0⟩=>true
 |_=>false
def Ty.hand:Ty->Bool
 |.optr _|.obuf _=>true
 |.cond t=>t.hand
 |.hptr=>true
 |.hcons _ _=>true
 |_=>false
def zg9:Op->Bool
 |.move _|.assign _|.nilCheck _|.indexAddr _ _ _|.fieldAddr _ _ _|.load _ _=>true
 |_=>false
def appV(K:Kn)(F:Frame)(E:Owns)(nx:Nat)(d:Nat)(t:zo)(s x:V):Option (List Prop×AS):=
 match uget K.U0 t with
 |some te=>
  match s with
  |⟨.obuf _,i⟩=>match Owns.get E i with
   |some (.buf te' Z xs)=>
    if tis K.T t (.slice Z)&&yK te te'&&qO (24*Z.size) 100000 then(match coe (.slice Z) (dat E x) with
     |some ys=>some ([zi xs+zi ys<=1000000000],⟨(d,⟨.obuf Z,i⟩)::Frame.kill i F,(i,some (.buf te Z (xs++ys)))::Owns.kill i E,nx⟩)
     |none=>none) else none
   |_=>none
  |s=>if zzz s then(match tget K.T t with
   |some (.slice Z)=>if qO (24*Z.size) 100000&&zM 0 Z.size then(match coe (.slice Z) (dat E x) with
    |some ys=>some ([zi ys<=1000000000],⟨(d,⟨.obuf Z,nx⟩)::F,(nx,some (.buf te Z ys))::E,nx+1⟩)
    |none=>none) else none
   |_=>none) else none
 |none=>none
def preS:List Prop->Option (List Prop×AS)->Option (List Prop×AS)
 | [],o=>o
 |a::A,o=>match preS A o with
  |some (p,Y)=>some (a::p,Y)
  |none=>none
noncomputable def zsM(K:Kn)(n:Nat)(dst:Option Nat)(op:Op)(Y:AS):Option (List Prop×AS):=
 match Y with
 |⟨F,E,nx⟩=>match dst with
  |none=>match op with
   |.store t p x=>match (zaM (evO F p)).2 with
    |⟨.optr Z,⟨i,r,q⟩⟩=>match Owns.get E i with
     |some o=>if tis K.T t Z then(match coe Z (zaM (evO F x)).2 with
      |some y=>(match OObj.set (r:=r) o q y with
       |some (vc,o')=>some ((zaM (evO F p)).1++(zaM (evO F x)).1++vc,⟨F,(i,some o')::E,nx⟩)
       |none=>none)
      |none=>none) else none
     |none=>none
    |_=>none
   |_=>none
  |some d=>if zM d n then(match op with
   |.alloc t=>match tget K.T t with
    |some Z=>some ([],⟨(d,⟨.optr Z,⟨nx,Z,.here⟩⟩)::F,(nx,some (.box Z (zav Z)))::E,nx+1⟩)
    |none=>none
   |.box t x=>match tget K.T t with
    |some Z=>(match coe Z (zaM (evO F x)).2 with
     |some y=>some ((zaM (evO F x)).1,⟨(d,⟨.optr Z,⟨nx,Z,.here⟩⟩)::F,(nx,some (.box Z y))::E,nx+1⟩)
     |none=>none)
    |none=>none
   |.buildSlice t len parts=>match uget K.U0 t,zcz K.T t len (parts.toList.map λp=>(p.1,evO F p.2)) with
    |some te,some (p,⟨e,xs⟩)=>some (p,⟨(d,⟨.obuf e,nx⟩)::F,(nx,some (.buf te e xs))::E,nx+1⟩)
    |_,_=>none
   |.makeSlice t l c=>match uget K.U0 t,tget K.T t,(zaM (evO F l)).2,(zaM (evO F c)).2 with
    |some te,some (.slice Z),⟨.int .i64,x⟩,⟨.int .i64,y⟩=>if qO (24*Z.size) 100000&&zM 0 Z.size then some ((zaM (evO F l)).1++(zaM (evO F c)).1++[0<=(x:Int),(x:Int)<=y,(y:Int)<=1000000000],⟨(d,⟨.obuf Z,nx⟩)::F,(nx,some (.buf te Z (zr (x:Int).toNat (zav Z))))::E,nx+1⟩) else none
    |_,_,_,_=>none
   |.call ⟨.builtin .append,args,ts⟩=>match args.toList,ts.toList with
    | [s,x],[t,u]=>if yK t u then preS ((zaM (evO F s)).1++(zaM (evO F x)).1) (appV K F E nx d t (zaM (evO F s)).2 (zaM (evO F x)).2) else none
    |_,_=>none
   |.call ⟨.value x,args,ts⟩=>match zhf F x with
    |some (f,cs)=>match zu5 K.C E f (args.toList.map (evO F)++cs) with
     |some (p,⟨c,xs⟩)=>match c.own with
      |none=>if c.res.hand then none else some (p,⟨(d,⟨c.res,c.out xs⟩)::F,E,nx⟩)
      |some te=>match c.res,c.out xs with
       |.slice Z,ys=>some (p,⟨(d,⟨.obuf Z,nx⟩)::F,(nx,some (.buf te Z ys))::E,nx+1⟩)
       |_,_=>none
     |none=>none
    |none=>none
   |op=>match pOp K.T K.Q E F op with
    |some (p,⟨t,x⟩)=>if !t.hand||zg9 op then some (p,⟨(d,⟨t,x⟩)::F,E,nx⟩) else none
    |none=>none) else none
def znJ(c:Bool):V->V
 |⟨.cond t,x⟩=>⟨.cond t,(c&&x.1,x.2)⟩
 |⟨t,x⟩=>⟨.cond t,(c,x)⟩
def zxK:V->Bool->Option Bool
 |⟨.bool,b⟩,true=>some b
 |⟨.bool,b⟩,false=>some (!b)
 |⟨.cond .bool,(c,b)⟩,true=>some (c&&b)
 |⟨.cond .bool,(c,b)⟩,false=>some (c&& !b)
 |_,_=>none
def impV(c:Bool):List Prop->V->Res
 | [],v=>some ([],znJ c v)
 |p::r,v=>some ([c=true->allP (p::r)],znJ c v)
theorem zmk{c:Bool}{l:List Prop}{v:V}{r:List Prop×V}(h:impV c l v=some r):(impP c l,znJ c v)=r:=by
 cases l<;>(cases h;rfl)
noncomputable def gOp(K:Kn)(n:Nat)(ops:Array Oper)(E:Owns)(F:Frame)(o:Oper):Res:=
 match o.guard with
 |none=>match cOp K.T K.Q K.C E F o.op with
  |some (p,⟨t,x⟩)=>if !t.hand||zg9 o.op then some (p,⟨t,x⟩) else none
  |none=>none
 |some (j,want)=>
  match (ops[j]?).bind (·.dst) with
  |some dj=>if zM dj n then(match zxK (Frame.get F dj) want,cOp K.T K.Q K.C E F o.op with
   |some c,some (p,v)=>if !v.t.hand||zg9 o.op then impV c p v else none
   |_,_=>none) else none
  |none=>none
def zxg(K:Kn)(n:Nat)(o:Oper):AS->Option (List Prop×AS)
 |⟨F,E,nx⟩=>match o.op,o.dst with
  |.convert s t x,some d=>match (zaM (evO F x)).2 with
   |⟨.obuf _,i⟩=>match Owns.get E i with
    |some (.buf _ (.int .u8) xs)=>if yK s t&&tis K.T s (.slice (.int .u8))&&zM d n then some ((zaM (evO F x)).1++[0<zi xs],⟨(d,⟨.slice (.int .u8),xs⟩)::Frame.thaw i (.int .u8) xs F,(i,none)::E,nx⟩) else none
    |_=>none
   |_=>none
  |_,_=>none
def cutS(K:Kn)(n:Nat)(o:Oper):AS->Option (List Prop×AS)
 |⟨F,E,nx⟩=>if K.cut=true then(match o.op,o.dst with
  |.slice s x none (some h) none,some d=>match (zaM (evO F x)).2,numV (evO F h) with
   |⟨.obuf _,i⟩,some j=>match Owns.get E i with
    |some (.buf te Z xs)=>if tis K.T s (.slice Z)&&zM d n then some ((zaM (evO F x)).1++[0<=j,j<=((zi xs:Nat):Int)],⟨(d,⟨.obuf Z,i⟩)::Frame.kill i F,(i,some (.buf te Z (ki j.toNat xs)))::Owns.kill i E,nx⟩) else none
    |_=>none
   |_,_=>none
  |_,_=>none) else none
def zxH(K:Kn)(n:Nat)(o:Oper):AS->Option (List Prop×AS)
 |⟨F,E,nx⟩=>match o.op,o.dst with
  |.store t p x,none=>match (zaM (evO F p)).2 with
   |⟨.hptr,(i,k)⟩=>match Owns.get E i,tget K.T t with
    |some (.hbox ty vs),some Z=>match putH E Z.size k vs (zaM (evO F x)).2 with
     |some ws=>some ((zaM (evO F p)).1++(zaM (evO F x)).1,⟨F,(i,some (.hbox ty ws))::E,nx⟩)
     |none=>none
    |_,_=>none
   |_=>none
  |.alloc t,some d=>if K.H.any (yK t)&&zM d n then(match tget K.T t with
   |some Z=>if(zbw Z).all jN=true then some ([],⟨(d,⟨.hptr,(nx,0)⟩)::F,(nx,some (.hbox t ((zbw Z).map evC)))::E,nx+1⟩) else none
   |none=>none) else none
  |.build t parts,some d=>if K.H.any (yK t)&&zM d n&&parts.toList.isEmpty then(match tget K.T t with
   |some (.pair a b)=>some ([],⟨(d,⟨.lit,.agg (xQ (zbw (.pair a b)))⟩)::F,E,nx⟩)
   |_=>none) else none
  |_,_=>none
def Ty.resOk:Ty->Bool
 |.tup a b=>a.data&&b.resOk
 |t=>t.data
def resV:(t:Ty)->t.T->V
 |.unit,_=>⟨.junk,()⟩
 |t,x=>⟨t,x⟩
def putD(n:Nat)(d:Option Nat)(v:V)(F:Frame):Option Frame:=
 match d with
 |some d=>if zM d n then some ((d,v)::F) else none
 |none=>some F
def zwW(C:List (zV×RCtr))(n:Nat)(o:Oper)(Y:AS):Option (List Prop×AS):=
 match o.op with
 |.call ⟨.value (.func f),args,_⟩=>match args.toList,rget C f with
  |a0::zas,some c=>match frzs Y zas with
   |⟨F,E,nx⟩=>match evO F a0 with
    |⟨.optr _,p⟩=>match Owns.get E p.i with
     |some (.box s x)=>if yK p.p.off 0&&zaN c.args&&c.res.resOk&&c.self.data then
      (match coe c.self ⟨s,x⟩,zdY E false (zas.map (evO F)) c.args with
       |some y,some (q,xs)=>(match putD n o.dst (resV c.res (c.out y xs)) F with
        |some F'=>some (q++c.pre y xs,⟨F',(p.i,some (.box c.self (c.post y xs)))::E,nx⟩)
        |none=>none)
       |_,_=>none) else none
     |_=>none
    |_=>none
  |_,_=>none
 |_=>none
noncomputable def zje(K:Kn)(n:Nat)(ops:Array Oper)(o:Oper)(Y:AS):Option (List Prop×AS):=
 match o.guard with
 |none=>match zxg K n o Y with
  |some r=>some r
  |none=>match cutS K n o Y with
   |some r=>some r
   |none=>match zxH K n o Y with
    |some r=>some r
    |none=>match zwW K.R n o Y with
     |some r=>some r
     |none=>zsM K n o.dst o.op (frzs Y (zAO Y.F K.C o.op))
 |some _=>
  match o.dst,Y with
  |some d,⟨F,E,nx⟩=>if zM d n then(match gOp K n ops E F o with
   |some (p,⟨t,x⟩)=>some (p,⟨(d,⟨t,x⟩)::F,E,nx⟩)
   |none=>none) else none
  |none,_=>none
noncomputable def aSeq(K:Kn)(n:Nat)(ops:Array Oper):List Oper->AS->Option (List Prop×AS)
 | [],Y=>some ([],Y)
 |o::r,Y=>match zje K n ops o Y with
  |some (p,Y')=>preS p (aSeq K n ops r Y')
  |none=>none
noncomputable def znX(K:Kn)(n:Nat)(ops:Array Oper):List Oper->AS->Option (List Prop×AS)
 | [],Y=>some ([],Y)
 |o::r,⟨F,E,nx⟩=>match o.dst with
  |some d=>if zM d n then(match gOp K n ops E F o with
   |some (p,⟨t,x⟩)=>preS p (znX K n ops r ⟨(d,⟨t,x⟩)::F,E,nx⟩)
   |none=>none) else none
  |none=>none
def zqP(ops:Array Oper)(o:Oper):List Nat:=
 (o.op.operands.toList.filterMap λx=>match x with |.tmp t=>some t|_=>none)++(match o.guard with |some (j,_)=>((ops[j]?).bind (·.dst)).toList|none=>[])
def zBc(ops:Array Oper)(m:Nat):Bool:=
 (qB m).all λj=>match ops[j]? with
   |some oj=>(qB m).all λi=>match ops[i]? with
    |some oi=>(yK i j|| !(oi.dst==oj.dst))&&((zqP ops oj).all λt=>!(oi.dst==some t)||(zM i j&&oj.after.any λe=>yK e.on i&&Region.binds .any e))
    |none=>false
   |none=>false
def zgO(ops:Array Oper):Bool:=(qB ops.size).all λi=>match ops[i]? with |some o=>o.after.all λe=>zM e.on i|| !Region.binds .any e|none=>false
def zsl(ops:Array Oper)(m:Nat):Bool:=
 qO m ops.size&&zBc ops m&&zgO ops&&(yK m ops.size||(Region.sinkB .any ops m&&Region.chainB .any ops m))&&
  Region.seqB .any ops (ops.size-m) m (zr m true++zr (ops.size-m) false).toArray
section
variable {P:zw}{K:Kn}{w0:zh}{X:Ownr}{n:Nat}{Y:AS}{U:Nat->zd}{a:Act}{w:zh}
theorem Sim.hO(h:Sim w0 X n Y U a w)(hX:X.Ok w0):∀g,OSet X Y.E U g->g<w.heap.size:=by
 rintro g (hg|⟨i,o,h1,h2⟩)
 .exact zy (hX.1 g hg).1 h.bel.size
 .exact((h.own i o h1).block_lt h2).2
theorem Sim.ops(h:Sim w0 X n Y U a w)(x:zB):RepV w (OSet X Y.E U) U (evO Y.F x).t (evO Y.F x).x (a.eval x):=
 zsF λs _=>h.fr s
theorem Sim.frz(h:Sim w0 X n Y U a w)(hX:X.Ok w0)(x:zB):Sim w0 X n (frz Y x) U a w:=by
 unfold Go.Proofs.YthbecdbmifchiaaGreatDoor.frz;split
 .split
  .rename_i he;exact h.freeze hX he
  .exact h
 .exact h
theorem Sim.frzs(h:Sim w0 X n Y U a w)(hX:X.Ok w0)(l:List zB):Sim w0 X n (frzs Y l) U a w:=by
 induction l generalizing Y with
 |nil=>exact h
 |cons x l ih=>exact ih (h.frz hX x)
theorem zh4:∀(t:Ty)(x:t.T),t.data=true->bnd t x=0:=by
 intro t x h;cases t<;>first|rfl|cases h
theorem zig(v:V):(zaM v).2.bound<=v.bound:=by
 obtain⟨t,x⟩:=v;cases t<;>exact zj _
theorem zff{F:Frame}{m:Nat}(h:∀s,(Frame.get F s).bound<=m)(x:zB):(evO F x).bound<=m:=by
 cases x with
 |tmp s=>exact h s
 |const v=>
  show(evC v).bound<=m;have:(evC v).bound=0:=by
   cases v with
   |int k n=>
    have key:∀(k:xT)(x:IntT k),(if encI k x=n then(⟨.int k,x⟩:V) else ⟨.lit,.int k n⟩).bound=0:=by
     intro k x;split<;>rfl
    cases k<;>first|exact key _ _|rfl
   |string s=>
    simp only[evC];cases qO s.data.toList.length 1000000<;>rfl
   |_=>rfl
  omega
 |global g=>exact zk _
 |func f=>exact zk _
theorem zln:∀(t:Ty)(x:t.T),t.hand=false->bnd t x=0:=by
 intro t
 induction t with
 |cond t ih=>intro x h;exact ih _ h
 |optr=>intro x h;cases h
 |obuf=>intro x h;cases h
 |hptr=>intro x h;cases h
 |hcons=>intro x h;cases h
 |_=>intro x h;rfl
theorem zl0{T:Tbl}{Q:List zo}{E:Owns}{F:Frame}{op:Op}{r:List Prop×V}(h:pOp T Q E F op=some r)(hh:(!r.2.t.hand||zg9 op)=true){m:Nat}(hF:∀s,(Frame.get F s).bound<=m)(hE:∀i o,Owns.get E i=some o->i<m/\o.under m)(hT:∀t Z,tget T t=some Z->Z.data=true):r.2.bound<=m:=by
 cases hr:r.2.t.hand with
 |false=>show bnd _ _<=m;rw[zln _ _ hr];exact zk _
 |true=>
  rw[hr]at hh;have sb:∀x,(zaM (evO F x)).2.bound<=m:=λx=>zJ (zig _) (zff hF x);cases op<;>first|(cases hh;done)|skip
  .cases h;exact zff hF _
  .cases h;exact zff hF _
  .rename_i t x;obtain⟨q,h1,rfl⟩:=zbu h;have x0:∀(Z:Ty)(y:Z.T),tget T t=some Z->bnd Z y<=m:=λZ y x1=>by rw[zh4 _ _ (hT _ _ x1)];exact zk _
   unfold zl6 at h1;split at h1
   .split at h1<;>first|(cases h1;done)|skip
    rename_i hs;cases h1;exact x0 _ _ (zkg hs)
   .split at h1<;>first|(cases h1;done)|skip
    rename_i hs;cases h1;exact x0 _ _ (zkg hs)
   .split at h1<;>first|(cases h1;done)|skip
    split at h1<;>first|(cases h1;done)|skip
    rename_i hs;split at h1<;>first|(cases h1;done)|skip
    split at h1<;>first|(cases h1;done)|skip
    cases h1;simp only[zf]at hs;exact x0 _ _ (zkg hs.1)
   .split at h1<;>first|(cases h1;done)|skip
    rename_i vs he;split at h1<;>first|(cases h1;done)|skip
    rename_i Z x1;split at h1
    .split at h1<;>first|(cases h1;done)|skip
     cases h1;exact x0 _ _ x1
    .split at h1<;>first|(cases h1;done)|skip
     rename_i v r hv;split at h1<;>first|(cases h1;done)|skip
     cases h1;have hm:=List.mem_of_mem_drop (by rw[hv];exact zC);exact(hE _ _ he).2 vs rfl v hm
   .cases h1
  .rename_i x;have:=sb x;simp only[pOp]at h;split at h<;>first|(cases h;done)|skip
   .rename_i he;cases h;rw[he]at this;exact this
   .rename_i he;cases h;rw[he]at this;exact this
   .rename_i he;cases h;rw[he]at this;exact this
  .rename_i s x f;obtain⟨q,h1,rfl⟩:=zbu h;have:=sb x;unfold zfy at h1;split at h1
   .split at h1<;>first|(cases h1;done)|skip
    split at h1<;>first|(cases h1;done)|skip
    split at h1<;>first|(cases h1;done)|skip
    cases h1;exact zk _
   .split at h1<;>first|(cases h1;done)|skip
    split at h1<;>first|(cases h1;done)|skip
    split at h1<;>first|(cases h1;done)|skip
    cases h1;exact zk _
   .rename_i he;split at h1<;>first|(cases h1;done)|skip
    split at h1<;>first|(cases h1;done)|skip
    split at h1<;>first|(cases h1;done)|skip
    cases h1;rw[he]at this;exact this
   .rename_i he;split at h1<;>first|(cases h1;done)|skip
    split at h1<;>first|(cases h1;done)|skip
    split at h1<;>first|(cases h1;done)|skip
    cases h1;rw[he]at this;exact this
   .cases h1
  .rename_i t x i;obtain⟨q,h1,rfl⟩:=zbu h;have:=sb x;unfold zfw at h1;split at h1
   .split at h1<;>first|(cases h1;done)|skip
    cases h1;exact zk _
   .split at h1<;>first|(cases h1;done)|skip
    cases h1;exact zk _
   .rename_i he _;split at h1<;>first|(cases h1;done)|skip
    cases h1;rw[he]at this;exact this
   .rename_i he _;split at h1<;>first|(cases h1;done)|skip
    split at h1<;>first|(cases h1;done)|skip
    cases h1;rw[he]at this;exact this
   .cases h1
theorem Sim.puts(h:Sim w0 X n Y U a w){w':zh}(hk:xG w.heap.size w w'){v:V}{u:zd}(hr:RepV w' (OSet X Y.E U) U v.t v.x u)(hb:v.bound<=Y.nx){d:Nat}(hd:d<n):Sim w0 X n (Y.put d v) U (a.put (some d) u) w':=
 h.put hk hr hb hd
theorem Path.set_rep:∀{r t:Ty}(p:Path r t)(x:r.T)(y:t.T)(cs c:List zd){O:Nat->Prop},zdh w O p.isElm r x cs->allP (p.vcs x)->RepC w O t y c->zdh w O p.isElm r (p.set x y) (over cs p.off c):=by
 intro r t p
 induction p with
 |here=>
  intro x y cs c O h _ hc;have l1:=RepC.len _ _ _ h;have l2:=RepC.len _ _ _ hc;have:over cs 0 c=c:=by simp[over,l1,l2]
  simp only[Path.off,this];exact hc
 | @fst r a b p ih=>
  intro x y cs c O h hv hc;obtain⟨⟨c1,c2,h1,h2,h3⟩,h4⟩:=Path.rep p x cs h hv;have l0:=RepC.len _ _ _ hc;have l1:=RepC.len _ _ _ h2;have l2:=RepC.len _ _ _ h3;simp only[Ty.size]at h1 h4;have:=ih x (y,(p.get x).2) cs (c++c2) h hv ⟨c,c2,rfl,hc,h3⟩;have e:over cs p.off (c++c2)=over cs p.off c:=by
   have hd:cs.drop (p.off+a.size)=c2++cs.drop (p.off+a.size+b.size):=by
    have h5:cs.drop p.off=c1++c2++(cs.drop p.off).drop (a.size+b.size):=by
     rw[<-h1,jC]
    rw[<-vl,h5,zz, <-l1,vh,vl,qX]
   simp only[over,zg,l0,l2];rw[<-qX,hd];simp
  rw[e]at this;exact this
 | @snd r a b p ih=>
  intro x y cs c O h hv hc;obtain⟨⟨c1,c2,h1,h2,h3⟩,h4⟩:=Path.rep p x cs h hv;have l0:=RepC.len _ _ _ hc;have l1:=RepC.len _ _ _ h2;simp only[Ty.size]at h1 h4;have:=ih x ((p.get x).1,y) cs (c1++c) h hv ⟨c1,c,rfl,h2,hc⟩;have e:over cs p.off (c1++c)=over cs (p.off+a.size) c:=by
   have hd:cs.take (p.off+a.size)=cs.take p.off++c1:=by
    have h5:(cs.drop p.off).take a.size=c1:=by
     have h6:((cs.drop p.off).take (a.size+b.size)).take a.size=c1:=by rw[h1, <-l1,ju]
     rwa[vk,qe o_]at h6
    rw[<-h5,List.take_add]
   simp only[over,zg,l0,l1,hd];simp[qX]
  rw[e]at this;exact this
 | @idx r t n p k ih=>
  intro x y cs c O h hv hc;rw[Path.vcs,zat]at hv;have hk:k<n:=hv.2;obtain⟨⟨h1,h2⟩,h4⟩:=Path.rep p x cs h hv.1;simp only[Ty.size]at h2 h4;have l0:=RepC.len _ _ _ hc;have hlen:zi (p.get x)=n:=h1;have x0:=h2.set (λx c=>RepC.len t x c) (show k<zi (p.get x) by omega) hc;have:=ih x (pc (p.get x) k y) cs _ h hv.1 ⟨by simp[hlen],x0⟩;have e:over cs p.off (((cs.drop p.off).take (n*t.size)).take (k*t.size)++c++((cs.drop p.off).take (n*t.size)).drop (k*t.size+t.size))=over cs (p.off+k*t.size) c:=by
   have x1:k*t.size+t.size<=n*t.size:=by
    have:=jm t.size (show k+1<=n by omega);rwa[jl,wP]at this
   have hl:(((cs.drop p.off).take (n*t.size)).take (k*t.size)++c++((cs.drop p.off).take (n*t.size)).drop (k*t.size+t.size)).length=n*t.size:=by
    simp[l0];omega
   simp only[over,hl,l0];rw[List.take_add (i:=p.off) (j:=k*t.size),vk,qe o_,kx,vl];have e3:cs.drop (p.off+k*t.size+t.size)=((cs.drop (p.off+(k*t.size+t.size))).take (n*t.size-(k*t.size+t.size)))++cs.drop (p.off+n*t.size):=by
    have h7:=(jC (n*t.size-(k*t.size+t.size)) (cs.drop (p.off+(k*t.size+t.size)))).symm;rw[vl,show p.off+(k*t.size+t.size)+(n*t.size-(k*t.size+t.size))=p.off+n*t.size by omega]at h7;rw[qX];exact h7
   rw[e3];simp
  rw[e]at this;exact this
 | @elm t k=>
  intro x y cs c O h hv hc;have hk:=hv;have h':=h;have l0:=RepC.len _ _ _ hc;have:=h'.set (λx c=>RepC.len t x c) hk hc;simp only[over,l0];exact this
theorem zeC(w:zh)(g:Nat)(cs:Array zd):w.grownBy (w.setRow g cs) (some g):=
 ⟨rfl,rfl,rfl,by simp,λk _ x0=>setRow_other w g k cs (λe=>x0 (by rw[e]))⟩
theorem zlP{w w':zh}{O O':Nat->Prop}(hk:Keeps w w' O O'):∀(e:Bool)(r:Ty)(x:r.T)(cs:List zd),zdh w O e r x cs->zdh w' O' e r x cs
 |false,r,x,cs,h=>RepC.keep hk _ _ _ h
 |true,.slice s,x,cs,h=>RepL.mono h λy _ c=>RepC.keep hk _ _ _
 |true,.bool,_,_,h=>h.elim
 |true,.int _,_,_,h=>h.elim
 |true,.str,_,_,h=>h.elim
 |true,.unit,_,_,h=>h.elim
 |true,.pair _ _,_,_,h=>h.elim
 |true,.arr _ _,_,_,h=>h.elim
 |true,.junk,_,_,h=>h.elim
 |true,.lit,_,_,h=>h.elim
 |true,.vptr _,_,_,h=>h.elim
 |true,.cptr _ _ _,_,_,h=>h.elim
 |true,.optr _,_,_,h=>h.elim
 |true,.obuf _,_,_,h=>h.elim
 |true,.tup _ _,_,_,h=>h.elim
 |true,.cond _,_,_,h=>h.elim
theorem OwnRep.anew{O:Nat->Prop}{B:Nat}{bv:zd}{o:OObj}(h:OwnRep w O U B bv o)(hH:o.noH=true){g:Nat}(hg:zag bv=some g):
  ∃cs cur ty,zdh w O o.isBuf o.v.t o.v.x cs/\w.heap[g]? =some (.cells cur ty (0,0))/\cs.length<=cur.size/\cur.toList.take cs.length=cs/\
   ∀(w':zh)(O':Nat->Prop)(o':OObj)(x1:List zd)(x0:Array zd),o'.isBuf=o.isBuf->(∀te t xs,o=.buf te t xs->∃ys:List t.T,o'=.buf te t ys/\ys.length=xs.length)->zdh w' O' o'.isBuf o'.v.t o'.v.x x1->x1.length=cs.length->x0.size=cur.size->x0.toList.take cs.length=x1->w'.heap[g]? =some (.cells x0 ty (0,0))->OwnRep w' O' U B bv o':=by
 cases o with
 |box t x=>
  obtain⟨g',cs,ty,rfl,h1,h2,h3⟩:=h;cases hg;refine⟨cs,cs.toArray,ty,h3,h2,by simp,by simp,λw' O' o' x1 x0 hb _ hr hl hs ht hh=>?_⟩;cases o' with
  |buf te t ys=>cases hb
  |hbox ty' vs=>
   have x3:=hr;exact x3.elim
  |mp m I=>
   have x3:=hr;exact x3.elim
  |box t' x'=>
   refine⟨g',x0.toList,ty,rfl,h1,by simpa using hh,?_⟩;have:x0.toList=x1:=by rw[<-ht,jc (by simp[hs])]
   rw[this];exact hr
 |hbox ty vs=>cases hH
 |mp m I=>cases hH
 |buf te t xs=>
  obtain⟨cs,h1,h2,h3⟩:=h;rcases h2.2 with ⟨rfl,_⟩|⟨g',cap,cur,rfl,h4,h5,h6,h7,h8,h9⟩
  .cases hg
  .cases hg;have x2:=h2.1;have x5:cs.length<=cur.size:=by rw[x2,h8];exact jm _ h6
   refine⟨cs,cur,te,h1,h5,x5,by rw[x2];exact h9,λw' O' o' x1 x0 hb x4 hr hl hs ht hh=>?_⟩;obtain⟨ys,rfl,hy⟩:=x4 te t xs rfl;refine⟨x1,hr,⟨by rw[hl,x2,hy],.inr ⟨g',cap,x0,by rw[hy],h4,hh,by rw[hy];exact h6,h7,by rw[hs];exact h8,by rw[hy, <-x2];exact ht⟩⟩,h3⟩
theorem zx6:∀{r t:Ty}(p:Path r t)(s:Ty)(h:r=.slice s)(x:r.T)(y:t.T),p.isElm=true->zi (h▸p.set x y:(Ty.slice s).T)=zi (h▸x:(Ty.slice s).T):=by
 intro r t p
 induction p with
 |here=>intro s h x y he;cases he
 |fst p ih=>intro s h x y he;exact ih s h x _ he
 |snd p ih=>intro s h x y he;exact ih s h x _ he
 |idx p k ih=>intro s h x y he;exact ih s h x _ he
 |elm k=>intro s h x y he;cases h;exact List.length_set
theorem zmY{B:Nat}{O:Nat->Prop}{bv:zd}{o o':OObj}(x8:OwnRep w O U B bv o){g:Nat}(hg:zag bv=some g)(xh:O g){Z:Ty}{t:zo}(ht:Lay P Z (.inl t)){root:Ty}{p:Path root Z}{y:Z.T}{vc:List Prop}(x0:o.set p y=some (vc,o'))(hp:allP vc){u:zd}(hu:RepD w O Z y u):
  ∃w',(Instr.storeAt t (.pointer (some ⟨g,p.off,none⟩)) u).run P w=.ok () w'/\w.grownBy w' (some g)/\(Keeps w w' O O->OwnRep w' O U B bv o')/\o'.isBuf=o.isBuf:=by
 obtain⟨cs,cur,ty,h1,h2,h3,h4,h5⟩:=x8.anew (by cases o<;>first|rfl|(cases x0)) hg;have hc:=hu.cells;have x2:=RepC.len _ _ _ hc;have x1:∃x:root.T,zdh w O p.isElm root x cs/\allP (p.vcs x)/\o'.isBuf=o.isBuf/\(∀te t xs,o=.buf te t xs->∃ys:List t.T,o'=.buf te t ys/\(ys.length=xs.length))/\(∀w' O' x5,zdh w' O' p.isElm root (p.set x y) x5->zdh w' O' o'.isBuf o'.v.t o'.v.x x5):=by
  cases o with
  |box s x=>
   simp only[OObj.set]at x0;split at x0
   .rename_i he;split at x0
    .rename_i z hz;rw[Path.setO_eq]at x0;cases x0;have xf:=zka hz;refine⟨z,?_,hp,rfl,?_,?_⟩
     .rw[he];have xb:=h1;rw[show(OObj.box s x).v=⟨root,z⟩ from xf]at xb;exact xb
     .intro xd t' xe h;cases h
     .intro w' O' x5 h;rw[he]at h;exact h
    .cases x0
   .cases x0
  |buf te s xs=>
   simp only[OObj.set]at x0;split at x0
   .rename_i he;generalize zfE (.slice s) root=e at x0;cases e with
    |none=>cases x0
    |some e=>
     obtain⟨e⟩:=e;subst e;simp only[zqM,Path.setO_eq]at x0;cases x0;refine⟨xs,?_,hp,rfl,?_,?_⟩
     .rw[he];exact h1
     .intro xd t' xe h;cases h;exact⟨_,rfl,zx6 p s rfl xs y he⟩
     .intro w' O' x5 h;rw[he]at h;exact h
   .cases x0
  |hbox ty vs=>cases x0
  |mp m I=>cases x0
 obtain⟨x,hx,xa,hb,x7,x3⟩:=x1;obtain⟨_,xc⟩:=Path.rep p x cs hx xa;have x9:p.off+0+u.cells.toList.length<=cur.size:=by rw[x2];omega
 have x4:=run_storeCells_at P g p.off ty u.cells.toList 0 cur w h2 x9 (RepC.oneCell _ _ _ hc);simp only[Nat.add_zero]at x4;refine⟨w.setRow g (over cur.toList p.off u.cells.toList).toArray,?_,zeC w g _,λhk=>?_,hb⟩
 .unfold Instr.storeAt qA storeVar;simp only[zK,zF,zG,ht.sizeOf];rw[if_neg (by simp only[ne_eq,Decidable.not_not];rw[<-x2];simp)];exact x4
 .have x6:=x3 _ _ _ (zlP hk _ _ _ _ (Path.set_rep p x y cs u.cells.toList hx xa hc));have xg:(over cs p.off u.cells.toList).length=cs.length:=ziy (by rw[x2];exact xc);refine h5 _ _ o' _ _ hb x7 x6 xg ?_ ?_ (setRow_heap w g cur _ ty _ h2)
  .rw[vJ,ziy (by rw[x2,uV];omega),uV]
  .have e1:over (cur.toList.take cs.length) p.off u.cells.toList=(over cur.toList p.off u.cells.toList).take cs.length:=by
    simp only[over];rw[pF,pF,vk,kx];simp only[yU,uV,zg,x2];rw[qe (show p.off<=cs.length by omega),qe (show p.off<=cur.size by omega),vk,j9 (show p.off<=cs.length by omega),jc (show u.cells.toList.length<=cs.length-p.off by omega)]
   rw[h4]at e1;rw[e1]
end
section
variable {P:zw}{K:Kn}{w0:zh}{X:Ownr}{n:Nat}{Y:AS}{U:Nat->zd}{a:Act}{w:zh}{N:Act->zh->Prop}{R:Exit->Act->zh->Prop}
theorem za5{o:Oper}{u:zd}{w':zh}(h:(execOp a.eval o).run P w=.ok (.value u) w')(hN:N (a.put o.dst u) w'):o.wp P a w N R:=by
 unfold Oper.wp;rw[h];exact hN
theorem zbz{s:Sem zd}{u:zd}{w':zh}(h:s.run P w=.ok u w'):(do pure (.value (<-s)):Sem Next).run P w=.ok (.value u) w':=by simp[h]
theorem OwnRep.base{w:zh}{O:Nat->Prop}{B B':Nat}{bv:zd}{o:OObj}(h:OwnRep w O U B bv o)(hB:B'<=B):OwnRep w O U B' bv o:=by
 cases o with
 |box t x=>
  obtain⟨g,cs,ty,e,h1,h2⟩:=h;exact⟨g,cs,ty,e,zJ hB h1,h2⟩
 |buf te t xs=>
  obtain⟨cs,h1,h2,h3⟩:=h;refine⟨cs,h1,⟨h2.1,?_⟩,h3⟩;rcases h2.2 with h4|⟨g,cap,cur,e,h5,h6⟩
  .exact .inl h4
  .exact .inr ⟨g,cap,cur,e,zJ hB h5,h6⟩
 |hbox ty vs=>
  obtain⟨g,cs,e,h1,h2⟩:=h;exact⟨g,cs,e,zJ hB h1,h2⟩
 |mp m I=>
  obtain⟨ms,ck,e,h1,h2⟩:=h;exact⟨ms,ck,e,zJ hB h1,h2⟩
theorem OObj.set_under{r t:Ty}{o o':OObj}{p:Path r t}{y:t.T}{vc:List Prop}{k:Nat}(h:o.set p y=some (vc,o')):o'.under k:=by
 cases o with
 |box s x=>
  simp only[OObj.set]at h;split at h
  .split at h
   .split at h
    .cases h;intro _ e;cases e
    .cases h
   .cases h
  .cases h
 |buf te s xs=>
  simp only[OObj.set]at h;split at h
  .generalize zfE (.slice s) r=e at h;cases e with
   |none=>cases h
   |some e=>
    obtain⟨e⟩:=e;subst e;simp only[zqM]at h;split at h
    .cases h;intro _ e;cases e
    .cases h
  .cases h
 |hbox ty vs=>cases h
 |mp m I=>cases h
theorem Sim.var(h:Sim w0 X n Y U a w)(hX:X.Ok w0){Z:Ty}{x:Z.T}{cs:List zd}(hr:RepC w (OSet X Y.E U) Z x cs){ty:zo}{d:Nat}(hd:d<n):
  ∃U',Sim w0 X n ⟨(d,⟨.optr Z,⟨Y.nx,Z,.here⟩⟩)::Y.F,(Y.nx,some (.box Z x))::Y.E,Y.nx+1⟩ U' (a.put (some d) (.pointer (some ⟨w.heap.size,0,none⟩))) (w.alloc (.cells cs.toArray ty)):=by
 refine h.make hX (zbg w _) (bv:=.pointer (some ⟨w.heap.size,0,none⟩)) (o:=.box Z x) (v:=⟨.optr Z,⟨Y.nx,Z,.here⟩⟩) ?_ ?_ ?_ ?_ hd
 .intro O U' hO;refine⟨w.heap.size,cs,ty,rfl,zk _,heap_alloc_new w _,RepC.keep (.of_below (zbg w _) λg hg x0=>?_) _ _ _ hr⟩;rcases hO g x0 with h1|h1
  .exact h1
  .have:w.heap.size=g:=by simpa [zag] using h1
   omega
 .intro g hg;cases hg;exact zj _
 .intro O U' x1;exact⟨w.heap.size,by show zag (U' Y.nx)=_;rw[x1];rfl,rfl⟩
 .exact zj _
theorem Sim.buf(h:Sim w0 X n Y U a w)(hX:X.Ok w0){w':zh}(hk:xG w.heap.size w w'){Z:Ty}{te:zo}{xs:List Z.T}{u:zd}
  (hr:OwnRep w' (λg=>OSet X Y.E U g\/zag u=some g) U w.heap.size u (.buf te Z xs)) {d:Nat} (hd:d<n):
  ∃U',Sim w0 X n ⟨(d,⟨.obuf Z,Y.nx⟩)::Y.F,(Y.nx,some (.buf te Z xs))::Y.E,Y.nx+1⟩ U' (a.put (some d) u) w':=by
 refine h.make hX hk (bv:=u) (o:=.buf te Z xs) (v:=⟨.obuf Z,Y.nx⟩) ?_ ?_ ?_ ?_ hd
 .intro O U' hO;have h1:=hr.keep (O':=O) ⟨zj _,λ_ _ _=>rfl,λg _ hg=>hO g hg⟩ λ_ _=>rfl;exact h1.base (zk _)
 .exact λg hg=>(hr.block_lt hg).1
 .intro O U' x0;exact x0.symm
 .exact zj _
theorem zjY{w:zh}{O:Nat->Prop}(hO:∀g,O g->g<w.heap.size){Z:Ty}(hz:0<Z.size){xs:List Z.T}{ds:List zd}{te:zo}(h:RepL (RepC w O Z) xs ds){len cap:Nat}(hl:xs.length=len)(hc:len<=cap)(hm:cap<=maxLen){cur:Array zd}(x0:cur.size=cap*Z.size)(ht:cur.toList.take ds.length=ds):
  OwnRep (w.alloc (.cells cur te)) (λg=>O g\/zag (.slice (some ⟨w.heap.size,0,none⟩) len cap)=some g) U w.heap.size (.slice (some ⟨w.heap.size,0,none⟩) len cap) (.buf te Z xs):=by
 have hd:=h.len (λx c=>RepC.len Z x c);refine⟨ds,h.mono λx _ c=>RepC.keep (.of_below (zbg w _) λg hg x1=>?_) _ _ _,⟨hd,.inr ⟨w.heap.size,cap,cur,by rw[hl],zj _,heap_alloc_new w _,by rw[hl];exact hc,hm,x0,by rw[<-hd];exact ht⟩⟩,hz⟩;rcases x1 with h1|h1
 .exact h1
 .have:w.heap.size=g:=by simpa [zag] using h1
  omega
theorem zsR{Z:Ty}{v:V}{ys:List Z.T}(h:coe (.slice Z) v=some ys):v=⟨.slice Z,ys⟩\/(v=⟨.lit,.slice none 0 0⟩/\ys=[]):=by
 rcases zfA h with h1|⟨h1,Z',h2⟩
 .exact .inl h1
 .cases h2;exact .inr ⟨h1,rfl⟩
theorem zgq{A:List Prop}{o:Option (List Prop×AS)}{r:List Prop×AS}(h:preS A o=some r):∃q,o=some q/\(A++q.1,q.2)=r:=by
 induction A generalizing r with
 |nil=>exact⟨r,h,rfl⟩
 |cons a A ih=>
  simp only[preS]at h;split at h<;>first|(cases h;done)|skip
  rename_i p v hp;cases h;obtain⟨q,h1,h2⟩:=ih hp;cases h2;exact⟨q,h1,rfl⟩
theorem zsL(hK:KnOk P X.G K)(hX:X.Ok w0)(h:Sim w0 X n Y U a w){o:Oper}{r:List Prop×AS}(hs:zsM K n o.dst o.op Y=some r)(hp:allP r.1)
  (hN:∀U' a' w',Sim w0 X n r.2 U' a' w'->N a' w'):o.wp P a w N R:=by
 have hO:=h.hO hX;generalize x1:o.dst=dst at hs;generalize x8:o.op=op at hs;obtain⟨F,E,nx⟩:=Y;simp only[zsM]at hs;split at hs
 .
  split at hs
  .rename_i t p x;split at hs
   .rename_i Z i rt q hq;split at hs
    .rename_i ob xc;split at hs
     .rename_i xg;split at hs
      .rename_i y hy;split at hs<;>first|(cases hs;done)|skip
       rename_i vc o' h1;cases hs;simp only[zat]at hp;have xw:=zbj (h.ops p) hp.1.1;rw[hq]at xw;obtain⟨g,h2,h3⟩:=xw;have hl:=hK.t.is xg;have hx:=zhe hl.data hy (zbj (h.ops x) hp.1.2);obtain⟨w',h4,h5,h6,h7⟩:=zmY (h.own _ _ xc) h2 (.inr ⟨_,_,xc,h2⟩) hl h1 hp.2 hx;unfold Oper.wp;have e:(execOp a.eval o).run P w=.ok .skip w':=by
        unfold execOp;simp only[x8];rw[h3];simp[h4]
       rw[e];show N (a.put o.dst undef) w';rw[x1];exact hN U a w' (h.write xc (by rw[h2];exact h5) h6 h7 (OObj.set_under ‹_›))
      .cases hs
     .cases hs
    .cases hs
   .cases hs
  .cases hs
 .rename_i d;split at hs
  .rename_i y8;have hd:d<n:=by simpa using y8
   split at hs
   .
    rename_i t;split at hs
    .rename_i Z ht;cases hs;have hl:=hK.t.lay _ _ ht;obtain⟨i,z,hi,_,hz,xm,_⟩:=hl.info;obtain⟨U',x3⟩:=h.var hX (zgn w (OSet X E U) Z hl.data) (ty:=t) hd;refine za5 (u:=.pointer (some ⟨w.heap.size,0,none⟩)) (w':=w.alloc (.cells (zbw Z).toArray t)) ?_ (by rw[x1];exact hN U' _ _ x3);unfold execOp;simp[x8,Instr.alloc,zeroValue,typeInfo,hi,hz,newVar,newRow,xm]
    .cases hs
   .
    rename_i t x;split at hs
    .rename_i Z ht;split at hs<;>first|(cases hs;done)|skip
     rename_i y h1;cases hs;have hl:=hK.t.lay _ _ ht;have hx:=zhe hl.data h1 (zbj (h.ops x) hp);obtain⟨U',x3⟩:=h.var hX hx.cells (ty:=t) hd;refine za5 (u:=.pointer (some ⟨w.heap.size,0,none⟩)) (w':=w.alloc (.cells (a.eval x).cells t)) ?_ (by rw[x1];exact hN U' _ _ (by simpa using x3));unfold execOp;simp[x8,Instr.box,newVar,newRow]
    .cases hs
   .
    rename_i t len xa;split at hs
    .rename_i te p e xs xd hq;cases hs;have y2:zhO w (OSet X E U) U (xa.toList.map λp=>(p.1,evO F p.2)) (xa.map λp=>(p.1,a.eval p.2)).toList:=by
      rw[kB];exact zis λp ye=>h.ops p.2
     obtain⟨ds,xf,hu,hl,hz,h1,h2,h3⟩:=zfk hK.t hq hp y2;have:te=xf:=by have:=hK.u _ _ xd;rw[hu]at this;cases this;rfl
     subst this;have y7:=h1.len (λx c=>RepC.len _ x c);have hlen:len<=maxLen:=by
      unfold zcz at hq;split at hq
      .split at hq
       .rename_i e _ hb;simp only[zf,jF]at hb;have xr:0<e.size:=by simpa using hb.2
        have:=gk len xr;simp only[maxLen];omega
       .cases hq
      .cases hq
     have x5:=zjY (U:=U) (te:=te) hO hz h1 h2 (zj _) hlen (cur:=ds.toArray) (by rw[vJ,y7,h2]) (by simp);obtain⟨U',x3⟩:=h.buf hX (zbg w _) x5 hd;refine za5 (u:=.slice (some ⟨w.heap.size,0,none⟩) len len) (w':=w.alloc (.cells ds.toArray te)) ?_ (by rw[x1];exact hN U' _ _ x3);unfold execOp;simp only[x8];exact zbz h3
    .cases hs
   .
    rename_i t l c;split at hs
    .rename_i te Z x0 y0 xd xg hl hc;obtain⟨x,rfl⟩:∃x:Int,x=x0:=⟨x0,rfl⟩;obtain⟨y,rfl⟩:∃y:Int,y=y0:=⟨y0,rfl⟩;split at hs
     .rename_i hb;cases hs;simp only[zat]at hp;obtain⟨⟨yc,y3⟩,h0,xn,hy⟩:=hp;have hy:y<=1000000000:=hy;have h0:0<=x:=h0;have xn:x<=y:=xn;simp only[zf,jF]at hb;have hz:0<Z.size:=by simpa using hb.2
      have hL:=zbj (h.ops l) yc;have hC:=zbj (h.ops c) y3;rw[hl]at hL;rw[hc]at hC;have hL:=RepV.int hL;have hC:=RepV.int hC;obtain⟨xf,hu,_,x2⟩:=hK.t.lay _ _ xg;have:te=xf:=by have:=hK.u _ _ xd;rw[hu]at this;cases this;rfl
      subst this;obtain⟨i,z,hi,yb,y5,xm,yg⟩:=x2.info;have ya:z.cells.size=Z.size:=by rw[xm];simp[zdp Z x2.data]
      have xb:(i.bytes:Int)*y<=281474976710656:=by
       have xt:i.bytes<=100000:=o_;have xy:i.bytes*(y:Int).toNat<=100000*1000000000:=wt xt o_;have xx:((i.bytes*(y:Int).toNat:Nat):Int)=(i.bytes:Int)*y:=by
        rw[Int.natCast_mul,Int.toNat_of_nonneg o_]
       omega
      have xj:=run_make (P:=P) w t te i z hu hi y5 .i64 .i64 x y h0 xn xb o_;have hcells:madeCells z.cells ((y:Int).toNat*i.size)=(zr (y:Int).toNat (zbw Z)).flatten.toArray:=by
       have:=zfW z.cells o_ (y:Int).toNat;unfold madeCells;rw[yb, <-ya,this,xm]
      rw[hcells]at xj;have xu:=zgY (w:=w) (O:=OSet X E U) x2.data (x:Int).toNat;have yd:=xu.len (λx c=>RepC.len _ x c);have x5:=zjY (U:=U) (te:=te) hO hz xu (len:=(x:Int).toNat) (cap:=(y:Int).toNat) (by simp) o_ (by simp only[maxLen];omega) (cur:=(zr (y:Int).toNat (zbw Z)).flatten.toArray)
       (by simp[zdp Z x2.data]) (by
         have e1:(y:Int).toNat=(x:Int).toNat+((y:Int).toNat-(x:Int).toNat):=o_;rw[e1, <-List.replicate_append_replicate,uU];simp only[List.toList_toArray];rw[ju])
      obtain⟨U',x3⟩:=h.buf hX (zbg w _) x5 hd;refine za5 (u:=.slice (some ⟨w.heap.size,0,none⟩) (x:Int).toNat (y:Int).toNat) ?_ (by rw[x1];exact hN U' _ _ x3);unfold execOp;simp only[x8,hL,hC];exact zbz xj
     .cases hs
    .cases hs
   .
    rename_i args ts;split at hs
    .rename_i s x t u ha ht;split at hs
     .rename_i y4;have:t=u:=qt y4;subst this;have ea:args= #[s,x]:=by rw[<-jn,ha]
      have et:ts= #[t,t]:=by rw[<-jn,ht]
      subst ea;subst et;obtain⟨q,h1,rfl⟩:=zgq hs;simp only[zat]at hp;have hS:=zbj (h.ops s) hp.1.1;have xz:=zbj (h.ops x) hp.1.2;have xe:∀v' w',(jT #[t,t] o.type #[a.eval s,a.eval x]).run P w=.ok v' w'->(execOp a.eval o).run P w=.ok (.value v') w':=by
       intro v' w' hr;unfold execOp;simp[x8,resolve,invoke,builtin,hr]
      have xv:∀{Z:Ty}{ys:List Z.T}{y:V},coe (.slice Z) (dat E y)=some ys->RepV w (OSet X E U) U y.t y.x (a.eval x)->RepS w (λ_=>False) (RepC w (OSet X E U) Z) ys (a.eval x):=by
       intro Z ys y hy hr;rcases zsR hy with hd0|⟨hd0,rfl⟩
       .exact zwG h.own hd0 hr
       .have:y=⟨.lit,.slice none 0 0⟩:=by
         obtain⟨yt,yx⟩:=y;cases yt<;>simp only[dat]at hd0<;>first|exact hd0|(cases hd0;done)|(split at hd0<;>cases hd0)
        rw[this]at hr;have e:=hr;exact .inl ⟨rfl,none,0,e,by simp⟩
      unfold appV at h1;split at h1
      .rename_i te xd;split at h1
       .rename_i yf i y1;split at h1
        .rename_i xf Z xs xc;split at h1
         .rename_i hb;split at h1<;>first|(cases h1;done)|skip
          rename_i ys h2;cases h1;simp only[zf,jF]at hb;obtain⟨⟨xt,xy⟩,xx⟩:=hb;have:te=xf:=qt xy;subst this;rw[y1]at hS;have eS:a.eval s=U i:=hS;obtain⟨xq,hu,_,x2⟩:=hK.t.is xt;have:te=xq:=by have:=hK.u _ _ xd;rw[hu]at this;cases this;rfl
          subst this;obtain⟨v',w',k1,k2,k3,k4⟩:=zkc (P:=P) hu x2 xx o.type (zk _) (h.own i _ xc) (λg hg=>.inr ⟨i,_,xc,hg⟩) (xv h2 xz) hp.2;obtain⟨U',x3⟩:=h.redo xc rfl k2 (bv:=v') k3 (t:=Z) (o':=.buf te Z _) (λO _ hO=>k4 O hO) hd;refine za5 (xe v' w' (by rw[eS];exact k1)) (by rw[x1];exact hN U' _ _ x3)
         .cases h1
        .cases h1
       .split at h1
        .rename_i x4;split at h1
         .rename_i Z xg;split at h1
          .rename_i hb;split at h1<;>first|(cases h1;done)|skip
           rename_i ys h2;cases h1;simp only[zf,jF]at hb;have hz:0<Z.size:=by simpa using hb.2
           have eS:a.eval s=.slice none 0 0:=by
            revert hS x4;generalize (zaM (evO F s)).2=sv;intro hS x4;unfold zzz at x4;split at x4
            .exact hS
            .cases x4
           obtain⟨xq,hu,_,x2⟩:=hK.t.lay _ _ xg;have:te=xq:=by have:=hK.u _ _ xd;rw[hu]at this;cases this;rfl
           subst this;have x7:OwnRep w (OSet X E U) U w.heap.size (.slice none 0 0) (.buf te Z []):=⟨[],rfl,wR w _ te Z.size,hz⟩;obtain⟨v',w',k1,k2,k3,k4⟩:=zkc (P:=P) hu x2 hb.1 o.type (zj _) x7 (λg hg=>by cases hg) (xv h2 xz) (by have hq:ys.length<=1000000000:=hp.2;simpa using hq);have hk:xG w.heap.size w w':=⟨k2.os,k2.tape,k2.output,k2.size,λg hg=>k2.block g hg (by simp[zag])⟩;have x5:=k4 (λg=>OSet X E U g\/zag v'=some g) λg hg y6=>by
            rcases y6 with h3|h3
            .exact h3
            .rcases k3 g h3 with h4|h4
             .cases h4
             .omega
           obtain⟨U',x3⟩:=h.buf hX hk x5 hd;refine za5 (xe v' w' (by rw[eS];exact k1)) (by rw[x1];exact hN U' _ _ x3)
          .cases h1
         .cases h1
        .cases h1
      .cases h1
     .cases hs
    .cases hs
   .
    rename_i x args ts;split at hs<;>first|(cases hs;done)|skip
    rename_i f cs xh;split at hs<;>first|(cases hs;done)|skip
    rename_i p c xs h1;have h2:=hs;have x9:∀x∈o.op.operands,RepV w (OSet X E U) U (evO F x).t (evO F x).x (a.eval x):=λx _=>h.ops x;split at h2
    .rename_i x6;split at h2
     .cases h2
     .rename_i hh;cases h2;refine zh3 hK.c (hX.2.2 w h.bel) hO h.own x8 xh h1 hp x9 λv w' hb hr=>?_;rw[x1];simp only[x6]at hr;have xk:RepV w' (λg=>c.fl=false/\OSet X E U g) U c.res (c.out xs) v:=zcY _ _ _ hr;have xp:RepV w' (OSet X E U) U c.res (c.out xs) v:=by
       cases hfl:c.fl with
       |true=>exact zeV hfl xk
       |false=>
        rw[hfl]at xk;exact RepV.keep ⟨zj _,λ_ _ _=>rfl,λg _ h=>⟨rfl,h⟩⟩ _ _ _ xk
      refine hN U _ _ (h.puts hb xp ?_ hd);show bnd _ _<=_;rw[zln _ _ (by simpa using hh)];exact zk _
    .rename_i te x6;split at h2
     .rename_i Z ys xi xo;cases h2;have y9:c.fl=false:=by unfold Ctr.fl;rw[xi];rfl
      refine zh3 hK.c (hX.2.2 w h.bel) hO h.own x8 xh h1 hp x9 λv w' hb hr=>?_;rw[x1];simp only[x6]at hr;have xk:OwnRep w' (λg=>(c.fl=false/\OSet X E U g)\/zag v=some g) U w.heap.size v (.buf te Z ys):=by
       revert hr;generalize c.out xs=x at xo ⊢;revert x;rw[xi];intro x hx hr;cases hx;exact hr
      have xp:OwnRep w' (λg=>OSet X E U g\/zag v=some g) U w.heap.size v (.buf te Z ys):=xk.keep ⟨zj _,λ_ _ _=>rfl,λg _ h=>h.imp (λh=>⟨y9,h⟩) id⟩ λ_ _=>rfl;obtain⟨U',x3⟩:=h.buf hX hb xp hd;exact hN U' _ _ x3
     .cases h2
   .
    split at hs<;>first|(cases hs;done)|skip
    rename_i p t x h1;have h2:=hs;split at h2
    .rename_i hh;cases h2;have x9:∀x∈o.op.operands,RepV w (OSet X E U) U (evO F x).t (evO F x).x (a.eval x):=λx _=>h.ops x;obtain⟨u,w',k1,k2,k3⟩:=zg1 (P:=P) (o:=o) hK.t hO h.own (by rw[x8];exact h1) hp x9;refine za5 k1 ?_;rw[x1];exact hN U _ _ (h.puts k2 k3 (zl0 h1 hh h.hb (λi o ho=>⟨h.lt i o ho,h.hE i o ho⟩) λt Z ht=>(hK.t.lay t Z ht).data) hd)
    .cases h2
  .cases hs
end
structure KeepsM(w w':zh):Prop where
 size:w.heap.size<=w'.heap.size
 block:∀(g:Nat)cs ty fz,w.heap[g]? =some (.cells cs ty fz)->∃fz',w'.heap[g]? =some (.cells cs ty fz')
 maps:∀(g:Nat)ms ck,w.heap[g]? =some (.map ms ck)->w'.heap[g]? =some (.map ms ck)
section
variable {w w':zh}{O:Nat->Prop}{U:Nat->zd}
theorem CellsAt.keepM{g off:Nat}{vs:List zd}(h:CellsAt w g off vs)(hk:KeepsM w w'):CellsAt w' g off vs:=λj u hu=>by
 have h1:=h j u hu;unfold qi at h1 ⊢;simp only at h1 ⊢;cases ho:w.heap[g]? with
 |none=>simp[ho]at h1
 |some o=>
  cases o<;>first|(simp[ho]at h1;done)|skip
  rename_i cs ty fz;obtain⟨x0,h2⟩:=hk.block g cs ty fz ho;rw[h2];rw[ho]at h1;exact h1
theorem RepS.keepM{α:Type}{R R':α->List zd->Prop}{xs:List α}{v:zd}(h:RepS w O R xs v)(hk:KeepsM w w')(hr:∀x c,R x c->R' x c):RepS w' O R' xs v:=by
 rcases h with h|⟨g,off,c,vs,h1,h2,h3,h4,h5,h6,h7,h8⟩
 .exact .inl h
 .exact .inr ⟨g,off,c,vs,h1,h2,h3,h4,zy h5 hk.size,h6,h7.mono λx _ c=>hr x c,h8.keepM hk⟩
theorem RepC.keepM(hk:KeepsM w w'):∀(t:Ty)(x:t.T)(cs:List zd),RepC w O t x cs->RepC w' O t x cs:=by
 intro t
 induction t with
 |pair a b x0 x1=>rintro x cs ⟨c1,c2,h,h1,h2⟩;exact⟨c1,c2,h,x0 _ _ h1,x1 _ _ h2⟩
 |arr n t ih=>rintro x cs ⟨h1,h2⟩;exact⟨h1,h2.mono λx _ c=>ih x c⟩
 |slice t ih=>rintro x cs ⟨v,h,h2⟩;exact⟨v,h,h2.keepM hk ih⟩
 |_=>intro x cs h;exact h
theorem RepD.keepM(hk:KeepsM w w'){t:Ty}{x:t.T}{v:zd}(h:RepD w O t x v):RepD w' O t x v:=by
 unfold RepD at *;split at h
 .rename_i ht;obtain⟨cs,h1,h2⟩:=h;rw[if_pos ht];exact⟨cs,h1,RepC.keepM hk _ _ _ h2⟩
 .rename_i ht;rw[if_neg ht];exact RepC.keepM hk _ _ _ h
theorem RepTup.keepM(hk:KeepsM w w'):∀(t:Ty)(x:t.T)(vs:List zd),RepTup w O t x vs->RepTup w' O t x vs:=by
 intro t
 induction t with
 |tup a b iha x0=>rintro x vs ⟨v,r,h,h1,h2⟩;exact⟨v,r,h,h1.keepM hk,x0 _ _ h2⟩
 |unit=>intro x vs h;exact h
 |_=>intro x vs h;exact absurd h (by simp[RepTup])
theorem RepP.keepM(hk:KeepsM w w'){t:Ty}{x:t.T}{v:zd}(h:RepP w O t x v):RepP w' O t x v:=by
 cases t<;>first|exact h.elim|skip
 obtain⟨g,off,cs,h1,h2,h3,h4,h5⟩:=h;exact⟨g,off,cs,h1,zy h2 hk.size,h3,RepC.keepM hk _ _ _ h4,h5.keepM hk⟩
theorem RepCap.keepM(hk:KeepsM w w'):∀(t:Ty)(x:t.T)(vs:List zd),RepCap w O t x vs->RepCap w' O t x vs:=by
 intro t
 induction t with
 |tup a b iha x0=>rintro x vs ⟨v,r,h,h1,h2⟩;exact⟨v,r,h,h1.keepM hk,x0 _ _ h2⟩
 |unit=>intro x vs h;exact h
 |_=>intro x vs h;exact absurd h (by simp[RepCap])
theorem RepV.keepM(hk:KeepsM w w'):∀(t:Ty)(x:t.T)(v:zd),RepV w O U t x v->RepV w' O U t x v:=by
 intro t
 induction t with
 |junk=>intro x v h;exact h
 |lit=>intro x v h;exact h
 |vptr t _=>
  rintro x v ⟨g,off,cs,h1,h2,h3,h4,h5⟩;exact⟨g,off,cs,h1,zy h2 hk.size,h3,RepC.keepM hk _ _ _ h4,h5.keepM hk⟩
 |cptr g off t _=>
  rintro x v ⟨cs,h1,h2,h3,h4,h5⟩;exact⟨cs,h1,zy h2 hk.size,h3,RepC.keepM hk _ _ _ h4,h5.keepM hk⟩
 |optr t _=>intro x v h;exact h
 |obuf t _=>intro x v h;exact h
 |tup a b _ _=>rintro x v ⟨vs,h1,h2⟩;exact⟨vs,h1,RepTup.keepM hk _ _ _ h2⟩
 |cond t ih=>intro x v h;exact⟨λhc=>ih _ _ (h.1 hc),h.2⟩
 |clo f t _=>rintro x v ⟨vs,h1,h2⟩;exact⟨vs,h1,RepCap.keepM hk _ _ _ h2⟩
 |mapL=>rintro x v ⟨r,ms,ck,h1,h2,h3,h4,h5⟩;exact⟨r,ms,ck,h1,zy h2 hk.size,h3,hk.maps r ms ck h4,h5⟩
 |hptr=>intro x v h;exact h
 |hcons a b x0 x1=>rintro x v ⟨u,s,h1,h2,h3,h4⟩;exact⟨u,s,h1,h2,x0 _ _ h3,x1 _ _ h4⟩
 |_=>intro x v h;exact RepD.keepM hk h
theorem RepH.keepM(hk:KeepsM w w'):∀{vs:List V}{cs:List zd},RepH w O U vs cs->RepH w' O U vs cs
 | [],_,h=>h
 |v::r,_,⟨u,s,h1,h2,h3,h4⟩=>⟨u,s,h1,h2,RepV.keepM hk _ _ _ h3,RepH.keepM hk h4⟩
end
section
variable {P:zw}{K:Kn}{w0:zh}{X:Ownr}{n:Nat}{Y:AS}{U:Nat->zd}{a:Act}{w:zh}{R:Exit->Act->zh->Prop}{N:Act->zh->Prop}
theorem zum{s e g k c:Nat}{cs:Array zd}{te:zo}{fz:Nat×Nat}(hs:P.underlying s=some (.slice e))(he:P.underlying e=some (.int .u8))(hg:w.heap[g]? =some (.cells cs te fz)):
  ∃w2,(convert s s (.slice (some ⟨g,0,none⟩) k c)).run P w=.ok (.slice (some ⟨g,0,none⟩) k c) w2/\w.grownBy w2 (some g)/\KeepsM w w2:=by
 have x2:w.shape? g=some (te,cs.size):=by unfold gB;rw[hg]
 refine⟨w.freeze ⟨g,cs.size,none⟩ 1,by simp[convert,run_underlying hs,run_underlying he,markStringish,x2],?_,?_⟩
 .unfold vG;rw[if_neg d_];refine⟨rfl,rfl,rfl,by simp,λj _ hj=>?_⟩;show(w.heap.modify g _)[j]? =_;rw[jB,if_neg (λe=>hj (by rw[e]))]
 .unfold vG;rw[if_neg d_];refine⟨by simp,λj x3 ty' x1 hj=>?_,?_⟩;rw[jB];by_cases x0:g=j
  .subst x0;rw[if_pos rfl,hj];exact⟨_,rfl⟩
  .rw[if_neg x0];exact⟨x1,hj⟩
  .intro j ms ck hj;rw[jB,if_neg (λe=>by subst e;rw[hg]at hj;cases hj)];exact hj
theorem Sim.mark{w2:zh}(h:Sim w0 X n Y U a w){g:Nat}(hk:KeepsM w w2)(hm:w.grownBy w2 (some g))(x0:w0.heap.size<=g\/X.R g)(x2:∀i o,Owns.get Y.E i=some o->zag (U i)≠some g):Sim w0 X n Y U a w2:=
 ⟨h.sz,h.df,h.bel.grown hm (λg' e=>by cases e;exact x0),λs=>RepV.keepM hk _ _ _ (h.fr s),λi o hi=>by
   have hb:∀g',zag (U i)=some g'->w2.heap[g']? =w.heap[g']? :=λg' x1=>hm.block g' ((h.own i o hi).block_lt x1).2 λe=>x2 i o hi (by rw[x1,e]);have h1:=h.own i o hi;cases o with
   |box t x=>
    obtain⟨g',cs,ty,e,h2,h3,h4⟩:=h1;exact⟨g',cs,ty,e,h2,(hb g' (by rw[e];rfl)).trans h3,RepC.keepM hk _ _ _ h4⟩
   |buf te t xs=>
    obtain⟨cs,h2,h3,h4⟩:=h1;refine⟨cs,h2.mono λx _ c=>RepC.keepM hk _ _ _,⟨h3.1,?_⟩,h4⟩;rcases h3.2 with h5|⟨g',cap,cur,e,h5,h6,h7⟩
    .exact .inl h5
    .exact .inr ⟨g',cap,cur,e,h5,(hb g' (by rw[e];rfl)).trans h6,h7⟩
   |hbox ty vs=>
    obtain⟨g',cs,e,h2,h3,h4⟩:=h1;exact⟨g',cs,e,h2,(hb g' (by rw[e];rfl)).trans h3,h4.keepM hk⟩
   |mp m I=>
    obtain⟨ms,ck,e,h2,h3,h4⟩:=h1;exact⟨ms,ck,e,h2,(hb m (by rw[e];rfl)).trans h3,h4⟩,h.new,h.inj,h.lt,h.fix,h.hb,h.hE⟩
theorem zun(hK:KnOk P X.G K)(hX:X.Ok w0)(h:Sim w0 X n Y U a w){o:Oper}{r:List Prop×AS}(hs:zxg K n o Y=some r)(hp:allP r.1)
  (hN:∀U' a' w',Sim w0 X n r.2 U' a' w'->N a' w'):o.wp P a w N R:=by
 obtain⟨F,E,nx⟩:=Y;simp only[zxg]at hs;split at hs<;>first|(cases hs;done)|skip
 rename_i s t x d x7 x4;split at hs<;>first|(cases hs;done)|skip
 rename_i xb i hx;split at hs<;>first|(cases hs;done)|skip
 rename_i te xs hi;split at hs<;>first|(cases hs;done)|skip
 rename_i hc;cases hs;simp only[zf]at hc;have e:=qt hc.1.1;subst e;have hd:d<n:=by simpa using hc.2
 rw[zat]at hp;have xc:0<zi xs:=hp.2;have hu:=zbj (h.ops x) hp.1;rw[hx]at hu;have hu:a.eval x=U i:=hu;have x3:=h.own i _ hi;obtain⟨cs,h1,h2,h3⟩:=x3;obtain⟨e,x9,_,he⟩:=hK.t.is hc.1.2;rcases h2.2 with ⟨_,h4⟩|⟨g,cap,cur,hb,h5,h6,h7⟩
 .exact absurd h4 o_
 .have x6:zag (U i)=some g:=by rw[hb];rfl
  obtain⟨w2,k1,k2,k3⟩:=zum (P:=P) (k:=xs.length) (c:=cap) x9 he.1 h6;have hf:=h.freeze hX hi;have xa:=hf.mark k3 k2 (h.new i _ g hi x6) λj oj hj hg=>by
   rw[show Owns.get ((i,none)::E) j=_ from zab ..]at hj;by_cases x1:i=j
   .rw[if_pos x1]at hj;cases hj
   .rw[if_neg x1]at hj;exact h.inj i j _ _ hi hj x1 g x6 hg
  have hv:RepV w2 (OSet X ((i,none)::E) U) U (.slice (.int .u8)) xs (U i):=by
   have x8:∀g,zag (U i)=some g->¬OSet X ((i,none)::E) U g:=λg hg x2=>by
    rcases x2 with x2|⟨j,oj,h1,h2⟩
    .have h3:=hX.1 g x2;rcases h.new i _ g hi hg with h4|h4
     .omega
     .exact h3.2 h4
    .rw[zab]at h1;by_cases hs:i=j
     .rw[if_pos hs]at h1;cases h1
     .rw[if_neg hs]at h1;exact h.inj i j _ _ hi h1 hs g hg h2
   have x0:RepD w (OSet X ((i,none)::E) U) (.slice (.int .u8)) xs (U i):=(h.own i _ hi).view (λg _ hg=>by
    rcases hg with hg|⟨j,oj,h1,h2⟩
    .exact .inl hg
    .rw[zab]at h1;by_cases hs:i=j
     .rw[if_pos hs]at h1;cases h1
     .rw[if_neg hs]at h1;exact .inr ⟨j,oj,h1,h2⟩) x8
   exact RepV.keepM k3 _ _ _ (zcI x0)
  have x5:=xa.put (zR _ _) (v:=⟨.slice (.int .u8),xs⟩) hv (zk _) hd;refine za5 (u:=U i) (w':=w2) ?_ ?_
  .unfold execOp;rw[x7];rw[<-hb]at k1;rw[<-hu]at k1 ⊢;exact zbz k1
  .rw[x4];exact hN U _ _ x5
theorem zx9(hK:KnOk P X.G K)(h:Sim w0 X n Y U a w){o:Oper}{r:List Prop×AS}(hs:cutS K n o Y=some r)(hp:allP r.1)
  (hN:∀U' a' w',Sim w0 X n r.2 U' a' w'->N a' w'):o.wp P a w N R:=by
 obtain⟨F,E,nx⟩:=Y;simp only[cutS]at hs;split at hs<;>first|(cases hs;done)|skip
 split at hs<;>first|(cases hs;done)|skip
 rename_i s x hi d xe x1;split at hs<;>first|(cases hs;done)|skip
 rename_i xg i j hx hj;split at hs<;>first|(cases hs;done)|skip
 rename_i te Z xs hE;split at hs<;>first|(cases hs;done)|skip
 rename_i hc;cases hs;simp only[zf]at hc;have hd:d<n:=by simpa using hc.2
 rw[zat]at hp;obtain⟨xf,xa,x4⟩:=hp;have x4:j<=((zi xs:Nat):Int):=x4;have hu:=zbj (h.ops x) xf;rw[hx]at hu;have hu:a.eval x=U i:=hu;obtain⟨k,hk⟩:=zcK hj (h.ops hi);obtain⟨cs,h1,h2,h3⟩:=h.own i _ hE;obtain⟨xh,xd,_,x8⟩:=hK.t.is hc.1;have x2:∀A c,xs.length<=c->(j8 s (.slice A xs.length c) none (some (.int k j)) none).run P w=.ok (.slice (if c=0 then A else A.map (·.add (0*Z.size))) j.toNat c) w:=by
  intro A c hc;have hb:=zck (P:=P) (w:=w) (k:=k) (i:=j) (y:=c) (c:=.sliceAcap) xa o_;unfold j8 pO;simp only[zK,run_underlying xd,zG,x8.sizeOf,zF,vH,jk,xL,if_false,if_true,hb,Nat.sub_zero]
 have hlen:∀(y:List zd),RepL (RepC w (OSet X E U) Z) xs y->RepL (RepC w (OSet X E U) Z) (ki j.toNat xs) (y.take (j.toNat*Z.size)):=λy hy=>hy.take (λx c=>RepC.len Z x c) j.toNat;have x0:∀v,(j8 s (U i) none (some (.int k j)) none).run P w=.ok v w->(execOp a.eval o).run P w=.ok (.value v) w:=by
  intro v hv;unfold execOp;rw[xe];simp only[hu,hk,pW,Option.map_none];exact zbz hv
 rcases h2.2 with ⟨h4,h5⟩|⟨g,cap,cur,hb,h5,h6,h7,h8,h9,h10⟩
 .have xb:xs=[]:=xW h5;subst xb;have xc:j=0:=by have:j<=((0:Nat):Int):=x4;omega
  subst xc;obtain⟨U',x6⟩:=h.redo hE rfl (w':=w) ⟨rfl,rfl,rfl,zj _,λ_ _ _=>rfl⟩ (bv:=.slice none 0 0) (o':=.buf te Z []) (λg hg=>by cases hg) (t:=Z) (λO _ hO=>⟨[],rfl,wR w _ te Z.size,h3⟩) hd;refine za5 (u:=.slice none 0 0) (x0 _ (by rw[h4];exact x2 none 0 (zj _))) ?_;rw[x1];exact hN U' _ _ x6
 .have x7:xs.length<=cap:=h7;have hm:(ki j.toNat xs).length=j.toNat:=by rw[yU];omega
  have x3:j.toNat*Z.size<=xs.length*Z.size:=jm _ o_;have x5:w.ownsRow 0 te Z.size (.slice (some ⟨g,0,none⟩) j.toNat cap) (ki j.toNat xs).length (cs.take (j.toNat*Z.size)):=by
   refine⟨?_,.inr ⟨g,cap,cur,by rw[hm],zk _,h6,by omega,h8,h9,?_⟩⟩
   .rw[hm,yU,h2.1];omega
   .rw[hm, <-h10,vk,qe x3]
  obtain⟨U',x6⟩:=h.redo hE rfl (w':=w) ⟨rfl,rfl,rfl,zj _,λ_ _ _=>rfl⟩ (bv:=.slice (some ⟨g,0,none⟩) j.toNat cap) (o':=.buf te Z (ki j.toNat xs)) (λg' hg=>.inl (by rw[hb];exact hg)) (t:=Z)
   (λO _ hO=>⟨cs.take (j.toNat*Z.size),(hlen cs h1).mono λx _ c hc=>RepC.keep ⟨zj _,λ_ _ _=>rfl,λg hg x9=>hO g hg x9⟩ _ _ _ hc,x5,h3⟩) hd
  refine za5 (u:=.slice (some ⟨g,0,none⟩) j.toNat cap) (x0 _ ?_) ?_
  .rw[hb,x2 _ _ x7]
   congr 2
   split
   .rfl
   .simp[Addr.add]
  .rw[x1];exact hN U' _ _ x6
end
end Go.Proofs.YthbecdbmifchiaaGreatDoor
